/- The law LoadPeaks holds of the given program, for every input; no further condition. -/
import Derived.Test.YtjojikhfmlceoaaLoadPure
import Derived.ProofKit
set_option linter.unusedVariables false
namespace Go.Proofs.Ytjojikhfmlceoaa.Sk.LoadPeaks
open Go Go.ChangeShapes Go.WideShapes Go.ChangeAt Go.RowKit
theorem own : ownKnob Try.prog.godebug = none := by kernel_rfl
theorem laidOut : laidOutB Try.prog = true := by kernel_rfl
set_option maxRecDepth 100000 in
theorem lifted (os : Os) (started : os.Started) (H : Type) (enc : TypeId × Value → H) :
    ReturnsInHanded {} Try.checked os 8 .any (Rows.loadPeaksSpec.pre6 enc Try.prog Try.f8 Rows.loadPeaksRow.domain false) (Rows.loadPeaksSpec.post enc Try.prog Try.f8 false true false false) :=
  row_lifted (C := Try.checked) own started (by kernel_rfl) Try.func8
    (ChangeSpec.witness6 (enc := enc) (C := Try.checked) false ⟨#[], #[.slice none 0 0, .slice none 0 0, .agg #[.int .i64 0, .int .i64 0]], []⟩ 8 (by kernel_rfl) (by kernel_rfl) (by kernel_rfl) (by kernel_rfl))
    rfl (rt := 4) rfl (by kernel_rfl) (arg := [.cell (.sl 106 (.pair (.str) (.sl 113 (.pair (.sl 29 (.pair (.int .i64) (.int .i64))) (.pair (.int .i64) (.int .i64)))))), .cell (.sl 40 (.sl 44 (.pair (.pair (.int .i64) (.pair (.pair (.int .i64) (.int .i64)) (.int .i64))) (.pair (.int .i64) (.int .i64))))), .agg (.pair (.int .i64) (.int .i64))])
    (fun ds h => by match ds, h with | [d0, d1, d2], _ => rfl) (by kernel_rfl) laidOut (specs_tab (law_LoadPeaks.tab NN)) (inls_tab (law_LoadPeaks.tab NN)) mixed (d := 3) (fun W g t x h => by cases h) (fun xs h => LoadPeaks.pure xs.1 xs.2.1 xs.2.2 h.1 h.2.1 h.2.2)
theorem over : Rows.loadPeaksRow.holds Try.pinned (OpenSpec.ofChange Rows.loadPeaksSpec) :=
  OpenClaim.holds_of_wide 8 Try.f8 rfl rfl rfl rfl rfl rfl rfl ⟨rfl, rfl, rfl, rfl, rfl⟩ rfl rfl rfl rfl rfl (by kernel_rfl) Try.func8 (by kernel_rfl)
    (of_decide_eq_true (by kernel_rfl)) (by unfold Func.isWrapper; first | (rw [if_pos (by decide +kernel)]; kernel_rfl) | (rw [if_neg (by decide +kernel)]; exact ⟨rfl, rfl⟩))
    (fun os started H enc _ => lifted os started H enc)
theorem proved : Rows.LoadPeaksSaid := over
#print axioms proved
end Go.Proofs.Ytjojikhfmlceoaa.Sk.LoadPeaks
