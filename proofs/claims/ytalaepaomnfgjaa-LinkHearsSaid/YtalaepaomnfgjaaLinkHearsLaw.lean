/- The law LinkHears holds of the given program, for every input; no further condition. -/
import Derived.Test.YtalaepaomnfgjaaLinkPure
import Derived.ProofKit
set_option linter.unusedVariables false
namespace Go.Proofs.Ytalaepaomnfgjaa.Sk.LinkHears
open Go Go.ChangeShapes Go.WideShapes Go.ChangeAt Go.RowKit
theorem own : ownKnob Try.prog.godebug = none := by kernel_rfl
theorem laidOut : laidOutB Try.prog = true := by kernel_rfl
set_option maxRecDepth 100000 in
theorem lifted (os : Os) (started : os.Started) (H : Type) (enc : TypeId × Value → H) :
    ReturnsInHanded {} Try.checked os 12 .any (Rows.linkHearsSpec.pre6 enc Try.prog Try.f12 Rows.linkHearsRow.domain false) (Rows.linkHearsSpec.post enc Try.prog Try.f12 false true false false) :=
  row_lifted (C := Try.checked) own started (by kernel_rfl) Try.func12
    (ChangeSpec.witness6 (enc := enc) (C := Try.checked) false ⟨#[], #[.agg #[.int .i64 0, .slice none 0 0], .int .i64 0, .agg #[.int .i64 0, .string ByteArray.empty]], []⟩ 8 (by kernel_rfl) (by kernel_rfl) (by kernel_rfl) (by kernel_rfl))
    rfl (rt := 4) rfl (by kernel_rfl) (arg := [.agg (.pair (.int .i64) (.sl 9 (.str))), .cell (.int .i64), .agg (.pair (.int .i64) (.str))])
    (fun ds h => by match ds, h with | [d0, d1, d2], _ => rfl) (by kernel_rfl) laidOut (specs_tab (F12.tab NN)) (inls_tab (F12.tab NN)) mixed (d := 3) (fun xs h => LinkHears.pure xs.1 xs.2.1 xs.2.2 h.1 h.2.1 h.2.2)
theorem over : Rows.linkHearsRow.holds Try.pinned (OpenSpec.ofChange Rows.linkHearsSpec) :=
  OpenClaim.holds_of_wide 12 Try.f12 rfl rfl rfl rfl rfl rfl rfl ⟨rfl, rfl, rfl, rfl, rfl⟩ rfl rfl rfl rfl rfl (by kernel_rfl) Try.func12 (by kernel_rfl)
    (of_decide_eq_true (by kernel_rfl)) (by unfold Func.isWrapper; first | (rw [if_pos (by decide +kernel)]; kernel_rfl) | (rw [if_neg (by decide +kernel)]; exact ⟨rfl, rfl⟩))
    (fun os started H enc _ => lifted os started H enc)
theorem proved : Rows.LinkHearsSaid := over
#print axioms proved
end Go.Proofs.Ytalaepaomnfgjaa.Sk.LinkHears
