/- The law SectorBoxes holds of the given program, for every input; no further condition. -/
import Derived.Test.YtjojikhfmlceoaaSectorPure
import Derived.ProofKit
set_option linter.unusedVariables false
namespace Go.Proofs.Ytjojikhfmlceoaa.Sk.SectorBoxes
open Go Go.ChangeShapes Go.WideShapes Go.ChangeAt Go.RowKit
theorem own : ownKnob Try.prog.godebug = none := by kernel_rfl
theorem laidOut : laidOutB Try.prog = true := by kernel_rfl
set_option maxRecDepth 100000 in
theorem lifted (os : Os) (started : os.Started) (H : Type) (enc : TypeId × Value → H) :
    ReturnsInHanded {} Try.checked os 5 .any (Rows.sectorBoxesSpec.pre6 enc Try.prog Try.f5 Rows.sectorBoxesRow.domain false) (Rows.sectorBoxesSpec.post enc Try.prog Try.f5 false true false false) :=
  row_lifted (C := Try.checked) own started (by kernel_rfl) Try.func5
    (ChangeSpec.witness6 (enc := enc) (C := Try.checked) false ⟨#[], #[.agg #[.int .i64 0, .int .i64 0, .int .i64 0, .int .i64 0, .int .i64 0, .int .i64 0]], []⟩ 8 (by kernel_rfl) (by kernel_rfl) (by kernel_rfl) (by kernel_rfl))
    rfl (rt := 4) rfl (by kernel_rfl) (arg := [.agg (.pair (.pair (.int .i64) (.int .i64)) (.pair (.pair (.int .i64) (.int .i64)) (.pair (.int .i64) (.int .i64))))])
    (fun ds h => by match ds, h with | [d0], _ => rfl) (by kernel_rfl) laidOut (specs_tab (law_SectorBoxes.tab NN)) (inls_tab (law_SectorBoxes.tab NN)) mixed (d := 3) (fun W g t x h => by cases h) (fun xs h => SectorBoxes.pure xs h)
theorem over : Rows.sectorBoxesRow.holds Try.pinned (OpenSpec.ofChange Rows.sectorBoxesSpec) :=
  OpenClaim.holds_of_wide 5 Try.f5 rfl rfl rfl rfl rfl rfl rfl ⟨rfl, rfl, rfl, rfl, rfl⟩ rfl rfl rfl rfl rfl (by kernel_rfl) Try.func5 (by kernel_rfl)
    (of_decide_eq_true (by kernel_rfl)) (by unfold Func.isWrapper; first | (rw [if_pos (by decide +kernel)]; kernel_rfl) | (rw [if_neg (by decide +kernel)]; exact ⟨rfl, rfl⟩))
    (fun os started H enc _ => lifted os started H enc)
theorem proved : Rows.SectorBoxesSaid := over
#print axioms proved
end Go.Proofs.Ytjojikhfmlceoaa.Sk.SectorBoxes
