/- The law TaxiWaits holds of the given program, for every input; no further condition. -/
import Derived.Test.YtmaeakelhjmfeaaTaxiPure
import Derived.ProofKit
set_option linter.unusedVariables false
namespace Go.Proofs.Ytmaeakelhjmfeaa.Sk.TaxiWaits
open Go Go.ChangeShapes Go.WideShapes Go.ChangeAt Go.RowKit
theorem own : ownKnob Try.prog.godebug = none := by kernel_rfl
theorem laidOut : laidOutB Try.prog = true := by kernel_rfl
set_option maxRecDepth 100000 in
theorem lifted (os : Os) (started : os.Started) (H : Type) (enc : TypeId × Value → H) :
    ReturnsInHanded {} Try.checked os 8 .any (Rows.taxiWaitsSpec.pre6 enc Try.prog Try.f8 Rows.taxiWaitsRow.domain false) (Rows.taxiWaitsSpec.post enc Try.prog Try.f8 false true false false) :=
  row_lifted (C := Try.checked) own started (by kernel_rfl) Try.func8
    (ChangeSpec.witness6 (enc := enc) (C := Try.checked) false ⟨#[], #[.slice none 0 0, .int .i64 0], []⟩ 8 (by kernel_rfl) (by kernel_rfl) (by kernel_rfl) (by kernel_rfl))
    rfl (rt := 4) rfl (by kernel_rfl) (arg := [.cell (.sl 76 (.pair (.str) (.pair (.int .i64) (.pair (.int .i64) (.int .i64))))), .cell (.int .i64)])
    (fun ds h => by match ds, h with | [d0, d1], _ => rfl) (by kernel_rfl) laidOut (specs_tab (law_TaxiWaits.tab NN)) (inls_tab (law_TaxiWaits.tab NN)) mixed (d := 3) (fun W g t x h => by cases h) (fun xs h => TaxiWaits.pure xs.1 xs.2 h.1 h.2)
theorem over : Rows.taxiWaitsRow.holds Try.pinned (OpenSpec.ofChange Rows.taxiWaitsSpec) :=
  OpenClaim.holds_of_wide 8 Try.f8 rfl rfl rfl rfl rfl rfl rfl ⟨rfl, rfl, rfl, rfl, rfl⟩ rfl rfl rfl rfl rfl (by kernel_rfl) Try.func8 (by kernel_rfl)
    (of_decide_eq_true (by kernel_rfl)) (by unfold Func.isWrapper; first | (rw [if_pos (by decide +kernel)]; kernel_rfl) | (rw [if_neg (by decide +kernel)]; exact ⟨rfl, rfl⟩))
    (fun os started H enc _ => lifted os started H enc)
theorem proved : Rows.TaxiWaitsSaid := over
#print axioms proved
end Go.Proofs.Ytmaeakelhjmfeaa.Sk.TaxiWaits
