/- The law TaxiQueues holds of the given program, for every input; no further condition. -/
import Derived.Test.YtmaeakelhjmfeaaTaxiPure
import Derived.ProofKit
set_option linter.unusedVariables false
namespace Go.Proofs.Ytmaeakelhjmfeaa.Sk.TaxiQueues
open Go Go.ChangeShapes Go.WideShapes Go.ChangeAt Go.RowKit
theorem own : ownKnob Try.prog.godebug = none := by kernel_rfl
theorem laidOut : laidOutB Try.prog = true := by kernel_rfl
set_option maxRecDepth 100000 in
theorem lifted (os : Os) (started : os.Started) (H : Type) (enc : TypeId × Value → H) :
    ReturnsInHanded {} Try.checked os 7 .any (Rows.taxiQueuesSpec.pre6 enc Try.prog Try.f7 Rows.taxiQueuesRow.domain false) (Rows.taxiQueuesSpec.post enc Try.prog Try.f7 false true false false) :=
  row_lifted (C := Try.checked) own started (by kernel_rfl) Try.func7
    (ChangeSpec.witness6 (enc := enc) (C := Try.checked) false ⟨#[], #[.slice none 0 0, .slice none 0 0, .int .i64 0, .int .i64 0], []⟩ 8 (by kernel_rfl) (by kernel_rfl) (by kernel_rfl) (by kernel_rfl))
    rfl (rt := 4) rfl (by kernel_rfl) (arg := [.cell (.sl 133 (.pair (.str) (.int .i64))), .cell (.sl 135 (.pair (.str) (.pair (.str) (.int .i64)))), .cell (.int .i64), .cell (.int .i64)])
    (fun ds h => by match ds, h with | [d0, d1, d2, d3], _ => rfl) (by kernel_rfl) laidOut (specs_tab (law_TaxiQueues.tab NN)) (inls_tab (law_TaxiQueues.tab NN)) mixed (d := 3) (fun W g t x h => by cases h) (fun xs h => TaxiQueues.pure xs.1 xs.2.1 xs.2.2.1 xs.2.2.2 h.1 h.2.1 h.2.2.1 h.2.2.2)
theorem over : Rows.taxiQueuesRow.holds Try.pinned (OpenSpec.ofChange Rows.taxiQueuesSpec) :=
  OpenClaim.holds_of_wide 7 Try.f7 rfl rfl rfl rfl rfl rfl rfl ⟨rfl, rfl, rfl, rfl, rfl⟩ rfl rfl rfl rfl rfl (by kernel_rfl) Try.func7 (by kernel_rfl)
    (of_decide_eq_true (by kernel_rfl)) (by unfold Func.isWrapper; first | (rw [if_pos (by decide +kernel)]; kernel_rfl) | (rw [if_neg (by decide +kernel)]; exact ⟨rfl, rfl⟩))
    (fun os started H enc _ => lifted os started H enc)
theorem proved : Rows.TaxiQueuesSaid := over
#print axioms proved
end Go.Proofs.Ytmaeakelhjmfeaa.Sk.TaxiQueues
