/- The law OwnerMoves holds of the given program, for every input; no further condition. -/
import Derived.Test.YtcmcacophbbagaaOwnerPure
import Derived.ProofKit
set_option linter.unusedVariables false
namespace Go.Proofs.Ytcmcacophbbagaa.Sk.OwnerMoves
open Go Go.ChangeShapes Go.WideShapes Go.ChangeAt Go.RowKit
theorem own : ownKnob Try.prog.godebug = none := by kernel_rfl
theorem laidOut : laidOutB Try.prog = true := by kernel_rfl
set_option maxRecDepth 100000 in
theorem lifted (os : Os) (started : os.Started) (H : Type) (enc : TypeId × Value → H) :
    ReturnsInHanded {} Try.checked os 6 .any (Rows.ownerMovesSpec.pre6 enc Try.prog Try.f6 Rows.ownerMovesRow.domain false) (Rows.ownerMovesSpec.post enc Try.prog Try.f6 false true false false) :=
  row_lifted (C := Try.checked) own started (by kernel_rfl) Try.func6
    (ChangeSpec.witness6 (enc := enc) (C := Try.checked) false ⟨#[], #[.slice none 0 0, .string ByteArray.empty, .string ByteArray.empty], []⟩ 8 (by kernel_rfl) (by kernel_rfl) (by kernel_rfl) (by kernel_rfl))
    rfl (rt := 4) rfl (by kernel_rfl) (arg := [.cell (.sl 34 (.pair (.str) (.pair (.str) (.str)))), .cell (.str), .cell (.str)])
    (fun ds h => by match ds, h with | [d0, d1, d2], _ => rfl) (by kernel_rfl) laidOut (specs_tab (law_OwnerMoves.tab NN)) (inls_tab (law_OwnerMoves.tab NN)) mixed (d := 3) (fun W g t x h => by cases h) (fun xs h => OwnerMoves.pure xs.1 xs.2.1 xs.2.2 h.1 h.2.1 h.2.2)
theorem over : Rows.ownerMovesRow.holds Try.pinned (OpenSpec.ofChange Rows.ownerMovesSpec) :=
  OpenClaim.holds_of_wide 6 Try.f6 rfl rfl rfl rfl rfl rfl rfl ⟨rfl, rfl, rfl, rfl, rfl⟩ rfl rfl rfl rfl rfl (by kernel_rfl) Try.func6 (by kernel_rfl)
    (of_decide_eq_true (by kernel_rfl)) (by unfold Func.isWrapper; first | (rw [if_pos (by decide +kernel)]; kernel_rfl) | (rw [if_neg (by decide +kernel)]; exact ⟨rfl, rfl⟩))
    (fun os started H enc _ => lifted os started H enc)
theorem proved : Rows.OwnerMovesSaid := over
#print axioms proved
end Go.Proofs.Ytcmcacophbbagaa.Sk.OwnerMoves
