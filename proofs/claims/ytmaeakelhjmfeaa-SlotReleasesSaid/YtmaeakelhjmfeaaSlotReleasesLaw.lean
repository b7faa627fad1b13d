/- The law SlotReleases holds of the given program, for every input; no further condition. -/
import Derived.Test.YtmaeakelhjmfeaaSlotPure
import Derived.ProofKit
set_option linter.unusedVariables false
namespace Go.Proofs.Ytmaeakelhjmfeaa.Sk.SlotReleases
open Go Go.ChangeShapes Go.WideShapes Go.ChangeAt Go.RowKit
theorem own : ownKnob Try.prog.godebug = none := by kernel_rfl
theorem laidOut : laidOutB Try.prog = true := by kernel_rfl
set_option maxRecDepth 100000 in
theorem lifted (os : Os) (started : os.Started) (H : Type) (enc : TypeId × Value → H) :
    ReturnsInHanded {} Try.checked os 11 .any (Rows.slotReleasesSpec.pre6 enc Try.prog Try.f11 Rows.slotReleasesRow.domain false) (Rows.slotReleasesSpec.post enc Try.prog Try.f11 false true false false) :=
  row_lifted (C := Try.checked) own started (by kernel_rfl) Try.func11
    (ChangeSpec.witness6 (enc := enc) (C := Try.checked) false ⟨#[], #[.string ByteArray.empty, .string ByteArray.empty, .slice none 0 0, .slice none 0 0], []⟩ 8 (by kernel_rfl) (by kernel_rfl) (by kernel_rfl) (by kernel_rfl))
    rfl (rt := 4) rfl (by kernel_rfl) (arg := [.cell (.str), .cell (.str), .cell (.sl 106 (.pair (.str) (.int .i64))), .cell (.sl 149 (.pair (.pair (.int .i64) (.int .i64)) (.int .i64)))])
    (fun ds h => by match ds, h with | [d0, d1, d2, d3], _ => rfl) (by kernel_rfl) laidOut (specs_tab (law_SlotReleases.tab NN)) (inls_tab (law_SlotReleases.tab NN)) mixed (d := 3) (fun W g t x h => by cases h) (fun xs h => SlotReleases.pure xs.1 xs.2.1 xs.2.2.1 xs.2.2.2 h.1 h.2.1 h.2.2.1 h.2.2.2)
theorem over : Rows.slotReleasesRow.holds Try.pinned (OpenSpec.ofChange Rows.slotReleasesSpec) :=
  OpenClaim.holds_of_wide 11 Try.f11 rfl rfl rfl rfl rfl rfl rfl ⟨rfl, rfl, rfl, rfl, rfl⟩ rfl rfl rfl rfl rfl (by kernel_rfl) Try.func11 (by kernel_rfl)
    (of_decide_eq_true (by kernel_rfl)) (by unfold Func.isWrapper; first | (rw [if_pos (by decide +kernel)]; kernel_rfl) | (rw [if_neg (by decide +kernel)]; exact ⟨rfl, rfl⟩))
    (fun os started H enc _ => lifted os started H enc)
theorem proved : Rows.SlotReleasesSaid := over
#print axioms proved
end Go.Proofs.Ytmaeakelhjmfeaa.Sk.SlotReleases
