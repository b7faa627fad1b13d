/- The law LinkChannels holds of the given program, for every input; no further condition. -/
import Derived.Test.YtalaepaomnfgjaaLinkChPure
import Derived.ProofKit
set_option linter.unusedVariables false
namespace Go.Proofs.Ytalaepaomnfgjaa.Sk.LinkChannels
open Go Go.ChangeShapes Go.WideShapes Go.ChangeAt Go.RowKit
theorem own : ownKnob Try.prog.godebug = none := by kernel_rfl
theorem laidOut : laidOutB Try.prog = true := by kernel_rfl
set_option maxRecDepth 100000 in
theorem lifted (os : Os) (started : os.Started) (H : Type) (enc : TypeId × Value → H) :
    ReturnsInHanded {} Try.checked os 13 .any (Rows.linkChannelsSpec.pre6 enc Try.prog Try.f13 Rows.linkChannelsRow.domain false) (Rows.linkChannelsSpec.post enc Try.prog Try.f13 false true false false) :=
  row_lifted (C := Try.checked) own started (by kernel_rfl) Try.func13
    (ChangeSpec.witness6 (enc := enc) (C := Try.checked) false ⟨#[], #[.slice none 0 0], []⟩ 8 (by kernel_rfl) (by kernel_rfl) (by kernel_rfl) (by kernel_rfl))
    rfl (rt := 4) rfl (by kernel_rfl) (arg := [.cell (.sl 3 (.int .i64))])
    (fun ds h => by match ds, h with | [d0], _ => rfl) (by kernel_rfl) laidOut (specs_tab (F13.tab NN)) (inls_tab (F13.tab NN)) mixed (d := 3) (fun xs h => LinkChannels.pure xs h)
theorem over : Rows.linkChannelsRow.holds Try.pinned (OpenSpec.ofChange Rows.linkChannelsSpec) :=
  OpenClaim.holds_of_wide 13 Try.f13 rfl rfl rfl rfl rfl rfl rfl ⟨rfl, rfl, rfl, rfl, rfl⟩ rfl rfl rfl rfl rfl (by kernel_rfl) Try.func13 (by kernel_rfl)
    (of_decide_eq_true (by kernel_rfl)) (by unfold Func.isWrapper; first | (rw [if_pos (by decide +kernel)]; kernel_rfl) | (rw [if_neg (by decide +kernel)]; exact ⟨rfl, rfl⟩))
    (fun os started H enc _ => lifted os started H enc)
theorem proved : Rows.LinkChannelsSaid := over
#print axioms proved
end Go.Proofs.Ytalaepaomnfgjaa.Sk.LinkChannels
