/- The law PhraseTexts holds of the given program, for every input; the listed package variables start as the program's text lays them, to which the card ties them. -/
import Derived.Test.YtbjanflhagkhlaaDoorPhrPure
import Derived.Test.YtbjanflhagkhlaaDoorSkLaid
import Derived.Test.YtbjanflhagkhlaaDoorCards
import Derived.Test.YtbjanflhagkhlaaDoorTie
import Derived.ProofKit
import Derived.SevenTiedAt
set_option linter.unusedVariables false
namespace Go.Proofs.YtbjanflhagkhlaaDoor.Sk.PhraseTexts
open Go Go.ChangeShapes Go.WideShapes Go.ChangeAt Go.RowKit
theorem own : ownKnob Tryd.prog.godebug = none := by kernel_rfl
theorem laidOut : laidOutB Tryd.prog = true := by kernel_rfl
theorem pars : Tryd.f4.params = #[25] := by kernel_rfl
set_option maxRecDepth 100000 in
theorem lifted (os : Os) (started : os.Started) (H : Type) (enc : TypeId × Value → H) :
    ReturnsInHanded {} Tryd.checked os 4 .any (fun w args => (Rows.phraseTextsSpec.pre enc Tryd.prog Tryd.f4 Rows.phraseTextsRow.domain false w args ∧ laidMetH Tryd.prog Rows.phraseTextsRow.laid w) ∧ sizedMet enc Tryd.prog Tryd.f4 (OpenSpec.ofChange Rows.phraseTextsSpec) false w args)
      (Rows.phraseTextsSpec.post enc Tryd.prog Tryd.f4 false true false false) :=
  row_lifted_shaped (C := Tryd.checked) (laid := Rows.phraseTextsRow.laid) own started (by kernel_rfl) Tryd.func4
    (ChangeSpec.witness_shaped (enc := enc) (C := Tryd.checked) (os := os) (X := fun w _ => laidMetH Tryd.prog Rows.phraseTextsRow.laid w) false (World.laidAll Tryd.prog os Rows.phraseTextsRow.laid) #[.agg #[.string ByteArray.empty, .int .i64 0, .int .i64 0, .string ByteArray.empty]] 8 (World.laidAll_os _ _ _) (World.shaped_of_ZipB (by kernel_rfl) (by kernel_rfl)) (by kernel_rfl) (by kernel_rfl) (by kernel_rfl) (door_met os _))
    rfl (rt := 4) rfl (by kernel_rfl) (arg := [.agg (.pair (.str) (.pair (.int .i64) (.pair (.int .i64) (.str))))])
    (fun ds h => by match ds, h with | [d0], _ => rfl) (by kernel_rfl) laidOut (specs_tab (law_PhraseTexts.tab NN)) (inls_tab (law_PhraseTexts.tab NN)) mixed (d := 3) (fun W hs h => globs_of hs h) (fun xs h => PhraseTexts.pure xs h)
theorem over : Rows.phraseTextsRow.holds Tryd.pinned (OpenSpec.ofChange Rows.phraseTextsSpec) :=
  OpenClaim.holds_of_wide 4 Tryd.f4 rfl rfl rfl rfl rfl rfl rfl ⟨rfl, rfl, rfl, rfl, rfl⟩ rfl rfl rfl rfl rfl (by kernel_rfl) Tryd.func4 (by kernel_rfl)
    (of_decide_eq_true (by kernel_rfl)) (by unfold Func.isWrapper; first | (rw [if_pos (by decide +kernel)]; kernel_rfl) | (rw [if_neg (by decide +kernel)]; exact ⟨rfl, rfl⟩))
    (fun os started H enc _ => lifted os started H enc)
theorem proved : Rows.PhraseTextsCardSaid :=
  Claim7.holds_tied_plain_at .later [] [.data, .data, .data, .data, .sentinel, .sentinel, .data, .data, .pinned] true (true, "84a7f7d77c5aefa95b07cc78235170bb3cbf4b3c60dfaf19432639a1553b7b2c") true
    over (fun _ h => by cases h) (by kernel_rfl) (fun _ h => by cases h) phraseTexts_row_tie rfl ⟨rfl, rfl⟩ (by kernel_rfl) rfl
    (fun f fn hf hfn => by
      obtain rfl : f = 4 := Option.some.inj ((show Tryd.prog.funcNamed "skyway/skywaylaw3.PhraseTexts" = some 4 by kernel_rfl).symm.trans hf) |>.symm
      obtain rfl : fn = Tryd.f4 := (Option.some.inj (Tryd.func4.symm.trans hfn)).symm
      exact ⟨by kernel_rfl, fun j t ht => by
        rw [pars] at ht
        have hm : t ∈ [25] := by simpa using Array.mem_of_getElem? ht
        have hall : ([25].all fun u => !Tryd.prog.wantsStandIn u) = true := by kernel_rfl
        exact (show Tryd.prog.wantsStandIn t = false by simpa using List.all_eq_true.1 hall t hm)⟩)
    (by kernel_rfl)
#print axioms proved
end Go.Proofs.YtbjanflhagkhlaaDoor.Sk.PhraseTexts
