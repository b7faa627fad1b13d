/- The law EffectTurns holds of the given program, for every input; the listed package variables start as the program's text lays them, to which the card ties them. -/
import Derived.Test.YtnbkofkgdbhbpaaDoorTrnPure
import Derived.Test.YtnbkofkgdbhbpaaDoorSkLaid
import Derived.Test.YtnbkofkgdbhbpaaDoorCards
import Derived.Test.YtnbkofkgdbhbpaaDoorTie
import Derived.ProofKit
import Derived.SevenTiedAt
set_option linter.unusedVariables false
namespace Go.Proofs.YtnbkofkgdbhbpaaDoor.Sk.EffectTurns
open Go Go.ChangeShapes Go.WideShapes Go.ChangeAt Go.RowKit
theorem own : ownKnob Tryd.prog.godebug = none := by kernel_rfl
theorem laidOut : laidOutB Tryd.prog = true := by kernel_rfl
theorem pars : Tryd.f3.params = #[23, 25, 3, 27, 29] := by kernel_rfl
set_option maxRecDepth 100000 in
theorem lifted (os : Os) (started : os.Started) (H : Type) (enc : TypeId × Value → H) :
    ReturnsInHanded {} Tryd.checked os 3 .any (fun w args => (Rows.effectTurnsSpec.pre enc Tryd.prog Tryd.f3 Rows.effectTurnsRow.domain false w args ∧ laidMetH Tryd.prog Rows.effectTurnsRow.laid w) ∧ sizedMet enc Tryd.prog Tryd.f3 (OpenSpec.ofChange Rows.effectTurnsSpec) false w args)
      (Rows.effectTurnsSpec.post enc Tryd.prog Tryd.f3 false true false false) :=
  row_lifted_laid (C := Tryd.checked) (laid := Rows.effectTurnsRow.laid) own started (by kernel_rfl) Tryd.func3
    (ChangeSpec.witness_shaped (enc := enc) (C := Tryd.checked) (os := os) (X := fun w _ => laidMetH Tryd.prog Rows.effectTurnsRow.laid w) false (World.doorLaid Tryd.prog 400 os) #[.slice none 0 0, .agg #[.string ByteArray.empty, .int .i64 0, .int .i64 0, .string ByteArray.empty], .int .i64 0, .agg #[.string ByteArray.empty, .int .i64 0, .int .i64 0, .int .i64 0, .int .i64 0, .int .i64 0, .int .i64 0], .agg #[.int .i64 0, .int .i64 0]] 8 rfl (World.shaped_of_RefB (by kernel_rfl) (by kernel_rfl)) (by kernel_rfl) (by kernel_rfl) (by kernel_rfl) (door_met os _))
    rfl (rt := 4) rfl (by kernel_rfl) (arg := [.cell (.sl 39 (.pair (.pair (.int .i64) (.pair (.pair (.int .i64) (.int .i64)) (.int .i64))) (.pair (.int .i64) (.int .i64)))), .agg (.pair (.str) (.pair (.int .i64) (.pair (.int .i64) (.str)))), .cell (.int .i64), .agg (.pair (.str) (.pair (.int .i64) (.pair (.int .i64) (.pair (.int .i64) (.pair (.int .i64) (.pair (.int .i64) (.int .i64))))))), .agg (.pair (.int .i64) (.int .i64))])
    (fun ds h => by match ds, h with | [d0, d1, d2, d3, d4], _ => rfl) (by kernel_rfl) laidOut (specs_tab (law_EffectTurns.tab NN)) (inls_tab (law_EffectTurns.tab NN)) mixed (d := 3) (fun W h => globs_of h) (fun xs h => EffectTurns.pure xs.1 xs.2.1 xs.2.2.1 xs.2.2.2.1 xs.2.2.2.2 h.1 h.2.1 h.2.2.1 h.2.2.2.1 h.2.2.2.2)
theorem over : Rows.effectTurnsRow.holds Tryd.pinned (OpenSpec.ofChange Rows.effectTurnsSpec) :=
  OpenClaim.holds_of_wide 3 Tryd.f3 rfl rfl rfl rfl rfl rfl rfl ⟨rfl, rfl, rfl, rfl, rfl⟩ rfl rfl rfl rfl rfl (by kernel_rfl) Tryd.func3 (by kernel_rfl)
    (of_decide_eq_true (by kernel_rfl)) (by unfold Func.isWrapper; first | (rw [if_pos (by decide +kernel)]; kernel_rfl) | (rw [if_neg (by decide +kernel)]; exact ⟨rfl, rfl⟩))
    (fun os started H enc _ => lifted os started H enc)
theorem proved : Rows.EffectTurnsCardSaid :=
  Claim7.holds_tied_plain_at .later [] [.data, .data, .data, .data, .data] true (true, "9d32c768d6c7be1598a1f10ecaf480b40975a911e5f3790f27f48af8ad75c308") false
    over (fun _ h => by cases h) (by kernel_rfl) (fun _ h => by cases h) effectTurns_row_tie rfl ⟨rfl, rfl⟩ (by kernel_rfl) rfl
    (fun f fn hf hfn => by
      obtain rfl : f = 3 := Option.some.inj ((show Tryd.prog.funcNamed "skyway/skywaylaw3.EffectTurns" = some 3 by kernel_rfl).symm.trans hf) |>.symm
      obtain rfl : fn = Tryd.f3 := (Option.some.inj (Tryd.func3.symm.trans hfn)).symm
      exact ⟨by kernel_rfl, fun j t ht => by
        rw [pars] at ht
        have hm : t ∈ [23, 25, 3, 27, 29] := by simpa using Array.mem_of_getElem? ht
        have hall : ([23, 25, 3, 27, 29].all fun u => !Tryd.prog.wantsStandIn u) = true := by kernel_rfl
        exact (show Tryd.prog.wantsStandIn t = false by simpa using List.all_eq_true.1 hall t hm)⟩)
    (by kernel_rfl)
#print axioms proved
end Go.Proofs.YtnbkofkgdbhbpaaDoor.Sk.EffectTurns
