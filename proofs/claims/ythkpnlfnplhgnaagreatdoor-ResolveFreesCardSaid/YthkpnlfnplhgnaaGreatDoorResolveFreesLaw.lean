/- The law ResolveFrees holds of the given program, for every input; the listed package variables start as the program's text lays them, to which the card ties them. -/
import Derived.Test.YthkpnlfnplhgnaaGreatDoorResPure
import Derived.Test.YthkpnlfnplhgnaaGreatDoorSkLaid
import Derived.Test.YthkpnlfnplhgnaaGreatDoorCards
import Derived.Test.YthkpnlfnplhgnaaGreatDoorTie
import Derived.ProofKit
import Derived.SevenTiedAt
set_option linter.unusedVariables false
namespace Go.Proofs.YthkpnlfnplhgnaaGreatDoor.Sk.ResolveFrees
open Go Go.ChangeShapes Go.WideShapes Go.ChangeAt Go.RowKit
theorem own : ownKnob Tryz.prog.godebug = none := by kernel_rfl
theorem laidOut : laidOutB Tryz.prog = true := by kernel_rfl
theorem pars : Tryz.f3.params = #[22, 3, 24] := by kernel_rfl
set_option maxRecDepth 100000 in
theorem lifted (os : Os) (started : os.Started) (H : Type) (enc : TypeId × Value → H) :
    ReturnsInHanded {} Tryz.checked os 3 .any (fun w args => (Rows.resolveFreesSpec.pre enc Tryz.prog Tryz.f3 Rows.resolveFreesRow.domain false w args ∧ laidMetH Tryz.prog Rows.resolveFreesRow.laid w) ∧ sizedMet enc Tryz.prog Tryz.f3 (OpenSpec.ofChange Rows.resolveFreesSpec) false w args)
      (Rows.resolveFreesSpec.post enc Tryz.prog Tryz.f3 false true false false) :=
  row_lifted_laid (C := Tryz.checked) (laid := Rows.resolveFreesRow.laid) own started (by kernel_rfl) Tryz.func3
    (ChangeSpec.witness_shaped (enc := enc) (C := Tryz.checked) (os := os) (X := fun w _ => laidMetH Tryz.prog Rows.resolveFreesRow.laid w) false (World.doorLaid Tryz.prog 400 os) #[.slice none 0 0, .int .i64 0, .agg #[.int .i64 0, .int .i64 0]] 8 rfl (World.shaped_of_RefB (by kernel_rfl) (by kernel_rfl)) (by kernel_rfl) (by kernel_rfl) (by kernel_rfl) (door_met os _))
    rfl (rt := 4) rfl (by kernel_rfl) (arg := [.cell (.sl 32 (.sl 58 (.pair (.pair (.int .i64) (.pair (.pair (.int .i64) (.int .i64)) (.int .i64))) (.pair (.int .i64) (.int .i64))))), .cell (.int .i64), .agg (.pair (.int .i64) (.int .i64))])
    (fun ds h => by match ds, h with | [d0, d1, d2], _ => rfl) (by kernel_rfl) laidOut (specs_tab (law_ResolveFrees.tab NN)) (inls_tab (law_ResolveFrees.tab NN)) mixed (d := 3) (fun W h => globs_of h) (fun xs h => ResolveFrees.pure xs.1 xs.2.1 xs.2.2 h.1 h.2.1 h.2.2)
theorem over : Rows.resolveFreesRow.holds Tryz.pinned (OpenSpec.ofChange Rows.resolveFreesSpec) :=
  OpenClaim.holds_of_wide 3 Tryz.f3 rfl rfl rfl rfl rfl rfl rfl ⟨rfl, rfl, rfl, rfl, rfl⟩ rfl rfl rfl rfl rfl (by kernel_rfl) Tryz.func3 (by kernel_rfl)
    (of_decide_eq_true (by kernel_rfl)) (by unfold Func.isWrapper; first | (rw [if_pos (by decide +kernel)]; kernel_rfl) | (rw [if_neg (by decide +kernel)]; exact ⟨rfl, rfl⟩))
    (fun os started H enc _ => lifted os started H enc)
theorem proved : Rows.ResolveFreesCardSaid :=
  Claim7.holds_tied_plain_at .later [] [.data, .data, .data, .data, .data] true (true, "993995ec1615711119e90860776b859849d99af420701adc003f3c569cb93fd4") false
    over (fun _ h => by cases h) (by kernel_rfl) (fun _ h => by cases h) resolveFrees_row_tie rfl ⟨rfl, rfl⟩ (by kernel_rfl) rfl
    (fun f fn hf hfn => by
      obtain rfl : f = 3 := Option.some.inj ((show Tryz.prog.funcNamed "skyway/skywaylaw3.ResolveFrees" = some 3 by kernel_rfl).symm.trans hf) |>.symm
      obtain rfl : fn = Tryz.f3 := (Option.some.inj (Tryz.func3.symm.trans hfn)).symm
      exact ⟨by kernel_rfl, fun j t ht => by
        rw [pars] at ht
        have hm : t ∈ [22, 3, 24] := by simpa using Array.mem_of_getElem? ht
        have hall : ([22, 3, 24].all fun u => !Tryz.prog.wantsStandIn u) = true := by kernel_rfl
        exact (show Tryz.prog.wantsStandIn t = false by simpa using List.all_eq_true.1 hall t hm)⟩)
    (by kernel_rfl)
#print axioms proved
end Go.Proofs.YthkpnlfnplhgnaaGreatDoor.Sk.ResolveFrees
