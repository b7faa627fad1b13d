/- PRINTED by gen.py: what the functions answer. Not trusted: Lean checks it. -/
import Derived.Test.YtmaeakelhjmfeaaSkAid
import Derived.Test.YtmaeakelhjmfeaaSkIns31
set_option linter.unusedVariables false
set_option linter.unusedSimpArgs false
set_option maxRecDepth 100000
namespace Go.Proofs.Ytmaeakelhjmfeaa.Sk
open Go
def tyTab : TypeId → Option Ty := tyOf [(3, .int .i64), (4, .bool), (35, .pair (.int .i64) (.pair (.int .i64) (.pair (.bool) (.int .i64)))), (49, .pair (.int .i64) (.int .i64)), (60, .pair (.int .i64) (.int .i64)), (76, .pair (.str) (.pair (.int .i64) (.pair (.int .i64) (.int .i64)))), (94, .pair (.str) (.pair (.str) (.int .i64))), (106, .pair (.str) (.int .i64)), (133, .pair (.str) (.int .i64)), (135, .pair (.str) (.pair (.str) (.int .i64))), (149, .pair (.pair (.int .i64) (.int .i64)) (.int .i64)), (160, .pair (.str) (.pair (.int .i64) (.pair (.int .i64) (.int .i64))))]
theorem mixed : Try.prog.follows .mixedOrders = true := by kernel_rfl
/-! ### wake_Standard: skyway/wake.Standard -/
def wake_Standard.kp : List (Nat × List (Nat × Option (TypeId × Ty))) := []
noncomputable def wake_Standard.G (N : Nat) : List (Nat × Spec) := []
noncomputable def wake_Standard.E (N : Nat) : Env := mkEnv (wake_Standard.G N) N tyTab wake_Standard.kp
noncomputable def wake_Standard.fn (N : Nat) (x : Unit) : Option (List Int) := evFn (wake_Standard.E N) Try.prog 3 Try.f80 false [] [.val (.agg (.vec 16 .i64))] x
noncomputable def wake_Standard.S (N : Nat) : PSpec := ⟨false, [], [.val (.agg (.vec 16 .i64))], wake_Standard.fn N⟩
theorem f80_enters : Enters Try.prog 80 := ⟨Try.f80, Try.func80, by kernel_rfl, by kernel_rfl⟩
theorem wake_Standard.tab (N : Nat) : TabOk Try.prog (wake_Standard.G N) := trivial
theorem wake_Standard.enters : Enters Try.prog 80 := f80_enters
theorem wake_Standard.sound (N : Nat) : Sound Try.prog 80 (wake_Standard.S N) := evFn_sound (specs_tab (wake_Standard.tab N)) (inls_tab (wake_Standard.tab N)) mixed 3 Try.func80 _ _ _
theorem wake_Standard.eq (N : Nat) : wake_Standard.fn N () =
    some [60, 60, 60, 60, 120, 60, 60, 60, 180, 120, 90, 60, 240, 180, 120, 120] := by kernel_rfl

/-! ### wake_Class: skyway/wake.Class -/
def wake_Class.kp : List (Nat × List (Nat × Option (TypeId × Ty))) := []
noncomputable def wake_Class.G (N : Nat) : List (Nat × Spec) := []
noncomputable def wake_Class.E (N : Nat) : Env := mkEnv (wake_Class.G N) N tyTab wake_Class.kp
noncomputable def wake_Class.fn (N : Nat) (x : Int) : Option Int := evFn (wake_Class.E N) Try.prog 3 Try.f82 false [.cell (.int .i64)] [.val (.cell (.int .i64))] x
noncomputable def wake_Class.S (N : Nat) : PSpec := ⟨false, [.cell (.int .i64)], [.val (.cell (.int .i64))], wake_Class.fn N⟩
theorem f82_enters : Enters Try.prog 82 := ⟨Try.f82, Try.func82, by kernel_rfl, by kernel_rfl⟩
theorem wake_Class.tab (N : Nat) : TabOk Try.prog (wake_Class.G N) := trivial
theorem wake_Class.enters : Enters Try.prog 82 := f82_enters
theorem wake_Class.sound (N : Nat) : Sound Try.prog 82 (wake_Class.S N) := evFn_sound (specs_tab (wake_Class.tab N)) (inls_tab (wake_Class.tab N)) mixed 3 Try.func82 _ _ _
theorem wake_Class.eq (N : Nat) (x0 : Int) : wake_Class.fn N x0 =
    bif !(!(decide (x0 < 0))) || (!(decide (x0 < 0))) then
      bif (decide (x0 < 0)) || (!(decide (x0 < 0))) then
        bif (decide (x0 < 0)) || (decide (x0 > 3)) then
          some 1
        else
          some 0
      else
        none
    else
      none := by kernel_rfl
theorem taut1 : ∀ p0 : Bool, ((!(!(p0)) || (!(p0)))) = true := by decide
theorem taut2 : ∀ p0 : Bool, (((p0) || (!(p0)))) = true := by decide
theorem wake_Class.clean (N : Nat) (x0 : Int) : wake_Class.fn N x0 =
    bif (decide (x0 < 0)) || (decide (x0 > 3)) then
      some 1
    else
      some 0 := by
  rw [wake_Class.eq]; simp only [taut1, taut2, cond_true]

/-! ### runway_Check: skyway/runway.Check -/
def runway_Check.kp : List (Nat × List (Nat × Option (TypeId × Ty))) := [(4, [(0, none), (9, none), (10, none), (11, none)])]
noncomputable def runway_Check.G (N : Nat) : List (Nat × Spec) := [(82, .pure (wake_Class.S N))]
noncomputable def runway_Check.E (N : Nat) : Env := mkEnv (runway_Check.G N) N tyTab runway_Check.kp
noncomputable def runway_Check.fn (N : Nat) (x : List (Int × Int × Bool × Int)) : Option Int := evFn (runway_Check.E N) Try.prog 3 Try.f17 false [.cell (.sl 35 (.pair (.int .i64) (.pair (.int .i64) (.pair (.bool) (.int .i64)))))] [.val (.cell (.int .i64))] x
noncomputable def runway_Check.S (N : Nat) : PSpec := ⟨false, [.cell (.sl 35 (.pair (.int .i64) (.pair (.int .i64) (.pair (.bool) (.int .i64)))))], [.val (.cell (.int .i64))], runway_Check.fn N⟩
theorem f17_enters : Enters Try.prog 17 := ⟨Try.f17, Try.func17, by kernel_rfl, by kernel_rfl⟩
theorem runway_Check.tab (N : Nat) : TabOk Try.prog (runway_Check.G N) := ⟨⟨wake_Class.enters, wake_Class.sound N⟩, trivial⟩
theorem runway_Check.enters : Enters Try.prog 17 := f17_enters
theorem runway_Check.sound (N : Nat) : Sound Try.prog 17 (runway_Check.S N) := evFn_sound (specs_tab (runway_Check.tab N)) (inls_tab (runway_Check.tab N)) mixed 3 Try.func17 _ _ _
noncomputable def runway_Check.cd (N : Nat) (p : List Nat) : St → (Ex → St → Option Int) → Option Int := ev (runway_Check.E N) Try.prog (callD (runway_Check.E N) Try.prog 3) 0 (codeAt (bodyOf Try.f17) p)
noncomputable def runway_Check.fin : Ex → St → Option Int := endK Try.prog Try.f17 [.val (.cell (.int .i64))]
noncomputable def runway_Check.l0 (N : Nat) (x0 : List (Int × Int × Bool × Int)) (k1 : Nat) (a2 : Int) : Option Int :=
  loopN (norm ((runway_Check.E N).keep 4) 0) (runway_Check.cd N [1, 1, 0, 1, 0, 0]) k1
  ⟨[.ros false 35 (.pair (.int .i64) (.pair (.int .i64) (.pair (.bool) (.int .i64)))) x0, .any, .any, .any, .any, .any, .any, .any, .any, .ros false 35 (.pair (.int .i64) (.pair (.int .i64) (.pair (.bool) (.int .i64)))) x0, .sc (.int .i64 (x0.length : Int)), .sc (.int .i64 a2), .any, .any, .any, .any, .any, .any, .any, .any, .any, .any, .any, .any, .any, .any, .any, .any, .any, .any, .any, .any, .any, .any, .any, .any, .any, .any, .any, .any, .any, .any, .any, .any, .any, .any, .any, .any, .any, .any, .any, .any, .any, .any], []⟩
  (blockK 0 (seqK (runway_Check.cd N [1, 1, 1]) runway_Check.fin))
theorem runway_Check.l0_zero (N : Nat) (x0 : List (Int × Int × Bool × Int)) (a2 : Int) : runway_Check.l0 N x0 0 a2 = none := by kernel_rfl
theorem runway_Check.l0_succ (N : Nat) (x0 : List (Int × Int × Bool × Int)) (k1 : Nat) (a2 : Int) : runway_Check.l0 N x0 (k1 + 1) a2 =
    bif decide (a2 < (x0.length : Int)) then
      bif (decide (0 ≤ a2)) && (decide (a2 < (x0.length : Int))) then
        bif !(!(decide (((List.getD x0 (Int.toNat a2) (0, (0, (false, 0)))).1) < 0))) || (!(decide (((List.getD x0 (Int.toNat a2) (0, (0, (false, 0)))).1) < 0))) then
          bif !(!(decide (((List.getD x0 (Int.toNat a2) (0, (0, (false, 0)))).1) < 0))) || (!(decide (((List.getD x0 (Int.toNat a2) (0, (0, (false, 0)))).1) < 0))) then
            bif (decide (((List.getD x0 (Int.toNat a2) (0, (0, (false, 0)))).1) < 0)) || (!(decide (((List.getD x0 (Int.toNat a2) (0, (0, (false, 0)))).1) < 0))) then
              bif !(!((decide (((List.getD x0 (Int.toNat a2) (0, (0, (false, 0)))).1) < 0)) || (decide (((List.getD x0 (Int.toNat a2) (0, (0, (false, 0)))).1) > 200000)))) || (!((decide (((List.getD x0 (Int.toNat a2) (0, (0, (false, 0)))).1) < 0)) || (decide (((List.getD x0 (Int.toNat a2) (0, (0, (false, 0)))).1) > 200000)))) then
                bif !(!((decide (((List.getD x0 (Int.toNat a2) (0, (0, (false, 0)))).1) < 0)) || (decide (((List.getD x0 (Int.toNat a2) (0, (0, (false, 0)))).1) > 200000)))) || (!((decide (((List.getD x0 (Int.toNat a2) (0, (0, (false, 0)))).1) < 0)) || (decide (((List.getD x0 (Int.toNat a2) (0, (0, (false, 0)))).1) > 200000)))) then
                  bif !((!((decide (((List.getD x0 (Int.toNat a2) (0, (0, (false, 0)))).1) < 0)) || (decide (((List.getD x0 (Int.toNat a2) (0, (0, (false, 0)))).1) > 200000)))) && (decide (a2 > 0))) || ((!((decide (((List.getD x0 (Int.toNat a2) (0, (0, (false, 0)))).1) < 0)) || (decide (((List.getD x0 (Int.toNat a2) (0, (0, (false, 0)))).1) > 200000)))) && (decide (a2 > 0))) then
                    bif !((!((decide (((List.getD x0 (Int.toNat a2) (0, (0, (false, 0)))).1) < 0)) || (decide (((List.getD x0 (Int.toNat a2) (0, (0, (false, 0)))).1) > 200000)))) && (decide (a2 > 0))) || ((!((decide (((List.getD x0 (Int.toNat a2) (0, (0, (false, 0)))).1) < 0)) || (decide (((List.getD x0 (Int.toNat a2) (0, (0, (false, 0)))).1) > 200000)))) && (decide (a2 > 0))) then
                      bif !((!((decide (((List.getD x0 (Int.toNat a2) (0, (0, (false, 0)))).1) < 0)) || (decide (((List.getD x0 (Int.toNat a2) (0, (0, (false, 0)))).1) > 200000)))) && (decide (a2 > 0))) || ((!((decide (((List.getD x0 (Int.toNat a2) (0, (0, (false, 0)))).1) < 0)) || (decide (((List.getD x0 (Int.toNat a2) (0, (0, (false, 0)))).1) > 200000)))) && (decide (a2 > 0))) then
                        bif !((!((decide (((List.getD x0 (Int.toNat a2) (0, (0, (false, 0)))).1) < 0)) || (decide (((List.getD x0 (Int.toNat a2) (0, (0, (false, 0)))).1) > 200000)))) && (decide (a2 > 0))) || ((!((decide (((List.getD x0 (Int.toNat a2) (0, (0, (false, 0)))).1) < 0)) || (decide (((List.getD x0 (Int.toNat a2) (0, (0, (false, 0)))).1) > 200000)))) && (decide (a2 > 0))) then
                          bif ((decide (0 ≤ (w (a2 - 1)))) && (decide ((w (a2 - 1)) < (x0.length : Int)))) || !((!((decide (((List.getD x0 (Int.toNat a2) (0, (0, (false, 0)))).1) < 0)) || (decide (((List.getD x0 (Int.toNat a2) (0, (0, (false, 0)))).1) > 200000)))) && (decide (a2 > 0))) then
                            bif !((!((decide (((List.getD x0 (Int.toNat a2) (0, (0, (false, 0)))).1) < 0)) || (decide (((List.getD x0 (Int.toNat a2) (0, (0, (false, 0)))).1) > 200000)))) && (decide (a2 > 0))) || ((!((decide (((List.getD x0 (Int.toNat a2) (0, (0, (false, 0)))).1) < 0)) || (decide (((List.getD x0 (Int.toNat a2) (0, (0, (false, 0)))).1) > 200000)))) && (decide (a2 > 0))) then
                              bif !((!((decide (((List.getD x0 (Int.toNat a2) (0, (0, (false, 0)))).1) < 0)) || (decide (((List.getD x0 (Int.toNat a2) (0, (0, (false, 0)))).1) > 200000)))) && (decide (a2 > 0))) || ((!((decide (((List.getD x0 (Int.toNat a2) (0, (0, (false, 0)))).1) < 0)) || (decide (((List.getD x0 (Int.toNat a2) (0, (0, (false, 0)))).1) > 200000)))) && (decide (a2 > 0))) then
                                bif !((!((decide (((List.getD x0 (Int.toNat a2) (0, (0, (false, 0)))).1) < 0)) || (decide (((List.getD x0 (Int.toNat a2) (0, (0, (false, 0)))).1) > 200000)))) && (decide (a2 > 0))) || ((!((decide (((List.getD x0 (Int.toNat a2) (0, (0, (false, 0)))).1) < 0)) || (decide (((List.getD x0 (Int.toNat a2) (0, (0, (false, 0)))).1) > 200000)))) && (decide (a2 > 0))) then
                                  bif !((!((decide (((List.getD x0 (Int.toNat a2) (0, (0, (false, 0)))).1) < 0)) || (decide (((List.getD x0 (Int.toNat a2) (0, (0, (false, 0)))).1) > 200000)))) && (decide (a2 > 0))) || ((!((decide (((List.getD x0 (Int.toNat a2) (0, (0, (false, 0)))).1) < 0)) || (decide (((List.getD x0 (Int.toNat a2) (0, (0, (false, 0)))).1) > 200000)))) && (decide (a2 > 0))) then
                                    bif !(!((decide (((List.getD x0 (Int.toNat a2) (0, (0, (false, 0)))).1) < 0)) || (decide (((List.getD x0 (Int.toNat a2) (0, (0, (false, 0)))).1) > 200000)))) || (!((decide (((List.getD x0 (Int.toNat a2) (0, (0, (false, 0)))).1) < 0)) || (decide (((List.getD x0 (Int.toNat a2) (0, (0, (false, 0)))).1) > 200000)))) then
                                      bif !(!((decide (((List.getD x0 (Int.toNat a2) (0, (0, (false, 0)))).1) < 0)) || (decide (((List.getD x0 (Int.toNat a2) (0, (0, (false, 0)))).1) > 200000)))) || ((!(decide (a2 > 0))) || ((!((decide (((List.getD x0 (Int.toNat a2) (0, (0, (false, 0)))).1) < 0)) || (decide (((List.getD x0 (Int.toNat a2) (0, (0, (false, 0)))).1) > 200000)))) && (decide (a2 > 0)))) then
                                        bif ((decide (((List.getD x0 (Int.toNat a2) (0, (0, (false, 0)))).1) < 0)) || (decide (((List.getD x0 (Int.toNat a2) (0, (0, (false, 0)))).1) > 200000))) || (!((decide (((List.getD x0 (Int.toNat a2) (0, (0, (false, 0)))).1) < 0)) || (decide (((List.getD x0 (Int.toNat a2) (0, (0, (false, 0)))).1) > 200000)))) then
                                          bif ((decide (((List.getD x0 (Int.toNat a2) (0, (0, (false, 0)))).1) < 0)) || (decide (((List.getD x0 (Int.toNat a2) (0, (0, (false, 0)))).1) > 200000))) || ((decide (a2 > 0)) && (decide (((List.getD x0 (Int.toNat a2) (0, (0, (false, 0)))).1) < ((List.getD x0 (Int.toNat (w (a2 - 1))) (0, (0, (false, 0)))).1)))) then
                                            some 12
                                          else
                                            (wake_Class.fn N (((List.getD x0 (Int.toNat a2) (0, (0, (false, 0)))).2).1)).bind fun r3 =>
                                            bif !(r3 == 0) then
                                              some r3
                                            else
                                            bif !(!(decide (((((List.getD x0 (Int.toNat a2) (0, (0, (false, 0)))).2).2).2) < 0))) || (!(decide (((((List.getD x0 (Int.toNat a2) (0, (0, (false, 0)))).2).2).2) < 0))) then
                                              bif !(!(decide (((((List.getD x0 (Int.toNat a2) (0, (0, (false, 0)))).2).2).2) < 0))) || (!(decide (((((List.getD x0 (Int.toNat a2) (0, (0, (false, 0)))).2).2).2) < 0))) then
                                                bif (decide (((((List.getD x0 (Int.toNat a2) (0, (0, (false, 0)))).2).2).2) < 0)) || (!(decide (((((List.getD x0 (Int.toNat a2) (0, (0, (false, 0)))).2).2).2) < 0))) then
                                                  bif (decide (((((List.getD x0 (Int.toNat a2) (0, (0, (false, 0)))).2).2).2) < 0)) || (decide (((((List.getD x0 (Int.toNat a2) (0, (0, (false, 0)))).2).2).2) > 1)) then
                                                    some 1
                                                  else
                                                    runway_Check.l0 N x0 k1 (w (a2 + 1))
                                                else
                                                  none
                                              else
                                                none
                                            else
                                              none
                                        else
                                          none
                                      else
                                        none
                                    else
                                      none
                                  else
                                    none
                                else
                                  none
                              else
                                none
                            else
                              none
                          else
                            none
                        else
                          none
                      else
                        none
                    else
                      none
                  else
                    none
                else
                  none
              else
                none
            else
              none
          else
            none
        else
          none
      else
        none
    else
      some 0 := by kernel_rfl
theorem taut3 : ∀ p0 p1 : Bool, ((!(!((p0) || (p1))) || (!((p0) || (p1))))) = true := by decide
theorem taut4 : ∀ p0 p1 p2 : Bool, ((!(!((p0) || (p1))) || ((!(p2)) || ((!((p0) || (p1))) && (p2))))) = true := by decide
theorem taut5 : ∀ p0 p1 p2 : Bool, ((!((!((p0) || (p1))) && (p2)) || ((!((p0) || (p1))) && (p2)))) = true := by decide
theorem taut6 : ∀ p0 p1 : Bool, ((((p0) || (p1)) || (!((p0) || (p1))))) = true := by decide
theorem runway_Check.l0_clean (N : Nat) (x0 : List (Int × Int × Bool × Int)) (k1 : Nat) (a2 : Int) : runway_Check.l0 N x0 (k1 + 1) a2 =
    bif decide (a2 < (x0.length : Int)) then
      bif (decide (0 ≤ a2)) && (decide (a2 < (x0.length : Int))) then
        bif ((decide (0 ≤ (w (a2 - 1)))) && (decide ((w (a2 - 1)) < (x0.length : Int)))) || !((!((decide (((List.getD x0 (Int.toNat a2) (0, (0, (false, 0)))).1) < 0)) || (decide (((List.getD x0 (Int.toNat a2) (0, (0, (false, 0)))).1) > 200000)))) && (decide (a2 > 0))) then
          bif ((decide (((List.getD x0 (Int.toNat a2) (0, (0, (false, 0)))).1) < 0)) || (decide (((List.getD x0 (Int.toNat a2) (0, (0, (false, 0)))).1) > 200000))) || ((decide (a2 > 0)) && (decide (((List.getD x0 (Int.toNat a2) (0, (0, (false, 0)))).1) < ((List.getD x0 (Int.toNat (w (a2 - 1))) (0, (0, (false, 0)))).1)))) then
            some 12
          else
            (wake_Class.fn N (((List.getD x0 (Int.toNat a2) (0, (0, (false, 0)))).2).1)).bind fun r3 =>
            bif !(r3 == 0) then
              some r3
            else
            bif (decide (((((List.getD x0 (Int.toNat a2) (0, (0, (false, 0)))).2).2).2) < 0)) || (decide (((((List.getD x0 (Int.toNat a2) (0, (0, (false, 0)))).2).2).2) > 1)) then
              some 1
            else
              runway_Check.l0 N x0 k1 (w (a2 + 1))
        else
          none
      else
        none
    else
      some 0 := by
  rw [runway_Check.l0_succ]; simp only [taut3, taut4, taut1, taut5, taut6, taut2, cond_true]
theorem runway_Check.l0_cons (N : Nat) (x0 : List (Int × Int × Bool × Int)) (k1 : Nat) {pre r} {x} (hl : x0 = pre ++ x :: r) (hb : x0.length < 4611686018427387904) : runway_Check.l0 N x0 (k1 + 1) (pre.length : Int) =
    bif ((decide (0 ≤ (w ((pre.length : Int) - 1)))) && (decide ((w ((pre.length : Int) - 1)) < (x0.length : Int)))) || !((!((decide ((x.1) < 0)) || (decide ((x.1) > 200000)))) && (decide ((pre.length : Int) > 0))) then
      bif ((decide ((x.1) < 0)) || (decide ((x.1) > 200000))) || ((decide ((pre.length : Int) > 0)) && (decide ((x.1) < ((List.getD x0 (Int.toNat (w ((pre.length : Int) - 1))) (0, (0, (false, 0)))).1)))) then
        some 12
      else
        (wake_Class.fn N ((x.2).1)).bind fun r3 =>
        bif !(r3 == 0) then
          some r3
        else
        bif (decide ((((x.2).2).2) < 0)) || (decide ((((x.2).2).2) > 1)) then
          some 1
        else
          runway_Check.l0 N x0 k1 ((pre.length : Int) + 1)
    else
      none := by
  have hlen : x0.length = pre.length + 1 + r.length := by rw [hl]; simp; omega
  have e1 : decide ((pre.length : Int) < (x0.length : Int)) = true := by rw [decide_eq_true_iff]; omega
  have e2 : decide (0 ≤ (pre.length : Int)) = true := by rw [decide_eq_true_iff]; omega
  have e4 : w ((pre.length : Int) + 1) = (pre.length : Int) + 1 := w_next hl hb
  have e5 : List.take pre.length x0 = pre := by rw [hl]; simp
  have e6 : decide ((pre.length : Int) ≤ (x0.length : Int)) = true := by rw [decide_eq_true_iff]; omega
  have g0 : List.getD x0 pre.length (0, (0, (false, 0))) = x := by rw [hl]; exact getD_mid pre x r _
  rw [runway_Check.l0_clean]
  simp -implicitDefEqProofs only [Int.toNat_natCast, e1, e2, e4, e6, g0, e5, Bool.and_true, Bool.true_and, Bool.true_or, cond_true]
theorem runway_Check.l0_nil (N : Nat) (x0 : List (Int × Int × Bool × Int)) (k1 : Nat) : runway_Check.l0 N x0 (k1 + 1) (x0.length : Int) =
    some 0 := by
  have e1 : decide ((x0.length : Int) < (x0.length : Int)) = false := by rw [decide_eq_false_iff_not]; omega
  rw [runway_Check.l0_clean]
  simp -implicitDefEqProofs only [e1, cond_false]
theorem runway_Check.eq (N : Nat) (x0 : List (Int × Int × Bool × Int)) : runway_Check.fn N x0 =
    bif decide ((x0.length : Int) > 24) then
      some 2
    else
      runway_Check.l0 N x0 N 0 := by kernel_rfl

/-! ### runway_Spans: skyway/runway.Spans -/
def runway_Spans.kp : List (Nat × List (Nat × Option (TypeId × Ty))) := [(6, [(0, none), (11, none), (12, none), (13, none)])]
noncomputable def runway_Spans.G (N : Nat) : List (Nat × Spec) := []
noncomputable def runway_Spans.E (N : Nat) : Env := mkEnv (runway_Spans.G N) N tyTab runway_Spans.kp
noncomputable def runway_Spans.fn (N : Nat) (x : List (Int × Int)) : Option Int := evFn (runway_Spans.E N) Try.prog 3 Try.f19 false [.cell (.sl 60 (.pair (.int .i64) (.int .i64)))] [.val (.cell (.int .i64))] x
noncomputable def runway_Spans.S (N : Nat) : PSpec := ⟨false, [.cell (.sl 60 (.pair (.int .i64) (.int .i64)))], [.val (.cell (.int .i64))], runway_Spans.fn N⟩
theorem f19_enters : Enters Try.prog 19 := ⟨Try.f19, Try.func19, by kernel_rfl, by kernel_rfl⟩
theorem runway_Spans.tab (N : Nat) : TabOk Try.prog (runway_Spans.G N) := trivial
theorem runway_Spans.enters : Enters Try.prog 19 := f19_enters
theorem runway_Spans.sound (N : Nat) : Sound Try.prog 19 (runway_Spans.S N) := evFn_sound (specs_tab (runway_Spans.tab N)) (inls_tab (runway_Spans.tab N)) mixed 3 Try.func19 _ _ _
noncomputable def runway_Spans.cd (N : Nat) (p : List Nat) : St → (Ex → St → Option Int) → Option Int := ev (runway_Spans.E N) Try.prog (callD (runway_Spans.E N) Try.prog 3) 0 (codeAt (bodyOf Try.f19) p)
noncomputable def runway_Spans.fin : Ex → St → Option Int := endK Try.prog Try.f19 [.val (.cell (.int .i64))]
noncomputable def runway_Spans.l0 (N : Nat) (x0 : List (Int × Int)) (k1 : Nat) (a2 : Int) : Option Int :=
  loopN (norm ((runway_Spans.E N).keep 6) 0) (runway_Spans.cd N [1, 1, 1, 0, 1, 0, 0]) k1
  ⟨[.ros false 60 (.pair (.int .i64) (.int .i64)) x0, .any, .any, .any, .any, .any, .any, .any, .any, .any, .any, .ros false 60 (.pair (.int .i64) (.int .i64)) x0, .sc (.int .i64 (x0.length : Int)), .sc (.int .i64 a2), .any, .any, .any, .any, .any, .any, .any, .any, .any, .any, .any, .any, .any, .any, .any, .any, .any, .any, .any, .any, .any, .any, .any, .any, .any, .any, .any, .any, .any, .any, .any, .any, .any, .any, .any, .any, .any, .any, .any, .any, .any, .any, .any, .any, .any, .any, .any, .any, .any, .any], []⟩
  (blockK 0 (seqK (runway_Spans.cd N [1, 1, 1, 1]) runway_Spans.fin))
theorem runway_Spans.l0_zero (N : Nat) (x0 : List (Int × Int)) (a2 : Int) : runway_Spans.l0 N x0 0 a2 = none := by kernel_rfl
theorem runway_Spans.l0_succ (N : Nat) (x0 : List (Int × Int)) (k1 : Nat) (a2 : Int) : runway_Spans.l0 N x0 (k1 + 1) a2 =
    bif decide (a2 < (x0.length : Int)) then
      bif (decide (0 ≤ a2)) && (decide (a2 < (x0.length : Int))) then
        bif !(!(decide (((List.getD x0 (Int.toNat a2) (0, 0)).2) < 0))) || (!(decide (((List.getD x0 (Int.toNat a2) (0, 0)).2) < 0))) then
          bif !(!(decide (((List.getD x0 (Int.toNat a2) (0, 0)).2) < 0))) || (!(decide (((List.getD x0 (Int.toNat a2) (0, 0)).2) < 0))) then
            bif (decide (((List.getD x0 (Int.toNat a2) (0, 0)).2) < 0)) || (!(decide (((List.getD x0 (Int.toNat a2) (0, 0)).2) < 0))) then
              bif (decide (((List.getD x0 (Int.toNat a2) (0, 0)).2) < 0)) || (decide (((List.getD x0 (Int.toNat a2) (0, 0)).2) > 1)) then
                some 1
              else
              bif !(!(decide (((List.getD x0 (Int.toNat a2) (0, 0)).1) < 0))) || (!(decide (((List.getD x0 (Int.toNat a2) (0, 0)).1) < 0))) then
                bif !(!(decide (((List.getD x0 (Int.toNat a2) (0, 0)).1) < 0))) || (!(decide (((List.getD x0 (Int.toNat a2) (0, 0)).1) < 0))) then
                  bif (decide (((List.getD x0 (Int.toNat a2) (0, 0)).1) < 0)) || (!(decide (((List.getD x0 (Int.toNat a2) (0, 0)).1) < 0))) then
                    bif !(!((decide (((List.getD x0 (Int.toNat a2) (0, 0)).1) < 0)) || (decide (((List.getD x0 (Int.toNat a2) (0, 0)).1) > 200000)))) || (!((decide (((List.getD x0 (Int.toNat a2) (0, 0)).1) < 0)) || (decide (((List.getD x0 (Int.toNat a2) (0, 0)).1) > 200000)))) then
                      bif !(!((decide (((List.getD x0 (Int.toNat a2) (0, 0)).1) < 0)) || (decide (((List.getD x0 (Int.toNat a2) (0, 0)).1) > 200000)))) || (!((decide (((List.getD x0 (Int.toNat a2) (0, 0)).1) < 0)) || (decide (((List.getD x0 (Int.toNat a2) (0, 0)).1) > 200000)))) then
                        bif !((!((decide (((List.getD x0 (Int.toNat a2) (0, 0)).1) < 0)) || (decide (((List.getD x0 (Int.toNat a2) (0, 0)).1) > 200000)))) && (decide (a2 > 0))) || ((!((decide (((List.getD x0 (Int.toNat a2) (0, 0)).1) < 0)) || (decide (((List.getD x0 (Int.toNat a2) (0, 0)).1) > 200000)))) && (decide (a2 > 0))) then
                          bif !((!((decide (((List.getD x0 (Int.toNat a2) (0, 0)).1) < 0)) || (decide (((List.getD x0 (Int.toNat a2) (0, 0)).1) > 200000)))) && (decide (a2 > 0))) || ((!((decide (((List.getD x0 (Int.toNat a2) (0, 0)).1) < 0)) || (decide (((List.getD x0 (Int.toNat a2) (0, 0)).1) > 200000)))) && (decide (a2 > 0))) then
                            bif !((!((decide (((List.getD x0 (Int.toNat a2) (0, 0)).1) < 0)) || (decide (((List.getD x0 (Int.toNat a2) (0, 0)).1) > 200000)))) && (decide (a2 > 0))) || ((!((decide (((List.getD x0 (Int.toNat a2) (0, 0)).1) < 0)) || (decide (((List.getD x0 (Int.toNat a2) (0, 0)).1) > 200000)))) && (decide (a2 > 0))) then
                              bif !((!((decide (((List.getD x0 (Int.toNat a2) (0, 0)).1) < 0)) || (decide (((List.getD x0 (Int.toNat a2) (0, 0)).1) > 200000)))) && (decide (a2 > 0))) || ((!((decide (((List.getD x0 (Int.toNat a2) (0, 0)).1) < 0)) || (decide (((List.getD x0 (Int.toNat a2) (0, 0)).1) > 200000)))) && (decide (a2 > 0))) then
                                bif ((decide (0 ≤ (w (a2 - 1)))) && (decide ((w (a2 - 1)) < (x0.length : Int)))) || !((!((decide (((List.getD x0 (Int.toNat a2) (0, 0)).1) < 0)) || (decide (((List.getD x0 (Int.toNat a2) (0, 0)).1) > 200000)))) && (decide (a2 > 0))) then
                                  bif !((!((decide (((List.getD x0 (Int.toNat a2) (0, 0)).1) < 0)) || (decide (((List.getD x0 (Int.toNat a2) (0, 0)).1) > 200000)))) && (decide (a2 > 0))) || ((!((decide (((List.getD x0 (Int.toNat a2) (0, 0)).1) < 0)) || (decide (((List.getD x0 (Int.toNat a2) (0, 0)).1) > 200000)))) && (decide (a2 > 0))) then
                                    bif !((!((decide (((List.getD x0 (Int.toNat a2) (0, 0)).1) < 0)) || (decide (((List.getD x0 (Int.toNat a2) (0, 0)).1) > 200000)))) && (decide (a2 > 0))) || ((!((decide (((List.getD x0 (Int.toNat a2) (0, 0)).1) < 0)) || (decide (((List.getD x0 (Int.toNat a2) (0, 0)).1) > 200000)))) && (decide (a2 > 0))) then
                                      bif !((!((decide (((List.getD x0 (Int.toNat a2) (0, 0)).1) < 0)) || (decide (((List.getD x0 (Int.toNat a2) (0, 0)).1) > 200000)))) && (decide (a2 > 0))) || ((!((decide (((List.getD x0 (Int.toNat a2) (0, 0)).1) < 0)) || (decide (((List.getD x0 (Int.toNat a2) (0, 0)).1) > 200000)))) && (decide (a2 > 0))) then
                                        bif !((!((decide (((List.getD x0 (Int.toNat a2) (0, 0)).1) < 0)) || (decide (((List.getD x0 (Int.toNat a2) (0, 0)).1) > 200000)))) && (decide (a2 > 0))) || ((!((decide (((List.getD x0 (Int.toNat a2) (0, 0)).1) < 0)) || (decide (((List.getD x0 (Int.toNat a2) (0, 0)).1) > 200000)))) && (decide (a2 > 0))) then
                                          bif !((!((decide (((List.getD x0 (Int.toNat a2) (0, 0)).1) < 0)) || (decide (((List.getD x0 (Int.toNat a2) (0, 0)).1) > 200000)))) && (decide (a2 > 0))) || ((!((decide (((List.getD x0 (Int.toNat a2) (0, 0)).1) < 0)) || (decide (((List.getD x0 (Int.toNat a2) (0, 0)).1) > 200000)))) && (decide (a2 > 0))) then
                                            bif !(!((decide (((List.getD x0 (Int.toNat a2) (0, 0)).1) < 0)) || (decide (((List.getD x0 (Int.toNat a2) (0, 0)).1) > 200000)))) || (!((decide (((List.getD x0 (Int.toNat a2) (0, 0)).1) < 0)) || (decide (((List.getD x0 (Int.toNat a2) (0, 0)).1) > 200000)))) then
                                              bif !(!((decide (((List.getD x0 (Int.toNat a2) (0, 0)).1) < 0)) || (decide (((List.getD x0 (Int.toNat a2) (0, 0)).1) > 200000)))) || ((!(decide (a2 > 0))) || ((!((decide (((List.getD x0 (Int.toNat a2) (0, 0)).1) < 0)) || (decide (((List.getD x0 (Int.toNat a2) (0, 0)).1) > 200000)))) && (decide (a2 > 0)))) then
                                                bif ((decide (((List.getD x0 (Int.toNat a2) (0, 0)).1) < 0)) || (decide (((List.getD x0 (Int.toNat a2) (0, 0)).1) > 200000))) || (!((decide (((List.getD x0 (Int.toNat a2) (0, 0)).1) < 0)) || (decide (((List.getD x0 (Int.toNat a2) (0, 0)).1) > 200000)))) then
                                                  bif ((decide (((List.getD x0 (Int.toNat a2) (0, 0)).1) < 0)) || (decide (((List.getD x0 (Int.toNat a2) (0, 0)).1) > 200000))) || ((decide (a2 > 0)) && (decide (((List.getD x0 (Int.toNat a2) (0, 0)).1) < (w (((List.getD x0 (Int.toNat (w (a2 - 1))) (0, 0)).1) + 360))))) then
                                                    some 12
                                                  else
                                                  bif !(decide (a2 > 0)) || (decide (a2 > 0)) then
                                                    bif !(decide (a2 > 0)) || (decide (a2 > 0)) then
                                                      bif !(decide (a2 > 0)) || (decide (a2 > 0)) then
                                                        bif !(decide (a2 > 0)) || (decide (a2 > 0)) then
                                                          bif ((decide (0 ≤ (w (a2 - 1)))) && (decide ((w (a2 - 1)) < (x0.length : Int)))) || !(decide (a2 > 0)) then
                                                            bif !(decide (a2 > 0)) || (decide (a2 > 0)) then
                                                              bif !(decide (a2 > 0)) || (decide (a2 > 0)) then
                                                                bif !(decide (a2 > 0)) || (decide (a2 > 0)) then
                                                                  bif !(decide (a2 > 0)) || (decide (a2 > 0)) then
                                                                    bif (!(decide (a2 > 0))) || (decide (a2 > 0)) then
                                                                      bif (decide (a2 > 0)) && (((List.getD x0 (Int.toNat a2) (0, 0)).2) == ((List.getD x0 (Int.toNat (w (a2 - 1))) (0, 0)).2)) then
                                                                        some 11
                                                                      else
                                                                        runway_Spans.l0 N x0 k1 (w (a2 + 1))
                                                                    else
                                                                      none
                                                                  else
                                                                    none
                                                                else
                                                                  none
                                                              else
                                                                none
                                                            else
                                                              none
                                                          else
                                                            none
                                                        else
                                                          none
                                                      else
                                                        none
                                                    else
                                                      none
                                                  else
                                                    none
                                                else
                                                  none
                                              else
                                                none
                                            else
                                              none
                                          else
                                            none
                                        else
                                          none
                                      else
                                        none
                                    else
                                      none
                                  else
                                    none
                                else
                                  none
                              else
                                none
                            else
                              none
                          else
                            none
                        else
                          none
                      else
                        none
                    else
                      none
                  else
                    none
                else
                  none
              else
                none
            else
              none
          else
            none
        else
          none
      else
        none
    else
      some 0 := by kernel_rfl
theorem taut7 : ∀ p0 : Bool, ((!(p0) || (p0))) = true := by decide
theorem taut8 : ∀ p0 : Bool, (((!(p0)) || (p0))) = true := by decide
theorem runway_Spans.l0_clean (N : Nat) (x0 : List (Int × Int)) (k1 : Nat) (a2 : Int) : runway_Spans.l0 N x0 (k1 + 1) a2 =
    bif decide (a2 < (x0.length : Int)) then
      bif (decide (0 ≤ a2)) && (decide (a2 < (x0.length : Int))) then
        bif (decide (((List.getD x0 (Int.toNat a2) (0, 0)).2) < 0)) || (decide (((List.getD x0 (Int.toNat a2) (0, 0)).2) > 1)) then
          some 1
        else
        bif ((decide (0 ≤ (w (a2 - 1)))) && (decide ((w (a2 - 1)) < (x0.length : Int)))) || !((!((decide (((List.getD x0 (Int.toNat a2) (0, 0)).1) < 0)) || (decide (((List.getD x0 (Int.toNat a2) (0, 0)).1) > 200000)))) && (decide (a2 > 0))) then
          bif ((decide (((List.getD x0 (Int.toNat a2) (0, 0)).1) < 0)) || (decide (((List.getD x0 (Int.toNat a2) (0, 0)).1) > 200000))) || ((decide (a2 > 0)) && (decide (((List.getD x0 (Int.toNat a2) (0, 0)).1) < (w (((List.getD x0 (Int.toNat (w (a2 - 1))) (0, 0)).1) + 360))))) then
            some 12
          else
          bif ((decide (0 ≤ (w (a2 - 1)))) && (decide ((w (a2 - 1)) < (x0.length : Int)))) || !(decide (a2 > 0)) then
            bif (decide (a2 > 0)) && (((List.getD x0 (Int.toNat a2) (0, 0)).2) == ((List.getD x0 (Int.toNat (w (a2 - 1))) (0, 0)).2)) then
              some 11
            else
              runway_Spans.l0 N x0 k1 (w (a2 + 1))
          else
            none
        else
          none
      else
        none
    else
      some 0 := by
  rw [runway_Spans.l0_succ]; simp only [taut3, taut4, taut1, taut5, taut7, taut8, taut6, taut2, cond_true]
theorem runway_Spans.l0_cons (N : Nat) (x0 : List (Int × Int)) (k1 : Nat) {pre r} {x} (hl : x0 = pre ++ x :: r) (hb : x0.length < 4611686018427387904) : runway_Spans.l0 N x0 (k1 + 1) (pre.length : Int) =
    bif (decide ((x.2) < 0)) || (decide ((x.2) > 1)) then
      some 1
    else
    bif ((decide (0 ≤ (w ((pre.length : Int) - 1)))) && (decide ((w ((pre.length : Int) - 1)) < (x0.length : Int)))) || !((!((decide ((x.1) < 0)) || (decide ((x.1) > 200000)))) && (decide ((pre.length : Int) > 0))) then
      bif ((decide ((x.1) < 0)) || (decide ((x.1) > 200000))) || ((decide ((pre.length : Int) > 0)) && (decide ((x.1) < (w (((List.getD x0 (Int.toNat (w ((pre.length : Int) - 1))) (0, 0)).1) + 360))))) then
        some 12
      else
      bif ((decide (0 ≤ (w ((pre.length : Int) - 1)))) && (decide ((w ((pre.length : Int) - 1)) < (x0.length : Int)))) || !(decide ((pre.length : Int) > 0)) then
        bif (decide ((pre.length : Int) > 0)) && ((x.2) == ((List.getD x0 (Int.toNat (w ((pre.length : Int) - 1))) (0, 0)).2)) then
          some 11
        else
          runway_Spans.l0 N x0 k1 ((pre.length : Int) + 1)
      else
        none
    else
      none := by
  have hlen : x0.length = pre.length + 1 + r.length := by rw [hl]; simp; omega
  have e1 : decide ((pre.length : Int) < (x0.length : Int)) = true := by rw [decide_eq_true_iff]; omega
  have e2 : decide (0 ≤ (pre.length : Int)) = true := by rw [decide_eq_true_iff]; omega
  have e4 : w ((pre.length : Int) + 1) = (pre.length : Int) + 1 := w_next hl hb
  have e5 : List.take pre.length x0 = pre := by rw [hl]; simp
  have e6 : decide ((pre.length : Int) ≤ (x0.length : Int)) = true := by rw [decide_eq_true_iff]; omega
  have g0 : List.getD x0 pre.length (0, 0) = x := by rw [hl]; exact getD_mid pre x r _
  rw [runway_Spans.l0_clean]
  simp -implicitDefEqProofs only [Int.toNat_natCast, e1, e2, e4, e6, g0, e5, Bool.and_true, Bool.true_and, Bool.true_or, cond_true]
theorem runway_Spans.l0_nil (N : Nat) (x0 : List (Int × Int)) (k1 : Nat) : runway_Spans.l0 N x0 (k1 + 1) (x0.length : Int) =
    some 0 := by
  have e1 : decide ((x0.length : Int) < (x0.length : Int)) = false := by rw [decide_eq_false_iff_not]; omega
  rw [runway_Spans.l0_clean]
  simp -implicitDefEqProofs only [e1, cond_false]
theorem runway_Spans.eq (N : Nat) (x0 : List (Int × Int)) : runway_Spans.fn N x0 =
    bif decide ((x0.length : Int) > 24) then
      some 2
    else
    bif (x0.length : Int) == 0 then
      some 8
    else
      runway_Spans.l0 N x0 N 0 := by kernel_rfl

/-! ### wake_Check: skyway/wake.Check -/
def wake_Check.kp : List (Nat × List (Nat × Option (TypeId × Ty))) := [(2, [(1, none), (10, none), (11, none)]), (5, [(1, none), (10, none), (11, none), (14, none), (15, none)]), (12, [(1, none), (26, none)]), (15, [(1, none), (7, none), (26, none), (29, none)]), (18, [(1, none), (7, none), (8, none), (26, none), (29, none), (32, none)])]
noncomputable def wake_Check.G (N : Nat) : List (Nat × Spec) := []
noncomputable def wake_Check.E (N : Nat) : Env := mkEnv (wake_Check.G N) N tyTab wake_Check.kp
noncomputable def wake_Check.fn (N : Nat) (x : List Int) : Option Int := evFn (wake_Check.E N) Try.prog 3 Try.f83 false [.agg (.vec 16 .i64)] [.val (.cell (.int .i64))] x
noncomputable def wake_Check.S (N : Nat) : PSpec := ⟨false, [.agg (.vec 16 .i64)], [.val (.cell (.int .i64))], wake_Check.fn N⟩
theorem f83_enters : Enters Try.prog 83 := ⟨Try.f83, Try.func83, by kernel_rfl, by kernel_rfl⟩
theorem wake_Check.tab (N : Nat) : TabOk Try.prog (wake_Check.G N) := trivial
theorem wake_Check.enters : Enters Try.prog 83 := f83_enters
theorem wake_Check.sound (N : Nat) : Sound Try.prog 83 (wake_Check.S N) := evFn_sound (specs_tab (wake_Check.tab N)) (inls_tab (wake_Check.tab N)) mixed 3 Try.func83 _ _ _
noncomputable def wake_Check.cd (N : Nat) (p : List Nat) : St → (Ex → St → Option Int) → Option Int := ev (wake_Check.E N) Try.prog (callD (wake_Check.E N) Try.prog 3) 0 (codeAt (bodyOf Try.f83) p)
noncomputable def wake_Check.fin : Ex → St → Option Int := endK Try.prog Try.f83 [.val (.cell (.int .i64))]
noncomputable def wake_Check.l0 (N : Nat) (x0 : List Int) (k1 : Nat) (a2 : Int) : Option Int :=
  loopN (norm ((wake_Check.E N).keep 2) 0) (wake_Check.cd N [1, 0, 1, 0, 0]) k1
  ⟨[.any, .ptr 0 0, .any, .any, .any, .any, .any, .any, .any, .any, .agg [.sc (.int .i64 (List.getD x0 0 0)), .sc (.int .i64 (List.getD x0 1 0)), .sc (.int .i64 (List.getD x0 2 0)), .sc (.int .i64 (List.getD x0 3 0)), .sc (.int .i64 (List.getD x0 4 0)), .sc (.int .i64 (List.getD x0 5 0)), .sc (.int .i64 (List.getD x0 6 0)), .sc (.int .i64 (List.getD x0 7 0)), .sc (.int .i64 (List.getD x0 8 0)), .sc (.int .i64 (List.getD x0 9 0)), .sc (.int .i64 (List.getD x0 10 0)), .sc (.int .i64 (List.getD x0 11 0)), .sc (.int .i64 (List.getD x0 12 0)), .sc (.int .i64 (List.getD x0 13 0)), .sc (.int .i64 (List.getD x0 14 0)), .sc (.int .i64 (List.getD x0 15 0))], .sc (.int .i64 a2), .any, .any, .any, .any, .any, .any, .any, .any, .any, .any, .any, .any, .any, .any, .any, .any, .any, .any, .any, .any, .any, .any, .any, .any, .any, .any, .any, .any, .any, .any, .any, .any, .any, .any, .any, .any, .any, .any, .any, .any, .any, .any, .any], [.cells [.sc (.int .i64 (List.getD x0 0 0)), .sc (.int .i64 (List.getD x0 1 0)), .sc (.int .i64 (List.getD x0 2 0)), .sc (.int .i64 (List.getD x0 3 0)), .sc (.int .i64 (List.getD x0 4 0)), .sc (.int .i64 (List.getD x0 5 0)), .sc (.int .i64 (List.getD x0 6 0)), .sc (.int .i64 (List.getD x0 7 0)), .sc (.int .i64 (List.getD x0 8 0)), .sc (.int .i64 (List.getD x0 9 0)), .sc (.int .i64 (List.getD x0 10 0)), .sc (.int .i64 (List.getD x0 11 0)), .sc (.int .i64 (List.getD x0 12 0)), .sc (.int .i64 (List.getD x0 13 0)), .sc (.int .i64 (List.getD x0 14 0)), .sc (.int .i64 (List.getD x0 15 0))] 26]⟩
  (blockK 0 (seqK (wake_Check.cd N [1, 1]) wake_Check.fin))
noncomputable def wake_Check.l1 (N : Nat) (x0 : List Int) (k1 : Nat) (a2 : Int) (k3 : Nat) (a4 : Int) : Option Int :=
  loopN (norm ((wake_Check.E N).keep 5) 0) (wake_Check.cd N [1, 0, 1, 0, 0, 1, 1, 0, 0, 1, 1, 0, 0]) k3
  ⟨[.any, .ptr 0 0, .any, .any, .any, .any, .any, .any, .any, .any, .agg [.sc (.int .i64 (List.getD x0 0 0)), .sc (.int .i64 (List.getD x0 1 0)), .sc (.int .i64 (List.getD x0 2 0)), .sc (.int .i64 (List.getD x0 3 0)), .sc (.int .i64 (List.getD x0 4 0)), .sc (.int .i64 (List.getD x0 5 0)), .sc (.int .i64 (List.getD x0 6 0)), .sc (.int .i64 (List.getD x0 7 0)), .sc (.int .i64 (List.getD x0 8 0)), .sc (.int .i64 (List.getD x0 9 0)), .sc (.int .i64 (List.getD x0 10 0)), .sc (.int .i64 (List.getD x0 11 0)), .sc (.int .i64 (List.getD x0 12 0)), .sc (.int .i64 (List.getD x0 13 0)), .sc (.int .i64 (List.getD x0 14 0)), .sc (.int .i64 (List.getD x0 15 0))], .sc (.int .i64 a2), .any, .any, .agg [.sc (.int .i64 (List.getD (vl 16 x0) (((Int.toNat a2) * 4) + 0) 0)), .sc (.int .i64 (List.getD (vl 16 x0) (((Int.toNat a2) * 4) + 1) 0)), .sc (.int .i64 (List.getD (vl 16 x0) (((Int.toNat a2) * 4) + 2) 0)), .sc (.int .i64 (List.getD (vl 16 x0) (((Int.toNat a2) * 4) + 3) 0))], .sc (.int .i64 a4), .any, .any, .any, .any, .any, .any, .any, .any, .any, .any, .any, .any, .any, .any, .any, .any, .any, .any, .any, .any, .any, .any, .any, .any, .any, .any, .any, .any, .any, .any, .any, .any, .any, .any, .any, .any, .any, .any, .any], [.cells [.sc (.int .i64 (List.getD x0 0 0)), .sc (.int .i64 (List.getD x0 1 0)), .sc (.int .i64 (List.getD x0 2 0)), .sc (.int .i64 (List.getD x0 3 0)), .sc (.int .i64 (List.getD x0 4 0)), .sc (.int .i64 (List.getD x0 5 0)), .sc (.int .i64 (List.getD x0 6 0)), .sc (.int .i64 (List.getD x0 7 0)), .sc (.int .i64 (List.getD x0 8 0)), .sc (.int .i64 (List.getD x0 9 0)), .sc (.int .i64 (List.getD x0 10 0)), .sc (.int .i64 (List.getD x0 11 0)), .sc (.int .i64 (List.getD x0 12 0)), .sc (.int .i64 (List.getD x0 13 0)), .sc (.int .i64 (List.getD x0 14 0)), .sc (.int .i64 (List.getD x0 15 0))] 26]⟩
  (blockK 2 (blockK 1 (seqK (wake_Check.cd N [1, 0, 1, 0, 0, 1, 1, 1]) (loopK (norm ((wake_Check.E N).keep 2) 0) (wake_Check.cd N [1, 0, 1, 0, 0]) k1 (blockK 0 (seqK (wake_Check.cd N [1, 1]) wake_Check.fin))))))
noncomputable def wake_Check.l2 (N : Nat) (x0 : List Int) (k5 : Nat) (a6 : Int) : Option Int :=
  loopN (norm ((wake_Check.E N).keep 12) 0) (wake_Check.cd N [1, 1, 0, 1, 0, 0]) k5
  ⟨[.any, .ptr 0 0, .any, .any, .any, .any, .any, .any, .any, .any, .any, .any, .any, .any, .any, .any, .any, .any, .any, .any, .any, .any, .any, .any, .any, .any, .sc (.int .i64 a6), .any, .any, .any, .any, .any, .any, .any, .any, .any, .any, .any, .any, .any, .any, .any, .any, .any, .any, .any, .any, .any, .any, .any, .any, .any, .any, .any, .any], [.cells [.sc (.int .i64 (List.getD x0 0 0)), .sc (.int .i64 (List.getD x0 1 0)), .sc (.int .i64 (List.getD x0 2 0)), .sc (.int .i64 (List.getD x0 3 0)), .sc (.int .i64 (List.getD x0 4 0)), .sc (.int .i64 (List.getD x0 5 0)), .sc (.int .i64 (List.getD x0 6 0)), .sc (.int .i64 (List.getD x0 7 0)), .sc (.int .i64 (List.getD x0 8 0)), .sc (.int .i64 (List.getD x0 9 0)), .sc (.int .i64 (List.getD x0 10 0)), .sc (.int .i64 (List.getD x0 11 0)), .sc (.int .i64 (List.getD x0 12 0)), .sc (.int .i64 (List.getD x0 13 0)), .sc (.int .i64 (List.getD x0 14 0)), .sc (.int .i64 (List.getD x0 15 0))] 26]⟩
  (blockK 4 (seqK (wake_Check.cd N [1, 1, 1]) wake_Check.fin))
noncomputable def wake_Check.l3 (N : Nat) (x0 : List Int) (k5 : Nat) (a6 : Int) (k7 : Nat) (a8 : Int) : Option Int :=
  loopN (norm ((wake_Check.E N).keep 15) 0) (wake_Check.cd N [1, 1, 0, 1, 0, 0, 1, 1, 0, 0, 1, 1, 0, 0]) k7
  ⟨[.any, .ptr 0 0, .any, .any, .any, .any, .any, .sc (.int .i64 a6), .any, .any, .any, .any, .any, .any, .any, .any, .any, .any, .any, .any, .any, .any, .any, .any, .any, .any, .sc (.int .i64 a6), .any, .any, .sc (.int .i64 a8), .any, .any, .any, .any, .any, .any, .any, .any, .any, .any, .any, .any, .any, .any, .any, .any, .any, .any, .any, .any, .any, .any, .any, .any, .any], [.cells [.sc (.int .i64 (List.getD x0 0 0)), .sc (.int .i64 (List.getD x0 1 0)), .sc (.int .i64 (List.getD x0 2 0)), .sc (.int .i64 (List.getD x0 3 0)), .sc (.int .i64 (List.getD x0 4 0)), .sc (.int .i64 (List.getD x0 5 0)), .sc (.int .i64 (List.getD x0 6 0)), .sc (.int .i64 (List.getD x0 7 0)), .sc (.int .i64 (List.getD x0 8 0)), .sc (.int .i64 (List.getD x0 9 0)), .sc (.int .i64 (List.getD x0 10 0)), .sc (.int .i64 (List.getD x0 11 0)), .sc (.int .i64 (List.getD x0 12 0)), .sc (.int .i64 (List.getD x0 13 0)), .sc (.int .i64 (List.getD x0 14 0)), .sc (.int .i64 (List.getD x0 15 0))] 26]⟩
  (blockK 6 (blockK 5 (seqK (wake_Check.cd N [1, 1, 0, 1, 0, 0, 1, 1, 1]) (loopK (norm ((wake_Check.E N).keep 12) 0) (wake_Check.cd N [1, 1, 0, 1, 0, 0]) k5 (blockK 4 (seqK (wake_Check.cd N [1, 1, 1]) wake_Check.fin))))))
noncomputable def wake_Check.l4 (N : Nat) (x0 : List Int) (k5 : Nat) (a6 : Int) (k7 : Nat) (a8 : Int) (k9 : Nat) (a10 : Int) : Option Int :=
  loopN (norm ((wake_Check.E N).keep 18) 0) (wake_Check.cd N [1, 1, 0, 1, 0, 0, 1, 1, 0, 0, 1, 1, 0, 0, 1, 1, 0, 0, 1, 1, 0, 0]) k9
  ⟨[.any, .ptr 0 0, .any, .any, .any, .any, .any, .sc (.int .i64 a6), .sc (.int .i64 a8), .any, .any, .any, .any, .any, .any, .any, .any, .any, .any, .any, .any, .any, .any, .any, .any, .any, .sc (.int .i64 a6), .any, .any, .sc (.int .i64 a8), .any, .any, .sc (.int .i64 a10), .any, .any, .any, .any, .any, .any, .any, .any, .any, .any, .any, .any, .any, .any, .any, .any, .any, .any, .any, .any, .any, .any], [.cells [.sc (.int .i64 (List.getD x0 0 0)), .sc (.int .i64 (List.getD x0 1 0)), .sc (.int .i64 (List.getD x0 2 0)), .sc (.int .i64 (List.getD x0 3 0)), .sc (.int .i64 (List.getD x0 4 0)), .sc (.int .i64 (List.getD x0 5 0)), .sc (.int .i64 (List.getD x0 6 0)), .sc (.int .i64 (List.getD x0 7 0)), .sc (.int .i64 (List.getD x0 8 0)), .sc (.int .i64 (List.getD x0 9 0)), .sc (.int .i64 (List.getD x0 10 0)), .sc (.int .i64 (List.getD x0 11 0)), .sc (.int .i64 (List.getD x0 12 0)), .sc (.int .i64 (List.getD x0 13 0)), .sc (.int .i64 (List.getD x0 14 0)), .sc (.int .i64 (List.getD x0 15 0))] 26]⟩
  (blockK 8 (blockK 7 (seqK (wake_Check.cd N [1, 1, 0, 1, 0, 0, 1, 1, 0, 0, 1, 1, 0, 0, 1, 1, 1]) (loopK (norm ((wake_Check.E N).keep 15) 0) (wake_Check.cd N [1, 1, 0, 1, 0, 0, 1, 1, 0, 0, 1, 1, 0, 0]) k7 (blockK 6 (blockK 5 (seqK (wake_Check.cd N [1, 1, 0, 1, 0, 0, 1, 1, 1]) (loopK (norm ((wake_Check.E N).keep 12) 0) (wake_Check.cd N [1, 1, 0, 1, 0, 0]) k5 (blockK 4 (seqK (wake_Check.cd N [1, 1, 1]) wake_Check.fin))))))))))
theorem wake_Check.l4_zero (N : Nat) (x0 : List Int) (k5 : Nat) (a6 : Int) (k7 : Nat) (a8 : Int) (a10 : Int) : wake_Check.l4 N x0 k5 a6 k7 a8 0 a10 = none := by kernel_rfl
theorem wake_Check.l4_succ (N : Nat) (x0 : List Int) (k5 : Nat) (a6 : Int) (k7 : Nat) (a8 : Int) (k9 : Nat) (a10 : Int) : wake_Check.l4 N x0 k5 a6 k7 a8 (k9 + 1) a10 =
    bif decide (a10 < 4) then
      bif (decide (0 ≤ a6)) && (decide (a6 < 4)) then
        bif (decide (0 ≤ a10)) && (decide (a10 < 4)) then
          bif decide (((0 + ((Int.toNat a6) * 4)) + ((Int.toNat a10) * 1)) < 16) then
            bif (decide (0 ≤ a6)) && (decide (a6 < 4)) then
              bif (decide (0 ≤ a8)) && (decide (a8 < 4)) then
                bif decide (((0 + ((Int.toNat a6) * 4)) + ((Int.toNat a8) * 1)) < 16) then
                  bif (decide (0 ≤ a8)) && (decide (a8 < 4)) then
                    bif (decide (0 ≤ a10)) && (decide (a10 < 4)) then
                      bif decide (((0 + ((Int.toNat a8) * 4)) + ((Int.toNat a10) * 1)) < 16) then
                        bif decide ((List.getD (vl 16 x0) ((0 + ((Int.toNat a6) * 4)) + ((Int.toNat a10) * 1)) 0) > (w ((List.getD (vl 16 x0) ((0 + ((Int.toNat a6) * 4)) + ((Int.toNat a8) * 1)) 0) + (List.getD (vl 16 x0) ((0 + ((Int.toNat a8) * 4)) + ((Int.toNat a10) * 1)) 0)))) then
                          some 3
                        else
                          wake_Check.l4 N x0 k5 a6 k7 a8 k9 (w (a10 + 1))
                      else
                        none
                    else
                      none
                  else
                    none
                else
                  none
              else
                none
            else
              none
          else
            none
        else
          none
      else
        none
    else
      wake_Check.l3 N x0 k5 a6 k7 (w (a8 + 1)) := by kernel_rfl
theorem wake_Check.l3_zero (N : Nat) (x0 : List Int) (k5 : Nat) (a6 : Int) (a8 : Int) : wake_Check.l3 N x0 k5 a6 0 a8 = none := by kernel_rfl
theorem wake_Check.l3_succ (N : Nat) (x0 : List Int) (k5 : Nat) (a6 : Int) (k7 : Nat) (a8 : Int) : wake_Check.l3 N x0 k5 a6 (k7 + 1) a8 =
    bif decide (a8 < 4) then
      wake_Check.l4 N x0 k5 a6 k7 a8 N 0
    else
      wake_Check.l2 N x0 k5 (w (a6 + 1)) := by kernel_rfl
theorem wake_Check.l2_zero (N : Nat) (x0 : List Int) (a6 : Int) : wake_Check.l2 N x0 0 a6 = none := by kernel_rfl
theorem wake_Check.l2_succ (N : Nat) (x0 : List Int) (k5 : Nat) (a6 : Int) : wake_Check.l2 N x0 (k5 + 1) a6 =
    bif decide (a6 < 4) then
      wake_Check.l3 N x0 k5 a6 N 0
    else
      some 0 := by kernel_rfl
theorem wake_Check.l1_zero (N : Nat) (x0 : List Int) (k1 : Nat) (a2 : Int) (a4 : Int) : wake_Check.l1 N x0 k1 a2 0 a4 = none := by kernel_rfl
theorem wake_Check.l1_succ (N : Nat) (x0 : List Int) (k1 : Nat) (a2 : Int) (k3 : Nat) (a4 : Int) : wake_Check.l1 N x0 k1 a2 (k3 + 1) a4 =
    bif decide (a4 < 4) then
      bif (decide (0 ≤ a4)) && (decide (a4 < 4)) then
        bif decide (((Int.toNat a4) * 1) < 4) then
          bif !(!(decide ((List.getD [(List.getD (vl 16 x0) (((Int.toNat a2) * 4) + 0) 0), (List.getD (vl 16 x0) (((Int.toNat a2) * 4) + 1) 0), (List.getD (vl 16 x0) (((Int.toNat a2) * 4) + 2) 0), (List.getD (vl 16 x0) (((Int.toNat a2) * 4) + 3) 0)] ((Int.toNat a4) * 1) 0) < 30))) || (!(decide ((List.getD [(List.getD (vl 16 x0) (((Int.toNat a2) * 4) + 0) 0), (List.getD (vl 16 x0) (((Int.toNat a2) * 4) + 1) 0), (List.getD (vl 16 x0) (((Int.toNat a2) * 4) + 2) 0), (List.getD (vl 16 x0) (((Int.toNat a2) * 4) + 3) 0)] ((Int.toNat a4) * 1) 0) < 30))) then
            bif (decide ((List.getD [(List.getD (vl 16 x0) (((Int.toNat a2) * 4) + 0) 0), (List.getD (vl 16 x0) (((Int.toNat a2) * 4) + 1) 0), (List.getD (vl 16 x0) (((Int.toNat a2) * 4) + 2) 0), (List.getD (vl 16 x0) (((Int.toNat a2) * 4) + 3) 0)] ((Int.toNat a4) * 1) 0) < 30)) || (!(decide ((List.getD [(List.getD (vl 16 x0) (((Int.toNat a2) * 4) + 0) 0), (List.getD (vl 16 x0) (((Int.toNat a2) * 4) + 1) 0), (List.getD (vl 16 x0) (((Int.toNat a2) * 4) + 2) 0), (List.getD (vl 16 x0) (((Int.toNat a2) * 4) + 3) 0)] ((Int.toNat a4) * 1) 0) < 30))) then
              bif (decide ((List.getD [(List.getD (vl 16 x0) (((Int.toNat a2) * 4) + 0) 0), (List.getD (vl 16 x0) (((Int.toNat a2) * 4) + 1) 0), (List.getD (vl 16 x0) (((Int.toNat a2) * 4) + 2) 0), (List.getD (vl 16 x0) (((Int.toNat a2) * 4) + 3) 0)] ((Int.toNat a4) * 1) 0) < 30)) || (decide ((List.getD [(List.getD (vl 16 x0) (((Int.toNat a2) * 4) + 0) 0), (List.getD (vl 16 x0) (((Int.toNat a2) * 4) + 1) 0), (List.getD (vl 16 x0) (((Int.toNat a2) * 4) + 2) 0), (List.getD (vl 16 x0) (((Int.toNat a2) * 4) + 3) 0)] ((Int.toNat a4) * 1) 0) > 600)) then
                some 4
              else
                wake_Check.l1 N x0 k1 a2 k3 (w (a4 + 1))
            else
              none
          else
            none
        else
          none
      else
        none
    else
      wake_Check.l0 N x0 k1 (w (a2 + 1)) := by kernel_rfl
theorem wake_Check.l0_zero (N : Nat) (x0 : List Int) (a2 : Int) : wake_Check.l0 N x0 0 a2 = none := by kernel_rfl
theorem wake_Check.l0_succ (N : Nat) (x0 : List Int) (k1 : Nat) (a2 : Int) : wake_Check.l0 N x0 (k1 + 1) a2 =
    bif decide (a2 < 4) then
      bif (decide (0 ≤ a2)) && (decide (a2 < 4)) then
        bif decide (((Int.toNat a2) * 4) + 4 ≤ 16) then
          wake_Check.l1 N x0 k1 a2 N 0
        else
          none
      else
        none
    else
      wake_Check.l2 N x0 N 0 := by kernel_rfl
theorem wake_Check.l1_clean (N : Nat) (x0 : List Int) (k1 : Nat) (a2 : Int) (k3 : Nat) (a4 : Int) : wake_Check.l1 N x0 k1 a2 (k3 + 1) a4 =
    bif decide (a4 < 4) then
      bif (decide (0 ≤ a4)) && (decide (a4 < 4)) then
        bif decide (((Int.toNat a4) * 1) < 4) then
          bif (decide ((List.getD [(List.getD (vl 16 x0) (((Int.toNat a2) * 4) + 0) 0), (List.getD (vl 16 x0) (((Int.toNat a2) * 4) + 1) 0), (List.getD (vl 16 x0) (((Int.toNat a2) * 4) + 2) 0), (List.getD (vl 16 x0) (((Int.toNat a2) * 4) + 3) 0)] ((Int.toNat a4) * 1) 0) < 30)) || (decide ((List.getD [(List.getD (vl 16 x0) (((Int.toNat a2) * 4) + 0) 0), (List.getD (vl 16 x0) (((Int.toNat a2) * 4) + 1) 0), (List.getD (vl 16 x0) (((Int.toNat a2) * 4) + 2) 0), (List.getD (vl 16 x0) (((Int.toNat a2) * 4) + 3) 0)] ((Int.toNat a4) * 1) 0) > 600)) then
            some 4
          else
            wake_Check.l1 N x0 k1 a2 k3 (w (a4 + 1))
        else
          none
      else
        none
    else
      wake_Check.l0 N x0 k1 (w (a2 + 1)) := by
  rw [wake_Check.l1_succ]; simp only [taut1, taut2, cond_true]
theorem wake_Check.eq (N : Nat) (x0 : List Int) : wake_Check.fn N x0 =
    wake_Check.l0 N x0 N 0 := by kernel_rfl

/-! ### runway_all: skyway/runway.all -/
def runway_all.kp : List (Nat × List (Nat × Option (TypeId × Ty))) := []
noncomputable def runway_all.G (N : Nat) : List (Nat × Spec) := [(17, .pure (runway_Check.S N)), (19, .pure (runway_Spans.S N)), (83, .pure (wake_Check.S N))]
noncomputable def runway_all.E (N : Nat) : Env := mkEnv (runway_all.G N) N tyTab runway_all.kp
noncomputable def runway_all.fn (N : Nat) (x : List (Int × Int × Bool × Int) × List (Int × Int) × List Int) : Option Int := evFn (runway_all.E N) Try.prog 3 Try.f85 false [.cell (.sl 35 (.pair (.int .i64) (.pair (.int .i64) (.pair (.bool) (.int .i64))))), .cell (.sl 60 (.pair (.int .i64) (.int .i64))), .agg (.vec 16 .i64)] [.val (.cell (.int .i64))] x
noncomputable def runway_all.S (N : Nat) : PSpec := ⟨false, [.cell (.sl 35 (.pair (.int .i64) (.pair (.int .i64) (.pair (.bool) (.int .i64))))), .cell (.sl 60 (.pair (.int .i64) (.int .i64))), .agg (.vec 16 .i64)], [.val (.cell (.int .i64))], runway_all.fn N⟩
theorem f85_enters : Enters Try.prog 85 := ⟨Try.f85, Try.func85, by kernel_rfl, by kernel_rfl⟩
theorem runway_all.tab (N : Nat) : TabOk Try.prog (runway_all.G N) := ⟨⟨runway_Check.enters, runway_Check.sound N⟩, ⟨runway_Spans.enters, runway_Spans.sound N⟩, ⟨wake_Check.enters, wake_Check.sound N⟩, trivial⟩
theorem runway_all.enters : Enters Try.prog 85 := f85_enters
theorem runway_all.sound (N : Nat) : Sound Try.prog 85 (runway_all.S N) := evFn_sound (specs_tab (runway_all.tab N)) (inls_tab (runway_all.tab N)) mixed 3 Try.func85 _ _ _
theorem runway_all.eq (N : Nat) (x0 : List (Int × Int × Bool × Int)) (x1 : List (Int × Int)) (x2 : List Int) : runway_all.fn N (x0, x1, x2) =
    (runway_Check.fn N x0).bind fun r1 =>
    bif !(r1 == 0) then
      some r1
    else
      (runway_Spans.fn N x1).bind fun r2 =>
      bif !(r2 == 0) then
        some r2
      else
        (wake_Check.fn N (vl 16 x2)).bind fun r3 =>
        some r3 := by kernel_rfl

/-! ### runway_opened: skyway/runway.opened -/
def runway_opened.kp : List (Nat × List (Nat × Option (TypeId × Ty))) := [(5, [(1, none), (6, none), (24, none), (25, none), (26, none)])]
noncomputable def runway_opened.G (N : Nat) : List (Nat × Spec) := []
noncomputable def runway_opened.E (N : Nat) : Env := mkEnv (runway_opened.G N) N tyTab runway_opened.kp
noncomputable def runway_opened.fn (N : Nat) (x : List (Int × Int) × Int) : Option (Int × Int) := evFn (runway_opened.E N) Try.prog 3 Try.f81 false [.cell (.sl 60 (.pair (.int .i64) (.int .i64))), .cell (.int .i64)] [.val (.cell (.int .i64)), .val (.cell (.int .i64))] x
noncomputable def runway_opened.S (N : Nat) : PSpec := ⟨false, [.cell (.sl 60 (.pair (.int .i64) (.int .i64))), .cell (.int .i64)], [.val (.cell (.int .i64)), .val (.cell (.int .i64))], runway_opened.fn N⟩
theorem f81_enters : Enters Try.prog 81 := ⟨Try.f81, Try.func81, by kernel_rfl, by kernel_rfl⟩
theorem runway_opened.tab (N : Nat) : TabOk Try.prog (runway_opened.G N) := trivial
theorem runway_opened.enters : Enters Try.prog 81 := f81_enters
theorem runway_opened.sound (N : Nat) : Sound Try.prog 81 (runway_opened.S N) := evFn_sound (specs_tab (runway_opened.tab N)) (inls_tab (runway_opened.tab N)) mixed 3 Try.func81 _ _ _
noncomputable def runway_opened.cd (N : Nat) (p : List Nat) : St → (Ex → St → Option (Int × Int)) → Option (Int × Int) := ev (runway_opened.E N) Try.prog (callD (runway_opened.E N) Try.prog 3) 0 (codeAt (bodyOf Try.f81) p)
noncomputable def runway_opened.fin : Ex → St → Option (Int × Int) := endK Try.prog Try.f81 [.val (.cell (.int .i64)), .val (.cell (.int .i64))]
noncomputable def runway_opened.l0 (N : Nat) (x0 : List (Int × Int)) (x1 : Int) (k1 : Nat) (a2 : Int) (a3 : Int) : Option (Int × Int) :=
  loopN (norm ((runway_opened.E N).keep 5) 0) (runway_opened.cd N [1, 1, 1, 0, 1, 0, 0]) k1
  ⟨[.any, .sc (.int .i64 x1), .any, .any, .any, .any, .sc (.int .i64 a2), .any, .any, .any, .any, .any, .any, .any, .any, .any, .any, .any, .any, .any, .any, .any, .any, .any, .ros false 60 (.pair (.int .i64) (.int .i64)) (List.drop 1 x0), .sc (.int .i64 ((List.drop 1 x0).length : Int)), .sc (.int .i64 a3), .any, .any, .any, .any, .any, .any, .any, .any, .any, .any, .any, .any, .any, .any, .any, .any, .any, .any, .any, .any, .any, .any, .any, .any, .any, .any], []⟩
  (blockK 0 (seqK (runway_opened.cd N [1, 1, 1, 1]) runway_opened.fin))
theorem runway_opened.l0_zero (N : Nat) (x0 : List (Int × Int)) (x1 : Int) (a2 : Int) (a3 : Int) : runway_opened.l0 N x0 x1 0 a2 a3 = none := by kernel_rfl
theorem runway_opened.l0_succ (N : Nat) (x0 : List (Int × Int)) (x1 : Int) (k1 : Nat) (a2 : Int) (a3 : Int) : runway_opened.l0 N x0 x1 (k1 + 1) a2 a3 =
    bif decide (a3 < ((List.drop 1 x0).length : Int)) then
      bif (decide (0 ≤ a3)) && (decide (a3 < ((List.drop 1 x0).length : Int))) then
        bif !(decide (x1 > (w (((List.getD (List.drop 1 x0) (Int.toNat a3) (0, 0)).1) - 180)))) || (decide (x1 > (w (((List.getD (List.drop 1 x0) (Int.toNat a3) (0, 0)).1) - 180)))) then
          bif !(decide (x1 > (w (((List.getD (List.drop 1 x0) (Int.toNat a3) (0, 0)).1) - 180)))) || (decide (x1 > (w (((List.getD (List.drop 1 x0) (Int.toNat a3) (0, 0)).1) - 180)))) then
            bif !(decide (x1 > (w (((List.getD (List.drop 1 x0) (Int.toNat a3) (0, 0)).1) - 180)))) || (decide (x1 > (w (((List.getD (List.drop 1 x0) (Int.toNat a3) (0, 0)).1) - 180)))) then
              bif !(decide (x1 > (w (((List.getD (List.drop 1 x0) (Int.toNat a3) (0, 0)).1) - 180)))) || (decide (x1 > (w (((List.getD (List.drop 1 x0) (Int.toNat a3) (0, 0)).1) - 180)))) then
                bif (!(decide (x1 > (w (((List.getD (List.drop 1 x0) (Int.toNat a3) (0, 0)).1) - 180))))) || (decide (x1 > (w (((List.getD (List.drop 1 x0) (Int.toNat a3) (0, 0)).1) - 180)))) then
                  bif (decide (x1 > (w (((List.getD (List.drop 1 x0) (Int.toNat a3) (0, 0)).1) - 180)))) && (decide (x1 < (w (((List.getD (List.drop 1 x0) (Int.toNat a3) (0, 0)).1) + 180)))) then
                    some (0, (w (((List.getD (List.drop 1 x0) (Int.toNat a3) (0, 0)).1) + 180)))
                  else
                  bif decide (x1 ≥ ((List.getD (List.drop 1 x0) (Int.toNat a3) (0, 0)).1)) then
                    runway_opened.l0 N x0 x1 k1 ((List.getD (List.drop 1 x0) (Int.toNat a3) (0, 0)).2) (w (a3 + 1))
                  else
                    runway_opened.l0 N x0 x1 k1 a2 (w (a3 + 1))
                else
                  none
              else
                none
            else
              none
          else
            none
        else
          none
      else
        none
    else
      some (a2, (-1)) := by kernel_rfl
theorem runway_opened.l0_clean (N : Nat) (x0 : List (Int × Int)) (x1 : Int) (k1 : Nat) (a2 : Int) (a3 : Int) : runway_opened.l0 N x0 x1 (k1 + 1) a2 a3 =
    bif decide (a3 < ((List.drop 1 x0).length : Int)) then
      bif (decide (0 ≤ a3)) && (decide (a3 < ((List.drop 1 x0).length : Int))) then
        bif (decide (x1 > (w (((List.getD (List.drop 1 x0) (Int.toNat a3) (0, 0)).1) - 180)))) && (decide (x1 < (w (((List.getD (List.drop 1 x0) (Int.toNat a3) (0, 0)).1) + 180)))) then
          some (0, (w (((List.getD (List.drop 1 x0) (Int.toNat a3) (0, 0)).1) + 180)))
        else
        bif decide (x1 ≥ ((List.getD (List.drop 1 x0) (Int.toNat a3) (0, 0)).1)) then
          runway_opened.l0 N x0 x1 k1 ((List.getD (List.drop 1 x0) (Int.toNat a3) (0, 0)).2) (w (a3 + 1))
        else
          runway_opened.l0 N x0 x1 k1 a2 (w (a3 + 1))
      else
        none
    else
      some (a2, (-1)) := by
  rw [runway_opened.l0_succ]; simp only [taut7, taut8, cond_true]
theorem runway_opened.l0_cons (N : Nat) (x0 : List (Int × Int)) (x1 : Int) (k1 : Nat) (a2 : Int) {pre r} {x} (hl : (List.drop 1 x0) = pre ++ x :: r) (hb : (List.drop 1 x0).length < 4611686018427387904) : runway_opened.l0 N x0 x1 (k1 + 1) a2 (pre.length : Int) =
    bif (decide (x1 > (w ((x.1) - 180)))) && (decide (x1 < (w ((x.1) + 180)))) then
      some (0, (w ((x.1) + 180)))
    else
    bif decide (x1 ≥ (x.1)) then
      runway_opened.l0 N x0 x1 k1 x.2 ((pre.length : Int) + 1)
    else
      runway_opened.l0 N x0 x1 k1 a2 ((pre.length : Int) + 1) := by
  have hlen : (List.drop 1 x0).length = pre.length + 1 + r.length := by rw [hl]; simp; omega
  have e1 : decide ((pre.length : Int) < ((List.drop 1 x0).length : Int)) = true := by rw [decide_eq_true_iff]; omega
  have e2 : decide (0 ≤ (pre.length : Int)) = true := by rw [decide_eq_true_iff]; omega
  have e4 : w ((pre.length : Int) + 1) = (pre.length : Int) + 1 := w_next hl hb
  have e5 : List.take pre.length (List.drop 1 x0) = pre := by rw [hl]; simp
  have e6 : decide ((pre.length : Int) ≤ ((List.drop 1 x0).length : Int)) = true := by rw [decide_eq_true_iff]; omega
  have g0 : List.getD (List.drop 1 x0) pre.length (0, 0) = x := by rw [hl]; exact getD_mid pre x r _
  rw [runway_opened.l0_clean]
  simp -implicitDefEqProofs only [Int.toNat_natCast, e1, e2, e4, e6, g0, e5, Bool.and_true, Bool.true_and, Bool.true_or, cond_true]
theorem runway_opened.l0_nil (N : Nat) (x0 : List (Int × Int)) (x1 : Int) (k1 : Nat) (a2 : Int) : runway_opened.l0 N x0 x1 (k1 + 1) a2 ((List.drop 1 x0).length : Int) =
    some (a2, (-1)) := by
  have e1 : decide (((List.drop 1 x0).length : Int) < ((List.drop 1 x0).length : Int)) = false := by rw [decide_eq_false_iff_not]; omega
  rw [runway_opened.l0_clean]
  simp -implicitDefEqProofs only [e1, cond_false]
theorem runway_opened.eq (N : Nat) (x0 : List (Int × Int)) (x1 : Int) : runway_opened.fn N (x0, x1) =
    bif decide (0 < (x0.length : Int)) then
      bif decide (x1 < ((List.getD x0 0 (0, 0)).1)) then
        bif decide (0 < (x0.length : Int)) then
          some (0, (List.getD x0 0 (0, 0)).1)
        else
          none
      else
      bif decide (0 < (x0.length : Int)) then
        bif decide (1 ≤ (x0.length : Int)) then
          runway_opened.l0 N x0 x1 N ((List.getD x0 0 (0, 0)).2) 0
        else
          none
      else
        none
    else
      none := by kernel_rfl

/-! ### runway_gap: skyway/runway.gap -/
def runway_gap.kp : List (Nat × List (Nat × Option (TypeId × Ty))) := []
noncomputable def runway_gap.G (N : Nat) : List (Nat × Spec) := []
noncomputable def runway_gap.E (N : Nat) : Env := mkEnv (runway_gap.G N) N tyTab runway_gap.kp
noncomputable def runway_gap.fn (N : Nat) (x : List Int × (Int × Int × Bool × Int) × Int × Int × Bool × Int) : Option Int := evFn (runway_gap.E N) Try.prog 3 Try.f84 false [.agg (.vec 16 .i64), .agg (.pair (.int .i64) (.pair (.int .i64) (.pair (.bool) (.int .i64)))), .agg (.pair (.int .i64) (.pair (.int .i64) (.pair (.bool) (.int .i64))))] [.val (.cell (.int .i64))] x
noncomputable def runway_gap.S (N : Nat) : PSpec := ⟨false, [.agg (.vec 16 .i64), .agg (.pair (.int .i64) (.pair (.int .i64) (.pair (.bool) (.int .i64)))), .agg (.pair (.int .i64) (.pair (.int .i64) (.pair (.bool) (.int .i64))))], [.val (.cell (.int .i64))], runway_gap.fn N⟩
theorem f84_enters : Enters Try.prog 84 := ⟨Try.f84, Try.func84, by kernel_rfl, by kernel_rfl⟩
theorem runway_gap.tab (N : Nat) : TabOk Try.prog (runway_gap.G N) := trivial
theorem runway_gap.enters : Enters Try.prog 84 := f84_enters
theorem runway_gap.sound (N : Nat) : Sound Try.prog 84 (runway_gap.S N) := evFn_sound (specs_tab (runway_gap.tab N)) (inls_tab (runway_gap.tab N)) mixed 3 Try.func84 _ _ _
theorem runway_gap.eq (N : Nat) (x0 : List Int) (x1 : Int × Int × Bool × Int) (x2 : Int × Int × Bool × Int) : runway_gap.fn N (x0, x1, x2) =
    bif x1.2.2.1 == x2.2.2.1 then
      bif (decide (0 ≤ x1.2.1)) && (decide (x1.2.1 < 4)) then
        bif (decide (0 ≤ x2.2.1)) && (decide (x2.2.1 < 4)) then
          bif decide (((0 + ((Int.toNat x1.2.1) * 4)) + ((Int.toNat x2.2.1) * 1)) < 16) then
            some (List.getD (vl 16 x0) ((0 + ((Int.toNat x1.2.1) * 4)) + ((Int.toNat x2.2.1) * 1)) 0)
          else
            none
        else
          none
      else
        none
    else
      some 60 := by kernel_rfl

/-! ### runway_wrong: skyway/runway.wrong -/
def runway_wrong.kp : List (Nat × List (Nat × Option (TypeId × Ty))) := [(2, [(0, none), (3, none), (9, none), (10, none), (11, none)]), (5, [(0, none), (3, none), (6, none), (7, none), (8, none), (9, none), (10, none), (11, none)])]
noncomputable def runway_wrong.G (N : Nat) : List (Nat × Spec) := [(84, .pure (runway_gap.S N))]
noncomputable def runway_wrong.E (N : Nat) : Env := mkEnv (runway_wrong.G N) N tyTab runway_wrong.kp
noncomputable def runway_wrong.fn (N : Nat) (x : List (Int × Int × Bool × Int) × List Int) : Option (Int × Int) := evFn (runway_wrong.E N) Try.prog 3 Try.f86 false [.cell (.sl 35 (.pair (.int .i64) (.pair (.int .i64) (.pair (.bool) (.int .i64))))), .agg (.vec 16 .i64)] [.val (.cell (.int .i64)), .val (.cell (.int .i64))] x
noncomputable def runway_wrong.S (N : Nat) : PSpec := ⟨false, [.cell (.sl 35 (.pair (.int .i64) (.pair (.int .i64) (.pair (.bool) (.int .i64))))), .agg (.vec 16 .i64)], [.val (.cell (.int .i64)), .val (.cell (.int .i64))], runway_wrong.fn N⟩
theorem f86_enters : Enters Try.prog 86 := ⟨Try.f86, Try.func86, by kernel_rfl, by kernel_rfl⟩
theorem runway_wrong.tab (N : Nat) : TabOk Try.prog (runway_wrong.G N) := ⟨⟨runway_gap.enters, runway_gap.sound N⟩, trivial⟩
theorem runway_wrong.enters : Enters Try.prog 86 := f86_enters
theorem runway_wrong.sound (N : Nat) : Sound Try.prog 86 (runway_wrong.S N) := evFn_sound (specs_tab (runway_wrong.tab N)) (inls_tab (runway_wrong.tab N)) mixed 3 Try.func86 _ _ _
noncomputable def runway_wrong.cd (N : Nat) (p : List Nat) : St → (Ex → St → Option (Int × Int)) → Option (Int × Int) := ev (runway_wrong.E N) Try.prog (callD (runway_wrong.E N) Try.prog 3) 0 (codeAt (bodyOf Try.f86) p)
noncomputable def runway_wrong.fin : Ex → St → Option (Int × Int) := endK Try.prog Try.f86 [.val (.cell (.int .i64)), .val (.cell (.int .i64))]
noncomputable def runway_wrong.l0 (N : Nat) (x0 : List (Int × Int × Bool × Int)) (x1 : List Int) (k1 : Nat) (a2 : Int) : Option (Int × Int) :=
  loopN (norm ((runway_wrong.E N).keep 2) 0) (runway_wrong.cd N [1, 0, 1, 0, 0]) k1
  ⟨[.ros false 35 (.pair (.int .i64) (.pair (.int .i64) (.pair (.bool) (.int .i64)))) x0, .any, .any, .ptr 0 0, .any, .any, .any, .any, .any, .ros false 35 (.pair (.int .i64) (.pair (.int .i64) (.pair (.bool) (.int .i64)))) x0, .sc (.int .i64 (x0.length : Int)), .sc (.int .i64 a2), .any, .any, .any, .any, .any, .any, .any, .any, .any, .any, .any, .any, .any, .any, .any, .any, .any, .any, .any, .any, .any, .any, .any, .any, .any, .any, .any, .any, .any, .any, .any], [.cells [.sc (.int .i64 (List.getD x1 0 0)), .sc (.int .i64 (List.getD x1 1 0)), .sc (.int .i64 (List.getD x1 2 0)), .sc (.int .i64 (List.getD x1 3 0)), .sc (.int .i64 (List.getD x1 4 0)), .sc (.int .i64 (List.getD x1 5 0)), .sc (.int .i64 (List.getD x1 6 0)), .sc (.int .i64 (List.getD x1 7 0)), .sc (.int .i64 (List.getD x1 8 0)), .sc (.int .i64 (List.getD x1 9 0)), .sc (.int .i64 (List.getD x1 10 0)), .sc (.int .i64 (List.getD x1 11 0)), .sc (.int .i64 (List.getD x1 12 0)), .sc (.int .i64 (List.getD x1 13 0)), .sc (.int .i64 (List.getD x1 14 0)), .sc (.int .i64 (List.getD x1 15 0))] 26]⟩
  (blockK 0 (seqK (runway_wrong.cd N [1, 1]) runway_wrong.fin))
noncomputable def runway_wrong.l1 (N : Nat) (x0 : List (Int × Int × Bool × Int)) (x1 : List Int) (k1 : Nat) (a2 : Int) (k3 : Nat) (a4 : Int) : Option (Int × Int) :=
  loopN (norm ((runway_wrong.E N).keep 5) 0) (runway_wrong.cd N [1, 0, 1, 0, 0, 1, 1, 0, 0, 1, 1, 0, 0]) k3
  ⟨[.ros false 35 (.pair (.int .i64) (.pair (.int .i64) (.pair (.bool) (.int .i64)))) x0, .any, .any, .ptr 0 0, .any, .any, .sc (.int .i64 a2), .ptr 1 0, .sc (.int .i64 a4), .ros false 35 (.pair (.int .i64) (.pair (.int .i64) (.pair (.bool) (.int .i64)))) x0, .sc (.int .i64 (x0.length : Int)), .sc (.int .i64 a2), .any, .any, .any, .any, .any, .any, .any, .any, .any, .any, .any, .any, .any, .any, .any, .any, .any, .any, .any, .any, .any, .any, .any, .any, .any, .any, .any, .any, .any, .any, .any], [.cells [.sc (.int .i64 (List.getD x1 0 0)), .sc (.int .i64 (List.getD x1 1 0)), .sc (.int .i64 (List.getD x1 2 0)), .sc (.int .i64 (List.getD x1 3 0)), .sc (.int .i64 (List.getD x1 4 0)), .sc (.int .i64 (List.getD x1 5 0)), .sc (.int .i64 (List.getD x1 6 0)), .sc (.int .i64 (List.getD x1 7 0)), .sc (.int .i64 (List.getD x1 8 0)), .sc (.int .i64 (List.getD x1 9 0)), .sc (.int .i64 (List.getD x1 10 0)), .sc (.int .i64 (List.getD x1 11 0)), .sc (.int .i64 (List.getD x1 12 0)), .sc (.int .i64 (List.getD x1 13 0)), .sc (.int .i64 (List.getD x1 14 0)), .sc (.int .i64 (List.getD x1 15 0))] 26, .cells [.sc (.int .i64 ((List.getD x0 (Int.toNat a2) (0, (0, (false, 0)))).1)), .sc (.int .i64 (((List.getD x0 (Int.toNat a2) (0, (0, (false, 0)))).2).1)), .sc (.bool ((((List.getD x0 (Int.toNat a2) (0, (0, (false, 0)))).2).2).1)), .sc (.int .i64 ((((List.getD x0 (Int.toNat a2) (0, (0, (false, 0)))).2).2).2))] 35]⟩
  (blockK 2 (blockK 1 (seqK (runway_wrong.cd N [1, 0, 1, 0, 0, 1, 1, 1]) (loopK (norm ((runway_wrong.E N).keep 2) 0) (runway_wrong.cd N [1, 0, 1, 0, 0]) k1 (blockK 0 (seqK (runway_wrong.cd N [1, 1]) runway_wrong.fin))))))
theorem runway_wrong.l1_zero (N : Nat) (x0 : List (Int × Int × Bool × Int)) (x1 : List Int) (k1 : Nat) (a2 : Int) (a4 : Int) : runway_wrong.l1 N x0 x1 k1 a2 0 a4 = none := by kernel_rfl
theorem runway_wrong.l1_succ (N : Nat) (x0 : List (Int × Int × Bool × Int)) (x1 : List Int) (k1 : Nat) (a2 : Int) (k3 : Nat) (a4 : Int) : runway_wrong.l1 N x0 x1 k1 a2 (k3 + 1) a4 =
    bif decide (a4 < (x0.length : Int)) then
      bif (decide (0 ≤ a4)) && (decide (a4 < (x0.length : Int))) then
        bif (decide (0 ≤ a4)) && (decide (a4 < (x0.length : Int))) then
          (runway_gap.fn N ((vl 16 x1), List.getD x0 (Int.toNat a2) (0, (0, (false, 0))), List.getD x0 (Int.toNat a4) (0, (0, (false, 0))))).bind fun r5 =>
          bif decide ((w (((List.getD x0 (Int.toNat a4) (0, (0, (false, 0)))).1) - ((List.getD x0 (Int.toNat a2) (0, (0, (false, 0)))).1))) < r5) then
            some (a2, a4)
          else
            runway_wrong.l1 N x0 x1 k1 a2 k3 (w (a4 + 1))
        else
          none
      else
        none
    else
      runway_wrong.l0 N x0 x1 k1 (w (a2 + 1)) := by kernel_rfl
theorem runway_wrong.l0_zero (N : Nat) (x0 : List (Int × Int × Bool × Int)) (x1 : List Int) (a2 : Int) : runway_wrong.l0 N x0 x1 0 a2 = none := by kernel_rfl
theorem runway_wrong.l0_succ (N : Nat) (x0 : List (Int × Int × Bool × Int)) (x1 : List Int) (k1 : Nat) (a2 : Int) : runway_wrong.l0 N x0 x1 (k1 + 1) a2 =
    bif decide (a2 < (x0.length : Int)) then
      bif (decide (0 ≤ a2)) && (decide (a2 < (x0.length : Int))) then
        runway_wrong.l1 N x0 x1 k1 a2 N (w (a2 + 1))
      else
        none
    else
      some ((-1), (-1)) := by kernel_rfl
theorem runway_wrong.l1_cons (N : Nat) (x0 : List (Int × Int × Bool × Int)) (x1 : List Int) (k1 : Nat) (a2 : Int) (k3 : Nat) {pre r} {x} (hl : x0 = pre ++ x :: r) (hb : x0.length < 4611686018427387904) : runway_wrong.l1 N x0 x1 k1 a2 (k3 + 1) (pre.length : Int) =
    (runway_gap.fn N ((vl 16 x1), List.getD x0 (Int.toNat a2) (0, (0, (false, 0))), x)).bind fun r5 =>
    bif decide ((w ((x.1) - ((List.getD x0 (Int.toNat a2) (0, (0, (false, 0)))).1))) < r5) then
      some (a2, (pre.length : Int))
    else
      runway_wrong.l1 N x0 x1 k1 a2 k3 ((pre.length : Int) + 1) := by
  have hlen : x0.length = pre.length + 1 + r.length := by rw [hl]; simp; omega
  have e1 : decide ((pre.length : Int) < (x0.length : Int)) = true := by rw [decide_eq_true_iff]; omega
  have e2 : decide (0 ≤ (pre.length : Int)) = true := by rw [decide_eq_true_iff]; omega
  have e4 : w ((pre.length : Int) + 1) = (pre.length : Int) + 1 := w_next hl hb
  have e5 : List.take pre.length x0 = pre := by rw [hl]; simp
  have e6 : decide ((pre.length : Int) ≤ (x0.length : Int)) = true := by rw [decide_eq_true_iff]; omega
  have g0 : List.getD x0 pre.length (0, (0, (false, 0))) = x := by rw [hl]; exact getD_mid pre x r _
  rw [runway_wrong.l1_succ]
  simp -implicitDefEqProofs only [Int.toNat_natCast, e1, e2, e4, e6, g0, e5, Bool.and_true, Bool.true_and, Bool.true_or, cond_true]
theorem runway_wrong.l1_nil (N : Nat) (x0 : List (Int × Int × Bool × Int)) (x1 : List Int) (k1 : Nat) (a2 : Int) (k3 : Nat) : runway_wrong.l1 N x0 x1 k1 a2 (k3 + 1) (x0.length : Int) =
    runway_wrong.l0 N x0 x1 k1 (w (a2 + 1)) := by
  have e1 : decide ((x0.length : Int) < (x0.length : Int)) = false := by rw [decide_eq_false_iff_not]; omega
  rw [runway_wrong.l1_succ]
  simp -implicitDefEqProofs only [e1, cond_false]
theorem runway_wrong.l0_cons (N : Nat) (x0 : List (Int × Int × Bool × Int)) (x1 : List Int) (k1 : Nat) {pre r} {x} (hl : x0 = pre ++ x :: r) (hb : x0.length < 4611686018427387904) : runway_wrong.l0 N x0 x1 (k1 + 1) (pre.length : Int) =
    runway_wrong.l1 N x0 x1 k1 (pre.length : Int) N ((pre.length : Int) + 1) := by
  have hlen : x0.length = pre.length + 1 + r.length := by rw [hl]; simp; omega
  have e1 : decide ((pre.length : Int) < (x0.length : Int)) = true := by rw [decide_eq_true_iff]; omega
  have e2 : decide (0 ≤ (pre.length : Int)) = true := by rw [decide_eq_true_iff]; omega
  have e4 : w ((pre.length : Int) + 1) = (pre.length : Int) + 1 := w_next hl hb
  have e5 : List.take pre.length x0 = pre := by rw [hl]; simp
  have e6 : decide ((pre.length : Int) ≤ (x0.length : Int)) = true := by rw [decide_eq_true_iff]; omega
  rw [runway_wrong.l0_succ]
  simp -implicitDefEqProofs only [Int.toNat_natCast, e1, e2, e4, e6, e5, Bool.and_true, Bool.true_and, Bool.true_or, cond_true]
theorem runway_wrong.l0_nil (N : Nat) (x0 : List (Int × Int × Bool × Int)) (x1 : List Int) (k1 : Nat) : runway_wrong.l0 N x0 x1 (k1 + 1) (x0.length : Int) =
    some ((-1), (-1)) := by
  have e1 : decide ((x0.length : Int) < (x0.length : Int)) = false := by rw [decide_eq_false_iff_not]; omega
  rw [runway_wrong.l0_succ]
  simp -implicitDefEqProofs only [e1, cond_false]
theorem runway_wrong.eq (N : Nat) (x0 : List (Int × Int × Bool × Int)) (x1 : List Int) : runway_wrong.fn N (x0, x1) =
    runway_wrong.l0 N x0 x1 N 0 := by kernel_rfl

/-! ### runway_Safe: skyway/runway.Safe -/
def runway_Safe.kp : List (Nat × List (Nat × Option (TypeId × Ty))) := [(5, [(0, none), (1, none), (5, none), (23, none), (24, none), (25, none)])]
noncomputable def runway_Safe.G (N : Nat) : List (Nat × Spec) := [(81, .pure (runway_opened.S N)), (85, .pure (runway_all.S N)), (86, .pure (runway_wrong.S N))]
noncomputable def runway_Safe.E (N : Nat) : Env := mkEnv (runway_Safe.G N) N tyTab runway_Safe.kp
noncomputable def runway_Safe.fn (N : Nat) (x : List (Int × Int × Bool × Int) × List (Int × Int) × List Int) : Option (Int × Int × Int) := evFn (runway_Safe.E N) Try.prog 3 Try.f24 false [.cell (.sl 35 (.pair (.int .i64) (.pair (.int .i64) (.pair (.bool) (.int .i64))))), .cell (.sl 60 (.pair (.int .i64) (.int .i64))), .agg (.vec 16 .i64)] [.val (.cell (.int .i64)), .val (.cell (.int .i64)), .val (.cell (.int .i64))] x
noncomputable def runway_Safe.S (N : Nat) : PSpec := ⟨false, [.cell (.sl 35 (.pair (.int .i64) (.pair (.int .i64) (.pair (.bool) (.int .i64))))), .cell (.sl 60 (.pair (.int .i64) (.int .i64))), .agg (.vec 16 .i64)], [.val (.cell (.int .i64)), .val (.cell (.int .i64)), .val (.cell (.int .i64))], runway_Safe.fn N⟩
theorem f24_enters : Enters Try.prog 24 := ⟨Try.f24, Try.func24, by kernel_rfl, by kernel_rfl⟩
theorem runway_Safe.tab (N : Nat) : TabOk Try.prog (runway_Safe.G N) := ⟨⟨runway_opened.enters, runway_opened.sound N⟩, ⟨runway_all.enters, runway_all.sound N⟩, ⟨runway_wrong.enters, runway_wrong.sound N⟩, trivial⟩
theorem runway_Safe.enters : Enters Try.prog 24 := f24_enters
theorem runway_Safe.sound (N : Nat) : Sound Try.prog 24 (runway_Safe.S N) := evFn_sound (specs_tab (runway_Safe.tab N)) (inls_tab (runway_Safe.tab N)) mixed 3 Try.func24 _ _ _
noncomputable def runway_Safe.cd (N : Nat) (p : List Nat) : St → (Ex → St → Option (Int × Int × Int)) → Option (Int × Int × Int) := ev (runway_Safe.E N) Try.prog (callD (runway_Safe.E N) Try.prog 3) 0 (codeAt (bodyOf Try.f24) p)
noncomputable def runway_Safe.fin : Ex → St → Option (Int × Int × Int) := endK Try.prog Try.f24 [.val (.cell (.int .i64)), .val (.cell (.int .i64)), .val (.cell (.int .i64))]
noncomputable def runway_Safe.l0 (N : Nat) (x0 : List (Int × Int × Bool × Int)) (x1 : List (Int × Int)) (x2 : List Int) (k2 : Nat) (a3 : Int) : Option (Int × Int × Int) :=
  loopN (norm ((runway_Safe.E N).keep 5) 0) (runway_Safe.cd N [1, 1, 0, 1, 0, 0]) k2
  ⟨[.ros false 35 (.pair (.int .i64) (.pair (.int .i64) (.pair (.bool) (.int .i64)))) x0, .ros false 60 (.pair (.int .i64) (.int .i64)) x1, .any, .any, .any, .ptr 0 0, .any, .any, .any, .any, .any, .any, .any, .any, .any, .any, .any, .any, .any, .any, .any, .any, .any, .ros false 35 (.pair (.int .i64) (.pair (.int .i64) (.pair (.bool) (.int .i64)))) x0, .sc (.int .i64 (x0.length : Int)), .sc (.int .i64 a3), .any, .any, .any, .any, .any, .any, .any, .any, .any, .any, .any, .any, .any, .any, .any, .any, .any, .any, .any, .any, .any, .any, .any, .any, .any, .any, .any, .any, .any, .any, .any, .any], [.cells [.sc (.int .i64 (List.getD x2 0 0)), .sc (.int .i64 (List.getD x2 1 0)), .sc (.int .i64 (List.getD x2 2 0)), .sc (.int .i64 (List.getD x2 3 0)), .sc (.int .i64 (List.getD x2 4 0)), .sc (.int .i64 (List.getD x2 5 0)), .sc (.int .i64 (List.getD x2 6 0)), .sc (.int .i64 (List.getD x2 7 0)), .sc (.int .i64 (List.getD x2 8 0)), .sc (.int .i64 (List.getD x2 9 0)), .sc (.int .i64 (List.getD x2 10 0)), .sc (.int .i64 (List.getD x2 11 0)), .sc (.int .i64 (List.getD x2 12 0)), .sc (.int .i64 (List.getD x2 13 0)), .sc (.int .i64 (List.getD x2 14 0)), .sc (.int .i64 (List.getD x2 15 0))] 26]⟩
  (blockK 0 (seqK (runway_Safe.cd N [1, 1, 1]) runway_Safe.fin))
theorem runway_Safe.l0_zero (N : Nat) (x0 : List (Int × Int × Bool × Int)) (x1 : List (Int × Int)) (x2 : List Int) (a3 : Int) : runway_Safe.l0 N x0 x1 x2 0 a3 = none := by kernel_rfl
theorem runway_Safe.l0_succ (N : Nat) (x0 : List (Int × Int × Bool × Int)) (x1 : List (Int × Int)) (x2 : List Int) (k2 : Nat) (a3 : Int) : runway_Safe.l0 N x0 x1 x2 (k2 + 1) a3 =
    bif decide (a3 < (x0.length : Int)) then
      bif (decide (0 ≤ a3)) && (decide (a3 < (x0.length : Int))) then
        (runway_opened.fn N (x1, (List.getD x0 (Int.toNat a3) (0, (0, (false, 0)))).1)).bind fun r4 =>
        bif !(!(decide (r4.2 ≥ 0))) || (!(decide (r4.2 ≥ 0))) then
          bif !(!(decide (r4.2 ≥ 0))) || (!(decide (r4.2 ≥ 0))) then
            bif !(!(decide (r4.2 ≥ 0))) || (!(decide (r4.2 ≥ 0))) then
              bif (decide (r4.2 ≥ 0)) || (!(decide (r4.2 ≥ 0))) then
                bif (decide (r4.2 ≥ 0)) || (!(r4.1 == ((((List.getD x0 (Int.toNat a3) (0, (0, (false, 0)))).2).2).2))) then
                  some (a3, a3, 14)
                else
                  runway_Safe.l0 N x0 x1 x2 k2 (w (a3 + 1))
              else
                none
            else
              none
          else
            none
        else
          none
      else
        none
    else
      (runway_wrong.fn N (x0, (vl 16 x2))).bind fun r5 =>
      bif decide (r5.1 ≥ 0) then
        some (r5.1, r5.2, 15)
      else
        some (0, 0, 0) := by kernel_rfl
theorem runway_Safe.l0_clean (N : Nat) (x0 : List (Int × Int × Bool × Int)) (x1 : List (Int × Int)) (x2 : List Int) (k2 : Nat) (a3 : Int) : runway_Safe.l0 N x0 x1 x2 (k2 + 1) a3 =
    bif decide (a3 < (x0.length : Int)) then
      bif (decide (0 ≤ a3)) && (decide (a3 < (x0.length : Int))) then
        (runway_opened.fn N (x1, (List.getD x0 (Int.toNat a3) (0, (0, (false, 0)))).1)).bind fun r4 =>
        bif (decide (r4.2 ≥ 0)) || (!(r4.1 == ((((List.getD x0 (Int.toNat a3) (0, (0, (false, 0)))).2).2).2))) then
          some (a3, a3, 14)
        else
          runway_Safe.l0 N x0 x1 x2 k2 (w (a3 + 1))
      else
        none
    else
      (runway_wrong.fn N (x0, (vl 16 x2))).bind fun r5 =>
      bif decide (r5.1 ≥ 0) then
        some (r5.1, r5.2, 15)
      else
        some (0, 0, 0) := by
  rw [runway_Safe.l0_succ]; simp only [taut1, taut2, cond_true]
theorem runway_Safe.l0_cons (N : Nat) (x0 : List (Int × Int × Bool × Int)) (x1 : List (Int × Int)) (x2 : List Int) (k2 : Nat) {pre r} {x} (hl : x0 = pre ++ x :: r) (hb : x0.length < 4611686018427387904) : runway_Safe.l0 N x0 x1 x2 (k2 + 1) (pre.length : Int) =
    (runway_opened.fn N (x1, x.1)).bind fun r4 =>
    bif (decide (r4.2 ≥ 0)) || (!(r4.1 == (((x.2).2).2))) then
      some ((pre.length : Int), (pre.length : Int), 14)
    else
      runway_Safe.l0 N x0 x1 x2 k2 ((pre.length : Int) + 1) := by
  have hlen : x0.length = pre.length + 1 + r.length := by rw [hl]; simp; omega
  have e1 : decide ((pre.length : Int) < (x0.length : Int)) = true := by rw [decide_eq_true_iff]; omega
  have e2 : decide (0 ≤ (pre.length : Int)) = true := by rw [decide_eq_true_iff]; omega
  have e4 : w ((pre.length : Int) + 1) = (pre.length : Int) + 1 := w_next hl hb
  have e5 : List.take pre.length x0 = pre := by rw [hl]; simp
  have e6 : decide ((pre.length : Int) ≤ (x0.length : Int)) = true := by rw [decide_eq_true_iff]; omega
  have g0 : List.getD x0 pre.length (0, (0, (false, 0))) = x := by rw [hl]; exact getD_mid pre x r _
  rw [runway_Safe.l0_clean]
  simp -implicitDefEqProofs only [Int.toNat_natCast, e1, e2, e4, e6, g0, e5, Bool.and_true, Bool.true_and, Bool.true_or, cond_true]
theorem runway_Safe.l0_nil (N : Nat) (x0 : List (Int × Int × Bool × Int)) (x1 : List (Int × Int)) (x2 : List Int) (k2 : Nat) : runway_Safe.l0 N x0 x1 x2 (k2 + 1) (x0.length : Int) =
    (runway_wrong.fn N (x0, (vl 16 x2))).bind fun r5 =>
    bif decide (r5.1 ≥ 0) then
      some (r5.1, r5.2, 15)
    else
      some (0, 0, 0) := by
  have e1 : decide ((x0.length : Int) < (x0.length : Int)) = false := by rw [decide_eq_false_iff_not]; omega
  rw [runway_Safe.l0_clean]
  simp -implicitDefEqProofs only [e1, cond_false]
theorem runway_Safe.eq (N : Nat) (x0 : List (Int × Int × Bool × Int)) (x1 : List (Int × Int)) (x2 : List Int) : runway_Safe.fn N (x0, x1, x2) =
    (runway_all.fn N (x0, x1, (vl 16 x2))).bind fun r1 =>
    bif !(r1 == 0) then
      some (0, 0, r1)
    else
      runway_Safe.l0 N x0 x1 x2 N 0 := by kernel_rfl

/-! ### slices_Clone_RunwayMove: slices.Clone[[]skyway/api.RunwayMove,skyway/api.RunwayMove] -/
def slices_Clone_RunwayMove.kp : List (Nat × List (Nat × Option (TypeId × Ty))) := []
noncomputable def slices_Clone_RunwayMove.G (N : Nat) : List (Nat × Spec) := []
noncomputable def slices_Clone_RunwayMove.E (N : Nat) : Env := mkEnv (slices_Clone_RunwayMove.G N) N tyTab slices_Clone_RunwayMove.kp
noncomputable def slices_Clone_RunwayMove.fn (N : Nat) (x : List (Int × Int × Bool × Int)) : Option (List (Int × Int × Bool × Int)) := evFn (slices_Clone_RunwayMove.E N) Try.prog 3 Try.f28 false [.cell (.sl 35 (.pair (.int .i64) (.pair (.int .i64) (.pair (.bool) (.int .i64)))))] [.own 35 (.pair (.int .i64) (.pair (.int .i64) (.pair (.bool) (.int .i64))))] x
noncomputable def slices_Clone_RunwayMove.S (N : Nat) : PSpec := ⟨false, [.cell (.sl 35 (.pair (.int .i64) (.pair (.int .i64) (.pair (.bool) (.int .i64)))))], [.own 35 (.pair (.int .i64) (.pair (.int .i64) (.pair (.bool) (.int .i64))))], slices_Clone_RunwayMove.fn N⟩
theorem f28_enters : Enters Try.prog 28 := ⟨Try.f28, Try.func28, by kernel_rfl, by kernel_rfl⟩
theorem slices_Clone_RunwayMove.tab (N : Nat) : TabOk Try.prog (slices_Clone_RunwayMove.G N) := trivial
theorem slices_Clone_RunwayMove.enters : Enters Try.prog 28 := f28_enters
theorem slices_Clone_RunwayMove.sound (N : Nat) : Sound Try.prog 28 (slices_Clone_RunwayMove.S N) := evFn_sound (specs_tab (slices_Clone_RunwayMove.tab N)) (inls_tab (slices_Clone_RunwayMove.tab N)) mixed 3 Try.func28 _ _ _
theorem slices_Clone_RunwayMove.eq (N : Nat) (x0 : List (Int × Int × Bool × Int)) : slices_Clone_RunwayMove.fn N x0 =
    bif x0.isEmpty then
      agree (
        some []) (
        bif decide ((0 + x0.length) * 32 ≤ 140737488355328) && decide ((0 + x0.length) ≤ maxLen) then
          some x0
        else
          none)
    else
    bif decide ((0 + x0.length) * 32 ≤ 140737488355328) && decide ((0 + x0.length) ≤ maxLen) then
      some x0
    else
      none := by kernel_rfl
theorem slices_Clone_RunwayMove.v (N : Nat) (x0 : List (Int × Int × Bool × Int)) (h : x0.length * 32 ≤ 140737488355328) : slices_Clone_RunwayMove.fn N x0 = some x0 := clone_v (B := 32) (slices_Clone_RunwayMove.eq N x0) (by omega) h

/-! ### runway_later: skyway/runway.later -/
def runway_later.kp : List (Nat × List (Nat × Option (TypeId × Ty))) := []
noncomputable def runway_later.G (N : Nat) : List (Nat × Spec) := [(84, .pure (runway_gap.S N))]
noncomputable def runway_later.E (N : Nat) : Env := mkEnv (runway_later.G N) N tyTab runway_later.kp
noncomputable def runway_later.fn (N : Nat) (x : (Int × Int × Bool × Int) × List Int × (Int × Int) × Int) : Option Int := evFn (runway_later.E N) Try.prog 3 Try.f123 false [.agg (.pair (.int .i64) (.pair (.int .i64) (.pair (.bool) (.int .i64)))), .agg (.vec 16 .i64), .agg (.pair (.int .i64) (.int .i64)), .cell (.int .i64)] [.val (.cell (.int .i64))] x
noncomputable def runway_later.S (N : Nat) : PSpec := ⟨false, [.agg (.pair (.int .i64) (.pair (.int .i64) (.pair (.bool) (.int .i64)))), .agg (.vec 16 .i64), .agg (.pair (.int .i64) (.int .i64)), .cell (.int .i64)], [.val (.cell (.int .i64))], runway_later.fn N⟩
theorem f123_enters : Enters Try.prog 123 := ⟨Try.f123, Try.func123, by kernel_rfl, by kernel_rfl⟩
theorem runway_later.tab (N : Nat) : TabOk Try.prog (runway_later.G N) := ⟨⟨runway_gap.enters, runway_gap.sound N⟩, trivial⟩
theorem runway_later.enters : Enters Try.prog 123 := f123_enters
theorem runway_later.sound (N : Nat) : Sound Try.prog 123 (runway_later.S N) := evFn_sound (specs_tab (runway_later.tab N)) (inls_tab (runway_later.tab N)) mixed 3 Try.func123 _ _ _
theorem runway_later.eq (N : Nat) (x0 : Int × Int × Bool × Int) (x1 : List Int) (x2 : Int × Int) (x3 : Int) : runway_later.fn N (x0, x1, x2, x3) =
    bif !(decide (x3 < x0.1)) || (decide (x3 < x0.1)) then
      bif !(decide (x3 < x0.1)) || (decide (x3 < x0.1)) then
        bif !(decide (x3 < x0.1)) || (decide (x3 < x0.1)) then
          bif !(decide (x3 < x0.1)) || (decide (x3 < x0.1)) then
            bif !(decide (x3 < x0.1)) || (decide (x3 < x0.1)) then
              bif !(decide (x3 < x0.1)) || (decide (x3 < x0.1)) then
                (bif (decide (x3 < x0.1)) then runway_gap.fn N ((vl 16 x1), (x3, (x2.2, (true, 0))), x0) else some (0)).bind fun r1 =>
                bif !(decide (x3 < x0.1)) || (decide (x3 < x0.1)) then
                  bif !(decide (x3 < x0.1)) || (decide (x3 < x0.1)) then
                    bif (!(decide (x3 < x0.1))) || (decide (x3 < x0.1)) then
                      bif !(!((decide (x3 < x0.1)) && (decide ((w (x0.1 - x3)) < r1)))) || (!((decide (x3 < x0.1)) && (decide ((w (x0.1 - x3)) < r1)))) then
                        bif !(!((decide (x3 < x0.1)) && (decide ((w (x0.1 - x3)) < r1)))) || (!((decide (x3 < x0.1)) && (decide ((w (x0.1 - x3)) < r1)))) then
                          bif !(!((decide (x3 < x0.1)) && (decide ((w (x0.1 - x3)) < r1)))) || (!((decide (x3 < x0.1)) && (decide ((w (x0.1 - x3)) < r1)))) then
                            bif !(!((decide (x3 < x0.1)) && (decide ((w (x0.1 - x3)) < r1)))) || (!((decide (x3 < x0.1)) && (decide ((w (x0.1 - x3)) < r1)))) then
                              bif !((!((decide (x3 < x0.1)) && (decide ((w (x0.1 - x3)) < r1)))) && (decide (x3 ≥ x0.1))) || ((!((decide (x3 < x0.1)) && (decide ((w (x0.1 - x3)) < r1)))) && (decide (x3 ≥ x0.1))) then
                                bif !((!((decide (x3 < x0.1)) && (decide ((w (x0.1 - x3)) < r1)))) && (decide (x3 ≥ x0.1))) || ((!((decide (x3 < x0.1)) && (decide ((w (x0.1 - x3)) < r1)))) && (decide (x3 ≥ x0.1))) then
                                  bif !((!((decide (x3 < x0.1)) && (decide ((w (x0.1 - x3)) < r1)))) && (decide (x3 ≥ x0.1))) || ((!((decide (x3 < x0.1)) && (decide ((w (x0.1 - x3)) < r1)))) && (decide (x3 ≥ x0.1))) then
                                    bif !((!((decide (x3 < x0.1)) && (decide ((w (x0.1 - x3)) < r1)))) && (decide (x3 ≥ x0.1))) || ((!((decide (x3 < x0.1)) && (decide ((w (x0.1 - x3)) < r1)))) && (decide (x3 ≥ x0.1))) then
                                      bif !((!((decide (x3 < x0.1)) && (decide ((w (x0.1 - x3)) < r1)))) && (decide (x3 ≥ x0.1))) || ((!((decide (x3 < x0.1)) && (decide ((w (x0.1 - x3)) < r1)))) && (decide (x3 ≥ x0.1))) then
                                        bif !((!((decide (x3 < x0.1)) && (decide ((w (x0.1 - x3)) < r1)))) && (decide (x3 ≥ x0.1))) || ((!((decide (x3 < x0.1)) && (decide ((w (x0.1 - x3)) < r1)))) && (decide (x3 ≥ x0.1))) then
                                          (bif ((!((decide (x3 < x0.1)) && (decide ((w (x0.1 - x3)) < r1)))) && (decide (x3 ≥ x0.1))) then runway_gap.fn N ((vl 16 x1), x0, (x3, (x2.2, (true, 0)))) else some (0)).bind fun r2 =>
                                          bif !((!((decide (x3 < x0.1)) && (decide ((w (x0.1 - x3)) < r1)))) && (decide (x3 ≥ x0.1))) || ((!((decide (x3 < x0.1)) && (decide ((w (x0.1 - x3)) < r1)))) && (decide (x3 ≥ x0.1))) then
                                            bif !((!((decide (x3 < x0.1)) && (decide ((w (x0.1 - x3)) < r1)))) && (decide (x3 ≥ x0.1))) || ((!((decide (x3 < x0.1)) && (decide ((w (x0.1 - x3)) < r1)))) && (decide (x3 ≥ x0.1))) then
                                              bif !(!((decide (x3 < x0.1)) && (decide ((w (x0.1 - x3)) < r1)))) || (!((decide (x3 < x0.1)) && (decide ((w (x0.1 - x3)) < r1)))) then
                                                bif !(!((decide (x3 < x0.1)) && (decide ((w (x0.1 - x3)) < r1)))) || ((!(decide (x3 ≥ x0.1))) || ((!((decide (x3 < x0.1)) && (decide ((w (x0.1 - x3)) < r1)))) && (decide (x3 ≥ x0.1)))) then
                                                  bif ((decide (x3 < x0.1)) && (decide ((w (x0.1 - x3)) < r1))) || (!((decide (x3 < x0.1)) && (decide ((w (x0.1 - x3)) < r1)))) then
                                                    bif ((decide (x3 < x0.1)) && (decide ((w (x0.1 - x3)) < r1))) || ((decide (x3 ≥ x0.1)) && (decide ((w (x3 - x0.1)) < r2))) then
                                                      (runway_gap.fn N ((vl 16 x1), x0, (x3, (x2.2, (true, 0))))).bind fun r3 =>
                                                      some (w (x0.1 + r3))
                                                    else
                                                      some x3
                                                  else
                                                    none
                                                else
                                                  none
                                              else
                                                none
                                            else
                                              none
                                          else
                                            none
                                        else
                                          none
                                      else
                                        none
                                    else
                                      none
                                  else
                                    none
                                else
                                  none
                              else
                                none
                            else
                              none
                          else
                            none
                        else
                          none
                      else
                        none
                    else
                      none
                  else
                    none
                else
                  none
              else
                none
            else
              none
          else
            none
        else
          none
      else
        none
    else
      none := by kernel_rfl
theorem taut9 : ∀ p0 p1 : Bool, ((!(!((p0) && (p1))) || (!((p0) && (p1))))) = true := by decide
theorem taut10 : ∀ p0 p1 p2 : Bool, ((!(!((p0) && (p1))) || ((!(p2)) || ((!((p0) && (p1))) && (p2))))) = true := by decide
theorem taut11 : ∀ p0 p1 p2 : Bool, ((!((!((p0) && (p1))) && (p2)) || ((!((p0) && (p1))) && (p2)))) = true := by decide
theorem taut12 : ∀ p0 p1 : Bool, ((((p0) && (p1)) || (!((p0) && (p1))))) = true := by decide
theorem runway_later.clean (N : Nat) (x0 : Int × Int × Bool × Int) (x1 : List Int) (x2 : Int × Int) (x3 : Int) : runway_later.fn N (x0, x1, x2, x3) =
    (bif (decide (x3 < x0.1)) then runway_gap.fn N ((vl 16 x1), (x3, (x2.2, (true, 0))), x0) else some (0)).bind fun r1 =>
    (bif ((!((decide (x3 < x0.1)) && (decide ((w (x0.1 - x3)) < r1)))) && (decide (x3 ≥ x0.1))) then runway_gap.fn N ((vl 16 x1), x0, (x3, (x2.2, (true, 0)))) else some (0)).bind fun r2 =>
    bif ((decide (x3 < x0.1)) && (decide ((w (x0.1 - x3)) < r1))) || ((decide (x3 ≥ x0.1)) && (decide ((w (x3 - x0.1)) < r2))) then
      (runway_gap.fn N ((vl 16 x1), x0, (x3, (x2.2, (true, 0))))).bind fun r3 =>
      some (w (x0.1 + r3))
    else
      some x3 := by
  rw [runway_later.eq]; simp only [taut9, taut10, taut11, taut7, taut8, taut12, cond_true]

/-! ### runway_earliest: skyway/runway.earliest -/
def runway_earliest.kp : List (Nat × List (Nat × Option (TypeId × Ty))) := [(3, [(0, none), (1, none), (6, none), (7, none), (9, none), (10, none)]), (9, [(0, none), (1, none), (6, none), (7, none), (9, none), (10, none), (29, none), (30, none), (31, none)]), (1000008, [(0, none), (1, none), (6, none), (7, none), (9, none), (10, none)])]
noncomputable def runway_earliest.G (N : Nat) : List (Nat × Spec) := [(81, .pure (runway_opened.S N)), (123, .pure (runway_later.S N))]
noncomputable def runway_earliest.E (N : Nat) : Env := mkEnv (runway_earliest.G N) N tyTab runway_earliest.kp
noncomputable def runway_earliest.fn (N : Nat) (x : List (Int × Int × Bool × Int) × List (Int × Int) × List Int × Int × Int) : Option Int := evFn (runway_earliest.E N) Try.prog 3 Try.f87 false [.cell (.sl 35 (.pair (.int .i64) (.pair (.int .i64) (.pair (.bool) (.int .i64))))), .cell (.sl 60 (.pair (.int .i64) (.int .i64))), .agg (.vec 16 .i64), .agg (.pair (.int .i64) (.int .i64))] [.val (.cell (.int .i64))] x
noncomputable def runway_earliest.S (N : Nat) : PSpec := ⟨false, [.cell (.sl 35 (.pair (.int .i64) (.pair (.int .i64) (.pair (.bool) (.int .i64))))), .cell (.sl 60 (.pair (.int .i64) (.int .i64))), .agg (.vec 16 .i64), .agg (.pair (.int .i64) (.int .i64))], [.val (.cell (.int .i64))], runway_earliest.fn N⟩
theorem f87_enters : Enters Try.prog 87 := ⟨Try.f87, Try.func87, by kernel_rfl, by kernel_rfl⟩
theorem runway_earliest.tab (N : Nat) : TabOk Try.prog (runway_earliest.G N) := ⟨⟨runway_opened.enters, runway_opened.sound N⟩, ⟨runway_later.enters, runway_later.sound N⟩, trivial⟩
theorem runway_earliest.enters : Enters Try.prog 87 := f87_enters
theorem runway_earliest.sound (N : Nat) : Sound Try.prog 87 (runway_earliest.S N) := evFn_sound (specs_tab (runway_earliest.tab N)) (inls_tab (runway_earliest.tab N)) mixed 3 Try.func87 _ _ _
noncomputable def runway_earliest.cd (N : Nat) (p : List Nat) : St → (Ex → St → Option Int) → Option Int := ev (runway_earliest.E N) Try.prog (callD (runway_earliest.E N) Try.prog 3) 0 (codeAt (bodyOf Try.f87) p)
noncomputable def runway_earliest.fin : Ex → St → Option Int := endK Try.prog Try.f87 [.val (.cell (.int .i64))]
noncomputable def runway_earliest.l0 (N : Nat) (x0 : List (Int × Int × Bool × Int)) (x1 : List (Int × Int)) (x2 : List Int) (x3 : Int × Int) (k1 : Nat) (a2 : Int) (a3 : Bool) : Option Int :=
  loopN (norm ((runway_earliest.E N).keep 3) 0) (runway_earliest.cd N [1, 1, 0, 1, 0, 0]) k1
  ⟨[.ros false 35 (.pair (.int .i64) (.pair (.int .i64) (.pair (.bool) (.int .i64)))) x0, .ros false 60 (.pair (.int .i64) (.int .i64)) x1, .any, .any, .any, .any, .ptr 0 0, .ptr 1 0, .any, .sc (.int .i64 a2), .sc (.bool a3), .any, .any, .any, .any, .any, .any, .any, .any, .any, .any, .any, .any, .any, .any, .any, .any, .any, .any, .any, .any, .any, .any, .any, .any, .any, .any, .any, .any, .any, .any, .any, .any, .any, .any, .any], [.cells [.sc (.int .i64 (List.getD x2 0 0)), .sc (.int .i64 (List.getD x2 1 0)), .sc (.int .i64 (List.getD x2 2 0)), .sc (.int .i64 (List.getD x2 3 0)), .sc (.int .i64 (List.getD x2 4 0)), .sc (.int .i64 (List.getD x2 5 0)), .sc (.int .i64 (List.getD x2 6 0)), .sc (.int .i64 (List.getD x2 7 0)), .sc (.int .i64 (List.getD x2 8 0)), .sc (.int .i64 (List.getD x2 9 0)), .sc (.int .i64 (List.getD x2 10 0)), .sc (.int .i64 (List.getD x2 11 0)), .sc (.int .i64 (List.getD x2 12 0)), .sc (.int .i64 (List.getD x2 13 0)), .sc (.int .i64 (List.getD x2 14 0)), .sc (.int .i64 (List.getD x2 15 0))] 26, .cells [.sc (.int .i64 x3.1), .sc (.int .i64 x3.2)] 49]⟩
  (blockK 0 (seqK (runway_earliest.cd N [1, 1, 1]) runway_earliest.fin))
noncomputable def runway_earliest.j1 (N : Nat) (x0 : List (Int × Int × Bool × Int)) (x1 : List (Int × Int)) (x2 : List Int) (x3 : Int × Int) (k1 : Nat) (a4 : Int) (a5 : Bool) : Option Int :=
  fuelK N (region (runway_earliest.E N) Try.prog (callD (runway_earliest.E N) Try.prog 3) (opsAt (codeAt (bodyOf Try.f87) [1, 1, 0, 1, 0, 0, 1, 0, 1, 1, 0])) false
  ⟨[.ros false 35 (.pair (.int .i64) (.pair (.int .i64) (.pair (.bool) (.int .i64)))) x0, .ros false 60 (.pair (.int .i64) (.int .i64)) x1, .any, .any, .any, .any, .ptr 0 0, .ptr 1 0, .any, .sc (.int .i64 a4), .sc (.bool a5), .any, .any, .any, .any, .any, .any, .any, .any, .any, .any, .any, .any, .any, .any, .any, .any, .any, .any, .any, .any, .any, .any, .any, .any, .any, .any, .any, .any, .any, .any, .any, .any, .any, .any, .any], [.cells [.sc (.int .i64 (List.getD x2 0 0)), .sc (.int .i64 (List.getD x2 1 0)), .sc (.int .i64 (List.getD x2 2 0)), .sc (.int .i64 (List.getD x2 3 0)), .sc (.int .i64 (List.getD x2 4 0)), .sc (.int .i64 (List.getD x2 5 0)), .sc (.int .i64 (List.getD x2 6 0)), .sc (.int .i64 (List.getD x2 7 0)), .sc (.int .i64 (List.getD x2 8 0)), .sc (.int .i64 (List.getD x2 9 0)), .sc (.int .i64 (List.getD x2 10 0)), .sc (.int .i64 (List.getD x2 11 0)), .sc (.int .i64 (List.getD x2 12 0)), .sc (.int .i64 (List.getD x2 13 0)), .sc (.int .i64 (List.getD x2 14 0)), .sc (.int .i64 (List.getD x2 15 0))] 26, .cells [.sc (.int .i64 x3.1), .sc (.int .i64 x3.2)] 49]⟩
  (fun S => (seqK (runway_earliest.cd N [1, 1, 0, 1, 0, 0, 1, 0, 1, 1, 1]) (blockK 1 (loopK (norm ((runway_earliest.E N).keep 3) 0) (runway_earliest.cd N [1, 1, 0, 1, 0, 0]) k1 (blockK 0 (seqK (runway_earliest.cd N [1, 1, 1]) runway_earliest.fin))))) .normal S))
noncomputable def runway_earliest.l2 (N : Nat) (x0 : List (Int × Int × Bool × Int)) (x1 : List (Int × Int)) (x2 : List Int) (x3 : Int × Int) (k1 : Nat) (k6 : Nat) (a7 : Int) (a8 : Bool) (a9 : Int) : Option Int :=
  loopN (norm ((runway_earliest.E N).keep 9) 0) (runway_earliest.cd N [1, 1, 0, 1, 0, 0, 1, 0, 1, 1, 1, 0, 0]) k6
  ⟨[.ros false 35 (.pair (.int .i64) (.pair (.int .i64) (.pair (.bool) (.int .i64)))) x0, .ros false 60 (.pair (.int .i64) (.int .i64)) x1, .any, .any, .any, .any, .ptr 0 0, .ptr 1 0, .any, .sc (.int .i64 a7), .sc (.bool a8), .any, .any, .any, .any, .any, .any, .any, .any, .any, .any, .any, .any, .any, .any, .any, .any, .any, .any, .ros false 35 (.pair (.int .i64) (.pair (.int .i64) (.pair (.bool) (.int .i64)))) x0, .sc (.int .i64 (x0.length : Int)), .sc (.int .i64 a9), .any, .any, .any, .any, .any, .any, .any, .any, .any, .any, .any, .any, .any, .any], [.cells [.sc (.int .i64 (List.getD x2 0 0)), .sc (.int .i64 (List.getD x2 1 0)), .sc (.int .i64 (List.getD x2 2 0)), .sc (.int .i64 (List.getD x2 3 0)), .sc (.int .i64 (List.getD x2 4 0)), .sc (.int .i64 (List.getD x2 5 0)), .sc (.int .i64 (List.getD x2 6 0)), .sc (.int .i64 (List.getD x2 7 0)), .sc (.int .i64 (List.getD x2 8 0)), .sc (.int .i64 (List.getD x2 9 0)), .sc (.int .i64 (List.getD x2 10 0)), .sc (.int .i64 (List.getD x2 11 0)), .sc (.int .i64 (List.getD x2 12 0)), .sc (.int .i64 (List.getD x2 13 0)), .sc (.int .i64 (List.getD x2 14 0)), .sc (.int .i64 (List.getD x2 15 0))] 26, .cells [.sc (.int .i64 x3.1), .sc (.int .i64 x3.2)] 49]⟩
  (blockK 2 (blockK 1 (loopK (norm ((runway_earliest.E N).keep 3) 0) (runway_earliest.cd N [1, 1, 0, 1, 0, 0]) k1 (blockK 0 (seqK (runway_earliest.cd N [1, 1, 1]) runway_earliest.fin)))))
theorem runway_earliest.l2_zero (N : Nat) (x0 : List (Int × Int × Bool × Int)) (x1 : List (Int × Int)) (x2 : List Int) (x3 : Int × Int) (k1 : Nat) (a7 : Int) (a8 : Bool) (a9 : Int) : runway_earliest.l2 N x0 x1 x2 x3 k1 0 a7 a8 a9 = none := by kernel_rfl
theorem runway_earliest.l2_succ (N : Nat) (x0 : List (Int × Int × Bool × Int)) (x1 : List (Int × Int)) (x2 : List Int) (x3 : Int × Int) (k1 : Nat) (k6 : Nat) (a7 : Int) (a8 : Bool) (a9 : Int) : runway_earliest.l2 N x0 x1 x2 x3 k1 (k6 + 1) a7 a8 a9 =
    bif decide (a9 < (x0.length : Int)) then
      bif (decide (0 ≤ a9)) && (decide (a9 < (x0.length : Int))) then
        (runway_later.fn N (List.getD x0 (Int.toNat a9) (0, (0, (false, 0))), (vl 16 x2), x3, a7)).bind fun r10 =>
        bif decide (r10 > a7) then
          runway_earliest.l2 N x0 x1 x2 x3 k1 k6 r10 true (w (a9 + 1))
        else
          runway_earliest.l2 N x0 x1 x2 x3 k1 k6 a7 a8 (w (a9 + 1))
      else
        none
    else
      runway_earliest.l0 N x0 x1 x2 x3 k1 a7 a8 := by kernel_rfl
theorem runway_earliest.j1_eq (N : Nat) (x0 : List (Int × Int × Bool × Int)) (x1 : List (Int × Int)) (x2 : List Int) (x3 : Int × Int) (k1 : Nat) (a4 : Int) (a5 : Bool) {M : Nat} (hM : N = M + 1) : runway_earliest.j1 N x0 x1 x2 x3 k1 a4 a5 =
    runway_earliest.l2 N x0 x1 x2 x3 k1 N a4 a5 0 := (fuelK_eq hM _).trans (by kernel_rfl)
theorem runway_earliest.l0_zero (N : Nat) (x0 : List (Int × Int × Bool × Int)) (x1 : List (Int × Int)) (x2 : List Int) (x3 : Int × Int) (a2 : Int) (a3 : Bool) : runway_earliest.l0 N x0 x1 x2 x3 0 a2 a3 = none := by kernel_rfl
theorem runway_earliest.l0_succ (N : Nat) (x0 : List (Int × Int × Bool × Int)) (x1 : List (Int × Int)) (x2 : List Int) (x3 : Int × Int) (k1 : Nat) (a2 : Int) (a3 : Bool) : runway_earliest.l0 N x0 x1 x2 x3 (k1 + 1) a2 a3 =
    bif a3 then
      (runway_opened.fn N (x1, a2)).bind fun r11 =>
      bif decide (r11.2 > a2) then
        runway_earliest.j1 N x0 x1 x2 x3 k1 r11.2 true
      else
        runway_earliest.j1 N x0 x1 x2 x3 k1 a2 false
    else
      some a2 := by kernel_rfl
theorem runway_earliest.l2_cons (N : Nat) (x0 : List (Int × Int × Bool × Int)) (x1 : List (Int × Int)) (x2 : List Int) (x3 : Int × Int) (k1 : Nat) (k6 : Nat) (a7 : Int) (a8 : Bool) {pre r} {x} (hl : x0 = pre ++ x :: r) (hb : x0.length < 4611686018427387904) : runway_earliest.l2 N x0 x1 x2 x3 k1 (k6 + 1) a7 a8 (pre.length : Int) =
    (runway_later.fn N (x, (vl 16 x2), x3, a7)).bind fun r10 =>
    bif decide (r10 > a7) then
      runway_earliest.l2 N x0 x1 x2 x3 k1 k6 r10 true ((pre.length : Int) + 1)
    else
      runway_earliest.l2 N x0 x1 x2 x3 k1 k6 a7 a8 ((pre.length : Int) + 1) := by
  have hlen : x0.length = pre.length + 1 + r.length := by rw [hl]; simp; omega
  have e1 : decide ((pre.length : Int) < (x0.length : Int)) = true := by rw [decide_eq_true_iff]; omega
  have e2 : decide (0 ≤ (pre.length : Int)) = true := by rw [decide_eq_true_iff]; omega
  have e4 : w ((pre.length : Int) + 1) = (pre.length : Int) + 1 := w_next hl hb
  have e5 : List.take pre.length x0 = pre := by rw [hl]; simp
  have e6 : decide ((pre.length : Int) ≤ (x0.length : Int)) = true := by rw [decide_eq_true_iff]; omega
  have g0 : List.getD x0 pre.length (0, (0, (false, 0))) = x := by rw [hl]; exact getD_mid pre x r _
  rw [runway_earliest.l2_succ]
  simp -implicitDefEqProofs only [Int.toNat_natCast, e1, e2, e4, e6, g0, e5, Bool.and_true, Bool.true_and, Bool.true_or, cond_true]
theorem runway_earliest.l2_nil (N : Nat) (x0 : List (Int × Int × Bool × Int)) (x1 : List (Int × Int)) (x2 : List Int) (x3 : Int × Int) (k1 : Nat) (k6 : Nat) (a7 : Int) (a8 : Bool) : runway_earliest.l2 N x0 x1 x2 x3 k1 (k6 + 1) a7 a8 (x0.length : Int) =
    runway_earliest.l0 N x0 x1 x2 x3 k1 a7 a8 := by
  have e1 : decide ((x0.length : Int) < (x0.length : Int)) = false := by rw [decide_eq_false_iff_not]; omega
  rw [runway_earliest.l2_succ]
  simp -implicitDefEqProofs only [e1, cond_false]
theorem runway_earliest.eq (N : Nat) (x0 : List (Int × Int × Bool × Int)) (x1 : List (Int × Int)) (x2 : List Int) (x3 : Int × Int) : runway_earliest.fn N (x0, x1, x2, x3) =
    runway_earliest.l0 N x0 x1 x2 x3 N x3.1 true := by kernel_rfl

/-! ### runway_Insert: skyway/runway.Insert -/
theorem f31_enters : Enters Try.prog 31 := ⟨Try.f31, Try.func31, by kernel_rfl, by kernel_rfl⟩
def runway_Insert.kp : List (Nat × List (Nat × Option (TypeId × Ty))) := [(8, [(1, none), (6, none), (13, none), (40, none), (41, none), (42, none)]), (20, [(1, none), (6, none), (13, none), (15, none), (17, none), (18, none), (20, none), (40, none), (41, none), (42, none)])]
noncomputable def runway_Insert.G (N : Nat) : List (Nat × Spec) := [(24, .pure (runway_Safe.S N)), (28, .pure (slices_Clone_RunwayMove.S N)), (31, .mac (insM Try.prog 35 (.pair (.int .i64) (.pair (.int .i64) (.pair (.bool) (.int .i64)))))), (81, .pure (runway_opened.S N)), (82, .pure (wake_Class.S N)), (87, .pure (runway_earliest.S N))]
noncomputable def runway_Insert.E (N : Nat) : Env := mkEnv (runway_Insert.G N) N tyTab runway_Insert.kp
noncomputable def runway_Insert.fn (N : Nat) (x : List (Int × Int × Bool × Int) × List (Int × Int) × List Int × List (Int × Int)) : Option (List (Int × Int × Bool × Int) × Int) := evFn (runway_Insert.E N) Try.prog 3 Try.f27 false [.cell (.sl 35 (.pair (.int .i64) (.pair (.int .i64) (.pair (.bool) (.int .i64))))), .cell (.sl 60 (.pair (.int .i64) (.int .i64))), .agg (.vec 16 .i64), .cell (.sl 49 (.pair (.int .i64) (.int .i64)))] [.own 35 (.pair (.int .i64) (.pair (.int .i64) (.pair (.bool) (.int .i64)))), .val (.cell (.int .i64))] x
noncomputable def runway_Insert.S (N : Nat) : PSpec := ⟨false, [.cell (.sl 35 (.pair (.int .i64) (.pair (.int .i64) (.pair (.bool) (.int .i64))))), .cell (.sl 60 (.pair (.int .i64) (.int .i64))), .agg (.vec 16 .i64), .cell (.sl 49 (.pair (.int .i64) (.int .i64)))], [.own 35 (.pair (.int .i64) (.pair (.int .i64) (.pair (.bool) (.int .i64)))), .val (.cell (.int .i64))], runway_Insert.fn N⟩
theorem f27_enters : Enters Try.prog 27 := ⟨Try.f27, Try.func27, by kernel_rfl, by kernel_rfl⟩
theorem runway_Insert.tab (N : Nat) : TabOk Try.prog (runway_Insert.G N) := ⟨⟨runway_Safe.enters, runway_Safe.sound N⟩, ⟨slices_Clone_RunwayMove.enters, slices_Clone_RunwayMove.sound N⟩, ⟨f31_enters, ins_sound (T := 22) (by kernel_rfl) Ins31.insC⟩, ⟨runway_opened.enters, runway_opened.sound N⟩, ⟨wake_Class.enters, wake_Class.sound N⟩, ⟨runway_earliest.enters, runway_earliest.sound N⟩, trivial⟩
theorem runway_Insert.enters : Enters Try.prog 27 := f27_enters
theorem runway_Insert.sound (N : Nat) : Sound Try.prog 27 (runway_Insert.S N) := evFn_sound (specs_tab (runway_Insert.tab N)) (inls_tab (runway_Insert.tab N)) mixed 3 Try.func27 _ _ _
noncomputable def runway_Insert.cd (N : Nat) (p : List Nat) : St → (Ex → St → Option (List (Int × Int × Bool × Int) × Int)) → Option (List (Int × Int × Bool × Int) × Int) := ev (runway_Insert.E N) Try.prog (callD (runway_Insert.E N) Try.prog 3) 0 (codeAt (bodyOf Try.f27) p)
noncomputable def runway_Insert.fin : Ex → St → Option (List (Int × Int × Bool × Int) × Int) := endK Try.prog Try.f27 [.own 35 (.pair (.int .i64) (.pair (.int .i64) (.pair (.bool) (.int .i64)))), .val (.cell (.int .i64))]
noncomputable def runway_Insert.l0 (N : Nat) (x1 : List (Int × Int)) (x2 : List Int) (x3 : List (Int × Int)) (k3 : Nat) (a4 : Int) (a5 : List (Int × Int × Bool × Int)) : Option (List (Int × Int × Bool × Int) × Int) :=
  loopN (norm ((runway_Insert.E N).keep 8) 0) (runway_Insert.cd N [1, 1, 1, 1, 0, 1, 0, 0]) k3
  ⟨[.any, .ros false 60 (.pair (.int .i64) (.int .i64)) x1, .any, .any, .any, .any, .ptr 0 0, .any, .any, .any, .any, .any, .any, .own 1, .any, .any, .any, .any, .any, .any, .any, .any, .any, .any, .any, .any, .any, .any, .any, .any, .any, .any, .any, .any, .any, .any, .any, .any, .any, .any, .ros false 49 (.pair (.int .i64) (.int .i64)) x3, .sc (.int .i64 (x3.length : Int)), .sc (.int .i64 a4), .any, .any, .any, .any, .any, .any, .any, .any, .any, .any, .any, .any, .any, .any, .any, .any, .any, .any, .any, .any, .any, .any, .any, .any, .any, .any, .any, .any, .any, .any, .any, .any, .any, .any, .any, .any, .any, .any, .any, .any, .any, .any, .any, .any, .any, .any, .any, .any, .any, .any, .any, .any, .any, .any, .any, .any], [.cells [.sc (.int .i64 (List.getD x2 0 0)), .sc (.int .i64 (List.getD x2 1 0)), .sc (.int .i64 (List.getD x2 2 0)), .sc (.int .i64 (List.getD x2 3 0)), .sc (.int .i64 (List.getD x2 4 0)), .sc (.int .i64 (List.getD x2 5 0)), .sc (.int .i64 (List.getD x2 6 0)), .sc (.int .i64 (List.getD x2 7 0)), .sc (.int .i64 (List.getD x2 8 0)), .sc (.int .i64 (List.getD x2 9 0)), .sc (.int .i64 (List.getD x2 10 0)), .sc (.int .i64 (List.getD x2 11 0)), .sc (.int .i64 (List.getD x2 12 0)), .sc (.int .i64 (List.getD x2 13 0)), .sc (.int .i64 (List.getD x2 14 0)), .sc (.int .i64 (List.getD x2 15 0))] 26, .rows true 35 (.pair (.int .i64) (.pair (.int .i64) (.pair (.bool) (.int .i64)))) a5]⟩
  (blockK 0 (seqK (runway_Insert.cd N [1, 1, 1, 1, 1]) runway_Insert.fin))
noncomputable def runway_Insert.l1 (N : Nat) (x1 : List (Int × Int)) (x2 : List Int) (x3 : List (Int × Int)) (k3 : Nat) (a4 : Int) (a5 : List (Int × Int × Bool × Int)) (r7 : Int) (r8 : Int × Int) (k9 : Nat) (a10 : Int) : Option (List (Int × Int × Bool × Int) × Int) :=
  loopN (norm ((runway_Insert.E N).keep 20) 0) (runway_Insert.cd N [1, 1, 1, 1, 0, 1, 0, 0, 1, 1, 0, 0, 1, 1, 1, 1, 1, 1, 1, 0, 0, 0]) k9
  ⟨[.any, .ros false 60 (.pair (.int .i64) (.int .i64)) x1, .any, .any, .any, .any, .ptr 0 0, .any, .any, .any, .any, .any, .any, .own 1, .any, .ptr 2 0, .any, .sc (.int .i64 r7), .sc (.int .i64 r8.1), .any, .sc (.int .i64 a10), .any, .any, .any, .any, .any, .any, .any, .any, .any, .any, .any, .any, .any, .any, .any, .any, .any, .any, .any, .ros false 49 (.pair (.int .i64) (.int .i64)) x3, .sc (.int .i64 (x3.length : Int)), .sc (.int .i64 a4), .any, .any, .any, .any, .any, .any, .any, .any, .any, .any, .any, .any, .any, .any, .any, .any, .any, .any, .any, .any, .any, .any, .any, .any, .any, .any, .any, .any, .any, .any, .any, .any, .any, .any, .any, .any, .any, .any, .any, .any, .any, .any, .any, .any, .any, .any, .any, .any, .any, .any, .any, .any, .any, .any, .any, .any], [.cells [.sc (.int .i64 (List.getD x2 0 0)), .sc (.int .i64 (List.getD x2 1 0)), .sc (.int .i64 (List.getD x2 2 0)), .sc (.int .i64 (List.getD x2 3 0)), .sc (.int .i64 (List.getD x2 4 0)), .sc (.int .i64 (List.getD x2 5 0)), .sc (.int .i64 (List.getD x2 6 0)), .sc (.int .i64 (List.getD x2 7 0)), .sc (.int .i64 (List.getD x2 8 0)), .sc (.int .i64 (List.getD x2 9 0)), .sc (.int .i64 (List.getD x2 10 0)), .sc (.int .i64 (List.getD x2 11 0)), .sc (.int .i64 (List.getD x2 12 0)), .sc (.int .i64 (List.getD x2 13 0)), .sc (.int .i64 (List.getD x2 14 0)), .sc (.int .i64 (List.getD x2 15 0))] 26, .rows true 35 (.pair (.int .i64) (.pair (.int .i64) (.pair (.bool) (.int .i64)))) a5, .cells [.sc (.int .i64 ((List.getD x3 (Int.toNat a4) (0, 0)).1)), .sc (.int .i64 ((List.getD x3 (Int.toNat a4) (0, 0)).2))] 49]⟩
  (blockK 2 (seqK (runway_Insert.cd N [1, 1, 1, 1, 0, 1, 0, 0, 1, 1, 0, 0, 1, 1, 1, 1, 1, 1, 1, 1]) (blockK 1 (seqK (runway_Insert.cd N [1, 1, 1, 1, 0, 1, 0, 0, 1, 1, 1]) (loopK (norm ((runway_Insert.E N).keep 8) 0) (runway_Insert.cd N [1, 1, 1, 1, 0, 1, 0, 0]) k3 (blockK 0 (seqK (runway_Insert.cd N [1, 1, 1, 1, 1]) runway_Insert.fin)))))))
theorem runway_Insert.l1_zero (N : Nat) (x1 : List (Int × Int)) (x2 : List Int) (x3 : List (Int × Int)) (k3 : Nat) (a4 : Int) (a5 : List (Int × Int × Bool × Int)) (r7 : Int) (r8 : Int × Int) (a10 : Int) : runway_Insert.l1 N x1 x2 x3 k3 a4 a5 r7 r8 0 a10 = none := by kernel_rfl
theorem runway_Insert.l1_succ (N : Nat) (x1 : List (Int × Int)) (x2 : List Int) (x3 : List (Int × Int)) (k3 : Nat) (a4 : Int) (a5 : List (Int × Int × Bool × Int)) (r7 : Int) (r8 : Int × Int) (k9 : Nat) (a10 : Int) : runway_Insert.l1 N x1 x2 x3 k3 a4 a5 r7 r8 (k9 + 1) a10 =
    bif !(decide (a10 < (a5.length : Int))) || (decide (a10 < (a5.length : Int))) then
      bif !(decide (a10 < (a5.length : Int))) || (decide (a10 < (a5.length : Int))) then
        bif ((decide (0 ≤ a10)) && (decide (a10 < (a5.length : Int)))) || !(decide (a10 < (a5.length : Int))) then
          bif !(decide (a10 < (a5.length : Int))) || (decide (a10 < (a5.length : Int))) then
            bif !(decide (a10 < (a5.length : Int))) || (decide (a10 < (a5.length : Int))) then
              bif (decide ((Int.toNat a10) < a5.length)) || !(decide (a10 < (a5.length : Int))) then
                bif !(decide (a10 < (a5.length : Int))) || (decide (a10 < (a5.length : Int))) then
                  bif !(decide (a10 < (a5.length : Int))) || (decide (a10 < (a5.length : Int))) then
                    bif (!(decide (a10 < (a5.length : Int)))) || (decide (a10 < (a5.length : Int))) then
                      bif (decide (a10 < (a5.length : Int))) && (decide (((List.getD a5 (Int.toNat a10) (0, (0, (false, 0)))).1) < r7)) then
                        runway_Insert.l1 N x1 x2 x3 k3 a4 a5 r7 r8 k9 (w (a10 + 1))
                      else
                      bif (decide (0 ≤ a10)) && (decide (a10 ≤ (a5.length : Int))) then
                        bif decide ((a5.length + 1) * 32 ≤ 140737488355328) && decide (a5.length + 1 ≤ maxLen) then
                          runway_Insert.l0 N x1 x2 x3 k3 (w (a4 + 1)) ((List.take (Int.toNat a10) a5) ++ [(r7, ((List.getD x3 (Int.toNat a4) (0, 0)).2, (true, r8.1)))] ++ (List.drop (Int.toNat a10) a5))
                        else
                          none
                      else
                        none
                    else
                      none
                  else
                    none
                else
                  none
              else
                none
            else
              none
          else
            none
        else
          none
      else
        none
    else
      none := by kernel_rfl
theorem runway_Insert.l0_zero (N : Nat) (x1 : List (Int × Int)) (x2 : List Int) (x3 : List (Int × Int)) (a4 : Int) (a5 : List (Int × Int × Bool × Int)) : runway_Insert.l0 N x1 x2 x3 0 a4 a5 = none := by kernel_rfl
theorem runway_Insert.l0_succ (N : Nat) (x1 : List (Int × Int)) (x2 : List Int) (x3 : List (Int × Int)) (k3 : Nat) (a4 : Int) (a5 : List (Int × Int × Bool × Int)) : runway_Insert.l0 N x1 x2 x3 (k3 + 1) a4 a5 =
    bif decide (a4 < (x3.length : Int)) then
      bif (decide (0 ≤ a4)) && (decide (a4 < (x3.length : Int))) then
        bif !(!(decide (((List.getD x3 (Int.toNat a4) (0, 0)).1) < 0))) || (!(decide (((List.getD x3 (Int.toNat a4) (0, 0)).1) < 0))) then
          bif !(!(decide (((List.getD x3 (Int.toNat a4) (0, 0)).1) < 0))) || (!(decide (((List.getD x3 (Int.toNat a4) (0, 0)).1) < 0))) then
            bif (decide (((List.getD x3 (Int.toNat a4) (0, 0)).1) < 0)) || (!(decide (((List.getD x3 (Int.toNat a4) (0, 0)).1) < 0))) then
              bif (decide (((List.getD x3 (Int.toNat a4) (0, 0)).1) < 0)) || (decide (((List.getD x3 (Int.toNat a4) (0, 0)).1) > 200000)) then
                some ([], 12)
              else
                (wake_Class.fn N ((List.getD x3 (Int.toNat a4) (0, 0)).2)).bind fun r6 =>
                bif !(r6 == 0) then
                  some ([], r6)
                else
                  (runway_earliest.fn N (a5, x1, (vl 16 x2), List.getD x3 (Int.toNat a4) (0, 0))).bind fun r7 =>
                  bif decide (r7 > 200000) then
                    some ([], 8)
                  else
                    (runway_opened.fn N (x1, r7)).bind fun r8 =>
                    runway_Insert.l1 N x1 x2 x3 k3 a4 a5 r7 r8 N 0
            else
              none
          else
            none
        else
          none
      else
        none
    else
      some (a5, 0) := by kernel_rfl
theorem runway_Insert.l1_clean (N : Nat) (x1 : List (Int × Int)) (x2 : List Int) (x3 : List (Int × Int)) (k3 : Nat) (a4 : Int) (a5 : List (Int × Int × Bool × Int)) (r7 : Int) (r8 : Int × Int) (k9 : Nat) (a10 : Int) : runway_Insert.l1 N x1 x2 x3 k3 a4 a5 r7 r8 (k9 + 1) a10 =
    bif ((decide (0 ≤ a10)) && (decide (a10 < (a5.length : Int)))) || !(decide (a10 < (a5.length : Int))) then
      bif (decide ((Int.toNat a10) < a5.length)) || !(decide (a10 < (a5.length : Int))) then
        bif (decide (a10 < (a5.length : Int))) && (decide (((List.getD a5 (Int.toNat a10) (0, (0, (false, 0)))).1) < r7)) then
          runway_Insert.l1 N x1 x2 x3 k3 a4 a5 r7 r8 k9 (w (a10 + 1))
        else
        bif (decide (0 ≤ a10)) && (decide (a10 ≤ (a5.length : Int))) then
          bif decide ((a5.length + 1) * 32 ≤ 140737488355328) && decide (a5.length + 1 ≤ maxLen) then
            runway_Insert.l0 N x1 x2 x3 k3 (w (a4 + 1)) ((List.take (Int.toNat a10) a5) ++ [(r7, ((List.getD x3 (Int.toNat a4) (0, 0)).2, (true, r8.1)))] ++ (List.drop (Int.toNat a10) a5))
          else
            none
        else
          none
      else
        none
    else
      none := by
  rw [runway_Insert.l1_succ]; simp only [taut7, taut8, cond_true]
theorem runway_Insert.l0_clean (N : Nat) (x1 : List (Int × Int)) (x2 : List Int) (x3 : List (Int × Int)) (k3 : Nat) (a4 : Int) (a5 : List (Int × Int × Bool × Int)) : runway_Insert.l0 N x1 x2 x3 (k3 + 1) a4 a5 =
    bif decide (a4 < (x3.length : Int)) then
      bif (decide (0 ≤ a4)) && (decide (a4 < (x3.length : Int))) then
        bif (decide (((List.getD x3 (Int.toNat a4) (0, 0)).1) < 0)) || (decide (((List.getD x3 (Int.toNat a4) (0, 0)).1) > 200000)) then
          some ([], 12)
        else
          (wake_Class.fn N ((List.getD x3 (Int.toNat a4) (0, 0)).2)).bind fun r6 =>
          bif !(r6 == 0) then
            some ([], r6)
          else
            (runway_earliest.fn N (a5, x1, (vl 16 x2), List.getD x3 (Int.toNat a4) (0, 0))).bind fun r7 =>
            bif decide (r7 > 200000) then
              some ([], 8)
            else
              (runway_opened.fn N (x1, r7)).bind fun r8 =>
              runway_Insert.l1 N x1 x2 x3 k3 a4 a5 r7 r8 N 0
      else
        none
    else
      some (a5, 0) := by
  rw [runway_Insert.l0_succ]; simp only [taut1, taut2, cond_true]
theorem runway_Insert.l0_cons (N : Nat) (x1 : List (Int × Int)) (x2 : List Int) (x3 : List (Int × Int)) (k3 : Nat) (a5 : List (Int × Int × Bool × Int)) {pre r} {x} (hl : x3 = pre ++ x :: r) (hb : x3.length < 4611686018427387904) : runway_Insert.l0 N x1 x2 x3 (k3 + 1) (pre.length : Int) a5 =
    bif (decide ((x.1) < 0)) || (decide ((x.1) > 200000)) then
      some ([], 12)
    else
      (wake_Class.fn N (x.2)).bind fun r6 =>
      bif !(r6 == 0) then
        some ([], r6)
      else
        (runway_earliest.fn N (a5, x1, (vl 16 x2), x)).bind fun r7 =>
        bif decide (r7 > 200000) then
          some ([], 8)
        else
          (runway_opened.fn N (x1, r7)).bind fun r8 =>
          runway_Insert.l1 N x1 x2 x3 k3 (pre.length : Int) a5 r7 r8 N 0 := by
  have hlen : x3.length = pre.length + 1 + r.length := by rw [hl]; simp; omega
  have e1 : decide ((pre.length : Int) < (x3.length : Int)) = true := by rw [decide_eq_true_iff]; omega
  have e2 : decide (0 ≤ (pre.length : Int)) = true := by rw [decide_eq_true_iff]; omega
  have e4 : w ((pre.length : Int) + 1) = (pre.length : Int) + 1 := w_next hl hb
  have e5 : List.take pre.length x3 = pre := by rw [hl]; simp
  have e6 : decide ((pre.length : Int) ≤ (x3.length : Int)) = true := by rw [decide_eq_true_iff]; omega
  have g0 : List.getD x3 pre.length (0, 0) = x := by rw [hl]; exact getD_mid pre x r _
  rw [runway_Insert.l0_clean]
  simp -implicitDefEqProofs only [Int.toNat_natCast, e1, e2, e4, e6, g0, e5, Bool.and_true, Bool.true_and, Bool.true_or, cond_true]
theorem runway_Insert.l0_nil (N : Nat) (x1 : List (Int × Int)) (x2 : List Int) (x3 : List (Int × Int)) (k3 : Nat) (a5 : List (Int × Int × Bool × Int)) : runway_Insert.l0 N x1 x2 x3 (k3 + 1) (x3.length : Int) a5 =
    some (a5, 0) := by
  have e1 : decide ((x3.length : Int) < (x3.length : Int)) = false := by rw [decide_eq_false_iff_not]; omega
  rw [runway_Insert.l0_clean]
  simp -implicitDefEqProofs only [e1, cond_false]
theorem runway_Insert.eq (N : Nat) (x0 : List (Int × Int × Bool × Int)) (x1 : List (Int × Int)) (x2 : List Int) (x3 : List (Int × Int)) : runway_Insert.fn N (x0, x1, x2, x3) =
    (runway_Safe.fn N (x0, x1, (vl 16 x2))).bind fun r1 =>
    bif !(r1.2.2 == 0) then
      some ([], r1.2.2)
    else
    bif decide ((w ((x0.length : Int) + (x3.length : Int))) > 24) then
      some ([], 2)
    else
      (slices_Clone_RunwayMove.fn N x0).bind fun r2 =>
      runway_Insert.l0 N x1 x2 x3 N 0 r2 := by kernel_rfl

/-! ### slices_Clone_RunwaySpan: slices.Clone[[]skyway/api.RunwaySpan,skyway/api.RunwaySpan] -/
def slices_Clone_RunwaySpan.kp : List (Nat × List (Nat × Option (TypeId × Ty))) := []
noncomputable def slices_Clone_RunwaySpan.G (N : Nat) : List (Nat × Spec) := []
noncomputable def slices_Clone_RunwaySpan.E (N : Nat) : Env := mkEnv (slices_Clone_RunwaySpan.G N) N tyTab slices_Clone_RunwaySpan.kp
noncomputable def slices_Clone_RunwaySpan.fn (N : Nat) (x : List (Int × Int)) : Option (List (Int × Int)) := evFn (slices_Clone_RunwaySpan.E N) Try.prog 3 Try.f37 false [.cell (.sl 60 (.pair (.int .i64) (.int .i64)))] [.own 60 (.pair (.int .i64) (.int .i64))] x
noncomputable def slices_Clone_RunwaySpan.S (N : Nat) : PSpec := ⟨false, [.cell (.sl 60 (.pair (.int .i64) (.int .i64)))], [.own 60 (.pair (.int .i64) (.int .i64))], slices_Clone_RunwaySpan.fn N⟩
theorem f37_enters : Enters Try.prog 37 := ⟨Try.f37, Try.func37, by kernel_rfl, by kernel_rfl⟩
theorem slices_Clone_RunwaySpan.tab (N : Nat) : TabOk Try.prog (slices_Clone_RunwaySpan.G N) := trivial
theorem slices_Clone_RunwaySpan.enters : Enters Try.prog 37 := f37_enters
theorem slices_Clone_RunwaySpan.sound (N : Nat) : Sound Try.prog 37 (slices_Clone_RunwaySpan.S N) := evFn_sound (specs_tab (slices_Clone_RunwaySpan.tab N)) (inls_tab (slices_Clone_RunwaySpan.tab N)) mixed 3 Try.func37 _ _ _
theorem slices_Clone_RunwaySpan.eq (N : Nat) (x0 : List (Int × Int)) : slices_Clone_RunwaySpan.fn N x0 =
    bif x0.isEmpty then
      agree (
        some []) (
        bif decide ((0 + x0.length) * 16 ≤ 140737488355328) && decide ((0 + x0.length) ≤ maxLen) then
          some x0
        else
          none)
    else
    bif decide ((0 + x0.length) * 16 ≤ 140737488355328) && decide ((0 + x0.length) ≤ maxLen) then
      some x0
    else
      none := by kernel_rfl
theorem slices_Clone_RunwaySpan.v (N : Nat) (x0 : List (Int × Int)) (h : x0.length * 16 ≤ 140737488355328) : slices_Clone_RunwaySpan.fn N x0 = some x0 := clone_v (B := 16) (slices_Clone_RunwaySpan.eq N x0) (by omega) h

/-! ### runway_Change: skyway/runway.Change -/
def runway_Change.kp : List (Nat × List (Nat × Option (TypeId × Ty))) := [(13, [(1, none), (2, none), (10, none), (45, none), (46, none), (47, none)])]
noncomputable def runway_Change.G (N : Nat) : List (Nat × Spec) := [(17, .pure (runway_Check.S N)), (19, .pure (runway_Spans.S N)), (37, .pure (slices_Clone_RunwaySpan.S N))]
noncomputable def runway_Change.E (N : Nat) : Env := mkEnv (runway_Change.G N) N tyTab runway_Change.kp
noncomputable def runway_Change.fn (N : Nat) (x : List (Int × Int × Bool × Int) × List (Int × Int) × Int) : Option (List (Int × Int) × Int) := evFn (runway_Change.E N) Try.prog 3 Try.f33 false [.cell (.sl 35 (.pair (.int .i64) (.pair (.int .i64) (.pair (.bool) (.int .i64))))), .cell (.sl 60 (.pair (.int .i64) (.int .i64))), .cell (.int .i64)] [.own 60 (.pair (.int .i64) (.int .i64)), .val (.cell (.int .i64))] x
noncomputable def runway_Change.S (N : Nat) : PSpec := ⟨false, [.cell (.sl 35 (.pair (.int .i64) (.pair (.int .i64) (.pair (.bool) (.int .i64))))), .cell (.sl 60 (.pair (.int .i64) (.int .i64))), .cell (.int .i64)], [.own 60 (.pair (.int .i64) (.int .i64)), .val (.cell (.int .i64))], runway_Change.fn N⟩
theorem f33_enters : Enters Try.prog 33 := ⟨Try.f33, Try.func33, by kernel_rfl, by kernel_rfl⟩
theorem runway_Change.tab (N : Nat) : TabOk Try.prog (runway_Change.G N) := ⟨⟨runway_Check.enters, runway_Check.sound N⟩, ⟨runway_Spans.enters, runway_Spans.sound N⟩, ⟨slices_Clone_RunwaySpan.enters, slices_Clone_RunwaySpan.sound N⟩, trivial⟩
theorem runway_Change.enters : Enters Try.prog 33 := f33_enters
theorem runway_Change.sound (N : Nat) : Sound Try.prog 33 (runway_Change.S N) := evFn_sound (specs_tab (runway_Change.tab N)) (inls_tab (runway_Change.tab N)) mixed 3 Try.func33 _ _ _
noncomputable def runway_Change.cd (N : Nat) (p : List Nat) : St → (Ex → St → Option (List (Int × Int) × Int)) → Option (List (Int × Int) × Int) := ev (runway_Change.E N) Try.prog (callD (runway_Change.E N) Try.prog 3) 0 (codeAt (bodyOf Try.f33) p)
noncomputable def runway_Change.fin : Ex → St → Option (List (Int × Int) × Int) := endK Try.prog Try.f33 [.own 60 (.pair (.int .i64) (.int .i64)), .val (.cell (.int .i64))]
noncomputable def runway_Change.l0 (N : Nat) (x0 : List (Int × Int × Bool × Int)) (x1 : List (Int × Int)) (x2 : Int) (k3 : Nat) (a4 : Int) : Option (List (Int × Int) × Int) :=
  loopN (norm ((runway_Change.E N).keep 13) 0) (runway_Change.cd N [1, 1, 1, 1, 1, 1, 0, 1, 0, 0]) k3
  ⟨[.any, .ros false 60 (.pair (.int .i64) (.int .i64)) x1, .sc (.int .i64 x2), .any, .any, .any, .any, .any, .any, .any, .ptr 0 0, .any, .any, .any, .any, .any, .any, .any, .any, .any, .any, .any, .any, .any, .any, .any, .any, .any, .any, .any, .any, .any, .any, .any, .any, .any, .any, .any, .any, .any, .any, .any, .any, .any, .any, .ros false 35 (.pair (.int .i64) (.pair (.int .i64) (.pair (.bool) (.int .i64)))) x0, .sc (.int .i64 (x0.length : Int)), .sc (.int .i64 a4), .any, .any, .any, .any, .any, .any, .any, .any, .any, .any, .any, .any, .any, .any, .any, .any, .any, .any], [.cells [.sc (.int .i64 ((List.getD x1 (Int.toNat (w ((x1.length : Int) - 1))) (0, 0)).1)), .sc (.int .i64 ((List.getD x1 (Int.toNat (w ((x1.length : Int) - 1))) (0, 0)).2))] 60]⟩
  (blockK 0 (seqK (runway_Change.cd N [1, 1, 1, 1, 1, 1, 1]) runway_Change.fin))
theorem runway_Change.l0_zero (N : Nat) (x0 : List (Int × Int × Bool × Int)) (x1 : List (Int × Int)) (x2 : Int) (a4 : Int) : runway_Change.l0 N x0 x1 x2 0 a4 = none := by kernel_rfl
theorem runway_Change.l0_succ (N : Nat) (x0 : List (Int × Int × Bool × Int)) (x1 : List (Int × Int)) (x2 : Int) (k3 : Nat) (a4 : Int) : runway_Change.l0 N x0 x1 x2 (k3 + 1) a4 =
    bif decide (a4 < (x0.length : Int)) then
      bif (decide (0 ≤ a4)) && (decide (a4 < (x0.length : Int))) then
        bif decide (((List.getD x0 (Int.toNat a4) (0, (0, (false, 0)))).1) > (w (x2 - 180))) then
          some ([], 15)
        else
          runway_Change.l0 N x0 x1 x2 k3 (w (a4 + 1))
      else
        none
    else
      (slices_Clone_RunwaySpan.fn N x1).bind fun r5 =>
      bif decide ((r5.length + 1) * 16 ≤ 140737488355328) && decide ((r5.length + 1) ≤ maxLen) then
        some ((r5 ++ [(x2, (w (1 - ((List.getD x1 (Int.toNat (w ((x1.length : Int) - 1))) (0, 0)).2))))]), 0)
      else
        none := by kernel_rfl
theorem runway_Change.l0_cons (N : Nat) (x0 : List (Int × Int × Bool × Int)) (x1 : List (Int × Int)) (x2 : Int) (k3 : Nat) {pre r} {x} (hl : x0 = pre ++ x :: r) (hb : x0.length < 4611686018427387904) : runway_Change.l0 N x0 x1 x2 (k3 + 1) (pre.length : Int) =
    bif decide ((x.1) > (w (x2 - 180))) then
      some ([], 15)
    else
      runway_Change.l0 N x0 x1 x2 k3 ((pre.length : Int) + 1) := by
  have hlen : x0.length = pre.length + 1 + r.length := by rw [hl]; simp; omega
  have e1 : decide ((pre.length : Int) < (x0.length : Int)) = true := by rw [decide_eq_true_iff]; omega
  have e2 : decide (0 ≤ (pre.length : Int)) = true := by rw [decide_eq_true_iff]; omega
  have e4 : w ((pre.length : Int) + 1) = (pre.length : Int) + 1 := w_next hl hb
  have e5 : List.take pre.length x0 = pre := by rw [hl]; simp
  have e6 : decide ((pre.length : Int) ≤ (x0.length : Int)) = true := by rw [decide_eq_true_iff]; omega
  have g0 : List.getD x0 pre.length (0, (0, (false, 0))) = x := by rw [hl]; exact getD_mid pre x r _
  rw [runway_Change.l0_succ]
  simp -implicitDefEqProofs only [Int.toNat_natCast, e1, e2, e4, e6, g0, e5, Bool.and_true, Bool.true_and, Bool.true_or, cond_true]
theorem runway_Change.l0_nil (N : Nat) (x0 : List (Int × Int × Bool × Int)) (x1 : List (Int × Int)) (x2 : Int) (k3 : Nat) : runway_Change.l0 N x0 x1 x2 (k3 + 1) (x0.length : Int) =
    (slices_Clone_RunwaySpan.fn N x1).bind fun r5 =>
    bif decide ((r5.length + 1) * 16 ≤ 140737488355328) && decide ((r5.length + 1) ≤ maxLen) then
      some ((r5 ++ [(x2, (w (1 - ((List.getD x1 (Int.toNat (w ((x1.length : Int) - 1))) (0, 0)).2))))]), 0)
    else
      none := by
  have e1 : decide ((x0.length : Int) < (x0.length : Int)) = false := by rw [decide_eq_false_iff_not]; omega
  rw [runway_Change.l0_succ]
  simp -implicitDefEqProofs only [e1, cond_false]
theorem runway_Change.eq (N : Nat) (x0 : List (Int × Int × Bool × Int)) (x1 : List (Int × Int)) (x2 : Int) : runway_Change.fn N (x0, x1, x2) =
    (runway_Check.fn N x0).bind fun r1 =>
    bif !(r1 == 0) then
      some ([], r1)
    else
      (runway_Spans.fn N x1).bind fun r2 =>
      bif !(r2 == 0) then
        some ([], r2)
      else
      bif (x1.length : Int) == 24 then
        some ([], 9)
      else
      bif (decide (0 ≤ (w ((x1.length : Int) - 1)))) && (decide ((w ((x1.length : Int) - 1)) < (x1.length : Int))) then
        bif !(!(decide (x2 < 0))) || (!(decide (x2 < 0))) then
          bif (decide (x2 < 0)) || (!(decide (x2 < 0))) then
            bif !(!((decide (x2 < 0)) || (decide (x2 > 200000)))) || (!((decide (x2 < 0)) || (decide (x2 > 200000)))) then
              bif !(!((decide (x2 < 0)) || (decide (x2 > 200000)))) || (!((decide (x2 < 0)) || (decide (x2 > 200000)))) then
                bif !(!((decide (x2 < 0)) || (decide (x2 > 200000)))) || (!((decide (x2 < 0)) || (decide (x2 > 200000)))) then
                  bif !(!((decide (x2 < 0)) || (decide (x2 > 200000)))) || (!((decide (x2 < 0)) || (decide (x2 > 200000)))) then
                    bif ((decide (x2 < 0)) || (decide (x2 > 200000))) || (!((decide (x2 < 0)) || (decide (x2 > 200000)))) then
                      bif ((decide (x2 < 0)) || (decide (x2 > 200000))) || (decide (x2 < (w (((List.getD x1 (Int.toNat (w ((x1.length : Int) - 1))) (0, 0)).1) + 360)))) then
                        some ([], 12)
                      else
                        runway_Change.l0 N x0 x1 x2 N 0
                    else
                      none
                  else
                    none
                else
                  none
              else
                none
            else
              none
          else
            none
        else
          none
      else
        none := by kernel_rfl
theorem runway_Change.clean (N : Nat) (x0 : List (Int × Int × Bool × Int)) (x1 : List (Int × Int)) (x2 : Int) : runway_Change.fn N (x0, x1, x2) =
    (runway_Check.fn N x0).bind fun r1 =>
    bif !(r1 == 0) then
      some ([], r1)
    else
      (runway_Spans.fn N x1).bind fun r2 =>
      bif !(r2 == 0) then
        some ([], r2)
      else
      bif (x1.length : Int) == 24 then
        some ([], 9)
      else
      bif (decide (0 ≤ (w ((x1.length : Int) - 1)))) && (decide ((w ((x1.length : Int) - 1)) < (x1.length : Int))) then
        bif ((decide (x2 < 0)) || (decide (x2 > 200000))) || (decide (x2 < (w (((List.getD x1 (Int.toNat (w ((x1.length : Int) - 1))) (0, 0)).1) + 360)))) then
          some ([], 12)
        else
          runway_Change.l0 N x0 x1 x2 N 0
      else
        none := by
  rw [runway_Change.eq]; simp only [taut3, taut1, taut6, taut2, cond_true]

/-! ### runway_Direction: skyway/runway.Direction -/
def runway_Direction.kp : List (Nat × List (Nat × Option (TypeId × Ty))) := []
noncomputable def runway_Direction.G (N : Nat) : List (Nat × Spec) := [(19, .pure (runway_Spans.S N)), (81, .pure (runway_opened.S N))]
noncomputable def runway_Direction.E (N : Nat) : Env := mkEnv (runway_Direction.G N) N tyTab runway_Direction.kp
noncomputable def runway_Direction.fn (N : Nat) (x : List (Int × Int) × Int) : Option (Int × Int) := evFn (runway_Direction.E N) Try.prog 3 Try.f15 false [.cell (.sl 60 (.pair (.int .i64) (.int .i64))), .cell (.int .i64)] [.val (.cell (.int .i64)), .val (.cell (.int .i64))] x
noncomputable def runway_Direction.S (N : Nat) : PSpec := ⟨false, [.cell (.sl 60 (.pair (.int .i64) (.int .i64))), .cell (.int .i64)], [.val (.cell (.int .i64)), .val (.cell (.int .i64))], runway_Direction.fn N⟩
theorem f15_enters : Enters Try.prog 15 := ⟨Try.f15, Try.func15, by kernel_rfl, by kernel_rfl⟩
theorem runway_Direction.tab (N : Nat) : TabOk Try.prog (runway_Direction.G N) := ⟨⟨runway_Spans.enters, runway_Spans.sound N⟩, ⟨runway_opened.enters, runway_opened.sound N⟩, trivial⟩
theorem runway_Direction.enters : Enters Try.prog 15 := f15_enters
theorem runway_Direction.sound (N : Nat) : Sound Try.prog 15 (runway_Direction.S N) := evFn_sound (specs_tab (runway_Direction.tab N)) (inls_tab (runway_Direction.tab N)) mixed 3 Try.func15 _ _ _
theorem runway_Direction.eq (N : Nat) (x0 : List (Int × Int)) (x1 : Int) : runway_Direction.fn N (x0, x1) =
    (runway_Spans.fn N x0).bind fun r1 =>
    bif !(r1 == 0) then
      some (0, r1)
    else
    bif !(!(decide (x1 < 0))) || (!(decide (x1 < 0))) then
      bif (decide (x1 < 0)) || (!(decide (x1 < 0))) then
        bif (decide (x1 < 0)) || (decide (x1 > 200000)) then
          some (0, 12)
        else
          (runway_opened.fn N (x0, x1)).bind fun r2 =>
          bif decide (r2.2 ≥ 0) then
            some (0, 14)
          else
            some (r2.1, 0)
      else
        none
    else
      none := by kernel_rfl
theorem runway_Direction.clean (N : Nat) (x0 : List (Int × Int)) (x1 : Int) : runway_Direction.fn N (x0, x1) =
    (runway_Spans.fn N x0).bind fun r1 =>
    bif !(r1 == 0) then
      some (0, r1)
    else
    bif (decide (x1 < 0)) || (decide (x1 > 200000)) then
      some (0, 12)
    else
      (runway_opened.fn N (x0, x1)).bind fun r2 =>
      bif decide (r2.2 ≥ 0) then
        some (0, 14)
      else
        some (r2.1, 0) := by
  rw [runway_Direction.eq]; simp only [taut1, taut2, cond_true]

/-! ### runway_Gap: skyway/runway.Gap -/
def runway_Gap.kp : List (Nat × List (Nat × Option (TypeId × Ty))) := [(5, [(3, none), (4, none), (5, none), (19, none), (20, none)])]
noncomputable def runway_Gap.G (N : Nat) : List (Nat × Spec) := [(17, .pure (runway_Check.S N)), (83, .pure (wake_Check.S N)), (84, .pure (runway_gap.S N))]
noncomputable def runway_Gap.E (N : Nat) : Env := mkEnv (runway_Gap.G N) N tyTab runway_Gap.kp
noncomputable def runway_Gap.fn (N : Nat) (x : List Int × (Int × Int × Bool × Int) × Int × Int × Bool × Int) : Option (Int × Int) := evFn (runway_Gap.E N) Try.prog 3 Try.f21 false [.agg (.vec 16 .i64), .agg (.pair (.int .i64) (.pair (.int .i64) (.pair (.bool) (.int .i64)))), .agg (.pair (.int .i64) (.pair (.int .i64) (.pair (.bool) (.int .i64))))] [.val (.cell (.int .i64)), .val (.cell (.int .i64))] x
noncomputable def runway_Gap.S (N : Nat) : PSpec := ⟨false, [.agg (.vec 16 .i64), .agg (.pair (.int .i64) (.pair (.int .i64) (.pair (.bool) (.int .i64)))), .agg (.pair (.int .i64) (.pair (.int .i64) (.pair (.bool) (.int .i64))))], [.val (.cell (.int .i64)), .val (.cell (.int .i64))], runway_Gap.fn N⟩
theorem f21_enters : Enters Try.prog 21 := ⟨Try.f21, Try.func21, by kernel_rfl, by kernel_rfl⟩
theorem runway_Gap.tab (N : Nat) : TabOk Try.prog (runway_Gap.G N) := ⟨⟨runway_Check.enters, runway_Check.sound N⟩, ⟨wake_Check.enters, wake_Check.sound N⟩, ⟨runway_gap.enters, runway_gap.sound N⟩, trivial⟩
theorem runway_Gap.enters : Enters Try.prog 21 := f21_enters
theorem runway_Gap.sound (N : Nat) : Sound Try.prog 21 (runway_Gap.S N) := evFn_sound (specs_tab (runway_Gap.tab N)) (inls_tab (runway_Gap.tab N)) mixed 3 Try.func21 _ _ _
theorem runway_Gap.eq (N : Nat) (x0 : List Int) (x1 : Int × Int × Bool × Int) (x2 : Int × Int × Bool × Int) {M : Nat} (hM : N = M + 8) : runway_Gap.fn N (x0, x1, x2) =
    (wake_Check.fn N (vl 16 x0)).bind fun r1 =>
    bif !(r1 == 0) then
      some (0, r1)
    else
      (runway_Check.fn N [x1]).bind fun r2 =>
      bif !(r2 == 0) then
        some (0, r2)
      else
        (runway_Check.fn N [x2]).bind fun r3 =>
        bif !(r3 == 0) then
          some (0, r3)
        else
          (runway_gap.fn N ((vl 16 x0), x1, x2)).bind fun r4 =>
          some (r4, 0) := by subst hM; kernel_rfl

/-! ### law_runwayFact: skyway/skywaylaw3.runwayFact -/
def law_runwayFact.kp : List (Nat × List (Nat × Option (TypeId × Ty))) := [(999999, [(0, none)])]
noncomputable def law_runwayFact.G (N : Nat) : List (Nat × Spec) := [(15, .pure (runway_Direction.S N)), (17, .pure (runway_Check.S N)), (19, .pure (runway_Spans.S N)), (21, .pure (runway_Gap.S N)), (24, .pure (runway_Safe.S N)), (27, .pure (runway_Insert.S N)), (33, .pure (runway_Change.S N)), (80, .pure (wake_Standard.S N))]
noncomputable def law_runwayFact.E (N : Nat) : Env := mkEnv (law_runwayFact.G N) N tyTab law_runwayFact.kp
noncomputable def law_runwayFact.fn (N : Nat) (x : Unit) : Option Bool := evFn (law_runwayFact.E N) Try.prog 3 Try.f14 false [] [.val (.cell (.bool))] x
noncomputable def law_runwayFact.S (N : Nat) : PSpec := ⟨false, [], [.val (.cell (.bool))], law_runwayFact.fn N⟩
theorem f14_enters : Enters Try.prog 14 := ⟨Try.f14, Try.func14, by kernel_rfl, by kernel_rfl⟩
theorem law_runwayFact.tab (N : Nat) : TabOk Try.prog (law_runwayFact.G N) := ⟨⟨runway_Direction.enters, runway_Direction.sound N⟩, ⟨runway_Check.enters, runway_Check.sound N⟩, ⟨runway_Spans.enters, runway_Spans.sound N⟩, ⟨runway_Gap.enters, runway_Gap.sound N⟩, ⟨runway_Safe.enters, runway_Safe.sound N⟩, ⟨runway_Insert.enters, runway_Insert.sound N⟩, ⟨runway_Change.enters, runway_Change.sound N⟩, ⟨wake_Standard.enters, wake_Standard.sound N⟩, trivial⟩
theorem law_runwayFact.enters : Enters Try.prog 14 := f14_enters
theorem law_runwayFact.sound (N : Nat) : Sound Try.prog 14 (law_runwayFact.S N) := evFn_sound (specs_tab (law_runwayFact.tab N)) (inls_tab (law_runwayFact.tab N)) mixed 3 Try.func14 _ _ _
theorem law_runwayFact.eq (N : Nat) : law_runwayFact.fn N () =
    (wake_Standard.fn N ()).bind fun r1 =>
    (runway_Insert.fn N ([(100, (1, (false, 0)))], [(0, 0)], (vl 16 r1), [(100, 1)])).bind fun r2 =>
    (runway_Safe.fn N (r2.1, [(0, 0)], (vl 16 r1))).bind fun r3 =>
    (runway_Change.fn N (r2.1, [(0, 0)], 1000)).bind fun r4 =>
    (runway_Direction.fn N (r4.1, 821)).bind fun r5 =>
    (runway_Direction.fn N (r4.1, 1180)).bind fun r6 =>
    bif !((r2.1.length : Int) == 2) then
      some false
    else
    bif decide (0 < (r2.1.length : Int)) then
      bif decide (0 < r2.1.length) then
        bif decide (1 < (r2.1.length : Int)) then
          bif decide (1 < r2.1.length) then
            (runway_Gap.fn N ((vl 16 r1), List.getD r2.1 0 (0, (0, (false, 0))), List.getD r2.1 1 (0, (0, (false, 0))))).bind fun r7 =>
            (runway_Safe.fn N ([(100, (1, (false, 0))), (100, (1, (false, 0)))], [(0, 0)], (vl 16 r1))).bind fun r8 =>
            bif r2.2 == 0 then
              bif r3.2.2 == 0 then
                bif r4.2 == 0 then
                  bif r5.2 == 14 then
                    bif r6.2 == 0 then
                      bif r7.2 == 0 then
                        bif r8.2.2 == 15 then
                          bif r8.1 == 0 then
                            bif r8.2.1 == 1 then
                              bif r6.1 == 1 then
                                bif r7.1 == 60 then
                                  bif decide (1 < (r2.1.length : Int)) then
                                    bif decide (1 < r2.1.length) then
                                      bif (((List.getD r2.1 1 (0, (0, (false, 0)))).1) == 160) && (((((List.getD r2.1 1 (0, (0, (false, 0)))).2).1) == 1) && ((((((List.getD r2.1 1 (0, (0, (false, 0)))).2).2).1) == true) && ((((((List.getD r2.1 1 (0, (0, (false, 0)))).2).2).2) == 0) && true))) then
                                        (runway_Check.fn N [(0, (0, (false, 2)))]).bind fun r9 =>
                                        bif r9 == 1 then
                                          (runway_Spans.fn N []).bind fun r10 =>
                                          some (r10 == 8)
                                        else
                                          some false
                                      else
                                        some false
                                    else
                                      none
                                  else
                                    none
                                else
                                  some false
                              else
                                some false
                            else
                              some false
                          else
                            some false
                        else
                          some false
                      else
                        some false
                    else
                      some false
                  else
                    some false
                else
                  some false
              else
                some false
            else
              some false
          else
            none
        else
          none
      else
        none
    else
      none := by kernel_rfl

/-! ### ref_EndsError: skyway/skywayref3.EndsError -/
def ref_EndsError.kp : List (Nat × List (Nat × Option (TypeId × Ty))) := [(6, [(0, none), (11, none), (12, none), (13, none)])]
noncomputable def ref_EndsError.G (N : Nat) : List (Nat × Spec) := []
noncomputable def ref_EndsError.E (N : Nat) : Env := mkEnv (ref_EndsError.G N) N tyTab ref_EndsError.kp
noncomputable def ref_EndsError.fn (N : Nat) (x : List (Int × Int)) : Option Int := evFn (ref_EndsError.E N) Try.prog 3 Try.f16 false [.cell (.sl 60 (.pair (.int .i64) (.int .i64)))] [.val (.cell (.int .i64))] x
noncomputable def ref_EndsError.S (N : Nat) : PSpec := ⟨false, [.cell (.sl 60 (.pair (.int .i64) (.int .i64)))], [.val (.cell (.int .i64))], ref_EndsError.fn N⟩
theorem f16_enters : Enters Try.prog 16 := ⟨Try.f16, Try.func16, by kernel_rfl, by kernel_rfl⟩
theorem ref_EndsError.tab (N : Nat) : TabOk Try.prog (ref_EndsError.G N) := trivial
theorem ref_EndsError.enters : Enters Try.prog 16 := f16_enters
theorem ref_EndsError.sound (N : Nat) : Sound Try.prog 16 (ref_EndsError.S N) := evFn_sound (specs_tab (ref_EndsError.tab N)) (inls_tab (ref_EndsError.tab N)) mixed 3 Try.func16 _ _ _
noncomputable def ref_EndsError.cd (N : Nat) (p : List Nat) : St → (Ex → St → Option Int) → Option Int := ev (ref_EndsError.E N) Try.prog (callD (ref_EndsError.E N) Try.prog 3) 0 (codeAt (bodyOf Try.f16) p)
noncomputable def ref_EndsError.fin : Ex → St → Option Int := endK Try.prog Try.f16 [.val (.cell (.int .i64))]
noncomputable def ref_EndsError.l0 (N : Nat) (x0 : List (Int × Int)) (k1 : Nat) (a2 : Int) : Option Int :=
  loopN (norm ((ref_EndsError.E N).keep 6) 0) (ref_EndsError.cd N [1, 1, 1, 0, 1, 0, 0]) k1
  ⟨[.ros false 60 (.pair (.int .i64) (.int .i64)) x0, .any, .any, .any, .any, .any, .any, .any, .any, .any, .any, .ros false 60 (.pair (.int .i64) (.int .i64)) x0, .sc (.int .i64 (x0.length : Int)), .sc (.int .i64 a2), .any, .any, .any, .any, .any, .any, .any, .any, .any, .any, .any, .any, .any, .any, .any, .any, .any, .any, .any, .any, .any, .any, .any, .any, .any, .any, .any, .any, .any, .any, .any, .any, .any, .any, .any, .any, .any, .any, .any, .any, .any, .any, .any, .any, .any, .any, .any, .any, .any, .any], []⟩
  (blockK 0 (seqK (ref_EndsError.cd N [1, 1, 1, 1]) ref_EndsError.fin))
theorem ref_EndsError.l0_zero (N : Nat) (x0 : List (Int × Int)) (a2 : Int) : ref_EndsError.l0 N x0 0 a2 = none := by kernel_rfl
theorem ref_EndsError.l0_succ (N : Nat) (x0 : List (Int × Int)) (k1 : Nat) (a2 : Int) : ref_EndsError.l0 N x0 (k1 + 1) a2 =
    bif decide (a2 < (x0.length : Int)) then
      bif (decide (0 ≤ a2)) && (decide (a2 < (x0.length : Int))) then
        bif !(!(((List.getD x0 (Int.toNat a2) (0, 0)).2) == 0)) || (!(((List.getD x0 (Int.toNat a2) (0, 0)).2) == 0)) then
          bif !(!(((List.getD x0 (Int.toNat a2) (0, 0)).2) == 0)) || (!(((List.getD x0 (Int.toNat a2) (0, 0)).2) == 0)) then
            bif (!(!(((List.getD x0 (Int.toNat a2) (0, 0)).2) == 0))) || (!(((List.getD x0 (Int.toNat a2) (0, 0)).2) == 0)) then
              bif (!(((List.getD x0 (Int.toNat a2) (0, 0)).2) == 0)) && (!(((List.getD x0 (Int.toNat a2) (0, 0)).2) == 1)) then
                some 1
              else
              bif !(!(decide (((List.getD x0 (Int.toNat a2) (0, 0)).1) < 0))) || (!(decide (((List.getD x0 (Int.toNat a2) (0, 0)).1) < 0))) then
                bif !(!(decide (((List.getD x0 (Int.toNat a2) (0, 0)).1) < 0))) || (!(decide (((List.getD x0 (Int.toNat a2) (0, 0)).1) < 0))) then
                  bif (decide (((List.getD x0 (Int.toNat a2) (0, 0)).1) < 0)) || (!(decide (((List.getD x0 (Int.toNat a2) (0, 0)).1) < 0))) then
                    bif !(!((decide (((List.getD x0 (Int.toNat a2) (0, 0)).1) < 0)) || (decide (((List.getD x0 (Int.toNat a2) (0, 0)).1) > 200000)))) || (!((decide (((List.getD x0 (Int.toNat a2) (0, 0)).1) < 0)) || (decide (((List.getD x0 (Int.toNat a2) (0, 0)).1) > 200000)))) then
                      bif !(!((decide (((List.getD x0 (Int.toNat a2) (0, 0)).1) < 0)) || (decide (((List.getD x0 (Int.toNat a2) (0, 0)).1) > 200000)))) || (!((decide (((List.getD x0 (Int.toNat a2) (0, 0)).1) < 0)) || (decide (((List.getD x0 (Int.toNat a2) (0, 0)).1) > 200000)))) then
                        bif !((!((decide (((List.getD x0 (Int.toNat a2) (0, 0)).1) < 0)) || (decide (((List.getD x0 (Int.toNat a2) (0, 0)).1) > 200000)))) && (decide (a2 > 0))) || ((!((decide (((List.getD x0 (Int.toNat a2) (0, 0)).1) < 0)) || (decide (((List.getD x0 (Int.toNat a2) (0, 0)).1) > 200000)))) && (decide (a2 > 0))) then
                          bif !((!((decide (((List.getD x0 (Int.toNat a2) (0, 0)).1) < 0)) || (decide (((List.getD x0 (Int.toNat a2) (0, 0)).1) > 200000)))) && (decide (a2 > 0))) || ((!((decide (((List.getD x0 (Int.toNat a2) (0, 0)).1) < 0)) || (decide (((List.getD x0 (Int.toNat a2) (0, 0)).1) > 200000)))) && (decide (a2 > 0))) then
                            bif !((!((decide (((List.getD x0 (Int.toNat a2) (0, 0)).1) < 0)) || (decide (((List.getD x0 (Int.toNat a2) (0, 0)).1) > 200000)))) && (decide (a2 > 0))) || ((!((decide (((List.getD x0 (Int.toNat a2) (0, 0)).1) < 0)) || (decide (((List.getD x0 (Int.toNat a2) (0, 0)).1) > 200000)))) && (decide (a2 > 0))) then
                              bif !((!((decide (((List.getD x0 (Int.toNat a2) (0, 0)).1) < 0)) || (decide (((List.getD x0 (Int.toNat a2) (0, 0)).1) > 200000)))) && (decide (a2 > 0))) || ((!((decide (((List.getD x0 (Int.toNat a2) (0, 0)).1) < 0)) || (decide (((List.getD x0 (Int.toNat a2) (0, 0)).1) > 200000)))) && (decide (a2 > 0))) then
                                bif ((decide (0 ≤ (w (a2 - 1)))) && (decide ((w (a2 - 1)) < (x0.length : Int)))) || !((!((decide (((List.getD x0 (Int.toNat a2) (0, 0)).1) < 0)) || (decide (((List.getD x0 (Int.toNat a2) (0, 0)).1) > 200000)))) && (decide (a2 > 0))) then
                                  bif !((!((decide (((List.getD x0 (Int.toNat a2) (0, 0)).1) < 0)) || (decide (((List.getD x0 (Int.toNat a2) (0, 0)).1) > 200000)))) && (decide (a2 > 0))) || ((!((decide (((List.getD x0 (Int.toNat a2) (0, 0)).1) < 0)) || (decide (((List.getD x0 (Int.toNat a2) (0, 0)).1) > 200000)))) && (decide (a2 > 0))) then
                                    bif !((!((decide (((List.getD x0 (Int.toNat a2) (0, 0)).1) < 0)) || (decide (((List.getD x0 (Int.toNat a2) (0, 0)).1) > 200000)))) && (decide (a2 > 0))) || ((!((decide (((List.getD x0 (Int.toNat a2) (0, 0)).1) < 0)) || (decide (((List.getD x0 (Int.toNat a2) (0, 0)).1) > 200000)))) && (decide (a2 > 0))) then
                                      bif !((!((decide (((List.getD x0 (Int.toNat a2) (0, 0)).1) < 0)) || (decide (((List.getD x0 (Int.toNat a2) (0, 0)).1) > 200000)))) && (decide (a2 > 0))) || ((!((decide (((List.getD x0 (Int.toNat a2) (0, 0)).1) < 0)) || (decide (((List.getD x0 (Int.toNat a2) (0, 0)).1) > 200000)))) && (decide (a2 > 0))) then
                                        bif !((!((decide (((List.getD x0 (Int.toNat a2) (0, 0)).1) < 0)) || (decide (((List.getD x0 (Int.toNat a2) (0, 0)).1) > 200000)))) && (decide (a2 > 0))) || ((!((decide (((List.getD x0 (Int.toNat a2) (0, 0)).1) < 0)) || (decide (((List.getD x0 (Int.toNat a2) (0, 0)).1) > 200000)))) && (decide (a2 > 0))) then
                                          bif !((!((decide (((List.getD x0 (Int.toNat a2) (0, 0)).1) < 0)) || (decide (((List.getD x0 (Int.toNat a2) (0, 0)).1) > 200000)))) && (decide (a2 > 0))) || ((!((decide (((List.getD x0 (Int.toNat a2) (0, 0)).1) < 0)) || (decide (((List.getD x0 (Int.toNat a2) (0, 0)).1) > 200000)))) && (decide (a2 > 0))) then
                                            bif !(!((decide (((List.getD x0 (Int.toNat a2) (0, 0)).1) < 0)) || (decide (((List.getD x0 (Int.toNat a2) (0, 0)).1) > 200000)))) || (!((decide (((List.getD x0 (Int.toNat a2) (0, 0)).1) < 0)) || (decide (((List.getD x0 (Int.toNat a2) (0, 0)).1) > 200000)))) then
                                              bif !(!((decide (((List.getD x0 (Int.toNat a2) (0, 0)).1) < 0)) || (decide (((List.getD x0 (Int.toNat a2) (0, 0)).1) > 200000)))) || ((!(decide (a2 > 0))) || ((!((decide (((List.getD x0 (Int.toNat a2) (0, 0)).1) < 0)) || (decide (((List.getD x0 (Int.toNat a2) (0, 0)).1) > 200000)))) && (decide (a2 > 0)))) then
                                                bif ((decide (((List.getD x0 (Int.toNat a2) (0, 0)).1) < 0)) || (decide (((List.getD x0 (Int.toNat a2) (0, 0)).1) > 200000))) || (!((decide (((List.getD x0 (Int.toNat a2) (0, 0)).1) < 0)) || (decide (((List.getD x0 (Int.toNat a2) (0, 0)).1) > 200000)))) then
                                                  bif ((decide (((List.getD x0 (Int.toNat a2) (0, 0)).1) < 0)) || (decide (((List.getD x0 (Int.toNat a2) (0, 0)).1) > 200000))) || ((decide (a2 > 0)) && (decide ((w (((List.getD x0 (Int.toNat a2) (0, 0)).1) - ((List.getD x0 (Int.toNat (w (a2 - 1))) (0, 0)).1))) < 360))) then
                                                    some 12
                                                  else
                                                  bif !(decide (a2 > 0)) || (decide (a2 > 0)) then
                                                    bif !(decide (a2 > 0)) || (decide (a2 > 0)) then
                                                      bif !(decide (a2 > 0)) || (decide (a2 > 0)) then
                                                        bif !(decide (a2 > 0)) || (decide (a2 > 0)) then
                                                          bif ((decide (0 ≤ (w (a2 - 1)))) && (decide ((w (a2 - 1)) < (x0.length : Int)))) || !(decide (a2 > 0)) then
                                                            bif !(decide (a2 > 0)) || (decide (a2 > 0)) then
                                                              bif !(decide (a2 > 0)) || (decide (a2 > 0)) then
                                                                bif !(decide (a2 > 0)) || (decide (a2 > 0)) then
                                                                  bif !(decide (a2 > 0)) || (decide (a2 > 0)) then
                                                                    bif (!(decide (a2 > 0))) || (decide (a2 > 0)) then
                                                                      bif (decide (a2 > 0)) && (((List.getD x0 (Int.toNat a2) (0, 0)).2) == ((List.getD x0 (Int.toNat (w (a2 - 1))) (0, 0)).2)) then
                                                                        some 11
                                                                      else
                                                                        ref_EndsError.l0 N x0 k1 (w (a2 + 1))
                                                                    else
                                                                      none
                                                                  else
                                                                    none
                                                                else
                                                                  none
                                                              else
                                                                none
                                                            else
                                                              none
                                                          else
                                                            none
                                                        else
                                                          none
                                                      else
                                                        none
                                                    else
                                                      none
                                                  else
                                                    none
                                                else
                                                  none
                                              else
                                                none
                                            else
                                              none
                                          else
                                            none
                                        else
                                          none
                                      else
                                        none
                                    else
                                      none
                                  else
                                    none
                                else
                                  none
                              else
                                none
                            else
                              none
                          else
                            none
                        else
                          none
                      else
                        none
                    else
                      none
                  else
                    none
                else
                  none
              else
                none
            else
              none
          else
            none
        else
          none
      else
        none
    else
      some 0 := by kernel_rfl
theorem taut13 : ∀ p0 : Bool, (((!(!(p0))) || (!(p0)))) = true := by decide
theorem ref_EndsError.l0_clean (N : Nat) (x0 : List (Int × Int)) (k1 : Nat) (a2 : Int) : ref_EndsError.l0 N x0 (k1 + 1) a2 =
    bif decide (a2 < (x0.length : Int)) then
      bif (decide (0 ≤ a2)) && (decide (a2 < (x0.length : Int))) then
        bif (!(((List.getD x0 (Int.toNat a2) (0, 0)).2) == 0)) && (!(((List.getD x0 (Int.toNat a2) (0, 0)).2) == 1)) then
          some 1
        else
        bif ((decide (0 ≤ (w (a2 - 1)))) && (decide ((w (a2 - 1)) < (x0.length : Int)))) || !((!((decide (((List.getD x0 (Int.toNat a2) (0, 0)).1) < 0)) || (decide (((List.getD x0 (Int.toNat a2) (0, 0)).1) > 200000)))) && (decide (a2 > 0))) then
          bif ((decide (((List.getD x0 (Int.toNat a2) (0, 0)).1) < 0)) || (decide (((List.getD x0 (Int.toNat a2) (0, 0)).1) > 200000))) || ((decide (a2 > 0)) && (decide ((w (((List.getD x0 (Int.toNat a2) (0, 0)).1) - ((List.getD x0 (Int.toNat (w (a2 - 1))) (0, 0)).1))) < 360))) then
            some 12
          else
          bif ((decide (0 ≤ (w (a2 - 1)))) && (decide ((w (a2 - 1)) < (x0.length : Int)))) || !(decide (a2 > 0)) then
            bif (decide (a2 > 0)) && (((List.getD x0 (Int.toNat a2) (0, 0)).2) == ((List.getD x0 (Int.toNat (w (a2 - 1))) (0, 0)).2)) then
              some 11
            else
              ref_EndsError.l0 N x0 k1 (w (a2 + 1))
          else
            none
        else
          none
      else
        none
    else
      some 0 := by
  rw [ref_EndsError.l0_succ]; simp only [taut3, taut4, taut1, taut5, taut7, taut13, taut8, taut6, taut2, cond_true]
theorem ref_EndsError.l0_cons (N : Nat) (x0 : List (Int × Int)) (k1 : Nat) {pre r} {x} (hl : x0 = pre ++ x :: r) (hb : x0.length < 4611686018427387904) : ref_EndsError.l0 N x0 (k1 + 1) (pre.length : Int) =
    bif (!((x.2) == 0)) && (!((x.2) == 1)) then
      some 1
    else
    bif ((decide (0 ≤ (w ((pre.length : Int) - 1)))) && (decide ((w ((pre.length : Int) - 1)) < (x0.length : Int)))) || !((!((decide ((x.1) < 0)) || (decide ((x.1) > 200000)))) && (decide ((pre.length : Int) > 0))) then
      bif ((decide ((x.1) < 0)) || (decide ((x.1) > 200000))) || ((decide ((pre.length : Int) > 0)) && (decide ((w ((x.1) - ((List.getD x0 (Int.toNat (w ((pre.length : Int) - 1))) (0, 0)).1))) < 360))) then
        some 12
      else
      bif ((decide (0 ≤ (w ((pre.length : Int) - 1)))) && (decide ((w ((pre.length : Int) - 1)) < (x0.length : Int)))) || !(decide ((pre.length : Int) > 0)) then
        bif (decide ((pre.length : Int) > 0)) && ((x.2) == ((List.getD x0 (Int.toNat (w ((pre.length : Int) - 1))) (0, 0)).2)) then
          some 11
        else
          ref_EndsError.l0 N x0 k1 ((pre.length : Int) + 1)
      else
        none
    else
      none := by
  have hlen : x0.length = pre.length + 1 + r.length := by rw [hl]; simp; omega
  have e1 : decide ((pre.length : Int) < (x0.length : Int)) = true := by rw [decide_eq_true_iff]; omega
  have e2 : decide (0 ≤ (pre.length : Int)) = true := by rw [decide_eq_true_iff]; omega
  have e4 : w ((pre.length : Int) + 1) = (pre.length : Int) + 1 := w_next hl hb
  have e5 : List.take pre.length x0 = pre := by rw [hl]; simp
  have e6 : decide ((pre.length : Int) ≤ (x0.length : Int)) = true := by rw [decide_eq_true_iff]; omega
  have g0 : List.getD x0 pre.length (0, 0) = x := by rw [hl]; exact getD_mid pre x r _
  rw [ref_EndsError.l0_clean]
  simp -implicitDefEqProofs only [Int.toNat_natCast, e1, e2, e4, e6, g0, e5, Bool.and_true, Bool.true_and, Bool.true_or, cond_true]
theorem ref_EndsError.l0_nil (N : Nat) (x0 : List (Int × Int)) (k1 : Nat) : ref_EndsError.l0 N x0 (k1 + 1) (x0.length : Int) =
    some 0 := by
  have e1 : decide ((x0.length : Int) < (x0.length : Int)) = false := by rw [decide_eq_false_iff_not]; omega
  rw [ref_EndsError.l0_clean]
  simp -implicitDefEqProofs only [e1, cond_false]
theorem ref_EndsError.eq (N : Nat) (x0 : List (Int × Int)) : ref_EndsError.fn N x0 =
    bif decide ((x0.length : Int) > 24) then
      some 2
    else
    bif (x0.length : Int) == 0 then
      some 8
    else
      ref_EndsError.l0 N x0 N 0 := by kernel_rfl

/-! ### ref_MovesError: skyway/skywayref3.MovesError -/
def ref_MovesError.kp : List (Nat × List (Nat × Option (TypeId × Ty))) := [(5, [(3, none), (9, none), (10, none), (11, none)])]
noncomputable def ref_MovesError.G (N : Nat) : List (Nat × Spec) := []
noncomputable def ref_MovesError.E (N : Nat) : Env := mkEnv (ref_MovesError.G N) N tyTab ref_MovesError.kp
noncomputable def ref_MovesError.fn (N : Nat) (x : List (Int × Int × Bool × Int)) : Option Int := evFn (ref_MovesError.E N) Try.prog 3 Try.f18 false [.cell (.sl 35 (.pair (.int .i64) (.pair (.int .i64) (.pair (.bool) (.int .i64)))))] [.val (.cell (.int .i64))] x
noncomputable def ref_MovesError.S (N : Nat) : PSpec := ⟨false, [.cell (.sl 35 (.pair (.int .i64) (.pair (.int .i64) (.pair (.bool) (.int .i64)))))], [.val (.cell (.int .i64))], ref_MovesError.fn N⟩
theorem f18_enters : Enters Try.prog 18 := ⟨Try.f18, Try.func18, by kernel_rfl, by kernel_rfl⟩
theorem ref_MovesError.tab (N : Nat) : TabOk Try.prog (ref_MovesError.G N) := trivial
theorem ref_MovesError.enters : Enters Try.prog 18 := f18_enters
theorem ref_MovesError.sound (N : Nat) : Sound Try.prog 18 (ref_MovesError.S N) := evFn_sound (specs_tab (ref_MovesError.tab N)) (inls_tab (ref_MovesError.tab N)) mixed 3 Try.func18 _ _ _
noncomputable def ref_MovesError.cd (N : Nat) (p : List Nat) : St → (Ex → St → Option Int) → Option Int := ev (ref_MovesError.E N) Try.prog (callD (ref_MovesError.E N) Try.prog 3) 0 (codeAt (bodyOf Try.f18) p)
noncomputable def ref_MovesError.fin : Ex → St → Option Int := endK Try.prog Try.f18 [.val (.cell (.int .i64))]
noncomputable def ref_MovesError.l0 (N : Nat) (x0 : List (Int × Int × Bool × Int)) (k1 : Nat) (a2 : Int) (a3 : Int) : Option Int :=
  loopN (norm ((ref_MovesError.E N).keep 5) 0) (ref_MovesError.cd N [1, 1, 1, 0, 1, 0, 0]) k1
  ⟨[.any, .any, .any, .sc (.int .i64 a2), .any, .any, .any, .any, .any, .ros false 35 (.pair (.int .i64) (.pair (.int .i64) (.pair (.bool) (.int .i64)))) x0, .sc (.int .i64 (x0.length : Int)), .sc (.int .i64 a3), .any, .any, .any, .any, .any, .any, .any, .any, .any, .any, .any, .any, .any, .any, .any, .any, .any, .any, .any, .any, .any, .any, .any, .any, .any, .any, .any, .any, .any, .any, .any, .any, .any], []⟩
  (blockK 0 (seqK (ref_MovesError.cd N [1, 1, 1, 1]) ref_MovesError.fin))
theorem ref_MovesError.l0_zero (N : Nat) (x0 : List (Int × Int × Bool × Int)) (a2 : Int) (a3 : Int) : ref_MovesError.l0 N x0 0 a2 a3 = none := by kernel_rfl
theorem ref_MovesError.l0_succ (N : Nat) (x0 : List (Int × Int × Bool × Int)) (k1 : Nat) (a2 : Int) (a3 : Int) : ref_MovesError.l0 N x0 (k1 + 1) a2 a3 =
    bif decide (a3 < (x0.length : Int)) then
      bif (decide (0 ≤ a3)) && (decide (a3 < (x0.length : Int))) then
        bif !(!(decide (((List.getD x0 (Int.toNat a3) (0, (0, (false, 0)))).1) < a2))) || (!(decide (((List.getD x0 (Int.toNat a3) (0, (0, (false, 0)))).1) < a2))) then
          bif !(!(decide (((List.getD x0 (Int.toNat a3) (0, (0, (false, 0)))).1) < a2))) || (!(decide (((List.getD x0 (Int.toNat a3) (0, (0, (false, 0)))).1) < a2))) then
            bif (decide (((List.getD x0 (Int.toNat a3) (0, (0, (false, 0)))).1) < a2)) || (!(decide (((List.getD x0 (Int.toNat a3) (0, (0, (false, 0)))).1) < a2))) then
              bif (decide (((List.getD x0 (Int.toNat a3) (0, (0, (false, 0)))).1) < a2)) || (decide (((List.getD x0 (Int.toNat a3) (0, (0, (false, 0)))).1) > 200000)) then
                some 12
              else
              bif !(!(decide ((((List.getD x0 (Int.toNat a3) (0, (0, (false, 0)))).2).1) < 0))) || (!(decide ((((List.getD x0 (Int.toNat a3) (0, (0, (false, 0)))).2).1) < 0))) then
                bif !(!(decide ((((List.getD x0 (Int.toNat a3) (0, (0, (false, 0)))).2).1) < 0))) || (!(decide ((((List.getD x0 (Int.toNat a3) (0, (0, (false, 0)))).2).1) < 0))) then
                  bif (decide ((((List.getD x0 (Int.toNat a3) (0, (0, (false, 0)))).2).1) < 0)) || (!(decide ((((List.getD x0 (Int.toNat a3) (0, (0, (false, 0)))).2).1) < 0))) then
                    bif !(!((decide ((((List.getD x0 (Int.toNat a3) (0, (0, (false, 0)))).2).1) < 0)) || (decide ((((List.getD x0 (Int.toNat a3) (0, (0, (false, 0)))).2).1) > 3)))) || (!((decide ((((List.getD x0 (Int.toNat a3) (0, (0, (false, 0)))).2).1) < 0)) || (decide ((((List.getD x0 (Int.toNat a3) (0, (0, (false, 0)))).2).1) > 3)))) then
                      bif !(!((decide ((((List.getD x0 (Int.toNat a3) (0, (0, (false, 0)))).2).1) < 0)) || (decide ((((List.getD x0 (Int.toNat a3) (0, (0, (false, 0)))).2).1) > 3)))) || (!((decide ((((List.getD x0 (Int.toNat a3) (0, (0, (false, 0)))).2).1) < 0)) || (decide ((((List.getD x0 (Int.toNat a3) (0, (0, (false, 0)))).2).1) > 3)))) then
                        bif !(!((decide ((((List.getD x0 (Int.toNat a3) (0, (0, (false, 0)))).2).1) < 0)) || (decide ((((List.getD x0 (Int.toNat a3) (0, (0, (false, 0)))).2).1) > 3)))) || (!((decide ((((List.getD x0 (Int.toNat a3) (0, (0, (false, 0)))).2).1) < 0)) || (decide ((((List.getD x0 (Int.toNat a3) (0, (0, (false, 0)))).2).1) > 3)))) then
                          bif !((!((decide ((((List.getD x0 (Int.toNat a3) (0, (0, (false, 0)))).2).1) < 0)) || (decide ((((List.getD x0 (Int.toNat a3) (0, (0, (false, 0)))).2).1) > 3)))) && (!(((((List.getD x0 (Int.toNat a3) (0, (0, (false, 0)))).2).2).2) == 0))) || ((!((decide ((((List.getD x0 (Int.toNat a3) (0, (0, (false, 0)))).2).1) < 0)) || (decide ((((List.getD x0 (Int.toNat a3) (0, (0, (false, 0)))).2).1) > 3)))) && (!(((((List.getD x0 (Int.toNat a3) (0, (0, (false, 0)))).2).2).2) == 0))) then
                            bif !((!((decide ((((List.getD x0 (Int.toNat a3) (0, (0, (false, 0)))).2).1) < 0)) || (decide ((((List.getD x0 (Int.toNat a3) (0, (0, (false, 0)))).2).1) > 3)))) && (!(((((List.getD x0 (Int.toNat a3) (0, (0, (false, 0)))).2).2).2) == 0))) || ((!((decide ((((List.getD x0 (Int.toNat a3) (0, (0, (false, 0)))).2).1) < 0)) || (decide ((((List.getD x0 (Int.toNat a3) (0, (0, (false, 0)))).2).1) > 3)))) && (!(((((List.getD x0 (Int.toNat a3) (0, (0, (false, 0)))).2).2).2) == 0))) then
                              bif !(!((decide ((((List.getD x0 (Int.toNat a3) (0, (0, (false, 0)))).2).1) < 0)) || (decide ((((List.getD x0 (Int.toNat a3) (0, (0, (false, 0)))).2).1) > 3)))) || (!((decide ((((List.getD x0 (Int.toNat a3) (0, (0, (false, 0)))).2).1) < 0)) || (decide ((((List.getD x0 (Int.toNat a3) (0, (0, (false, 0)))).2).1) > 3)))) then
                                bif !(!((decide ((((List.getD x0 (Int.toNat a3) (0, (0, (false, 0)))).2).1) < 0)) || (decide ((((List.getD x0 (Int.toNat a3) (0, (0, (false, 0)))).2).1) > 3)))) || ((!(!(((((List.getD x0 (Int.toNat a3) (0, (0, (false, 0)))).2).2).2) == 0))) || ((!((decide ((((List.getD x0 (Int.toNat a3) (0, (0, (false, 0)))).2).1) < 0)) || (decide ((((List.getD x0 (Int.toNat a3) (0, (0, (false, 0)))).2).1) > 3)))) && (!(((((List.getD x0 (Int.toNat a3) (0, (0, (false, 0)))).2).2).2) == 0)))) then
                                  bif ((decide ((((List.getD x0 (Int.toNat a3) (0, (0, (false, 0)))).2).1) < 0)) || (decide ((((List.getD x0 (Int.toNat a3) (0, (0, (false, 0)))).2).1) > 3))) || (!((decide ((((List.getD x0 (Int.toNat a3) (0, (0, (false, 0)))).2).1) < 0)) || (decide ((((List.getD x0 (Int.toNat a3) (0, (0, (false, 0)))).2).1) > 3)))) then
                                    bif ((decide ((((List.getD x0 (Int.toNat a3) (0, (0, (false, 0)))).2).1) < 0)) || (decide ((((List.getD x0 (Int.toNat a3) (0, (0, (false, 0)))).2).1) > 3))) || ((!(((((List.getD x0 (Int.toNat a3) (0, (0, (false, 0)))).2).2).2) == 0)) && (!(((((List.getD x0 (Int.toNat a3) (0, (0, (false, 0)))).2).2).2) == 1))) then
                                      some 1
                                    else
                                      ref_MovesError.l0 N x0 k1 ((List.getD x0 (Int.toNat a3) (0, (0, (false, 0)))).1) (w (a3 + 1))
                                  else
                                    none
                                else
                                  none
                              else
                                none
                            else
                              none
                          else
                            none
                        else
                          none
                      else
                        none
                    else
                      none
                  else
                    none
                else
                  none
              else
                none
            else
              none
          else
            none
        else
          none
      else
        none
    else
      some 0 := by kernel_rfl
theorem taut14 : ∀ p0 p1 p2 : Bool, ((!(!((p0) || (p1))) || ((!(!(p2))) || ((!((p0) || (p1))) && (!(p2)))))) = true := by decide
theorem taut15 : ∀ p0 p1 p2 : Bool, ((!((!((p0) || (p1))) && (!(p2))) || ((!((p0) || (p1))) && (!(p2))))) = true := by decide
theorem ref_MovesError.l0_clean (N : Nat) (x0 : List (Int × Int × Bool × Int)) (k1 : Nat) (a2 : Int) (a3 : Int) : ref_MovesError.l0 N x0 (k1 + 1) a2 a3 =
    bif decide (a3 < (x0.length : Int)) then
      bif (decide (0 ≤ a3)) && (decide (a3 < (x0.length : Int))) then
        bif (decide (((List.getD x0 (Int.toNat a3) (0, (0, (false, 0)))).1) < a2)) || (decide (((List.getD x0 (Int.toNat a3) (0, (0, (false, 0)))).1) > 200000)) then
          some 12
        else
        bif ((decide ((((List.getD x0 (Int.toNat a3) (0, (0, (false, 0)))).2).1) < 0)) || (decide ((((List.getD x0 (Int.toNat a3) (0, (0, (false, 0)))).2).1) > 3))) || ((!(((((List.getD x0 (Int.toNat a3) (0, (0, (false, 0)))).2).2).2) == 0)) && (!(((((List.getD x0 (Int.toNat a3) (0, (0, (false, 0)))).2).2).2) == 1))) then
          some 1
        else
          ref_MovesError.l0 N x0 k1 ((List.getD x0 (Int.toNat a3) (0, (0, (false, 0)))).1) (w (a3 + 1))
      else
        none
    else
      some 0 := by
  rw [ref_MovesError.l0_succ]; simp only [taut3, taut14, taut1, taut15, taut6, taut2, cond_true]
theorem ref_MovesError.l0_cons (N : Nat) (x0 : List (Int × Int × Bool × Int)) (k1 : Nat) (a2 : Int) {pre r} {x} (hl : x0 = pre ++ x :: r) (hb : x0.length < 4611686018427387904) : ref_MovesError.l0 N x0 (k1 + 1) a2 (pre.length : Int) =
    bif (decide ((x.1) < a2)) || (decide ((x.1) > 200000)) then
      some 12
    else
    bif ((decide (((x.2).1) < 0)) || (decide (((x.2).1) > 3))) || ((!((((x.2).2).2) == 0)) && (!((((x.2).2).2) == 1))) then
      some 1
    else
      ref_MovesError.l0 N x0 k1 x.1 ((pre.length : Int) + 1) := by
  have hlen : x0.length = pre.length + 1 + r.length := by rw [hl]; simp; omega
  have e1 : decide ((pre.length : Int) < (x0.length : Int)) = true := by rw [decide_eq_true_iff]; omega
  have e2 : decide (0 ≤ (pre.length : Int)) = true := by rw [decide_eq_true_iff]; omega
  have e4 : w ((pre.length : Int) + 1) = (pre.length : Int) + 1 := w_next hl hb
  have e5 : List.take pre.length x0 = pre := by rw [hl]; simp
  have e6 : decide ((pre.length : Int) ≤ (x0.length : Int)) = true := by rw [decide_eq_true_iff]; omega
  have g0 : List.getD x0 pre.length (0, (0, (false, 0))) = x := by rw [hl]; exact getD_mid pre x r _
  rw [ref_MovesError.l0_clean]
  simp -implicitDefEqProofs only [Int.toNat_natCast, e1, e2, e4, e6, g0, e5, Bool.and_true, Bool.true_and, Bool.true_or, cond_true]
theorem ref_MovesError.l0_nil (N : Nat) (x0 : List (Int × Int × Bool × Int)) (k1 : Nat) (a2 : Int) : ref_MovesError.l0 N x0 (k1 + 1) a2 (x0.length : Int) =
    some 0 := by
  have e1 : decide ((x0.length : Int) < (x0.length : Int)) = false := by rw [decide_eq_false_iff_not]; omega
  rw [ref_MovesError.l0_clean]
  simp -implicitDefEqProofs only [e1, cond_false]
theorem ref_MovesError.eq (N : Nat) (x0 : List (Int × Int × Bool × Int)) : ref_MovesError.fn N x0 =
    bif decide ((x0.length : Int) > 24) then
      some 2
    else
      ref_MovesError.l0 N x0 N 0 0 := by kernel_rfl

/-! ### ref_EndAt: skyway/skywayref3.EndAt -/
def ref_EndAt.kp : List (Nat × List (Nat × Option (TypeId × Ty))) := [(3, [(1, none), (5, none), (8, none), (9, none), (10, none)]), (1000007, [(1, none), (5, none), (6, none), (7, none), (8, none), (9, none), (10, none)])]
noncomputable def ref_EndAt.G (N : Nat) : List (Nat × Spec) := []
noncomputable def ref_EndAt.E (N : Nat) : Env := mkEnv (ref_EndAt.G N) N tyTab ref_EndAt.kp
noncomputable def ref_EndAt.fn (N : Nat) (x : List (Int × Int) × Int) : Option Int := evFn (ref_EndAt.E N) Try.prog 3 Try.f20 false [.cell (.sl 60 (.pair (.int .i64) (.int .i64))), .cell (.int .i64)] [.val (.cell (.int .i64))] x
noncomputable def ref_EndAt.S (N : Nat) : PSpec := ⟨false, [.cell (.sl 60 (.pair (.int .i64) (.int .i64))), .cell (.int .i64)], [.val (.cell (.int .i64))], ref_EndAt.fn N⟩
theorem f20_enters : Enters Try.prog 20 := ⟨Try.f20, Try.func20, by kernel_rfl, by kernel_rfl⟩
theorem ref_EndAt.tab (N : Nat) : TabOk Try.prog (ref_EndAt.G N) := trivial
theorem ref_EndAt.enters : Enters Try.prog 20 := f20_enters
theorem ref_EndAt.sound (N : Nat) : Sound Try.prog 20 (ref_EndAt.S N) := evFn_sound (specs_tab (ref_EndAt.tab N)) (inls_tab (ref_EndAt.tab N)) mixed 3 Try.func20 _ _ _
noncomputable def ref_EndAt.cd (N : Nat) (p : List Nat) : St → (Ex → St → Option Int) → Option Int := ev (ref_EndAt.E N) Try.prog (callD (ref_EndAt.E N) Try.prog 3) 0 (codeAt (bodyOf Try.f20) p)
noncomputable def ref_EndAt.fin : Ex → St → Option Int := endK Try.prog Try.f20 [.val (.cell (.int .i64))]
noncomputable def ref_EndAt.l0 (N : Nat) (x0 : List (Int × Int)) (x1 : Int) (k1 : Nat) (a2 : Int) (a3 : Int) : Option Int :=
  loopN (norm ((ref_EndAt.E N).keep 3) 0) (ref_EndAt.cd N [1, 1, 0, 1, 0, 0]) k1
  ⟨[.any, .sc (.int .i64 x1), .any, .any, .any, .sc (.int .i64 a2), .any, .any, .ros false 60 (.pair (.int .i64) (.int .i64)) x0, .sc (.int .i64 (x0.length : Int)), .sc (.int .i64 a3), .any, .any, .any, .any, .any, .any, .any, .any, .any, .any, .any, .any, .any, .any, .any, .any, .any, .any, .any, .any, .any, .any, .any, .any, .any, .any, .any, .any], []⟩
  (blockK 0 (seqK (ref_EndAt.cd N [1, 1, 1]) ref_EndAt.fin))
noncomputable def ref_EndAt.j1 (N : Nat) (x0 : List (Int × Int)) (x1 : Int) (k1 : Nat) (a3 : Int) (a4 : Int) : Option Int :=
  fuelK N (region (ref_EndAt.E N) Try.prog (callD (ref_EndAt.E N) Try.prog 3) (opsAt (codeAt (bodyOf Try.f20) [1, 1, 0, 1, 0, 0, 1, 1, 0, 0, 1, 1, 0])) false
  ⟨[.any, .sc (.int .i64 x1), .any, .any, .any, .sc (.int .i64 a4), .sc (.int .i64 a3), .ptr 0 0, .ros false 60 (.pair (.int .i64) (.int .i64)) x0, .sc (.int .i64 (x0.length : Int)), .sc (.int .i64 a3), .any, .any, .any, .any, .any, .any, .any, .any, .any, .any, .any, .any, .any, .any, .any, .any, .any, .any, .any, .any, .any, .any, .any, .any, .any, .any, .any, .any], [.cells [.sc (.int .i64 ((List.getD x0 (Int.toNat a3) (0, 0)).1)), .sc (.int .i64 ((List.getD x0 (Int.toNat a3) (0, 0)).2))] 60]⟩
  (fun S => (seqK (ref_EndAt.cd N [1, 1, 0, 1, 0, 0, 1, 1, 0, 0, 1, 1, 1]) (blockK 1 (seqK (ref_EndAt.cd N [1, 1, 0, 1, 0, 0, 1, 1, 1]) (loopK (norm ((ref_EndAt.E N).keep 3) 0) (ref_EndAt.cd N [1, 1, 0, 1, 0, 0]) k1 (blockK 0 (seqK (ref_EndAt.cd N [1, 1, 1]) ref_EndAt.fin)))))) .normal S))
theorem ref_EndAt.j1_eq (N : Nat) (x0 : List (Int × Int)) (x1 : Int) (k1 : Nat) (a3 : Int) (a4 : Int) {M : Nat} (hM : N = M + 1) : ref_EndAt.j1 N x0 x1 k1 a3 a4 =
    bif !(decide (a3 > 0)) || (decide (a3 > 0)) then
      bif !(decide (a3 > 0)) || (decide (a3 > 0)) then
        bif !(decide (a3 > 0)) || (decide (a3 > 0)) then
          bif !(decide (a3 > 0)) || (decide (a3 > 0)) then
            bif (!(decide (a3 > 0))) || (decide (a3 > 0)) then
              bif !((decide (a3 > 0)) && (decide ((w (x1 - ((List.getD x0 (Int.toNat a3) (0, 0)).1))) < 180))) || ((decide (a3 > 0)) && (decide ((w (x1 - ((List.getD x0 (Int.toNat a3) (0, 0)).1))) < 180))) then
                bif !((decide (a3 > 0)) && (decide ((w (x1 - ((List.getD x0 (Int.toNat a3) (0, 0)).1))) < 180))) || ((decide (a3 > 0)) && (decide ((w (x1 - ((List.getD x0 (Int.toNat a3) (0, 0)).1))) < 180))) then
                  bif !((decide (a3 > 0)) && (decide ((w (x1 - ((List.getD x0 (Int.toNat a3) (0, 0)).1))) < 180))) || ((decide (a3 > 0)) && (decide ((w (x1 - ((List.getD x0 (Int.toNat a3) (0, 0)).1))) < 180))) then
                    bif !((decide (a3 > 0)) && (decide ((w (x1 - ((List.getD x0 (Int.toNat a3) (0, 0)).1))) < 180))) || ((decide (a3 > 0)) && (decide ((w (x1 - ((List.getD x0 (Int.toNat a3) (0, 0)).1))) < 180))) then
                      bif (!((decide (a3 > 0)) && (decide ((w (x1 - ((List.getD x0 (Int.toNat a3) (0, 0)).1))) < 180)))) || ((decide (a3 > 0)) && (decide ((w (x1 - ((List.getD x0 (Int.toNat a3) (0, 0)).1))) < 180))) then
                        bif ((decide (a3 > 0)) && (decide ((w (x1 - ((List.getD x0 (Int.toNat a3) (0, 0)).1))) < 180))) && (decide ((w (((List.getD x0 (Int.toNat a3) (0, 0)).1) - x1)) < 180)) then
                          some (-1)
                        else
                          ref_EndAt.l0 N x0 x1 k1 a4 (w (a3 + 1))
                      else
                        none
                    else
                      none
                  else
                    none
                else
                  none
              else
                none
            else
              none
          else
            none
        else
          none
      else
        none
    else
      none := (fuelK_eq hM _).trans (by kernel_rfl)
theorem ref_EndAt.l0_zero (N : Nat) (x0 : List (Int × Int)) (x1 : Int) (a2 : Int) (a3 : Int) : ref_EndAt.l0 N x0 x1 0 a2 a3 = none := by kernel_rfl
theorem ref_EndAt.l0_succ (N : Nat) (x0 : List (Int × Int)) (x1 : Int) (k1 : Nat) (a2 : Int) (a3 : Int) : ref_EndAt.l0 N x0 x1 (k1 + 1) a2 a3 =
    bif decide (a3 < (x0.length : Int)) then
      bif (decide (0 ≤ a3)) && (decide (a3 < (x0.length : Int))) then
        bif decide (((List.getD x0 (Int.toNat a3) (0, 0)).1) ≤ x1) then
          ref_EndAt.j1 N x0 x1 k1 a3 ((List.getD x0 (Int.toNat a3) (0, 0)).2)
        else
          ref_EndAt.j1 N x0 x1 k1 a3 a2
      else
        none
    else
      some a2 := by kernel_rfl
theorem taut16 : ∀ p0 p1 : Bool, ((!((p0) && (p1)) || ((p0) && (p1)))) = true := by decide
theorem taut17 : ∀ p0 p1 : Bool, (((!((p0) && (p1))) || ((p0) && (p1)))) = true := by decide
theorem ref_EndAt.j1_clean (N : Nat) (x0 : List (Int × Int)) (x1 : Int) (k1 : Nat) (a3 : Int) (a4 : Int) {M : Nat} (hM : N = M + 1) : ref_EndAt.j1 N x0 x1 k1 a3 a4 =
    bif ((decide (a3 > 0)) && (decide ((w (x1 - ((List.getD x0 (Int.toNat a3) (0, 0)).1))) < 180))) && (decide ((w (((List.getD x0 (Int.toNat a3) (0, 0)).1) - x1)) < 180)) then
      some (-1)
    else
      ref_EndAt.l0 N x0 x1 k1 a4 (w (a3 + 1)) := by
  rw [ref_EndAt.j1_eq (hM := hM)]; simp only [taut16, taut7, taut17, taut8, cond_true]
theorem ref_EndAt.l0_cons (N : Nat) (x0 : List (Int × Int)) (x1 : Int) (k1 : Nat) (a2 : Int) {pre r} {x} (hl : x0 = pre ++ x :: r) (hb : x0.length < 4611686018427387904) : ref_EndAt.l0 N x0 x1 (k1 + 1) a2 (pre.length : Int) =
    bif decide ((x.1) ≤ x1) then
      ref_EndAt.j1 N x0 x1 k1 (pre.length : Int) x.2
    else
      ref_EndAt.j1 N x0 x1 k1 (pre.length : Int) a2 := by
  have hlen : x0.length = pre.length + 1 + r.length := by rw [hl]; simp; omega
  have e1 : decide ((pre.length : Int) < (x0.length : Int)) = true := by rw [decide_eq_true_iff]; omega
  have e2 : decide (0 ≤ (pre.length : Int)) = true := by rw [decide_eq_true_iff]; omega
  have e4 : w ((pre.length : Int) + 1) = (pre.length : Int) + 1 := w_next hl hb
  have e5 : List.take pre.length x0 = pre := by rw [hl]; simp
  have e6 : decide ((pre.length : Int) ≤ (x0.length : Int)) = true := by rw [decide_eq_true_iff]; omega
  have g0 : List.getD x0 pre.length (0, 0) = x := by rw [hl]; exact getD_mid pre x r _
  rw [ref_EndAt.l0_succ]
  simp -implicitDefEqProofs only [Int.toNat_natCast, e1, e2, e4, e6, g0, e5, Bool.and_true, Bool.true_and, Bool.true_or, cond_true]
theorem ref_EndAt.l0_nil (N : Nat) (x0 : List (Int × Int)) (x1 : Int) (k1 : Nat) (a2 : Int) : ref_EndAt.l0 N x0 x1 (k1 + 1) a2 (x0.length : Int) =
    some a2 := by
  have e1 : decide ((x0.length : Int) < (x0.length : Int)) = false := by rw [decide_eq_false_iff_not]; omega
  rw [ref_EndAt.l0_succ]
  simp -implicitDefEqProofs only [e1, cond_false]
theorem ref_EndAt.eq (N : Nat) (x0 : List (Int × Int)) (x1 : Int) : ref_EndAt.fn N (x0, x1) =
    ref_EndAt.l0 N x0 x1 N (-1) 0 := by kernel_rfl

/-! ### ref_TableError: skyway/skywayref3.TableError -/
def ref_TableError.kp : List (Nat × List (Nat × Option (TypeId × Ty))) := [(2, [(1, none), (8, none)]), (8, [(1, none), (30, none)])]
noncomputable def ref_TableError.G (N : Nat) : List (Nat × Spec) := []
noncomputable def ref_TableError.E (N : Nat) : Env := mkEnv (ref_TableError.G N) N tyTab ref_TableError.kp
noncomputable def ref_TableError.fn (N : Nat) (x : List Int) : Option Int := evFn (ref_TableError.E N) Try.prog 3 Try.f22 false [.agg (.vec 16 .i64)] [.val (.cell (.int .i64))] x
noncomputable def ref_TableError.S (N : Nat) : PSpec := ⟨false, [.agg (.vec 16 .i64)], [.val (.cell (.int .i64))], ref_TableError.fn N⟩
theorem f22_enters : Enters Try.prog 22 := ⟨Try.f22, Try.func22, by kernel_rfl, by kernel_rfl⟩
theorem ref_TableError.tab (N : Nat) : TabOk Try.prog (ref_TableError.G N) := trivial
theorem ref_TableError.enters : Enters Try.prog 22 := f22_enters
theorem ref_TableError.sound (N : Nat) : Sound Try.prog 22 (ref_TableError.S N) := evFn_sound (specs_tab (ref_TableError.tab N)) (inls_tab (ref_TableError.tab N)) mixed 3 Try.func22 _ _ _
noncomputable def ref_TableError.cd (N : Nat) (p : List Nat) : St → (Ex → St → Option Int) → Option Int := ev (ref_TableError.E N) Try.prog (callD (ref_TableError.E N) Try.prog 3) 0 (codeAt (bodyOf Try.f22) p)
noncomputable def ref_TableError.fin : Ex → St → Option Int := endK Try.prog Try.f22 [.val (.cell (.int .i64))]
noncomputable def ref_TableError.l0 (N : Nat) (x0 : List Int) (k1 : Nat) (a2 : Int) : Option Int :=
  loopN (norm ((ref_TableError.E N).keep 2) 0) (ref_TableError.cd N [1, 0, 1, 0, 0]) k1
  ⟨[.any, .ptr 0 0, .any, .any, .any, .any, .any, .any, .sc (.int .i64 a2), .any, .any, .any, .any, .any, .any, .any, .any, .any, .any, .any, .any, .any, .any, .any, .any, .any, .any, .any, .any, .any, .any, .any, .any, .any, .any, .any, .any, .any, .any, .any, .any, .any, .any, .any, .any, .any, .any, .any, .any, .any, .any, .any, .any, .any, .any, .any, .any, .any], [.cells [.sc (.int .i64 (List.getD x0 0 0)), .sc (.int .i64 (List.getD x0 1 0)), .sc (.int .i64 (List.getD x0 2 0)), .sc (.int .i64 (List.getD x0 3 0)), .sc (.int .i64 (List.getD x0 4 0)), .sc (.int .i64 (List.getD x0 5 0)), .sc (.int .i64 (List.getD x0 6 0)), .sc (.int .i64 (List.getD x0 7 0)), .sc (.int .i64 (List.getD x0 8 0)), .sc (.int .i64 (List.getD x0 9 0)), .sc (.int .i64 (List.getD x0 10 0)), .sc (.int .i64 (List.getD x0 11 0)), .sc (.int .i64 (List.getD x0 12 0)), .sc (.int .i64 (List.getD x0 13 0)), .sc (.int .i64 (List.getD x0 14 0)), .sc (.int .i64 (List.getD x0 15 0))] 26]⟩
  (blockK 0 (seqK (ref_TableError.cd N [1, 1]) ref_TableError.fin))
noncomputable def ref_TableError.l1 (N : Nat) (x0 : List Int) (k3 : Nat) (a4 : Int) : Option Int :=
  loopN (norm ((ref_TableError.E N).keep 8) 0) (ref_TableError.cd N [1, 1, 0, 1, 0, 0]) k3
  ⟨[.any, .ptr 0 0, .any, .any, .any, .any, .any, .any, .any, .any, .any, .any, .any, .any, .any, .any, .any, .any, .any, .any, .any, .any, .any, .any, .any, .any, .any, .any, .any, .any, .sc (.int .i64 a4), .any, .any, .any, .any, .any, .any, .any, .any, .any, .any, .any, .any, .any, .any, .any, .any, .any, .any, .any, .any, .any, .any, .any, .any, .any, .any, .any], [.cells [.sc (.int .i64 (List.getD x0 0 0)), .sc (.int .i64 (List.getD x0 1 0)), .sc (.int .i64 (List.getD x0 2 0)), .sc (.int .i64 (List.getD x0 3 0)), .sc (.int .i64 (List.getD x0 4 0)), .sc (.int .i64 (List.getD x0 5 0)), .sc (.int .i64 (List.getD x0 6 0)), .sc (.int .i64 (List.getD x0 7 0)), .sc (.int .i64 (List.getD x0 8 0)), .sc (.int .i64 (List.getD x0 9 0)), .sc (.int .i64 (List.getD x0 10 0)), .sc (.int .i64 (List.getD x0 11 0)), .sc (.int .i64 (List.getD x0 12 0)), .sc (.int .i64 (List.getD x0 13 0)), .sc (.int .i64 (List.getD x0 14 0)), .sc (.int .i64 (List.getD x0 15 0))] 26]⟩
  (blockK 2 (seqK (ref_TableError.cd N [1, 1, 1]) ref_TableError.fin))
theorem ref_TableError.l1_zero (N : Nat) (x0 : List Int) (a4 : Int) : ref_TableError.l1 N x0 0 a4 = none := by kernel_rfl
theorem ref_TableError.l1_succ (N : Nat) (x0 : List Int) (k3 : Nat) (a4 : Int) : ref_TableError.l1 N x0 (k3 + 1) a4 =
    bif decide (a4 < 64) then
      bif (decide (0 ≤ (w (Int.tdiv a4 16)))) && (decide ((w (Int.tdiv a4 16)) < 4)) then
        bif (decide (0 ≤ (Int.tmod (w (Int.tdiv a4 4)) 4))) && (decide ((Int.tmod (w (Int.tdiv a4 4)) 4) < 4)) then
          bif decide (((0 + ((Int.toNat (w (Int.tdiv a4 16))) * 4)) + ((Int.toNat (Int.tmod (w (Int.tdiv a4 4)) 4)) * 1)) < 16) then
            bif (decide (0 ≤ (Int.tmod (w (Int.tdiv a4 4)) 4))) && (decide ((Int.tmod (w (Int.tdiv a4 4)) 4) < 4)) then
              bif (decide (0 ≤ (Int.tmod a4 4))) && (decide ((Int.tmod a4 4) < 4)) then
                bif decide (((0 + ((Int.toNat (Int.tmod (w (Int.tdiv a4 4)) 4)) * 4)) + ((Int.toNat (Int.tmod a4 4)) * 1)) < 16) then
                  bif (decide (0 ≤ (w (Int.tdiv a4 16)))) && (decide ((w (Int.tdiv a4 16)) < 4)) then
                    bif (decide (0 ≤ (Int.tmod a4 4))) && (decide ((Int.tmod a4 4) < 4)) then
                      bif decide (((0 + ((Int.toNat (w (Int.tdiv a4 16))) * 4)) + ((Int.toNat (Int.tmod a4 4)) * 1)) < 16) then
                        bif decide ((w ((List.getD (vl 16 x0) ((0 + ((Int.toNat (w (Int.tdiv a4 16))) * 4)) + ((Int.toNat (Int.tmod (w (Int.tdiv a4 4)) 4)) * 1)) 0) + (List.getD (vl 16 x0) ((0 + ((Int.toNat (Int.tmod (w (Int.tdiv a4 4)) 4)) * 4)) + ((Int.toNat (Int.tmod a4 4)) * 1)) 0))) < (List.getD (vl 16 x0) ((0 + ((Int.toNat (w (Int.tdiv a4 16))) * 4)) + ((Int.toNat (Int.tmod a4 4)) * 1)) 0)) then
                          some 3
                        else
                          ref_TableError.l1 N x0 k3 (w (a4 + 1))
                      else
                        none
                    else
                      none
                  else
                    none
                else
                  none
              else
                none
            else
              none
          else
            none
        else
          none
      else
        none
    else
      some 0 := by kernel_rfl
theorem ref_TableError.l0_zero (N : Nat) (x0 : List Int) (a2 : Int) : ref_TableError.l0 N x0 0 a2 = none := by kernel_rfl
theorem ref_TableError.l0_succ (N : Nat) (x0 : List Int) (k1 : Nat) (a2 : Int) : ref_TableError.l0 N x0 (k1 + 1) a2 =
    bif decide (a2 < 16) then
      bif (decide (0 ≤ (w (Int.tdiv a2 4)))) && (decide ((w (Int.tdiv a2 4)) < 4)) then
        bif (decide (0 ≤ (Int.tmod a2 4))) && (decide ((Int.tmod a2 4) < 4)) then
          bif decide (((0 + ((Int.toNat (w (Int.tdiv a2 4))) * 4)) + ((Int.toNat (Int.tmod a2 4)) * 1)) < 16) then
            bif !(!(decide ((List.getD (vl 16 x0) ((0 + ((Int.toNat (w (Int.tdiv a2 4))) * 4)) + ((Int.toNat (Int.tmod a2 4)) * 1)) 0) < 30))) || (!(decide ((List.getD (vl 16 x0) ((0 + ((Int.toNat (w (Int.tdiv a2 4))) * 4)) + ((Int.toNat (Int.tmod a2 4)) * 1)) 0) < 30))) then
              bif !(!(decide ((List.getD (vl 16 x0) ((0 + ((Int.toNat (w (Int.tdiv a2 4))) * 4)) + ((Int.toNat (Int.tmod a2 4)) * 1)) 0) < 30))) || (!(decide ((List.getD (vl 16 x0) ((0 + ((Int.toNat (w (Int.tdiv a2 4))) * 4)) + ((Int.toNat (Int.tmod a2 4)) * 1)) 0) < 30))) then
                bif !(!(decide ((List.getD (vl 16 x0) ((0 + ((Int.toNat (w (Int.tdiv a2 4))) * 4)) + ((Int.toNat (Int.tmod a2 4)) * 1)) 0) < 30))) || (!(decide ((List.getD (vl 16 x0) ((0 + ((Int.toNat (w (Int.tdiv a2 4))) * 4)) + ((Int.toNat (Int.tmod a2 4)) * 1)) 0) < 30))) then
                  bif ((decide (0 ≤ (w (Int.tdiv a2 4)))) && (decide ((w (Int.tdiv a2 4)) < 4))) || !(!(decide ((List.getD (vl 16 x0) ((0 + ((Int.toNat (w (Int.tdiv a2 4))) * 4)) + ((Int.toNat (Int.tmod a2 4)) * 1)) 0) < 30))) then
                    bif !(!(decide ((List.getD (vl 16 x0) ((0 + ((Int.toNat (w (Int.tdiv a2 4))) * 4)) + ((Int.toNat (Int.tmod a2 4)) * 1)) 0) < 30))) || (!(decide ((List.getD (vl 16 x0) ((0 + ((Int.toNat (w (Int.tdiv a2 4))) * 4)) + ((Int.toNat (Int.tmod a2 4)) * 1)) 0) < 30))) then
                      bif !(!(decide ((List.getD (vl 16 x0) ((0 + ((Int.toNat (w (Int.tdiv a2 4))) * 4)) + ((Int.toNat (Int.tmod a2 4)) * 1)) 0) < 30))) || (!(decide ((List.getD (vl 16 x0) ((0 + ((Int.toNat (w (Int.tdiv a2 4))) * 4)) + ((Int.toNat (Int.tmod a2 4)) * 1)) 0) < 30))) then
                        bif ((decide (0 ≤ (Int.tmod a2 4))) && (decide ((Int.tmod a2 4) < 4))) || !(!(decide ((List.getD (vl 16 x0) ((0 + ((Int.toNat (w (Int.tdiv a2 4))) * 4)) + ((Int.toNat (Int.tmod a2 4)) * 1)) 0) < 30))) then
                          bif !(!(decide ((List.getD (vl 16 x0) ((0 + ((Int.toNat (w (Int.tdiv a2 4))) * 4)) + ((Int.toNat (Int.tmod a2 4)) * 1)) 0) < 30))) || (!(decide ((List.getD (vl 16 x0) ((0 + ((Int.toNat (w (Int.tdiv a2 4))) * 4)) + ((Int.toNat (Int.tmod a2 4)) * 1)) 0) < 30))) then
                            bif (decide (((0 + ((Int.toNat (w (Int.tdiv a2 4))) * 4)) + ((Int.toNat (Int.tmod a2 4)) * 1)) < 16)) || !(!(decide ((List.getD (vl 16 x0) ((0 + ((Int.toNat (w (Int.tdiv a2 4))) * 4)) + ((Int.toNat (Int.tmod a2 4)) * 1)) 0) < 30))) then
                              bif !(!(decide ((List.getD (vl 16 x0) ((0 + ((Int.toNat (w (Int.tdiv a2 4))) * 4)) + ((Int.toNat (Int.tmod a2 4)) * 1)) 0) < 30))) || (!(decide ((List.getD (vl 16 x0) ((0 + ((Int.toNat (w (Int.tdiv a2 4))) * 4)) + ((Int.toNat (Int.tmod a2 4)) * 1)) 0) < 30))) then
                                bif (decide ((List.getD (vl 16 x0) ((0 + ((Int.toNat (w (Int.tdiv a2 4))) * 4)) + ((Int.toNat (Int.tmod a2 4)) * 1)) 0) < 30)) || (!(decide ((List.getD (vl 16 x0) ((0 + ((Int.toNat (w (Int.tdiv a2 4))) * 4)) + ((Int.toNat (Int.tmod a2 4)) * 1)) 0) < 30))) then
                                  bif (decide ((List.getD (vl 16 x0) ((0 + ((Int.toNat (w (Int.tdiv a2 4))) * 4)) + ((Int.toNat (Int.tmod a2 4)) * 1)) 0) < 30)) || (decide ((List.getD (vl 16 x0) ((0 + ((Int.toNat (w (Int.tdiv a2 4))) * 4)) + ((Int.toNat (Int.tmod a2 4)) * 1)) 0) > 600)) then
                                    some 4
                                  else
                                    ref_TableError.l0 N x0 k1 (w (a2 + 1))
                                else
                                  none
                              else
                                none
                            else
                              none
                          else
                            none
                        else
                          none
                      else
                        none
                    else
                      none
                  else
                    none
                else
                  none
              else
                none
            else
              none
          else
            none
        else
          none
      else
        none
    else
      ref_TableError.l1 N x0 N 0 := by kernel_rfl
theorem ref_TableError.l0_clean (N : Nat) (x0 : List Int) (k1 : Nat) (a2 : Int) : ref_TableError.l0 N x0 (k1 + 1) a2 =
    bif decide (a2 < 16) then
      bif (decide (0 ≤ (w (Int.tdiv a2 4)))) && (decide ((w (Int.tdiv a2 4)) < 4)) then
        bif (decide (0 ≤ (Int.tmod a2 4))) && (decide ((Int.tmod a2 4) < 4)) then
          bif decide (((0 + ((Int.toNat (w (Int.tdiv a2 4))) * 4)) + ((Int.toNat (Int.tmod a2 4)) * 1)) < 16) then
            bif ((decide (0 ≤ (w (Int.tdiv a2 4)))) && (decide ((w (Int.tdiv a2 4)) < 4))) || !(!(decide ((List.getD (vl 16 x0) ((0 + ((Int.toNat (w (Int.tdiv a2 4))) * 4)) + ((Int.toNat (Int.tmod a2 4)) * 1)) 0) < 30))) then
              bif ((decide (0 ≤ (Int.tmod a2 4))) && (decide ((Int.tmod a2 4) < 4))) || !(!(decide ((List.getD (vl 16 x0) ((0 + ((Int.toNat (w (Int.tdiv a2 4))) * 4)) + ((Int.toNat (Int.tmod a2 4)) * 1)) 0) < 30))) then
                bif (decide (((0 + ((Int.toNat (w (Int.tdiv a2 4))) * 4)) + ((Int.toNat (Int.tmod a2 4)) * 1)) < 16)) || !(!(decide ((List.getD (vl 16 x0) ((0 + ((Int.toNat (w (Int.tdiv a2 4))) * 4)) + ((Int.toNat (Int.tmod a2 4)) * 1)) 0) < 30))) then
                  bif (decide ((List.getD (vl 16 x0) ((0 + ((Int.toNat (w (Int.tdiv a2 4))) * 4)) + ((Int.toNat (Int.tmod a2 4)) * 1)) 0) < 30)) || (decide ((List.getD (vl 16 x0) ((0 + ((Int.toNat (w (Int.tdiv a2 4))) * 4)) + ((Int.toNat (Int.tmod a2 4)) * 1)) 0) > 600)) then
                    some 4
                  else
                    ref_TableError.l0 N x0 k1 (w (a2 + 1))
                else
                  none
              else
                none
            else
              none
          else
            none
        else
          none
      else
        none
    else
      ref_TableError.l1 N x0 N 0 := by
  rw [ref_TableError.l0_succ]; simp only [taut1, taut2, cond_true]
theorem ref_TableError.eq (N : Nat) (x0 : List Int) : ref_TableError.fn N x0 =
    ref_TableError.l0 N x0 N 0 := by kernel_rfl

/-! ### ref_Apart: skyway/skywayref3.Apart -/
def ref_Apart.kp : List (Nat × List (Nat × Option (TypeId × Ty))) := []
noncomputable def ref_Apart.G (N : Nat) : List (Nat × Spec) := []
noncomputable def ref_Apart.E (N : Nat) : Env := mkEnv (ref_Apart.G N) N tyTab ref_Apart.kp
noncomputable def ref_Apart.fn (N : Nat) (x : List Int × (Int × Int × Bool × Int) × Int × Int × Bool × Int) : Option Int := evFn (ref_Apart.E N) Try.prog 3 Try.f23 false [.agg (.vec 16 .i64), .agg (.pair (.int .i64) (.pair (.int .i64) (.pair (.bool) (.int .i64)))), .agg (.pair (.int .i64) (.pair (.int .i64) (.pair (.bool) (.int .i64))))] [.val (.cell (.int .i64))] x
noncomputable def ref_Apart.S (N : Nat) : PSpec := ⟨false, [.agg (.vec 16 .i64), .agg (.pair (.int .i64) (.pair (.int .i64) (.pair (.bool) (.int .i64)))), .agg (.pair (.int .i64) (.pair (.int .i64) (.pair (.bool) (.int .i64))))], [.val (.cell (.int .i64))], ref_Apart.fn N⟩
theorem f23_enters : Enters Try.prog 23 := ⟨Try.f23, Try.func23, by kernel_rfl, by kernel_rfl⟩
theorem ref_Apart.tab (N : Nat) : TabOk Try.prog (ref_Apart.G N) := trivial
theorem ref_Apart.enters : Enters Try.prog 23 := f23_enters
theorem ref_Apart.sound (N : Nat) : Sound Try.prog 23 (ref_Apart.S N) := evFn_sound (specs_tab (ref_Apart.tab N)) (inls_tab (ref_Apart.tab N)) mixed 3 Try.func23 _ _ _
theorem ref_Apart.eq (N : Nat) (x0 : List Int) (x1 : Int × Int × Bool × Int) (x2 : Int × Int × Bool × Int) : ref_Apart.fn N (x0, x1, x2) =
    bif !(x1.2.2.1 == x2.2.2.1) then
      some 60
    else
    bif (decide (0 ≤ x1.2.1)) && (decide (x1.2.1 < 4)) then
      bif (decide (0 ≤ x2.2.1)) && (decide (x2.2.1 < 4)) then
        bif decide (((0 + ((Int.toNat x1.2.1) * 4)) + ((Int.toNat x2.2.1) * 1)) < 16) then
          some (List.getD (vl 16 x0) ((0 + ((Int.toNat x1.2.1) * 4)) + ((Int.toNat x2.2.1) * 1)) 0)
        else
          none
      else
        none
    else
      none := by kernel_rfl

/-! ### law_RunwayChecks: skyway/skywaylaw3.RunwayChecks -/
def law_RunwayChecks.kp : List (Nat × List (Nat × Option (TypeId × Ty))) := [(1000009, [(0, none), (1, none), (3, none), (6, none), (9, none), (10, none), (11, none)]), (1000014, [(0, none), (6, none), (9, none), (10, none), (11, none), (12, none)]), (1000023, [(6, none), (11, none), (13, none), (14, none), (15, none), (16, none)]), (1000025, [(6, none), (11, none), (13, none), (14, none), (15, none), (16, none)])]
noncomputable def law_RunwayChecks.G (N : Nat) : List (Nat × Spec) := [(14, .pure (law_runwayFact.S N)), (15, .pure (runway_Direction.S N)), (16, .pure (ref_EndsError.S N)), (17, .pure (runway_Check.S N)), (18, .pure (ref_MovesError.S N)), (19, .pure (runway_Spans.S N)), (20, .pure (ref_EndAt.S N)), (21, .pure (runway_Gap.S N)), (22, .pure (ref_TableError.S N)), (23, .pure (ref_Apart.S N))]
noncomputable def law_RunwayChecks.E (N : Nat) : Env := mkEnv (law_RunwayChecks.G N) N tyTab law_RunwayChecks.kp
noncomputable def law_RunwayChecks.fn (N : Nat) (x : List (Int × Int × Bool × Int) × List (Int × Int) × List Int × Int) : Option Bool := evFn (law_RunwayChecks.E N) Try.prog 3 Try.f3 false [.cell (.sl 35 (.pair (.int .i64) (.pair (.int .i64) (.pair (.bool) (.int .i64))))), .cell (.sl 60 (.pair (.int .i64) (.int .i64))), .agg (.vec 16 .i64), .cell (.int .i64)] [.val (.cell (.bool))] x
noncomputable def law_RunwayChecks.S (N : Nat) : PSpec := ⟨false, [.cell (.sl 35 (.pair (.int .i64) (.pair (.int .i64) (.pair (.bool) (.int .i64))))), .cell (.sl 60 (.pair (.int .i64) (.int .i64))), .agg (.vec 16 .i64), .cell (.int .i64)], [.val (.cell (.bool))], law_RunwayChecks.fn N⟩
theorem f3_enters : Enters Try.prog 3 := ⟨Try.f3, Try.func3, by kernel_rfl, by kernel_rfl⟩
theorem law_RunwayChecks.tab (N : Nat) : TabOk Try.prog (law_RunwayChecks.G N) := ⟨⟨law_runwayFact.enters, law_runwayFact.sound N⟩, ⟨runway_Direction.enters, runway_Direction.sound N⟩, ⟨ref_EndsError.enters, ref_EndsError.sound N⟩, ⟨runway_Check.enters, runway_Check.sound N⟩, ⟨ref_MovesError.enters, ref_MovesError.sound N⟩, ⟨runway_Spans.enters, runway_Spans.sound N⟩, ⟨ref_EndAt.enters, ref_EndAt.sound N⟩, ⟨runway_Gap.enters, runway_Gap.sound N⟩, ⟨ref_TableError.enters, ref_TableError.sound N⟩, ⟨ref_Apart.enters, ref_Apart.sound N⟩, trivial⟩
theorem law_RunwayChecks.enters : Enters Try.prog 3 := f3_enters
theorem law_RunwayChecks.sound (N : Nat) : Sound Try.prog 3 (law_RunwayChecks.S N) := evFn_sound (specs_tab (law_RunwayChecks.tab N)) (inls_tab (law_RunwayChecks.tab N)) mixed 3 Try.func3 _ _ _
noncomputable def law_RunwayChecks.cd (N : Nat) (p : List Nat) : St → (Ex → St → Option Bool) → Option Bool := ev (law_RunwayChecks.E N) Try.prog (callD (law_RunwayChecks.E N) Try.prog 3) 0 (codeAt (bodyOf Try.f3) p)
noncomputable def law_RunwayChecks.fin : Ex → St → Option Bool := endK Try.prog Try.f3 [.val (.cell (.bool))]
noncomputable def law_RunwayChecks.j0 (N : Nat) (x0 : List (Int × Int × Bool × Int)) (x1 : List (Int × Int)) (x2 : List Int) (x3 : Int) (r2 : Int × Int) (a7 : Int) : Option Bool :=
  fuelK N (region (law_RunwayChecks.E N) Try.prog (callD (law_RunwayChecks.E N) Try.prog 3) (opsAt (codeAt (bodyOf Try.f3) [1, 1, 1, 1, 1, 1, 0])) false
  ⟨[.ros false 35 (.pair (.int .i64) (.pair (.int .i64) (.pair (.bool) (.int .i64)))) x0, .ros false 60 (.pair (.int .i64) (.int .i64)) x1, .any, .sc (.int .i64 x3), .any, .any, .ptr 0 0, .any, .any, .sc (.int .i64 r2.1), .sc (.int .i64 r2.2), .sc (.int .i64 a7), .any, .any, .any, .any, .any, .any, .any, .any, .any, .any, .any, .any, .any, .any, .any, .any, .any, .any, .any, .any, .any, .any, .any, .any, .any, .any, .any, .any, .any, .any, .any, .any, .any, .any, .any, .any, .any, .any, .any, .any, .any, .any, .any, .any, .any, .any, .any, .any, .any, .any, .any, .any, .any, .any, .any, .any, .any, .any, .any, .any, .any, .any, .any, .any, .any, .any, .any, .any, .any, .any, .any, .any, .any, .any, .any, .any, .any, .any, .any, .any, .any, .any, .any, .any, .any, .any, .any, .any, .any, .any, .any, .any, .any, .any, .any, .any, .any, .any, .any, .any, .any], [.cells [.sc (.int .i64 (List.getD x2 0 0)), .sc (.int .i64 (List.getD x2 1 0)), .sc (.int .i64 (List.getD x2 2 0)), .sc (.int .i64 (List.getD x2 3 0)), .sc (.int .i64 (List.getD x2 4 0)), .sc (.int .i64 (List.getD x2 5 0)), .sc (.int .i64 (List.getD x2 6 0)), .sc (.int .i64 (List.getD x2 7 0)), .sc (.int .i64 (List.getD x2 8 0)), .sc (.int .i64 (List.getD x2 9 0)), .sc (.int .i64 (List.getD x2 10 0)), .sc (.int .i64 (List.getD x2 11 0)), .sc (.int .i64 (List.getD x2 12 0)), .sc (.int .i64 (List.getD x2 13 0)), .sc (.int .i64 (List.getD x2 14 0)), .sc (.int .i64 (List.getD x2 15 0))] 26]⟩
  (fun S => (seqK (law_RunwayChecks.cd N [1, 1, 1, 1, 1, 1, 1]) law_RunwayChecks.fin) .normal S))
noncomputable def law_RunwayChecks.j1 (N : Nat) (x0 : List (Int × Int × Bool × Int)) (x2 : List Int) (r2 : Int × Int) (a8 : Int) (a9 : Int) : Option Bool :=
  fuelK N (region (law_RunwayChecks.E N) Try.prog (callD (law_RunwayChecks.E N) Try.prog 3) (opsAt (codeAt (bodyOf Try.f3) [1, 1, 1, 1, 1, 1, 1, 1, 0, 0])) false
  ⟨[.ros false 35 (.pair (.int .i64) (.pair (.int .i64) (.pair (.bool) (.int .i64)))) x0, .any, .any, .any, .any, .any, .ptr 0 0, .any, .any, .sc (.int .i64 r2.1), .sc (.int .i64 r2.2), .sc (.int .i64 a8), .sc (.int .i64 a9), .any, .any, .any, .any, .any, .any, .any, .any, .any, .any, .any, .any, .any, .any, .any, .any, .any, .any, .any, .any, .any, .any, .any, .any, .any, .any, .any, .any, .any, .any, .any, .any, .any, .any, .any, .any, .any, .any, .any, .any, .any, .any, .any, .any, .any, .any, .any, .any, .any, .any, .any, .any, .any, .any, .any, .any, .any, .any, .any, .any, .any, .any, .any, .any, .any, .any, .any, .any, .any, .any, .any, .any, .any, .any, .any, .any, .any, .any, .any, .any, .any, .any, .any, .any, .any, .any, .any, .any, .any, .any, .any, .any, .any, .any, .any, .any, .any, .any, .any, .any], [.cells [.sc (.int .i64 (List.getD x2 0 0)), .sc (.int .i64 (List.getD x2 1 0)), .sc (.int .i64 (List.getD x2 2 0)), .sc (.int .i64 (List.getD x2 3 0)), .sc (.int .i64 (List.getD x2 4 0)), .sc (.int .i64 (List.getD x2 5 0)), .sc (.int .i64 (List.getD x2 6 0)), .sc (.int .i64 (List.getD x2 7 0)), .sc (.int .i64 (List.getD x2 8 0)), .sc (.int .i64 (List.getD x2 9 0)), .sc (.int .i64 (List.getD x2 10 0)), .sc (.int .i64 (List.getD x2 11 0)), .sc (.int .i64 (List.getD x2 12 0)), .sc (.int .i64 (List.getD x2 13 0)), .sc (.int .i64 (List.getD x2 14 0)), .sc (.int .i64 (List.getD x2 15 0))] 26]⟩
  (fun S => (seqK (law_RunwayChecks.cd N [1, 1, 1, 1, 1, 1, 1, 1, 0, 1]) (seqK (law_RunwayChecks.cd N [1, 1, 1, 1, 1, 1, 1, 1, 1]) law_RunwayChecks.fin)) .normal S))
noncomputable def law_RunwayChecks.j2 (N : Nat) (x0 : List (Int × Int × Bool × Int)) (x2 : List Int) (r10 : Int × Int) (a12 : Int) : Option Bool :=
  fuelK N (region (law_RunwayChecks.E N) Try.prog (callD (law_RunwayChecks.E N) Try.prog 3) (opsAt (codeAt (bodyOf Try.f3) [1, 1, 1, 1, 1, 1, 1, 1, 1, 1, 1, 1, 1, 1, 0, 0])) false
  ⟨[.any, .any, .any, .any, .any, .any, .ptr 0 0, .any, .any, .any, .any, .sc (.int .i64 a12), .any, .ptr 1 0, .ptr 2 0, .sc (.int .i64 r10.1), .sc (.int .i64 r10.2), .any, .any, .any, .any, .any, .any, .any, .any, .any, .any, .any, .any, .any, .any, .any, .any, .any, .any, .any, .any, .any, .any, .any, .any, .any, .any, .any, .any, .any, .any, .any, .any, .any, .any, .any, .any, .any, .any, .any, .any, .any, .any, .any, .any, .any, .any, .any, .any, .any, .any, .any, .any, .any, .any, .any, .any, .any, .any, .any, .any, .any, .any, .any, .any, .any, .any, .any, .any, .any, .any, .any, .any, .any, .any, .any, .any, .any, .any, .any, .any, .any, .any, .any, .any, .any, .any, .any, .any, .any, .any, .any, .any, .any, .any, .any, .any], [.cells [.sc (.int .i64 (List.getD x2 0 0)), .sc (.int .i64 (List.getD x2 1 0)), .sc (.int .i64 (List.getD x2 2 0)), .sc (.int .i64 (List.getD x2 3 0)), .sc (.int .i64 (List.getD x2 4 0)), .sc (.int .i64 (List.getD x2 5 0)), .sc (.int .i64 (List.getD x2 6 0)), .sc (.int .i64 (List.getD x2 7 0)), .sc (.int .i64 (List.getD x2 8 0)), .sc (.int .i64 (List.getD x2 9 0)), .sc (.int .i64 (List.getD x2 10 0)), .sc (.int .i64 (List.getD x2 11 0)), .sc (.int .i64 (List.getD x2 12 0)), .sc (.int .i64 (List.getD x2 13 0)), .sc (.int .i64 (List.getD x2 14 0)), .sc (.int .i64 (List.getD x2 15 0))] 26, .cells [.sc (.int .i64 ((List.getD x0 0 (0, (0, (false, 0)))).1)), .sc (.int .i64 (((List.getD x0 0 (0, (0, (false, 0)))).2).1)), .sc (.bool ((((List.getD x0 0 (0, (0, (false, 0)))).2).2).1)), .sc (.int .i64 ((((List.getD x0 0 (0, (0, (false, 0)))).2).2).2))] 35, .cells [.sc (.int .i64 ((List.getD x0 (Int.toNat (w ((x0.length : Int) - 1))) (0, (0, (false, 0)))).1)), .sc (.int .i64 (((List.getD x0 (Int.toNat (w ((x0.length : Int) - 1))) (0, (0, (false, 0)))).2).1)), .sc (.bool ((((List.getD x0 (Int.toNat (w ((x0.length : Int) - 1))) (0, (0, (false, 0)))).2).2).1)), .sc (.int .i64 ((((List.getD x0 (Int.toNat (w ((x0.length : Int) - 1))) (0, (0, (false, 0)))).2).2).2))] 35]⟩
  (fun S => (seqK (law_RunwayChecks.cd N [1, 1, 1, 1, 1, 1, 1, 1, 1, 1, 1, 1, 1, 1, 0, 1]) (seqK (law_RunwayChecks.cd N [1, 1, 1, 1, 1, 1, 1, 1, 1, 1, 1, 1, 1, 1, 1]) law_RunwayChecks.fin)) .normal S))
noncomputable def law_RunwayChecks.j3 (N : Nat) (x0 : List (Int × Int × Bool × Int)) (x2 : List Int) (r10 : Int × Int) (a13 : Int) : Option Bool :=
  fuelK N (region (law_RunwayChecks.E N) Try.prog (callD (law_RunwayChecks.E N) Try.prog 3) (opsAt (codeAt (bodyOf Try.f3) [1, 1, 1, 1, 1, 1, 1, 1, 1, 1, 1, 1, 1, 1, 1, 0, 0])) false
  ⟨[.any, .any, .any, .any, .any, .any, .ptr 0 0, .any, .any, .any, .any, .sc (.int .i64 a13), .any, .ptr 1 0, .ptr 2 0, .sc (.int .i64 r10.1), .sc (.int .i64 r10.2), .any, .any, .any, .any, .any, .any, .any, .any, .any, .any, .any, .any, .any, .any, .any, .any, .any, .any, .any, .any, .any, .any, .any, .any, .any, .any, .any, .any, .any, .any, .any, .any, .any, .any, .any, .any, .any, .any, .any, .any, .any, .any, .any, .any, .any, .any, .any, .any, .any, .any, .any, .any, .any, .any, .any, .any, .any, .any, .any, .any, .any, .any, .any, .any, .any, .any, .any, .any, .any, .any, .any, .any, .any, .any, .any, .any, .any, .any, .any, .any, .any, .any, .any, .any, .any, .any, .any, .any, .any, .any, .any, .any, .any, .any, .any, .any], [.cells [.sc (.int .i64 (List.getD x2 0 0)), .sc (.int .i64 (List.getD x2 1 0)), .sc (.int .i64 (List.getD x2 2 0)), .sc (.int .i64 (List.getD x2 3 0)), .sc (.int .i64 (List.getD x2 4 0)), .sc (.int .i64 (List.getD x2 5 0)), .sc (.int .i64 (List.getD x2 6 0)), .sc (.int .i64 (List.getD x2 7 0)), .sc (.int .i64 (List.getD x2 8 0)), .sc (.int .i64 (List.getD x2 9 0)), .sc (.int .i64 (List.getD x2 10 0)), .sc (.int .i64 (List.getD x2 11 0)), .sc (.int .i64 (List.getD x2 12 0)), .sc (.int .i64 (List.getD x2 13 0)), .sc (.int .i64 (List.getD x2 14 0)), .sc (.int .i64 (List.getD x2 15 0))] 26, .cells [.sc (.int .i64 ((List.getD x0 0 (0, (0, (false, 0)))).1)), .sc (.int .i64 (((List.getD x0 0 (0, (0, (false, 0)))).2).1)), .sc (.bool ((((List.getD x0 0 (0, (0, (false, 0)))).2).2).1)), .sc (.int .i64 ((((List.getD x0 0 (0, (0, (false, 0)))).2).2).2))] 35, .cells [.sc (.int .i64 ((List.getD x0 (Int.toNat (w ((x0.length : Int) - 1))) (0, (0, (false, 0)))).1)), .sc (.int .i64 (((List.getD x0 (Int.toNat (w ((x0.length : Int) - 1))) (0, (0, (false, 0)))).2).1)), .sc (.bool ((((List.getD x0 (Int.toNat (w ((x0.length : Int) - 1))) (0, (0, (false, 0)))).2).2).1)), .sc (.int .i64 ((((List.getD x0 (Int.toNat (w ((x0.length : Int) - 1))) (0, (0, (false, 0)))).2).2).2))] 35]⟩
  (fun S => (seqK (law_RunwayChecks.cd N [1, 1, 1, 1, 1, 1, 1, 1, 1, 1, 1, 1, 1, 1, 1, 0, 1]) (seqK (law_RunwayChecks.cd N [1, 1, 1, 1, 1, 1, 1, 1, 1, 1, 1, 1, 1, 1, 1, 1]) law_RunwayChecks.fin)) .normal S))
theorem law_RunwayChecks.j3_eq (N : Nat) (x0 : List (Int × Int × Bool × Int)) (x2 : List Int) (r10 : Int × Int) (a13 : Int) {M : Nat} (hM : N = M + 1) : law_RunwayChecks.j3 N x0 x2 r10 a13 =
    bif !(a13 == 0) then
      bif !(r10.2 == a13) || (r10.2 == a13) then
        bif (!(r10.2 == a13)) || (r10.2 == a13) then
          some ((r10.2 == a13) && (r10.1 == 0))
        else
          none
      else
        none
    else
    bif !(r10.2 == 0) || (r10.2 == 0) then
      bif !(r10.2 == 0) || (r10.2 == 0) then
        bif !(r10.2 == 0) || (r10.2 == 0) then
          (bif (r10.2 == 0) then ref_Apart.fn N ((vl 16 x2), List.getD x0 0 (0, (0, (false, 0))), List.getD x0 (Int.toNat (w ((x0.length : Int) - 1))) (0, (0, (false, 0)))) else some (0)).bind fun r14 =>
          bif !(r10.2 == 0) || (r10.2 == 0) then
            bif !(r10.2 == 0) || (r10.2 == 0) then
              bif (!(r10.2 == 0)) || (r10.2 == 0) then
                some ((r10.2 == 0) && (r10.1 == r14))
              else
                none
            else
              none
          else
            none
        else
          none
      else
        none
    else
      none := (fuelK_eq hM _).trans (by kernel_rfl)
theorem law_RunwayChecks.j2_eq (N : Nat) (x0 : List (Int × Int × Bool × Int)) (x2 : List Int) (r10 : Int × Int) (a12 : Int) {M : Nat} (hM : N = M + 1) : law_RunwayChecks.j2 N x0 x2 r10 a12 =
    bif a12 == 0 then
      (ref_MovesError.fn N [List.getD x0 (Int.toNat (w ((x0.length : Int) - 1))) (0, (0, (false, 0)))]).bind fun r15 =>
      law_RunwayChecks.j3 N x0 x2 r10 r15
    else
      law_RunwayChecks.j3 N x0 x2 r10 a12 := (fuelK_eq hM _).trans (by kernel_rfl)
theorem law_RunwayChecks.j1_eq (N : Nat) (x0 : List (Int × Int × Bool × Int)) (x2 : List Int) (r2 : Int × Int) (a8 : Int) (a9 : Int) {M : Nat} (hM : N = M + 1) : law_RunwayChecks.j1 N x0 x2 r2 a8 a9 =
    bif !(!(!(r2.2 == a8))) || (!(!(r2.2 == a8))) then
      bif !(!(!(r2.2 == a8))) || (!(!(r2.2 == a8))) then
        bif (!(r2.2 == a8)) || (!(!(r2.2 == a8))) then
          bif (!(r2.2 == a8)) || (!(r2.1 == a9)) then
            some false
          else
          bif decide ((x0.length : Int) < 2) then
            some true
          else
          bif decide (0 < (x0.length : Int)) then
            bif (decide (0 ≤ (w ((x0.length : Int) - 1)))) && (decide ((w ((x0.length : Int) - 1)) < (x0.length : Int))) then
              (runway_Gap.fn N ((vl 16 x2), List.getD x0 0 (0, (0, (false, 0))), List.getD x0 (Int.toNat (w ((x0.length : Int) - 1))) (0, (0, (false, 0))))).bind fun r10 =>
              (ref_TableError.fn N (vl 16 x2)).bind fun r11 =>
              bif r11 == 0 then
                (ref_MovesError.fn N [List.getD x0 0 (0, (0, (false, 0)))]).bind fun r16 =>
                law_RunwayChecks.j2 N x0 x2 r10 r16
              else
                law_RunwayChecks.j2 N x0 x2 r10 r11
            else
              none
          else
            none
        else
          none
      else
        none
    else
      none := (fuelK_eq hM _).trans (by kernel_rfl)
theorem law_RunwayChecks.j0_eq (N : Nat) (x0 : List (Int × Int × Bool × Int)) (x1 : List (Int × Int)) (x2 : List Int) (x3 : Int) (r2 : Int × Int) (a7 : Int) {M : Nat} (hM : N = M + 1) : law_RunwayChecks.j0 N x0 x1 x2 x3 r2 a7 =
    bif a7 == 0 then
      (ref_EndAt.fn N (x1, x3)).bind fun r17 =>
      bif decide (r17 < 0) then
        law_RunwayChecks.j1 N x0 x2 r2 14 0
      else
        law_RunwayChecks.j1 N x0 x2 r2 a7 r17
    else
      law_RunwayChecks.j1 N x0 x2 r2 a7 0 := (fuelK_eq hM _).trans (by kernel_rfl)
theorem law_RunwayChecks.j3_clean (N : Nat) (x0 : List (Int × Int × Bool × Int)) (x2 : List Int) (r10 : Int × Int) (a13 : Int) {M : Nat} (hM : N = M + 1) : law_RunwayChecks.j3 N x0 x2 r10 a13 =
    bif !(a13 == 0) then
      some ((r10.2 == a13) && (r10.1 == 0))
    else
    (bif (r10.2 == 0) then ref_Apart.fn N ((vl 16 x2), List.getD x0 0 (0, (0, (false, 0))), List.getD x0 (Int.toNat (w ((x0.length : Int) - 1))) (0, (0, (false, 0)))) else some (0)).bind fun r14 =>
    some ((r10.2 == 0) && (r10.1 == r14)) := by
  rw [law_RunwayChecks.j3_eq (hM := hM)]; simp only [taut7, taut8, cond_true]
theorem taut18 : ∀ p0 : Bool, ((!(!(!(p0))) || (!(!(p0))))) = true := by decide
theorem taut19 : ∀ p0 : Bool, (((!(p0)) || (!(!(p0))))) = true := by decide
theorem law_RunwayChecks.j1_clean (N : Nat) (x0 : List (Int × Int × Bool × Int)) (x2 : List Int) (r2 : Int × Int) (a8 : Int) (a9 : Int) {M : Nat} (hM : N = M + 1) : law_RunwayChecks.j1 N x0 x2 r2 a8 a9 =
    bif (!(r2.2 == a8)) || (!(r2.1 == a9)) then
      some false
    else
    bif decide ((x0.length : Int) < 2) then
      some true
    else
    bif decide (0 < (x0.length : Int)) then
      bif (decide (0 ≤ (w ((x0.length : Int) - 1)))) && (decide ((w ((x0.length : Int) - 1)) < (x0.length : Int))) then
        (runway_Gap.fn N ((vl 16 x2), List.getD x0 0 (0, (0, (false, 0))), List.getD x0 (Int.toNat (w ((x0.length : Int) - 1))) (0, (0, (false, 0))))).bind fun r10 =>
        (ref_TableError.fn N (vl 16 x2)).bind fun r11 =>
        bif r11 == 0 then
          (ref_MovesError.fn N [List.getD x0 0 (0, (0, (false, 0)))]).bind fun r16 =>
          law_RunwayChecks.j2 N x0 x2 r10 r16
        else
          law_RunwayChecks.j2 N x0 x2 r10 r11
      else
        none
    else
      none := by
  rw [law_RunwayChecks.j1_eq (hM := hM)]; simp only [taut18, taut19, cond_true]
theorem law_RunwayChecks.eq (N : Nat) (x0 : List (Int × Int × Bool × Int)) (x1 : List (Int × Int)) (x2 : List Int) (x3 : Int) : law_RunwayChecks.fn N (x0, x1, x2, x3) =
    (law_runwayFact.fn N ()).bind fun r1 =>
    bif !r1 then
      some false
    else
      (runway_Direction.fn N (x1, x3)).bind fun r2 =>
      (ref_EndsError.fn N x1).bind fun r3 =>
      (runway_Check.fn N x0).bind fun r4 =>
      (ref_MovesError.fn N x0).bind fun r5 =>
      bif !(!(!(r4 == r5))) || (!(!(r4 == r5))) then
        (bif (!(!(r4 == r5))) then runway_Spans.fn N x1 else some (0)).bind fun r6 =>
        bif !(!(!(r4 == r5))) || (!(!(r4 == r5))) then
          bif !(!(!(r4 == r5))) || (!(!(r4 == r5))) then
            bif (!(r4 == r5)) || (!(!(r4 == r5))) then
              bif (!(r4 == r5)) || (!(r6 == r3)) then
                some false
              else
              bif !(r3 == 0) || (r3 == 0) then
                bif !(r3 == 0) || (r3 == 0) then
                  bif !((r3 == 0) && (!(decide (x3 < 0)))) || ((r3 == 0) && (!(decide (x3 < 0)))) then
                    bif !(r3 == 0) || (r3 == 0) then
                      bif !(r3 == 0) || ((decide (x3 < 0)) || ((r3 == 0) && (!(decide (x3 < 0))))) then
                        bif (!(r3 == 0)) || (r3 == 0) then
                          bif (r3 == 0) && ((decide (x3 < 0)) || (decide (x3 > 200000))) then
                            law_RunwayChecks.j0 N x0 x1 x2 x3 r2 12
                          else
                            law_RunwayChecks.j0 N x0 x1 x2 x3 r2 r3
                        else
                          none
                      else
                        none
                    else
                      none
                  else
                    none
                else
                  none
              else
                none
            else
              none
          else
            none
        else
          none
      else
        none := by kernel_rfl
theorem taut20 : ∀ p0 p1 : Bool, ((!((p0) && (!(p1))) || ((p0) && (!(p1))))) = true := by decide
theorem taut21 : ∀ p0 p1 : Bool, ((!(p0) || ((p1) || ((p0) && (!(p1)))))) = true := by decide
theorem law_RunwayChecks.clean (N : Nat) (x0 : List (Int × Int × Bool × Int)) (x1 : List (Int × Int)) (x2 : List Int) (x3 : Int) : law_RunwayChecks.fn N (x0, x1, x2, x3) =
    (law_runwayFact.fn N ()).bind fun r1 =>
    bif !r1 then
      some false
    else
      (runway_Direction.fn N (x1, x3)).bind fun r2 =>
      (ref_EndsError.fn N x1).bind fun r3 =>
      (runway_Check.fn N x0).bind fun r4 =>
      (ref_MovesError.fn N x0).bind fun r5 =>
      (bif (!(!(r4 == r5))) then runway_Spans.fn N x1 else some (0)).bind fun r6 =>
      bif (!(r4 == r5)) || (!(r6 == r3)) then
        some false
      else
      bif (r3 == 0) && ((decide (x3 < 0)) || (decide (x3 > 200000))) then
        law_RunwayChecks.j0 N x0 x1 x2 x3 r2 12
      else
        law_RunwayChecks.j0 N x0 x1 x2 x3 r2 r3 := by
  rw [law_RunwayChecks.eq]; simp only [taut18, taut20, taut21, taut7, taut19, taut8, cond_true]

/-! ### law_planError: skyway/skywaylaw3.planError -/
def law_planError.kp : List (Nat × List (Nat × Option (TypeId × Ty))) := []
noncomputable def law_planError.G (N : Nat) : List (Nat × Spec) := [(16, .pure (ref_EndsError.S N)), (18, .pure (ref_MovesError.S N)), (22, .pure (ref_TableError.S N))]
noncomputable def law_planError.E (N : Nat) : Env := mkEnv (law_planError.G N) N tyTab law_planError.kp
noncomputable def law_planError.fn (N : Nat) (x : List (Int × Int × Bool × Int) × List (Int × Int) × List Int) : Option Int := evFn (law_planError.E N) Try.prog 3 Try.f25 false [.cell (.sl 35 (.pair (.int .i64) (.pair (.int .i64) (.pair (.bool) (.int .i64))))), .cell (.sl 60 (.pair (.int .i64) (.int .i64))), .agg (.vec 16 .i64)] [.val (.cell (.int .i64))] x
noncomputable def law_planError.S (N : Nat) : PSpec := ⟨false, [.cell (.sl 35 (.pair (.int .i64) (.pair (.int .i64) (.pair (.bool) (.int .i64))))), .cell (.sl 60 (.pair (.int .i64) (.int .i64))), .agg (.vec 16 .i64)], [.val (.cell (.int .i64))], law_planError.fn N⟩
theorem f25_enters : Enters Try.prog 25 := ⟨Try.f25, Try.func25, by kernel_rfl, by kernel_rfl⟩
theorem law_planError.tab (N : Nat) : TabOk Try.prog (law_planError.G N) := ⟨⟨ref_EndsError.enters, ref_EndsError.sound N⟩, ⟨ref_MovesError.enters, ref_MovesError.sound N⟩, ⟨ref_TableError.enters, ref_TableError.sound N⟩, trivial⟩
theorem law_planError.enters : Enters Try.prog 25 := f25_enters
theorem law_planError.sound (N : Nat) : Sound Try.prog 25 (law_planError.S N) := evFn_sound (specs_tab (law_planError.tab N)) (inls_tab (law_planError.tab N)) mixed 3 Try.func25 _ _ _
theorem law_planError.eq (N : Nat) (x0 : List (Int × Int × Bool × Int)) (x1 : List (Int × Int)) (x2 : List Int) : law_planError.fn N (x0, x1, x2) =
    (ref_MovesError.fn N x0).bind fun r1 =>
    bif !(r1 == 0) then
      some r1
    else
      (ref_EndsError.fn N x1).bind fun r2 =>
      bif !(r2 == 0) then
        some r2
      else
        (ref_TableError.fn N (vl 16 x2)).bind fun r3 =>
        some r3 := by kernel_rfl

/-! ### ref_Wrong: skyway/skywayref3.Wrong -/
def ref_Wrong.kp : List (Nat × List (Nat × Option (TypeId × Ty))) := [(2, [(0, none), (1, none), (5, none), (13, none), (14, none), (15, none)]), (8, [(0, none), (5, none), (31, none), (32, none)]), (11, [(0, none), (5, none), (11, none), (12, none), (31, none), (32, none)])]
noncomputable def ref_Wrong.G (N : Nat) : List (Nat × Spec) := [(20, .pure (ref_EndAt.S N)), (23, .pure (ref_Apart.S N))]
noncomputable def ref_Wrong.E (N : Nat) : Env := mkEnv (ref_Wrong.G N) N tyTab ref_Wrong.kp
noncomputable def ref_Wrong.fn (N : Nat) (x : List (Int × Int × Bool × Int) × List (Int × Int) × List Int) : Option (Int × Int × Int) := evFn (ref_Wrong.E N) Try.prog 3 Try.f26 false [.cell (.sl 35 (.pair (.int .i64) (.pair (.int .i64) (.pair (.bool) (.int .i64))))), .cell (.sl 60 (.pair (.int .i64) (.int .i64))), .agg (.vec 16 .i64)] [.val (.cell (.int .i64)), .val (.cell (.int .i64)), .val (.cell (.int .i64))] x
noncomputable def ref_Wrong.S (N : Nat) : PSpec := ⟨false, [.cell (.sl 35 (.pair (.int .i64) (.pair (.int .i64) (.pair (.bool) (.int .i64))))), .cell (.sl 60 (.pair (.int .i64) (.int .i64))), .agg (.vec 16 .i64)], [.val (.cell (.int .i64)), .val (.cell (.int .i64)), .val (.cell (.int .i64))], ref_Wrong.fn N⟩
theorem f26_enters : Enters Try.prog 26 := ⟨Try.f26, Try.func26, by kernel_rfl, by kernel_rfl⟩
theorem ref_Wrong.tab (N : Nat) : TabOk Try.prog (ref_Wrong.G N) := ⟨⟨ref_EndAt.enters, ref_EndAt.sound N⟩, ⟨ref_Apart.enters, ref_Apart.sound N⟩, trivial⟩
theorem ref_Wrong.enters : Enters Try.prog 26 := f26_enters
theorem ref_Wrong.sound (N : Nat) : Sound Try.prog 26 (ref_Wrong.S N) := evFn_sound (specs_tab (ref_Wrong.tab N)) (inls_tab (ref_Wrong.tab N)) mixed 3 Try.func26 _ _ _
noncomputable def ref_Wrong.cd (N : Nat) (p : List Nat) : St → (Ex → St → Option (Int × Int × Int)) → Option (Int × Int × Int) := ev (ref_Wrong.E N) Try.prog (callD (ref_Wrong.E N) Try.prog 3) 0 (codeAt (bodyOf Try.f26) p)
noncomputable def ref_Wrong.fin : Ex → St → Option (Int × Int × Int) := endK Try.prog Try.f26 [.val (.cell (.int .i64)), .val (.cell (.int .i64)), .val (.cell (.int .i64))]
noncomputable def ref_Wrong.l0 (N : Nat) (x0 : List (Int × Int × Bool × Int)) (x1 : List (Int × Int)) (x2 : List Int) (k1 : Nat) (a2 : Int) : Option (Int × Int × Int) :=
  loopN (norm ((ref_Wrong.E N).keep 2) 0) (ref_Wrong.cd N [1, 0, 1, 0, 0]) k1
  ⟨[.ros false 35 (.pair (.int .i64) (.pair (.int .i64) (.pair (.bool) (.int .i64)))) x0, .ros false 60 (.pair (.int .i64) (.int .i64)) x1, .any, .any, .any, .ptr 0 0, .any, .any, .any, .any, .any, .any, .any, .ros false 35 (.pair (.int .i64) (.pair (.int .i64) (.pair (.bool) (.int .i64)))) x0, .sc (.int .i64 (x0.length : Int)), .sc (.int .i64 a2), .any, .any, .any, .any, .any, .any, .any, .any, .any, .any, .any, .any, .any, .any, .any, .any, .any, .any, .any, .any, .any, .any, .any, .any, .any, .any, .any, .any, .any, .any, .any, .any, .any, .any, .any, .any, .any, .any, .any, .any, .any, .any, .any, .any, .any, .any, .any, .any, .any, .any, .any, .any], [.cells [.sc (.int .i64 (List.getD x2 0 0)), .sc (.int .i64 (List.getD x2 1 0)), .sc (.int .i64 (List.getD x2 2 0)), .sc (.int .i64 (List.getD x2 3 0)), .sc (.int .i64 (List.getD x2 4 0)), .sc (.int .i64 (List.getD x2 5 0)), .sc (.int .i64 (List.getD x2 6 0)), .sc (.int .i64 (List.getD x2 7 0)), .sc (.int .i64 (List.getD x2 8 0)), .sc (.int .i64 (List.getD x2 9 0)), .sc (.int .i64 (List.getD x2 10 0)), .sc (.int .i64 (List.getD x2 11 0)), .sc (.int .i64 (List.getD x2 12 0)), .sc (.int .i64 (List.getD x2 13 0)), .sc (.int .i64 (List.getD x2 14 0)), .sc (.int .i64 (List.getD x2 15 0))] 26]⟩
  (blockK 0 (seqK (ref_Wrong.cd N [1, 1]) ref_Wrong.fin))
noncomputable def ref_Wrong.l1 (N : Nat) (x0 : List (Int × Int × Bool × Int)) (x2 : List Int) (k4 : Nat) (a5 : Int) : Option (Int × Int × Int) :=
  loopN (norm ((ref_Wrong.E N).keep 8) 0) (ref_Wrong.cd N [1, 1, 0, 1, 0, 0]) k4
  ⟨[.ros false 35 (.pair (.int .i64) (.pair (.int .i64) (.pair (.bool) (.int .i64)))) x0, .any, .any, .any, .any, .ptr 0 0, .any, .any, .any, .any, .any, .any, .any, .any, .any, .any, .any, .any, .any, .any, .any, .any, .any, .any, .any, .any, .any, .any, .any, .any, .any, .sc (.int .i64 (x0.length : Int)), .sc (.int .i64 a5), .any, .any, .any, .any, .any, .any, .any, .any, .any, .any, .any, .any, .any, .any, .any, .any, .any, .any, .any, .any, .any, .any, .any, .any, .any, .any, .any, .any, .any, .any, .any, .any, .any, .any, .any], [.cells [.sc (.int .i64 (List.getD x2 0 0)), .sc (.int .i64 (List.getD x2 1 0)), .sc (.int .i64 (List.getD x2 2 0)), .sc (.int .i64 (List.getD x2 3 0)), .sc (.int .i64 (List.getD x2 4 0)), .sc (.int .i64 (List.getD x2 5 0)), .sc (.int .i64 (List.getD x2 6 0)), .sc (.int .i64 (List.getD x2 7 0)), .sc (.int .i64 (List.getD x2 8 0)), .sc (.int .i64 (List.getD x2 9 0)), .sc (.int .i64 (List.getD x2 10 0)), .sc (.int .i64 (List.getD x2 11 0)), .sc (.int .i64 (List.getD x2 12 0)), .sc (.int .i64 (List.getD x2 13 0)), .sc (.int .i64 (List.getD x2 14 0)), .sc (.int .i64 (List.getD x2 15 0))] 26]⟩
  (blockK 2 (seqK (ref_Wrong.cd N [1, 1, 1]) ref_Wrong.fin))
noncomputable def ref_Wrong.l2 (N : Nat) (x0 : List (Int × Int × Bool × Int)) (x2 : List Int) (k4 : Nat) (a5 : Int) (k6 : Nat) (a7 : Int) : Option (Int × Int × Int) :=
  loopN (norm ((ref_Wrong.E N).keep 11) 0) (ref_Wrong.cd N [1, 1, 0, 1, 0, 0, 1, 1, 0, 0, 1, 1, 0, 0]) k6
  ⟨[.ros false 35 (.pair (.int .i64) (.pair (.int .i64) (.pair (.bool) (.int .i64)))) x0, .any, .any, .any, .any, .ptr 0 0, .any, .any, .any, .any, .any, .sc (.int .i64 a5), .sc (.int .i64 a7), .any, .any, .any, .any, .any, .any, .any, .any, .any, .any, .any, .any, .any, .any, .any, .any, .any, .any, .sc (.int .i64 (x0.length : Int)), .sc (.int .i64 a5), .any, .any, .any, .any, .any, .any, .any, .any, .any, .any, .any, .any, .any, .any, .any, .any, .any, .any, .any, .any, .any, .any, .any, .any, .any, .any, .any, .any, .any, .any, .any, .any, .any, .any, .any], [.cells [.sc (.int .i64 (List.getD x2 0 0)), .sc (.int .i64 (List.getD x2 1 0)), .sc (.int .i64 (List.getD x2 2 0)), .sc (.int .i64 (List.getD x2 3 0)), .sc (.int .i64 (List.getD x2 4 0)), .sc (.int .i64 (List.getD x2 5 0)), .sc (.int .i64 (List.getD x2 6 0)), .sc (.int .i64 (List.getD x2 7 0)), .sc (.int .i64 (List.getD x2 8 0)), .sc (.int .i64 (List.getD x2 9 0)), .sc (.int .i64 (List.getD x2 10 0)), .sc (.int .i64 (List.getD x2 11 0)), .sc (.int .i64 (List.getD x2 12 0)), .sc (.int .i64 (List.getD x2 13 0)), .sc (.int .i64 (List.getD x2 14 0)), .sc (.int .i64 (List.getD x2 15 0))] 26]⟩
  (blockK 4 (blockK 3 (seqK (ref_Wrong.cd N [1, 1, 0, 1, 0, 0, 1, 1, 1]) (loopK (norm ((ref_Wrong.E N).keep 8) 0) (ref_Wrong.cd N [1, 1, 0, 1, 0, 0]) k4 (blockK 2 (seqK (ref_Wrong.cd N [1, 1, 1]) ref_Wrong.fin))))))
theorem ref_Wrong.l2_zero (N : Nat) (x0 : List (Int × Int × Bool × Int)) (x2 : List Int) (k4 : Nat) (a5 : Int) (a7 : Int) : ref_Wrong.l2 N x0 x2 k4 a5 0 a7 = none := by kernel_rfl
theorem ref_Wrong.l2_succ (N : Nat) (x0 : List (Int × Int × Bool × Int)) (x2 : List Int) (k4 : Nat) (a5 : Int) (k6 : Nat) (a7 : Int) : ref_Wrong.l2 N x0 x2 k4 a5 (k6 + 1) a7 =
    bif decide (a7 < (x0.length : Int)) then
      bif (decide (0 ≤ a7)) && (decide (a7 < (x0.length : Int))) then
        bif (decide (0 ≤ a5)) && (decide (a5 < (x0.length : Int))) then
          bif (decide (0 ≤ a5)) && (decide (a5 < (x0.length : Int))) then
            bif (decide (0 ≤ a7)) && (decide (a7 < (x0.length : Int))) then
              (ref_Apart.fn N ((vl 16 x2), List.getD x0 (Int.toNat a5) (0, (0, (false, 0))), List.getD x0 (Int.toNat a7) (0, (0, (false, 0))))).bind fun r8 =>
              bif decide (((List.getD x0 (Int.toNat a7) (0, (0, (false, 0)))).1) < (w (((List.getD x0 (Int.toNat a5) (0, (0, (false, 0)))).1) + r8))) then
                some (a5, a7, 15)
              else
                ref_Wrong.l2 N x0 x2 k4 a5 k6 (w (a7 + 1))
            else
              none
          else
            none
        else
          none
      else
        none
    else
      ref_Wrong.l1 N x0 x2 k4 (w (a5 + 1)) := by kernel_rfl
theorem ref_Wrong.l1_zero (N : Nat) (x0 : List (Int × Int × Bool × Int)) (x2 : List Int) (a5 : Int) : ref_Wrong.l1 N x0 x2 0 a5 = none := by kernel_rfl
theorem ref_Wrong.l1_succ (N : Nat) (x0 : List (Int × Int × Bool × Int)) (x2 : List Int) (k4 : Nat) (a5 : Int) : ref_Wrong.l1 N x0 x2 (k4 + 1) a5 =
    bif decide (a5 < (x0.length : Int)) then
      ref_Wrong.l2 N x0 x2 k4 a5 N (w (a5 + 1))
    else
      some (0, 0, 0) := by kernel_rfl
theorem ref_Wrong.l0_zero (N : Nat) (x0 : List (Int × Int × Bool × Int)) (x1 : List (Int × Int)) (x2 : List Int) (a2 : Int) : ref_Wrong.l0 N x0 x1 x2 0 a2 = none := by kernel_rfl
theorem ref_Wrong.l0_succ (N : Nat) (x0 : List (Int × Int × Bool × Int)) (x1 : List (Int × Int)) (x2 : List Int) (k1 : Nat) (a2 : Int) : ref_Wrong.l0 N x0 x1 x2 (k1 + 1) a2 =
    bif decide (a2 < (x0.length : Int)) then
      bif (decide (0 ≤ a2)) && (decide (a2 < (x0.length : Int))) then
        (ref_EndAt.fn N (x1, (List.getD x0 (Int.toNat a2) (0, (0, (false, 0)))).1)).bind fun r3 =>
        bif !(r3 == ((((List.getD x0 (Int.toNat a2) (0, (0, (false, 0)))).2).2).2)) then
          some (a2, a2, 14)
        else
          ref_Wrong.l0 N x0 x1 x2 k1 (w (a2 + 1))
      else
        none
    else
      ref_Wrong.l1 N x0 x2 N 0 := by kernel_rfl
theorem ref_Wrong.l2_cons (N : Nat) (x0 : List (Int × Int × Bool × Int)) (x2 : List Int) (k4 : Nat) (a5 : Int) (k6 : Nat) {pre r} {x} (hl : x0 = pre ++ x :: r) (hb : x0.length < 4611686018427387904) : ref_Wrong.l2 N x0 x2 k4 a5 (k6 + 1) (pre.length : Int) =
    bif (decide (0 ≤ a5)) && (decide (a5 < (x0.length : Int))) then
      bif (decide (0 ≤ a5)) && (decide (a5 < (x0.length : Int))) then
        (ref_Apart.fn N ((vl 16 x2), List.getD x0 (Int.toNat a5) (0, (0, (false, 0))), x)).bind fun r8 =>
        bif decide ((x.1) < (w (((List.getD x0 (Int.toNat a5) (0, (0, (false, 0)))).1) + r8))) then
          some (a5, (pre.length : Int), 15)
        else
          ref_Wrong.l2 N x0 x2 k4 a5 k6 ((pre.length : Int) + 1)
      else
        none
    else
      none := by
  have hlen : x0.length = pre.length + 1 + r.length := by rw [hl]; simp; omega
  have e1 : decide ((pre.length : Int) < (x0.length : Int)) = true := by rw [decide_eq_true_iff]; omega
  have e2 : decide (0 ≤ (pre.length : Int)) = true := by rw [decide_eq_true_iff]; omega
  have e4 : w ((pre.length : Int) + 1) = (pre.length : Int) + 1 := w_next hl hb
  have e5 : List.take pre.length x0 = pre := by rw [hl]; simp
  have e6 : decide ((pre.length : Int) ≤ (x0.length : Int)) = true := by rw [decide_eq_true_iff]; omega
  have g0 : List.getD x0 pre.length (0, (0, (false, 0))) = x := by rw [hl]; exact getD_mid pre x r _
  rw [ref_Wrong.l2_succ]
  simp -implicitDefEqProofs only [Int.toNat_natCast, e1, e2, e4, e6, g0, e5, Bool.and_true, Bool.true_and, Bool.true_or, cond_true]
theorem ref_Wrong.l2_nil (N : Nat) (x0 : List (Int × Int × Bool × Int)) (x2 : List Int) (k4 : Nat) (a5 : Int) (k6 : Nat) : ref_Wrong.l2 N x0 x2 k4 a5 (k6 + 1) (x0.length : Int) =
    ref_Wrong.l1 N x0 x2 k4 (w (a5 + 1)) := by
  have e1 : decide ((x0.length : Int) < (x0.length : Int)) = false := by rw [decide_eq_false_iff_not]; omega
  rw [ref_Wrong.l2_succ]
  simp -implicitDefEqProofs only [e1, cond_false]
theorem ref_Wrong.l1_cons (N : Nat) (x0 : List (Int × Int × Bool × Int)) (x2 : List Int) (k4 : Nat) {pre r} {x} (hl : x0 = pre ++ x :: r) (hb : x0.length < 4611686018427387904) : ref_Wrong.l1 N x0 x2 (k4 + 1) (pre.length : Int) =
    ref_Wrong.l2 N x0 x2 k4 (pre.length : Int) N ((pre.length : Int) + 1) := by
  have hlen : x0.length = pre.length + 1 + r.length := by rw [hl]; simp; omega
  have e1 : decide ((pre.length : Int) < (x0.length : Int)) = true := by rw [decide_eq_true_iff]; omega
  have e2 : decide (0 ≤ (pre.length : Int)) = true := by rw [decide_eq_true_iff]; omega
  have e4 : w ((pre.length : Int) + 1) = (pre.length : Int) + 1 := w_next hl hb
  have e5 : List.take pre.length x0 = pre := by rw [hl]; simp
  have e6 : decide ((pre.length : Int) ≤ (x0.length : Int)) = true := by rw [decide_eq_true_iff]; omega
  rw [ref_Wrong.l1_succ]
  simp -implicitDefEqProofs only [Int.toNat_natCast, e1, e2, e4, e6, e5, Bool.and_true, Bool.true_and, Bool.true_or, cond_true]
theorem ref_Wrong.l1_nil (N : Nat) (x0 : List (Int × Int × Bool × Int)) (x2 : List Int) (k4 : Nat) : ref_Wrong.l1 N x0 x2 (k4 + 1) (x0.length : Int) =
    some (0, 0, 0) := by
  have e1 : decide ((x0.length : Int) < (x0.length : Int)) = false := by rw [decide_eq_false_iff_not]; omega
  rw [ref_Wrong.l1_succ]
  simp -implicitDefEqProofs only [e1, cond_false]
theorem ref_Wrong.l0_cons (N : Nat) (x0 : List (Int × Int × Bool × Int)) (x1 : List (Int × Int)) (x2 : List Int) (k1 : Nat) {pre r} {x} (hl : x0 = pre ++ x :: r) (hb : x0.length < 4611686018427387904) : ref_Wrong.l0 N x0 x1 x2 (k1 + 1) (pre.length : Int) =
    (ref_EndAt.fn N (x1, x.1)).bind fun r3 =>
    bif !(r3 == (((x.2).2).2)) then
      some ((pre.length : Int), (pre.length : Int), 14)
    else
      ref_Wrong.l0 N x0 x1 x2 k1 ((pre.length : Int) + 1) := by
  have hlen : x0.length = pre.length + 1 + r.length := by rw [hl]; simp; omega
  have e1 : decide ((pre.length : Int) < (x0.length : Int)) = true := by rw [decide_eq_true_iff]; omega
  have e2 : decide (0 ≤ (pre.length : Int)) = true := by rw [decide_eq_true_iff]; omega
  have e4 : w ((pre.length : Int) + 1) = (pre.length : Int) + 1 := w_next hl hb
  have e5 : List.take pre.length x0 = pre := by rw [hl]; simp
  have e6 : decide ((pre.length : Int) ≤ (x0.length : Int)) = true := by rw [decide_eq_true_iff]; omega
  have g0 : List.getD x0 pre.length (0, (0, (false, 0))) = x := by rw [hl]; exact getD_mid pre x r _
  rw [ref_Wrong.l0_succ]
  simp -implicitDefEqProofs only [Int.toNat_natCast, e1, e2, e4, e6, g0, e5, Bool.and_true, Bool.true_and, Bool.true_or, cond_true]
theorem ref_Wrong.l0_nil (N : Nat) (x0 : List (Int × Int × Bool × Int)) (x1 : List (Int × Int)) (x2 : List Int) (k1 : Nat) : ref_Wrong.l0 N x0 x1 x2 (k1 + 1) (x0.length : Int) =
    ref_Wrong.l1 N x0 x2 N 0 := by
  have e1 : decide ((x0.length : Int) < (x0.length : Int)) = false := by rw [decide_eq_false_iff_not]; omega
  rw [ref_Wrong.l0_succ]
  simp -implicitDefEqProofs only [e1, cond_false]
theorem ref_Wrong.eq (N : Nat) (x0 : List (Int × Int × Bool × Int)) (x1 : List (Int × Int)) (x2 : List Int) : ref_Wrong.fn N (x0, x1, x2) =
    ref_Wrong.l0 N x0 x1 x2 N 0 := by kernel_rfl

/-! ### law_RunwaySafes: skyway/skywaylaw3.RunwaySafes -/
def law_RunwaySafes.kp : List (Nat × List (Nat × Option (TypeId × Ty))) := []
noncomputable def law_RunwaySafes.G (N : Nat) : List (Nat × Spec) := [(14, .pure (law_runwayFact.S N)), (24, .pure (runway_Safe.S N)), (25, .pure (law_planError.S N)), (26, .pure (ref_Wrong.S N))]
noncomputable def law_RunwaySafes.E (N : Nat) : Env := mkEnv (law_RunwaySafes.G N) N tyTab law_RunwaySafes.kp
noncomputable def law_RunwaySafes.fn (N : Nat) (x : List (Int × Int × Bool × Int) × List (Int × Int) × List Int) : Option Bool := evFn (law_RunwaySafes.E N) Try.prog 3 Try.f4 false [.cell (.sl 35 (.pair (.int .i64) (.pair (.int .i64) (.pair (.bool) (.int .i64))))), .cell (.sl 60 (.pair (.int .i64) (.int .i64))), .agg (.vec 16 .i64)] [.val (.cell (.bool))] x
noncomputable def law_RunwaySafes.S (N : Nat) : PSpec := ⟨false, [.cell (.sl 35 (.pair (.int .i64) (.pair (.int .i64) (.pair (.bool) (.int .i64))))), .cell (.sl 60 (.pair (.int .i64) (.int .i64))), .agg (.vec 16 .i64)], [.val (.cell (.bool))], law_RunwaySafes.fn N⟩
theorem f4_enters : Enters Try.prog 4 := ⟨Try.f4, Try.func4, by kernel_rfl, by kernel_rfl⟩
theorem law_RunwaySafes.tab (N : Nat) : TabOk Try.prog (law_RunwaySafes.G N) := ⟨⟨law_runwayFact.enters, law_runwayFact.sound N⟩, ⟨runway_Safe.enters, runway_Safe.sound N⟩, ⟨law_planError.enters, law_planError.sound N⟩, ⟨ref_Wrong.enters, ref_Wrong.sound N⟩, trivial⟩
theorem law_RunwaySafes.enters : Enters Try.prog 4 := f4_enters
theorem law_RunwaySafes.sound (N : Nat) : Sound Try.prog 4 (law_RunwaySafes.S N) := evFn_sound (specs_tab (law_RunwaySafes.tab N)) (inls_tab (law_RunwaySafes.tab N)) mixed 3 Try.func4 _ _ _
theorem law_RunwaySafes.eq (N : Nat) (x0 : List (Int × Int × Bool × Int)) (x1 : List (Int × Int)) (x2 : List Int) : law_RunwaySafes.fn N (x0, x1, x2) =
    (law_runwayFact.fn N ()).bind fun r1 =>
    bif !r1 then
      some false
    else
      (runway_Safe.fn N (x0, x1, (vl 16 x2))).bind fun r2 =>
      (law_planError.fn N (x0, x1, (vl 16 x2))).bind fun r3 =>
      bif !(r3 == 0) then
        bif !(r2.2.2 == r3) || (r2.2.2 == r3) then
          bif (!(r2.2.2 == r3)) || (r2.2.2 == r3) then
            bif !((r2.2.2 == r3) && (r2.1 == 0)) || ((r2.2.2 == r3) && (r2.1 == 0)) then
              bif (!((r2.2.2 == r3) && (r2.1 == 0))) || ((r2.2.2 == r3) && (r2.1 == 0)) then
                some (((r2.2.2 == r3) && (r2.1 == 0)) && (r2.2.1 == 0))
              else
                none
            else
              none
          else
            none
        else
          none
      else
        (ref_Wrong.fn N (x0, x1, (vl 16 x2))).bind fun r4 =>
        bif !(r2.2.2 == r4.2.2) || (r2.2.2 == r4.2.2) then
          bif !(r2.2.2 == r4.2.2) || (r2.2.2 == r4.2.2) then
            bif (!(r2.2.2 == r4.2.2)) || (r2.2.2 == r4.2.2) then
              bif !((r2.2.2 == r4.2.2) && (r2.1 == r4.1)) || ((r2.2.2 == r4.2.2) && (r2.1 == r4.1)) then
                bif !((r2.2.2 == r4.2.2) && (r2.1 == r4.1)) || ((r2.2.2 == r4.2.2) && (r2.1 == r4.1)) then
                  bif (!((r2.2.2 == r4.2.2) && (r2.1 == r4.1))) || ((r2.2.2 == r4.2.2) && (r2.1 == r4.1)) then
                    some (((r2.2.2 == r4.2.2) && (r2.1 == r4.1)) && (r2.2.1 == r4.2.1))
                  else
                    none
                else
                  none
              else
                none
            else
              none
          else
            none
        else
          none := by kernel_rfl
theorem law_RunwaySafes.clean (N : Nat) (x0 : List (Int × Int × Bool × Int)) (x1 : List (Int × Int)) (x2 : List Int) : law_RunwaySafes.fn N (x0, x1, x2) =
    (law_runwayFact.fn N ()).bind fun r1 =>
    bif !r1 then
      some false
    else
      (runway_Safe.fn N (x0, x1, (vl 16 x2))).bind fun r2 =>
      (law_planError.fn N (x0, x1, (vl 16 x2))).bind fun r3 =>
      bif !(r3 == 0) then
        some (((r2.2.2 == r3) && (r2.1 == 0)) && (r2.2.1 == 0))
      else
        (ref_Wrong.fn N (x0, x1, (vl 16 x2))).bind fun r4 =>
        some (((r2.2.2 == r4.2.2) && (r2.1 == r4.1)) && (r2.2.1 == r4.2.1)) := by
  rw [law_RunwaySafes.eq]; simp only [taut16, taut7, taut17, taut8, cond_true]

end Go.Proofs.Ytmaeakelhjmfeaa.Sk
