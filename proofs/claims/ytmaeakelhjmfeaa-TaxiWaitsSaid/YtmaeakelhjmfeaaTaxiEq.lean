/- PRINTED by gen.py: what the functions answer, part 2. Not trusted: Lean checks it. -/
import Derived.Test.YtmaeakelhjmfeaaTaxiEq1
set_option linter.unusedVariables false
set_option linter.unusedSimpArgs false
set_option maxRecDepth 100000
namespace Go.Proofs.Ytmaeakelhjmfeaa.Sk
open Go
/-! ### law_TaxiWaits: skyway/skywaylaw3.TaxiWaits -/
def law_TaxiWaits.kp : List (Nat × List (Nat × Option (TypeId × Ty))) := [(8, [(1, none), (2, none), (5, none), (6, none), (7, none), (19, none), (20, none), (21, none)])]
noncomputable def law_TaxiWaits.G (N : Nat) : List (Nat × Spec) := [(38, .pure (law_taxiFact.S N)), (47, .pure (law_TaxiWaits_1.S N)), (48, .pure (taxi_Most.S N)), (49, .pure (taxi_Waiting.S N))]
noncomputable def law_TaxiWaits.E (N : Nat) : Env := mkEnv (law_TaxiWaits.G N) N tyTab law_TaxiWaits.kp
noncomputable def law_TaxiWaits.fn (N : Nat) (x : List (ByteArray × Int × Int × Int) × Int) : Option Bool := evFn (law_TaxiWaits.E N) Try.prog 3 Try.f8 false [.cell (.sl 76 (.pair (.str) (.pair (.int .i64) (.pair (.int .i64) (.int .i64))))), .cell (.int .i64)] [.val (.cell (.bool))] x
noncomputable def law_TaxiWaits.S (N : Nat) : PSpec := ⟨false, [.cell (.sl 76 (.pair (.str) (.pair (.int .i64) (.pair (.int .i64) (.int .i64))))), .cell (.int .i64)], [.val (.cell (.bool))], law_TaxiWaits.fn N⟩
theorem f8_enters : Enters Try.prog 8 := ⟨Try.f8, Try.func8, by kernel_rfl, by kernel_rfl⟩
theorem law_TaxiWaits.tab (N : Nat) : TabOk Try.prog (law_TaxiWaits.G N) := ⟨⟨law_taxiFact.enters, law_taxiFact.sound N⟩, ⟨law_TaxiWaits_1.enters, law_TaxiWaits_1.sound N⟩, ⟨taxi_Most.enters, taxi_Most.sound N⟩, ⟨taxi_Waiting.enters, taxi_Waiting.sound N⟩, trivial⟩
theorem law_TaxiWaits.enters : Enters Try.prog 8 := f8_enters
theorem law_TaxiWaits.sound (N : Nat) : Sound Try.prog 8 (law_TaxiWaits.S N) := evFn_sound (specs_tab (law_TaxiWaits.tab N)) (inls_tab (law_TaxiWaits.tab N)) mixed 3 Try.func8 _ _ _
noncomputable def law_TaxiWaits.cd (N : Nat) (p : List Nat) : St → (Ex → St → Option Bool) → Option Bool := ev (law_TaxiWaits.E N) Try.prog (callD (law_TaxiWaits.E N) Try.prog 3) 0 (codeAt (bodyOf Try.f8) p)
noncomputable def law_TaxiWaits.fin : Ex → St → Option Bool := endK Try.prog Try.f8 [.val (.cell (.bool))]
noncomputable def law_TaxiWaits.l0 (N : Nat) (x0 : List (ByteArray × Int × Int × Int)) (x1 : Int) (k2 : Nat) (a3 : Int) (a4 : Int) (a5 : Int) : Option Bool :=
  loopN (norm ((law_TaxiWaits.E N).keep 8) 0) (law_TaxiWaits.cd N [1, 1, 1, 1, 1, 0, 1, 0, 0]) k2
  ⟨[.any, .sc (.int .i64 x1), .ptr 0 0, .any, .any, .clo 47 [.ptr 0 0], .sc (.int .i64 a3), .sc (.int .i64 a4), .any, .any, .any, .any, .any, .any, .any, .any, .any, .any, .any, .ros false 76 (.pair (.str) (.pair (.int .i64) (.pair (.int .i64) (.int .i64)))) x0, .sc (.int .i64 (x0.length : Int)), .sc (.int .i64 a5), .any, .any, .any, .any, .any, .any, .any, .any, .any, .any, .any, .any, .any, .any, .any, .any, .any, .any, .any, .any, .any, .any, .any, .any, .any, .any, .any, .any, .any, .any, .any, .any, .any, .any, .any, .any, .any, .any, .any, .any, .any, .any, .any, .any, .any, .any, .any, .any, .any, .any, .any], [.cells [.ros false 76 (.pair (.str) (.pair (.int .i64) (.pair (.int .i64) (.int .i64)))) x0] 68]⟩
  (blockK 0 (seqK (law_TaxiWaits.cd N [1, 1, 1, 1, 1, 1]) law_TaxiWaits.fin))
theorem law_TaxiWaits.l0_zero (N : Nat) (x0 : List (ByteArray × Int × Int × Int)) (x1 : Int) (a3 : Int) (a4 : Int) (a5 : Int) : law_TaxiWaits.l0 N x0 x1 0 a3 a4 a5 = none := by kernel_rfl
theorem law_TaxiWaits.l0_succ (N : Nat) (x0 : List (ByteArray × Int × Int × Int)) (x1 : Int) (k2 : Nat) (a3 : Int) (a4 : Int) (a5 : Int) : law_TaxiWaits.l0 N x0 x1 (k2 + 1) a3 a4 a5 =
    bif decide (a5 < (x0.length : Int)) then
      bif (decide (0 ≤ a5)) && (decide (a5 < (x0.length : Int))) then
        (law_TaxiWaits_1.fn N ((((List.getD x0 (Int.toNat a5) ((⟨#[]⟩ : ByteArray), (0, (0, 0)))).2).2).1, x0)).bind fun r6 =>
        bif !(!(decide (r6 > a3))) || (!(decide (r6 > a3))) then
          bif !(!(decide (r6 > a3))) || (!(decide (r6 > a3))) then
            bif !(!(decide (r6 > a3))) || (!(decide (r6 > a3))) then
              bif !((!(decide (r6 > a3))) && (r6 == a3)) || ((!(decide (r6 > a3))) && (r6 == a3)) then
                bif !(!(decide (r6 > a3))) || (!(decide (r6 > a3))) then
                  bif !(!(decide (r6 > a3))) || ((!(r6 == a3)) || ((!(decide (r6 > a3))) && (r6 == a3))) then
                    bif !(!(decide (r6 > a3))) || (!(decide (r6 > a3))) then
                      bif !((!(decide (r6 > a3))) && ((r6 == a3) && (decide (r6 > 0)))) || ((!(decide (r6 > a3))) && ((r6 == a3) && (decide (r6 > 0)))) then
                        bif !((!(decide (r6 > a3))) && ((r6 == a3) && (decide (r6 > 0)))) || ((!(decide (r6 > a3))) && ((r6 == a3) && (decide (r6 > 0)))) then
                          bif !((!(decide (r6 > a3))) && ((r6 == a3) && (decide (r6 > 0)))) || ((!(decide (r6 > a3))) && ((r6 == a3) && (decide (r6 > 0)))) then
                            bif !(!(decide (r6 > a3))) || (!(decide (r6 > a3))) then
                              bif !(!(decide (r6 > a3))) || ((!((r6 == a3) && (decide (r6 > 0)))) || ((!(decide (r6 > a3))) && ((r6 == a3) && (decide (r6 > 0))))) then
                                bif (decide (r6 > a3)) || (!(decide (r6 > a3))) then
                                  bif (decide (r6 > a3)) || (((r6 == a3) && (decide (r6 > 0))) && (decide (((((List.getD x0 (Int.toNat a5) ((⟨#[]⟩ : ByteArray), (0, (0, 0)))).2).2).1) < a4))) then
                                    law_TaxiWaits.l0 N x0 x1 k2 r6 ((((List.getD x0 (Int.toNat a5) ((⟨#[]⟩ : ByteArray), (0, (0, 0)))).2).2).1) (w (a5 + 1))
                                  else
                                    law_TaxiWaits.l0 N x0 x1 k2 a3 a4 (w (a5 + 1))
                                else
                                  none
                              else
                                none
                            else
                              none
                          else
                            none
                        else
                          none
                      else
                        none
                    else
                      none
                  else
                    none
                else
                  none
              else
                none
            else
              none
          else
            none
        else
          none
      else
        none
    else
      (taxi_Most.fn N x0).bind fun r7 =>
      bif !(r7.1 == a3) || (r7.1 == a3) then
        bif !(r7.1 == a3) || (r7.1 == a3) then
          bif (!(r7.1 == a3)) || (r7.1 == a3) then
            bif !((r7.1 == a3) && (r7.2 == a4)) || ((r7.1 == a3) && (r7.2 == a4)) then
              bif !((r7.1 == a3) && (r7.2 == a4)) || ((r7.1 == a3) && (r7.2 == a4)) then
                (bif ((r7.1 == a3) && (r7.2 == a4)) then taxi_Waiting.fn N (x0, x1) else some (0)).bind fun r8 =>
                bif !((r7.1 == a3) && (r7.2 == a4)) || ((r7.1 == a3) && (r7.2 == a4)) then
                  bif !((r7.1 == a3) && (r7.2 == a4)) || ((r7.1 == a3) && (r7.2 == a4)) then
                    (bif ((r7.1 == a3) && (r7.2 == a4)) then law_TaxiWaits_1.fn N (x1, x0) else some (0)).bind fun r9 =>
                    bif !((r7.1 == a3) && (r7.2 == a4)) || ((r7.1 == a3) && (r7.2 == a4)) then
                      bif !((r7.1 == a3) && (r7.2 == a4)) || ((r7.1 == a3) && (r7.2 == a4)) then
                        bif (!((r7.1 == a3) && (r7.2 == a4))) || ((r7.1 == a3) && (r7.2 == a4)) then
                          some (((r7.1 == a3) && (r7.2 == a4)) && (r8 == r9))
                        else
                          none
                      else
                        none
                    else
                      none
                  else
                    none
                else
                  none
              else
                none
            else
              none
          else
            none
        else
          none
      else
        none := by kernel_rfl
theorem taut23 : ∀ p0 p1 : Bool, ((!((p0) && (p1)) || ((p0) && (p1)))) = true := by decide
theorem taut24 : ∀ p0 p1 : Bool, (((!((p0) && (p1))) || ((p0) && (p1)))) = true := by decide
theorem law_TaxiWaits.l0_clean (N : Nat) (x0 : List (ByteArray × Int × Int × Int)) (x1 : Int) (k2 : Nat) (a3 : Int) (a4 : Int) (a5 : Int) : law_TaxiWaits.l0 N x0 x1 (k2 + 1) a3 a4 a5 =
    bif decide (a5 < (x0.length : Int)) then
      bif (decide (0 ≤ a5)) && (decide (a5 < (x0.length : Int))) then
        (law_TaxiWaits_1.fn N ((((List.getD x0 (Int.toNat a5) ((⟨#[]⟩ : ByteArray), (0, (0, 0)))).2).2).1, x0)).bind fun r6 =>
        bif (decide (r6 > a3)) || (((r6 == a3) && (decide (r6 > 0))) && (decide (((((List.getD x0 (Int.toNat a5) ((⟨#[]⟩ : ByteArray), (0, (0, 0)))).2).2).1) < a4))) then
          law_TaxiWaits.l0 N x0 x1 k2 r6 ((((List.getD x0 (Int.toNat a5) ((⟨#[]⟩ : ByteArray), (0, (0, 0)))).2).2).1) (w (a5 + 1))
        else
          law_TaxiWaits.l0 N x0 x1 k2 a3 a4 (w (a5 + 1))
      else
        none
    else
      (taxi_Most.fn N x0).bind fun r7 =>
      (bif ((r7.1 == a3) && (r7.2 == a4)) then taxi_Waiting.fn N (x0, x1) else some (0)).bind fun r8 =>
      (bif ((r7.1 == a3) && (r7.2 == a4)) then law_TaxiWaits_1.fn N (x1, x0) else some (0)).bind fun r9 =>
      some (((r7.1 == a3) && (r7.2 == a4)) && (r8 == r9)) := by
  rw [law_TaxiWaits.l0_succ]; simp only [taut1, taut13, taut14, taut15, taut16, taut23, taut11, taut24, taut12, taut6, cond_true]
theorem law_TaxiWaits.l0_cons (N : Nat) (x0 : List (ByteArray × Int × Int × Int)) (x1 : Int) (k2 : Nat) (a3 : Int) (a4 : Int) {pre r} {x} (hl : x0 = pre ++ x :: r) (hb : x0.length < 4611686018427387904) : law_TaxiWaits.l0 N x0 x1 (k2 + 1) a3 a4 (pre.length : Int) =
    (law_TaxiWaits_1.fn N (((x.2).2).1, x0)).bind fun r6 =>
    bif (decide (r6 > a3)) || (((r6 == a3) && (decide (r6 > 0))) && (decide ((((x.2).2).1) < a4))) then
      law_TaxiWaits.l0 N x0 x1 k2 r6 (((x.2).2).1) ((pre.length : Int) + 1)
    else
      law_TaxiWaits.l0 N x0 x1 k2 a3 a4 ((pre.length : Int) + 1) := by
  have hlen : x0.length = pre.length + 1 + r.length := by rw [hl]; simp; omega
  have e1 : decide ((pre.length : Int) < (x0.length : Int)) = true := by rw [decide_eq_true_iff]; omega
  have e2 : decide (0 ≤ (pre.length : Int)) = true := by rw [decide_eq_true_iff]; omega
  have e4 : w ((pre.length : Int) + 1) = (pre.length : Int) + 1 := w_next hl hb
  have e5 : List.take pre.length x0 = pre := by rw [hl]; simp
  have e6 : decide ((pre.length : Int) ≤ (x0.length : Int)) = true := by rw [decide_eq_true_iff]; omega
  have g0 : List.getD x0 pre.length ((⟨#[]⟩ : ByteArray), (0, (0, 0))) = x := by rw [hl]; exact getD_mid pre x r _
  rw [law_TaxiWaits.l0_clean]
  simp -implicitDefEqProofs only [Int.toNat_natCast, e1, e2, e4, e6, g0, e5, Bool.and_true, Bool.true_and, Bool.true_or, cond_true]
theorem law_TaxiWaits.l0_nil (N : Nat) (x0 : List (ByteArray × Int × Int × Int)) (x1 : Int) (k2 : Nat) (a3 : Int) (a4 : Int) : law_TaxiWaits.l0 N x0 x1 (k2 + 1) a3 a4 (x0.length : Int) =
    (taxi_Most.fn N x0).bind fun r7 =>
    (bif ((r7.1 == a3) && (r7.2 == a4)) then taxi_Waiting.fn N (x0, x1) else some (0)).bind fun r8 =>
    (bif ((r7.1 == a3) && (r7.2 == a4)) then law_TaxiWaits_1.fn N (x1, x0) else some (0)).bind fun r9 =>
    some (((r7.1 == a3) && (r7.2 == a4)) && (r8 == r9)) := by
  have e1 : decide ((x0.length : Int) < (x0.length : Int)) = false := by rw [decide_eq_false_iff_not]; omega
  rw [law_TaxiWaits.l0_clean]
  simp -implicitDefEqProofs only [e1, cond_false]
theorem law_TaxiWaits.eq (N : Nat) (x0 : List (ByteArray × Int × Int × Int)) (x1 : Int) : law_TaxiWaits.fn N (x0, x1) =
    (law_taxiFact.fn N ()).bind fun r1 =>
    bif !r1 then
      some false
    else
    bif decide ((x0.length : Int) > 60) then
      some true
    else
      law_TaxiWaits.l0 N x0 x1 N 0 0 0 := by kernel_rfl

end Go.Proofs.Ytmaeakelhjmfeaa.Sk
