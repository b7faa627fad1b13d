/- PRINTED by gen.py: what the functions answer, part 2. Not trusted: Lean checks it. -/
import Derived.Test.YtoapmjnfiimmjaaSeqBst
set_option linter.unusedVariables false
set_option linter.unusedSimpArgs false
set_option maxRecDepth 100000
namespace Go.Proofs.Ytoapmjnfiimmjaa.Sk
open Go
/-! ### law_sequenceFact: skyway/skywaylaw3.sequenceFact -/
def law_sequenceFact.kp : List (Nat × List (Nat × Option (TypeId × Ty))) := [(999999, [(0, none)])]
noncomputable def law_sequenceFact.G (N : Nat) : List (Nat × Spec) := [(6, .pure (sequence_Natural.S N)), (7, .pure (sequence_Times.S N)), (8, .pure (sequence_Shift.S N)), (10, .pure (sequence_Check.S N)), (16, .pure (slices_Equal_int.S N)), (17, .pure bestS), (19, .inl Try.f19)]
noncomputable def law_sequenceFact.E (N : Nat) : Env := mkEnv (law_sequenceFact.G N) N tyTab law_sequenceFact.kp
noncomputable def law_sequenceFact.fn (N : Nat) (x : Unit) : Option Bool := evFn (law_sequenceFact.E N) Try.prog 4 Try.f5 false [] [.val (.cell (.bool))] x
noncomputable def law_sequenceFact.S (N : Nat) : PSpec := ⟨false, [], [.val (.cell (.bool))], law_sequenceFact.fn N⟩

theorem f5_enters : Enters Try.prog 5 := ⟨Try.f5, Try.func5, by kernel_rfl, by kernel_rfl⟩
theorem law_sequenceFact.tab (N : Nat) : TabOk Try.prog (law_sequenceFact.G N) := ⟨⟨sequence_Natural.enters, sequence_Natural.sound N⟩, ⟨sequence_Times.enters, sequence_Times.sound N⟩, ⟨sequence_Shift.enters, sequence_Shift.sound N⟩, ⟨sequence_Check.enters, sequence_Check.sound N⟩, ⟨slices_Equal_int.enters, slices_Equal_int.sound N⟩, ⟨q17_enters, bestS_sound⟩, ⟨f19_enters, Try.func19⟩, trivial⟩
theorem law_sequenceFact.enters : Enters Try.prog 5 := f5_enters
theorem law_sequenceFact.sound (N : Nat) : Sound Try.prog 5 (law_sequenceFact.S N) := evFn_sound (specs_tab (law_sequenceFact.tab N)) (inls_tab (law_sequenceFact.tab N)) mixed 4 Try.func5 _ _ _
theorem law_sequenceFact.eq (N : Nat) : law_sequenceFact.fn N () =
    (sequence_Natural.fn N [((⟨#[65]⟩ : ByteArray), (2, (10, 900))), ((⟨#[66]⟩ : ByteArray), (0, (0, 900)))]).bind fun r1 =>
    (sequence_Times.fn N ([((⟨#[65]⟩ : ByteArray), (2, (10, 900))), ((⟨#[66]⟩ : ByteArray), (0, (0, 900)))], [0, 1], [60, 60, 60, 60, 120, 60, 60, 60, 180, 120, 90, 60, 240, 180, 120, 120])).bind fun r2 =>
    (sequence_Shift.fn N ([((⟨#[65]⟩ : ByteArray), (2, (10, 900))), ((⟨#[66]⟩ : ByteArray), (0, (0, 900)))], [0, 1])).bind fun r3 =>
    bif r1.2 == 0 then
      bif r2.2 == 0 then
        bif r3.2 == 0 then
          (slices_Equal_int.fn N (r1.1, [1, 0])).bind fun r4 =>
          bif r4 then
            (slices_Equal_int.fn N (r2.1, [10, 190])).bind fun r5 =>
            bif r5 then
              bif r3.1 == 1 then
                (slices_Equal_int.fn N ([1, 0], [1, 0])).bind fun r6 =>
                bif r6 then
                  (slices_Equal_int.fn N ([0, 60], [0, 60])).bind fun r7 =>
                  bif r7 then
                    (sequence_Check.fn N [((⟨#[65]⟩ : ByteArray), (2, (10, 900))), ((⟨#[66]⟩ : ByteArray), (0, (0, 900))), ((⟨#[65]⟩ : ByteArray), (2, (10, 900))), ((⟨#[66]⟩ : ByteArray), (0, (0, 900)))]).bind fun r8 =>
                    some (r8 == 7)
                  else
                    some false
                else
                  some false
              else
                some false
            else
              some false
          else
            some false
        else
          some false
      else
        some false
    else
      some false := by kernel_rfl

/-! ### ref_IsName: skyway/skywayref3.IsName -/
def ref_IsName.kp : List (Nat × List (Nat × Option (TypeId × Ty))) := [(4, [(0, none), (3, none)])]
noncomputable def ref_IsName.G (N : Nat) : List (Nat × Spec) := []
noncomputable def ref_IsName.E (N : Nat) : Env := mkEnv (ref_IsName.G N) N tyTab ref_IsName.kp
noncomputable def ref_IsName.fn (N : Nat) (x : ByteArray) : Option Bool := evFn (ref_IsName.E N) Try.prog 3 Try.f25 false [.cell (.str)] [.val (.cell (.bool))] x
noncomputable def ref_IsName.S (N : Nat) : PSpec := ⟨false, [.cell (.str)], [.val (.cell (.bool))], ref_IsName.fn N⟩
theorem f25_enters : Enters Try.prog 25 := ⟨Try.f25, Try.func25, by kernel_rfl, by kernel_rfl⟩
theorem ref_IsName.tab (N : Nat) : TabOk Try.prog (ref_IsName.G N) := trivial
theorem ref_IsName.enters : Enters Try.prog 25 := f25_enters
theorem ref_IsName.sound (N : Nat) : Sound Try.prog 25 (ref_IsName.S N) := evFn_sound (specs_tab (ref_IsName.tab N)) (inls_tab (ref_IsName.tab N)) mixed 3 Try.func25 _ _ _
noncomputable def ref_IsName.cd (N : Nat) (p : List Nat) : St → (Ex → St → Option Bool) → Option Bool := ev (ref_IsName.E N) Try.prog (callD (ref_IsName.E N) Try.prog 3) 0 (codeAt (bodyOf Try.f25) p)
noncomputable def ref_IsName.fin : Ex → St → Option Bool := endK Try.prog Try.f25 [.val (.cell (.bool))]
noncomputable def ref_IsName.l0 (N : Nat) (x0 : ByteArray) (k1 : Nat) (a2 : Int) : Option Bool :=
  loopN (norm ((ref_IsName.E N).keep 4) 0) (ref_IsName.cd N [1, 1, 0, 1, 0, 0]) k1
  ⟨[.sc (.string x0), .any, .any, .sc (.int .i64 a2), .any, .any, .any, .any, .any, .any, .any, .any, .any, .any, .any, .any, .any, .any, .any, .any, .any, .any, .any, .any, .any, .any, .any, .any, .any, .any, .any, .any, .any, .any, .any, .any, .any, .any, .any, .any, .any, .any, .any, .any, .any], []⟩
  (blockK 0 (seqK (ref_IsName.cd N [1, 1, 1]) ref_IsName.fin))
theorem ref_IsName.l0_zero (N : Nat) (x0 : ByteArray) (a2 : Int) : ref_IsName.l0 N x0 0 a2 = none := by kernel_rfl
theorem ref_IsName.l0_succ (N : Nat) (x0 : ByteArray) (k1 : Nat) (a2 : Int) : ref_IsName.l0 N x0 (k1 + 1) a2 =
    bif decide (a2 < (x0.size : Int)) then
      bif (decide (0 ≤ a2)) && (decide (a2 < (x0.size : Int))) then
        bif !(!(decide (((((ByteArray.data x0).getD (Int.toNat a2) 0).toNat : Nat) : Int) < 65))) || (!(decide (((((ByteArray.data x0).getD (Int.toNat a2) 0).toNat : Nat) : Int) < 65))) then
          bif (decide (((((ByteArray.data x0).getD (Int.toNat a2) 0).toNat : Nat) : Int) < 65)) || (!(decide (((((ByteArray.data x0).getD (Int.toNat a2) 0).toNat : Nat) : Int) < 65))) then
            bif !((decide (((((ByteArray.data x0).getD (Int.toNat a2) 0).toNat : Nat) : Int) < 65)) || (decide (((((ByteArray.data x0).getD (Int.toNat a2) 0).toNat : Nat) : Int) > 90))) || ((decide (((((ByteArray.data x0).getD (Int.toNat a2) 0).toNat : Nat) : Int) < 65)) || (decide (((((ByteArray.data x0).getD (Int.toNat a2) 0).toNat : Nat) : Int) > 90))) then
              bif !((decide (((((ByteArray.data x0).getD (Int.toNat a2) 0).toNat : Nat) : Int) < 65)) || (decide (((((ByteArray.data x0).getD (Int.toNat a2) 0).toNat : Nat) : Int) > 90))) || ((decide (((((ByteArray.data x0).getD (Int.toNat a2) 0).toNat : Nat) : Int) < 65)) || (decide (((((ByteArray.data x0).getD (Int.toNat a2) 0).toNat : Nat) : Int) > 90))) then
                bif !(((decide (((((ByteArray.data x0).getD (Int.toNat a2) 0).toNat : Nat) : Int) < 65)) || (decide (((((ByteArray.data x0).getD (Int.toNat a2) 0).toNat : Nat) : Int) > 90))) && (!(decide (((((ByteArray.data x0).getD (Int.toNat a2) 0).toNat : Nat) : Int) < 48)))) || (((decide (((((ByteArray.data x0).getD (Int.toNat a2) 0).toNat : Nat) : Int) < 65)) || (decide (((((ByteArray.data x0).getD (Int.toNat a2) 0).toNat : Nat) : Int) > 90))) && (!(decide (((((ByteArray.data x0).getD (Int.toNat a2) 0).toNat : Nat) : Int) < 48)))) then
                  bif !((decide (((((ByteArray.data x0).getD (Int.toNat a2) 0).toNat : Nat) : Int) < 65)) || (decide (((((ByteArray.data x0).getD (Int.toNat a2) 0).toNat : Nat) : Int) > 90))) || ((decide (((((ByteArray.data x0).getD (Int.toNat a2) 0).toNat : Nat) : Int) < 65)) || (decide (((((ByteArray.data x0).getD (Int.toNat a2) 0).toNat : Nat) : Int) > 90))) then
                    bif !((decide (((((ByteArray.data x0).getD (Int.toNat a2) 0).toNat : Nat) : Int) < 65)) || (decide (((((ByteArray.data x0).getD (Int.toNat a2) 0).toNat : Nat) : Int) > 90))) || ((decide (((((ByteArray.data x0).getD (Int.toNat a2) 0).toNat : Nat) : Int) < 48)) || (((decide (((((ByteArray.data x0).getD (Int.toNat a2) 0).toNat : Nat) : Int) < 65)) || (decide (((((ByteArray.data x0).getD (Int.toNat a2) 0).toNat : Nat) : Int) > 90))) && (!(decide (((((ByteArray.data x0).getD (Int.toNat a2) 0).toNat : Nat) : Int) < 48))))) then
                      bif (!((decide (((((ByteArray.data x0).getD (Int.toNat a2) 0).toNat : Nat) : Int) < 65)) || (decide (((((ByteArray.data x0).getD (Int.toNat a2) 0).toNat : Nat) : Int) > 90)))) || ((decide (((((ByteArray.data x0).getD (Int.toNat a2) 0).toNat : Nat) : Int) < 65)) || (decide (((((ByteArray.data x0).getD (Int.toNat a2) 0).toNat : Nat) : Int) > 90))) then
                        bif ((decide (((((ByteArray.data x0).getD (Int.toNat a2) 0).toNat : Nat) : Int) < 65)) || (decide (((((ByteArray.data x0).getD (Int.toNat a2) 0).toNat : Nat) : Int) > 90))) && ((decide (((((ByteArray.data x0).getD (Int.toNat a2) 0).toNat : Nat) : Int) < 48)) || (decide (((((ByteArray.data x0).getD (Int.toNat a2) 0).toNat : Nat) : Int) > 57))) then
                          some false
                        else
                          ref_IsName.l0 N x0 k1 (w (a2 + 1))
                      else
                        none
                    else
                      none
                  else
                    none
                else
                  none
              else
                none
            else
              none
          else
            none
        else
          none
      else
        none
    else
      some true := by kernel_rfl
theorem ref_IsName.l0_clean (N : Nat) (x0 : ByteArray) (k1 : Nat) (a2 : Int) : ref_IsName.l0 N x0 (k1 + 1) a2 =
    bif decide (a2 < (x0.size : Int)) then
      bif (decide (0 ≤ a2)) && (decide (a2 < (x0.size : Int))) then
        bif ((decide (((((ByteArray.data x0).getD (Int.toNat a2) 0).toNat : Nat) : Int) < 65)) || (decide (((((ByteArray.data x0).getD (Int.toNat a2) 0).toNat : Nat) : Int) > 90))) && ((decide (((((ByteArray.data x0).getD (Int.toNat a2) 0).toNat : Nat) : Int) < 48)) || (decide (((((ByteArray.data x0).getD (Int.toNat a2) 0).toNat : Nat) : Int) > 57))) then
          some false
        else
          ref_IsName.l0 N x0 k1 (w (a2 + 1))
      else
        none
    else
      some true := by
  rw [ref_IsName.l0_succ]; simp only [taut1, taut2, taut3, taut4, taut5, taut6, cond_true]
theorem ref_IsName.l0_cons (N : Nat) (x0 : ByteArray) (k1 : Nat) {pre r} {x} (hl : x0.data.toList = pre ++ x :: r) (hb : x0.size < 4611686018427387904) : ref_IsName.l0 N x0 (k1 + 1) (pre.length : Int) =
    bif ((decide (((x.toNat : Nat) : Int) < 65)) || (decide (((x.toNat : Nat) : Int) > 90))) && ((decide (((x.toNat : Nat) : Int) < 48)) || (decide (((x.toNat : Nat) : Int) > 57))) then
      some false
    else
      ref_IsName.l0 N x0 k1 ((pre.length : Int) + 1) := by
  have hlen : x0.size = pre.length + 1 + r.length := by rw [ByteArray.size, ← Array.length_toList, hl]; simp; omega
  have e1 : decide ((pre.length : Int) < (x0.size : Int)) = true := by rw [decide_eq_true_iff]; omega
  have e2 : decide (0 ≤ (pre.length : Int)) = true := by rw [decide_eq_true_iff]; omega
  have e4 : w ((pre.length : Int) + 1) = (pre.length : Int) + 1 := w_next hl (by rw [Array.length_toList]; exact hb)
  have e6 : decide ((pre.length : Int) ≤ (x0.size : Int)) = true := by rw [decide_eq_true_iff]; omega
  have g0 : (ByteArray.data x0).getD pre.length 0 = x := getD_bytes hl
  rw [ref_IsName.l0_clean]
  simp -implicitDefEqProofs only [Int.toNat_natCast, e1, e2, e4, e6, g0, Bool.and_true, Bool.true_and, Bool.true_or, cond_true]
theorem ref_IsName.l0_nil (N : Nat) (x0 : ByteArray) (k1 : Nat) : ref_IsName.l0 N x0 (k1 + 1) (x0.size : Int) =
    some true := by
  have e1 : decide ((x0.size : Int) < (x0.size : Int)) = false := by rw [decide_eq_false_iff_not]; omega
  rw [ref_IsName.l0_clean]
  simp -implicitDefEqProofs only [e1, cond_false]
theorem ref_IsName.eq (N : Nat) (x0 : ByteArray) : ref_IsName.fn N x0 =
    bif !(!(seq x0 (⟨#[]⟩ : ByteArray))) || (!(seq x0 (⟨#[]⟩ : ByteArray))) then
      bif !(!(seq x0 (⟨#[]⟩ : ByteArray))) || (!(seq x0 (⟨#[]⟩ : ByteArray))) then
        bif (seq x0 (⟨#[]⟩ : ByteArray)) || (!(seq x0 (⟨#[]⟩ : ByteArray))) then
          bif !(!((seq x0 (⟨#[]⟩ : ByteArray)) || (decide ((x0.size : Int) > 8)))) || (!((seq x0 (⟨#[]⟩ : ByteArray)) || (decide ((x0.size : Int) > 8)))) then
            bif (decide (0 < (x0.size : Int))) || !(!((seq x0 (⟨#[]⟩ : ByteArray)) || (decide ((x0.size : Int) > 8)))) then
              bif !(!((seq x0 (⟨#[]⟩ : ByteArray)) || (decide ((x0.size : Int) > 8)))) || (!((seq x0 (⟨#[]⟩ : ByteArray)) || (decide ((x0.size : Int) > 8)))) then
                bif !(!((seq x0 (⟨#[]⟩ : ByteArray)) || (decide ((x0.size : Int) > 8)))) || (!((seq x0 (⟨#[]⟩ : ByteArray)) || (decide ((x0.size : Int) > 8)))) then
                  bif !((!((seq x0 (⟨#[]⟩ : ByteArray)) || (decide ((x0.size : Int) > 8)))) && (decide (((((ByteArray.data x0).getD 0 0).toNat : Nat) : Int) ≥ 48))) || ((!((seq x0 (⟨#[]⟩ : ByteArray)) || (decide ((x0.size : Int) > 8)))) && (decide (((((ByteArray.data x0).getD 0 0).toNat : Nat) : Int) ≥ 48))) then
                    bif (decide (0 < (x0.size : Int))) || !((!((seq x0 (⟨#[]⟩ : ByteArray)) || (decide ((x0.size : Int) > 8)))) && (decide (((((ByteArray.data x0).getD 0 0).toNat : Nat) : Int) ≥ 48))) then
                      bif !((!((seq x0 (⟨#[]⟩ : ByteArray)) || (decide ((x0.size : Int) > 8)))) && (decide (((((ByteArray.data x0).getD 0 0).toNat : Nat) : Int) ≥ 48))) || ((!((seq x0 (⟨#[]⟩ : ByteArray)) || (decide ((x0.size : Int) > 8)))) && (decide (((((ByteArray.data x0).getD 0 0).toNat : Nat) : Int) ≥ 48))) then
                        bif !(!((seq x0 (⟨#[]⟩ : ByteArray)) || (decide ((x0.size : Int) > 8)))) || (!((seq x0 (⟨#[]⟩ : ByteArray)) || (decide ((x0.size : Int) > 8)))) then
                          bif !(!((seq x0 (⟨#[]⟩ : ByteArray)) || (decide ((x0.size : Int) > 8)))) || ((!(decide (((((ByteArray.data x0).getD 0 0).toNat : Nat) : Int) ≥ 48))) || ((!((seq x0 (⟨#[]⟩ : ByteArray)) || (decide ((x0.size : Int) > 8)))) && (decide (((((ByteArray.data x0).getD 0 0).toNat : Nat) : Int) ≥ 48)))) then
                            bif ((seq x0 (⟨#[]⟩ : ByteArray)) || (decide ((x0.size : Int) > 8))) || (!((seq x0 (⟨#[]⟩ : ByteArray)) || (decide ((x0.size : Int) > 8)))) then
                              bif ((seq x0 (⟨#[]⟩ : ByteArray)) || (decide ((x0.size : Int) > 8))) || ((decide (((((ByteArray.data x0).getD 0 0).toNat : Nat) : Int) ≥ 48)) && (decide (((((ByteArray.data x0).getD 0 0).toNat : Nat) : Int) ≤ 57))) then
                                some false
                              else
                                ref_IsName.l0 N x0 N 0
                            else
                              none
                          else
                            none
                        else
                          none
                      else
                        none
                    else
                      none
                  else
                    none
                else
                  none
              else
                none
            else
              none
          else
            none
        else
          none
      else
        none
    else
      none := by kernel_rfl
theorem taut11 : ∀ p0 p1 p2 : Bool, ((!(!((p0) || (p1))) || ((!(p2)) || ((!((p0) || (p1))) && (p2))))) = true := by decide
theorem taut12 : ∀ p0 p1 p2 : Bool, ((!((!((p0) || (p1))) && (p2)) || ((!((p0) || (p1))) && (p2)))) = true := by decide
theorem ref_IsName.clean (N : Nat) (x0 : ByteArray) : ref_IsName.fn N x0 =
    bif (decide (0 < (x0.size : Int))) || !(!((seq x0 (⟨#[]⟩ : ByteArray)) || (decide ((x0.size : Int) > 8)))) then
      bif (decide (0 < (x0.size : Int))) || !((!((seq x0 (⟨#[]⟩ : ByteArray)) || (decide ((x0.size : Int) > 8)))) && (decide (((((ByteArray.data x0).getD 0 0).toNat : Nat) : Int) ≥ 48))) then
        bif ((seq x0 (⟨#[]⟩ : ByteArray)) || (decide ((x0.size : Int) > 8))) || ((decide (((((ByteArray.data x0).getD 0 0).toNat : Nat) : Int) ≥ 48)) && (decide (((((ByteArray.data x0).getD 0 0).toNat : Nat) : Int) ≤ 57))) then
          some false
        else
          ref_IsName.l0 N x0 N 0
      else
        none
    else
      none := by
  rw [ref_IsName.eq]; simp only [taut8, taut11, taut1, taut12, taut10, taut6, cond_true]

/-! ### ref_ArrivalsError: skyway/skywayref3.ArrivalsError -/
def ref_ArrivalsError.kp : List (Nat × List (Nat × Option (TypeId × Ty))) := [(4, [(0, none), (9, none), (10, none), (11, none)]), (13, [(0, none), (3, none), (4, none), (5, none), (9, none), (10, none), (11, none)])]
noncomputable def ref_ArrivalsError.G (N : Nat) : List (Nat × Spec) := [(25, .pure (ref_IsName.S N))]
noncomputable def ref_ArrivalsError.E (N : Nat) : Env := mkEnv (ref_ArrivalsError.G N) N tyTab ref_ArrivalsError.kp
noncomputable def ref_ArrivalsError.fn (N : Nat) (x : List (ByteArray × Int × Int × Int)) : Option Int := evFn (ref_ArrivalsError.E N) Try.prog 3 Try.f9 false [.cell (.sl 48 (.pair (.str) (.pair (.int .i64) (.pair (.int .i64) (.int .i64)))))] [.val (.cell (.int .i64))] x
noncomputable def ref_ArrivalsError.S (N : Nat) : PSpec := ⟨false, [.cell (.sl 48 (.pair (.str) (.pair (.int .i64) (.pair (.int .i64) (.int .i64)))))], [.val (.cell (.int .i64))], ref_ArrivalsError.fn N⟩
theorem f9_enters : Enters Try.prog 9 := ⟨Try.f9, Try.func9, by kernel_rfl, by kernel_rfl⟩
theorem ref_ArrivalsError.tab (N : Nat) : TabOk Try.prog (ref_ArrivalsError.G N) := ⟨⟨ref_IsName.enters, ref_IsName.sound N⟩, trivial⟩
theorem ref_ArrivalsError.enters : Enters Try.prog 9 := f9_enters
theorem ref_ArrivalsError.sound (N : Nat) : Sound Try.prog 9 (ref_ArrivalsError.S N) := evFn_sound (specs_tab (ref_ArrivalsError.tab N)) (inls_tab (ref_ArrivalsError.tab N)) mixed 3 Try.func9 _ _ _
noncomputable def ref_ArrivalsError.cd (N : Nat) (p : List Nat) : St → (Ex → St → Option Int) → Option Int := ev (ref_ArrivalsError.E N) Try.prog (callD (ref_ArrivalsError.E N) Try.prog 3) 0 (codeAt (bodyOf Try.f9) p)
noncomputable def ref_ArrivalsError.fin : Ex → St → Option Int := endK Try.prog Try.f9 [.val (.cell (.int .i64))]
noncomputable def ref_ArrivalsError.l0 (N : Nat) (x0 : List (ByteArray × Int × Int × Int)) (k1 : Nat) (a2 : Int) : Option Int :=
  loopN (norm ((ref_ArrivalsError.E N).keep 4) 0) (ref_ArrivalsError.cd N [1, 1, 0, 1, 0, 0]) k1
  ⟨[.ros false 48 (.pair (.str) (.pair (.int .i64) (.pair (.int .i64) (.int .i64)))) x0, .any, .any, .any, .any, .any, .any, .any, .any, .ros false 48 (.pair (.str) (.pair (.int .i64) (.pair (.int .i64) (.int .i64)))) x0, .sc (.int .i64 (x0.length : Int)), .sc (.int .i64 a2), .any, .any, .any, .any, .any, .any, .any, .any, .any, .any, .any, .any, .any, .any, .any, .any, .any, .any, .any, .any, .any, .any, .any, .any, .any, .any, .any, .any, .any, .any, .any, .any, .any, .any, .any, .any, .any, .any, .any, .any, .any, .any, .any, .any, .any], []⟩
  (blockK 0 (seqK (ref_ArrivalsError.cd N [1, 1, 1]) ref_ArrivalsError.fin))
noncomputable def ref_ArrivalsError.l1 (N : Nat) (x0 : List (ByteArray × Int × Int × Int)) (k1 : Nat) (a2 : Int) (k4 : Nat) (a5 : Int) : Option Int :=
  loopN (norm ((ref_ArrivalsError.E N).keep 13) 0) (ref_ArrivalsError.cd N [1, 1, 0, 1, 0, 0, 1, 1, 0, 0, 1, 1, 1, 1, 1, 0, 0]) k4
  ⟨[.ros false 48 (.pair (.str) (.pair (.int .i64) (.pair (.int .i64) (.int .i64)))) x0, .any, .any, .sc (.int .i64 a2), .ptr 0 0, .sc (.int .i64 a5), .any, .any, .any, .ros false 48 (.pair (.str) (.pair (.int .i64) (.pair (.int .i64) (.int .i64)))) x0, .sc (.int .i64 (x0.length : Int)), .sc (.int .i64 a2), .any, .any, .any, .any, .any, .any, .any, .any, .any, .any, .any, .any, .any, .any, .any, .any, .any, .any, .any, .any, .any, .any, .any, .any, .any, .any, .any, .any, .any, .any, .any, .any, .any, .any, .any, .any, .any, .any, .any, .any, .any, .any, .any, .any, .any], [.cells [.sc (.string ((List.getD x0 (Int.toNat a2) ((⟨#[]⟩ : ByteArray), (0, (0, 0)))).1)), .sc (.int .i64 (((List.getD x0 (Int.toNat a2) ((⟨#[]⟩ : ByteArray), (0, (0, 0)))).2).1)), .sc (.int .i64 ((((List.getD x0 (Int.toNat a2) ((⟨#[]⟩ : ByteArray), (0, (0, 0)))).2).2).1)), .sc (.int .i64 ((((List.getD x0 (Int.toNat a2) ((⟨#[]⟩ : ByteArray), (0, (0, 0)))).2).2).2))] 48]⟩
  (blockK 2 (blockK 1 (seqK (ref_ArrivalsError.cd N [1, 1, 0, 1, 0, 0, 1, 1, 1]) (loopK (norm ((ref_ArrivalsError.E N).keep 4) 0) (ref_ArrivalsError.cd N [1, 1, 0, 1, 0, 0]) k1 (blockK 0 (seqK (ref_ArrivalsError.cd N [1, 1, 1]) ref_ArrivalsError.fin))))))
theorem ref_ArrivalsError.l1_zero (N : Nat) (x0 : List (ByteArray × Int × Int × Int)) (k1 : Nat) (a2 : Int) (a5 : Int) : ref_ArrivalsError.l1 N x0 k1 a2 0 a5 = none := by kernel_rfl
theorem ref_ArrivalsError.l1_succ (N : Nat) (x0 : List (ByteArray × Int × Int × Int)) (k1 : Nat) (a2 : Int) (k4 : Nat) (a5 : Int) : ref_ArrivalsError.l1 N x0 k1 a2 (k4 + 1) a5 =
    bif decide (a5 < a2) then
      bif (decide (0 ≤ a5)) && (decide (a5 < (x0.length : Int))) then
        bif seq ((List.getD x0 (Int.toNat a5) ((⟨#[]⟩ : ByteArray), (0, (0, 0)))).1) ((List.getD x0 (Int.toNat a2) ((⟨#[]⟩ : ByteArray), (0, (0, 0)))).1) then
          some 7
        else
          ref_ArrivalsError.l1 N x0 k1 a2 k4 (w (a5 + 1))
      else
        none
    else
      ref_ArrivalsError.l0 N x0 k1 (w (a2 + 1)) := by kernel_rfl
theorem ref_ArrivalsError.l0_zero (N : Nat) (x0 : List (ByteArray × Int × Int × Int)) (a2 : Int) : ref_ArrivalsError.l0 N x0 0 a2 = none := by kernel_rfl
theorem ref_ArrivalsError.l0_succ (N : Nat) (x0 : List (ByteArray × Int × Int × Int)) (k1 : Nat) (a2 : Int) : ref_ArrivalsError.l0 N x0 (k1 + 1) a2 =
    bif decide (a2 < (x0.length : Int)) then
      bif (decide (0 ≤ a2)) && (decide (a2 < (x0.length : Int))) then
        (ref_IsName.fn N ((List.getD x0 (Int.toNat a2) ((⟨#[]⟩ : ByteArray), (0, (0, 0)))).1)).bind fun r3 =>
        bif !r3 then
          some 3
        else
        bif !(!(decide ((((List.getD x0 (Int.toNat a2) ((⟨#[]⟩ : ByteArray), (0, (0, 0)))).2).1) < 0))) || (!(decide ((((List.getD x0 (Int.toNat a2) ((⟨#[]⟩ : ByteArray), (0, (0, 0)))).2).1) < 0))) then
          bif !(!(decide ((((List.getD x0 (Int.toNat a2) ((⟨#[]⟩ : ByteArray), (0, (0, 0)))).2).1) < 0))) || (!(decide ((((List.getD x0 (Int.toNat a2) ((⟨#[]⟩ : ByteArray), (0, (0, 0)))).2).1) < 0))) then
            bif (decide ((((List.getD x0 (Int.toNat a2) ((⟨#[]⟩ : ByteArray), (0, (0, 0)))).2).1) < 0)) || (!(decide ((((List.getD x0 (Int.toNat a2) ((⟨#[]⟩ : ByteArray), (0, (0, 0)))).2).1) < 0))) then
              bif (decide ((((List.getD x0 (Int.toNat a2) ((⟨#[]⟩ : ByteArray), (0, (0, 0)))).2).1) < 0)) || (decide ((((List.getD x0 (Int.toNat a2) ((⟨#[]⟩ : ByteArray), (0, (0, 0)))).2).1) > 3)) then
                some 1
              else
              bif !(!(decide (((((List.getD x0 (Int.toNat a2) ((⟨#[]⟩ : ByteArray), (0, (0, 0)))).2).2).1) < 0))) || (!(decide (((((List.getD x0 (Int.toNat a2) ((⟨#[]⟩ : ByteArray), (0, (0, 0)))).2).2).1) < 0))) then
                bif !(!(decide (((((List.getD x0 (Int.toNat a2) ((⟨#[]⟩ : ByteArray), (0, (0, 0)))).2).2).1) < 0))) || (!(decide (((((List.getD x0 (Int.toNat a2) ((⟨#[]⟩ : ByteArray), (0, (0, 0)))).2).2).1) < 0))) then
                  bif !(!(decide (((((List.getD x0 (Int.toNat a2) ((⟨#[]⟩ : ByteArray), (0, (0, 0)))).2).2).1) < 0))) || (!(decide (((((List.getD x0 (Int.toNat a2) ((⟨#[]⟩ : ByteArray), (0, (0, 0)))).2).2).1) < 0))) then
                    bif !(!(decide (((((List.getD x0 (Int.toNat a2) ((⟨#[]⟩ : ByteArray), (0, (0, 0)))).2).2).1) < 0))) || (!(decide (((((List.getD x0 (Int.toNat a2) ((⟨#[]⟩ : ByteArray), (0, (0, 0)))).2).2).1) < 0))) then
                      bif (decide (((((List.getD x0 (Int.toNat a2) ((⟨#[]⟩ : ByteArray), (0, (0, 0)))).2).2).1) < 0)) || (!(decide (((((List.getD x0 (Int.toNat a2) ((⟨#[]⟩ : ByteArray), (0, (0, 0)))).2).2).1) < 0))) then
                        bif !(!((decide (((((List.getD x0 (Int.toNat a2) ((⟨#[]⟩ : ByteArray), (0, (0, 0)))).2).2).1) < 0)) || (decide (((((List.getD x0 (Int.toNat a2) ((⟨#[]⟩ : ByteArray), (0, (0, 0)))).2).2).1) > ((((List.getD x0 (Int.toNat a2) ((⟨#[]⟩ : ByteArray), (0, (0, 0)))).2).2).2))))) || (!((decide (((((List.getD x0 (Int.toNat a2) ((⟨#[]⟩ : ByteArray), (0, (0, 0)))).2).2).1) < 0)) || (decide (((((List.getD x0 (Int.toNat a2) ((⟨#[]⟩ : ByteArray), (0, (0, 0)))).2).2).1) > ((((List.getD x0 (Int.toNat a2) ((⟨#[]⟩ : ByteArray), (0, (0, 0)))).2).2).2))))) then
                          bif !(!((decide (((((List.getD x0 (Int.toNat a2) ((⟨#[]⟩ : ByteArray), (0, (0, 0)))).2).2).1) < 0)) || (decide (((((List.getD x0 (Int.toNat a2) ((⟨#[]⟩ : ByteArray), (0, (0, 0)))).2).2).1) > ((((List.getD x0 (Int.toNat a2) ((⟨#[]⟩ : ByteArray), (0, (0, 0)))).2).2).2))))) || (!((decide (((((List.getD x0 (Int.toNat a2) ((⟨#[]⟩ : ByteArray), (0, (0, 0)))).2).2).1) < 0)) || (decide (((((List.getD x0 (Int.toNat a2) ((⟨#[]⟩ : ByteArray), (0, (0, 0)))).2).2).1) > ((((List.getD x0 (Int.toNat a2) ((⟨#[]⟩ : ByteArray), (0, (0, 0)))).2).2).2))))) then
                            bif ((decide (((((List.getD x0 (Int.toNat a2) ((⟨#[]⟩ : ByteArray), (0, (0, 0)))).2).2).1) < 0)) || (decide (((((List.getD x0 (Int.toNat a2) ((⟨#[]⟩ : ByteArray), (0, (0, 0)))).2).2).1) > ((((List.getD x0 (Int.toNat a2) ((⟨#[]⟩ : ByteArray), (0, (0, 0)))).2).2).2)))) || (!((decide (((((List.getD x0 (Int.toNat a2) ((⟨#[]⟩ : ByteArray), (0, (0, 0)))).2).2).1) < 0)) || (decide (((((List.getD x0 (Int.toNat a2) ((⟨#[]⟩ : ByteArray), (0, (0, 0)))).2).2).1) > ((((List.getD x0 (Int.toNat a2) ((⟨#[]⟩ : ByteArray), (0, (0, 0)))).2).2).2))))) then
                              bif ((decide (((((List.getD x0 (Int.toNat a2) ((⟨#[]⟩ : ByteArray), (0, (0, 0)))).2).2).1) < 0)) || (decide (((((List.getD x0 (Int.toNat a2) ((⟨#[]⟩ : ByteArray), (0, (0, 0)))).2).2).1) > ((((List.getD x0 (Int.toNat a2) ((⟨#[]⟩ : ByteArray), (0, (0, 0)))).2).2).2)))) || (decide (((((List.getD x0 (Int.toNat a2) ((⟨#[]⟩ : ByteArray), (0, (0, 0)))).2).2).2) > 200000)) then
                                some 12
                              else
                                ref_ArrivalsError.l1 N x0 k1 a2 N 0
                            else
                              none
                          else
                            none
                        else
                          none
                      else
                        none
                    else
                      none
                  else
                    none
                else
                  none
              else
                none
            else
              none
          else
            none
        else
          none
      else
        none
    else
      some 0 := by kernel_rfl
theorem ref_ArrivalsError.l0_clean (N : Nat) (x0 : List (ByteArray × Int × Int × Int)) (k1 : Nat) (a2 : Int) : ref_ArrivalsError.l0 N x0 (k1 + 1) a2 =
    bif decide (a2 < (x0.length : Int)) then
      bif (decide (0 ≤ a2)) && (decide (a2 < (x0.length : Int))) then
        (ref_IsName.fn N ((List.getD x0 (Int.toNat a2) ((⟨#[]⟩ : ByteArray), (0, (0, 0)))).1)).bind fun r3 =>
        bif !r3 then
          some 3
        else
        bif (decide ((((List.getD x0 (Int.toNat a2) ((⟨#[]⟩ : ByteArray), (0, (0, 0)))).2).1) < 0)) || (decide ((((List.getD x0 (Int.toNat a2) ((⟨#[]⟩ : ByteArray), (0, (0, 0)))).2).1) > 3)) then
          some 1
        else
        bif ((decide (((((List.getD x0 (Int.toNat a2) ((⟨#[]⟩ : ByteArray), (0, (0, 0)))).2).2).1) < 0)) || (decide (((((List.getD x0 (Int.toNat a2) ((⟨#[]⟩ : ByteArray), (0, (0, 0)))).2).2).1) > ((((List.getD x0 (Int.toNat a2) ((⟨#[]⟩ : ByteArray), (0, (0, 0)))).2).2).2)))) || (decide (((((List.getD x0 (Int.toNat a2) ((⟨#[]⟩ : ByteArray), (0, (0, 0)))).2).2).2) > 200000)) then
          some 12
        else
          ref_ArrivalsError.l1 N x0 k1 a2 N 0
      else
        none
    else
      some 0 := by
  rw [ref_ArrivalsError.l0_succ]; simp only [taut8, taut1, taut10, taut6, cond_true]
theorem ref_ArrivalsError.l0_cons (N : Nat) (x0 : List (ByteArray × Int × Int × Int)) (k1 : Nat) {pre r} {x} (hl : x0 = pre ++ x :: r) (hb : x0.length < 4611686018427387904) : ref_ArrivalsError.l0 N x0 (k1 + 1) (pre.length : Int) =
    (ref_IsName.fn N (x.1)).bind fun r3 =>
    bif !r3 then
      some 3
    else
    bif (decide (((x.2).1) < 0)) || (decide (((x.2).1) > 3)) then
      some 1
    else
    bif ((decide ((((x.2).2).1) < 0)) || (decide ((((x.2).2).1) > (((x.2).2).2)))) || (decide ((((x.2).2).2) > 200000)) then
      some 12
    else
      ref_ArrivalsError.l1 N x0 k1 (pre.length : Int) N 0 := by
  have hlen : x0.length = pre.length + 1 + r.length := by rw [hl]; simp; omega
  have e1 : decide ((pre.length : Int) < (x0.length : Int)) = true := by rw [decide_eq_true_iff]; omega
  have e2 : decide (0 ≤ (pre.length : Int)) = true := by rw [decide_eq_true_iff]; omega
  have e4 : w ((pre.length : Int) + 1) = (pre.length : Int) + 1 := w_next hl hb
  have e5 : List.take pre.length x0 = pre := by rw [hl]; simp
  have e6 : decide ((pre.length : Int) ≤ (x0.length : Int)) = true := by rw [decide_eq_true_iff]; omega
  have g0 : List.getD x0 pre.length ((⟨#[]⟩ : ByteArray), (0, (0, 0))) = x := by rw [hl]; exact getD_mid pre x r _
  rw [ref_ArrivalsError.l0_clean]
  simp -implicitDefEqProofs only [Int.toNat_natCast, e1, e2, e4, e6, g0, e5, Bool.and_true, Bool.true_and, Bool.true_or, cond_true]
theorem ref_ArrivalsError.l0_nil (N : Nat) (x0 : List (ByteArray × Int × Int × Int)) (k1 : Nat) : ref_ArrivalsError.l0 N x0 (k1 + 1) (x0.length : Int) =
    some 0 := by
  have e1 : decide ((x0.length : Int) < (x0.length : Int)) = false := by rw [decide_eq_false_iff_not]; omega
  rw [ref_ArrivalsError.l0_clean]
  simp -implicitDefEqProofs only [e1, cond_false]
theorem ref_ArrivalsError.eq (N : Nat) (x0 : List (ByteArray × Int × Int × Int)) : ref_ArrivalsError.fn N x0 =
    bif decide ((x0.length : Int) > 8) then
      some 2
    else
      ref_ArrivalsError.l0 N x0 N 0 := by kernel_rfl

/-! ### ref_Place: skyway/skywayref3.Place -/
def ref_Place.kp : List (Nat × List (Nat × Option (TypeId × Ty))) := [(3, [(0, none), (1, none), (5, none), (8, none), (9, none), (10, none)])]
noncomputable def ref_Place.G (N : Nat) : List (Nat × Spec) := []
noncomputable def ref_Place.E (N : Nat) : Env := mkEnv (ref_Place.G N) N tyTab ref_Place.kp
noncomputable def ref_Place.fn (N : Nat) (x : List (ByteArray × Int × Int × Int) × Int) : Option Int := evFn (ref_Place.E N) Try.prog 3 Try.f11 false [.cell (.sl 48 (.pair (.str) (.pair (.int .i64) (.pair (.int .i64) (.int .i64))))), .cell (.int .i64)] [.val (.cell (.int .i64))] x
noncomputable def ref_Place.S (N : Nat) : PSpec := ⟨false, [.cell (.sl 48 (.pair (.str) (.pair (.int .i64) (.pair (.int .i64) (.int .i64))))), .cell (.int .i64)], [.val (.cell (.int .i64))], ref_Place.fn N⟩
theorem f11_enters : Enters Try.prog 11 := ⟨Try.f11, Try.func11, by kernel_rfl, by kernel_rfl⟩
theorem ref_Place.tab (N : Nat) : TabOk Try.prog (ref_Place.G N) := trivial
theorem ref_Place.enters : Enters Try.prog 11 := f11_enters
theorem ref_Place.sound (N : Nat) : Sound Try.prog 11 (ref_Place.S N) := evFn_sound (specs_tab (ref_Place.tab N)) (inls_tab (ref_Place.tab N)) mixed 3 Try.func11 _ _ _
noncomputable def ref_Place.cd (N : Nat) (p : List Nat) : St → (Ex → St → Option Int) → Option Int := ev (ref_Place.E N) Try.prog (callD (ref_Place.E N) Try.prog 3) 0 (codeAt (bodyOf Try.f11) p)
noncomputable def ref_Place.fin : Ex → St → Option Int := endK Try.prog Try.f11 [.val (.cell (.int .i64))]
noncomputable def ref_Place.l0 (N : Nat) (x0 : List (ByteArray × Int × Int × Int)) (x1 : Int) (k1 : Nat) (a2 : Int) (a3 : Int) : Option Int :=
  loopN (norm ((ref_Place.E N).keep 3) 0) (ref_Place.cd N [1, 1, 0, 1, 0, 0]) k1
  ⟨[.ros false 48 (.pair (.str) (.pair (.int .i64) (.pair (.int .i64) (.int .i64)))) x0, .sc (.int .i64 x1), .any, .any, .any, .sc (.int .i64 a2), .any, .any, .ros false 48 (.pair (.str) (.pair (.int .i64) (.pair (.int .i64) (.int .i64)))) x0, .sc (.int .i64 (x0.length : Int)), .sc (.int .i64 a3), .any, .any, .any, .any, .any, .any, .any, .any, .any, .any, .any, .any, .any, .any, .any, .any, .any, .any, .any, .any, .any, .any, .any, .any, .any, .any, .any, .any, .any, .any, .any, .any, .any, .any, .any], []⟩
  (blockK 0 (seqK (ref_Place.cd N [1, 1, 1]) ref_Place.fin))
theorem ref_Place.l0_zero (N : Nat) (x0 : List (ByteArray × Int × Int × Int)) (x1 : Int) (a2 : Int) (a3 : Int) : ref_Place.l0 N x0 x1 0 a2 a3 = none := by kernel_rfl
theorem ref_Place.l0_succ (N : Nat) (x0 : List (ByteArray × Int × Int × Int)) (x1 : Int) (k1 : Nat) (a2 : Int) (a3 : Int) : ref_Place.l0 N x0 x1 (k1 + 1) a2 a3 =
    bif decide (a3 < (x0.length : Int)) then
      bif (decide (0 ≤ a3)) && (decide (a3 < (x0.length : Int))) then
        bif (decide (0 ≤ x1)) && (decide (x1 < (x0.length : Int))) then
          bif !(!(decide (((((List.getD x0 (Int.toNat a3) ((⟨#[]⟩ : ByteArray), (0, (0, 0)))).2).2).1) < ((((List.getD x0 (Int.toNat x1) ((⟨#[]⟩ : ByteArray), (0, (0, 0)))).2).2).1)))) || (!(decide (((((List.getD x0 (Int.toNat a3) ((⟨#[]⟩ : ByteArray), (0, (0, 0)))).2).2).1) < ((((List.getD x0 (Int.toNat x1) ((⟨#[]⟩ : ByteArray), (0, (0, 0)))).2).2).1)))) then
            bif !(!(decide (((((List.getD x0 (Int.toNat a3) ((⟨#[]⟩ : ByteArray), (0, (0, 0)))).2).2).1) < ((((List.getD x0 (Int.toNat x1) ((⟨#[]⟩ : ByteArray), (0, (0, 0)))).2).2).1)))) || (!(decide (((((List.getD x0 (Int.toNat a3) ((⟨#[]⟩ : ByteArray), (0, (0, 0)))).2).2).1) < ((((List.getD x0 (Int.toNat x1) ((⟨#[]⟩ : ByteArray), (0, (0, 0)))).2).2).1)))) then
              bif !(!(decide (((((List.getD x0 (Int.toNat a3) ((⟨#[]⟩ : ByteArray), (0, (0, 0)))).2).2).1) < ((((List.getD x0 (Int.toNat x1) ((⟨#[]⟩ : ByteArray), (0, (0, 0)))).2).2).1)))) || (!(decide (((((List.getD x0 (Int.toNat a3) ((⟨#[]⟩ : ByteArray), (0, (0, 0)))).2).2).1) < ((((List.getD x0 (Int.toNat x1) ((⟨#[]⟩ : ByteArray), (0, (0, 0)))).2).2).1)))) then
                bif ((decide (0 ≤ x1)) && (decide (x1 < (x0.length : Int)))) || !(!(decide (((((List.getD x0 (Int.toNat a3) ((⟨#[]⟩ : ByteArray), (0, (0, 0)))).2).2).1) < ((((List.getD x0 (Int.toNat x1) ((⟨#[]⟩ : ByteArray), (0, (0, 0)))).2).2).1)))) then
                  bif !(!(decide (((((List.getD x0 (Int.toNat a3) ((⟨#[]⟩ : ByteArray), (0, (0, 0)))).2).2).1) < ((((List.getD x0 (Int.toNat x1) ((⟨#[]⟩ : ByteArray), (0, (0, 0)))).2).2).1)))) || (!(decide (((((List.getD x0 (Int.toNat a3) ((⟨#[]⟩ : ByteArray), (0, (0, 0)))).2).2).1) < ((((List.getD x0 (Int.toNat x1) ((⟨#[]⟩ : ByteArray), (0, (0, 0)))).2).2).1)))) then
                    bif !(!(decide (((((List.getD x0 (Int.toNat a3) ((⟨#[]⟩ : ByteArray), (0, (0, 0)))).2).2).1) < ((((List.getD x0 (Int.toNat x1) ((⟨#[]⟩ : ByteArray), (0, (0, 0)))).2).2).1)))) || (!(decide (((((List.getD x0 (Int.toNat a3) ((⟨#[]⟩ : ByteArray), (0, (0, 0)))).2).2).1) < ((((List.getD x0 (Int.toNat x1) ((⟨#[]⟩ : ByteArray), (0, (0, 0)))).2).2).1)))) then
                      bif !(!(decide (((((List.getD x0 (Int.toNat a3) ((⟨#[]⟩ : ByteArray), (0, (0, 0)))).2).2).1) < ((((List.getD x0 (Int.toNat x1) ((⟨#[]⟩ : ByteArray), (0, (0, 0)))).2).2).1)))) || (!(decide (((((List.getD x0 (Int.toNat a3) ((⟨#[]⟩ : ByteArray), (0, (0, 0)))).2).2).1) < ((((List.getD x0 (Int.toNat x1) ((⟨#[]⟩ : ByteArray), (0, (0, 0)))).2).2).1)))) then
                        bif !(!(decide (((((List.getD x0 (Int.toNat a3) ((⟨#[]⟩ : ByteArray), (0, (0, 0)))).2).2).1) < ((((List.getD x0 (Int.toNat x1) ((⟨#[]⟩ : ByteArray), (0, (0, 0)))).2).2).1)))) || (!(decide (((((List.getD x0 (Int.toNat a3) ((⟨#[]⟩ : ByteArray), (0, (0, 0)))).2).2).1) < ((((List.getD x0 (Int.toNat x1) ((⟨#[]⟩ : ByteArray), (0, (0, 0)))).2).2).1)))) then
                          bif !(!(decide (((((List.getD x0 (Int.toNat a3) ((⟨#[]⟩ : ByteArray), (0, (0, 0)))).2).2).1) < ((((List.getD x0 (Int.toNat x1) ((⟨#[]⟩ : ByteArray), (0, (0, 0)))).2).2).1)))) || (!(decide (((((List.getD x0 (Int.toNat a3) ((⟨#[]⟩ : ByteArray), (0, (0, 0)))).2).2).1) < ((((List.getD x0 (Int.toNat x1) ((⟨#[]⟩ : ByteArray), (0, (0, 0)))).2).2).1)))) then
                            bif !((!(decide (((((List.getD x0 (Int.toNat a3) ((⟨#[]⟩ : ByteArray), (0, (0, 0)))).2).2).1) < ((((List.getD x0 (Int.toNat x1) ((⟨#[]⟩ : ByteArray), (0, (0, 0)))).2).2).1)))) && (((((List.getD x0 (Int.toNat a3) ((⟨#[]⟩ : ByteArray), (0, (0, 0)))).2).2).1) == ((((List.getD x0 (Int.toNat x1) ((⟨#[]⟩ : ByteArray), (0, (0, 0)))).2).2).1))) || ((!(decide (((((List.getD x0 (Int.toNat a3) ((⟨#[]⟩ : ByteArray), (0, (0, 0)))).2).2).1) < ((((List.getD x0 (Int.toNat x1) ((⟨#[]⟩ : ByteArray), (0, (0, 0)))).2).2).1)))) && (((((List.getD x0 (Int.toNat a3) ((⟨#[]⟩ : ByteArray), (0, (0, 0)))).2).2).1) == ((((List.getD x0 (Int.toNat x1) ((⟨#[]⟩ : ByteArray), (0, (0, 0)))).2).2).1))) then
                              bif !((!(decide (((((List.getD x0 (Int.toNat a3) ((⟨#[]⟩ : ByteArray), (0, (0, 0)))).2).2).1) < ((((List.getD x0 (Int.toNat x1) ((⟨#[]⟩ : ByteArray), (0, (0, 0)))).2).2).1)))) && (((((List.getD x0 (Int.toNat a3) ((⟨#[]⟩ : ByteArray), (0, (0, 0)))).2).2).1) == ((((List.getD x0 (Int.toNat x1) ((⟨#[]⟩ : ByteArray), (0, (0, 0)))).2).2).1))) || ((!(decide (((((List.getD x0 (Int.toNat a3) ((⟨#[]⟩ : ByteArray), (0, (0, 0)))).2).2).1) < ((((List.getD x0 (Int.toNat x1) ((⟨#[]⟩ : ByteArray), (0, (0, 0)))).2).2).1)))) && (((((List.getD x0 (Int.toNat a3) ((⟨#[]⟩ : ByteArray), (0, (0, 0)))).2).2).1) == ((((List.getD x0 (Int.toNat x1) ((⟨#[]⟩ : ByteArray), (0, (0, 0)))).2).2).1))) then
                                bif !((!(decide (((((List.getD x0 (Int.toNat a3) ((⟨#[]⟩ : ByteArray), (0, (0, 0)))).2).2).1) < ((((List.getD x0 (Int.toNat x1) ((⟨#[]⟩ : ByteArray), (0, (0, 0)))).2).2).1)))) && (((((List.getD x0 (Int.toNat a3) ((⟨#[]⟩ : ByteArray), (0, (0, 0)))).2).2).1) == ((((List.getD x0 (Int.toNat x1) ((⟨#[]⟩ : ByteArray), (0, (0, 0)))).2).2).1))) || ((!(decide (((((List.getD x0 (Int.toNat a3) ((⟨#[]⟩ : ByteArray), (0, (0, 0)))).2).2).1) < ((((List.getD x0 (Int.toNat x1) ((⟨#[]⟩ : ByteArray), (0, (0, 0)))).2).2).1)))) && (((((List.getD x0 (Int.toNat a3) ((⟨#[]⟩ : ByteArray), (0, (0, 0)))).2).2).1) == ((((List.getD x0 (Int.toNat x1) ((⟨#[]⟩ : ByteArray), (0, (0, 0)))).2).2).1))) then
                                  bif ((decide (0 ≤ x1)) && (decide (x1 < (x0.length : Int)))) || !((!(decide (((((List.getD x0 (Int.toNat a3) ((⟨#[]⟩ : ByteArray), (0, (0, 0)))).2).2).1) < ((((List.getD x0 (Int.toNat x1) ((⟨#[]⟩ : ByteArray), (0, (0, 0)))).2).2).1)))) && (((((List.getD x0 (Int.toNat a3) ((⟨#[]⟩ : ByteArray), (0, (0, 0)))).2).2).1) == ((((List.getD x0 (Int.toNat x1) ((⟨#[]⟩ : ByteArray), (0, (0, 0)))).2).2).1))) then
                                    bif !((!(decide (((((List.getD x0 (Int.toNat a3) ((⟨#[]⟩ : ByteArray), (0, (0, 0)))).2).2).1) < ((((List.getD x0 (Int.toNat x1) ((⟨#[]⟩ : ByteArray), (0, (0, 0)))).2).2).1)))) && (((((List.getD x0 (Int.toNat a3) ((⟨#[]⟩ : ByteArray), (0, (0, 0)))).2).2).1) == ((((List.getD x0 (Int.toNat x1) ((⟨#[]⟩ : ByteArray), (0, (0, 0)))).2).2).1))) || ((!(decide (((((List.getD x0 (Int.toNat a3) ((⟨#[]⟩ : ByteArray), (0, (0, 0)))).2).2).1) < ((((List.getD x0 (Int.toNat x1) ((⟨#[]⟩ : ByteArray), (0, (0, 0)))).2).2).1)))) && (((((List.getD x0 (Int.toNat a3) ((⟨#[]⟩ : ByteArray), (0, (0, 0)))).2).2).1) == ((((List.getD x0 (Int.toNat x1) ((⟨#[]⟩ : ByteArray), (0, (0, 0)))).2).2).1))) then
                                      bif !((!(decide (((((List.getD x0 (Int.toNat a3) ((⟨#[]⟩ : ByteArray), (0, (0, 0)))).2).2).1) < ((((List.getD x0 (Int.toNat x1) ((⟨#[]⟩ : ByteArray), (0, (0, 0)))).2).2).1)))) && (((((List.getD x0 (Int.toNat a3) ((⟨#[]⟩ : ByteArray), (0, (0, 0)))).2).2).1) == ((((List.getD x0 (Int.toNat x1) ((⟨#[]⟩ : ByteArray), (0, (0, 0)))).2).2).1))) || ((!(decide (((((List.getD x0 (Int.toNat a3) ((⟨#[]⟩ : ByteArray), (0, (0, 0)))).2).2).1) < ((((List.getD x0 (Int.toNat x1) ((⟨#[]⟩ : ByteArray), (0, (0, 0)))).2).2).1)))) && (((((List.getD x0 (Int.toNat a3) ((⟨#[]⟩ : ByteArray), (0, (0, 0)))).2).2).1) == ((((List.getD x0 (Int.toNat x1) ((⟨#[]⟩ : ByteArray), (0, (0, 0)))).2).2).1))) then
                                        bif !((!(decide (((((List.getD x0 (Int.toNat a3) ((⟨#[]⟩ : ByteArray), (0, (0, 0)))).2).2).1) < ((((List.getD x0 (Int.toNat x1) ((⟨#[]⟩ : ByteArray), (0, (0, 0)))).2).2).1)))) && (((((List.getD x0 (Int.toNat a3) ((⟨#[]⟩ : ByteArray), (0, (0, 0)))).2).2).1) == ((((List.getD x0 (Int.toNat x1) ((⟨#[]⟩ : ByteArray), (0, (0, 0)))).2).2).1))) || ((!(decide (((((List.getD x0 (Int.toNat a3) ((⟨#[]⟩ : ByteArray), (0, (0, 0)))).2).2).1) < ((((List.getD x0 (Int.toNat x1) ((⟨#[]⟩ : ByteArray), (0, (0, 0)))).2).2).1)))) && (((((List.getD x0 (Int.toNat a3) ((⟨#[]⟩ : ByteArray), (0, (0, 0)))).2).2).1) == ((((List.getD x0 (Int.toNat x1) ((⟨#[]⟩ : ByteArray), (0, (0, 0)))).2).2).1))) then
                                          bif !((!(decide (((((List.getD x0 (Int.toNat a3) ((⟨#[]⟩ : ByteArray), (0, (0, 0)))).2).2).1) < ((((List.getD x0 (Int.toNat x1) ((⟨#[]⟩ : ByteArray), (0, (0, 0)))).2).2).1)))) && (((((List.getD x0 (Int.toNat a3) ((⟨#[]⟩ : ByteArray), (0, (0, 0)))).2).2).1) == ((((List.getD x0 (Int.toNat x1) ((⟨#[]⟩ : ByteArray), (0, (0, 0)))).2).2).1))) || ((!(decide (((((List.getD x0 (Int.toNat a3) ((⟨#[]⟩ : ByteArray), (0, (0, 0)))).2).2).1) < ((((List.getD x0 (Int.toNat x1) ((⟨#[]⟩ : ByteArray), (0, (0, 0)))).2).2).1)))) && (((((List.getD x0 (Int.toNat a3) ((⟨#[]⟩ : ByteArray), (0, (0, 0)))).2).2).1) == ((((List.getD x0 (Int.toNat x1) ((⟨#[]⟩ : ByteArray), (0, (0, 0)))).2).2).1))) then
                                            bif !(!(decide (((((List.getD x0 (Int.toNat a3) ((⟨#[]⟩ : ByteArray), (0, (0, 0)))).2).2).1) < ((((List.getD x0 (Int.toNat x1) ((⟨#[]⟩ : ByteArray), (0, (0, 0)))).2).2).1)))) || (!(decide (((((List.getD x0 (Int.toNat a3) ((⟨#[]⟩ : ByteArray), (0, (0, 0)))).2).2).1) < ((((List.getD x0 (Int.toNat x1) ((⟨#[]⟩ : ByteArray), (0, (0, 0)))).2).2).1)))) then
                                              bif !(!(decide (((((List.getD x0 (Int.toNat a3) ((⟨#[]⟩ : ByteArray), (0, (0, 0)))).2).2).1) < ((((List.getD x0 (Int.toNat x1) ((⟨#[]⟩ : ByteArray), (0, (0, 0)))).2).2).1)))) || ((!(((((List.getD x0 (Int.toNat a3) ((⟨#[]⟩ : ByteArray), (0, (0, 0)))).2).2).1) == ((((List.getD x0 (Int.toNat x1) ((⟨#[]⟩ : ByteArray), (0, (0, 0)))).2).2).1))) || ((!(decide (((((List.getD x0 (Int.toNat a3) ((⟨#[]⟩ : ByteArray), (0, (0, 0)))).2).2).1) < ((((List.getD x0 (Int.toNat x1) ((⟨#[]⟩ : ByteArray), (0, (0, 0)))).2).2).1)))) && (((((List.getD x0 (Int.toNat a3) ((⟨#[]⟩ : ByteArray), (0, (0, 0)))).2).2).1) == ((((List.getD x0 (Int.toNat x1) ((⟨#[]⟩ : ByteArray), (0, (0, 0)))).2).2).1)))) then
                                                bif (decide (((((List.getD x0 (Int.toNat a3) ((⟨#[]⟩ : ByteArray), (0, (0, 0)))).2).2).1) < ((((List.getD x0 (Int.toNat x1) ((⟨#[]⟩ : ByteArray), (0, (0, 0)))).2).2).1))) || (!(decide (((((List.getD x0 (Int.toNat a3) ((⟨#[]⟩ : ByteArray), (0, (0, 0)))).2).2).1) < ((((List.getD x0 (Int.toNat x1) ((⟨#[]⟩ : ByteArray), (0, (0, 0)))).2).2).1)))) then
                                                  bif (decide (((((List.getD x0 (Int.toNat a3) ((⟨#[]⟩ : ByteArray), (0, (0, 0)))).2).2).1) < ((((List.getD x0 (Int.toNat x1) ((⟨#[]⟩ : ByteArray), (0, (0, 0)))).2).2).1))) || ((((((List.getD x0 (Int.toNat a3) ((⟨#[]⟩ : ByteArray), (0, (0, 0)))).2).2).1) == ((((List.getD x0 (Int.toNat x1) ((⟨#[]⟩ : ByteArray), (0, (0, 0)))).2).2).1)) && (slt ((List.getD x0 (Int.toNat a3) ((⟨#[]⟩ : ByteArray), (0, (0, 0)))).1) ((List.getD x0 (Int.toNat x1) ((⟨#[]⟩ : ByteArray), (0, (0, 0)))).1))) then
                                                    ref_Place.l0 N x0 x1 k1 (w (a2 + 1)) (w (a3 + 1))
                                                  else
                                                    ref_Place.l0 N x0 x1 k1 a2 (w (a3 + 1))
                                                else
                                                  none
                                              else
                                                none
                                            else
                                              none
                                          else
                                            none
                                        else
                                          none
                                      else
                                        none
                                    else
                                      none
                                  else
                                    none
                                else
                                  none
                              else
                                none
                            else
                              none
                          else
                            none
                        else
                          none
                      else
                        none
                    else
                      none
                  else
                    none
                else
                  none
              else
                none
            else
              none
          else
            none
        else
          none
      else
        none
    else
      some a2 := by kernel_rfl
theorem taut13 : ∀ p0 p1 : Bool, ((!(!(p0)) || ((!(p1)) || ((!(p0)) && (p1))))) = true := by decide
theorem taut14 : ∀ p0 p1 : Bool, ((!((!(p0)) && (p1)) || ((!(p0)) && (p1)))) = true := by decide
theorem ref_Place.l0_clean (N : Nat) (x0 : List (ByteArray × Int × Int × Int)) (x1 : Int) (k1 : Nat) (a2 : Int) (a3 : Int) : ref_Place.l0 N x0 x1 (k1 + 1) a2 a3 =
    bif decide (a3 < (x0.length : Int)) then
      bif (decide (0 ≤ a3)) && (decide (a3 < (x0.length : Int))) then
        bif (decide (0 ≤ x1)) && (decide (x1 < (x0.length : Int))) then
          bif ((decide (0 ≤ x1)) && (decide (x1 < (x0.length : Int)))) || !(!(decide (((((List.getD x0 (Int.toNat a3) ((⟨#[]⟩ : ByteArray), (0, (0, 0)))).2).2).1) < ((((List.getD x0 (Int.toNat x1) ((⟨#[]⟩ : ByteArray), (0, (0, 0)))).2).2).1)))) then
            bif ((decide (0 ≤ x1)) && (decide (x1 < (x0.length : Int)))) || !((!(decide (((((List.getD x0 (Int.toNat a3) ((⟨#[]⟩ : ByteArray), (0, (0, 0)))).2).2).1) < ((((List.getD x0 (Int.toNat x1) ((⟨#[]⟩ : ByteArray), (0, (0, 0)))).2).2).1)))) && (((((List.getD x0 (Int.toNat a3) ((⟨#[]⟩ : ByteArray), (0, (0, 0)))).2).2).1) == ((((List.getD x0 (Int.toNat x1) ((⟨#[]⟩ : ByteArray), (0, (0, 0)))).2).2).1))) then
              bif (decide (((((List.getD x0 (Int.toNat a3) ((⟨#[]⟩ : ByteArray), (0, (0, 0)))).2).2).1) < ((((List.getD x0 (Int.toNat x1) ((⟨#[]⟩ : ByteArray), (0, (0, 0)))).2).2).1))) || ((((((List.getD x0 (Int.toNat a3) ((⟨#[]⟩ : ByteArray), (0, (0, 0)))).2).2).1) == ((((List.getD x0 (Int.toNat x1) ((⟨#[]⟩ : ByteArray), (0, (0, 0)))).2).2).1)) && (slt ((List.getD x0 (Int.toNat a3) ((⟨#[]⟩ : ByteArray), (0, (0, 0)))).1) ((List.getD x0 (Int.toNat x1) ((⟨#[]⟩ : ByteArray), (0, (0, 0)))).1))) then
                ref_Place.l0 N x0 x1 k1 (w (a2 + 1)) (w (a3 + 1))
              else
                ref_Place.l0 N x0 x1 k1 a2 (w (a3 + 1))
            else
              none
          else
            none
        else
          none
      else
        none
    else
      some a2 := by
  rw [ref_Place.l0_succ]; simp only [taut1, taut13, taut14, taut6, cond_true]
theorem ref_Place.l0_cons (N : Nat) (x0 : List (ByteArray × Int × Int × Int)) (x1 : Int) (k1 : Nat) (a2 : Int) {pre r} {x} (hl : x0 = pre ++ x :: r) (hb : x0.length < 4611686018427387904) : ref_Place.l0 N x0 x1 (k1 + 1) a2 (pre.length : Int) =
    bif (decide (0 ≤ x1)) && (decide (x1 < (x0.length : Int))) then
      bif ((decide (0 ≤ x1)) && (decide (x1 < (x0.length : Int)))) || !(!(decide ((((x.2).2).1) < ((((List.getD x0 (Int.toNat x1) ((⟨#[]⟩ : ByteArray), (0, (0, 0)))).2).2).1)))) then
        bif ((decide (0 ≤ x1)) && (decide (x1 < (x0.length : Int)))) || !((!(decide ((((x.2).2).1) < ((((List.getD x0 (Int.toNat x1) ((⟨#[]⟩ : ByteArray), (0, (0, 0)))).2).2).1)))) && ((((x.2).2).1) == ((((List.getD x0 (Int.toNat x1) ((⟨#[]⟩ : ByteArray), (0, (0, 0)))).2).2).1))) then
          bif (decide ((((x.2).2).1) < ((((List.getD x0 (Int.toNat x1) ((⟨#[]⟩ : ByteArray), (0, (0, 0)))).2).2).1))) || (((((x.2).2).1) == ((((List.getD x0 (Int.toNat x1) ((⟨#[]⟩ : ByteArray), (0, (0, 0)))).2).2).1)) && (slt (x.1) ((List.getD x0 (Int.toNat x1) ((⟨#[]⟩ : ByteArray), (0, (0, 0)))).1))) then
            ref_Place.l0 N x0 x1 k1 (w (a2 + 1)) ((pre.length : Int) + 1)
          else
            ref_Place.l0 N x0 x1 k1 a2 ((pre.length : Int) + 1)
        else
          none
      else
        none
    else
      none := by
  have hlen : x0.length = pre.length + 1 + r.length := by rw [hl]; simp; omega
  have e1 : decide ((pre.length : Int) < (x0.length : Int)) = true := by rw [decide_eq_true_iff]; omega
  have e2 : decide (0 ≤ (pre.length : Int)) = true := by rw [decide_eq_true_iff]; omega
  have e4 : w ((pre.length : Int) + 1) = (pre.length : Int) + 1 := w_next hl hb
  have e5 : List.take pre.length x0 = pre := by rw [hl]; simp
  have e6 : decide ((pre.length : Int) ≤ (x0.length : Int)) = true := by rw [decide_eq_true_iff]; omega
  have g0 : List.getD x0 pre.length ((⟨#[]⟩ : ByteArray), (0, (0, 0))) = x := by rw [hl]; exact getD_mid pre x r _
  rw [ref_Place.l0_clean]
  simp -implicitDefEqProofs only [Int.toNat_natCast, e1, e2, e4, e6, g0, e5, Bool.and_true, Bool.true_and, Bool.true_or, cond_true]
theorem ref_Place.l0_nil (N : Nat) (x0 : List (ByteArray × Int × Int × Int)) (x1 : Int) (k1 : Nat) (a2 : Int) : ref_Place.l0 N x0 x1 (k1 + 1) a2 (x0.length : Int) =
    some a2 := by
  have e1 : decide ((x0.length : Int) < (x0.length : Int)) = false := by rw [decide_eq_false_iff_not]; omega
  rw [ref_Place.l0_clean]
  simp -implicitDefEqProofs only [e1, cond_false]
theorem ref_Place.eq (N : Nat) (x0 : List (ByteArray × Int × Int × Int)) (x1 : Int) : ref_Place.fn N (x0, x1) =
    ref_Place.l0 N x0 x1 N 0 0 := by kernel_rfl

/-! ### ref_IsOrder: skyway/skywayref3.IsOrder -/
def ref_IsOrder.kp : List (Nat × List (Nat × Option (TypeId × Ty))) := [(4, [(0, none), (13, none), (14, none)]), (8, [(0, none), (5, none), (6, none), (13, none), (14, none), (17, none), (18, none), (19, none)])]
noncomputable def ref_IsOrder.G (N : Nat) : List (Nat × Spec) := []
noncomputable def ref_IsOrder.E (N : Nat) : Env := mkEnv (ref_IsOrder.G N) N tyTab ref_IsOrder.kp
noncomputable def ref_IsOrder.fn (N : Nat) (x : List Int × Int) : Option Bool := evFn (ref_IsOrder.E N) Try.prog 3 Try.f12 false [.cell (.sl 3 (.int .i64)), .cell (.int .i64)] [.val (.cell (.bool))] x
noncomputable def ref_IsOrder.S (N : Nat) : PSpec := ⟨false, [.cell (.sl 3 (.int .i64)), .cell (.int .i64)], [.val (.cell (.bool))], ref_IsOrder.fn N⟩
theorem f12_enters : Enters Try.prog 12 := ⟨Try.f12, Try.func12, by kernel_rfl, by kernel_rfl⟩
theorem ref_IsOrder.tab (N : Nat) : TabOk Try.prog (ref_IsOrder.G N) := trivial
theorem ref_IsOrder.enters : Enters Try.prog 12 := f12_enters
theorem ref_IsOrder.sound (N : Nat) : Sound Try.prog 12 (ref_IsOrder.S N) := evFn_sound (specs_tab (ref_IsOrder.tab N)) (inls_tab (ref_IsOrder.tab N)) mixed 3 Try.func12 _ _ _
noncomputable def ref_IsOrder.cd (N : Nat) (p : List Nat) : St → (Ex → St → Option Bool) → Option Bool := ev (ref_IsOrder.E N) Try.prog (callD (ref_IsOrder.E N) Try.prog 3) 0 (codeAt (bodyOf Try.f12) p)
noncomputable def ref_IsOrder.fin : Ex → St → Option Bool := endK Try.prog Try.f12 [.val (.cell (.bool))]
noncomputable def ref_IsOrder.l0 (N : Nat) (x0 : List Int) (x1 : Int) (k1 : Nat) (a2 : Int) : Option Bool :=
  loopN (norm ((ref_IsOrder.E N).keep 4) 0) (ref_IsOrder.cd N [1, 1, 0, 1, 0, 0]) k1
  ⟨[.ros false 3 (.int .i64) x0, .any, .any, .any, .any, .any, .any, .any, .any, .any, .any, .any, .any, .sc (.int .i64 x1), .sc (.int .i64 a2), .any, .any, .any, .any, .any, .any, .any, .any, .any, .any, .any, .any, .any, .any, .any, .any, .any], []⟩
  (blockK 0 (seqK (ref_IsOrder.cd N [1, 1, 1]) ref_IsOrder.fin))
noncomputable def ref_IsOrder.l1 (N : Nat) (x0 : List Int) (x1 : Int) (k1 : Nat) (a2 : Int) (k3 : Nat) (a4 : Int) (a5 : Int) : Option Bool :=
  loopN (norm ((ref_IsOrder.E N).keep 8) 0) (ref_IsOrder.cd N [1, 1, 0, 1, 0, 0, 1, 1, 0, 0, 1, 1, 0, 1, 0, 0]) k3
  ⟨[.ros false 3 (.int .i64) x0, .any, .any, .any, .any, .sc (.int .i64 a2), .sc (.int .i64 a4), .any, .any, .any, .any, .any, .any, .sc (.int .i64 x1), .sc (.int .i64 a2), .any, .any, .ros false 3 (.int .i64) x0, .sc (.int .i64 (x0.length : Int)), .sc (.int .i64 a5), .any, .any, .any, .any, .any, .any, .any, .any, .any, .any, .any, .any], []⟩
  (blockK 2 (seqK (ref_IsOrder.cd N [1, 1, 0, 1, 0, 0, 1, 1, 0, 0, 1, 1, 1]) (blockK 1 (seqK (ref_IsOrder.cd N [1, 1, 0, 1, 0, 0, 1, 1, 1]) (loopK (norm ((ref_IsOrder.E N).keep 4) 0) (ref_IsOrder.cd N [1, 1, 0, 1, 0, 0]) k1 (blockK 0 (seqK (ref_IsOrder.cd N [1, 1, 1]) ref_IsOrder.fin)))))))
theorem ref_IsOrder.l1_zero (N : Nat) (x0 : List Int) (x1 : Int) (k1 : Nat) (a2 : Int) (a4 : Int) (a5 : Int) : ref_IsOrder.l1 N x0 x1 k1 a2 0 a4 a5 = none := by kernel_rfl
theorem ref_IsOrder.l1_succ (N : Nat) (x0 : List Int) (x1 : Int) (k1 : Nat) (a2 : Int) (k3 : Nat) (a4 : Int) (a5 : Int) : ref_IsOrder.l1 N x0 x1 k1 a2 (k3 + 1) a4 a5 =
    bif decide (a5 < (x0.length : Int)) then
      bif (decide (0 ≤ a5)) && (decide (a5 < (x0.length : Int))) then
        bif (List.getD x0 (Int.toNat a5) 0) == a2 then
          ref_IsOrder.l1 N x0 x1 k1 a2 k3 (w (a4 + 1)) (w (a5 + 1))
        else
          ref_IsOrder.l1 N x0 x1 k1 a2 k3 a4 (w (a5 + 1))
      else
        none
    else
    bif !(a4 == 1) then
      some false
    else
      ref_IsOrder.l0 N x0 x1 k1 (w (a2 + 1)) := by kernel_rfl
theorem ref_IsOrder.l0_zero (N : Nat) (x0 : List Int) (x1 : Int) (a2 : Int) : ref_IsOrder.l0 N x0 x1 0 a2 = none := by kernel_rfl
theorem ref_IsOrder.l0_succ (N : Nat) (x0 : List Int) (x1 : Int) (k1 : Nat) (a2 : Int) : ref_IsOrder.l0 N x0 x1 (k1 + 1) a2 =
    bif decide (a2 < x1) then
      ref_IsOrder.l1 N x0 x1 k1 a2 N 0 0
    else
      some true := by kernel_rfl
theorem ref_IsOrder.l1_cons (N : Nat) (x0 : List Int) (x1 : Int) (k1 : Nat) (a2 : Int) (k3 : Nat) (a4 : Int) {pre r} {x} (hl : x0 = pre ++ x :: r) (hb : x0.length < 4611686018427387904) : ref_IsOrder.l1 N x0 x1 k1 a2 (k3 + 1) a4 (pre.length : Int) =
    bif x == a2 then
      ref_IsOrder.l1 N x0 x1 k1 a2 k3 (w (a4 + 1)) ((pre.length : Int) + 1)
    else
      ref_IsOrder.l1 N x0 x1 k1 a2 k3 a4 ((pre.length : Int) + 1) := by
  have hlen : x0.length = pre.length + 1 + r.length := by rw [hl]; simp; omega
  have e1 : decide ((pre.length : Int) < (x0.length : Int)) = true := by rw [decide_eq_true_iff]; omega
  have e2 : decide (0 ≤ (pre.length : Int)) = true := by rw [decide_eq_true_iff]; omega
  have e4 : w ((pre.length : Int) + 1) = (pre.length : Int) + 1 := w_next hl hb
  have e5 : List.take pre.length x0 = pre := by rw [hl]; simp
  have e6 : decide ((pre.length : Int) ≤ (x0.length : Int)) = true := by rw [decide_eq_true_iff]; omega
  have g0 : List.getD x0 pre.length 0 = x := by rw [hl]; exact getD_mid pre x r _
  rw [ref_IsOrder.l1_succ]
  simp -implicitDefEqProofs only [Int.toNat_natCast, e1, e2, e4, e6, g0, e5, Bool.and_true, Bool.true_and, Bool.true_or, cond_true]
theorem ref_IsOrder.l1_nil (N : Nat) (x0 : List Int) (x1 : Int) (k1 : Nat) (a2 : Int) (k3 : Nat) (a4 : Int) : ref_IsOrder.l1 N x0 x1 k1 a2 (k3 + 1) a4 (x0.length : Int) =
    bif !(a4 == 1) then
      some false
    else
      ref_IsOrder.l0 N x0 x1 k1 (w (a2 + 1)) := by
  have e1 : decide ((x0.length : Int) < (x0.length : Int)) = false := by rw [decide_eq_false_iff_not]; omega
  rw [ref_IsOrder.l1_succ]
  simp -implicitDefEqProofs only [e1, cond_false]
theorem ref_IsOrder.eq (N : Nat) (x0 : List Int) (x1 : Int) : ref_IsOrder.fn N (x0, x1) =
    bif !((x0.length : Int) == x1) then
      some false
    else
      ref_IsOrder.l0 N x0 x1 N 0 := by kernel_rfl

/-! ### ref_Shifted: skyway/skywayref3.Shifted -/
def ref_Shifted.kp : List (Nat × List (Nat × Option (TypeId × Ty))) := [(3, [(0, none), (5, none), (9, none), (10, none), (11, none)])]
noncomputable def ref_Shifted.G (N : Nat) : List (Nat × Spec) := [(11, .pure (ref_Place.S N))]
noncomputable def ref_Shifted.E (N : Nat) : Env := mkEnv (ref_Shifted.G N) N tyTab ref_Shifted.kp
noncomputable def ref_Shifted.fn (N : Nat) (x : List (ByteArray × Int × Int × Int) × List Int) : Option Int := evFn (ref_Shifted.E N) Try.prog 3 Try.f13 false [.cell (.sl 48 (.pair (.str) (.pair (.int .i64) (.pair (.int .i64) (.int .i64))))), .cell (.sl 3 (.int .i64))] [.val (.cell (.int .i64))] x
noncomputable def ref_Shifted.S (N : Nat) : PSpec := ⟨false, [.cell (.sl 48 (.pair (.str) (.pair (.int .i64) (.pair (.int .i64) (.int .i64))))), .cell (.sl 3 (.int .i64))], [.val (.cell (.int .i64))], ref_Shifted.fn N⟩
theorem f13_enters : Enters Try.prog 13 := ⟨Try.f13, Try.func13, by kernel_rfl, by kernel_rfl⟩
theorem ref_Shifted.tab (N : Nat) : TabOk Try.prog (ref_Shifted.G N) := ⟨⟨ref_Place.enters, ref_Place.sound N⟩, trivial⟩
theorem ref_Shifted.enters : Enters Try.prog 13 := f13_enters
theorem ref_Shifted.sound (N : Nat) : Sound Try.prog 13 (ref_Shifted.S N) := evFn_sound (specs_tab (ref_Shifted.tab N)) (inls_tab (ref_Shifted.tab N)) mixed 3 Try.func13 _ _ _
noncomputable def ref_Shifted.cd (N : Nat) (p : List Nat) : St → (Ex → St → Option Int) → Option Int := ev (ref_Shifted.E N) Try.prog (callD (ref_Shifted.E N) Try.prog 3) 0 (codeAt (bodyOf Try.f13) p)
noncomputable def ref_Shifted.fin : Ex → St → Option Int := endK Try.prog Try.f13 [.val (.cell (.int .i64))]
noncomputable def ref_Shifted.l0 (N : Nat) (x0 : List (ByteArray × Int × Int × Int)) (x1 : List Int) (k1 : Nat) (a2 : Int) (a3 : Int) : Option Int :=
  loopN (norm ((ref_Shifted.E N).keep 3) 0) (ref_Shifted.cd N [1, 1, 0, 1, 0, 0]) k1
  ⟨[.ros false 48 (.pair (.str) (.pair (.int .i64) (.pair (.int .i64) (.int .i64)))) x0, .any, .any, .any, .any, .sc (.int .i64 a2), .any, .any, .any, .ros false 3 (.int .i64) x1, .sc (.int .i64 (x1.length : Int)), .sc (.int .i64 a3), .any, .any, .any, .any, .any, .any, .any, .any, .any, .any, .any, .any, .any, .any, .any, .any, .any, .any, .any], []⟩
  (blockK 0 (seqK (ref_Shifted.cd N [1, 1, 1]) ref_Shifted.fin))
theorem ref_Shifted.l0_zero (N : Nat) (x0 : List (ByteArray × Int × Int × Int)) (x1 : List Int) (a2 : Int) (a3 : Int) : ref_Shifted.l0 N x0 x1 0 a2 a3 = none := by kernel_rfl
theorem ref_Shifted.l0_succ (N : Nat) (x0 : List (ByteArray × Int × Int × Int)) (x1 : List Int) (k1 : Nat) (a2 : Int) (a3 : Int) : ref_Shifted.l0 N x0 x1 (k1 + 1) a2 a3 =
    bif decide (a3 < (x1.length : Int)) then
      bif (decide (0 ≤ a3)) && (decide (a3 < (x1.length : Int))) then
        (ref_Place.fn N (x0, (List.getD x1 (Int.toNat a3) 0))).bind fun r4 =>
        bif decide ((w (a3 - r4)) < 0) then
          bif decide ((w (-(w (a3 - r4)))) > a2) then
            ref_Shifted.l0 N x0 x1 k1 (w (-(w (a3 - r4)))) (w (a3 + 1))
          else
            ref_Shifted.l0 N x0 x1 k1 a2 (w (a3 + 1))
        else
        bif decide ((w (a3 - r4)) > a2) then
          ref_Shifted.l0 N x0 x1 k1 (w (a3 - r4)) (w (a3 + 1))
        else
          ref_Shifted.l0 N x0 x1 k1 a2 (w (a3 + 1))
      else
        none
    else
      some a2 := by kernel_rfl
theorem ref_Shifted.l0_cons (N : Nat) (x0 : List (ByteArray × Int × Int × Int)) (x1 : List Int) (k1 : Nat) (a2 : Int) {pre r} {x} (hl : x1 = pre ++ x :: r) (hb : x1.length < 4611686018427387904) : ref_Shifted.l0 N x0 x1 (k1 + 1) a2 (pre.length : Int) =
    (ref_Place.fn N (x0, x)).bind fun r4 =>
    bif decide ((w ((pre.length : Int) - r4)) < 0) then
      bif decide ((w (-(w ((pre.length : Int) - r4)))) > a2) then
        ref_Shifted.l0 N x0 x1 k1 (w (-(w ((pre.length : Int) - r4)))) ((pre.length : Int) + 1)
      else
        ref_Shifted.l0 N x0 x1 k1 a2 ((pre.length : Int) + 1)
    else
    bif decide ((w ((pre.length : Int) - r4)) > a2) then
      ref_Shifted.l0 N x0 x1 k1 (w ((pre.length : Int) - r4)) ((pre.length : Int) + 1)
    else
      ref_Shifted.l0 N x0 x1 k1 a2 ((pre.length : Int) + 1) := by
  have hlen : x1.length = pre.length + 1 + r.length := by rw [hl]; simp; omega
  have e1 : decide ((pre.length : Int) < (x1.length : Int)) = true := by rw [decide_eq_true_iff]; omega
  have e2 : decide (0 ≤ (pre.length : Int)) = true := by rw [decide_eq_true_iff]; omega
  have e4 : w ((pre.length : Int) + 1) = (pre.length : Int) + 1 := w_next hl hb
  have e5 : List.take pre.length x1 = pre := by rw [hl]; simp
  have e6 : decide ((pre.length : Int) ≤ (x1.length : Int)) = true := by rw [decide_eq_true_iff]; omega
  have g0 : List.getD x1 pre.length 0 = x := by rw [hl]; exact getD_mid pre x r _
  rw [ref_Shifted.l0_succ]
  simp -implicitDefEqProofs only [Int.toNat_natCast, e1, e2, e4, e6, g0, e5, Bool.and_true, Bool.true_and, Bool.true_or, cond_true]
theorem ref_Shifted.l0_nil (N : Nat) (x0 : List (ByteArray × Int × Int × Int)) (x1 : List Int) (k1 : Nat) (a2 : Int) : ref_Shifted.l0 N x0 x1 (k1 + 1) a2 (x1.length : Int) =
    some a2 := by
  have e1 : decide ((x1.length : Int) < (x1.length : Int)) = false := by rw [decide_eq_false_iff_not]; omega
  rw [ref_Shifted.l0_succ]
  simp -implicitDefEqProofs only [e1, cond_false]
theorem ref_Shifted.eq (N : Nat) (x0 : List (ByteArray × Int × Int × Int)) (x1 : List Int) : ref_Shifted.fn N (x0, x1) =
    ref_Shifted.l0 N x0 x1 N 0 0 := by kernel_rfl

/-! ### ref_TableError: skyway/skywayref3.TableError -/
def ref_TableError.kp : List (Nat × List (Nat × Option (TypeId × Ty))) := [(2, [(1, none), (8, none)]), (8, [(1, none), (30, none)])]
noncomputable def ref_TableError.G (N : Nat) : List (Nat × Spec) := []
noncomputable def ref_TableError.E (N : Nat) : Env := mkEnv (ref_TableError.G N) N tyTab ref_TableError.kp
noncomputable def ref_TableError.fn (N : Nat) (x : List Int) : Option Int := evFn (ref_TableError.E N) Try.prog 3 Try.f14 false [.agg (.vec 16 .i64)] [.val (.cell (.int .i64))] x
noncomputable def ref_TableError.S (N : Nat) : PSpec := ⟨false, [.agg (.vec 16 .i64)], [.val (.cell (.int .i64))], ref_TableError.fn N⟩
theorem f14_enters : Enters Try.prog 14 := ⟨Try.f14, Try.func14, by kernel_rfl, by kernel_rfl⟩
theorem ref_TableError.tab (N : Nat) : TabOk Try.prog (ref_TableError.G N) := trivial
theorem ref_TableError.enters : Enters Try.prog 14 := f14_enters
theorem ref_TableError.sound (N : Nat) : Sound Try.prog 14 (ref_TableError.S N) := evFn_sound (specs_tab (ref_TableError.tab N)) (inls_tab (ref_TableError.tab N)) mixed 3 Try.func14 _ _ _
noncomputable def ref_TableError.cd (N : Nat) (p : List Nat) : St → (Ex → St → Option Int) → Option Int := ev (ref_TableError.E N) Try.prog (callD (ref_TableError.E N) Try.prog 3) 0 (codeAt (bodyOf Try.f14) p)
noncomputable def ref_TableError.fin : Ex → St → Option Int := endK Try.prog Try.f14 [.val (.cell (.int .i64))]
noncomputable def ref_TableError.l0 (N : Nat) (x0 : List Int) (k1 : Nat) (a2 : Int) : Option Int :=
  loopN (norm ((ref_TableError.E N).keep 2) 0) (ref_TableError.cd N [1, 0, 1, 0, 0]) k1
  ⟨[.any, .ptr 0 0, .any, .any, .any, .any, .any, .any, .sc (.int .i64 a2), .any, .any, .any, .any, .any, .any, .any, .any, .any, .any, .any, .any, .any, .any, .any, .any, .any, .any, .any, .any, .any, .any, .any, .any, .any, .any, .any, .any, .any, .any, .any, .any, .any, .any, .any, .any, .any, .any, .any, .any, .any, .any, .any, .any, .any, .any, .any, .any, .any], [.cells [.sc (.int .i64 (List.getD x0 0 0)), .sc (.int .i64 (List.getD x0 1 0)), .sc (.int .i64 (List.getD x0 2 0)), .sc (.int .i64 (List.getD x0 3 0)), .sc (.int .i64 (List.getD x0 4 0)), .sc (.int .i64 (List.getD x0 5 0)), .sc (.int .i64 (List.getD x0 6 0)), .sc (.int .i64 (List.getD x0 7 0)), .sc (.int .i64 (List.getD x0 8 0)), .sc (.int .i64 (List.getD x0 9 0)), .sc (.int .i64 (List.getD x0 10 0)), .sc (.int .i64 (List.getD x0 11 0)), .sc (.int .i64 (List.getD x0 12 0)), .sc (.int .i64 (List.getD x0 13 0)), .sc (.int .i64 (List.getD x0 14 0)), .sc (.int .i64 (List.getD x0 15 0))] 26]⟩
  (blockK 0 (seqK (ref_TableError.cd N [1, 1]) ref_TableError.fin))
noncomputable def ref_TableError.l1 (N : Nat) (x0 : List Int) (k3 : Nat) (a4 : Int) : Option Int :=
  loopN (norm ((ref_TableError.E N).keep 8) 0) (ref_TableError.cd N [1, 1, 0, 1, 0, 0]) k3
  ⟨[.any, .ptr 0 0, .any, .any, .any, .any, .any, .any, .any, .any, .any, .any, .any, .any, .any, .any, .any, .any, .any, .any, .any, .any, .any, .any, .any, .any, .any, .any, .any, .any, .sc (.int .i64 a4), .any, .any, .any, .any, .any, .any, .any, .any, .any, .any, .any, .any, .any, .any, .any, .any, .any, .any, .any, .any, .any, .any, .any, .any, .any, .any, .any], [.cells [.sc (.int .i64 (List.getD x0 0 0)), .sc (.int .i64 (List.getD x0 1 0)), .sc (.int .i64 (List.getD x0 2 0)), .sc (.int .i64 (List.getD x0 3 0)), .sc (.int .i64 (List.getD x0 4 0)), .sc (.int .i64 (List.getD x0 5 0)), .sc (.int .i64 (List.getD x0 6 0)), .sc (.int .i64 (List.getD x0 7 0)), .sc (.int .i64 (List.getD x0 8 0)), .sc (.int .i64 (List.getD x0 9 0)), .sc (.int .i64 (List.getD x0 10 0)), .sc (.int .i64 (List.getD x0 11 0)), .sc (.int .i64 (List.getD x0 12 0)), .sc (.int .i64 (List.getD x0 13 0)), .sc (.int .i64 (List.getD x0 14 0)), .sc (.int .i64 (List.getD x0 15 0))] 26]⟩
  (blockK 2 (seqK (ref_TableError.cd N [1, 1, 1]) ref_TableError.fin))
theorem ref_TableError.l1_zero (N : Nat) (x0 : List Int) (a4 : Int) : ref_TableError.l1 N x0 0 a4 = none := by kernel_rfl
theorem ref_TableError.l1_succ (N : Nat) (x0 : List Int) (k3 : Nat) (a4 : Int) : ref_TableError.l1 N x0 (k3 + 1) a4 =
    bif decide (a4 < 64) then
      bif (decide (0 ≤ (w (Int.tdiv a4 16)))) && (decide ((w (Int.tdiv a4 16)) < 4)) then
        bif (decide (0 ≤ (Int.tmod (w (Int.tdiv a4 4)) 4))) && (decide ((Int.tmod (w (Int.tdiv a4 4)) 4) < 4)) then
          bif decide (((0 + ((Int.toNat (w (Int.tdiv a4 16))) * 4)) + ((Int.toNat (Int.tmod (w (Int.tdiv a4 4)) 4)) * 1)) < 16) then
            bif (decide (0 ≤ (Int.tmod (w (Int.tdiv a4 4)) 4))) && (decide ((Int.tmod (w (Int.tdiv a4 4)) 4) < 4)) then
              bif (decide (0 ≤ (Int.tmod a4 4))) && (decide ((Int.tmod a4 4) < 4)) then
                bif decide (((0 + ((Int.toNat (Int.tmod (w (Int.tdiv a4 4)) 4)) * 4)) + ((Int.toNat (Int.tmod a4 4)) * 1)) < 16) then
                  bif (decide (0 ≤ (w (Int.tdiv a4 16)))) && (decide ((w (Int.tdiv a4 16)) < 4)) then
                    bif (decide (0 ≤ (Int.tmod a4 4))) && (decide ((Int.tmod a4 4) < 4)) then
                      bif decide (((0 + ((Int.toNat (w (Int.tdiv a4 16))) * 4)) + ((Int.toNat (Int.tmod a4 4)) * 1)) < 16) then
                        bif decide ((w ((List.getD (vl 16 x0) ((0 + ((Int.toNat (w (Int.tdiv a4 16))) * 4)) + ((Int.toNat (Int.tmod (w (Int.tdiv a4 4)) 4)) * 1)) 0) + (List.getD (vl 16 x0) ((0 + ((Int.toNat (Int.tmod (w (Int.tdiv a4 4)) 4)) * 4)) + ((Int.toNat (Int.tmod a4 4)) * 1)) 0))) < (List.getD (vl 16 x0) ((0 + ((Int.toNat (w (Int.tdiv a4 16))) * 4)) + ((Int.toNat (Int.tmod a4 4)) * 1)) 0)) then
                          some 3
                        else
                          ref_TableError.l1 N x0 k3 (w (a4 + 1))
                      else
                        none
                    else
                      none
                  else
                    none
                else
                  none
              else
                none
            else
              none
          else
            none
        else
          none
      else
        none
    else
      some 0 := by kernel_rfl
theorem ref_TableError.l0_zero (N : Nat) (x0 : List Int) (a2 : Int) : ref_TableError.l0 N x0 0 a2 = none := by kernel_rfl
theorem ref_TableError.l0_succ (N : Nat) (x0 : List Int) (k1 : Nat) (a2 : Int) : ref_TableError.l0 N x0 (k1 + 1) a2 =
    bif decide (a2 < 16) then
      bif (decide (0 ≤ (w (Int.tdiv a2 4)))) && (decide ((w (Int.tdiv a2 4)) < 4)) then
        bif (decide (0 ≤ (Int.tmod a2 4))) && (decide ((Int.tmod a2 4) < 4)) then
          bif decide (((0 + ((Int.toNat (w (Int.tdiv a2 4))) * 4)) + ((Int.toNat (Int.tmod a2 4)) * 1)) < 16) then
            bif !(!(decide ((List.getD (vl 16 x0) ((0 + ((Int.toNat (w (Int.tdiv a2 4))) * 4)) + ((Int.toNat (Int.tmod a2 4)) * 1)) 0) < 30))) || (!(decide ((List.getD (vl 16 x0) ((0 + ((Int.toNat (w (Int.tdiv a2 4))) * 4)) + ((Int.toNat (Int.tmod a2 4)) * 1)) 0) < 30))) then
              bif !(!(decide ((List.getD (vl 16 x0) ((0 + ((Int.toNat (w (Int.tdiv a2 4))) * 4)) + ((Int.toNat (Int.tmod a2 4)) * 1)) 0) < 30))) || (!(decide ((List.getD (vl 16 x0) ((0 + ((Int.toNat (w (Int.tdiv a2 4))) * 4)) + ((Int.toNat (Int.tmod a2 4)) * 1)) 0) < 30))) then
                bif !(!(decide ((List.getD (vl 16 x0) ((0 + ((Int.toNat (w (Int.tdiv a2 4))) * 4)) + ((Int.toNat (Int.tmod a2 4)) * 1)) 0) < 30))) || (!(decide ((List.getD (vl 16 x0) ((0 + ((Int.toNat (w (Int.tdiv a2 4))) * 4)) + ((Int.toNat (Int.tmod a2 4)) * 1)) 0) < 30))) then
                  bif ((decide (0 ≤ (w (Int.tdiv a2 4)))) && (decide ((w (Int.tdiv a2 4)) < 4))) || !(!(decide ((List.getD (vl 16 x0) ((0 + ((Int.toNat (w (Int.tdiv a2 4))) * 4)) + ((Int.toNat (Int.tmod a2 4)) * 1)) 0) < 30))) then
                    bif !(!(decide ((List.getD (vl 16 x0) ((0 + ((Int.toNat (w (Int.tdiv a2 4))) * 4)) + ((Int.toNat (Int.tmod a2 4)) * 1)) 0) < 30))) || (!(decide ((List.getD (vl 16 x0) ((0 + ((Int.toNat (w (Int.tdiv a2 4))) * 4)) + ((Int.toNat (Int.tmod a2 4)) * 1)) 0) < 30))) then
                      bif !(!(decide ((List.getD (vl 16 x0) ((0 + ((Int.toNat (w (Int.tdiv a2 4))) * 4)) + ((Int.toNat (Int.tmod a2 4)) * 1)) 0) < 30))) || (!(decide ((List.getD (vl 16 x0) ((0 + ((Int.toNat (w (Int.tdiv a2 4))) * 4)) + ((Int.toNat (Int.tmod a2 4)) * 1)) 0) < 30))) then
                        bif ((decide (0 ≤ (Int.tmod a2 4))) && (decide ((Int.tmod a2 4) < 4))) || !(!(decide ((List.getD (vl 16 x0) ((0 + ((Int.toNat (w (Int.tdiv a2 4))) * 4)) + ((Int.toNat (Int.tmod a2 4)) * 1)) 0) < 30))) then
                          bif !(!(decide ((List.getD (vl 16 x0) ((0 + ((Int.toNat (w (Int.tdiv a2 4))) * 4)) + ((Int.toNat (Int.tmod a2 4)) * 1)) 0) < 30))) || (!(decide ((List.getD (vl 16 x0) ((0 + ((Int.toNat (w (Int.tdiv a2 4))) * 4)) + ((Int.toNat (Int.tmod a2 4)) * 1)) 0) < 30))) then
                            bif (decide (((0 + ((Int.toNat (w (Int.tdiv a2 4))) * 4)) + ((Int.toNat (Int.tmod a2 4)) * 1)) < 16)) || !(!(decide ((List.getD (vl 16 x0) ((0 + ((Int.toNat (w (Int.tdiv a2 4))) * 4)) + ((Int.toNat (Int.tmod a2 4)) * 1)) 0) < 30))) then
                              bif !(!(decide ((List.getD (vl 16 x0) ((0 + ((Int.toNat (w (Int.tdiv a2 4))) * 4)) + ((Int.toNat (Int.tmod a2 4)) * 1)) 0) < 30))) || (!(decide ((List.getD (vl 16 x0) ((0 + ((Int.toNat (w (Int.tdiv a2 4))) * 4)) + ((Int.toNat (Int.tmod a2 4)) * 1)) 0) < 30))) then
                                bif (decide ((List.getD (vl 16 x0) ((0 + ((Int.toNat (w (Int.tdiv a2 4))) * 4)) + ((Int.toNat (Int.tmod a2 4)) * 1)) 0) < 30)) || (!(decide ((List.getD (vl 16 x0) ((0 + ((Int.toNat (w (Int.tdiv a2 4))) * 4)) + ((Int.toNat (Int.tmod a2 4)) * 1)) 0) < 30))) then
                                  bif (decide ((List.getD (vl 16 x0) ((0 + ((Int.toNat (w (Int.tdiv a2 4))) * 4)) + ((Int.toNat (Int.tmod a2 4)) * 1)) 0) < 30)) || (decide ((List.getD (vl 16 x0) ((0 + ((Int.toNat (w (Int.tdiv a2 4))) * 4)) + ((Int.toNat (Int.tmod a2 4)) * 1)) 0) > 600)) then
                                    some 4
                                  else
                                    ref_TableError.l0 N x0 k1 (w (a2 + 1))
                                else
                                  none
                              else
                                none
                            else
                              none
                          else
                            none
                        else
                          none
                      else
                        none
                    else
                      none
                  else
                    none
                else
                  none
              else
                none
            else
              none
          else
            none
        else
          none
      else
        none
    else
      ref_TableError.l1 N x0 N 0 := by kernel_rfl
theorem ref_TableError.l0_clean (N : Nat) (x0 : List Int) (k1 : Nat) (a2 : Int) : ref_TableError.l0 N x0 (k1 + 1) a2 =
    bif decide (a2 < 16) then
      bif (decide (0 ≤ (w (Int.tdiv a2 4)))) && (decide ((w (Int.tdiv a2 4)) < 4)) then
        bif (decide (0 ≤ (Int.tmod a2 4))) && (decide ((Int.tmod a2 4) < 4)) then
          bif decide (((0 + ((Int.toNat (w (Int.tdiv a2 4))) * 4)) + ((Int.toNat (Int.tmod a2 4)) * 1)) < 16) then
            bif ((decide (0 ≤ (w (Int.tdiv a2 4)))) && (decide ((w (Int.tdiv a2 4)) < 4))) || !(!(decide ((List.getD (vl 16 x0) ((0 + ((Int.toNat (w (Int.tdiv a2 4))) * 4)) + ((Int.toNat (Int.tmod a2 4)) * 1)) 0) < 30))) then
              bif ((decide (0 ≤ (Int.tmod a2 4))) && (decide ((Int.tmod a2 4) < 4))) || !(!(decide ((List.getD (vl 16 x0) ((0 + ((Int.toNat (w (Int.tdiv a2 4))) * 4)) + ((Int.toNat (Int.tmod a2 4)) * 1)) 0) < 30))) then
                bif (decide (((0 + ((Int.toNat (w (Int.tdiv a2 4))) * 4)) + ((Int.toNat (Int.tmod a2 4)) * 1)) < 16)) || !(!(decide ((List.getD (vl 16 x0) ((0 + ((Int.toNat (w (Int.tdiv a2 4))) * 4)) + ((Int.toNat (Int.tmod a2 4)) * 1)) 0) < 30))) then
                  bif (decide ((List.getD (vl 16 x0) ((0 + ((Int.toNat (w (Int.tdiv a2 4))) * 4)) + ((Int.toNat (Int.tmod a2 4)) * 1)) 0) < 30)) || (decide ((List.getD (vl 16 x0) ((0 + ((Int.toNat (w (Int.tdiv a2 4))) * 4)) + ((Int.toNat (Int.tmod a2 4)) * 1)) 0) > 600)) then
                    some 4
                  else
                    ref_TableError.l0 N x0 k1 (w (a2 + 1))
                else
                  none
              else
                none
            else
              none
          else
            none
        else
          none
      else
        none
    else
      ref_TableError.l1 N x0 N 0 := by
  rw [ref_TableError.l0_succ]; simp only [taut1, taut6, cond_true]
theorem ref_TableError.eq (N : Nat) (x0 : List Int) : ref_TableError.fn N x0 =
    ref_TableError.l0 N x0 N 0 := by kernel_rfl

/-! ### ref_Landings: skyway/skywayref3.Landings -/
def ref_Landings.kp : List (Nat × List (Nat × Option (TypeId × Ty))) := [(4, [(0, none), (1, none), (5, none), (8, some (3, .int .i64)), (9, none), (15, none), (16, none), (17, none)]), (8, [(0, none), (1, none), (5, none), (8, none), (9, none), (10, none), (11, none), (12, none), (13, none), (15, none), (16, none), (17, none)])]
noncomputable def ref_Landings.G (N : Nat) : List (Nat × Spec) := []
noncomputable def ref_Landings.E (N : Nat) : Env := mkEnv (ref_Landings.G N) N tyTab ref_Landings.kp
noncomputable def ref_Landings.fn (N : Nat) (x : List (ByteArray × Int × Int × Int) × List Int × List Int) : Option (List Int × Bool) := evFn (ref_Landings.E N) Try.prog 3 Try.f15 false [.cell (.sl 48 (.pair (.str) (.pair (.int .i64) (.pair (.int .i64) (.int .i64))))), .cell (.sl 3 (.int .i64)), .agg (.vec 16 .i64)] [.own 3 (.int .i64), .val (.cell (.bool))] x
noncomputable def ref_Landings.S (N : Nat) : PSpec := ⟨false, [.cell (.sl 48 (.pair (.str) (.pair (.int .i64) (.pair (.int .i64) (.int .i64))))), .cell (.sl 3 (.int .i64)), .agg (.vec 16 .i64)], [.own 3 (.int .i64), .val (.cell (.bool))], ref_Landings.fn N⟩
theorem f15_enters : Enters Try.prog 15 := ⟨Try.f15, Try.func15, by kernel_rfl, by kernel_rfl⟩
theorem ref_Landings.tab (N : Nat) : TabOk Try.prog (ref_Landings.G N) := trivial
theorem ref_Landings.enters : Enters Try.prog 15 := f15_enters
theorem ref_Landings.sound (N : Nat) : Sound Try.prog 15 (ref_Landings.S N) := evFn_sound (specs_tab (ref_Landings.tab N)) (inls_tab (ref_Landings.tab N)) mixed 3 Try.func15 _ _ _
noncomputable def ref_Landings.cd (N : Nat) (p : List Nat) : St → (Ex → St → Option (List Int × Bool)) → Option (List Int × Bool) := ev (ref_Landings.E N) Try.prog (callD (ref_Landings.E N) Try.prog 3) 0 (codeAt (bodyOf Try.f15) p)
noncomputable def ref_Landings.fin : Ex → St → Option (List Int × Bool) := endK Try.prog Try.f15 [.own 3 (.int .i64), .val (.cell (.bool))]
noncomputable def ref_Landings.l0 (N : Nat) (x0 : List (ByteArray × Int × Int × Int)) (x1 : List Int) (x2 : List Int) (k1 : Nat) (a2 : Bool) (a3 : Int) (a4 : List Int) : Option (List Int × Bool) :=
  loopN (norm ((ref_Landings.E N).keep 4) 0) (ref_Landings.cd N [1, 1, 1, 0, 1, 0, 0]) k1
  ⟨[.ros false 48 (.pair (.str) (.pair (.int .i64) (.pair (.int .i64) (.int .i64)))) x0, .ros false 3 (.int .i64) x1, .any, .any, .any, .ptr 0 0, .any, .any, .own 1, .sc (.bool a2), .any, .any, .any, .any, .any, .ros false 3 (.int .i64) x1, .sc (.int .i64 (x1.length : Int)), .sc (.int .i64 a3), .any, .any, .any, .any, .any, .any, .any, .any, .any, .any, .any, .any, .any, .any, .any, .any, .any, .any, .any, .any, .any, .any, .any, .any, .any, .any, .any, .any, .any, .any, .any, .any, .any, .any, .any, .any, .any, .any, .any, .any, .any, .any, .any, .any, .any, .any, .any, .any, .any, .any, .any, .any, .any, .any, .any, .any], [.cells [.sc (.int .i64 (List.getD x2 0 0)), .sc (.int .i64 (List.getD x2 1 0)), .sc (.int .i64 (List.getD x2 2 0)), .sc (.int .i64 (List.getD x2 3 0)), .sc (.int .i64 (List.getD x2 4 0)), .sc (.int .i64 (List.getD x2 5 0)), .sc (.int .i64 (List.getD x2 6 0)), .sc (.int .i64 (List.getD x2 7 0)), .sc (.int .i64 (List.getD x2 8 0)), .sc (.int .i64 (List.getD x2 9 0)), .sc (.int .i64 (List.getD x2 10 0)), .sc (.int .i64 (List.getD x2 11 0)), .sc (.int .i64 (List.getD x2 12 0)), .sc (.int .i64 (List.getD x2 13 0)), .sc (.int .i64 (List.getD x2 14 0)), .sc (.int .i64 (List.getD x2 15 0))] 26, .rows true 3 (.int .i64) a4]⟩
  (blockK 0 (seqK (ref_Landings.cd N [1, 1, 1, 1]) ref_Landings.fin))
noncomputable def ref_Landings.l1 (N : Nat) (x0 : List (ByteArray × Int × Int × Int)) (x1 : List Int) (x2 : List Int) (k1 : Nat) (a2 : Bool) (a3 : Int) (a4 : List Int) (k5 : Nat) (a6 : Int) (a7 : Int) : Option (List Int × Bool) :=
  loopN (norm ((ref_Landings.E N).keep 8) 0) (ref_Landings.cd N [1, 1, 1, 0, 1, 0, 0, 1, 1, 0, 0, 1, 1, 0, 1, 0, 0]) k5
  ⟨[.ros false 48 (.pair (.str) (.pair (.int .i64) (.pair (.int .i64) (.int .i64)))) x0, .ros false 3 (.int .i64) x1, .any, .any, .any, .ptr 0 0, .any, .any, .own 1, .sc (.bool a2), .sc (.int .i64 a3), .sc (.int .i64 (List.getD x1 (Int.toNat a3) 0)), .sc (.int .i64 a6), .sc (.int .i64 a7), .any, .ros false 3 (.int .i64) x1, .sc (.int .i64 (x1.length : Int)), .sc (.int .i64 a3), .any, .any, .any, .any, .any, .any, .any, .any, .any, .any, .any, .any, .any, .any, .any, .any, .any, .any, .any, .any, .any, .any, .any, .any, .any, .any, .any, .any, .any, .any, .any, .any, .any, .any, .any, .any, .any, .any, .any, .any, .any, .any, .any, .any, .any, .any, .any, .any, .any, .any, .any, .any, .any, .any, .any, .any], [.cells [.sc (.int .i64 (List.getD x2 0 0)), .sc (.int .i64 (List.getD x2 1 0)), .sc (.int .i64 (List.getD x2 2 0)), .sc (.int .i64 (List.getD x2 3 0)), .sc (.int .i64 (List.getD x2 4 0)), .sc (.int .i64 (List.getD x2 5 0)), .sc (.int .i64 (List.getD x2 6 0)), .sc (.int .i64 (List.getD x2 7 0)), .sc (.int .i64 (List.getD x2 8 0)), .sc (.int .i64 (List.getD x2 9 0)), .sc (.int .i64 (List.getD x2 10 0)), .sc (.int .i64 (List.getD x2 11 0)), .sc (.int .i64 (List.getD x2 12 0)), .sc (.int .i64 (List.getD x2 13 0)), .sc (.int .i64 (List.getD x2 14 0)), .sc (.int .i64 (List.getD x2 15 0))] 26, .rows true 3 (.int .i64) a4]⟩
  (blockK 2 (seqK (ref_Landings.cd N [1, 1, 1, 0, 1, 0, 0, 1, 1, 0, 0, 1, 1, 1]) (blockK 1 (seqK (ref_Landings.cd N [1, 1, 1, 0, 1, 0, 0, 1, 1, 1]) (loopK (norm ((ref_Landings.E N).keep 4) 0) (ref_Landings.cd N [1, 1, 1, 0, 1, 0, 0]) k1 (blockK 0 (seqK (ref_Landings.cd N [1, 1, 1, 1]) ref_Landings.fin)))))))
theorem ref_Landings.l1_zero (N : Nat) (x0 : List (ByteArray × Int × Int × Int)) (x1 : List Int) (x2 : List Int) (k1 : Nat) (a2 : Bool) (a3 : Int) (a4 : List Int) (a6 : Int) (a7 : Int) : ref_Landings.l1 N x0 x1 x2 k1 a2 a3 a4 0 a6 a7 = none := by kernel_rfl
theorem ref_Landings.l1_succ (N : Nat) (x0 : List (ByteArray × Int × Int × Int)) (x1 : List Int) (x2 : List Int) (k1 : Nat) (a2 : Bool) (a3 : Int) (a4 : List Int) (k5 : Nat) (a6 : Int) (a7 : Int) : ref_Landings.l1 N x0 x1 x2 k1 a2 a3 a4 (k5 + 1) a6 a7 =
    bif decide (a7 < a3) then
      bif (decide (0 ≤ a7)) && (decide (a7 < (a4.length : Int))) then
        bif decide ((Int.toNat a7) < a4.length) then
          bif (decide (0 ≤ a7)) && (decide (a7 < (x1.length : Int))) then
            bif (decide (0 ≤ (List.getD x1 (Int.toNat a7) 0))) && (decide ((List.getD x1 (Int.toNat a7) 0) < (x0.length : Int))) then
              bif (decide (0 ≤ (List.getD x1 (Int.toNat a3) 0))) && (decide ((List.getD x1 (Int.toNat a3) 0) < (x0.length : Int))) then
                bif (decide (0 ≤ (((List.getD x0 (Int.toNat (List.getD x1 (Int.toNat a7) 0)) ((⟨#[]⟩ : ByteArray), (0, (0, 0)))).2).1))) && (decide ((((List.getD x0 (Int.toNat (List.getD x1 (Int.toNat a7) 0)) ((⟨#[]⟩ : ByteArray), (0, (0, 0)))).2).1) < 4)) then
                  bif (decide (0 ≤ (((List.getD x0 (Int.toNat (List.getD x1 (Int.toNat a3) 0)) ((⟨#[]⟩ : ByteArray), (0, (0, 0)))).2).1))) && (decide ((((List.getD x0 (Int.toNat (List.getD x1 (Int.toNat a3) 0)) ((⟨#[]⟩ : ByteArray), (0, (0, 0)))).2).1) < 4)) then
                    bif decide (((0 + ((Int.toNat (((List.getD x0 (Int.toNat (List.getD x1 (Int.toNat a7) 0)) ((⟨#[]⟩ : ByteArray), (0, (0, 0)))).2).1)) * 4)) + ((Int.toNat (((List.getD x0 (Int.toNat (List.getD x1 (Int.toNat a3) 0)) ((⟨#[]⟩ : ByteArray), (0, (0, 0)))).2).1)) * 1)) < 16) then
                      bif decide ((w ((List.getD a4 (Int.toNat a7) 0) + (List.getD (vl 16 x2) ((0 + ((Int.toNat (((List.getD x0 (Int.toNat (List.getD x1 (Int.toNat a7) 0)) ((⟨#[]⟩ : ByteArray), (0, (0, 0)))).2).1)) * 4)) + ((Int.toNat (((List.getD x0 (Int.toNat (List.getD x1 (Int.toNat a3) 0)) ((⟨#[]⟩ : ByteArray), (0, (0, 0)))).2).1)) * 1)) 0))) > a6) then
                        ref_Landings.l1 N x0 x1 x2 k1 a2 a3 a4 k5 (w ((List.getD a4 (Int.toNat a7) 0) + (List.getD (vl 16 x2) ((0 + ((Int.toNat (((List.getD x0 (Int.toNat (List.getD x1 (Int.toNat a7) 0)) ((⟨#[]⟩ : ByteArray), (0, (0, 0)))).2).1)) * 4)) + ((Int.toNat (((List.getD x0 (Int.toNat (List.getD x1 (Int.toNat a3) 0)) ((⟨#[]⟩ : ByteArray), (0, (0, 0)))).2).1)) * 1)) 0))) (w (a7 + 1))
                      else
                        ref_Landings.l1 N x0 x1 x2 k1 a2 a3 a4 k5 a6 (w (a7 + 1))
                    else
                      none
                  else
                    none
                else
                  none
              else
                none
            else
              none
          else
            none
        else
          none
      else
        none
    else
    bif !a2 || a2 then
      bif !a2 || a2 then
        bif ((decide (0 ≤ (List.getD x1 (Int.toNat a3) 0))) && (decide ((List.getD x1 (Int.toNat a3) 0) < (x0.length : Int)))) || !a2 then
          bif !a2 || a2 then
            bif !a2 || a2 then
              bif !a2 || a2 then
                bif !a2 || a2 then
                  bif (!a2) || a2 then
                    bif decide ((a4.length + 1) * 8 ≤ 140737488355328) && decide ((a4.length + 1) ≤ maxLen) then
                      ref_Landings.l0 N x0 x1 x2 k1 (a2 && (decide (a6 ≤ ((((List.getD x0 (Int.toNat (List.getD x1 (Int.toNat a3) 0)) ((⟨#[]⟩ : ByteArray), (0, (0, 0)))).2).2).2)))) (w (a3 + 1)) (a4 ++ [a6])
                    else
                      none
                  else
                    none
                else
                  none
              else
                none
            else
              none
          else
            none
        else
          none
      else
        none
    else
      none := by kernel_rfl
theorem ref_Landings.l0_zero (N : Nat) (x0 : List (ByteArray × Int × Int × Int)) (x1 : List Int) (x2 : List Int) (a2 : Bool) (a3 : Int) (a4 : List Int) : ref_Landings.l0 N x0 x1 x2 0 a2 a3 a4 = none := by kernel_rfl
theorem ref_Landings.l0_succ (N : Nat) (x0 : List (ByteArray × Int × Int × Int)) (x1 : List Int) (x2 : List Int) (k1 : Nat) (a2 : Bool) (a3 : Int) (a4 : List Int) : ref_Landings.l0 N x0 x1 x2 (k1 + 1) a2 a3 a4 =
    bif decide (a3 < (x1.length : Int)) then
      bif (decide (0 ≤ a3)) && (decide (a3 < (x1.length : Int))) then
        bif (decide (0 ≤ (List.getD x1 (Int.toNat a3) 0))) && (decide ((List.getD x1 (Int.toNat a3) 0) < (x0.length : Int))) then
          ref_Landings.l1 N x0 x1 x2 k1 a2 a3 a4 N ((((List.getD x0 (Int.toNat (List.getD x1 (Int.toNat a3) 0)) ((⟨#[]⟩ : ByteArray), (0, (0, 0)))).2).2).1) 0
        else
          none
      else
        none
    else
      some (a4, a2) := by kernel_rfl
theorem taut15 : ∀ p0 : Bool, ((!p0 || p0)) = true := by decide
theorem taut16 : ∀ p0 : Bool, (((!p0) || p0)) = true := by decide
theorem ref_Landings.l1_clean (N : Nat) (x0 : List (ByteArray × Int × Int × Int)) (x1 : List Int) (x2 : List Int) (k1 : Nat) (a2 : Bool) (a3 : Int) (a4 : List Int) (k5 : Nat) (a6 : Int) (a7 : Int) : ref_Landings.l1 N x0 x1 x2 k1 a2 a3 a4 (k5 + 1) a6 a7 =
    bif decide (a7 < a3) then
      bif (decide (0 ≤ a7)) && (decide (a7 < (a4.length : Int))) then
        bif decide ((Int.toNat a7) < a4.length) then
          bif (decide (0 ≤ a7)) && (decide (a7 < (x1.length : Int))) then
            bif (decide (0 ≤ (List.getD x1 (Int.toNat a7) 0))) && (decide ((List.getD x1 (Int.toNat a7) 0) < (x0.length : Int))) then
              bif (decide (0 ≤ (List.getD x1 (Int.toNat a3) 0))) && (decide ((List.getD x1 (Int.toNat a3) 0) < (x0.length : Int))) then
                bif (decide (0 ≤ (((List.getD x0 (Int.toNat (List.getD x1 (Int.toNat a7) 0)) ((⟨#[]⟩ : ByteArray), (0, (0, 0)))).2).1))) && (decide ((((List.getD x0 (Int.toNat (List.getD x1 (Int.toNat a7) 0)) ((⟨#[]⟩ : ByteArray), (0, (0, 0)))).2).1) < 4)) then
                  bif (decide (0 ≤ (((List.getD x0 (Int.toNat (List.getD x1 (Int.toNat a3) 0)) ((⟨#[]⟩ : ByteArray), (0, (0, 0)))).2).1))) && (decide ((((List.getD x0 (Int.toNat (List.getD x1 (Int.toNat a3) 0)) ((⟨#[]⟩ : ByteArray), (0, (0, 0)))).2).1) < 4)) then
                    bif decide (((0 + ((Int.toNat (((List.getD x0 (Int.toNat (List.getD x1 (Int.toNat a7) 0)) ((⟨#[]⟩ : ByteArray), (0, (0, 0)))).2).1)) * 4)) + ((Int.toNat (((List.getD x0 (Int.toNat (List.getD x1 (Int.toNat a3) 0)) ((⟨#[]⟩ : ByteArray), (0, (0, 0)))).2).1)) * 1)) < 16) then
                      bif decide ((w ((List.getD a4 (Int.toNat a7) 0) + (List.getD (vl 16 x2) ((0 + ((Int.toNat (((List.getD x0 (Int.toNat (List.getD x1 (Int.toNat a7) 0)) ((⟨#[]⟩ : ByteArray), (0, (0, 0)))).2).1)) * 4)) + ((Int.toNat (((List.getD x0 (Int.toNat (List.getD x1 (Int.toNat a3) 0)) ((⟨#[]⟩ : ByteArray), (0, (0, 0)))).2).1)) * 1)) 0))) > a6) then
                        ref_Landings.l1 N x0 x1 x2 k1 a2 a3 a4 k5 (w ((List.getD a4 (Int.toNat a7) 0) + (List.getD (vl 16 x2) ((0 + ((Int.toNat (((List.getD x0 (Int.toNat (List.getD x1 (Int.toNat a7) 0)) ((⟨#[]⟩ : ByteArray), (0, (0, 0)))).2).1)) * 4)) + ((Int.toNat (((List.getD x0 (Int.toNat (List.getD x1 (Int.toNat a3) 0)) ((⟨#[]⟩ : ByteArray), (0, (0, 0)))).2).1)) * 1)) 0))) (w (a7 + 1))
                      else
                        ref_Landings.l1 N x0 x1 x2 k1 a2 a3 a4 k5 a6 (w (a7 + 1))
                    else
                      none
                  else
                    none
                else
                  none
              else
                none
            else
              none
          else
            none
        else
          none
      else
        none
    else
    bif ((decide (0 ≤ (List.getD x1 (Int.toNat a3) 0))) && (decide ((List.getD x1 (Int.toNat a3) 0) < (x0.length : Int)))) || !a2 then
      bif decide ((a4.length + 1) * 8 ≤ 140737488355328) && decide ((a4.length + 1) ≤ maxLen) then
        ref_Landings.l0 N x0 x1 x2 k1 (a2 && (decide (a6 ≤ ((((List.getD x0 (Int.toNat (List.getD x1 (Int.toNat a3) 0)) ((⟨#[]⟩ : ByteArray), (0, (0, 0)))).2).2).2)))) (w (a3 + 1)) (a4 ++ [a6])
      else
        none
    else
      none := by
  rw [ref_Landings.l1_succ]; simp only [taut15, taut16, cond_true]
theorem ref_Landings.l0_cons (N : Nat) (x0 : List (ByteArray × Int × Int × Int)) (x1 : List Int) (x2 : List Int) (k1 : Nat) (a2 : Bool) (a4 : List Int) {pre r} {x} (hl : x1 = pre ++ x :: r) (hb : x1.length < 4611686018427387904) : ref_Landings.l0 N x0 x1 x2 (k1 + 1) a2 (pre.length : Int) a4 =
    bif (decide (0 ≤ x)) && (decide (x < (x0.length : Int))) then
      ref_Landings.l1 N x0 x1 x2 k1 a2 (pre.length : Int) a4 N ((((List.getD x0 (Int.toNat x) ((⟨#[]⟩ : ByteArray), (0, (0, 0)))).2).2).1) 0
    else
      none := by
  have hlen : x1.length = pre.length + 1 + r.length := by rw [hl]; simp; omega
  have e1 : decide ((pre.length : Int) < (x1.length : Int)) = true := by rw [decide_eq_true_iff]; omega
  have e2 : decide (0 ≤ (pre.length : Int)) = true := by rw [decide_eq_true_iff]; omega
  have e4 : w ((pre.length : Int) + 1) = (pre.length : Int) + 1 := w_next hl hb
  have e5 : List.take pre.length x1 = pre := by rw [hl]; simp
  have e6 : decide ((pre.length : Int) ≤ (x1.length : Int)) = true := by rw [decide_eq_true_iff]; omega
  have g0 : List.getD x1 pre.length 0 = x := by rw [hl]; exact getD_mid pre x r _
  rw [ref_Landings.l0_succ]
  simp -implicitDefEqProofs only [Int.toNat_natCast, e1, e2, e4, e6, g0, e5, Bool.and_true, Bool.true_and, Bool.true_or, cond_true]
theorem ref_Landings.l0_nil (N : Nat) (x0 : List (ByteArray × Int × Int × Int)) (x1 : List Int) (x2 : List Int) (k1 : Nat) (a2 : Bool) (a4 : List Int) : ref_Landings.l0 N x0 x1 x2 (k1 + 1) a2 (x1.length : Int) a4 =
    some (a4, a2) := by
  have e1 : decide ((x1.length : Int) < (x1.length : Int)) = false := by rw [decide_eq_false_iff_not]; omega
  rw [ref_Landings.l0_succ]
  simp -implicitDefEqProofs only [e1, cond_false]
theorem ref_Landings.eq (N : Nat) (x0 : List (ByteArray × Int × Int × Int)) (x1 : List Int) (x2 : List Int) : ref_Landings.fn N (x0, x1, x2) =
    ref_Landings.l0 N x0 x1 x2 N true 0 [] := by kernel_rfl

/-! ### law_SequenceTimes: skyway/skywaylaw3.SequenceTimes -/
def law_SequenceTimes.kp : List (Nat × List (Nat × Option (TypeId × Ty))) := [(14, [(0, none), (1, none), (5, none), (9, none), (10, none), (11, none), (12, none), (77, none), (78, none), (79, none)]), (1000025, [(0, none), (1, none), (5, none), (9, none), (10, none), (13, none)])]
noncomputable def law_SequenceTimes.G (N : Nat) : List (Nat × Spec) := [(5, .pure (law_sequenceFact.S N)), (6, .pure (sequence_Natural.S N)), (7, .pure (sequence_Times.S N)), (8, .pure (sequence_Shift.S N)), (9, .pure (ref_ArrivalsError.S N)), (10, .pure (sequence_Check.S N)), (11, .pure (ref_Place.S N)), (12, .pure (ref_IsOrder.S N)), (13, .pure (ref_Shifted.S N)), (14, .pure (ref_TableError.S N)), (15, .pure (ref_Landings.S N)), (16, .pure (slices_Equal_int.S N))]
noncomputable def law_SequenceTimes.E (N : Nat) : Env := mkEnv (law_SequenceTimes.G N) N tyTab law_SequenceTimes.kp
noncomputable def law_SequenceTimes.fn (N : Nat) (x : List (ByteArray × Int × Int × Int) × List Int × List Int) : Option Bool := evFn (law_SequenceTimes.E N) Try.prog 3 Try.f3 false [.cell (.sl 48 (.pair (.str) (.pair (.int .i64) (.pair (.int .i64) (.int .i64))))), .cell (.sl 3 (.int .i64)), .agg (.vec 16 .i64)] [.val (.cell (.bool))] x
noncomputable def law_SequenceTimes.S (N : Nat) : PSpec := ⟨false, [.cell (.sl 48 (.pair (.str) (.pair (.int .i64) (.pair (.int .i64) (.int .i64))))), .cell (.sl 3 (.int .i64)), .agg (.vec 16 .i64)], [.val (.cell (.bool))], law_SequenceTimes.fn N⟩
theorem f3_enters : Enters Try.prog 3 := ⟨Try.f3, Try.func3, by kernel_rfl, by kernel_rfl⟩
theorem law_SequenceTimes.tab (N : Nat) : TabOk Try.prog (law_SequenceTimes.G N) := ⟨⟨law_sequenceFact.enters, law_sequenceFact.sound N⟩, ⟨sequence_Natural.enters, sequence_Natural.sound N⟩, ⟨sequence_Times.enters, sequence_Times.sound N⟩, ⟨sequence_Shift.enters, sequence_Shift.sound N⟩, ⟨ref_ArrivalsError.enters, ref_ArrivalsError.sound N⟩, ⟨sequence_Check.enters, sequence_Check.sound N⟩, ⟨ref_Place.enters, ref_Place.sound N⟩, ⟨ref_IsOrder.enters, ref_IsOrder.sound N⟩, ⟨ref_Shifted.enters, ref_Shifted.sound N⟩, ⟨ref_TableError.enters, ref_TableError.sound N⟩, ⟨ref_Landings.enters, ref_Landings.sound N⟩, ⟨slices_Equal_int.enters, slices_Equal_int.sound N⟩, trivial⟩
theorem law_SequenceTimes.enters : Enters Try.prog 3 := f3_enters
theorem law_SequenceTimes.sound (N : Nat) : Sound Try.prog 3 (law_SequenceTimes.S N) := evFn_sound (specs_tab (law_SequenceTimes.tab N)) (inls_tab (law_SequenceTimes.tab N)) mixed 3 Try.func3 _ _ _
noncomputable def law_SequenceTimes.cd (N : Nat) (p : List Nat) : St → (Ex → St → Option Bool) → Option Bool := ev (law_SequenceTimes.E N) Try.prog (callD (law_SequenceTimes.E N) Try.prog 3) 0 (codeAt (bodyOf Try.f3) p)
noncomputable def law_SequenceTimes.fin : Ex → St → Option Bool := endK Try.prog Try.f3 [.val (.cell (.bool))]
noncomputable def law_SequenceTimes.l0 (N : Nat) (x0 : List (ByteArray × Int × Int × Int)) (x1 : List Int) (x2 : List Int) (r2 : List Int × Int) (r3 : List Int × Int) (r4 : Int × Int) (k7 : Nat) (a8 : Int) : Option Bool :=
  loopN (norm ((law_SequenceTimes.E N).keep 14) 0) (law_SequenceTimes.cd N [1, 1, 1, 1, 1, 1, 1, 1, 1, 0, 1, 0, 0]) k7
  ⟨[.ros false 48 (.pair (.str) (.pair (.int .i64) (.pair (.int .i64) (.int .i64)))) x0, .ros false 3 (.int .i64) x1, .any, .any, .any, .ptr 0 0, .any, .any, .any, .own 1, .sc (.int .i64 r3.2), .sc (.int .i64 r4.1), .sc (.int .i64 r4.2), .any, .any, .any, .any, .any, .any, .any, .any, .any, .any, .any, .any, .any, .any, .any, .any, .any, .any, .any, .any, .any, .any, .any, .any, .any, .any, .any, .any, .any, .any, .any, .any, .any, .any, .any, .any, .any, .any, .any, .any, .any, .any, .any, .any, .any, .any, .any, .any, .any, .any, .any, .any, .any, .any, .any, .any, .any, .any, .any, .any, .any, .any, .any, .any, .own 2, .sc (.int .i64 (r2.1.length : Int)), .sc (.int .i64 a8), .any, .any, .any, .any, .any, .any, .any, .any, .any, .any, .any, .any, .any, .any, .any, .any, .any, .any, .any, .any, .any, .any, .any, .any, .any, .any, .any, .any, .any, .any, .any, .any, .any, .any, .any, .any, .any, .any, .any, .any, .any, .any, .any, .any, .any, .any, .any, .any, .any, .any, .any, .any, .any, .any, .any, .any, .any, .any, .any, .any, .any, .any, .any, .any, .any, .any, .any, .any, .any, .any, .any, .any, .any, .any, .any, .any, .any, .any, .any, .any, .any, .any, .any, .any, .any, .any, .any, .any, .any], [.cells [.sc (.int .i64 (List.getD x2 0 0)), .sc (.int .i64 (List.getD x2 1 0)), .sc (.int .i64 (List.getD x2 2 0)), .sc (.int .i64 (List.getD x2 3 0)), .sc (.int .i64 (List.getD x2 4 0)), .sc (.int .i64 (List.getD x2 5 0)), .sc (.int .i64 (List.getD x2 6 0)), .sc (.int .i64 (List.getD x2 7 0)), .sc (.int .i64 (List.getD x2 8 0)), .sc (.int .i64 (List.getD x2 9 0)), .sc (.int .i64 (List.getD x2 10 0)), .sc (.int .i64 (List.getD x2 11 0)), .sc (.int .i64 (List.getD x2 12 0)), .sc (.int .i64 (List.getD x2 13 0)), .sc (.int .i64 (List.getD x2 14 0)), .sc (.int .i64 (List.getD x2 15 0))] 26, .rows true 3 (.int .i64) r3.1, .rows true 3 (.int .i64) r2.1]⟩
  (blockK 0 (seqK (law_SequenceTimes.cd N [1, 1, 1, 1, 1, 1, 1, 1, 1, 1]) law_SequenceTimes.fin))
noncomputable def law_SequenceTimes.j1 (N : Nat) (x0 : List (ByteArray × Int × Int × Int)) (x1 : List Int) (x2 : List Int) (r3 : List Int × Int) (a13 : Int) : Option Bool :=
  fuelK N (region (law_SequenceTimes.E N) Try.prog (callD (law_SequenceTimes.E N) Try.prog 3) (opsAt (codeAt (bodyOf Try.f3) [1, 1, 1, 1, 1, 1, 1, 1, 1, 1, 1, 1, 1, 1, 0, 0])) false
  ⟨[.ros false 48 (.pair (.str) (.pair (.int .i64) (.pair (.int .i64) (.int .i64)))) x0, .ros false 3 (.int .i64) x1, .any, .any, .any, .ptr 0 0, .any, .any, .any, .own 1, .sc (.int .i64 r3.2), .any, .any, .sc (.int .i64 a13), .any, .any, .any, .any, .any, .any, .any, .any, .any, .any, .any, .any, .any, .any, .any, .any, .any, .any, .any, .any, .any, .any, .any, .any, .any, .any, .any, .any, .any, .any, .any, .any, .any, .any, .any, .any, .any, .any, .any, .any, .any, .any, .any, .any, .any, .any, .any, .any, .any, .any, .any, .any, .any, .any, .any, .any, .any, .any, .any, .any, .any, .any, .any, .any, .any, .any, .any, .any, .any, .any, .any, .any, .any, .any, .any, .any, .any, .any, .any, .any, .any, .any, .any, .any, .any, .any, .any, .any, .any, .any, .any, .any, .any, .any, .any, .any, .any, .any, .any, .any, .any, .any, .any, .any, .any, .any, .any, .any, .any, .any, .any, .any, .any, .any, .any, .any, .any, .any, .any, .any, .any, .any, .any, .any, .any, .any, .any, .any, .any, .any, .any, .any, .any, .any, .any, .any, .any, .any, .any, .any, .any, .any, .any, .any, .any, .any, .any, .any, .any, .any, .any, .any, .any, .any, .any], [.cells [.sc (.int .i64 (List.getD x2 0 0)), .sc (.int .i64 (List.getD x2 1 0)), .sc (.int .i64 (List.getD x2 2 0)), .sc (.int .i64 (List.getD x2 3 0)), .sc (.int .i64 (List.getD x2 4 0)), .sc (.int .i64 (List.getD x2 5 0)), .sc (.int .i64 (List.getD x2 6 0)), .sc (.int .i64 (List.getD x2 7 0)), .sc (.int .i64 (List.getD x2 8 0)), .sc (.int .i64 (List.getD x2 9 0)), .sc (.int .i64 (List.getD x2 10 0)), .sc (.int .i64 (List.getD x2 11 0)), .sc (.int .i64 (List.getD x2 12 0)), .sc (.int .i64 (List.getD x2 13 0)), .sc (.int .i64 (List.getD x2 14 0)), .sc (.int .i64 (List.getD x2 15 0))] 26, .rows true 3 (.int .i64) r3.1]⟩
  (fun S => (seqK (law_SequenceTimes.cd N [1, 1, 1, 1, 1, 1, 1, 1, 1, 1, 1, 1, 1, 1, 0, 1]) (seqK (law_SequenceTimes.cd N [1, 1, 1, 1, 1, 1, 1, 1, 1, 1, 1, 1, 1, 1, 1]) law_SequenceTimes.fin)) .normal S))
theorem law_SequenceTimes.j1_eq (N : Nat) (x0 : List (ByteArray × Int × Int × Int)) (x1 : List Int) (x2 : List Int) (r3 : List Int × Int) (a13 : Int) {M : Nat} (hM : N = M + 1) : law_SequenceTimes.j1 N x0 x1 x2 r3 a13 =
    bif !(a13 == 0) then
      bif !(r3.2 == a13) || (r3.2 == a13) then
        bif !(r3.2 == a13) || (r3.2 == a13) then
          bif (!(r3.2 == a13)) || (r3.2 == a13) then
            some ((r3.2 == a13) && ((r3.1.length : Int) == 0))
          else
            none
        else
          none
      else
        none
    else
      (ref_Landings.fn N (x0, x1, (vl 16 x2))).bind fun r14 =>
      bif !r14.2 then
        bif !(r3.2 == 8) || (r3.2 == 8) then
          bif !(r3.2 == 8) || (r3.2 == 8) then
            bif (!(r3.2 == 8)) || (r3.2 == 8) then
              some ((r3.2 == 8) && ((r3.1.length : Int) == 0))
            else
              none
          else
            none
        else
          none
      else
      bif !(r3.2 == 0) || (r3.2 == 0) then
        bif !(r3.2 == 0) || (r3.2 == 0) then
          (bif (r3.2 == 0) then slices_Equal_int.fn N (r3.1, r14.1) else some (false)).bind fun r15 =>
          bif (!(r3.2 == 0)) || (r3.2 == 0) then
            some ((r3.2 == 0) && r15)
          else
            none
        else
          none
      else
        none := (fuelK_eq hM _).trans (by kernel_rfl)
theorem law_SequenceTimes.l0_zero (N : Nat) (x0 : List (ByteArray × Int × Int × Int)) (x1 : List Int) (x2 : List Int) (r2 : List Int × Int) (r3 : List Int × Int) (r4 : Int × Int) (a8 : Int) : law_SequenceTimes.l0 N x0 x1 x2 r2 r3 r4 0 a8 = none := by kernel_rfl
theorem law_SequenceTimes.l0_succ (N : Nat) (x0 : List (ByteArray × Int × Int × Int)) (x1 : List Int) (x2 : List Int) (r2 : List Int × Int) (r3 : List Int × Int) (r4 : Int × Int) (k7 : Nat) (a8 : Int) : law_SequenceTimes.l0 N x0 x1 x2 r2 r3 r4 (k7 + 1) a8 =
    bif decide (a8 < (r2.1.length : Int)) then
      bif (decide (0 ≤ a8)) && (decide (a8 < (r2.1.length : Int))) then
        bif decide ((Int.toNat a8) < r2.1.length) then
          bif !(!(decide ((List.getD r2.1 (Int.toNat a8) 0) < 0))) || (!(decide ((List.getD r2.1 (Int.toNat a8) 0) < 0))) then
            bif !(!(decide ((List.getD r2.1 (Int.toNat a8) 0) < 0))) || (!(decide ((List.getD r2.1 (Int.toNat a8) 0) < 0))) then
              bif !(!(decide ((List.getD r2.1 (Int.toNat a8) 0) < 0))) || (!(decide ((List.getD r2.1 (Int.toNat a8) 0) < 0))) then
                bif (decide ((List.getD r2.1 (Int.toNat a8) 0) < 0)) || (!(decide ((List.getD r2.1 (Int.toNat a8) 0) < 0))) then
                  bif !(!((decide ((List.getD r2.1 (Int.toNat a8) 0) < 0)) || (decide ((List.getD r2.1 (Int.toNat a8) 0) ≥ (x0.length : Int))))) || (!((decide ((List.getD r2.1 (Int.toNat a8) 0) < 0)) || (decide ((List.getD r2.1 (Int.toNat a8) 0) ≥ (x0.length : Int))))) then
                    bif !(!((decide ((List.getD r2.1 (Int.toNat a8) 0) < 0)) || (decide ((List.getD r2.1 (Int.toNat a8) 0) ≥ (x0.length : Int))))) || (!((decide ((List.getD r2.1 (Int.toNat a8) 0) < 0)) || (decide ((List.getD r2.1 (Int.toNat a8) 0) ≥ (x0.length : Int))))) then
                      (bif (!((decide ((List.getD r2.1 (Int.toNat a8) 0) < 0)) || (decide ((List.getD r2.1 (Int.toNat a8) 0) ≥ (x0.length : Int))))) then ref_Place.fn N (x0, (List.getD r2.1 (Int.toNat a8) 0)) else some (0)).bind fun r9 =>
                      bif !(!((decide ((List.getD r2.1 (Int.toNat a8) 0) < 0)) || (decide ((List.getD r2.1 (Int.toNat a8) 0) ≥ (x0.length : Int))))) || (!((decide ((List.getD r2.1 (Int.toNat a8) 0) < 0)) || (decide ((List.getD r2.1 (Int.toNat a8) 0) ≥ (x0.length : Int))))) then
                        bif !(!((decide ((List.getD r2.1 (Int.toNat a8) 0) < 0)) || (decide ((List.getD r2.1 (Int.toNat a8) 0) ≥ (x0.length : Int))))) || (!((decide ((List.getD r2.1 (Int.toNat a8) 0) < 0)) || (decide ((List.getD r2.1 (Int.toNat a8) 0) ≥ (x0.length : Int))))) then
                          bif ((decide ((List.getD r2.1 (Int.toNat a8) 0) < 0)) || (decide ((List.getD r2.1 (Int.toNat a8) 0) ≥ (x0.length : Int)))) || (!((decide ((List.getD r2.1 (Int.toNat a8) 0) < 0)) || (decide ((List.getD r2.1 (Int.toNat a8) 0) ≥ (x0.length : Int))))) then
                            bif ((decide ((List.getD r2.1 (Int.toNat a8) 0) < 0)) || (decide ((List.getD r2.1 (Int.toNat a8) 0) ≥ (x0.length : Int)))) || (!(r9 == a8)) then
                              some false
                            else
                              law_SequenceTimes.l0 N x0 x1 x2 r2 r3 r4 k7 (w (a8 + 1))
                          else
                            none
                        else
                          none
                      else
                        none
                    else
                      none
                  else
                    none
                else
                  none
              else
                none
            else
              none
          else
            none
        else
          none
      else
        none
    else
      (ref_IsOrder.fn N (x1, (x0.length : Int))).bind fun r10 =>
      bif !r10 || r10 then
        bif !r10 || r10 then
          bif !(r10 && (!(!(r4.2 == 0)))) || (r10 && (!(!(r4.2 == 0)))) then
            bif !(r10 && (!(!(r4.2 == 0)))) || (r10 && (!(!(r4.2 == 0)))) then
              (bif (r10 && (!(!(r4.2 == 0)))) then ref_Shifted.fn N (x0, x1) else some (0)).bind fun r11 =>
              bif !(r10 && (!(!(r4.2 == 0)))) || (r10 && (!(!(r4.2 == 0)))) then
                bif !(r10 && (!(!(r4.2 == 0)))) || (r10 && (!(!(r4.2 == 0)))) then
                  bif !r10 || r10 then
                    bif !r10 || ((!(r4.2 == 0)) || (r10 && (!(!(r4.2 == 0))))) then
                      bif (!r10) || r10 then
                        bif !(!(r10 && ((!(r4.2 == 0)) || (!(r4.1 == r11))))) || (!(r10 && ((!(r4.2 == 0)) || (!(r4.1 == r11))))) then
                          bif !(!(r10 && ((!(r4.2 == 0)) || (!(r4.1 == r11))))) || (!(r10 && ((!(r4.2 == 0)) || (!(r4.1 == r11))))) then
                            bif !((!(r10 && ((!(r4.2 == 0)) || (!(r4.1 == r11))))) && (!r10)) || ((!(r10 && ((!(r4.2 == 0)) || (!(r4.1 == r11))))) && (!r10)) then
                              bif !((!(r10 && ((!(r4.2 == 0)) || (!(r4.1 == r11))))) && (!r10)) || ((!(r10 && ((!(r4.2 == 0)) || (!(r4.1 == r11))))) && (!r10)) then
                                bif !(((!(r10 && ((!(r4.2 == 0)) || (!(r4.1 == r11))))) && (!r10)) && (!(!(r4.2 == 3)))) || (((!(r10 && ((!(r4.2 == 0)) || (!(r4.1 == r11))))) && (!r10)) && (!(!(r4.2 == 3)))) then
                                  bif !((!(r10 && ((!(r4.2 == 0)) || (!(r4.1 == r11))))) && (!r10)) || ((!(r10 && ((!(r4.2 == 0)) || (!(r4.1 == r11))))) && (!r10)) then
                                    bif !((!(r10 && ((!(r4.2 == 0)) || (!(r4.1 == r11))))) && (!r10)) || ((!(r4.2 == 3)) || (((!(r10 && ((!(r4.2 == 0)) || (!(r4.1 == r11))))) && (!r10)) && (!(!(r4.2 == 3))))) then
                                      bif !(!(r10 && ((!(r4.2 == 0)) || (!(r4.1 == r11))))) || (!(r10 && ((!(r4.2 == 0)) || (!(r4.1 == r11))))) then
                                        bif !(!(r10 && ((!(r4.2 == 0)) || (!(r4.1 == r11))))) || ((!(!r10)) || ((!(r10 && ((!(r4.2 == 0)) || (!(r4.1 == r11))))) && (!r10))) then
                                          bif (r10 && ((!(r4.2 == 0)) || (!(r4.1 == r11)))) || (!(r10 && ((!(r4.2 == 0)) || (!(r4.1 == r11))))) then
                                            bif (r10 && ((!(r4.2 == 0)) || (!(r4.1 == r11)))) || ((!r10) && ((!(r4.2 == 3)) || (!(r4.1 == 0)))) then
                                              some false
                                            else
                                              (ref_TableError.fn N (vl 16 x2)).bind fun r12 =>
                                              bif !(r12 == 0) || (r12 == 0) then
                                                bif (!(r12 == 0)) || (r12 == 0) then
                                                  bif (r12 == 0) && (!r10) then
                                                    law_SequenceTimes.j1 N x0 x1 x2 r3 3
                                                  else
                                                    law_SequenceTimes.j1 N x0 x1 x2 r3 r12
                                                else
                                                  none
                                              else
                                                none
                                          else
                                            none
                                        else
                                          none
                                      else
                                        none
                                    else
                                      none
                                  else
                                    none
                                else
                                  none
                              else
                                none
                            else
                              none
                          else
                            none
                        else
                          none
                      else
                        none
                    else
                      none
                  else
                    none
                else
                  none
              else
                none
            else
              none
          else
            none
        else
          none
      else
        none := by kernel_rfl
theorem taut17 : ∀ p0 : Bool, ((!(p0) || (p0))) = true := by decide
theorem taut18 : ∀ p0 : Bool, (((!(p0)) || (p0))) = true := by decide
theorem law_SequenceTimes.j1_clean (N : Nat) (x0 : List (ByteArray × Int × Int × Int)) (x1 : List Int) (x2 : List Int) (r3 : List Int × Int) (a13 : Int) {M : Nat} (hM : N = M + 1) : law_SequenceTimes.j1 N x0 x1 x2 r3 a13 =
    bif !(a13 == 0) then
      some ((r3.2 == a13) && ((r3.1.length : Int) == 0))
    else
      (ref_Landings.fn N (x0, x1, (vl 16 x2))).bind fun r14 =>
      bif !r14.2 then
        some ((r3.2 == 8) && ((r3.1.length : Int) == 0))
      else
      (bif (r3.2 == 0) then slices_Equal_int.fn N (r3.1, r14.1) else some (false)).bind fun r15 =>
      some ((r3.2 == 0) && r15) := by
  rw [law_SequenceTimes.j1_eq (hM := hM)]; simp only [taut17, taut18, cond_true]
theorem taut19 : ∀ p0 p1 p2 : Bool, ((!(!(p0 && ((!(p1)) || (!(p2))))) || (!(p0 && ((!(p1)) || (!(p2))))))) = true := by decide
theorem taut20 : ∀ p0 p1 p2 : Bool, ((!(!(p0 && ((!(p1)) || (!(p2))))) || ((!(!p0)) || ((!(p0 && ((!(p1)) || (!(p2))))) && (!p0))))) = true := by decide
theorem taut21 : ∀ p0 p1 p2 : Bool, ((!((!(p0 && ((!(p1)) || (!(p2))))) && (!p0)) || ((!(p0 && ((!(p1)) || (!(p2))))) && (!p0)))) = true := by decide
theorem taut22 : ∀ p0 p1 p2 p3 : Bool, ((!((!(p0 && ((!(p1)) || (!(p2))))) && (!p0)) || ((!(p3)) || (((!(p0 && ((!(p1)) || (!(p2))))) && (!p0)) && (!(!(p3))))))) = true := by decide
theorem taut23 : ∀ p0 p1 p2 p3 : Bool, ((!(((!(p0 && ((!(p1)) || (!(p2))))) && (!p0)) && (!(!(p3)))) || (((!(p0 && ((!(p1)) || (!(p2))))) && (!p0)) && (!(!(p3)))))) = true := by decide
theorem taut24 : ∀ p0 p1 : Bool, ((!(p0 && (!(!(p1)))) || (p0 && (!(!(p1)))))) = true := by decide
theorem taut25 : ∀ p0 p1 : Bool, ((!p0 || ((!(p1)) || (p0 && (!(!(p1))))))) = true := by decide
theorem taut26 : ∀ p0 p1 p2 : Bool, (((p0 && ((!(p1)) || (!(p2)))) || (!(p0 && ((!(p1)) || (!(p2))))))) = true := by decide
theorem law_SequenceTimes.l0_clean (N : Nat) (x0 : List (ByteArray × Int × Int × Int)) (x1 : List Int) (x2 : List Int) (r2 : List Int × Int) (r3 : List Int × Int) (r4 : Int × Int) (k7 : Nat) (a8 : Int) : law_SequenceTimes.l0 N x0 x1 x2 r2 r3 r4 (k7 + 1) a8 =
    bif decide (a8 < (r2.1.length : Int)) then
      bif (decide (0 ≤ a8)) && (decide (a8 < (r2.1.length : Int))) then
        bif decide ((Int.toNat a8) < r2.1.length) then
          (bif (!((decide ((List.getD r2.1 (Int.toNat a8) 0) < 0)) || (decide ((List.getD r2.1 (Int.toNat a8) 0) ≥ (x0.length : Int))))) then ref_Place.fn N (x0, (List.getD r2.1 (Int.toNat a8) 0)) else some (0)).bind fun r9 =>
          bif ((decide ((List.getD r2.1 (Int.toNat a8) 0) < 0)) || (decide ((List.getD r2.1 (Int.toNat a8) 0) ≥ (x0.length : Int)))) || (!(r9 == a8)) then
            some false
          else
            law_SequenceTimes.l0 N x0 x1 x2 r2 r3 r4 k7 (w (a8 + 1))
        else
          none
      else
        none
    else
      (ref_IsOrder.fn N (x1, (x0.length : Int))).bind fun r10 =>
      (bif (r10 && (!(!(r4.2 == 0)))) then ref_Shifted.fn N (x0, x1) else some (0)).bind fun r11 =>
      bif (r10 && ((!(r4.2 == 0)) || (!(r4.1 == r11)))) || ((!r10) && ((!(r4.2 == 3)) || (!(r4.1 == 0)))) then
        some false
      else
        (ref_TableError.fn N (vl 16 x2)).bind fun r12 =>
        bif (r12 == 0) && (!r10) then
          law_SequenceTimes.j1 N x0 x1 x2 r3 3
        else
          law_SequenceTimes.j1 N x0 x1 x2 r3 r12 := by
  rw [law_SequenceTimes.l0_succ]; simp only [taut8, taut19, taut20, taut1, taut21, taut22, taut23, taut24, taut17, taut25, taut15, taut18, taut16, taut10, taut26, taut6, cond_true]
theorem law_SequenceTimes.l0_cons (N : Nat) (x0 : List (ByteArray × Int × Int × Int)) (x1 : List Int) (x2 : List Int) (r2 : List Int × Int) (r3 : List Int × Int) (r4 : Int × Int) (k7 : Nat) {pre r} {x} (hl : r2.1 = pre ++ x :: r) (hb : r2.1.length < 4611686018427387904) : law_SequenceTimes.l0 N x0 x1 x2 r2 r3 r4 (k7 + 1) (pre.length : Int) =
    bif decide (pre.length < r2.1.length) then
      (bif (!((decide (x < 0)) || (decide (x ≥ (x0.length : Int))))) then ref_Place.fn N (x0, x) else some (0)).bind fun r9 =>
      bif ((decide (x < 0)) || (decide (x ≥ (x0.length : Int)))) || (!(r9 == (pre.length : Int))) then
        some false
      else
        law_SequenceTimes.l0 N x0 x1 x2 r2 r3 r4 k7 ((pre.length : Int) + 1)
    else
      none := by
  have hlen : r2.1.length = pre.length + 1 + r.length := by rw [hl]; simp; omega
  have e1 : decide ((pre.length : Int) < (r2.1.length : Int)) = true := by rw [decide_eq_true_iff]; omega
  have e2 : decide (0 ≤ (pre.length : Int)) = true := by rw [decide_eq_true_iff]; omega
  have e4 : w ((pre.length : Int) + 1) = (pre.length : Int) + 1 := w_next hl hb
  have e5 : List.take pre.length r2.1 = pre := by rw [hl]; simp
  have e6 : decide ((pre.length : Int) ≤ (r2.1.length : Int)) = true := by rw [decide_eq_true_iff]; omega
  have g0 : List.getD r2.1 pre.length 0 = x := by rw [hl]; exact getD_mid pre x r _
  rw [law_SequenceTimes.l0_clean]
  simp -implicitDefEqProofs only [Int.toNat_natCast, e1, e2, e4, e6, g0, e5, Bool.and_true, Bool.true_and, Bool.true_or, cond_true]
theorem law_SequenceTimes.l0_nil (N : Nat) (x0 : List (ByteArray × Int × Int × Int)) (x1 : List Int) (x2 : List Int) (r2 : List Int × Int) (r3 : List Int × Int) (r4 : Int × Int) (k7 : Nat) : law_SequenceTimes.l0 N x0 x1 x2 r2 r3 r4 (k7 + 1) (r2.1.length : Int) =
    (ref_IsOrder.fn N (x1, (x0.length : Int))).bind fun r10 =>
    (bif (r10 && (!(!(r4.2 == 0)))) then ref_Shifted.fn N (x0, x1) else some (0)).bind fun r11 =>
    bif (r10 && ((!(r4.2 == 0)) || (!(r4.1 == r11)))) || ((!r10) && ((!(r4.2 == 3)) || (!(r4.1 == 0)))) then
      some false
    else
      (ref_TableError.fn N (vl 16 x2)).bind fun r12 =>
      bif (r12 == 0) && (!r10) then
        law_SequenceTimes.j1 N x0 x1 x2 r3 3
      else
        law_SequenceTimes.j1 N x0 x1 x2 r3 r12 := by
  have e1 : decide ((r2.1.length : Int) < (r2.1.length : Int)) = false := by rw [decide_eq_false_iff_not]; omega
  rw [law_SequenceTimes.l0_clean]
  simp -implicitDefEqProofs only [e1, cond_false]
theorem law_SequenceTimes.eq (N : Nat) (x0 : List (ByteArray × Int × Int × Int)) (x1 : List Int) (x2 : List Int) : law_SequenceTimes.fn N (x0, x1, x2) =
    (law_sequenceFact.fn N ()).bind fun r1 =>
    bif !r1 then
      some false
    else
      (sequence_Natural.fn N x0).bind fun r2 =>
      (sequence_Times.fn N (x0, x1, (vl 16 x2))).bind fun r3 =>
      (sequence_Shift.fn N (x0, x1)).bind fun r4 =>
      (ref_ArrivalsError.fn N x0).bind fun r5 =>
      (sequence_Check.fn N x0).bind fun r6 =>
      bif !(!(!(r6 == r5))) || (!(!(r6 == r5))) then
        bif !(!(!(r6 == r5))) || (!(!(r6 == r5))) then
          bif (!(r6 == r5)) || (!(!(r6 == r5))) then
            bif (!(r6 == r5)) || (!(r2.2 == r5)) then
              some false
            else
            bif !(r5 == 0) then
              bif !(r3.2 == r5) || (r3.2 == r5) then
                bif !(r3.2 == r5) || (r3.2 == r5) then
                  bif (!(r3.2 == r5)) || (r3.2 == r5) then
                    bif !((r3.2 == r5) && (r4.2 == r5)) || ((r3.2 == r5) && (r4.2 == r5)) then
                      bif !((r3.2 == r5) && (r4.2 == r5)) || ((r3.2 == r5) && (r4.2 == r5)) then
                        bif !((r3.2 == r5) && (r4.2 == r5)) || ((r3.2 == r5) && (r4.2 == r5)) then
                          bif !((r3.2 == r5) && (r4.2 == r5)) || ((r3.2 == r5) && (r4.2 == r5)) then
                            bif !((r3.2 == r5) && (r4.2 == r5)) || ((r3.2 == r5) && (r4.2 == r5)) then
                              bif (!((r3.2 == r5) && (r4.2 == r5))) || ((r3.2 == r5) && (r4.2 == r5)) then
                                bif !(((r3.2 == r5) && (r4.2 == r5)) && ((w ((r2.1.length : Int) + (r3.1.length : Int))) == 0)) || (((r3.2 == r5) && (r4.2 == r5)) && ((w ((r2.1.length : Int) + (r3.1.length : Int))) == 0)) then
                                  bif (!(((r3.2 == r5) && (r4.2 == r5)) && ((w ((r2.1.length : Int) + (r3.1.length : Int))) == 0))) || (((r3.2 == r5) && (r4.2 == r5)) && ((w ((r2.1.length : Int) + (r3.1.length : Int))) == 0)) then
                                    some ((((r3.2 == r5) && (r4.2 == r5)) && ((w ((r2.1.length : Int) + (r3.1.length : Int))) == 0)) && (r4.1 == 0))
                                  else
                                    none
                                else
                                  none
                              else
                                none
                            else
                              none
                          else
                            none
                        else
                          none
                      else
                        none
                    else
                      none
                  else
                    none
                else
                  none
              else
                none
            else
            bif !((r2.1.length : Int) == (x0.length : Int)) then
              some false
            else
              law_SequenceTimes.l0 N x0 x1 x2 r2 r3 r4 N 0
          else
            none
        else
          none
      else
        none := by kernel_rfl
theorem taut27 : ∀ p0 : Bool, ((!(!(!(p0))) || (!(!(p0))))) = true := by decide
theorem taut28 : ∀ p0 p1 p2 : Bool, ((!(((p0) && (p1)) && (p2)) || (((p0) && (p1)) && (p2)))) = true := by decide
theorem taut29 : ∀ p0 p1 : Bool, ((!((p0) && (p1)) || ((p0) && (p1)))) = true := by decide
theorem taut30 : ∀ p0 p1 p2 : Bool, (((!(((p0) && (p1)) && (p2))) || (((p0) && (p1)) && (p2)))) = true := by decide
theorem taut31 : ∀ p0 p1 : Bool, (((!((p0) && (p1))) || ((p0) && (p1)))) = true := by decide
theorem taut32 : ∀ p0 : Bool, (((!(p0)) || (!(!(p0))))) = true := by decide
theorem law_SequenceTimes.clean (N : Nat) (x0 : List (ByteArray × Int × Int × Int)) (x1 : List Int) (x2 : List Int) : law_SequenceTimes.fn N (x0, x1, x2) =
    (law_sequenceFact.fn N ()).bind fun r1 =>
    bif !r1 then
      some false
    else
      (sequence_Natural.fn N x0).bind fun r2 =>
      (sequence_Times.fn N (x0, x1, (vl 16 x2))).bind fun r3 =>
      (sequence_Shift.fn N (x0, x1)).bind fun r4 =>
      (ref_ArrivalsError.fn N x0).bind fun r5 =>
      (sequence_Check.fn N x0).bind fun r6 =>
      bif (!(r6 == r5)) || (!(r2.2 == r5)) then
        some false
      else
      bif !(r5 == 0) then
        some ((((r3.2 == r5) && (r4.2 == r5)) && ((w ((r2.1.length : Int) + (r3.1.length : Int))) == 0)) && (r4.1 == 0))
      else
      bif !((r2.1.length : Int) == (x0.length : Int)) then
        some false
      else
        law_SequenceTimes.l0 N x0 x1 x2 r2 r3 r4 N 0 := by
  rw [law_SequenceTimes.eq]; simp only [taut27, taut28, taut29, taut17, taut30, taut31, taut32, taut18, cond_true]

end Go.Proofs.Ytoapmjnfiimmjaa.Sk
