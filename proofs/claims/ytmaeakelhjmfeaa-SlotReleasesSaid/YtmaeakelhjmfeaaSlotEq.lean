/- PRINTED by gen.py: what the functions answer, part 2. Not trusted: Lean checks it. -/
import Derived.Test.YtmaeakelhjmfeaaSlotEq1
set_option linter.unusedVariables false
set_option linter.unusedSimpArgs false
set_option maxRecDepth 100000
namespace Go.Proofs.Ytmaeakelhjmfeaa.Sk
open Go
/-! ### law_delays: skyway/skywaylaw3.delays -/
def law_delays.kp : List (Nat × List (Nat × Option (TypeId × Ty))) := [(8, [(1, none), (7, some (3, .int .i64)), (20, none), (21, none), (22, none)]), (12, [(1, none), (7, none), (9, none), (10, none), (11, none), (20, none), (21, none), (22, none)])]
noncomputable def law_delays.G (N : Nat) : List (Nat × Spec) := [(53, .pure (ref_DemandsError.S N))]
noncomputable def law_delays.E (N : Nat) : Env := mkEnv (law_delays.G N) N tyTab law_delays.kp
noncomputable def law_delays.fn (N : Nat) (x : List (ByteArray × Int) × List (ByteArray × ByteArray × Int)) : Option (List Int × Int) := evFn (law_delays.E N) Try.prog 3 Try.f61 false [.cell (.sl 106 (.pair (.str) (.int .i64))), .cell (.sl 94 (.pair (.str) (.pair (.str) (.int .i64))))] [.own 3 (.int .i64), .val (.cell (.int .i64))] x
noncomputable def law_delays.S (N : Nat) : PSpec := ⟨false, [.cell (.sl 106 (.pair (.str) (.int .i64))), .cell (.sl 94 (.pair (.str) (.pair (.str) (.int .i64))))], [.own 3 (.int .i64), .val (.cell (.int .i64))], law_delays.fn N⟩
theorem f61_enters : Enters Try.prog 61 := ⟨Try.f61, Try.func61, by kernel_rfl, by kernel_rfl⟩
theorem law_delays.tab (N : Nat) : TabOk Try.prog (law_delays.G N) := ⟨⟨ref_DemandsError.enters, ref_DemandsError.sound N⟩, trivial⟩
theorem law_delays.enters : Enters Try.prog 61 := f61_enters
theorem law_delays.sound (N : Nat) : Sound Try.prog 61 (law_delays.S N) := evFn_sound (specs_tab (law_delays.tab N)) (inls_tab (law_delays.tab N)) mixed 3 Try.func61 _ _ _
noncomputable def law_delays.cd (N : Nat) (p : List Nat) : St → (Ex → St → Option (List Int × Int)) → Option (List Int × Int) := ev (law_delays.E N) Try.prog (callD (law_delays.E N) Try.prog 3) 0 (codeAt (bodyOf Try.f61) p)
noncomputable def law_delays.fin : Ex → St → Option (List Int × Int) := endK Try.prog Try.f61 [.own 3 (.int .i64), .val (.cell (.int .i64))]
noncomputable def law_delays.l0 (N : Nat) (x0 : List (ByteArray × Int)) (x1 : List (ByteArray × ByteArray × Int)) (k2 : Nat) (a3 : Int) (a4 : List Int) : Option (List Int × Int) :=
  loopN (norm ((law_delays.E N).keep 8) 0) (law_delays.cd N [1, 1, 1, 1, 0, 1, 0, 0]) k2
  ⟨[.any, .ros false 94 (.pair (.str) (.pair (.str) (.int .i64))) x1, .any, .any, .any, .any, .any, .own 0, .any, .any, .any, .any, .any, .any, .any, .any, .any, .any, .any, .any, .ros false 106 (.pair (.str) (.int .i64)) x0, .sc (.int .i64 (x0.length : Int)), .sc (.int .i64 a3), .any, .any, .any, .any, .any, .any, .any, .any, .any, .any, .any, .any, .any, .any, .any, .any, .any, .any, .any, .any, .any, .any, .any, .any, .any, .any, .any, .any, .any, .any, .any, .any, .any, .any, .any, .any, .any, .any, .any, .any, .any, .any, .any, .any, .any, .any, .any, .any, .any, .any], [.rows true 3 (.int .i64) a4]⟩
  (blockK 0 (seqK (law_delays.cd N [1, 1, 1, 1, 1]) law_delays.fin))
noncomputable def law_delays.l1 (N : Nat) (x0 : List (ByteArray × Int)) (x1 : List (ByteArray × ByteArray × Int)) (k2 : Nat) (a3 : Int) (a4 : List Int) (k5 : Nat) (a6 : Int) (a7 : Int) : Option (List Int × Int) :=
  loopN (norm ((law_delays.E N).keep 12) 0) (law_delays.cd N [1, 1, 1, 1, 0, 1, 0, 0, 1, 1, 0, 0, 1, 1, 0, 1, 0, 0]) k5
  ⟨[.any, .ros false 94 (.pair (.str) (.pair (.str) (.int .i64))) x1, .any, .any, .any, .any, .any, .own 0, .any, .ptr 1 0, .sc (.int .i64 a6), .sc (.int .i64 a7), .any, .any, .any, .any, .any, .any, .any, .any, .ros false 106 (.pair (.str) (.int .i64)) x0, .sc (.int .i64 (x0.length : Int)), .sc (.int .i64 a3), .any, .any, .any, .any, .any, .any, .any, .any, .any, .any, .any, .any, .any, .any, .any, .any, .any, .any, .any, .any, .any, .any, .any, .any, .any, .any, .any, .any, .any, .any, .any, .any, .any, .any, .any, .any, .any, .any, .any, .any, .any, .any, .any, .any, .any, .any, .any, .any, .any, .any], [.rows true 3 (.int .i64) a4, .cells [.sc (.string ((List.getD x0 (Int.toNat a3) ((⟨#[]⟩ : ByteArray), 0)).1)), .sc (.int .i64 ((List.getD x0 (Int.toNat a3) ((⟨#[]⟩ : ByteArray), 0)).2))] 106]⟩
  (blockK 2 (seqK (law_delays.cd N [1, 1, 1, 1, 0, 1, 0, 0, 1, 1, 0, 0, 1, 1, 1]) (blockK 1 (seqK (law_delays.cd N [1, 1, 1, 1, 0, 1, 0, 0, 1, 1, 1]) (loopK (norm ((law_delays.E N).keep 8) 0) (law_delays.cd N [1, 1, 1, 1, 0, 1, 0, 0]) k2 (blockK 0 (seqK (law_delays.cd N [1, 1, 1, 1, 1]) law_delays.fin)))))))
theorem law_delays.l1_zero (N : Nat) (x0 : List (ByteArray × Int)) (x1 : List (ByteArray × ByteArray × Int)) (k2 : Nat) (a3 : Int) (a4 : List Int) (a6 : Int) (a7 : Int) : law_delays.l1 N x0 x1 k2 a3 a4 0 a6 a7 = none := by kernel_rfl
theorem law_delays.l1_succ (N : Nat) (x0 : List (ByteArray × Int)) (x1 : List (ByteArray × ByteArray × Int)) (k2 : Nat) (a3 : Int) (a4 : List Int) (k5 : Nat) (a6 : Int) (a7 : Int) : law_delays.l1 N x0 x1 k2 a3 a4 (k5 + 1) a6 a7 =
    bif decide (a7 ≥ 0) then
      bif (decide (0 ≤ a7)) && (decide (a7 < (x1.length : Int))) then
        bif seq ((List.getD x1 (Int.toNat a7) ((⟨#[]⟩ : ByteArray), ((⟨#[]⟩ : ByteArray), 0))).1) ((List.getD x0 (Int.toNat a3) ((⟨#[]⟩ : ByteArray), 0)).1) then
          law_delays.l1 N x0 x1 k2 a3 a4 k5 a7 (w (a7 - 1))
        else
          law_delays.l1 N x0 x1 k2 a3 a4 k5 a6 (w (a7 - 1))
      else
        none
    else
    bif decide (a6 < 0) then
      some ([], 8)
    else
    bif (decide (0 ≤ a6)) && (decide (a6 < (x1.length : Int))) then
      bif !(!(decide ((((List.getD x1 (Int.toNat a6) ((⟨#[]⟩ : ByteArray), ((⟨#[]⟩ : ByteArray), 0))).2).2) < ((List.getD x0 (Int.toNat a3) ((⟨#[]⟩ : ByteArray), 0)).2)))) || (!(decide ((((List.getD x1 (Int.toNat a6) ((⟨#[]⟩ : ByteArray), ((⟨#[]⟩ : ByteArray), 0))).2).2) < ((List.getD x0 (Int.toNat a3) ((⟨#[]⟩ : ByteArray), 0)).2)))) then
        bif !(!(decide ((((List.getD x1 (Int.toNat a6) ((⟨#[]⟩ : ByteArray), ((⟨#[]⟩ : ByteArray), 0))).2).2) < ((List.getD x0 (Int.toNat a3) ((⟨#[]⟩ : ByteArray), 0)).2)))) || (!(decide ((((List.getD x1 (Int.toNat a6) ((⟨#[]⟩ : ByteArray), ((⟨#[]⟩ : ByteArray), 0))).2).2) < ((List.getD x0 (Int.toNat a3) ((⟨#[]⟩ : ByteArray), 0)).2)))) then
          bif ((decide (0 ≤ a6)) && (decide (a6 < (x1.length : Int)))) || !(!(decide ((((List.getD x1 (Int.toNat a6) ((⟨#[]⟩ : ByteArray), ((⟨#[]⟩ : ByteArray), 0))).2).2) < ((List.getD x0 (Int.toNat a3) ((⟨#[]⟩ : ByteArray), 0)).2)))) then
            bif !(!(decide ((((List.getD x1 (Int.toNat a6) ((⟨#[]⟩ : ByteArray), ((⟨#[]⟩ : ByteArray), 0))).2).2) < ((List.getD x0 (Int.toNat a3) ((⟨#[]⟩ : ByteArray), 0)).2)))) || (!(decide ((((List.getD x1 (Int.toNat a6) ((⟨#[]⟩ : ByteArray), ((⟨#[]⟩ : ByteArray), 0))).2).2) < ((List.getD x0 (Int.toNat a3) ((⟨#[]⟩ : ByteArray), 0)).2)))) then
              bif !(!(decide ((((List.getD x1 (Int.toNat a6) ((⟨#[]⟩ : ByteArray), ((⟨#[]⟩ : ByteArray), 0))).2).2) < ((List.getD x0 (Int.toNat a3) ((⟨#[]⟩ : ByteArray), 0)).2)))) || (!(decide ((((List.getD x1 (Int.toNat a6) ((⟨#[]⟩ : ByteArray), ((⟨#[]⟩ : ByteArray), 0))).2).2) < ((List.getD x0 (Int.toNat a3) ((⟨#[]⟩ : ByteArray), 0)).2)))) then
                bif !(!(decide ((((List.getD x1 (Int.toNat a6) ((⟨#[]⟩ : ByteArray), ((⟨#[]⟩ : ByteArray), 0))).2).2) < ((List.getD x0 (Int.toNat a3) ((⟨#[]⟩ : ByteArray), 0)).2)))) || (!(decide ((((List.getD x1 (Int.toNat a6) ((⟨#[]⟩ : ByteArray), ((⟨#[]⟩ : ByteArray), 0))).2).2) < ((List.getD x0 (Int.toNat a3) ((⟨#[]⟩ : ByteArray), 0)).2)))) then
                  bif (decide ((((List.getD x1 (Int.toNat a6) ((⟨#[]⟩ : ByteArray), ((⟨#[]⟩ : ByteArray), 0))).2).2) < ((List.getD x0 (Int.toNat a3) ((⟨#[]⟩ : ByteArray), 0)).2))) || (!(decide ((((List.getD x1 (Int.toNat a6) ((⟨#[]⟩ : ByteArray), ((⟨#[]⟩ : ByteArray), 0))).2).2) < ((List.getD x0 (Int.toNat a3) ((⟨#[]⟩ : ByteArray), 0)).2)))) then
                    bif (decide ((((List.getD x1 (Int.toNat a6) ((⟨#[]⟩ : ByteArray), ((⟨#[]⟩ : ByteArray), 0))).2).2) < ((List.getD x0 (Int.toNat a3) ((⟨#[]⟩ : ByteArray), 0)).2))) || (decide ((((List.getD x1 (Int.toNat a6) ((⟨#[]⟩ : ByteArray), ((⟨#[]⟩ : ByteArray), 0))).2).2) > 200000)) then
                      some ([], 12)
                    else
                    bif (decide (0 ≤ a6)) && (decide (a6 < (x1.length : Int))) then
                      bif decide ((a4.length + 1) * 8 ≤ 140737488355328) && decide ((a4.length + 1) ≤ maxLen) then
                        law_delays.l0 N x0 x1 k2 (w (a3 + 1)) (a4 ++ [(w ((((List.getD x1 (Int.toNat a6) ((⟨#[]⟩ : ByteArray), ((⟨#[]⟩ : ByteArray), 0))).2).2) - ((List.getD x0 (Int.toNat a3) ((⟨#[]⟩ : ByteArray), 0)).2)))])
                      else
                        none
                    else
                      none
                  else
                    none
                else
                  none
              else
                none
            else
              none
          else
            none
        else
          none
      else
        none
    else
      none := by kernel_rfl
theorem law_delays.l0_zero (N : Nat) (x0 : List (ByteArray × Int)) (x1 : List (ByteArray × ByteArray × Int)) (a3 : Int) (a4 : List Int) : law_delays.l0 N x0 x1 0 a3 a4 = none := by kernel_rfl
theorem law_delays.l0_succ (N : Nat) (x0 : List (ByteArray × Int)) (x1 : List (ByteArray × ByteArray × Int)) (k2 : Nat) (a3 : Int) (a4 : List Int) : law_delays.l0 N x0 x1 (k2 + 1) a3 a4 =
    bif decide (a3 < (x0.length : Int)) then
      bif (decide (0 ≤ a3)) && (decide (a3 < (x0.length : Int))) then
        law_delays.l1 N x0 x1 k2 a3 a4 N (-1) (w ((x1.length : Int) - 1))
      else
        none
    else
      some (a4, 0) := by kernel_rfl
theorem law_delays.l1_clean (N : Nat) (x0 : List (ByteArray × Int)) (x1 : List (ByteArray × ByteArray × Int)) (k2 : Nat) (a3 : Int) (a4 : List Int) (k5 : Nat) (a6 : Int) (a7 : Int) : law_delays.l1 N x0 x1 k2 a3 a4 (k5 + 1) a6 a7 =
    bif decide (a7 ≥ 0) then
      bif (decide (0 ≤ a7)) && (decide (a7 < (x1.length : Int))) then
        bif seq ((List.getD x1 (Int.toNat a7) ((⟨#[]⟩ : ByteArray), ((⟨#[]⟩ : ByteArray), 0))).1) ((List.getD x0 (Int.toNat a3) ((⟨#[]⟩ : ByteArray), 0)).1) then
          law_delays.l1 N x0 x1 k2 a3 a4 k5 a7 (w (a7 - 1))
        else
          law_delays.l1 N x0 x1 k2 a3 a4 k5 a6 (w (a7 - 1))
      else
        none
    else
    bif decide (a6 < 0) then
      some ([], 8)
    else
    bif (decide (0 ≤ a6)) && (decide (a6 < (x1.length : Int))) then
      bif ((decide (0 ≤ a6)) && (decide (a6 < (x1.length : Int)))) || !(!(decide ((((List.getD x1 (Int.toNat a6) ((⟨#[]⟩ : ByteArray), ((⟨#[]⟩ : ByteArray), 0))).2).2) < ((List.getD x0 (Int.toNat a3) ((⟨#[]⟩ : ByteArray), 0)).2)))) then
        bif (decide ((((List.getD x1 (Int.toNat a6) ((⟨#[]⟩ : ByteArray), ((⟨#[]⟩ : ByteArray), 0))).2).2) < ((List.getD x0 (Int.toNat a3) ((⟨#[]⟩ : ByteArray), 0)).2))) || (decide ((((List.getD x1 (Int.toNat a6) ((⟨#[]⟩ : ByteArray), ((⟨#[]⟩ : ByteArray), 0))).2).2) > 200000)) then
          some ([], 12)
        else
        bif (decide (0 ≤ a6)) && (decide (a6 < (x1.length : Int))) then
          bif decide ((a4.length + 1) * 8 ≤ 140737488355328) && decide ((a4.length + 1) ≤ maxLen) then
            law_delays.l0 N x0 x1 k2 (w (a3 + 1)) (a4 ++ [(w ((((List.getD x1 (Int.toNat a6) ((⟨#[]⟩ : ByteArray), ((⟨#[]⟩ : ByteArray), 0))).2).2) - ((List.getD x0 (Int.toNat a3) ((⟨#[]⟩ : ByteArray), 0)).2)))])
          else
            none
        else
          none
      else
        none
    else
      none := by
  rw [law_delays.l1_succ]; simp only [taut1, taut6, cond_true]
theorem law_delays.l0_cons (N : Nat) (x0 : List (ByteArray × Int)) (x1 : List (ByteArray × ByteArray × Int)) (k2 : Nat) (a4 : List Int) {pre r} {x} (hl : x0 = pre ++ x :: r) (hb : x0.length < 4611686018427387904) : law_delays.l0 N x0 x1 (k2 + 1) (pre.length : Int) a4 =
    law_delays.l1 N x0 x1 k2 (pre.length : Int) a4 N (-1) (w ((x1.length : Int) - 1)) := by
  have hlen : x0.length = pre.length + 1 + r.length := by rw [hl]; simp; omega
  have e1 : decide ((pre.length : Int) < (x0.length : Int)) = true := by rw [decide_eq_true_iff]; omega
  have e2 : decide (0 ≤ (pre.length : Int)) = true := by rw [decide_eq_true_iff]; omega
  have e4 : w ((pre.length : Int) + 1) = (pre.length : Int) + 1 := w_next hl hb
  have e5 : List.take pre.length x0 = pre := by rw [hl]; simp
  have e6 : decide ((pre.length : Int) ≤ (x0.length : Int)) = true := by rw [decide_eq_true_iff]; omega
  rw [law_delays.l0_succ]
  simp -implicitDefEqProofs only [Int.toNat_natCast, e1, e2, e4, e6, e5, Bool.and_true, Bool.true_and, Bool.true_or, cond_true]
theorem law_delays.l0_nil (N : Nat) (x0 : List (ByteArray × Int)) (x1 : List (ByteArray × ByteArray × Int)) (k2 : Nat) (a4 : List Int) : law_delays.l0 N x0 x1 (k2 + 1) (x0.length : Int) a4 =
    some (a4, 0) := by
  have e1 : decide ((x0.length : Int) < (x0.length : Int)) = false := by rw [decide_eq_false_iff_not]; omega
  rw [law_delays.l0_succ]
  simp -implicitDefEqProofs only [e1, cond_false]
theorem law_delays.eq (N : Nat) (x0 : List (ByteArray × Int)) (x1 : List (ByteArray × ByteArray × Int)) : law_delays.fn N (x0, x1) =
    (ref_DemandsError.fn N x0).bind fun r1 =>
    bif !(r1 == 0) then
      some ([], r1)
    else
    bif decide ((x1.length : Int) > 24) then
      some ([], 2)
    else
      law_delays.l0 N x0 x1 N 0 [] := by kernel_rfl

/-! ### law_SlotDelays_1: skyway/skywaylaw3.SlotDelays$1 -/
def law_SlotDelays_1.kp : List (Nat × List (Nat × Option (TypeId × Ty))) := []
noncomputable def law_SlotDelays_1.G (N : Nat) : List (Nat × Spec) := []
noncomputable def law_SlotDelays_1.E (N : Nat) : Env := mkEnv (law_SlotDelays_1.G N) N tyTab law_SlotDelays_1.kp
noncomputable def law_SlotDelays_1.fn (N : Nat) (x : (ByteArray × ByteArray × Int) × ByteArray) : Option Bool := evFn (law_SlotDelays_1.E N) Try.prog 3 Try.f64 false [.agg (.pair (.str) (.pair (.str) (.int .i64))), .box (.str)] [.val (.cell (.bool))] x
noncomputable def law_SlotDelays_1.S (N : Nat) : PSpec := ⟨false, [.agg (.pair (.str) (.pair (.str) (.int .i64))), .box (.str)], [.val (.cell (.bool))], law_SlotDelays_1.fn N⟩
theorem f64_enters : Enters Try.prog 64 := ⟨Try.f64, Try.func64, by kernel_rfl, by kernel_rfl⟩
theorem law_SlotDelays_1.tab (N : Nat) : TabOk Try.prog (law_SlotDelays_1.G N) := trivial
theorem law_SlotDelays_1.enters : Enters Try.prog 64 := f64_enters
theorem law_SlotDelays_1.sound (N : Nat) : Sound Try.prog 64 (law_SlotDelays_1.S N) := evFn_sound (specs_tab (law_SlotDelays_1.tab N)) (inls_tab (law_SlotDelays_1.tab N)) mixed 3 Try.func64 _ _ _
theorem law_SlotDelays_1.eq (N : Nat) (x0 : ByteArray × ByteArray × Int) (x1 : ByteArray) : law_SlotDelays_1.fn N (x0, x1) =
    some (seq x0.1 x1) := by kernel_rfl

/-! ### law_SlotDelays_2: skyway/skywaylaw3.SlotDelays$2 -/
def law_SlotDelays_2.kp : List (Nat × List (Nat × Option (TypeId × Ty))) := []
noncomputable def law_SlotDelays_2.G (N : Nat) : List (Nat × Spec) := []
noncomputable def law_SlotDelays_2.E (N : Nat) : Env := mkEnv (law_SlotDelays_2.G N) N tyTab law_SlotDelays_2.kp
noncomputable def law_SlotDelays_2.fn (N : Nat) (x : (ByteArray × ByteArray × Int) × ByteArray) : Option Bool := evFn (law_SlotDelays_2.E N) Try.prog 3 Try.f65 false [.agg (.pair (.str) (.pair (.str) (.int .i64))), .box (.str)] [.val (.cell (.bool))] x
noncomputable def law_SlotDelays_2.S (N : Nat) : PSpec := ⟨false, [.agg (.pair (.str) (.pair (.str) (.int .i64))), .box (.str)], [.val (.cell (.bool))], law_SlotDelays_2.fn N⟩
theorem f65_enters : Enters Try.prog 65 := ⟨Try.f65, Try.func65, by kernel_rfl, by kernel_rfl⟩
theorem law_SlotDelays_2.tab (N : Nat) : TabOk Try.prog (law_SlotDelays_2.G N) := trivial
theorem law_SlotDelays_2.enters : Enters Try.prog 65 := f65_enters
theorem law_SlotDelays_2.sound (N : Nat) : Sound Try.prog 65 (law_SlotDelays_2.S N) := evFn_sound (specs_tab (law_SlotDelays_2.tab N)) (inls_tab (law_SlotDelays_2.tab N)) mixed 3 Try.func65 _ _ _
theorem law_SlotDelays_2.eq (N : Nat) (x0 : ByteArray × ByteArray × Int) (x1 : ByteArray) : law_SlotDelays_2.fn N (x0, x1) =
    some (seq x0.1 x1) := by kernel_rfl

/-! ### law_SlotDelays: skyway/skywaylaw3.SlotDelays -/
def law_SlotDelays.kp : List (Nat × List (Nat × Option (TypeId × Ty))) := [(2, [(0, none), (1, none), (7, none), (8, none)])]
noncomputable def law_SlotDelays.G (N : Nat) : List (Nat × Spec) := [(50, .pure (law_slotFact.S N)), (58, .pure (slices_Equal_Slot.S N)), (59, .pure (slot_Delays.S N)), (60, .pure (slot_Swap.S N)), (61, .pure (law_delays.S N)), (62, .pure (slices_Equal_int.S N)), (64, .pure (law_SlotDelays_1.S N)), (65, .pure (law_SlotDelays_2.S N)), (66, .pure (slices_Clone_Slot.S N)), (63, .inl Try.f63)]
noncomputable def law_SlotDelays.E (N : Nat) : Env := mkEnv (law_SlotDelays.G N) N tyTab law_SlotDelays.kp
noncomputable def law_SlotDelays.fn (N : Nat) (x : List (ByteArray × Int) × List (ByteArray × ByteArray × Int) × ByteArray × ByteArray) : Option Bool := evFn (law_SlotDelays.E N) Try.prog 3 Try.f10 false [.cell (.sl 106 (.pair (.str) (.int .i64))), .cell (.sl 94 (.pair (.str) (.pair (.str) (.int .i64)))), .cell (.str), .cell (.str)] [.val (.cell (.bool))] x
noncomputable def law_SlotDelays.S (N : Nat) : PSpec := ⟨false, [.cell (.sl 106 (.pair (.str) (.int .i64))), .cell (.sl 94 (.pair (.str) (.pair (.str) (.int .i64)))), .cell (.str), .cell (.str)], [.val (.cell (.bool))], law_SlotDelays.fn N⟩

theorem f10_enters : Enters Try.prog 10 := ⟨Try.f10, Try.func10, by kernel_rfl, by kernel_rfl⟩
theorem law_SlotDelays.tab (N : Nat) : TabOk Try.prog (law_SlotDelays.G N) := ⟨⟨law_slotFact.enters, law_slotFact.sound N⟩, ⟨slices_Equal_Slot.enters, slices_Equal_Slot.sound N⟩, ⟨slot_Delays.enters, slot_Delays.sound N⟩, ⟨slot_Swap.enters, slot_Swap.sound N⟩, ⟨law_delays.enters, law_delays.sound N⟩, ⟨slices_Equal_int.enters, slices_Equal_int.sound N⟩, ⟨law_SlotDelays_1.enters, law_SlotDelays_1.sound N⟩, ⟨law_SlotDelays_2.enters, law_SlotDelays_2.sound N⟩, ⟨slices_Clone_Slot.enters, slices_Clone_Slot.sound N⟩, ⟨f63_enters, Try.func63⟩, trivial⟩
theorem law_SlotDelays.enters : Enters Try.prog 10 := f10_enters
theorem law_SlotDelays.sound (N : Nat) : Sound Try.prog 10 (law_SlotDelays.S N) := evFn_sound (specs_tab (law_SlotDelays.tab N)) (inls_tab (law_SlotDelays.tab N)) mixed 3 Try.func10 _ _ _
noncomputable def law_SlotDelays.cd (N : Nat) (p : List Nat) : St → (Ex → St → Option Bool) → Option Bool := ev (law_SlotDelays.E N) Try.prog (callD (law_SlotDelays.E N) Try.prog 3) 0 (codeAt (bodyOf Try.f10) p)
noncomputable def law_SlotDelays.cd63_2_5 (N : Nat) (p : List Nat) : St → (Ex → St → Option Bool) → Option Bool := ev (law_SlotDelays.E N) Try.prog (callD (law_SlotDelays.E N) Try.prog 2) 5 (codeAt (bodyOf Try.f63) p)
noncomputable def law_SlotDelays.fin : Ex → St → Option Bool := endK Try.prog Try.f10 [.val (.cell (.bool))]
noncomputable def law_SlotDelays.l0 (N : Nat) (x0 : List (ByteArray × Int)) (x1 : List (ByteArray × ByteArray × Int)) (x2 : ByteArray) (x3 : ByteArray) (r1 : Bool) (r2 : List Int × Int) (r3 : List (ByteArray × ByteArray × Int) × Int) (r4 : List Int × Int) (r5 : Bool) (k6 : Nat) (a7 : Int) : Option Bool :=
  loopN (norm ((law_SlotDelays.E N).keep 2) 5) (law_SlotDelays.cd63_2_5 N [1, 0, 1, 0, 0]) k6
  ⟨[.ros false 94 (.pair (.str) (.pair (.str) (.int .i64))) x1, .clo 64 [.ptr 0 0], .any, .any, .any, .any, .any, .sc (.int .i64 (x1.length : Int)), .sc (.int .i64 a7), .any, .any, .any, .any, .any, .any, .any, .any, .any, .any], [.cells [.sc (.string x2)] 9, .cells [.sc (.string x3)] 9, .rows true 3 (.int .i64) r2.1, .rows true 94 (.pair (.str) (.pair (.str) (.int .i64))) r3.1, .rows true 3 (.int .i64) r4.1]⟩
  (blockK 0 (seqK (law_SlotDelays.cd63_2_5 N [1, 1]) (retK Try.prog Try.f63 (fun vs hp => (reg (law_SlotDelays.E N) Try.prog (callD (law_SlotDelays.E N) Try.prog 3) (opsAt (codeAt (bodyOf Try.f10) [1, 1, 1, 1, 1, 1, 1, 0])) [] (List.drop 3 (opsAt (codeAt (bodyOf Try.f10) [1, 1, 1, 1, 1, 1, 1, 0]))) (St.put ⟨[.ros false 106 (.pair (.str) (.int .i64)) x0, .ros false 94 (.pair (.str) (.pair (.str) (.int .i64))) x1, .sc (.string x2), .sc (.string x3), .any, .any, .ptr 0 0, .ptr 1 0, .sc (.bool false), .own 2, .sc (.int .i64 r2.2), .own 3, .sc (.int .i64 r3.2), .own 4, .sc (.int .i64 r4.2), .any, .any, .any, .any, .any, .sc (.bool r1), .sc (.bool (!r1)), .tup [.own 2, .sc (.int .i64 r2.2)], .ros false 106 (.pair (.str) (.int .i64)) x0, .ros false 94 (.pair (.str) (.pair (.str) (.int .i64))) x1, .tup [.own 2, .sc (.int .i64 r2.2)], .own 2, .sc (.int .i64 r2.2), .tup [.own 3, .sc (.int .i64 r3.2)], .ros false 106 (.pair (.str) (.int .i64)) x0, .ros false 94 (.pair (.str) (.pair (.str) (.int .i64))) x1, .sc (.string x2), .sc (.string x3), .tup [.own 3, .sc (.int .i64 r3.2)], .own 3, .sc (.int .i64 r3.2), .tup [.own 4, .sc (.int .i64 r4.2)], .ros false 106 (.pair (.str) (.int .i64)) x0, .ros false 94 (.pair (.str) (.pair (.str) (.int .i64))) x1, .tup [.own 4, .sc (.int .i64 r4.2)], .own 4, .sc (.int .i64 r4.2), .sc (.int .i64 r2.2), .sc (.int .i64 r4.2), .sc (.bool (!(r2.2 == r4.2))), .sc (.bool (!(r2.2 == r4.2))), .gd (!(!(r2.2 == r4.2))) (.own 2), .gd (!(!(r2.2 == r4.2))) (.own 4), .gd (!(!(r2.2 == r4.2))) (.sc (.bool r5)), .gd (!(!(r2.2 == r4.2))) (.sc (.bool (!r5))), .sc (.bool ((!(r2.2 == r4.2)) || (!r5))), .sc (.int .i64 r4.2), .sc (.bool (!(r4.2 == 0))), .any, .any, .any, .any, .any, .any, .any, .any, .ros false 94 (.pair (.str) (.pair (.str) (.int .i64))) x1, .clo 64 [.ptr 0 0], .any, .any, .any, .any, .any, .any, .any, .any, .any, .any, .any, .any, .any, .any, .any, .any, .any, .any, .any, .any, .any, .any, .any, .any, .any, .any, .any, .any, .any, .any, .any, .any, .any, .any, .any, .any, .any, .any, .any, .any, .any, .any, .any, .any, .any, .any, .any, .any, .any, .any, .any, .any, .any, .any, .any, .any, .any, .any, .any], hp⟩ (some 63) (tupOf vs)) (fun S => (seqK (law_SlotDelays.cd N [1, 1, 1, 1, 1, 1, 1, 1]) law_SlotDelays.fin) .normal S))))))
noncomputable def law_SlotDelays.l1 (N : Nat) (x0 : List (ByteArray × Int)) (x1 : List (ByteArray × ByteArray × Int)) (x2 : ByteArray) (x3 : ByteArray) (r1 : Bool) (r2 : List Int × Int) (r3 : List (ByteArray × ByteArray × Int) × Int) (r4 : List Int × Int) (r5 : Bool) (a7 : Int) (k9 : Nat) (a10 : Int) : Option Bool :=
  loopN (norm ((law_SlotDelays.E N).keep 2) 5) (law_SlotDelays.cd63_2_5 N [1, 0, 1, 0, 0]) k9
  ⟨[.ros false 94 (.pair (.str) (.pair (.str) (.int .i64))) x1, .clo 65 [.ptr 1 0], .any, .any, .any, .any, .any, .sc (.int .i64 (x1.length : Int)), .sc (.int .i64 a10), .any, .any, .any, .any, .any, .any, .any, .any, .any, .any], [.cells [.sc (.string x2)] 9, .cells [.sc (.string x3)] 9, .rows true 3 (.int .i64) r2.1, .rows true 94 (.pair (.str) (.pair (.str) (.int .i64))) r3.1, .rows true 3 (.int .i64) r4.1]⟩
  (blockK 0 (seqK (law_SlotDelays.cd63_2_5 N [1, 1]) (retK Try.prog Try.f63 (fun vs hp => (reg (law_SlotDelays.E N) Try.prog (callD (law_SlotDelays.E N) Try.prog 3) (opsAt (codeAt (bodyOf Try.f10) [1, 1, 1, 1, 1, 1, 1, 1, 0])) [] (List.drop 3 (opsAt (codeAt (bodyOf Try.f10) [1, 1, 1, 1, 1, 1, 1, 1, 0]))) (St.put ⟨[.ros false 106 (.pair (.str) (.int .i64)) x0, .ros false 94 (.pair (.str) (.pair (.str) (.int .i64))) x1, .sc (.string x2), .sc (.string x3), .any, .any, .ptr 0 0, .ptr 1 0, .sc (.bool false), .own 2, .sc (.int .i64 r2.2), .own 3, .sc (.int .i64 r3.2), .own 4, .sc (.int .i64 r4.2), .sc (.int .i64 a7), .any, .any, .any, .any, .sc (.bool r1), .sc (.bool (!r1)), .tup [.own 2, .sc (.int .i64 r2.2)], .ros false 106 (.pair (.str) (.int .i64)) x0, .ros false 94 (.pair (.str) (.pair (.str) (.int .i64))) x1, .tup [.own 2, .sc (.int .i64 r2.2)], .own 2, .sc (.int .i64 r2.2), .tup [.own 3, .sc (.int .i64 r3.2)], .ros false 106 (.pair (.str) (.int .i64)) x0, .ros false 94 (.pair (.str) (.pair (.str) (.int .i64))) x1, .sc (.string x2), .sc (.string x3), .tup [.own 3, .sc (.int .i64 r3.2)], .own 3, .sc (.int .i64 r3.2), .tup [.own 4, .sc (.int .i64 r4.2)], .ros false 106 (.pair (.str) (.int .i64)) x0, .ros false 94 (.pair (.str) (.pair (.str) (.int .i64))) x1, .tup [.own 4, .sc (.int .i64 r4.2)], .own 4, .sc (.int .i64 r4.2), .sc (.int .i64 r2.2), .sc (.int .i64 r4.2), .sc (.bool (!(r2.2 == r4.2))), .sc (.bool (!(r2.2 == r4.2))), .gd (!(!(r2.2 == r4.2))) (.own 2), .gd (!(!(r2.2 == r4.2))) (.own 4), .gd (!(!(r2.2 == r4.2))) (.sc (.bool r5)), .gd (!(!(r2.2 == r4.2))) (.sc (.bool (!r5))), .sc (.bool ((!(r2.2 == r4.2)) || (!r5))), .sc (.int .i64 r4.2), .sc (.bool (!(r4.2 == 0))), .any, .any, .any, .any, .any, .any, .any, .any, .ros false 94 (.pair (.str) (.pair (.str) (.int .i64))) x1, .clo 64 [.ptr 0 0], .sc (.int .i64 a7), .ros false 94 (.pair (.str) (.pair (.str) (.int .i64))) x1, .clo 65 [.ptr 1 0], .any, .any, .any, .any, .any, .any, .any, .any, .any, .any, .any, .any, .any, .any, .any, .any, .any, .any, .any, .any, .any, .any, .any, .any, .any, .any, .any, .any, .any, .any, .any, .any, .any, .any, .any, .any, .any, .any, .any, .any, .any, .any, .any, .any, .any, .any, .any, .any, .any, .any, .any, .any, .any, .any, .any, .any], hp⟩ (some 66) (tupOf vs)) (fun S => (seqK (law_SlotDelays.cd N [1, 1, 1, 1, 1, 1, 1, 1, 1]) law_SlotDelays.fin) .normal S))))))
noncomputable def law_SlotDelays.l2 (N : Nat) (x0 : List (ByteArray × Int)) (x1 : List (ByteArray × ByteArray × Int)) (x2 : ByteArray) (x3 : ByteArray) (r1 : Bool) (r2 : List Int × Int) (r3 : List (ByteArray × ByteArray × Int) × Int) (r4 : List Int × Int) (r5 : Bool) (k16 : Nat) (a17 : Int) : Option Bool :=
  loopN (norm ((law_SlotDelays.E N).keep 2) 5) (law_SlotDelays.cd63_2_5 N [1, 0, 1, 0, 0]) k16
  ⟨[.ros false 94 (.pair (.str) (.pair (.str) (.int .i64))) x1, .clo 65 [.ptr 1 0], .any, .any, .any, .any, .any, .sc (.int .i64 (x1.length : Int)), .sc (.int .i64 a17), .any, .any, .any, .any, .any, .any, .any, .any, .any, .any], [.cells [.sc (.string x2)] 9, .cells [.sc (.string x3)] 9, .rows true 3 (.int .i64) r2.1, .rows true 94 (.pair (.str) (.pair (.str) (.int .i64))) r3.1, .rows true 3 (.int .i64) r4.1]⟩
  (blockK 0 (seqK (law_SlotDelays.cd63_2_5 N [1, 1]) (retK Try.prog Try.f63 (fun vs hp => (reg (law_SlotDelays.E N) Try.prog (callD (law_SlotDelays.E N) Try.prog 3) (opsAt (codeAt (bodyOf Try.f10) [1, 1, 1, 1, 1, 1, 1, 1, 0])) [] (List.drop 3 (opsAt (codeAt (bodyOf Try.f10) [1, 1, 1, 1, 1, 1, 1, 1, 0]))) (St.put ⟨[.ros false 106 (.pair (.str) (.int .i64)) x0, .ros false 94 (.pair (.str) (.pair (.str) (.int .i64))) x1, .sc (.string x2), .sc (.string x3), .any, .any, .ptr 0 0, .ptr 1 0, .sc (.bool false), .own 2, .sc (.int .i64 r2.2), .own 3, .sc (.int .i64 r3.2), .own 4, .sc (.int .i64 r4.2), .sc (.int .i64 (-1)), .any, .any, .any, .any, .sc (.bool r1), .sc (.bool (!r1)), .tup [.own 2, .sc (.int .i64 r2.2)], .ros false 106 (.pair (.str) (.int .i64)) x0, .ros false 94 (.pair (.str) (.pair (.str) (.int .i64))) x1, .tup [.own 2, .sc (.int .i64 r2.2)], .own 2, .sc (.int .i64 r2.2), .tup [.own 3, .sc (.int .i64 r3.2)], .ros false 106 (.pair (.str) (.int .i64)) x0, .ros false 94 (.pair (.str) (.pair (.str) (.int .i64))) x1, .sc (.string x2), .sc (.string x3), .tup [.own 3, .sc (.int .i64 r3.2)], .own 3, .sc (.int .i64 r3.2), .tup [.own 4, .sc (.int .i64 r4.2)], .ros false 106 (.pair (.str) (.int .i64)) x0, .ros false 94 (.pair (.str) (.pair (.str) (.int .i64))) x1, .tup [.own 4, .sc (.int .i64 r4.2)], .own 4, .sc (.int .i64 r4.2), .sc (.int .i64 r2.2), .sc (.int .i64 r4.2), .sc (.bool (!(r2.2 == r4.2))), .sc (.bool (!(r2.2 == r4.2))), .gd (!(!(r2.2 == r4.2))) (.own 2), .gd (!(!(r2.2 == r4.2))) (.own 4), .gd (!(!(r2.2 == r4.2))) (.sc (.bool r5)), .gd (!(!(r2.2 == r4.2))) (.sc (.bool (!r5))), .sc (.bool ((!(r2.2 == r4.2)) || (!r5))), .sc (.int .i64 r4.2), .sc (.bool (!(r4.2 == 0))), .any, .any, .any, .any, .any, .any, .any, .any, .ros false 94 (.pair (.str) (.pair (.str) (.int .i64))) x1, .clo 64 [.ptr 0 0], .sc (.int .i64 (-1)), .ros false 94 (.pair (.str) (.pair (.str) (.int .i64))) x1, .clo 65 [.ptr 1 0], .any, .any, .any, .any, .any, .any, .any, .any, .any, .any, .any, .any, .any, .any, .any, .any, .any, .any, .any, .any, .any, .any, .any, .any, .any, .any, .any, .any, .any, .any, .any, .any, .any, .any, .any, .any, .any, .any, .any, .any, .any, .any, .any, .any, .any, .any, .any, .any, .any, .any, .any, .any, .any, .any, .any, .any], hp⟩ (some 66) (tupOf vs)) (fun S => (seqK (law_SlotDelays.cd N [1, 1, 1, 1, 1, 1, 1, 1, 1]) law_SlotDelays.fin) .normal S))))))
theorem law_SlotDelays.l2_zero (N : Nat) (x0 : List (ByteArray × Int)) (x1 : List (ByteArray × ByteArray × Int)) (x2 : ByteArray) (x3 : ByteArray) (r1 : Bool) (r2 : List Int × Int) (r3 : List (ByteArray × ByteArray × Int) × Int) (r4 : List Int × Int) (r5 : Bool) (a17 : Int) : law_SlotDelays.l2 N x0 x1 x2 x3 r1 r2 r3 r4 r5 0 a17 = none := by kernel_rfl
theorem law_SlotDelays.l2_succ (N : Nat) (x0 : List (ByteArray × Int)) (x1 : List (ByteArray × ByteArray × Int)) (x2 : ByteArray) (x3 : ByteArray) (r1 : Bool) (r2 : List Int × Int) (r3 : List (ByteArray × ByteArray × Int) × Int) (r4 : List Int × Int) (r5 : Bool) (k16 : Nat) (a17 : Int) : law_SlotDelays.l2 N x0 x1 x2 x3 r1 r2 r3 r4 r5 (k16 + 1) a17 =
    bif decide (a17 < (x1.length : Int)) then
      bif (decide (0 ≤ a17)) && (decide (a17 < (x1.length : Int))) then
        (law_SlotDelays_2.fn N (List.getD x1 (Int.toNat a17) ((⟨#[]⟩ : ByteArray), ((⟨#[]⟩ : ByteArray), 0)), x3)).bind fun r18 =>
        bif r18 then
          bif !(r3.2 == 8) || (r3.2 == 8) then
            bif !(r3.2 == 8) || (r3.2 == 8) then
              bif (!(r3.2 == 8)) || (r3.2 == 8) then
                some ((r3.2 == 8) && ((r3.1.length : Int) == 0))
              else
                none
            else
              none
          else
            none
        else
          law_SlotDelays.l2 N x0 x1 x2 x3 r1 r2 r3 r4 r5 k16 (w (a17 + 1))
      else
        none
    else
    bif !(r3.2 == 8) || (r3.2 == 8) then
      bif !(r3.2 == 8) || (r3.2 == 8) then
        bif (!(r3.2 == 8)) || (r3.2 == 8) then
          some ((r3.2 == 8) && ((r3.1.length : Int) == 0))
        else
          none
      else
        none
    else
      none := by kernel_rfl
theorem law_SlotDelays.l1_zero (N : Nat) (x0 : List (ByteArray × Int)) (x1 : List (ByteArray × ByteArray × Int)) (x2 : ByteArray) (x3 : ByteArray) (r1 : Bool) (r2 : List Int × Int) (r3 : List (ByteArray × ByteArray × Int) × Int) (r4 : List Int × Int) (r5 : Bool) (a7 : Int) (a10 : Int) : law_SlotDelays.l1 N x0 x1 x2 x3 r1 r2 r3 r4 r5 a7 0 a10 = none := by kernel_rfl
theorem law_SlotDelays.l1_succ (N : Nat) (x0 : List (ByteArray × Int)) (x1 : List (ByteArray × ByteArray × Int)) (x2 : ByteArray) (x3 : ByteArray) (r1 : Bool) (r2 : List Int × Int) (r3 : List (ByteArray × ByteArray × Int) × Int) (r4 : List Int × Int) (r5 : Bool) (a7 : Int) (k9 : Nat) (a10 : Int) : law_SlotDelays.l1 N x0 x1 x2 x3 r1 r2 r3 r4 r5 a7 (k9 + 1) a10 =
    bif decide (a10 < (x1.length : Int)) then
      bif (decide (0 ≤ a10)) && (decide (a10 < (x1.length : Int))) then
        (law_SlotDelays_2.fn N (List.getD x1 (Int.toNat a10) ((⟨#[]⟩ : ByteArray), ((⟨#[]⟩ : ByteArray), 0)), x3)).bind fun r11 =>
        bif r11 then
          bif !(!(decide (a7 < 0))) || (!(decide (a7 < 0))) then
            bif (decide (a7 < 0)) || (!(decide (a7 < 0))) then
              bif (decide (a7 < 0)) || (decide (a10 < 0)) then
                bif !(r3.2 == 8) || (r3.2 == 8) then
                  bif !(r3.2 == 8) || (r3.2 == 8) then
                    bif (!(r3.2 == 8)) || (r3.2 == 8) then
                      some ((r3.2 == 8) && ((r3.1.length : Int) == 0))
                    else
                      none
                  else
                    none
                else
                  none
              else
                (slices_Clone_Slot.fn N x1).bind fun r12 =>
                bif (decide (0 ≤ a10)) && (decide (a10 < (x1.length : Int))) then
                  bif (decide (0 ≤ a7)) && (decide (a7 < (r12.length : Int))) then
                    bif decide ((Int.toNat a7) < r12.length) then
                      bif (decide (0 ≤ a7)) && (decide (a7 < (x1.length : Int))) then
                        bif (decide (0 ≤ a10)) && (decide (a10 < ((List.set r12 (Int.toNat a7) ((List.getD r12 (Int.toNat a7) ((⟨#[]⟩ : ByteArray), ((⟨#[]⟩ : ByteArray), 0))).1, (((List.getD r12 (Int.toNat a7) ((⟨#[]⟩ : ByteArray), ((⟨#[]⟩ : ByteArray), 0))).2).1, ((List.getD x1 (Int.toNat a10) ((⟨#[]⟩ : ByteArray), ((⟨#[]⟩ : ByteArray), 0))).2).2))).length : Int))) then
                          bif decide ((Int.toNat a10) < (List.set r12 (Int.toNat a7) ((List.getD r12 (Int.toNat a7) ((⟨#[]⟩ : ByteArray), ((⟨#[]⟩ : ByteArray), 0))).1, (((List.getD r12 (Int.toNat a7) ((⟨#[]⟩ : ByteArray), ((⟨#[]⟩ : ByteArray), 0))).2).1, ((List.getD x1 (Int.toNat a10) ((⟨#[]⟩ : ByteArray), ((⟨#[]⟩ : ByteArray), 0))).2).2))).length) then
                            (law_delays.fn N (x0, (List.set (List.set r12 (Int.toNat a7) ((List.getD r12 (Int.toNat a7) ((⟨#[]⟩ : ByteArray), ((⟨#[]⟩ : ByteArray), 0))).1, (((List.getD r12 (Int.toNat a7) ((⟨#[]⟩ : ByteArray), ((⟨#[]⟩ : ByteArray), 0))).2).1, ((List.getD x1 (Int.toNat a10) ((⟨#[]⟩ : ByteArray), ((⟨#[]⟩ : ByteArray), 0))).2).2))) (Int.toNat a10) ((List.getD (List.set r12 (Int.toNat a7) ((List.getD r12 (Int.toNat a7) ((⟨#[]⟩ : ByteArray), ((⟨#[]⟩ : ByteArray), 0))).1, (((List.getD r12 (Int.toNat a7) ((⟨#[]⟩ : ByteArray), ((⟨#[]⟩ : ByteArray), 0))).2).1, ((List.getD x1 (Int.toNat a10) ((⟨#[]⟩ : ByteArray), ((⟨#[]⟩ : ByteArray), 0))).2).2))) (Int.toNat a10) ((⟨#[]⟩ : ByteArray), ((⟨#[]⟩ : ByteArray), 0))).1, (((List.getD (List.set r12 (Int.toNat a7) ((List.getD r12 (Int.toNat a7) ((⟨#[]⟩ : ByteArray), ((⟨#[]⟩ : ByteArray), 0))).1, (((List.getD r12 (Int.toNat a7) ((⟨#[]⟩ : ByteArray), ((⟨#[]⟩ : ByteArray), 0))).2).1, ((List.getD x1 (Int.toNat a10) ((⟨#[]⟩ : ByteArray), ((⟨#[]⟩ : ByteArray), 0))).2).2))) (Int.toNat a10) ((⟨#[]⟩ : ByteArray), ((⟨#[]⟩ : ByteArray), 0))).2).1, ((List.getD x1 (Int.toNat a7) ((⟨#[]⟩ : ByteArray), ((⟨#[]⟩ : ByteArray), 0))).2).2))))).bind fun r13 =>
                            bif !(r13.2 == 0) then
                              bif !(r3.2 == 12) || (r3.2 == 12) then
                                bif !(r3.2 == 12) || (r3.2 == 12) then
                                  bif (!(r3.2 == 12)) || (r3.2 == 12) then
                                    some ((r3.2 == 12) && ((r3.1.length : Int) == 0))
                                  else
                                    none
                                else
                                  none
                              else
                                none
                            else
                            bif !(r3.2 == 0) || (r3.2 == 0) then
                              bif !(r3.2 == 0) || (r3.2 == 0) then
                                (bif (r3.2 == 0) then slices_Equal_Slot.fn N (r3.1, (List.set (List.set r12 (Int.toNat a7) ((List.getD r12 (Int.toNat a7) ((⟨#[]⟩ : ByteArray), ((⟨#[]⟩ : ByteArray), 0))).1, (((List.getD r12 (Int.toNat a7) ((⟨#[]⟩ : ByteArray), ((⟨#[]⟩ : ByteArray), 0))).2).1, ((List.getD x1 (Int.toNat a10) ((⟨#[]⟩ : ByteArray), ((⟨#[]⟩ : ByteArray), 0))).2).2))) (Int.toNat a10) ((List.getD (List.set r12 (Int.toNat a7) ((List.getD r12 (Int.toNat a7) ((⟨#[]⟩ : ByteArray), ((⟨#[]⟩ : ByteArray), 0))).1, (((List.getD r12 (Int.toNat a7) ((⟨#[]⟩ : ByteArray), ((⟨#[]⟩ : ByteArray), 0))).2).1, ((List.getD x1 (Int.toNat a10) ((⟨#[]⟩ : ByteArray), ((⟨#[]⟩ : ByteArray), 0))).2).2))) (Int.toNat a10) ((⟨#[]⟩ : ByteArray), ((⟨#[]⟩ : ByteArray), 0))).1, (((List.getD (List.set r12 (Int.toNat a7) ((List.getD r12 (Int.toNat a7) ((⟨#[]⟩ : ByteArray), ((⟨#[]⟩ : ByteArray), 0))).1, (((List.getD r12 (Int.toNat a7) ((⟨#[]⟩ : ByteArray), ((⟨#[]⟩ : ByteArray), 0))).2).1, ((List.getD x1 (Int.toNat a10) ((⟨#[]⟩ : ByteArray), ((⟨#[]⟩ : ByteArray), 0))).2).2))) (Int.toNat a10) ((⟨#[]⟩ : ByteArray), ((⟨#[]⟩ : ByteArray), 0))).2).1, ((List.getD x1 (Int.toNat a7) ((⟨#[]⟩ : ByteArray), ((⟨#[]⟩ : ByteArray), 0))).2).2)))) else some (false)).bind fun r14 =>
                                bif (!(r3.2 == 0)) || (r3.2 == 0) then
                                  some ((r3.2 == 0) && r14)
                                else
                                  none
                              else
                                none
                            else
                              none
                          else
                            none
                        else
                          none
                      else
                        none
                    else
                      none
                  else
                    none
                else
                  none
            else
              none
          else
            none
        else
          law_SlotDelays.l1 N x0 x1 x2 x3 r1 r2 r3 r4 r5 a7 k9 (w (a10 + 1))
      else
        none
    else
    bif !(!(decide (a7 < 0))) || (!(decide (a7 < 0))) then
      bif (decide (a7 < 0)) || (!(decide (a7 < 0))) then
        bif cond (decide (a7 < 0)) true true then
          bif !(r3.2 == 8) || (r3.2 == 8) then
            bif !(r3.2 == 8) || (r3.2 == 8) then
              bif (!(r3.2 == 8)) || (r3.2 == 8) then
                some ((r3.2 == 8) && ((r3.1.length : Int) == 0))
              else
                none
            else
              none
          else
            none
        else
          (slices_Clone_Slot.fn N x1).bind fun r15 =>
          none
      else
        none
    else
      none := by kernel_rfl
theorem law_SlotDelays.l0_zero (N : Nat) (x0 : List (ByteArray × Int)) (x1 : List (ByteArray × ByteArray × Int)) (x2 : ByteArray) (x3 : ByteArray) (r1 : Bool) (r2 : List Int × Int) (r3 : List (ByteArray × ByteArray × Int) × Int) (r4 : List Int × Int) (r5 : Bool) (a7 : Int) : law_SlotDelays.l0 N x0 x1 x2 x3 r1 r2 r3 r4 r5 0 a7 = none := by kernel_rfl
theorem law_SlotDelays.l0_succ (N : Nat) (x0 : List (ByteArray × Int)) (x1 : List (ByteArray × ByteArray × Int)) (x2 : ByteArray) (x3 : ByteArray) (r1 : Bool) (r2 : List Int × Int) (r3 : List (ByteArray × ByteArray × Int) × Int) (r4 : List Int × Int) (r5 : Bool) (k6 : Nat) (a7 : Int) : law_SlotDelays.l0 N x0 x1 x2 x3 r1 r2 r3 r4 r5 (k6 + 1) a7 =
    bif decide (a7 < (x1.length : Int)) then
      bif (decide (0 ≤ a7)) && (decide (a7 < (x1.length : Int))) then
        (law_SlotDelays_1.fn N (List.getD x1 (Int.toNat a7) ((⟨#[]⟩ : ByteArray), ((⟨#[]⟩ : ByteArray), 0)), x2)).bind fun r8 =>
        bif r8 then
          law_SlotDelays.l1 N x0 x1 x2 x3 r1 r2 r3 r4 r5 a7 N 0
        else
          law_SlotDelays.l0 N x0 x1 x2 x3 r1 r2 r3 r4 r5 k6 (w (a7 + 1))
      else
        none
    else
      law_SlotDelays.l2 N x0 x1 x2 x3 r1 r2 r3 r4 r5 N 0 := by kernel_rfl
theorem law_SlotDelays.l2_clean (N : Nat) (x0 : List (ByteArray × Int)) (x1 : List (ByteArray × ByteArray × Int)) (x2 : ByteArray) (x3 : ByteArray) (r1 : Bool) (r2 : List Int × Int) (r3 : List (ByteArray × ByteArray × Int) × Int) (r4 : List Int × Int) (r5 : Bool) (k16 : Nat) (a17 : Int) : law_SlotDelays.l2 N x0 x1 x2 x3 r1 r2 r3 r4 r5 (k16 + 1) a17 =
    bif decide (a17 < (x1.length : Int)) then
      bif (decide (0 ≤ a17)) && (decide (a17 < (x1.length : Int))) then
        (law_SlotDelays_2.fn N (List.getD x1 (Int.toNat a17) ((⟨#[]⟩ : ByteArray), ((⟨#[]⟩ : ByteArray), 0)), x3)).bind fun r18 =>
        bif r18 then
          some ((r3.2 == 8) && ((r3.1.length : Int) == 0))
        else
          law_SlotDelays.l2 N x0 x1 x2 x3 r1 r2 r3 r4 r5 k16 (w (a17 + 1))
      else
        none
    else
    some ((r3.2 == 8) && ((r3.1.length : Int) == 0)) := by
  rw [law_SlotDelays.l2_succ]; simp only [taut11, taut12, cond_true]
theorem law_SlotDelays.l1_clean (N : Nat) (x0 : List (ByteArray × Int)) (x1 : List (ByteArray × ByteArray × Int)) (x2 : ByteArray) (x3 : ByteArray) (r1 : Bool) (r2 : List Int × Int) (r3 : List (ByteArray × ByteArray × Int) × Int) (r4 : List Int × Int) (r5 : Bool) (a7 : Int) (k9 : Nat) (a10 : Int) : law_SlotDelays.l1 N x0 x1 x2 x3 r1 r2 r3 r4 r5 a7 (k9 + 1) a10 =
    bif decide (a10 < (x1.length : Int)) then
      bif (decide (0 ≤ a10)) && (decide (a10 < (x1.length : Int))) then
        (law_SlotDelays_2.fn N (List.getD x1 (Int.toNat a10) ((⟨#[]⟩ : ByteArray), ((⟨#[]⟩ : ByteArray), 0)), x3)).bind fun r11 =>
        bif r11 then
          bif (decide (a7 < 0)) || (decide (a10 < 0)) then
            some ((r3.2 == 8) && ((r3.1.length : Int) == 0))
          else
            (slices_Clone_Slot.fn N x1).bind fun r12 =>
            bif (decide (0 ≤ a10)) && (decide (a10 < (x1.length : Int))) then
              bif (decide (0 ≤ a7)) && (decide (a7 < (r12.length : Int))) then
                bif decide ((Int.toNat a7) < r12.length) then
                  bif (decide (0 ≤ a7)) && (decide (a7 < (x1.length : Int))) then
                    bif (decide (0 ≤ a10)) && (decide (a10 < ((List.set r12 (Int.toNat a7) ((List.getD r12 (Int.toNat a7) ((⟨#[]⟩ : ByteArray), ((⟨#[]⟩ : ByteArray), 0))).1, (((List.getD r12 (Int.toNat a7) ((⟨#[]⟩ : ByteArray), ((⟨#[]⟩ : ByteArray), 0))).2).1, ((List.getD x1 (Int.toNat a10) ((⟨#[]⟩ : ByteArray), ((⟨#[]⟩ : ByteArray), 0))).2).2))).length : Int))) then
                      bif decide ((Int.toNat a10) < (List.set r12 (Int.toNat a7) ((List.getD r12 (Int.toNat a7) ((⟨#[]⟩ : ByteArray), ((⟨#[]⟩ : ByteArray), 0))).1, (((List.getD r12 (Int.toNat a7) ((⟨#[]⟩ : ByteArray), ((⟨#[]⟩ : ByteArray), 0))).2).1, ((List.getD x1 (Int.toNat a10) ((⟨#[]⟩ : ByteArray), ((⟨#[]⟩ : ByteArray), 0))).2).2))).length) then
                        (law_delays.fn N (x0, (List.set (List.set r12 (Int.toNat a7) ((List.getD r12 (Int.toNat a7) ((⟨#[]⟩ : ByteArray), ((⟨#[]⟩ : ByteArray), 0))).1, (((List.getD r12 (Int.toNat a7) ((⟨#[]⟩ : ByteArray), ((⟨#[]⟩ : ByteArray), 0))).2).1, ((List.getD x1 (Int.toNat a10) ((⟨#[]⟩ : ByteArray), ((⟨#[]⟩ : ByteArray), 0))).2).2))) (Int.toNat a10) ((List.getD (List.set r12 (Int.toNat a7) ((List.getD r12 (Int.toNat a7) ((⟨#[]⟩ : ByteArray), ((⟨#[]⟩ : ByteArray), 0))).1, (((List.getD r12 (Int.toNat a7) ((⟨#[]⟩ : ByteArray), ((⟨#[]⟩ : ByteArray), 0))).2).1, ((List.getD x1 (Int.toNat a10) ((⟨#[]⟩ : ByteArray), ((⟨#[]⟩ : ByteArray), 0))).2).2))) (Int.toNat a10) ((⟨#[]⟩ : ByteArray), ((⟨#[]⟩ : ByteArray), 0))).1, (((List.getD (List.set r12 (Int.toNat a7) ((List.getD r12 (Int.toNat a7) ((⟨#[]⟩ : ByteArray), ((⟨#[]⟩ : ByteArray), 0))).1, (((List.getD r12 (Int.toNat a7) ((⟨#[]⟩ : ByteArray), ((⟨#[]⟩ : ByteArray), 0))).2).1, ((List.getD x1 (Int.toNat a10) ((⟨#[]⟩ : ByteArray), ((⟨#[]⟩ : ByteArray), 0))).2).2))) (Int.toNat a10) ((⟨#[]⟩ : ByteArray), ((⟨#[]⟩ : ByteArray), 0))).2).1, ((List.getD x1 (Int.toNat a7) ((⟨#[]⟩ : ByteArray), ((⟨#[]⟩ : ByteArray), 0))).2).2))))).bind fun r13 =>
                        bif !(r13.2 == 0) then
                          some ((r3.2 == 12) && ((r3.1.length : Int) == 0))
                        else
                        (bif (r3.2 == 0) then slices_Equal_Slot.fn N (r3.1, (List.set (List.set r12 (Int.toNat a7) ((List.getD r12 (Int.toNat a7) ((⟨#[]⟩ : ByteArray), ((⟨#[]⟩ : ByteArray), 0))).1, (((List.getD r12 (Int.toNat a7) ((⟨#[]⟩ : ByteArray), ((⟨#[]⟩ : ByteArray), 0))).2).1, ((List.getD x1 (Int.toNat a10) ((⟨#[]⟩ : ByteArray), ((⟨#[]⟩ : ByteArray), 0))).2).2))) (Int.toNat a10) ((List.getD (List.set r12 (Int.toNat a7) ((List.getD r12 (Int.toNat a7) ((⟨#[]⟩ : ByteArray), ((⟨#[]⟩ : ByteArray), 0))).1, (((List.getD r12 (Int.toNat a7) ((⟨#[]⟩ : ByteArray), ((⟨#[]⟩ : ByteArray), 0))).2).1, ((List.getD x1 (Int.toNat a10) ((⟨#[]⟩ : ByteArray), ((⟨#[]⟩ : ByteArray), 0))).2).2))) (Int.toNat a10) ((⟨#[]⟩ : ByteArray), ((⟨#[]⟩ : ByteArray), 0))).1, (((List.getD (List.set r12 (Int.toNat a7) ((List.getD r12 (Int.toNat a7) ((⟨#[]⟩ : ByteArray), ((⟨#[]⟩ : ByteArray), 0))).1, (((List.getD r12 (Int.toNat a7) ((⟨#[]⟩ : ByteArray), ((⟨#[]⟩ : ByteArray), 0))).2).1, ((List.getD x1 (Int.toNat a10) ((⟨#[]⟩ : ByteArray), ((⟨#[]⟩ : ByteArray), 0))).2).2))) (Int.toNat a10) ((⟨#[]⟩ : ByteArray), ((⟨#[]⟩ : ByteArray), 0))).2).1, ((List.getD x1 (Int.toNat a7) ((⟨#[]⟩ : ByteArray), ((⟨#[]⟩ : ByteArray), 0))).2).2)))) else some (false)).bind fun r14 =>
                        some ((r3.2 == 0) && r14)
                      else
                        none
                    else
                      none
                  else
                    none
                else
                  none
              else
                none
            else
              none
        else
          law_SlotDelays.l1 N x0 x1 x2 x3 r1 r2 r3 r4 r5 a7 k9 (w (a10 + 1))
      else
        none
    else
    bif cond (decide (a7 < 0)) true true then
      some ((r3.2 == 8) && ((r3.1.length : Int) == 0))
    else
      (slices_Clone_Slot.fn N x1).bind fun r15 =>
      none := by
  rw [law_SlotDelays.l1_succ]; simp only [taut1, taut11, taut12, taut6, cond_true]
theorem law_SlotDelays.l2_cons (N : Nat) (x0 : List (ByteArray × Int)) (x1 : List (ByteArray × ByteArray × Int)) (x2 : ByteArray) (x3 : ByteArray) (r1 : Bool) (r2 : List Int × Int) (r3 : List (ByteArray × ByteArray × Int) × Int) (r4 : List Int × Int) (r5 : Bool) (k16 : Nat) {pre r} {x} (hl : x1 = pre ++ x :: r) (hb : x1.length < 4611686018427387904) : law_SlotDelays.l2 N x0 x1 x2 x3 r1 r2 r3 r4 r5 (k16 + 1) (pre.length : Int) =
    (law_SlotDelays_2.fn N (x, x3)).bind fun r18 =>
    bif r18 then
      some ((r3.2 == 8) && ((r3.1.length : Int) == 0))
    else
      law_SlotDelays.l2 N x0 x1 x2 x3 r1 r2 r3 r4 r5 k16 ((pre.length : Int) + 1) := by
  have hlen : x1.length = pre.length + 1 + r.length := by rw [hl]; simp; omega
  have e1 : decide ((pre.length : Int) < (x1.length : Int)) = true := by rw [decide_eq_true_iff]; omega
  have e2 : decide (0 ≤ (pre.length : Int)) = true := by rw [decide_eq_true_iff]; omega
  have e4 : w ((pre.length : Int) + 1) = (pre.length : Int) + 1 := w_next hl hb
  have e5 : List.take pre.length x1 = pre := by rw [hl]; simp
  have e6 : decide ((pre.length : Int) ≤ (x1.length : Int)) = true := by rw [decide_eq_true_iff]; omega
  have g0 : List.getD x1 pre.length ((⟨#[]⟩ : ByteArray), ((⟨#[]⟩ : ByteArray), 0)) = x := by rw [hl]; exact getD_mid pre x r _
  rw [law_SlotDelays.l2_clean]
  simp -implicitDefEqProofs only [Int.toNat_natCast, e1, e2, e4, e6, g0, e5, Bool.and_true, Bool.true_and, Bool.true_or, cond_true]
theorem law_SlotDelays.l2_nil (N : Nat) (x0 : List (ByteArray × Int)) (x1 : List (ByteArray × ByteArray × Int)) (x2 : ByteArray) (x3 : ByteArray) (r1 : Bool) (r2 : List Int × Int) (r3 : List (ByteArray × ByteArray × Int) × Int) (r4 : List Int × Int) (r5 : Bool) (k16 : Nat) : law_SlotDelays.l2 N x0 x1 x2 x3 r1 r2 r3 r4 r5 (k16 + 1) (x1.length : Int) =
    some ((r3.2 == 8) && ((r3.1.length : Int) == 0)) := by
  have e1 : decide ((x1.length : Int) < (x1.length : Int)) = false := by rw [decide_eq_false_iff_not]; omega
  rw [law_SlotDelays.l2_clean]
  simp -implicitDefEqProofs only [e1, cond_false]
theorem law_SlotDelays.l1_cons (N : Nat) (x0 : List (ByteArray × Int)) (x1 : List (ByteArray × ByteArray × Int)) (x2 : ByteArray) (x3 : ByteArray) (r1 : Bool) (r2 : List Int × Int) (r3 : List (ByteArray × ByteArray × Int) × Int) (r4 : List Int × Int) (r5 : Bool) (a7 : Int) (k9 : Nat) {pre r} {x} (hl : x1 = pre ++ x :: r) (hb : x1.length < 4611686018427387904) : law_SlotDelays.l1 N x0 x1 x2 x3 r1 r2 r3 r4 r5 a7 (k9 + 1) (pre.length : Int) =
    (law_SlotDelays_2.fn N (x, x3)).bind fun r11 =>
    bif r11 then
      bif (decide (a7 < 0)) || (decide ((pre.length : Int) < 0)) then
        some ((r3.2 == 8) && ((r3.1.length : Int) == 0))
      else
        (slices_Clone_Slot.fn N x1).bind fun r12 =>
        bif (decide (0 ≤ a7)) && (decide (a7 < (r12.length : Int))) then
          bif decide ((Int.toNat a7) < r12.length) then
            bif (decide (0 ≤ a7)) && (decide (a7 < (x1.length : Int))) then
              bif decide ((pre.length : Int) < ((List.set r12 (Int.toNat a7) ((List.getD r12 (Int.toNat a7) ((⟨#[]⟩ : ByteArray), ((⟨#[]⟩ : ByteArray), 0))).1, (((List.getD r12 (Int.toNat a7) ((⟨#[]⟩ : ByteArray), ((⟨#[]⟩ : ByteArray), 0))).2).1, (x.2).2))).length : Int)) then
                bif decide (pre.length < (List.set r12 (Int.toNat a7) ((List.getD r12 (Int.toNat a7) ((⟨#[]⟩ : ByteArray), ((⟨#[]⟩ : ByteArray), 0))).1, (((List.getD r12 (Int.toNat a7) ((⟨#[]⟩ : ByteArray), ((⟨#[]⟩ : ByteArray), 0))).2).1, (x.2).2))).length) then
                  (law_delays.fn N (x0, (List.set (List.set r12 (Int.toNat a7) ((List.getD r12 (Int.toNat a7) ((⟨#[]⟩ : ByteArray), ((⟨#[]⟩ : ByteArray), 0))).1, (((List.getD r12 (Int.toNat a7) ((⟨#[]⟩ : ByteArray), ((⟨#[]⟩ : ByteArray), 0))).2).1, (x.2).2))) pre.length ((List.getD (List.set r12 (Int.toNat a7) ((List.getD r12 (Int.toNat a7) ((⟨#[]⟩ : ByteArray), ((⟨#[]⟩ : ByteArray), 0))).1, (((List.getD r12 (Int.toNat a7) ((⟨#[]⟩ : ByteArray), ((⟨#[]⟩ : ByteArray), 0))).2).1, (x.2).2))) pre.length ((⟨#[]⟩ : ByteArray), ((⟨#[]⟩ : ByteArray), 0))).1, (((List.getD (List.set r12 (Int.toNat a7) ((List.getD r12 (Int.toNat a7) ((⟨#[]⟩ : ByteArray), ((⟨#[]⟩ : ByteArray), 0))).1, (((List.getD r12 (Int.toNat a7) ((⟨#[]⟩ : ByteArray), ((⟨#[]⟩ : ByteArray), 0))).2).1, (x.2).2))) pre.length ((⟨#[]⟩ : ByteArray), ((⟨#[]⟩ : ByteArray), 0))).2).1, ((List.getD x1 (Int.toNat a7) ((⟨#[]⟩ : ByteArray), ((⟨#[]⟩ : ByteArray), 0))).2).2))))).bind fun r13 =>
                  bif !(r13.2 == 0) then
                    some ((r3.2 == 12) && ((r3.1.length : Int) == 0))
                  else
                    (bif (r3.2 == 0) then slices_Equal_Slot.fn N (r3.1, (List.set (List.set r12 (Int.toNat a7) ((List.getD r12 (Int.toNat a7) ((⟨#[]⟩ : ByteArray), ((⟨#[]⟩ : ByteArray), 0))).1, (((List.getD r12 (Int.toNat a7) ((⟨#[]⟩ : ByteArray), ((⟨#[]⟩ : ByteArray), 0))).2).1, (x.2).2))) pre.length ((List.getD (List.set r12 (Int.toNat a7) ((List.getD r12 (Int.toNat a7) ((⟨#[]⟩ : ByteArray), ((⟨#[]⟩ : ByteArray), 0))).1, (((List.getD r12 (Int.toNat a7) ((⟨#[]⟩ : ByteArray), ((⟨#[]⟩ : ByteArray), 0))).2).1, (x.2).2))) pre.length ((⟨#[]⟩ : ByteArray), ((⟨#[]⟩ : ByteArray), 0))).1, (((List.getD (List.set r12 (Int.toNat a7) ((List.getD r12 (Int.toNat a7) ((⟨#[]⟩ : ByteArray), ((⟨#[]⟩ : ByteArray), 0))).1, (((List.getD r12 (Int.toNat a7) ((⟨#[]⟩ : ByteArray), ((⟨#[]⟩ : ByteArray), 0))).2).1, (x.2).2))) pre.length ((⟨#[]⟩ : ByteArray), ((⟨#[]⟩ : ByteArray), 0))).2).1, ((List.getD x1 (Int.toNat a7) ((⟨#[]⟩ : ByteArray), ((⟨#[]⟩ : ByteArray), 0))).2).2)))) else some (false)).bind fun r14 =>
                    some ((r3.2 == 0) && r14)
                else
                  none
              else
                none
            else
              none
          else
            none
        else
          none
    else
      law_SlotDelays.l1 N x0 x1 x2 x3 r1 r2 r3 r4 r5 a7 k9 ((pre.length : Int) + 1) := by
  have hlen : x1.length = pre.length + 1 + r.length := by rw [hl]; simp; omega
  have e1 : decide ((pre.length : Int) < (x1.length : Int)) = true := by rw [decide_eq_true_iff]; omega
  have e2 : decide (0 ≤ (pre.length : Int)) = true := by rw [decide_eq_true_iff]; omega
  have e4 : w ((pre.length : Int) + 1) = (pre.length : Int) + 1 := w_next hl hb
  have e5 : List.take pre.length x1 = pre := by rw [hl]; simp
  have e6 : decide ((pre.length : Int) ≤ (x1.length : Int)) = true := by rw [decide_eq_true_iff]; omega
  have g0 : List.getD x1 pre.length ((⟨#[]⟩ : ByteArray), ((⟨#[]⟩ : ByteArray), 0)) = x := by rw [hl]; exact getD_mid pre x r _
  rw [law_SlotDelays.l1_clean]
  simp -implicitDefEqProofs only [Int.toNat_natCast, e1, e2, e4, e6, g0, e5, Bool.and_true, Bool.true_and, Bool.true_or, cond_true]
theorem law_SlotDelays.l1_nil (N : Nat) (x0 : List (ByteArray × Int)) (x1 : List (ByteArray × ByteArray × Int)) (x2 : ByteArray) (x3 : ByteArray) (r1 : Bool) (r2 : List Int × Int) (r3 : List (ByteArray × ByteArray × Int) × Int) (r4 : List Int × Int) (r5 : Bool) (a7 : Int) (k9 : Nat) : law_SlotDelays.l1 N x0 x1 x2 x3 r1 r2 r3 r4 r5 a7 (k9 + 1) (x1.length : Int) =
    bif cond (decide (a7 < 0)) true true then
      some ((r3.2 == 8) && ((r3.1.length : Int) == 0))
    else
      (slices_Clone_Slot.fn N x1).bind fun r15 =>
      none := by
  have e1 : decide ((x1.length : Int) < (x1.length : Int)) = false := by rw [decide_eq_false_iff_not]; omega
  rw [law_SlotDelays.l1_clean]
  simp -implicitDefEqProofs only [e1, cond_false]
theorem law_SlotDelays.l0_cons (N : Nat) (x0 : List (ByteArray × Int)) (x1 : List (ByteArray × ByteArray × Int)) (x2 : ByteArray) (x3 : ByteArray) (r1 : Bool) (r2 : List Int × Int) (r3 : List (ByteArray × ByteArray × Int) × Int) (r4 : List Int × Int) (r5 : Bool) (k6 : Nat) {pre r} {x} (hl : x1 = pre ++ x :: r) (hb : x1.length < 4611686018427387904) : law_SlotDelays.l0 N x0 x1 x2 x3 r1 r2 r3 r4 r5 (k6 + 1) (pre.length : Int) =
    (law_SlotDelays_1.fn N (x, x2)).bind fun r8 =>
    bif r8 then
      law_SlotDelays.l1 N x0 x1 x2 x3 r1 r2 r3 r4 r5 (pre.length : Int) N 0
    else
      law_SlotDelays.l0 N x0 x1 x2 x3 r1 r2 r3 r4 r5 k6 ((pre.length : Int) + 1) := by
  have hlen : x1.length = pre.length + 1 + r.length := by rw [hl]; simp; omega
  have e1 : decide ((pre.length : Int) < (x1.length : Int)) = true := by rw [decide_eq_true_iff]; omega
  have e2 : decide (0 ≤ (pre.length : Int)) = true := by rw [decide_eq_true_iff]; omega
  have e4 : w ((pre.length : Int) + 1) = (pre.length : Int) + 1 := w_next hl hb
  have e5 : List.take pre.length x1 = pre := by rw [hl]; simp
  have e6 : decide ((pre.length : Int) ≤ (x1.length : Int)) = true := by rw [decide_eq_true_iff]; omega
  have g0 : List.getD x1 pre.length ((⟨#[]⟩ : ByteArray), ((⟨#[]⟩ : ByteArray), 0)) = x := by rw [hl]; exact getD_mid pre x r _
  rw [law_SlotDelays.l0_succ]
  simp -implicitDefEqProofs only [Int.toNat_natCast, e1, e2, e4, e6, g0, e5, Bool.and_true, Bool.true_and, Bool.true_or, cond_true]
theorem law_SlotDelays.l0_nil (N : Nat) (x0 : List (ByteArray × Int)) (x1 : List (ByteArray × ByteArray × Int)) (x2 : ByteArray) (x3 : ByteArray) (r1 : Bool) (r2 : List Int × Int) (r3 : List (ByteArray × ByteArray × Int) × Int) (r4 : List Int × Int) (r5 : Bool) (k6 : Nat) : law_SlotDelays.l0 N x0 x1 x2 x3 r1 r2 r3 r4 r5 (k6 + 1) (x1.length : Int) =
    law_SlotDelays.l2 N x0 x1 x2 x3 r1 r2 r3 r4 r5 N 0 := by
  have e1 : decide ((x1.length : Int) < (x1.length : Int)) = false := by rw [decide_eq_false_iff_not]; omega
  rw [law_SlotDelays.l0_succ]
  simp -implicitDefEqProofs only [e1, cond_false]
theorem law_SlotDelays.eq (N : Nat) (x0 : List (ByteArray × Int)) (x1 : List (ByteArray × ByteArray × Int)) (x2 : ByteArray) (x3 : ByteArray) : law_SlotDelays.fn N (x0, x1, x2, x3) =
    (law_slotFact.fn N ()).bind fun r1 =>
    bif !r1 then
      some false
    else
      (slot_Delays.fn N (x0, x1)).bind fun r2 =>
      (slot_Swap.fn N (x0, x1, x2, x3)).bind fun r3 =>
      (law_delays.fn N (x0, x1)).bind fun r4 =>
      bif !(!(!(r2.2 == r4.2))) || (!(!(r2.2 == r4.2))) then
        bif !(!(!(r2.2 == r4.2))) || (!(!(r2.2 == r4.2))) then
          (bif (!(!(r2.2 == r4.2))) then slices_Equal_int.fn N (r2.1, r4.1) else some (false)).bind fun r5 =>
          bif !(!(!(r2.2 == r4.2))) || (!(!(r2.2 == r4.2))) then
            bif (!(r2.2 == r4.2)) || (!(!(r2.2 == r4.2))) then
              bif (!(r2.2 == r4.2)) || (!r5) then
                some false
              else
              bif !(r4.2 == 0) then
                bif !(r3.2 == r4.2) || (r3.2 == r4.2) then
                  bif !(r3.2 == r4.2) || (r3.2 == r4.2) then
                    bif (!(r3.2 == r4.2)) || (r3.2 == r4.2) then
                      some ((r3.2 == r4.2) && ((r3.1.length : Int) == 0))
                    else
                      none
                  else
                    none
                else
                  none
              else
                law_SlotDelays.l0 N x0 x1 x2 x3 r1 r2 r3 r4 r5 N 0
            else
              none
          else
            none
        else
          none
      else
        none := by kernel_rfl
theorem law_SlotDelays.clean (N : Nat) (x0 : List (ByteArray × Int)) (x1 : List (ByteArray × ByteArray × Int)) (x2 : ByteArray) (x3 : ByteArray) : law_SlotDelays.fn N (x0, x1, x2, x3) =
    (law_slotFact.fn N ()).bind fun r1 =>
    bif !r1 then
      some false
    else
      (slot_Delays.fn N (x0, x1)).bind fun r2 =>
      (slot_Swap.fn N (x0, x1, x2, x3)).bind fun r3 =>
      (law_delays.fn N (x0, x1)).bind fun r4 =>
      (bif (!(!(r2.2 == r4.2))) then slices_Equal_int.fn N (r2.1, r4.1) else some (false)).bind fun r5 =>
      bif (!(r2.2 == r4.2)) || (!r5) then
        some false
      else
      bif !(r4.2 == 0) then
        some ((r3.2 == r4.2) && ((r3.1.length : Int) == 0))
      else
        law_SlotDelays.l0 N x0 x1 x2 x3 r1 r2 r3 r4 r5 N 0 := by
  rw [law_SlotDelays.eq]; simp only [taut21, taut11, taut22, taut12, cond_true]

/-! ### law_SlotReleases: skyway/skywaylaw3.SlotReleases -/
def law_SlotReleases.kp : List (Nat × List (Nat × Option (TypeId × Ty))) := [(9, [(0, none), (1, none), (2, none), (3, none), (9, none), (10, none), (11, none), (12, some (106, .pair (.str) (.int .i64))), (40, none), (41, none), (42, none)]), (1000007, [(0, none), (1, none), (2, none), (3, none), (9, none), (10, none), (11, none)]), (1000016, [(0, none), (3, none), (9, none), (10, none), (11, none), (12, none)])]
noncomputable def law_SlotReleases.G (N : Nat) : List (Nat × Spec) := [(50, .pure (law_slotFact.S N)), (56, .pure (law_slotsError.S N)), (57, .pure (ref_Slots.S N)), (58, .pure (slices_Equal_Slot.S N)), (67, .pure (slot_Release.S N))]
noncomputable def law_SlotReleases.E (N : Nat) : Env := mkEnv (law_SlotReleases.G N) N tyTab law_SlotReleases.kp
noncomputable def law_SlotReleases.fn (N : Nat) (x : ByteArray × ByteArray × List (ByteArray × Int) × List ((Int × Int) × Int)) : Option Bool := evFn (law_SlotReleases.E N) Try.prog 3 Try.f11 false [.cell (.str), .cell (.str), .cell (.sl 106 (.pair (.str) (.int .i64))), .cell (.sl 149 (.pair (.pair (.int .i64) (.int .i64)) (.int .i64)))] [.val (.cell (.bool))] x
noncomputable def law_SlotReleases.S (N : Nat) : PSpec := ⟨false, [.cell (.str), .cell (.str), .cell (.sl 106 (.pair (.str) (.int .i64))), .cell (.sl 149 (.pair (.pair (.int .i64) (.int .i64)) (.int .i64)))], [.val (.cell (.bool))], law_SlotReleases.fn N⟩
theorem f11_enters : Enters Try.prog 11 := ⟨Try.f11, Try.func11, by kernel_rfl, by kernel_rfl⟩
theorem law_SlotReleases.tab (N : Nat) : TabOk Try.prog (law_SlotReleases.G N) := ⟨⟨law_slotFact.enters, law_slotFact.sound N⟩, ⟨law_slotsError.enters, law_slotsError.sound N⟩, ⟨ref_Slots.enters, ref_Slots.sound N⟩, ⟨slices_Equal_Slot.enters, slices_Equal_Slot.sound N⟩, ⟨slot_Release.enters, slot_Release.sound N⟩, trivial⟩
theorem law_SlotReleases.enters : Enters Try.prog 11 := f11_enters
theorem law_SlotReleases.sound (N : Nat) : Sound Try.prog 11 (law_SlotReleases.S N) := evFn_sound (specs_tab (law_SlotReleases.tab N)) (inls_tab (law_SlotReleases.tab N)) mixed 3 Try.func11 _ _ _
noncomputable def law_SlotReleases.cd (N : Nat) (p : List Nat) : St → (Ex → St → Option Bool) → Option Bool := ev (law_SlotReleases.E N) Try.prog (callD (law_SlotReleases.E N) Try.prog 3) 0 (codeAt (bodyOf Try.f11) p)
noncomputable def law_SlotReleases.fin : Ex → St → Option Bool := endK Try.prog Try.f11 [.val (.cell (.bool))]
noncomputable def law_SlotReleases.j0 (N : Nat) (x0 : ByteArray) (x1 : ByteArray) (x2 : List (ByteArray × Int)) (x3 : List ((Int × Int) × Int)) (r2 : List (ByteArray × ByteArray × Int) × Int) (a4 : Int) : Option Bool :=
  fuelK N (region (law_SlotReleases.E N) Try.prog (callD (law_SlotReleases.E N) Try.prog 3) (opsAt (codeAt (bodyOf Try.f11) [1, 1, 1, 1, 1, 0])) false
  ⟨[.sc (.string x0), .sc (.string x1), .ros false 106 (.pair (.str) (.int .i64)) x2, .ros false 149 (.pair (.pair (.int .i64) (.int .i64)) (.int .i64)) x3, .any, .any, .any, .any, .any, .own 0, .sc (.int .i64 r2.2), .sc (.int .i64 a4), .any, .any, .any, .any, .any, .any, .any, .any, .any, .any, .any, .any, .any, .any, .any, .any, .any, .any, .any, .any, .any, .any, .any, .any, .any, .any, .any, .any, .any, .any, .any, .any, .any, .any, .any, .any, .any, .any, .any, .any, .any, .any, .any, .any, .any, .any, .any, .any, .any, .any, .any, .any, .any, .any, .any, .any, .any, .any, .any, .any, .any, .any, .any, .any, .any, .any, .any, .any, .any, .any, .any, .any, .any, .any, .any, .any, .any], [.rows true 94 (.pair (.str) (.pair (.str) (.int .i64))) r2.1]⟩
  (fun S => (seqK (law_SlotReleases.cd N [1, 1, 1, 1, 1, 1]) law_SlotReleases.fin) .normal S))
noncomputable def law_SlotReleases.l1 (N : Nat) (x0 : ByteArray) (x1 : ByteArray) (x2 : List (ByteArray × Int)) (x3 : List ((Int × Int) × Int)) (r2 : List (ByteArray × ByteArray × Int) × Int) (a4 : Int) (k5 : Nat) (a6 : Int) (a7 : List (ByteArray × Int)) : Option Bool :=
  loopN (norm ((law_SlotReleases.E N).keep 9) 0) (law_SlotReleases.cd N [1, 1, 1, 1, 1, 1, 0, 1, 0, 0]) k5
  ⟨[.sc (.string x0), .sc (.string x1), .ros false 106 (.pair (.str) (.int .i64)) x2, .ros false 149 (.pair (.pair (.int .i64) (.int .i64)) (.int .i64)) x3, .any, .any, .any, .any, .any, .own 0, .sc (.int .i64 r2.2), .sc (.int .i64 a4), .own 1, .any, .any, .any, .any, .any, .any, .any, .any, .any, .any, .any, .any, .any, .any, .any, .any, .any, .any, .any, .any, .any, .any, .any, .any, .any, .any, .any, .ros false 106 (.pair (.str) (.int .i64)) x2, .sc (.int .i64 (x2.length : Int)), .sc (.int .i64 a6), .any, .any, .any, .any, .any, .any, .any, .any, .any, .any, .any, .any, .any, .any, .any, .any, .any, .any, .any, .any, .any, .any, .any, .any, .any, .any, .any, .any, .any, .any, .any, .any, .any, .any, .any, .any, .any, .any, .any, .any, .any, .any, .any, .any, .any, .any], [.rows true 94 (.pair (.str) (.pair (.str) (.int .i64))) r2.1, .rows true 106 (.pair (.str) (.int .i64)) a7]⟩
  (blockK 0 (seqK (law_SlotReleases.cd N [1, 1, 1, 1, 1, 1, 1]) law_SlotReleases.fin))
noncomputable def law_SlotReleases.j2 (N : Nat) (x0 : ByteArray) (x3 : List ((Int × Int) × Int)) (r2 : List (ByteArray × ByteArray × Int) × Int) (a7 : List (ByteArray × Int)) (a8 : Int) : Option Bool :=
  fuelK N (region (law_SlotReleases.E N) Try.prog (callD (law_SlotReleases.E N) Try.prog 3) (opsAt (codeAt (bodyOf Try.f11) [1, 1, 1, 1, 1, 1, 1, 1, 0, 0])) false
  ⟨[.sc (.string x0), .any, .any, .ros false 149 (.pair (.pair (.int .i64) (.int .i64)) (.int .i64)) x3, .any, .any, .any, .any, .any, .own 0, .sc (.int .i64 r2.2), .sc (.int .i64 a8), .own 1, .any, .any, .any, .any, .any, .any, .any, .any, .any, .any, .any, .any, .any, .any, .any, .any, .any, .any, .any, .any, .any, .any, .any, .any, .any, .any, .any, .any, .any, .any, .any, .any, .any, .any, .any, .any, .any, .any, .any, .any, .any, .any, .any, .any, .any, .any, .any, .any, .any, .any, .any, .any, .any, .any, .any, .any, .any, .any, .any, .any, .any, .any, .any, .any, .any, .any, .any, .any, .any, .any, .any, .any, .any, .any, .any, .any], [.rows true 94 (.pair (.str) (.pair (.str) (.int .i64))) r2.1, .rows true 106 (.pair (.str) (.int .i64)) a7]⟩
  (fun S => (seqK (law_SlotReleases.cd N [1, 1, 1, 1, 1, 1, 1, 1, 0, 1]) (seqK (law_SlotReleases.cd N [1, 1, 1, 1, 1, 1, 1, 1, 1]) law_SlotReleases.fin)) .normal S))
theorem law_SlotReleases.j2_eq (N : Nat) (x0 : ByteArray) (x3 : List ((Int × Int) × Int)) (r2 : List (ByteArray × ByteArray × Int) × Int) (a7 : List (ByteArray × Int)) (a8 : Int) {M : Nat} (hM : N = M + 1) : law_SlotReleases.j2 N x0 x3 r2 a7 a8 =
    bif !(a8 == 0) then
      bif !(r2.2 == a8) || (r2.2 == a8) then
        bif !(r2.2 == a8) || (r2.2 == a8) then
          bif (!(r2.2 == a8)) || (r2.2 == a8) then
            some ((r2.2 == a8) && ((r2.1.length : Int) == 0))
          else
            none
        else
          none
      else
        none
    else
      (ref_Slots.fn N (x0, a7, x3)).bind fun r9 =>
      bif !(r2.2 == r9.2) || (r2.2 == r9.2) then
        bif !(r2.2 == r9.2) || (r2.2 == r9.2) then
          (bif (r2.2 == r9.2) then slices_Equal_Slot.fn N (r2.1, r9.1) else some (false)).bind fun r10 =>
          bif (!(r2.2 == r9.2)) || (r2.2 == r9.2) then
            some ((r2.2 == r9.2) && r10)
          else
            none
        else
          none
      else
        none := (fuelK_eq hM _).trans (by kernel_rfl)
theorem law_SlotReleases.l1_zero (N : Nat) (x0 : ByteArray) (x1 : ByteArray) (x2 : List (ByteArray × Int)) (x3 : List ((Int × Int) × Int)) (r2 : List (ByteArray × ByteArray × Int) × Int) (a4 : Int) (a6 : Int) (a7 : List (ByteArray × Int)) : law_SlotReleases.l1 N x0 x1 x2 x3 r2 a4 0 a6 a7 = none := by kernel_rfl
theorem law_SlotReleases.l1_succ (N : Nat) (x0 : ByteArray) (x1 : ByteArray) (x2 : List (ByteArray × Int)) (x3 : List ((Int × Int) × Int)) (r2 : List (ByteArray × ByteArray × Int) × Int) (a4 : Int) (k5 : Nat) (a6 : Int) (a7 : List (ByteArray × Int)) : law_SlotReleases.l1 N x0 x1 x2 x3 r2 a4 (k5 + 1) a6 a7 =
    bif decide (a6 < (x2.length : Int)) then
      bif (decide (0 ≤ a6)) && (decide (a6 < (x2.length : Int))) then
        bif !(seq ((List.getD x2 (Int.toNat a6) ((⟨#[]⟩ : ByteArray), 0)).1) x1) then
          bif decide ((a7.length + 1) * 24 ≤ 140737488355328) && decide ((a7.length + 1) ≤ maxLen) then
            law_SlotReleases.l1 N x0 x1 x2 x3 r2 a4 k5 (w (a6 + 1)) (a7 ++ [List.getD x2 (Int.toNat a6) ((⟨#[]⟩ : ByteArray), 0)])
          else
            none
        else
          law_SlotReleases.l1 N x0 x1 x2 x3 r2 a4 k5 (w (a6 + 1)) a7
      else
        none
    else
    bif !(a4 == 0) || (a4 == 0) then
      bif !(a4 == 0) || (a4 == 0) then
        bif !(a4 == 0) || (a4 == 0) then
          bif !(a4 == 0) || (a4 == 0) then
            bif (!(a4 == 0)) || (a4 == 0) then
              bif (a4 == 0) && ((a7.length : Int) == (x2.length : Int)) then
                law_SlotReleases.j2 N x0 x3 r2 a7 8
              else
                law_SlotReleases.j2 N x0 x3 r2 a7 a4
            else
              none
          else
            none
        else
          none
      else
        none
    else
      none := by kernel_rfl
theorem law_SlotReleases.j0_eq (N : Nat) (x0 : ByteArray) (x1 : ByteArray) (x2 : List (ByteArray × Int)) (x3 : List ((Int × Int) × Int)) (r2 : List (ByteArray × ByteArray × Int) × Int) (a4 : Int) {M : Nat} (hM : N = M + 1) : law_SlotReleases.j0 N x0 x1 x2 x3 r2 a4 =
    law_SlotReleases.l1 N x0 x1 x2 x3 r2 a4 N 0 [] := (fuelK_eq hM _).trans (by kernel_rfl)
theorem law_SlotReleases.j2_clean (N : Nat) (x0 : ByteArray) (x3 : List ((Int × Int) × Int)) (r2 : List (ByteArray × ByteArray × Int) × Int) (a7 : List (ByteArray × Int)) (a8 : Int) {M : Nat} (hM : N = M + 1) : law_SlotReleases.j2 N x0 x3 r2 a7 a8 =
    bif !(a8 == 0) then
      some ((r2.2 == a8) && ((r2.1.length : Int) == 0))
    else
      (ref_Slots.fn N (x0, a7, x3)).bind fun r9 =>
      (bif (r2.2 == r9.2) then slices_Equal_Slot.fn N (r2.1, r9.1) else some (false)).bind fun r10 =>
      some ((r2.2 == r9.2) && r10) := by
  rw [law_SlotReleases.j2_eq (hM := hM)]; simp only [taut11, taut12, cond_true]
theorem law_SlotReleases.l1_clean (N : Nat) (x0 : ByteArray) (x1 : ByteArray) (x2 : List (ByteArray × Int)) (x3 : List ((Int × Int) × Int)) (r2 : List (ByteArray × ByteArray × Int) × Int) (a4 : Int) (k5 : Nat) (a6 : Int) (a7 : List (ByteArray × Int)) : law_SlotReleases.l1 N x0 x1 x2 x3 r2 a4 (k5 + 1) a6 a7 =
    bif decide (a6 < (x2.length : Int)) then
      bif (decide (0 ≤ a6)) && (decide (a6 < (x2.length : Int))) then
        bif !(seq ((List.getD x2 (Int.toNat a6) ((⟨#[]⟩ : ByteArray), 0)).1) x1) then
          bif decide ((a7.length + 1) * 24 ≤ 140737488355328) && decide ((a7.length + 1) ≤ maxLen) then
            law_SlotReleases.l1 N x0 x1 x2 x3 r2 a4 k5 (w (a6 + 1)) (a7 ++ [List.getD x2 (Int.toNat a6) ((⟨#[]⟩ : ByteArray), 0)])
          else
            none
        else
          law_SlotReleases.l1 N x0 x1 x2 x3 r2 a4 k5 (w (a6 + 1)) a7
      else
        none
    else
    bif (a4 == 0) && ((a7.length : Int) == (x2.length : Int)) then
      law_SlotReleases.j2 N x0 x3 r2 a7 8
    else
      law_SlotReleases.j2 N x0 x3 r2 a7 a4 := by
  rw [law_SlotReleases.l1_succ]; simp only [taut11, taut12, cond_true]
theorem law_SlotReleases.l1_cons (N : Nat) (x0 : ByteArray) (x1 : ByteArray) (x2 : List (ByteArray × Int)) (x3 : List ((Int × Int) × Int)) (r2 : List (ByteArray × ByteArray × Int) × Int) (a4 : Int) (k5 : Nat) (a7 : List (ByteArray × Int)) {pre r} {x} (hl : x2 = pre ++ x :: r) (hb : x2.length < 4611686018427387904) : law_SlotReleases.l1 N x0 x1 x2 x3 r2 a4 (k5 + 1) (pre.length : Int) a7 =
    bif !(seq (x.1) x1) then
      bif decide ((a7.length + 1) * 24 ≤ 140737488355328) && decide ((a7.length + 1) ≤ maxLen) then
        law_SlotReleases.l1 N x0 x1 x2 x3 r2 a4 k5 ((pre.length : Int) + 1) (a7 ++ [x])
      else
        none
    else
      law_SlotReleases.l1 N x0 x1 x2 x3 r2 a4 k5 ((pre.length : Int) + 1) a7 := by
  have hlen : x2.length = pre.length + 1 + r.length := by rw [hl]; simp; omega
  have e1 : decide ((pre.length : Int) < (x2.length : Int)) = true := by rw [decide_eq_true_iff]; omega
  have e2 : decide (0 ≤ (pre.length : Int)) = true := by rw [decide_eq_true_iff]; omega
  have e4 : w ((pre.length : Int) + 1) = (pre.length : Int) + 1 := w_next hl hb
  have e5 : List.take pre.length x2 = pre := by rw [hl]; simp
  have e6 : decide ((pre.length : Int) ≤ (x2.length : Int)) = true := by rw [decide_eq_true_iff]; omega
  have g0 : List.getD x2 pre.length ((⟨#[]⟩ : ByteArray), 0) = x := by rw [hl]; exact getD_mid pre x r _
  rw [law_SlotReleases.l1_clean]
  simp -implicitDefEqProofs only [Int.toNat_natCast, e1, e2, e4, e6, g0, e5, Bool.and_true, Bool.true_and, Bool.true_or, cond_true]
theorem law_SlotReleases.l1_nil (N : Nat) (x0 : ByteArray) (x1 : ByteArray) (x2 : List (ByteArray × Int)) (x3 : List ((Int × Int) × Int)) (r2 : List (ByteArray × ByteArray × Int) × Int) (a4 : Int) (k5 : Nat) (a7 : List (ByteArray × Int)) : law_SlotReleases.l1 N x0 x1 x2 x3 r2 a4 (k5 + 1) (x2.length : Int) a7 =
    bif (a4 == 0) && ((a7.length : Int) == (x2.length : Int)) then
      law_SlotReleases.j2 N x0 x3 r2 a7 8
    else
      law_SlotReleases.j2 N x0 x3 r2 a7 a4 := by
  have e1 : decide ((x2.length : Int) < (x2.length : Int)) = false := by rw [decide_eq_false_iff_not]; omega
  rw [law_SlotReleases.l1_clean]
  simp -implicitDefEqProofs only [e1, cond_false]
theorem law_SlotReleases.eq (N : Nat) (x0 : ByteArray) (x1 : ByteArray) (x2 : List (ByteArray × Int)) (x3 : List ((Int × Int) × Int)) : law_SlotReleases.fn N (x0, x1, x2, x3) =
    (law_slotFact.fn N ()).bind fun r1 =>
    bif !r1 then
      some false
    else
      (slot_Release.fn N (x0, x1, x2, x3)).bind fun r2 =>
      (law_slotsError.fn N (x0, x2, x3)).bind fun r3 =>
      bif r3 == 0 then
        (ref_Slots.fn N (x0, x2, x3)).bind fun r11 =>
        law_SlotReleases.j0 N x0 x1 x2 x3 r2 r11.2
      else
        law_SlotReleases.j0 N x0 x1 x2 x3 r2 r3 := by kernel_rfl

end Go.Proofs.Ytmaeakelhjmfeaa.Sk
