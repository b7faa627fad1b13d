/- sequence.Best: what it answers at the two arrivals of the fact; told of these alone. -/
import Derived.Test.YtoapmjnfiimmjaaSeqNat
set_option linter.unusedVariables false
set_option linter.unusedSimpArgs false
set_option maxRecDepth 100000
namespace Go.Proofs.Ytoapmjnfiimmjaa.Sk
open Go
abbrev tAr : Ty := .sl 48 (.pair (.str) (.pair (.int .i64) (.pair (.int .i64) (.int .i64))))
def cloneF (x : List Int) : Option (List Int) := bif Nat.ble x.length 8 then some x else none
def cloneS : PSpec := ⟨false, [.cell (.sl 3 (.int .i64))], [.own 3 (.int .i64)], cloneF⟩
theorem cloneS_sound : Sound Try.prog 40 cloneS :=
  Sound.mono (slices_Clone_int.sound NN) fun x r h => by
    have h : cloneF x = some r := h
    unfold cloneF at h
    cases hq : Nat.ble (List.length (show List Int from x)) 8 with
    | false => rw [hq] at h; cases h
    | true =>
      rw [hq] at h
      have hl := Nat.le_of_ble_eq_true hq
      have hx : some (show List Int from x) = some r := h
      exact (slices_Clone_int.v NN x (by have : (show List Int from x).length * 8 ≤ 8 * 8 := Nat.mul_le_mul_right 8 hl; exact Nat.le_trans this (by decide))).trans hx
theorem times_two (M : Nat) : sequence_Times.fn (M + 16) (two, [1, 0], stdT) = some ([0, 60], 0) := by kernel_rfl
def timesF (x : List Ar × List Int × List Int) : Option (List Int × Int) := bif eqL arEq x.1 two && eqL intEq x.2.1 [1, 0] && eqL intEq x.2.2 stdT then some ([0, 60], 0) else none
def timesS : PSpec := ⟨false, [.cell tAr, .cell (.sl 3 (.int .i64)), .agg (.vec 16 .i64)], [.own 3 (.int .i64), .val (.cell (.int .i64))], timesF⟩
theorem timesS_sound : Sound Try.prog 7 timesS :=
  Sound.mono (sequence_Times.sound NN) fun x r h => by
    have h : timesF x = some r := h
    unfold timesF at h
    cases hq : eqL arEq x.1 two && eqL intEq x.2.1 [1, 0] && eqL intEq x.2.2 stdT with
    | false => rw [hq] at h; cases h
    | true =>
      rw [hq] at h
      rw [Bool.and_eq_true, Bool.and_eq_true] at hq
      have h1 : x.1 = two := (eqL_iff arEq_iff x.1 two).1 hq.1.1
      have h2 : x.2.1 = [1, 0] := (eqL_iff intEq_iff x.2.1 [1, 0]).1 hq.1.2
      have h3 : x.2.2 = stdT := (eqL_iff intEq_iff x.2.2 stdT).1 hq.2
      have hx : x = (two, [1, 0], stdT) := Prod.ext h1 (Prod.ext h2 h3)
      rw [hx]
      obtain ⟨M, hM⟩ : ∃ M, NN = M + 16 := ⟨NN - 16, by have := NN_big; omega⟩
      show sequence_Times.fn NN (two, [1, 0], stdT) = some r
      rw [hM, times_two]
      exact h
theorem q28_enters : Enters Try.prog 28 := ⟨Try.f28, Try.func28, by kernel_rfl, by kernel_rfl⟩
theorem q39_enters : Enters Try.prog 39 := ⟨Try.f39, Try.func39, by kernel_rfl, by kernel_rfl⟩
theorem q17_enters : Enters Try.prog 17 := ⟨Try.f17, Try.func17, by kernel_rfl, by kernel_rfl⟩
noncomputable def bst.G : List (Nat × Spec) := [(7, .pure timesS), (20, .pure natS), (21, .pure bothS), (23, .pure nextS), (40, .pure cloneS), (28, .inl Try.f28), (39, .inl Try.f39)]
noncomputable def bst.E (N : Nat) : Env := mkEnv bst.G N tyTab [(4, [(0, none), (1, none), (2, none), (3, none), (49, none), (50, none)]), (8, [(0, none), (4, none), (10, none), (39, none), (40, none), (41, none)])]
noncomputable def bst.fn (N : Nat) (x : List Ar × List Int × Int) : Option (List Int × List Int × Int) := evFn (bst.E N) Try.prog 6 Try.f17 false [.cell tAr, .agg (.vec 16 .i64), .cell (.int .i64)] [.own 3 (.int .i64), .own 3 (.int .i64), .val (.cell (.int .i64))] x
theorem bst.tab : TabOk Try.prog bst.G := ⟨⟨sequence_Times.enters, timesS_sound⟩, ⟨sequence_natural.enters, natS_sound⟩, ⟨sequence_both.enters, bothS_sound⟩, ⟨sequence_next.enters, nextS_sound⟩, ⟨slices_Clone_int.enters, cloneS_sound⟩, ⟨q28_enters, Try.func28⟩, ⟨q39_enters, Try.func39⟩, trivial⟩
theorem bst_two (M : Nat) : bst.fn (M + 8) (two, stdT, 1) = some ([1, 0], [0, 60], 0) := by kernel_rfl
theorem bst.sound (N : Nat) : Sound Try.prog 17 ⟨false, [.cell tAr, .agg (.vec 16 .i64), .cell (.int .i64)], [.own 3 (.int .i64), .own 3 (.int .i64), .val (.cell (.int .i64))], bst.fn N⟩ := evFn_sound (specs_tab bst.tab) (inls_tab bst.tab) mixed 6 Try.func17 _ _ _
def bestF (x : List Ar × List Int × Int) : Option (List Int × List Int × Int) := bif eqL arEq x.1 two && eqL intEq x.2.1 stdT && intEq x.2.2 1 then some ([1, 0], [0, 60], 0) else none
def bestS : PSpec := ⟨false, [.cell tAr, .agg (.vec 16 .i64), .cell (.int .i64)], [.own 3 (.int .i64), .own 3 (.int .i64), .val (.cell (.int .i64))], bestF⟩
theorem bestS_sound : Sound Try.prog 17 bestS :=
  Sound.mono (bst.sound NN) fun x r h => by
    have h : bestF x = some r := h
    unfold bestF at h
    cases hq : eqL arEq x.1 two && eqL intEq x.2.1 stdT && intEq x.2.2 1 with
    | false => rw [hq] at h; cases h
    | true =>
      rw [hq] at h
      rw [Bool.and_eq_true, Bool.and_eq_true] at hq
      have h1 : x.1 = two := (eqL_iff arEq_iff x.1 two).1 hq.1.1
      have h2 : x.2.1 = stdT := (eqL_iff intEq_iff x.2.1 stdT).1 hq.1.2
      have h3 : x.2.2 = (1 : Int) := (intEq_iff x.2.2 1).1 hq.2
      have hx : x = (two, stdT, (1 : Int)) := Prod.ext h1 (Prod.ext h2 h3)
      rw [hx]
      obtain ⟨M, hM⟩ : ∃ M, NN = M + 8 := ⟨NN - 8, by have := NN_big; omega⟩
      show bst.fn NN (two, stdT, 1) = some r
      rw [hM, bst_two]
      exact h
end Go.Proofs.Ytoapmjnfiimmjaa.Sk
