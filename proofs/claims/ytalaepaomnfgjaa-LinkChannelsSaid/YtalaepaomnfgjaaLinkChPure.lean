/- The law LinkChannels, plain. -/
import Derived.Test.YtalaepaomnfgjaaLinkPure
set_option linter.unusedVariables false
set_option linter.unusedSimpArgs false
set_option linter.unusedSectionVars false
namespace Go.Proofs.Ytalaepaomnfgjaa.Sk
open Go

theorem band127 (a : Int) : 0 ≤ bandI .i64 a 127 := by
  unfold bandI
  have h : (BitVec.ofInt IntKind.i64.bits a &&& BitVec.ofInt IntKind.i64.bits 127).toNat ≤ 127 := by
    rw [BitVec.toNat_and]; exact Nat.le_trans Nat.and_le_right (by decide)
  have := w_small ((BitVec.ofInt IntKind.i64.bits a &&& BitVec.ofInt IntKind.i64.bits 127).toNat : Int) (by omega) (by omega)
  unfold w at this
  rw [this]; omega
abbrev Texts (s : List ByteArray) : Prop := s.length ≤ 64 ∧ ∀ t, t ∈ s → t.size ≤ 120
def del (s : List ByteArray) (i : Nat) : List ByteArray := s.take i ++ s.drop (i + 1)
theorem del_len {s : List ByteArray} {i : Nat} (h : i < s.length) : (s.take i).length + (s.drop (i + 1)).length < s.length := by simp; omega
theorem del_ok {s : List ByteArray} {i : Nat} (h : Texts s) (hi : i < s.length) : Texts (del s i) := by
  refine ⟨?_, fun t ht => h.2 t ?_⟩
  · have := del_len hi
    unfold del; rw [List.length_append]; have := h.1; omega
  · rcases List.mem_append.1 ht with ht | ht
    · exact List.mem_of_mem_take ht
    · exact List.mem_of_mem_drop ht
theorem app_ok {s : List ByteArray} {t : ByteArray} (h : Texts s) (hl : s.length < 64) (ht : t.size ≤ 120) : Texts (s ++ [t]) := by
  refine ⟨by simp; omega, fun u hu => ?_⟩
  rcases List.mem_append.1 hu with hu | hu
  · exact h.2 u hu
  · simp at hu; subst hu; exact ht
theorem get_ok {s : List ByteArray} {i : Nat} (h : Texts s) (hi : i < s.length) : (s.getD i ⟨#[]⟩).size ≤ 120 := by
  have e : s.getD i ⟨#[]⟩ = s[i] := by simp [List.getD, hi]
  rw [e]; exact h.2 _ (List.getElem_mem _)
theorem room {n : Nat} (h : n ≤ 65) : (decide (n * 16 ≤ 140737488355328) && decide (n ≤ maxLen)) = true := by
  rw [Bool.and_eq_true, decide_eq_true_eq, decide_eq_true_eq]; unfold maxLen; omega
theorem fill_gen (A B : List ByteArray) (n : Nat) (z : ByteArray) : List.take A.length (fillL (A ++ B) A.length n z) = A := by
  unfold fillL
  have e : List.take A.length (A ++ B) = A := List.take_left
  rw [e, List.append_assoc]
  exact List.take_left
theorem fill_del {s : List ByteArray} {i : Nat} (hi : i < s.length) (n : Nat) (z : ByteArray) (B : List ByteArray) :
    List.take (i + (s.drop (i + 1)).length) (fillL (s.take i ++ s.drop (i + 1) ++ B) (i + (s.drop (i + 1)).length) n z) = del s i := by
  have L : (s.take i ++ s.drop (i + 1)).length = i + (s.drop (i + 1)).length := by rw [List.length_append, List.length_take]; omega
  rw [← L]
  exact fill_gen _ B n z
theorem tail_all {s : List ByteArray} (i : Nat) : List.take (s.length - i) (List.drop i s) = List.drop i s := List.take_of_length_le (by simp)

section
variable {N : Nat} (hN : 4611686018427387904 ≤ N)
include hN
theorem d1 (D : Nat) (n : Int) (h : 0 ≤ n ∧ n < 10) : ∃ r, F57.R N (D + 1) n = some r ∧ r.size ≤ 1 := by
  rw [F57.eq, w_small (n + 1) (by omega) (by omega)]
  refine ⟨ByteArray.extract ⟨#[48, 49, 50, 51, 52, 53, 54, 55, 56, 57]⟩ n.toNat (n + 1).toNat, ?_, ?_⟩
  · have e : ((⟨#[48, 49, 50, 51, 52, 53, 54, 55, 56, 57]⟩ : ByteArray).size : Int) = 10 := rfl
    rw [e]
    simp -implicitDefEqProofs only [show decide (n < 0) = false by simp; omega, show decide (n < 10) = true by simp; omega, show decide (0 ≤ n) = true by simp; omega, show decide (n ≤ n + 1) = true by simp; omega, show decide (n + 1 ≤ 10) = true by simp; omega, Bool.and_self, cond_true, cond_false]
  · rw [ByteArray.size_extract]; omega
theorem dS (m : Nat) (hm : m ≤ 10) (D : Nat) (b : Int) (hb : 0 ≤ b) (ih : ∀ n, 0 ≤ n ∧ n < b → ∃ r, F57.R N (D + 1) n = some r ∧ r.size ≤ m) (n : Int) (h : 0 ≤ n ∧ n < b * 10) (hn : n < 100000) : ∃ r, F57.R N (D + 2) n = some r ∧ r.size ≤ m + 1 := by
  by_cases h10 : n < 10
  · obtain ⟨r, h1, h2⟩ := d1 hN (D + 1) n ⟨h.1, h10⟩
    exact ⟨r, h1, by omega⟩
  have e1 : Int.tdiv n 10 = n / 10 := Int.tdiv_eq_ediv_of_nonneg h.1
  have e2 : Int.tmod n 10 = n % 10 := Int.tmod_eq_emod_of_nonneg h.1
  obtain ⟨r2, h2, s2⟩ := ih (n / 10) ⟨by omega, by omega⟩
  obtain ⟨r3, h3, s3⟩ := d1 hN D (n % 10) ⟨by omega, by omega⟩
  refine ⟨r2 ++ r3, ?_, by rw [ByteArray.size_append]; omega⟩
  rw [F57.eq, e1, e2, w_small (n / 10) (by omega) (by omega), h2, h3]
  simp -implicitDefEqProofs only [show decide (n < 0) = false by simp; omega, show decide (n < 10) = false by simp; omega, cond_false, Option.bind_some, show decide (((r2.size + r3.size : Nat) : Int) ≤ 9223372036854775807) = true by simp only [decide_eq_true_eq]; omega, cond_true]
theorem F57.v (n : Int) (h : 0 ≤ n ∧ n < 1000) : ∃ r, F57.fn N n = some r ∧ r.size ≤ 120 := by
  obtain ⟨M, hM⟩ : ∃ M, N = M + 3 := ⟨N - 3, by omega⟩
  have h2 := dS hN 1 (by omega) M 10 (by omega) (d1 hN M)
  have h3 := dS hN 2 (by omega) (M + 1) 100 (by omega) (fun n hn => h2 n hn (by omega)) n h (by omega)
  obtain ⟨r, e, s⟩ := h3
  refine ⟨r, ?_, by omega⟩
  unfold F57.fn
  have : F57.R N (M + 1 + 2) n = F57.R N N n := by rw [hM]
  rw [← this]; exact e

theorem j1v (x0 : List Int) (k : Nat) (a3 : Int) {s : List ByteArray} {i : Nat} (h : Texts s) (hi : i < s.length) (c : Int) (t : ByteArray) (ht : ((c == 1) && !(seq t (s.getD i ⟨#[]⟩))) = false) :
    F13.j1 N x0 k a3 s c (i : Int) true t 0 (del s i) = F13.l0 N x0 k (w (a3 + 1)) (del s i) (del s i) := by
  obtain ⟨M, hM⟩ : ∃ M, N = M + 1 := ⟨N - 1, by omega⟩
  have hs := h.1
  have hd := del_len hi
  have e1 : Int.toNat ((i : Int) + 1) = i + 1 := by omega
  rw [F13.j1_clean N x0 k a3 s c i true t 0 (del s i) hM, w_small ((i : Int) + 1) (by omega) (by omega)]
  simp -implicitDefEqProofs only [Int.toNat_natCast, e1, Nat.zero_add, tail_all, ht, F53.v hN (l := s.take i) (by simp; omega), Option.bind_some, show decide (0 ≤ (i : Int)) = true by simp, show decide ((i : Int) < (s.length : Int)) = true by simp; omega, show decide (i < s.length) = true by simp; omega,
    show decide (i ≤ s.length) = true by simp; omega, show decide (0 ≤ (i : Int) + 1) = true by simp; omega, show decide ((i : Int) + 1 ≤ (s.length : Int)) = true by simp; omega, beq_self_eq_true, Bool.not_true, Bool.not_false, Bool.false_or, Bool.true_or, Bool.and_self, cond_true, cond_false, room (n := (s.take i).length + (s.drop (i + 1)).length) (by omega)]
  simp [del]
theorem j3v (x0 : List Int) (k : Nat) (a3 : Int) {s : List ByteArray} {i : Nat} (h : Texts s) (hi : i < s.length) (c : Int) (t : ByteArray) (ht : ((c == 1) && !(seq t (s.getD i ⟨#[]⟩))) = false) :
    F13.j3 N x0 k a3 s c (i : Int) true t 0 (del s i) = F13.l0 N x0 k (w (a3 + 1)) (del s i) (del s i) := by
  obtain ⟨M, hM⟩ : ∃ M, N = M + 1 := ⟨N - 1, by omega⟩
  have hs := h.1
  have hd := del_len hi
  have e1 : Int.toNat ((i : Int) + 1) = i + 1 := by omega
  rw [F13.j3_clean N x0 k a3 s c i true t 0 (del s i) hM, w_small ((i : Int) + 1) (by omega) (by omega)]
  simp -implicitDefEqProofs only [Int.toNat_natCast, e1, Nat.zero_add, tail_all, ht, F53.v hN (l := s.take i) (by simp; omega), Option.bind_some, show decide (0 ≤ (i : Int)) = true by simp, show decide ((i : Int) < (s.length : Int)) = true by simp; omega, show decide (i < s.length) = true by simp; omega,
    show decide (i ≤ s.length) = true by simp; omega, show decide (0 ≤ (i : Int) + 1) = true by simp; omega, show decide ((i : Int) + 1 ≤ (s.length : Int)) = true by simp; omega, beq_self_eq_true, Bool.not_true, Bool.not_false, Bool.false_or, Bool.true_or, Bool.and_self, cond_true, cond_false, room (n := (s.take i).length + (s.drop (i + 1)).length) (by omega)]
  simp [del]

theorem j1n (x0 : List Int) (k : Nat) (a3 : Int) (s : List ByteArray) (c i : Int) : F13.j1 N x0 k a3 s c i false ⟨#[]⟩ 8 s = F13.l0 N x0 k (w (a3 + 1)) s s := by
  obtain ⟨M, hM⟩ : ∃ M, N = M + 1 := ⟨N - 1, by omega⟩
  rw [F13.j1_clean N x0 k a3 s c i false ⟨#[]⟩ 8 s hM]
  simp [seq_self]
theorem j3n (x0 : List Int) (k : Nat) (a3 : Int) (s : List ByteArray) (c i : Int) : F13.j3 N x0 k a3 s c i false ⟨#[]⟩ 8 s = F13.l0 N x0 k (w (a3 + 1)) s s := by
  obtain ⟨M, hM⟩ : ∃ M, N = M + 1 := ⟨N - 1, by omega⟩
  rw [F13.j3_clean N x0 k a3 s c i false ⟨#[]⟩ 8 s hM]
  simp [seq_self]
/-- Twice. -/
theorem j4v (x0 : List Int) (k : Nat) (a3 : Int) {s : List ByteArray} (i : Nat) (h : Texts s) :
    F13.j4 N x0 k a3 s s (i : Int) (bif !(decide ((i : Int) < (s.length : Int))) then 8 else bif (s.length : Int) == 64 then 9 else 0) = F13.l0 N x0 k (w (a3 + 1)) (bif decide (i < s.length) && decide (s.length < 64) then s ++ [s.getD i ⟨#[]⟩] else s) (bif decide (i < s.length) && decide (s.length < 64) then s ++ [s.getD i ⟨#[]⟩] else s) := by
  obtain ⟨M, hM⟩ : ∃ M, N = M + 1 := ⟨N - 1, by omega⟩
  have hs := h.1
  rw [F13.j4_clean N x0 k a3 s s i _ hM]
  by_cases hi : i < s.length
  · have hg := get_ok h hi
    by_cases hf : s.length < 64
    · simp -implicitDefEqProofs only [Int.toNat_natCast, show decide ((i : Int) < 0) = false by simp, show decide ((i : Int) ≥ (s.length : Int)) = false by simp; omega, show decide (0 ≤ (i : Int)) = true by simp, show decide ((i : Int) < (s.length : Int)) = true by simp; omega, show decide (i < s.length) = true by simp; omega,
        show decide (s.length < 64) = true by simp; omega, show ((s.length : Int) == 64) = false by simp; omega, show decide (((s.getD i ⟨#[]⟩).size : Int) > 120) = false by simp only [decide_eq_false_iff_not]; omega, show decide ((s.length : Int) ≥ 64) = false by simp; omega, room (n := s.length + 1) (by omega),
        beq_self_eq_true, Bool.not_true, Bool.not_false, Bool.or_self, Bool.and_self, cond_true, cond_false]
    · simp -implicitDefEqProofs only [Int.toNat_natCast, show decide ((i : Int) < 0) = false by simp, show decide ((i : Int) ≥ (s.length : Int)) = false by simp; omega, show decide (0 ≤ (i : Int)) = true by simp, show decide ((i : Int) < (s.length : Int)) = true by simp; omega, show decide (i < s.length) = true by simp; omega,
        show decide (s.length < 64) = false by simp; omega, show ((s.length : Int) == 64) = true by simp; omega, show decide (((s.getD i ⟨#[]⟩).size : Int) > 120) = false by simp only [decide_eq_false_iff_not]; omega, show decide ((s.length : Int) ≥ 64) = true by simp; omega,
        beq_self_eq_true, Bool.not_true, Bool.not_false, Bool.or_self, Bool.and_self, Bool.and_false, cond_true, cond_false, show ((9 : Int) == 0) = false from rfl]
  · simp -implicitDefEqProofs only [show decide ((i : Int) < 0) = false by simp, show decide ((i : Int) ≥ (s.length : Int)) = true by simp; omega, show decide ((i : Int) < (s.length : Int)) = false by simp; omega, show decide (i < s.length) = false by simp; omega,
      beq_self_eq_true, Bool.not_true, Bool.not_false, Bool.or_true, Bool.false_and, cond_true, cond_false, show ((8 : Int) == 0) = false from rfl]

theorem F13.step (x0 : List Int) (hx : x0.length ≤ 200) (k : Nat) (a : Nat) (ha : a < x0.length) {s : List ByteArray} (h : Texts s) : ∃ s', Texts s' ∧ F13.l0 N x0 (k + 1) a s s = F13.l0 N x0 k ((a : Int) + 1) s' s' := by
  obtain ⟨M, hM⟩ : ∃ M, N = M + 1 := ⟨N - 1, by omega⟩
  have hs := h.1
  obtain ⟨r, hr, hr2⟩ := F57.v hN (a : Int) ⟨by omega, by omega⟩
  have b0 : decide ((a : Int) < (x0.length : Int)) = true := by simp; omega
  have b1 : decide (0 ≤ (a : Int)) = true := by simp
  have hw := w_small ((a : Int) + 1) (by omega) (by omega)
  rw [F13.l0_clean]
  have hi0 := band127 (shrI .i64 (x0.getD (Int.toNat (a : Int)) 0) 2)
  generalize bandI .i64 (x0.getD (Int.toNat (a : Int)) 0) 3 = op
  revert hi0
  generalize bandI .i64 (shrI .i64 (x0.getD (Int.toNat (a : Int)) 0) 2) 127 = ix
  intro hi0
  obtain ⟨i, rfl⟩ : ∃ i : Nat, ix = i := ⟨ix.toNat, by omega⟩
  simp -implicitDefEqProofs only [b0, b1, Bool.and_self, cond_true]
  cases h0 : (op == 0) with
  | true =>
    simp -implicitDefEqProofs only [cond_true, hr, Option.bind_some]
    by_cases hf : s.length < 64
    · refine ⟨s ++ [r], app_ok h hf hr2, ?_⟩
      simp -implicitDefEqProofs only [show decide ((r.size : Int) > 120) = false by simp; omega, show decide ((s.length : Int) ≥ 64) = false by simp; omega, show decide ((s.length : Int) < 64) = true by simp; omega, room (n := s.length + 1) (by omega), beq_self_eq_true, Bool.not_true, cond_true, cond_false, hw]
    · refine ⟨s, h, ?_⟩
      simp -implicitDefEqProofs only [show decide ((r.size : Int) > 120) = false by simp; omega, show decide ((s.length : Int) ≥ 64) = true by simp; omega, show decide ((s.length : Int) < 64) = false by simp; omega, beq_self_eq_true, Bool.not_true, cond_true, cond_false, hw]
  | false =>
    simp -implicitDefEqProofs only [cond_false]
    have hd : i < s.length → (s.take i).length + (s.drop (i + 1)).length < s.length := fun hi => del_len hi
    cases h1 : (op == 1) with
    | true =>
      simp -implicitDefEqProofs only [cond_true]
      by_cases hi : i < s.length
      · refine ⟨del s i, del_ok h hi, ?_⟩
        have hd := hd hi
        have e2 : i + (s.drop (i + 1)).length ≤ s.length := by rw [List.length_drop]; omega
        have hw2 := w_small ((i : Int) + 1) (by omega) (by omega)
        simp -implicitDefEqProofs only [hw2, Int.toNat_natCast, show Int.toNat ((i : Int) + 1) = i + 1 by omega, Nat.zero_add, tail_all, fill_del hi, show decide ((i : Int) < 0) = false by simp, show decide ((i : Int) ≥ (s.length : Int)) = false by simp; omega, show decide ((i : Int) < (s.length : Int)) = true by simp; omega, b1,
          show decide (0 ≤ (i : Int)) = true by simp, show decide (i < s.length) = true by simp; omega, show decide ((i : Int) ≤ (i : Int) + 1) = true by simp; omega, show decide ((i : Int) + 1 ≤ (s.length : Int)) = true by simp; omega, show decide ((s.length : Int) ≤ (s.length : Int)) = true by simp, show ((i : Int) == (i : Int) + 1) = false by simp; omega,
          show decide (i ≤ s.length) = true by simp; omega, show decide (0 ≤ (i : Int) + 1) = true by simp; omega, room (n := (s.take i).length + (s.drop (i + 1)).length) (by omega), show decide (i + (s.drop (i + 1)).length ≤ s.length) = true by simp only [decide_eq_true_eq]; omega, show decide (0 ≤ ((i + (s.drop (i + 1)).length : Nat) : Int)) = true by simp only [decide_eq_true_eq]; omega,
          show decide (((i + (s.drop (i + 1)).length : Nat) : Int) ≤ (s.length : Int)) = true by simp only [decide_eq_true_eq]; omega, show decide (s.length ≤ (s.take i ++ s.drop (i + 1) ++ s.drop (i + (s.drop (i + 1)).length)).length) = true by simp only [decide_eq_true_eq, List.length_append, List.length_take, List.length_drop]; omega,
          Bool.or_self, Bool.and_self, cond_true, cond_false, j1v hN x0 k a h hi op (s.getD i ⟨#[]⟩) (by simp [seq_self]), hw]
      · refine ⟨s, h, ?_⟩
        simp -implicitDefEqProofs only [show decide ((i : Int) < 0) = false by simp, show decide ((i : Int) ≥ (s.length : Int)) = true by simp; omega, show decide ((i : Int) < (s.length : Int)) = false by simp; omega, Bool.or_true, cond_true, j1n hN, hw]
    | false =>
      simp -implicitDefEqProofs only [cond_false]
      cases h2 : (op == 2) with
      | true =>
        simp -implicitDefEqProofs only [cond_true]
        by_cases hi : i < s.length
        · refine ⟨del s i, del_ok h hi, ?_⟩
          have hd := hd hi
          have e2 : i + (s.drop (i + 1)).length ≤ s.length := by rw [List.length_drop]; omega
          have hw2 := w_small ((i : Int) + 1) (by omega) (by omega)
          simp -implicitDefEqProofs only [hw2, Int.toNat_natCast, show Int.toNat ((i : Int) + 1) = i + 1 by omega, Nat.zero_add, tail_all, fill_del hi, show decide ((i : Int) < 0) = false by simp, show decide ((i : Int) ≥ (s.length : Int)) = false by simp; omega, show decide ((i : Int) < (s.length : Int)) = true by simp; omega, b1,
          show decide (0 ≤ (i : Int)) = true by simp, show decide (i < s.length) = true by simp; omega, show decide ((i : Int) ≤ (i : Int) + 1) = true by simp; omega, show decide ((i : Int) + 1 ≤ (s.length : Int)) = true by simp; omega, show decide ((s.length : Int) ≤ (s.length : Int)) = true by simp, show ((i : Int) == (i : Int) + 1) = false by simp; omega,
          show decide (i ≤ s.length) = true by simp; omega, show decide (0 ≤ (i : Int) + 1) = true by simp; omega, room (n := (s.take i).length + (s.drop (i + 1)).length) (by omega), show decide (i + (s.drop (i + 1)).length ≤ s.length) = true by simp only [decide_eq_true_eq]; omega, show decide (0 ≤ ((i + (s.drop (i + 1)).length : Nat) : Int)) = true by simp only [decide_eq_true_eq]; omega,
          show decide (((i + (s.drop (i + 1)).length : Nat) : Int) ≤ (s.length : Int)) = true by simp only [decide_eq_true_eq]; omega, show decide (s.length ≤ (s.take i ++ s.drop (i + 1) ++ s.drop (i + (s.drop (i + 1)).length)).length) = true by simp only [decide_eq_true_eq, List.length_append, List.length_take, List.length_drop]; omega,
          Bool.or_self, Bool.and_self, cond_true, cond_false, j3v hN x0 k a h hi op ⟨#[]⟩ (by rw [h1]; rfl), hw]
        · refine ⟨s, h, ?_⟩
          simp -implicitDefEqProofs only [show decide ((i : Int) < 0) = false by simp, show decide ((i : Int) ≥ (s.length : Int)) = true by simp; omega, show decide ((i : Int) < (s.length : Int)) = false by simp; omega, Bool.or_true, cond_true, j3n hN, hw]
      | false =>
        simp -implicitDefEqProofs only [cond_false]
        refine ⟨bif decide (i < s.length) && decide (s.length < 64) then s ++ [s.getD i ⟨#[]⟩] else s, ?_, ?_⟩
        · by_cases hc : i < s.length ∧ s.length < 64
          · simp only [hc.1, hc.2, decide_true, Bool.and_self, cond_true]
            exact app_ok h hc.2 (get_ok h hc.1)
          · have : (decide (i < s.length) && decide (s.length < 64)) = false := by
              rw [Bool.eq_false_iff]; intro h'; rw [Bool.and_eq_true, decide_eq_true_eq, decide_eq_true_eq] at h'; exact hc h'
            rw [this]; exact h
        · rw [← hw, ← j4v hN x0 k a i h]
          cases decide ((i : Int) < (s.length : Int)) <;> cases ((s.length : Int) == 64) <;> rfl

theorem F13.loop (x0 : List Int) (hx : x0.length ≤ 200) : F13.l0 N x0 N 0 [] [] = some true := by
  have key : ∀ (m : Nat) (a k : Nat) (s : List ByteArray), a + m = x0.length → m < k → Texts s → F13.l0 N x0 k a s s = some true := by
    intro m
    induction m with
    | zero =>
      intro a k s ha hk hs
      obtain ⟨k, rfl⟩ : ∃ k', k = k' + 1 := ⟨k - 1, by omega⟩
      rw [F13.l0_clean, show decide ((a : Int) < (x0.length : Int)) = false by simp; omega]
      rfl
    | succ m ih =>
      intro a k s ha hk hs
      obtain ⟨k, rfl⟩ : ∃ k', k = k' + 1 := ⟨k - 1, by omega⟩
      obtain ⟨s', h1, h2⟩ := F13.step hN x0 hx k a (by omega) hs
      rw [h2]
      exact ih (a + 1) k s' (by omega) (by omega) h1
  exact key x0.length 0 N [] (by omega) (by omega) ⟨by simp, by simp⟩
theorem LinkChannels.pureN (x0 : List Int) : F13.fn N x0 = some true := by
  rw [F13.eq, F47.t hN, Option.bind_some]
  by_cases h : (x0.length : Int) > 200
  · simp [h]
  · rw [F13.loop hN x0 (by omega)]; simp
end
theorem LinkChannels.pure (x0 : List Int) (h0 : Wf Try.prog (.sl 3 (.int .i64)) x0) : F13.fn NN x0 = some true := LinkChannels.pureN NN_big x0
end Go.Proofs.Ytalaepaomnfgjaa.Sk
