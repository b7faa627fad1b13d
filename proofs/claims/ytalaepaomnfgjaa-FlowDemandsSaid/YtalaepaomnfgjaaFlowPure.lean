/- The laws FlowAsks, FlowDemands, plain: what the printed functions answer. -/
import Derived.Test.YtalaepaomnfgjaaFlowEq
import Derived.Test.YtalaepaomnfgjaaSkAid
set_option linter.unusedVariables false
set_option linter.unusedSimpArgs false
namespace Go.Proofs.Ytalaepaomnfgjaa.Sk
open Go

abbrev Cap := (Int × Int) × Int
def capBad (c : Cap) : Bool := decide (c.1.1 < 0) || decide (c.1.2 > 200000) || decide (c.1.1 ≥ c.1.2) || decide (c.2 < 0) || decide (c.2 > 24)
def capE : Int → List Cap → Int
  | _, [] => 0
  | e, c :: r => bif capBad c then 4 else bif decide (c.1.1 < e) then 12 else capE c.1.2 r
theorem capE_cons (e : Int) (c : Cap) (r : List Cap) : capE e (c :: r) = bif capBad c then 4 else bif decide (c.1.1 < e) then 12 else capE c.1.2 r := rfl
def capsErr (l : List Cap) : Int := bif decide ((l.length : Int) > 256) then 2 else capE 0 l
theorem capBad_ok {c : Cap} (h : capBad c = false) : 0 ≤ c.1.1 ∧ c.1.2 ≤ 200000 ∧ c.1.1 < c.1.2 ∧ 0 ≤ c.2 ∧ c.2 ≤ 24 := by
  simp only [capBad, Bool.or_eq_false_iff, decide_eq_false_iff_not] at h; omega
theorem capE_ok : ∀ {l : List Cap} {e : Int}, capE e l = 0 → (∀ c, c ∈ l → capBad c = false ∧ e ≤ c.1.1) ∧ l.Pairwise fun a b => a.1.2 ≤ b.1.1
  | [], e, _ => ⟨fun c h => (by cases h), .nil⟩
  | a :: r, e, h => by
    unfold capE at h
    cases hb : capBad a with
    | true => rw [hb] at h; cases h
    | false =>
      rw [hb, cond_false] at h
      by_cases hf : a.1.1 < e
      · simp [hf] at h
      · simp only [hf, decide_false, cond_false] at h
        obtain ⟨h1, h2⟩ := capE_ok (l := r) h
        have h3 := capBad_ok hb
        refine ⟨fun c hc => ?_, .cons (fun b hb => (h1 b hb).2) h2⟩
        rcases List.mem_cons.1 hc with rfl | hc
        · exact ⟨hb, by omega⟩
        · have := h1 c hc; exact ⟨this.1, by omega⟩
theorem capE_val : ∀ (l : List Cap) (e : Int), capE e l = 0 ∨ capE e l = 4 ∨ capE e l = 12
  | [], e => .inl rfl
  | a :: r, e => by
    unfold capE
    cases capBad a with
    | true => exact .inr (.inl rfl)
    | false =>
      cases decide (a.1.1 < e) with
      | true => exact .inr (.inr rfl)
      | false => exact capE_val r _
theorem capsErr_val (l : List Cap) : capsErr l = 0 ∨ ¬ capsErr l = 0 := by omega
theorem capsErr_ok {l : List Cap} (h : capsErr l = 0) : l.length ≤ 256 ∧ capE 0 l = 0 := by
  unfold capsErr at h
  by_cases hl : (l.length : Int) > 256
  · simp [hl] at h
  · simp [hl] at h; exact ⟨by omega, h⟩

section
variable {l : List Cap} (hl : l.length < 4611686018427387904)
include hl
theorem F36.v : F36.fn NN l = some (capsErr l) := by
  rw [F36.eq]
  unfold capsErr
  by_cases h : (l.length : Int) > 256
  · simp [h]
  simp only [h, decide_false, cond_false]
  refine list_loop (l := l) (fun k (s : Int) i => F36.l0 NN l k s i) (fun _ r s => some (capE s r)) (fun _ _ => True) (fun k s _ => ?_) (fun k pre c r s h _ ih => ?_) NN 0 trivial (by unfold NN; omega)
  · rw [F36.l0_clean]; simp [capE]
  · have hlen : l.length = pre.length + 1 + r.length := by rw [h]; simp; omega
    rw [F36.l0_clean, w_next h hl]
    simp only [Int.toNat_natCast, show l.getD pre.length ((0, 0), 0) = c by rw [h]; exact getD_mid pre c r _]
    rw [ih _ trivial]
    simp only [show decide ((pre.length : Int) < l.length) = true by simp; omega, show decide (0 ≤ (pre.length : Int)) = true by simp, Bool.true_and, cond_true]
    rw [capE_cons]
    unfold capBad
    simp only [ge_iff_le]
    cases (decide (c.1.1 < 0) || decide (c.1.2 > 200000) || decide (c.1.2 ≤ c.1.1) || decide (c.2 < 0) || decide (c.2 > 24)) with
    | true => rfl
    | false => cases decide (c.1.1 < s) <;> rfl
theorem F37.v : F37.fn NN l = some (capsErr l) := by
  rw [F37.eq]
  unfold capsErr
  by_cases h : (l.length : Int) > 256
  · simp [h]
  simp only [h, decide_false, cond_false]
  refine list_loop (l := l) (fun k (_ : Unit) i => F37.l0 NN l k i) (fun pre r _ => some (capE ((pre.getLast?.map (·.1.2)).getD 0) r)) (fun _ _ => True) (fun k s _ => ?_) (fun k pre c r s h _ ih => ?_) NN () trivial (by unfold NN; omega)
  · rw [F37.l0_clean]; simp [capE]
  · have hlen : l.length = pre.length + 1 + r.length := by rw [h]; simp; omega
    have ih := ih () trivial
    rw [F37.l0_clean, w_next h hl]
    simp only [Int.toNat_natCast, show l.getD pre.length ((0, 0), 0) = c by rw [h]; exact getD_mid pre c r _]
    simp only [List.getLast?_append, List.getLast?_singleton, Option.some_or, Option.map_some, Option.getD_some] at ih
    rw [ih]
    simp only [show decide ((pre.length : Int) < l.length) = true by simp; omega, show decide (0 ≤ (pre.length : Int)) = true by simp, Bool.true_and, cond_true]
    rw [capE_cons]
    unfold capBad
    cases h1 : (decide (c.1.1 < 0) || decide (c.1.2 > 200000) || decide (c.1.1 ≥ c.1.2)) with
    | true => simp [h1]
    | false =>
      cases h2 : (decide (c.2 < 0) || decide (c.2 > 24)) with
      | true => simp only [cond_false, cond_true, Bool.or_assoc, h2, Bool.or_true]
      | false =>
        simp only [cond_false, Bool.or_assoc, h2]
        simp only [Bool.or_eq_false_iff, decide_eq_false_iff_not] at h1
        rcases List.eq_nil_or_concat pre with rfl | ⟨pre', p, rfl⟩
        · simp [h1, show ¬ c.1.1 < 0 by omega, show ¬ 200000 < c.1.2 by omega, show ¬ c.1.2 ≤ c.1.1 by omega]
        · rw [List.concat_eq_append] at *
          have hlen' : l.length = pre'.length + 1 + 1 + r.length := by simpa using hlen
          have e1 : w (((pre' ++ [p]).length : Int) - 1) = (pre'.length : Int) := by rw [w_small] <;> simp <;> omega
          have g2 : ∀ d, l.getD pre'.length d = p := fun d => by rw [h, List.append_assoc]; exact getD_mid _ p _ d
          rw [e1]
          simp only [Int.toNat_natCast, g2]
          simp [show (pre'.length : Int) < l.length by simp at hlen; omega, show ¬ c.1.1 < 0 by omega, show ¬ 200000 < c.1.2 by omega, show ¬ c.1.2 ≤ c.1.1 by omega, show ((pre'.length : Int) + 1 > 0) by omega]
          cases decide (c.1.1 < p.1.2) <;> rfl

/-! ### the capacity of a time -/
end
def inC (t : Int) (c : Cap) : Bool := decide (t ≥ c.1.1) && decide (t < c.1.2)
def idxC (t : Int) : List Cap → Int → Int
  | [], _ => -1
  | c :: r, i => bif inC t c then i else idxC t r (i + 1)
def lastC (t : Int) : Int → List Cap → Int → Int
  | s, [], _ => s
  | s, c :: r, i => lastC t (bif inC t c then i else s) r (i + 1)
theorem lastC_none {t : Int} : ∀ (r : List Cap) (s i : Int), (∀ c, c ∈ r → inC t c = false) → lastC t s r i = s
  | [], s, i, _ => rfl
  | c :: r, s, i, h => by
    unfold lastC
    rw [h c (List.mem_cons_self ..), cond_false]
    exact lastC_none r s _ fun c hc => h c (List.mem_cons_of_mem _ hc)
theorem last_idx {t : Int} : ∀ (r : List Cap) (i : Int), r.Pairwise (fun a b => a.1.2 ≤ b.1.1) → lastC t (-1) r i = idxC t r i
  | [], i, _ => rfl
  | c :: r, i, h => by
    unfold lastC idxC
    cases hc : inC t c with
    | false => exact last_idx r _ (List.Pairwise.of_cons h)
    | true =>
      rw [cond_true, cond_true]
      refine lastC_none r i _ fun b hb => ?_
      have h1 := List.rel_of_pairwise_cons h hb
      simp only [inC, Bool.and_eq_true, decide_eq_true_eq] at hc
      simp only [inC, Bool.and_eq_false_iff, decide_eq_false_iff_not]
      omega
theorem idx_some {t : Int} : ∀ (r : List Cap) (i : Int), idxC t r i = -1 ∨ ∃ j : Nat, j < r.length ∧ idxC t r i = i + j
  | [], i => .inl rfl
  | c :: r, i => by
    unfold idxC
    cases inC t c with
    | true => exact .inr ⟨0, by simp, by simp⟩
    | false =>
      rcases idx_some (t := t) r (i + 1) with h | ⟨j, h1, h2⟩
      · exact .inl h
      · exact .inr ⟨j + 1, by simp; omega, by rw [cond_false, h2]; push_cast; omega⟩

section
variable {l : List Cap} (hl : l.length < 4611686018427387904)
include hl
theorem F68.v (t : Int) : F68.fn NN (l, t) = some (idxC t l 0) := by
  rw [F68.eq]
  refine list_loop (l := l) (fun k (_ : Unit) i => F68.l0 NN l t k i) (fun pre r _ => some (idxC t r pre.length)) (fun _ _ => True) (fun k s _ => ?_) (fun k pre c r s h _ ih => ?_) NN () trivial (by unfold NN; omega)
  · rw [F68.l0_clean]; simp [idxC]
  · have hlen : l.length = pre.length + 1 + r.length := by rw [h]; simp; omega
    have ih := ih () trivial
    rw [F68.l0_clean, w_next h hl]
    simp only [Int.toNat_natCast, show l.getD pre.length ((0, 0), 0) = c by rw [h]; exact getD_mid pre c r _]
    rw [ih]
    simp only [show decide ((pre.length : Int) < l.length) = true by simp; omega, show decide (0 ≤ (pre.length : Int)) = true by simp, Bool.true_and, cond_true]
    rw [idxC]
    unfold inC
    cases (decide (t ≥ c.1.1) && decide (t < c.1.2)) <;> simp
theorem F38.v (t : Int) : F38.fn NN (l, t) = some (lastC t (-1) l 0) := by
  rw [F38.eq]
  refine list_loop (l := l) (fun k (s : Int) i => F38.l0 NN l t k s i) (fun pre r s => some (lastC t s r pre.length)) (fun _ _ => True) (fun k s _ => ?_) (fun k pre c r s h _ ih => ?_) NN (-1) trivial (by unfold NN; omega)
  · rw [F38.l0_clean]; simp [lastC]
  · have hlen : l.length = pre.length + 1 + r.length := by rw [h]; simp; omega
    rw [F38.l0_clean, w_next h hl]
    simp only [Int.toNat_natCast, show l.getD pre.length ((0, 0), 0) = c by rw [h]; exact getD_mid pre c r _]
    rw [ih _ trivial, ih _ trivial]
    simp only [show decide ((pre.length : Int) < l.length) = true by simp; omega, show decide (0 ≤ (pre.length : Int)) = true by simp, Bool.true_and, cond_true]
    rw [lastC]
    have e : (!(decide (t < c.1.1) || decide (t ≥ c.1.2))) = inC t c := by
      unfold inC
      rw [Bool.eq_iff_iff]; simp
    rw [e]
    cases inC t c <;> simp
theorem F33.v (t : Int) : F33.fn NN (l, t) = some (bif !(capsErr l == 0) then (0, capsErr l) else bif decide (idxC t l 0 ≥ 0) then (idxC t l 0, 0) else (0, 8)) := by
  rw [F33.eq, F37.v hl]
  simp only [Option.bind_some, F68.v hl]
  cases (capsErr l == 0) with
  | false => simp
  | true => cases decide (idxC t l 0 ≥ 0) <;> rfl
/-! ### room -/
def room (t : Int) : List Cap → Int
  | [] => 0
  | c :: r => (bif decide (c.1.2 > t) then c.2 else 0) + room t r
omit hl in
theorem room_cons (t : Int) (c : Cap) (r : List Cap) : room t (c :: r) = (bif decide (c.1.2 > t) then c.2 else 0) + room t r := rfl
theorem F34.v (t : Int) : F34.fn NN (l, t) = some (bif !(capsErr l == 0) then (0, capsErr l) else (room t l, 0)) := by
  rw [F34.eq, F37.v hl]
  simp only [Option.bind_some]
  by_cases he : capsErr l = 0
  · obtain ⟨hn, hE⟩ := capsErr_ok he
    simp only [he, beq_self_eq_true, Bool.not_true, cond_false]
    have := list_loop (l := l) (fun k (s : Int) i => F34.l0 NN l t k s i) (fun _ r s => some (s + room t r, 0)) (fun pre s => 0 ≤ s ∧ s ≤ 24 * pre.length) (fun k s _ => by rw [F34.l0_succ]; simp [room]) (fun k pre c r s h hI ih => by
      have hlen : l.length = pre.length + 1 + r.length := by rw [h]; simp; omega
      have hc := capBad_ok ((capE_ok hE).1 c (by rw [h]; simp)).1
      rw [F34.l0_succ, w_next h hl]
      simp only [Int.toNat_natCast, show l.getD pre.length ((0, 0), 0) = c by rw [h]; exact getD_mid pre c r _]
      rw [w_small (s + c.2) (by omega) (by omega), ih _ ⟨by omega, by simp; omega⟩, ih _ ⟨by omega, by simp; omega⟩]
      simp only [show decide ((pre.length : Int) < l.length) = true by simp; omega, show decide (0 ≤ (pre.length : Int)) = true by simp, Bool.true_and, cond_true, room]
      cases decide (c.1.2 > t) <;> simp [Int.add_assoc]) NN 0 ⟨by omega, by simp⟩ (by unfold NN; omega)
    rw [this]; simp
  · have he' : (capsErr l == 0) = false := by simpa using he
    simp [he']
theorem F39.v (hl2 : l.length * 24 ≤ 140737488355328) : F39.fn NN l = some l := by
  rw [F39.eq]
  have e : (decide ((0 + l.length) * 24 ≤ 140737488355328) && decide ((0 + l.length) ≤ maxLen)) = true := by simp [maxLen]; omega
  rw [e]
  simp only [cond_true]
  cases l with
  | nil => simp [agree_self]
  | cons a r => simp
theorem F35.v (t : Int) : F35.fn NN (l, t) = some (bif !(capsErr l == 0) then ([], capsErr l) else bif !decide (idxC t l 0 ≥ 0) then ([], 8) else
    bif (l.getD (idxC t l 0).toNat ((0, 0), 0)).2 == 0 then ([], 18) else
      (l.set (idxC t l 0).toNat ((l.getD (idxC t l 0).toNat ((0, 0), 0)).1, (l.getD (idxC t l 0).toNat ((0, 0), 0)).2 - 1), 0)) := by
  rw [F35.eq, F33.v hl]
  by_cases he : capsErr l = 0
  · obtain ⟨hn, hE⟩ := capsErr_ok he
    rcases idx_some (t := t) l 0 with h | ⟨j, h1, h2⟩
    · simp [he, h]
    · rw [Int.zero_add] at h2
      have hc := capBad_ok ((capE_ok hE).1 (l.getD j ((0, 0), 0)) (by rw [List.getD_eq_getElem?_getD, List.getElem?_eq_getElem h1]; exact List.getElem_mem h1)).1
      generalize hcj : l.getD j ((0, 0), 0) = c at hc
      have e : (decide ((0 + l.length) * 24 ≤ 140737488355328) && decide ((0 + l.length) ≤ maxLen)) = true := by simp [maxLen]; omega
      rw [h2, e]
      simp only [Int.toNat_natCast, hcj, he, beq_self_eq_true, Bool.not_true, cond_false, show decide ((j : Int) ≥ 0) = true by simp, cond_true, Option.bind_some, show decide (0 ≤ (j : Int)) = true by simp, show decide ((j : Int) < l.length) = true by simp; omega, Bool.true_and,
        show decide (j < l.length) = true by simp; omega, hcj, w_small (c.2 - 1) (by omega) (by omega)]
      cases (c.2 == 0) <;> rfl
  · have he' : (capsErr l == 0) = false := by simpa using he
    simp [he']
theorem F40.v (m : List Cap) : F40.fn NN (l, m) = some (eqL (fun p q => ((p.1.1 == q.1.1) && ((p.1.2 == q.1.2) && true)) && ((p.2 == q.2) && true)) l m) :=
  equal_list (fun p q : Cap => ((p.1.1 == q.1.1) && ((p.1.2 == q.1.2) && true)) && ((p.2 == q.2) && true)) ((0, 0), 0) hl (fun k i => F40.l0 NN l m k i) (F40.eq NN l m) (fun k i => F40.l0_succ NN l m k i)
end
theorem capEq (p q : Cap) : (((p.1.1 == q.1.1) && ((p.1.2 == q.1.2) && true)) && ((p.2 == q.2) && true)) = true ↔ p = q := by
  obtain ⟨⟨a, b⟩, c⟩ := p
  obtain ⟨⟨a', b'⟩, c'⟩ := q
  simp
theorem F46.v {a b : List Int} (hl : a.length < 4611686018427387904) : F46.fn NN (a, b) = some (eqL (fun p q => p == q) a b) :=
  equal_list (fun p q : Int => p == q) 0 hl (fun k i => F46.l0 NN a b k i) (F46.eq NN a b) (fun k i => F46.l0_succ NN a b k i)

/-! ### demands -/
def tBad (t : Int) : Bool := decide (t < 0) || decide (t > 200000)
def timesErr (ts : List Int) : Int := bif decide ((ts.length : Int) > 256) then 2 else bif ts.any tBad then 12 else 0
theorem F69.v {ts : List Int} (hl : ts.length < 4611686018427387904) : F69.fn NN ts = some (timesErr ts) := by
  rw [F69.eq]
  unfold timesErr
  by_cases h : (ts.length : Int) > 256
  · simp [h]
  simp only [h, decide_false, cond_false]
  have := scan_list (l := ts) tBad (some (12 : Int)) (some 0) (fun k i => F69.l0 NN ts k i) (fun k => by rw [F69.l0_clean]; simp) (fun k pre x r h => by
    have h1 : (pre.length : Int) < ts.length := by rw [h]; simp; omega
    rw [F69.l0_clean, w_next h hl]
    simp only [h1, decide_true, cond_true, show decide (0 ≤ (pre.length : Int)) = true by simp, Bool.true_and, Int.toNat_natCast, show ts.getD pre.length 0 = x by rw [h]; exact getD_mid pre x r 0]
    rfl) NN (by unfold NN; omega)
  rw [this]; cases ts.any tBad <;> rfl

def cnt (l : List Cap) (i : Nat) (ts : List Int) : Nat := (ts.filter fun t => idxC t l 0 == (i : Int)).length
def outC (l : List Cap) (ts : List Int) : Nat := (ts.filter fun t => decide (idxC t l 0 < 0)).length
def rest (l : List Cap) (i : Nat) (ts : List Int) : Nat := (ts.filter fun t => !(decide (0 ≤ idxC t l 0) && decide (idxC t l 0 < (i : Int)))).length
def cnts (l : List Cap) (n : Nat) (ts : List Int) : List Int := (List.range n).map fun i => (cnt l i ts : Int)
theorem cnt_le (l : List Cap) (i : Nat) (ts : List Int) : cnt l i ts ≤ ts.length := List.length_filter_le _ _
theorem cnt_app (l : List Cap) (i : Nat) (ts : List Int) (x : Int) : cnt l i (ts ++ [x]) = cnt l i ts + if idxC x l 0 = (i : Int) then 1 else 0 := by
  unfold cnt
  rw [List.filter_append, List.length_append]
  by_cases h : idxC x l 0 = (i : Int) <;> simp [h]
theorem outC_app (l : List Cap) (ts : List Int) (x : Int) : outC l (ts ++ [x]) = outC l ts + if idxC x l 0 < 0 then 1 else 0 := by
  unfold outC
  rw [List.filter_append, List.length_append]
  by_cases h : idxC x l 0 < 0 <;> simp [h]
theorem rest_zero (l : List Cap) (ts : List Int) : rest l 0 ts = ts.length := by
  unfold rest
  congr 1
  rw [List.filter_eq_self]
  intro a _
  by_cases h : 0 ≤ idxC a l 0 <;> simp [h]
theorem rest_step (l : List Cap) (i : Nat) : ∀ ts : List Int, rest l i ts = rest l (i + 1) ts + cnt l i ts
  | [] => rfl
  | x :: r => by
    have ih := rest_step l i r
    unfold rest cnt at ih ⊢
    simp only [List.filter_cons]
    rcases Int.lt_trichotomy (idxC x l 0) i with h | h | h
    · by_cases h0 : 0 ≤ idxC x l 0
      · simp [h, h0, show idxC x l 0 < (i : Int) + 1 by omega, show ¬ idxC x l 0 = (i : Int) by omega] at ih ⊢; omega
      · simp [h, h0, show ¬ idxC x l 0 = (i : Int) by omega] at ih ⊢; omega
    · simp [h, show ¬ ((i : Int) + 1 ≤ i) by omega] at ih ⊢; omega
    · simp [show ¬ idxC x l 0 < (i : Int) by omega, show ¬ idxC x l 0 < (i : Int) + 1 by omega, show ¬ idxC x l 0 = (i : Int) by omega] at ih ⊢; omega
theorem rest_end (l : List Cap) (ts : List Int) : rest l l.length ts = outC l ts := by
  unfold rest outC
  congr 1
  apply List.filter_congr
  intro x _
  rcases idx_some (t := x) l 0 with h | ⟨j, h1, h2⟩
  · simp [h]
  · rw [h2, Bool.eq_iff_iff]; simp; omega
theorem map_set {n j : Nat} (f : Nat → Int) (v : Int) (hj : j < n) : ((List.range n).map f).set j v = (List.range n).map fun i => if i = j then v else f i := by
  apply List.ext_getElem
  · simp
  · intro i h1 h2
    rw [List.getElem_set]
    simp only [List.getElem_map, List.getElem_range]
    by_cases h : j = i
    · simp [h]
    · rw [if_neg h, if_neg (fun e => h e.symm)]
theorem map_getD {n j : Nat} (f : Nat → Int) (hj : j < n) : ((List.range n).map f).getD j 0 = f j := by
  simp [List.getD, hj]

theorem F41.v {l : List Cap} {ts : List Int} (hl : l.length < 4611686018427387904) (ht : ts.length < 4611686018427387904) :
    F41.fn NN (l, ts) = some (bif !(capsErr l == 0) then ([], 0, capsErr l) else bif !(timesErr ts == 0) then ([], 0, timesErr ts) else (cnts l l.length ts, (outC l ts : Int), 0)) := by
  rw [F41.eq, F37.v hl, Option.bind_some, F69.v ht]
  by_cases he : capsErr l = 0
  · obtain ⟨hn, hE⟩ := capsErr_ok he
    by_cases hte : timesErr ts = 0
    · simp only [he, hte, beq_self_eq_true, Bool.not_true, cond_false, Option.bind_some, Int.toNat_natCast]
      rw [show (((decide (0 ≤ (l.length : Int)) && true) && decide ((l.length : Int) ≤ 9223372036854775807)) && decide ((l.length : Int) * 8 ≤ 140737488355328)) = true by simp; omega, cond_true]
      have := list_loop (l := ts) (fun k (s : Int × List Int) i => F41.l0 NN l ts k s.1 i s.2) (fun _ _ _ => some (cnts l l.length ts, (outC l ts : Int), 0)) (fun pre s => s = ((outC l pre : Int), cnts l l.length pre))
        (fun k s h => by rw [F41.l0_succ, h]; simp)
        (fun k pre x r s h hI ih => by
          have hlen : ts.length = pre.length + 1 + r.length := by rw [h]; simp; omega
          subst hI
          rw [F41.l0_succ, w_next h ht]
          simp only [Int.toNat_natCast, show ts.getD pre.length 0 = x by rw [h]; exact getD_mid pre x r _, F68.v hl, Option.bind_some]
          simp only [show decide ((pre.length : Int) < ts.length) = true by simp; omega, show decide (0 ≤ (pre.length : Int)) = true by simp, Bool.true_and, cond_true]
          have hlc : (cnts l l.length pre).length = l.length := by simp [cnts]
          rcases idx_some (t := x) l 0 with hx | ⟨j, h1, h2⟩
          · have := ih ((outC l pre : Int) + 1, cnts l l.length pre) (by
              rw [outC_app, hx]
              simp only [cnts, cnt_app, hx]
              simp <;> (intro a ha; omega))
            have hb : outC l pre ≤ pre.length := List.length_filter_le _ _
            rw [hx]
            simp only [show decide ((-1 : Int) ≥ 0) = false by decide, cond_false, w_small ((outC l pre : Int) + 1) (by omega) (by omega)]
            exact this
          · rw [Int.zero_add] at h2
            have hb := cnt_le l j pre
            have := ih ((outC l pre : Int), (cnts l l.length pre).set j ((cnt l j pre : Int) + 1)) (by
              rw [outC_app, h2]
              unfold cnts
              rw [map_set _ _ h1]
              simp only [cnt_app, h2, show ¬ (j : Int) < 0 by omega, if_false, Nat.add_zero, Prod.mk.injEq, true_and]
              apply List.map_congr_left
              intro a ha
              by_cases e : a = j
              · subst e; simp
              · rw [if_neg e, if_neg (by omega)]; simp)
            rw [h2]
            have hg : (cnts l l.length pre).getD j 0 = (cnt l j pre : Int) := map_getD _ h1
            simp only [hlc, Int.toNat_natCast, hg, show decide ((j : Int) ≥ 0) = true by simp, cond_true, show decide (0 ≤ (j : Int)) = true by simp, show decide ((j : Int) < l.length) = true by simp; omega, show decide (j < l.length) = true by simp; omega, Bool.true_and,
              w_small ((cnt l j pre : Int) + 1) (by omega) (by omega)]
            exact this)
        NN (0, List.replicate l.length 0) (by
          simp only [outC, cnts, cnt, List.filter_nil, List.length_nil, Prod.mk.injEq]
          refine ⟨rfl, ?_⟩
          apply List.ext_getElem <;> simp) (by unfold NN; omega)
      simpa using this
    · have hte' : (timesErr ts == 0) = false := by simpa using hte
      simp [he, hte']
  · have he' : (capsErr l == 0) = false := by simpa using he
    simp [he']

def ovs (l : List Cap) (ns : List Int) (m : Nat) : List Int := List.map (fun i : Nat => (i : Int)) ((List.range m).filter fun i => decide (ns.getD i 0 > (l.getD i ((0, 0), 0)).2))
theorem ovs_len (l : List Cap) (ns : List Int) (m : Nat) : (ovs l ns m).length ≤ m := by
  unfold ovs; rw [List.length_map]; exact Nat.le_trans (List.length_filter_le _ _) (by simp)
theorem over_loop {R : Type} {l : List Cap} {ns : List Int} (hl : l.length < 4611686018427387904) (K : List Int → Option R) (L : Nat → Int → List Int → Option R)
    (hend : ∀ k acc, L (k + 1) (l.length : Int) acc = K acc)
    (hstep : ∀ k (i : Nat) acc, i < l.length → acc.length ≤ i → L (k + 1) (i : Int) acc = bif decide (ns.getD i 0 > (l.getD i ((0, 0), 0)).2) then L k ((i : Int) + 1) (acc ++ [(i : Int)]) else L k ((i : Int) + 1) acc) :
    L NN 0 [] = K (ovs l ns l.length) := by
  have := range_loop (σ := List Int) (n := l.length) (fun k acc i => L k i acc) (fun _ _ => K (ovs l ns l.length)) (fun i acc => acc = ovs l ns i) (fun k s h => by rw [hend, h])
    (fun k i acc hi hI ih => by
      subst hI
      rw [hstep k i _ hi (ovs_len l ns i)]
      by_cases h : ns.getD i 0 > (l.getD i ((0, 0), 0)).2
      · simp only [h, decide_true, cond_true]
        exact ih _ (by unfold ovs; rw [List.range_succ, List.filter_append, List.map_append]; simp at h; simp [h])
      · simp only [h, decide_false, cond_false]
        exact ih _ (by unfold ovs; rw [List.range_succ, List.filter_append, List.map_append]; simp at h; simp; omega)) NN [] 0 (Nat.zero_le _) rfl (by unfold NN; omega)
  simpa using this

theorem F42.v {l : List Cap} {ts : List Int} (hl : l.length < 4611686018427387904) (ht : ts.length < 4611686018427387904) :
    F42.fn NN (l, ts) = some (bif !(capsErr l == 0) then ([], capsErr l) else bif !(timesErr ts == 0) then ([], timesErr ts) else (ovs l (cnts l l.length ts) l.length, 0)) := by
  rw [F42.eq, F41.v hl ht, Option.bind_some]
  by_cases he : capsErr l = 0
  · obtain ⟨hn, hE⟩ := capsErr_ok he
    by_cases hte : timesErr ts = 0
    · simp only [he, hte, beq_self_eq_true, Bool.not_true, cond_false]
      have hlc : (cnts l l.length ts).length = l.length := by simp [cnts]
      refine over_loop hl (fun acc => some (acc, 0)) (fun k i acc => F42.l0 NN l (cnts l l.length ts, (outC l ts : Int), 0) k i acc) (fun k acc => by rw [F42.l0_succ]; simp) (fun k i acc hi ha => ?_)
      rw [F42.l0_succ, w_small ((i : Int) + 1) (by omega) (by omega)]
      simp only [hlc, Int.toNat_natCast, show decide ((i : Int) < l.length) = true by simp; omega, show decide (0 ≤ (i : Int)) = true by simp, show decide (i < l.length) = true by simp; omega, Bool.true_and, cond_true,
        show (decide ((acc.length + 1) * 8 ≤ 140737488355328) && decide (acc.length + 1 ≤ maxLen)) = true by simp [maxLen]; omega]
    · have hte' : (timesErr ts == 0) = false := by simpa using hte
      simp [he, hte']
  · have he' : (capsErr l == 0) = false := by simpa using he
    simp [he']

theorem F45.v {l : List Cap} {ts : List Int} (he : capsErr l = 0) (ht : ts.length < 4611686018427387904) : F45.fn NN (l, ts) = some (cnts l l.length ts, (outC l ts : Int)) := by
  obtain ⟨hn, hE⟩ := capsErr_ok he
  have hl : l.length < 4611686018427387904 := by omega
  have hpw := (capE_ok hE).2
  have inner : ∀ (k1 : Nat) (a2 : Int) (i : Nat) (a4 : List Int), F45.l1 NN l ts k1 a2 i a4 NN 0 0 = bif decide ((a4.length + 1) * 8 ≤ 140737488355328) && decide ((a4.length + 1) ≤ maxLen) then
      F45.l0 NN l ts k1 (w (a2 - (cnt l i ts : Int))) (w ((i : Int) + 1)) (a4 ++ [(cnt l i ts : Int)]) else none := by
    intro k1 a2 i a4
    refine list_loop (l := ts) (fun k (s : Int) j => F45.l1 NN l ts k1 a2 i a4 k s j) (fun _ _ _ => _) (fun pre s => s = (cnt l i pre : Int)) (fun k s h => by rw [F45.l1_succ, h]; simp) (fun k pre x r s h hI ih => ?_) NN 0 rfl (by unfold NN; omega)
    have hlen : ts.length = pre.length + 1 + r.length := by rw [h]; simp; omega
    subst hI
    have hb := cnt_le l i pre
    rw [F45.l1_succ, w_next h ht]
    simp only [Int.toNat_natCast, show ts.getD pre.length 0 = x by rw [h]; exact getD_mid pre x r _, F38.v hl, last_idx l 0 hpw, Option.bind_some]
    simp only [show decide ((pre.length : Int) < ts.length) = true by simp; omega, show decide (0 ≤ (pre.length : Int)) = true by simp, Bool.true_and, cond_true, w_small ((cnt l i pre : Int) + 1) (by omega) (by omega)]
    by_cases hx : idxC x l 0 = (i : Int)
    · simp only [hx, beq_self_eq_true, cond_true]
      exact ih _ (by rw [cnt_app]; simp [hx])
    · simp only [show (idxC x l 0 == (i : Int)) = false by simpa using hx, cond_false]
      exact ih _ (by rw [cnt_app]; simp [hx])
  rw [F45.eq]
  have := range_loop (σ := Int × List Int) (n := l.length) (fun k s i => F45.l0 NN l ts k s.1 i s.2) (fun _ _ => some (cnts l l.length ts, (outC l ts : Int))) (fun i s => s = ((rest l i ts : Int), cnts l i ts))
    (fun k s h => by rw [F45.l0_succ, h]; simp [rest_end])
    (fun k i s hi hI ih => by
      subst hI
      have hb : rest l i ts ≤ ts.length := List.length_filter_le _ _
      have hs := rest_step l i ts
      have e1 : (decide ((i + 1) * 8 ≤ 140737488355328) && decide (i + 1 ≤ maxLen)) = true := by
        rw [Bool.and_eq_true, decide_eq_true_eq, decide_eq_true_eq]; unfold maxLen; omega
      have e2 : w ((rest l i ts : Int) - cnt l i ts) = (rest l (i + 1) ts : Int) := by rw [w_small] <;> omega
      rw [F45.l0_succ, inner]
      simp only [show decide ((i : Int) < l.length) = true by simp; omega, cond_true, show (cnts l i ts).length = i by simp [cnts],
        e1, w_small ((i : Int) + 1) (by omega) (by omega), e2]
      exact ih ((rest l (i + 1) ts : Int), cnts l i ts ++ [(cnt l i ts : Int)]) (by simp [cnts, List.range_succ])) NN ((ts.length : Int), []) 0 (Nat.zero_le _) (by rw [rest_zero]; rfl) (by unfold NN; omega)
  simpa using this

theorem F32.t : F32.fn NN () = some true := by
  rw [F32.clean]
  simp only [F67.eq, Option.bind_some]
  rw [F33.v (by decide +kernel), F41.v (by decide +kernel) (by decide +kernel), F42.v (by decide +kernel) (by decide +kernel), F34.v (by decide +kernel), F35.v (by decide +kernel)]
  simp only [Option.bind_some]
  rw [F46.v (by decide +kernel), F46.v (by decide +kernel), F37.v (by decide +kernel)]
  kernel_rfl

theorem FlowAsks.pure (x0 : List Cap) (x1 : Int) (h0 : Wf Try.prog (.sl 64 (.pair (.pair (.int .i64) (.int .i64)) (.int .i64))) x0) (h1 : Wf Try.prog (.int .i64) x1) : F9.fn NN (x0, x1) = some true := by
  have hr := wf_sl_len h0 (by decide +kernel)
  have hl : x0.length < 4611686018427387904 := by simp [reachBytes] at hr; omega
  rw [F9.clean, F32.t]
  simp only [Option.bind_some, Bool.not_true, cond_false, F33.v hl, F34.v hl, F35.v hl, F36.v hl, F37.v hl, beq_self_eq_true]
  by_cases he : capsErr x0 = 0
  · obtain ⟨hn, hE⟩ := capsErr_ok he
    have hpw := (capE_ok hE).2
    simp only [he, beq_self_eq_true, Bool.not_true, cond_false, Bool.or_self]
    have hl2 : x0.length * 24 ≤ 140737488355328 := by omega
    have key : ∀ (r2 r3 : Int × Int) (r4 : List Cap × Int), F9.l0 NN x0 x1 r2 r3 r4 NN 0 0 = F9.l0 NN x0 x1 r2 r3 r4 1 (room x1 x0) (x0.length : Int) := by
      intro r2 r3 r4
      refine list_loop (l := x0) (fun k (s : Int) i => F9.l0 NN x0 x1 r2 r3 r4 k s i) (fun _ _ _ => F9.l0 NN x0 x1 r2 r3 r4 1 (room x1 x0) (x0.length : Int)) (fun pre s => s + room x1 (x0.drop pre.length) = room x1 x0 ∧ 0 ≤ s ∧ s ≤ 24 * pre.length) (fun k s h => ?_) (fun k pre c r s h hI ih => ?_) NN 0 (by simp) (by unfold NN; omega)
      · have : s = room x1 x0 := by have := h.1; simp [room] at this; exact this
        rw [this]
        show F9.l0 NN x0 x1 r2 r3 r4 (k + 1) (room x1 x0) _ = F9.l0 NN x0 x1 r2 r3 r4 (0 + 1) (room x1 x0) _
        rw [F9.l0_clean, F9.l0_clean]
        simp only [Int.lt_irrefl, decide_false, cond_false]
      · have hlen : x0.length = pre.length + 1 + r.length := by rw [h]; simp; omega
        have hc := capBad_ok ((capE_ok hE).1 c (by rw [h]; simp)).1
        have hd : x0.drop pre.length = c :: r := by rw [h]; simp
        have hd2 : x0.drop (pre ++ [c]).length = r := by rw [h]; simp
        rw [hd] at hI
        rw [F9.l0_clean, w_next h hl]
        simp only [Int.toNat_natCast, show x0.getD pre.length ((0, 0), 0) = c by rw [h]; exact getD_mid pre c r _]
        rw [w_small (s + c.2) (by omega) (by omega)]
        simp only [show decide ((pre.length : Int) < x0.length) = true by simp; omega, show decide (0 ≤ (pre.length : Int)) = true by simp, Bool.true_and, cond_true]
        rw [room_cons] at hI
        by_cases hx : x1 < c.1.2
        · simp only [hx, decide_true, cond_true]
          exact ih _ ⟨by rw [hd2]; simp [hx] at hI; omega, by omega, by simp; omega⟩
        · simp only [hx, decide_false, cond_false]
          exact ih _ ⟨by rw [hd2]; simp [hx] at hI; omega, by omega, by simp; omega⟩
    rw [key, show (1 : Nat) = 0 + 1 from rfl, F9.l0_clean]
    simp only [Int.lt_irrefl, decide_false, cond_false, beq_self_eq_true, Bool.not_true, F38.v hl, last_idx x0 0 hpw, Option.bind_some]
    rcases idx_some (t := x1) x0 0 with h | ⟨j, h1, h2⟩
    · simp [h]
    · rw [Int.zero_add] at h2
      have hc := capBad_ok ((capE_ok hE).1 (x0.getD j ((0, 0), 0)) (by rw [List.getD_eq_getElem?_getD, List.getElem?_eq_getElem h1]; exact List.getElem_mem h1)).1
      generalize hcj : x0.getD j ((0, 0), 0) = c at hc
      rw [h2]
      simp only [show decide ((j : Int) < 0) = false by simp, cond_false, show decide ((j : Int) ≥ 0) = true by simp, cond_true, Bool.not_true, beq_self_eq_true, Bool.or_self, Int.toNat_natCast, hcj, show decide (0 ≤ (j : Int)) = true by simp, show decide ((j : Int) < x0.length) = true by simp; omega,
        Bool.true_and, show decide (j < x0.length) = true by simp; omega, F39.v hl hl2, Option.bind_some]
      cases hm : (c.2 == 0) with
      | true => simp
      | false =>
        simp only [cond_false, beq_self_eq_true, cond_true, w_small (c.2 - 1) (by omega) (by omega)]
        rw [F40.v (by simp; exact hl)]
        simp only [Option.bind_some, Bool.true_and]
        rw [eqL_self capEq]
  · have he' : (capsErr x0 == 0) = false := by simpa using he
    simp [he']

theorem FlowDemands.pure (x0 : List Cap) (x1 : List Int) (h0 : Wf Try.prog (.sl 64 (.pair (.pair (.int .i64) (.int .i64)) (.int .i64))) x0) (h1 : Wf Try.prog (.sl 3 (.int .i64)) x1) : F10.fn NN (x0, x1) = some true := by
  have hr := wf_sl_len h0 (by decide +kernel)
  have hl : x0.length < 4611686018427387904 := by simp [reachBytes] at hr; omega
  have hr2 := wf_sl_len h1 (by decide +kernel)
  have ht : x1.length < 4611686018427387904 := by simp [reachBytes] at hr2; omega
  have j : ∀ (r2 : List Int × Int × Int) (r3 : List Int × Int) (a : Int), F10.j0 NN x0 x1 r2 r3 a = _ := fun r2 r3 a => F10.j0_clean NN x0 x1 r2 r3 a NN_eq
  rw [F10.clean, F32.t]
  simp only [Option.bind_some, Bool.not_true, cond_false, F41.v hl ht, F42.v hl ht, F36.v hl, j]
  by_cases he : capsErr x0 = 0
  · obtain ⟨hn, hE⟩ := capsErr_ok he
    by_cases hb : (x1.length : Int) > 256
    · simp [he, hb, timesErr, w_small]
    have scan : ∀ (r2 : List Int × Int × Int) (r3 : List Int × Int), F10.l1 NN x0 x1 r2 r3 0 NN 0 = bif x1.any tBad then some ((((r2.2.2 == 12) && (r3.2 == 12)) && ((w ((r2.1.length : Int) + (r3.1.length : Int))) == 0)) && (r2.2.1 == 0)) else
        F10.l3 NN x0 r2 r3 (cnts x0 x0.length x1, (outC x0 x1 : Int)) NN 0 [] := by
      intro r2 r3
      refine scan_list (l := x1) tBad _ _ (fun k i => F10.l1 NN x0 x1 r2 r3 0 k i) (fun k => ?_) (fun k pre x r h => ?_) NN (by unfold NN; omega)
      · rw [F10.l1_clean]; simp [F45.v he ht]
      · have hlen : x1.length = pre.length + 1 + r.length := by rw [h]; simp; omega
        rw [F10.l1_clean, w_next h ht]
        simp only [Int.toNat_natCast, show x1.getD pre.length 0 = x by rw [h]; exact getD_mid pre x r _, F44.clean, Option.bind_some]
        simp only [show decide ((pre.length : Int) < x1.length) = true by simp; omega, show decide (0 ≤ (pre.length : Int)) = true by simp, show decide ((pre.length : Int) ≥ 0) = true by simp, Bool.true_and, cond_true]
        rfl
    simp only [he, hb, beq_self_eq_true, decide_false, Bool.and_false, Bool.not_true, cond_false, cond_true, scan]
    cases hz : x1.any tBad with
    | true =>
      have : timesErr x1 = 12 := by unfold timesErr; simp [hb, hz]
      simp [this, w_small]
    | false =>
      have hte : timesErr x1 = 0 := by unfold timesErr; simp [hb, hz]
      simp only [hte, beq_self_eq_true, Bool.not_true, cond_false]
      have hlc : (cnts x0 x0.length x1).length = x0.length := by simp [cnts]
      have := over_loop (ns := cnts x0 x0.length x1) hl (fun acc => F10.l3 NN x0 (cnts x0 x0.length x1, (outC x0 x1 : Int), 0) (ovs x0 (cnts x0 x0.length x1) x0.length, 0) (cnts x0 x0.length x1, (outC x0 x1 : Int)) 1 (x0.length : Int) acc)
        (fun k i acc => F10.l3 NN x0 (cnts x0 x0.length x1, (outC x0 x1 : Int), 0) (ovs x0 (cnts x0 x0.length x1) x0.length, 0) (cnts x0 x0.length x1, (outC x0 x1 : Int)) k i acc)
        (fun k acc => by
          show F10.l3 _ _ _ _ _ (k + 1) _ _ = F10.l3 _ _ _ _ _ (0 + 1) _ _
          rw [F10.l3_clean, F10.l3_clean]
          simp only [Int.lt_irrefl, decide_false, cond_false])
        (fun k i acc hi ha => by
          rw [F10.l3_clean, w_small ((i : Int) + 1) (by omega) (by omega)]
          simp only [hlc, Int.toNat_natCast, show decide ((i : Int) < x0.length) = true by simp; omega, show decide (0 ≤ (i : Int)) = true by simp, show decide (i < x0.length) = true by simp; omega, Bool.true_and, cond_true,
            show (decide ((acc.length + 1) * 8 ≤ 140737488355328) && decide (acc.length + 1 ≤ maxLen)) = true by simp [maxLen]; omega])
      rw [this, show (1 : Nat) = 0 + 1 from rfl, F10.l3_clean]
      have e := ovs_len x0 (cnts x0 x0.length x1) x0.length
      simp only [Int.lt_irrefl, decide_false, cond_false, beq_self_eq_true, Bool.and_self, cond_true]
      rw [F46.v (by rw [hlc]; exact hl), F46.v (by omega)]
      simp [eqL_self]
  · have he' : (capsErr x0 == 0) = false := by simpa using he
    simp [he', w_small]
end Go.Proofs.Ytalaepaomnfgjaa.Sk
