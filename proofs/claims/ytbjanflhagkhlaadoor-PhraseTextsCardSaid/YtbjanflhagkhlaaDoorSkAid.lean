/- SK, part 24: helps for the plain laws. -/
import Derived.Test.YtbjanflhagkhlaaDoorSkTab
set_option linter.unusedVariables false
set_option linter.unusedSimpArgs false
namespace Go.Proofs.YtbjanflhagkhlaaDoor.Sk
open Go

theorem NN_eq : NN = 18446744073709551615 + 1 := rfl
theorem NN_big : 4611686018427387904 ≤ NN := by unfold NN; omega
theorem fuel {p : Nat → Prop} {n : Nat} (hn : 4611686018427387904 ≤ n) (h : ∀ k, p (k + 1)) : p n := by
  cases n with
  | zero => omega
  | succ n => exact h n
theorem w_small (n : Int) (h0 : -9223372036854775808 ≤ n) (h1 : n < 9223372036854775808) : w n = n := by
  simp only [w, IntKind.wrap, IntKind.bits, IntKind.signed]
  simp
  split <;> omega
theorem wf_int {P : Program} {x : Int} (h : Wf P (.int .i64) x) : -9223372036854775808 ≤ x ∧ x < 9223372036854775808 := by
  have h : (Lit.int .i64 x).wf = true := h
  simp only [Lit.wf, Bool.and_eq_true, IntKind.min, IntKind.max] at h
  simp [IntKind.signed, IntKind.bits] at h
  omega
theorem vl_self {n : Nat} {l : List Int} (h : l.length = n) : vl n l = l := by
  subst h
  unfold vl
  apply List.ext_getElem
  · simp
  · intro i h1 h2
    simp [List.getD, h2]

/-- What stands at the place where a loop is. -/
theorem getD_mid {α : Type} (pre : List α) (x : α) (r : List α) (d : α) : (pre ++ x :: r).getD pre.length d = x := by simp [List.getD]
theorem w_next {α : Type} {l pre : List α} {x : α} {r : List α} (h : l = pre ++ x :: r) (hb : l.length < 4611686018427387904) : w ((pre.length : Int) + 1) = (pre.length : Int) + 1 := by
  have : l.length = pre.length + 1 + r.length := by rw [h]; simp; omega
  exact w_small _ (by omega) (by omega)

/-- A loop over a list, with a state that keeps an invariant. What it answers may look at what it has passed. -/
theorem list_from {α X σ : Type} {l : List X} (L : Nat → σ → Int → Option α) (S : List X → List X → σ → Option α) (I : List X → σ → Prop)
    (hnil : ∀ k s, I l s → L (k + 1) s (l.length : Int) = S l [] s)
    (hcons : ∀ k pre x r s, l = pre ++ x :: r → I pre s → (∀ s', I (pre ++ [x]) s' → L k s' ((pre.length : Int) + 1) = S (pre ++ [x]) r s') → L (k + 1) s (pre.length : Int) = S pre (x :: r) s) :
    ∀ (r pre : List X) (k : Nat) (s : σ), l = pre ++ r → I pre s → r.length < k → L k s (pre.length : Int) = S pre r s := by
  intro r
  induction r with
  | nil =>
    intro pre k s hl hI hk
    obtain ⟨k, rfl⟩ : ∃ k', k = k' + 1 := ⟨k - 1, by omega⟩
    rw [List.append_nil] at hl
    subst hl
    exact hnil k s hI
  | cons x r ih =>
    intro pre k s hl hI hk
    obtain ⟨k, rfl⟩ : ∃ k', k = k' + 1 := ⟨k - 1, by omega⟩
    refine hcons k pre x r s hl hI fun s' hI' => ?_
    have := ih (pre ++ [x]) k s' (by simp [hl]) hI' (by simp at hk; omega)
    simpa using this
theorem list_loop {α X σ : Type} {l : List X} (L : Nat → σ → Int → Option α) (S : List X → List X → σ → Option α) (I : List X → σ → Prop)
    (hnil : ∀ k s, I l s → L (k + 1) s (l.length : Int) = S l [] s)
    (hcons : ∀ k pre x r s, l = pre ++ x :: r → I pre s → (∀ s', I (pre ++ [x]) s' → L k s' ((pre.length : Int) + 1) = S (pre ++ [x]) r s') → L (k + 1) s (pre.length : Int) = S pre (x :: r) s) :
    ∀ k s, I [] s → l.length < k → L k s 0 = S [] l s := fun k s hI hk => list_from L S I hnil hcons l [] k s rfl hI hk
/-- The like without a state. -/
theorem list_loop0 {α X : Type} {l : List X} (L : Nat → Int → Option α) (S : List X → Option α)
    (hnil : ∀ k, L (k + 1) (l.length : Int) = S [])
    (hcons : ∀ k pre x r, l = pre ++ x :: r → L k ((pre.length : Int) + 1) = S r → L (k + 1) (pre.length : Int) = S (x :: r)) :
    ∀ k, l.length < k → L k 0 = S l := by
  intro k hk
  exact list_loop (σ := Unit) (fun k _ i => L k i) (fun _ r _ => S r) (fun _ _ => True) (fun k _ _ => hnil k) (fun k pre x r _ hl _ h => hcons k pre x r hl (h () trivial)) k () trivial hk
/-- A loop over the numbers below n. -/
theorem range_loop {α σ : Type} {n : Nat} (L : Nat → σ → Int → Option α) (S : Nat → σ → Option α) (I : Nat → σ → Prop)
    (hend : ∀ k s, I n s → L (k + 1) s (n : Int) = S n s)
    (hstep : ∀ k i s, i < n → I i s → (∀ s', I (i + 1) s' → L k s' ((i : Int) + 1) = S (i + 1) s') → L (k + 1) s (i : Int) = S i s) :
    ∀ k s i, i ≤ n → I i s → n - i < k → L k s (i : Int) = S i s := by
  have key : ∀ (m i : Nat) (k : Nat) (s : σ), i + m = n → I i s → m < k → L k s (i : Int) = S i s := by
    intro m
    induction m with
    | zero =>
      intro i k s hi hI hk
      obtain ⟨k, rfl⟩ : ∃ k', k = k' + 1 := ⟨k - 1, by omega⟩
      rw [Nat.add_zero] at hi
      subst hi
      exact hend k s hI
    | succ m ih =>
      intro i k s hi hI hk
      obtain ⟨k, rfl⟩ : ∃ k', k = k' + 1 := ⟨k - 1, by omega⟩
      refine hstep k i s (by omega) hI fun s' hI' => ?_
      have := ih (i + 1) k s' (by omega) hI' (by omega)
      simpa using this
  intro k s i hi hI hk
  exact key (n - i) i k s (by omega) hI hk
/-- A loop that looks for the first number with a property. -/
theorem scan_loop {α : Type} {n : Nat} (p : Nat → Bool) (e rest : Option α) (L : Nat → Int → Option α) (hend : ∀ k, L (k + 1) (n : Int) = rest)
    (hstep : ∀ k (i : Nat), i < n → L (k + 1) (i : Int) = bif p i then e else L k ((i : Int) + 1)) : ∀ k, n < k → L k 0 = bif (List.range n).any p then e else rest := by
  intro k hk
  have := range_loop (σ := Unit) (n := n) (fun k _ i => L k i) (fun i _ => bif (List.range' i (n - i)).any p then e else rest) (fun _ _ => True) (fun k _ _ => by simpa using hend k)
    (fun k i _ hi _ h => by
      show L (k + 1) (i : Int) = _
      rw [hstep k i hi, show n - i = (n - (i + 1)) + 1 by omega, List.range'_succ, List.any_cons]
      cases hp : p i with
      | true => rfl
      | false => simpa using h () trivial) k () 0 (Nat.zero_le _) trivial (by omega)
  simpa [List.range_eq_range'] using this
theorem scan_list {α X : Type} {l : List X} (p : X → Bool) (e rest : Option α) (L : Nat → Int → Option α) (hend : ∀ k, L (k + 1) (l.length : Int) = rest)
    (hstep : ∀ k pre x r, l = pre ++ x :: r → L (k + 1) (pre.length : Int) = bif p x then e else L k ((pre.length : Int) + 1)) : ∀ k, l.length < k → L k 0 = bif l.any p then e else rest :=
  list_loop0 L (fun r => bif r.any p then e else rest) (fun k => by simpa using hend k) (fun k pre x r hl h => by
    rw [hstep k pre x r hl, List.any_cons]
    cases hp : p x with
    | true => rfl
    | false => simpa using h)
/-- slices.Equal. -/
def eqL {X : Type} (e : X → X → Bool) : List X → List X → Bool
  | [], [] => true
  | x :: a, y :: b => e x y && eqL e a b
  | _, _ => false
theorem eqL_iff {X : Type} {e : X → X → Bool} (he : ∀ x y, e x y = true ↔ x = y) : ∀ (a b : List X), eqL e a b = true ↔ a = b
  | [], [] => by simp [eqL]
  | x :: a, y :: b => by simp [eqL, he, eqL_iff he a b]
  | [], _ :: _ => by simp [eqL]
  | _ :: _, [] => by simp [eqL]
theorem eqL_self {X : Type} {e : X → X → Bool} (he : ∀ x y, e x y = true ↔ x = y) (a : List X) : eqL e a a = true := (eqL_iff he a a).2 rfl
theorem eqL_len {X : Type} {e : X → X → Bool} : ∀ (a b : List X), a.length ≠ b.length → eqL e a b = false
  | [], [], h => absurd rfl h
  | x :: a, y :: b, h => by simp [eqL, eqL_len a b (by simpa using h)]
  | [], _ :: _, _ => rfl
  | _ :: _, [], _ => rfl
theorem equal_list {X : Type} {N : Nat} (hN : 4611686018427387904 ≤ N) (e : X → X → Bool) (d : X) {a b : List X} (hl : a.length < 4611686018427387904) {f : Option Bool} (L : Nat → Int → Option Bool)
    (hf : f = bif !((a.length : Int) == (b.length : Int)) then some false else L N 0)
    (hs : ∀ k (i : Int), L (k + 1) i = bif decide (i < (a.length : Int)) then bif (decide (0 ≤ i)) && (decide (i < (a.length : Int))) then bif (decide (0 ≤ i)) && (decide (i < (b.length : Int))) then
      bif !(e (a.getD i.toNat d) (b.getD i.toNat d)) then some false else L k (w (i + 1)) else none else none else some true) : f = some (eqL e a b) := by
  rw [hf]
  by_cases he : a.length = b.length
  · have key : ∀ (r pa pb : List X) (r' : List X) (k : Nat), a = pa ++ r → b = pb ++ r' → pa.length = pb.length → r.length < k → L k (pa.length : Int) = some (eqL e r r') := by
      intro r
      induction r with
      | nil =>
        intro pa pb r' k ha hb hp hk
        obtain ⟨k, rfl⟩ : ∃ k', k = k' + 1 := ⟨k - 1, by omega⟩
        have h1 : a.length = pa.length := by rw [ha]; simp
        have h2 : b.length = pb.length + r'.length := by rw [hb]; simp
        have : r' = [] := List.eq_nil_of_length_eq_zero (by omega)
        subst this
        rw [hs, h1]
        simp [eqL]
      | cons x r ih =>
        intro pa pb r' k ha hb hp hk
        obtain ⟨k, rfl⟩ : ∃ k', k = k' + 1 := ⟨k - 1, by omega⟩
        have h1 : a.length = pa.length + 1 + r.length := by rw [ha]; simp; omega
        have h2 : b.length = pb.length + r'.length := by rw [hb]; simp
        cases r' with
        | nil => simp at h2; omega
        | cons y r' =>
          have := ih (pa ++ [x]) (pb ++ [y]) r' k (by simp [ha]) (by simp [hb]) (by simp [hp]) (by simp at hk; omega)
          simp at this
          simp at h2
          rw [hs, w_next ha hl, this]
          simp only [Int.toNat_natCast]
          rw [show a.getD pa.length d = x by rw [ha]; exact getD_mid pa x r d, show b.getD pa.length d = y by rw [hb, hp]; exact getD_mid pb y r' d]
          simp only [show decide ((pa.length : Int) < a.length) = true by simp; omega, show decide ((pa.length : Int) < b.length) = true by simp; omega, show decide (0 ≤ (pa.length : Int)) = true by simp, Bool.true_and, cond_true, eqL]
          cases e x y <;> rfl
    simp only [show ((a.length : Int) == (b.length : Int)) = true by simp; omega, Bool.not_true, cond_false]
    exact key a [] [] b N rfl rfl rfl (by omega)
  · simp only [show ((a.length : Int) == (b.length : Int)) = false by simp; omega, Bool.not_false, cond_true]
    rw [eqL_len a b he]
theorem wf_sl_len {P : Program} {e : TypeId} {t : Ty} {l : List t.den} (h : Wf P (.sl e t) l) (hb : 0 < P.bytesOf e) : l.length ≤ reachBytes := by
  have := h.1
  exact Nat.le_trans (Nat.le_mul_of_pos_right _ hb) this
theorem ite_some_bind {α β : Type} (c : Prop) [Decidable c] (a b : α) (f : α → Option β) : (if c then some a else some b).bind f = if c then f a else f b := by split <;> rfl
theorem seq_iff (a b : ByteArray) : seq a b = true ↔ a = b := by
  unfold seq
  constructor
  · intro h
    have h := beq_iff_eq.1 h
    cases a with | mk a => cases b with | mk b => congr 1; exact Array.ext' h
  · intro h; subst h; simp
theorem seq_self (a : ByteArray) : seq a a = true := (seq_iff a a).2 rfl
theorem eqL_refl {X : Type} {e : X → X → Bool} (he : ∀ x, e x x = true) : ∀ (a : List X), eqL e a a = true
  | [] => rfl
  | x :: a => by simp [eqL, he, eqL_refl he a]
theorem getD_bytes {s : ByteArray} {pre r : List UInt8} {x : UInt8} (h : s.data.toList = pre ++ x :: r) : (ByteArray.data s).getD pre.length 0 = x := by
  rw [Array.getD_eq_getD_getElem?, ← Array.getElem?_toList, h]
  simp
/-- slices.Clone. -/
theorem clone_v {X : Type} {B : Nat} {x : List X} {f : Option (List X)}
    (hf : f = bif x.isEmpty then agree (some []) (bif decide ((0 + x.length) * B ≤ 140737488355328) && decide ((0 + x.length) ≤ maxLen) then some x else none)
      else bif decide ((0 + x.length) * B ≤ 140737488355328) && decide ((0 + x.length) ≤ maxLen) then some x else none) (hB : 0 < B) (h : x.length * B ≤ 140737488355328) : f = some x := by
  have h1 : x.length ≤ x.length * B := Nat.le_mul_of_pos_right _ hB
  have h2 : decide ((0 + x.length) * B ≤ 140737488355328) = true := by rw [decide_eq_true_iff, Nat.zero_add]; exact h
  have h3 : decide ((0 + x.length) ≤ maxLen) = true := by rw [decide_eq_true_iff]; unfold maxLen; omega
  rw [hf, h2, h3]
  cases x with
  | nil => simp [agree_self]
  | cons a x => rfl
/-! ### the first place with a property -/
def idxL {X : Type} (p : X → Bool) : List X → Int → Int
  | [], _ => -1
  | x :: r, i => bif p x then i else idxL p r (i + 1)
theorem find_list {X : Type} {l : List X} (p : X → Bool) (L : Nat → Int → Option Int) (hnil : ∀ k, L (k + 1) (l.length : Int) = some (-1))
    (hcons : ∀ k pre x r, l = pre ++ x :: r → L (k + 1) (pre.length : Int) = bif p x then some (pre.length : Int) else L k ((pre.length : Int) + 1)) : ∀ k, l.length < k → L k 0 = some (idxL p l 0) := by
  intro k hk
  exact list_loop (σ := Unit) (fun k _ i => L k i) (fun pre r _ => some (idxL p r pre.length)) (fun _ _ => True) (fun k _ _ => hnil k) (fun k pre x r _ hl _ h => by
    have h := h () trivial
    simp only [hcons k pre x r hl, idxL]
    cases p x with
    | true => rfl
    | false => simp only [cond_false]; rw [h]; simp) k () trivial hk
theorem idx_from {X : Type} (p : X → Bool) : ∀ (l : List X) (i : Int), (idxL p l i = -1 ∧ ∀ x, x ∈ l → p x = false) ∨ ∃ pre x r, l = pre ++ x :: r ∧ idxL p l i = i + pre.length ∧ p x = true ∧ ∀ y, y ∈ pre → p y = false
  | [], i => .inl ⟨rfl, fun x h => by cases h⟩
  | x :: l, i => by
    cases hp : p x with
    | true => exact .inr ⟨[], x, l, rfl, by simp [idxL, hp], hp, fun y h => by cases h⟩
    | false =>
      have e : idxL p (x :: l) i = idxL p l (i + 1) := by simp [idxL, hp]
      rcases idx_from p l (i + 1) with ⟨h1, h2⟩ | ⟨pre, y, r, h1, h2, h3, h4⟩
      · exact .inl ⟨by rw [e, h1], fun y hy => by rcases List.mem_cons.1 hy with rfl | hy; exact hp; exact h2 y hy⟩
      · refine .inr ⟨x :: pre, y, r, by rw [h1]; rfl, by rw [e, h2]; simp; omega, h3, fun z hz => ?_⟩
        rcases List.mem_cons.1 hz with rfl | hz
        · exact hp
        · exact h4 z hz
theorem idx_spec {X : Type} (p : X → Bool) (l : List X) : (idxL p l 0 = -1 ∧ ∀ x, x ∈ l → p x = false) ∨ ∃ pre x r, l = pre ++ x :: r ∧ idxL p l 0 = pre.length ∧ p x = true ∧ ∀ y, y ∈ pre → p y = false := by
  rcases idx_from p l 0 with h | ⟨pre, x, r, h1, h2, h3⟩
  · exact .inl h
  · exact .inr ⟨pre, x, r, h1, by rw [h2]; omega, h3⟩
theorem idx_congr {X : Type} {p q : X → Bool} : ∀ (l : List X) (i : Int), (∀ x, x ∈ l → p x = q x) → idxL p l i = idxL q l i
  | [], _, _ => rfl
  | x :: l, i, h => by unfold idxL; rw [h x (List.mem_cons_self ..), idx_congr l (i + 1) fun y hy => h y (List.mem_cons_of_mem _ hy)]

/-! ### slices.Delete of one element, in place of its printed text -/
def delK {R X : Type} (r : List X) (i : Int) (d : X) (B : Nat) (k : List X → Option R) : Option R :=
  bif (((decide (0 ≤ i)) && (decide (i ≤ (w (i + 1))))) && (decide ((w (i + 1)) ≤ (r.length : Int)))) && (decide ((r.length : Int) ≤ (r.length : Int))) then
    bif i == (w (i + 1)) then
      k r
    else
    bif (decide (0 ≤ i)) && (decide (0 + (Int.toNat i) ≤ r.length)) then
      bif (decide (0 ≤ (w (i + 1)))) && (decide ((w (i + 1)) ≤ ((r.length : Nat) : Int))) then
        bif decide (((List.take (Int.toNat i) r).length + (List.take (r.length - (Int.toNat (w (i + 1)))) (List.drop (0 + (Int.toNat (w (i + 1)))) r)).length) * B ≤ 140737488355328) && decide (((List.take (Int.toNat i) r).length + (List.take (r.length - (Int.toNat (w (i + 1)))) (List.drop (0 + (Int.toNat (w (i + 1)))) r)).length) ≤ maxLen) then
          bif decide ((Int.toNat i) + (List.take (r.length - (Int.toNat (w (i + 1)))) (List.drop (0 + (Int.toNat (w (i + 1)))) r)).length ≤ r.length) then
            bif ((decide (0 ≤ (((Int.toNat i) + (List.take (r.length - (Int.toNat (w (i + 1)))) (List.drop (0 + (Int.toNat (w (i + 1)))) r)).length : Nat) : Int))) && (decide ((((Int.toNat i) + (List.take (r.length - (Int.toNat (w (i + 1)))) (List.drop (0 + (Int.toNat (w (i + 1)))) r)).length : Nat) : Int) ≤ (r.length : Int)))) && (decide (0 + (Int.toNat (r.length : Int)) ≤ ((List.take (Int.toNat i) r) ++ (List.take (r.length - (Int.toNat (w (i + 1)))) (List.drop (0 + (Int.toNat (w (i + 1)))) r)) ++ (List.drop ((Int.toNat i) + (List.take (r.length - (Int.toNat (w (i + 1)))) (List.drop (0 + (Int.toNat (w (i + 1)))) r)).length) r)).length)) then
              k (List.take ((Int.toNat i) + (List.take (r.length - (Int.toNat (w (i + 1)))) (List.drop (0 + (Int.toNat (w (i + 1)))) r)).length) (fillL ((List.take (Int.toNat i) r) ++ (List.take (r.length - (Int.toNat (w (i + 1)))) (List.drop (0 + (Int.toNat (w (i + 1)))) r)) ++ (List.drop ((Int.toNat i) + (List.take (r.length - (Int.toNat (w (i + 1)))) (List.drop (0 + (Int.toNat (w (i + 1)))) r)).length) r)) (0 + (Int.toNat (((Int.toNat i) + (List.take (r.length - (Int.toNat (w (i + 1)))) (List.drop (0 + (Int.toNat (w (i + 1)))) r)).length : Nat) : Int))) ((Int.toNat (r.length : Int)) - (Int.toNat (((Int.toNat i) + (List.take (r.length - (Int.toNat (w (i + 1)))) (List.drop (0 + (Int.toNat (w (i + 1)))) r)).length : Nat) : Int))) d))
            else none
          else none
        else none
      else none
    else none
  else none
theorem delK_eq {R X : Type} {r pre post : List X} {x : X} {i : Int} (d : X) {B : Nat} (k : List X → Option R) (h : r = pre ++ x :: post) (hi : i = pre.length) (hB : 0 < B) (hb : r.length * B ≤ 140737488355328) : delK r i d B k = k (pre ++ post) := by
  have hlen : r.length = pre.length + 1 + post.length := by rw [h]; simp; omega
  have hle : r.length ≤ r.length * B := Nat.le_mul_of_pos_right _ hB
  have hw : w ((pre.length : Int) + 1) = ((pre.length + 1 : Nat) : Int) := by rw [w_small] <;> omega
  have ht : List.take pre.length r = pre := by rw [h]; simp
  have hd : List.drop (pre.length + 1) r = post := by rw [h, ← List.drop_drop]; simp
  have hp : List.take (r.length - (pre.length + 1)) post = post := List.take_of_length_le (by omega)
  have hbb : (pre.length + post.length) * B ≤ 140737488355328 := Nat.le_trans (Nat.mul_le_mul_right _ (by omega)) hb
  unfold delK
  subst hi
  simp only [hw, Int.toNat_natCast, Nat.zero_add, ht, hd, hp]
  have c1 : decide ((0 : Int) ≤ (pre.length : Int)) = true := by rw [decide_eq_true_iff]; omega
  have c2 : decide ((pre.length : Int) ≤ ((pre.length + 1 : Nat) : Int)) = true := by rw [decide_eq_true_iff]; omega
  have c3 : decide (((pre.length + 1 : Nat) : Int) ≤ (r.length : Int)) = true := by rw [decide_eq_true_iff]; omega
  have c4 : decide ((r.length : Int) ≤ (r.length : Int)) = true := by rw [decide_eq_true_iff]; omega
  have c5 : ((pre.length : Int) == ((pre.length + 1 : Nat) : Int)) = false := by rw [beq_eq_false_iff_ne]; omega
  have c6 : decide (pre.length ≤ r.length) = true := by rw [decide_eq_true_iff]; omega
  have c7 : decide ((0 : Int) ≤ ((pre.length + 1 : Nat) : Int)) = true := by rw [decide_eq_true_iff]; omega
  have c8 : decide ((pre.length + post.length) * B ≤ 140737488355328) = true := by rw [decide_eq_true_iff]; exact hbb
  have c9 : decide (pre.length + post.length ≤ maxLen) = true := by rw [decide_eq_true_iff]; unfold maxLen; omega
  have c10 : decide (pre.length + post.length ≤ r.length) = true := by rw [decide_eq_true_iff]; omega
  have c11 : decide ((0 : Int) ≤ ((pre.length + post.length : Nat) : Int)) = true := by rw [decide_eq_true_iff]; omega
  have c12 : decide (((pre.length + post.length : Nat) : Int) ≤ (r.length : Int)) = true := by rw [decide_eq_true_iff]; omega
  have c13 : decide (r.length ≤ (pre ++ post ++ List.drop (pre.length + post.length) r).length) = true := by rw [decide_eq_true_iff]; simp; omega
  simp only [c1, c2, c3, c4, c5, c6, c7, c8, c9, c10, c11, c12, c13, Bool.and_self, cond_true, cond_false]
  congr 1
  unfold fillL
  rw [List.append_assoc, List.take_append_of_le_length (by simp), List.take_take, Nat.min_self, List.take_append_of_le_length (by simp), List.take_of_length_le (by simp)]
end Go.Proofs.YtbjanflhagkhlaaDoor.Sk
