/- SK, part 24: helps for the plain laws. -/
import Derived.Test.YtalaepaomnfgjaaSkTab
set_option linter.unusedVariables false
set_option linter.unusedSimpArgs false
namespace Go.Proofs.Ytalaepaomnfgjaa.Sk
open Go

theorem NN_eq : NN = 18446744073709551615 + 1 := rfl
theorem NN_big : 4611686018427387904 ≤ NN := by unfold NN; omega
theorem fuel {p : Nat → Prop} {n : Nat} (hn : 4611686018427387904 ≤ n) (h : ∀ k, p (k + 1)) : p n := by
  cases n with
  | zero => omega
  | succ n => exact h n
theorem w_small (n : Int) (h0 : -9223372036854775808 ≤ n) (h1 : n < 9223372036854775808) : w n = n := by
  simp only [w, IntKind.wrap, IntKind.bits, IntKind.signed]
  simp
  split <;> omega
theorem wf_int {P : Program} {x : Int} (h : Wf P (.int .i64) x) : -9223372036854775808 ≤ x ∧ x < 9223372036854775808 := by
  have h : (Lit.int .i64 x).wf = true := h
  simp only [Lit.wf, Bool.and_eq_true, IntKind.min, IntKind.max] at h
  simp [IntKind.signed, IntKind.bits] at h
  omega
theorem vl_self {n : Nat} {l : List Int} (h : l.length = n) : vl n l = l := by
  subst h
  unfold vl
  apply List.ext_getElem
  · simp
  · intro i h1 h2
    simp [List.getD, h2]

/-- What stands at the place where a loop is. -/
theorem getD_mid {α : Type} (pre : List α) (x : α) (r : List α) (d : α) : (pre ++ x :: r).getD pre.length d = x := by simp [List.getD]
theorem w_next {α : Type} {l pre : List α} {x : α} {r : List α} (h : l = pre ++ x :: r) (hb : l.length < 4611686018427387904) : w ((pre.length : Int) + 1) = (pre.length : Int) + 1 := by
  have : l.length = pre.length + 1 + r.length := by rw [h]; simp; omega
  exact w_small _ (by omega) (by omega)

/-- A loop over a list, with a state that keeps an invariant. What it answers may look at what it has passed. -/
theorem list_from {α X σ : Type} {l : List X} (L : Nat → σ → Int → Option α) (S : List X → List X → σ → Option α) (I : List X → σ → Prop)
    (hnil : ∀ k s, I l s → L (k + 1) s (l.length : Int) = S l [] s)
    (hcons : ∀ k pre x r s, l = pre ++ x :: r → I pre s → (∀ s', I (pre ++ [x]) s' → L k s' ((pre.length : Int) + 1) = S (pre ++ [x]) r s') → L (k + 1) s (pre.length : Int) = S pre (x :: r) s) :
    ∀ (r pre : List X) (k : Nat) (s : σ), l = pre ++ r → I pre s → r.length < k → L k s (pre.length : Int) = S pre r s := by
  intro r
  induction r with
  | nil =>
    intro pre k s hl hI hk
    obtain ⟨k, rfl⟩ : ∃ k', k = k' + 1 := ⟨k - 1, by omega⟩
    rw [List.append_nil] at hl
    subst hl
    exact hnil k s hI
  | cons x r ih =>
    intro pre k s hl hI hk
    obtain ⟨k, rfl⟩ : ∃ k', k = k' + 1 := ⟨k - 1, by omega⟩
    refine hcons k pre x r s hl hI fun s' hI' => ?_
    have := ih (pre ++ [x]) k s' (by simp [hl]) hI' (by simp at hk; omega)
    simpa using this
theorem list_loop {α X σ : Type} {l : List X} (L : Nat → σ → Int → Option α) (S : List X → List X → σ → Option α) (I : List X → σ → Prop)
    (hnil : ∀ k s, I l s → L (k + 1) s (l.length : Int) = S l [] s)
    (hcons : ∀ k pre x r s, l = pre ++ x :: r → I pre s → (∀ s', I (pre ++ [x]) s' → L k s' ((pre.length : Int) + 1) = S (pre ++ [x]) r s') → L (k + 1) s (pre.length : Int) = S pre (x :: r) s) :
    ∀ k s, I [] s → l.length < k → L k s 0 = S [] l s := fun k s hI hk => list_from L S I hnil hcons l [] k s rfl hI hk
/-- The like without a state. -/
theorem list_loop0 {α X : Type} {l : List X} (L : Nat → Int → Option α) (S : List X → Option α)
    (hnil : ∀ k, L (k + 1) (l.length : Int) = S [])
    (hcons : ∀ k pre x r, l = pre ++ x :: r → L k ((pre.length : Int) + 1) = S r → L (k + 1) (pre.length : Int) = S (x :: r)) :
    ∀ k, l.length < k → L k 0 = S l := by
  intro k hk
  exact list_loop (σ := Unit) (fun k _ i => L k i) (fun _ r _ => S r) (fun _ _ => True) (fun k _ _ => hnil k) (fun k pre x r _ hl _ h => hcons k pre x r hl (h () trivial)) k () trivial hk
/-- A loop over the numbers below n. -/
theorem range_loop {α σ : Type} {n : Nat} (L : Nat → σ → Int → Option α) (S : Nat → σ → Option α) (I : Nat → σ → Prop)
    (hend : ∀ k s, I n s → L (k + 1) s (n : Int) = S n s)
    (hstep : ∀ k i s, i < n → I i s → (∀ s', I (i + 1) s' → L k s' ((i : Int) + 1) = S (i + 1) s') → L (k + 1) s (i : Int) = S i s) :
    ∀ k s i, i ≤ n → I i s → n - i < k → L k s (i : Int) = S i s := by
  have key : ∀ (m i : Nat) (k : Nat) (s : σ), i + m = n → I i s → m < k → L k s (i : Int) = S i s := by
    intro m
    induction m with
    | zero =>
      intro i k s hi hI hk
      obtain ⟨k, rfl⟩ : ∃ k', k = k' + 1 := ⟨k - 1, by omega⟩
      rw [Nat.add_zero] at hi
      subst hi
      exact hend k s hI
    | succ m ih =>
      intro i k s hi hI hk
      obtain ⟨k, rfl⟩ : ∃ k', k = k' + 1 := ⟨k - 1, by omega⟩
      refine hstep k i s (by omega) hI fun s' hI' => ?_
      have := ih (i + 1) k s' (by omega) hI' (by omega)
      simpa using this
  intro k s i hi hI hk
  exact key (n - i) i k s (by omega) hI hk
/-- A loop that looks for the first number with a property. -/
theorem scan_loop {α : Type} {n : Nat} (p : Nat → Bool) (e rest : Option α) (L : Nat → Int → Option α) (hend : ∀ k, L (k + 1) (n : Int) = rest)
    (hstep : ∀ k (i : Nat), i < n → L (k + 1) (i : Int) = bif p i then e else L k ((i : Int) + 1)) : ∀ k, n < k → L k 0 = bif (List.range n).any p then e else rest := by
  intro k hk
  have := range_loop (σ := Unit) (n := n) (fun k _ i => L k i) (fun i _ => bif (List.range' i (n - i)).any p then e else rest) (fun _ _ => True) (fun k _ _ => by simpa using hend k)
    (fun k i _ hi _ h => by
      show L (k + 1) (i : Int) = _
      rw [hstep k i hi, show n - i = (n - (i + 1)) + 1 by omega, List.range'_succ, List.any_cons]
      cases hp : p i with
      | true => rfl
      | false => simpa using h () trivial) k () 0 (Nat.zero_le _) trivial (by omega)
  simpa [List.range_eq_range'] using this
theorem scan_list {α X : Type} {l : List X} (p : X → Bool) (e rest : Option α) (L : Nat → Int → Option α) (hend : ∀ k, L (k + 1) (l.length : Int) = rest)
    (hstep : ∀ k pre x r, l = pre ++ x :: r → L (k + 1) (pre.length : Int) = bif p x then e else L k ((pre.length : Int) + 1)) : ∀ k, l.length < k → L k 0 = bif l.any p then e else rest :=
  list_loop0 L (fun r => bif r.any p then e else rest) (fun k => by simpa using hend k) (fun k pre x r hl h => by
    rw [hstep k pre x r hl, List.any_cons]
    cases hp : p x with
    | true => rfl
    | false => simpa using h)
/-- slices.Equal. -/
def eqL {X : Type} (e : X → X → Bool) : List X → List X → Bool
  | [], [] => true
  | x :: a, y :: b => e x y && eqL e a b
  | _, _ => false
theorem eqL_iff {X : Type} {e : X → X → Bool} (he : ∀ x y, e x y = true ↔ x = y) : ∀ (a b : List X), eqL e a b = true ↔ a = b
  | [], [] => by simp [eqL]
  | x :: a, y :: b => by simp [eqL, he, eqL_iff he a b]
  | [], _ :: _ => by simp [eqL]
  | _ :: _, [] => by simp [eqL]
theorem eqL_self {X : Type} {e : X → X → Bool} (he : ∀ x y, e x y = true ↔ x = y) (a : List X) : eqL e a a = true := (eqL_iff he a a).2 rfl
theorem eqL_len {X : Type} {e : X → X → Bool} : ∀ (a b : List X), a.length ≠ b.length → eqL e a b = false
  | [], [], h => absurd rfl h
  | x :: a, y :: b, h => by simp [eqL, eqL_len a b (by simpa using h)]
  | [], _ :: _, _ => rfl
  | _ :: _, [], _ => rfl
theorem equal_list {X : Type} {N : Nat} (hN : 4611686018427387904 ≤ N) (e : X → X → Bool) (d : X) {a b : List X} (hl : a.length < 4611686018427387904) {f : Option Bool} (L : Nat → Int → Option Bool)
    (hf : f = bif !((a.length : Int) == (b.length : Int)) then some false else L N 0)
    (hs : ∀ k (i : Int), L (k + 1) i = bif decide (i < (a.length : Int)) then bif (decide (0 ≤ i)) && (decide (i < (a.length : Int))) then bif (decide (0 ≤ i)) && (decide (i < (b.length : Int))) then
      bif !(e (a.getD i.toNat d) (b.getD i.toNat d)) then some false else L k (w (i + 1)) else none else none else some true) : f = some (eqL e a b) := by
  rw [hf]
  by_cases he : a.length = b.length
  · have key : ∀ (r pa pb : List X) (r' : List X) (k : Nat), a = pa ++ r → b = pb ++ r' → pa.length = pb.length → r.length < k → L k (pa.length : Int) = some (eqL e r r') := by
      intro r
      induction r with
      | nil =>
        intro pa pb r' k ha hb hp hk
        obtain ⟨k, rfl⟩ : ∃ k', k = k' + 1 := ⟨k - 1, by omega⟩
        have h1 : a.length = pa.length := by rw [ha]; simp
        have h2 : b.length = pb.length + r'.length := by rw [hb]; simp
        have : r' = [] := List.eq_nil_of_length_eq_zero (by omega)
        subst this
        rw [hs, h1]
        simp [eqL]
      | cons x r ih =>
        intro pa pb r' k ha hb hp hk
        obtain ⟨k, rfl⟩ : ∃ k', k = k' + 1 := ⟨k - 1, by omega⟩
        have h1 : a.length = pa.length + 1 + r.length := by rw [ha]; simp; omega
        have h2 : b.length = pb.length + r'.length := by rw [hb]; simp
        cases r' with
        | nil => simp at h2; omega
        | cons y r' =>
          have := ih (pa ++ [x]) (pb ++ [y]) r' k (by simp [ha]) (by simp [hb]) (by simp [hp]) (by simp at hk; omega)
          simp at this
          simp at h2
          rw [hs, w_next ha hl, this]
          simp only [Int.toNat_natCast]
          rw [show a.getD pa.length d = x by rw [ha]; exact getD_mid pa x r d, show b.getD pa.length d = y by rw [hb, hp]; exact getD_mid pb y r' d]
          simp only [show decide ((pa.length : Int) < a.length) = true by simp; omega, show decide ((pa.length : Int) < b.length) = true by simp; omega, show decide (0 ≤ (pa.length : Int)) = true by simp, Bool.true_and, cond_true, eqL]
          cases e x y <;> rfl
    simp only [show ((a.length : Int) == (b.length : Int)) = true by simp; omega, Bool.not_true, cond_false]
    exact key a [] [] b N rfl rfl rfl (by omega)
  · simp only [show ((a.length : Int) == (b.length : Int)) = false by simp; omega, Bool.not_false, cond_true]
    rw [eqL_len a b he]
theorem wf_sl_len {P : Program} {e : TypeId} {t : Ty} {l : List t.den} (h : Wf P (.sl e t) l) (hb : 0 < P.bytesOf e) : l.length ≤ reachBytes := by
  have := h.1
  exact Nat.le_trans (Nat.le_mul_of_pos_right _ hb) this
theorem ite_some_bind {α β : Type} (c : Prop) [Decidable c] (a b : α) (f : α → Option β) : (if c then some a else some b).bind f = if c then f a else f b := by split <;> rfl
theorem seq_iff (a b : ByteArray) : seq a b = true ↔ a = b := by
  unfold seq
  constructor
  · intro h
    have h := beq_iff_eq.1 h
    cases a with | mk a => cases b with | mk b => congr 1; exact Array.ext' h
  · intro h; subst h; simp
theorem seq_self (a : ByteArray) : seq a a = true := (seq_iff a a).2 rfl
end Go.Proofs.Ytalaepaomnfgjaa.Sk
