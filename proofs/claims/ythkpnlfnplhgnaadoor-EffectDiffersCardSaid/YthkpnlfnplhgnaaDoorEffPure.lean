/- Effect*: plain laws. -/
import Derived.Test.YthkpnlfnplhgnaaDoorEffEq
set_option linter.unusedVariables false
set_option linter.unusedSimpArgs false
namespace Go.Proofs.YthkpnlfnplhgnaaDoor.Sk
open Go

abbrev Pt := Int × Int
abbrev Nd := (Int × Pt × Int) × Int × Int
theorem bchk {α : Type} {b : Bool} {f : Option α} (h : b = true) : (bif b then f else none) = f := by rw [h]; rfl
/-! ### points -/
def ptE (p : Pt) : Int := bif (((decide (p.1 < (-1000000))) || (decide (p.1 > 1000000))) || (decide (p.2 < (-1000000)))) || (decide (p.2 > 1000000)) then 4 else 0
theorem ptE_v (N : Nat) (p : Pt) : plane_Check.fn N p = some (ptE p) := by
  rw [plane_Check.clean]; unfold ptE
  generalize ((((decide (p.1 < (-1000000))) || (decide (p.1 > 1000000))) || (decide (p.2 < (-1000000)))) || (decide (p.2 > 1000000))) = b
  cases b <;> rfl
theorem mid_lt {X : Type} {l pre r : List X} {x : X} (h : l = pre ++ x :: r) : pre.length < l.length := by rw [h]; simp
theorem mid_get {X : Type} {l pre r : List X} {x d : X} (h : l = pre ++ x :: r) : l.getD pre.length d = x := by rw [h]; exact getD_mid pre x r d
theorem mid_drop {X : Type} {l pre r : List X} {x : X} (h : l = pre ++ x :: r) : l.drop (pre.length + 1) = r := by rw [h, ← List.drop_drop]; simp
theorem mid_take {X : Type} {l pre r : List X} {x : X} (h : l = pre ++ x :: r) : l.take pre.length = pre := by rw [h]; simp

theorem bif_some {α : Type} (b : Bool) (x y : α) : (bif b then some x else some y) = some (bif b then x else y) := by cases b <;> rfl
/-! ### tubes -/
def tubL (l : List Nd) : Nat → List Nd → Int
  | _, [] => 0
  | i, x :: r => bif ((decide (x.1.1 < 0)) || (decide (x.1.1 > 200000))) || ((decide ((i : Int) > 0)) && (decide (x.1.1 ≤ (List.getD l (i - 1) ((0, ((0, 0), 0)), (0, 0))).1.1))) then 12 else
      bif !(ptE x.1.2.1 == 0) then ptE x.1.2.1 else bif (((((decide (x.1.2.2 < 0)) || (decide (x.1.2.2 > 60000))) || (decide (x.2.1 < 0))) || (decide (x.2.1 > 1000000))) || (decide (x.2.2 < 0))) || (decide (x.2.2 > 60000)) then 4 else tubL l (i + 1) r
def tubE (l : List Nd) : Int := bif decide ((l.length : Int) > 64) then 2 else bif (l.length : Int) == 0 then 3 else tubL l 0 l
theorem tubE_v {N : Nat} (hN : 4611686018427387904 ≤ N) (l : List Nd) : tube_Check.fn N l = some (tubE l) := by
  rw [tube_Check.eq]
  unfold tubE
  cases h1 : decide ((l.length : Int) > 64) with
  | true => rfl
  | false =>
    cases h2 : ((l.length : Int) == 0) with
    | true => rfl
    | false =>
      simp only [decide_eq_false_iff_not] at h1
      rw [cond_false, cond_false, cond_false, cond_false]
      refine list_loop (σ := Unit) (l := l) (fun k _ i => tube_Check.l0 N l k i) (fun pre r _ => some (tubL l pre.length r)) (fun _ _ => True) (fun k _ _ => tube_Check.l0_nil N l k) (fun k pre x r _ hl _ ih => ?_) N () trivial (by omega)
      have q1 := mid_lt hl
      have ih : tube_Check.l0 N l k ((pre.length : Int) + 1) = some (tubL l (pre ++ [x]).length r) := ih () trivial
      rw [List.length_append, List.length_singleton] at ih
      show tube_Check.l0 N l (k + 1) (pre.length : Int) = some (bif ((decide (x.1.1 < 0)) || (decide (x.1.1 > 200000))) || ((decide ((pre.length : Int) > 0)) && (decide (x.1.1 ≤ (List.getD l (pre.length - 1) ((0, ((0, 0), 0)), (0, 0))).1.1))) then 12 else _)
      have c : (((decide (0 ≤ (w ((pre.length : Int) - 1)))) && (decide ((w ((pre.length : Int) - 1)) < (l.length : Int)))) || !((!((decide (((x.1).1) < 0)) || (decide (((x.1).1) > 200000)))) && (decide ((pre.length : Int) > 0)))) = true := by
        by_cases h0 : pre.length = 0
        · rw [h0]; simp
        · rw [w_small _ (by omega) (by omega)]; simp; omega
      have e : (decide ((pre.length : Int) > 0) && decide (x.1.1 ≤ (List.getD l (Int.toNat (w ((pre.length : Int) - 1))) ((0, ((0, 0), 0)), (0, 0))).1.1)) = (decide ((pre.length : Int) > 0) && decide (x.1.1 ≤ (List.getD l (pre.length - 1) ((0, ((0, 0), 0)), (0, 0))).1.1)) := by
        by_cases h0 : pre.length = 0
        · rw [h0]; rfl
        · rw [w_small _ (by omega) (by omega), show ((pre.length : Int) - 1).toNat = pre.length - 1 by omega]
      rw [tube_Check.l0_cons N l k hl (by omega), bchk c, e, ptE_v, Option.bind_some, ih]
      generalize (((decide (x.1.1 < 0)) || (decide (x.1.1 > 200000))) || ((decide ((pre.length : Int) > 0)) && (decide (x.1.1 ≤ (List.getD l (pre.length - 1) ((0, ((0, 0), 0)), (0, 0))).1.1)))) = b1
      generalize (ptE x.1.2.1 == 0) = b2
      generalize ((((((decide (x.1.2.2 < 0)) || (decide (x.1.2.2 > 60000))) || (decide (x.2.1 < 0))) || (decide (x.2.1 > 1000000))) || (decide (x.2.2 < 0))) || (decide (x.2.2 > 60000))) = b3
      cases b1 <;> cases b2 <;> cases b3 <;> rfl
def tm (l : List Nd) (i : Nat) : Int := (List.getD l i ((0, ((0, 0), 0)), (0, 0))).1.1
theorem tubL_zero {l : List Nd} : ∀ (r pre : List Nd), l = pre ++ r → tubL l pre.length r = 0 → ∀ i, pre.length ≤ i → i < l.length → (0 ≤ tm l i ∧ tm l i ≤ 200000) ∧ (0 < i → tm l (i - 1) < tm l i) ∧ 0 ≤ (List.getD l i ((0, ((0, 0), 0)), (0, 0))).1.2.2 ∧ (List.getD l i ((0, ((0, 0), 0)), (0, 0))).1.2.2 ≤ 60000
  | [], pre, hl, _, i, h1, h2 => by rw [List.append_nil] at hl; subst hl; omega
  | x :: r, pre, hl, h, i, h1, h2 => by
    have h : (bif ((decide (x.1.1 < 0)) || (decide (x.1.1 > 200000))) || ((decide ((pre.length : Int) > 0)) && (decide (x.1.1 ≤ tm l (pre.length - 1)))) then 12 else
      bif !(ptE x.1.2.1 == 0) then ptE x.1.2.1 else bif (((((decide (x.1.2.2 < 0)) || (decide (x.1.2.2 > 60000))) || (decide (x.2.1 < 0))) || (decide (x.2.1 > 1000000))) || (decide (x.2.2 < 0))) || (decide (x.2.2 > 60000)) then 4 else tubL l (pre.length + 1) r) = 0 := h
    cases b1 : (((decide (x.1.1 < 0)) || (decide (x.1.1 > 200000))) || ((decide ((pre.length : Int) > 0)) && (decide (x.1.1 ≤ tm l (pre.length - 1))))) with
    | true => rw [b1] at h; cases h
    | false =>
      rw [b1] at h
      cases b2 : (ptE x.1.2.1 == 0) with
      | false => rw [b2] at h; have h : ptE x.1.2.1 = 0 := h; rw [h] at b2; cases b2
      | true =>
        rw [b2] at h
        cases b3 : ((((((decide (x.1.2.2 < 0)) || (decide (x.1.2.2 > 60000))) || (decide (x.2.1 < 0))) || (decide (x.2.1 > 1000000))) || (decide (x.2.2 < 0))) || (decide (x.2.2 > 60000))) with
        | true => rw [b3] at h; cases h
        | false =>
          rw [b3] at h
          have h : tubL l (pre.length + 1) r = 0 := h
          by_cases e : i = pre.length
          · subst e
            have hx : List.getD l pre.length ((0, ((0, 0), 0)), (0, 0)) = x := mid_get hl
            unfold tm at b1 ⊢
            rw [hx]
            simp only [Bool.or_eq_false_iff, Bool.and_eq_false_iff, decide_eq_false_iff_not] at b1 b3
            omega
          · exact tubL_zero r (pre ++ [x]) (by simp [hl]) (by rw [List.length_append, List.length_singleton]; exact h) i (by simp; omega) h2
structure TubOk (l : List Nd) : Prop where
  pos : 0 < l.length
  len : l.length ≤ 64
  time : ∀ i, i < l.length → 0 ≤ tm l i ∧ tm l i ≤ 200000
  up : ∀ i, 0 < i → i < l.length → tm l (i - 1) < tm l i
theorem tub_ok {l : List Nd} (h : tubE l = 0) : TubOk l := by
  unfold tubE at h
  cases h1 : decide ((l.length : Int) > 64) with
  | true => rw [h1] at h; cases h
  | false =>
    cases h2 : ((l.length : Int) == 0) with
    | true => rw [h1, h2] at h; cases h
    | false =>
      rw [h1, h2] at h
      have h : tubL l 0 l = 0 := h
      simp only [decide_eq_false_iff_not, beq_eq_false_iff_ne] at h1 h2
      have key := tubL_zero (l := l) l [] rfl h
      exact ⟨by omega, by omega, fun i hi => (key i (Nat.zero_le _) hi).1, fun i h0 hi => (key i (Nat.zero_le _) hi).2.1 h0⟩
/-! ### the node at a time -/
theorem divd_ex (N : Nat) (a b : Int) : ∃ v, num_DivDown.fn N (a, b) = some v := by
  rw [num_DivDown.clean]
  cases h : (b == 0) with
  | true => exact ⟨_, rfl⟩
  | false =>
    have h2 : (b != 0) = true := by rw [bne, h]; rfl
    rw [h2]
    cases ((a == (-9223372036854775808)) && (b == (-1))) with
    | true => exact ⟨_, rfl⟩
    | false => cases ((!((Int.tmod a b) == 0)) && (!((decide (a < 0)) == (decide (b < 0))))) <;> exact ⟨_, rfl⟩
theorem divu_ex (N : Nat) (a b : Int) (hb : b ≠ 0) : ∃ v, num_DivUp.fn N (a, b) = some v := by
  obtain ⟨v, hv⟩ := divd_ex N a b
  rw [num_DivUp.clean, hv, Option.bind_some, show (b != 0) = true by simpa using hb, Bool.true_or, cond_true]
  cases ((v.2 == 0) && (!((Int.tmod a b) == 0))) <;> exact ⟨_, rfl⟩
theorem betw_ex (N : Nat) (a b c d : Int) : ∃ v, tube_between.fn N (a, b, c, d) = some v := by
  obtain ⟨v, hv⟩ := divd_ex N (w ((w (b - a)) * c)) d
  rw [tube_between.eq, hv]
  exact ⟨_, rfl⟩
theorem abov_ex (N : Nat) (a b c d : Int) (hd : d ≠ 0) : ∃ v, tube_above.fn N (a, b, c, d) = some v := by
  obtain ⟨v, hv⟩ := divu_ex N (w ((w (b - a)) * c)) d hd
  rw [tube_above.eq, hv]
  exact ⟨_, rfl⟩
theorem tow_ex (N : Nat) (a b : Pt) (n d : Int) : ∃ v, plane_Toward.fn N (a, b, n, d) = some v := by
  rw [plane_Toward.clean]
  cases decide (d ≤ 0) with
  | true => exact ⟨_, rfl⟩
  | false =>
    obtain ⟨v1, h1⟩ := divd_ex N (w ((w (b.1 - a.1)) * n)) d
    obtain ⟨v2, h2⟩ := divd_ex N (w ((w (b.2 - a.2)) * n)) d
    rw [cond_false, ptE_v, ptE_v, h1, h2, bif_some, Option.bind_some, bif_some, Option.bind_some]
    simp only [Option.bind_some]
    generalize ((((decide (d > 200000)) || (decide (n < 0))) || (decide (n > d))) || (!((bif !(((decide (d > 200000)) || (decide (n < 0))) || (decide (n > d))) then ptE a else 0) == 0))) = q
    generalize (!((bif !q then ptE b else 0) == 0)) = q2
    cases q <;> cases q2 <;> exact ⟨_, rfl⟩
theorem at_l {N : Nat} {l : List Nd} (hl : TubOk l) {t : Int} (h1 : t ≤ tm l (l.length - 1)) : ∀ (m : Nat) (k : Nat) (i : Nat), i + m = l.length → 0 < m → tm l i ≤ t → m ≤ k → ∃ n, tube_at.l0 N l t k (i : Int) = some (n, 0) ∧ n.1.1 = t := by
  intro m
  induction m with
  | zero => intro k i _ h; omega
  | succ m ih =>
    intro k i hi _ ht hk
    obtain ⟨k, rfl⟩ : ∃ k', k = k' + 1 := ⟨k - 1, by omega⟩
    have hlen := hl.len
    have hw : w ((i : Int) + 1) = ((i + 1 : Nat) : Int) := by rw [w_small _ (by omega) (by omega)]; rfl
    have c : (((decide (0 ≤ (((i + 1 : Nat) : Int)))) && (decide ((((i + 1 : Nat) : Int)) < (l.length : Int)))) || !(decide ((((i + 1 : Nat) : Int)) < (l.length : Int)))) = true := by
      by_cases h : i + 1 < l.length <;> simp <;> omega
    rw [tube_at.l0_clean, hw, bchk c, Int.toNat_natCast, Int.toNat_natCast]
    by_cases hn : i + 1 < l.length ∧ tm l (i + 1) ≤ t
    · have c2 : ((decide ((((i + 1 : Nat) : Int)) < (l.length : Int))) && (decide ((((List.getD l (i + 1) ((0, ((0, 0), 0)), (0, 0))).1).1) ≤ t))) = true := by
        rw [Bool.and_eq_true, decide_eq_true_iff, decide_eq_true_iff]; exact ⟨by omega, hn.2⟩
      rw [c2, cond_true]
      exact ih k (i + 1) (by omega) (by omega) hn.2 (by omega)
    · have c2 : ((decide ((((i + 1 : Nat) : Int)) < (l.length : Int))) && (decide ((((List.getD l (i + 1) ((0, ((0, 0), 0)), (0, 0))).1).1) ≤ t))) = false := by
        rw [Bool.and_eq_false_iff, decide_eq_false_iff_not, decide_eq_false_iff_not]
        by_cases h : i + 1 < l.length
        · exact .inr fun h' => hn ⟨h, h'⟩
        · exact .inl (by omega)
      rw [c2, cond_false, bchk (by simp; omega)]
      cases he : ((((List.getD l i ((0, ((0, 0), 0)), (0, 0))).1).1) == t) with
      | true => exact ⟨_, rfl, beq_iff_eq.1 he⟩
      | false =>
        have hne : tm l i ≠ t := beq_eq_false_iff_ne.1 he
        have hi1 : i + 1 < l.length := by
          rcases Nat.lt_or_ge (i + 1) l.length with h | h
          · exact h
          · have e : l.length - 1 = i := by omega
            rw [e] at h1; omega
        have hup := hl.up (i + 1) (by omega) hi1
        have t1 := hl.time i (by omega)
        have t2 := hl.time (i + 1) hi1
        rw [Nat.add_sub_cancel] at hup
        have hd : w (((List.getD l (i + 1) ((0, ((0, 0), 0)), (0, 0))).1.1) - ((List.getD l i ((0, ((0, 0), 0)), (0, 0))).1.1)) ≠ 0 := by
          have e1 : (List.getD l (i + 1) ((0, ((0, 0), 0)), (0, 0))).1.1 = tm l (i + 1) := rfl
          have e2 : (List.getD l i ((0, ((0, 0), 0)), (0, 0))).1.1 = tm l i := rfl
          rw [e1, e2, w_small _ (by omega) (by omega)]
          omega
        rw [cond_false, bchk (by simp; omega)]
        obtain ⟨v1, e1⟩ := tow_ex N (((List.getD l i ((0, ((0, 0), 0)), (0, 0))).1).2).1 (((List.getD l (i + 1) ((0, ((0, 0), 0)), (0, 0))).1).2).1 (w (t - (((List.getD l i ((0, ((0, 0), 0)), (0, 0))).1).1))) (w ((((List.getD l (i + 1) ((0, ((0, 0), 0)), (0, 0))).1).1) - (((List.getD l i ((0, ((0, 0), 0)), (0, 0))).1).1)))
        obtain ⟨v2, e2⟩ := betw_ex N (((List.getD l i ((0, ((0, 0), 0)), (0, 0))).1).2).2 (((List.getD l (i + 1) ((0, ((0, 0), 0)), (0, 0))).1).2).2 (w (t - (((List.getD l i ((0, ((0, 0), 0)), (0, 0))).1).1))) (w ((((List.getD l (i + 1) ((0, ((0, 0), 0)), (0, 0))).1).1) - (((List.getD l i ((0, ((0, 0), 0)), (0, 0))).1).1)))
        obtain ⟨v3, e3⟩ := abov_ex N ((List.getD l i ((0, ((0, 0), 0)), (0, 0))).2).1 ((List.getD l (i + 1) ((0, ((0, 0), 0)), (0, 0))).2).1 (w (t - (((List.getD l i ((0, ((0, 0), 0)), (0, 0))).1).1))) (w ((((List.getD l (i + 1) ((0, ((0, 0), 0)), (0, 0))).1).1) - (((List.getD l i ((0, ((0, 0), 0)), (0, 0))).1).1))) hd
        obtain ⟨v4, e4⟩ := abov_ex N ((List.getD l i ((0, ((0, 0), 0)), (0, 0))).2).2 ((List.getD l (i + 1) ((0, ((0, 0), 0)), (0, 0))).2).2 (w (t - (((List.getD l i ((0, ((0, 0), 0)), (0, 0))).1).1))) (w ((((List.getD l (i + 1) ((0, ((0, 0), 0)), (0, 0))).1).1) - (((List.getD l i ((0, ((0, 0), 0)), (0, 0))).1).1))) hd
        rw [e1, Option.bind_some, e2, Option.bind_some, e3, Option.bind_some, e4, Option.bind_some]
        exact ⟨_, rfl, rfl⟩
theorem last_ok {l : List Nd} (hl : TubOk l) : w ((l.length : Int) - 1) = ((l.length - 1 : Nat) : Int) := by
  have := hl.pos; have := hl.len
  rw [w_small _ (by omega) (by omega)]; omega
theorem at_ok {N : Nat} (hN : 4611686018427387904 ≤ N) {l : List Nd} (hl : TubOk l) {t : Int} (h0 : tm l 0 ≤ t) (h1 : t ≤ tm l (l.length - 1)) : ∃ n, tube_at.fn N (l, t) = some (n, 0) ∧ n.1.1 = t := by
  have hp := hl.pos
  have hlen := hl.len
  rw [tube_at.clean, bchk (by rw [decide_eq_true_iff]; omega), last_ok hl, Int.toNat_natCast]
  have c : (((decide (0 ≤ ((l.length - 1 : Nat) : Int))) && (decide (((l.length - 1 : Nat) : Int) < (l.length : Int)))) || !(!(decide (t < (((List.getD l 0 ((0, ((0, 0), 0)), (0, 0))).1).1))))) = true := by
    rw [show decide (0 ≤ ((l.length - 1 : Nat) : Int)) = true by rw [decide_eq_true_iff]; omega, show decide (((l.length - 1 : Nat) : Int) < (l.length : Int)) = true by rw [decide_eq_true_iff]; omega]; rfl
  have c2 : ((decide (t < (((List.getD l 0 ((0, ((0, 0), 0)), (0, 0))).1).1))) || (decide (t > (((List.getD l (l.length - 1) ((0, ((0, 0), 0)), (0, 0))).1).1)))) = false := by
    rw [Bool.or_eq_false_iff, decide_eq_false_iff_not, decide_eq_false_iff_not]
    exact ⟨Int.not_lt.2 h0, Int.not_lt.2 h1⟩
  rw [bchk c, c2, cond_false]
  exact at_l hl h1 l.length N 0 (by omega) hp h0 (by omega)
/-- Outside of its times a tube has none. -/
theorem at_out {N : Nat} (hN : 4611686018427387904 ≤ N) {l : List Nd} (hl : TubOk l) {t : Int} (h : t < tm l 0 ∨ tm l (l.length - 1) < t) : tube_at.fn N (l, t) = some (((0, ((0, 0), 0)), (0, 0)), 12) := by
  have hp := hl.pos
  have hlen := hl.len
  rw [tube_at.clean, bchk (by rw [decide_eq_true_iff]; omega), last_ok hl, Int.toNat_natCast]
  have c : (((decide (0 ≤ ((l.length - 1 : Nat) : Int))) && (decide (((l.length - 1 : Nat) : Int) < (l.length : Int)))) || !(!(decide (t < (((List.getD l 0 ((0, ((0, 0), 0)), (0, 0))).1).1))))) = true := by
    rw [show decide (0 ≤ ((l.length - 1 : Nat) : Int)) = true by rw [decide_eq_true_iff]; omega, show decide (((l.length - 1 : Nat) : Int) < (l.length : Int)) = true by rw [decide_eq_true_iff]; omega]; rfl
  have c2 : ((decide (t < (((List.getD l 0 ((0, ((0, 0), 0)), (0, 0))).1).1))) || (decide (t > (((List.getD l (l.length - 1) ((0, ((0, 0), 0)), (0, 0))).1).1)))) = true := by
    rw [Bool.or_eq_true, decide_eq_true_iff, decide_eq_true_iff]
    exact h
  rw [bchk c, c2]
  rfl
noncomputable def nodeAt (N : Nat) (x : List Nd) (t : Int) : Nd := ((tube_at.fn N (x, t)).getD (((0, ((0, 0), 0)), (0, 0)), 0)).1
theorem at_node {N : Nat} (hN : 4611686018427387904 ≤ N) {l : List Nd} (hl : TubOk l) {t : Int} (h0 : tm l 0 ≤ t) (h1 : t ≤ tm l (l.length - 1)) : tube_at.fn N (l, t) = some (nodeAt N l t, 0) ∧ (nodeAt N l t).1.1 = t := by
  obtain ⟨n, hn, ht⟩ := at_ok hN hl h0 h1
  unfold nodeAt
  rw [hn]
  exact ⟨rfl, ht⟩
/-! ### the fact -/
def levT : List Nd := [((0, ((0, 0), 9000)), (100, 50)), ((100, ((10000, 0), 9000)), (100, 50))]
def jetT : ByteArray × Int × Int × Int × Int × Int × Int := (⟨#[74, 69, 84]⟩, (1, (40000, (50, (40, (50, 300))))))
def clbT : ByteArray × Int × Int × ByteArray := (⟨#[65, 49]⟩, (0, (9500, ⟨#[]⟩)))
def effT : List Nd := [((0, ((0, 0), 9000)), (100, 50)), ((10, ((1000, 0), 9500)), (100, 50)), ((100, ((10000, 0), 9500)), (100, 50))]
theorem lev_v (N : Nat) : law_level.fn N () = some levT := by kernel_rfl
theorem jet_v (N : Nat) : law_jet.fn N () = some jetT := by kernel_rfl
theorem clb_v (N : Nat) : law_climbed.fn N 9500 = some clbT := by kernel_rfl
theorem dif_f (M : Nat) : effect_Differs.fn (M + 16) (levT, effT) = some (1, 0) := by kernel_rfl
theorem of_f (M : Nat) : effect_Of.fn (M + 16) (levT, (clbT, (0, (jetT, (0, 0))))) = some (effT, 0) := by kernel_rfl
theorem fact_v {N : Nat} (hN : 4611686018427387904 ≤ N) : law_effectFact.fn N () = some true := by
  obtain ⟨M, rfl⟩ : ∃ M, N = M + 16 := ⟨N - 16, by omega⟩
  have hO := of_f M
  have hD := dif_f M
  rw [law_effectFact.eq, lev_v, Option.bind_some, clb_v, Option.bind_some, jet_v, Option.bind_some, hO, Option.bind_some, Option.bind_some]
  dsimp only
  rw [hD, Option.bind_some]
  rfl
/-! ### the first difference -/
def hasT (x : List Nd) (t : Int) : Bool := (decide (t ≥ tm x 0)) && (decide (t ≤ tm x (x.length - 1)))
def difN (x y : Nd) : Bool := (!((x.1.2.1.1 == y.1.2.1.1) && ((x.1.2.1.2 == y.1.2.1.2) && true))) || (!(x.1.2.2 == y.1.2.2))
noncomputable def difT (N : Nat) (a b : List Nd) (t : Int) : Bool := (!(hasT a t == hasT b t)) || (hasT a t && difN (nodeAt N a t) (nodeAt N b t))
def findD (f : Int → Bool) : Nat → Int → Int × Int
  | 0, _ => (0, 8)
  | c + 1, t => bif f t then (t, 0) else findD f c (t + 1)
def lastT (a b : List Nd) : Int := if tm b (b.length - 1) > tm a (a.length - 1) then tm b (b.length - 1) else tm a (a.length - 1)
def firstT (a b : List Nd) : Int := if tm b 0 < tm a 0 then tm b 0 else tm a 0
section
variable {N : Nat} (hN : 4611686018427387904 ≤ N)
theorem has_v {x : List Nd} (hx : TubOk x) (t : Int) : effect_has.fn N (x, t) = some (hasT x t) := by
  have hp := hx.pos
  have hl := hx.len
  have c : (decide (0 ≤ ((x.length - 1 : Nat) : Int)) && decide (((x.length - 1 : Nat) : Int) < (x.length : Int))) = true := by rw [Bool.and_eq_true, decide_eq_true_iff, decide_eq_true_iff]; omega
  rw [effect_has.clean, bchk (by rw [decide_eq_true_iff]; omega), last_ok hx, c, Bool.true_or, cond_true, Int.toNat_natCast]
  rfl
include hN
theorem atT_v {x : List Nd} (hx : TubOk x) (h0 : tubE x = 0) (t : Int) : tube_At.fn N (x, t) = some (bif hasT x t then (nodeAt N x t, 0) else (((0, ((0, 0), 0)), (0, 0)), 12)) := by
  rw [tube_At.eq, tubE_v hN, h0, Option.bind_some, show (!((0 : Int) == 0)) = false from rfl, cond_false]
  cases h : hasT x t with
  | true =>
    unfold hasT at h
    rw [Bool.and_eq_true, decide_eq_true_iff, decide_eq_true_iff] at h
    obtain ⟨e, _⟩ := at_node hN hx h.1 h.2
    rw [e, Option.bind_some, cond_true]
  | false =>
    unfold hasT at h
    rw [Bool.and_eq_false_iff, decide_eq_false_iff_not, decide_eq_false_iff_not] at h
    rw [at_out hN hx (by omega), Option.bind_some, cond_false]
theorem difP_l {a b : List Nd} (ha : TubOk a) (hb : TubOk b) : ∀ (c k : Nat) (t : Int), t + c = lastT a b + 1 → 0 ≤ t → c < k → effect_Differs.l0 N a b k t = some (findD (difT N a b) c t) := by
  have a1 := ha.pos
  have a2 := ha.len
  have b1 := hb.pos
  have b2 := hb.len
  have ta := ha.time (a.length - 1) (by omega)
  have tb := hb.time (b.length - 1) (by omega)
  have hlast : lastT a b ≤ 200000 := by unfold lastT; split <;> omega
  intro c
  induction c with
  | zero =>
    intro k t ht h0 hk
    obtain ⟨k, rfl⟩ : ∃ k', k = k' + 1 := ⟨k - 1, by omega⟩
    rw [effect_Differs.l0_clean, last_ok ha, last_ok hb, Int.toNat_natCast, Int.toNat_natCast]
    show (bif decide (t ≤ lastT a b) then _ else _) = _
    rw [decide_eq_false (by omega)]
    rfl
  | succ c ih =>
    intro k t ht h0 hk
    obtain ⟨k, rfl⟩ : ∃ k', k = k' + 1 := ⟨k - 1, by omega⟩
    rw [effect_Differs.l0_clean, last_ok ha, last_ok hb, Int.toNat_natCast, Int.toNat_natCast]
    show (bif decide (t ≤ lastT a b) then _ else _) = some (bif difT N a b t then (t, 0) else findD (difT N a b) c (t + 1))
    rw [decide_eq_true (by omega), cond_true, has_v ha, has_v hb, Option.bind_some, Option.bind_some, w_small _ (by omega) (by omega), ih k (t + 1) (by omega) (by omega) (by omega), Option.bind_some]
    unfold difT
    cases hA : hasT a t with
    | false => cases hB : hasT b t <;> rfl
    | true =>
      cases hB : hasT b t with
      | false => rfl
      | true =>
        unfold hasT at hA hB
        rw [Bool.and_eq_true, decide_eq_true_iff, decide_eq_true_iff] at hA hB
        obtain ⟨e1, _⟩ := at_node hN ha hA.1 hA.2
        obtain ⟨e2, _⟩ := at_node hN hb hB.1 hB.2
        rw [tube_Point.eq, e1, tube_Point.eq, e2, Option.bind_some, Option.bind_some, Option.bind_some, Option.bind_some]
        have hd : ((!((nodeAt N a t).1.2.1.1 == (nodeAt N b t).1.2.1.1 && ((nodeAt N a t).1.2.1.2 == (nodeAt N b t).1.2.1.2 && true))) || (!((nodeAt N a t).1.2.2 == (nodeAt N b t).1.2.2))) = difN (nodeAt N a t) (nodeAt N b t) := rfl
        dsimp only
        rw [hd]
        generalize difN (nodeAt N a t) (nodeAt N b t) = q
        generalize findD (difT N a b) c (t + 1) = F
        cases q <;> rfl
theorem difL_l {a b : List Nd} (ha : TubOk a) (hb : TubOk b) (ha0 : tubE a = 0) (hb0 : tubE b = 0) (r2 : Int × Int) : ∀ (c k : Nat) (t : Int), t + c = lastT a b + 1 → 0 ≤ t → c < k →
    law_EffectDiffers.l1 N a b r2 k t = some ((r2.2 == (findD (difT N a b) c t).2) && (r2.1 == (findD (difT N a b) c t).1)) := by
  have a1 := ha.pos
  have a2 := ha.len
  have b1 := hb.pos
  have b2 := hb.len
  have ta := ha.time (a.length - 1) (by omega)
  have tb := hb.time (b.length - 1) (by omega)
  have hlast : lastT a b ≤ 200000 := by unfold lastT; split <;> omega
  intro c
  induction c with
  | zero =>
    intro k t ht h0 hk
    obtain ⟨k, rfl⟩ : ∃ k', k = k' + 1 := ⟨k - 1, by omega⟩
    rw [law_EffectDiffers.l1_clean, last_ok ha, last_ok hb, Int.toNat_natCast, Int.toNat_natCast]
    show (bif decide (t ≤ lastT a b) then _ else _) = _
    rw [decide_eq_false (by omega)]
    rfl
  | succ c ih =>
    intro k t ht h0 hk
    obtain ⟨k, rfl⟩ : ∃ k', k = k' + 1 := ⟨k - 1, by omega⟩
    rw [law_EffectDiffers.l1_clean, last_ok ha, last_ok hb, Int.toNat_natCast, Int.toNat_natCast]
    show (bif decide (t ≤ lastT a b) then _ else _) = some ((r2.2 == (bif difT N a b t then (t, 0) else findD (difT N a b) c (t + 1)).2) && (r2.1 == (bif difT N a b t then (t, 0) else findD (difT N a b) c (t + 1)).1))
    rw [decide_eq_true (by omega), cond_true, atT_v hN ha ha0, atT_v hN hb hb0, Option.bind_some, Option.bind_some, w_small _ (by omega) (by omega), ih k (t + 1) (by omega) (by omega) (by omega)]
    unfold difT
    generalize findD _ c (t + 1) = F
    cases hA : hasT a t with
    | false => cases hB : hasT b t <;> rfl
    | true =>
      cases hB : hasT b t with
      | false => rfl
      | true =>
        have hd : ((!((nodeAt N a t).1.2.1.1 == (nodeAt N b t).1.2.1.1 && ((nodeAt N a t).1.2.1.2 == (nodeAt N b t).1.2.1.2 && true))) || (!((nodeAt N a t).1.2.2 == (nodeAt N b t).1.2.2))) = difN (nodeAt N a t) (nodeAt N b t) := rfl
        rw [cond_true, cond_true]
        dsimp only
        rw [hd]
        generalize difN (nodeAt N a t) (nodeAt N b t) = q
        cases q <;> rfl
theorem EffectDiffers.pureN (a b : List Nd) : law_EffectDiffers.fn N (a, b) = some true := by
  obtain ⟨M, hM⟩ : ∃ M, N = M + 1 := ⟨N - 1, by omega⟩
  have hj := fun (r : Int × Int) (e : Int) => law_EffectDiffers.j0_clean N a b r e hM
  rw [law_EffectDiffers.eq, fact_v hN, Option.bind_some, show (!true) = false from rfl, cond_false, tubE_v hN]
  cases h1 : (tubE a == 0) with
  | false =>
    have hc : effect_Differs.fn N (a, b) = some (0, tubE a) := by rw [effect_Differs.eq, tubE_v hN, Option.bind_some, h1]; rfl
    rw [hc, Option.bind_some, Option.bind_some, h1, cond_false, hj, h1, Bool.not_false, cond_true]
    simp
  | true =>
    have ha0 := beq_iff_eq.1 h1
    have ha := tub_ok ha0
    cases h2 : (tubE b == 0) with
    | false =>
      have hc : effect_Differs.fn N (a, b) = some (0, tubE b) := by rw [effect_Differs.eq, tubE_v hN, Option.bind_some, h1, show (!true) = false from rfl, cond_false, tubE_v hN, Option.bind_some, h2]; rfl
      rw [hc, Option.bind_some, Option.bind_some, h1, cond_true, tubE_v hN, Option.bind_some, hj, h2, Bool.not_false, cond_true]
      simp
    | true =>
      have hb0 := beq_iff_eq.1 h2
      have hb := tub_ok hb0
      have a1 := ha.pos
      have a2 := ha.len
      have b1 := hb.pos
      have b2 := hb.len
      have ta := ha.time (a.length - 1) (by omega)
      have tb := hb.time (b.length - 1) (by omega)
      have ta0 := ha.time 0 a1
      have tb0 := hb.time 0 b1
      have hlast : lastT a b ≤ 200000 ∧ 0 ≤ lastT a b := by unfold lastT; split <;> omega
      have hfirst : 0 ≤ firstT a b ∧ firstT a b ≤ 200000 := by unfold firstT; split <;> omega
      have mono : tm a 0 ≤ tm a (a.length - 1) := by
        have : ∀ i, i < a.length → tm a 0 ≤ tm a i := by
          intro i
          induction i with
          | zero => intro _; exact Int.le_refl _
          | succ i ih => intro h; have h1 := ih (by omega); have h2 := ha.up (i + 1) (by omega) h; rw [Nat.add_sub_cancel] at h2; omega
        exact this _ (by omega)
      have hfl : firstT a b ≤ lastT a b + 1 := by unfold firstT lastT; split <;> split <;> omega
      have c1 : decide (0 < (a.length : Int)) = true := decide_eq_true (by omega)
      have c2 : decide (0 < (b.length : Int)) = true := decide_eq_true (by omega)
      have c3 : (decide (0 ≤ ((a.length - 1 : Nat) : Int)) && decide (((a.length - 1 : Nat) : Int) < (a.length : Int))) = true := by rw [Bool.and_eq_true, decide_eq_true_iff, decide_eq_true_iff]; omega
      have c4 : (decide (0 ≤ ((b.length - 1 : Nat) : Int)) && decide (((b.length - 1 : Nat) : Int) < (b.length : Int))) = true := by rw [Bool.and_eq_true, decide_eq_true_iff, decide_eq_true_iff]; omega
      have hc : effect_Differs.fn N (a, b) = bif decide ((w (lastT a b - firstT a b)) > 20000) then some (0, 2) else effect_Differs.l0 N a b N (firstT a b) := by
        rw [effect_Differs.eq, tubE_v hN, Option.bind_some, h1, show (!true) = false from rfl, cond_false, tubE_v hN, Option.bind_some, h2, show (!true) = false from rfl, cond_false, c1, c2, cond_true, cond_true, last_ok ha, last_ok hb, c3, c4, cond_true, cond_true, Int.toNat_natCast, Int.toNat_natCast]
        rfl
      have hj0 : ∀ r : Int × Int, law_EffectDiffers.j0 N a b r 0 = bif decide ((w (lastT a b - firstT a b)) > 20000) then some ((r.2 == 2) && (r.1 == 0)) else bif decide ((w (lastT a b - firstT a b)) > 800) then some true else law_EffectDiffers.l1 N a b r N (firstT a b) := by
        intro r
        rw [hj, show (!((0 : Int) == 0)) = false from rfl, cond_false, c1, c2, cond_true, cond_true, last_ok ha, last_ok hb, c3, c4, cond_true, cond_true, Int.toNat_natCast, Int.toNat_natCast]
        rfl
      rw [hc]
      cases hl : decide ((w (lastT a b - firstT a b)) > 20000) with
      | true =>
        rw [cond_true, Option.bind_some, Option.bind_some, h1, cond_true, tubE_v hN, Option.bind_some, hb0, hj0, hl]
        rfl
      | false =>
        have hk := difP_l hN ha hb (lastT a b + 1 - firstT a b).toNat N (firstT a b) (by omega) hfirst.1 (by omega)
        rw [cond_false, hk, Option.bind_some, Option.bind_some, h1, cond_true, tubE_v hN, Option.bind_some, hb0, hj0, hl, cond_false]
        cases decide ((w (lastT a b - firstT a b)) > 800) with
        | true => rfl
        | false =>
          rw [cond_false, difL_l hN ha hb ha0 hb0 _ (lastT a b + 1 - firstT a b).toNat N (firstT a b) (by omega) hfirst.1 (by omega), beq_self_eq_true, beq_self_eq_true]
          rfl
end
abbrev tNds : Ty := .sl 34 (.pair (.pair (.int .i64) (.pair (.pair (.int .i64) (.int .i64)) (.int .i64))) (.pair (.int .i64) (.int .i64)))
theorem EffectDiffers.pure (x0 x1 : List Nd) (h0 : Wf Tryd.prog tNds x0) (h1 : Wf Tryd.prog tNds x1) : law_EffectDiffers.fn NN (x0, x1) = some true :=
  EffectDiffers.pureN NN_big x0 x1
end Go.Proofs.YthkpnlfnplhgnaaDoor.Sk
