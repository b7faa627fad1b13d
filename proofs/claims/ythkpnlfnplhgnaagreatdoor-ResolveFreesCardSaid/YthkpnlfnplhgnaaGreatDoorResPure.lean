/- ResolveFrees: plain law. -/
import Derived.Test.YthkpnlfnplhgnaaGreatDoorResEq
import Derived.Test.YthkpnlfnplhgnaaGreatDoorSkFlo
set_option linter.unusedVariables false
set_option linter.unusedSimpArgs false
namespace Go.Proofs.YthkpnlfnplhgnaaGreatDoor.Sk
open Go

abbrev Pt := Int × Int
abbrev Nd := (Int × Pt × Int) × Int × Int
theorem bchk {α : Type} {b : Bool} {f : Option α} (h : b = true) : (bif b then f else none) = f := by rw [h]; rfl
/-! ### points -/
def ptE (p : Pt) : Int := bif (((decide (p.1 < (-1000000))) || (decide (p.1 > 1000000))) || (decide (p.2 < (-1000000)))) || (decide (p.2 > 1000000)) then 4 else 0
theorem ptE_v (N : Nat) (p : Pt) : plane_Check.fn N p = some (ptE p) := by
  rw [plane_Check.clean]; unfold ptE
  generalize ((((decide (p.1 < (-1000000))) || (decide (p.1 > 1000000))) || (decide (p.2 < (-1000000)))) || (decide (p.2 > 1000000))) = b
  cases b <;> rfl
theorem mid_lt {X : Type} {l pre r : List X} {x : X} (h : l = pre ++ x :: r) : pre.length < l.length := by rw [h]; simp
theorem mid_get {X : Type} {l pre r : List X} {x d : X} (h : l = pre ++ x :: r) : l.getD pre.length d = x := by rw [h]; exact getD_mid pre x r d
theorem mid_drop {X : Type} {l pre r : List X} {x : X} (h : l = pre ++ x :: r) : l.drop (pre.length + 1) = r := by rw [h, ← List.drop_drop]; simp
theorem mid_take {X : Type} {l pre r : List X} {x : X} (h : l = pre ++ x :: r) : l.take pre.length = pre := by rw [h]; simp

theorem bif_some {α : Type} (b : Bool) (x y : α) : (bif b then some x else some y) = some (bif b then x else y) := by cases b <;> rfl
/-! ### tubes -/
def tubL (l : List Nd) : Nat → List Nd → Int
  | _, [] => 0
  | i, x :: r => bif ((decide (x.1.1 < 0)) || (decide (x.1.1 > 200000))) || ((decide ((i : Int) > 0)) && (decide (x.1.1 ≤ (List.getD l (i - 1) ((0, ((0, 0), 0)), (0, 0))).1.1))) then 12 else
      bif !(ptE x.1.2.1 == 0) then ptE x.1.2.1 else bif (((((decide (x.1.2.2 < 0)) || (decide (x.1.2.2 > 60000))) || (decide (x.2.1 < 0))) || (decide (x.2.1 > 1000000))) || (decide (x.2.2 < 0))) || (decide (x.2.2 > 60000)) then 4 else tubL l (i + 1) r
def tubE (l : List Nd) : Int := bif decide ((l.length : Int) > 64) then 2 else bif (l.length : Int) == 0 then 3 else tubL l 0 l
theorem tubE_v {N : Nat} (hN : 4611686018427387904 ≤ N) (l : List Nd) : tube_Check.fn N l = some (tubE l) := by
  rw [tube_Check.eq]
  unfold tubE
  cases h1 : decide ((l.length : Int) > 64) with
  | true => rfl
  | false =>
    cases h2 : ((l.length : Int) == 0) with
    | true => rfl
    | false =>
      simp only [decide_eq_false_iff_not] at h1
      rw [cond_false, cond_false, cond_false, cond_false]
      refine list_loop (σ := Unit) (l := l) (fun k _ i => tube_Check.l0 N l k i) (fun pre r _ => some (tubL l pre.length r)) (fun _ _ => True) (fun k _ _ => tube_Check.l0_nil N l k) (fun k pre x r _ hl _ ih => ?_) N () trivial (by omega)
      have q1 := mid_lt hl
      have ih : tube_Check.l0 N l k ((pre.length : Int) + 1) = some (tubL l (pre ++ [x]).length r) := ih () trivial
      rw [List.length_append, List.length_singleton] at ih
      show tube_Check.l0 N l (k + 1) (pre.length : Int) = some (bif ((decide (x.1.1 < 0)) || (decide (x.1.1 > 200000))) || ((decide ((pre.length : Int) > 0)) && (decide (x.1.1 ≤ (List.getD l (pre.length - 1) ((0, ((0, 0), 0)), (0, 0))).1.1))) then 12 else _)
      have c : (((decide (0 ≤ (w ((pre.length : Int) - 1)))) && (decide ((w ((pre.length : Int) - 1)) < (l.length : Int)))) || !((!((decide (((x.1).1) < 0)) || (decide (((x.1).1) > 200000)))) && (decide ((pre.length : Int) > 0)))) = true := by
        by_cases h0 : pre.length = 0
        · rw [h0]; simp
        · rw [w_small _ (by omega) (by omega)]; simp; omega
      have e : (decide ((pre.length : Int) > 0) && decide (x.1.1 ≤ (List.getD l (Int.toNat (w ((pre.length : Int) - 1))) ((0, ((0, 0), 0)), (0, 0))).1.1)) = (decide ((pre.length : Int) > 0) && decide (x.1.1 ≤ (List.getD l (pre.length - 1) ((0, ((0, 0), 0)), (0, 0))).1.1)) := by
        by_cases h0 : pre.length = 0
        · rw [h0]; rfl
        · rw [w_small _ (by omega) (by omega), show ((pre.length : Int) - 1).toNat = pre.length - 1 by omega]
      rw [tube_Check.l0_cons N l k hl (by omega), bchk c, e, ptE_v, Option.bind_some, ih]
      generalize (((decide (x.1.1 < 0)) || (decide (x.1.1 > 200000))) || ((decide ((pre.length : Int) > 0)) && (decide (x.1.1 ≤ (List.getD l (pre.length - 1) ((0, ((0, 0), 0)), (0, 0))).1.1)))) = b1
      generalize (ptE x.1.2.1 == 0) = b2
      generalize ((((((decide (x.1.2.2 < 0)) || (decide (x.1.2.2 > 60000))) || (decide (x.2.1 < 0))) || (decide (x.2.1 > 1000000))) || (decide (x.2.2 < 0))) || (decide (x.2.2 > 60000))) = b3
      cases b1 <;> cases b2 <;> cases b3 <;> rfl
def tm (l : List Nd) (i : Nat) : Int := (List.getD l i ((0, ((0, 0), 0)), (0, 0))).1.1
theorem tubL_zero {l : List Nd} : ∀ (r pre : List Nd), l = pre ++ r → tubL l pre.length r = 0 → ∀ i, pre.length ≤ i → i < l.length → (0 ≤ tm l i ∧ tm l i ≤ 200000) ∧ (0 < i → tm l (i - 1) < tm l i) ∧ 0 ≤ (List.getD l i ((0, ((0, 0), 0)), (0, 0))).1.2.2 ∧ (List.getD l i ((0, ((0, 0), 0)), (0, 0))).1.2.2 ≤ 60000
  | [], pre, hl, _, i, h1, h2 => by rw [List.append_nil] at hl; subst hl; omega
  | x :: r, pre, hl, h, i, h1, h2 => by
    have h : (bif ((decide (x.1.1 < 0)) || (decide (x.1.1 > 200000))) || ((decide ((pre.length : Int) > 0)) && (decide (x.1.1 ≤ tm l (pre.length - 1)))) then 12 else
      bif !(ptE x.1.2.1 == 0) then ptE x.1.2.1 else bif (((((decide (x.1.2.2 < 0)) || (decide (x.1.2.2 > 60000))) || (decide (x.2.1 < 0))) || (decide (x.2.1 > 1000000))) || (decide (x.2.2 < 0))) || (decide (x.2.2 > 60000)) then 4 else tubL l (pre.length + 1) r) = 0 := h
    cases b1 : (((decide (x.1.1 < 0)) || (decide (x.1.1 > 200000))) || ((decide ((pre.length : Int) > 0)) && (decide (x.1.1 ≤ tm l (pre.length - 1))))) with
    | true => rw [b1] at h; cases h
    | false =>
      rw [b1] at h
      cases b2 : (ptE x.1.2.1 == 0) with
      | false => rw [b2] at h; have h : ptE x.1.2.1 = 0 := h; rw [h] at b2; cases b2
      | true =>
        rw [b2] at h
        cases b3 : ((((((decide (x.1.2.2 < 0)) || (decide (x.1.2.2 > 60000))) || (decide (x.2.1 < 0))) || (decide (x.2.1 > 1000000))) || (decide (x.2.2 < 0))) || (decide (x.2.2 > 60000))) with
        | true => rw [b3] at h; cases h
        | false =>
          rw [b3] at h
          have h : tubL l (pre.length + 1) r = 0 := h
          by_cases e : i = pre.length
          · subst e
            have hx : List.getD l pre.length ((0, ((0, 0), 0)), (0, 0)) = x := mid_get hl
            unfold tm at b1 ⊢
            rw [hx]
            simp only [Bool.or_eq_false_iff, Bool.and_eq_false_iff, decide_eq_false_iff_not] at b1 b3
            omega
          · exact tubL_zero r (pre ++ [x]) (by simp [hl]) (by rw [List.length_append, List.length_singleton]; exact h) i (by simp; omega) h2
structure TubOk (l : List Nd) : Prop where
  pos : 0 < l.length
  len : l.length ≤ 64
  time : ∀ i, i < l.length → 0 ≤ tm l i ∧ tm l i ≤ 200000
  up : ∀ i, 0 < i → i < l.length → tm l (i - 1) < tm l i
theorem tub_ok {l : List Nd} (h : tubE l = 0) : TubOk l := by
  unfold tubE at h
  cases h1 : decide ((l.length : Int) > 64) with
  | true => rw [h1] at h; cases h
  | false =>
    cases h2 : ((l.length : Int) == 0) with
    | true => rw [h1, h2] at h; cases h
    | false =>
      rw [h1, h2] at h
      have h : tubL l 0 l = 0 := h
      simp only [decide_eq_false_iff_not, beq_eq_false_iff_ne] at h1 h2
      have key := tubL_zero (l := l) l [] rfl h
      exact ⟨by omega, by omega, fun i hi => (key i (Nat.zero_le _) hi).1, fun i h0 hi => (key i (Nat.zero_le _) hi).2.1 h0⟩
/-! ### the node at a time -/
theorem divd_ex (N : Nat) (a b : Int) : ∃ v, num_DivDown.fn N (a, b) = some v := by
  rw [num_DivDown.clean]
  cases h : (b == 0) with
  | true => exact ⟨_, rfl⟩
  | false =>
    have h2 : (b != 0) = true := by rw [bne, h]; rfl
    rw [h2]
    cases ((a == (-9223372036854775808)) && (b == (-1))) with
    | true => exact ⟨_, rfl⟩
    | false => cases ((!((Int.tmod a b) == 0)) && (!((decide (a < 0)) == (decide (b < 0))))) <;> exact ⟨_, rfl⟩
theorem divu_ex (N : Nat) (a b : Int) (hb : b ≠ 0) : ∃ v, num_DivUp.fn N (a, b) = some v := by
  obtain ⟨v, hv⟩ := divd_ex N a b
  rw [num_DivUp.clean, hv, Option.bind_some, show (b != 0) = true by simpa using hb, Bool.true_or, cond_true]
  cases ((v.2 == 0) && (!((Int.tmod a b) == 0))) <;> exact ⟨_, rfl⟩
theorem betw_ex (N : Nat) (a b c d : Int) : ∃ v, tube_between.fn N (a, b, c, d) = some v := by
  obtain ⟨v, hv⟩ := divd_ex N (w ((w (b - a)) * c)) d
  rw [tube_between.eq, hv]
  exact ⟨_, rfl⟩
theorem abov_ex (N : Nat) (a b c d : Int) (hd : d ≠ 0) : ∃ v, tube_above.fn N (a, b, c, d) = some v := by
  obtain ⟨v, hv⟩ := divu_ex N (w ((w (b - a)) * c)) d hd
  rw [tube_above.eq, hv]
  exact ⟨_, rfl⟩
theorem tow_ex (N : Nat) (a b : Pt) (n d : Int) : ∃ v, plane_Toward.fn N (a, b, n, d) = some v := by
  rw [plane_Toward.clean]
  cases decide (d ≤ 0) with
  | true => exact ⟨_, rfl⟩
  | false =>
    obtain ⟨v1, h1⟩ := divd_ex N (w ((w (b.1 - a.1)) * n)) d
    obtain ⟨v2, h2⟩ := divd_ex N (w ((w (b.2 - a.2)) * n)) d
    rw [cond_false, ptE_v, ptE_v, h1, h2, bif_some, Option.bind_some, bif_some, Option.bind_some]
    simp only [Option.bind_some]
    generalize ((((decide (d > 200000)) || (decide (n < 0))) || (decide (n > d))) || (!((bif !(((decide (d > 200000)) || (decide (n < 0))) || (decide (n > d))) then ptE a else 0) == 0))) = q
    generalize (!((bif !q then ptE b else 0) == 0)) = q2
    cases q <;> cases q2 <;> exact ⟨_, rfl⟩
theorem at_l {N : Nat} {l : List Nd} (hl : TubOk l) {t : Int} (h1 : t ≤ tm l (l.length - 1)) : ∀ (m : Nat) (k : Nat) (i : Nat), i + m = l.length → 0 < m → tm l i ≤ t → m ≤ k → ∃ n, tube_at.l0 N l t k (i : Int) = some (n, 0) ∧ n.1.1 = t := by
  intro m
  induction m with
  | zero => intro k i _ h; omega
  | succ m ih =>
    intro k i hi _ ht hk
    obtain ⟨k, rfl⟩ : ∃ k', k = k' + 1 := ⟨k - 1, by omega⟩
    have hlen := hl.len
    have hw : w ((i : Int) + 1) = ((i + 1 : Nat) : Int) := by rw [w_small _ (by omega) (by omega)]; rfl
    have c : (((decide (0 ≤ (((i + 1 : Nat) : Int)))) && (decide ((((i + 1 : Nat) : Int)) < (l.length : Int)))) || !(decide ((((i + 1 : Nat) : Int)) < (l.length : Int)))) = true := by
      by_cases h : i + 1 < l.length <;> simp <;> omega
    rw [tube_at.l0_clean, hw, bchk c, Int.toNat_natCast, Int.toNat_natCast]
    by_cases hn : i + 1 < l.length ∧ tm l (i + 1) ≤ t
    · have c2 : ((decide ((((i + 1 : Nat) : Int)) < (l.length : Int))) && (decide ((((List.getD l (i + 1) ((0, ((0, 0), 0)), (0, 0))).1).1) ≤ t))) = true := by
        rw [Bool.and_eq_true, decide_eq_true_iff, decide_eq_true_iff]; exact ⟨by omega, hn.2⟩
      rw [c2, cond_true]
      exact ih k (i + 1) (by omega) (by omega) hn.2 (by omega)
    · have c2 : ((decide ((((i + 1 : Nat) : Int)) < (l.length : Int))) && (decide ((((List.getD l (i + 1) ((0, ((0, 0), 0)), (0, 0))).1).1) ≤ t))) = false := by
        rw [Bool.and_eq_false_iff, decide_eq_false_iff_not, decide_eq_false_iff_not]
        by_cases h : i + 1 < l.length
        · exact .inr fun h' => hn ⟨h, h'⟩
        · exact .inl (by omega)
      rw [c2, cond_false, bchk (by simp; omega)]
      cases he : ((((List.getD l i ((0, ((0, 0), 0)), (0, 0))).1).1) == t) with
      | true => exact ⟨_, rfl, beq_iff_eq.1 he⟩
      | false =>
        have hne : tm l i ≠ t := beq_eq_false_iff_ne.1 he
        have hi1 : i + 1 < l.length := by
          rcases Nat.lt_or_ge (i + 1) l.length with h | h
          · exact h
          · have e : l.length - 1 = i := by omega
            rw [e] at h1; omega
        have hup := hl.up (i + 1) (by omega) hi1
        have t1 := hl.time i (by omega)
        have t2 := hl.time (i + 1) hi1
        rw [Nat.add_sub_cancel] at hup
        have hd : w (((List.getD l (i + 1) ((0, ((0, 0), 0)), (0, 0))).1.1) - ((List.getD l i ((0, ((0, 0), 0)), (0, 0))).1.1)) ≠ 0 := by
          have e1 : (List.getD l (i + 1) ((0, ((0, 0), 0)), (0, 0))).1.1 = tm l (i + 1) := rfl
          have e2 : (List.getD l i ((0, ((0, 0), 0)), (0, 0))).1.1 = tm l i := rfl
          rw [e1, e2, w_small _ (by omega) (by omega)]
          omega
        rw [cond_false, bchk (by simp; omega)]
        obtain ⟨v1, e1⟩ := tow_ex N (((List.getD l i ((0, ((0, 0), 0)), (0, 0))).1).2).1 (((List.getD l (i + 1) ((0, ((0, 0), 0)), (0, 0))).1).2).1 (w (t - (((List.getD l i ((0, ((0, 0), 0)), (0, 0))).1).1))) (w ((((List.getD l (i + 1) ((0, ((0, 0), 0)), (0, 0))).1).1) - (((List.getD l i ((0, ((0, 0), 0)), (0, 0))).1).1)))
        obtain ⟨v2, e2⟩ := betw_ex N (((List.getD l i ((0, ((0, 0), 0)), (0, 0))).1).2).2 (((List.getD l (i + 1) ((0, ((0, 0), 0)), (0, 0))).1).2).2 (w (t - (((List.getD l i ((0, ((0, 0), 0)), (0, 0))).1).1))) (w ((((List.getD l (i + 1) ((0, ((0, 0), 0)), (0, 0))).1).1) - (((List.getD l i ((0, ((0, 0), 0)), (0, 0))).1).1)))
        obtain ⟨v3, e3⟩ := abov_ex N ((List.getD l i ((0, ((0, 0), 0)), (0, 0))).2).1 ((List.getD l (i + 1) ((0, ((0, 0), 0)), (0, 0))).2).1 (w (t - (((List.getD l i ((0, ((0, 0), 0)), (0, 0))).1).1))) (w ((((List.getD l (i + 1) ((0, ((0, 0), 0)), (0, 0))).1).1) - (((List.getD l i ((0, ((0, 0), 0)), (0, 0))).1).1))) hd
        obtain ⟨v4, e4⟩ := abov_ex N ((List.getD l i ((0, ((0, 0), 0)), (0, 0))).2).2 ((List.getD l (i + 1) ((0, ((0, 0), 0)), (0, 0))).2).2 (w (t - (((List.getD l i ((0, ((0, 0), 0)), (0, 0))).1).1))) (w ((((List.getD l (i + 1) ((0, ((0, 0), 0)), (0, 0))).1).1) - (((List.getD l i ((0, ((0, 0), 0)), (0, 0))).1).1))) hd
        rw [e1, Option.bind_some, e2, Option.bind_some, e3, Option.bind_some, e4, Option.bind_some]
        exact ⟨_, rfl, rfl⟩
theorem last_ok {l : List Nd} (hl : TubOk l) : w ((l.length : Int) - 1) = ((l.length - 1 : Nat) : Int) := by
  have := hl.pos; have := hl.len
  rw [w_small _ (by omega) (by omega)]; omega
theorem at_ok {N : Nat} (hN : 4611686018427387904 ≤ N) {l : List Nd} (hl : TubOk l) {t : Int} (h0 : tm l 0 ≤ t) (h1 : t ≤ tm l (l.length - 1)) : ∃ n, tube_at.fn N (l, t) = some (n, 0) ∧ n.1.1 = t := by
  have hp := hl.pos
  have hlen := hl.len
  rw [tube_at.clean, bchk (by rw [decide_eq_true_iff]; omega), last_ok hl, Int.toNat_natCast]
  have c : (((decide (0 ≤ ((l.length - 1 : Nat) : Int))) && (decide (((l.length - 1 : Nat) : Int) < (l.length : Int)))) || !(!(decide (t < (((List.getD l 0 ((0, ((0, 0), 0)), (0, 0))).1).1))))) = true := by
    rw [show decide (0 ≤ ((l.length - 1 : Nat) : Int)) = true by rw [decide_eq_true_iff]; omega, show decide (((l.length - 1 : Nat) : Int) < (l.length : Int)) = true by rw [decide_eq_true_iff]; omega]; rfl
  have c2 : ((decide (t < (((List.getD l 0 ((0, ((0, 0), 0)), (0, 0))).1).1))) || (decide (t > (((List.getD l (l.length - 1) ((0, ((0, 0), 0)), (0, 0))).1).1)))) = false := by
    rw [Bool.or_eq_false_iff, decide_eq_false_iff_not, decide_eq_false_iff_not]
    exact ⟨Int.not_lt.2 h0, Int.not_lt.2 h1⟩
  rw [bchk c, c2, cond_false]
  exact at_l hl h1 l.length N 0 (by omega) hp h0 (by omega)
/-- Outside of its times a tube has none. -/
theorem at_out {N : Nat} (hN : 4611686018427387904 ≤ N) {l : List Nd} (hl : TubOk l) {t : Int} (h : t < tm l 0 ∨ tm l (l.length - 1) < t) : tube_at.fn N (l, t) = some (((0, ((0, 0), 0)), (0, 0)), 12) := by
  have hp := hl.pos
  have hlen := hl.len
  rw [tube_at.clean, bchk (by rw [decide_eq_true_iff]; omega), last_ok hl, Int.toNat_natCast]
  have c : (((decide (0 ≤ ((l.length - 1 : Nat) : Int))) && (decide (((l.length - 1 : Nat) : Int) < (l.length : Int)))) || !(!(decide (t < (((List.getD l 0 ((0, ((0, 0), 0)), (0, 0))).1).1))))) = true := by
    rw [show decide (0 ≤ ((l.length - 1 : Nat) : Int)) = true by rw [decide_eq_true_iff]; omega, show decide (((l.length - 1 : Nat) : Int) < (l.length : Int)) = true by rw [decide_eq_true_iff]; omega]; rfl
  have c2 : ((decide (t < (((List.getD l 0 ((0, ((0, 0), 0)), (0, 0))).1).1))) || (decide (t > (((List.getD l (l.length - 1) ((0, ((0, 0), 0)), (0, 0))).1).1)))) = true := by
    rw [Bool.or_eq_true, decide_eq_true_iff, decide_eq_true_iff]
    exact h
  rw [bchk c, c2]
  rfl
noncomputable def nodeAt (N : Nat) (x : List Nd) (t : Int) : Nd := ((tube_at.fn N (x, t)).getD (((0, ((0, 0), 0)), (0, 0)), 0)).1
theorem at_node {N : Nat} (hN : 4611686018427387904 ≤ N) {l : List Nd} (hl : TubOk l) {t : Int} (h0 : tm l 0 ≤ t) (h1 : t ≤ tm l (l.length - 1)) : tube_at.fn N (l, t) = some (nodeAt N l t, 0) ∧ (nodeAt N l t).1.1 = t := by
  obtain ⟨n, hn, ht⟩ := at_ok hN hl h0 h1
  unfold nodeAt
  rw [hn]
  exact ⟨rfl, ht⟩
/-! ### the root -/
theorem wI (n : Int) : w n = (n + 9223372036854775808) % 18446744073709551616 - 9223372036854775808 := by
  simp only [w, IntKind.wrap, IntKind.bits, IntKind.signed]
  simp
  split <;> omega
theorem root_l1 {N : Nat} {n : Int} (hn : n < 9223372036854775808) (h0 : 0 ≤ n) : ∀ (m k : Nat) (a : Int), 1 ≤ a → a + m = 8589934592 → m < k → ∃ s, num_Root.l1 N n k a = some s ∧ 0 ≤ s ∧ s ≤ 8589934592 := by
  intro m
  induction m with
  | zero =>
    intro k a h1 ha hk
    obtain ⟨k, rfl⟩ : ∃ k', k = k' + 1 := ⟨k - 1, by omega⟩
    have e : a = 8589934592 := by omega
    subst e
    have hw : w (8589934592 + 1) = 8589934593 := by rw [w_small _ (by omega) (by omega)]; rfl
    have hd : Int.tdiv n 8589934593 = n / 8589934593 := Int.tdiv_eq_ediv_of_nonneg h0
    rw [num_Root.l1_succ, hw, hd, w_small _ (by omega) (by omega), show ((8589934593 : Int) != 0) = true from rfl, cond_true, decide_eq_false (by omega), cond_false]
    exact ⟨_, rfl, by omega, by omega⟩
  | succ m ih =>
    intro k a h1 ha hk
    obtain ⟨k, rfl⟩ : ∃ k', k = k' + 1 := ⟨k - 1, by omega⟩
    have hw : w (a + 1) = a + 1 := w_small _ (by omega) (by omega)
    have hne : ((a + 1) != 0) = true := by simp; omega
    rw [num_Root.l1_succ, hw, hne, cond_true]
    cases decide (a + 1 ≤ w (Int.tdiv n (a + 1))) with
    | false => exact ⟨_, rfl, by omega, by omega⟩
    | true => exact ih k (a + 1) (by omega) (by omega) (by omega)
theorem root_l0 {N : Nat} (hN : 4611686018427387904 ≤ N) {n : Int} (hn : n < 9223372036854775808) (h1 : 1 ≤ n) : ∀ (m k : Nat) (a : Int), a = (m : Int) + 1 → a ≤ 8589934592 → m < k → ∃ s, num_Root.l0 N n k a = some s ∧ 0 ≤ s ∧ s ≤ 8589934592 := by
  intro m
  induction m with
  | zero =>
    intro k a ha hb hk
    obtain ⟨k, rfl⟩ : ∃ k', k = k' + 1 := ⟨k - 1, by omega⟩
    have e : a = 1 := by omega
    subst e
    rw [num_Root.l0_succ, show ((1 : Int) != 0) = true from rfl, cond_true, Int.tdiv_one, w_small _ (by omega) (by omega), decide_eq_false (by omega), cond_false]
    exact root_l1 hn (by omega) 8589934591 N 1 (by omega) (by omega) (by omega)
  | succ m ih =>
    intro k a ha hb hk
    obtain ⟨k, rfl⟩ : ∃ k', k = k' + 1 := ⟨k - 1, by omega⟩
    have hw : w (a - 1) = a - 1 := w_small _ (by omega) (by omega)
    have hne : (a != 0) = true := by simp; omega
    rw [num_Root.l0_succ, hne, cond_true]
    cases decide (a > w (Int.tdiv n a)) with
    | true =>
      rw [cond_true, hw]
      exact ih k (a - 1) (by omega) (by omega) (by omega)
    | false =>
      exact root_l1 hn (by omega) (8589934592 - a).toNat N a (by omega) (by omega) (by omega)
noncomputable def rt (N : Nat) (n : Int) : Int := (num_Root.fn N n).getD 0
theorem root_v {N : Nat} (hN : 4611686018427387904 ≤ N) {n : Int} (hn : n < 9223372036854775808) : num_Root.fn N n = some (rt N n) := by
  have key : ∃ s, num_Root.fn N n = some s := by
    rw [num_Root.eq]
    by_cases h : n ≤ 0
    · rw [decide_eq_true h]; exact ⟨_, rfl⟩
    · rw [decide_eq_false h, cond_false]
      obtain ⟨b, r, e1, e2, r1, r2⟩ := Flo.sqrt_ok n (by omega) hn
      have e1' : fsq (floatOfInt .f64 n) = some b := e1
      have e3 : floatToIntVal .f64 b .i64 = some r := by
        unfold floatToIntVal
        rw [e2]
        have hb : IntKind.i64.min ≤ r ∧ r ≤ IntKind.i64.max := by
          have : IntKind.i64.min = -9223372036854775808 := by decide
          have : IntKind.i64.max = 9223372036854775807 := by decide
          omega
        dsimp only
        rw [if_pos hb]
      rw [e1']
      dsimp only [Option.isSome_some, Option.getD_some]
      rw [cond_true, e3]
      dsimp only [Option.isSome_some, Option.getD_some]
      rw [cond_true]
      obtain ⟨s, hs, _⟩ := root_l0 hN hn (by omega) (r - 1).toNat N r (by omega) (by omega) (by omega)
      exact ⟨s, hs⟩
  obtain ⟨s, hs⟩ := key
  unfold rt
  rw [hs]
  rfl
/-! ### separation -/
def sqP (a b : Pt) : Int := w ((w ((w (a.1 - b.1)) * (w (a.1 - b.1)))) + (w ((w (a.2 - b.2)) * (w (a.2 - b.2)))))
theorem w_sq (a b : Int) : (w (a - b)) * (w (a - b)) = (w (b - a)) * (w (b - a)) := by
  have h : w (b - a) = - w (a - b) ∨ w (b - a) = w (a - b) := by rw [wI, wI]; omega
  rcases h with h | h
  · rw [h, Int.neg_mul_neg]
  · rw [h]
theorem sqP_comm (a b : Pt) : sqP a b = sqP b a := by
  unfold sqP
  rw [w_sq a.1 b.1, w_sq a.2 b.2]
theorem sqP_lt (a b : Pt) : sqP a b < 9223372036854775808 := by unfold sqP; rw [wI]; omega
theorem dist_v {N : Nat} (hN : 4611686018427387904 ≤ N) (a b : Pt) : ∃ u, plane_Distance.fn N (a, b) = some (rt N (sqP a b), u) := by
  have hs : plane_Square.fn N (a, b) = some (sqP a b) := by
    rw [plane_Square.eq, plane_Sub.eq, Option.bind_some, plane_Dot.eq, Option.bind_some]
    rfl
  rw [plane_Distance.eq, hs, Option.bind_some, root_v hN (sqP_lt a b), Option.bind_some]
  cases decide ((w (rt N (sqP a b) * rt N (sqP a b))) < sqP a b) <;> exact ⟨_, rfl⟩
def vertB (x y : Nd) : Int := w ((w ((if (w (y.1.2.2 - x.1.2.2)) > (w (x.1.2.2 - y.1.2.2)) then (w (y.1.2.2 - x.1.2.2)) else (w (x.1.2.2 - y.1.2.2))) - x.2.2)) - y.2.2)
noncomputable def latB (N : Nat) (x y : Nd) : Int := w ((w (rt N (sqP x.1.2.1 y.1.2.1) - x.2.1)) - y.2.1)
noncomputable def sepB (N : Nat) (s : Int × Int) (x y : Nd) : Bool := decide (vertB x y ≥ s.2) || decide (latB N x y ≥ s.1)
theorem w_sub2 (m a b : Int) : w (w (m - a) - b) = w (w (m - b) - a) := by rw [wI, wI, wI, wI]; omega
theorem sepB_comm (N : Nat) (s : Int × Int) (x y : Nd) : sepB N s x y = sepB N s y x := by
  have h1 : vertB x y = vertB y x := by
    unfold vertB
    rw [w_sub2]
    congr 3
    split <;> split <;> omega
  have h2 : latB N x y = latB N y x := by
    unfold latB
    rw [sqP_comm, w_sub2]
  unfold sepB
  rw [h1, h2]
theorem sep_v {N : Nat} (hN : 4611686018427387904 ≤ N) (s : Int × Int) (x y : Nd) : probe_separated.fn N (x, y, s) = some (sepB N s x y) := by
  obtain ⟨u, hu⟩ := dist_v hN x.1.2.1 y.1.2.1
  have hsur : probe_surplus.fn N (x, y) = some (latB N x y) := by rw [probe_surplus.eq, hu, Option.bind_some]; rfl
  rw [probe_separated.clean]
  show (bif (!(decide (vertB x y ≥ s.2))) then probe_surplus.fn N (x, y) else some (0)).bind (fun r1 => some ((decide (vertB x y ≥ s.2)) || (decide (r1 ≥ s.1)))) = _
  unfold sepB
  cases decide (vertB x y ≥ s.2) with
  | true => rfl
  | false => rw [Bool.not_false, cond_true, hsur]; rfl
/-! ### the intervals of a pair -/
def pst (acc : List (Int × Int)) (t : Int) : List (Int × Int) :=
  bif (decide ((acc.length : Int) > 0)) && ((List.getD acc (acc.length - 1) (0, 0)).2 == t) then List.set acc (acc.length - 1) ((List.getD acc (acc.length - 1) (0, 0)).1, w ((List.getD acc (acc.length - 1) (0, 0)).2 + 1)) else acc ++ [(t, t + 1)]
def pairS (f : Int → Bool) : Nat → Int → List (Int × Int) → List (Int × Int)
  | 0, _, acc => acc
  | c + 1, t, acc => pairS f c (t + 1) (bif f t then acc else pst acc t)
def anyF (f : Int → Bool) : Nat → Int → Bool
  | 0, _ => false
  | c + 1, t => !f t || anyF f c (t + 1)
theorem pst_len (acc : List (Int × Int)) (t : Int) : 0 < (pst acc t).length ∧ (pst acc t).length ≤ acc.length + 1 := by
  unfold pst
  by_cases h : acc.length = 0
  · rw [h]
    show 0 < (bif false && _ then _ else acc ++ [(t, t + 1)]).length ∧ (bif false && _ then _ else acc ++ [(t, t + 1)]).length ≤ 0 + 1
    rw [Bool.false_and, cond_false, List.length_append, h]
    exact ⟨by simp, by simp⟩
  · cases ((decide ((acc.length : Int) > 0)) && ((List.getD acc (acc.length - 1) (0, 0)).2 == t)) with
    | true => rw [cond_true, List.length_set]; omega
    | false => rw [cond_false, List.length_append]; simp
theorem pairS_len (f : Int → Bool) : ∀ (c : Nat) (t : Int) (acc : List (Int × Int)), decide ((pairS f c t acc).length > 0) = (decide (acc.length > 0) || anyF f c t)
  | 0, t, acc => by rw [show anyF f 0 t = false from rfl, Bool.or_false]; rfl
  | c + 1, t, acc => by
    rw [show pairS f (c + 1) t acc = pairS f c (t + 1) (bif f t then acc else pst acc t) from rfl, show anyF f (c + 1) t = (!f t || anyF f c (t + 1)) from rfl, pairS_len f c]
    cases f t with
    | true => rfl
    | false =>
      rw [cond_false, decide_eq_true (pst_len acc t).1]
      simp
theorem anyF_congr {f g : Int → Bool} (h : ∀ u, f u = g u) : ∀ (c : Nat) (t : Int), anyF f c t = anyF g c t
  | 0, _ => rfl
  | c + 1, t => by
    rw [show anyF f (c + 1) t = (!f t || anyF f c (t + 1)) from rfl, show anyF g (c + 1) t = (!g t || anyF g c (t + 1)) from rfl, h, anyF_congr h c]
def firC (a b : List Nd) : Int := if tm b 0 > tm a 0 then tm b 0 else tm a 0
def lasC (a b : List Nd) : Int := if tm b (b.length - 1) < tm a (a.length - 1) then tm b (b.length - 1) else tm a (a.length - 1)
theorem firC_comm (a b : List Nd) : firC a b = firC b a := by unfold firC; split <;> split <;> omega
theorem lasC_comm (a b : List Nd) : lasC a b = lasC b a := by unfold lasC; split <;> split <;> omega
noncomputable def sepT (N : Nat) (s : Int × Int) (a b : List Nd) (t : Int) : Bool := sepB N s (nodeAt N a t) (nodeAt N b t)
noncomputable def clashB (N : Nat) (s : Int × Int) (a b : List Nd) : Bool := anyF (sepT N s a b) (lasC a b + 1 - firC a b).toNat (firC a b)
theorem clashB_comm (N : Nat) (s : Int × Int) (a b : List Nd) : clashB N s a b = clashB N s b a := by
  unfold clashB
  rw [firC_comm a b, lasC_comm a b]
  exact anyF_congr (fun u => sepB_comm N s _ _) _ _
theorem pair_l {N : Nat} (hN : 4611686018427387904 ≤ N) {a b : List Nd} (ha : TubOk a) (hb : TubOk b) (s r1 : Int × Int) (hr : r1.2 = lasC a b) : ∀ (c k : Nat) (t : Int) (acc : List (Int × Int)), (lasC a b + 1 - t).toNat = c → firC a b ≤ t → c < k → acc.length + c ≤ 1000000 →
    probe_pair.l0 N a b s r1 k t acc = some (pairS (sepT N s a b) c t acc) := by
  have a1 := ha.pos
  have a2 := ha.len
  have b1 := hb.pos
  have b2 := hb.len
  have ta := ha.time (a.length - 1) (by omega)
  have tb := hb.time (b.length - 1) (by omega)
  have ta0 := ha.time 0 a1
  have tb0 := hb.time 0 b1
  have hl1 : lasC a b ≤ tm a (a.length - 1) ∧ lasC a b ≤ tm b (b.length - 1) := by unfold lasC; split <;> omega
  have hf1 : tm a 0 ≤ firC a b ∧ tm b 0 ≤ firC a b := by unfold firC; split <;> omega
  intro c
  induction c with
  | zero =>
    intro k t acc hc ht hk hacc
    obtain ⟨k, rfl⟩ : ∃ k', k = k' + 1 := ⟨k - 1, by omega⟩
    rw [probe_pair.l0_clean, hr, decide_eq_false (by omega)]
    rfl
  | succ c ih =>
    intro k t acc hc ht hk hacc
    obtain ⟨k, rfl⟩ : ∃ k', k = k' + 1 := ⟨k - 1, by omega⟩
    have hw : w (t + 1) = t + 1 := w_small _ (by omega) (by omega)
    obtain ⟨e1, _⟩ := at_node hN ha (t := t) (by omega) (by omega)
    obtain ⟨e2, _⟩ := at_node hN hb (t := t) (by omega) (by omega)
    rw [probe_pair.l0_clean, hr, decide_eq_true (by omega), cond_true, tube_Point.eq, e1, Option.bind_some, Option.bind_some, tube_Point.eq, e2, Option.bind_some, Option.bind_some, sep_v hN, Option.bind_some, hw]
    rw [show pairS (sepT N s a b) (c + 1) t acc = pairS (sepT N s a b) c (t + 1) (bif sepT N s a b t then acc else pst acc t) from rfl]
    have hsep : sepB N s (nodeAt N a t) (nodeAt N b t) = sepT N s a b t := rfl
    dsimp only
    rw [hsep]
    have hp := pst_len acc t
    cases sepT N s a b t with
    | true =>
      rw [cond_true, cond_true]
      exact ih k (t + 1) acc (by omega) (by omega) (by omega) (by omega)
    | false =>
      rw [cond_false, cond_false]
      rw [← ih k (t + 1) (pst acc t) (by omega) (by omega) (by omega) (by omega)]
      have hcap : (decide ((acc.length + 1) * 16 ≤ 140737488355328) && decide ((acc.length + 1) ≤ maxLen)) = true := by rw [Bool.and_eq_true, decide_eq_true_iff, decide_eq_true_iff]; unfold maxLen; omega
      unfold pst
      by_cases h : acc.length = 0
      · have c0 : decide ((acc.length : Int) > 0) = false := decide_eq_false (by omega)
        rw [c0, hcap]
        simp -implicitDefEqProofs only [Bool.not_false, Bool.or_true, Bool.false_and, cond_true, cond_false]
      · have c0 : decide ((acc.length : Int) > 0) = true := decide_eq_true (by omega)
        have hw2 : w ((acc.length : Int) - 1) = ((acc.length - 1 : Nat) : Int) := by rw [w_small _ (by omega) (by omega)]; omega
        have d1 : decide (0 ≤ ((acc.length - 1 : Nat) : Int)) = true := decide_eq_true (by omega)
        have d2 : decide (((acc.length - 1 : Nat) : Int) < (acc.length : Int)) = true := decide_eq_true (by omega)
        have d3 : decide (acc.length - 1 < acc.length) = true := decide_eq_true (by omega)
        rw [hw2, Int.toNat_natCast, c0, d1, d2, d3, hcap]
        simp -implicitDefEqProofs only [Bool.true_and, Bool.true_or, cond_true]
        cases ((List.getD acc (acc.length - 1) (0, 0)).2 == t) <;> rfl
def sepE (s : Int × Int) : Int := bif (((decide (s.1 < 0)) || (decide (s.1 > 1000000))) || (decide (s.2 < 0))) || (decide (s.2 > 60000)) then 4 else 0
theorem sepE_v (N : Nat) (s : Int × Int) : probe_CheckSep.fn N s = some (sepE s) := by
  rw [probe_CheckSep.clean]; unfold sepE
  cases ((((decide (s.1 < 0)) || (decide (s.1 > 1000000))) || (decide (s.2 < 0))) || (decide (s.2 > 60000))) <;> rfl
theorem Pair_v {N : Nat} (hN : 4611686018427387904 ≤ N) {a b : List Nd} (ha0 : tubE a = 0) (hb0 : tubE b = 0) {s : Int × Int} (hs : sepE s = 0) : ∃ L, probe_Pair.fn N (a, b, s) = some (L, 0) ∧ decide (L.length > 0) = clashB N s a b := by
  have ha := tub_ok ha0
  have hb := tub_ok hb0
  have a1 := ha.pos
  have a2 := ha.len
  have b1 := hb.pos
  have b2 := hb.len
  have ta := ha.time (a.length - 1) (by omega)
  have tb := hb.time (b.length - 1) (by omega)
  have ta0 := ha.time 0 a1
  have tb0 := hb.time 0 b1
  have hchk : probe_check.fn N (s, [a, b]) = some 0 := by
    obtain ⟨M, rfl⟩ : ∃ M, N = M + 3 := ⟨N - 3, by omega⟩
    have q1 := probe_check.l0_cons (M + 3) [a, b] (M + 2) (pre := []) (x := a) (r := [b]) rfl (by simp)
    have q2 := probe_check.l0_cons (M + 3) [a, b] (M + 1) (pre := [a]) (x := b) (r := []) rfl (by simp)
    have q3 := probe_check.l0_nil (M + 3) [a, b] M
    rw [tubE_v hN, ha0, Option.bind_some, show (!((0 : Int) == 0)) = false from rfl, cond_false] at q1
    rw [tubE_v hN, hb0, Option.bind_some, show (!((0 : Int) == 0)) = false from rfl, cond_false] at q2
    rw [probe_check.eq, sepE_v, hs, Option.bind_some, show (!((0 : Int) == 0)) = false from rfl, cond_false]
    exact q1.trans (q2.trans q3)
  have c1 : decide (0 < (a.length : Int)) = true := decide_eq_true (by omega)
  have c2 : decide (0 < (b.length : Int)) = true := decide_eq_true (by omega)
  have c3 : (decide (0 ≤ ((a.length - 1 : Nat) : Int)) && decide (((a.length - 1 : Nat) : Int) < (a.length : Int))) = true := by rw [Bool.and_eq_true, decide_eq_true_iff, decide_eq_true_iff]; omega
  have c4 : (decide (0 ≤ ((b.length - 1 : Nat) : Int)) && decide (((b.length - 1 : Nat) : Int) < (b.length : Int))) = true := by rw [Bool.and_eq_true, decide_eq_true_iff, decide_eq_true_iff]; omega
  have hcom : probe_common.fn N (a, b) = some (firC a b, lasC a b) := by
    rw [probe_common.eq, c1, c2, cond_true, cond_true, last_ok ha, last_ok hb, c3, c4, cond_true, cond_true, Int.toNat_natCast, Int.toNat_natCast]
    rfl
  have hlas : lasC a b ≤ 200000 := by unfold lasC; split <;> omega
  have hfir : 0 ≤ firC a b := by unfold firC; split <;> omega
  refine ⟨pairS (sepT N s a b) (lasC a b + 1 - firC a b).toNat (firC a b) [], ?_, ?_⟩
  · rw [probe_Pair.eq, hchk, Option.bind_some, show (!((0 : Int) == 0)) = false from rfl, cond_false, probe_pair.eq, hcom, Option.bind_some]
    dsimp only
    rw [pair_l hN ha hb s (firC a b, lasC a b) rfl _ N (firC a b) [] rfl (Int.le_refl _) (by omega) (by simp; omega)]
    rfl
  · rw [pairS_len]; rfl
/-! ### the other tubes -/
def firstE {X : Type} (f : X → Int) : List X → Int
  | [] => 0
  | x :: r => bif !(f x == 0) then f x else firstE f r
theorem firstE_cons {X : Type} (f : X → Int) (x : X) (r : List X) : firstE f (x :: r) = bif !(f x == 0) then f x else firstE f r := rfl
theorem first_loop {X : Type} {l : List X} {f : X → Int} (L : Nat → Int → Option Int) (R : Option Int) (hnil : ∀ k, L (k + 1) (l.length : Int) = R)
    (hcons : ∀ k pre x r, l = pre ++ x :: r → L (k + 1) (pre.length : Int) = bif !(f x == 0) then some (f x) else L k ((pre.length : Int) + 1)) : ∀ k, l.length < k → L k 0 = bif !(firstE f l == 0) then some (firstE f l) else R :=
  list_loop0 L (fun r => bif !(firstE f r == 0) then some (firstE f r) else R) (fun k => hnil k) fun k pre x r hl ih => by
    rw [hcons k pre x r hl, ih, firstE_cons]
    cases h : (f x == 0)
    · simp only [Bool.not_false, cond_true, h]
    · simp only [Bool.not_true, cond_false]
theorem firstE_zero {X : Type} {f : X → Int} : ∀ {l : List X}, firstE f l = 0 → ∀ x, x ∈ l → f x = 0
  | [], _, x, h => by cases h
  | y :: l, h, x, hx => by
    rw [firstE_cons] at h
    cases hy : (f y == 0) with
    | false => rw [hy] at h; have h : f y = 0 := h; rw [h] at hy; cases hy
    | true =>
      rw [hy] at h
      rcases List.mem_cons.1 hx with rfl | hx
      · exact beq_iff_eq.1 hy
      · exact firstE_zero (l := l) h x hx
def resE (l : List (List Nd)) (i : Int) (s : Int × Int) : Int := bif !(sepE s == 0) then sepE s else bif decide ((l.length : Int) > 24) then 2 else bif !(firstE tubE l == 0) then firstE tubE l else bif (decide (i < 0)) || (decide (i ≥ (l.length : Int))) then 4 else 0
section
variable {N : Nat} (hN : 4611686018427387904 ≤ N)
include hN
theorem rchk_v (l : List (List Nd)) (i : Int) (s : Int × Int) : resolve_check.fn N (l, i, s) = some (resE l i s) := by
  rw [resolve_check.eq, sepE_v, Option.bind_some]
  unfold resE
  cases hs : (sepE s == 0) with
  | false => rfl
  | true =>
    cases h : decide ((l.length : Int) > 24) with
    | true => rfl
    | false =>
      simp only [decide_eq_false_iff_not] at h
      rw [show (!true) = false from rfl, cond_false, cond_false, cond_false, cond_false]
      rw [first_loop (l := l) (f := tubE) (fun k j => resolve_check.l0 N l i k j) (bif (decide (i < 0)) || (decide (i ≥ (l.length : Int))) then some 4 else some 0) (fun k => resolve_check.l0_nil N l i k) (fun k pre x r hl => by rw [resolve_check.l0_cons N l i k hl (by omega), tubE_v hN, Option.bind_some]) N (by omega)]
      cases (firstE tubE l == 0) with
      | false => rfl
      | true => cases ((decide (i < 0)) || (decide (i ≥ (l.length : Int)))) <;> rfl
theorem lchk_v (l : List (List Nd)) (i : Int) (s : Int × Int) : law_tubesError.fn N (l, i, s) = some (resE l i s) := by
  rw [law_tubesError.eq, sepE_v, Option.bind_some]
  unfold resE
  cases hs : (sepE s == 0) with
  | false => rfl
  | true =>
    cases h : decide ((l.length : Int) > 24) with
    | true => rfl
    | false =>
      simp only [decide_eq_false_iff_not] at h
      rw [show (!true) = false from rfl, cond_false, cond_false, cond_false, cond_false]
      rw [first_loop (l := l) (f := tubE) (fun k j => law_tubesError.l0 N l i k j) (bif (decide (i < 0)) || (decide (i ≥ (l.length : Int))) then some 4 else some 0) (fun k => law_tubesError.l0_nil N l i k) (fun k pre x r hl => by rw [law_tubesError.l0_cons N l i k hl (by omega), tubE_v hN, Option.bind_some]) N (by omega)]
      cases (firstE tubE l == 0) with
      | false => rfl
      | true => cases ((decide (i < 0)) || (decide (i ≥ (l.length : Int)))) <;> rfl
end
structure ResOk (l : List (List Nd)) (i : Int) (s : Int × Int) : Prop where
  sep : sepE s = 0
  len : l.length ≤ 24
  tub : ∀ x, x ∈ l → tubE x = 0
  lo : 0 ≤ i
  hi : i < (l.length : Int)
theorem res_ok {l : List (List Nd)} {i : Int} {s : Int × Int} (h : resE l i s = 0) : ResOk l i s := by
  unfold resE at h
  cases h1 : (sepE s == 0) with
  | false => rw [h1] at h; have h : sepE s = 0 := h; rw [h] at h1; cases h1
  | true =>
    rw [h1] at h
    cases h2 : decide ((l.length : Int) > 24) with
    | true => rw [h2] at h; cases h
    | false =>
      rw [h2] at h
      cases h3 : (firstE tubE l == 0) with
      | false => rw [h3] at h; have h : firstE tubE l = 0 := h; rw [h] at h3; cases h3
      | true =>
        rw [h3] at h
        cases h4 : ((decide (i < 0)) || (decide (i ≥ (l.length : Int)))) with
        | true => rw [h4] at h; cases h
        | false =>
          rw [Bool.or_eq_false_iff, decide_eq_false_iff_not, decide_eq_false_iff_not] at h4
          simp only [decide_eq_false_iff_not] at h2
          exact ⟨beq_iff_eq.1 h1, by omega, firstE_zero (beq_iff_eq.1 h3), by omega, by omega⟩
def anyNe {X : Type} (i : Int) (p : X → Bool) : Nat → List X → Bool
  | _, [] => false
  | n, x :: r => ((!((n : Int) == i)) && p x) || anyNe i p (n + 1) r
section
variable {N : Nat} (hN : 4611686018427387904 ≤ N)
include hN
theorem free_v {l : List (List Nd)} {i : Int} {s : Int × Int} (hs : sepE s = 0) (hlen : l.length ≤ 24) (ht : ∀ x, x ∈ l → tubE x = 0) {y : List Nd} (hy : tubE y = 0) : resolve_free.fn N (l, i, y, s) = some (!anyNe i (fun x => clashB N s x y) 0 l) := by
  rw [resolve_free.eq]
  refine list_loop (σ := Unit) (l := l) (fun k _ j => resolve_free.l0 N l i y s k j) (fun pre r _ => some (!anyNe i (fun x => clashB N s x y) pre.length r)) (fun _ _ => True) (fun k _ _ => resolve_free.l0_nil N l i y s k) (fun k pre x r _ hl _ ih => ?_) N () trivial (by omega)
  have hx := ht x (by rw [hl]; simp)
  have ih : resolve_free.l0 N l i y s k ((pre.length : Int) + 1) = some (!anyNe i (fun x => clashB N s x y) (pre ++ [x]).length r) := ih () trivial
  rw [List.length_append, List.length_singleton] at ih
  obtain ⟨L, e1, e2⟩ := Pair_v hN hx hy hs
  show resolve_free.l0 N l i y s (k + 1) (pre.length : Int) = some (!(((!((pre.length : Int) == i)) && clashB N s x y) || anyNe i (fun x => clashB N s x y) (pre.length + 1) r))
  have e3 : decide ((L.length : Int) > 0) = clashB N s x y := by rw [← e2, decide_eq_decide]; omega
  rw [resolve_free.l0_cons N l i y s k hl (by omega), e1, Option.bind_some, ih]
  dsimp only
  rw [show (!((0 : Int) == 0)) = false from rfl, Bool.false_or, e3]
  cases ((pre.length : Int) == i) with
  | true => rfl
  | false => cases clashB N s x y <;> rfl
theorem Free_v {l : List (List Nd)} {i : Int} {s : Int × Int} (h : resE l i s = 0) : resolve_Free.fn N (l, i, s) = some (!anyNe i (fun x => clashB N s x (List.getD l (Int.toNat i) [])) 0 l, 0) := by
  have hR := res_ok h
  have hlo := hR.lo
  have hhi := hR.hi
  have hy : List.getD l (Int.toNat i) [] ∈ l := by
    rw [List.getD_eq_getElem?_getD, List.getElem?_eq_getElem (by omega)]
    exact List.getElem_mem _
  rw [resolve_Free.eq, rchk_v hN, h, Option.bind_some, show (!((0 : Int) == 0)) = false from rfl, cond_false, bchk (by rw [Bool.and_eq_true, decide_eq_true_iff, decide_eq_true_iff]; omega), free_v hN hR.sep hR.len hR.tub (hR.tub _ hy), Option.bind_some]
theorem clash_v {a b : List Nd} (ha : tubE a = 0) (hb : tubE b = 0) {s : Int × Int} (hs : sepE s = 0) : law_clash.fn N (a, b, s) = some (clashB N s a b) := by
  obtain ⟨L, e1, e2⟩ := Pair_v hN ha hb hs
  rw [law_clash.eq, probe_First.eq, e1, Option.bind_some]
  dsimp only
  rw [show (!((0 : Int) == 0)) = false from rfl, cond_false, ← e2]
  by_cases h : L.length = 0
  · rw [h]; rfl
  · have c1 : ((L.length : Int) == 0) = false := by rw [beq_eq_false_iff_ne]; omega
    have c2 : decide (0 < (L.length : Int)) = true := decide_eq_true (by omega)
    have c3 : decide (0 < L.length) = true := decide_eq_true (by omega)
    rw [c1, cond_false, c2, cond_true, c3, cond_true]
    rfl
theorem ResolveFrees.pureN (hf : law_resolveFact.fn N () = some true) (l : List (List Nd)) (i : Int) (s : Int × Int) : law_ResolveFrees.fn N (l, i, s) = some true := by
  rw [law_ResolveFrees.clean, hf, Option.bind_some, show (!true) = false from rfl, cond_false]
  cases h6 : decide ((l.length : Int) > 6) with
  | true => rfl
  | false =>
    simp only [decide_eq_false_iff_not] at h6
    rw [cond_false, lchk_v hN]
    cases h : (resE l i s == 0) with
    | false =>
      have hc : resolve_Free.fn N (l, i, s) = some (false, resE l i s) := by rw [resolve_Free.eq, rchk_v hN, Option.bind_some, h]; rfl
      rw [hc, Option.bind_some, Option.bind_some, h]
      simp
    | true =>
      have h0 := beq_iff_eq.1 h
      have hR := res_ok h0
      have hlo := hR.lo
      have hhi := hR.hi
      have hy : tubE (List.getD l (Int.toNat i) []) = 0 := hR.tub _ (by
        rw [List.getD_eq_getElem?_getD, List.getElem?_eq_getElem (by omega)]
        exact List.getElem_mem _)
      have hg : (decide (0 ≤ i) && decide (i < (l.length : Int))) = true := by rw [Bool.and_eq_true, decide_eq_true_iff, decide_eq_true_iff]; omega
      have key := list_loop (l := l) (fun k (m : Bool) j => law_ResolveFrees.l0 N l i s (!anyNe i (fun x => clashB N s x (List.getD l (Int.toNat i) [])) 0 l, 0) k m j)
        (fun pre r m => some (((0 : Int) == 0) && ((!anyNe i (fun x => clashB N s x (List.getD l (Int.toNat i) [])) 0 l) == (!(m || anyNe i (fun x => clashB N s x (List.getD l (Int.toNat i) [])) pre.length r)))))
        (fun _ _ => True) (fun k m _ => by
          show law_ResolveFrees.l0 N l i s _ (k + 1) m (l.length : Int) = _
          rw [law_ResolveFrees.l0_nil, show anyNe i (fun x => clashB N s x (List.getD l (Int.toNat i) [])) l.length [] = false from rfl, Bool.or_false]) (fun k pre x r m hl _ ih => by
          have hx := hR.tub x (by rw [hl]; simp)
          show law_ResolveFrees.l0 N l i s _ (k + 1) m (pre.length : Int) = some (((0 : Int) == 0) && ((!anyNe i (fun x => clashB N s x (List.getD l (Int.toNat i) [])) 0 l) == (!(m || (((!((pre.length : Int) == i)) && clashB N s x (List.getD l (Int.toNat i) [])) || anyNe i (fun x => clashB N s x (List.getD l (Int.toNat i) [])) (pre.length + 1) r)))))
          rw [law_ResolveFrees.l0_cons N l i s _ k m hl (by omega), hg, Bool.true_or, cond_true, clash_v hN hy hx hR.sep, clashB_comm N s (List.getD l (Int.toNat i) []) x]
          have ih := fun m' => ih m' trivial
          rw [List.length_append, List.length_singleton] at ih
          cases m with
          | true =>
            rw [Bool.not_true, Bool.false_and, cond_false, Option.bind_some]
            exact ih true
          | false =>
            cases hk : ((pre.length : Int) == i) with
            | true => exact ih false
            | false =>
              show law_ResolveFrees.l0 N l i s _ k (false || (!false && clashB N s x (List.getD l (Int.toNat i) []))) ((pre.length : Int) + 1) = _
              refine (ih _).trans ?_
              cases clashB N s x (List.getD l (Int.toNat i) []) <;> rfl) N false trivial (by omega)
      rw [Free_v hN h0, Option.bind_some, Option.bind_some, h, Bool.not_true, cond_false]
      refine Eq.trans key ?_
      rw [Bool.false_or]
      simp
end
/-! ### the fact -/
def levT : List Nd := [((0, ((0, 0), 9000)), (100, 50)), ((100, ((10000, 0), 9000)), (100, 50))]
def jetT : ByteArray × Int × Int × Int × Int × Int × Int := (⟨#[74, 69, 84]⟩, (1, (40000, (50, (40, (50, 300))))))
def jetU : ByteArray × Int × Int × Int × Int × Int × Int := (⟨#[74, 69, 84]⟩, (1, (40000, (200, (40, (50, 300))))))
def clr (n : Int) : ByteArray × Int × Int × ByteArray := (⟨#[65, 49]⟩, (0, (n, ⟨#[]⟩)))
def stl (x : Int) : List Nd := [((0, ((x, 0), 0)), (0, 0)), ((10, ((x, 0), 0)), (0, 0))]
theorem lev_v (N : Nat) : law_level.fn N () = some levT := by kernel_rfl
theorem jet_v (N : Nat) : law_jet.fn N () = some jetT := by kernel_rfl
theorem clb_v (N : Nat) (n : Int) : law_climbed.fn N n = some (clr n) := by kernel_rfl
theorem near_v (N : Nat) : law_near.fn N () = some (100, 1000) := law_near.eq N
theorem stl_v (N : Nat) (x : Int) : law_still.fn N x = some (stl x) := law_still.eq N x
theorem cand_f (M : Nat) : resolve_Candidates.fn (M + 16) ((⟨#[65, 49]⟩ : ByteArray), stl 0, 0, jetU) = some ([clr 1000, clr 2000, clr 3000], 0) := by kernel_rfl
theorem nlev_f (M : Nat) : nodeAt (M + 16) levT 0 = ((0, ((0, 0), 9000)), (100, 50)) := by kernel_rfl
theorem rt0_f (M : Nat) : rt (M + 16) 0 = 0 := by kernel_rfl
theorem rt1_f (M : Nat) : rt (M + 16) 10000 = 100 := by kernel_rfl
theorem ns0_f (M : Nat) : nodeAt (M + 16) (stl 0) 0 = ((0, ((0, 0), 0)), (0, 0)) ∧ nodeAt (M + 16) (stl 0) 1 = ((1, ((0, 0), 0)), (0, 0)) ∧ nodeAt (M + 16) (stl 0) 2 = ((2, ((0, 0), 0)), (0, 0)) ∧ nodeAt (M + 16) (stl 0) 3 = ((3, ((0, 0), 0)), (0, 0)) ∧
    nodeAt (M + 16) (stl 0) 4 = ((4, ((0, 0), 0)), (0, 0)) ∧ nodeAt (M + 16) (stl 0) 5 = ((5, ((0, 0), 0)), (0, 0)) ∧ nodeAt (M + 16) (stl 0) 6 = ((6, ((0, 0), 0)), (0, 0)) ∧ nodeAt (M + 16) (stl 0) 7 = ((7, ((0, 0), 0)), (0, 0)) ∧
    nodeAt (M + 16) (stl 0) 8 = ((8, ((0, 0), 0)), (0, 0)) ∧ nodeAt (M + 16) (stl 0) 9 = ((9, ((0, 0), 0)), (0, 0)) ∧ nodeAt (M + 16) (stl 0) 10 = ((10, ((0, 0), 0)), (0, 0)) :=
  ⟨by kernel_rfl, by kernel_rfl, by kernel_rfl, by kernel_rfl, by kernel_rfl, by kernel_rfl, by kernel_rfl, by kernel_rfl, by kernel_rfl, by kernel_rfl, by kernel_rfl⟩
theorem ns1_f (M : Nat) : nodeAt (M + 16) (stl 100) 0 = ((0, ((100, 0), 0)), (0, 0)) ∧ nodeAt (M + 16) (stl 100) 1 = ((1, ((100, 0), 0)), (0, 0)) ∧ nodeAt (M + 16) (stl 100) 2 = ((2, ((100, 0), 0)), (0, 0)) ∧ nodeAt (M + 16) (stl 100) 3 = ((3, ((100, 0), 0)), (0, 0)) ∧
    nodeAt (M + 16) (stl 100) 4 = ((4, ((100, 0), 0)), (0, 0)) ∧ nodeAt (M + 16) (stl 100) 5 = ((5, ((100, 0), 0)), (0, 0)) ∧ nodeAt (M + 16) (stl 100) 6 = ((6, ((100, 0), 0)), (0, 0)) ∧ nodeAt (M + 16) (stl 100) 7 = ((7, ((100, 0), 0)), (0, 0)) ∧
    nodeAt (M + 16) (stl 100) 8 = ((8, ((100, 0), 0)), (0, 0)) ∧ nodeAt (M + 16) (stl 100) 9 = ((9, ((100, 0), 0)), (0, 0)) ∧ nodeAt (M + 16) (stl 100) 10 = ((10, ((100, 0), 0)), (0, 0)) :=
  ⟨by kernel_rfl, by kernel_rfl, by kernel_rfl, by kernel_rfl, by kernel_rfl, by kernel_rfl, by kernel_rfl, by kernel_rfl, by kernel_rfl, by kernel_rfl, by kernel_rfl⟩
theorem rsA : resE [levT, levT] 0 (100, 1000) = 0 := by kernel_rfl
theorem rsB : resE [stl 0, stl 100] 0 (100, 1000) = 0 := by kernel_rfl
theorem clashA (M : Nat) : clashB (M + 16) (100, 1000) levT levT = true := by
  have h : sepT (M + 16) (100, 1000) levT levT 0 = false := by
    unfold sepT sepB latB
    rw [nlev_f]
    have e1 : sqP (0, 0) (0, 0) = 0 := by kernel_rfl
    dsimp only
    rw [e1, rt0_f]
    rfl
  have e : clashB (M + 16) (100, 1000) levT levT = (!sepT (M + 16) (100, 1000) levT levT 0 || anyF (sepT (M + 16) (100, 1000) levT levT) 100 (0 + 1)) := rfl
  rw [e, h]
  rfl
theorem sep_one (M : Nat) (t : Int) : sepB (M + 16) (100, 1000) ((t, ((100, 0), 0)), (0, 0)) ((t, ((0, 0), 0)), (0, 0)) = true := by
  have e1 : sqP (100, 0) (0, 0) = 10000 := by kernel_rfl
  have e2 : latB (M + 16) ((t, ((100, 0), 0)), (0, 0)) ((t, ((0, 0), 0)), (0, 0)) = 100 := by
    unfold latB
    dsimp only
    rw [e1, rt1_f]
    kernel_rfl
  unfold sepB
  rw [e2]
  exact Bool.or_true _
theorem clashC (M : Nat) : clashB (M + 16) (100, 1000) (stl 100) (stl 0) = false := by
  obtain ⟨a0, a1, a2, a3, a4, a5, a6, a7, a8, a9, a10⟩ := ns0_f M
  obtain ⟨b0, b1, b2, b3, b4, b5, b6, b7, b8, b9, b10⟩ := ns1_f M
  have s0 : sepT (M + 16) (100, 1000) (stl 100) (stl 0) 0 = true := by unfold sepT; rw [a0, b0]; exact sep_one M 0
  have s1 : sepT (M + 16) (100, 1000) (stl 100) (stl 0) 1 = true := by unfold sepT; rw [a1, b1]; exact sep_one M 1
  have s2 : sepT (M + 16) (100, 1000) (stl 100) (stl 0) 2 = true := by unfold sepT; rw [a2, b2]; exact sep_one M 2
  have s3 : sepT (M + 16) (100, 1000) (stl 100) (stl 0) 3 = true := by unfold sepT; rw [a3, b3]; exact sep_one M 3
  have s4 : sepT (M + 16) (100, 1000) (stl 100) (stl 0) 4 = true := by unfold sepT; rw [a4, b4]; exact sep_one M 4
  have s5 : sepT (M + 16) (100, 1000) (stl 100) (stl 0) 5 = true := by unfold sepT; rw [a5, b5]; exact sep_one M 5
  have s6 : sepT (M + 16) (100, 1000) (stl 100) (stl 0) 6 = true := by unfold sepT; rw [a6, b6]; exact sep_one M 6
  have s7 : sepT (M + 16) (100, 1000) (stl 100) (stl 0) 7 = true := by unfold sepT; rw [a7, b7]; exact sep_one M 7
  have s8 : sepT (M + 16) (100, 1000) (stl 100) (stl 0) 8 = true := by unfold sepT; rw [a8, b8]; exact sep_one M 8
  have s9 : sepT (M + 16) (100, 1000) (stl 100) (stl 0) 9 = true := by unfold sepT; rw [a9, b9]; exact sep_one M 9
  have s10 : sepT (M + 16) (100, 1000) (stl 100) (stl 0) 10 = true := by unfold sepT; rw [a10, b10]; exact sep_one M 10
  have e : clashB (M + 16) (100, 1000) (stl 100) (stl 0) = anyF (sepT (M + 16) (100, 1000) (stl 100) (stl 0)) 11 0 := rfl
  rw [e]
  generalize sepT (M + 16) (100, 1000) (stl 100) (stl 0) = f at s0 s1 s2 s3 s4 s5 s6 s7 s8 s9 s10
  have u : ∀ (c : Nat) (t : Int), anyF f (c + 1) t = (!f t || anyF f c (t + 1)) := fun _ _ => rfl
  rw [u, s0, u, show (0 : Int) + 1 = 1 from rfl, s1, u, show (1 : Int) + 1 = 2 from rfl, s2, u, show (2 : Int) + 1 = 3 from rfl, s3, u, show (3 : Int) + 1 = 4 from rfl, s4, u, show (4 : Int) + 1 = 5 from rfl, s5, u, show (5 : Int) + 1 = 6 from rfl, s6,
    u, show (6 : Int) + 1 = 7 from rfl, s7, u, show (7 : Int) + 1 = 8 from rfl, s8, u, show (8 : Int) + 1 = 9 from rfl, s9, u, show (9 : Int) + 1 = 10 from rfl, s10]
  rfl
theorem fact_v {N : Nat} (hN : 4611686018427387904 ≤ N) : law_resolveFact.fn N () = some true := by
  obtain ⟨M, rfl⟩ : ∃ M, N = M + 16 := ⟨N - 16, by omega⟩
  have hA := Free_v hN rsA
  have hB := Free_v hN rsB
  have eA : (!anyNe 0 (fun x => clashB (M + 16) (100, 1000) x (List.getD [levT, levT] (Int.toNat 0) [])) 0 [levT, levT]) = false := by
    show (!((!((0 : Int) == 0) && clashB (M + 16) (100, 1000) levT levT) || ((!((1 : Int) == 0) && clashB (M + 16) (100, 1000) levT levT) || false))) = false
    rw [clashA]; rfl
  have eB : (!anyNe 0 (fun x => clashB (M + 16) (100, 1000) x (List.getD [stl 0, stl 100] (Int.toNat 0) [])) 0 [stl 0, stl 100]) = true := by
    show (!((!((0 : Int) == 0) && clashB (M + 16) (100, 1000) (stl 0) (stl 0)) || ((!((1 : Int) == 0) && clashB (M + 16) (100, 1000) (stl 100) (stl 0)) || false))) = true
    rw [clashC]; rfl
  rw [eA] at hA
  rw [eB] at hB
  have hR := res_ok rsB
  have hfree : resolve_free.fn (M + 16) ([stl 0, stl 100], 0, stl 0, (100, 1000)) = some true := by
    rw [free_v hN hR.sep hR.len hR.tub (hR.tub (stl 0) (by simp))]
    exact congrArg some eB
  have hBest : resolve_Best.fn (M + 16) ([stl 0, stl 100], 0, (100, 1000), (⟨#[65, 49]⟩ : ByteArray), 0, jetU) = some (((⟨#[]⟩ : ByteArray), (0, (0, (⟨#[]⟩ : ByteArray)))), [], 11) := by
    rw [resolve_Best.eq, rchk_v hN, rsB, Option.bind_some, show (!((0 : Int) == 0)) = false from rfl, cond_false, bchk (by rfl)]
    have hc := cand_f M
    have g : List.getD [stl 0, stl 100] (Int.toNat 0) [] = stl 0 := rfl
    rw [g, hc, Option.bind_some]
    dsimp only
    rw [show (!((0 : Int) == 0)) = false from rfl, cond_false, bchk (by rfl), hfree]
    rfl
  have hcand := cand_f M
  rw [law_resolveFact.eq, lev_v, Option.bind_some, Option.bind_some, jet_v, Option.bind_some, stl_v, Option.bind_some]
  have hj : (jetT.1, (jetT.2.1, (jetT.2.2.1, ((200 : Int), jetT.2.2.2.2)))) = jetU := rfl
  rw [hj, hcand, Option.bind_some, near_v, Option.bind_some, hA, Option.bind_some, Option.bind_some, stl_v, Option.bind_some, Option.bind_some, hB, Option.bind_some, Option.bind_some, Option.bind_some, Option.bind_some, hBest, Option.bind_some]
  dsimp only
  rw [clb_v, clb_v]
  rfl
abbrev tNds : Ty := .sl 58 (.pair (.pair (.int .i64) (.pair (.pair (.int .i64) (.int .i64)) (.int .i64))) (.pair (.int .i64) (.int .i64)))
theorem ResolveFrees.pure (x0 : List (List Nd)) (x1 : Int) (x2 : Int × Int) (h0 : Wf Tryz.prog (.sl 32 tNds) x0) (h1 : Wf Tryz.prog (.int .i64) x1) (h2 : Wf Tryz.prog (.pair (.int .i64) (.int .i64)) x2) : law_ResolveFrees.fn NN (x0, x1, x2) = some true :=
  ResolveFrees.pureN NN_big (fact_v NN_big) x0 x1 x2
end Go.Proofs.YthkpnlfnplhgnaaGreatDoor.Sk
