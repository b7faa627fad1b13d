/- EffectClimbs: plain law. -/
import Derived.Test.YthkpnlfnplhgnaaDoorClbEq
set_option linter.unusedVariables false
set_option linter.unusedSimpArgs false
set_option linter.unusedSectionVars false
set_option maxRecDepth 100000
namespace Go.Proofs.YthkpnlfnplhgnaaDoor.Sk
open Go

abbrev Pt := Int × Int
abbrev Nd := (Int × Pt × Int) × Int × Int
theorem bchk {α : Type} {b : Bool} {f : Option α} (h : b = true) : (bif b then f else none) = f := by rw [h]; rfl
/-! ### points -/
def ptE (p : Pt) : Int := bif (((decide (p.1 < (-1000000))) || (decide (p.1 > 1000000))) || (decide (p.2 < (-1000000)))) || (decide (p.2 > 1000000)) then 4 else 0
theorem ptE_v (N : Nat) (p : Pt) : plane_Check.fn N p = some (ptE p) := by
  rw [plane_Check.clean]; unfold ptE
  generalize ((((decide (p.1 < (-1000000))) || (decide (p.1 > 1000000))) || (decide (p.2 < (-1000000)))) || (decide (p.2 > 1000000))) = b
  cases b <;> rfl
theorem mid_lt {X : Type} {l pre r : List X} {x : X} (h : l = pre ++ x :: r) : pre.length < l.length := by rw [h]; simp
theorem mid_get {X : Type} {l pre r : List X} {x d : X} (h : l = pre ++ x :: r) : l.getD pre.length d = x := by rw [h]; exact getD_mid pre x r d
theorem mid_drop {X : Type} {l pre r : List X} {x : X} (h : l = pre ++ x :: r) : l.drop (pre.length + 1) = r := by rw [h, ← List.drop_drop]; simp
theorem mid_take {X : Type} {l pre r : List X} {x : X} (h : l = pre ++ x :: r) : l.take pre.length = pre := by rw [h]; simp

theorem bif_some {α : Type} (b : Bool) (x y : α) : (bif b then some x else some y) = some (bif b then x else y) := by cases b <;> rfl
/-! ### tubes -/
def tubL (l : List Nd) : Nat → List Nd → Int
  | _, [] => 0
  | i, x :: r => bif ((decide (x.1.1 < 0)) || (decide (x.1.1 > 200000))) || ((decide ((i : Int) > 0)) && (decide (x.1.1 ≤ (List.getD l (i - 1) ((0, ((0, 0), 0)), (0, 0))).1.1))) then 12 else
      bif !(ptE x.1.2.1 == 0) then ptE x.1.2.1 else bif (((((decide (x.1.2.2 < 0)) || (decide (x.1.2.2 > 60000))) || (decide (x.2.1 < 0))) || (decide (x.2.1 > 1000000))) || (decide (x.2.2 < 0))) || (decide (x.2.2 > 60000)) then 4 else tubL l (i + 1) r
def tubE (l : List Nd) : Int := bif decide ((l.length : Int) > 64) then 2 else bif (l.length : Int) == 0 then 3 else tubL l 0 l
theorem tubE_v {N : Nat} (hN : 4611686018427387904 ≤ N) (l : List Nd) : tube_Check.fn N l = some (tubE l) := by
  rw [tube_Check.eq]
  unfold tubE
  cases h1 : decide ((l.length : Int) > 64) with
  | true => rfl
  | false =>
    cases h2 : ((l.length : Int) == 0) with
    | true => rfl
    | false =>
      simp only [decide_eq_false_iff_not] at h1
      rw [cond_false, cond_false, cond_false, cond_false]
      refine list_loop (σ := Unit) (l := l) (fun k _ i => tube_Check.l0 N l k i) (fun pre r _ => some (tubL l pre.length r)) (fun _ _ => True) (fun k _ _ => tube_Check.l0_nil N l k) (fun k pre x r _ hl _ ih => ?_) N () trivial (by omega)
      have q1 := mid_lt hl
      have ih : tube_Check.l0 N l k ((pre.length : Int) + 1) = some (tubL l (pre ++ [x]).length r) := ih () trivial
      rw [List.length_append, List.length_singleton] at ih
      show tube_Check.l0 N l (k + 1) (pre.length : Int) = some (bif ((decide (x.1.1 < 0)) || (decide (x.1.1 > 200000))) || ((decide ((pre.length : Int) > 0)) && (decide (x.1.1 ≤ (List.getD l (pre.length - 1) ((0, ((0, 0), 0)), (0, 0))).1.1))) then 12 else _)
      have c : (((decide (0 ≤ (w ((pre.length : Int) - 1)))) && (decide ((w ((pre.length : Int) - 1)) < (l.length : Int)))) || !((!((decide (((x.1).1) < 0)) || (decide (((x.1).1) > 200000)))) && (decide ((pre.length : Int) > 0)))) = true := by
        by_cases h0 : pre.length = 0
        · rw [h0]; simp
        · rw [w_small _ (by omega) (by omega)]; simp; omega
      have e : (decide ((pre.length : Int) > 0) && decide (x.1.1 ≤ (List.getD l (Int.toNat (w ((pre.length : Int) - 1))) ((0, ((0, 0), 0)), (0, 0))).1.1)) = (decide ((pre.length : Int) > 0) && decide (x.1.1 ≤ (List.getD l (pre.length - 1) ((0, ((0, 0), 0)), (0, 0))).1.1)) := by
        by_cases h0 : pre.length = 0
        · rw [h0]; rfl
        · rw [w_small _ (by omega) (by omega), show ((pre.length : Int) - 1).toNat = pre.length - 1 by omega]
      rw [tube_Check.l0_cons N l k hl (by omega), bchk c, e, ptE_v, Option.bind_some, ih]
      generalize (((decide (x.1.1 < 0)) || (decide (x.1.1 > 200000))) || ((decide ((pre.length : Int) > 0)) && (decide (x.1.1 ≤ (List.getD l (pre.length - 1) ((0, ((0, 0), 0)), (0, 0))).1.1)))) = b1
      generalize (ptE x.1.2.1 == 0) = b2
      generalize ((((((decide (x.1.2.2 < 0)) || (decide (x.1.2.2 > 60000))) || (decide (x.2.1 < 0))) || (decide (x.2.1 > 1000000))) || (decide (x.2.2 < 0))) || (decide (x.2.2 > 60000))) = b3
      cases b1 <;> cases b2 <;> cases b3 <;> rfl
def tm (l : List Nd) (i : Nat) : Int := (List.getD l i ((0, ((0, 0), 0)), (0, 0))).1.1
theorem tubL_zero {l : List Nd} : ∀ (r pre : List Nd), l = pre ++ r → tubL l pre.length r = 0 → ∀ i, pre.length ≤ i → i < l.length → (0 ≤ tm l i ∧ tm l i ≤ 200000) ∧ (0 < i → tm l (i - 1) < tm l i) ∧ 0 ≤ (List.getD l i ((0, ((0, 0), 0)), (0, 0))).1.2.2 ∧ (List.getD l i ((0, ((0, 0), 0)), (0, 0))).1.2.2 ≤ 60000
  | [], pre, hl, _, i, h1, h2 => by rw [List.append_nil] at hl; subst hl; omega
  | x :: r, pre, hl, h, i, h1, h2 => by
    have h : (bif ((decide (x.1.1 < 0)) || (decide (x.1.1 > 200000))) || ((decide ((pre.length : Int) > 0)) && (decide (x.1.1 ≤ tm l (pre.length - 1)))) then 12 else
      bif !(ptE x.1.2.1 == 0) then ptE x.1.2.1 else bif (((((decide (x.1.2.2 < 0)) || (decide (x.1.2.2 > 60000))) || (decide (x.2.1 < 0))) || (decide (x.2.1 > 1000000))) || (decide (x.2.2 < 0))) || (decide (x.2.2 > 60000)) then 4 else tubL l (pre.length + 1) r) = 0 := h
    cases b1 : (((decide (x.1.1 < 0)) || (decide (x.1.1 > 200000))) || ((decide ((pre.length : Int) > 0)) && (decide (x.1.1 ≤ tm l (pre.length - 1))))) with
    | true => rw [b1] at h; cases h
    | false =>
      rw [b1] at h
      cases b2 : (ptE x.1.2.1 == 0) with
      | false => rw [b2] at h; have h : ptE x.1.2.1 = 0 := h; rw [h] at b2; cases b2
      | true =>
        rw [b2] at h
        cases b3 : ((((((decide (x.1.2.2 < 0)) || (decide (x.1.2.2 > 60000))) || (decide (x.2.1 < 0))) || (decide (x.2.1 > 1000000))) || (decide (x.2.2 < 0))) || (decide (x.2.2 > 60000))) with
        | true => rw [b3] at h; cases h
        | false =>
          rw [b3] at h
          have h : tubL l (pre.length + 1) r = 0 := h
          by_cases e : i = pre.length
          · subst e
            have hx : List.getD l pre.length ((0, ((0, 0), 0)), (0, 0)) = x := mid_get hl
            unfold tm at b1 ⊢
            rw [hx]
            simp only [Bool.or_eq_false_iff, Bool.and_eq_false_iff, decide_eq_false_iff_not] at b1 b3
            omega
          · exact tubL_zero r (pre ++ [x]) (by simp [hl]) (by rw [List.length_append, List.length_singleton]; exact h) i (by simp; omega) h2
structure TubOk (l : List Nd) : Prop where
  pos : 0 < l.length
  len : l.length ≤ 64
  time : ∀ i, i < l.length → 0 ≤ tm l i ∧ tm l i ≤ 200000
  up : ∀ i, 0 < i → i < l.length → tm l (i - 1) < tm l i
theorem tub_ok {l : List Nd} (h : tubE l = 0) : TubOk l := by
  unfold tubE at h
  cases h1 : decide ((l.length : Int) > 64) with
  | true => rw [h1] at h; cases h
  | false =>
    cases h2 : ((l.length : Int) == 0) with
    | true => rw [h1, h2] at h; cases h
    | false =>
      rw [h1, h2] at h
      have h : tubL l 0 l = 0 := h
      simp only [decide_eq_false_iff_not, beq_eq_false_iff_ne] at h1 h2
      have key := tubL_zero (l := l) l [] rfl h
      exact ⟨by omega, by omega, fun i hi => (key i (Nat.zero_le _) hi).1, fun i h0 hi => (key i (Nat.zero_le _) hi).2.1 h0⟩
/-! ### the node at a time -/
theorem divd_ex (N : Nat) (a b : Int) : ∃ v, num_DivDown.fn N (a, b) = some v := by
  rw [num_DivDown.clean]
  cases h : (b == 0) with
  | true => exact ⟨_, rfl⟩
  | false =>
    have h2 : (b != 0) = true := by rw [bne, h]; rfl
    rw [h2]
    cases ((a == (-9223372036854775808)) && (b == (-1))) with
    | true => exact ⟨_, rfl⟩
    | false => cases ((!((Int.tmod a b) == 0)) && (!((decide (a < 0)) == (decide (b < 0))))) <;> exact ⟨_, rfl⟩
theorem divu_ex (N : Nat) (a b : Int) (hb : b ≠ 0) : ∃ v, num_DivUp.fn N (a, b) = some v := by
  obtain ⟨v, hv⟩ := divd_ex N a b
  rw [num_DivUp.clean, hv, Option.bind_some, show (b != 0) = true by simpa using hb, Bool.true_or, cond_true]
  cases ((v.2 == 0) && (!((Int.tmod a b) == 0))) <;> exact ⟨_, rfl⟩
theorem betw_ex (N : Nat) (a b c d : Int) : ∃ v, tube_between.fn N (a, b, c, d) = some v := by
  obtain ⟨v, hv⟩ := divd_ex N (w ((w (b - a)) * c)) d
  rw [tube_between.eq, hv]
  exact ⟨_, rfl⟩
theorem abov_ex (N : Nat) (a b c d : Int) (hd : d ≠ 0) : ∃ v, tube_above.fn N (a, b, c, d) = some v := by
  obtain ⟨v, hv⟩ := divu_ex N (w ((w (b - a)) * c)) d hd
  rw [tube_above.eq, hv]
  exact ⟨_, rfl⟩
theorem tow_ex (N : Nat) (a b : Pt) (n d : Int) : ∃ v, plane_Toward.fn N (a, b, n, d) = some v := by
  rw [plane_Toward.clean]
  cases decide (d ≤ 0) with
  | true => exact ⟨_, rfl⟩
  | false =>
    obtain ⟨v1, h1⟩ := divd_ex N (w ((w (b.1 - a.1)) * n)) d
    obtain ⟨v2, h2⟩ := divd_ex N (w ((w (b.2 - a.2)) * n)) d
    rw [cond_false, ptE_v, ptE_v, h1, h2, bif_some, Option.bind_some, bif_some, Option.bind_some]
    simp only [Option.bind_some]
    generalize ((((decide (d > 200000)) || (decide (n < 0))) || (decide (n > d))) || (!((bif !(((decide (d > 200000)) || (decide (n < 0))) || (decide (n > d))) then ptE a else 0) == 0))) = q
    generalize (!((bif !q then ptE b else 0) == 0)) = q2
    cases q <;> cases q2 <;> exact ⟨_, rfl⟩
theorem at_l {N : Nat} {l : List Nd} (hl : TubOk l) {t : Int} (h1 : t ≤ tm l (l.length - 1)) : ∀ (m : Nat) (k : Nat) (i : Nat), i + m = l.length → 0 < m → tm l i ≤ t → m ≤ k → ∃ n, tube_at.l0 N l t k (i : Int) = some (n, 0) ∧ n.1.1 = t := by
  intro m
  induction m with
  | zero => intro k i _ h; omega
  | succ m ih =>
    intro k i hi _ ht hk
    obtain ⟨k, rfl⟩ : ∃ k', k = k' + 1 := ⟨k - 1, by omega⟩
    have hlen := hl.len
    have hw : w ((i : Int) + 1) = ((i + 1 : Nat) : Int) := by rw [w_small _ (by omega) (by omega)]; rfl
    have c : (((decide (0 ≤ (((i + 1 : Nat) : Int)))) && (decide ((((i + 1 : Nat) : Int)) < (l.length : Int)))) || !(decide ((((i + 1 : Nat) : Int)) < (l.length : Int)))) = true := by
      by_cases h : i + 1 < l.length <;> simp <;> omega
    rw [tube_at.l0_clean, hw, bchk c, Int.toNat_natCast, Int.toNat_natCast]
    by_cases hn : i + 1 < l.length ∧ tm l (i + 1) ≤ t
    · have c2 : ((decide ((((i + 1 : Nat) : Int)) < (l.length : Int))) && (decide ((((List.getD l (i + 1) ((0, ((0, 0), 0)), (0, 0))).1).1) ≤ t))) = true := by
        rw [Bool.and_eq_true, decide_eq_true_iff, decide_eq_true_iff]; exact ⟨by omega, hn.2⟩
      rw [c2, cond_true]
      exact ih k (i + 1) (by omega) (by omega) hn.2 (by omega)
    · have c2 : ((decide ((((i + 1 : Nat) : Int)) < (l.length : Int))) && (decide ((((List.getD l (i + 1) ((0, ((0, 0), 0)), (0, 0))).1).1) ≤ t))) = false := by
        rw [Bool.and_eq_false_iff, decide_eq_false_iff_not, decide_eq_false_iff_not]
        by_cases h : i + 1 < l.length
        · exact .inr fun h' => hn ⟨h, h'⟩
        · exact .inl (by omega)
      rw [c2, cond_false, bchk (by simp; omega)]
      cases he : ((((List.getD l i ((0, ((0, 0), 0)), (0, 0))).1).1) == t) with
      | true => exact ⟨_, rfl, beq_iff_eq.1 he⟩
      | false =>
        have hne : tm l i ≠ t := beq_eq_false_iff_ne.1 he
        have hi1 : i + 1 < l.length := by
          rcases Nat.lt_or_ge (i + 1) l.length with h | h
          · exact h
          · have e : l.length - 1 = i := by omega
            rw [e] at h1; omega
        have hup := hl.up (i + 1) (by omega) hi1
        have t1 := hl.time i (by omega)
        have t2 := hl.time (i + 1) hi1
        rw [Nat.add_sub_cancel] at hup
        have hd : w (((List.getD l (i + 1) ((0, ((0, 0), 0)), (0, 0))).1.1) - ((List.getD l i ((0, ((0, 0), 0)), (0, 0))).1.1)) ≠ 0 := by
          have e1 : (List.getD l (i + 1) ((0, ((0, 0), 0)), (0, 0))).1.1 = tm l (i + 1) := rfl
          have e2 : (List.getD l i ((0, ((0, 0), 0)), (0, 0))).1.1 = tm l i := rfl
          rw [e1, e2, w_small _ (by omega) (by omega)]
          omega
        rw [cond_false, bchk (by simp; omega)]
        obtain ⟨v1, e1⟩ := tow_ex N (((List.getD l i ((0, ((0, 0), 0)), (0, 0))).1).2).1 (((List.getD l (i + 1) ((0, ((0, 0), 0)), (0, 0))).1).2).1 (w (t - (((List.getD l i ((0, ((0, 0), 0)), (0, 0))).1).1))) (w ((((List.getD l (i + 1) ((0, ((0, 0), 0)), (0, 0))).1).1) - (((List.getD l i ((0, ((0, 0), 0)), (0, 0))).1).1)))
        obtain ⟨v2, e2⟩ := betw_ex N (((List.getD l i ((0, ((0, 0), 0)), (0, 0))).1).2).2 (((List.getD l (i + 1) ((0, ((0, 0), 0)), (0, 0))).1).2).2 (w (t - (((List.getD l i ((0, ((0, 0), 0)), (0, 0))).1).1))) (w ((((List.getD l (i + 1) ((0, ((0, 0), 0)), (0, 0))).1).1) - (((List.getD l i ((0, ((0, 0), 0)), (0, 0))).1).1)))
        obtain ⟨v3, e3⟩ := abov_ex N ((List.getD l i ((0, ((0, 0), 0)), (0, 0))).2).1 ((List.getD l (i + 1) ((0, ((0, 0), 0)), (0, 0))).2).1 (w (t - (((List.getD l i ((0, ((0, 0), 0)), (0, 0))).1).1))) (w ((((List.getD l (i + 1) ((0, ((0, 0), 0)), (0, 0))).1).1) - (((List.getD l i ((0, ((0, 0), 0)), (0, 0))).1).1))) hd
        obtain ⟨v4, e4⟩ := abov_ex N ((List.getD l i ((0, ((0, 0), 0)), (0, 0))).2).2 ((List.getD l (i + 1) ((0, ((0, 0), 0)), (0, 0))).2).2 (w (t - (((List.getD l i ((0, ((0, 0), 0)), (0, 0))).1).1))) (w ((((List.getD l (i + 1) ((0, ((0, 0), 0)), (0, 0))).1).1) - (((List.getD l i ((0, ((0, 0), 0)), (0, 0))).1).1))) hd
        rw [e1, Option.bind_some, e2, Option.bind_some, e3, Option.bind_some, e4, Option.bind_some]
        exact ⟨_, rfl, rfl⟩
theorem last_ok {l : List Nd} (hl : TubOk l) : w ((l.length : Int) - 1) = ((l.length - 1 : Nat) : Int) := by
  have := hl.pos; have := hl.len
  rw [w_small _ (by omega) (by omega)]; omega
theorem at_ok {N : Nat} (hN : 4611686018427387904 ≤ N) {l : List Nd} (hl : TubOk l) {t : Int} (h0 : tm l 0 ≤ t) (h1 : t ≤ tm l (l.length - 1)) : ∃ n, tube_at.fn N (l, t) = some (n, 0) ∧ n.1.1 = t := by
  have hp := hl.pos
  have hlen := hl.len
  rw [tube_at.clean, bchk (by rw [decide_eq_true_iff]; omega), last_ok hl, Int.toNat_natCast]
  have c : (((decide (0 ≤ ((l.length - 1 : Nat) : Int))) && (decide (((l.length - 1 : Nat) : Int) < (l.length : Int)))) || !(!(decide (t < (((List.getD l 0 ((0, ((0, 0), 0)), (0, 0))).1).1))))) = true := by
    rw [show decide (0 ≤ ((l.length - 1 : Nat) : Int)) = true by rw [decide_eq_true_iff]; omega, show decide (((l.length - 1 : Nat) : Int) < (l.length : Int)) = true by rw [decide_eq_true_iff]; omega]; rfl
  have c2 : ((decide (t < (((List.getD l 0 ((0, ((0, 0), 0)), (0, 0))).1).1))) || (decide (t > (((List.getD l (l.length - 1) ((0, ((0, 0), 0)), (0, 0))).1).1)))) = false := by
    rw [Bool.or_eq_false_iff, decide_eq_false_iff_not, decide_eq_false_iff_not]
    exact ⟨Int.not_lt.2 h0, Int.not_lt.2 h1⟩
  rw [bchk c, c2, cond_false]
  exact at_l hl h1 l.length N 0 (by omega) hp h0 (by omega)
/-- Outside of its times a tube has none. -/
theorem at_out {N : Nat} (hN : 4611686018427387904 ≤ N) {l : List Nd} (hl : TubOk l) {t : Int} (h : t < tm l 0 ∨ tm l (l.length - 1) < t) : tube_at.fn N (l, t) = some (((0, ((0, 0), 0)), (0, 0)), 12) := by
  have hp := hl.pos
  have hlen := hl.len
  rw [tube_at.clean, bchk (by rw [decide_eq_true_iff]; omega), last_ok hl, Int.toNat_natCast]
  have c : (((decide (0 ≤ ((l.length - 1 : Nat) : Int))) && (decide (((l.length - 1 : Nat) : Int) < (l.length : Int)))) || !(!(decide (t < (((List.getD l 0 ((0, ((0, 0), 0)), (0, 0))).1).1))))) = true := by
    rw [show decide (0 ≤ ((l.length - 1 : Nat) : Int)) = true by rw [decide_eq_true_iff]; omega, show decide (((l.length - 1 : Nat) : Int) < (l.length : Int)) = true by rw [decide_eq_true_iff]; omega]; rfl
  have c2 : ((decide (t < (((List.getD l 0 ((0, ((0, 0), 0)), (0, 0))).1).1))) || (decide (t > (((List.getD l (l.length - 1) ((0, ((0, 0), 0)), (0, 0))).1).1)))) = true := by
    rw [Bool.or_eq_true, decide_eq_true_iff, decide_eq_true_iff]
    exact h
  rw [bchk c, c2]
  rfl
noncomputable def nodeAt (N : Nat) (x : List Nd) (t : Int) : Nd := ((tube_at.fn N (x, t)).getD (((0, ((0, 0), 0)), (0, 0)), 0)).1
theorem at_node {N : Nat} (hN : 4611686018427387904 ≤ N) {l : List Nd} (hl : TubOk l) {t : Int} (h0 : tm l 0 ≤ t) (h1 : t ≤ tm l (l.length - 1)) : tube_at.fn N (l, t) = some (nodeAt N l t, 0) ∧ (nodeAt N l t).1.1 = t := by
  obtain ⟨n, hn, ht⟩ := at_ok hN hl h0 h1
  unfold nodeAt
  rw [hn]
  exact ⟨rfl, ht⟩
/-! ### the fact -/
def levT : List Nd := [((0, ((0, 0), 9000)), (100, 50)), ((100, ((10000, 0), 9000)), (100, 50))]
def jetT : ByteArray × Int × Int × Int × Int × Int × Int := (⟨#[74, 69, 84]⟩, (1, (40000, (50, (40, (50, 300))))))
def clbT : ByteArray × Int × Int × ByteArray := (⟨#[65, 49]⟩, (0, (9500, ⟨#[]⟩)))
def effT : List Nd := [((0, ((0, 0), 9000)), (100, 50)), ((10, ((1000, 0), 9500)), (100, 50)), ((100, ((10000, 0), 9500)), (100, 50))]
theorem lev_v (N : Nat) : law_level.fn N () = some levT := by kernel_rfl
theorem jet_v (N : Nat) : law_jet.fn N () = some jetT := by kernel_rfl
theorem clb_v (N : Nat) : law_climbed.fn N 9500 = some clbT := by kernel_rfl
theorem dif_f (M : Nat) : effect_Differs.fn (M + 16) (levT, effT) = some (1, 0) := by kernel_rfl
theorem of_f (M : Nat) : effect_Of.fn (M + 16) (levT, (clbT, (0, (jetT, (0, 0))))) = some (effT, 0) := by kernel_rfl
theorem fact_v {N : Nat} (hN : 4611686018427387904 ≤ N) : law_effectFact.fn N () = some true := by
  obtain ⟨M, rfl⟩ : ∃ M, N = M + 16 := ⟨N - 16, by omega⟩
  have hO := of_f M
  have hD := dif_f M
  rw [law_effectFact.eq, lev_v, Option.bind_some, clb_v, Option.bind_some, jet_v, Option.bind_some, hO, Option.bind_some, Option.bind_some]
  dsimp only
  rw [hD, Option.bind_some]
  rfl
/-! ### exact nodes -/
theorem at_ex {N : Nat} {l : List Nd} (hl : TubOk l) {j : Nat} (hj : j < l.length) : ∀ (m : Nat) (k : Nat) (i : Nat), i + m = j → m < k → tube_at.l0 N l (tm l j) k (i : Int) = some (List.getD l j ((0, ((0, 0), 0)), (0, 0)), 0) := by
  have hlen := hl.len
  have mono : ∀ d i, i + d < l.length → tm l i ≤ tm l (i + d) := by
    intro d
    induction d with
    | zero => intro i _; exact Int.le_refl _
    | succ d ih =>
      intro i h
      have h1 := ih i (by omega)
      have h2 := hl.up (i + (d + 1)) (by omega) (by omega)
      rw [show i + (d + 1) - 1 = i + d by omega] at h2
      omega
  intro m
  induction m with
  | zero =>
    intro k i hi hk
    obtain ⟨k, rfl⟩ : ∃ k', k = k' + 1 := ⟨k - 1, by omega⟩
    have hi : i = j := by omega
    subst hi
    have hw : w ((i : Int) + 1) = ((i + 1 : Nat) : Int) := by rw [w_small _ (by omega) (by omega)]; rfl
    have c : (((decide (0 ≤ (((i + 1 : Nat) : Int)))) && (decide ((((i + 1 : Nat) : Int)) < (l.length : Int)))) || !(decide ((((i + 1 : Nat) : Int)) < (l.length : Int)))) = true := by
      by_cases h : i + 1 < l.length <;> simp <;> omega
    have c2 : ((decide ((((i + 1 : Nat) : Int)) < (l.length : Int))) && (decide ((((List.getD l (i + 1) ((0, ((0, 0), 0)), (0, 0))).1).1) ≤ tm l i))) = false := by
      rw [Bool.and_eq_false_iff, decide_eq_false_iff_not, decide_eq_false_iff_not]
      by_cases h : i + 1 < l.length
      · have := hl.up (i + 1) (by omega) h
        rw [Nat.add_sub_cancel] at this
        right; show ¬ tm l (i + 1) ≤ tm l i; omega
      · left; omega
    have c3 : ((((List.getD l i ((0, ((0, 0), 0)), (0, 0))).1).1) == tm l i) = true := beq_iff_eq.2 rfl
    rw [tube_at.l0_clean, hw, bchk c, Int.toNat_natCast, Int.toNat_natCast, c2, cond_false, bchk (by simp; omega), c3, cond_true]
  | succ m ih =>
    intro k i hi hk
    obtain ⟨k, rfl⟩ : ∃ k', k = k' + 1 := ⟨k - 1, by omega⟩
    have hw : w ((i : Int) + 1) = ((i + 1 : Nat) : Int) := by rw [w_small _ (by omega) (by omega)]; rfl
    have c : (((decide (0 ≤ (((i + 1 : Nat) : Int)))) && (decide ((((i + 1 : Nat) : Int)) < (l.length : Int)))) || !(decide ((((i + 1 : Nat) : Int)) < (l.length : Int)))) = true := by
      by_cases h : i + 1 < l.length <;> simp <;> omega
    have hm : tm l (i + 1) ≤ tm l j := by have := mono m (i + 1) (by omega); rw [show i + 1 + m = j by omega] at this; exact this
    have c2 : ((decide ((((i + 1 : Nat) : Int)) < (l.length : Int))) && (decide ((((List.getD l (i + 1) ((0, ((0, 0), 0)), (0, 0))).1).1) ≤ tm l j))) = true := by
      rw [Bool.and_eq_true, decide_eq_true_iff, decide_eq_true_iff]; exact ⟨by omega, hm⟩
    rw [tube_at.l0_clean, hw, bchk c, Int.toNat_natCast, Int.toNat_natCast, c2, cond_true]
    exact ih k (i + 1) (by omega) (by omega)
theorem tub_mono {l : List Nd} (hl : TubOk l) : ∀ (d i : Nat), i + d < l.length → tm l i ≤ tm l (i + d) := by
  intro d
  induction d with
  | zero => intro i _; exact Int.le_refl _
  | succ d ih =>
    intro i h
    have h1 := ih i (by omega)
    have h2 := hl.up (i + (d + 1)) (by omega) (by omega)
    rw [show i + (d + 1) - 1 = i + d by omega] at h2
    omega
theorem tub_sorted {l : List Nd} (hl : TubOk l) : l.Pairwise fun x y => x.1.1 < y.1.1 := by
  rw [List.pairwise_iff_getElem]
  intro i j hi hj hij
  have h1 := tub_mono hl (j - 1 - i) i (by omega)
  have h2 := hl.up j (by omega) hj
  rw [show i + (j - 1 - i) = j - 1 by omega] at h1
  unfold tm at h1 h2
  rw [List.getD_eq_getElem?_getD, List.getElem?_eq_getElem hi, List.getD_eq_getElem?_getD, List.getElem?_eq_getElem (by omega)] at h1
  rw [List.getD_eq_getElem?_getD, List.getElem?_eq_getElem (by omega), List.getD_eq_getElem?_getD, List.getElem?_eq_getElem hj] at h2
  simp only [Option.getD_some] at h1 h2
  omega
theorem tub_rng {l : List Nd} (hl : TubOk l) {n : Nd} (hn : n ∈ l) : tm l 0 ≤ n.1.1 ∧ n.1.1 ≤ tm l (l.length - 1) ∧ ∃ j, j < l.length ∧ tm l j = n.1.1 ∧ List.getD l j ((0, ((0, 0), 0)), (0, 0)) = n := by
  obtain ⟨j, hj, rfl⟩ := List.getElem_of_mem hn
  have hg : List.getD l j ((0, ((0, 0), 0)), (0, 0)) = l[j] := by rw [List.getD_eq_getElem?_getD, List.getElem?_eq_getElem hj]; rfl
  have ht : tm l j = l[j].1.1 := by unfold tm; rw [hg]
  have h1 := tub_mono hl j 0 (by omega)
  have h2 := tub_mono hl (l.length - 1 - j) j (by omega)
  rw [Nat.zero_add] at h1
  rw [show j + (l.length - 1 - j) = l.length - 1 by omega] at h2
  exact ⟨by omega, by omega, j, hj, ht, hg⟩
theorem node_ex {N : Nat} (hN : 4611686018427387904 ≤ N) {l : List Nd} (hl : TubOk l) {n : Nd} (hn : n ∈ l) : nodeAt N l n.1.1 = n := by
  obtain ⟨h0, h1, j, hj, ht, hg⟩ := tub_rng hl hn
  have hp := hl.pos
  have hlen := hl.len
  unfold nodeAt
  have hat : tube_at.fn N (l, n.1.1) = some (n, 0) := by
    rw [tube_at.clean, bchk (by rw [decide_eq_true_iff]; omega), last_ok hl, Int.toNat_natCast]
    have c : (((decide (0 ≤ ((l.length - 1 : Nat) : Int))) && (decide (((l.length - 1 : Nat) : Int) < (l.length : Int)))) || !(!(decide (n.1.1 < (((List.getD l 0 ((0, ((0, 0), 0)), (0, 0))).1).1))))) = true := by
      rw [show decide (0 ≤ ((l.length - 1 : Nat) : Int)) = true by rw [decide_eq_true_iff]; omega, show decide (((l.length - 1 : Nat) : Int) < (l.length : Int)) = true by rw [decide_eq_true_iff]; omega]; rfl
    have c2 : ((decide (n.1.1 < (((List.getD l 0 ((0, ((0, 0), 0)), (0, 0))).1).1))) || (decide (n.1.1 > (((List.getD l (l.length - 1) ((0, ((0, 0), 0)), (0, 0))).1).1)))) = false := by
      rw [Bool.or_eq_false_iff, decide_eq_false_iff_not, decide_eq_false_iff_not]
      exact ⟨Int.not_lt.2 h0, Int.not_lt.2 h1⟩
    rw [bchk c, c2, cond_false, ← ht]
    rw [show tube_at.l0 N l (tm l j) N 0 = _ from at_ex hl hj j N 0 (by omega) (by omega), hg]
  rw [hat]
  rfl
/-! ### lists by time -/
def tlt (p : Int) (n : Nd) : Bool := decide (n.1.1 < p)
theorem sp_lt {l : List Nd} (h : l.Pairwise fun x y => x.1.1 < y.1.1) (p : Int) : l.filter (tlt p) ++ l.filter (fun n => !tlt p n) = l := by
  induction l with
  | nil => rfl
  | cons x r ih =>
    rw [List.pairwise_cons] at h
    cases hx : tlt p x with
    | true =>
      rw [List.filter_cons_of_pos hx, List.filter_cons_of_neg (by rw [hx]; decide), List.cons_append, ih h.2]
    | false =>
      have hr : r.filter (tlt p) = [] := by
        rw [List.filter_eq_nil_iff]
        intro y hy
        have := h.1 y hy
        unfold tlt at hx ⊢
        rw [decide_eq_false_iff_not] at hx
        rw [decide_eq_true_eq]
        omega
      have hr2 : r.filter (fun n => !tlt p n) = r := by
        have := ih h.2
        rw [hr, List.nil_append] at this
        exact this
      rw [List.filter_cons_of_neg (by rw [hx]; decide), List.filter_cons_of_pos (by rw [hx]; rfl), hr, List.nil_append, hr2]
/-! ### names -/
def nameCh (c : UInt8) : Bool := !(((decide (((c.toNat : Nat) : Int) < 65)) || (decide (((c.toNat : Nat) : Int) > 90))) && ((decide (((c.toNat : Nat) : Int) < 48)) || (decide (((c.toNat : Nat) : Int) > 57))))
def isNameL : List UInt8 → Bool
  | [] => false
  | b :: r => bif decide (r.length + 1 > 8) then false else bif decide (((b.toNat : Nat) : Int) < 65) || decide (((b.toNat : Nat) : Int) > 90) then false else (b :: r).all nameCh
def isName (s : ByteArray) : Bool := isNameL s.data.toList
theorem size_list (s : ByteArray) : s.size = s.data.toList.length := by rw [ByteArray.size, Array.length_toList]

section
variable {N : Nat} (hN : 4611686018427387904 ≤ N)
include hN
theorem chart_Name.v (s : ByteArray) : chart_Name.fn N s = some (isName s) := by
  rw [chart_Name.clean]
  unfold isName
  have hsz := size_list s
  cases h : s.data.toList with
  | nil =>
    rw [h] at hsz
    have hsz : s.size = 0 := hsz
    simp [hsz, isNameL]
  | cons b r =>
    rw [h] at hsz
    have hsz : s.size = r.length + 1 := by simpa using hsz
    have g : (ByteArray.data s).getD 0 0 = b := getD_bytes (pre := []) (r := r) h
    have c1 : decide (0 < (s.size : Int)) = true := by rw [decide_eq_true_iff]; omega
    have c2 : ((s.size : Int) == 0) = false := by rw [beq_eq_false_iff_ne]; omega
    have c3 : decide ((s.size : Int) > 8) = decide (r.length + 1 > 8) := by rw [decide_eq_decide]; omega
    simp only [g, c1, c2, c3, Bool.true_or, cond_true, Bool.false_or, isNameL]
    by_cases h8 : r.length + 1 > 8
    · simp [h8]
    have h8' : decide (r.length + 1 > 8) = false := decide_eq_false h8
    simp only [h8', Bool.false_or, cond_false]
    have hl := scan_list (l := s.data.toList) (fun c => !nameCh c) (some false) (some true) (fun k i => chart_Name.l0 N s k i)
      (fun k => by show chart_Name.l0 N s (k + 1) (s.data.toList.length : Int) = _; rw [← size_list s]; exact chart_Name.l0_nil N s k)
      (fun k pre x r' h' => by show chart_Name.l0 N s (k + 1) (pre.length : Int) = _; rw [chart_Name.l0_cons N s k h' (by omega)]; simp [nameCh]) N (by rw [h]; simp; omega)
    rw [hl, h]
    cases (decide (((b.toNat : Nat) : Int) < 65) || decide (((b.toNat : Nat) : Int) > 90)) with
    | true => rfl
    | false =>
      rw [cond_false, cond_false, ← List.not_all_eq_any_not]
      cases ((b :: r).all nameCh) <;> rfl
theorem ref_IsName.v (s : ByteArray) : ref_IsName.fn N s = some (isName s) := by
  rw [ref_IsName.clean]
  unfold isName
  have hsz := size_list s
  cases h : s.data.toList with
  | nil =>
    rw [h] at hsz
    have hsz : s.size = 0 := hsz
    have : s = ⟨#[]⟩ := by cases s with | mk a => congr 1; exact Array.ext' h
    subst this
    simp [isNameL, seq]
  | cons b r =>
    rw [h] at hsz
    have hsz : s.size = r.length + 1 := by simpa using hsz
    have g : (ByteArray.data s).getD 0 0 = b := getD_bytes (pre := []) (r := r) h
    have c1 : decide (0 < (s.size : Int)) = true := by rw [decide_eq_true_iff]; omega
    have c2 : seq s (⟨#[]⟩ : ByteArray) = false := by unfold seq; rw [h]; rfl
    have c3 : decide ((s.size : Int) > 8) = decide (r.length + 1 > 8) := by rw [decide_eq_decide]; omega
    simp only [g, c1, c2, c3, Bool.true_or, cond_true, Bool.false_or, isNameL]
    by_cases h8 : r.length + 1 > 8
    · simp [h8]
    have h8' : decide (r.length + 1 > 8) = false := decide_eq_false h8
    simp only [h8', Bool.false_or, cond_false]
    have hl := scan_list (l := s.data.toList) (fun c => !nameCh c) (some false) (some true) (fun k i => ref_IsName.l0 N s k i)
      (fun k => by show ref_IsName.l0 N s (k + 1) (s.data.toList.length : Int) = _; rw [← size_list s]; exact ref_IsName.l0_nil N s k)
      (fun k pre x r' h' => by show ref_IsName.l0 N s (k + 1) (pre.length : Int) = _; rw [ref_IsName.l0_cons N s k h' (by omega)]; simp [nameCh]) N (by rw [h]; simp; omega)
    rw [hl, h]
    have hb : (b :: r).any (fun c => !nameCh c) = !((b :: r).all nameCh) := List.not_all_eq_any_not.symm
    rw [hb]
    by_cases q1 : ((b.toNat : Nat) : Int) < 65
    · by_cases q2 : ((b.toNat : Nat) : Int) < 48
      · have : nameCh b = false := by simp [nameCh]; omega
        simp [q1, this, show ¬ 48 ≤ b.toNat by omega]
      · by_cases q3 : ((b.toNat : Nat) : Int) > 57
        · have : nameCh b = false := by simp [nameCh]; omega
          simp [q1, this, show ¬ b.toNat ≤ 57 by omega]
        · simp [q1, show (48 : Int) ≤ b.toNat by omega, show (b.toNat : Int) ≤ 57 by omega]
    · by_cases q2 : ((b.toNat : Nat) : Int) > 90
      · have : nameCh b = false := by simp [nameCh]; omega
        simp [q2, this, show ¬ b.toNat ≤ 57 by omega]
      · simp only [q1, q2, decide_false, Bool.or_false, cond_false, show decide (((b.toNat : Nat) : Int) ≤ 57) = false by rw [decide_eq_false_iff_not]; omega, Bool.and_false]
        cases ((b :: r).all nameCh) <;> rfl
theorem owner_Name.v (s : ByteArray) : owner_Name.fn N s = some (isName s) := by
  rw [owner_Name.eq, sector_Name.eq, chart_Name.v hN]; rfl
end

/-! ### clearances -/
abbrev Clr := ByteArray × Int × Int × ByteArray
def kindOf (s : ByteArray) : Int :=
  bif seq (⟨#[72, 69, 73, 71, 72, 84]⟩ : ByteArray) s then 0 else bif seq (⟨#[72, 69, 65, 68, 73, 78, 71]⟩ : ByteArray) s then 1 else bif seq (⟨#[83, 80, 69, 69, 68]⟩ : ByteArray) s then 2 else
  bif seq (⟨#[68, 73, 82, 69, 67, 84]⟩ : ByteArray) s then 3 else bif seq (⟨#[72, 79, 76, 68]⟩ : ByteArray) s then 4 else bif seq (⟨#[67, 79, 78, 84, 65, 67, 84]⟩ : ByteArray) s then 5 else bif seq (⟨#[76, 65, 78, 68]⟩ : ByteArray) s then 6 else -1
theorem phrase_kind.v8 (M : Nat) (s : ByteArray) : phrase_kind.fn (M + 8) s =
    bif seq (⟨#[72, 69, 73, 71, 72, 84]⟩ : ByteArray) s then some 0 else bif seq (⟨#[72, 69, 65, 68, 73, 78, 71]⟩ : ByteArray) s then some 1 else bif seq (⟨#[83, 80, 69, 69, 68]⟩ : ByteArray) s then some 2 else
    bif seq (⟨#[68, 73, 82, 69, 67, 84]⟩ : ByteArray) s then some 3 else bif seq (⟨#[72, 79, 76, 68]⟩ : ByteArray) s then some 4 else bif seq (⟨#[67, 79, 78, 84, 65, 67, 84]⟩ : ByteArray) s then some 5 else
    bif seq (⟨#[76, 65, 78, 68]⟩ : ByteArray) s then some 6 else some (-1) := by kernel_rfl
theorem ref_free.v8 (M : Nat) (s : ByteArray) : ref_free.fn (M + 8) s =
    bif seq (⟨#[72, 69, 73, 71, 72, 84]⟩ : ByteArray) s then some false else bif seq (⟨#[72, 69, 65, 68, 73, 78, 71]⟩ : ByteArray) s then some false else bif seq (⟨#[83, 80, 69, 69, 68]⟩ : ByteArray) s then some false else
    bif seq (⟨#[68, 73, 82, 69, 67, 84]⟩ : ByteArray) s then some false else bif seq (⟨#[72, 79, 76, 68]⟩ : ByteArray) s then some false else bif seq (⟨#[67, 79, 78, 84, 65, 67, 84]⟩ : ByteArray) s then some false else
    bif seq (⟨#[76, 65, 78, 68]⟩ : ByteArray) s then some false else ((ref_IsName.fn (M + 8) s).bind fun r => some r) := by kernel_rfl
def plainW (s : ByteArray) : Bool := isName s && decide (kindOf s < 0)
def clearErr (c : Clr) : Int :=
  bif !plainW c.1 then 3 else bif decide (c.2.1 < 0) || decide (c.2.1 > 6) then 1 else
  bif decide (c.2.1 ≥ 3) then (bif !(c.2.2.1 == 0) || !plainW c.2.2.2 then 3 else 0) else
  bif !(seq c.2.2.2 (⟨#[]⟩ : ByteArray)) then 3 else bif decide (c.2.2.1 < 0) || decide (c.2.2.1 > List.getD [60000, 4095, 400] c.2.1.toNat 0) then 4 else 0

section
variable {N : Nat} (hN : 4611686018427387904 ≤ N)
include hN
theorem phrase_kind.v (s : ByteArray) : phrase_kind.fn N s = some (kindOf s) := by
  obtain ⟨M, rfl⟩ : ∃ M, N = M + 8 := ⟨N - 8, by omega⟩
  rw [phrase_kind.v8]
  unfold kindOf
  repeat (first | rfl | (generalize seq _ s = b; cases b <;> simp only [cond_true, cond_false]))
theorem phrase_plain.v (s : ByteArray) : phrase_plain.fn N s = some (plainW s) := by
  rw [phrase_plain.clean, owner_Name.v hN, phrase_kind.v hN]
  unfold plainW
  cases isName s <;> rfl
theorem ref_free.v (s : ByteArray) : ref_free.fn N s = some (plainW s) := by
  have hn := ref_IsName.v hN s
  obtain ⟨M, rfl⟩ : ∃ M, N = M + 8 := ⟨N - 8, by omega⟩
  rw [ref_free.v8, hn]
  unfold plainW kindOf
  cases isName s <;> repeat (first | rfl | (generalize seq _ s = b; cases b <;> simp only [cond_true, cond_false]))
theorem phrase_Check.v (c : Clr) : phrase_Check.fn N c = some (clearErr c) := by
  rw [phrase_Check.clean]
  simp only [phrase_plain.v hN, Option.bind_some]
  unfold clearErr
  cases plainW c.1 with
  | false => rfl
  | true =>
    simp only [Bool.not_true, cond_false]
    by_cases h1 : c.2.1 < 0
    · simp [h1]
    by_cases h2 : c.2.1 > 6
    · simp [h2]
    simp only [h1, h2, decide_false, Bool.or_false, cond_false]
    by_cases h3 : c.2.1 ≥ 3
    · simp only [h3, decide_true, cond_true]
      cases h4 : (c.2.2.1 == 0) <;> simp [h4]
      cases plainW c.2.2.2 <;> rfl
    · simp only [h3, decide_false, cond_false]
      cases seq c.2.2.2 ⟨#[]⟩ with
      | false => rfl
      | true =>
        simp only [Bool.not_true, cond_false, Nat.zero_add, Nat.mul_one, show decide (0 ≤ c.2.1) = true by rw [decide_eq_true_iff]; omega, show decide (c.2.1 < 3) = true by rw [decide_eq_true_iff]; omega, show decide (c.2.1.toNat < 3) = true by rw [decide_eq_true_iff]; omega, Bool.and_self, Bool.true_or, cond_true]
        cases (decide (c.2.2.1 < 0) || decide (c.2.2.1 > List.getD [60000, 4095, 400] c.2.1.toNat 0)) <;> rfl
theorem ref_ClearError.v (c : Clr) : ref_ClearError.fn N c = some (clearErr c) := by
  rw [ref_ClearError.clean]
  simp only [ref_free.v hN, Option.bind_some]
  unfold clearErr
  cases plainW c.1 with
  | false => rfl
  | true =>
    simp only [Bool.not_true, cond_false]
    by_cases h1 : c.2.1 < 0
    · simp [h1]
    by_cases h2 : c.2.1 > 6
    · simp [h2]
    simp only [h1, h2, decide_false, Bool.or_false, cond_false]
    have hk : c.2.1 = 0 ∨ c.2.1 = 1 ∨ c.2.1 = 2 ∨ c.2.1 = 3 ∨ c.2.1 = 4 ∨ c.2.1 = 5 ∨ c.2.1 = 6 := by omega
    generalize c.2.1 = kd at hk
    generalize c.2.2.1 = vl
    generalize hpl : plainW c.2.2.2 = pl
    generalize seq c.2.2.2 ⟨#[]⟩ = em
    rcases hk with rfl | rfl | rfl | rfl | rfl | rfl | rfl <;> cases hv : (vl == 0) <;> cases pl <;> cases em <;> simp [hv] <;> (try (simp at hv; subst hv; simp)) <;> (try (by_cases a1 : vl < 0 <;> simp [a1])) <;> (try (exact bif_some _ _ _))
end
/-! ### the quotient, rounded down -/
theorem tdivE (a b : Int) (hb : 0 < b) : (Int.tmod a b < 0 → Int.tdiv a b - 1 = a / b) ∧ (¬ Int.tmod a b < 0 → Int.tdiv a b = a / b) := by
  have h1 : b * (a / b) + a % b = a := Int.mul_ediv_add_emod a b
  have h2 := Int.emod_nonneg a (Int.ne_of_gt hb)
  have h3 := Int.emod_lt_of_pos a hb
  have h4 := Int.tdiv_eq_ediv (a := a) (b := b)
  have h5 := Int.mul_tdiv_add_tmod a b
  have hs : b.sign = 1 := Int.sign_eq_one_of_pos hb
  rw [hs] at h4
  by_cases hc : 0 ≤ a ∨ b ∣ a
  · rw [if_pos hc, Int.add_zero] at h4
    rw [h4] at h5 ⊢
    constructor
    · intro h; omega
    · intro _; rfl
  · rw [if_neg hc] at h4
    rw [h4] at h5 ⊢
    rw [Int.mul_add, Int.mul_one] at h5
    constructor
    · intro h; omega
    · intro h; omega
theorem edivB {a b B : Int} (hb : 0 < b) (h0 : -B ≤ a) (h1 : a ≤ B) (hB : 0 ≤ B) : -B ≤ a / b ∧ a / b ≤ B := by
  constructor
  · rw [Int.le_ediv_iff_mul_le hb]
    have : B ≤ B * b := by
      have := Int.mul_le_mul_of_nonneg_left (show 1 ≤ b by omega) hB
      rw [Int.mul_one] at this
      exact this
    rw [Int.neg_mul]
    omega
  · rcases Int.lt_or_le a 0 with h | h
    · have := Int.ediv_neg_of_neg_of_pos h hb
      omega
    · have := Int.ediv_le_self b h
      omega
theorem down_v (N : Nat) {a b : Int} (hb : 0 < b) (h0 : -20000000000 ≤ a) (h1 : a ≤ 20000000000) : effect_down.fn N (a, b) = some (a / b) := by
  obtain ⟨e1, e2⟩ := tdivE a b hb
  obtain ⟨q1, q2⟩ := edivB hb h0 h1 (by omega)
  have hne : (b != 0) = true := by simp; omega
  rw [effect_down.eq, hne, cond_true, cond_true]
  by_cases h : Int.tmod a b < 0
  · rw [decide_eq_true h, cond_true]
    have := e1 h
    rw [w_small (Int.tdiv a b) (by omega) (by omega), w_small _ (by omega) (by omega), this]
  · rw [decide_eq_false h, cond_false]
    have := e2 h
    rw [w_small (Int.tdiv a b) (by omega) (by omega), this]
theorem prodB {u d : Int} (h0 : -60000 ≤ u) (h1 : u ≤ 60000) (d0 : 0 ≤ d) (d1 : d ≤ 200000) : -12000000000 ≤ u * d ∧ u * d ≤ 12000000000 := by
  have a1 := Int.mul_le_mul_of_nonneg_right h1 d0
  have a2 := Int.mul_le_mul_of_nonneg_right h0 d0
  omega
/-! ### the climb -/
abbrev Kd := ByteArray × Int × Int × Int × Int × Int × Int
def upH (nowH to long : Int) (d : Int) : Int := nowH + ((to - nowH) * d) / long
def clbF (t0 nowH to long : Int) (n : Nd) : Nd := bif decide (n.1.1 < t0 + long) then ((n.1.1, (n.1.2.1, upH nowH to long (n.1.1 - t0))), n.2) else ((n.1.1, (n.1.2.1, to)), n.2)
structure ClbOk (l : List Nd) (c : Clr) (t0 : Int) (r5 : Nd) (long : Int) : Prop where
  tub : TubOk l
  now : r5.1.1 = t0
  lo : tm l 0 ≤ t0
  hi : t0 ≤ tm l (l.length - 1)
  h0 : 0 ≤ r5.1.2.2
  h1 : r5.1.2.2 ≤ 60000
  v0 : 0 ≤ c.2.2.1
  v1 : c.2.2.1 ≤ 60000
  l0 : 0 ≤ long
  l1 : long ≤ 60001
section
variable {N : Nat} (hN : 4611686018427387904 ≤ N) {l : List Nd} {c : Clr} {t0 : Int} (k : Kd) (p : Pt) (r1 r2 r3 r4 : Int) {r5 : Nd} {long : Int} (hC : ClbOk l c t0 r5 long)
include hC
theorem t0_b : 0 ≤ t0 ∧ t0 ≤ 200000 := by
  have hp := hC.tub.pos
  have a := hC.tub.time 0 hp
  have b := hC.tub.time (l.length - 1) (by omega)
  have := hC.lo
  have := hC.hi
  omega
include hN
theorem of_l3 {ta : List Nd} (hta : ∀ n, n ∈ ta → t0 < n.1.1 ∧ n.1.1 ≤ 200000) (hlen : ta.length ≤ 65) {acc : List Nd} (hacc : acc.length ≤ 100) :
    effect_Of.l3 N l c t0 k p r1 r2 r3 r4 r5 ta (long, 0) N 0 acc = bif decide (((acc ++ ta.map (clbF t0 r5.1.2.2 c.2.2.1 long)).length : Int) > 64) then some ([], 2) else some (acc ++ ta.map (clbF t0 r5.1.2.2 c.2.2.1 long), 0) := by
  have hb := t0_b hC
  have c0 := hC.h0
  have c1 := hC.h1
  have c2 := hC.v0
  have c3 := hC.v1
  have c4 := hC.l0
  have c5 := hC.l1
  refine list_loop (l := ta) (fun k' (s : List Nd) i => effect_Of.l3 N l c t0 k p r1 r2 r3 r4 r5 ta (long, 0) k' i s) (fun _ r s => bif decide (((s ++ r.map (clbF t0 r5.1.2.2 c.2.2.1 long)).length : Int) > 64) then some ([], 2) else some (s ++ r.map (clbF t0 r5.1.2.2 c.2.2.1 long), 0))
    (fun pre s => s.length ≤ 100 + pre.length) (fun k' s _ => ?_) (fun k' pre x r s hl hI ih => ?_) N acc (by simp; omega) (by omega)
  · show effect_Of.l3 N l c t0 k p r1 r2 r3 r4 r5 ta (long, 0) (k' + 1) (ta.length : Int) s = _
    rw [effect_Of.l3_nil, List.map_nil, List.append_nil]
  · have hlt := mid_lt hl
    obtain ⟨x1, x2⟩ := hta x (by rw [hl]; simp)
    have hcap : (decide ((s.length + 1) * 48 ≤ 140737488355328) && decide ((s.length + 1) ≤ maxLen)) = true := by rw [Bool.and_eq_true, decide_eq_true_iff, decide_eq_true_iff]; unfold maxLen; omega
    have he : w (r5.1.1 + long) = t0 + long := by rw [hC.now, w_small _ (by omega) (by omega)]
    have hd1 : w (c.2.2.1 - r5.1.2.2) = c.2.2.1 - r5.1.2.2 := w_small _ (by omega) (by omega)
    have hd2 : w (x.1.1 - r5.1.1) = x.1.1 - t0 := by rw [hC.now, w_small _ (by omega) (by omega)]
    obtain ⟨m1, m2⟩ := prodB (u := c.2.2.1 - r5.1.2.2) (d := x.1.1 - t0) (by omega) (by omega) (by omega) (by omega)
    have ih := ih (s ++ [clbF t0 r5.1.2.2 c.2.2.1 long x]) (by simp; omega)
    show effect_Of.l3 N l c t0 k p r1 r2 r3 r4 r5 ta (long, 0) (k' + 1) (pre.length : Int) s = bif decide (((s ++ (clbF t0 r5.1.2.2 c.2.2.1 long x :: r.map (clbF t0 r5.1.2.2 c.2.2.1 long))).length : Int) > 64) then some ([], 2) else some (s ++ (clbF t0 r5.1.2.2 c.2.2.1 long x :: r.map (clbF t0 r5.1.2.2 c.2.2.1 long)), 0)
    have e1 : s ++ (clbF t0 r5.1.2.2 c.2.2.1 long x :: r.map (clbF t0 r5.1.2.2 c.2.2.1 long)) = s ++ [clbF t0 r5.1.2.2 c.2.2.1 long x] ++ r.map (clbF t0 r5.1.2.2 c.2.2.1 long) := by simp
    rw [e1, ← ih, effect_Of.l3_cons N l c t0 k p r1 r2 r3 r4 r5 ta (long, 0) k' s hl (by omega), decide_eq_true hlt, cond_true, he, hd1, hd2, hcap]
    dsimp only
    unfold clbF
    by_cases hx : x.1.1 < t0 + long
    · obtain ⟨q1, q2⟩ := edivB (b := long) (B := 12000000000) (by omega) (by omega) m2 (by omega)
      rw [decide_eq_true hx, cond_true, cond_true, w_small _ (by omega) (by omega), down_v N (by omega) (by omega) (by omega), Option.bind_some, cond_true, w_small _ (by omega) (by omega)]
      rfl
    · rw [decide_eq_false hx, cond_false, cond_false, cond_true]
theorem of_l2 {ta : List Nd} (a12 : Nat) (pt : Nd) (hta : ∀ n, n ∈ ta.take a12 ++ [pt] ++ ta.drop a12 → t0 < n.1.1 ∧ n.1.1 ≤ 200000) (hlen : (ta.take a12 ++ [pt] ++ ta.drop a12).length ≤ 65) {acc : List Nd} (hacc : acc.length ≤ 100) :
    effect_Of.l2 N l c t0 k p r1 r2 r3 r4 r5 ta (long, 0) (a12 : Int) ta pt N 0 acc = bif decide (((acc ++ (ta.take a12 ++ [pt] ++ ta.drop a12).map (clbF t0 r5.1.2.2 c.2.2.1 long)).length : Int) > 64) then some ([], 2) else some (acc ++ (ta.take a12 ++ [pt] ++ ta.drop a12).map (clbF t0 r5.1.2.2 c.2.2.1 long), 0) := by
  have hb := t0_b hC
  have c0 := hC.h0
  have c1 := hC.h1
  have c2 := hC.v0
  have c3 := hC.v1
  have c4 := hC.l0
  have c5 := hC.l1
  have hE : (List.take (Int.toNat (a12 : Int)) ta) ++ [pt] ++ (List.drop (Int.toNat (a12 : Int)) ta) = ta.take a12 ++ [pt] ++ ta.drop a12 := by rw [Int.toNat_natCast]
  obtain ⟨L, hLd⟩ : ∃ L, L = ta.take a12 ++ [pt] ++ ta.drop a12 := ⟨_, rfl⟩
  rw [← hLd] at hta hlen hE ⊢
  refine list_loop (l := L) (fun k' (s : List Nd) i => effect_Of.l2 N l c t0 k p r1 r2 r3 r4 r5 ta (long, 0) (a12 : Int) ta pt k' i s) (fun _ r s => bif decide (((s ++ r.map (clbF t0 r5.1.2.2 c.2.2.1 long)).length : Int) > 64) then some ([], 2) else some (s ++ r.map (clbF t0 r5.1.2.2 c.2.2.1 long), 0))
    (fun pre s => s.length ≤ 100 + pre.length) (fun k' s _ => ?_) (fun k' pre x r s hl hI ih => ?_) N acc (by simp; omega) (by omega)
  · show effect_Of.l2 N l c t0 k p r1 r2 r3 r4 r5 ta (long, 0) (a12 : Int) ta pt (k' + 1) (L.length : Int) s = _
    have := effect_Of.l2_nil N l c t0 k p r1 r2 r3 r4 r5 ta (long, 0) (a12 : Int) ta pt k' s
    rw [hE] at this
    rw [this, List.map_nil, List.append_nil]
  · have hlt := mid_lt hl
    obtain ⟨x1, x2⟩ := hta x (by rw [hl]; simp)
    have hcap : (decide ((s.length + 1) * 48 ≤ 140737488355328) && decide ((s.length + 1) ≤ maxLen)) = true := by rw [Bool.and_eq_true, decide_eq_true_iff, decide_eq_true_iff]; unfold maxLen; omega
    have he : w (r5.1.1 + long) = t0 + long := by rw [hC.now, w_small _ (by omega) (by omega)]
    have hd1 : w (c.2.2.1 - r5.1.2.2) = c.2.2.1 - r5.1.2.2 := w_small _ (by omega) (by omega)
    have hd2 : w (x.1.1 - r5.1.1) = x.1.1 - t0 := by rw [hC.now, w_small _ (by omega) (by omega)]
    obtain ⟨m1, m2⟩ := prodB (u := c.2.2.1 - r5.1.2.2) (d := x.1.1 - t0) (by omega) (by omega) (by omega) (by omega)
    have ih := ih (s ++ [clbF t0 r5.1.2.2 c.2.2.1 long x]) (by simp; omega)
    show effect_Of.l2 N l c t0 k p r1 r2 r3 r4 r5 ta (long, 0) (a12 : Int) ta pt (k' + 1) (pre.length : Int) s = bif decide (((s ++ (clbF t0 r5.1.2.2 c.2.2.1 long x :: r.map (clbF t0 r5.1.2.2 c.2.2.1 long))).length : Int) > 64) then some ([], 2) else some (s ++ (clbF t0 r5.1.2.2 c.2.2.1 long x :: r.map (clbF t0 r5.1.2.2 c.2.2.1 long)), 0)
    have e1 : s ++ (clbF t0 r5.1.2.2 c.2.2.1 long x :: r.map (clbF t0 r5.1.2.2 c.2.2.1 long)) = s ++ [clbF t0 r5.1.2.2 c.2.2.1 long x] ++ r.map (clbF t0 r5.1.2.2 c.2.2.1 long) := by simp
    have hcons := effect_Of.l2_cons N l c t0 k p r1 r2 r3 r4 r5 ta (long, 0) (a12 : Int) ta pt k' s (pre := pre) (r := r) (x := x) (by rw [hE]; exact hl) (by rw [hE]; omega)
    rw [hE] at hcons
    rw [e1, ← ih, hcons, decide_eq_true hlt, cond_true, he, hd1, hd2, hcap]
    dsimp only
    unfold clbF
    by_cases hx : x.1.1 < t0 + long
    · obtain ⟨q1, q2⟩ := edivB (b := long) (B := 12000000000) (by omega) (by omega) m2 (by omega)
      rw [decide_eq_true hx, cond_true, cond_true, w_small _ (by omega) (by omega), down_v N (by omega) (by omega) (by omega), Option.bind_some, cond_true, w_small _ (by omega) (by omega)]
      rfl
    · rw [decide_eq_false hx, cond_false, cond_false, cond_true]
end
/-! ### the type, and the time of a climb -/
theorem bif_ex {α : Type} {b : Bool} {x y : Option α} (h1 : ∃ e, x = some e) (h2 : ∃ e, y = some e) : ∃ e, (bif b then x else y) = some e := by
  cases b
  · exact h2
  · exact h1
section
variable {N : Nat} (hN : 4611686018427387904 ≤ N)
include hN
theorem air_ex (k : Kd) : ∃ e, aircraft_Check.fn N k = some e := by
  rw [aircraft_Check.clean, chart_Name.v hN, Option.bind_some]
  refine bif_ex ⟨_, rfl⟩ (bif_ex ⟨_, rfl⟩ (bif_ex (bif_ex ⟨_, rfl⟩ (bif_ex ⟨_, rfl⟩ (bif_ex ⟨_, rfl⟩ ⟨_, rfl⟩))) (bif_ex (bif_ex ⟨_, rfl⟩ (bif_ex ⟨_, rfl⟩ (bif_ex ⟨_, rfl⟩ ⟨_, rfl⟩))) (bif_ex ⟨_, rfl⟩ (bif_ex ⟨_, rfl⟩ (bif_ex ⟨_, rfl⟩ ⟨_, rfl⟩))))))
theorem air_ok {k : Kd} (h : aircraft_Check.fn N k = some 0) : 1 ≤ k.2.2.2.1 ∧ 1 ≤ k.2.2.2.2.1 := by
  rw [aircraft_Check.clean, chart_Name.v hN, Option.bind_some] at h
  cases h1 : isName k.1 with
  | false => rw [h1] at h; cases h
  | true =>
    rw [h1, Bool.not_true, cond_false] at h
    cases h2 : ((decide (k.2.1 < 0)) || (decide (k.2.1 > 3))) with
    | true => rw [h2] at h; cases h
    | false =>
      rw [h2, cond_false] at h
      cases h3 : ((decide (k.2.2.1 < 1)) || (decide (k.2.2.1 > 60000))) with
      | true => rw [h3] at h; cases h
      | false =>
        rw [h3, cond_false] at h
        cases h4 : ((decide (k.2.2.2.1 < 1)) || (decide (k.2.2.2.1 > 200))) with
        | true => rw [h4] at h; cases h
        | false =>
          rw [h4, cond_false] at h
          cases h5 : ((decide (k.2.2.2.2.1 < 1)) || (decide (k.2.2.2.2.1 > 200))) with
          | true => rw [h5] at h; cases h
          | false =>
            rw [Bool.or_eq_false_iff, decide_eq_false_iff_not, decide_eq_false_iff_not] at h4 h5
            omega
theorem divu_b {a b : Int} (ha : 0 ≤ a) (ha1 : a ≤ 60000) (hb : 1 ≤ b) : ∃ q, num_DivUp.fn N (a, b) = some (q, 0) ∧ 0 ≤ q ∧ q ≤ 60001 := by
  have hq : Int.tdiv a b = a / b := Int.tdiv_eq_ediv_of_nonneg ha
  obtain ⟨q1, q2⟩ := edivB (b := b) (B := 60000) (by omega) (by omega) ha1 (by omega)
  have q0 : 0 ≤ a / b := Int.ediv_nonneg ha (by omega)
  have hd : num_DivDown.fn N (a, b) = some (a / b, 0) := by
    have e1 : (b == 0) = false := by rw [beq_eq_false_iff_ne]; omega
    have e2 : (a == (-9223372036854775808)) = false := by rw [beq_eq_false_iff_ne]; omega
    have e3 : (b != 0) = true := by rw [bne, e1]; rfl
    have e4 : decide (a < 0) = false := decide_eq_false (by omega)
    have e5 : decide (b < 0) = false := decide_eq_false (by omega)
    rw [num_DivDown.clean, e1, cond_false, e2, Bool.false_and, cond_false, e3, cond_true, cond_true, e4, e5, hq, w_small (a / b) (by omega) (by omega)]
    show (bif _ && !(false == false) then _ else _) = _
    rw [show (!(false == false)) = false from rfl, Bool.and_false, cond_false]
  have e3 : (b != 0) = true := by simp; omega
  rw [num_DivUp.clean, hd, Option.bind_some, e3, Bool.true_or, cond_true]
  cases (((a / b, (0 : Int)).2 == 0) && (!((Int.tmod a b) == 0))) with
  | true => exact ⟨_, rfl, by show 0 ≤ w (a / b + 1); rw [w_small _ (by omega) (by omega)]; omega, by show w (a / b + 1) ≤ _; rw [w_small _ (by omega) (by omega)]; omega⟩
  | false => exact ⟨_, rfl, q0, by show a / b ≤ _; omega⟩
theorem climb_ex {k : Kd} (hk : aircraft_Check.fn N k = some 0) (a b : Int) : ∃ long e, aircraft_Climb.fn N (k, a, b) = some (long, e) ∧ (e = 0 → 0 ≤ a ∧ a ≤ 60000 ∧ 0 ≤ b ∧ b ≤ 60000 ∧ 0 ≤ long ∧ long ≤ 60001) := by
  obtain ⟨k1, k2⟩ := air_ok hN hk
  have hh : aircraft_heights.fn N (k, [a, b]) = bif (decide (a < 0)) || (decide (a > 60000)) then some 4 else bif (decide (b < 0)) || (decide (b > 60000)) then some 4 else bif decide (a > k.2.2.1) then some 20 else bif decide (b > k.2.2.1) then some 20 else some 0 := by
    obtain ⟨M, rfl⟩ : ∃ M, N = M + 3 := ⟨N - 3, by omega⟩
    have q1 := aircraft_heights.l0_cons (M + 3) k [a, b] (M + 2) (pre := []) (x := a) (r := [b]) rfl (by simp)
    have q2 := aircraft_heights.l0_cons (M + 3) k [a, b] (M + 1) (pre := [a]) (x := b) (r := []) rfl (by simp)
    have q3 := aircraft_heights.l0_nil (M + 3) k [a, b] M
    have u1 := aircraft_heights.l1_cons (M + 3) k [a, b] (M + 2) (pre := []) (x := a) (r := [b]) rfl (by simp)
    have u2 := aircraft_heights.l1_cons (M + 3) k [a, b] (M + 1) (pre := [a]) (x := b) (r := []) rfl (by simp)
    have u3 := aircraft_heights.l1_nil (M + 3) k [a, b] M
    have n1 : ((([] : List Int).length : Nat) : Int) + 1 = ((([a] : List Int).length : Nat) : Int) := rfl
    have n2 : ((([a] : List Int).length : Nat) : Int) + 1 = ((([a, b] : List Int).length : Nat) : Int) := rfl
    rw [n1, q2, n2, q3] at q1
    rw [n1, u2, n2, u3] at u1
    have u1' : aircraft_heights.l1 (M + 3) k [a, b] (M + 3) 0 = _ := u1
    rw [u1'] at q1
    rw [aircraft_heights.eq, hk, Option.bind_some, show (!((0 : Int) == 0)) = false from rfl, cond_false]
    exact q1
  rw [aircraft_Climb.eq, hh]
  cases h1 : ((decide (a < 0)) || (decide (a > 60000))) with
  | true => exact ⟨0, 4, rfl, fun h => by cases h⟩
  | false =>
    cases h2 : ((decide (b < 0)) || (decide (b > 60000))) with
    | true => exact ⟨0, 4, rfl, fun h => by cases h⟩
    | false =>
      rw [Bool.or_eq_false_iff, decide_eq_false_iff_not, decide_eq_false_iff_not] at h1 h2
      cases decide (a > k.2.2.1) with
      | true => exact ⟨0, 20, rfl, fun h => by cases h⟩
      | false =>
        cases decide (b > k.2.2.1) with
        | true => exact ⟨0, 20, rfl, fun h => by cases h⟩
        | false =>
          rw [cond_false, cond_false, cond_false, cond_false, Option.bind_some, show (!((0 : Int) == 0)) = false from rfl, cond_false]
          by_cases hge : b ≥ a
          · obtain ⟨q, e, e1, e2⟩ := divu_b hN (a := b - a) (b := k.2.2.2.1) (by omega) (by omega) k1
            rw [decide_eq_true hge, cond_true, w_small (b - a) (by omega) (by omega), e, Option.bind_some]
            exact ⟨q, 0, rfl, fun _ => ⟨by omega, by omega, by omega, by omega, e1, e2⟩⟩
          · obtain ⟨q, e, e1, e2⟩ := divu_b hN (a := a - b) (b := k.2.2.2.2.1) (by omega) (by omega) k2
            rw [decide_eq_false hge, cond_false, w_small (a - b) (by omega) (by omega), e, Option.bind_some]
            exact ⟨q, 0, rfl, fun _ => ⟨by omega, by omega, by omega, by omega, e1, e2⟩⟩
end
/-! ### the tube after a climb -/
def insB (e long : Int) : List Nd → Bool
  | [] => false
  | x :: _ => !(x.1.1 == e) && decide (long > 0)
theorem half_v {a b : Nat} (h : a + b ≤ 1000000) : w (shrI .u64 (IntKind.wrap .u64 (w ((a : Int) + (b : Int)))) 1) = ((((a + b) / 2 : Nat)) : Int) := by
  rw [w_small ((a : Int) + b) (by omega) (by omega)]
  have e1 : IntKind.wrap .u64 ((a : Int) + b) = (a : Int) + b := by
    simp only [IntKind.wrap, IntKind.bits, IntKind.signed]
    simp
    omega
  rw [e1]
  have e2 : shrI .u64 ((a : Int) + b) 1 = ((((a + b) / 2 : Nat)) : Int) := by
    unfold shrI
    have : (2 ^ (min (Int.toNat 1) (IntKind.bits .u64)) : Int) = 2 := rfl
    rw [this, Int.fdiv_eq_ediv_of_nonneg _ (by omega)]
    omega
  rw [e2]
  exact w_small _ (by omega) (by omega)
section
variable {N : Nat} (hN : 4611686018427387904 ≤ N) {l : List Nd} {c : Clr} {t0 : Int} (k : Kd) (p : Pt) (r1 r2 r3 r4 : Int) {r5 : Nd} {long : Int} (hC : ClbOk l c t0 r5 long)
include hC hN
theorem of_l1 {lo hi hd : List Nd} (hlo : ∀ n, n ∈ lo → n.1.1 < t0 + long) (hhi : ∀ n, n ∈ hi → t0 + long ≤ n.1.1) (hta : ∀ n, n ∈ lo ++ hi → t0 < n.1.1 ∧ n.1.1 ≤ tm l (l.length - 1)) (hlen : (lo ++ hi).length ≤ 64) : ∀ (m kk a b : Nat), b - a ≤ m → m < kk → a ≤ lo.length → lo.length ≤ b → b ≤ (lo ++ hi).length →
    effect_Of.l1 N l c t0 k p r1 r2 r3 r4 r5 hd (lo ++ hi) (long, 0) kk (a : Int) (b : Int) = bif insB (t0 + long) long hi then effect_Of.l2 N l c t0 k p r1 r2 r3 r4 r5 (lo ++ hi) (long, 0) (lo.length : Int) (lo ++ hi) (nodeAt N l (t0 + long)) N 0 (hd ++ [r5]) else effect_Of.l3 N l c t0 k p r1 r2 r3 r4 r5 (lo ++ hi) (long, 0) N 0 (hd ++ [r5]) := by
  have hb := t0_b hC
  have c4 := hC.l0
  have c5 := hC.l1
  have tlast := hC.tub.time (l.length - 1) (by have := hC.tub.pos; omega)
  have he : w (r5.1.1 + long) = t0 + long := by rw [hC.now, w_small _ (by omega) (by omega)]
  intro m
  induction m with
  | zero =>
    intro kk a b hm hk ha hb2 hbl
    obtain ⟨kk, rfl⟩ : ∃ k', kk = k' + 1 := ⟨kk - 1, by omega⟩
    obtain rfl : a = lo.length := by omega
    obtain rfl : b = lo.length := by omega
    rw [effect_Of.l1_clean, decide_eq_false (Int.lt_irrefl _), cond_false, he]
    cases hi with
    | nil =>
      have c1 : decide ((lo.length : Int) < ((lo ++ []).length : Int)) = false := decide_eq_false (by simp)
      rw [c1]
      simp -implicitDefEqProofs only [Bool.not_false, Bool.or_true, cond_true, cond_false, Option.bind_some, Bool.false_and, Bool.and_false, insB]
    | cons x r =>
      have c1 : decide ((lo.length : Int) < ((lo ++ x :: r).length : Int)) = true := decide_eq_true (by simp; omega)
      have c0 : decide (0 ≤ (lo.length : Int)) = true := decide_eq_true (by omega)
      have c2 : decide (lo.length < (lo ++ x :: r).length) = true := decide_eq_true (by simp)
      have hg : List.getD (lo ++ x :: r) lo.length ((0, ((0, 0), 0)), (0, 0)) = x := getD_mid lo x r _
      obtain ⟨x1, x2⟩ := hta x (by simp)
      have hx := hhi x (by simp)
      have hw : (w (x.1.1 - (t0 + long)) == 0) = (x.1.1 == t0 + long) := by
        rw [w_small _ (by omega) (by omega), Bool.eq_iff_iff, beq_iff_eq, beq_iff_eq]; omega
      rw [Int.toNat_natCast, c1, c0, c2, hg]
      simp -implicitDefEqProofs only [Bool.and_self, Bool.true_or, cond_true, effect_course_climb_1.eq, Option.bind_some, hw, Bool.true_and, Bool.and_true]
      show (bif insB (t0 + long) long (x :: r) then _ else _) = _
      cases hins : insB (t0 + long) long (x :: r) with
      | false => rfl
      | true =>
        unfold insB at hins
        rw [Bool.and_eq_true, Bool.not_eq_true', beq_eq_false_iff_ne, decide_eq_true_iff] at hins
        obtain ⟨en, _⟩ := at_node hN hC.tub (t := t0 + long) (by have := hC.lo; omega) (by omega)
        have hcap : (decide (((lo ++ x :: r).length + 1) * 48 ≤ 140737488355328) && decide ((lo ++ x :: r).length + 1 ≤ maxLen)) = true := by rw [Bool.and_eq_true, decide_eq_true_iff, decide_eq_true_iff]; unfold maxLen; omega
        have c3 : decide ((lo.length : Int) ≤ ((lo ++ x :: r).length : Int)) = true := decide_eq_true (by simp; omega)
        rw [cond_true, cond_true, slices_Clone_TubeNode.v N _ (by omega), Option.bind_some, tube_Point.eq, en, Option.bind_some, Option.bind_some, c3, hcap]
        rfl
  | succ m ih =>
    intro kk a b hm hk ha hb2 hbl
    by_cases hab : a = b
    · exact ih kk a b (by omega) (by omega) ha hb2 hbl
    obtain ⟨kk, rfl⟩ : ∃ k', kk = k' + 1 := ⟨kk - 1, by omega⟩
    have hin : (decide (0 ≤ ((((a + b) / 2 : Nat)) : Int)) && decide (((((a + b) / 2 : Nat)) : Int) < ((lo ++ hi).length : Int))) = true := by
      rw [Bool.and_eq_true, decide_eq_true_iff, decide_eq_true_iff]; omega
    have hin2 : decide ((a + b) / 2 < (lo ++ hi).length) = true := decide_eq_true (by omega)
    rw [effect_Of.l1_clean, half_v (by omega), decide_eq_true (by omega), cond_true, hin, cond_true, Int.toNat_natCast, hin2, cond_true, effect_course_climb_1.eq, Option.bind_some, he]
    have hmem : List.getD (lo ++ hi) ((a + b) / 2) ((0, ((0, 0), 0)), (0, 0)) ∈ lo ++ hi := by
      rw [List.getD_eq_getElem?_getD, List.getElem?_eq_getElem (by omega)]
      exact List.getElem_mem _
    have hr := hta _ hmem
    by_cases hc : (a + b) / 2 < lo.length
    · have hg : List.getD (lo ++ hi) ((a + b) / 2) ((0, ((0, 0), 0)), (0, 0)) ∈ lo := by
        have : List.getD (lo ++ hi) ((a + b) / 2) ((0, ((0, 0), 0)), (0, 0)) = lo[(a + b) / 2] := by simp [List.getD, List.getElem?_append_left hc, hc]
        rw [this]
        exact List.getElem_mem _
      have hq := hlo _ hg
      generalize List.getD (lo ++ hi) ((a + b) / 2) ((0, ((0, 0), 0)), (0, 0)) = x at hr hq
      have hw1 : w (((((a + b) / 2 : Nat)) : Int) + 1) = (((a + b) / 2 + 1 : Nat) : Int) := by rw [w_small _ (by omega) (by omega)]; omega
      rw [w_small _ (by omega) (by omega), decide_eq_true (by omega), cond_true, hw1]
      exact ih kk _ b (by omega) (by omega) (by omega) hb2 hbl
    · have hlt' : (a + b) / 2 - lo.length < hi.length := by rw [List.length_append] at hbl; omega
      have hg : List.getD (lo ++ hi) ((a + b) / 2) ((0, ((0, 0), 0)), (0, 0)) ∈ hi := by
        have : List.getD (lo ++ hi) ((a + b) / 2) ((0, ((0, 0), 0)), (0, 0)) = hi[(a + b) / 2 - lo.length] := by simp [List.getD, List.getElem?_append_right (Nat.not_lt.1 hc), hlt']
        rw [this]
        exact List.getElem_mem _
      have hq := hhi _ hg
      generalize List.getD (lo ++ hi) ((a + b) / 2) ((0, ((0, 0), 0)), (0, 0)) = x at hr hq
      rw [w_small _ (by omega) (by omega), decide_eq_false (by omega), cond_false]
      exact ih kk a _ (by omega) (by omega) ha (by omega) (by omega)
end
section
variable {N : Nat} (hN : 4611686018427387904 ≤ N) {l : List Nd} {c : Clr} {t0 : Int} (k : Kd) (p : Pt) (r1 r2 r3 r4 : Int) {r5 : Nd}
include hN
theorem of_l0 (hl : l.length ≤ 64) : effect_Of.l0 N l c t0 k p r1 r2 r3 r4 r5 N 0 [] [] = effect_Of.l0 N l c t0 k p r1 r2 r3 r4 r5 1 (l.length : Int) (l.filter (tlt t0)) (l.filter fun n => decide (n.1.1 > t0)) := by
  refine list_loop (l := l) (fun k' (s : List Nd × List Nd) i => effect_Of.l0 N l c t0 k p r1 r2 r3 r4 r5 k' i s.1 s.2) (fun _ r s => effect_Of.l0 N l c t0 k p r1 r2 r3 r4 r5 1 (l.length : Int) (s.1 ++ r.filter (tlt t0)) (s.2 ++ r.filter fun n => decide (n.1.1 > t0)))
    (fun pre s => s.1.length ≤ pre.length ∧ s.2.length ≤ pre.length) (fun k' s _ => ?_) (fun k' pre x r s hl' hI ih => ?_) N ([], []) ⟨Nat.le_refl _, Nat.le_refl _⟩ (by omega)
  · show effect_Of.l0 N l c t0 k p r1 r2 r3 r4 r5 (k' + 1) (l.length : Int) s.1 s.2 = _
    rw [effect_Of.l0_nil, List.filter_nil, List.append_nil, List.filter_nil, List.append_nil, effect_Of.l0_nil]
  · have hlt := mid_lt hl'
    obtain ⟨i1, i2⟩ := hI
    have cap1 : (decide ((s.1.length + 1) * 48 ≤ 140737488355328) && decide ((s.1.length + 1) ≤ maxLen)) = true := by rw [Bool.and_eq_true, decide_eq_true_iff, decide_eq_true_iff]; unfold maxLen; omega
    have cap2 : (decide ((s.2.length + 1) * 48 ≤ 140737488355328) && decide ((s.2.length + 1) ≤ maxLen)) = true := by rw [Bool.and_eq_true, decide_eq_true_iff, decide_eq_true_iff]; unfold maxLen; omega
    show effect_Of.l0 N l c t0 k p r1 r2 r3 r4 r5 (k' + 1) (pre.length : Int) s.1 s.2 = _
    rw [effect_Of.l0_cons N l c t0 k p r1 r2 r3 r4 r5 k' s.1 s.2 hl' (by omega), cap1, cap2]
    by_cases h1 : x.1.1 < t0
    · rw [decide_eq_true h1, cond_true, cond_true, List.filter_cons_of_pos (by unfold tlt; exact decide_eq_true h1), List.filter_cons_of_neg (by simp; omega)]
      have := ih (s.1 ++ [x], s.2) ⟨by simp; omega, by simp; omega⟩
      simp only [List.append_assoc, List.singleton_append] at this
      exact this
    · by_cases h2 : x.1.1 > t0
      · rw [decide_eq_false h1, cond_false, decide_eq_true h2, cond_true, cond_true, List.filter_cons_of_neg (by unfold tlt; simp; omega), List.filter_cons_of_pos (by simpa using h2)]
        have := ih (s.1, s.2 ++ [x]) ⟨by simp; omega, by simp; omega⟩
        simp only [List.append_assoc, List.singleton_append] at this
        exact this
      · rw [decide_eq_false h1, cond_false, decide_eq_false h2, cond_false, List.filter_cons_of_neg (by unfold tlt; simp; omega), List.filter_cons_of_neg (by simp; omega)]
        exact ih s ⟨by simp; omega, by simp; omega⟩
end
/-! ### the nodes after a climb -/
def hdN (l : List Nd) (t0 : Int) : List Nd := l.filter (tlt t0)
def tlN (l : List Nd) (t0 : Int) : List Nd := l.filter fun n => decide (n.1.1 > t0)
def loN (l : List Nd) (t0 e : Int) : List Nd := (tlN l t0).filter (tlt e)
def hiN (l : List Nd) (t0 e : Int) : List Nd := (tlN l t0).filter fun n => !tlt e n
noncomputable def taN (N : Nat) (l : List Nd) (t0 long : Int) : List Nd := bif insB (t0 + long) long (hiN l t0 (t0 + long)) then loN l t0 (t0 + long) ++ [nodeAt N l (t0 + long)] ++ hiN l t0 (t0 + long) else loN l t0 (t0 + long) ++ hiN l t0 (t0 + long)
noncomputable def allN (N : Nat) (l : List Nd) (t0 long : Int) : List Nd := hdN l t0 ++ [nodeAt N l t0] ++ taN N l t0 long
def clbA (t0 nowH to long : Int) (n : Nd) : Nd := bif decide (n.1.1 > t0) then clbF t0 nowH to long n else n
theorem tl_split {l : List Nd} (hl : TubOk l) (t0 e : Int) : tlN l t0 = loN l t0 e ++ hiN l t0 e := (sp_lt ((tub_sorted hl).filter _) e).symm
theorem lo_mem {l : List Nd} {t0 e : Int} {n : Nd} (h : n ∈ loN l t0 e) : n ∈ l ∧ t0 < n.1.1 ∧ n.1.1 < e := by
  unfold loN tlN tlt at h
  rw [List.mem_filter, List.mem_filter] at h
  simp only [decide_eq_true_eq] at h
  exact ⟨h.1.1, h.1.2, h.2⟩
theorem hi_mem {l : List Nd} {t0 e : Int} {n : Nd} (h : n ∈ hiN l t0 e) : n ∈ l ∧ t0 < n.1.1 ∧ e ≤ n.1.1 := by
  unfold hiN tlN tlt at h
  rw [List.mem_filter, List.mem_filter] at h
  simp only [decide_eq_true_eq, Bool.not_eq_true', decide_eq_false_iff_not] at h
  exact ⟨h.1.1, h.1.2, by omega⟩
theorem hd_mem {l : List Nd} {t0 : Int} {n : Nd} (h : n ∈ hdN l t0) : n ∈ l ∧ n.1.1 < t0 := by
  unfold hdN tlt at h
  rw [List.mem_filter] at h
  simp only [decide_eq_true_eq] at h
  exact h
theorem ins_ok {e long : Int} {hi : List Nd} (h : insB e long hi = true) : 0 < long ∧ ∃ x r, hi = x :: r ∧ x.1.1 ≠ e := by
  cases hi with
  | nil => cases h
  | cons x r =>
    unfold insB at h
    rw [Bool.and_eq_true, Bool.not_eq_true', beq_eq_false_iff_ne, decide_eq_true_iff] at h
    exact ⟨h.2, x, r, rfl, h.1⟩
section
variable {N : Nat} (hN : 4611686018427387904 ≤ N) {l : List Nd} {c : Clr} {t0 : Int} {long : Int} (hC : ClbOk l c t0 (nodeAt N l t0) long)
include hC hN
theorem ta_mem {n : Nd} (h : n ∈ taN N l t0 long) : t0 < n.1.1 ∧ n.1.1 ≤ tm l (l.length - 1) ∧ nodeAt N l n.1.1 = n := by
  have hlist : ∀ {n : Nd}, n ∈ loN l t0 (t0 + long) ∨ n ∈ hiN l t0 (t0 + long) → t0 < n.1.1 ∧ n.1.1 ≤ tm l (l.length - 1) ∧ nodeAt N l n.1.1 = n := by
    intro n h
    have : n ∈ l ∧ t0 < n.1.1 := by
      rcases h with h | h
      · have := lo_mem h; exact ⟨this.1, this.2.1⟩
      · have := hi_mem h; exact ⟨this.1, this.2.1⟩
    exact ⟨this.2, (tub_rng hC.tub this.1).2.1, node_ex hN hC.tub this.1⟩
  unfold taN at h
  cases hi : insB (t0 + long) long (hiN l t0 (t0 + long)) with
  | false =>
    rw [hi, cond_false, List.mem_append] at h
    exact hlist h
  | true =>
    rw [hi, cond_true, List.mem_append, List.mem_append, List.mem_singleton] at h
    rcases h with (h | h) | h
    · exact hlist (.inl h)
    · obtain ⟨q1, x, r, hx, hne⟩ := ins_ok hi
      have hxm := hi_mem (n := x) (by rw [hx]; simp)
      have hxr := tub_rng hC.tub hxm.1
      obtain ⟨_, et⟩ := at_node hN hC.tub (t := t0 + long) (by have := hC.lo; omega) (by omega)
      rw [h, et]
      exact ⟨by omega, by omega, rfl⟩
    · exact hlist (.inr h)
theorem all_mem {n : Nd} (h : n ∈ allN N l t0 long) : tm l 0 ≤ n.1.1 ∧ n.1.1 ≤ tm l (l.length - 1) ∧ nodeAt N l n.1.1 = n := by
  unfold allN at h
  rw [List.mem_append, List.mem_append, List.mem_singleton] at h
  rcases h with (h | h) | h
  · have := hd_mem h
    have hr := tub_rng hC.tub this.1
    exact ⟨hr.1, hr.2.1, node_ex hN hC.tub this.1⟩
  · obtain ⟨_, et⟩ := at_node hN hC.tub hC.lo hC.hi
    rw [h, et]
    exact ⟨hC.lo, hC.hi, rfl⟩
  · have h1 := ta_mem hN hC h
    have h2 := hC.lo
    exact ⟨by omega, h1.2.1, h1.2.2⟩
theorem all_map : (allN N l t0 long).map (clbA t0 (nodeAt N l t0).1.2.2 c.2.2.1 long) = hdN l t0 ++ [nodeAt N l t0] ++ (taN N l t0 long).map (clbF t0 (nodeAt N l t0).1.2.2 c.2.2.1 long) := by
  unfold allN
  rw [List.map_append, List.map_append]
  congr 1
  · congr 1
    · have : (hdN l t0).map (clbA t0 (nodeAt N l t0).1.2.2 c.2.2.1 long) = (hdN l t0).map id := List.map_congr_left fun n hn => by
        have := hd_mem hn
        unfold clbA
        rw [decide_eq_false (by omega)]
        rfl
      rw [this, List.map_id]
    · have et := hC.now
      unfold clbA
      rw [List.map_cons, List.map_nil, decide_eq_false (by omega)]
      rfl
  · refine List.map_congr_left fun n hn => ?_
    have := ta_mem hN hC hn
    unfold clbA
    rw [decide_eq_true (by omega)]
    rfl
theorem ta_len : (taN N l t0 long).length ≤ 65 := by
  have hs := tl_split hC.tub t0 (t0 + long)
  have h1 : (tlN l t0).length ≤ l.length := List.length_filter_le _ _
  have hl := hC.tub.len
  rw [hs, List.length_append] at h1
  unfold taN
  cases insB (t0 + long) long (hiN l t0 (t0 + long)) with
  | false => rw [cond_false, List.length_append]; omega
  | true => rw [cond_true, List.length_append, List.length_append, List.length_singleton]; omega
theorem Of_v {k : Kd} (h0 : tubE l = 0) (hc : clearErr c = 0) (hk : aircraft_Check.fn N k = some 0) (hkind : c.2.1 = 0) (hcl : aircraft_Climb.fn N (k, (nodeAt N l t0).1.2.2, c.2.2.1) = some (long, 0)) :
    effect_Of.fn N (l, c, t0, k, (0, 0)) = bif decide ((((allN N l t0 long).map (clbA t0 (nodeAt N l t0).1.2.2 c.2.2.1 long)).length : Int) > 64) then some ([], 2) else some ((allN N l t0 long).map (clbA t0 (nodeAt N l t0).1.2.2 c.2.2.1 long), 0) := by
  have hp := hC.tub.pos
  have hlen := hC.tub.len
  have hb := t0_b hC
  obtain ⟨en, et⟩ := at_node hN hC.tub hC.lo hC.hi
  have c1 : ((decide (0 ≤ ((l.length - 1 : Nat) : Int))) && (decide (((l.length - 1 : Nat) : Int) < (l.length : Int)))) = true := by rw [Bool.and_eq_true, decide_eq_true_iff, decide_eq_true_iff]; omega
  have c2 : ((decide (t0 < (((List.getD l 0 ((0, ((0, 0), 0)), (0, 0))).1).1))) || (decide (t0 > (((List.getD l (l.length - 1) ((0, ((0, 0), 0)), (0, 0))).1).1)))) = false := by
    rw [Bool.or_eq_false_iff, decide_eq_false_iff_not, decide_eq_false_iff_not]
    exact ⟨Int.not_lt.2 hC.lo, Int.not_lt.2 hC.hi⟩
  have hpt : ptE (0, 0) = 0 := rfl
  have hhd : (hdN l t0).length ≤ 64 := Nat.le_trans (List.length_filter_le _ _) hlen
  have hcap : (decide (((l.filter (tlt t0)).length + 1) * 48 ≤ 140737488355328) && decide (((l.filter (tlt t0)).length + 1) ≤ maxLen)) = true := by
    have : (l.filter (tlt t0)).length ≤ 64 := hhd
    rw [Bool.and_eq_true, decide_eq_true_iff, decide_eq_true_iff]; unfold maxLen; omega
  rw [effect_Of.clean, tubE_v hN, h0, Option.bind_some, show (!((0 : Int) == 0)) = false from rfl, cond_false, phrase_Check.v hN, hc, Option.bind_some, show (!((0 : Int) == 0)) = false from rfl, cond_false, hk, Option.bind_some, show (!((0 : Int) == 0)) = false from rfl, cond_false,
    ptE_v, hpt, Option.bind_some, show (!((0 : Int) == 0)) = false from rfl, cond_false, bchk (by rw [decide_eq_true_iff]; omega), last_ok hC.tub, Int.toNat_natCast, c1, Bool.true_or, cond_true, c2, cond_false, tube_Point.eq, en, Option.bind_some, Option.bind_some]
  dsimp only
  rw [of_l0 hN k (0, 0) 0 0 0 0 hlen, effect_Of.l0_nil, hcap, cond_true, hkind, show ((0 : Int) == 0) = true from rfl, cond_true, hcl, Option.bind_some]
  dsimp only
  rw [show (!((0 : Int) == 0)) = false from rfl, cond_false]
  have hs := tl_split hC.tub t0 (t0 + long)
  have hs' : (l.filter fun n => decide (n.1.1 > t0)) = loN l t0 (t0 + long) ++ hiN l t0 (t0 + long) := hs
  have hll : (loN l t0 (t0 + long) ++ hiN l t0 (t0 + long)).length ≤ 64 := by rw [← hs]; exact Nat.le_trans (List.length_filter_le _ _) hlen
  have hta : ∀ n, n ∈ loN l t0 (t0 + long) ++ hiN l t0 (t0 + long) → t0 < n.1.1 ∧ n.1.1 ≤ tm l (l.length - 1) := by
    intro n hn
    have : n ∈ l ∧ t0 < n.1.1 := by
      rcases List.mem_append.1 hn with h | h
      · have := lo_mem h; exact ⟨this.1, this.2.1⟩
      · have := hi_mem h; exact ⟨this.1, this.2.1⟩
    exact ⟨this.2, (tub_rng hC.tub this.1).2.1⟩
  have tlast := hC.tub.time (l.length - 1) (by omega)
  rw [hs', all_map hN hC]
  have h1 := of_l1 hN k (0, 0) 0 0 0 0 hC (lo := loN l t0 (t0 + long)) (hi := hiN l t0 (t0 + long)) (hd := l.filter (tlt t0)) (fun n hn => (lo_mem hn).2.2) (fun n hn => (hi_mem hn).2.2) hta hll (loN l t0 (t0 + long) ++ hiN l t0 (t0 + long)).length N 0 (loN l t0 (t0 + long) ++ hiN l t0 (t0 + long)).length (by omega) (by omega) (by omega) (by rw [List.length_append]; omega) (Nat.le_refl _)
  have h1' : effect_Of.l1 N l c t0 k (0, 0) 0 0 0 0 (nodeAt N l t0) (l.filter (tlt t0)) (loN l t0 (t0 + long) ++ hiN l t0 (t0 + long)) (long, 0) N 0 ((loN l t0 (t0 + long) ++ hiN l t0 (t0 + long)).length : Int) = _ := h1
  rw [h1']
  have hacc : (l.filter (tlt t0) ++ [nodeAt N l t0]).length ≤ 100 := by
    have : (l.filter (tlt t0)).length ≤ 64 := hhd
    rw [List.length_append, List.length_singleton]; omega
  have htk : (loN l t0 (t0 + long) ++ hiN l t0 (t0 + long)).take (loN l t0 (t0 + long)).length = loN l t0 (t0 + long) := List.take_left' rfl
  have hdr : (loN l t0 (t0 + long) ++ hiN l t0 (t0 + long)).drop (loN l t0 (t0 + long)).length = hiN l t0 (t0 + long) := List.drop_left' rfl
  cases hi : insB (t0 + long) long (hiN l t0 (t0 + long)) with
  | false =>
    have e : taN N l t0 long = loN l t0 (t0 + long) ++ hiN l t0 (t0 + long) := by unfold taN; rw [hi]; rfl
    rw [cond_false, e, of_l3 hN k (0, 0) 0 0 0 0 hC (fun n hn => by have := hta n hn; omega) (by omega) hacc]
    rfl
  | true =>
    have e : taN N l t0 long = loN l t0 (t0 + long) ++ [nodeAt N l (t0 + long)] ++ hiN l t0 (t0 + long) := by unfold taN; rw [hi]; rfl
    have hm := fun n hn => ta_mem hN hC (n := n) hn
    rw [e] at hm
    have hl65 := ta_len hN hC
    rw [e] at hl65
    rw [cond_true, e, of_l2 hN k (0, 0) 0 0 0 0 hC (loN l t0 (t0 + long)).length (nodeAt N l (t0 + long)) (by rw [htk, hdr]; intro n hn; have := hm n hn; omega) (by rw [htk, hdr]; exact hl65) hacc, htk, hdr]
    rfl
end
/-! ### the times -/
abbrev tms (L : List Nd) : List Int := L.map fun n => n.1.1
theorem idx_any {X : Type} (p : X → Bool) : ∀ (l : List X) (i : Int), 0 ≤ i → decide (idxL p l i ≥ 0) = l.any p
  | [], i, h => rfl
  | x :: r, i, h => by
    show decide ((bif p x then i else idxL p r (i + 1)) ≥ 0) = (p x || r.any p)
    cases p x with
    | true => rw [cond_true, decide_eq_true h, Bool.true_or]
    | false => rw [cond_false, Bool.false_or]; exact idx_any p r (i + 1) (by omega)
theorem cont_v {N : Nat} (hN : 4611686018427387904 ≤ N) (L : List Int) (x : Int) (h : L.length < 4611686018427387904) : slices_Contains_int.fn N (L, x) = some (L.any fun y => x == y) := by
  have := find_list (l := L) (fun y => x == y) (fun k i => slices_Index_int.l0 N L x k i) (fun k => slices_Index_int.l0_nil N L x k) (fun k pre y r hl => slices_Index_int.l0_cons N L x k hl h) N (by omega)
  rw [slices_Contains_int.eq, slices_Index_int.eq, this, Option.bind_some, idx_any _ _ _ (Int.le_refl _)]
theorem flt_ne {l : List Nd} (hl : TubOk l) (t0 : Int) : l.filter (fun n => !(n.1.1 == t0)) = hdN l t0 ++ tlN l t0 := by
  rw [← sp_lt ((tub_sorted hl).filter fun n => !(n.1.1 == t0)) t0, List.filter_filter, List.filter_filter]
  unfold hdN tlN
  congr 1
  · refine List.filter_congr fun n _ => ?_
    unfold tlt
    rw [Bool.eq_iff_iff]
    simp
    omega
  · refine List.filter_congr fun n _ => ?_
    unfold tlt
    rw [Bool.eq_iff_iff]
    simp
    omega
theorem sortI_eq {A B : List Int} (hp : A.Perm B) (hs : B.Pairwise fun x y => x < y) : sortI A = B := by
  have h1 : (sortI A).Pairwise fun x y => decide (x ≤ y) = true := List.pairwise_mergeSort (le := fun (x y : Int) => decide (x ≤ y)) (fun a b c h1 h2 => by simp at h1 h2 ⊢; omega) (fun a b => by simp; omega) A
  refine List.Perm.eq_of_pairwise (le := fun x y => decide (x ≤ y) = true) (fun a b _ _ h h' => by simp at h h'; omega) h1 (hs.imp fun h => by simp; omega) ((List.mergeSort_perm A _).trans hp)
section
variable {N : Nat} (hN : 4611686018427387904 ≤ N) {l : List Nd} {c : Clr} {t0 : Int} {long : Int} (hC : ClbOk l c t0 (nodeAt N l t0) long)
include hC hN
theorem all_sorted : (tms (allN N l t0 long)).Pairwise fun x y => x < y := by
  have hts := (tub_sorted hC.tub).filter fun n => decide (n.1.1 > t0)
  have et := hC.now
  rw [List.pairwise_map]
  unfold allN
  rw [List.pairwise_append, List.pairwise_append]
  refine ⟨⟨(tub_sorted hC.tub).filter _, List.pairwise_singleton _ _, fun a ha b hb => ?_⟩, ?_, fun a ha b hb => ?_⟩
  · have := hd_mem ha
    rw [List.mem_singleton] at hb
    rw [hb]; omega
  · unfold taN
    cases hi : insB (t0 + long) long (hiN l t0 (t0 + long)) with
    | false =>
      rw [cond_false, List.pairwise_append]
      exact ⟨hts.filter _, hts.filter _, fun a ha b hb => by have := lo_mem ha; have := hi_mem hb; omega⟩
    | true =>
      obtain ⟨q1, x, r, hx, hne⟩ := ins_ok hi
      have hxm := hi_mem (n := x) (by rw [hx]; simp)
      have hxr := tub_rng hC.tub hxm.1
      obtain ⟨_, ee⟩ := at_node hN hC.tub (t := t0 + long) (by have := hC.lo; omega) (by omega)
      have hsx : (hiN l t0 (t0 + long)).Pairwise fun x y => x.1.1 < y.1.1 := hts.filter _
      have hgt : ∀ n, n ∈ hiN l t0 (t0 + long) → t0 + long < n.1.1 := by
        intro n hn
        rw [hx] at hn hsx
        rw [List.pairwise_cons] at hsx
        rcases List.mem_cons.1 hn with rfl | hn
        · omega
        · have := hsx.1 n hn; omega
      rw [cond_true, List.pairwise_append, List.pairwise_append]
      refine ⟨⟨hts.filter _, List.pairwise_singleton _ _, fun a ha b hb => ?_⟩, hsx, fun a ha b hb => ?_⟩
      · have := lo_mem ha
        rw [List.mem_singleton] at hb
        rw [hb]; omega
      · have := hgt b hb
        rcases List.mem_append.1 ha with ha | ha
        · have := lo_mem ha; omega
        · rw [List.mem_singleton] at ha
          rw [ha]; omega
  · have := ta_mem hN hC hb
    rcases List.mem_append.1 ha with ha | ha
    · have := hd_mem ha; omega
    · rw [List.mem_singleton] at ha
      rw [ha]; omega
theorem ins_law : insB (t0 + long) long (hiN l t0 (t0 + long)) = ((decide (t0 + long < tm l (l.length - 1))) && (!((tms (hdN l t0 ++ tlN l t0) ++ [t0]).any fun y => t0 + long == y))) := by
  have hs := tl_split hC.tub t0 (t0 + long)
  have hp := hC.tub.pos
  have c4 := hC.l0
  have hts := (tub_sorted hC.tub).filter fun n => decide (n.1.1 > t0)
  have hsx : (hiN l t0 (t0 + long)).Pairwise fun x y => x.1.1 < y.1.1 := hts.filter _
  rw [Bool.eq_iff_iff, Bool.and_eq_true, decide_eq_true_iff, Bool.not_eq_true', List.any_eq_false]
  constructor
  · intro h
    obtain ⟨q1, x, r, hx, hne⟩ := ins_ok h
    have hxm := hi_mem (n := x) (by rw [hx]; simp)
    have hxr := tub_rng hC.tub hxm.1
    refine ⟨by omega, fun y hy => ?_⟩
    rw [beq_iff_eq]
    intro hye
    rcases List.mem_append.1 hy with hy | hy
    · obtain ⟨n, hn, rfl⟩ := List.mem_map.1 hy
      rcases List.mem_append.1 hn with hn | hn
      · have := hd_mem hn; omega
      · rw [hs] at hn
        rcases List.mem_append.1 hn with hn | hn
        · have := lo_mem hn; omega
        · rw [hx] at hn hsx
          rw [List.pairwise_cons] at hsx
          rcases List.mem_cons.1 hn with rfl | hn
          · omega
          · have := hsx.1 n hn; omega
    · rw [List.mem_singleton] at hy; omega
  · rintro ⟨h1, h2⟩
    have hlast : l[l.length - 1]'(by omega) ∈ l := List.getElem_mem _
    have hlt : (l[l.length - 1]'(by omega)).1.1 = tm l (l.length - 1) := by
      unfold tm
      rw [List.getD_eq_getElem?_getD, List.getElem?_eq_getElem (by omega)]
      rfl
    have hin : l[l.length - 1]'(by omega) ∈ hiN l t0 (t0 + long) := by
      unfold hiN tlN tlt
      rw [List.mem_filter, List.mem_filter]
      simp only [decide_eq_true_eq, Bool.not_eq_true', decide_eq_false_iff_not]
      exact ⟨⟨hlast, by omega⟩, by omega⟩
    cases hx : hiN l t0 (t0 + long) with
    | nil => rw [hx] at hin; cases hin
    | cons x r =>
      have hne : t0 + long ≠ x.1.1 := by
        have := h2 x.1.1 (by
          refine List.mem_append_left _ (List.mem_map.2 ⟨x, ?_, rfl⟩)
          rw [hs, hx]
          simp)
        rw [beq_iff_eq] at this
        exact this
      have hpos : long > 0 := by
        have := h2 t0 (List.mem_append_right _ (List.mem_singleton.2 rfl))
        rw [beq_iff_eq] at this
        omega
      unfold insB
      rw [Bool.and_eq_true, Bool.not_eq_true', beq_eq_false_iff_ne, decide_eq_true_iff]
      exact ⟨fun h => hne h.symm, hpos⟩
theorem all_perm : (bif insB (t0 + long) long (hiN l t0 (t0 + long)) then tms (hdN l t0 ++ tlN l t0) ++ [t0] ++ [t0 + long] else tms (hdN l t0 ++ tlN l t0) ++ [t0]).Perm (tms (allN N l t0 long)) := by
  have hs := tl_split hC.tub t0 (t0 + long)
  have et := hC.now
  unfold allN taN
  cases hi : insB (t0 + long) long (hiN l t0 (t0 + long)) with
  | false =>
    rw [cond_false, cond_false, List.perm_iff_count]
    intro x
    simp only [List.map_append, List.map_cons, List.map_nil, List.count_append, et, hs]
    omega
  | true =>
    obtain ⟨q1, y, r, hx, hne⟩ := ins_ok hi
    have hxm := hi_mem (n := y) (by rw [hx]; simp)
    have hxr := tub_rng hC.tub hxm.1
    obtain ⟨_, ee⟩ := at_node hN hC.tub (t := t0 + long) (by have := hC.lo; omega) (by omega)
    rw [cond_true, cond_true, List.perm_iff_count]
    intro x
    simp only [List.map_append, List.map_cons, List.map_nil, List.count_append, et, ee, hs]
    omega
end
/-! ### the law's loops -/
theorem prodC {u d : Int} (h0 : -70000 ≤ u) (h1 : u ≤ 70000) (d0 : 0 ≤ d) (d1 : d ≤ 200000) : -14000000000 ≤ u * d ∧ u * d ≤ 14000000000 := by
  have a1 := Int.mul_le_mul_of_nonneg_right h1 d0
  have a2 := Int.mul_le_mul_of_nonneg_right h0 d0
  omega
section
variable {N : Nat} (hN : 4611686018427387904 ≤ N) {l : List Nd} {c : Clr} {t0 : Int} {long : Int} (hC : ClbOk l c t0 (nodeAt N l t0) long)
include hC hN
theorem h_l5 (r2 : List Nd × Int) (a6 a7 a8 a10 a11 : Int) (A : List Int) (k16 : Nat) (i : Int) (r18 : Nd × Int) {d : Int} (hx : List.getD (sortI A) (Int.toNat i) 0 = t0 + d) (hd0 : 0 < d) (hd1 : d < long) (hd2 : d ≤ 200000) :
    ∀ (m kk : Nat) (h : Int), h + m = upH (nodeAt N l t0).1.2.2 c.2.2.1 long d → (if c.2.2.1 < (nodeAt N l t0).1.2.2 then c.2.2.1 else (nodeAt N l t0).1.2.2) ≤ h → m < kk →
      law_EffectClimbs.l5 N l c t0 r2 long a6 a7 a8 (nodeAt N l t0).1.2.2 a10 a11 A k16 i r18 kk h = law_EffectClimbs.j4 N l c t0 r2 long a6 a7 a8 (nodeAt N l t0).1.2.2 a10 a11 A k16 i r18 (upH (nodeAt N l t0).1.2.2 c.2.2.1 long d) := by
  have c0 := hC.h0
  have c1 := hC.h1
  have c2 := hC.v0
  have c3 := hC.v1
  have c4 := hC.l0
  have c5 := hC.l1
  have hb := t0_b hC
  have hpl : 0 < long := by omega
  have hD := prodC (u := c.2.2.1 - (nodeAt N l t0).1.2.2) (d := d) (by omega) (by omega) (by omega) (by omega)
  have hF1 : (c.2.2.1 - (nodeAt N l t0).1.2.2) * d / long ≤ 60000 := by
    refine Int.ediv_le_of_le_mul hpl ?_
    have a1 := Int.mul_le_mul_of_nonneg_right (show c.2.2.1 - (nodeAt N l t0).1.2.2 ≤ 60000 by omega) (show 0 ≤ d by omega)
    omega
  have hF2 : -60000 ≤ (c.2.2.1 - (nodeAt N l t0).1.2.2) * d / long := by
    rw [Int.le_ediv_iff_mul_le hpl]
    have a2 := Int.mul_le_mul_of_nonneg_right (show -60000 ≤ c.2.2.1 - (nodeAt N l t0).1.2.2 by omega) (show 0 ≤ d by omega)
    omega
  have hw2 : w ((w (c.2.2.1 - (nodeAt N l t0).1.2.2)) * (w (List.getD (sortI A) (Int.toNat i) 0 - t0))) = (c.2.2.1 - (nodeAt N l t0).1.2.2) * d := by
    rw [hx, w_small (c.2.2.1 - (nodeAt N l t0).1.2.2) (by omega) (by omega), show t0 + d - t0 = d by omega, w_small d (by omega) (by omega), w_small _ (by omega) (by omega)]
  have hfl : ∀ q : Int, q * long ≤ (c.2.2.1 - (nodeAt N l t0).1.2.2) * d ↔ q ≤ (c.2.2.1 - (nodeAt N l t0).1.2.2) * d / long := fun q => (Int.le_ediv_iff_mul_le hpl).symm
  unfold upH
  intro m
  induction m with
  | zero =>
    intro kk h hm hlo hk
    obtain ⟨kk, rfl⟩ : ∃ k', kk = k' + 1 := ⟨kk - 1, by omega⟩
    have hq := hfl (h + 1 - (nodeAt N l t0).1.2.2)
    obtain ⟨m1, m2⟩ := prodC (u := h + 1 - (nodeAt N l t0).1.2.2) (d := long) (by omega) (by omega) (by omega) (by omega)
    have hw1 : w ((w ((w (h + 1)) - (nodeAt N l t0).1.2.2)) * long) = (h + 1 - (nodeAt N l t0).1.2.2) * long := by
      rw [w_small (h + 1) (by omega) (by omega), w_small (h + 1 - (nodeAt N l t0).1.2.2) (by omega) (by omega), w_small _ (by omega) (by omega)]
    have hno : ¬ (h + 1 - (nodeAt N l t0).1.2.2) * long ≤ (c.2.2.1 - (nodeAt N l t0).1.2.2) * d := by rw [hq]; omega
    rw [law_EffectClimbs.l5_succ, hw1, hw2, decide_eq_false hno, cond_false, show h = (nodeAt N l t0).1.2.2 + (c.2.2.1 - (nodeAt N l t0).1.2.2) * d / long by omega]
  | succ m ih =>
    intro kk h hm hlo hk
    obtain ⟨kk, rfl⟩ : ∃ k', kk = k' + 1 := ⟨kk - 1, by omega⟩
    have hlo2 : -60000 ≤ h - (nodeAt N l t0).1.2.2 := by
      split at hlo <;> omega
    have hq := hfl (h + 1 - (nodeAt N l t0).1.2.2)
    obtain ⟨m1, m2⟩ := prodC (u := h + 1 - (nodeAt N l t0).1.2.2) (d := long) (by omega) (by omega) (by omega) (by omega)
    have hw0 : w (h + 1) = h + 1 := w_small _ (by omega) (by omega)
    have hw1 : w ((w ((w (h + 1)) - (nodeAt N l t0).1.2.2)) * long) = (h + 1 - (nodeAt N l t0).1.2.2) * long := by
      rw [hw0, w_small (h + 1 - (nodeAt N l t0).1.2.2) (by omega) (by omega), w_small _ (by omega) (by omega)]
    have hyes : (h + 1 - (nodeAt N l t0).1.2.2) * long ≤ (c.2.2.1 - (nodeAt N l t0).1.2.2) * d := by rw [hq]; omega
    rw [law_EffectClimbs.l5_succ, hw1, hw2, decide_eq_true hyes, cond_true, hw0]
    exact ih kk (h + 1) (by omega) (by omega) (by omega)
theorem j4_v (r2 : List Nd × Int) (a6 a7 a8 a9 a10 a11 : Int) (A : List Int) (k16 : Nat) {i : Nat} {n : Nd} {h : Int} (hr : r2.1[i]? = some ((n.1.1, (n.1.2.1, h)), n.2)) (hi : i < 1000) :
    law_EffectClimbs.j4 N l c t0 r2 long a6 a7 a8 a9 a10 a11 A k16 (i : Int) (n, 0) h = law_EffectClimbs.l3 N l c t0 r2 long a6 a7 a8 a9 a10 a11 A k16 ((i : Int) + 1) := by
  obtain ⟨M, hM⟩ : ∃ M, N = M + 1 := ⟨N - 1, by omega⟩
  have hlt : i < r2.1.length := (List.getElem?_eq_some_iff.1 hr).1
  have hg : List.getD r2.1 i ((0, ((0, 0), 0)), (0, 0)) = ((n.1.1, (n.1.2.1, h)), n.2) := by rw [List.getD_eq_getElem?_getD, hr]; rfl
  have c1 : ((decide (0 ≤ (i : Int))) && (decide ((i : Int) < (r2.1.length : Int)))) = true := by rw [Bool.and_eq_true, decide_eq_true_iff, decide_eq_true_iff]; omega
  rw [law_EffectClimbs.j4_eq N l c t0 r2 long a6 a7 a8 a9 a10 a11 A k16 _ _ h hM, c1, cond_true, Int.toNat_natCast, decide_eq_true hlt, cond_true, hg, w_small ((i : Int) + 1) (by omega) (by omega)]
  simp -implicitDefEqProofs only [beq_self_eq_true, Bool.and_self, Bool.not_true, cond_false]
theorem l3_v (h0 : tubE l = 0) (r2 : List Nd × Int) (hr2 : r2.1 = (allN N l t0 long).map (clbA t0 (nodeAt N l t0).1.2.2 c.2.2.1 long)) (a6 a7 a8 a10 a11 : Int) (A : List Int) (hA : sortI A = tms (allN N l t0 long)) :
    law_EffectClimbs.l3 N l c t0 r2 long a6 a7 a8 (nodeAt N l t0).1.2.2 a10 a11 A N 0 = some true := by
  have c4 := hC.l0
  have c5 := hC.l1
  have hb := t0_b hC
  have hlenM : (allN N l t0 long).length ≤ 200 := by
    have h1 := ta_len hN hC
    have h2 : (hdN l t0).length ≤ l.length := List.length_filter_le _ _
    have h3 := hC.tub.len
    unfold allN
    rw [List.length_append, List.length_append, List.length_singleton]; omega
  have hlenA : (sortI A).length = (allN N l t0 long).length := by rw [hA, List.length_map]
  refine list_loop (σ := Unit) (l := sortI A) (fun k' _ i => law_EffectClimbs.l3 N l c t0 r2 long a6 a7 a8 (nodeAt N l t0).1.2.2 a10 a11 A k' i) (fun _ _ _ => some true) (fun _ _ => True) (fun k' _ _ => law_EffectClimbs.l3_nil N l c t0 r2 long a6 a7 a8 _ a10 a11 A k') (fun k' pre x r _ hl _ ih => ?_) N () trivial (by omega)
  have hlt := mid_lt hl
  have ih : law_EffectClimbs.l3 N l c t0 r2 long a6 a7 a8 (nodeAt N l t0).1.2.2 a10 a11 A k' ((pre.length : Int) + 1) = some true := ih () trivial
  have hi : pre.length < (allN N l t0 long).length := by omega
  obtain ⟨n, hn⟩ : ∃ n, (allN N l t0 long)[pre.length]? = some n := ⟨_, List.getElem?_eq_getElem hi⟩
  have hnm : n ∈ allN N l t0 long := List.mem_of_getElem? hn
  have hx : x = n.1.1 := by
    have h1 : (sortI A)[pre.length]? = some x := by rw [hl]; simp
    rw [hA, List.getElem?_map, hn] at h1
    simpa using h1.symm
  obtain ⟨n1, n2, n3⟩ := all_mem hN hC hnm
  have hout : r2.1[pre.length]? = some (clbA t0 (nodeAt N l t0).1.2.2 c.2.2.1 long n) := by rw [hr2, List.getElem?_map, hn]; rfl
  obtain ⟨en, _⟩ := at_node hN hC.tub n1 n2
  have hAt : tube_At.fn N (l, x) = some (n, 0) := by
    rw [hx, tube_At.eq, tubE_v hN, h0, Option.bind_some, show (!((0 : Int) == 0)) = false from rfl, cond_false, en, Option.bind_some, n3]
  have hgx : List.getD (sortI A) (Int.toNat (pre.length : Int)) 0 = x := by rw [Int.toNat_natCast]; exact mid_get hl
  have tl := hC.tub.time (l.length - 1) (by have := hC.tub.pos; omega)
  have hend : w (t0 + long) = t0 + long := w_small _ (by omega) (by omega)
  show law_EffectClimbs.l3 N l c t0 r2 long a6 a7 a8 (nodeAt N l t0).1.2.2 a10 a11 A (k' + 1) (pre.length : Int) = some true
  rw [law_EffectClimbs.l3_cons N l c t0 r2 long a6 a7 a8 (nodeAt N l t0).1.2.2 a10 a11 A k' hl (by omega), decide_eq_true hlt, cond_true, hAt, Option.bind_some, hend]
  by_cases h1 : x > t0
  · have hca : clbA t0 (nodeAt N l t0).1.2.2 c.2.2.1 long n = clbF t0 (nodeAt N l t0).1.2.2 c.2.2.1 long n := by unfold clbA; rw [decide_eq_true (by omega), cond_true]
    rw [hca] at hout
    unfold clbF at hout
    by_cases h2 : x ≥ t0 + long
    · rw [decide_eq_true h1, decide_eq_true h2, Bool.and_self, cond_true]
      rw [decide_eq_false (by omega), cond_false] at hout
      rw [j4_v hN hC r2 a6 a7 a8 _ a10 a11 A k' hout (by omega)]
      exact ih
    · rw [decide_eq_true h1, decide_eq_false h2, Bool.and_false, cond_false, cond_true]
      rw [decide_eq_true (by omega), cond_true] at hout
      have hd : List.getD (sortI A) (Int.toNat (pre.length : Int)) 0 = t0 + (n.1.1 - t0) := by rw [hgx]; omega
      have hpl : 0 < long := by omega
      have c0 := hC.h0
      have c1 := hC.h1
      have c2 := hC.v0
      have c3 := hC.v1
      have hup : (if c.2.2.1 < (nodeAt N l t0).1.2.2 then c.2.2.1 else (nodeAt N l t0).1.2.2) ≤ upH (nodeAt N l t0).1.2.2 c.2.2.1 long (n.1.1 - t0) := by
        unfold upH
        split
        · have : c.2.2.1 - (nodeAt N l t0).1.2.2 ≤ (c.2.2.1 - (nodeAt N l t0).1.2.2) * (n.1.1 - t0) / long := by
            rw [Int.le_ediv_iff_mul_le hpl]
            exact Int.mul_le_mul_of_nonpos_left (show c.2.2.1 - (nodeAt N l t0).1.2.2 ≤ 0 by omega) (by omega)
          omega
        · have : 0 ≤ (c.2.2.1 - (nodeAt N l t0).1.2.2) * (n.1.1 - t0) / long := Int.ediv_nonneg (Int.mul_nonneg (by omega) (by omega)) (by omega)
          omega
      have hup2 : upH (nodeAt N l t0).1.2.2 c.2.2.1 long (n.1.1 - t0) ≤ 120000 := by
        unfold upH
        have : (c.2.2.1 - (nodeAt N l t0).1.2.2) * (n.1.1 - t0) / long ≤ 60000 := by
          refine Int.ediv_le_of_le_mul hpl ?_
          have a1 := Int.mul_le_mul_of_nonneg_right (show c.2.2.1 - (nodeAt N l t0).1.2.2 ≤ 60000 by omega) (show 0 ≤ n.1.1 - t0 by omega)
          omega
        omega
      have hmin : 0 ≤ (if c.2.2.1 < (nodeAt N l t0).1.2.2 then c.2.2.1 else (nodeAt N l t0).1.2.2) := by split <;> omega
      rw [h_l5 hN hC r2 a6 a7 a8 a10 a11 A k' _ (n, 0) hd (by omega) (by omega) (by omega) (upH (nodeAt N l t0).1.2.2 c.2.2.1 long (n.1.1 - t0) - (if c.2.2.1 < (nodeAt N l t0).1.2.2 then c.2.2.1 else (nodeAt N l t0).1.2.2)).toNat N _ (by omega) (Int.le_refl _) (by omega), j4_v hN hC r2 a6 a7 a8 _ a10 a11 A k' hout (by omega)]
      exact ih
  · have hca : clbA t0 (nodeAt N l t0).1.2.2 c.2.2.1 long n = n := by unfold clbA; rw [decide_eq_false (by omega), cond_false]
    rw [hca] at hout
    rw [decide_eq_false h1, Bool.false_and, cond_false, cond_false]
    have := j4_v hN hC r2 a6 a7 a8 (nodeAt N l t0).1.2.2 a10 a11 A k' (i := pre.length) (n := n) (h := n.1.2.2) hout (by omega)
    dsimp only
    rw [this]
    exact ih
end
/-! ### the law -/
section
variable {N : Nat} (hN : 4611686018427387904 ≤ N)
include hN
theorem Of_e {l : List Nd} {c : Clr} {t0 : Int} {k : Kd} {long e : Int} (h0 : tubE l = 0) (hlo : tm l 0 ≤ t0) (hhi : t0 ≤ tm l (l.length - 1)) (hc : clearErr c = 0) (hk : aircraft_Check.fn N k = some 0) (hkind : c.2.1 = 0) (hcl : aircraft_Climb.fn N (k, (nodeAt N l t0).1.2.2, c.2.2.1) = some (long, e)) (he : e ≠ 0) :
    effect_Of.fn N (l, c, t0, k, (0, 0)) = some ([], e) := by
  have hT := tub_ok h0
  have hp := hT.pos
  have hlen := hT.len
  obtain ⟨en, et⟩ := at_node hN hT hlo hhi
  have c1 : ((decide (0 ≤ ((l.length - 1 : Nat) : Int))) && (decide (((l.length - 1 : Nat) : Int) < (l.length : Int)))) = true := by rw [Bool.and_eq_true, decide_eq_true_iff, decide_eq_true_iff]; omega
  have c2 : ((decide (t0 < (((List.getD l 0 ((0, ((0, 0), 0)), (0, 0))).1).1))) || (decide (t0 > (((List.getD l (l.length - 1) ((0, ((0, 0), 0)), (0, 0))).1).1)))) = false := by
    rw [Bool.or_eq_false_iff, decide_eq_false_iff_not, decide_eq_false_iff_not]
    exact ⟨Int.not_lt.2 hlo, Int.not_lt.2 hhi⟩
  have hpt : ptE (0, 0) = 0 := rfl
  have hhd : (l.filter (tlt t0)).length ≤ 64 := Nat.le_trans (List.length_filter_le _ _) hlen
  have hcap : (decide (((l.filter (tlt t0)).length + 1) * 48 ≤ 140737488355328) && decide (((l.filter (tlt t0)).length + 1) ≤ maxLen)) = true := by
    rw [Bool.and_eq_true, decide_eq_true_iff, decide_eq_true_iff]; unfold maxLen; omega
  have hne : (e == 0) = false := beq_eq_false_iff_ne.2 he
  rw [effect_Of.clean, tubE_v hN, h0, Option.bind_some, show (!((0 : Int) == 0)) = false from rfl, cond_false, phrase_Check.v hN, hc, Option.bind_some, show (!((0 : Int) == 0)) = false from rfl, cond_false, hk, Option.bind_some, show (!((0 : Int) == 0)) = false from rfl, cond_false,
    ptE_v, hpt, Option.bind_some, show (!((0 : Int) == 0)) = false from rfl, cond_false, bchk (by rw [decide_eq_true_iff]; omega), last_ok hT, Int.toNat_natCast, c1, Bool.true_or, cond_true, c2, cond_false, tube_Point.eq, en, Option.bind_some, Option.bind_some]
  dsimp only
  rw [of_l0 hN k (0, 0) 0 0 0 0 hlen, effect_Of.l0_nil, hcap, cond_true, hkind, show ((0 : Int) == 0) = true from rfl, cond_true, hcl, Option.bind_some]
  dsimp only
  rw [hne]
  rfl
theorem llaw_l1 {l : List Nd} (hlen : l.length ≤ 64) (c : Clr) (t0 : Int) (r2 : List Nd × Int) (a5 a6 a7 a8 a9 a10 a11 : Int) :
    law_EffectClimbs.l1 N l c t0 r2 a5 a6 a7 a8 a9 a10 a11 N 0 [] = law_EffectClimbs.l1 N l c t0 r2 a5 a6 a7 a8 a9 a10 a11 1 (l.length : Int) (tms (l.filter fun n => !(n.1.1 == t0))) := by
  refine list_loop (l := l) (fun k' (s : List Int) i => law_EffectClimbs.l1 N l c t0 r2 a5 a6 a7 a8 a9 a10 a11 k' i s) (fun _ r s => law_EffectClimbs.l1 N l c t0 r2 a5 a6 a7 a8 a9 a10 a11 1 (l.length : Int) (s ++ tms (r.filter fun n => !(n.1.1 == t0))))
    (fun pre s => s.length ≤ pre.length) (fun k' s _ => ?_) (fun k' pre x r s hl' hI ih => ?_) N [] (Nat.le_refl _) (by omega)
  · show law_EffectClimbs.l1 N l c t0 r2 a5 a6 a7 a8 a9 a10 a11 (k' + 1) (l.length : Int) s = _
    rw [law_EffectClimbs.l1_nil, show (List.filter (fun n : Nd => !(n.1.1 == t0)) []) = [] from rfl, show s ++ tms [] = s from List.append_nil s, law_EffectClimbs.l1_nil]
  · have hlt := mid_lt hl'
    have cap1 : (decide ((s.length + 1) * 8 ≤ 140737488355328) && decide ((s.length + 1) ≤ maxLen)) = true := by rw [Bool.and_eq_true, decide_eq_true_iff, decide_eq_true_iff]; unfold maxLen; omega
    show law_EffectClimbs.l1 N l c t0 r2 a5 a6 a7 a8 a9 a10 a11 (k' + 1) (pre.length : Int) s = _
    rw [law_EffectClimbs.l1_cons N l c t0 r2 a5 a6 a7 a8 a9 a10 a11 k' s hl' (by omega), cap1]
    cases hx : (!(x.1.1 == t0)) with
    | true =>
      rw [cond_true, cond_true, List.filter_cons_of_pos (p := fun n : Nd => !(n.1.1 == t0)) hx, show tms (x :: List.filter (fun n : Nd => !(n.1.1 == t0)) r) = x.1.1 :: tms (List.filter (fun n : Nd => !(n.1.1 == t0)) r) from rfl]
      have := ih (s ++ [x.1.1]) (by simp; omega)
      simp only [List.append_assoc, List.singleton_append] at this
      exact this
    | false =>
      rw [cond_false, List.filter_cons_of_neg (p := fun n : Nd => !(n.1.1 == t0)) (by rw [hx]; decide)]
      exact ih s (by simp; omega)
theorem law_ok {l : List Nd} {c : Clr} {t0 long : Int} (hC : ClbOk l c t0 (nodeAt N l t0) long) (h0 : tubE l = 0) (r2 : List Nd × Int)
    (hr2 : r2 = bif decide ((((allN N l t0 long).map (clbA t0 (nodeAt N l t0).1.2.2 c.2.2.1 long)).length : Int) > 64) then ([], 2) else ((allN N l t0 long).map (clbA t0 (nodeAt N l t0).1.2.2 c.2.2.1 long), 0)) (a6 a7 a8 a10 a11 : Int) :
    law_EffectClimbs.j0 N l c t0 r2 0 long a6 a7 a8 (nodeAt N l t0).1.2.2 a10 a11 = some true := by
  obtain ⟨M, hM⟩ : ∃ M, N = M + 1 := ⟨N - 1, by omega⟩
  have hp := hC.tub.pos
  have hlen := hC.tub.len
  have hb := t0_b hC
  have c4 := hC.l0
  have c5 := hC.l1
  have hend : w (t0 + long) = t0 + long := w_small _ (by omega) (by omega)
  have hT : (tms (l.filter fun n => !(n.1.1 == t0))).length ≤ 64 := by rw [List.length_map]; exact Nat.le_trans (List.length_filter_le _ _) hlen
  have cap1 : (decide (((tms (l.filter fun n => !(n.1.1 == t0))).length + 1) * 8 ≤ 140737488355328) && decide (((tms (l.filter fun n => !(n.1.1 == t0))).length + 1) ≤ maxLen)) = true := by rw [Bool.and_eq_true, decide_eq_true_iff, decide_eq_true_iff]; unfold maxLen; omega
  have cap2 : (decide (((tms (l.filter fun n => !(n.1.1 == t0)) ++ [t0]).length + 1) * 8 ≤ 140737488355328) && decide (((tms (l.filter fun n => !(n.1.1 == t0)) ++ [t0]).length + 1) ≤ maxLen)) = true := by
    rw [List.length_append, List.length_singleton, Bool.and_eq_true, decide_eq_true_iff, decide_eq_true_iff]; unfold maxLen; omega
  have c1 : ((decide (0 ≤ ((l.length - 1 : Nat) : Int))) && (decide (((l.length - 1 : Nat) : Int) < (l.length : Int)))) = true := by rw [Bool.and_eq_true, decide_eq_true_iff, decide_eq_true_iff]; omega
  have hcon := cont_v hN (tms (l.filter fun n => !(n.1.1 == t0)) ++ [t0]) (t0 + long) (by rw [List.length_append, List.length_singleton]; omega)
  have hins := ins_law hN hC
  have hperm := all_perm hN hC
  have hfe := flt_ne hC.tub t0
  rw [← hfe] at hins hperm
  obtain ⟨A, hAd⟩ : ∃ A, A = bif insB (t0 + long) long (hiN l t0 (t0 + long)) then tms (l.filter fun n => !(n.1.1 == t0)) ++ [t0] ++ [t0 + long] else tms (l.filter fun n => !(n.1.1 == t0)) ++ [t0] := ⟨_, rfl⟩
  rw [← hAd] at hperm
  have hA := sortI_eq hperm (all_sorted hN hC)
  have hstep : law_EffectClimbs.j0 N l c t0 r2 0 long a6 a7 a8 (nodeAt N l t0).1.2.2 a10 a11 = law_EffectClimbs.j2 N l c t0 r2 long a6 a7 a8 (nodeAt N l t0).1.2.2 a10 a11 A := by
    rw [law_EffectClimbs.j0_clean N l c t0 r2 0 long a6 a7 a8 _ a10 a11 hM, show (!((0 : Int) == 0)) = false from rfl, cond_false, llaw_l1 hN hlen, law_EffectClimbs.l1_nil, cap1, cond_true, last_ok hC.tub, c1, cond_true, Int.toNat_natCast, hend, hcon, cap2, hAd, hins]
    rw [show (List.getD l (l.length - 1) ((0, ((0, 0), 0)), (0, 0))).1.1 = tm l (l.length - 1) from rfl]
    generalize ((tms (l.filter fun n => !(n.1.1 == t0)) ++ [t0]).any fun y => t0 + long == y) = q
    cases decide (t0 + long < tm l (l.length - 1)) <;> cases q <;> rfl
  have hlA : (sortI A).length = (allN N l t0 long).length := by rw [hA, List.length_map]
  have hlA2 : A.length = (allN N l t0 long).length := by rw [← hlA]; exact (List.length_mergeSort _).symm
  have hlM : (allN N l t0 long).length ≤ 200 := by
    have h1 := ta_len hN hC
    have h2 : (hdN l t0).length ≤ l.length := List.length_filter_le _ _
    unfold allN
    rw [List.length_append, List.length_append, List.length_singleton]; omega
  rw [hstep, law_EffectClimbs.j2_clean N l c t0 r2 long a6 a7 a8 _ a10 a11 A hM, decide_eq_true (by omega), cond_true, hlA]
  rw [List.length_map] at hr2
  cases h64 : decide (((allN N l t0 long).length : Int) > 64) with
  | true =>
    rw [h64, cond_true] at hr2
    rw [hr2]
    rfl
  | false =>
    rw [h64, cond_false] at hr2
    have hl3 := l3_v hN hC h0 r2 (by rw [hr2]) a6 a7 a8 a10 a11 A hA
    have e1 : ((!(r2.2 == 0)) || (!((r2.1.length : Int) == ((allN N l t0 long).length : Int)))) = false := by
      rw [hr2]
      dsimp only
      rw [List.length_map]
      simp
    rw [cond_false, e1, cond_false, hl3]
theorem EffectClimbs.pureN (l : List Nd) (c : Clr) (t0 : Int) (k : Kd) : law_EffectClimbs.fn N (l, c, t0, k) = some true := by
  obtain ⟨M, hM⟩ : ∃ M, N = M + 1 := ⟨N - 1, by omega⟩
  have hj := fun (r : List Nd × Int) (a4 a5 a6 a7 a8 a9 a10 a11 : Int) => law_EffectClimbs.j0_clean N l c t0 r a4 a5 a6 a7 a8 a9 a10 a11 hM
  have bad : ∀ (e : Int), (e == 0) = false → effect_Of.fn N (l, c, t0, k, (0, 0)) = some ([], e) → law_effectError.fn N (l, c, t0, k, (0, 0)) = some e → ((effect_Of.fn N (l, c, t0, k, (0, 0))).bind fun r2 => (law_effectError.fn N (l, c, t0, k, (0, 0))).bind fun r3 => bif r3 == 0 then (tube_At.fn N (l, t0)).bind fun r23 => (aircraft_Climb.fn N (k, r23.1.1.2.2, c.2.2.1)).bind fun r24 => law_EffectClimbs.j0 N l c t0 r2 r24.2 r24.1 r23.1.1.1 r23.1.1.2.1.1 r23.1.1.2.1.2 r23.1.1.2.2 r23.1.2.1 r23.1.2.2 else law_EffectClimbs.j0 N l c t0 r2 r3 0 0 0 0 0 0 0) = some true := by
    intro e he h1 h2
    rw [h1, h2, Option.bind_some, Option.bind_some, he, cond_false, hj, he, Bool.not_false, cond_true]
    simp
  rw [law_EffectClimbs.eq, fact_v hN, Option.bind_some, show (!true) = false from rfl, cond_false]
  cases hkd : (c.2.1 == 0) with
  | false => rfl
  | true =>
    have hkind := beq_iff_eq.1 hkd
    rw [show (!true) = false from rfl, cond_false]
    cases h1 : (tubE l == 0) with
    | false => exact bad _ h1 (by rw [effect_Of.clean, tubE_v hN, Option.bind_some, h1]; rfl) (by rw [law_effectError.clean, tubE_v hN, Option.bind_some, h1]; rfl)
    | true =>
      have h0 := beq_iff_eq.1 h1
      have hT := tub_ok h0
      have hp := hT.pos
      have hlen := hT.len
      cases h2 : (clearErr c == 0) with
      | false =>
        exact bad _ h2 (by rw [effect_Of.clean, tubE_v hN, Option.bind_some, h1, show (!true) = false from rfl, cond_false, phrase_Check.v hN, Option.bind_some, h2]; rfl)
          (by rw [law_effectError.clean, tubE_v hN, Option.bind_some, h1, show (!true) = false from rfl, cond_false, ref_ClearError.v hN, Option.bind_some, h2]; rfl)
      | true =>
        have hc := beq_iff_eq.1 h2
        obtain ⟨ea, hea⟩ := air_ex hN k
        cases h3 : (ea == 0) with
        | false =>
          exact bad _ h3 (by rw [effect_Of.clean, tubE_v hN, Option.bind_some, h1, show (!true) = false from rfl, cond_false, phrase_Check.v hN, Option.bind_some, h2, show (!true) = false from rfl, cond_false, hea, Option.bind_some, h3]; rfl)
            (by rw [law_effectError.clean, tubE_v hN, Option.bind_some, h1, show (!true) = false from rfl, cond_false, ref_ClearError.v hN, Option.bind_some, h2, show (!true) = false from rfl, cond_false, hea, Option.bind_some, h3]; rfl)
        | true =>
          have hk0 := beq_iff_eq.1 h3
          rw [hk0] at hea
          have hpt : ptE (0, 0) = 0 := rfl
          have c1 : ((decide (0 ≤ ((l.length - 1 : Nat) : Int))) && (decide (((l.length - 1 : Nat) : Int) < (l.length : Int)))) = true := by rw [Bool.and_eq_true, decide_eq_true_iff, decide_eq_true_iff]; omega
          have cp : decide (0 < (l.length : Int)) = true := decide_eq_true (by omega)
          have hErr : law_effectError.fn N (l, c, t0, k, (0, 0)) = bif (decide (t0 < (((List.getD l 0 ((0, ((0, 0), 0)), (0, 0))).1).1))) || (decide (t0 > (((List.getD l (l.length - 1) ((0, ((0, 0), 0)), (0, 0))).1).1))) then some 12 else some 0 := by
            rw [law_effectError.clean, tubE_v hN, Option.bind_some, h1, show (!true) = false from rfl, cond_false, ref_ClearError.v hN, Option.bind_some, h2, show (!true) = false from rfl, cond_false, hea, Option.bind_some, show (!((0 : Int) == 0)) = false from rfl, cond_false,
              ptE_v, hpt, Option.bind_some, show (!((0 : Int) == 0)) = false from rfl, cond_false, cp, cond_true, last_ok hT, Int.toNat_natCast, c1, Bool.true_or, cond_true]
          cases h4 : ((decide (t0 < (((List.getD l 0 ((0, ((0, 0), 0)), (0, 0))).1).1))) || (decide (t0 > (((List.getD l (l.length - 1) ((0, ((0, 0), 0)), (0, 0))).1).1)))) with
          | true =>
            rw [h4, cond_true] at hErr
            exact bad 12 rfl (by
              rw [effect_Of.clean, tubE_v hN, Option.bind_some, h1, show (!true) = false from rfl, cond_false, phrase_Check.v hN, Option.bind_some, h2, show (!true) = false from rfl, cond_false, hea, Option.bind_some, show (!((0 : Int) == 0)) = false from rfl, cond_false,
                ptE_v, hpt, Option.bind_some, show (!((0 : Int) == 0)) = false from rfl, cond_false, cp, cond_true, last_ok hT, Int.toNat_natCast, c1, Bool.true_or, cond_true, h4]
              rfl) hErr
          | false =>
            rw [h4, cond_false] at hErr
            rw [Bool.or_eq_false_iff, decide_eq_false_iff_not, decide_eq_false_iff_not] at h4
            have hlo : tm l 0 ≤ t0 := Int.not_lt.1 h4.1
            have hhi : t0 ≤ tm l (l.length - 1) := Int.not_lt.1 h4.2
            obtain ⟨en, et⟩ := at_node hN hT hlo hhi
            have hAt : tube_At.fn N (l, t0) = some (nodeAt N l t0, 0) := by
              rw [tube_At.eq, tubE_v hN, h0, Option.bind_some, show (!((0 : Int) == 0)) = false from rfl, cond_false, en, Option.bind_some]
            obtain ⟨long, e, hcl, hok⟩ := climb_ex hN hea (nodeAt N l t0).1.2.2 c.2.2.1
            cases he : (e == 0) with
            | false =>
              rw [Of_e hN h0 hlo hhi hc hea hkind hcl (beq_eq_false_iff_ne.1 he), hErr, Option.bind_some, Option.bind_some, show ((0 : Int) == 0) = true from rfl, cond_true, hAt, Option.bind_some]
              dsimp only
              rw [hcl, Option.bind_some]
              dsimp only
              rw [hj, he, Bool.not_false, cond_true]
              simp
            | true =>
              have he0 := beq_iff_eq.1 he
              subst he0
              obtain ⟨b1, b2, b3, b4, b5, b6⟩ := hok rfl
              have hC : ClbOk l c t0 (nodeAt N l t0) long := ⟨hT, et, hlo, hhi, b1, b2, b3, b4, b5, b6⟩
              have hOf := Of_v hN hC h0 hc hea hkind hcl
              rw [bif_some] at hOf
              rw [hOf, hErr, Option.bind_some, Option.bind_some, show ((0 : Int) == 0) = true from rfl, cond_true, hAt, Option.bind_some]
              dsimp only
              rw [hcl, Option.bind_some]
              exact law_ok hN hC h0 _ rfl _ _ _ _ _
end
abbrev tNds : Ty := .sl 34 (.pair (.pair (.int .i64) (.pair (.pair (.int .i64) (.int .i64)) (.int .i64))) (.pair (.int .i64) (.int .i64)))
theorem EffectClimbs.pure (x0 : List Nd) (x1 : Clr) (x2 : Int) (x3 : Kd) (h0 : Wf Tryd.prog tNds x0) (h1 : Wf Tryd.prog (.pair .str (.pair (.int .i64) (.pair (.int .i64) .str))) x1) (h2 : Wf Tryd.prog (.int .i64) x2) (h3 : Wf Tryd.prog (.pair .str (.pair (.int .i64) (.pair (.int .i64) (.pair (.int .i64) (.pair (.int .i64) (.pair (.int .i64) (.int .i64))))))) x3) : law_EffectClimbs.fn NN (x0, x1, x2, x3) = some true :=
  EffectClimbs.pureN NN_big x0 x1 x2 x3
end Go.Proofs.YthkpnlfnplhgnaaDoor.Sk
