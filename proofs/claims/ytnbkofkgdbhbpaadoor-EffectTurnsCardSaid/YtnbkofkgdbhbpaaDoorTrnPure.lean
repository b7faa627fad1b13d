/- EffectTurns: plain law. -/
import Derived.Test.YtnbkofkgdbhbpaaDoorTrnEq
import Derived.Test.YtnbkofkgdbhbpaaDoorTrnB
import Derived.Test.YtnbkofkgdbhbpaaDoorSkFlo
set_option linter.unusedVariables false
set_option linter.unusedSimpArgs false
set_option linter.unusedSectionVars false
set_option maxRecDepth 100000
namespace Go.Proofs.YtnbkofkgdbhbpaaDoor.Sk
open Go
/-! ### points -/
def ptE (p : Pt) : Int := bif (((decide (p.1 < (-1000000))) || (decide (p.1 > 1000000))) || (decide (p.2 < (-1000000)))) || (decide (p.2 > 1000000)) then 4 else 0
theorem ptE_v (N : Nat) (p : Pt) : plane_Check.fn N p = some (ptE p) := by
  rw [plane_Check.clean]; unfold ptE
  generalize ((((decide (p.1 < (-1000000))) || (decide (p.1 > 1000000))) || (decide (p.2 < (-1000000)))) || (decide (p.2 > 1000000))) = b
  cases b <;> rfl
theorem mid_lt {X : Type} {l pre r : List X} {x : X} (h : l = pre ++ x :: r) : pre.length < l.length := by rw [h]; simp
theorem mid_get {X : Type} {l pre r : List X} {x d : X} (h : l = pre ++ x :: r) : l.getD pre.length d = x := by rw [h]; exact getD_mid pre x r d
theorem mid_drop {X : Type} {l pre r : List X} {x : X} (h : l = pre ++ x :: r) : l.drop (pre.length + 1) = r := by rw [h, ← List.drop_drop]; simp
theorem mid_take {X : Type} {l pre r : List X} {x : X} (h : l = pre ++ x :: r) : l.take pre.length = pre := by rw [h]; simp

theorem bif_some {α : Type} (b : Bool) (x y : α) : (bif b then some x else some y) = some (bif b then x else y) := by cases b <;> rfl
/-! ### tubes -/
def tubL (l : List Nd) : Nat → List Nd → Int
  | _, [] => 0
  | i, x :: r => bif ((decide (x.1.1 < 0)) || (decide (x.1.1 > 200000))) || ((decide ((i : Int) > 0)) && (decide (x.1.1 ≤ (List.getD l (i - 1) ((0, ((0, 0), 0)), (0, 0))).1.1))) then 12 else
      bif !(ptE x.1.2.1 == 0) then ptE x.1.2.1 else bif (((((decide (x.1.2.2 < 0)) || (decide (x.1.2.2 > 60000))) || (decide (x.2.1 < 0))) || (decide (x.2.1 > 1000000))) || (decide (x.2.2 < 0))) || (decide (x.2.2 > 60000)) then 4 else tubL l (i + 1) r
def tubE (l : List Nd) : Int := bif decide ((l.length : Int) > 64) then 2 else bif (l.length : Int) == 0 then 3 else tubL l 0 l
theorem tubE_v {N : Nat} (hN : 4611686018427387904 ≤ N) (l : List Nd) : tube_Check.fn N l = some (tubE l) := by
  rw [tube_Check.eq]
  unfold tubE
  cases h1 : decide ((l.length : Int) > 64) with
  | true => rfl
  | false =>
    cases h2 : ((l.length : Int) == 0) with
    | true => rfl
    | false =>
      simp only [decide_eq_false_iff_not] at h1
      rw [cond_false, cond_false, cond_false, cond_false]
      refine list_loop (σ := Unit) (l := l) (fun k _ i => tube_Check.l0 N l k i) (fun pre r _ => some (tubL l pre.length r)) (fun _ _ => True) (fun k _ _ => tube_Check.l0_nil N l k) (fun k pre x r _ hl _ ih => ?_) N () trivial (by omega)
      have q1 := mid_lt hl
      have ih : tube_Check.l0 N l k ((pre.length : Int) + 1) = some (tubL l (pre ++ [x]).length r) := ih () trivial
      rw [List.length_append, List.length_singleton] at ih
      show tube_Check.l0 N l (k + 1) (pre.length : Int) = some (bif ((decide (x.1.1 < 0)) || (decide (x.1.1 > 200000))) || ((decide ((pre.length : Int) > 0)) && (decide (x.1.1 ≤ (List.getD l (pre.length - 1) ((0, ((0, 0), 0)), (0, 0))).1.1))) then 12 else _)
      have c : (((decide (0 ≤ (w ((pre.length : Int) - 1)))) && (decide ((w ((pre.length : Int) - 1)) < (l.length : Int)))) || !((!((decide (((x.1).1) < 0)) || (decide (((x.1).1) > 200000)))) && (decide ((pre.length : Int) > 0)))) = true := by
        by_cases h0 : pre.length = 0
        · rw [h0]; simp
        · rw [w_small _ (by omega) (by omega)]; simp; omega
      have e : (decide ((pre.length : Int) > 0) && decide (x.1.1 ≤ (List.getD l (Int.toNat (w ((pre.length : Int) - 1))) ((0, ((0, 0), 0)), (0, 0))).1.1)) = (decide ((pre.length : Int) > 0) && decide (x.1.1 ≤ (List.getD l (pre.length - 1) ((0, ((0, 0), 0)), (0, 0))).1.1)) := by
        by_cases h0 : pre.length = 0
        · rw [h0]; rfl
        · rw [w_small _ (by omega) (by omega), show ((pre.length : Int) - 1).toNat = pre.length - 1 by omega]
      rw [tube_Check.l0_cons N l k hl (by omega), bchk c, e, ptE_v, Option.bind_some, ih]
      generalize (((decide (x.1.1 < 0)) || (decide (x.1.1 > 200000))) || ((decide ((pre.length : Int) > 0)) && (decide (x.1.1 ≤ (List.getD l (pre.length - 1) ((0, ((0, 0), 0)), (0, 0))).1.1)))) = b1
      generalize (ptE x.1.2.1 == 0) = b2
      generalize ((((((decide (x.1.2.2 < 0)) || (decide (x.1.2.2 > 60000))) || (decide (x.2.1 < 0))) || (decide (x.2.1 > 1000000))) || (decide (x.2.2 < 0))) || (decide (x.2.2 > 60000))) = b3
      cases b1 <;> cases b2 <;> cases b3 <;> rfl
def tm (l : List Nd) (i : Nat) : Int := (List.getD l i ((0, ((0, 0), 0)), (0, 0))).1.1
theorem tubL_zero {l : List Nd} : ∀ (r pre : List Nd), l = pre ++ r → tubL l pre.length r = 0 → ∀ i, pre.length ≤ i → i < l.length → (0 ≤ tm l i ∧ tm l i ≤ 200000) ∧ (0 < i → tm l (i - 1) < tm l i) ∧ 0 ≤ (List.getD l i ((0, ((0, 0), 0)), (0, 0))).1.2.2 ∧ (List.getD l i ((0, ((0, 0), 0)), (0, 0))).1.2.2 ≤ 60000
  | [], pre, hl, _, i, h1, h2 => by rw [List.append_nil] at hl; subst hl; omega
  | x :: r, pre, hl, h, i, h1, h2 => by
    have h : (bif ((decide (x.1.1 < 0)) || (decide (x.1.1 > 200000))) || ((decide ((pre.length : Int) > 0)) && (decide (x.1.1 ≤ tm l (pre.length - 1)))) then 12 else
      bif !(ptE x.1.2.1 == 0) then ptE x.1.2.1 else bif (((((decide (x.1.2.2 < 0)) || (decide (x.1.2.2 > 60000))) || (decide (x.2.1 < 0))) || (decide (x.2.1 > 1000000))) || (decide (x.2.2 < 0))) || (decide (x.2.2 > 60000)) then 4 else tubL l (pre.length + 1) r) = 0 := h
    cases b1 : (((decide (x.1.1 < 0)) || (decide (x.1.1 > 200000))) || ((decide ((pre.length : Int) > 0)) && (decide (x.1.1 ≤ tm l (pre.length - 1))))) with
    | true => rw [b1] at h; cases h
    | false =>
      rw [b1] at h
      cases b2 : (ptE x.1.2.1 == 0) with
      | false => rw [b2] at h; have h : ptE x.1.2.1 = 0 := h; rw [h] at b2; cases b2
      | true =>
        rw [b2] at h
        cases b3 : ((((((decide (x.1.2.2 < 0)) || (decide (x.1.2.2 > 60000))) || (decide (x.2.1 < 0))) || (decide (x.2.1 > 1000000))) || (decide (x.2.2 < 0))) || (decide (x.2.2 > 60000))) with
        | true => rw [b3] at h; cases h
        | false =>
          rw [b3] at h
          have h : tubL l (pre.length + 1) r = 0 := h
          by_cases e : i = pre.length
          · subst e
            have hx : List.getD l pre.length ((0, ((0, 0), 0)), (0, 0)) = x := mid_get hl
            unfold tm at b1 ⊢
            rw [hx]
            simp only [Bool.or_eq_false_iff, Bool.and_eq_false_iff, decide_eq_false_iff_not] at b1 b3
            omega
          · exact tubL_zero r (pre ++ [x]) (by simp [hl]) (by rw [List.length_append, List.length_singleton]; exact h) i (by simp; omega) h2
structure TubOk (l : List Nd) : Prop where
  pos : 0 < l.length
  len : l.length ≤ 64
  time : ∀ i, i < l.length → 0 ≤ tm l i ∧ tm l i ≤ 200000
  up : ∀ i, 0 < i → i < l.length → tm l (i - 1) < tm l i
theorem tub_ok {l : List Nd} (h : tubE l = 0) : TubOk l := by
  unfold tubE at h
  cases h1 : decide ((l.length : Int) > 64) with
  | true => rw [h1] at h; cases h
  | false =>
    cases h2 : ((l.length : Int) == 0) with
    | true => rw [h1, h2] at h; cases h
    | false =>
      rw [h1, h2] at h
      have h : tubL l 0 l = 0 := h
      simp only [decide_eq_false_iff_not, beq_eq_false_iff_ne] at h1 h2
      have key := tubL_zero (l := l) l [] rfl h
      exact ⟨by omega, by omega, fun i hi => (key i (Nat.zero_le _) hi).1, fun i h0 hi => (key i (Nat.zero_le _) hi).2.1 h0⟩
/-! ### the node at a time -/
theorem divd_ex (N : Nat) (a b : Int) : ∃ v, num_DivDown.fn N (a, b) = some v := by
  rw [num_DivDown.clean]
  cases h : (b == 0) with
  | true => exact ⟨_, rfl⟩
  | false =>
    have h2 : (b != 0) = true := by rw [bne, h]; rfl
    rw [h2]
    cases ((a == (-9223372036854775808)) && (b == (-1))) with
    | true => exact ⟨_, rfl⟩
    | false => cases ((!((Int.tmod a b) == 0)) && (!((decide (a < 0)) == (decide (b < 0))))) <;> exact ⟨_, rfl⟩
theorem divu_ex (N : Nat) (a b : Int) (hb : b ≠ 0) : ∃ v, num_DivUp.fn N (a, b) = some v := by
  obtain ⟨v, hv⟩ := divd_ex N a b
  rw [num_DivUp.clean, hv, Option.bind_some, show (b != 0) = true by simpa using hb, Bool.true_or, cond_true]
  cases ((v.2 == 0) && (!((Int.tmod a b) == 0))) <;> exact ⟨_, rfl⟩
theorem betw_ex (N : Nat) (a b c d : Int) : ∃ v, tube_between.fn N (a, b, c, d) = some v := by
  obtain ⟨v, hv⟩ := divd_ex N (w ((w (b - a)) * c)) d
  rw [tube_between.eq, hv]
  exact ⟨_, rfl⟩
theorem abov_ex (N : Nat) (a b c d : Int) (hd : d ≠ 0) : ∃ v, tube_above.fn N (a, b, c, d) = some v := by
  obtain ⟨v, hv⟩ := divu_ex N (w ((w (b - a)) * c)) d hd
  rw [tube_above.eq, hv]
  exact ⟨_, rfl⟩
theorem tow_ex (N : Nat) (a b : Pt) (n d : Int) : ∃ v, plane_Toward.fn N (a, b, n, d) = some v := by
  rw [plane_Toward.clean]
  cases decide (d ≤ 0) with
  | true => exact ⟨_, rfl⟩
  | false =>
    obtain ⟨v1, h1⟩ := divd_ex N (w ((w (b.1 - a.1)) * n)) d
    obtain ⟨v2, h2⟩ := divd_ex N (w ((w (b.2 - a.2)) * n)) d
    rw [cond_false, ptE_v, ptE_v, h1, h2, bif_some, Option.bind_some, bif_some, Option.bind_some]
    simp only [Option.bind_some]
    generalize ((((decide (d > 200000)) || (decide (n < 0))) || (decide (n > d))) || (!((bif !(((decide (d > 200000)) || (decide (n < 0))) || (decide (n > d))) then ptE a else 0) == 0))) = q
    generalize (!((bif !q then ptE b else 0) == 0)) = q2
    cases q <;> cases q2 <;> exact ⟨_, rfl⟩
theorem at_l {N : Nat} {l : List Nd} (hl : TubOk l) {t : Int} (h1 : t ≤ tm l (l.length - 1)) : ∀ (m : Nat) (k : Nat) (i : Nat), i + m = l.length → 0 < m → tm l i ≤ t → m ≤ k → ∃ n, tube_at.l0 N l t k (i : Int) = some (n, 0) ∧ n.1.1 = t := by
  intro m
  induction m with
  | zero => intro k i _ h; omega
  | succ m ih =>
    intro k i hi _ ht hk
    obtain ⟨k, rfl⟩ : ∃ k', k = k' + 1 := ⟨k - 1, by omega⟩
    have hlen := hl.len
    have hw : w ((i : Int) + 1) = ((i + 1 : Nat) : Int) := by rw [w_small _ (by omega) (by omega)]; rfl
    have c : (((decide (0 ≤ (((i + 1 : Nat) : Int)))) && (decide ((((i + 1 : Nat) : Int)) < (l.length : Int)))) || !(decide ((((i + 1 : Nat) : Int)) < (l.length : Int)))) = true := by
      by_cases h : i + 1 < l.length <;> simp <;> omega
    rw [tube_at.l0_clean, hw, bchk c, Int.toNat_natCast, Int.toNat_natCast]
    by_cases hn : i + 1 < l.length ∧ tm l (i + 1) ≤ t
    · have c2 : ((decide ((((i + 1 : Nat) : Int)) < (l.length : Int))) && (decide ((((List.getD l (i + 1) ((0, ((0, 0), 0)), (0, 0))).1).1) ≤ t))) = true := by
        rw [Bool.and_eq_true, decide_eq_true_iff, decide_eq_true_iff]; exact ⟨by omega, hn.2⟩
      rw [c2, cond_true]
      exact ih k (i + 1) (by omega) (by omega) hn.2 (by omega)
    · have c2 : ((decide ((((i + 1 : Nat) : Int)) < (l.length : Int))) && (decide ((((List.getD l (i + 1) ((0, ((0, 0), 0)), (0, 0))).1).1) ≤ t))) = false := by
        rw [Bool.and_eq_false_iff, decide_eq_false_iff_not, decide_eq_false_iff_not]
        by_cases h : i + 1 < l.length
        · exact .inr fun h' => hn ⟨h, h'⟩
        · exact .inl (by omega)
      rw [c2, cond_false, bchk (by simp; omega)]
      cases he : ((((List.getD l i ((0, ((0, 0), 0)), (0, 0))).1).1) == t) with
      | true => exact ⟨_, rfl, beq_iff_eq.1 he⟩
      | false =>
        have hne : tm l i ≠ t := beq_eq_false_iff_ne.1 he
        have hi1 : i + 1 < l.length := by
          rcases Nat.lt_or_ge (i + 1) l.length with h | h
          · exact h
          · have e : l.length - 1 = i := by omega
            rw [e] at h1; omega
        have hup := hl.up (i + 1) (by omega) hi1
        have t1 := hl.time i (by omega)
        have t2 := hl.time (i + 1) hi1
        rw [Nat.add_sub_cancel] at hup
        have hd : w (((List.getD l (i + 1) ((0, ((0, 0), 0)), (0, 0))).1.1) - ((List.getD l i ((0, ((0, 0), 0)), (0, 0))).1.1)) ≠ 0 := by
          have e1 : (List.getD l (i + 1) ((0, ((0, 0), 0)), (0, 0))).1.1 = tm l (i + 1) := rfl
          have e2 : (List.getD l i ((0, ((0, 0), 0)), (0, 0))).1.1 = tm l i := rfl
          rw [e1, e2, w_small _ (by omega) (by omega)]
          omega
        rw [cond_false, bchk (by simp; omega)]
        obtain ⟨v1, e1⟩ := tow_ex N (((List.getD l i ((0, ((0, 0), 0)), (0, 0))).1).2).1 (((List.getD l (i + 1) ((0, ((0, 0), 0)), (0, 0))).1).2).1 (w (t - (((List.getD l i ((0, ((0, 0), 0)), (0, 0))).1).1))) (w ((((List.getD l (i + 1) ((0, ((0, 0), 0)), (0, 0))).1).1) - (((List.getD l i ((0, ((0, 0), 0)), (0, 0))).1).1)))
        obtain ⟨v2, e2⟩ := betw_ex N (((List.getD l i ((0, ((0, 0), 0)), (0, 0))).1).2).2 (((List.getD l (i + 1) ((0, ((0, 0), 0)), (0, 0))).1).2).2 (w (t - (((List.getD l i ((0, ((0, 0), 0)), (0, 0))).1).1))) (w ((((List.getD l (i + 1) ((0, ((0, 0), 0)), (0, 0))).1).1) - (((List.getD l i ((0, ((0, 0), 0)), (0, 0))).1).1)))
        obtain ⟨v3, e3⟩ := abov_ex N ((List.getD l i ((0, ((0, 0), 0)), (0, 0))).2).1 ((List.getD l (i + 1) ((0, ((0, 0), 0)), (0, 0))).2).1 (w (t - (((List.getD l i ((0, ((0, 0), 0)), (0, 0))).1).1))) (w ((((List.getD l (i + 1) ((0, ((0, 0), 0)), (0, 0))).1).1) - (((List.getD l i ((0, ((0, 0), 0)), (0, 0))).1).1))) hd
        obtain ⟨v4, e4⟩ := abov_ex N ((List.getD l i ((0, ((0, 0), 0)), (0, 0))).2).2 ((List.getD l (i + 1) ((0, ((0, 0), 0)), (0, 0))).2).2 (w (t - (((List.getD l i ((0, ((0, 0), 0)), (0, 0))).1).1))) (w ((((List.getD l (i + 1) ((0, ((0, 0), 0)), (0, 0))).1).1) - (((List.getD l i ((0, ((0, 0), 0)), (0, 0))).1).1))) hd
        rw [e1, Option.bind_some, e2, Option.bind_some, e3, Option.bind_some, e4, Option.bind_some]
        exact ⟨_, rfl, rfl⟩
theorem last_ok {l : List Nd} (hl : TubOk l) : w ((l.length : Int) - 1) = ((l.length - 1 : Nat) : Int) := by
  have := hl.pos; have := hl.len
  rw [w_small _ (by omega) (by omega)]; omega
theorem at_ok {N : Nat} (hN : 4611686018427387904 ≤ N) {l : List Nd} (hl : TubOk l) {t : Int} (h0 : tm l 0 ≤ t) (h1 : t ≤ tm l (l.length - 1)) : ∃ n, tube_at.fn N (l, t) = some (n, 0) ∧ n.1.1 = t := by
  have hp := hl.pos
  have hlen := hl.len
  rw [tube_at.clean, bchk (by rw [decide_eq_true_iff]; omega), last_ok hl, Int.toNat_natCast]
  have c : (((decide (0 ≤ ((l.length - 1 : Nat) : Int))) && (decide (((l.length - 1 : Nat) : Int) < (l.length : Int)))) || !(!(decide (t < (((List.getD l 0 ((0, ((0, 0), 0)), (0, 0))).1).1))))) = true := by
    rw [show decide (0 ≤ ((l.length - 1 : Nat) : Int)) = true by rw [decide_eq_true_iff]; omega, show decide (((l.length - 1 : Nat) : Int) < (l.length : Int)) = true by rw [decide_eq_true_iff]; omega]; rfl
  have c2 : ((decide (t < (((List.getD l 0 ((0, ((0, 0), 0)), (0, 0))).1).1))) || (decide (t > (((List.getD l (l.length - 1) ((0, ((0, 0), 0)), (0, 0))).1).1)))) = false := by
    rw [Bool.or_eq_false_iff, decide_eq_false_iff_not, decide_eq_false_iff_not]
    exact ⟨Int.not_lt.2 h0, Int.not_lt.2 h1⟩
  rw [bchk c, c2, cond_false]
  exact at_l hl h1 l.length N 0 (by omega) hp h0 (by omega)
/-- Outside of its times a tube has none. -/
theorem at_out {N : Nat} (hN : 4611686018427387904 ≤ N) {l : List Nd} (hl : TubOk l) {t : Int} (h : t < tm l 0 ∨ tm l (l.length - 1) < t) : tube_at.fn N (l, t) = some (((0, ((0, 0), 0)), (0, 0)), 12) := by
  have hp := hl.pos
  have hlen := hl.len
  rw [tube_at.clean, bchk (by rw [decide_eq_true_iff]; omega), last_ok hl, Int.toNat_natCast]
  have c : (((decide (0 ≤ ((l.length - 1 : Nat) : Int))) && (decide (((l.length - 1 : Nat) : Int) < (l.length : Int)))) || !(!(decide (t < (((List.getD l 0 ((0, ((0, 0), 0)), (0, 0))).1).1))))) = true := by
    rw [show decide (0 ≤ ((l.length - 1 : Nat) : Int)) = true by rw [decide_eq_true_iff]; omega, show decide (((l.length - 1 : Nat) : Int) < (l.length : Int)) = true by rw [decide_eq_true_iff]; omega]; rfl
  have c2 : ((decide (t < (((List.getD l 0 ((0, ((0, 0), 0)), (0, 0))).1).1))) || (decide (t > (((List.getD l (l.length - 1) ((0, ((0, 0), 0)), (0, 0))).1).1)))) = true := by
    rw [Bool.or_eq_true, decide_eq_true_iff, decide_eq_true_iff]
    exact h
  rw [bchk c, c2]
  rfl
noncomputable def nodeAt (N : Nat) (x : List Nd) (t : Int) : Nd := ((tube_at.fn N (x, t)).getD (((0, ((0, 0), 0)), (0, 0)), 0)).1
theorem at_node {N : Nat} (hN : 4611686018427387904 ≤ N) {l : List Nd} (hl : TubOk l) {t : Int} (h0 : tm l 0 ≤ t) (h1 : t ≤ tm l (l.length - 1)) : tube_at.fn N (l, t) = some (nodeAt N l t, 0) ∧ (nodeAt N l t).1.1 = t := by
  obtain ⟨n, hn, ht⟩ := at_ok hN hl h0 h1
  unfold nodeAt
  rw [hn]
  exact ⟨rfl, ht⟩
/-! ### the fact -/
def levT : List Nd := [((0, ((0, 0), 9000)), (100, 50)), ((100, ((10000, 0), 9000)), (100, 50))]
def jetT : ByteArray × Int × Int × Int × Int × Int × Int := (⟨#[74, 69, 84]⟩, (1, (40000, (50, (40, (50, 300))))))
def clbT : ByteArray × Int × Int × ByteArray := (⟨#[65, 49]⟩, (0, (9500, ⟨#[]⟩)))
def effT : List Nd := [((0, ((0, 0), 9000)), (100, 50)), ((10, ((1000, 0), 9500)), (100, 50)), ((100, ((10000, 0), 9500)), (100, 50))]
theorem lev_v (N : Nat) : law_level.fn N () = some levT := by kernel_rfl
theorem jet_v (N : Nat) : law_jet.fn N () = some jetT := by kernel_rfl
theorem clb_v (N : Nat) : law_climbed.fn N 9500 = some clbT := by kernel_rfl
theorem dif_f (M : Nat) : effect_Differs.fn (M + 16) (levT, effT) = some (1, 0) := by kernel_rfl
theorem of_f (M : Nat) : effect_Of.fn (M + 16) (levT, (clbT, (0, (jetT, (0, 0))))) = some (effT, 0) := by kernel_rfl
theorem fact_v {N : Nat} (hN : 4611686018427387904 ≤ N) : law_effectFact.fn N () = some true := by
  obtain ⟨M, rfl⟩ : ∃ M, N = M + 16 := ⟨N - 16, by omega⟩
  have hO := of_f M
  have hD := dif_f M
  rw [law_effectFact.eq, lev_v, Option.bind_some, clb_v, Option.bind_some, jet_v, Option.bind_some, hO, Option.bind_some, Option.bind_some]
  dsimp only
  rw [hD, Option.bind_some]
  rfl
def tlt (p : Int) (n : Nd) : Bool := decide (n.1.1 < p)
/-! ### names -/
def nameCh (c : UInt8) : Bool := !(((decide (((c.toNat : Nat) : Int) < 65)) || (decide (((c.toNat : Nat) : Int) > 90))) && ((decide (((c.toNat : Nat) : Int) < 48)) || (decide (((c.toNat : Nat) : Int) > 57))))
def isNameL : List UInt8 → Bool
  | [] => false
  | b :: r => bif decide (r.length + 1 > 8) then false else bif decide (((b.toNat : Nat) : Int) < 65) || decide (((b.toNat : Nat) : Int) > 90) then false else (b :: r).all nameCh
def isName (s : ByteArray) : Bool := isNameL s.data.toList
theorem size_list (s : ByteArray) : s.size = s.data.toList.length := by rw [ByteArray.size, Array.length_toList]

section
variable {N : Nat} (hN : 4611686018427387904 ≤ N)
include hN
theorem chart_Name.v (s : ByteArray) : chart_Name.fn N s = some (isName s) := by
  rw [chart_Name.clean]
  unfold isName
  have hsz := size_list s
  cases h : s.data.toList with
  | nil =>
    rw [h] at hsz
    have hsz : s.size = 0 := hsz
    simp [hsz, isNameL]
  | cons b r =>
    rw [h] at hsz
    have hsz : s.size = r.length + 1 := by simpa using hsz
    have g : (ByteArray.data s).getD 0 0 = b := getD_bytes (pre := []) (r := r) h
    have c1 : decide (0 < (s.size : Int)) = true := by rw [decide_eq_true_iff]; omega
    have c2 : ((s.size : Int) == 0) = false := by rw [beq_eq_false_iff_ne]; omega
    have c3 : decide ((s.size : Int) > 8) = decide (r.length + 1 > 8) := by rw [decide_eq_decide]; omega
    simp only [g, c1, c2, c3, Bool.true_or, cond_true, Bool.false_or, isNameL]
    by_cases h8 : r.length + 1 > 8
    · simp [h8]
    have h8' : decide (r.length + 1 > 8) = false := decide_eq_false h8
    simp only [h8', Bool.false_or, cond_false]
    have hl := scan_list (l := s.data.toList) (fun c => !nameCh c) (some false) (some true) (fun k i => chart_Name.l0 N s k i)
      (fun k => by show chart_Name.l0 N s (k + 1) (s.data.toList.length : Int) = _; rw [← size_list s]; exact chart_Name.l0_nil N s k)
      (fun k pre x r' h' => by show chart_Name.l0 N s (k + 1) (pre.length : Int) = _; rw [chart_Name.l0_cons N s k h' (by omega)]; simp [nameCh]) N (by rw [h]; simp; omega)
    rw [hl, h]
    cases (decide (((b.toNat : Nat) : Int) < 65) || decide (((b.toNat : Nat) : Int) > 90)) with
    | true => rfl
    | false =>
      rw [cond_false, cond_false, ← List.not_all_eq_any_not]
      cases ((b :: r).all nameCh) <;> rfl
theorem ref_IsName.v (s : ByteArray) : ref_IsName.fn N s = some (isName s) := by
  rw [ref_IsName.clean]
  unfold isName
  have hsz := size_list s
  cases h : s.data.toList with
  | nil =>
    rw [h] at hsz
    have hsz : s.size = 0 := hsz
    have : s = ⟨#[]⟩ := by cases s with | mk a => congr 1; exact Array.ext' h
    subst this
    simp [isNameL, seq]
  | cons b r =>
    rw [h] at hsz
    have hsz : s.size = r.length + 1 := by simpa using hsz
    have g : (ByteArray.data s).getD 0 0 = b := getD_bytes (pre := []) (r := r) h
    have c1 : decide (0 < (s.size : Int)) = true := by rw [decide_eq_true_iff]; omega
    have c2 : seq s (⟨#[]⟩ : ByteArray) = false := by unfold seq; rw [h]; rfl
    have c3 : decide ((s.size : Int) > 8) = decide (r.length + 1 > 8) := by rw [decide_eq_decide]; omega
    simp only [g, c1, c2, c3, Bool.true_or, cond_true, Bool.false_or, isNameL]
    by_cases h8 : r.length + 1 > 8
    · simp [h8]
    have h8' : decide (r.length + 1 > 8) = false := decide_eq_false h8
    simp only [h8', Bool.false_or, cond_false]
    have hl := scan_list (l := s.data.toList) (fun c => !nameCh c) (some false) (some true) (fun k i => ref_IsName.l0 N s k i)
      (fun k => by show ref_IsName.l0 N s (k + 1) (s.data.toList.length : Int) = _; rw [← size_list s]; exact ref_IsName.l0_nil N s k)
      (fun k pre x r' h' => by show ref_IsName.l0 N s (k + 1) (pre.length : Int) = _; rw [ref_IsName.l0_cons N s k h' (by omega)]; simp [nameCh]) N (by rw [h]; simp; omega)
    rw [hl, h]
    have hb : (b :: r).any (fun c => !nameCh c) = !((b :: r).all nameCh) := List.not_all_eq_any_not.symm
    rw [hb]
    by_cases q1 : ((b.toNat : Nat) : Int) < 65
    · by_cases q2 : ((b.toNat : Nat) : Int) < 48
      · have : nameCh b = false := by simp [nameCh]; omega
        simp [q1, this, show ¬ 48 ≤ b.toNat by omega]
      · by_cases q3 : ((b.toNat : Nat) : Int) > 57
        · have : nameCh b = false := by simp [nameCh]; omega
          simp [q1, this, show ¬ b.toNat ≤ 57 by omega]
        · simp [q1, show (48 : Int) ≤ b.toNat by omega, show (b.toNat : Int) ≤ 57 by omega]
    · by_cases q2 : ((b.toNat : Nat) : Int) > 90
      · have : nameCh b = false := by simp [nameCh]; omega
        simp [q2, this, show ¬ b.toNat ≤ 57 by omega]
      · simp only [q1, q2, decide_false, Bool.or_false, cond_false, show decide (((b.toNat : Nat) : Int) ≤ 57) = false by rw [decide_eq_false_iff_not]; omega, Bool.and_false]
        cases ((b :: r).all nameCh) <;> rfl
theorem owner_Name.v (s : ByteArray) : owner_Name.fn N s = some (isName s) := by
  rw [owner_Name.eq, sector_Name.eq, chart_Name.v hN]; rfl
end

/-! ### clearances -/
abbrev Clr := ByteArray × Int × Int × ByteArray
def kindOf (s : ByteArray) : Int :=
  bif seq (⟨#[72, 69, 73, 71, 72, 84]⟩ : ByteArray) s then 0 else bif seq (⟨#[72, 69, 65, 68, 73, 78, 71]⟩ : ByteArray) s then 1 else bif seq (⟨#[83, 80, 69, 69, 68]⟩ : ByteArray) s then 2 else
  bif seq (⟨#[68, 73, 82, 69, 67, 84]⟩ : ByteArray) s then 3 else bif seq (⟨#[72, 79, 76, 68]⟩ : ByteArray) s then 4 else bif seq (⟨#[67, 79, 78, 84, 65, 67, 84]⟩ : ByteArray) s then 5 else bif seq (⟨#[76, 65, 78, 68]⟩ : ByteArray) s then 6 else -1
theorem phrase_kind.v8 (M : Nat) (s : ByteArray) : phrase_kind.fn (M + 8) s =
    bif seq (⟨#[72, 69, 73, 71, 72, 84]⟩ : ByteArray) s then some 0 else bif seq (⟨#[72, 69, 65, 68, 73, 78, 71]⟩ : ByteArray) s then some 1 else bif seq (⟨#[83, 80, 69, 69, 68]⟩ : ByteArray) s then some 2 else
    bif seq (⟨#[68, 73, 82, 69, 67, 84]⟩ : ByteArray) s then some 3 else bif seq (⟨#[72, 79, 76, 68]⟩ : ByteArray) s then some 4 else bif seq (⟨#[67, 79, 78, 84, 65, 67, 84]⟩ : ByteArray) s then some 5 else
    bif seq (⟨#[76, 65, 78, 68]⟩ : ByteArray) s then some 6 else some (-1) := by kernel_rfl
theorem ref_free.v8 (M : Nat) (s : ByteArray) : ref_free.fn (M + 8) s =
    bif seq (⟨#[72, 69, 73, 71, 72, 84]⟩ : ByteArray) s then some false else bif seq (⟨#[72, 69, 65, 68, 73, 78, 71]⟩ : ByteArray) s then some false else bif seq (⟨#[83, 80, 69, 69, 68]⟩ : ByteArray) s then some false else
    bif seq (⟨#[68, 73, 82, 69, 67, 84]⟩ : ByteArray) s then some false else bif seq (⟨#[72, 79, 76, 68]⟩ : ByteArray) s then some false else bif seq (⟨#[67, 79, 78, 84, 65, 67, 84]⟩ : ByteArray) s then some false else
    bif seq (⟨#[76, 65, 78, 68]⟩ : ByteArray) s then some false else ((ref_IsName.fn (M + 8) s).bind fun r => some r) := by kernel_rfl
def plainW (s : ByteArray) : Bool := isName s && decide (kindOf s < 0)
def clearErr (c : Clr) : Int :=
  bif !plainW c.1 then 3 else bif decide (c.2.1 < 0) || decide (c.2.1 > 6) then 1 else
  bif decide (c.2.1 ≥ 3) then (bif !(c.2.2.1 == 0) || !plainW c.2.2.2 then 3 else 0) else
  bif !(seq c.2.2.2 (⟨#[]⟩ : ByteArray)) then 3 else bif decide (c.2.2.1 < 0) || decide (c.2.2.1 > List.getD [60000, 4095, 400] c.2.1.toNat 0) then 4 else 0

section
variable {N : Nat} (hN : 4611686018427387904 ≤ N)
include hN
theorem phrase_kind.v (s : ByteArray) : phrase_kind.fn N s = some (kindOf s) := by
  obtain ⟨M, rfl⟩ : ∃ M, N = M + 8 := ⟨N - 8, by omega⟩
  rw [phrase_kind.v8]
  unfold kindOf
  repeat (first | rfl | (generalize seq _ s = b; cases b <;> simp only [cond_true, cond_false]))
theorem phrase_plain.v (s : ByteArray) : phrase_plain.fn N s = some (plainW s) := by
  rw [phrase_plain.clean, owner_Name.v hN, phrase_kind.v hN]
  unfold plainW
  cases isName s <;> rfl
theorem ref_free.v (s : ByteArray) : ref_free.fn N s = some (plainW s) := by
  have hn := ref_IsName.v hN s
  obtain ⟨M, rfl⟩ : ∃ M, N = M + 8 := ⟨N - 8, by omega⟩
  rw [ref_free.v8, hn]
  unfold plainW kindOf
  cases isName s <;> repeat (first | rfl | (generalize seq _ s = b; cases b <;> simp only [cond_true, cond_false]))
theorem phrase_Check.v (c : Clr) : phrase_Check.fn N c = some (clearErr c) := by
  rw [phrase_Check.clean]
  simp only [phrase_plain.v hN, Option.bind_some]
  unfold clearErr
  cases plainW c.1 with
  | false => rfl
  | true =>
    simp only [Bool.not_true, cond_false]
    by_cases h1 : c.2.1 < 0
    · simp [h1]
    by_cases h2 : c.2.1 > 6
    · simp [h2]
    simp only [h1, h2, decide_false, Bool.or_false, cond_false]
    by_cases h3 : c.2.1 ≥ 3
    · simp only [h3, decide_true, cond_true]
      cases h4 : (c.2.2.1 == 0) <;> simp [h4]
      cases plainW c.2.2.2 <;> rfl
    · simp only [h3, decide_false, cond_false]
      cases seq c.2.2.2 ⟨#[]⟩ with
      | false => rfl
      | true =>
        simp only [Bool.not_true, cond_false, Nat.zero_add, Nat.mul_one, show decide (0 ≤ c.2.1) = true by rw [decide_eq_true_iff]; omega, show decide (c.2.1 < 3) = true by rw [decide_eq_true_iff]; omega, show decide (c.2.1.toNat < 3) = true by rw [decide_eq_true_iff]; omega, Bool.and_self, Bool.true_or, cond_true]
        cases (decide (c.2.2.1 < 0) || decide (c.2.2.1 > List.getD [60000, 4095, 400] c.2.1.toNat 0)) <;> rfl
theorem ref_ClearError.v (c : Clr) : ref_ClearError.fn N c = some (clearErr c) := by
  rw [ref_ClearError.clean]
  simp only [ref_free.v hN, Option.bind_some]
  unfold clearErr
  cases plainW c.1 with
  | false => rfl
  | true =>
    simp only [Bool.not_true, cond_false]
    by_cases h1 : c.2.1 < 0
    · simp [h1]
    by_cases h2 : c.2.1 > 6
    · simp [h2]
    simp only [h1, h2, decide_false, Bool.or_false, cond_false]
    have hk : c.2.1 = 0 ∨ c.2.1 = 1 ∨ c.2.1 = 2 ∨ c.2.1 = 3 ∨ c.2.1 = 4 ∨ c.2.1 = 5 ∨ c.2.1 = 6 := by omega
    generalize c.2.1 = kd at hk
    generalize c.2.2.1 = vl
    generalize hpl : plainW c.2.2.2 = pl
    generalize seq c.2.2.2 ⟨#[]⟩ = em
    rcases hk with rfl | rfl | rfl | rfl | rfl | rfl | rfl <;> cases hv : (vl == 0) <;> cases pl <;> cases em <;> simp [hv] <;> (try (simp at hv; subst hv; simp)) <;> (try (by_cases a1 : vl < 0 <;> simp [a1])) <;> (try (exact bif_some _ _ _))
end
abbrev Kd := ByteArray × Int × Int × Int × Int × Int × Int
theorem bif_ex {α : Type} {b : Bool} {x y : Option α} (h1 : ∃ e, x = some e) (h2 : ∃ e, y = some e) : ∃ e, (bif b then x else y) = some e := by
  cases b
  · exact h2
  · exact h1
section
variable {N : Nat} (hN : 4611686018427387904 ≤ N)
include hN
theorem air_ex (k : Kd) : ∃ e, aircraft_Check.fn N k = some e := by
  rw [aircraft_Check.clean, chart_Name.v hN, Option.bind_some]
  refine bif_ex ⟨_, rfl⟩ (bif_ex ⟨_, rfl⟩ (bif_ex (bif_ex ⟨_, rfl⟩ (bif_ex ⟨_, rfl⟩ (bif_ex ⟨_, rfl⟩ ⟨_, rfl⟩))) (bif_ex (bif_ex ⟨_, rfl⟩ (bif_ex ⟨_, rfl⟩ (bif_ex ⟨_, rfl⟩ ⟨_, rfl⟩))) (bif_ex ⟨_, rfl⟩ (bif_ex ⟨_, rfl⟩ (bif_ex ⟨_, rfl⟩ ⟨_, rfl⟩))))))
end
section
variable {N : Nat} (hN : 4611686018427387904 ≤ N) {l : List Nd} {c : Clr} {t0 : Int} (k : Kd) (p : Pt) (r1 r2 r3 r4 : Int) {r5 : Nd}
include hN
theorem of_l0 (hl : l.length ≤ 64) : effect_Of.l0 N l c t0 k p r1 r2 r3 r4 r5 N 0 [] [] = effect_Of.l0 N l c t0 k p r1 r2 r3 r4 r5 1 (l.length : Int) (l.filter (tlt t0)) (l.filter fun n => decide (n.1.1 > t0)) := by
  refine list_loop (l := l) (fun k' (s : List Nd × List Nd) i => effect_Of.l0 N l c t0 k p r1 r2 r3 r4 r5 k' i s.1 s.2) (fun _ r s => effect_Of.l0 N l c t0 k p r1 r2 r3 r4 r5 1 (l.length : Int) (s.1 ++ r.filter (tlt t0)) (s.2 ++ r.filter fun n => decide (n.1.1 > t0)))
    (fun pre s => s.1.length ≤ pre.length ∧ s.2.length ≤ pre.length) (fun k' s _ => ?_) (fun k' pre x r s hl' hI ih => ?_) N ([], []) ⟨Nat.le_refl _, Nat.le_refl _⟩ (by omega)
  · show effect_Of.l0 N l c t0 k p r1 r2 r3 r4 r5 (k' + 1) (l.length : Int) s.1 s.2 = _
    rw [effect_Of.l0_nil, List.filter_nil, List.append_nil, List.filter_nil, List.append_nil, effect_Of.l0_nil]
  · have hlt := mid_lt hl'
    obtain ⟨i1, i2⟩ := hI
    have cap1 : (decide ((s.1.length + 1) * 48 ≤ 140737488355328) && decide ((s.1.length + 1) ≤ maxLen)) = true := by rw [Bool.and_eq_true, decide_eq_true_iff, decide_eq_true_iff]; unfold maxLen; omega
    have cap2 : (decide ((s.2.length + 1) * 48 ≤ 140737488355328) && decide ((s.2.length + 1) ≤ maxLen)) = true := by rw [Bool.and_eq_true, decide_eq_true_iff, decide_eq_true_iff]; unfold maxLen; omega
    show effect_Of.l0 N l c t0 k p r1 r2 r3 r4 r5 (k' + 1) (pre.length : Int) s.1 s.2 = _
    rw [effect_Of.l0_cons N l c t0 k p r1 r2 r3 r4 r5 k' s.1 s.2 hl' (by omega), cap1, cap2]
    by_cases h1 : x.1.1 < t0
    · rw [decide_eq_true h1, cond_true, cond_true, List.filter_cons_of_pos (by unfold tlt; exact decide_eq_true h1), List.filter_cons_of_neg (by simp; omega)]
      have := ih (s.1 ++ [x], s.2) ⟨by simp; omega, by simp; omega⟩
      simp only [List.append_assoc, List.singleton_append] at this
      exact this
    · by_cases h2 : x.1.1 > t0
      · rw [decide_eq_false h1, cond_false, decide_eq_true h2, cond_true, cond_true, List.filter_cons_of_neg (by unfold tlt; simp; omega), List.filter_cons_of_pos (by simpa using h2)]
        have := ih (s.1, s.2 ++ [x]) ⟨by simp; omega, by simp; omega⟩
        simp only [List.append_assoc, List.singleton_append] at this
        exact this
      · rw [decide_eq_false h1, cond_false, decide_eq_false h2, cond_false, List.filter_cons_of_neg (by unfold tlt; simp; omega), List.filter_cons_of_neg (by simp; omega)]
        exact ih s ⟨by simp; omega, by simp; omega⟩
end
/-! ### the root -/
theorem wI (n : Int) : w n = (n + 9223372036854775808) % 18446744073709551616 - 9223372036854775808 := by
  simp only [w, IntKind.wrap, IntKind.bits, IntKind.signed]
  simp
  split <;> omega
theorem root_l1 {N : Nat} {n : Int} (hn : n < 9223372036854775808) (h0 : 0 ≤ n) : ∀ (m k : Nat) (a : Int), 1 ≤ a → a + m = 8589934592 → m < k → ∃ s, num_Root.l1 N n k a = some s ∧ 0 ≤ s ∧ s ≤ 8589934592 := by
  intro m
  induction m with
  | zero =>
    intro k a h1 ha hk
    obtain ⟨k, rfl⟩ : ∃ k', k = k' + 1 := ⟨k - 1, by omega⟩
    have e : a = 8589934592 := by omega
    subst e
    have hw : w (8589934592 + 1) = 8589934593 := by rw [w_small _ (by omega) (by omega)]; rfl
    have hd : Int.tdiv n 8589934593 = n / 8589934593 := Int.tdiv_eq_ediv_of_nonneg h0
    rw [num_Root.l1_succ, hw, hd, w_small _ (by omega) (by omega), show ((8589934593 : Int) != 0) = true from rfl, cond_true, decide_eq_false (by omega), cond_false]
    exact ⟨_, rfl, by omega, by omega⟩
  | succ m ih =>
    intro k a h1 ha hk
    obtain ⟨k, rfl⟩ : ∃ k', k = k' + 1 := ⟨k - 1, by omega⟩
    have hw : w (a + 1) = a + 1 := w_small _ (by omega) (by omega)
    have hne : ((a + 1) != 0) = true := by simp; omega
    rw [num_Root.l1_succ, hw, hne, cond_true]
    cases decide (a + 1 ≤ w (Int.tdiv n (a + 1))) with
    | false => exact ⟨_, rfl, by omega, by omega⟩
    | true => exact ih k (a + 1) (by omega) (by omega) (by omega)
theorem root_l0 {N : Nat} (hN : 4611686018427387904 ≤ N) {n : Int} (hn : n < 9223372036854775808) (h1 : 1 ≤ n) : ∀ (m k : Nat) (a : Int), a = (m : Int) + 1 → a ≤ 8589934592 → m < k → ∃ s, num_Root.l0 N n k a = some s ∧ 0 ≤ s ∧ s ≤ 8589934592 := by
  intro m
  induction m with
  | zero =>
    intro k a ha hb hk
    obtain ⟨k, rfl⟩ : ∃ k', k = k' + 1 := ⟨k - 1, by omega⟩
    have e : a = 1 := by omega
    subst e
    rw [num_Root.l0_succ, show ((1 : Int) != 0) = true from rfl, cond_true, Int.tdiv_one, w_small _ (by omega) (by omega), decide_eq_false (by omega), cond_false]
    exact root_l1 hn (by omega) 8589934591 N 1 (by omega) (by omega) (by omega)
  | succ m ih =>
    intro k a ha hb hk
    obtain ⟨k, rfl⟩ : ∃ k', k = k' + 1 := ⟨k - 1, by omega⟩
    have hw : w (a - 1) = a - 1 := w_small _ (by omega) (by omega)
    have hne : (a != 0) = true := by simp; omega
    rw [num_Root.l0_succ, hne, cond_true]
    cases decide (a > w (Int.tdiv n a)) with
    | true =>
      rw [cond_true, hw]
      exact ih k (a - 1) (by omega) (by omega) (by omega)
    | false =>
      exact root_l1 hn (by omega) (8589934592 - a).toNat N a (by omega) (by omega) (by omega)
noncomputable def rt (N : Nat) (n : Int) : Int := (num_Root.fn N n).getD 0
theorem root_v {N : Nat} (hN : 4611686018427387904 ≤ N) {n : Int} (hn : n < 9223372036854775808) : num_Root.fn N n = some (rt N n) := by
  have key : ∃ s, num_Root.fn N n = some s := by
    rw [num_Root.eq]
    by_cases h : n ≤ 0
    · rw [decide_eq_true h]; exact ⟨_, rfl⟩
    · rw [decide_eq_false h, cond_false]
      obtain ⟨b, r, e1, e2, r1, r2⟩ := Flo.sqrt_ok n (by omega) hn
      have e1' : fsq (floatOfInt .f64 n) = some b := e1
      have e3 : floatToIntVal .f64 b .i64 = some r := by
        unfold floatToIntVal
        rw [e2]
        have hb : IntKind.i64.min ≤ r ∧ r ≤ IntKind.i64.max := by
          have : IntKind.i64.min = -9223372036854775808 := by decide
          have : IntKind.i64.max = 9223372036854775807 := by decide
          omega
        dsimp only
        rw [if_pos hb]
      rw [e1']
      dsimp only [Option.isSome_some, Option.getD_some]
      rw [cond_true, e3]
      dsimp only [Option.isSome_some, Option.getD_some]
      rw [cond_true]
      obtain ⟨s, hs, _⟩ := root_l0 hN hn (by omega) (r - 1).toNat N r (by omega) (by omega) (by omega)
      exact ⟨s, hs⟩
  obtain ⟨s, hs⟩ := key
  unfold rt
  rw [hs]
  rfl
/-! ### separation -/
def sqP (a b : Pt) : Int := w ((w ((w (a.1 - b.1)) * (w (a.1 - b.1)))) + (w ((w (a.2 - b.2)) * (w (a.2 - b.2)))))
theorem w_sq (a b : Int) : (w (a - b)) * (w (a - b)) = (w (b - a)) * (w (b - a)) := by
  have h : w (b - a) = - w (a - b) ∨ w (b - a) = w (a - b) := by rw [wI, wI]; omega
  rcases h with h | h
  · rw [h, Int.neg_mul_neg]
  · rw [h]
theorem sqP_comm (a b : Pt) : sqP a b = sqP b a := by
  unfold sqP
  rw [w_sq a.1 b.1, w_sq a.2 b.2]
theorem sqP_lt (a b : Pt) : sqP a b < 9223372036854775808 := by unfold sqP; rw [wI]; omega
theorem dist_v {N : Nat} (hN : 4611686018427387904 ≤ N) (a b : Pt) : ∃ u, plane_Distance.fn N (a, b) = some (rt N (sqP a b), u) := by
  have hs : plane_Square.fn N (a, b) = some (sqP a b) := by
    rw [plane_Square.eq, plane_Sub.eq, Option.bind_some, plane_Dot.eq, Option.bind_some]
    rfl
  rw [plane_Distance.eq, hs, Option.bind_some, root_v hN (sqP_lt a b), Option.bind_some]
  cases decide ((w (rt N (sqP a b) * rt N (sqP a b))) < sqP a b) <;> exact ⟨_, rfl⟩
/-! ### vectors -/
theorem band_ex (h : Int) : ∃ j : Nat, j < 4096 ∧ bandI .i64 h 4095 = (j : Int) := by
  refine ⟨(BitVec.ofInt 64 h &&& BitVec.ofInt 64 4095).toNat, ?_, ?_⟩
  · rw [BitVec.toNat_and]
    have h1 : (BitVec.ofInt 64 4095).toNat = 4095 := by decide
    rw [h1]
    have := Nat.and_le_right (n := (BitVec.ofInt 64 h).toNat) (m := 4095)
    omega
  · have h2 : (BitVec.ofInt 64 h &&& BitVec.ofInt 64 4095).toNat < 4096 := by
      rw [BitVec.toNat_and]
      have h1 : (BitVec.ofInt 64 4095).toNat = 4095 := by decide
      rw [h1]
      have := Nat.and_le_right (n := (BitVec.ofInt 64 h).toNat) (m := 4095)
      omega
    show w (((BitVec.ofInt 64 h &&& BitVec.ofInt 64 4095).toNat : Nat) : Int) = _
    rw [w_small _ (by omega) (by omega)]
theorem sinF_v (M : Nat) {x y : Nat} (h : sinF x = some y) : math_sin.fn (M + 1) x = some y := by
  unfold sinF at h
  rw [math_sin.clean, math_IsNaN.eq, math_IsInf.eq, math_Abs.eq]
  cases h1 : feql .f64 x 0 with
  | true => rw [h1, cond_true] at h; rw [← h]; rfl
  | false =>
    rw [h1, cond_false] at h
    rw [Bool.not_false, cond_true, Option.bind_some, Bool.false_or]
    cases h2 : (!(feql .f64 x x)) with
    | true => rw [h2, cond_true] at h; rw [← h]; rfl
    | false =>
      rw [h2, cond_false] at h
      rw [cond_false, show ((0 : Int) == 0) = true from rfl, cond_true, Option.bind_some, Option.bind_some]
      cases h3 : fgtr .f64 (Int.toNat (bandNotI .u64 ((x : Nat) : Int) 9223372036854775808)) 9218868437227405311 with
      | true => rw [h3, cond_true] at h; cases h
      | false =>
        rw [h3, cond_false] at h
        rw [cond_false]
        cases h4 : flss .f64 x 0 with
        | true => rw [h4, cond_true] at h; cases h
        | false =>
          rw [h4, cond_false] at h
          rw [cond_false]
          exact sin0_v M x false h
theorem rndF_v (N : Nat) (x : Nat) : math_Round.fn N x = rndF x := by rw [math_Round.eq]; rfl
theorem sin_ex (M : Nat) (h : Int) : ∃ u, angle_Sin.fn (M + 1) h = some u := by
  obtain ⟨j, hj, e⟩ := band_ex h
  obtain ⟨u, hu⟩ := sinA_ex j hj
  refine ⟨u, ?_⟩
  rw [angle_Sin.eq, angle_Norm.eq, e, Option.bind_some]
  unfold sinA at hu
  cases h1 : fmul .f64 (floatOfInt .f64 (j : Int)) 4611686018427387904 with
  | none => rw [h1] at hu; cases hu
  | some x1 =>
    rw [h1, Option.bind_some] at hu
    simp only [Option.isSome_some, Option.getD_some, cond_true]
    cases h2 : fmul .f64 x1 4614256656552045848 with
    | none => rw [h2] at hu; cases hu
    | some x2 =>
      rw [h2, Option.bind_some] at hu
      simp only [Option.isSome_some, Option.getD_some, cond_true]
      cases h3 : fdiv .f64 x2 4661225614328463360 with
      | none => rw [h3] at hu; cases hu
      | some x3 =>
        rw [h3, Option.bind_some] at hu
        simp only [Option.isSome_some, Option.getD_some, cond_true]
        cases h4 : sinF x3 with
        | none => rw [h4] at hu; cases hu
        | some y =>
          rw [h4, Option.bind_some] at hu
          rw [math_Sin.eq, sinF_v M h4, Option.bind_some, Option.bind_some]
          cases h5 : fmul .f64 y 4670232813583204352 with
          | none => rw [h5] at hu; cases hu
          | some y1 =>
            rw [h5, Option.bind_some] at hu
            simp only [Option.isSome_some, Option.getD_some, cond_true]
            rw [rndF_v]
            cases h6 : rndF y1 with
            | none => rw [h6] at hu; cases hu
            | some y2 =>
              rw [h6, Option.bind_some] at hu
              rw [Option.bind_some, hu]
              rfl
section
variable {N : Nat} (hN : 4611686018427387904 ≤ N)
include hN
theorem vec_ex (h len : Int) : ∃ v, angle_Vector.fn N (h, len) = some v := by
  obtain ⟨M, rfl⟩ : ∃ M, N = M + 1 := ⟨N - 1, by omega⟩
  obtain ⟨s, hs⟩ := sin_ex M h
  obtain ⟨c, hc⟩ := sin_ex M (w (h + 1024))
  have sc : ∀ a b, ∃ q, angle_scaled.fn (M + 1) (a, b) = some q := by
    intro a b
    rw [angle_scaled.eq]
    cases decide ((w (a * b)) < 0) <;> exact ⟨_, rfl⟩
  obtain ⟨q1, h1⟩ := sc len s
  obtain ⟨q2, h2⟩ := sc len c
  rw [angle_Vector.clean, hs, angle_Cos.eq, hc, Option.bind_some, h1, Option.bind_some, Option.bind_some, Option.bind_some, h2, Option.bind_some]
  cases ((decide (len < 0)) || (decide (len > 2000000))) <;> exact ⟨_, rfl⟩
noncomputable def vecV (N : Nat) (h len : Int) : (Int × Int) × Int := (angle_Vector.fn N (h, len)).getD ((0, 0), 0)
theorem vec_v (h len : Int) : angle_Vector.fn N (h, len) = some (vecV N h len) := by
  obtain ⟨v, hv⟩ := vec_ex hN h len
  unfold vecV
  rw [hv]
  rfl
/-! ### distances -/
theorem rt_b {n : Int} (hn : n < 9223372036854775808) : 0 ≤ rt N n ∧ rt N n ≤ 8589934592 := by
  have key : ∃ s, num_Root.fn N n = some s ∧ 0 ≤ s ∧ s ≤ 8589934592 := by
    rw [num_Root.eq]
    by_cases h : n ≤ 0
    · rw [decide_eq_true h]; exact ⟨_, rfl, by omega, by omega⟩
    · rw [decide_eq_false h, cond_false]
      obtain ⟨b, r, e1, e2, r1, r2⟩ := Flo.sqrt_ok n (by omega) hn
      have e1' : fsq (floatOfInt .f64 n) = some b := e1
      have e3 : floatToIntVal .f64 b .i64 = some r := by
        unfold floatToIntVal
        rw [e2]
        have hb : IntKind.i64.min ≤ r ∧ r ≤ IntKind.i64.max := by
          have : IntKind.i64.min = -9223372036854775808 := by decide
          have : IntKind.i64.max = 9223372036854775807 := by decide
          omega
        dsimp only
        rw [if_pos hb]
      rw [e1']
      dsimp only [Option.isSome_some, Option.getD_some]
      rw [cond_true, e3]
      dsimp only [Option.isSome_some, Option.getD_some]
      rw [cond_true]
      exact root_l0 hN hn (by omega) (r - 1).toNat N r (by omega) (by omega) (by omega)
  obtain ⟨s, hs, b⟩ := key
  unfold rt
  rw [hs]
  exact b
noncomputable def dsV (N : Nat) (a b : Pt) : Int × Int := (plane_Distance.fn N (a, b)).getD (0, 0)
theorem ds_v (a b : Pt) : plane_Distance.fn N (a, b) = some (dsV N a b) ∧ 0 ≤ (dsV N a b).1 ∧ (dsV N a b).1 ≤ 8589934592 ∧ 0 ≤ (dsV N a b).2 ∧ (dsV N a b).2 ≤ 8589934593 := by
  have hs : plane_Square.fn N (a, b) = some (sqP a b) := by
    rw [plane_Square.eq, plane_Sub.eq, Option.bind_some, plane_Dot.eq, Option.bind_some]
    rfl
  obtain ⟨b0, b1⟩ := rt_b hN (sqP_lt a b)
  have hv : plane_Distance.fn N (a, b) = some (rt N (sqP a b), bif decide ((w (rt N (sqP a b) * rt N (sqP a b))) < sqP a b) then w (rt N (sqP a b) + 1) else rt N (sqP a b)) := by
    rw [plane_Distance.eq, hs, Option.bind_some, root_v hN (sqP_lt a b), Option.bind_some]
    cases decide ((w (rt N (sqP a b) * rt N (sqP a b))) < sqP a b) <;> rfl
  unfold dsV
  rw [hv]
  refine ⟨rfl, b0, b1, ?_⟩
  show 0 ≤ (bif decide ((w (rt N (sqP a b) * rt N (sqP a b))) < sqP a b) then w (rt N (sqP a b) + 1) else rt N (sqP a b)) ∧ (bif decide ((w (rt N (sqP a b) * rt N (sqP a b))) < sqP a b) then w (rt N (sqP a b) + 1) else rt N (sqP a b)) ≤ 8589934593
  cases decide ((w (rt N (sqP a b) * rt N (sqP a b))) < sqP a b) with
  | true => rw [cond_true, w_small _ (by omega) (by omega)]; omega
  | false => rw [cond_false]; omega
end
/-! ### the turn -/
noncomputable def turnP (N : Nat) (h s t0 : Int) (P : Pt) (x : Nd) : Pt := (w (P.1 + (vecV N h (w (s * (w (x.1.1 - t0))))).1.1), w (P.2 + (vecV N h (w (s * (w (x.1.1 - t0))))).1.2))
noncomputable def turnS (N : Nat) (h s t0 : Int) (P : Pt) : List Nd → List Nd → List Nd × Int
  | acc, [] => (acc, 0)
  | acc, x :: r => bif !((vecV N h (w (s * (w (x.1.1 - t0))))).2 == 0) then ([], (vecV N h (w (s * (w (x.1.1 - t0))))).2) else
      bif !(ptE (turnP N h s t0 P x) == 0) then ([], ptE (turnP N h s t0 P x)) else turnS N h s t0 P (acc ++ [((x.1.1, (turnP N h s t0 P x, x.1.2.2)), x.2)]) r
theorem turnS_nil (N : Nat) (h s t0 : Int) (P : Pt) (acc : List Nd) : turnS N h s t0 P acc [] = (acc, 0) := rfl
theorem turnS_cons (N : Nat) (h s t0 : Int) (P : Pt) (acc : List Nd) (x : Nd) (r : List Nd) : turnS N h s t0 P acc (x :: r) = bif !((vecV N h (w (s * (w (x.1.1 - t0))))).2 == 0) then ([], (vecV N h (w (s * (w (x.1.1 - t0))))).2) else
      bif !(ptE (turnP N h s t0 P x) == 0) then ([], ptE (turnP N h s t0 P x)) else turnS N h s t0 P (acc ++ [((x.1.1, (turnP N h s t0 P x, x.1.2.2)), x.2)]) r := rfl
def finS (o : List Nd × Int) : List Nd × Int := bif !(o.2 == 0) then ([], o.2) else bif decide ((o.1.length : Int) > 64) then ([], 2) else (o.1, 0)
theorem finS_err {e : Int} (he : (e == 0) = false) (L : List Nd) : finS (L, e) = ([], e) := by unfold finS; rw [he]; rfl
theorem finS_ok (L : List Nd) : finS (L, 0) = bif decide ((L.length : Int) > 64) then ([], 2) else (L, 0) := rfl
section
variable {N : Nat} (hN : 4611686018427387904 ≤ N) {l : List Nd} {c : Clr} {t0 : Int} (k : Kd) (p : Pt) (r1 r2 r3 r4 : Int) {r5 : Nd}
include hN
theorem of_l4 (s : Int) (h5 : r5.1.1 = t0) {ta : List Nd} (hlen : ta.length ≤ 65) {acc : List Nd} (hacc : acc.length ≤ 100) :
    effect_Of.l4 N l c t0 k p r1 r2 r3 r4 r5 ta s N 0 acc = some (finS (turnS N c.2.2.1 s t0 r5.1.2.1 acc ta)) := by
  refine list_loop (l := ta) (fun k' (a : List Nd) i => effect_Of.l4 N l c t0 k p r1 r2 r3 r4 r5 ta s k' i a) (fun _ r a => some (finS (turnS N c.2.2.1 s t0 r5.1.2.1 a r)))
    (fun pre a => a.length ≤ 100 + pre.length) (fun k' a _ => ?_) (fun k' pre x r a hl hI ih => ?_) N acc (by simp; omega) (by omega)
  · show effect_Of.l4 N l c t0 k p r1 r2 r3 r4 r5 ta s (k' + 1) (ta.length : Int) a = _
    rw [effect_Of.l4_nil, turnS_nil, finS_ok, ← bif_some]
  · have hlt := mid_lt hl
    have hcap : (decide ((a.length + 1) * 48 ≤ 140737488355328) && decide ((a.length + 1) ≤ maxLen)) = true := by rw [Bool.and_eq_true, decide_eq_true_iff, decide_eq_true_iff]; unfold maxLen; omega
    have ih := ih (a ++ [((x.1.1, (turnP N c.2.2.1 s t0 r5.1.2.1 x, x.1.2.2)), x.2)]) (by simp; omega)
    show effect_Of.l4 N l c t0 k p r1 r2 r3 r4 r5 ta s (k' + 1) (pre.length : Int) a = some (finS (turnS N c.2.2.1 s t0 r5.1.2.1 a (x :: r)))
    rw [turnS_cons, effect_Of.l4_cons N l c t0 k p r1 r2 r3 r4 r5 ta s k' a hl (by omega), decide_eq_true hlt, cond_true, h5, vec_v hN, Option.bind_some]
    cases e1 : ((vecV N c.2.2.1 (w (s * (w (x.1.1 - t0))))).2 == 0) with
    | false =>
      rw [Bool.not_false, cond_true, cond_true, cond_true, finS_err e1]
    | true =>
      rw [Bool.not_true, cond_false, cond_false, plane_Add.eq, Option.bind_some, ptE_v, Option.bind_some, hcap, cond_true]
      have eP : (w (r5.1.2.1.1 + (vecV N c.2.2.1 (w (s * (w (x.1.1 - t0))))).1.1), w (r5.1.2.1.2 + (vecV N c.2.2.1 (w (s * (w (x.1.1 - t0))))).1.2)) = turnP N c.2.2.1 s t0 r5.1.2.1 x := rfl
      rw [eP]
      cases e2 : (ptE (turnP N c.2.2.1 s t0 r5.1.2.1 x) == 0) with
      | false => rw [Bool.not_false, cond_true, cond_true, cond_true, finS_err e2]
      | true =>
        rw [Bool.not_true, cond_false, cond_false]
        exact ih
theorem ex_turn (hk : c.2.1 = 1) (r1 : Nd × Int) (r6 : Int × Int) {ta : List Nd} (hlen : ta.length ≤ 65) {acc : List Nd} (hacc : acc.length ≤ 100) (b1 b2 b3 b4 b5 b6 : Int) :
    law_expected.l2 N c t0 r1 ta r6 N 0 acc b1 b2 b3 b4 b5 b6 = some (turnS N c.2.2.1 (w (Int.tdiv r6.1 (w ((((List.getD ta 0 ((0, ((0, 0), 0)), (0, 0))).1).1) - t0)))) t0 r1.1.1.2.1 acc ta) := by
  generalize hs : (w (Int.tdiv r6.1 (w ((((List.getD ta 0 ((0, ((0, 0), 0)), (0, 0))).1).1) - t0)))) = s
  refine list_loop (l := ta) (fun k' (a : List Nd × Int × Int × Int × Int × Int × Int) i => law_expected.l2 N c t0 r1 ta r6 k' i a.1 a.2.1 a.2.2.1 a.2.2.2.1 a.2.2.2.2.1 a.2.2.2.2.2.1 a.2.2.2.2.2.2) (fun _ r a => some (turnS N c.2.2.1 s t0 r1.1.1.2.1 a.1 r))
    (fun pre a => a.1.length ≤ 100 + pre.length) (fun k' a _ => ?_) (fun k' pre x r a hl hI ih => ?_) N (acc, b1, b2, b3, b4, b5, b6) (by simp; omega) (by omega)
  · show law_expected.l2 N c t0 r1 ta r6 (k' + 1) (ta.length : Int) _ _ _ _ _ _ _ = _
    rw [law_expected.l2_nil, turnS_nil]
  · have hlt := mid_lt hl
    have hI : a.1.length ≤ 100 + pre.length := hI
    have hcap : (decide ((a.1.length + 1) * 48 ≤ 140737488355328) && decide ((a.1.length + 1) ≤ maxLen)) = true := by rw [Bool.and_eq_true, decide_eq_true_iff, decide_eq_true_iff]; unfold maxLen; omega
    have ih := ih (a.1 ++ [((x.1.1, (turnP N c.2.2.1 s t0 r1.1.1.2.1 x, x.1.2.2)), x.2)], x.1.1, w (r1.1.1.2.1.1 + (vecV N c.2.2.1 (w (s * (w (x.1.1 - t0))))).1.1), w (r1.1.1.2.1.2 + (vecV N c.2.2.1 (w (s * (w (x.1.1 - t0))))).1.2), x.1.2.2, x.2.1, x.2.2) (by simp; omega)
    dsimp only at ih
    show law_expected.l2 N c t0 r1 ta r6 (k' + 1) (pre.length : Int) a.1 a.2.1 a.2.2.1 a.2.2.2.1 a.2.2.2.2.1 a.2.2.2.2.2.1 a.2.2.2.2.2.2 = some (turnS N c.2.2.1 s t0 r1.1.1.2.1 a.1 (x :: r))
    rw [turnS_cons, law_expected.l2_cons N c t0 r1 ta r6 k' a.1 a.2.1 a.2.2.1 a.2.2.2.1 a.2.2.2.2.1 a.2.2.2.2.2.1 a.2.2.2.2.2.2 hl (by omega), decide_eq_true hlt, cond_true, hk, show ((1 : Int) == 1) = true from rfl, cond_true, hs, vec_v hN, Option.bind_some]
    cases e1 : ((vecV N c.2.2.1 (w (s * (w (x.1.1 - t0))))).2 == 0) with
    | false => rw [Bool.not_false, cond_true, cond_true]
    | true =>
      rw [Bool.not_true, cond_false, cond_false, ptE_v, Option.bind_some, hcap, cond_true]
      have eP : (w (r1.1.1.2.1.1 + (vecV N c.2.2.1 (w (s * (w (x.1.1 - t0))))).1.1), w (r1.1.1.2.1.2 + (vecV N c.2.2.1 (w (s * (w (x.1.1 - t0))))).1.2)) = turnP N c.2.2.1 s t0 r1.1.1.2.1 x := rfl
      rw [eP]
      cases e2 : (ptE (turnP N c.2.2.1 s t0 r1.1.1.2.1 x) == 0) with
      | false => rw [Bool.not_false, cond_true, cond_true]
      | true =>
        rw [Bool.not_true, cond_false, cond_false, ih]
/-! ### the pace -/
def upV (d v : Int) : Int := bif (decide (d % v > 0)) || (d == 0) then d / v + 1 else d / v
omit hN in
theorem upV_eq {d v : Int} (h0 : 0 ≤ d) (hv : 1 ≤ v) : upV d v = if (d + v - 1) / v > 1 then (d + v - 1) / v else 1 := by
  have e1 : v * (d / v) + d % v = d := Int.mul_ediv_add_emod d v
  have e2 := Int.emod_nonneg d (b := v) (by omega)
  have e3 := Int.emod_lt_of_pos d (b := v) (by omega)
  have e4 : 0 ≤ d / v := Int.ediv_nonneg h0 (by omega)
  have e5 : (d + v - 1) / v = (d % v + v - 1) / v + d / v := by
    rw [← Int.add_mul_ediv_left _ _ (show v ≠ 0 by omega)]
    congr 1
    omega
  unfold upV
  rw [e5]
  by_cases hr : d % v > 0
  · have e6 : (d % v + v - 1) / v = 1 := by
      have : d % v + v - 1 = (d % v - 1) + v * 1 := by omega
      rw [this, Int.add_mul_ediv_left _ _ (show v ≠ 0 by omega), Int.ediv_eq_zero_of_lt (by omega) (by omega)]
      rfl
    rw [decide_eq_true hr, Bool.true_or, cond_true, e6]
    split <;> omega
  · have e6 : (d % v + v - 1) / v = 0 := Int.ediv_eq_zero_of_lt (by omega) (by omega)
    rw [decide_eq_false hr, Bool.false_or, e6]
    by_cases hd : d = 0
    · rw [beq_iff_eq.2 hd, cond_true, hd, Int.zero_ediv]
      rfl
    · rw [beq_eq_false_iff_ne.2 hd, cond_false]
      have : d / v ≠ 0 := by
        intro h
        rw [h] at e1
        omega
      split <;> omega
omit hN in
theorem upV_b {d v : Int} (h0 : 0 ≤ d) (h1 : d ≤ 8589934593) (hv : 1 ≤ v) : 1 ≤ upV d v ∧ upV d v ≤ 8589934594 := by
  have e := upV_eq h0 hv
  have q : d / v ≤ d := Int.ediv_le_self v h0
  have q0 : 0 ≤ d / v := Int.ediv_nonneg h0 (by omega)
  constructor
  · rw [e]; split <;> omega
  · unfold upV
    cases (decide (d % v > 0)) || (d == 0)
    · rw [cond_false]; omega
    · rw [cond_true]; omega
omit hN in
theorem up_v {d v : Int} (h0 : 0 ≤ d) (h1 : d ≤ 8589934593) (hv : 1 ≤ v) (hv2 : v ≤ 8589934592) : effect_up.fn N (d, v) = some (upV d v) := by
  have hne : (v != 0) = true := by simp; omega
  have e0 : 0 ≤ d + v - 1 := by omega
  have e1 : Int.tdiv (d + v - 1) v = (d + v - 1) / v := Int.tdiv_eq_ediv_of_nonneg e0
  have q : (d + v - 1) / v ≤ d + v - 1 := Int.ediv_le_self v e0
  have q0 : 0 ≤ (d + v - 1) / v := Int.ediv_nonneg e0 (by omega)
  rw [effect_up.eq, hne, cond_true, upV_eq h0 hv, w_small (d + v) (by omega) (by omega), w_small (d + v - 1) (by omega) (by omega), e1, w_small ((d + v - 1) / v) (by omega) (by omega)]
noncomputable def paceS (N : Nat) (v : Int) : Int → Pt → List Nd → List Nd → List Nd × Int
  | _, _, acc, [] => (acc, 0)
  | t, P, acc, x :: r => bif decide (t + upV (dsV N P x.1.2.1).2 v > 200000) then ([], 12) else
      paceS N v (t + upV (dsV N P x.1.2.1).2 v) x.1.2.1 (acc ++ [((t + upV (dsV N P x.1.2.1).2 v, x.1.2), x.2)]) r
omit hN in
theorem paceS_nil (N : Nat) (v t : Int) (P : Pt) (acc : List Nd) : paceS N v t P acc [] = (acc, 0) := rfl
omit hN in
theorem paceS_cons (N : Nat) (v t : Int) (P : Pt) (acc : List Nd) (x : Nd) (r : List Nd) : paceS N v t P acc (x :: r) = bif decide (t + upV (dsV N P x.1.2.1).2 v > 200000) then ([], 12) else
      paceS N v (t + upV (dsV N P x.1.2.1).2 v) x.1.2.1 (acc ++ [((t + upV (dsV N P x.1.2.1).2 v, x.1.2), x.2)]) r := rfl
theorem of_l5 (hv : 1 ≤ c.2.2.1) (hv2 : c.2.2.1 ≤ 1000) {ta : List Nd} (hlen : ta.length ≤ 65) {acc : List Nd} (hacc : acc.length ≤ 100) (t : Int) (ht : 0 ≤ t) (ht2 : t ≤ 200000) (P : Pt) :
    effect_Of.l5 N l c t0 k p r1 r2 r3 r4 r5 ta N t 0 acc P.1 P.2 = some (finS (paceS N c.2.2.1 t P acc ta)) := by
  refine list_loop (l := ta) (fun k' (a : Int × Pt × List Nd) i => effect_Of.l5 N l c t0 k p r1 r2 r3 r4 r5 ta k' a.1 i a.2.2 a.2.1.1 a.2.1.2) (fun _ r a => some (finS (paceS N c.2.2.1 a.1 a.2.1 a.2.2 r)))
    (fun pre a => a.2.2.length ≤ 100 + pre.length ∧ 0 ≤ a.1 ∧ a.1 ≤ 200000) (fun k' a _ => ?_) (fun k' pre x r a hl hI ih => ?_) N (t, P, acc) ⟨by simp; omega, ht, ht2⟩ (by omega)
  · show effect_Of.l5 N l c t0 k p r1 r2 r3 r4 r5 ta (k' + 1) a.1 (ta.length : Int) a.2.2 a.2.1.1 a.2.1.2 = _
    rw [effect_Of.l5_nil, paceS_nil, finS_ok, ← bif_some]
  · have hlt := mid_lt hl
    obtain ⟨i1, i2, i3⟩ := hI
    have hcap : (decide ((a.2.2.length + 1) * 48 ≤ 140737488355328) && decide ((a.2.2.length + 1) ≤ maxLen)) = true := by rw [Bool.and_eq_true, decide_eq_true_iff, decide_eq_true_iff]; unfold maxLen; omega
    obtain ⟨d0, _, _, d1, d2⟩ := ds_v hN a.2.1 x.1.2.1
    obtain ⟨u1, u2⟩ := upV_b d1 d2 hv
    show effect_Of.l5 N l c t0 k p r1 r2 r3 r4 r5 ta (k' + 1) a.1 (pre.length : Int) a.2.2 a.2.1.1 a.2.1.2 = some (finS (paceS N c.2.2.1 a.1 a.2.1 a.2.2 (x :: r)))
    have d0 : plane_Distance.fn N ((a.2.1.1, a.2.1.2), x.1.2.1) = _ := d0
    rw [paceS_cons, effect_Of.l5_cons N l c t0 k p r1 r2 r3 r4 r5 ta k' a.1 a.2.2 a.2.1.1 a.2.1.2 hl (by omega), decide_eq_true hlt, cond_true, d0, Option.bind_some, up_v d1 d2 hv (by omega), Option.bind_some, w_small (a.1 + _) (by omega) (by omega), hcap, cond_true]
    by_cases ht : a.1 + upV (dsV N a.2.1 x.1.2.1).2 c.2.2.1 > 200000
    · rw [decide_eq_true ht]
      rfl
    · rw [decide_eq_false ht, cond_false, cond_false]
      exact ih (a.1 + upV (dsV N a.2.1 x.1.2.1).2 c.2.2.1, x.1.2.1, a.2.2 ++ [((a.1 + upV (dsV N a.2.1 x.1.2.1).2 c.2.2.1, x.1.2), x.2)]) ⟨by simp; omega, by show 0 ≤ a.1 + _; omega, by show a.1 + _ ≤ 200000; omega⟩
end
section
variable {N : Nat} (hN : 4611686018427387904 ≤ N) {l : List Nd} {c : Clr} {t0 : Int} (k : Kd) (p : Pt) (r1 r2 r3 r4 : Int) {r5 : Nd}
include hN
theorem ex_pace (hk : c.2.1 = 2) (hv : 1 ≤ c.2.2.1) (hv2 : c.2.2.1 ≤ 1000) (r1 : Nd × Int) (r6 : Int × Int) {ta : List Nd} (hlen : ta.length ≤ 65) {acc : List Nd} (hacc : acc.length ≤ 100) (t : Int) (ht : 0 ≤ t) (ht2 : t ≤ 200000) (P : Pt) (b4 b5 b6 : Int) :
    law_expected.l2 N c t0 r1 ta r6 N 0 acc t P.1 P.2 b4 b5 b6 = some (paceS N c.2.2.1 t P acc ta) := by
  obtain ⟨M, hM⟩ : ∃ M, N = M + 1 := ⟨N - 1, by omega⟩
  refine list_loop (l := ta) (fun k' (a : List Nd × Int × Pt × Int × Int × Int) i => law_expected.l2 N c t0 r1 ta r6 k' i a.1 a.2.1 a.2.2.1.1 a.2.2.1.2 a.2.2.2.1 a.2.2.2.2.1 a.2.2.2.2.2) (fun _ r a => some (paceS N c.2.2.1 a.2.1 a.2.2.1 a.1 r))
    (fun pre a => a.1.length ≤ 100 + pre.length ∧ 0 ≤ a.2.1 ∧ a.2.1 ≤ 200000) (fun k' a _ => ?_) (fun k' pre x r a hl hI ih => ?_) N (acc, t, P, b4, b5, b6) ⟨by simp; omega, ht, ht2⟩ (by omega)
  · show law_expected.l2 N c t0 r1 ta r6 (k' + 1) (ta.length : Int) _ _ _ _ _ _ _ = _
    rw [law_expected.l2_nil, paceS_nil]
  · have hlt := mid_lt hl
    obtain ⟨i1, i2, i3⟩ := hI
    have hcap : (decide ((a.1.length + 1) * 48 ≤ 140737488355328) && decide ((a.1.length + 1) ≤ maxLen)) = true := by rw [Bool.and_eq_true, decide_eq_true_iff, decide_eq_true_iff]; unfold maxLen; omega
    obtain ⟨d0, _, _, d1, d2⟩ := ds_v hN a.2.2.1 x.1.2.1
    obtain ⟨u1, u2⟩ := upV_b d1 d2 hv
    have q0 : 0 ≤ (dsV N a.2.2.1 x.1.2.1).2 / c.2.2.1 := Int.ediv_nonneg d1 (by omega)
    have q1 : (dsV N a.2.2.1 x.1.2.1).2 / c.2.2.1 ≤ (dsV N a.2.2.1 x.1.2.1).2 := Int.ediv_le_self _ d1
    show law_expected.l2 N c t0 r1 ta r6 (k' + 1) (pre.length : Int) a.1 a.2.1 a.2.2.1.1 a.2.2.1.2 a.2.2.2.1 a.2.2.2.2.1 a.2.2.2.2.2 = some (paceS N c.2.2.1 a.2.1 a.2.2.1 a.1 (x :: r))
    have d0 : plane_Distance.fn N ((a.2.2.1.1, a.2.2.1.2), x.1.2.1) = _ := d0
    have hne : (c.2.2.1 != 0) = true := by simp; omega
    have hj : ∀ u, u = upV (dsV N a.2.2.1 x.1.2.1).2 c.2.2.1 → law_expected.j3 N c t0 r1 ta r6 k' (pre.length : Int) a.1 a.2.1 a.2.2.1.1 a.2.2.1.2 a.2.2.2.1 a.2.2.2.2.1 a.2.2.2.2.2 u = some (paceS N c.2.2.1 a.2.1 a.2.2.1 a.1 (x :: r)) := by
      intro u hu
      rw [hu]
      have ih := ih (a.1 ++ [((a.2.1 + upV (dsV N a.2.2.1 x.1.2.1).2 c.2.2.1, x.1.2), x.2)], a.2.1 + upV (dsV N a.2.2.1 x.1.2.1).2 c.2.2.1, x.1.2.1, x.1.2.2, x.2.1, x.2.2)
      dsimp only at ih
      have hw1 : w (a.2.1 + upV (dsV N a.2.2.1 x.1.2.1).2 c.2.2.1) = a.2.1 + upV (dsV N a.2.2.1 x.1.2.1).2 c.2.2.1 := w_small _ (by omega) (by omega)
      have hw2 : w ((pre.length : Int) + 1) = (pre.length : Int) + 1 := w_small _ (by omega) (by omega)
      rw [paceS_cons, law_expected.j3_eq N c t0 r1 ta r6 k' (pre.length : Int) a.1 a.2.1 a.2.2.1.1 a.2.2.1.2 a.2.2.2.1 a.2.2.2.2.1 a.2.2.2.2.2 _ hM]
      rw [hw1, hw2, hcap, Int.toNat_natCast, mid_get hl, cond_true]
      by_cases ht : a.2.1 + upV (dsV N a.2.2.1 x.1.2.1).2 c.2.2.1 > 200000
      · rw [decide_eq_true ht, cond_true, cond_true]
      · rw [decide_eq_false ht, cond_false, cond_false, ih ⟨by simp; omega, by omega, by omega⟩]
    rw [law_expected.l2_cons N c t0 r1 ta r6 k' a.1 a.2.1 a.2.2.1.1 a.2.2.1.2 a.2.2.2.1 a.2.2.2.2.1 a.2.2.2.2.2 hl (by omega), decide_eq_true hlt, cond_true, hk, show ((2 : Int) == 1) = false from rfl, cond_false, d0, Option.bind_some, hne, cond_true, cond_true,
      Int.tdiv_eq_ediv_of_nonneg d1, Int.tmod_eq_emod_of_nonneg d1, w_small ((dsV N a.2.2.1 x.1.2.1).2 / c.2.2.1) (by omega) (by omega), w_small ((dsV N a.2.2.1 x.1.2.1).2 / c.2.2.1 + 1) (by omega) (by omega)]
    cases hb : ((decide ((dsV N a.2.2.1 x.1.2.1).2 % c.2.2.1 > 0)) || ((dsV N a.2.2.1 x.1.2.1).2 == 0)) with
    | true => rw [cond_true]; exact hj _ (by unfold upV; rw [hb, cond_true])
    | false => rw [cond_false]; exact hj _ (by unfold upV; rw [hb, cond_false])
/-! ### the way to a fix -/
theorem ex_l1 (r1 : Nd × Int) (a4 ta : List Nd) (r6 r7 : Int × Int) {s : Int} (hs : (w (Int.tdiv r6.1 (w ((((List.getD ta 0 ((0, ((0, 0), 0)), (0, 0))).1).1) - t0)))) = s) (h1 : 1 ≤ s) (h2 : s ≤ 8589934592) :
    ∀ (m k' : Nat) (d t : Int), d ≤ (m : Int) * s → (0 < m → ((m : Int) - 1) * s < d) → d ≤ 8589934593 → -8589934593 ≤ d → 0 ≤ t → t + m ≤ 100000000000 → m < k' →
      law_expected.l1 N t0 p r1 a4 ta r6 r7 k' d t = bif decide (t + m > 200000) then some ([], 12) else bif decide (r7.2 > 0) then
      (bif decide (((a4 ++ [r1.1]).length + 1) * 48 ≤ 140737488355328) && decide (((a4 ++ [r1.1]).length + 1) ≤ maxLen) then
        some (((a4 ++ [r1.1]) ++ [((t + m, (p, r1.1.1.2.2)), r1.1.2)]), 0) else none) else some ((a4 ++ [r1.1]), 0) := by
  intro m
  induction m with
  | zero =>
    intro k' d t hd _ hd2 hd3 ht hm hk
    obtain ⟨k', rfl⟩ : ∃ k2, k' = k2 + 1 := ⟨k' - 1, by omega⟩
    have hd : ¬ d > 0 := by simp at hd; omega
    rw [law_expected.l1_succ, decide_eq_false hd, cond_false, show t + ((0 : Nat) : Int) = t by omega]
  | succ m ih =>
    intro k' d t hd hd1 hd2 hd3 ht hm hk
    obtain ⟨k', rfl⟩ : ∃ k2, k' = k2 + 1 := ⟨k' - 1, by omega⟩
    have hd1 := hd1 (by omega)
    have e1 : (((m + 1 : Nat) : Int) - 1) = (m : Int) := by omega
    have e2 : ((m + 1 : Nat) : Int) * s = (m : Int) * s + s := by rw [show ((m + 1 : Nat) : Int) = (m : Int) + 1 by omega, Int.add_mul, Int.one_mul]
    rw [e1] at hd1
    rw [e2] at hd
    have e3 : 0 ≤ (m : Int) * s := Int.mul_nonneg (by omega) (by omega)
    rw [law_expected.l1_succ, decide_eq_true (show d > 0 by omega), cond_true, hs, w_small (d - s) (by omega) (by omega), w_small (t + 1) (by omega) (by omega)]
    have e4 : 0 < m → ((m : Int) - 1) * s < d - s := by
      intro _
      rw [Int.sub_mul, Int.one_mul]
      omega
    have := ih k' (d - s) (t + 1) (by omega) e4 (by omega) (by omega) (by omega) (by omega) (by omega)
    rw [this, show t + 1 + (m : Int) = t + ((m + 1 : Nat) : Int) by omega]
omit hN in
theorem upV_cnt {d v : Int} (h0 : 0 < d) (hv : 1 ≤ v) : d ≤ upV d v * v ∧ (upV d v - 1) * v < d := by
  have e1 : v * (d / v) + d % v = d := Int.mul_ediv_add_emod d v
  have e2 := Int.emod_nonneg d (b := v) (by omega)
  have e3 := Int.emod_lt_of_pos d (b := v) (by omega)
  have e4 : d / v * v = v * (d / v) := Int.mul_comm _ _
  unfold upV
  rw [show (d == 0) = false by simp; omega, Bool.or_false]
  by_cases hr : d % v > 0
  · rw [decide_eq_true hr, cond_true, Int.add_mul, Int.one_mul, Int.sub_mul, Int.add_mul, Int.one_mul]
    omega
  · rw [decide_eq_false hr, cond_false, Int.sub_mul, Int.one_mul]
    omega
noncomputable def dirS (N : Nat) (p : Pt) (now : Nd) (hd : List Nd) (s : Int) : List Nd × Int :=
  bif s == 0 then ([], 10) else bif (dsV N now.1.2.1 p).2 == 0 then (hd ++ [now], 0) else bif decide (now.1.1 + upV (dsV N now.1.2.1 p).2 s > 200000) then ([], 12) else
    ((hd ++ [now]) ++ [((now.1.1 + upV (dsV N now.1.2.1 p).2 s, (p, now.1.2.2)), now.2)], 0)
theorem ex_dir (r1 : Nd × Int) (a4 ta : List Nd) (r6 : Int × Int) {s : Int} (hs : (w (Int.tdiv r6.1 (w ((((List.getD ta 0 ((0, ((0, 0), 0)), (0, 0))).1).1) - t0)))) = s) (h1 : 1 ≤ s) (h2 : s ≤ 8589934592) (ht : 0 ≤ r1.1.1.1) (ht2 : r1.1.1.1 ≤ 200000) (hlen : a4.length ≤ 100) :
    law_expected.l1 N t0 p r1 a4 ta r6 (dsV N r1.1.1.2.1 p) N (dsV N r1.1.1.2.1 p).2 r1.1.1.1 = some (dirS N p r1.1 a4 s) := by
  obtain ⟨d0, _, _, d1, d2⟩ := ds_v hN r1.1.1.2.1 p
  unfold dirS
  have hcap : (decide (((a4 ++ [r1.1]).length + 1) * 48 ≤ 140737488355328) && decide (((a4 ++ [r1.1]).length + 1) ≤ maxLen)) = true := by
    rw [List.length_append, List.length_singleton, Bool.and_eq_true, decide_eq_true_iff, decide_eq_true_iff]; unfold maxLen; omega
  rw [show (s == 0) = false by simp; omega, cond_false]
  generalize dsV N r1.1.1.2.1 p = dv at d1 d2 ⊢
  by_cases hd : dv.2 = 0
  · rw [ex_l1 hN p r1 a4 ta r6 dv hs h1 h2 0 N dv.2 r1.1.1.1 (by rw [hd]; simp) (by omega) (by omega) (by omega) ht (by omega) (by omega), beq_iff_eq.2 hd, cond_true, decide_eq_false (by omega), cond_false, hd, show decide ((0 : Int) > 0) = false from rfl, cond_false]
  · obtain ⟨u1, u2⟩ := upV_b d1 d2 h1
    obtain ⟨c1, c2⟩ := upV_cnt (d := dv.2) (v := s) (by omega) h1
    have e : ((upV dv.2 s).toNat : Int) = upV dv.2 s := by omega
    rw [ex_l1 hN p r1 a4 ta r6 dv hs h1 h2 (upV dv.2 s).toNat N dv.2 r1.1.1.1 (by rw [e]; exact c1) (by rw [e]; exact fun _ => c2) (by omega) (by omega) ht (by omega) (by omega), e, beq_eq_false_iff_ne.2 hd, cond_false, decide_eq_true (show dv.2 > 0 by omega), cond_true, hcap, cond_true, bif_some]
end
/-! ### the law -/
section
variable {N : Nat} (hN : 4611686018427387904 ≤ N)
include hN
theorem air_pace {k : Kd} (h : aircraft_Check.fn N k = some 0) : 1 ≤ k.2.2.2.2.2.1 ∧ k.2.2.2.2.2.2 ≤ 400 := by
  rw [aircraft_Check.clean, chart_Name.v hN, Option.bind_some] at h
  cases hB : ((((decide (k.2.2.2.2.2.1 < 1)) || (decide (k.2.2.2.2.2.1 > 400))) || (decide (k.2.2.2.2.2.2 < 1))) || (decide (k.2.2.2.2.2.2 > 400))) with
  | false =>
    simp only [Bool.or_eq_false_iff, decide_eq_false_iff_not] at hB
    omega
  | true =>
    rw [hB] at h
    generalize isName k.1 = b1 at h
    generalize ((decide (k.2.1 < 0)) || (decide (k.2.1 > 3))) = b2 at h
    generalize ((decide (k.2.2.1 < 1)) || (decide (k.2.2.1 > 60000))) = b3 at h
    generalize ((decide (k.2.2.2.1 < 1)) || (decide (k.2.2.2.1 > 200))) = b4 at h
    generalize ((decide (k.2.2.2.2.1 < 1)) || (decide (k.2.2.2.2.1 > 200))) = b5 at h
    exfalso
    cases b1 <;> cases b2 <;> cases b3 <;> cases b4 <;> cases b5 <;> cases h
noncomputable def spV (N : Nat) (now : Nd) (t0 : Int) (ta : List Nd) : Int := w (Int.tdiv (dsV N now.1.2.1 (List.getD ta 0 ((0, ((0, 0), 0)), (0, 0))).1.2.1).1 (w ((((List.getD ta 0 ((0, ((0, 0), 0)), (0, 0))).1).1) - t0)))
theorem sp_b (now : Nd) {t0 : Int} {ta : List Nd} (h0 : 0 ≤ t0) (h1 : t0 < (List.getD ta 0 ((0, ((0, 0), 0)), (0, 0))).1.1) (h2 : (List.getD ta 0 ((0, ((0, 0), 0)), (0, 0))).1.1 ≤ 200000) : 0 ≤ spV N now t0 ta ∧ spV N now t0 ta ≤ 8589934592 := by
  obtain ⟨_, d1, d2, _, _⟩ := ds_v hN now.1.2.1 (List.getD ta 0 ((0, ((0, 0), 0)), (0, 0))).1.2.1
  unfold spV
  generalize (dsV N now.1.2.1 (List.getD ta 0 ((0, ((0, 0), 0)), (0, 0))).1.2.1).1 = d at d1 d2 ⊢
  generalize (List.getD ta 0 ((0, ((0, 0), 0)), (0, 0))).1.1 = u at h1 h2 ⊢
  have q0 : 0 ≤ d / (u - t0) := Int.ediv_nonneg d1 (by omega)
  have q1 : d / (u - t0) ≤ d := Int.ediv_le_self _ d1
  rw [w_small (u - t0) (by omega) (by omega), Int.tdiv_eq_ediv_of_nonneg d1, w_small _ (by omega) (by omega)]
  omega
def tlS (l : List Nd) (t0 : Int) : List Nd := l.filter fun n => decide (n.1.1 > t0)
def hdS (l : List Nd) (t0 : Int) : List Nd := l.filter (tlt t0)
noncomputable def expS (N : Nat) (l : List Nd) (c : Clr) (t0 : Int) (k : Kd) (p : Pt) (now : Nd) : List Nd × Int :=
  bif (((tlS l t0).length : Int) == 0) || (decide (c.2.1 > 3)) then (l, 0) else
  bif (c.2.1 == 2) && ((decide (c.2.2.1 < k.2.2.2.2.2.1)) || (decide (c.2.2.1 > k.2.2.2.2.2.2))) then ([], 4) else
  bif c.2.1 == 3 then dirS N p now (hdS l t0) (spV N now t0 (tlS l t0)) else
  bif c.2.1 == 1 then turnS N c.2.2.1 (spV N now t0 (tlS l t0)) t0 now.1.2.1 (hdS l t0 ++ [now]) (tlS l t0) else paceS N c.2.2.1 now.1.1 now.1.2.1 (hdS l t0 ++ [now]) (tlS l t0)
theorem ex_l0 {l : List Nd} {c : Clr} {t0 : Int} (k : Kd) (p : Pt) (r1 : Nd × Int) (hl : l.length ≤ 64) : law_expected.l0 N l c t0 k p r1 N 0 [] [] = law_expected.l0 N l c t0 k p r1 1 (l.length : Int) (hdS l t0) (tlS l t0) := by
  unfold hdS tlS
  refine list_loop (l := l) (fun k' (s : List Nd × List Nd) i => law_expected.l0 N l c t0 k p r1 k' i s.1 s.2) (fun _ r s => law_expected.l0 N l c t0 k p r1 1 (l.length : Int) (s.1 ++ r.filter (tlt t0)) (s.2 ++ r.filter fun n => decide (n.1.1 > t0)))
    (fun pre s => s.1.length ≤ pre.length ∧ s.2.length ≤ pre.length) (fun k' s _ => ?_) (fun k' pre x r s hl' hI ih => ?_) N ([], []) ⟨Nat.le_refl _, Nat.le_refl _⟩ (by omega)
  · show law_expected.l0 N l c t0 k p r1 (k' + 1) (l.length : Int) s.1 s.2 = _
    rw [law_expected.l0_nil, List.filter_nil, List.append_nil, List.filter_nil, List.append_nil, law_expected.l0_nil]
  · have hlt := mid_lt hl'
    obtain ⟨i1, i2⟩ := hI
    have cap1 : (decide ((s.1.length + 1) * 48 ≤ 140737488355328) && decide ((s.1.length + 1) ≤ maxLen)) = true := by rw [Bool.and_eq_true, decide_eq_true_iff, decide_eq_true_iff]; unfold maxLen; omega
    have cap2 : (decide ((s.2.length + 1) * 48 ≤ 140737488355328) && decide ((s.2.length + 1) ≤ maxLen)) = true := by rw [Bool.and_eq_true, decide_eq_true_iff, decide_eq_true_iff]; unfold maxLen; omega
    show law_expected.l0 N l c t0 k p r1 (k' + 1) (pre.length : Int) s.1 s.2 = _
    rw [law_expected.l0_cons N l c t0 k p r1 k' s.1 s.2 hl' (by omega), cap1, cap2]
    by_cases h1 : x.1.1 < t0
    · rw [decide_eq_true h1, cond_true, cond_true, List.filter_cons_of_pos (by unfold tlt; exact decide_eq_true h1), List.filter_cons_of_neg (by simp; omega)]
      have := ih (s.1 ++ [x], s.2) ⟨by simp; omega, by simp; omega⟩
      simp only [List.append_assoc, List.singleton_append] at this
      exact this
    · by_cases h2 : x.1.1 > t0
      · rw [decide_eq_false h1, cond_false, decide_eq_true h2, cond_true, cond_true, List.filter_cons_of_neg (by unfold tlt; simp; omega), List.filter_cons_of_pos (by simpa using h2)]
        have := ih (s.1, s.2 ++ [x]) ⟨by simp; omega, by simp; omega⟩
        simp only [List.append_assoc, List.singleton_append] at this
        exact this
      · rw [decide_eq_false h1, cond_false, decide_eq_false h2, cond_false, List.filter_cons_of_neg (by unfold tlt; simp; omega), List.filter_cons_of_neg (by simp; omega)]
        exact ih s ⟨by simp; omega, by simp; omega⟩
end
structure TrnOk (N : Nat) (l : List Nd) (c : Clr) (t0 : Int) (k : Kd) (now : Nd) : Prop where
  tub : TubOk l
  now : now.1.1 = t0
  lo : tm l 0 ≤ t0
  hi : t0 ≤ tm l (l.length - 1)
  air : aircraft_Check.fn N k = some 0
  kind : c.2.1 = 1 ∨ c.2.1 = 2 ∨ c.2.1 = 3 ∨ c.2.1 > 3
section
variable {N : Nat} (hN : 4611686018427387904 ≤ N) {l : List Nd} {c : Clr} {t0 : Int} {k : Kd} (p : Pt) {now : Nd} (hC : TrnOk N l c t0 k now)
include hC
theorem t0_r : 0 ≤ t0 ∧ t0 ≤ 200000 := by
  have hp := hC.tub.pos
  have a := hC.tub.time 0 hp
  have b := hC.tub.time (l.length - 1) (by omega)
  have := hC.lo
  have := hC.hi
  omega
theorem tl_0 (h : (tlS l t0).length ≠ 0) : t0 < (List.getD (tlS l t0) 0 ((0, ((0, 0), 0)), (0, 0))).1.1 ∧ (List.getD (tlS l t0) 0 ((0, ((0, 0), 0)), (0, 0))).1.1 ≤ 200000 := by
  cases ht : tlS l t0 with
  | nil => rw [ht] at h; exact absurd rfl h
  | cons x r =>
    show t0 < x.1.1 ∧ x.1.1 ≤ 200000
    have hx : x ∈ tlS l t0 := by rw [ht]; simp
    unfold tlS at hx
    rw [List.mem_filter] at hx
    obtain ⟨h1, h2⟩ := hx
    obtain ⟨j, hj, rfl⟩ := List.getElem_of_mem h1
    have := hC.tub.time j hj
    have hg : tm l j = l[j].1.1 := by unfold tm; rw [List.getD_eq_getElem?_getD, List.getElem?_eq_getElem hj]; rfl
    rw [hg] at this
    exact ⟨of_decide_eq_true h2, this.2⟩
include hN
theorem exp_v (hAt : tube_At.fn N (l, t0) = some (now, 0)) : law_expected.fn N (l, c, t0, k, p) = some (expS N l c t0 k p now) := by
  have hb := t0_r hC
  have hlen := hC.tub.len
  have hnow := hC.now
  have hh : (hdS l t0).length ≤ 64 := Nat.le_trans (List.length_filter_le _ _) hlen
  have ht : (tlS l t0).length ≤ 64 := Nat.le_trans (List.length_filter_le _ _) hlen
  have hcap : (decide (((hdS l t0).length + 1) * 48 ≤ 140737488355328) && decide (((hdS l t0).length + 1) ≤ maxLen)) = true := by rw [Bool.and_eq_true, decide_eq_true_iff, decide_eq_true_iff]; unfold maxLen; omega
  have hacc : (hdS l t0 ++ [now]).length ≤ 100 := by rw [List.length_append, List.length_singleton]; omega
  rw [law_expected.eq, hAt, Option.bind_some, ex_l0 hN k p (now, 0) hlen, law_expected.l0_nil, hcap]
  unfold expS
  cases e1 : ((((tlS l t0).length : Int) == 0) || (decide (c.2.1 > 3))) with
  | true => rfl
  | false =>
    rw [cond_false, cond_true, cond_false]
    rw [Bool.or_eq_false_iff, beq_eq_false_iff_ne, decide_eq_false_iff_not] at e1
    have hne : (tlS l t0).length ≠ 0 := by omega
    obtain ⟨t1, t2⟩ := tl_0 hC hne
    have p1 : decide (0 < ((tlS l t0).length : Int)) = true := decide_eq_true (by omega)
    have p2 : decide (0 < (tlS l t0).length) = true := decide_eq_true (by omega)
    obtain ⟨dv, _⟩ := ds_v hN now.1.2.1 (List.getD (tlS l t0) 0 ((0, ((0, 0), 0)), (0, 0))).1.2.1
    obtain ⟨s0, s1⟩ := sp_b hN now hb.1 t1 t2
    have hw : w (((List.getD (tlS l t0) 0 ((0, ((0, 0), 0)), (0, 0))).1.1) - t0) = ((List.getD (tlS l t0) 0 ((0, ((0, 0), 0)), (0, 0))).1.1) - t0 := w_small _ (by omega) (by omega)
    have hnz : ((w (((List.getD (tlS l t0) 0 ((0, ((0, 0), 0)), (0, 0))).1.1) - t0)) != 0) = true := bne_iff_ne.2 (by rw [hw]; omega)
    have hsp : w (Int.tdiv (dsV N now.1.2.1 (List.getD (tlS l t0) 0 ((0, ((0, 0), 0)), (0, 0))).1.2.1).1 (w ((((List.getD (tlS l t0) 0 ((0, ((0, 0), 0)), (0, 0))).1).1) - t0))) = spV N now t0 (tlS l t0) := rfl
    rw [p1, p2, cond_true, cond_true, dv, Option.bind_some, cond_true, cond_true, hnz, cond_true]
    cases e2 : ((c.2.1 == 2) && ((decide (c.2.2.1 < k.2.2.2.2.2.1)) || (decide (c.2.2.1 > k.2.2.2.2.2.2)))) with
    | true => rfl
    | false =>
      rw [cond_false, cond_false]
      cases e3 : (c.2.1 == 3) with
      | true =>
        rw [cond_true, cond_true, hsp]
        cases e4 : (spV N now t0 (tlS l t0) == 0) with
        | true => unfold dirS; rw [e4]; rfl
        | false =>
          have := beq_eq_false_iff_ne.1 e4
          obtain ⟨dw, _⟩ := ds_v hN now.1.2.1 p
          rw [cond_false, dw, Option.bind_some]
          exact ex_dir hN p (now, 0) (hdS l t0) (tlS l t0) _ hsp (by omega) s1 (by show 0 ≤ now.1.1; omega) (by show now.1.1 ≤ 200000; omega) (by omega)
      | false =>
        rw [cond_false, cond_false]
        cases e5 : (c.2.1 == 1) with
        | true =>
          rw [cond_true, ex_turn hN (beq_iff_eq.1 e5) (now, 0) _ (by omega) hacc]
          rfl
        | false =>
          have h2 : c.2.1 = 2 := by
            have h3 := beq_eq_false_iff_ne.1 e3
            have h1 := beq_eq_false_iff_ne.1 e5
            rcases hC.kind with h | h | h | h
            · exact absurd h h1
            · exact h
            · exact absurd h h3
            · exact absurd h e1.2
          obtain ⟨a1, a2⟩ := air_pace hN hC.air
          rw [h2, show ((2 : Int) == 2) = true from rfl, Bool.true_and, Bool.or_eq_false_iff, decide_eq_false_iff_not, decide_eq_false_iff_not] at e2
          rw [cond_false]
          exact ex_pace hN h2 (by omega) (by omega) (now, 0) _ (by omega) hacc now.1.1 (by omega) (by omega) now.1.2.1 _ _ _
theorem Of_v (h0 : tubE l = 0) (hc : clearErr c = 0) (hp0 : ptE p = 0) (hPt : tube_Point.fn N (l, t0) = some now) : effect_Of.fn N (l, c, t0, k, p) = some (finS (expS N l c t0 k p now)) := by
  have hb := t0_r hC
  have hlen := hC.tub.len
  have hpos := hC.tub.pos
  have hnow := hC.now
  have hh : (hdS l t0).length ≤ 64 := Nat.le_trans (List.length_filter_le _ _) hlen
  have ht : (tlS l t0).length ≤ 64 := Nat.le_trans (List.length_filter_le _ _) hlen
  have hcap : (decide (((hdS l t0).length + 1) * 48 ≤ 140737488355328) && decide (((hdS l t0).length + 1) ≤ maxLen)) = true := by rw [Bool.and_eq_true, decide_eq_true_iff, decide_eq_true_iff]; unfold maxLen; omega
  have hacc : (hdS l t0 ++ [now]).length ≤ 100 := by rw [List.length_append, List.length_singleton]; omega
  have c1 : ((decide (0 ≤ ((l.length - 1 : Nat) : Int))) && (decide (((l.length - 1 : Nat) : Int) < (l.length : Int)))) = true := by rw [Bool.and_eq_true, decide_eq_true_iff, decide_eq_true_iff]; omega
  have c2 : ((decide (t0 < (((List.getD l 0 ((0, ((0, 0), 0)), (0, 0))).1).1))) || (decide (t0 > (((List.getD l (l.length - 1) ((0, ((0, 0), 0)), (0, 0))).1).1)))) = false := by
    rw [Bool.or_eq_false_iff, decide_eq_false_iff_not, decide_eq_false_iff_not]
    exact ⟨Int.not_lt.2 hC.lo, Int.not_lt.2 hC.hi⟩
  have hk0 : (c.2.1 == 0) = false := by
    rw [beq_eq_false_iff_ne]
    rcases hC.kind with h | h | h | h <;> omega
  rw [effect_Of.clean, tubE_v hN, h0, Option.bind_some, show (!((0 : Int) == 0)) = false from rfl, cond_false, phrase_Check.v hN, hc, Option.bind_some, show (!((0 : Int) == 0)) = false from rfl, cond_false, hC.air, Option.bind_some, show (!((0 : Int) == 0)) = false from rfl, cond_false,
    ptE_v, hp0, Option.bind_some, show (!((0 : Int) == 0)) = false from rfl, cond_false, bchk (by rw [decide_eq_true_iff]; omega), last_ok hC.tub, Int.toNat_natCast, c1, Bool.true_or, cond_true, c2, cond_false, hPt, Option.bind_some, of_l0 hN k p 0 0 0 0 hlen, effect_Of.l0_nil]
  have f1 : l.filter (tlt t0) = hdS l t0 := rfl
  have f2 : (l.filter fun n => decide (n.1.1 > t0)) = tlS l t0 := rfl
  rw [f1, f2, hcap, cond_true, hk0, cond_false]
  unfold expS
  cases e1 : ((((tlS l t0).length : Int) == 0) || (decide (c.2.1 > 3))) with
  | true =>
    rw [cond_true, cond_true, slices_Clone_TubeNode.v N l (by omega), Option.bind_some, finS_ok, ← bif_some]
  | false =>
    rw [cond_false, cond_false]
    rw [Bool.or_eq_false_iff, beq_eq_false_iff_ne, decide_eq_false_iff_not] at e1
    have hne : (tlS l t0).length ≠ 0 := by omega
    obtain ⟨t1, t2⟩ := tl_0 hC hne
    have p1 : decide (0 < ((tlS l t0).length : Int)) = true := decide_eq_true (by omega)
    obtain ⟨dv, _⟩ := ds_v hN now.1.2.1 (List.getD (tlS l t0) 0 ((0, ((0, 0), 0)), (0, 0))).1.2.1
    obtain ⟨s0, s1⟩ := sp_b hN now hb.1 t1 t2
    have hw : w (((List.getD (tlS l t0) 0 ((0, ((0, 0), 0)), (0, 0))).1.1) - t0) = ((List.getD (tlS l t0) 0 ((0, ((0, 0), 0)), (0, 0))).1.1) - t0 := w_small _ (by omega) (by omega)
    have hnz : ((w (((List.getD (tlS l t0) 0 ((0, ((0, 0), 0)), (0, 0))).1.1) - t0)) != 0) = true := bne_iff_ne.2 (by rw [hw]; omega)
    have hsp : effect_course_speed.fn N (now, ((hdS l t0 ++ [now]), tlS l t0)) = some (spV N now t0 (tlS l t0)) := by
      rw [effect_course_speed.eq]
      dsimp only
      rw [p1, cond_true, dv, Option.bind_some, cond_true, hnow, hnz, cond_true]
      rfl
    have x5 : ∀ {e : Int} (L : List Nd), finS (bif e == 0 then (L, 0) else (L, 0)) = finS (L, 0) := fun {e} L => by cases (e == 0) <;> rfl
    rcases hC.kind with h | h | h | h
    · have z1 : (c.2.1 == 1) = true := beq_iff_eq.2 h
      have z2 : (c.2.1 == 2) = false := by rw [h]; rfl
      have z3 : (c.2.1 == 3) = false := by rw [h]; rfl
      rw [z1, z2, z3, Bool.false_and, cond_true, cond_false, cond_false, cond_true, hsp, Option.bind_some]
      exact of_l4 hN k p 0 0 0 0 _ hnow (by omega) hacc
    · have z1 : (c.2.1 == 1) = false := by rw [h]; rfl
      have z2 : (c.2.1 == 2) = true := beq_iff_eq.2 h
      have z3 : (c.2.1 == 3) = false := by rw [h]; rfl
      rw [z1, z2, z3, Bool.true_and, cond_false, cond_true, cond_false, cond_false]
      cases e2 : ((decide (c.2.2.1 < k.2.2.2.2.2.1)) || (decide (c.2.2.1 > k.2.2.2.2.2.2))) with
      | true => rfl
      | false =>
        obtain ⟨a1, a2⟩ := air_pace hN hC.air
        rw [Bool.or_eq_false_iff, decide_eq_false_iff_not, decide_eq_false_iff_not] at e2
        rw [cond_false, cond_false]
        exact of_l5 hN k p 0 0 0 0 (by omega) (by omega) (by omega) hacc now.1.1 (by omega) (by omega) now.1.2.1
    · have z1 : (c.2.1 == 1) = false := by rw [h]; rfl
      have z2 : (c.2.1 == 2) = false := by rw [h]; rfl
      have z3 : (c.2.1 == 3) = true := beq_iff_eq.2 h
      rw [z1, z2, z3, Bool.false_and, cond_false, cond_false, cond_false, cond_true, hsp, Option.bind_some]
      unfold dirS
      cases e4 : (spV N now t0 (tlS l t0) == 0) with
      | true => rfl
      | false =>
        have hs1 : 1 ≤ spV N now t0 (tlS l t0) := by have := beq_eq_false_iff_ne.1 e4; omega
        obtain ⟨dw, _, _, d1, d2⟩ := ds_v hN now.1.2.1 p
        obtain ⟨u1, u2⟩ := upV_b d1 d2 hs1
        rw [cond_false, cond_false, dw, Option.bind_some]
        cases e5 : ((dsV N now.1.2.1 p).2 == 0) with
        | true => rw [cond_true, cond_true, finS_ok, ← bif_some]
        | false =>
          have hcap2 : (decide (((hdS l t0 ++ [now]).length + 1) * 48 ≤ 140737488355328) && decide (((hdS l t0 ++ [now]).length + 1) ≤ maxLen)) = true := by rw [Bool.and_eq_true, decide_eq_true_iff, decide_eq_true_iff]; unfold maxLen; omega
          rw [cond_false, cond_false, up_v d1 d2 hs1 s1, Option.bind_some, w_small (now.1.1 + _) (by omega) (by omega), hcap2, cond_true]
          cases decide (now.1.1 + upV (dsV N now.1.2.1 p).2 (spV N now t0 (tlS l t0)) > 200000) with
          | true => rfl
          | false => rw [cond_false, cond_false, finS_ok, ← bif_some]
    · exact absurd h e1.2
end
section
variable {N : Nat} (hN : 4611686018427387904 ≤ N)
include hN
theorem eq_nil : slices_Equal_TubeNode.fn N ([], []) = some true := slices_Equal_TubeNode.self hN [] (by show 0 < _; omega)
omit hN in
theorem turnS_len (h s t0 : Int) (P : Pt) : ∀ (r acc : List Nd), (turnS N h s t0 P acc r).1.length ≤ acc.length + r.length
  | [], acc => by rw [turnS_nil]; simp
  | x :: r, acc => by
    rw [turnS_cons]
    cases (!((vecV N h (w (s * (w (x.1.1 - t0))))).2 == 0)) with
    | true => simp
    | false =>
      cases (!(ptE (turnP N h s t0 P x) == 0)) with
      | true => simp
      | false =>
        rw [cond_false, cond_false]
        have := turnS_len h s t0 P r (acc ++ [((x.1.1, (turnP N h s t0 P x, x.1.2.2)), x.2)])
        simp only [List.length_append, List.length_cons, List.length_nil] at this ⊢
        omega
omit hN in
theorem paceS_len (v : Int) : ∀ (r : List Nd) (t : Int) (P : Pt) (acc : List Nd), (paceS N v t P acc r).1.length ≤ acc.length + r.length
  | [], t, P, acc => by rw [paceS_nil]; simp
  | x :: r, t, P, acc => by
    rw [paceS_cons]
    cases (decide (t + upV (dsV N P x.1.2.1).2 v > 200000)) with
    | true => simp
    | false =>
      rw [cond_false]
      have := paceS_len v r (t + upV (dsV N P x.1.2.1).2 v) x.1.2.1 (acc ++ [((t + upV (dsV N P x.1.2.1).2 v, x.1.2), x.2)])
      simp only [List.length_append, List.length_cons, List.length_nil] at this ⊢
      omega
omit hN in
theorem exp_len {l : List Nd} {c : Clr} {t0 : Int} {k : Kd} {p : Pt} {now : Nd} (hl : l.length ≤ 64) : (expS N l c t0 k p now).1.length ≤ 200 := by
  have hh : (hdS l t0).length ≤ 64 := Nat.le_trans (List.length_filter_le _ _) hl
  have ht : (tlS l t0).length ≤ 64 := Nat.le_trans (List.length_filter_le _ _) hl
  unfold expS
  cases ((((tlS l t0).length : Int) == 0) || (decide (c.2.1 > 3))) with
  | true => show l.length ≤ 200; omega
  | false =>
    cases ((c.2.1 == 2) && ((decide (c.2.2.1 < k.2.2.2.2.2.1)) || (decide (c.2.2.1 > k.2.2.2.2.2.2)))) with
    | true => show ([] : List Nd).length ≤ 200; simp
    | false =>
      rw [cond_false, cond_false]
      cases (c.2.1 == 3) with
      | true =>
        rw [cond_true]
        unfold dirS
        cases (spV N now t0 (tlS l t0) == 0) with
        | true => simp
        | false =>
          cases ((dsV N now.1.2.1 p).2 == 0) with
          | true => simp; omega
          | false =>
            cases (decide (now.1.1 + upV (dsV N now.1.2.1 p).2 (spV N now t0 (tlS l t0)) > 200000)) with
            | true => simp
            | false => simp; omega
      | false =>
        rw [cond_false]
        cases (c.2.1 == 1) with
        | true =>
          have := turnS_len (N := N) c.2.2.1 (spV N now t0 (tlS l t0)) t0 now.1.2.1 (tlS l t0) (hdS l t0 ++ [now])
          rw [List.length_append, List.length_singleton] at this
          rw [cond_true]
          omega
        | false =>
          have := paceS_len (N := N) c.2.2.1 (tlS l t0) now.1.1 now.1.2.1 (hdS l t0 ++ [now])
          rw [List.length_append, List.length_singleton] at this
          rw [cond_false]
          omega
theorem EffectTurns.pureN (l : List Nd) (c : Clr) (t0 : Int) (k : Kd) (p : Pt) : law_EffectTurns.fn N (l, c, t0, k, p) = some true := by
  rw [law_EffectTurns.clean, fact_v hN, Option.bind_some, show (!true) = false from rfl, cond_false]
  cases hkd : (c.2.1 == 0) with
  | true => rfl
  | false =>
    rw [cond_false]
    have bad : ∀ (e : Int), (e == 0) = false → effect_Of.fn N (l, c, t0, k, p) = some ([], e) → law_effectError.fn N (l, c, t0, k, p) = some e →
        ((effect_Of.fn N (l, c, t0, k, p)).bind fun r2 =>
      (law_effectError.fn N (l, c, t0, k, p)).bind fun r3 =>
      bif r3 == 0 then
        (law_expected.fn N (l, c, t0, k, p)).bind fun r4 =>
        bif (r4.2 == 0) && (decide ((r4.1.length : Int) > 64)) then
          (bif (r2.2 == 2) then slices_Equal_TubeNode.fn N (r2.1, []) else some (false)).bind fun r5 =>
          some ((r2.2 == 2) && r5)
        else bif !(r4.2 == 0) then
          (bif (r2.2 == r4.2) then slices_Equal_TubeNode.fn N (r2.1, []) else some (false)).bind fun r6 =>
          some ((r2.2 == r4.2) && r6)
        else
        (bif (r2.2 == r4.2) then slices_Equal_TubeNode.fn N (r2.1, r4.1) else some (false)).bind fun r7 =>
        some ((r2.2 == r4.2) && r7)
      else
      bif cond (r3 == 0) false false then
        (bif (r2.2 == 2) then slices_Equal_TubeNode.fn N (r2.1, []) else some (false)).bind fun r8 =>
        some ((r2.2 == 2) && r8)
      else
      bif !(r3 == 0) then
        (bif (r2.2 == r3) then slices_Equal_TubeNode.fn N (r2.1, []) else some (false)).bind fun r9 =>
        some ((r2.2 == r3) && r9)
      else
      (bif (r2.2 == r3) then slices_Equal_TubeNode.fn N (r2.1, []) else some (false)).bind fun r10 =>
      some ((r2.2 == r3) && r10)) = some true := by
      intro e he h1 h2
      rw [h1, h2, Option.bind_some, Option.bind_some, he]
      dsimp only [cond_false, Bool.not_false, cond_true]
      rw [beq_self_eq_true, cond_true, eq_nil hN]
      rfl
    cases h1 : (tubE l == 0) with
    | false => exact bad _ h1 (by rw [effect_Of.clean, tubE_v hN, Option.bind_some, h1]; rfl) (by rw [law_effectError.clean, tubE_v hN, Option.bind_some, h1]; rfl)
    | true =>
      have h0 := beq_iff_eq.1 h1
      have hT := tub_ok h0
      have hp := hT.pos
      have hlen := hT.len
      cases h2 : (clearErr c == 0) with
      | false =>
        exact bad _ h2 (by rw [effect_Of.clean, tubE_v hN, Option.bind_some, h1, show (!true) = false from rfl, cond_false, phrase_Check.v hN, Option.bind_some, h2]; rfl)
          (by rw [law_effectError.clean, tubE_v hN, Option.bind_some, h1, show (!true) = false from rfl, cond_false, ref_ClearError.v hN, Option.bind_some, h2]; rfl)
      | true =>
        have hc := beq_iff_eq.1 h2
        obtain ⟨ea, hea⟩ := air_ex hN k
        cases h3 : (ea == 0) with
        | false =>
          exact bad _ h3 (by rw [effect_Of.clean, tubE_v hN, Option.bind_some, h1, show (!true) = false from rfl, cond_false, phrase_Check.v hN, Option.bind_some, h2, show (!true) = false from rfl, cond_false, hea, Option.bind_some, h3]; rfl)
            (by rw [law_effectError.clean, tubE_v hN, Option.bind_some, h1, show (!true) = false from rfl, cond_false, ref_ClearError.v hN, Option.bind_some, h2, show (!true) = false from rfl, cond_false, hea, Option.bind_some, h3]; rfl)
        | true =>
          have hk0 := beq_iff_eq.1 h3
          rw [hk0] at hea
          cases h5 : (ptE p == 0) with
          | false =>
            exact bad _ h5 (by rw [effect_Of.clean, tubE_v hN, Option.bind_some, h1, show (!true) = false from rfl, cond_false, phrase_Check.v hN, Option.bind_some, h2, show (!true) = false from rfl, cond_false, hea, Option.bind_some, show (!((0 : Int) == 0)) = false from rfl, cond_false, ptE_v, Option.bind_some, h5]; rfl)
              (by rw [law_effectError.clean, tubE_v hN, Option.bind_some, h1, show (!true) = false from rfl, cond_false, ref_ClearError.v hN, Option.bind_some, h2, show (!true) = false from rfl, cond_false, hea, Option.bind_some, show (!((0 : Int) == 0)) = false from rfl, cond_false, ptE_v, Option.bind_some, h5]; rfl)
          | true =>
            have hpt := beq_iff_eq.1 h5
            have c1 : ((decide (0 ≤ ((l.length - 1 : Nat) : Int))) && (decide (((l.length - 1 : Nat) : Int) < (l.length : Int)))) = true := by rw [Bool.and_eq_true, decide_eq_true_iff, decide_eq_true_iff]; omega
            have cp : decide (0 < (l.length : Int)) = true := decide_eq_true (by omega)
            have hErr : law_effectError.fn N (l, c, t0, k, p) = bif (decide (t0 < (((List.getD l 0 ((0, ((0, 0), 0)), (0, 0))).1).1))) || (decide (t0 > (((List.getD l (l.length - 1) ((0, ((0, 0), 0)), (0, 0))).1).1))) then some 12 else some 0 := by
              rw [law_effectError.clean, tubE_v hN, Option.bind_some, h1, show (!true) = false from rfl, cond_false, ref_ClearError.v hN, Option.bind_some, h2, show (!true) = false from rfl, cond_false, hea, Option.bind_some, show (!((0 : Int) == 0)) = false from rfl, cond_false,
                ptE_v, hpt, Option.bind_some, show (!((0 : Int) == 0)) = false from rfl, cond_false, cp, cond_true, last_ok hT, Int.toNat_natCast, c1, Bool.true_or, cond_true]
            cases h4 : ((decide (t0 < (((List.getD l 0 ((0, ((0, 0), 0)), (0, 0))).1).1))) || (decide (t0 > (((List.getD l (l.length - 1) ((0, ((0, 0), 0)), (0, 0))).1).1)))) with
            | true =>
              rw [h4, cond_true] at hErr
              exact bad 12 rfl (by
                rw [effect_Of.clean, tubE_v hN, Option.bind_some, h1, show (!true) = false from rfl, cond_false, phrase_Check.v hN, Option.bind_some, h2, show (!true) = false from rfl, cond_false, hea, Option.bind_some, show (!((0 : Int) == 0)) = false from rfl, cond_false,
                  ptE_v, hpt, Option.bind_some, show (!((0 : Int) == 0)) = false from rfl, cond_false, cp, cond_true, last_ok hT, Int.toNat_natCast, c1, Bool.true_or, cond_true, h4]
                rfl) hErr
            | false =>
              rw [h4, cond_false] at hErr
              rw [Bool.or_eq_false_iff, decide_eq_false_iff_not, decide_eq_false_iff_not] at h4
              have hlo : tm l 0 ≤ t0 := Int.not_lt.1 h4.1
              have hhi : t0 ≤ tm l (l.length - 1) := Int.not_lt.1 h4.2
              obtain ⟨en, et⟩ := at_node hN hT hlo hhi
              have hAt : tube_At.fn N (l, t0) = some (nodeAt N l t0, 0) := by
                rw [tube_At.eq, tubE_v hN, h0, Option.bind_some, show (!((0 : Int) == 0)) = false from rfl, cond_false, en, Option.bind_some]
              have hPt : tube_Point.fn N (l, t0) = some (nodeAt N l t0) := by
                rw [tube_Point.eq, en, Option.bind_some]
              have hkind : c.2.1 = 1 ∨ c.2.1 = 2 ∨ c.2.1 = 3 ∨ c.2.1 > 3 := by
                have hne := beq_eq_false_iff_ne.1 hkd
                by_cases hpos : 0 ≤ c.2.1
                · omega
                · exfalso
                  have : clearErr c ≠ 0 := by
                    unfold clearErr
                    rw [decide_eq_true (show c.2.1 < 0 by omega), Bool.true_or]
                    cases (!plainW c.1) with
                    | true => exact (by decide : (3 : Int) ≠ 0)
                    | false => exact (by decide : (1 : Int) ≠ 0)
                  exact this hc
              have hC : TrnOk N l c t0 k (nodeAt N l t0) := ⟨hT, et, hlo, hhi, hea, hkind⟩
              have hLen := exp_len (N := N) (c := c) (t0 := t0) (k := k) (p := p) (now := nodeAt N l t0) hlen
              rw [Of_v hN p hC h0 hc hpt hPt, hErr, Option.bind_some, Option.bind_some, show ((0 : Int) == 0) = true from rfl, cond_true, exp_v hN p hC hAt, Option.bind_some]
              generalize expS N l c t0 k p (nodeAt N l t0) = o at hLen ⊢
              unfold finS
              cases ho : (o.2 == 0) with
              | false =>
                simp only [ho, Bool.not_false, cond_true, Bool.false_and, cond_false]
                rw [beq_self_eq_true, cond_true, eq_nil hN]
                rfl
              | true =>
                have ho2 := beq_iff_eq.1 ho
                rw [Bool.not_true, cond_false, Bool.true_and]
                cases hL : decide ((o.1.length : Int) > 64) with
                | true =>
                  simp only [cond_true]
                  rw [show ((2 : Int) == 2) = true from rfl, cond_true, eq_nil hN]
                  rfl
                | false =>
                  simp only [ho, cond_false, Bool.not_true]
                  rw [ho2, show ((0 : Int) == 0) = true from rfl, cond_true, slices_Equal_TubeNode.self hN o.1 (by omega)]
                  rfl
end
theorem EffectTurns.pure (x0 : List Nd) (x1 : Clr) (x2 : Int) (x3 : Kd) (x4 : Pt) (h0 : Wf Tryd.prog (.sl 39 (.pair (.pair (.int .i64) (.pair (.pair (.int .i64) (.int .i64)) (.int .i64))) (.pair (.int .i64) (.int .i64)))) x0) (h1 : Wf Tryd.prog (.pair .str (.pair (.int .i64) (.pair (.int .i64) .str))) x1) (h2 : Wf Tryd.prog (.int .i64) x2) (h3 : Wf Tryd.prog (.pair .str (.pair (.int .i64) (.pair (.int .i64) (.pair (.int .i64) (.pair (.int .i64) (.pair (.int .i64) (.int .i64))))))) x3) (h4 : Wf Tryd.prog (.pair (.int .i64) (.int .i64)) x4) : law_EffectTurns.fn NN (x0, x1, x2, x3, x4) = some true :=
  EffectTurns.pureN NN_big x0 x1 x2 x3 x4
end Go.Proofs.YtnbkofkgdbhbpaaDoor.Sk
