/- The laws WakeGaps, WakeClasses, WakeValids, plain: what the printed functions answer. -/
import Derived.Test.YtalaepaomnfgjaaWakeEq
import Derived.Test.YtalaepaomnfgjaaSkAid
set_option linter.unusedVariables false
set_option linter.unusedSimpArgs false
set_option linter.unusedSectionVars false
namespace Go.Proofs.Ytalaepaomnfgjaa.Sk
open Go

def entBad (v : Int) : Bool := decide (v < 30) || decide (v > 600)
def tri (x : List Int) (a b c : Nat) : Bool := decide (x.getD (a * 4 + c) 0 > x.getD (a * 4 + b) 0 + x.getD (b * 4 + c) 0)
def tabErr (x : List Int) : Int :=
  bif (List.range 16).any (fun i => entBad (x.getD i 0)) then 4 else bif (List.range 4).any (fun a => (List.range 4).any fun b => (List.range 4).any fun c => tri x a b c) then 3 else 0
def cls (c : Int) : Bool := decide (c < 0) || decide (c > 3)
def gp (x : List Int) (a b : Int) : Int := x.getD (a.toNat * 4 + b.toNat) 0

theorem ents {x : List Int} (h : (List.range 16).any (fun i => entBad (x.getD i 0)) = false) : ∀ i, i < 16 → 30 ≤ x.getD i 0 ∧ x.getD i 0 ≤ 600 := by
  intro i hi
  rw [List.any_eq_false] at h
  have := h i (List.mem_range.2 hi)
  simp -implicitDefEqProofs only [entBad, Bool.or_eq_true, decide_eq_true_eq, not_or] at this
  omega
theorem tabErr_ents {x : List Int} (h : tabErr x = 0) : ∀ i, i < 16 → 30 ≤ x.getD i 0 ∧ x.getD i 0 ≤ 600 := by
  unfold tabErr at h
  cases hb : (List.range 16).any (fun i => entBad (x.getD i 0)) with
  | true => rw [hb] at h; cases h
  | false => exact ents hb
theorem tabErr_tri {x : List Int} (h : tabErr x = 0) : ∀ a b c, a < 4 → b < 4 → c < 4 → x.getD (a * 4 + c) 0 ≤ x.getD (a * 4 + b) 0 + x.getD (b * 4 + c) 0 := by
  intro a b c ha hb hc
  unfold tabErr at h
  cases h1 : (List.range 16).any (fun i => entBad (x.getD i 0)) with
  | true => rw [h1] at h; cases h
  | false =>
    rw [h1] at h
    cases h2 : (List.range 4).any (fun a => (List.range 4).any fun b => (List.range 4).any fun c => tri x a b c) with
    | true => rw [h2] at h; cases h
    | false =>
      rw [List.any_eq_false] at h2
      have h3 := h2 a (List.mem_range.2 ha)
      rw [Bool.not_eq_true, List.any_eq_false] at h3
      have h4 := h3 b (List.mem_range.2 hb)
      rw [Bool.not_eq_true, List.any_eq_false] at h4
      have h5 := h4 c (List.mem_range.2 hc)
      simp -implicitDefEqProofs only [tri, decide_eq_true_eq] at h5
      omega

section
variable {N : Nat} (hN : 4611686018427387904 ≤ N) {x : List Int} (hx : x.length = 16)
include hN hx

theorem l4v (hg : ∀ i, i < 16 → 30 ≤ x.getD i 0 ∧ x.getD i 0 ≤ 600) (k5 k7 a b : Nat) (ha : a < 4) (hb : b < 4) :
    F27.l4 N x k5 a k7 b N 0 = bif (List.range 4).any (tri x a b) then some 3 else F27.l3 N x k5 a k7 ((b : Int) + 1) := by
  refine scan_loop (n := 4) (tri x a b) (some 3) _ (fun k i => F27.l4 N x k5 a k7 b k i) (fun k => ?_) (fun k c hc => ?_) N (by omega)
  · rw [F27.l4_succ]; simp -implicitDefEqProofs [w_small ((b : Int) + 1) (by omega) (by omega)]
  · have h1 := hg (a * 4 + b) (by omega)
    have h2 := hg (b * 4 + c) (by omega)
    rw [F27.l4_succ, vl_self hx, w_small ((c : Int) + 1) (by omega) (by omega)]
    simp -implicitDefEqProofs only [Int.toNat_natCast, Nat.zero_add, Nat.mul_one, w_small (x.getD (a * 4 + b) 0 + x.getD (b * 4 + c) 0) (by omega) (by omega), show decide ((a : Int) < 4) = true by simp; omega, show decide ((b : Int) < 4) = true by simp; omega, show decide ((c : Int) < 4) = true by simp; omega, show decide (0 ≤ (a : Int)) = true by simp,
      show decide (0 ≤ (b : Int)) = true by simp, show decide (0 ≤ (c : Int)) = true by simp, show decide (a * 4 + b < 16) = true by simp; omega, show decide (b * 4 + c < 16) = true by simp; omega, show decide (a * 4 + c < 16) = true by simp; omega, Bool.and_self, cond_true, tri]
theorem l3v (hg : ∀ i, i < 16 → 30 ≤ x.getD i 0 ∧ x.getD i 0 ≤ 600) (k5 a : Nat) (ha : a < 4) :
    F27.l3 N x k5 a N 0 = bif (List.range 4).any (fun b => (List.range 4).any (tri x a b)) then some 3 else F27.l2 N x k5 ((a : Int) + 1) := by
  refine scan_loop (n := 4) (fun b => (List.range 4).any (tri x a b)) (some 3) _ (fun k i => F27.l3 N x k5 a k i) (fun k => ?_) (fun k b hb => ?_) N (by omega)
  · rw [F27.l3_succ]; simp -implicitDefEqProofs [w_small ((a : Int) + 1) (by omega) (by omega)]
  · rw [F27.l3_succ]
    simp -implicitDefEqProofs only [show decide ((b : Int) < 4) = true by simp; omega, cond_true]
    exact l4v hN hx hg k5 k a b ha hb
theorem l2v (hg : ∀ i, i < 16 → 30 ≤ x.getD i 0 ∧ x.getD i 0 ≤ 600) :
    F27.l2 N x N 0 = bif (List.range 4).any (fun a => (List.range 4).any (fun b => (List.range 4).any (tri x a b))) then some 3 else some 0 := by
  refine scan_loop (n := 4) _ (some 3) _ (fun k i => F27.l2 N x k i) (fun k => ?_) (fun k a ha => ?_) N (by omega)
  · rw [F27.l2_succ]; simp
  · rw [F27.l2_succ]
    simp -implicitDefEqProofs only [show decide ((a : Int) < 4) = true by simp; omega, cond_true]
    exact l3v hN hx hg k a ha
theorem l1v (k1 a : Nat) (ha : a < 4) : F27.l1 N x k1 a N 0 = bif (List.range 4).any (fun b => entBad (x.getD (a * 4 + b) 0)) then some 4 else F27.l0 N x k1 ((a : Int) + 1) := by
  refine scan_loop (n := 4) _ (some 4) _ (fun k i => F27.l1 N x k1 a k i) (fun k => ?_) (fun k b hb => ?_) N (by omega)
  · rw [F27.l1_succ]; simp -implicitDefEqProofs [w_small ((a : Int) + 1) (by omega) (by omega)]
  · rw [F27.l1_clean, vl_self hx]
    have hb' : b = 0 ∨ b = 1 ∨ b = 2 ∨ b = 3 := by omega
    rcases hb' with rfl | rfl | rfl | rfl <;> simp -implicitDefEqProofs [entBad, List.getD, w_small] <;> rfl
theorem l0v : F27.l0 N x N 0 = bif (List.range 4).any (fun a => (List.range 4).any (fun b => entBad (x.getD (a * 4 + b) 0))) then some 4 else F27.l2 N x N 0 := by
  refine scan_loop (n := 4) _ (some 4) _ (fun k i => F27.l0 N x k i) (fun k => ?_) (fun k a ha => ?_) N (by omega)
  · rw [F27.l0_succ]; simp
  · rw [F27.l0_succ]
    simp -implicitDefEqProofs only [show decide ((a : Int) < 4) = true by simp; omega, show decide (0 ≤ (a : Int)) = true by simp, Int.toNat_natCast, show decide (a * 4 + 4 ≤ 16) = true by simp; omega, cond_true, Bool.true_and]
    exact l1v hN hx k a ha
theorem any16 (p : Nat → Bool) : ((List.range 4).any fun a => (List.range 4).any fun b => p (a * 4 + b)) = (List.range 16).any p := by
  simp -implicitDefEqProofs [List.range, List.range.loop, Bool.or_assoc]
theorem F27.v : F27.fn N x = some (tabErr x) := by
  rw [F27.eq, l0v hN hx, any16 hN hx fun i => entBad (x.getD i 0)]
  unfold tabErr
  cases h : (List.range 16).any (fun i => entBad (x.getD i 0)) with
  | true => rfl
  | false =>
    rw [cond_false, cond_false, l2v hN hx (ents h)]
    cases (List.range 4).any (fun a => (List.range 4).any (fun b => (List.range 4).any (tri x a b))) <;> rfl

theorem r1v (hg : ∀ i, i < 16 → 30 ≤ x.getD i 0 ∧ x.getD i 0 ≤ 600) : F26.l1 N x N 0 = bif (List.range 64).any (fun i => tri x (i / 16) (i / 4 % 4) (i % 4)) then some 3 else some 0 := by
  refine scan_loop (n := 64) _ (some 3) _ (fun k i => F26.l1 N x k i) (fun k => ?_) (fun k i hi => ?_) N (by omega)
  · rw [F26.l1_succ]; simp
  · have e1 : w (Int.tdiv (i : Int) 16) = ((i / 16 : Nat) : Int) := by rw [w_small] <;> (simp -implicitDefEqProofs only [Int.tdiv_eq_ediv_of_nonneg (Int.natCast_nonneg i)]; omega)
    have e2 : w (Int.tdiv (i : Int) 4) = ((i / 4 : Nat) : Int) := by rw [w_small] <;> (simp -implicitDefEqProofs only [Int.tdiv_eq_ediv_of_nonneg (Int.natCast_nonneg i)]; omega)
    have e3 : Int.tmod ((i / 4 : Nat) : Int) 4 = ((i / 4 % 4 : Nat) : Int) := by rw [Int.tmod_eq_emod_of_nonneg (Int.natCast_nonneg _)]; omega
    have e4 : Int.tmod (i : Int) 4 = ((i % 4 : Nat) : Int) := by rw [Int.tmod_eq_emod_of_nonneg (Int.natCast_nonneg _)]; omega
    rw [F26.l1_succ, vl_self hx, e1, e2, e3, e4]
    generalize ha : i / 16 = a
    generalize hb : i / 4 % 4 = b
    generalize hc : i % 4 = c
    have ha4 : a < 4 := by omega
    have hb4 : b < 4 := by omega
    have hc4 : c < 4 := by omega
    have h1 := hg (a * 4 + b) (by omega)
    have h2 := hg (b * 4 + c) (by omega)
    rw [w_small ((i : Int) + 1) (by omega) (by omega)]
    simp -implicitDefEqProofs only [Int.toNat_natCast, Nat.zero_add, Nat.mul_one, w_small (x.getD (a * 4 + b) 0 + x.getD (b * 4 + c) 0) (by omega) (by omega), show decide ((i : Int) < 64) = true by simp; omega, show decide ((a : Int) < 4) = true by simp; omega, show decide ((b : Int) < 4) = true by simp; omega, show decide ((c : Int) < 4) = true by simp; omega, show decide (0 ≤ (a : Int)) = true by simp,
      show decide (0 ≤ (b : Int)) = true by simp, show decide (0 ≤ (c : Int)) = true by simp, show decide (a * 4 + b < 16) = true by simp; omega, show decide (b * 4 + c < 16) = true by simp; omega, show decide (a * 4 + c < 16) = true by simp; omega, Bool.and_self, cond_true, tri]
theorem r0v : F26.l0 N x N 0 = bif (List.range 16).any (fun i => entBad (x.getD i 0)) then some 4 else F26.l1 N x N 0 := by
  refine scan_loop (n := 16) _ (some 4) _ (fun k i => F26.l0 N x k i) (fun k => ?_) (fun k i hi => ?_) N (by omega)
  · rw [F26.l0_succ]; simp
  · have e2 : w (Int.tdiv (i : Int) 4) = ((i / 4 : Nat) : Int) := by rw [w_small] <;> (simp -implicitDefEqProofs only [Int.tdiv_eq_ediv_of_nonneg (Int.natCast_nonneg i)]; omega)
    have e4 : Int.tmod (i : Int) 4 = ((i % 4 : Nat) : Int) := by rw [Int.tmod_eq_emod_of_nonneg (Int.natCast_nonneg _)]; omega
    rw [F26.l0_clean, vl_self hx, e2, e4]
    have e5 : i / 4 * 4 + i % 4 = i := by omega
    have ha : i / 4 < 4 := by omega
    have hb : i % 4 < 4 := by omega
    clear e2 e4
    revert e5 ha hb
    generalize i / 4 = a
    generalize i % 4 = b
    intro e5 ha hb
    rw [w_small ((i : Int) + 1) (by omega) (by omega)]
    simp -implicitDefEqProofs only [Int.toNat_natCast, Nat.zero_add, Nat.mul_one, e5, show decide ((i : Int) < 16) = true by simp; omega, show decide (i < 16) = true by simp; omega, show decide ((a : Int) < 4) = true by simp; omega, show decide ((b : Int) < 4) = true by simp; omega,
      show decide (0 ≤ (a : Int)) = true by simp, show decide (0 ≤ (b : Int)) = true by simp, Bool.and_self, Bool.true_or, cond_true, entBad]
theorem any64 (p : Nat → Nat → Nat → Bool) : ((List.range 64).any fun i => p (i / 16) (i / 4 % 4) (i % 4)) = ((List.range 4).any fun a => (List.range 4).any fun b => (List.range 4).any fun c => p a b c) := by
  simp -implicitDefEqProofs [List.range, List.range.loop, Bool.or_assoc]
theorem F26.v : F26.fn N x = some (tabErr x) := by
  rw [F26.eq, r0v hN hx]
  unfold tabErr
  cases h : (List.range 16).any (fun i => entBad (x.getD i 0)) with
  | true => rfl
  | false =>
    rw [cond_false, cond_false, r1v hN hx (ents h), any64 hN hx (tri x)]
    cases (List.range 4).any (fun a => (List.range 4).any (fun b => (List.range 4).any (tri x a b))) <;> rfl
end

theorem F30.v {N : Nat} (hN : 4611686018427387904 ≤ N) (c : Int) : F30.fn N c = some (bif cls c then 1 else 0) := by
  rw [F30.clean]; unfold cls; cases (decide (c < 0) || decide (c > 3)) <;> rfl
theorem cls_ok {c : Int} (h : cls c = false) : 0 ≤ c ∧ c < 4 := by
  simp -implicitDefEqProofs only [cls, Bool.or_eq_false_iff, decide_eq_false_iff_not] at h; omega

theorem F28.v {N : Nat} (hN : 4611686018427387904 ≤ N) (l : List Int) (hl : l.length < 4611686018427387904) : F28.fn N l = some (bif l.any cls then 1 else 0) := by
  rw [F28.eq]
  have := scan_list (l := l) cls (some (1 : Int)) (some 0) (fun k i => F28.l0 N l k i) (fun k => by rw [F28.l0_succ]; simp) (fun k pre x r h => by
    have h1 : (pre.length : Int) < l.length := by rw [h]; simp; omega
    rw [F28.l0_clean, w_next h hl]
    simp -implicitDefEqProofs only [h1, decide_true, cond_true, show decide (0 ≤ (pre.length : Int)) = true by simp, Bool.true_and, Int.toNat_natCast]
    rw [show l.getD pre.length 0 = x by rw [h]; exact getD_mid pre x r 0]
    rfl) N (by omega)
  rw [this]; cases l.any cls <;> rfl

theorem gp_ok {x : List Int} {a b : Int} (hx : x.length = 16) (ht : tabErr x = 0) (ha : cls a = false) (hb : cls b = false) : 30 ≤ gp x a b ∧ gp x a b ≤ 600 := by
  have h1 := cls_ok ha
  have h2 := cls_ok hb
  exact tabErr_ents ht _ (by omega)

def gapR (x : List Int) (a b : Int) : Int × Int := bif !(tabErr x == 0) then (0, tabErr x) else bif cls a then (0, 1) else bif cls b then (0, 1) else (gp x a b, 0)
theorem F29.v {N : Nat} (hN : 4611686018427387904 ≤ N) {x : List Int} (hx : x.length = 16) (a b : Int) : F29.fn N (x, a, b) = some (gapR x a b) := by
  rw [F29.eq]
  simp -implicitDefEqProofs only [vl_self hx, F27.v hN hx, F30.v hN, Option.bind_some]
  unfold gapR
  cases h1 : (tabErr x == 0) with
  | false => simp -implicitDefEqProofs [h1]
  | true =>
    cases ha : cls a with
    | true => simp -implicitDefEqProofs [h1]
    | false =>
      cases hb : cls b with
      | true => simp -implicitDefEqProofs [h1]
      | false =>
        have ha' := cls_ok ha
        have hb' := cls_ok hb
        simp -implicitDefEqProofs [h1, ha', hb', gp, show a.toNat * 4 + b.toNat < 16 by omega]

theorem w_prev {α : Type} (pre : List α) (p : α) (h : pre.length < 4611686018427387904) : w (((pre ++ [p]).length : Int) - 1) = (pre.length : Int) := by
  have hpl : ((pre ++ [p]).length : Int) = pre.length + 1 := by simp
  rw [hpl, show (pre.length : Int) + 1 - 1 = pre.length by omega]; exact w_small _ (by omega) (by omega)
/-- The required time from the first to the last one. -/
def leastG (x : List Int) : List Int → Int
  | a :: b :: r => gp x a b + leastG x (b :: r)
  | _ => 0
def leastFrom (x : List Int) (prev : Option Int) (l : List Int) : Int := match prev with | none => leastG x l | some p => leastG x (p :: l)
theorem F25.v {N : Nat} (hN : 4611686018427387904 ≤ N) {x l : List Int} (hx : x.length = 16) (hl : l.length ≤ reachBytes) :
    F25.fn N (x, l) = some (bif !(tabErr x == 0) then (0, tabErr x) else bif decide ((l.length : Int) > 256) then (0, 2) else bif l.any cls then (0, 1) else (leastG x l, 0)) := by
  rw [F25.eq]
  simp -implicitDefEqProofs only [vl_self hx, F27.v hN hx, Option.bind_some]
  cases h1 : (tabErr x == 0) with
  | false => simp
  | true =>
    have ht : tabErr x = 0 := by simpa using h1
    by_cases h2 : (l.length : Int) > 256
    · simp -implicitDefEqProofs [h1, h2]
    simp -implicitDefEqProofs only [h1, h2, decide_false, cond_false, Bool.not_true]
    have := list_loop (l := l) (fun k (s : Int) i => F25.l0 N x l k s i) (fun pre r s => some (bif r.any cls then ((0 : Int), (1 : Int)) else (s + leastFrom x pre.getLast? r, 0))) (fun pre s => 0 ≤ s ∧ s ≤ 600 * pre.length ∧ pre.any cls = false)
      (fun k s hI => by
        rw [F25.l0_succ]
        simp -implicitDefEqProofs only [Int.lt_irrefl, decide_false, cond_false, List.any_nil]
        cases h : l.getLast? <;> simp -implicitDefEqProofs [leastFrom, leastG])
      (fun k pre c r s hl' hI ih => by
        obtain ⟨h0, h6, hp⟩ := hI
        have hlen : l.length = pre.length + 1 + r.length := by rw [hl']; simp; omega
        rw [F25.l0_succ, vl_self hx, w_next hl' (by omega)]
        simp -implicitDefEqProofs only [show decide ((pre.length : Int) < l.length) = true by simp; omega, show decide (0 ≤ (pre.length : Int)) = true by simp, Bool.true_and, cond_true, Int.toNat_natCast, F30.v hN, Option.bind_some]
        rw [show l.getD pre.length 0 = c by rw [hl']; exact getD_mid pre c r 0]
        cases hc : cls c with
        | true => simp -implicitDefEqProofs [hc]
        | false =>
          have hc' := cls_ok hc
          rcases List.eq_nil_or_concat pre with rfl | ⟨pre', p, rfl⟩
          · have := ih s ⟨h0, by simp at h6 ⊢; omega, by simp -implicitDefEqProofs [hc]⟩
            simp -implicitDefEqProofs only [List.length_nil, Int.natCast_zero, Int.zero_add] at this ⊢
            simp -implicitDefEqProofs [hc, this, leastFrom]
          · rw [List.concat_eq_append] at *
            have hp' : cls p = false := by rw [List.any_append] at hp; simp at hp; exact hp.2
            have hpp := cls_ok hp'
            have hg := gp_ok hx ht hp' hc
            have hp2 : l.getD pre'.length 0 = p := by rw [hl', List.append_assoc]; exact getD_mid pre' p _ 0
            have hg' : x.getD (p.toNat * 4 + c.toNat) 0 = gp x p c := rfl
            have hpl : ((pre' ++ [p]).length : Int) = pre'.length + 1 := by simp
            have b1 : decide ((pre'.length : Int) < l.length) = true := by simp only [decide_eq_true_eq]; omega
            have b2 : decide (p.toNat * 4 + c.toNat < 16) = true := by simp only [decide_eq_true_eq]; omega
            have b3 : decide ((pre'.length : Int) + 1 > 0) = true := by simp only [decide_eq_true_eq]; omega
            have b4 : decide (0 ≤ (pre'.length : Int)) = true := by simp only [decide_eq_true_eq]; omega
            have b5 : decide (0 ≤ p) = true := by simp only [decide_eq_true_eq]; omega
            have b6 : decide (p < 4) = true := by simp only [decide_eq_true_eq]; omega
            have b7 : decide (0 ≤ c) = true := by simp only [decide_eq_true_eq]; omega
            have b8 : decide (c < 4) = true := by simp only [decide_eq_true_eq]; omega
            have this := ih (s + gp x p c) ⟨by omega, by simp only [List.length_append, List.length_cons, List.length_nil] at h6 ⊢; omega, by rw [List.any_append, hp]; simp [hc]⟩
            have e2 : w (s + gp x p c) = s + gp x p c := w_small _ (by omega) (by omega)
            have e1 : w (((pre' ++ [p]).length : Int) - 1) = (pre'.length : Int) := by rw [hpl, show (pre'.length : Int) + 1 - 1 = pre'.length by omega]; exact w_small _ (by omega) (by omega)
            rw [e1]
            rw [hpl] at this ⊢
            simp -implicitDefEqProofs only [Int.toNat_natCast, Nat.zero_add, Nat.mul_one, hp2, hg', e2, b1, b2, b3, b4, b5, b6, b7, b8, Bool.and_self, cond_true, cond_false, beq_self_eq_true, Bool.not_true]
            rw [this]
            simp [hc, leastFrom, leastG, Int.add_assoc])
      N 0 ⟨Int.le_refl 0, by simp, rfl⟩ (by simp -implicitDefEqProofs [reachBytes] at hl; omega)
    rw [this]
    cases l.any cls <;> simp -implicitDefEqProofs [leastFrom]

theorem getD_map_mid {α β : Type} {z pre : List α} {x : α} {r : List α} (f : α → β) (h : z = pre ++ x :: r) (d : β) : (z.map f).getD pre.length d = f x := by
  rw [h, List.map_append, List.map_cons]
  have := getD_mid (pre.map f) (f x) (r.map f) d
  rwa [List.length_map] at this

def ctErr : List (Int × Int) → Int
  | [] => 0
  | p :: r => bif cls p.1 then 1 else bif (decide (p.2 < 0) || decide (p.2 > 200000)) then 12 else ctErr r
def adjOk (x : List Int) : List (Int × Int) → Bool
  | a :: b :: r => decide (b.2 - a.2 ≥ gp x a.1 b.1) && adjOk x (b :: r)
  | _ => true
def pairOk (x : List Int) : List (Int × Int) → Bool
  | a :: r => r.all (fun b => decide (b.2 - a.2 ≥ gp x a.1 b.1)) && pairOk x r
  | [] => true
theorem ctErr_ok : ∀ {z : List (Int × Int)}, ctErr z = 0 → ∀ p, p ∈ z → cls p.1 = false ∧ 0 ≤ p.2 ∧ p.2 ≤ 200000
  | [], _, p, hp => by cases hp
  | q :: r, h, p, hp => by
    unfold ctErr at h
    cases hc : cls q.1 with
    | true => rw [hc] at h; cases h
    | false =>
      rw [hc] at h
      cases ht : (decide (q.2 < 0) || decide (q.2 > 200000)) with
      | true => rw [ht] at h; cases h
      | false =>
        rw [ht] at h
        simp -implicitDefEqProofs only [Bool.or_eq_false_iff, decide_eq_false_iff_not] at ht
        rcases List.mem_cons.1 hp with rfl | hp
        · exact ⟨hc, by omega, by omega⟩
        · exact ctErr_ok (z := r) h p hp
theorem ctErr_val : ∀ (z : List (Int × Int)), ctErr z = 0 ∨ ctErr z = 1 ∨ ctErr z = 12
  | [] => .inl rfl
  | q :: r => by
    unfold ctErr
    cases cls q.1 with
    | true => exact .inr (.inl rfl)
    | false =>
      cases (decide (q.2 < 0) || decide (q.2 > 200000)) with
      | true => exact .inr (.inr rfl)
      | false => exact ctErr_val r
theorem gp_tri {x : List Int} {a b c : Int} (ht : tabErr x = 0) (ha : cls a = false) (hb : cls b = false) (hc : cls c = false) : gp x a c ≤ gp x a b + gp x b c := by
  have h1 := cls_ok ha
  have h2 := cls_ok hb
  have h3 := cls_ok hc
  exact tabErr_tri ht a.toNat b.toNat c.toNat (by omega) (by omega) (by omega)
theorem adj_all {x : List Int} (ht : tabErr x = 0) : ∀ (l : List (Int × Int)) (a : Int × Int), cls a.1 = false → (∀ p, p ∈ l → cls p.1 = false) → adjOk x (a :: l) = true → ∀ b, b ∈ l → b.2 - a.2 ≥ gp x a.1 b.1
  | [], a, _, _, _, b, hb => by cases hb
  | c :: l, a, ha, hl, h, b, hb => by
    simp -implicitDefEqProofs only [adjOk, Bool.and_eq_true, decide_eq_true_eq] at h
    rcases List.mem_cons.1 hb with rfl | hb
    · exact h.1
    · have h1 := adj_all ht l c (hl c (List.mem_cons_self ..)) (fun p hp => hl p (List.mem_cons_of_mem _ hp)) h.2 b hb
      have h2 := gp_tri ht ha (hl c (List.mem_cons_self ..)) (hl b (List.mem_cons_of_mem _ hb))
      omega
theorem adj_pair {x : List Int} (ht : tabErr x = 0) : ∀ (z : List (Int × Int)), (∀ p, p ∈ z → cls p.1 = false) → adjOk x z = pairOk x z
  | [], _ => rfl
  | [a], _ => by simp -implicitDefEqProofs [adjOk, pairOk]
  | a :: b :: r, h => by
    have ih := adj_pair ht (b :: r) fun p hp => h p (List.mem_cons_of_mem _ hp)
    rw [Bool.eq_iff_iff]
    constructor
    · intro h1
      have h2 := adj_all ht (b :: r) a (h a (List.mem_cons_self ..)) (fun p hp => h p (List.mem_cons_of_mem _ hp)) h1
      rw [pairOk, Bool.and_eq_true, List.all_eq_true, ← ih]
      simp -implicitDefEqProofs only [adjOk, Bool.and_eq_true] at h1
      exact ⟨fun p hp => by simpa using h2 p hp, h1.2⟩
    · intro h1
      rw [pairOk, Bool.and_eq_true, List.all_eq_true, ← ih] at h1
      simp -implicitDefEqProofs only [adjOk, Bool.and_eq_true]
      exact ⟨h1.1 b (List.mem_cons_self ..), h1.2⟩

theorem F31.l1v {N : Nat} (hN : 4611686018427387904 ≤ N) {x : List Int} {z : List (Int × Int)} (hx : x.length = 16) (ht : tabErr x = 0) (hz : ctErr z = 0) (hl : z.length < 4611686018427387904) : F31.l1 N x (z.map (·.1)) (z.map (·.2)) N 1 = some (adjOk x z, 0) := by
  cases z with
  | nil => obtain ⟨M, hM⟩ : ∃ M, N = M + 1 := ⟨N - 1, by omega⟩
           rw [hM, F31.l1_succ]; rfl
  | cons p0 z0 =>
  generalize hzz : p0 :: z0 = z at *
  have := list_from (l := z) (fun k (_ : Unit) i => F31.l1 N x (z.map (·.1)) (z.map (·.2)) k i) (fun pre r _ => some (match pre.getLast? with | some p => adjOk x (p :: r) | none => true, (0 : Int))) (fun pre _ => pre ≠ [])
      (fun k s hI => by
        rw [F31.l1_succ]
        simp -implicitDefEqProofs only [List.length_map, Int.lt_irrefl, decide_false, cond_false]
        cases h : z.getLast? <;> simp -implicitDefEqProofs [adjOk])
      (fun k pre c r s hl' hI ih => by
        have ih := ih () (by simp)
        have hlen : z.length = pre.length + 1 + r.length := by rw [hl']; simp; omega
        obtain ⟨pre', p, rfl⟩ : ∃ pre' p, pre = pre' ++ [p] := by
          rcases List.eq_nil_or_concat pre with h | ⟨pre', p, h⟩
          · exact absurd h hI
          · exact ⟨pre', p, by rw [h, List.concat_eq_append]⟩
        have hc := ctErr_ok hz c (by rw [hl']; simp)
        have hp := ctErr_ok hz p (by rw [hl']; simp)
        have hcc := cls_ok hc.1
        have hpp := cls_ok hp.1
        have hg := gp_ok hx ht hp.1 hc.1
        have hg' : x.getD (p.1.toNat * 4 + c.1.toNat) 0 = gp x p.1 c.1 := rfl
        have hl2 : z = pre' ++ p :: (c :: r) := by rw [hl']; simp
        have hpl : (pre' ++ [p]).length = pre'.length + 1 := by simp
        have e1 := w_prev pre' p (by omega)
        rw [F31.l1_succ, vl_self hx, w_next hl' hl, e1]
        simp -implicitDefEqProofs only [Int.toNat_natCast, getD_map_mid _ hl', getD_map_mid _ hl2, List.length_map]
        rw [w_small (c.2 - p.2) (by omega) (by omega)]
        simp -implicitDefEqProofs only [Nat.zero_add, Nat.mul_one, hg']
        simp -implicitDefEqProofs [hcc, hpp, hg', show (pre'.length : Int) < z.length by simp at hlen; omega, show ((pre'.length : Int) + 1 < z.length) by simp at hlen; omega, show p.1.toNat * 4 + c.1.toNat < 16 by omega, show 0 ≤ (pre'.length : Int) + 1 by omega]
        simp at ih
        rw [ih]
        by_cases hlt : c.2 - p.2 < gp x p.1 c.1
        · simp -implicitDefEqProofs [hlt, adjOk, show ¬ gp x p.1 c.1 ≤ c.2 - p.2 by omega]
        · simp -implicitDefEqProofs [hlt, adjOk, show gp x p.1 c.1 ≤ c.2 - p.2 by omega])
      z0 [p0] N () (by rw [← hzz]; rfl) (by simp) (by rw [← hzz] at hl; simp at hl; omega)
  simp at this
  rw [this, hzz]

theorem F31.l0v {N : Nat} (hN : 4611686018427387904 ≤ N) {x : List Int} {z : List (Int × Int)} (hl : z.length < 4611686018427387904) : F31.l0 N x (z.map (·.1)) (z.map (·.2)) N 0 = bif !(ctErr z == 0) then some (false, ctErr z) else F31.l1 N x (z.map (·.1)) (z.map (·.2)) N 1 := by
  refine list_loop0 (l := z) (fun k i => F31.l0 N x (z.map (·.1)) (z.map (·.2)) k i) (fun r => bif !(ctErr r == 0) then some (false, ctErr r) else F31.l1 N x (z.map (·.1)) (z.map (·.2)) N 1) (fun k => ?_) (fun k pre c r hl' ih => ?_) N (by omega)
  · rw [F31.l0_succ]; simp -implicitDefEqProofs [ctErr]
  · have hlen : z.length = pre.length + 1 + r.length := by rw [hl']; simp; omega
    rw [F31.l0_clean, w_next hl' hl]
    simp -implicitDefEqProofs only [Int.toNat_natCast, getD_map_mid _ hl', List.length_map, F30.v hN, Option.bind_some]
    simp -implicitDefEqProofs only [show decide ((pre.length : Int) < z.length) = true by simp; omega, show decide (0 ≤ (pre.length : Int)) = true by simp, Bool.true_and, Bool.true_or, cond_true]
    rw [ih]
    cases hc : cls c.1 with
    | true => simp -implicitDefEqProofs [ctErr, hc]
    | false =>
      cases ht : (decide (c.2 < 0) || decide (c.2 > 200000)) with
      | true => simp -implicitDefEqProofs [ctErr, hc, ht]
      | false => simp -implicitDefEqProofs [ctErr, hc, ht]

def validR (x : List Int) (z : List (Int × Int)) : Bool × Int :=
  bif !(tabErr x == 0) then (false, tabErr x) else bif decide ((z.length : Int) > 256) then (false, 2) else bif !(ctErr z == 0) then (false, ctErr z) else (adjOk x z, 0)
theorem F31.v {N : Nat} (hN : 4611686018427387904 ≤ N) {x : List Int} {z : List (Int × Int)} (hx : x.length = 16) (hl : z.length < 4611686018427387904) : F31.fn N (x, z.map (·.1), z.map (·.2)) = some (validR x z) := by
  rw [F31.clean]
  simp -implicitDefEqProofs only [vl_self hx, F27.v hN hx, Option.bind_some, List.length_map, Bool.or_self, beq_self_eq_true, Bool.not_true, cond_false]
  unfold validR
  cases h1 : (tabErr x == 0) with
  | false => simp
  | true =>
    by_cases h2 : (z.length : Int) > 256
    · simp -implicitDefEqProofs [h2]
    rw [F31.l0v hN hl]
    cases h3 : (ctErr z == 0) with
    | false => simp -implicitDefEqProofs [h2, h3]
    | true => simp -implicitDefEqProofs [h2, h3, F31.l1v hN hx (by simpa using h1) (by simpa using h3) hl]

theorem F66.v {N : Nat} (hN : 4611686018427387904 ≤ N) : F66.fn N () = some [60, 60, 60, 60, 120, 60, 60, 60, 180, 120, 90, 60, 240, 180, 120, 120] := F66.eq N
theorem F24.t {N : Nat} (hN : 4611686018427387904 ≤ N) : F24.fn N () = some true := by
  rw [F24.clean, F66.v hN]
  simp only [Option.bind_some]
  rw [show vl 16 [60, 60, 60, 60, 120, 60, 60, 60, 180, 120, 90, 60, 240, 180, 120, 120] = [60, 60, 60, 60, 120, 60, 60, 60, 180, 120, 90, 60, 240, 180, 120, 120] from rfl, F29.v hN rfl, F25.v hN rfl (by decide +kernel),
    show F31.fn N ([60, 60, 60, 60, 120, 60, 60, 60, 180, 120, 90, 60, 240, 180, 120, 120], [2, 0], [5, 185]) = some (validR [60, 60, 60, 60, 120, 60, 60, 60, 180, 120, 90, 60, 240, 180, 120, 120] [(2, 5), (0, 185)]) from F31.v hN (z := [(2, 5), (0, 185)]) rfl (by decide +kernel),
    show F31.fn N ([60, 60, 60, 60, 120, 60, 60, 60, 180, 120, 90, 60, 240, 180, 120, 120], [2, 0], [5, 184]) = some (validR [60, 60, 60, 60, 120, 60, 60, 60, 180, 120, 90, 60, 240, 180, 120, 120] [(2, 5), (0, 184)]) from F31.v hN (z := [(2, 5), (0, 184)]) rfl (by decide +kernel)]
  simp only [Option.bind_some]
  rw [F27.v hN (x := [0, 0, 0, 0, 0, 0, 0, 0, 0, 0, 0, 0, 0, 0, 0, 0]) rfl, F30.v hN]
  kernel_rfl

theorem tabErr_val (x : List Int) : tabErr x = 0 ∨ tabErr x = 3 ∨ tabErr x = 4 := by
  unfold tabErr
  cases (List.range 16).any (fun i => entBad (x.getD i 0)) with
  | true => exact .inr (.inr rfl)
  | false => cases ((List.range 4).any fun a => (List.range 4).any fun b => (List.range 4).any fun c => tri x a b c) with
    | true => exact .inr (.inl rfl)
    | false => exact .inl rfl

theorem WakeClasses.pureN {N : Nat} (hN : 4611686018427387904 ≤ N) (x0 : List Int) (x1 x2 : Int) (h0 : Wf Try.prog (.vec 16 .i64) x0) (h1 : Wf Try.prog (.int .i64) x1) (h2 : Wf Try.prog (.int .i64) x2) : F7.fn N (x0, x1, x2) = some true := by
  obtain ⟨M, hM⟩ : ∃ M, N = M + 1 := ⟨N - 1, by omega⟩
  have hx : x0.length = 16 := h0.1
  have e : ∀ l : List Int, l.length ≤ 2 → F28.fn N l = some (bif l.any cls then 1 else 0) := fun l hl => F28.v hN l (by omega)
  have j : ∀ (r : Int × Int) (a : Int), F7.j0 N x0 x1 x2 r a = _ := fun r a => F7.j0_clean N x0 x1 x2 r a hM
  rw [F7.eq, F24.t hN]
  simp -implicitDefEqProofs only [Option.bind_some, Bool.not_true, cond_false, vl_self hx, F29.v hN hx, F26.v hN hx, j, F30.v hN, e [x1, x2] (by simp), e [x1] (by simp), List.any_cons, List.any_nil, Bool.or_false]
  unfold gapR
  rcases tabErr_val x0 with ht | ht | ht
  · cases ha : cls x1 with
    | true => simp -implicitDefEqProofs [ht, ha]
    | false =>
      cases hb : cls x2 with
      | true => simp -implicitDefEqProofs [ht, ha, hb]
      | false =>
        have ha' := cls_ok ha
        have hb' := cls_ok hb
        simp -implicitDefEqProofs [ht, ha, hb, ha', hb', gp, show x1.toNat * 4 + x2.toNat < 16 by omega]
  · simp -implicitDefEqProofs [ht]
  · simp -implicitDefEqProofs [ht]

theorem WakeGaps.pureN {N : Nat} (hN : 4611686018427387904 ≤ N) (x0 x1 : List Int) (h0 : Wf Try.prog (.vec 16 .i64) x0) (h1 : Wf Try.prog (.sl 3 (.int .i64)) x1) : F6.fn N (x0, x1) = some true := by
  obtain ⟨M, hM⟩ : ∃ M, N = M + 1 := ⟨N - 1, by omega⟩
  have hx : x0.length = 16 := h0.1
  have hl := wf_sl_len h1 (by decide +kernel)
  have hl2 : x1.length < 4611686018427387904 := by simp -implicitDefEqProofs [reachBytes] at hl; omega
  have j : ∀ (r : Int × Int) (a : Int), F6.j0 N x0 x1 r a = _ := fun r a => F6.j0_clean N x0 x1 r a hM
  rw [F6.clean, F24.t hN]
  simp -implicitDefEqProofs only [Option.bind_some, Bool.not_true, cond_false, vl_self hx, F25.v hN hx hl, F26.v hN hx, F27.v hN hx, beq_self_eq_true, j, F28.v hN x1 hl2]
  rcases tabErr_val x0 with ht | ht | ht
  · by_cases hb : (x1.length : Int) > 256
    · simp -implicitDefEqProofs [ht, hb]
    cases hc : x1.any cls with
    | true => simp -implicitDefEqProofs [ht, hb]
    | false =>
      simp -implicitDefEqProofs only [ht, hb, decide_false, Bool.and_false, cond_false, beq_self_eq_true, cond_true, Bool.not_true]
      have hcl : ∀ c, c ∈ x1 → cls c = false := fun c hc' => by
        rw [List.any_eq_false] at hc; simpa using hc c hc'
      -- the loop of the law
      have key : ∀ r2 : Int × Int, F6.l1 N x0 x1 r2 N 0 1 = some ((r2.2 == 0) && (r2.1 == leastG x0 x1)) := by
        intro r2
        cases hz : x1 with
        | nil => rw [hM, F6.l1_clean]; simp -implicitDefEqProofs [leastG]
        | cons p0 z0 =>
          rw [← hz]
          have := list_from (l := x1) (fun k (s : Int) i => F6.l1 N x0 x1 r2 k s i) (fun pre r s => some ((r2.2 == 0) && (r2.1 == s + leastFrom x0 pre.getLast? r))) (fun pre s => pre ≠ [] ∧ 0 ≤ s ∧ s ≤ 600 * pre.length)
            (fun k s hI => by
              rw [F6.l1_clean]
              simp -implicitDefEqProofs only [Int.lt_irrefl, decide_false, cond_false]
              cases h : x1.getLast? <;> simp -implicitDefEqProofs [leastFrom, leastG])
            (fun k pre c r s hl' hI ih => by
              obtain ⟨hI, h0, h6⟩ := hI
              have hlen : x1.length = pre.length + 1 + r.length := by rw [hl']; simp; omega
              obtain ⟨pre', p, rfl⟩ : ∃ pre' p, pre = pre' ++ [p] := by
                rcases List.eq_nil_or_concat pre with h | ⟨pre', p, h⟩
                · exact absurd h hI
                · exact ⟨pre', p, by rw [h, List.concat_eq_append]⟩
              have hc := hcl c (by rw [hl']; simp)
              have hp := hcl p (by rw [hl']; simp)
              have hcc := cls_ok hc
              have hpp := cls_ok hp
              have hg := gp_ok hx ht hp hc
              have hg' : x0.getD (p.toNat * 4 + c.toNat) 0 = gp x0 p c := rfl
              have hl3 : x1 = pre' ++ p :: (c :: r) := by rw [hl']; simp
              have hpl : ((pre' ++ [p]).length : Int) = pre'.length + 1 := by simp
              have b0 : decide (((pre' ++ [p]).length : Int) < x1.length) = true := by simp only [decide_eq_true_eq]; omega
              have b9 : decide (0 ≤ ((pre' ++ [p]).length : Int)) = true := by simp only [decide_eq_true_eq]; omega
              have b1 : decide ((pre'.length : Int) < x1.length) = true := by simp only [decide_eq_true_eq]; omega
              have b2 : decide (p.toNat * 4 + c.toNat < 16) = true := by simp only [decide_eq_true_eq]; omega
              have b4 : decide (0 ≤ (pre'.length : Int)) = true := by simp only [decide_eq_true_eq]; omega
              have b5 : decide (0 ≤ p) = true := by simp only [decide_eq_true_eq]; omega
              have b6 : decide (p < 4) = true := by simp only [decide_eq_true_eq]; omega
              have b7 : decide (0 ≤ c) = true := by simp only [decide_eq_true_eq]; omega
              have b8 : decide (c < 4) = true := by simp only [decide_eq_true_eq]; omega
              have ih := ih (s + gp x0 p c) ⟨by simp, by omega, by simp only [List.length_append, List.length_cons, List.length_nil] at h6 ⊢; omega⟩
              have g1 : ∀ d, x1.getD (pre' ++ [p]).length d = c := fun d => by rw [hl']; exact getD_mid _ c r d
              have g2 : ∀ d, x1.getD pre'.length d = p := fun d => by rw [hl3]; exact getD_mid _ p _ d
              have e2 : w (s + gp x0 p c) = s + gp x0 p c := w_small _ (by omega) (by omega)
              have e1 := w_prev pre' p (by omega)
              rw [F6.l1_clean, w_next hl' hl2, e1]
              simp -implicitDefEqProofs only [Int.toNat_natCast, g1, g2, vl_self hx, F29.v hN hx, Option.bind_some, gapR, ht, hp, hc, beq_self_eq_true, Bool.not_true, cond_false, Bool.or_true, Bool.not_false, Nat.zero_add, Nat.mul_one, hg', e2, b0, b1, b2, b4, b5, b6, b7, b8, b9, Bool.and_self, Bool.and_true, Bool.true_and, Bool.true_or, cond_true]
              rw [ih]
              simp [leastFrom, leastG, Int.add_assoc])
            z0 [p0] N 0 (by rw [hz]; rfl) ⟨by simp, Int.le_refl _, by simp⟩ (by rw [hz] at hl2; simp at hl2; omega)
          simp at this
          rw [this, hz]
          simp -implicitDefEqProofs [leastFrom]
      rw [key]; simp
  · simp -implicitDefEqProofs [ht]
  · simp -implicitDefEqProofs [ht]

theorem slice1 {α β : Type} {z pre : List α} {x : α} {r : List α} (f : α → β) (h : z = pre ++ x :: r) : List.drop pre.length (List.take (pre.length + 1) (z.map f)) = [f x] := by
  rw [h, List.map_append, List.map_cons, List.take_append, List.take_of_length_le (by simp), List.drop_append]
  simp
section
variable {N : Nat} (hN : 4611686018427387904 ≤ N) {x : List Int} {z : List (Int × Int)} (hx : x.length = 16) (ht : tabErr x = 0) (hz : ctErr z = 0) (hl : z.length < 4611686018427387904) (r2 : Bool × Int)
include hN hx ht hz hl
theorem F8.l4v (k10 : Nat) {pre : List (Int × Int)} {a : Int × Int} {r : List (Int × Int)} (h : z = pre ++ a :: r) (s : Bool) :
    F8.l4 N x (z.map (·.1)) (z.map (·.2)) r2 k10 pre.length N s ((pre.length : Int) + 1) = F8.l3 N x (z.map (·.1)) (z.map (·.2)) r2 k10 (s && r.all (fun b => decide (b.2 - a.2 ≥ gp x a.1 b.1))) ((pre.length : Int) + 1) := by
  have ha := ctErr_ok hz a (by rw [h]; simp)
  have haa := cls_ok ha.1
  have hlen : z.length = pre.length + 1 + r.length := by rw [h]; simp; omega
  have := list_from (l := z) (fun k (s : Bool) i => F8.l4 N x (z.map (·.1)) (z.map (·.2)) r2 k10 pre.length k s i) (fun _ r s => F8.l3 N x (z.map (·.1)) (z.map (·.2)) r2 k10 (s && r.all (fun b => decide (b.2 - a.2 ≥ gp x a.1 b.1))) ((pre.length : Int) + 1)) (fun _ _ => True)
    (fun k s _ => by rw [F8.l4_clean]; simp -implicitDefEqProofs [w_small ((pre.length : Int) + 1) (by omega) (by omega)])
    (fun k q c r' s hq _ ih => by
      have hc := ctErr_ok hz c (by rw [hq]; simp)
      have hcc := cls_ok hc.1
      have hg := gp_ok hx ht ha.1 hc.1
      have hg' : x.getD (a.1.toNat * 4 + c.1.toNat) 0 = gp x a.1 c.1 := rfl
      have hlq : z.length = q.length + 1 + r'.length := by rw [hq]; simp; omega
      have ih := ih (s && decide (c.2 - a.2 ≥ gp x a.1 c.1)) trivial
      rw [F8.l4_clean, vl_self hx, w_next hq hl]
      simp -implicitDefEqProofs only [Int.toNat_natCast, getD_map_mid _ hq, getD_map_mid _ h, List.length_map]
      rw [w_small (c.2 - a.2) (by omega) (by omega)]
      simp -implicitDefEqProofs only [Nat.zero_add, Nat.mul_one, hg']
      simp -implicitDefEqProofs [haa, hcc, show (q.length : Int) < z.length by omega, show (pre.length : Int) < z.length by omega, show a.1.toNat * 4 + c.1.toNat < 16 by omega]
      simp at ih
      rw [ih, Bool.and_assoc])
    r (pre ++ [a]) N s (by simp -implicitDefEqProofs [h]) trivial (by omega)
  simpa using this
theorem F8.l3v : F8.l3 N x (z.map (·.1)) (z.map (·.2)) r2 N true 0 = some ((r2.2 == 0) && (r2.1 == pairOk x z)) := by
  have := list_loop (l := z) (fun k (s : Bool) i => F8.l3 N x (z.map (·.1)) (z.map (·.2)) r2 k s i) (fun _ r s => some ((r2.2 == 0) && (r2.1 == (s && pairOk x r)))) (fun _ _ => True)
    (fun k s _ => by rw [F8.l3_clean]; simp -implicitDefEqProofs [pairOk])
    (fun k pre a r s h _ ih => by
      have hlen : z.length = pre.length + 1 + r.length := by rw [h]; simp; omega
      rw [F8.l3_clean, w_next h hl, F8.l4v hN hx ht hz hl r2 k h]
      simp -implicitDefEqProofs only [List.length_map, show decide ((pre.length : Int) < z.length) = true by simp; omega, cond_true]
      rw [ih _ trivial]
      simp -implicitDefEqProofs [pairOk, Bool.and_assoc]) N true trivial (by omega)
  simpa using this
end
theorem F8.l2v {N : Nat} (hN : 4611686018427387904 ≤ N) {x : List Int} {z : List (Int × Int)} (hl : z.length < 4611686018427387904) (r2 : Bool × Int) :
    F8.l2 N x (z.map (·.1)) (z.map (·.2)) r2 N 0 0 = bif !(ctErr z == 0) then some ((r2.2 == ctErr z) && (!r2.1)) else F8.l3 N x (z.map (·.1)) (z.map (·.2)) r2 N true 0 := by
  have := list_loop (l := z) (fun k (s : Int) i => F8.l2 N x (z.map (·.1)) (z.map (·.2)) r2 k s i) (fun _ r s => bif !(s == 0) then some ((r2.2 == s) && (!r2.1)) else bif !(ctErr r == 0) then some ((r2.2 == ctErr r) && (!r2.1)) else F8.l3 N x (z.map (·.1)) (z.map (·.2)) r2 N true 0) (fun _ _ => True)
    (fun k s _ => by rw [F8.l2_clean]; simp -implicitDefEqProofs [ctErr])
    (fun k pre c r s h _ ih => by
      have hlen : z.length = pre.length + 1 + r.length := by rw [h]; simp; omega
      rw [F8.l2_clean]
      by_cases hs : s = 0
      · subst hs
        rw [w_next h hl]
        simp -implicitDefEqProofs only [Int.toNat_natCast, show Int.toNat ((pre.length : Int) + 1) = pre.length + 1 by omega, getD_map_mid _ h, slice1 _ h, List.length_map, F28.v hN [c.1] (by simp), List.any_cons, List.any_nil, Bool.or_false, Option.bind_some]
        simp -implicitDefEqProofs only [show decide ((pre.length : Int) < z.length) = true by simp; omega, show decide (0 ≤ (pre.length : Int)) = true by simp, show decide ((pre.length : Int) ≤ (pre.length : Int) + 1) = true by simp; omega, show decide ((pre.length : Int) + 1 ≤ z.length) = true by simp; omega,
          Bool.true_and, Bool.true_or, cond_true, beq_self_eq_true, ih _ trivial]
        cases hc : cls c.1 with
        | true => simp -implicitDefEqProofs [ctErr, hc]
        | false =>
          cases ht : (decide (c.2 < 0) || decide (c.2 > 200000)) with
          | true => simp -implicitDefEqProofs [ctErr, hc, ht]
          | false => simp -implicitDefEqProofs [ctErr, hc, ht]
      · have hs' : (s == 0) = false := by simpa using hs
        simp -implicitDefEqProofs [hs']) N 0 trivial (by omega)
  simpa using this

theorem WakeValids.pureN {N : Nat} (hN : 4611686018427387904 ≤ N) (x0 x1 x2 : List Int) (h0 : Wf Try.prog (.vec 16 .i64) x0) (h1 : Wf Try.prog (.sl 3 (.int .i64)) x1) (h2 : Wf Try.prog (.sl 3 (.int .i64)) x2) : F8.fn N (x0, x1, x2) = some true := by
  obtain ⟨M, hM⟩ : ∃ M, N = M + 1 := ⟨N - 1, by omega⟩
  have hx : x0.length = 16 := h0.1
  have hl := wf_sl_len h1 (by decide +kernel)
  have hl2 : x1.length < 4611686018427387904 := by simp -implicitDefEqProofs [reachBytes] at hl; omega
  have j : ∀ (r : Bool × Int) (a : Int), F8.j0 N x0 x1 x2 r a = _ := fun r a => F8.j0_clean N x0 x1 x2 r a hM
  have stop : ∀ (r : Bool × Int) (a : Int), ¬ a = 0 → F8.l2 N x0 x1 x2 r N a 0 = some ((r.2 == a) && (!r.1)) := fun r a ha => by rw [hM, F8.l2_clean]; simp -implicitDefEqProofs [show (a == 0) = false by simpa using ha]
  rw [F8.clean, F24.t hN]
  simp -implicitDefEqProofs only [Option.bind_some, Bool.not_true, cond_false, vl_self hx, F26.v hN hx, j]
  by_cases ht : tabErr x0 = 0
  · by_cases hb : (x1.length : Int) > 256 ∨ (x2.length : Int) > 256
    · have hr : F31.fn N (x0, x1, x2) = some (false, 2) := by
        rw [F31.clean]; simp -implicitDefEqProofs only [vl_self hx, F27.v hN hx, Option.bind_some]
        rcases hb with hb | hb <;> simp -implicitDefEqProofs [ht, hb]
      rw [hr]
      simp -implicitDefEqProofs only [Option.bind_some]
      rcases hb with hb | hb <;> simp -implicitDefEqProofs [ht, hb, stop]
    have hb1 : ¬ (x1.length : Int) > 256 := fun h => hb (.inl h)
    have hb2 : ¬ (x2.length : Int) > 256 := fun h => hb (.inr h)
    by_cases he : x1.length = x2.length
    · obtain ⟨z, rfl, rfl⟩ : ∃ z : List (Int × Int), x1 = z.map (·.1) ∧ x2 = z.map (·.2) :=
        ⟨x1.zip x2, (List.map_fst_zip (by omega)).symm, (List.map_snd_zip (by omega)).symm⟩
      rw [List.length_map] at *
      rw [F31.v hN hx hl2]
      simp -implicitDefEqProofs only [Option.bind_some, hb1, decide_false, Bool.or_self, Bool.and_false, cond_false, beq_self_eq_true, Bool.not_true, ht]
      simp -implicitDefEqProofs only [List.length_map, beq_self_eq_true, Bool.not_true, Bool.and_false, cond_false] 
      rw [F8.l2v hN hl2]
      unfold validR
      by_cases hc : ctErr z = 0
      · have hok := fun p hp => (ctErr_ok hc p hp).1
        rw [F8.l3v hN hx ht hc hl2]
        simp -implicitDefEqProofs [ht, hb1, hc, adj_pair ht z hok]
      · simp -implicitDefEqProofs [ht, hb1, show (ctErr z == 0) = false by simpa using hc]
    · have hr : F31.fn N (x0, x1, x2) = some (false, 3) := by
        rw [F31.clean]; simp -implicitDefEqProofs only [vl_self hx, F27.v hN hx, Option.bind_some]
        simp -implicitDefEqProofs [ht, hb1, hb2, show ((x1.length : Int) == x2.length) = false by simp; omega]
      rw [hr]
      have l1 : ∀ r : Bool × Int, F8.l1 N x0 x1 x2 r N = some ((r.2 == 3) && (!r.1)) := fun r => by rw [hM, F8.l1_clean]
      simp -implicitDefEqProofs [ht, hb1, hb2, show ((x1.length : Int) == x2.length) = false by simp; omega, l1]
  · have hr : F31.fn N (x0, x1, x2) = some (false, tabErr x0) := by
      rw [F31.clean]; simp -implicitDefEqProofs only [vl_self hx, F27.v hN hx, Option.bind_some]
      simp -implicitDefEqProofs [show (tabErr x0 == 0) = false by simpa using ht]
    rw [hr]
    simp -implicitDefEqProofs [show (tabErr x0 == 0) = false by simpa using ht, stop _ _ ht]
theorem WakeClasses.pure (x0 : List Int) (x1 x2 : Int) (h0 : Wf Try.prog (.vec 16 .i64) x0) (h1 : Wf Try.prog (.int .i64) x1) (h2 : Wf Try.prog (.int .i64) x2) : F7.fn NN (x0, x1, x2) = some true := WakeClasses.pureN NN_big x0 x1 x2 h0 h1 h2
theorem WakeGaps.pure (x0 x1 : List Int) (h0 : Wf Try.prog (.vec 16 .i64) x0) (h1 : Wf Try.prog (.sl 3 (.int .i64)) x1) : F6.fn NN (x0, x1) = some true := WakeGaps.pureN NN_big x0 x1 h0 h1
theorem WakeValids.pure (x0 x1 x2 : List Int) (h0 : Wf Try.prog (.vec 16 .i64) x0) (h1 : Wf Try.prog (.sl 3 (.int .i64)) x1) (h2 : Wf Try.prog (.sl 3 (.int .i64)) x2) : F8.fn NN (x0, x1, x2) = some true := WakeValids.pureN NN_big x0 x1 x2 h0 h1 h2
end Go.Proofs.Ytalaepaomnfgjaa.Sk
