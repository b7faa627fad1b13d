/- The laws RunwayChecks, RunwaySafes, RunwayInserts, RunwayChanges, plain: what the printed functions answer. -/
import Derived.Test.YtmaeakelhjmfeaaRunwayEq
set_option linter.unusedVariables false
set_option linter.unusedSimpArgs false
set_option linter.unusedSectionVars false
set_option maxRecDepth 100000
namespace Go.Proofs.Ytmaeakelhjmfeaa.Sk
open Go

theorem bif_some {α : Type} (b : Bool) (x y : α) : (bif b then some x else some y) = some (bif b then x else y) := by cases b <;> rfl
def entBad (v : Int) : Bool := decide (v < 30) || decide (v > 600)
def tri (x : List Int) (a b c : Nat) : Bool := decide (x.getD (a * 4 + c) 0 > x.getD (a * 4 + b) 0 + x.getD (b * 4 + c) 0)
def tabErr (x : List Int) : Int :=
  bif (List.range 16).any (fun i => entBad (x.getD i 0)) then 4 else bif (List.range 4).any (fun a => (List.range 4).any fun b => (List.range 4).any fun c => tri x a b c) then 3 else 0
def cls (c : Int) : Bool := decide (c < 0) || decide (c > 3)
def gp (x : List Int) (a b : Int) : Int := x.getD (a.toNat * 4 + b.toNat) 0

theorem ents {x : List Int} (h : (List.range 16).any (fun i => entBad (x.getD i 0)) = false) : ∀ i, i < 16 → 30 ≤ x.getD i 0 ∧ x.getD i 0 ≤ 600 := by
  intro i hi
  rw [List.any_eq_false] at h
  have := h i (List.mem_range.2 hi)
  simp -implicitDefEqProofs only [entBad, Bool.or_eq_true, decide_eq_true_eq, not_or] at this
  omega
theorem tabErr_ents {x : List Int} (h : tabErr x = 0) : ∀ i, i < 16 → 30 ≤ x.getD i 0 ∧ x.getD i 0 ≤ 600 := by
  unfold tabErr at h
  cases hb : (List.range 16).any (fun i => entBad (x.getD i 0)) with
  | true => rw [hb] at h; cases h
  | false => exact ents hb
theorem tabErr_tri {x : List Int} (h : tabErr x = 0) : ∀ a b c, a < 4 → b < 4 → c < 4 → x.getD (a * 4 + c) 0 ≤ x.getD (a * 4 + b) 0 + x.getD (b * 4 + c) 0 := by
  intro a b c ha hb hc
  unfold tabErr at h
  cases h1 : (List.range 16).any (fun i => entBad (x.getD i 0)) with
  | true => rw [h1] at h; cases h
  | false =>
    rw [h1] at h
    cases h2 : (List.range 4).any (fun a => (List.range 4).any fun b => (List.range 4).any fun c => tri x a b c) with
    | true => rw [h2] at h; cases h
    | false =>
      rw [List.any_eq_false] at h2
      have h3 := h2 a (List.mem_range.2 ha)
      rw [Bool.not_eq_true, List.any_eq_false] at h3
      have h4 := h3 b (List.mem_range.2 hb)
      rw [Bool.not_eq_true, List.any_eq_false] at h4
      have h5 := h4 c (List.mem_range.2 hc)
      simp -implicitDefEqProofs only [tri, decide_eq_true_eq] at h5
      omega

section
variable {N : Nat} (hN : 4611686018427387904 ≤ N) {x : List Int} (hx : x.length = 16)
include hN hx

theorem l4v (hg : ∀ i, i < 16 → 30 ≤ x.getD i 0 ∧ x.getD i 0 ≤ 600) (k5 k7 a b : Nat) (ha : a < 4) (hb : b < 4) :
    wake_Check.l4 N x k5 a k7 b N 0 = bif (List.range 4).any (tri x a b) then some 3 else wake_Check.l3 N x k5 a k7 ((b : Int) + 1) := by
  refine scan_loop (n := 4) (tri x a b) (some 3) _ (fun k i => wake_Check.l4 N x k5 a k7 b k i) (fun k => ?_) (fun k c hc => ?_) N (by omega)
  · rw [wake_Check.l4_succ]; simp -implicitDefEqProofs [w_small ((b : Int) + 1) (by omega) (by omega)]
  · have h1 := hg (a * 4 + b) (by omega)
    have h2 := hg (b * 4 + c) (by omega)
    rw [wake_Check.l4_succ, vl_self hx, w_small ((c : Int) + 1) (by omega) (by omega)]
    simp -implicitDefEqProofs only [Int.toNat_natCast, Nat.zero_add, Nat.mul_one, w_small (x.getD (a * 4 + b) 0 + x.getD (b * 4 + c) 0) (by omega) (by omega), show decide ((a : Int) < 4) = true by simp; omega, show decide ((b : Int) < 4) = true by simp; omega, show decide ((c : Int) < 4) = true by simp; omega, show decide (0 ≤ (a : Int)) = true by simp,
      show decide (0 ≤ (b : Int)) = true by simp, show decide (0 ≤ (c : Int)) = true by simp, show decide (a * 4 + b < 16) = true by simp; omega, show decide (b * 4 + c < 16) = true by simp; omega, show decide (a * 4 + c < 16) = true by simp; omega, Bool.and_self, cond_true, tri]
theorem l3v (hg : ∀ i, i < 16 → 30 ≤ x.getD i 0 ∧ x.getD i 0 ≤ 600) (k5 a : Nat) (ha : a < 4) :
    wake_Check.l3 N x k5 a N 0 = bif (List.range 4).any (fun b => (List.range 4).any (tri x a b)) then some 3 else wake_Check.l2 N x k5 ((a : Int) + 1) := by
  refine scan_loop (n := 4) (fun b => (List.range 4).any (tri x a b)) (some 3) _ (fun k i => wake_Check.l3 N x k5 a k i) (fun k => ?_) (fun k b hb => ?_) N (by omega)
  · rw [wake_Check.l3_succ]; simp -implicitDefEqProofs [w_small ((a : Int) + 1) (by omega) (by omega)]
  · rw [wake_Check.l3_succ]
    simp -implicitDefEqProofs only [show decide ((b : Int) < 4) = true by simp; omega, cond_true]
    exact l4v hN hx hg k5 k a b ha hb
theorem l2v (hg : ∀ i, i < 16 → 30 ≤ x.getD i 0 ∧ x.getD i 0 ≤ 600) :
    wake_Check.l2 N x N 0 = bif (List.range 4).any (fun a => (List.range 4).any (fun b => (List.range 4).any (tri x a b))) then some 3 else some 0 := by
  refine scan_loop (n := 4) _ (some 3) _ (fun k i => wake_Check.l2 N x k i) (fun k => ?_) (fun k a ha => ?_) N (by omega)
  · rw [wake_Check.l2_succ]; simp
  · rw [wake_Check.l2_succ]
    simp -implicitDefEqProofs only [show decide ((a : Int) < 4) = true by simp; omega, cond_true]
    exact l3v hN hx hg k a ha
theorem l1v (k1 a : Nat) (ha : a < 4) : wake_Check.l1 N x k1 a N 0 = bif (List.range 4).any (fun b => entBad (x.getD (a * 4 + b) 0)) then some 4 else wake_Check.l0 N x k1 ((a : Int) + 1) := by
  refine scan_loop (n := 4) _ (some 4) _ (fun k i => wake_Check.l1 N x k1 a k i) (fun k => ?_) (fun k b hb => ?_) N (by omega)
  · rw [wake_Check.l1_succ]; simp -implicitDefEqProofs [w_small ((a : Int) + 1) (by omega) (by omega)]
  · rw [wake_Check.l1_clean, vl_self hx]
    have hb' : b = 0 ∨ b = 1 ∨ b = 2 ∨ b = 3 := by omega
    rcases hb' with rfl | rfl | rfl | rfl <;> simp -implicitDefEqProofs [entBad, List.getD, w_small] <;> rfl
theorem l0v : wake_Check.l0 N x N 0 = bif (List.range 4).any (fun a => (List.range 4).any (fun b => entBad (x.getD (a * 4 + b) 0))) then some 4 else wake_Check.l2 N x N 0 := by
  refine scan_loop (n := 4) _ (some 4) _ (fun k i => wake_Check.l0 N x k i) (fun k => ?_) (fun k a ha => ?_) N (by omega)
  · rw [wake_Check.l0_succ]; simp
  · rw [wake_Check.l0_succ]
    simp -implicitDefEqProofs only [show decide ((a : Int) < 4) = true by simp; omega, show decide (0 ≤ (a : Int)) = true by simp, Int.toNat_natCast, show decide (a * 4 + 4 ≤ 16) = true by simp; omega, cond_true, Bool.true_and]
    exact l1v hN hx k a ha
theorem any16 (p : Nat → Bool) : ((List.range 4).any fun a => (List.range 4).any fun b => p (a * 4 + b)) = (List.range 16).any p := by
  simp -implicitDefEqProofs [List.range, List.range.loop, Bool.or_assoc]
theorem wake_Check.v : wake_Check.fn N x = some (tabErr x) := by
  rw [wake_Check.eq, l0v hN hx, any16 hN hx fun i => entBad (x.getD i 0)]
  unfold tabErr
  cases h : (List.range 16).any (fun i => entBad (x.getD i 0)) with
  | true => rfl
  | false =>
    rw [cond_false, cond_false, l2v hN hx (ents h)]
    cases (List.range 4).any (fun a => (List.range 4).any (fun b => (List.range 4).any (tri x a b))) <;> rfl

theorem r1v (hg : ∀ i, i < 16 → 30 ≤ x.getD i 0 ∧ x.getD i 0 ≤ 600) : ref_TableError.l1 N x N 0 = bif (List.range 64).any (fun i => tri x (i / 16) (i / 4 % 4) (i % 4)) then some 3 else some 0 := by
  refine scan_loop (n := 64) _ (some 3) _ (fun k i => ref_TableError.l1 N x k i) (fun k => ?_) (fun k i hi => ?_) N (by omega)
  · rw [ref_TableError.l1_succ]; simp
  · have e1 : w (Int.tdiv (i : Int) 16) = ((i / 16 : Nat) : Int) := by rw [w_small] <;> (simp -implicitDefEqProofs only [Int.tdiv_eq_ediv_of_nonneg (Int.natCast_nonneg i)]; omega)
    have e2 : w (Int.tdiv (i : Int) 4) = ((i / 4 : Nat) : Int) := by rw [w_small] <;> (simp -implicitDefEqProofs only [Int.tdiv_eq_ediv_of_nonneg (Int.natCast_nonneg i)]; omega)
    have e3 : Int.tmod ((i / 4 : Nat) : Int) 4 = ((i / 4 % 4 : Nat) : Int) := by rw [Int.tmod_eq_emod_of_nonneg (Int.natCast_nonneg _)]; omega
    have e4 : Int.tmod (i : Int) 4 = ((i % 4 : Nat) : Int) := by rw [Int.tmod_eq_emod_of_nonneg (Int.natCast_nonneg _)]; omega
    rw [ref_TableError.l1_succ, vl_self hx, e1, e2, e3, e4]
    generalize ha : i / 16 = a
    generalize hb : i / 4 % 4 = b
    generalize hc : i % 4 = c
    have ha4 : a < 4 := by omega
    have hb4 : b < 4 := by omega
    have hc4 : c < 4 := by omega
    have h1 := hg (a * 4 + b) (by omega)
    have h2 := hg (b * 4 + c) (by omega)
    rw [w_small ((i : Int) + 1) (by omega) (by omega)]
    simp -implicitDefEqProofs only [Int.toNat_natCast, Nat.zero_add, Nat.mul_one, w_small (x.getD (a * 4 + b) 0 + x.getD (b * 4 + c) 0) (by omega) (by omega), show decide ((i : Int) < 64) = true by simp; omega, show decide ((a : Int) < 4) = true by simp; omega, show decide ((b : Int) < 4) = true by simp; omega, show decide ((c : Int) < 4) = true by simp; omega, show decide (0 ≤ (a : Int)) = true by simp,
      show decide (0 ≤ (b : Int)) = true by simp, show decide (0 ≤ (c : Int)) = true by simp, show decide (a * 4 + b < 16) = true by simp; omega, show decide (b * 4 + c < 16) = true by simp; omega, show decide (a * 4 + c < 16) = true by simp; omega, Bool.and_self, cond_true, tri]
theorem r0v : ref_TableError.l0 N x N 0 = bif (List.range 16).any (fun i => entBad (x.getD i 0)) then some 4 else ref_TableError.l1 N x N 0 := by
  refine scan_loop (n := 16) _ (some 4) _ (fun k i => ref_TableError.l0 N x k i) (fun k => ?_) (fun k i hi => ?_) N (by omega)
  · rw [ref_TableError.l0_succ]; simp
  · have e2 : w (Int.tdiv (i : Int) 4) = ((i / 4 : Nat) : Int) := by rw [w_small] <;> (simp -implicitDefEqProofs only [Int.tdiv_eq_ediv_of_nonneg (Int.natCast_nonneg i)]; omega)
    have e4 : Int.tmod (i : Int) 4 = ((i % 4 : Nat) : Int) := by rw [Int.tmod_eq_emod_of_nonneg (Int.natCast_nonneg _)]; omega
    rw [ref_TableError.l0_clean, vl_self hx, e2, e4]
    have e5 : i / 4 * 4 + i % 4 = i := by omega
    have ha : i / 4 < 4 := by omega
    have hb : i % 4 < 4 := by omega
    clear e2 e4
    revert e5 ha hb
    generalize i / 4 = a
    generalize i % 4 = b
    intro e5 ha hb
    rw [w_small ((i : Int) + 1) (by omega) (by omega)]
    simp -implicitDefEqProofs only [Int.toNat_natCast, Nat.zero_add, Nat.mul_one, e5, show decide ((i : Int) < 16) = true by simp; omega, show decide (i < 16) = true by simp; omega, show decide ((a : Int) < 4) = true by simp; omega, show decide ((b : Int) < 4) = true by simp; omega,
      show decide (0 ≤ (a : Int)) = true by simp, show decide (0 ≤ (b : Int)) = true by simp, Bool.and_self, Bool.true_or, cond_true, entBad]
theorem any64 (p : Nat → Nat → Nat → Bool) : ((List.range 64).any fun i => p (i / 16) (i / 4 % 4) (i % 4)) = ((List.range 4).any fun a => (List.range 4).any fun b => (List.range 4).any fun c => p a b c) := by
  simp -implicitDefEqProofs [List.range, List.range.loop, Bool.or_assoc]
theorem ref_TableError.v : ref_TableError.fn N x = some (tabErr x) := by
  rw [ref_TableError.eq, r0v hN hx]
  unfold tabErr
  cases h : (List.range 16).any (fun i => entBad (x.getD i 0)) with
  | true => rfl
  | false =>
    rw [cond_false, cond_false, r1v hN hx (ents h), any64 hN hx (tri x)]
    cases (List.range 4).any (fun a => (List.range 4).any (fun b => (List.range 4).any (tri x a b))) <;> rfl
end

theorem wake_Class.v {N : Nat} (hN : 4611686018427387904 ≤ N) (c : Int) : wake_Class.fn N c = some (bif cls c then 1 else 0) := by
  rw [wake_Class.clean]; unfold cls; cases (decide (c < 0) || decide (c > 3)) <;> rfl
theorem cls_ok {c : Int} (h : cls c = false) : 0 ≤ c ∧ c < 4 := by
  simp -implicitDefEqProofs only [cls, Bool.or_eq_false_iff, decide_eq_false_iff_not] at h; omega


theorem gp_ok {x : List Int} {a b : Int} (hx : x.length = 16) (ht : tabErr x = 0) (ha : cls a = false) (hb : cls b = false) : 30 ≤ gp x a b ∧ gp x a b ≤ 600 := by
  have h1 := cls_ok ha
  have h2 := cls_ok hb
  exact tabErr_ents ht _ (by omega)

/-! ### movements and directions -/
abbrev Mv := Int × Int × Bool × Int
abbrev Sp := Int × Int
def mvBad (x : Mv) : Bool := (decide (x.2.1 < 0) || decide (x.2.1 > 3)) || (!(x.2.2.2 == 0) && !(x.2.2.2 == 1))
def mvL : Int → List Mv → Int
  | _, [] => 0
  | a, x :: r => bif decide (x.1 < a) || decide (x.1 > 200000) then 12 else bif mvBad x then 1 else mvL x.1 r
theorem mvL_cons (a : Int) (x : Mv) (r : List Mv) : mvL a (x :: r) = bif decide (x.1 < a) || decide (x.1 > 200000) then 12 else bif mvBad x then 1 else mvL x.1 r := rfl
def movesErr (l : List Mv) : Int := bif decide ((l.length : Int) > 24) then 2 else mvL 0 l
def lastT (p : List Mv) : Int := (p.getLast?.map (·.1)).getD 0
theorem lastT_snoc (p : List Mv) (x : Mv) : lastT (p ++ [x]) = x.1 := by simp [lastT]
def gapOk (p : Option Sp) (t : Int) : Bool := match p with | none => false | some q => decide (t < q.1 + 360)
def sameEnd (p : Option Sp) (e : Int) : Bool := match p with | none => false | some q => e == q.2
def spL : Option Sp → List Sp → Int
  | _, [] => 0
  | p, x :: r => bif decide (x.2 < 0) || decide (x.2 > 1) then 1 else bif (decide (x.1 < 0) || decide (x.1 > 200000)) || gapOk p x.1 then 12 else bif sameEnd p x.2 then 11 else spL (some x) r
theorem spL_cons (p : Option Sp) (x : Sp) (r : List Sp) : spL p (x :: r) = bif decide (x.2 < 0) || decide (x.2 > 1) then 1 else bif (decide (x.1 < 0) || decide (x.1 > 200000)) || gapOk p x.1 then 12 else bif sameEnd p x.2 then 11 else spL (some x) r := rfl
def spansErr (l : List Sp) : Int := bif decide ((l.length : Int) > 24) then 2 else bif (l.length : Int) == 0 then 8 else spL none l
theorem end01 (e : Int) : (!(e == 0) && !(e == 1)) = (decide (e < 0) || decide (e > 1)) := by
  rw [Bool.eq_iff_iff]; simp; omega
def spOk (s : Sp) : Prop := 0 ≤ s.1 ∧ s.1 ≤ 200000 ∧ 0 ≤ s.2 ∧ s.2 ≤ 1
theorem spL_ok : ∀ {l : List Sp} {p : Option Sp}, spL p l = 0 → (∀ s ∈ l, spOk s) ∧ (∀ q, p = some q → ∀ s ∈ l, q.1 + 360 ≤ s.1) ∧ l.Pairwise fun a b => a.1 + 360 ≤ b.1
  | [], p, _ => ⟨fun _ h => (by cases h), fun _ _ _ h => (by cases h), .nil⟩
  | x :: r, p, h => by
    rw [spL_cons] at h
    cases h1 : (decide (x.2 < 0) || decide (x.2 > 1)) with
    | true => rw [h1] at h; cases h
    | false =>
      cases h2 : (decide (x.1 < 0) || decide (x.1 > 200000)) || gapOk p x.1 with
      | true => rw [h1, h2] at h; cases h
      | false =>
        cases h3 : sameEnd p x.2 with
        | true => rw [h1, h2, h3] at h; cases h
        | false =>
          rw [h1, h2, h3] at h
          have h : spL (some x) r = 0 := h
          obtain ⟨k1, k2, k3⟩ := spL_ok h
          simp only [Bool.or_eq_false_iff, decide_eq_false_iff_not] at h1 h2
          have hx : spOk x := ⟨by omega, by omega, by omega, by omega⟩
          have hq : ∀ q, p = some q → q.1 + 360 ≤ x.1 := by
            rintro q rfl
            have := h2.2
            simp only [gapOk, decide_eq_false_iff_not] at this
            omega
          refine ⟨List.forall_mem_cons.2 ⟨hx, k1⟩, fun q hp => List.forall_mem_cons.2 ⟨hq q hp, fun s hs => ?_⟩, .cons (fun s hs => k2 x rfl s hs) k3⟩
          have := k2 x rfl s hs
          have := hq q hp
          omega
theorem spansErr_ok {l : List Sp} (h : spansErr l = 0) : l.length ≤ 24 ∧ l ≠ [] ∧ (∀ s ∈ l, spOk s) ∧ l.Pairwise fun a b => a.1 + 360 ≤ b.1 := by
  unfold spansErr at h
  by_cases h1 : (l.length : Int) > 24
  · simp [h1] at h
  · cases h2 : ((l.length : Int) == 0) with
    | true => simp [h1, h2] at h
    | false =>
      simp only [h1, h2, decide_false, cond_false] at h
      obtain ⟨k1, _, k3⟩ := spL_ok h
      refine ⟨by omega, ?_, k1, k3⟩
      intro e; subst e; simp at h2
theorem mvL_ok : ∀ {l : List Mv} {a : Int}, 0 ≤ a → mvL a l = 0 → ∀ m ∈ l, 0 ≤ m.1 ∧ m.1 ≤ 200000 ∧ cls m.2.1 = false ∧ (m.2.2.2 = 0 ∨ m.2.2.2 = 1)
  | [], _, _, _ => fun _ h => (by cases h)
  | x :: r, a, ha, h => by
    rw [mvL_cons] at h
    cases h1 : (decide (x.1 < a) || decide (x.1 > 200000)) with
    | true => rw [h1] at h; cases h
    | false =>
      cases h2 : mvBad x with
      | true => rw [h1, h2] at h; cases h
      | false =>
        rw [h1, h2] at h
        have h : mvL x.1 r = 0 := h
        simp only [Bool.or_eq_false_iff, decide_eq_false_iff_not] at h1
        refine List.forall_mem_cons.2 ⟨⟨by omega, by omega, ?_⟩, mvL_ok (by omega) h⟩
        unfold mvBad at h2
        rw [Bool.or_eq_false_iff] at h2
        refine ⟨h2.1, ?_⟩
        have h3 := h2.2
        rw [end01] at h3
        simp only [Bool.or_eq_false_iff, decide_eq_false_iff_not] at h3
        omega
theorem movesErr_ok {l : List Mv} (h : movesErr l = 0) : l.length ≤ 24 ∧ ∀ m ∈ l, 0 ≤ m.1 ∧ m.1 ≤ 200000 ∧ cls m.2.1 = false ∧ (m.2.2.2 = 0 ∨ m.2.2.2 = 1) := by
  unfold movesErr at h
  by_cases h1 : (l.length : Int) > 24
  · simp [h1] at h
  · simp only [h1, decide_false, cond_false] at h
    exact ⟨by omega, mvL_ok (by omega) h⟩

section
variable {N : Nat} (hN : 4611686018427387904 ≤ N)
include hN
theorem runway_Check.v (l : List Mv) (hl : l.length < 4611686018427387904) : runway_Check.fn N l = some (movesErr l) := by
  rw [runway_Check.eq]
  unfold movesErr
  by_cases h : (l.length : Int) > 24
  · simp [h]
  simp only [h, decide_false, cond_false]
  refine list_loop (l := l) (σ := Unit) (fun k _ i => runway_Check.l0 N l k i) (fun pre r _ => some (mvL (lastT pre) r)) (fun pre _ => 0 ≤ lastT pre)
    (fun k _ _ => runway_Check.l0_nil N l k) (fun k pre x r _ hl' hI ih => ?_) N () (by decide) (by omega)
  show runway_Check.l0 N l (k + 1) (pre.length : Int) = _
  rw [runway_Check.l0_cons N l k hl' hl, mvL_cons]
  have key : ((decide (0 ≤ (w ((pre.length : Int) - 1))) && decide ((w ((pre.length : Int) - 1)) < (l.length : Int))) || !((!((decide ((x.1) < 0)) || (decide ((x.1) > 200000)))) && (decide ((pre.length : Int) > 0)))) = true ∧
      (((decide ((x.1) < 0)) || (decide ((x.1) > 200000))) || ((decide ((pre.length : Int) > 0)) && (decide ((x.1) < ((List.getD l (Int.toNat (w ((pre.length : Int) - 1))) (0, (0, (false, 0)))).1))))) = (decide (x.1 < lastT pre) || decide (x.1 > 200000)) := by
    rcases List.eq_nil_or_concat pre with rfl | ⟨p, y, rfl⟩
    · refine ⟨by simp, ?_⟩
      rw [show lastT [] = 0 from rfl]
      simp
    · have hlen : l.length = p.length + 2 + r.length := by rw [hl']; simp; omega
      have hw : w ((((p.concat y).length : Nat) : Int) - 1) = (p.length : Int) := by rw [show ((((p.concat y).length : Nat) : Int) - 1) = p.length by simp]; exact w_small _ (by omega) (by omega)
      have hg : List.getD l (Int.toNat (p.length : Int)) (0, (0, (false, 0))) = y := by
        rw [hl', Int.toNat_natCast, List.concat_eq_append, List.append_assoc]; exact getD_mid p y _ _
      rw [hw, hg]
      rw [List.concat_eq_append, lastT_snoc] at hI
      rw [List.concat_eq_append, lastT_snoc]
      refine ⟨by simp [hlen]; omega, ?_⟩
      rw [Bool.eq_iff_iff]
      simp
      omega
  rw [key.1, key.2, wake_Class.v hN]
  simp only [cond_true, Option.bind_some]
  cases h1 : (decide (x.1 < lastT pre) || decide (x.1 > 200000)) with
  | true => rfl
  | false =>
    simp only [cond_false]
    rw [← end01]
    unfold mvBad
    rw [show (decide (x.2.1 < 0) || decide (x.2.1 > 3)) = cls x.2.1 from rfl]
    simp only [Bool.or_eq_false_iff, decide_eq_false_iff_not] at h1
    have ih := ih () (by rw [lastT_snoc]; omega)
    rw [lastT_snoc] at ih
    cases cls x.2.1 with
    | true => rfl
    | false =>
      cases (!(x.2.2.2 == 0) && !(x.2.2.2 == 1)) with
      | true => rfl
      | false => exact ih
theorem ref_MovesError.v (l : List Mv) (hl : l.length < 4611686018427387904) : ref_MovesError.fn N l = some (movesErr l) := by
  rw [ref_MovesError.eq]
  unfold movesErr
  by_cases h : (l.length : Int) > 24
  · simp [h]
  simp only [h, decide_false, cond_false]
  refine list_loop (l := l) (fun k s i => ref_MovesError.l0 N l k s i) (fun _ r s => some (mvL s r)) (fun _ _ => True)
    (fun k s _ => ref_MovesError.l0_nil N l k s) (fun k pre x r s hl' _ ih => ?_) N 0 trivial (by omega)
  show ref_MovesError.l0 N l (k + 1) s (pre.length : Int) = _
  have ih : ref_MovesError.l0 N l k x.1 ((pre.length : Int) + 1) = some (mvL x.1 r) := ih _ trivial
  rw [ref_MovesError.l0_cons N l k s hl' hl, ih, mvL_cons]
  simp only [bif_some, mvBad]
theorem runway_Spans.v (l : List Sp) (hl : l.length < 4611686018427387904) : runway_Spans.fn N l = some (spansErr l) := by
  rw [runway_Spans.eq]
  unfold spansErr
  by_cases h : (l.length : Int) > 24
  · simp [h]
  cases h0 : ((l.length : Int) == 0) with
  | true => simp [h]
  | false =>
  simp only [h, decide_false, cond_false]
  refine list_loop (l := l) (σ := Unit) (fun k _ i => runway_Spans.l0 N l k i) (fun pre r _ => some (spL pre.getLast? r)) (fun pre _ => ∀ q, pre.getLast? = some q → 0 ≤ q.1 ∧ q.1 ≤ 200000)
    (fun k _ _ => runway_Spans.l0_nil N l k) (fun k pre x r _ hl' hI ih => ?_) N () (by simp) (by omega)
  show runway_Spans.l0 N l (k + 1) (pre.length : Int) = _
  rw [runway_Spans.l0_cons N l k hl' hl, spL_cons]
  have key : ((decide (0 ≤ (w ((pre.length : Int) - 1))) && decide ((w ((pre.length : Int) - 1)) < (l.length : Int))) || !((!((decide ((x.1) < 0)) || (decide ((x.1) > 200000)))) && (decide ((pre.length : Int) > 0)))) = true ∧
      ((decide (0 ≤ (w ((pre.length : Int) - 1))) && decide ((w ((pre.length : Int) - 1)) < (l.length : Int))) || !(decide ((pre.length : Int) > 0))) = true ∧
      (decide ((pre.length : Int) > 0) && (decide ((x.1) < (w (((List.getD l (Int.toNat (w ((pre.length : Int) - 1))) (0, 0)).1) + 360))))) = gapOk pre.getLast? x.1 ∧
      (decide ((pre.length : Int) > 0) && (x.2 == ((List.getD l (Int.toNat (w ((pre.length : Int) - 1))) (0, 0)).2))) = sameEnd pre.getLast? x.2 := by
    rcases List.eq_nil_or_concat pre with rfl | ⟨p, y, rfl⟩
    · exact ⟨by simp, by simp, by simp [gapOk], by simp [sameEnd]⟩
    · have hlen : l.length = p.length + 2 + r.length := by rw [hl']; simp; omega
      have hw : w ((((p.concat y).length : Nat) : Int) - 1) = (p.length : Int) := by rw [show ((((p.concat y).length : Nat) : Int) - 1) = p.length by simp]; exact w_small _ (by omega) (by omega)
      have hg : List.getD l (Int.toNat (p.length : Int)) (0, 0) = y := by
        rw [hl', Int.toNat_natCast, List.concat_eq_append, List.append_assoc]; exact getD_mid p y _ _
      have hy := hI y (by simp)
      have hw2 : w (y.1 + 360) = y.1 + 360 := w_small _ (by omega) (by omega)
      rw [hw, hg, hw2]
      exact ⟨by simp [hlen]; omega, by simp [hlen]; omega, by simp [gapOk], by simp [sameEnd]⟩
  obtain ⟨k1, k2, k3, k4⟩ := key
  rw [k1, k2, k3, k4]
  simp only [cond_true]
  cases h1 : (decide (x.2 < 0) || decide (x.2 > 1)) with
  | true => rfl
  | false =>
    cases h2 : (decide (x.1 < 0) || decide (x.1 > 200000)) with
    | true => rfl
    | false =>
      simp only [Bool.or_eq_false_iff, decide_eq_false_iff_not] at h2
      have ih := ih () (by intro q hq; simp at hq; subst hq; omega)
      simp only [List.getLast?_append, List.getLast?_singleton, Option.or_some] at ih
      cases gapOk pre.getLast? x.1 with
      | true => rfl
      | false =>
        cases sameEnd pre.getLast? x.2 with
        | true => rfl
        | false => exact ih
theorem ref_EndsError.v (l : List Sp) (hl : l.length < 4611686018427387904) : ref_EndsError.fn N l = some (spansErr l) := by
  rw [ref_EndsError.eq]
  unfold spansErr
  by_cases h : (l.length : Int) > 24
  · simp [h]
  cases h0 : ((l.length : Int) == 0) with
  | true => simp [h]
  | false =>
  simp only [h, decide_false, cond_false]
  refine list_loop (l := l) (σ := Unit) (fun k _ i => ref_EndsError.l0 N l k i) (fun pre r _ => some (spL pre.getLast? r)) (fun pre _ => ∀ q, pre.getLast? = some q → 0 ≤ q.1 ∧ q.1 ≤ 200000)
    (fun k _ _ => ref_EndsError.l0_nil N l k) (fun k pre x r _ hl' hI ih => ?_) N () (by simp) (by omega)
  show ref_EndsError.l0 N l (k + 1) (pre.length : Int) = _
  rw [ref_EndsError.l0_cons N l k hl' hl, spL_cons, end01]
  have key : ((decide (0 ≤ (w ((pre.length : Int) - 1))) && decide ((w ((pre.length : Int) - 1)) < (l.length : Int))) || !((!((decide ((x.1) < 0)) || (decide ((x.1) > 200000)))) && (decide ((pre.length : Int) > 0)))) = true ∧
      ((decide (0 ≤ (w ((pre.length : Int) - 1))) && decide ((w ((pre.length : Int) - 1)) < (l.length : Int))) || !(decide ((pre.length : Int) > 0))) = true ∧
      ((decide (x.1 < 0) || decide (x.1 > 200000)) = false → (decide ((pre.length : Int) > 0) && (decide ((w ((x.1) - ((List.getD l (Int.toNat (w ((pre.length : Int) - 1))) (0, 0)).1))) < 360))) = gapOk pre.getLast? x.1) ∧
      (decide ((pre.length : Int) > 0) && (x.2 == ((List.getD l (Int.toNat (w ((pre.length : Int) - 1))) (0, 0)).2))) = sameEnd pre.getLast? x.2 := by
    rcases List.eq_nil_or_concat pre with rfl | ⟨p, y, rfl⟩
    · exact ⟨by simp, by simp, by simp [gapOk], by simp [sameEnd]⟩
    · have hlen : l.length = p.length + 2 + r.length := by rw [hl']; simp; omega
      have hw : w ((((p.concat y).length : Nat) : Int) - 1) = (p.length : Int) := by rw [show ((((p.concat y).length : Nat) : Int) - 1) = p.length by simp]; exact w_small _ (by omega) (by omega)
      have hg : List.getD l (Int.toNat (p.length : Int)) (0, 0) = y := by
        rw [hl', Int.toNat_natCast, List.concat_eq_append, List.append_assoc]; exact getD_mid p y _ _
      have hy := hI y (by simp)
      rw [hw, hg]
      refine ⟨by simp [hlen]; omega, by simp [hlen]; omega, fun hb => ?_, by simp [sameEnd]⟩
      simp only [Bool.or_eq_false_iff, decide_eq_false_iff_not] at hb
      rw [w_small (x.1 - y.1) (by omega) (by omega), Bool.eq_iff_iff]
      simp [gapOk]
      omega
  obtain ⟨k1, k2, k3, k4⟩ := key
  rw [k1, k2, k4]
  simp only [cond_true]
  cases h1 : (decide (x.2 < 0) || decide (x.2 > 1)) with
  | true => rfl
  | false =>
    cases h2 : (decide (x.1 < 0) || decide (x.1 > 200000)) with
    | true => rfl
    | false =>
      rw [k3 h2]
      simp only [Bool.or_eq_false_iff, decide_eq_false_iff_not] at h2
      have ih := ih () (by intro q hq; simp at hq; subst hq; omega)
      simp only [List.getLast?_append, List.getLast?_singleton, Option.or_some] at ih
      cases gapOk pre.getLast? x.1 with
      | true => rfl
      | false =>
        cases sameEnd pre.getLast? x.2 with
        | true => rfl
        | false => exact ih
end
/-! ### which direction is open -/
def opL (t : Int) : Int → List Sp → Int × Int
  | e, [] => (e, -1)
  | e, s :: r => bif decide (t > s.1 - 180) && decide (t < s.1 + 180) then (0, s.1 + 180) else opL t (bif decide (t ≥ s.1) then s.2 else e) r
theorem opL_cons (t e : Int) (s : Sp) (r : List Sp) : opL t e (s :: r) = bif decide (t > s.1 - 180) && decide (t < s.1 + 180) then (0, s.1 + 180) else opL t (bif decide (t ≥ s.1) then s.2 else e) r := rfl
def opn : List Sp → Int → Int × Int
  | [], _ => (0, 0)
  | s :: r, t => bif decide (t < s.1) then (0, s.1) else opL t s.2 r
theorem opn_cons (s : Sp) (r : List Sp) (t : Int) : opn (s :: r) t = bif decide (t < s.1) then (0, s.1) else opL t s.2 r := rfl
def eaL (t : Int) : Int → List Sp → Int
  | e, [] => e
  | e, s :: r => bif decide (t - s.1 < 180) && decide (s.1 - t < 180) then -1 else eaL t (bif decide (s.1 ≤ t) then s.2 else e) r
theorem eaL_cons (t e : Int) (s : Sp) (r : List Sp) : eaL t e (s :: r) = bif decide (t - s.1 < 180) && decide (s.1 - t < 180) then -1 else eaL t (bif decide (s.1 ≤ t) then s.2 else e) r := rfl
def endAt (l : List Sp) (t : Int) : Int := bif decide ((opn l t).2 ≥ 0) then -1 else (opn l t).1
def eaM (t : Int) : List Sp → Int
  | [] => -1
  | s :: r => eaL t (bif decide (s.1 ≤ t) then s.2 else -1) r
def eaS (t : Int) : List Sp → List Sp → Int → Int
  | [], [], _ => -1
  | [], s :: r, e => eaL t (bif decide (s.1 ≤ t) then s.2 else e) r
  | _ :: _, r, e => eaL t e r
theorem opL_spec : ∀ {r : List Sp} {t e : Int}, (∀ s ∈ r, spOk s) → 0 ≤ e → e ≤ 1 → (eaL t e r = bif decide ((opL t e r).2 ≥ 0) then -1 else (opL t e r).1) ∧ ((opL t e r).2 = -1 ∧ 0 ≤ (opL t e r).1 ∧ (opL t e r).1 ≤ 1 ∨ t < (opL t e r).2 ∧ (opL t e r).2 ≤ 200180 ∧ (opL t e r).1 = 0 ∧ 0 ≤ (opL t e r).2)
  | [], t, e, _, h0, h1 => ⟨rfl, .inl ⟨rfl, h0, h1⟩⟩
  | s :: r, t, e, h, h0, h1 => by
    obtain ⟨hs, hr⟩ := List.forall_mem_cons.1 h
    rw [opL_cons, eaL_cons]
    have hc : (decide (t - s.1 < 180) && decide (s.1 - t < 180)) = (decide (t > s.1 - 180) && decide (t < s.1 + 180)) := by
      rw [Bool.eq_iff_iff]; simp; omega
    have hd : decide (s.1 ≤ t) = decide (t ≥ s.1) := rfl
    rw [hc, hd]
    unfold spOk at hs
    cases hb : (decide (t > s.1 - 180) && decide (t < s.1 + 180)) with
    | true =>
      simp only [Bool.and_eq_true, decide_eq_true_iff] at hb
      have : decide (s.1 + 180 ≥ 0) = true := by rw [decide_eq_true_iff]; omega
      simp only [cond_true, this]
      exact ⟨trivial, .inr ⟨by omega, by omega, trivial, by omega⟩⟩
    | false =>
      simp only [cond_false]
      refine opL_spec hr ?_ ?_ <;> cases decide (t ≥ s.1) <;> simp only [cond_true, cond_false] <;> omega
theorem eaL_none : ∀ {r : List Sp} {t : Int}, (∀ s ∈ r, t < s.1) → eaL t (-1) r = -1
  | [], _, _ => rfl
  | s :: r, t, h => by
    obtain ⟨hs, hr⟩ := List.forall_mem_cons.1 h
    rw [eaL_cons, decide_eq_false (show ¬ s.1 ≤ t by omega), cond_false, eaL_none hr]
    cases (decide (t - s.1 < 180) && decide (s.1 - t < 180)) <;> rfl
theorem opn_spec {l : List Sp} {t : Int} (hne : l ≠ []) (hs : ∀ s ∈ l, spOk s) : (opn l t).2 = -1 ∧ 0 ≤ (opn l t).1 ∧ (opn l t).1 ≤ 1 ∨ t < (opn l t).2 ∧ (opn l t).2 ≤ 200180 ∧ (opn l t).1 = 0 ∧ 0 ≤ (opn l t).2 := by
  cases l with
  | nil => exact absurd rfl hne
  | cons s r =>
    obtain ⟨h1, h2⟩ := List.forall_mem_cons.1 hs
    unfold spOk at h1
    rw [opn_cons]
    by_cases h : t < s.1
    · rw [decide_eq_true h]; exact .inr ⟨h, by simp; omega, rfl, h1.1⟩
    · rw [decide_eq_false h]; exact (opL_spec h2 h1.2.2.1 h1.2.2.2).2
section
variable {N : Nat} (hN : 4611686018427387904 ≤ N)
include hN
theorem runway_opened.v {l : List Sp} (t : Int) (hne : l ≠ []) (hs : ∀ s ∈ l, spOk s) (hl : l.length < 4611686018427387904) : runway_opened.fn N (l, t) = some (opn l t) := by
  rw [runway_opened.eq]
  cases l with
  | nil => exact absurd rfl hne
  | cons s r =>
    obtain ⟨h1, h2⟩ := List.forall_mem_cons.1 hs
    have c1 : decide (0 < ((s :: r).length : Int)) = true := by rw [decide_eq_true_iff]; simp only [List.length_cons]; omega
    have c2 : decide (1 ≤ ((s :: r).length : Int)) = true := by rw [decide_eq_true_iff]; simp only [List.length_cons]; omega
    have g : List.getD (s :: r) 0 (0, 0) = s := rfl
    rw [opn_cons]
    simp only [c1, c2, g, cond_true]
    by_cases h : t < s.1
    · rw [decide_eq_true h]; rfl
    · rw [decide_eq_false h]
      simp only [cond_false]
      have hdr : List.drop 1 (s :: r) = r := rfl
      refine list_loop (l := List.drop 1 (s :: r)) (fun k e i => runway_opened.l0 N (s :: r) t k e i) (fun _ r e => some (opL t e r)) (fun _ _ => True)
        (fun k e _ => runway_opened.l0_nil N (s :: r) t k e) (fun k pre x r' e hl' _ ih => ?_) N s.2 trivial (by simp at hl ⊢; omega)
      show runway_opened.l0 N (s :: r) t (k + 1) e (pre.length : Int) = _
      have ih : ∀ e, runway_opened.l0 N (s :: r) t k e ((pre.length : Int) + 1) = some (opL t e r') := fun e => ih e trivial
      have hx := h2 x (by rw [← hdr, hl']; simp)
      unfold spOk at hx
      rw [runway_opened.l0_cons N (s :: r) t k e hl' (by simp at hl ⊢; omega), opL_cons, w_small (x.1 - 180) (by omega) (by omega), w_small (x.1 + 180) (by omega) (by omega), ih, ih]
      cases (decide (t > x.1 - 180) && decide (t < x.1 + 180)) with
      | true => rfl
      | false => cases decide (t ≥ x.1) <;> rfl
theorem ref_EndAt.v {l : List Sp} (t : Int) (hne : l ≠ []) (hs : ∀ s ∈ l, spOk s) (hp : l.Pairwise fun a b => a.1 + 360 ≤ b.1) (ht0 : -1000000 ≤ t) (ht1 : t ≤ 1000000) (hl : l.length < 4611686018427387904) : ref_EndAt.fn N (l, t) = some (endAt l t) := by
  obtain ⟨M, hM⟩ : ∃ M, N = M + 1 := ⟨N - 1, by omega⟩
  rw [ref_EndAt.eq]
  have main : ref_EndAt.l0 N l t N (-1) 0 = some (eaM t l) := by
    refine (list_loop (l := l) (fun k e i => ref_EndAt.l0 N l t k e i) (fun pre r e => some (eaS t pre r e)) (fun _ _ => True)
      (fun k e _ => ?_) (fun k pre x r e hl' _ ih => ?_) N (-1) trivial (by omega)).trans ?_
    · show ref_EndAt.l0 N l t (k + 1) e (l.length : Int) = _
      rw [ref_EndAt.l0_nil N l t k e]
      cases l with
      | nil => exact absurd rfl hne
      | cons _ _ => rfl
    · show ref_EndAt.l0 N l t (k + 1) e (pre.length : Int) = _
      have hx := hs x (by rw [hl']; simp)
      unfold spOk at hx
      have hg : List.getD l pre.length (0, 0) = x := by rw [hl']; exact getD_mid pre x r _
      have ih : ∀ e, ref_EndAt.l0 N l t k e ((pre.length : Int) + 1) = some (eaL t e r) := fun e => by
        rw [ih e trivial]
        cases pre <;> rfl
      have j : ∀ e, ref_EndAt.j1 N l t k (pre.length : Int) e = some (bif decide ((pre.length : Int) > 0) && (decide (t - x.1 < 180) && decide (x.1 - t < 180)) then -1 else eaL t e r) := by
        intro e
        rw [ref_EndAt.j1_clean N l t k (pre.length : Int) e hM]
        simp only [Int.toNat_natCast, hg, w_next hl' hl, ih, w_small (t - x.1) (by omega) (by omega), w_small (x.1 - t) (by omega) (by omega), bif_some, Bool.and_assoc]
      rw [ref_EndAt.l0_cons N l t k e hl' hl, j, j, bif_some]
      cases pre with
      | nil => simp only [eaS, List.length_nil]; cases decide (x.1 ≤ t) <;> rfl
      | cons p ps =>
        rw [show decide ((((p :: ps).length : Nat) : Int) > 0) = true by rw [decide_eq_true_iff]; simp only [List.length_cons]; omega]
        show _ = some (eaL t e (x :: r))
        simp only [Bool.true_and, eaL_cons]
        cases decide (x.1 ≤ t) <;> rfl
    · cases l <;> rfl
  rw [main]
  cases l with
  | nil => exact absurd rfl hne
  | cons s r =>
    obtain ⟨h1, h2⟩ := List.forall_mem_cons.1 hs
    obtain ⟨p1, p2⟩ := List.pairwise_cons.1 hp
    unfold spOk at h1
    unfold endAt
    rw [opn_cons]
    show some (eaL t (bif decide (s.1 ≤ t) then s.2 else -1) r) = _
    by_cases h : t < s.1
    · rw [decide_eq_true h, decide_eq_false (show ¬ s.1 ≤ t by omega)]
      simp only [cond_false, cond_true]
      rw [eaL_none fun q hq => by have := p1 q hq; omega, decide_eq_true (show s.1 ≥ 0 from h1.1)]
      rfl
    · rw [decide_eq_false h, decide_eq_true (show s.1 ≤ t by omega)]
      simp only [cond_false, cond_true]
      rw [(opL_spec (t := t) h2 h1.2.2.1 h1.2.2.2).1]
end

/-! ### gaps -/
def gapM (x : List Int) (a b : Mv) : Int := bif a.2.2.1 == b.2.2.1 then gp x a.2.1 b.2.1 else 60
theorem gapM_ok {x : List Int} {a b : Mv} (hx : x.length = 16) (ht : tabErr x = 0) (ha : cls a.2.1 = false) (hb : cls b.2.1 = false) : 30 ≤ gapM x a b ∧ gapM x a b ≤ 600 := by
  unfold gapM
  cases (a.2.2.1 == b.2.2.1) with
  | true => exact gp_ok hx ht ha hb
  | false => simp
/-- The first index with a property, looked for from a place on. -/
theorem idx_loop {α X : Type} {l : List X} (p : X → Bool) (L : Nat → Int → Option α) (no : Option α) (hit : Int → Option α) (hnil : ∀ k, L (k + 1) (l.length : Int) = no)
    (hcons : ∀ k pre x r, l = pre ++ x :: r → L (k + 1) (pre.length : Int) = bif p x then hit (pre.length : Int) else L k ((pre.length : Int) + 1)) :
    ∀ (r pre : List X) (k : Nat), l = pre ++ r → r.length < k → L k (pre.length : Int) = bif idxL p r pre.length == -1 then no else hit (idxL p r pre.length) := by
  intro r pre k h hk
  refine list_from (l := l) (σ := Unit) (fun k _ i => L k i) (fun pre r _ => bif idxL p r pre.length == -1 then no else hit (idxL p r pre.length)) (fun _ _ => True) (fun k _ _ => hnil k) (fun k pre x r _ hl _ ih => ?_) r pre k () h trivial hk
  show L (k + 1) (pre.length : Int) = _
  rw [hcons k pre x r hl]
  cases hp : p x with
  | true =>
    have : (((pre.length : Nat) : Int) == -1) = false := by rw [beq_eq_false_iff_ne]; omega
    simp only [idxL, hp, cond_true, this, cond_false]
  | false =>
    have ih := ih () trivial
    rw [show (((pre ++ [x]).length : Nat) : Int) = (pre.length : Int) + 1 by simp] at ih
    simp only [idxL, hp, cond_false]
    exact ih
def wrP (x : List Int) (a b : Mv) : Bool := decide (b.1 - a.1 < gapM x a b)
def wrA (x : List Int) : List Mv → Int → Int × Int
  | [], _ => (-1, -1)
  | a :: r, i => bif idxL (wrP x a) r (i + 1) == -1 then wrA x r (i + 1) else (i, idxL (wrP x a) r (i + 1))
theorem wrA_cons (x : List Int) (a : Mv) (r : List Mv) (i : Int) : wrA x (a :: r) i = bif idxL (wrP x a) r (i + 1) == -1 then wrA x r (i + 1) else (i, idxL (wrP x a) r (i + 1)) := rfl
theorem wrA_ge (x : List Int) : ∀ (l : List Mv) (i : Int), 0 ≤ i → (wrA x l i).1 = -1 ∨ 0 ≤ (wrA x l i).1
  | [], _, _ => .inl rfl
  | a :: r, i, h => by
    rw [wrA_cons]
    cases (idxL (wrP x a) r (i + 1) == -1) with
    | true => exact wrA_ge x r (i + 1) (by omega)
    | false => exact .inr h
theorem wrA_none (x : List Int) : ∀ (l : List Mv) (i : Int), 0 ≤ i → (wrA x l i).1 = -1 → wrA x l i = (-1, -1)
  | [], _, _, _ => rfl
  | a :: r, i, h, h1 => by
    rw [wrA_cons] at h1 ⊢
    cases hq : (idxL (wrP x a) r (i + 1) == -1) with
    | true => rw [hq] at h1; exact wrA_none x r (i + 1) (by omega) h1
    | false => rw [hq] at h1; simp only [cond_false] at h1; omega
theorem pairs_loop {α : Type} {N : Nat} {l : List Mv} (x : List Int) (hl : l.length < N) (hb : l.length < 4611686018427387904) (L0 : Nat → Int → Option α) (L1 : Nat → Int → Nat → Int → Option α) (no : Option α) (hit : Int → Int → Option α)
    (h0n : ∀ k, L0 (k + 1) (l.length : Int) = no) (h0c : ∀ k pre a r, l = pre ++ a :: r → L0 (k + 1) (pre.length : Int) = L1 k (pre.length : Int) N ((pre.length : Int) + 1))
    (h1n : ∀ k i k3, L1 k i (k3 + 1) (l.length : Int) = L0 k (w (i + 1)))
    (h1c : ∀ k pre a r k3 pre' b r', l = pre ++ a :: r → l = pre' ++ b :: r' → L1 k (pre.length : Int) (k3 + 1) (pre'.length : Int) = bif wrP x a b then hit (pre.length : Int) (pre'.length : Int) else L1 k (pre.length : Int) k3 ((pre'.length : Int) + 1)) :
    L0 N 0 = bif (wrA x l 0).1 == -1 then no else hit (wrA x l 0).1 (wrA x l 0).2 := by
  refine list_loop (l := l) (σ := Unit) (fun k _ i => L0 k i) (fun pre r _ => bif (wrA x r pre.length).1 == -1 then no else hit (wrA x r pre.length).1 (wrA x r pre.length).2) (fun _ _ => True) (fun k _ _ => h0n k) (fun k pre a r _ hl' _ ih => ?_) N () trivial hl
  show L0 (k + 1) (pre.length : Int) = _
  have ih := ih () trivial
  have e : (((pre ++ [a]).length : Nat) : Int) = (pre.length : Int) + 1 := by simp
  have hlen : l.length = pre.length + 1 + r.length := by rw [hl']; simp; omega
  have key := idx_loop (l := l) (wrP x a) (fun k3 i => L1 k (pre.length : Int) k3 i) (L0 k (w ((pre.length : Int) + 1))) (fun j => hit (pre.length : Int) j) (fun k3 => h1n k _ k3) (fun k3 pre' b r' h => h1c k pre a r k3 pre' b r' hl' h) r (pre ++ [a]) N (by rw [hl']; simp) (by omega)
  rw [e] at key ih
  rw [h0c k pre a r hl', key, w_next hl' hb, wrA_cons]
  cases h : (idxL (wrP x a) r ((pre.length : Int) + 1) == -1) with
  | true => simp only [cond_true]; exact ih
  | false =>
    have : (((pre.length : Nat) : Int) == -1) = false := by rw [beq_eq_false_iff_ne]; omega
    simp only [cond_false, this]
section
variable {N : Nat} (hN : 4611686018427387904 ≤ N) {x : List Int} (hx : x.length = 16)
include hN hx
theorem runway_gap.v {a b : Mv} (ha : cls a.2.1 = false) (hb : cls b.2.1 = false) : runway_gap.fn N (x, a, b) = some (gapM x a b) := by
  have ha' := cls_ok ha
  have hb' := cls_ok hb
  rw [runway_gap.eq, vl_self hx]
  unfold gapM gp
  have c1 : (decide (0 ≤ a.2.1) && decide (a.2.1 < 4)) = true := by rw [Bool.and_eq_true, decide_eq_true_iff, decide_eq_true_iff]; omega
  have c2 : (decide (0 ≤ b.2.1) && decide (b.2.1 < 4)) = true := by rw [Bool.and_eq_true, decide_eq_true_iff, decide_eq_true_iff]; omega
  have c3 : decide (a.2.1.toNat * 4 + b.2.1.toNat < 16) = true := by rw [decide_eq_true_iff]; omega
  simp only [c1, c2, Nat.zero_add, Nat.mul_one, c3, cond_true, bif_some]
theorem ref_Apart.v {a b : Mv} (ha : cls a.2.1 = false) (hb : cls b.2.1 = false) : ref_Apart.fn N (x, a, b) = some (gapM x a b) := by
  have ha' := cls_ok ha
  have hb' := cls_ok hb
  rw [ref_Apart.eq, vl_self hx]
  unfold gapM gp
  have c1 : (decide (0 ≤ a.2.1) && decide (a.2.1 < 4)) = true := by rw [Bool.and_eq_true, decide_eq_true_iff, decide_eq_true_iff]; omega
  have c2 : (decide (0 ≤ b.2.1) && decide (b.2.1 < 4)) = true := by rw [Bool.and_eq_true, decide_eq_true_iff, decide_eq_true_iff]; omega
  have c3 : decide (a.2.1.toNat * 4 + b.2.1.toNat < 16) = true := by rw [decide_eq_true_iff]; omega
  simp only [c1, c2, Nat.zero_add, Nat.mul_one, c3, cond_true, bif_some]
  cases (a.2.2.1 == b.2.2.1) <;> rfl
theorem moves_one {m : Mv} (h : movesErr [m] = 0) : cls m.2.1 = false := ((movesErr_ok h).2 m (by simp)).2.2.1
def gapRes (x : List Int) (a b : Mv) : Int × Int := bif !(tabErr x == 0) then (0, tabErr x) else bif !(movesErr [a] == 0) then (0, movesErr [a]) else bif !(movesErr [b] == 0) then (0, movesErr [b]) else (gapM x a b, 0)
theorem runway_Gap.v (a b : Mv) : runway_Gap.fn N (x, a, b) = some (gapRes x a b) := by
  obtain ⟨M, hM⟩ : ∃ M, N = M + 8 := ⟨N - 8, by omega⟩
  rw [runway_Gap.eq N x a b hM]
  simp only [vl_self hx, wake_Check.v hN hx, Option.bind_some, runway_Check.v hN [a] (by simp), runway_Check.v hN [b] (by simp)]
  unfold gapRes
  cases h1 : (tabErr x == 0) with
  | false => rfl
  | true =>
    cases h2 : (movesErr [a] == 0) with
    | false => rfl
    | true =>
      cases h3 : (movesErr [b] == 0) with
      | false => rfl
      | true =>
        rw [runway_gap.v hN hx (moves_one hN hx (beq_iff_eq.1 h2)) (moves_one hN hx (beq_iff_eq.1 h3))]
        rfl
end
def dirR (l : List Sp) (t : Int) : Int × Int := bif !(spansErr l == 0) then (0, spansErr l) else bif decide (t < 0) || decide (t > 200000) then (0, 12) else bif decide ((opn l t).2 ≥ 0) then (0, 14) else ((opn l t).1, 0)
section
variable {N : Nat} (hN : 4611686018427387904 ≤ N)
include hN
theorem runway_Direction.v (l : List Sp) (t : Int) (hl : l.length < 4611686018427387904) : runway_Direction.fn N (l, t) = some (dirR l t) := by
  rw [runway_Direction.clean, runway_Spans.v hN l hl]
  unfold dirR
  simp only [Option.bind_some]
  cases h1 : (spansErr l == 0) with
  | false => rfl
  | true =>
    obtain ⟨k1, k2, k3, k4⟩ := spansErr_ok (beq_iff_eq.1 h1)
    rw [runway_opened.v hN t k2 k3 hl]
    simp only [Option.bind_some, bif_some]
end

section
variable {N : Nat} (hN : 4611686018427387904 ≤ N)
include hN
/-! ### RunwaySafes -/
def planR (l : List Mv) (s : List Sp) (x : List Int) : Int := bif !(movesErr l == 0) then movesErr l else bif !(spansErr s == 0) then spansErr s else tabErr x
def safeR (x : List Int) (l : List Mv) (s : List Sp) : Int × Int × Int :=
  bif idxL (fun m : Mv => !(endAt s m.1 == m.2.2.2)) l 0 == -1 then (bif (wrA x l 0).1 == -1 then (0, 0, 0) else ((wrA x l 0).1, (wrA x l 0).2, 15))
  else (idxL (fun m : Mv => !(endAt s m.1 == m.2.2.2)) l 0, idxL (fun m : Mv => !(endAt s m.1 == m.2.2.2)) l 0, 14)
theorem runway_all.v (l : List Mv) (s : List Sp) {x : List Int} (hx : x.length = 16) (hl : l.length < 4611686018427387904) (hs : s.length < 4611686018427387904) : runway_all.fn N (l, s, x) = some (planR l s x) := by
  rw [runway_all.eq, runway_Check.v hN l hl, runway_Spans.v hN s hs, vl_self hx, wake_Check.v hN hx]
  simp -implicitDefEqProofs only [Option.bind_some, bif_some, planR]
theorem law_planError.v (l : List Mv) (s : List Sp) {x : List Int} (hx : x.length = 16) (hl : l.length < 4611686018427387904) (hs : s.length < 4611686018427387904) : law_planError.fn N (l, s, x) = some (planR l s x) := by
  rw [law_planError.eq, ref_MovesError.v hN l hl, ref_EndsError.v hN s hs, vl_self hx, ref_TableError.v hN hx]
  simp -implicitDefEqProofs only [Option.bind_some, bif_some, planR]
theorem planR_ok {l : List Mv} {s : List Sp} {x : List Int} (h : planR l s x = 0) : movesErr l = 0 ∧ spansErr s = 0 ∧ tabErr x = 0 := by
  unfold planR at h
  cases h1 : (movesErr l == 0) with
  | false => rw [h1] at h; simp at h1; exact absurd h h1
  | true =>
    cases h2 : (spansErr s == 0) with
    | false => rw [h1, h2] at h; simp at h2; exact absurd h h2
    | true => rw [h1, h2] at h; exact ⟨beq_iff_eq.1 h1, beq_iff_eq.1 h2, h⟩
theorem mid_pair {l pre pre' r r' : List Mv} {a b : Mv} (h1 : l = pre ++ a :: r) (h2 : l = pre' ++ b :: r') : List.getD l pre.length (0, (0, (false, 0))) = a ∧ a ∈ l ∧ b ∈ l :=
  ⟨by rw [h1]; exact getD_mid pre a r _, by rw [h1]; simp, by rw [h2]; simp⟩
theorem runway_wrong.v {l : List Mv} {x : List Int} (hx : x.length = 16) (ht : tabErr x = 0) (hm : ∀ m ∈ l, 0 ≤ m.1 ∧ m.1 ≤ 1000000 ∧ cls m.2.1 = false) (hl : l.length < 4611686018427387904) : runway_wrong.fn N (l, x) = some (wrA x l 0) := by
  rw [runway_wrong.eq]
  refine (pairs_loop (l := l) x (by omega) hl (fun k i => runway_wrong.l0 N l x k i) (fun k i k3 j => runway_wrong.l1 N l x k i k3 j) (some (-1, -1)) (fun i j => some (i, j)) (fun k => runway_wrong.l0_nil N l x k) (fun k pre a r h => runway_wrong.l0_cons N l x k h hl)
    (fun k i k3 => runway_wrong.l1_nil N l x k i k3) (fun k pre a r k3 pre' b r' h1 h2 => ?_)).trans ?_
  · show runway_wrong.l1 N l x k (pre.length : Int) (k3 + 1) (pre'.length : Int) = _
    obtain ⟨g, ha, hb⟩ := mid_pair hN h1 h2
    have ha := hm a ha
    have hb := hm b hb
    rw [runway_wrong.l1_cons N l x k (pre.length : Int) k3 h2 hl, vl_self hx, Int.toNat_natCast, g, runway_gap.v hN hx ha.2.2 hb.2.2, Option.bind_some, w_small (b.1 - a.1) (by omega) (by omega)]
    rfl
  · rcases wrA_ge x l 0 (by omega) with h | h
    · rw [wrA_none x l 0 (by omega) h]; rfl
    · rw [show ((wrA x l 0).1 == -1) = false by rw [beq_eq_false_iff_ne]; omega]; rfl
theorem runway_Safe.v (l : List Mv) (s : List Sp) {x : List Int} (hx : x.length = 16) (hl : l.length < 4611686018427387904) (hs : s.length < 4611686018427387904) :
    runway_Safe.fn N (l, s, x) = some (bif !(planR l s x == 0) then (0, 0, planR l s x) else safeR x l s) := by
  rw [runway_Safe.eq, vl_self hx, runway_all.v hN l s hx hl hs, Option.bind_some]
  cases hp : (planR l s x == 0) with
  | false => rfl
  | true =>
    obtain ⟨h1, h2, h3⟩ := planR_ok hN (beq_iff_eq.1 hp)
    obtain ⟨m1, m2⟩ := movesErr_ok h1
    obtain ⟨k1, k2, k3, k4⟩ := spansErr_ok h2
    simp -implicitDefEqProofs only [Bool.not_true, cond_false]
    have hw := runway_wrong.v hN hx h3 (fun m hm => by have := m2 m hm; exact ⟨by omega, by omega, this.2.2.1⟩) hl
    have key := idx_loop (l := l) (fun m : Mv => !(endAt s m.1 == m.2.2.2)) (fun k i => runway_Safe.l0 N l s x k i) (some (bif (wrA x l 0).1 == -1 then (0, 0, 0) else ((wrA x l 0).1, (wrA x l 0).2, 15))) (fun i => some (i, i, 14)) (fun k => ?_) (fun k pre m r h => ?_) l [] N rfl (by omega)
    · rw [show (([] : List Mv).length : Int) = 0 from rfl] at key
      rw [key, bif_some]
      rfl
    · show runway_Safe.l0 N l s x (k + 1) (l.length : Int) = _
      rw [runway_Safe.l0_nil N l s x k, vl_self hx, hw, Option.bind_some]
      rcases wrA_ge x l 0 (by omega) with h | h
      · rw [h]; rfl
      · rw [show ((wrA x l 0).1 == -1) = false by rw [beq_eq_false_iff_ne]; omega, decide_eq_true h]; rfl
    · show runway_Safe.l0 N l s x (k + 1) (pre.length : Int) = _
      have hm := m2 m (by rw [h]; simp)
      rw [runway_Safe.l0_cons N l s x k h hl, runway_opened.v hN m.1 k2 k3 hs, Option.bind_some]
      unfold endAt
      rcases opn_spec (t := m.1) k2 k3 with ⟨q1, q2, q3⟩ | ⟨q1, q2, q3, q4⟩
      · have c : decide ((opn s m.1).2 ≥ 0) = false := by rw [q1]; rfl
        rw [c, Bool.false_or, cond_false]
      · have c : decide ((opn s m.1).2 ≥ 0) = true := by rw [decide_eq_true_iff]; omega
        have c2 : ((-1 : Int) == m.2.2.2) = false := by rw [beq_eq_false_iff_ne]; omega
        rw [c, Bool.true_or, cond_true, cond_true, c2]
        rfl
theorem ref_Wrong.v {l : List Mv} {s : List Sp} {x : List Int} (hx : x.length = 16) (ht : tabErr x = 0) (hm : ∀ m ∈ l, 0 ≤ m.1 ∧ m.1 ≤ 200000 ∧ cls m.2.1 = false) (k2 : s ≠ []) (k3 : ∀ q ∈ s, spOk q) (k4 : s.Pairwise fun a b => a.1 + 360 ≤ b.1)
    (hl : l.length < 4611686018427387904) (hs : s.length < 4611686018427387904) : ref_Wrong.fn N (l, s, x) = some (safeR x l s) := by
  rw [ref_Wrong.eq]
  have hw : ref_Wrong.l1 N l x N 0 = some (bif (wrA x l 0).1 == -1 then (0, 0, 0) else ((wrA x l 0).1, (wrA x l 0).2, 15)) := by
    refine (pairs_loop (l := l) x (by omega) hl (fun k i => ref_Wrong.l1 N l x k i) (fun k i k3 j => ref_Wrong.l2 N l x k i k3 j) (some (0, 0, 0)) (fun i j => some (i, j, 15)) (fun k => ref_Wrong.l1_nil N l x k) (fun k pre a r h => ref_Wrong.l1_cons N l x k h hl)
      (fun k i k3 => ref_Wrong.l2_nil N l x k i k3) (fun k pre a r k3 pre' b r' h1 h2 => ?_)).trans (bif_some _ _ _)
    show ref_Wrong.l2 N l x k (pre.length : Int) (k3 + 1) (pre'.length : Int) = _
    obtain ⟨g, ha, hb⟩ := mid_pair hN h1 h2
    have ha := hm a ha
    have hb := hm b hb
    have hg := gapM_ok hx ht ha.2.2 hb.2.2
    have hlen : l.length = pre.length + 1 + r.length := by rw [h1]; simp; omega
    have c : (decide (0 ≤ (pre.length : Int)) && decide ((pre.length : Int) < (l.length : Int))) = true := by rw [Bool.and_eq_true, decide_eq_true_iff, decide_eq_true_iff]; omega
    rw [ref_Wrong.l2_cons N l x k (pre.length : Int) k3 h2 hl, vl_self hx, Int.toNat_natCast, g, c, ref_Apart.v hN hx ha.2.2 hb.2.2, Option.bind_some, w_small (a.1 + gapM x a b) (by omega) (by omega)]
    simp only [cond_true]
    rw [show decide (b.1 < a.1 + gapM x a b) = wrP x a b by unfold wrP; rw [decide_eq_decide]; omega]
  have key := idx_loop (l := l) (fun m : Mv => !(endAt s m.1 == m.2.2.2)) (fun k i => ref_Wrong.l0 N l s x k i) (some (bif (wrA x l 0).1 == -1 then (0, 0, 0) else ((wrA x l 0).1, (wrA x l 0).2, 15))) (fun i => some (i, i, 14)) (fun k => ?_) (fun k pre m r h => ?_) l [] N rfl (by omega)
  · rw [show (([] : List Mv).length : Int) = 0 from rfl] at key
    rw [key, bif_some]
    rfl
  · show ref_Wrong.l0 N l s x (k + 1) (l.length : Int) = _
    rw [ref_Wrong.l0_nil N l s x k, hw]
  · show ref_Wrong.l0 N l s x (k + 1) (pre.length : Int) = _
    have hm := hm m (by rw [h]; simp)
    rw [ref_Wrong.l0_cons N l s x k h hl, ref_EndAt.v hN m.1 k2 k3 k4 (by omega) (by omega) hs, Option.bind_some]
end

abbrev tbl : List Int := [60, 60, 60, 60, 120, 60, 60, 60, 180, 120, 90, 60, 240, 180, 120, 120]
section
variable {N : Nat} (hN : 4611686018427387904 ≤ N)
include hN
theorem change_fact : runway_Change.fn N ([(100, (1, (false, 0))), (160, (1, (true, 0)))], [(0, 0)], 1000) = some ([(0, 0), (1000, 1)], 0) := by
  obtain ⟨M, rfl⟩ : ∃ M, N = M + 8 := ⟨N - 8, by omega⟩
  kernel_rfl
theorem ins_fact : runway_Insert.l0 N [(0, 0)] tbl [(100, 1)] N 0 [(100, (1, (false, 0)))] = some ([(100, (1, (false, 0))), (160, (1, (true, 0)))], 0) := by
  obtain ⟨M, rfl⟩ : ∃ M, N = M + 8 := ⟨N - 8, by omega⟩
  kernel_rfl
theorem insert_fact : runway_Insert.fn N ([(100, (1, (false, 0)))], [(0, 0)], tbl, [(100, 1)]) = some ([(100, (1, (false, 0))), (160, (1, (true, 0)))], 0) := by
  have v : vl 16 tbl = tbl := rfl
  have s3 : runway_Safe.fn N ([(100, (1, (false, 0)))], [(0, 0)], tbl) = some (0, 0, 0) := (runway_Safe.v hN _ _ rfl (by simp) (by simp)).trans (by kernel_rfl)
  rw [runway_Insert.eq, v, s3, slices_Clone_RunwayMove.v N _ (by simp)]
  simp -implicitDefEqProofs only [Option.bind_some, ins_fact hN]
  rfl
theorem law_runwayFact.v : law_runwayFact.fn N () = some true := by
  have v : vl 16 tbl = tbl := rfl
  have s3 : runway_Safe.fn N ([(100, (1, (false, 0))), (160, (1, (true, 0)))], [(0, 0)], tbl) = some (0, 0, 0) := (runway_Safe.v hN _ _ rfl (by simp) (by simp)).trans (by kernel_rfl)
  have s5 : runway_Direction.fn N ([(0, 0), (1000, 1)], 821) = some (0, 14) := (runway_Direction.v hN _ _ (by simp)).trans (by kernel_rfl)
  have s6 : runway_Direction.fn N ([(0, 0), (1000, 1)], 1180) = some (1, 0) := (runway_Direction.v hN _ _ (by simp)).trans (by kernel_rfl)
  have s7 : runway_Gap.fn N (tbl, (100, (1, (false, 0))), (160, (1, (true, 0)))) = some (60, 0) := (runway_Gap.v hN rfl _ _).trans (by kernel_rfl)
  have s8 : runway_Safe.fn N ([(100, (1, (false, 0))), (100, (1, (false, 0)))], [(0, 0)], tbl) = some (0, 1, 15) := (runway_Safe.v hN _ _ rfl (by simp) (by simp)).trans (by kernel_rfl)
  have s9 : runway_Check.fn N [(0, (0, (false, 2)))] = some 1 := (runway_Check.v hN _ (by simp)).trans (by kernel_rfl)
  have s10 : runway_Spans.fn N [] = some 8 := (runway_Spans.v hN _ (by simp)).trans (by kernel_rfl)
  have g0 : List.getD ([(100, (1, (false, 0))), (160, (1, (true, 0)))] : List Mv) 0 (0, (0, (false, 0))) = (100, (1, (false, 0))) := rfl
  have g1 : List.getD ([(100, (1, (false, 0))), (160, (1, (true, 0)))] : List Mv) 1 (0, (0, (false, 0))) = (160, (1, (true, 0))) := rfl
  rw [law_runwayFact.eq]
  simp -implicitDefEqProofs only [wake_Standard.eq, v, insert_fact hN, Option.bind_some, s3, change_fact hN, s5, s6, g0, g1, s7, s8, s9, s10, List.length_cons, List.length_nil]
  rfl
end

/-! ### RunwayChecks -/
section
variable {N : Nat} (hN : 4611686018427387904 ≤ N)
include hN
theorem RunwayChecks.pureN (x0 : List Mv) (x1 : List Sp) (x2 : List Int) (x3 : Int) (hl : x0.length < 4611686018427387904) (hl1 : x1.length < 4611686018427387904) (hx : x2.length = 16) : law_RunwayChecks.fn N (x0, x1, x2, x3) = some true := by
  obtain ⟨M, hM⟩ : ∃ M, N = M + 1 := ⟨N - 1, by omega⟩
  rw [law_RunwayChecks.clean, law_runwayFact.v hN, runway_Direction.v hN x1 x3 hl1, ref_EndsError.v hN x1 hl1, runway_Check.v hN x0 hl, ref_MovesError.v hN x0 hl, runway_Spans.v hN x1 hl1]
  simp -implicitDefEqProofs only [Option.bind_some, Bool.not_true, cond_false, beq_self_eq_true, Bool.not_false, cond_true, Bool.false_or]
  -- the last part
  have tail : law_RunwayChecks.j1 N x0 x2 (dirR x1 x3) (dirR x1 x3).2 (dirR x1 x3).1 = some true := by
    rw [law_RunwayChecks.j1_clean N x0 x2 _ _ _ hM]
    simp -implicitDefEqProofs only [beq_self_eq_true, Bool.not_true, Bool.or_self, cond_false]
    by_cases h2 : (x0.length : Int) < 2
    · rw [decide_eq_true h2]; rfl
    have hw : w ((x0.length : Int) - 1) = (x0.length : Int) - 1 := w_small _ (by omega) (by omega)
    have c1 : decide (0 < (x0.length : Int)) = true := by rw [decide_eq_true_iff]; omega
    have c2 : (decide (0 ≤ (x0.length : Int) - 1) && decide ((x0.length : Int) - 1 < (x0.length : Int))) = true := by rw [Bool.and_eq_true, decide_eq_true_iff, decide_eq_true_iff]; omega
    rw [decide_eq_false h2, hw, c1, c2, vl_self hx]
    have j2 : ∀ (r : Int × Int) a, law_RunwayChecks.j2 N x0 x2 r a = _ := fun r a => law_RunwayChecks.j2_eq N x0 x2 r a hM
    have j3 : ∀ (r : Int × Int) a, law_RunwayChecks.j3 N x0 x2 r a = _ := fun r a => law_RunwayChecks.j3_clean N x0 x2 r a hM
    rw [hw] at j2 j3
    generalize List.getD x0 0 (0, (0, (false, 0))) = a at j2 j3 ⊢
    generalize List.getD x0 (Int.toNat ((x0.length : Int) - 1)) (0, (0, (false, 0))) = b at j2 j3 ⊢
    rw [runway_Gap.v hN hx a b, ref_TableError.v hN hx, ref_MovesError.v hN [a] (by simp)]
    simp -implicitDefEqProofs only [Option.bind_some, cond_true, cond_false, j2, j3, vl_self hx, ref_MovesError.v hN [b] (by simp)]
    unfold gapRes
    cases h3 : (tabErr x2 == 0) with
    | false => simp -implicitDefEqProofs [h3]
    | true =>
      cases h4 : (movesErr [a] == 0) with
      | false => simp -implicitDefEqProofs [h4]
      | true =>
        cases h5 : (movesErr [b] == 0) with
        | false => simp -implicitDefEqProofs [h5]
        | true =>
          rw [ref_Apart.v hN hx (moves_one hN hx (beq_iff_eq.1 h4)) (moves_one hN hx (beq_iff_eq.1 h5))]
          simp -implicitDefEqProofs [h5]
  have j0 : ∀ (r : Int × Int) a, law_RunwayChecks.j0 N x0 x1 x2 x3 r a = _ := fun r a => law_RunwayChecks.j0_eq N x0 x1 x2 x3 r a hM
  simp -implicitDefEqProofs only [j0]
  revert tail
  unfold dirR
  cases h1 : (spansErr x1 == 0) with
  | false =>
    intro tail
    simp -implicitDefEqProofs only [Bool.not_false, cond_true] at tail
    simp -implicitDefEqProofs only [Bool.false_and, cond_false, Bool.not_false, cond_true, h1]
    exact tail
  | true =>
    obtain ⟨k1, k2, k3, k4⟩ := spansErr_ok (beq_iff_eq.1 h1)
    cases h2 : (decide (x3 < 0) || decide (x3 > 200000)) with
    | true =>
      intro tail
      simp -implicitDefEqProofs only [Bool.not_true, cond_true, cond_false] at tail
      simp -implicitDefEqProofs only [Bool.and_self, Bool.not_true, cond_false, cond_true, show ((12 : Int) == 0) = false from rfl]
      exact tail
    | false =>
      intro tail
      simp -implicitDefEqProofs only [Bool.not_true, cond_false] at tail
      simp -implicitDefEqProofs only [Bool.and_false, Bool.not_true, cond_false]
      simp only [Bool.or_eq_false_iff, decide_eq_false_iff_not] at h2
      rw [cond_true, ref_EndAt.v hN x3 k2 k3 k4 (by omega) (by omega) hl1]
      simp -implicitDefEqProofs only [Option.bind_some]
      unfold endAt
      rcases opn_spec (t := x3) k2 k3 with ⟨q1, q2, q3⟩ | ⟨q1, q2, q3, q4⟩
      · have c : decide ((opn x1 x3).2 ≥ 0) = false := by rw [q1]; rfl
        simp -implicitDefEqProofs only [c, cond_false] at tail ⊢
        rw [decide_eq_false (show ¬ (opn x1 x3).1 < 0 by omega), beq_iff_eq.1 h1]
        exact tail
      · have c : decide ((opn x1 x3).2 ≥ 0) = true := by rw [decide_eq_true_iff]; omega
        simp -implicitDefEqProofs only [c, cond_true] at tail ⊢
        exact tail
/-! ### RunwaySafes: the law -/
theorem RunwaySafes.pureN (x0 : List Mv) (x1 : List Sp) (x2 : List Int) (hl : x0.length < 4611686018427387904) (hs : x1.length < 4611686018427387904) (hx : x2.length = 16) : law_RunwaySafes.fn N (x0, x1, x2) = some true := by
  rw [law_RunwaySafes.clean, law_runwayFact.v hN, vl_self hx, runway_Safe.v hN x0 x1 hx hl hs, law_planError.v hN x0 x1 hx hl hs]
  simp -implicitDefEqProofs only [Option.bind_some, Bool.not_true, cond_false]
  cases hp : (planR x0 x1 x2 == 0) with
  | false => simp -implicitDefEqProofs
  | true =>
    obtain ⟨h1, h2, h3⟩ := planR_ok hN (beq_iff_eq.1 hp)
    obtain ⟨m1, m2⟩ := movesErr_ok h1
    obtain ⟨k1, k2, k3, k4⟩ := spansErr_ok h2
    rw [ref_Wrong.v hN hx h3 (fun m hm => by have := m2 m hm; exact ⟨by omega, by omega, this.2.2.1⟩) k2 k3 k4 hl hs]
    simp -implicitDefEqProofs
end
/-! ### RunwayChanges -/
section
variable {N : Nat} (hN : 4611686018427387904 ≤ N)
include hN
def lastSp (s : List Sp) : Sp := List.getD s (s.length - 1) (0, 0)
def late (at_ : Int) (m : Mv) : Bool := decide (m.1 + 180 > at_)
def chR (l : List Mv) (s : List Sp) (t : Int) : List Sp × Int :=
  bif !(movesErr l == 0) then ([], movesErr l) else bif !(spansErr s == 0) then ([], spansErr s) else bif (s.length : Int) == 24 then ([], 9) else
  bif (decide (t < 0) || decide (t > 200000)) || decide (t < (lastSp s).1 + 360) then ([], 12) else bif l.any (late t) then ([], 15) else (s ++ [(t, w (1 - (lastSp s).2))], 0)
theorem last_mem {s : List Sp} (hs : s ≠ []) : lastSp s ∈ s := by
  unfold lastSp
  have : s.length - 1 < s.length := by
    cases s with
    | nil => exact absurd rfl hs
    | cons a r => simp
  rw [List.getD_eq_getElem?_getD, List.getElem?_eq_getElem this]
  exact List.getElem_mem _
theorem last_at {s : List Sp} (hs : s ≠ []) (hl : s.length < 4611686018427387904) : w ((s.length : Int) - 1) = ((s.length - 1 : Nat) : Int) ∧ (decide (0 ≤ ((s.length - 1 : Nat) : Int)) && decide (((s.length - 1 : Nat) : Int) < (s.length : Int))) = true := by
  have : 0 < s.length := by
    cases s with
    | nil => exact absurd rfl hs
    | cons a r => simp
  refine ⟨by rw [w_small _ (by omega) (by omega)]; omega, ?_⟩
  rw [Bool.and_eq_true, decide_eq_true_iff, decide_eq_true_iff]; omega
theorem runway_Change.v (l : List Mv) (s : List Sp) (t : Int) (hl : l.length < 4611686018427387904) (hs : s.length < 4611686018427387904) : runway_Change.fn N (l, s, t) = some (chR l s t) := by
  rw [runway_Change.clean, runway_Check.v hN l hl, runway_Spans.v hN s hs]
  simp -implicitDefEqProofs only [Option.bind_some]
  unfold chR
  cases h1 : (movesErr l == 0) with
  | false => rfl
  | true =>
    cases h2 : (spansErr s == 0) with
    | false => rfl
    | true =>
      obtain ⟨m1, m2⟩ := movesErr_ok (beq_iff_eq.1 h1)
      obtain ⟨k1, k2, k3, k4⟩ := spansErr_ok (beq_iff_eq.1 h2)
      obtain ⟨e1, e2⟩ := last_at hN k2 hs
      have hla := k3 _ (last_mem hN k2)
      unfold spOk at hla
      rw [e1, e2, Int.toNat_natCast]
      have hg : List.getD s (s.length - 1) (0, 0) = lastSp s := rfl
      simp -implicitDefEqProofs only [hg, w_small ((lastSp s).1 + 360) (by omega) (by omega), Bool.not_true, cond_false, cond_true]
      cases h3 : ((s.length : Int) == 24) with
      | true => rfl
      | false =>
        simp -implicitDefEqProofs only [cond_false]
        cases h4 : ((decide (t < 0) || decide (t > 200000)) || decide (t < (lastSp s).1 + 360)) with
        | true => rfl
        | false =>
          simp -implicitDefEqProofs only [cond_false]
          simp only [Bool.or_eq_false_iff, decide_eq_false_iff_not] at h4
          have hcap : (decide ((s.length + 1) * 16 ≤ 140737488355328) && decide ((s.length + 1) ≤ maxLen)) = true := by
            rw [Bool.and_eq_true, decide_eq_true_iff, decide_eq_true_iff]; unfold maxLen; omega
          refine (scan_list (l := l) (late t) (some ([], 15)) (some (s ++ [(t, w (1 - (lastSp s).2))], 0)) (fun k i => runway_Change.l0 N l s t k i) (fun k => ?_) (fun k pre x r h => ?_) N (by omega)).trans (bif_some _ _ _)
          · show runway_Change.l0 N l s t (k + 1) (l.length : Int) = _
            rw [runway_Change.l0_nil N l s t k, slices_Clone_RunwaySpan.v N s (by omega), e1, Int.toNat_natCast, hg]
            simp -implicitDefEqProofs only [Option.bind_some, hcap, cond_true]
          · show runway_Change.l0 N l s t (k + 1) (pre.length : Int) = _
            have hx := m2 x (by rw [h]; simp)
            rw [runway_Change.l0_cons N l s t k h hl, w_small (t - 180) (by omega) (by omega)]
            rw [show decide (x.1 > t - 180) = late t x by unfold late; rw [decide_eq_decide]; omega]
theorem RunwayChanges.pureN (x0 : List Mv) (x1 : List Sp) (x2 : Int) (hl : x0.length < 4611686018427387904) (hs : x1.length < 4611686018427387904) : law_RunwayChanges.fn N (x0, x1, x2) = some true := by
  obtain ⟨M, hM⟩ : ∃ M, N = M + 1 := ⟨N - 1, by omega⟩
  rw [law_RunwayChanges.clean, law_runwayFact.v hN, runway_Change.v hN x0 x1 x2 hl hs, ref_MovesError.v hN x0 hl, ref_EndsError.v hN x1 hs]
  simp -implicitDefEqProofs only [Option.bind_some, Bool.not_true, cond_false]
  -- the ends, told by what is wanted
  have j2e : ∀ (a : Int) (r : List Sp × Int), (a == 0) = false → r = ([], a) → law_RunwayChanges.j2 N x1 x2 r a = some true := by
    intro a r ha hr
    subst hr
    rw [law_RunwayChanges.j2_clean N x1 x2 _ a hM, ha]
    simp -implicitDefEqProofs
  have j6e : ∀ (a : Int) (r : List Sp × Int), (a == 0) = false → r = ([], a) → law_RunwayChanges.j6 N x1 x2 r a = some true := by
    intro a r ha hr
    subst hr
    rw [law_RunwayChanges.j6_clean N x1 x2 _ a hM, ha]
    simp -implicitDefEqProofs
  have j1e : ∀ (a : Int) (r : List Sp × Int), (a == 0) = false → r = ([], a) → law_RunwayChanges.j1 N x0 x1 x2 r a = some true := by
    intro a r ha hr
    rw [law_RunwayChanges.j1_eq N x0 x1 x2 r a hM, ha]
    exact j2e a r ha hr
  have j5e : ∀ (a : Int) (r : List Sp × Int), (a == 0) = false → r = ([], a) → law_RunwayChanges.j5 N x0 x1 x2 r a = some true := by
    intro a r ha hr
    rw [law_RunwayChanges.j5_eq N x0 x1 x2 r a hM, ha]
    exact j6e a r ha hr
  have j0e : ∀ (a : Int) (r : List Sp × Int), (a == 0) = false → r = ([], a) → law_RunwayChanges.j0 N x0 x1 x2 r a = some true := by
    intro a r ha hr
    rw [law_RunwayChanges.j0_clean N x0 x1 x2 r a hM, ha]
    simp -implicitDefEqProofs only [Bool.false_and, Bool.not_false, Bool.or_true, cond_true, cond_false]
    exact j1e a r ha hr
  have j4e : ∀ (a : Int) (r : List Sp × Int), (a == 0) = false → r = ([], a) → law_RunwayChanges.j4 N x0 x1 x2 r a = some true := by
    intro a r ha hr
    rw [law_RunwayChanges.j4_clean N x0 x1 x2 r a hM, ha]
    simp -implicitDefEqProofs only [Bool.false_and, Bool.not_false, Bool.or_true, cond_true, cond_false]
    exact j5e a r ha hr
  cases h1 : (movesErr x0 == 0) with
  | false =>
    simp -implicitDefEqProofs only [cond_false, Bool.false_and]
    exact j4e _ _ h1 (by unfold chR; rw [h1]; rfl)
  | true =>
    simp -implicitDefEqProofs only [cond_true]
    cases h2 : (spansErr x1 == 0) with
    | false =>
      simp -implicitDefEqProofs only [cond_false, Bool.false_and]
      exact j0e _ _ h2 (by unfold chR; rw [h1, h2]; rfl)
    | true =>
      obtain ⟨m1, m2⟩ := movesErr_ok (beq_iff_eq.1 h1)
      obtain ⟨k1, k2, k3, k4⟩ := spansErr_ok (beq_iff_eq.1 h2)
      obtain ⟨e1, e2⟩ := last_at hN k2 hs
      have hla := k3 _ (last_mem hN k2)
      unfold spOk at hla
      have hg : List.getD x1 (x1.length - 1) (0, 0) = lastSp x1 := rfl
      simp -implicitDefEqProofs only [Bool.true_and]
      cases h3 : ((x1.length : Int) == 24) with
      | true =>
        simp -implicitDefEqProofs only [cond_true]
        exact j0e _ _ rfl (by unfold chR; rw [h1, h2, h3]; rfl)
      | false =>
        simp -implicitDefEqProofs only [cond_false]
        rw [law_RunwayChanges.j0_clean N x0 x1 x2 _ _ hM, e1, e2, Int.toNat_natCast, h2, hg, w_small ((lastSp x1).1 + 360) (by omega) (by omega)]
        simp -implicitDefEqProofs only [Bool.true_or, Bool.true_and, cond_true]
        cases h4 : ((decide (x2 < 0) || decide (x2 > 200000)) || decide (x2 < (lastSp x1).1 + 360)) with
        | true =>
          simp -implicitDefEqProofs only [cond_true]
          exact j1e _ _ rfl (by unfold chR; rw [h1, h2, h3, h4]; rfl)
        | false =>
          simp -implicitDefEqProofs only [cond_false]
          have hch : chR x0 x1 x2 = bif x0.any (late x2) then ([], 15) else (x1 ++ [(x2, w (1 - (lastSp x1).2))], 0) := by unfold chR; rw [h1, h2, h3, h4]; rfl
          rw [law_RunwayChanges.j1_eq N x0 x1 x2 _ _ hM, h2, beq_iff_eq.1 h2]
          simp -implicitDefEqProofs only [cond_true]
          simp only [Bool.or_eq_false_iff, decide_eq_false_iff_not] at h4
          have hsc := scan_list (l := x0) (late x2) (law_RunwayChanges.j2 N x1 x2 (chR x0 x1 x2) 15) (law_RunwayChanges.j2 N x1 x2 (chR x0 x1 x2) 0) (fun k i => law_RunwayChanges.l3 N x0 x1 x2 (chR x0 x1 x2) 0 k i) (fun k => law_RunwayChanges.l3_nil N x0 x1 x2 _ 0 k) (fun k pre x r h => ?_) N (by omega)
          · refine hsc.trans ?_
            cases ha : x0.any (late x2) with
            | true => exact j2e 15 _ rfl (by rw [hch, ha]; rfl)
            | false =>
              rw [cond_false, hch, ha, cond_false, law_RunwayChanges.j2_clean N x1 x2 _ 0 hM, slices_Clone_RunwaySpan.v N x1 (by omega), e1, e2, Int.toNat_natCast, hg]
              have hcap : (decide ((x1.length + 1) * 16 ≤ 140737488355328) && decide ((x1.length + 1) ≤ maxLen)) = true := by
                rw [Bool.and_eq_true, decide_eq_true_iff, decide_eq_true_iff]; unfold maxLen; omega
              simp -implicitDefEqProofs only [beq_self_eq_true, Bool.not_true, cond_false, cond_true, Option.bind_some, hcap]
              rw [slices_Equal_RunwaySpan.self hN _ (by simp; omega)]
              rfl
          · show law_RunwayChanges.l3 N x0 x1 x2 _ 0 (k + 1) (pre.length : Int) = _
            have hx := m2 x (by rw [h]; simp)
            rw [law_RunwayChanges.l3_cons N x0 x1 x2 _ 0 k h hl, law_RunwayChanges_1.eq, Option.bind_some, w_small (x.1 + 180) (by omega) (by omega), decide_eq_true (show ((pre.length : Nat) : Int) ≥ 0 by omega)]
            rfl
end
theorem bytesM : Try.prog.bytesOf 35 = 32 := by kernel_rfl
theorem bytesS : Try.prog.bytesOf 60 = 16 := by kernel_rfl
theorem mv_len {l : List Mv} (h : Wf Try.prog (.sl 35 (.pair (.int .i64) (.pair (.int .i64) (.pair (.bool) (.int .i64))))) l) : l.length < 4611686018427387904 := by
  have := h.1
  rw [bytesM] at this
  simp -implicitDefEqProofs [reachBytes] at this
  omega
theorem sp_len {l : List Sp} (h : Wf Try.prog (.sl 60 (.pair (.int .i64) (.int .i64))) l) : l.length < 4611686018427387904 := by
  have := h.1
  rw [bytesS] at this
  simp -implicitDefEqProofs [reachBytes] at this
  omega
theorem RunwayChecks.pure (x0 : List Mv) (x1 : List Sp) (x2 : List Int) (x3 : Int) (h0 : Wf Try.prog (.sl 35 (.pair (.int .i64) (.pair (.int .i64) (.pair (.bool) (.int .i64))))) x0) (h1 : Wf Try.prog (.sl 60 (.pair (.int .i64) (.int .i64))) x1) (h2 : Wf Try.prog (.vec 16 .i64) x2) (h3 : Wf Try.prog (.int .i64) x3) : law_RunwayChecks.fn NN (x0, x1, x2, x3) = some true := RunwayChecks.pureN NN_big x0 x1 x2 x3 (mv_len h0) (sp_len h1) h2.1
theorem RunwaySafes.pure (x0 : List Mv) (x1 : List Sp) (x2 : List Int) (h0 : Wf Try.prog (.sl 35 (.pair (.int .i64) (.pair (.int .i64) (.pair (.bool) (.int .i64))))) x0) (h1 : Wf Try.prog (.sl 60 (.pair (.int .i64) (.int .i64))) x1) (h2 : Wf Try.prog (.vec 16 .i64) x2) : law_RunwaySafes.fn NN (x0, x1, x2) = some true := RunwaySafes.pureN NN_big x0 x1 x2 (mv_len h0) (sp_len h1) h2.1
theorem RunwayChanges.pure (x0 : List Mv) (x1 : List Sp) (x2 : Int) (h0 : Wf Try.prog (.sl 35 (.pair (.int .i64) (.pair (.int .i64) (.pair (.bool) (.int .i64))))) x0) (h1 : Wf Try.prog (.sl 60 (.pair (.int .i64) (.int .i64))) x1) (h2 : Wf Try.prog (.int .i64) x2) : law_RunwayChanges.fn NN (x0, x1, x2) = some true := RunwayChanges.pureN NN_big x0 x1 x2 (mv_len h0) (sp_len h1)
end Go.Proofs.Ytmaeakelhjmfeaa.Sk
