/- The laws RunwayChecks, RunwaySafes, RunwayInserts, RunwayChanges, plain: what the printed functions answer. -/
import Derived.Test.YtmaeakelhjmfeaaRunwayEq
set_option linter.unusedVariables false
set_option linter.unusedSimpArgs false
set_option linter.unusedSectionVars false
set_option maxRecDepth 100000
namespace Go.Proofs.Ytmaeakelhjmfeaa.Sk
open Go

theorem bif_some {α : Type} (b : Bool) (x y : α) : (bif b then some x else some y) = some (bif b then x else y) := by cases b <;> rfl
def entBad (v : Int) : Bool := decide (v < 30) || decide (v > 600)
def tri (x : List Int) (a b c : Nat) : Bool := decide (x.getD (a * 4 + c) 0 > x.getD (a * 4 + b) 0 + x.getD (b * 4 + c) 0)
def tabErr (x : List Int) : Int :=
  bif (List.range 16).any (fun i => entBad (x.getD i 0)) then 4 else bif (List.range 4).any (fun a => (List.range 4).any fun b => (List.range 4).any fun c => tri x a b c) then 3 else 0
def cls (c : Int) : Bool := decide (c < 0) || decide (c > 3)
def gp (x : List Int) (a b : Int) : Int := x.getD (a.toNat * 4 + b.toNat) 0

theorem ents {x : List Int} (h : (List.range 16).any (fun i => entBad (x.getD i 0)) = false) : ∀ i, i < 16 → 30 ≤ x.getD i 0 ∧ x.getD i 0 ≤ 600 := by
  intro i hi
  rw [List.any_eq_false] at h
  have := h i (List.mem_range.2 hi)
  simp -implicitDefEqProofs only [entBad, Bool.or_eq_true, decide_eq_true_eq, not_or] at this
  omega
theorem tabErr_ents {x : List Int} (h : tabErr x = 0) : ∀ i, i < 16 → 30 ≤ x.getD i 0 ∧ x.getD i 0 ≤ 600 := by
  unfold tabErr at h
  cases hb : (List.range 16).any (fun i => entBad (x.getD i 0)) with
  | true => rw [hb] at h; cases h
  | false => exact ents hb
theorem tabErr_tri {x : List Int} (h : tabErr x = 0) : ∀ a b c, a < 4 → b < 4 → c < 4 → x.getD (a * 4 + c) 0 ≤ x.getD (a * 4 + b) 0 + x.getD (b * 4 + c) 0 := by
  intro a b c ha hb hc
  unfold tabErr at h
  cases h1 : (List.range 16).any (fun i => entBad (x.getD i 0)) with
  | true => rw [h1] at h; cases h
  | false =>
    rw [h1] at h
    cases h2 : (List.range 4).any (fun a => (List.range 4).any fun b => (List.range 4).any fun c => tri x a b c) with
    | true => rw [h2] at h; cases h
    | false =>
      rw [List.any_eq_false] at h2
      have h3 := h2 a (List.mem_range.2 ha)
      rw [Bool.not_eq_true, List.any_eq_false] at h3
      have h4 := h3 b (List.mem_range.2 hb)
      rw [Bool.not_eq_true, List.any_eq_false] at h4
      have h5 := h4 c (List.mem_range.2 hc)
      simp -implicitDefEqProofs only [tri, decide_eq_true_eq] at h5
      omega

section
variable {N : Nat} (hN : 4611686018427387904 ≤ N) {x : List Int} (hx : x.length = 16)
include hN hx

theorem l4v (hg : ∀ i, i < 16 → 30 ≤ x.getD i 0 ∧ x.getD i 0 ≤ 600) (k5 k7 a b : Nat) (ha : a < 4) (hb : b < 4) :
    wake_Check.l4 N x k5 a k7 b N 0 = bif (List.range 4).any (tri x a b) then some 3 else wake_Check.l3 N x k5 a k7 ((b : Int) + 1) := by
  refine scan_loop (n := 4) (tri x a b) (some 3) _ (fun k i => wake_Check.l4 N x k5 a k7 b k i) (fun k => ?_) (fun k c hc => ?_) N (by omega)
  · rw [wake_Check.l4_succ]; simp -implicitDefEqProofs [w_small ((b : Int) + 1) (by omega) (by omega)]
  · have h1 := hg (a * 4 + b) (by omega)
    have h2 := hg (b * 4 + c) (by omega)
    rw [wake_Check.l4_succ, vl_self hx, w_small ((c : Int) + 1) (by omega) (by omega)]
    simp -implicitDefEqProofs only [Int.toNat_natCast, Nat.zero_add, Nat.mul_one, w_small (x.getD (a * 4 + b) 0 + x.getD (b * 4 + c) 0) (by omega) (by omega), show decide ((a : Int) < 4) = true by simp; omega, show decide ((b : Int) < 4) = true by simp; omega, show decide ((c : Int) < 4) = true by simp; omega, show decide (0 ≤ (a : Int)) = true by simp,
      show decide (0 ≤ (b : Int)) = true by simp, show decide (0 ≤ (c : Int)) = true by simp, show decide (a * 4 + b < 16) = true by simp; omega, show decide (b * 4 + c < 16) = true by simp; omega, show decide (a * 4 + c < 16) = true by simp; omega, Bool.and_self, cond_true, tri]
theorem l3v (hg : ∀ i, i < 16 → 30 ≤ x.getD i 0 ∧ x.getD i 0 ≤ 600) (k5 a : Nat) (ha : a < 4) :
    wake_Check.l3 N x k5 a N 0 = bif (List.range 4).any (fun b => (List.range 4).any (tri x a b)) then some 3 else wake_Check.l2 N x k5 ((a : Int) + 1) := by
  refine scan_loop (n := 4) (fun b => (List.range 4).any (tri x a b)) (some 3) _ (fun k i => wake_Check.l3 N x k5 a k i) (fun k => ?_) (fun k b hb => ?_) N (by omega)
  · rw [wake_Check.l3_succ]; simp -implicitDefEqProofs [w_small ((a : Int) + 1) (by omega) (by omega)]
  · rw [wake_Check.l3_succ]
    simp -implicitDefEqProofs only [show decide ((b : Int) < 4) = true by simp; omega, cond_true]
    exact l4v hN hx hg k5 k a b ha hb
theorem l2v (hg : ∀ i, i < 16 → 30 ≤ x.getD i 0 ∧ x.getD i 0 ≤ 600) :
    wake_Check.l2 N x N 0 = bif (List.range 4).any (fun a => (List.range 4).any (fun b => (List.range 4).any (tri x a b))) then some 3 else some 0 := by
  refine scan_loop (n := 4) _ (some 3) _ (fun k i => wake_Check.l2 N x k i) (fun k => ?_) (fun k a ha => ?_) N (by omega)
  · rw [wake_Check.l2_succ]; simp
  · rw [wake_Check.l2_succ]
    simp -implicitDefEqProofs only [show decide ((a : Int) < 4) = true by simp; omega, cond_true]
    exact l3v hN hx hg k a ha
theorem l1v (k1 a : Nat) (ha : a < 4) : wake_Check.l1 N x k1 a N 0 = bif (List.range 4).any (fun b => entBad (x.getD (a * 4 + b) 0)) then some 4 else wake_Check.l0 N x k1 ((a : Int) + 1) := by
  refine scan_loop (n := 4) _ (some 4) _ (fun k i => wake_Check.l1 N x k1 a k i) (fun k => ?_) (fun k b hb => ?_) N (by omega)
  · rw [wake_Check.l1_succ]; simp -implicitDefEqProofs [w_small ((a : Int) + 1) (by omega) (by omega)]
  · rw [wake_Check.l1_clean, vl_self hx]
    have hb' : b = 0 ∨ b = 1 ∨ b = 2 ∨ b = 3 := by omega
    rcases hb' with rfl | rfl | rfl | rfl <;> simp -implicitDefEqProofs [entBad, List.getD, w_small] <;> rfl
theorem l0v : wake_Check.l0 N x N 0 = bif (List.range 4).any (fun a => (List.range 4).any (fun b => entBad (x.getD (a * 4 + b) 0))) then some 4 else wake_Check.l2 N x N 0 := by
  refine scan_loop (n := 4) _ (some 4) _ (fun k i => wake_Check.l0 N x k i) (fun k => ?_) (fun k a ha => ?_) N (by omega)
  · rw [wake_Check.l0_succ]; simp
  · rw [wake_Check.l0_succ]
    simp -implicitDefEqProofs only [show decide ((a : Int) < 4) = true by simp; omega, show decide (0 ≤ (a : Int)) = true by simp, Int.toNat_natCast, show decide (a * 4 + 4 ≤ 16) = true by simp; omega, cond_true, Bool.true_and]
    exact l1v hN hx k a ha
theorem any16 (p : Nat → Bool) : ((List.range 4).any fun a => (List.range 4).any fun b => p (a * 4 + b)) = (List.range 16).any p := by
  simp -implicitDefEqProofs [List.range, List.range.loop, Bool.or_assoc]
theorem wake_Check.v : wake_Check.fn N x = some (tabErr x) := by
  rw [wake_Check.eq, l0v hN hx, any16 hN hx fun i => entBad (x.getD i 0)]
  unfold tabErr
  cases h : (List.range 16).any (fun i => entBad (x.getD i 0)) with
  | true => rfl
  | false =>
    rw [cond_false, cond_false, l2v hN hx (ents h)]
    cases (List.range 4).any (fun a => (List.range 4).any (fun b => (List.range 4).any (tri x a b))) <;> rfl

theorem r1v (hg : ∀ i, i < 16 → 30 ≤ x.getD i 0 ∧ x.getD i 0 ≤ 600) : ref_TableError.l1 N x N 0 = bif (List.range 64).any (fun i => tri x (i / 16) (i / 4 % 4) (i % 4)) then some 3 else some 0 := by
  refine scan_loop (n := 64) _ (some 3) _ (fun k i => ref_TableError.l1 N x k i) (fun k => ?_) (fun k i hi => ?_) N (by omega)
  · rw [ref_TableError.l1_succ]; simp
  · have e1 : w (Int.tdiv (i : Int) 16) = ((i / 16 : Nat) : Int) := by rw [w_small] <;> (simp -implicitDefEqProofs only [Int.tdiv_eq_ediv_of_nonneg (Int.natCast_nonneg i)]; omega)
    have e2 : w (Int.tdiv (i : Int) 4) = ((i / 4 : Nat) : Int) := by rw [w_small] <;> (simp -implicitDefEqProofs only [Int.tdiv_eq_ediv_of_nonneg (Int.natCast_nonneg i)]; omega)
    have e3 : Int.tmod ((i / 4 : Nat) : Int) 4 = ((i / 4 % 4 : Nat) : Int) := by rw [Int.tmod_eq_emod_of_nonneg (Int.natCast_nonneg _)]; omega
    have e4 : Int.tmod (i : Int) 4 = ((i % 4 : Nat) : Int) := by rw [Int.tmod_eq_emod_of_nonneg (Int.natCast_nonneg _)]; omega
    rw [ref_TableError.l1_succ, vl_self hx, e1, e2, e3, e4]
    generalize ha : i / 16 = a
    generalize hb : i / 4 % 4 = b
    generalize hc : i % 4 = c
    have ha4 : a < 4 := by omega
    have hb4 : b < 4 := by omega
    have hc4 : c < 4 := by omega
    have h1 := hg (a * 4 + b) (by omega)
    have h2 := hg (b * 4 + c) (by omega)
    rw [w_small ((i : Int) + 1) (by omega) (by omega)]
    simp -implicitDefEqProofs only [Int.toNat_natCast, Nat.zero_add, Nat.mul_one, w_small (x.getD (a * 4 + b) 0 + x.getD (b * 4 + c) 0) (by omega) (by omega), show decide ((i : Int) < 64) = true by simp; omega, show decide ((a : Int) < 4) = true by simp; omega, show decide ((b : Int) < 4) = true by simp; omega, show decide ((c : Int) < 4) = true by simp; omega, show decide (0 ≤ (a : Int)) = true by simp,
      show decide (0 ≤ (b : Int)) = true by simp, show decide (0 ≤ (c : Int)) = true by simp, show decide (a * 4 + b < 16) = true by simp; omega, show decide (b * 4 + c < 16) = true by simp; omega, show decide (a * 4 + c < 16) = true by simp; omega, Bool.and_self, cond_true, tri]
theorem r0v : ref_TableError.l0 N x N 0 = bif (List.range 16).any (fun i => entBad (x.getD i 0)) then some 4 else ref_TableError.l1 N x N 0 := by
  refine scan_loop (n := 16) _ (some 4) _ (fun k i => ref_TableError.l0 N x k i) (fun k => ?_) (fun k i hi => ?_) N (by omega)
  · rw [ref_TableError.l0_succ]; simp
  · have e2 : w (Int.tdiv (i : Int) 4) = ((i / 4 : Nat) : Int) := by rw [w_small] <;> (simp -implicitDefEqProofs only [Int.tdiv_eq_ediv_of_nonneg (Int.natCast_nonneg i)]; omega)
    have e4 : Int.tmod (i : Int) 4 = ((i % 4 : Nat) : Int) := by rw [Int.tmod_eq_emod_of_nonneg (Int.natCast_nonneg _)]; omega
    rw [ref_TableError.l0_clean, vl_self hx, e2, e4]
    have e5 : i / 4 * 4 + i % 4 = i := by omega
    have ha : i / 4 < 4 := by omega
    have hb : i % 4 < 4 := by omega
    clear e2 e4
    revert e5 ha hb
    generalize i / 4 = a
    generalize i % 4 = b
    intro e5 ha hb
    rw [w_small ((i : Int) + 1) (by omega) (by omega)]
    simp -implicitDefEqProofs only [Int.toNat_natCast, Nat.zero_add, Nat.mul_one, e5, show decide ((i : Int) < 16) = true by simp; omega, show decide (i < 16) = true by simp; omega, show decide ((a : Int) < 4) = true by simp; omega, show decide ((b : Int) < 4) = true by simp; omega,
      show decide (0 ≤ (a : Int)) = true by simp, show decide (0 ≤ (b : Int)) = true by simp, Bool.and_self, Bool.true_or, cond_true, entBad]
theorem any64 (p : Nat → Nat → Nat → Bool) : ((List.range 64).any fun i => p (i / 16) (i / 4 % 4) (i % 4)) = ((List.range 4).any fun a => (List.range 4).any fun b => (List.range 4).any fun c => p a b c) := by
  simp -implicitDefEqProofs [List.range, List.range.loop, Bool.or_assoc]
theorem ref_TableError.v : ref_TableError.fn N x = some (tabErr x) := by
  rw [ref_TableError.eq, r0v hN hx]
  unfold tabErr
  cases h : (List.range 16).any (fun i => entBad (x.getD i 0)) with
  | true => rfl
  | false =>
    rw [cond_false, cond_false, r1v hN hx (ents h), any64 hN hx (tri x)]
    cases (List.range 4).any (fun a => (List.range 4).any (fun b => (List.range 4).any (tri x a b))) <;> rfl
end

theorem wake_Class.v {N : Nat} (hN : 4611686018427387904 ≤ N) (c : Int) : wake_Class.fn N c = some (bif cls c then 1 else 0) := by
  rw [wake_Class.clean]; unfold cls; cases (decide (c < 0) || decide (c > 3)) <;> rfl
theorem cls_ok {c : Int} (h : cls c = false) : 0 ≤ c ∧ c < 4 := by
  simp -implicitDefEqProofs only [cls, Bool.or_eq_false_iff, decide_eq_false_iff_not] at h; omega


theorem gp_ok {x : List Int} {a b : Int} (hx : x.length = 16) (ht : tabErr x = 0) (ha : cls a = false) (hb : cls b = false) : 30 ≤ gp x a b ∧ gp x a b ≤ 600 := by
  have h1 := cls_ok ha
  have h2 := cls_ok hb
  exact tabErr_ents ht _ (by omega)

/-! ### movements and directions -/
abbrev Mv := Int × Int × Bool × Int
abbrev Sp := Int × Int
def mvBad (x : Mv) : Bool := (decide (x.2.1 < 0) || decide (x.2.1 > 3)) || (!(x.2.2.2 == 0) && !(x.2.2.2 == 1))
def mvL : Int → List Mv → Int
  | _, [] => 0
  | a, x :: r => bif decide (x.1 < a) || decide (x.1 > 200000) then 12 else bif mvBad x then 1 else mvL x.1 r
theorem mvL_cons (a : Int) (x : Mv) (r : List Mv) : mvL a (x :: r) = bif decide (x.1 < a) || decide (x.1 > 200000) then 12 else bif mvBad x then 1 else mvL x.1 r := rfl
def movesErr (l : List Mv) : Int := bif decide ((l.length : Int) > 24) then 2 else mvL 0 l
def lastT (p : List Mv) : Int := (p.getLast?.map (·.1)).getD 0
theorem lastT_snoc (p : List Mv) (x : Mv) : lastT (p ++ [x]) = x.1 := by simp [lastT]
def gapOk (p : Option Sp) (t : Int) : Bool := match p with | none => false | some q => decide (t < q.1 + 360)
def sameEnd (p : Option Sp) (e : Int) : Bool := match p with | none => false | some q => e == q.2
def spL : Option Sp → List Sp → Int
  | _, [] => 0
  | p, x :: r => bif decide (x.2 < 0) || decide (x.2 > 1) then 1 else bif (decide (x.1 < 0) || decide (x.1 > 200000)) || gapOk p x.1 then 12 else bif sameEnd p x.2 then 11 else spL (some x) r
theorem spL_cons (p : Option Sp) (x : Sp) (r : List Sp) : spL p (x :: r) = bif decide (x.2 < 0) || decide (x.2 > 1) then 1 else bif (decide (x.1 < 0) || decide (x.1 > 200000)) || gapOk p x.1 then 12 else bif sameEnd p x.2 then 11 else spL (some x) r := rfl
def spansErr (l : List Sp) : Int := bif decide ((l.length : Int) > 24) then 2 else bif (l.length : Int) == 0 then 8 else spL none l
theorem end01 (e : Int) : (!(e == 0) && !(e == 1)) = (decide (e < 0) || decide (e > 1)) := by
  rw [Bool.eq_iff_iff]; simp; omega
def spOk (s : Sp) : Prop := 0 ≤ s.1 ∧ s.1 ≤ 200000 ∧ 0 ≤ s.2 ∧ s.2 ≤ 1
theorem spL_ok : ∀ {l : List Sp} {p : Option Sp}, spL p l = 0 → (∀ s ∈ l, spOk s) ∧ (∀ q, p = some q → ∀ s ∈ l, q.1 + 360 ≤ s.1) ∧ l.Pairwise fun a b => a.1 + 360 ≤ b.1
  | [], p, _ => ⟨fun _ h => (by cases h), fun _ _ _ h => (by cases h), .nil⟩
  | x :: r, p, h => by
    rw [spL_cons] at h
    cases h1 : (decide (x.2 < 0) || decide (x.2 > 1)) with
    | true => rw [h1] at h; cases h
    | false =>
      cases h2 : (decide (x.1 < 0) || decide (x.1 > 200000)) || gapOk p x.1 with
      | true => rw [h1, h2] at h; cases h
      | false =>
        cases h3 : sameEnd p x.2 with
        | true => rw [h1, h2, h3] at h; cases h
        | false =>
          rw [h1, h2, h3] at h
          have h : spL (some x) r = 0 := h
          obtain ⟨k1, k2, k3⟩ := spL_ok h
          simp only [Bool.or_eq_false_iff, decide_eq_false_iff_not] at h1 h2
          have hx : spOk x := ⟨by omega, by omega, by omega, by omega⟩
          have hq : ∀ q, p = some q → q.1 + 360 ≤ x.1 := by
            rintro q rfl
            have := h2.2
            simp only [gapOk, decide_eq_false_iff_not] at this
            omega
          refine ⟨List.forall_mem_cons.2 ⟨hx, k1⟩, fun q hp => List.forall_mem_cons.2 ⟨hq q hp, fun s hs => ?_⟩, .cons (fun s hs => k2 x rfl s hs) k3⟩
          have := k2 x rfl s hs
          have := hq q hp
          omega
theorem spansErr_ok {l : List Sp} (h : spansErr l = 0) : l.length ≤ 24 ∧ l ≠ [] ∧ (∀ s ∈ l, spOk s) ∧ l.Pairwise fun a b => a.1 + 360 ≤ b.1 := by
  unfold spansErr at h
  by_cases h1 : (l.length : Int) > 24
  · simp [h1] at h
  · cases h2 : ((l.length : Int) == 0) with
    | true => simp [h1, h2] at h
    | false =>
      simp only [h1, h2, decide_false, cond_false] at h
      obtain ⟨k1, _, k3⟩ := spL_ok h
      refine ⟨by omega, ?_, k1, k3⟩
      intro e; subst e; simp at h2
theorem mvL_ok : ∀ {l : List Mv} {a : Int}, 0 ≤ a → mvL a l = 0 → ∀ m ∈ l, 0 ≤ m.1 ∧ m.1 ≤ 200000 ∧ cls m.2.1 = false ∧ (m.2.2.2 = 0 ∨ m.2.2.2 = 1)
  | [], _, _, _ => fun _ h => (by cases h)
  | x :: r, a, ha, h => by
    rw [mvL_cons] at h
    cases h1 : (decide (x.1 < a) || decide (x.1 > 200000)) with
    | true => rw [h1] at h; cases h
    | false =>
      cases h2 : mvBad x with
      | true => rw [h1, h2] at h; cases h
      | false =>
        rw [h1, h2] at h
        have h : mvL x.1 r = 0 := h
        simp only [Bool.or_eq_false_iff, decide_eq_false_iff_not] at h1
        refine List.forall_mem_cons.2 ⟨⟨by omega, by omega, ?_⟩, mvL_ok (by omega) h⟩
        unfold mvBad at h2
        rw [Bool.or_eq_false_iff] at h2
        refine ⟨h2.1, ?_⟩
        have h3 := h2.2
        rw [end01] at h3
        simp only [Bool.or_eq_false_iff, decide_eq_false_iff_not] at h3
        omega
theorem movesErr_ok {l : List Mv} (h : movesErr l = 0) : l.length ≤ 24 ∧ ∀ m ∈ l, 0 ≤ m.1 ∧ m.1 ≤ 200000 ∧ cls m.2.1 = false ∧ (m.2.2.2 = 0 ∨ m.2.2.2 = 1) := by
  unfold movesErr at h
  by_cases h1 : (l.length : Int) > 24
  · simp [h1] at h
  · simp only [h1, decide_false, cond_false] at h
    exact ⟨by omega, mvL_ok (by omega) h⟩

section
variable {N : Nat} (hN : 4611686018427387904 ≤ N)
include hN
theorem runway_Check.v (l : List Mv) (hl : l.length < 4611686018427387904) : runway_Check.fn N l = some (movesErr l) := by
  rw [runway_Check.eq]
  unfold movesErr
  by_cases h : (l.length : Int) > 24
  · simp [h]
  simp only [h, decide_false, cond_false]
  refine list_loop (l := l) (σ := Unit) (fun k _ i => runway_Check.l0 N l k i) (fun pre r _ => some (mvL (lastT pre) r)) (fun pre _ => 0 ≤ lastT pre)
    (fun k _ _ => runway_Check.l0_nil N l k) (fun k pre x r _ hl' hI ih => ?_) N () (by decide) (by omega)
  show runway_Check.l0 N l (k + 1) (pre.length : Int) = _
  rw [runway_Check.l0_cons N l k hl' hl, mvL_cons]
  have key : ((decide (0 ≤ (w ((pre.length : Int) - 1))) && decide ((w ((pre.length : Int) - 1)) < (l.length : Int))) || !((!((decide ((x.1) < 0)) || (decide ((x.1) > 200000)))) && (decide ((pre.length : Int) > 0)))) = true ∧
      (((decide ((x.1) < 0)) || (decide ((x.1) > 200000))) || ((decide ((pre.length : Int) > 0)) && (decide ((x.1) < ((List.getD l (Int.toNat (w ((pre.length : Int) - 1))) (0, (0, (false, 0)))).1))))) = (decide (x.1 < lastT pre) || decide (x.1 > 200000)) := by
    rcases List.eq_nil_or_concat pre with rfl | ⟨p, y, rfl⟩
    · refine ⟨by simp, ?_⟩
      rw [show lastT [] = 0 from rfl]
      simp
    · have hlen : l.length = p.length + 2 + r.length := by rw [hl']; simp; omega
      have hw : w ((((p.concat y).length : Nat) : Int) - 1) = (p.length : Int) := by rw [show ((((p.concat y).length : Nat) : Int) - 1) = p.length by simp]; exact w_small _ (by omega) (by omega)
      have hg : List.getD l (Int.toNat (p.length : Int)) (0, (0, (false, 0))) = y := by
        rw [hl', Int.toNat_natCast, List.concat_eq_append, List.append_assoc]; exact getD_mid p y _ _
      rw [hw, hg]
      rw [List.concat_eq_append, lastT_snoc] at hI
      rw [List.concat_eq_append, lastT_snoc]
      refine ⟨by simp [hlen]; omega, ?_⟩
      rw [Bool.eq_iff_iff]
      simp
      omega
  rw [key.1, key.2, wake_Class.v hN]
  simp only [cond_true, Option.bind_some]
  cases h1 : (decide (x.1 < lastT pre) || decide (x.1 > 200000)) with
  | true => rfl
  | false =>
    simp only [cond_false]
    rw [← end01]
    unfold mvBad
    rw [show (decide (x.2.1 < 0) || decide (x.2.1 > 3)) = cls x.2.1 from rfl]
    simp only [Bool.or_eq_false_iff, decide_eq_false_iff_not] at h1
    have ih := ih () (by rw [lastT_snoc]; omega)
    rw [lastT_snoc] at ih
    cases cls x.2.1 with
    | true => rfl
    | false =>
      cases (!(x.2.2.2 == 0) && !(x.2.2.2 == 1)) with
      | true => rfl
      | false => exact ih
theorem ref_MovesError.v (l : List Mv) (hl : l.length < 4611686018427387904) : ref_MovesError.fn N l = some (movesErr l) := by
  rw [ref_MovesError.eq]
  unfold movesErr
  by_cases h : (l.length : Int) > 24
  · simp [h]
  simp only [h, decide_false, cond_false]
  refine list_loop (l := l) (fun k s i => ref_MovesError.l0 N l k s i) (fun _ r s => some (mvL s r)) (fun _ _ => True)
    (fun k s _ => ref_MovesError.l0_nil N l k s) (fun k pre x r s hl' _ ih => ?_) N 0 trivial (by omega)
  show ref_MovesError.l0 N l (k + 1) s (pre.length : Int) = _
  have ih : ref_MovesError.l0 N l k x.1 ((pre.length : Int) + 1) = some (mvL x.1 r) := ih _ trivial
  rw [ref_MovesError.l0_cons N l k s hl' hl, ih, mvL_cons]
  simp only [bif_some, mvBad]
theorem runway_Spans.v (l : List Sp) (hl : l.length < 4611686018427387904) : runway_Spans.fn N l = some (spansErr l) := by
  rw [runway_Spans.eq]
  unfold spansErr
  by_cases h : (l.length : Int) > 24
  · simp [h]
  cases h0 : ((l.length : Int) == 0) with
  | true => simp [h]
  | false =>
  simp only [h, decide_false, cond_false]
  refine list_loop (l := l) (σ := Unit) (fun k _ i => runway_Spans.l0 N l k i) (fun pre r _ => some (spL pre.getLast? r)) (fun pre _ => ∀ q, pre.getLast? = some q → 0 ≤ q.1 ∧ q.1 ≤ 200000)
    (fun k _ _ => runway_Spans.l0_nil N l k) (fun k pre x r _ hl' hI ih => ?_) N () (by simp) (by omega)
  show runway_Spans.l0 N l (k + 1) (pre.length : Int) = _
  rw [runway_Spans.l0_cons N l k hl' hl, spL_cons]
  have key : ((decide (0 ≤ (w ((pre.length : Int) - 1))) && decide ((w ((pre.length : Int) - 1)) < (l.length : Int))) || !((!((decide ((x.1) < 0)) || (decide ((x.1) > 200000)))) && (decide ((pre.length : Int) > 0)))) = true ∧
      ((decide (0 ≤ (w ((pre.length : Int) - 1))) && decide ((w ((pre.length : Int) - 1)) < (l.length : Int))) || !(decide ((pre.length : Int) > 0))) = true ∧
      (decide ((pre.length : Int) > 0) && (decide ((x.1) < (w (((List.getD l (Int.toNat (w ((pre.length : Int) - 1))) (0, 0)).1) + 360))))) = gapOk pre.getLast? x.1 ∧
      (decide ((pre.length : Int) > 0) && (x.2 == ((List.getD l (Int.toNat (w ((pre.length : Int) - 1))) (0, 0)).2))) = sameEnd pre.getLast? x.2 := by
    rcases List.eq_nil_or_concat pre with rfl | ⟨p, y, rfl⟩
    · exact ⟨by simp, by simp, by simp [gapOk], by simp [sameEnd]⟩
    · have hlen : l.length = p.length + 2 + r.length := by rw [hl']; simp; omega
      have hw : w ((((p.concat y).length : Nat) : Int) - 1) = (p.length : Int) := by rw [show ((((p.concat y).length : Nat) : Int) - 1) = p.length by simp]; exact w_small _ (by omega) (by omega)
      have hg : List.getD l (Int.toNat (p.length : Int)) (0, 0) = y := by
        rw [hl', Int.toNat_natCast, List.concat_eq_append, List.append_assoc]; exact getD_mid p y _ _
      have hy := hI y (by simp)
      have hw2 : w (y.1 + 360) = y.1 + 360 := w_small _ (by omega) (by omega)
      rw [hw, hg, hw2]
      exact ⟨by simp [hlen]; omega, by simp [hlen]; omega, by simp [gapOk], by simp [sameEnd]⟩
  obtain ⟨k1, k2, k3, k4⟩ := key
  rw [k1, k2, k3, k4]
  simp only [cond_true]
  cases h1 : (decide (x.2 < 0) || decide (x.2 > 1)) with
  | true => rfl
  | false =>
    cases h2 : (decide (x.1 < 0) || decide (x.1 > 200000)) with
    | true => rfl
    | false =>
      simp only [Bool.or_eq_false_iff, decide_eq_false_iff_not] at h2
      have ih := ih () (by intro q hq; simp at hq; subst hq; omega)
      simp only [List.getLast?_append, List.getLast?_singleton, Option.or_some] at ih
      cases gapOk pre.getLast? x.1 with
      | true => rfl
      | false =>
        cases sameEnd pre.getLast? x.2 with
        | true => rfl
        | false => exact ih
theorem ref_EndsError.v (l : List Sp) (hl : l.length < 4611686018427387904) : ref_EndsError.fn N l = some (spansErr l) := by
  rw [ref_EndsError.eq]
  unfold spansErr
  by_cases h : (l.length : Int) > 24
  · simp [h]
  cases h0 : ((l.length : Int) == 0) with
  | true => simp [h]
  | false =>
  simp only [h, decide_false, cond_false]
  refine list_loop (l := l) (σ := Unit) (fun k _ i => ref_EndsError.l0 N l k i) (fun pre r _ => some (spL pre.getLast? r)) (fun pre _ => ∀ q, pre.getLast? = some q → 0 ≤ q.1 ∧ q.1 ≤ 200000)
    (fun k _ _ => ref_EndsError.l0_nil N l k) (fun k pre x r _ hl' hI ih => ?_) N () (by simp) (by omega)
  show ref_EndsError.l0 N l (k + 1) (pre.length : Int) = _
  rw [ref_EndsError.l0_cons N l k hl' hl, spL_cons, end01]
  have key : ((decide (0 ≤ (w ((pre.length : Int) - 1))) && decide ((w ((pre.length : Int) - 1)) < (l.length : Int))) || !((!((decide ((x.1) < 0)) || (decide ((x.1) > 200000)))) && (decide ((pre.length : Int) > 0)))) = true ∧
      ((decide (0 ≤ (w ((pre.length : Int) - 1))) && decide ((w ((pre.length : Int) - 1)) < (l.length : Int))) || !(decide ((pre.length : Int) > 0))) = true ∧
      ((decide (x.1 < 0) || decide (x.1 > 200000)) = false → (decide ((pre.length : Int) > 0) && (decide ((w ((x.1) - ((List.getD l (Int.toNat (w ((pre.length : Int) - 1))) (0, 0)).1))) < 360))) = gapOk pre.getLast? x.1) ∧
      (decide ((pre.length : Int) > 0) && (x.2 == ((List.getD l (Int.toNat (w ((pre.length : Int) - 1))) (0, 0)).2))) = sameEnd pre.getLast? x.2 := by
    rcases List.eq_nil_or_concat pre with rfl | ⟨p, y, rfl⟩
    · exact ⟨by simp, by simp, by simp [gapOk], by simp [sameEnd]⟩
    · have hlen : l.length = p.length + 2 + r.length := by rw [hl']; simp; omega
      have hw : w ((((p.concat y).length : Nat) : Int) - 1) = (p.length : Int) := by rw [show ((((p.concat y).length : Nat) : Int) - 1) = p.length by simp]; exact w_small _ (by omega) (by omega)
      have hg : List.getD l (Int.toNat (p.length : Int)) (0, 0) = y := by
        rw [hl', Int.toNat_natCast, List.concat_eq_append, List.append_assoc]; exact getD_mid p y _ _
      have hy := hI y (by simp)
      rw [hw, hg]
      refine ⟨by simp [hlen]; omega, by simp [hlen]; omega, fun hb => ?_, by simp [sameEnd]⟩
      simp only [Bool.or_eq_false_iff, decide_eq_false_iff_not] at hb
      rw [w_small (x.1 - y.1) (by omega) (by omega), Bool.eq_iff_iff]
      simp [gapOk]
      omega
  obtain ⟨k1, k2, k3, k4⟩ := key
  rw [k1, k2, k4]
  simp only [cond_true]
  cases h1 : (decide (x.2 < 0) || decide (x.2 > 1)) with
  | true => rfl
  | false =>
    cases h2 : (decide (x.1 < 0) || decide (x.1 > 200000)) with
    | true => rfl
    | false =>
      rw [k3 h2]
      simp only [Bool.or_eq_false_iff, decide_eq_false_iff_not] at h2
      have ih := ih () (by intro q hq; simp at hq; subst hq; omega)
      simp only [List.getLast?_append, List.getLast?_singleton, Option.or_some] at ih
      cases gapOk pre.getLast? x.1 with
      | true => rfl
      | false =>
        cases sameEnd pre.getLast? x.2 with
        | true => rfl
        | false => exact ih
end
/-! ### which direction is open -/
def opL (t : Int) : Int → List Sp → Int × Int
  | e, [] => (e, -1)
  | e, s :: r => bif decide (t > s.1 - 180) && decide (t < s.1 + 180) then (0, s.1 + 180) else opL t (bif decide (t ≥ s.1) then s.2 else e) r
theorem opL_cons (t e : Int) (s : Sp) (r : List Sp) : opL t e (s :: r) = bif decide (t > s.1 - 180) && decide (t < s.1 + 180) then (0, s.1 + 180) else opL t (bif decide (t ≥ s.1) then s.2 else e) r := rfl
def opn : List Sp → Int → Int × Int
  | [], _ => (0, 0)
  | s :: r, t => bif decide (t < s.1) then (0, s.1) else opL t s.2 r
theorem opn_cons (s : Sp) (r : List Sp) (t : Int) : opn (s :: r) t = bif decide (t < s.1) then (0, s.1) else opL t s.2 r := rfl
def eaL (t : Int) : Int → List Sp → Int
  | e, [] => e
  | e, s :: r => bif decide (t - s.1 < 180) && decide (s.1 - t < 180) then -1 else eaL t (bif decide (s.1 ≤ t) then s.2 else e) r
theorem eaL_cons (t e : Int) (s : Sp) (r : List Sp) : eaL t e (s :: r) = bif decide (t - s.1 < 180) && decide (s.1 - t < 180) then -1 else eaL t (bif decide (s.1 ≤ t) then s.2 else e) r := rfl
def endAt (l : List Sp) (t : Int) : Int := bif decide ((opn l t).2 ≥ 0) then -1 else (opn l t).1
def eaM (t : Int) : List Sp → Int
  | [] => -1
  | s :: r => eaL t (bif decide (s.1 ≤ t) then s.2 else -1) r
def eaS (t : Int) : List Sp → List Sp → Int → Int
  | [], [], _ => -1
  | [], s :: r, e => eaL t (bif decide (s.1 ≤ t) then s.2 else e) r
  | _ :: _, r, e => eaL t e r
theorem opL_spec : ∀ {r : List Sp} {t e : Int}, (∀ s ∈ r, spOk s) → 0 ≤ e → e ≤ 1 → (eaL t e r = bif decide ((opL t e r).2 ≥ 0) then -1 else (opL t e r).1) ∧ ((opL t e r).2 = -1 ∧ 0 ≤ (opL t e r).1 ∧ (opL t e r).1 ≤ 1 ∨ t < (opL t e r).2 ∧ (opL t e r).2 ≤ 200180 ∧ (opL t e r).1 = 0 ∧ 0 ≤ (opL t e r).2)
  | [], t, e, _, h0, h1 => ⟨rfl, .inl ⟨rfl, h0, h1⟩⟩
  | s :: r, t, e, h, h0, h1 => by
    obtain ⟨hs, hr⟩ := List.forall_mem_cons.1 h
    rw [opL_cons, eaL_cons]
    have hc : (decide (t - s.1 < 180) && decide (s.1 - t < 180)) = (decide (t > s.1 - 180) && decide (t < s.1 + 180)) := by
      rw [Bool.eq_iff_iff]; simp; omega
    have hd : decide (s.1 ≤ t) = decide (t ≥ s.1) := rfl
    rw [hc, hd]
    unfold spOk at hs
    cases hb : (decide (t > s.1 - 180) && decide (t < s.1 + 180)) with
    | true =>
      simp only [Bool.and_eq_true, decide_eq_true_iff] at hb
      have : decide (s.1 + 180 ≥ 0) = true := by rw [decide_eq_true_iff]; omega
      simp only [cond_true, this]
      exact ⟨trivial, .inr ⟨by omega, by omega, trivial, by omega⟩⟩
    | false =>
      simp only [cond_false]
      refine opL_spec hr ?_ ?_ <;> cases decide (t ≥ s.1) <;> simp only [cond_true, cond_false] <;> omega
theorem eaL_none : ∀ {r : List Sp} {t : Int}, (∀ s ∈ r, t < s.1) → eaL t (-1) r = -1
  | [], _, _ => rfl
  | s :: r, t, h => by
    obtain ⟨hs, hr⟩ := List.forall_mem_cons.1 h
    rw [eaL_cons, decide_eq_false (show ¬ s.1 ≤ t by omega), cond_false, eaL_none hr]
    cases (decide (t - s.1 < 180) && decide (s.1 - t < 180)) <;> rfl
theorem opn_spec {l : List Sp} {t : Int} (hne : l ≠ []) (hs : ∀ s ∈ l, spOk s) : (opn l t).2 = -1 ∧ 0 ≤ (opn l t).1 ∧ (opn l t).1 ≤ 1 ∨ t < (opn l t).2 ∧ (opn l t).2 ≤ 200180 ∧ (opn l t).1 = 0 ∧ 0 ≤ (opn l t).2 := by
  cases l with
  | nil => exact absurd rfl hne
  | cons s r =>
    obtain ⟨h1, h2⟩ := List.forall_mem_cons.1 hs
    unfold spOk at h1
    rw [opn_cons]
    by_cases h : t < s.1
    · rw [decide_eq_true h]; exact .inr ⟨h, by simp; omega, rfl, h1.1⟩
    · rw [decide_eq_false h]; exact (opL_spec h2 h1.2.2.1 h1.2.2.2).2
section
variable {N : Nat} (hN : 4611686018427387904 ≤ N)
include hN
theorem runway_opened.v {l : List Sp} (t : Int) (hne : l ≠ []) (hs : ∀ s ∈ l, spOk s) (hl : l.length < 4611686018427387904) : runway_opened.fn N (l, t) = some (opn l t) := by
  rw [runway_opened.eq]
  cases l with
  | nil => exact absurd rfl hne
  | cons s r =>
    obtain ⟨h1, h2⟩ := List.forall_mem_cons.1 hs
    have c1 : decide (0 < ((s :: r).length : Int)) = true := by rw [decide_eq_true_iff]; simp only [List.length_cons]; omega
    have c2 : decide (1 ≤ ((s :: r).length : Int)) = true := by rw [decide_eq_true_iff]; simp only [List.length_cons]; omega
    have g : List.getD (s :: r) 0 (0, 0) = s := rfl
    rw [opn_cons]
    simp only [c1, c2, g, cond_true]
    by_cases h : t < s.1
    · rw [decide_eq_true h]; rfl
    · rw [decide_eq_false h]
      simp only [cond_false]
      have hdr : List.drop 1 (s :: r) = r := rfl
      refine list_loop (l := List.drop 1 (s :: r)) (fun k e i => runway_opened.l0 N (s :: r) t k e i) (fun _ r e => some (opL t e r)) (fun _ _ => True)
        (fun k e _ => runway_opened.l0_nil N (s :: r) t k e) (fun k pre x r' e hl' _ ih => ?_) N s.2 trivial (by simp at hl ⊢; omega)
      show runway_opened.l0 N (s :: r) t (k + 1) e (pre.length : Int) = _
      have ih : ∀ e, runway_opened.l0 N (s :: r) t k e ((pre.length : Int) + 1) = some (opL t e r') := fun e => ih e trivial
      have hx := h2 x (by rw [← hdr, hl']; simp)
      unfold spOk at hx
      rw [runway_opened.l0_cons N (s :: r) t k e hl' (by simp at hl ⊢; omega), opL_cons, w_small (x.1 - 180) (by omega) (by omega), w_small (x.1 + 180) (by omega) (by omega), ih, ih]
      cases (decide (t > x.1 - 180) && decide (t < x.1 + 180)) with
      | true => rfl
      | false => cases decide (t ≥ x.1) <;> rfl
theorem ref_EndAt.v {l : List Sp} (t : Int) (hne : l ≠ []) (hs : ∀ s ∈ l, spOk s) (hp : l.Pairwise fun a b => a.1 + 360 ≤ b.1) (ht0 : -1000000 ≤ t) (ht1 : t ≤ 1000000) (hl : l.length < 4611686018427387904) : ref_EndAt.fn N (l, t) = some (endAt l t) := by
  obtain ⟨M, hM⟩ : ∃ M, N = M + 1 := ⟨N - 1, by omega⟩
  rw [ref_EndAt.eq]
  have main : ref_EndAt.l0 N l t N (-1) 0 = some (eaM t l) := by
    refine (list_loop (l := l) (fun k e i => ref_EndAt.l0 N l t k e i) (fun pre r e => some (eaS t pre r e)) (fun _ _ => True)
      (fun k e _ => ?_) (fun k pre x r e hl' _ ih => ?_) N (-1) trivial (by omega)).trans ?_
    · show ref_EndAt.l0 N l t (k + 1) e (l.length : Int) = _
      rw [ref_EndAt.l0_nil N l t k e]
      cases l with
      | nil => exact absurd rfl hne
      | cons _ _ => rfl
    · show ref_EndAt.l0 N l t (k + 1) e (pre.length : Int) = _
      have hx := hs x (by rw [hl']; simp)
      unfold spOk at hx
      have hg : List.getD l pre.length (0, 0) = x := by rw [hl']; exact getD_mid pre x r _
      have ih : ∀ e, ref_EndAt.l0 N l t k e ((pre.length : Int) + 1) = some (eaL t e r) := fun e => by
        rw [ih e trivial]
        cases pre <;> rfl
      have j : ∀ e, ref_EndAt.j1 N l t k (pre.length : Int) e = some (bif decide ((pre.length : Int) > 0) && (decide (t - x.1 < 180) && decide (x.1 - t < 180)) then -1 else eaL t e r) := by
        intro e
        rw [ref_EndAt.j1_clean N l t k (pre.length : Int) e hM]
        simp only [Int.toNat_natCast, hg, w_next hl' hl, ih, w_small (t - x.1) (by omega) (by omega), w_small (x.1 - t) (by omega) (by omega), bif_some, Bool.and_assoc]
      rw [ref_EndAt.l0_cons N l t k e hl' hl, j, j, bif_some]
      cases pre with
      | nil => simp only [eaS, List.length_nil]; cases decide (x.1 ≤ t) <;> rfl
      | cons p ps =>
        rw [show decide ((((p :: ps).length : Nat) : Int) > 0) = true by rw [decide_eq_true_iff]; simp only [List.length_cons]; omega]
        show _ = some (eaL t e (x :: r))
        simp only [Bool.true_and, eaL_cons]
        cases decide (x.1 ≤ t) <;> rfl
    · cases l <;> rfl
  rw [main]
  cases l with
  | nil => exact absurd rfl hne
  | cons s r =>
    obtain ⟨h1, h2⟩ := List.forall_mem_cons.1 hs
    obtain ⟨p1, p2⟩ := List.pairwise_cons.1 hp
    unfold spOk at h1
    unfold endAt
    rw [opn_cons]
    show some (eaL t (bif decide (s.1 ≤ t) then s.2 else -1) r) = _
    by_cases h : t < s.1
    · rw [decide_eq_true h, decide_eq_false (show ¬ s.1 ≤ t by omega)]
      simp only [cond_false, cond_true]
      rw [eaL_none fun q hq => by have := p1 q hq; omega, decide_eq_true (show s.1 ≥ 0 from h1.1)]
      rfl
    · rw [decide_eq_false h, decide_eq_true (show s.1 ≤ t by omega)]
      simp only [cond_false, cond_true]
      rw [(opL_spec (t := t) h2 h1.2.2.1 h1.2.2.2).1]
end

/-! ### gaps -/
def gapM (x : List Int) (a b : Mv) : Int := bif a.2.2.1 == b.2.2.1 then gp x a.2.1 b.2.1 else 60
theorem gapM_ok {x : List Int} {a b : Mv} (hx : x.length = 16) (ht : tabErr x = 0) (ha : cls a.2.1 = false) (hb : cls b.2.1 = false) : 30 ≤ gapM x a b ∧ gapM x a b ≤ 600 := by
  unfold gapM
  cases (a.2.2.1 == b.2.2.1) with
  | true => exact gp_ok hx ht ha hb
  | false => simp
/-- The first index with a property, looked for from a place on. -/
theorem idx_loop {α X : Type} {l : List X} (p : X → Bool) (L : Nat → Int → Option α) (no : Option α) (hit : Int → Option α) (hnil : ∀ k, L (k + 1) (l.length : Int) = no)
    (hcons : ∀ k pre x r, l = pre ++ x :: r → L (k + 1) (pre.length : Int) = bif p x then hit (pre.length : Int) else L k ((pre.length : Int) + 1)) :
    ∀ (r pre : List X) (k : Nat), l = pre ++ r → r.length < k → L k (pre.length : Int) = bif idxL p r pre.length == -1 then no else hit (idxL p r pre.length) := by
  intro r pre k h hk
  refine list_from (l := l) (σ := Unit) (fun k _ i => L k i) (fun pre r _ => bif idxL p r pre.length == -1 then no else hit (idxL p r pre.length)) (fun _ _ => True) (fun k _ _ => hnil k) (fun k pre x r _ hl _ ih => ?_) r pre k () h trivial hk
  show L (k + 1) (pre.length : Int) = _
  rw [hcons k pre x r hl]
  cases hp : p x with
  | true =>
    have : (((pre.length : Nat) : Int) == -1) = false := by rw [beq_eq_false_iff_ne]; omega
    simp only [idxL, hp, cond_true, this, cond_false]
  | false =>
    have ih := ih () trivial
    rw [show (((pre ++ [x]).length : Nat) : Int) = (pre.length : Int) + 1 by simp] at ih
    simp only [idxL, hp, cond_false]
    exact ih
def wrP (x : List Int) (a b : Mv) : Bool := decide (b.1 - a.1 < gapM x a b)
def wrA (x : List Int) : List Mv → Int → Int × Int
  | [], _ => (-1, -1)
  | a :: r, i => bif idxL (wrP x a) r (i + 1) == -1 then wrA x r (i + 1) else (i, idxL (wrP x a) r (i + 1))
theorem wrA_cons (x : List Int) (a : Mv) (r : List Mv) (i : Int) : wrA x (a :: r) i = bif idxL (wrP x a) r (i + 1) == -1 then wrA x r (i + 1) else (i, idxL (wrP x a) r (i + 1)) := rfl
theorem wrA_ge (x : List Int) : ∀ (l : List Mv) (i : Int), 0 ≤ i → (wrA x l i).1 = -1 ∨ 0 ≤ (wrA x l i).1
  | [], _, _ => .inl rfl
  | a :: r, i, h => by
    rw [wrA_cons]
    cases (idxL (wrP x a) r (i + 1) == -1) with
    | true => exact wrA_ge x r (i + 1) (by omega)
    | false => exact .inr h
theorem wrA_none (x : List Int) : ∀ (l : List Mv) (i : Int), 0 ≤ i → (wrA x l i).1 = -1 → wrA x l i = (-1, -1)
  | [], _, _, _ => rfl
  | a :: r, i, h, h1 => by
    rw [wrA_cons] at h1 ⊢
    cases hq : (idxL (wrP x a) r (i + 1) == -1) with
    | true => rw [hq] at h1; exact wrA_none x r (i + 1) (by omega) h1
    | false => rw [hq] at h1; simp only [cond_false] at h1; omega
theorem pairs_loop {α : Type} {N : Nat} {l : List Mv} (x : List Int) (hl : l.length < N) (hb : l.length < 4611686018427387904) (L0 : Nat → Int → Option α) (L1 : Nat → Int → Nat → Int → Option α) (no : Option α) (hit : Int → Int → Option α)
    (h0n : ∀ k, L0 (k + 1) (l.length : Int) = no) (h0c : ∀ k pre a r, l = pre ++ a :: r → L0 (k + 1) (pre.length : Int) = L1 k (pre.length : Int) N ((pre.length : Int) + 1))
    (h1n : ∀ k i k3, L1 k i (k3 + 1) (l.length : Int) = L0 k (w (i + 1)))
    (h1c : ∀ k pre a r k3 pre' b r', l = pre ++ a :: r → l = pre' ++ b :: r' → L1 k (pre.length : Int) (k3 + 1) (pre'.length : Int) = bif wrP x a b then hit (pre.length : Int) (pre'.length : Int) else L1 k (pre.length : Int) k3 ((pre'.length : Int) + 1)) :
    L0 N 0 = bif (wrA x l 0).1 == -1 then no else hit (wrA x l 0).1 (wrA x l 0).2 := by
  refine list_loop (l := l) (σ := Unit) (fun k _ i => L0 k i) (fun pre r _ => bif (wrA x r pre.length).1 == -1 then no else hit (wrA x r pre.length).1 (wrA x r pre.length).2) (fun _ _ => True) (fun k _ _ => h0n k) (fun k pre a r _ hl' _ ih => ?_) N () trivial hl
  show L0 (k + 1) (pre.length : Int) = _
  have ih := ih () trivial
  have e : (((pre ++ [a]).length : Nat) : Int) = (pre.length : Int) + 1 := by simp
  have hlen : l.length = pre.length + 1 + r.length := by rw [hl']; simp; omega
  have key := idx_loop (l := l) (wrP x a) (fun k3 i => L1 k (pre.length : Int) k3 i) (L0 k (w ((pre.length : Int) + 1))) (fun j => hit (pre.length : Int) j) (fun k3 => h1n k _ k3) (fun k3 pre' b r' h => h1c k pre a r k3 pre' b r' hl' h) r (pre ++ [a]) N (by rw [hl']; simp) (by omega)
  rw [e] at key ih
  rw [h0c k pre a r hl', key, w_next hl' hb, wrA_cons]
  cases h : (idxL (wrP x a) r ((pre.length : Int) + 1) == -1) with
  | true => simp only [cond_true]; exact ih
  | false =>
    have : (((pre.length : Nat) : Int) == -1) = false := by rw [beq_eq_false_iff_ne]; omega
    simp only [cond_false, this]
section
variable {N : Nat} (hN : 4611686018427387904 ≤ N) {x : List Int} (hx : x.length = 16)
include hN hx
theorem runway_gap.v {a b : Mv} (ha : cls a.2.1 = false) (hb : cls b.2.1 = false) : runway_gap.fn N (x, a, b) = some (gapM x a b) := by
  have ha' := cls_ok ha
  have hb' := cls_ok hb
  rw [runway_gap.eq, vl_self hx]
  unfold gapM gp
  have c1 : (decide (0 ≤ a.2.1) && decide (a.2.1 < 4)) = true := by rw [Bool.and_eq_true, decide_eq_true_iff, decide_eq_true_iff]; omega
  have c2 : (decide (0 ≤ b.2.1) && decide (b.2.1 < 4)) = true := by rw [Bool.and_eq_true, decide_eq_true_iff, decide_eq_true_iff]; omega
  have c3 : decide (a.2.1.toNat * 4 + b.2.1.toNat < 16) = true := by rw [decide_eq_true_iff]; omega
  simp only [c1, c2, Nat.zero_add, Nat.mul_one, c3, cond_true, bif_some]
theorem ref_Apart.v {a b : Mv} (ha : cls a.2.1 = false) (hb : cls b.2.1 = false) : ref_Apart.fn N (x, a, b) = some (gapM x a b) := by
  have ha' := cls_ok ha
  have hb' := cls_ok hb
  rw [ref_Apart.eq, vl_self hx]
  unfold gapM gp
  have c1 : (decide (0 ≤ a.2.1) && decide (a.2.1 < 4)) = true := by rw [Bool.and_eq_true, decide_eq_true_iff, decide_eq_true_iff]; omega
  have c2 : (decide (0 ≤ b.2.1) && decide (b.2.1 < 4)) = true := by rw [Bool.and_eq_true, decide_eq_true_iff, decide_eq_true_iff]; omega
  have c3 : decide (a.2.1.toNat * 4 + b.2.1.toNat < 16) = true := by rw [decide_eq_true_iff]; omega
  simp only [c1, c2, Nat.zero_add, Nat.mul_one, c3, cond_true, bif_some]
  cases (a.2.2.1 == b.2.2.1) <;> rfl
theorem moves_one {m : Mv} (h : movesErr [m] = 0) : cls m.2.1 = false := ((movesErr_ok h).2 m (by simp)).2.2.1
def gapRes (x : List Int) (a b : Mv) : Int × Int := bif !(tabErr x == 0) then (0, tabErr x) else bif !(movesErr [a] == 0) then (0, movesErr [a]) else bif !(movesErr [b] == 0) then (0, movesErr [b]) else (gapM x a b, 0)
theorem runway_Gap.v (a b : Mv) : runway_Gap.fn N (x, a, b) = some (gapRes x a b) := by
  obtain ⟨M, hM⟩ : ∃ M, N = M + 8 := ⟨N - 8, by omega⟩
  rw [runway_Gap.eq N x a b hM]
  simp only [vl_self hx, wake_Check.v hN hx, Option.bind_some, runway_Check.v hN [a] (by simp), runway_Check.v hN [b] (by simp)]
  unfold gapRes
  cases h1 : (tabErr x == 0) with
  | false => rfl
  | true =>
    cases h2 : (movesErr [a] == 0) with
    | false => rfl
    | true =>
      cases h3 : (movesErr [b] == 0) with
      | false => rfl
      | true =>
        rw [runway_gap.v hN hx (moves_one hN hx (beq_iff_eq.1 h2)) (moves_one hN hx (beq_iff_eq.1 h3))]
        rfl
end
def dirR (l : List Sp) (t : Int) : Int × Int := bif !(spansErr l == 0) then (0, spansErr l) else bif decide (t < 0) || decide (t > 200000) then (0, 12) else bif decide ((opn l t).2 ≥ 0) then (0, 14) else ((opn l t).1, 0)
section
variable {N : Nat} (hN : 4611686018427387904 ≤ N)
include hN
theorem runway_Direction.v (l : List Sp) (t : Int) (hl : l.length < 4611686018427387904) : runway_Direction.fn N (l, t) = some (dirR l t) := by
  rw [runway_Direction.clean, runway_Spans.v hN l hl]
  unfold dirR
  simp only [Option.bind_some]
  cases h1 : (spansErr l == 0) with
  | false => rfl
  | true =>
    obtain ⟨k1, k2, k3, k4⟩ := spansErr_ok (beq_iff_eq.1 h1)
    rw [runway_opened.v hN t k2 k3 hl]
    simp only [Option.bind_some, bif_some]
end

section
variable {N : Nat} (hN : 4611686018427387904 ≤ N)
include hN
/-! ### RunwaySafes -/
def planR (l : List Mv) (s : List Sp) (x : List Int) : Int := bif !(movesErr l == 0) then movesErr l else bif !(spansErr s == 0) then spansErr s else tabErr x
def safeR (x : List Int) (l : List Mv) (s : List Sp) : Int × Int × Int :=
  bif idxL (fun m : Mv => !(endAt s m.1 == m.2.2.2)) l 0 == -1 then (bif (wrA x l 0).1 == -1 then (0, 0, 0) else ((wrA x l 0).1, (wrA x l 0).2, 15))
  else (idxL (fun m : Mv => !(endAt s m.1 == m.2.2.2)) l 0, idxL (fun m : Mv => !(endAt s m.1 == m.2.2.2)) l 0, 14)
theorem runway_all.v (l : List Mv) (s : List Sp) {x : List Int} (hx : x.length = 16) (hl : l.length < 4611686018427387904) (hs : s.length < 4611686018427387904) : runway_all.fn N (l, s, x) = some (planR l s x) := by
  rw [runway_all.eq, runway_Check.v hN l hl, runway_Spans.v hN s hs, vl_self hx, wake_Check.v hN hx]
  simp -implicitDefEqProofs only [Option.bind_some, bif_some, planR]
theorem law_planError.v (l : List Mv) (s : List Sp) {x : List Int} (hx : x.length = 16) (hl : l.length < 4611686018427387904) (hs : s.length < 4611686018427387904) : law_planError.fn N (l, s, x) = some (planR l s x) := by
  rw [law_planError.eq, ref_MovesError.v hN l hl, ref_EndsError.v hN s hs, vl_self hx, ref_TableError.v hN hx]
  simp -implicitDefEqProofs only [Option.bind_some, bif_some, planR]
theorem planR_ok {l : List Mv} {s : List Sp} {x : List Int} (h : planR l s x = 0) : movesErr l = 0 ∧ spansErr s = 0 ∧ tabErr x = 0 := by
  unfold planR at h
  cases h1 : (movesErr l == 0) with
  | false => rw [h1] at h; simp at h1; exact absurd h h1
  | true =>
    cases h2 : (spansErr s == 0) with
    | false => rw [h1, h2] at h; simp at h2; exact absurd h h2
    | true => rw [h1, h2] at h; exact ⟨beq_iff_eq.1 h1, beq_iff_eq.1 h2, h⟩
theorem mid_pair {l pre pre' r r' : List Mv} {a b : Mv} (h1 : l = pre ++ a :: r) (h2 : l = pre' ++ b :: r') : List.getD l pre.length (0, (0, (false, 0))) = a ∧ a ∈ l ∧ b ∈ l :=
  ⟨by rw [h1]; exact getD_mid pre a r _, by rw [h1]; simp, by rw [h2]; simp⟩
theorem runway_wrong.v {l : List Mv} {x : List Int} (hx : x.length = 16) (ht : tabErr x = 0) (hm : ∀ m ∈ l, 0 ≤ m.1 ∧ m.1 ≤ 1000000 ∧ cls m.2.1 = false) (hl : l.length < 4611686018427387904) : runway_wrong.fn N (l, x) = some (wrA x l 0) := by
  rw [runway_wrong.eq]
  refine (pairs_loop (l := l) x (by omega) hl (fun k i => runway_wrong.l0 N l x k i) (fun k i k3 j => runway_wrong.l1 N l x k i k3 j) (some (-1, -1)) (fun i j => some (i, j)) (fun k => runway_wrong.l0_nil N l x k) (fun k pre a r h => runway_wrong.l0_cons N l x k h hl)
    (fun k i k3 => runway_wrong.l1_nil N l x k i k3) (fun k pre a r k3 pre' b r' h1 h2 => ?_)).trans ?_
  · show runway_wrong.l1 N l x k (pre.length : Int) (k3 + 1) (pre'.length : Int) = _
    obtain ⟨g, ha, hb⟩ := mid_pair hN h1 h2
    have ha := hm a ha
    have hb := hm b hb
    rw [runway_wrong.l1_cons N l x k (pre.length : Int) k3 h2 hl, vl_self hx, Int.toNat_natCast, g, runway_gap.v hN hx ha.2.2 hb.2.2, Option.bind_some, w_small (b.1 - a.1) (by omega) (by omega)]
    rfl
  · rcases wrA_ge x l 0 (by omega) with h | h
    · rw [wrA_none x l 0 (by omega) h]; rfl
    · rw [show ((wrA x l 0).1 == -1) = false by rw [beq_eq_false_iff_ne]; omega]; rfl
theorem runway_Safe.v (l : List Mv) (s : List Sp) {x : List Int} (hx : x.length = 16) (hl : l.length < 4611686018427387904) (hs : s.length < 4611686018427387904) :
    runway_Safe.fn N (l, s, x) = some (bif !(planR l s x == 0) then (0, 0, planR l s x) else safeR x l s) := by
  rw [runway_Safe.eq, vl_self hx, runway_all.v hN l s hx hl hs, Option.bind_some]
  cases hp : (planR l s x == 0) with
  | false => rfl
  | true =>
    obtain ⟨h1, h2, h3⟩ := planR_ok hN (beq_iff_eq.1 hp)
    obtain ⟨m1, m2⟩ := movesErr_ok h1
    obtain ⟨k1, k2, k3, k4⟩ := spansErr_ok h2
    simp -implicitDefEqProofs only [Bool.not_true, cond_false]
    have hw := runway_wrong.v hN hx h3 (fun m hm => by have := m2 m hm; exact ⟨by omega, by omega, this.2.2.1⟩) hl
    have key := idx_loop (l := l) (fun m : Mv => !(endAt s m.1 == m.2.2.2)) (fun k i => runway_Safe.l0 N l s x k i) (some (bif (wrA x l 0).1 == -1 then (0, 0, 0) else ((wrA x l 0).1, (wrA x l 0).2, 15))) (fun i => some (i, i, 14)) (fun k => ?_) (fun k pre m r h => ?_) l [] N rfl (by omega)
    · rw [show (([] : List Mv).length : Int) = 0 from rfl] at key
      rw [key, bif_some]
      rfl
    · show runway_Safe.l0 N l s x (k + 1) (l.length : Int) = _
      rw [runway_Safe.l0_nil N l s x k, vl_self hx, hw, Option.bind_some]
      rcases wrA_ge x l 0 (by omega) with h | h
      · rw [h]; rfl
      · rw [show ((wrA x l 0).1 == -1) = false by rw [beq_eq_false_iff_ne]; omega, decide_eq_true h]; rfl
    · show runway_Safe.l0 N l s x (k + 1) (pre.length : Int) = _
      have hm := m2 m (by rw [h]; simp)
      rw [runway_Safe.l0_cons N l s x k h hl, runway_opened.v hN m.1 k2 k3 hs, Option.bind_some]
      unfold endAt
      rcases opn_spec (t := m.1) k2 k3 with ⟨q1, q2, q3⟩ | ⟨q1, q2, q3, q4⟩
      · have c : decide ((opn s m.1).2 ≥ 0) = false := by rw [q1]; rfl
        rw [c, Bool.false_or, cond_false]
      · have c : decide ((opn s m.1).2 ≥ 0) = true := by rw [decide_eq_true_iff]; omega
        have c2 : ((-1 : Int) == m.2.2.2) = false := by rw [beq_eq_false_iff_ne]; omega
        rw [c, Bool.true_or, cond_true, cond_true, c2]
        rfl
theorem ref_Wrong.v {l : List Mv} {s : List Sp} {x : List Int} (hx : x.length = 16) (ht : tabErr x = 0) (hm : ∀ m ∈ l, 0 ≤ m.1 ∧ m.1 ≤ 200000 ∧ cls m.2.1 = false) (k2 : s ≠ []) (k3 : ∀ q ∈ s, spOk q) (k4 : s.Pairwise fun a b => a.1 + 360 ≤ b.1)
    (hl : l.length < 4611686018427387904) (hs : s.length < 4611686018427387904) : ref_Wrong.fn N (l, s, x) = some (safeR x l s) := by
  rw [ref_Wrong.eq]
  have hw : ref_Wrong.l1 N l x N 0 = some (bif (wrA x l 0).1 == -1 then (0, 0, 0) else ((wrA x l 0).1, (wrA x l 0).2, 15)) := by
    refine (pairs_loop (l := l) x (by omega) hl (fun k i => ref_Wrong.l1 N l x k i) (fun k i k3 j => ref_Wrong.l2 N l x k i k3 j) (some (0, 0, 0)) (fun i j => some (i, j, 15)) (fun k => ref_Wrong.l1_nil N l x k) (fun k pre a r h => ref_Wrong.l1_cons N l x k h hl)
      (fun k i k3 => ref_Wrong.l2_nil N l x k i k3) (fun k pre a r k3 pre' b r' h1 h2 => ?_)).trans (bif_some _ _ _)
    show ref_Wrong.l2 N l x k (pre.length : Int) (k3 + 1) (pre'.length : Int) = _
    obtain ⟨g, ha, hb⟩ := mid_pair hN h1 h2
    have ha := hm a ha
    have hb := hm b hb
    have hg := gapM_ok hx ht ha.2.2 hb.2.2
    have hlen : l.length = pre.length + 1 + r.length := by rw [h1]; simp; omega
    have c : (decide (0 ≤ (pre.length : Int)) && decide ((pre.length : Int) < (l.length : Int))) = true := by rw [Bool.and_eq_true, decide_eq_true_iff, decide_eq_true_iff]; omega
    rw [ref_Wrong.l2_cons N l x k (pre.length : Int) k3 h2 hl, vl_self hx, Int.toNat_natCast, g, c, ref_Apart.v hN hx ha.2.2 hb.2.2, Option.bind_some, w_small (a.1 + gapM x a b) (by omega) (by omega)]
    simp only [cond_true]
    rw [show decide (b.1 < a.1 + gapM x a b) = wrP x a b by unfold wrP; rw [decide_eq_decide]; omega]
  have key := idx_loop (l := l) (fun m : Mv => !(endAt s m.1 == m.2.2.2)) (fun k i => ref_Wrong.l0 N l s x k i) (some (bif (wrA x l 0).1 == -1 then (0, 0, 0) else ((wrA x l 0).1, (wrA x l 0).2, 15))) (fun i => some (i, i, 14)) (fun k => ?_) (fun k pre m r h => ?_) l [] N rfl (by omega)
  · rw [show (([] : List Mv).length : Int) = 0 from rfl] at key
    rw [key, bif_some]
    rfl
  · show ref_Wrong.l0 N l s x (k + 1) (l.length : Int) = _
    rw [ref_Wrong.l0_nil N l s x k, hw]
  · show ref_Wrong.l0 N l s x (k + 1) (pre.length : Int) = _
    have hm := hm m (by rw [h]; simp)
    rw [ref_Wrong.l0_cons N l s x k h hl, ref_EndAt.v hN m.1 k2 k3 k4 (by omega) (by omega) hs, Option.bind_some]
end

abbrev tbl : List Int := [60, 60, 60, 60, 120, 60, 60, 60, 180, 120, 90, 60, 240, 180, 120, 120]
section
variable {N : Nat} (hN : 4611686018427387904 ≤ N)
include hN
theorem change_fact : runway_Change.fn N ([(100, (1, (false, 0))), (160, (1, (true, 0)))], [(0, 0)], 1000) = some ([(0, 0), (1000, 1)], 0) := by
  obtain ⟨M, rfl⟩ : ∃ M, N = M + 8 := ⟨N - 8, by omega⟩
  kernel_rfl
theorem ins_fact : runway_Insert.l0 N [(0, 0)] tbl [(100, 1)] N 0 [(100, (1, (false, 0)))] = some ([(100, (1, (false, 0))), (160, (1, (true, 0)))], 0) := by
  obtain ⟨M, rfl⟩ : ∃ M, N = M + 8 := ⟨N - 8, by omega⟩
  kernel_rfl
theorem insert_fact : runway_Insert.fn N ([(100, (1, (false, 0)))], [(0, 0)], tbl, [(100, 1)]) = some ([(100, (1, (false, 0))), (160, (1, (true, 0)))], 0) := by
  have v : vl 16 tbl = tbl := rfl
  have s3 : runway_Safe.fn N ([(100, (1, (false, 0)))], [(0, 0)], tbl) = some (0, 0, 0) := (runway_Safe.v hN _ _ rfl (by simp) (by simp)).trans (by kernel_rfl)
  rw [runway_Insert.eq, v, s3, slices_Clone_RunwayMove.v N _ (by simp)]
  simp -implicitDefEqProofs only [Option.bind_some, ins_fact hN]
  rfl
theorem law_runwayFact.v : law_runwayFact.fn N () = some true := by
  have v : vl 16 tbl = tbl := rfl
  have s3 : runway_Safe.fn N ([(100, (1, (false, 0))), (160, (1, (true, 0)))], [(0, 0)], tbl) = some (0, 0, 0) := (runway_Safe.v hN _ _ rfl (by simp) (by simp)).trans (by kernel_rfl)
  have s5 : runway_Direction.fn N ([(0, 0), (1000, 1)], 821) = some (0, 14) := (runway_Direction.v hN _ _ (by simp)).trans (by kernel_rfl)
  have s6 : runway_Direction.fn N ([(0, 0), (1000, 1)], 1180) = some (1, 0) := (runway_Direction.v hN _ _ (by simp)).trans (by kernel_rfl)
  have s7 : runway_Gap.fn N (tbl, (100, (1, (false, 0))), (160, (1, (true, 0)))) = some (60, 0) := (runway_Gap.v hN rfl _ _).trans (by kernel_rfl)
  have s8 : runway_Safe.fn N ([(100, (1, (false, 0))), (100, (1, (false, 0)))], [(0, 0)], tbl) = some (0, 1, 15) := (runway_Safe.v hN _ _ rfl (by simp) (by simp)).trans (by kernel_rfl)
  have s9 : runway_Check.fn N [(0, (0, (false, 2)))] = some 1 := (runway_Check.v hN _ (by simp)).trans (by kernel_rfl)
  have s10 : runway_Spans.fn N [] = some 8 := (runway_Spans.v hN _ (by simp)).trans (by kernel_rfl)
  have g0 : List.getD ([(100, (1, (false, 0))), (160, (1, (true, 0)))] : List Mv) 0 (0, (0, (false, 0))) = (100, (1, (false, 0))) := rfl
  have g1 : List.getD ([(100, (1, (false, 0))), (160, (1, (true, 0)))] : List Mv) 1 (0, (0, (false, 0))) = (160, (1, (true, 0))) := rfl
  rw [law_runwayFact.eq]
  simp -implicitDefEqProofs only [wake_Standard.eq, v, insert_fact hN, Option.bind_some, s3, change_fact hN, s5, s6, g0, g1, s7, s8, s9, s10, List.length_cons, List.length_nil]
  rfl
end

/-! ### RunwayChecks -/
section
variable {N : Nat} (hN : 4611686018427387904 ≤ N)
include hN
theorem RunwayChecks.pureN (x0 : List Mv) (x1 : List Sp) (x2 : List Int) (x3 : Int) (hl : x0.length < 4611686018427387904) (hl1 : x1.length < 4611686018427387904) (hx : x2.length = 16) : law_RunwayChecks.fn N (x0, x1, x2, x3) = some true := by
  obtain ⟨M, hM⟩ : ∃ M, N = M + 1 := ⟨N - 1, by omega⟩
  rw [law_RunwayChecks.clean, law_runwayFact.v hN, runway_Direction.v hN x1 x3 hl1, ref_EndsError.v hN x1 hl1, runway_Check.v hN x0 hl, ref_MovesError.v hN x0 hl, runway_Spans.v hN x1 hl1]
  simp -implicitDefEqProofs only [Option.bind_some, Bool.not_true, cond_false, beq_self_eq_true, Bool.not_false, cond_true, Bool.false_or]
  -- the last part
  have tail : law_RunwayChecks.j1 N x0 x2 (dirR x1 x3) (dirR x1 x3).2 (dirR x1 x3).1 = some true := by
    rw [law_RunwayChecks.j1_clean N x0 x2 _ _ _ hM]
    simp -implicitDefEqProofs only [beq_self_eq_true, Bool.not_true, Bool.or_self, cond_false]
    by_cases h2 : (x0.length : Int) < 2
    · rw [decide_eq_true h2]; rfl
    have hw : w ((x0.length : Int) - 1) = (x0.length : Int) - 1 := w_small _ (by omega) (by omega)
    have c1 : decide (0 < (x0.length : Int)) = true := by rw [decide_eq_true_iff]; omega
    have c2 : (decide (0 ≤ (x0.length : Int) - 1) && decide ((x0.length : Int) - 1 < (x0.length : Int))) = true := by rw [Bool.and_eq_true, decide_eq_true_iff, decide_eq_true_iff]; omega
    rw [decide_eq_false h2, hw, c1, c2, vl_self hx]
    have j2 : ∀ (r : Int × Int) a, law_RunwayChecks.j2 N x0 x2 r a = _ := fun r a => law_RunwayChecks.j2_eq N x0 x2 r a hM
    have j3 : ∀ (r : Int × Int) a, law_RunwayChecks.j3 N x0 x2 r a = _ := fun r a => law_RunwayChecks.j3_clean N x0 x2 r a hM
    rw [hw] at j2 j3
    generalize List.getD x0 0 (0, (0, (false, 0))) = a at j2 j3 ⊢
    generalize List.getD x0 (Int.toNat ((x0.length : Int) - 1)) (0, (0, (false, 0))) = b at j2 j3 ⊢
    rw [runway_Gap.v hN hx a b, ref_TableError.v hN hx, ref_MovesError.v hN [a] (by simp)]
    simp -implicitDefEqProofs only [Option.bind_some, cond_true, cond_false, j2, j3, vl_self hx, ref_MovesError.v hN [b] (by simp)]
    unfold gapRes
    cases h3 : (tabErr x2 == 0) with
    | false => simp -implicitDefEqProofs [h3]
    | true =>
      cases h4 : (movesErr [a] == 0) with
      | false => simp -implicitDefEqProofs [h4]
      | true =>
        cases h5 : (movesErr [b] == 0) with
        | false => simp -implicitDefEqProofs [h5]
        | true =>
          rw [ref_Apart.v hN hx (moves_one hN hx (beq_iff_eq.1 h4)) (moves_one hN hx (beq_iff_eq.1 h5))]
          simp -implicitDefEqProofs [h5]
  have j0 : ∀ (r : Int × Int) a, law_RunwayChecks.j0 N x0 x1 x2 x3 r a = _ := fun r a => law_RunwayChecks.j0_eq N x0 x1 x2 x3 r a hM
  simp -implicitDefEqProofs only [j0]
  revert tail
  unfold dirR
  cases h1 : (spansErr x1 == 0) with
  | false =>
    intro tail
    simp -implicitDefEqProofs only [Bool.not_false, cond_true] at tail
    simp -implicitDefEqProofs only [Bool.false_and, cond_false, Bool.not_false, cond_true, h1]
    exact tail
  | true =>
    obtain ⟨k1, k2, k3, k4⟩ := spansErr_ok (beq_iff_eq.1 h1)
    cases h2 : (decide (x3 < 0) || decide (x3 > 200000)) with
    | true =>
      intro tail
      simp -implicitDefEqProofs only [Bool.not_true, cond_true, cond_false] at tail
      simp -implicitDefEqProofs only [Bool.and_self, Bool.not_true, cond_false, cond_true, show ((12 : Int) == 0) = false from rfl]
      exact tail
    | false =>
      intro tail
      simp -implicitDefEqProofs only [Bool.not_true, cond_false] at tail
      simp -implicitDefEqProofs only [Bool.and_false, Bool.not_true, cond_false]
      simp only [Bool.or_eq_false_iff, decide_eq_false_iff_not] at h2
      rw [cond_true, ref_EndAt.v hN x3 k2 k3 k4 (by omega) (by omega) hl1]
      simp -implicitDefEqProofs only [Option.bind_some]
      unfold endAt
      rcases opn_spec (t := x3) k2 k3 with ⟨q1, q2, q3⟩ | ⟨q1, q2, q3, q4⟩
      · have c : decide ((opn x1 x3).2 ≥ 0) = false := by rw [q1]; rfl
        simp -implicitDefEqProofs only [c, cond_false] at tail ⊢
        rw [decide_eq_false (show ¬ (opn x1 x3).1 < 0 by omega), beq_iff_eq.1 h1]
        exact tail
      · have c : decide ((opn x1 x3).2 ≥ 0) = true := by rw [decide_eq_true_iff]; omega
        simp -implicitDefEqProofs only [c, cond_true] at tail ⊢
        exact tail
/-! ### RunwaySafes: the law -/
theorem RunwaySafes.pureN (x0 : List Mv) (x1 : List Sp) (x2 : List Int) (hl : x0.length < 4611686018427387904) (hs : x1.length < 4611686018427387904) (hx : x2.length = 16) : law_RunwaySafes.fn N (x0, x1, x2) = some true := by
  rw [law_RunwaySafes.clean, law_runwayFact.v hN, vl_self hx, runway_Safe.v hN x0 x1 hx hl hs, law_planError.v hN x0 x1 hx hl hs]
  simp -implicitDefEqProofs only [Option.bind_some, Bool.not_true, cond_false]
  cases hp : (planR x0 x1 x2 == 0) with
  | false => simp -implicitDefEqProofs
  | true =>
    obtain ⟨h1, h2, h3⟩ := planR_ok hN (beq_iff_eq.1 hp)
    obtain ⟨m1, m2⟩ := movesErr_ok h1
    obtain ⟨k1, k2, k3, k4⟩ := spansErr_ok h2
    rw [ref_Wrong.v hN hx h3 (fun m hm => by have := m2 m hm; exact ⟨by omega, by omega, this.2.2.1⟩) k2 k3 k4 hl hs]
    simp -implicitDefEqProofs
end
/-! ### RunwayChanges -/
section
variable {N : Nat} (hN : 4611686018427387904 ≤ N)
include hN
def lastSp (s : List Sp) : Sp := List.getD s (s.length - 1) (0, 0)
def late (at_ : Int) (m : Mv) : Bool := decide (m.1 + 180 > at_)
def chR (l : List Mv) (s : List Sp) (t : Int) : List Sp × Int :=
  bif !(movesErr l == 0) then ([], movesErr l) else bif !(spansErr s == 0) then ([], spansErr s) else bif (s.length : Int) == 24 then ([], 9) else
  bif (decide (t < 0) || decide (t > 200000)) || decide (t < (lastSp s).1 + 360) then ([], 12) else bif l.any (late t) then ([], 15) else (s ++ [(t, w (1 - (lastSp s).2))], 0)
theorem last_mem {s : List Sp} (hs : s ≠ []) : lastSp s ∈ s := by
  unfold lastSp
  have : s.length - 1 < s.length := by
    cases s with
    | nil => exact absurd rfl hs
    | cons a r => simp
  rw [List.getD_eq_getElem?_getD, List.getElem?_eq_getElem this]
  exact List.getElem_mem _
theorem last_at {s : List Sp} (hs : s ≠ []) (hl : s.length < 4611686018427387904) : w ((s.length : Int) - 1) = ((s.length - 1 : Nat) : Int) ∧ (decide (0 ≤ ((s.length - 1 : Nat) : Int)) && decide (((s.length - 1 : Nat) : Int) < (s.length : Int))) = true := by
  have : 0 < s.length := by
    cases s with
    | nil => exact absurd rfl hs
    | cons a r => simp
  refine ⟨by rw [w_small _ (by omega) (by omega)]; omega, ?_⟩
  rw [Bool.and_eq_true, decide_eq_true_iff, decide_eq_true_iff]; omega
theorem runway_Change.v (l : List Mv) (s : List Sp) (t : Int) (hl : l.length < 4611686018427387904) (hs : s.length < 4611686018427387904) : runway_Change.fn N (l, s, t) = some (chR l s t) := by
  rw [runway_Change.clean, runway_Check.v hN l hl, runway_Spans.v hN s hs]
  simp -implicitDefEqProofs only [Option.bind_some]
  unfold chR
  cases h1 : (movesErr l == 0) with
  | false => rfl
  | true =>
    cases h2 : (spansErr s == 0) with
    | false => rfl
    | true =>
      obtain ⟨m1, m2⟩ := movesErr_ok (beq_iff_eq.1 h1)
      obtain ⟨k1, k2, k3, k4⟩ := spansErr_ok (beq_iff_eq.1 h2)
      obtain ⟨e1, e2⟩ := last_at hN k2 hs
      have hla := k3 _ (last_mem hN k2)
      unfold spOk at hla
      rw [e1, e2, Int.toNat_natCast]
      have hg : List.getD s (s.length - 1) (0, 0) = lastSp s := rfl
      simp -implicitDefEqProofs only [hg, w_small ((lastSp s).1 + 360) (by omega) (by omega), Bool.not_true, cond_false, cond_true]
      cases h3 : ((s.length : Int) == 24) with
      | true => rfl
      | false =>
        simp -implicitDefEqProofs only [cond_false]
        cases h4 : ((decide (t < 0) || decide (t > 200000)) || decide (t < (lastSp s).1 + 360)) with
        | true => rfl
        | false =>
          simp -implicitDefEqProofs only [cond_false]
          simp only [Bool.or_eq_false_iff, decide_eq_false_iff_not] at h4
          have hcap : (decide ((s.length + 1) * 16 ≤ 140737488355328) && decide ((s.length + 1) ≤ maxLen)) = true := by
            rw [Bool.and_eq_true, decide_eq_true_iff, decide_eq_true_iff]; unfold maxLen; omega
          refine (scan_list (l := l) (late t) (some ([], 15)) (some (s ++ [(t, w (1 - (lastSp s).2))], 0)) (fun k i => runway_Change.l0 N l s t k i) (fun k => ?_) (fun k pre x r h => ?_) N (by omega)).trans (bif_some _ _ _)
          · show runway_Change.l0 N l s t (k + 1) (l.length : Int) = _
            rw [runway_Change.l0_nil N l s t k, slices_Clone_RunwaySpan.v N s (by omega), e1, Int.toNat_natCast, hg]
            simp -implicitDefEqProofs only [Option.bind_some, hcap, cond_true]
          · show runway_Change.l0 N l s t (k + 1) (pre.length : Int) = _
            have hx := m2 x (by rw [h]; simp)
            rw [runway_Change.l0_cons N l s t k h hl, w_small (t - 180) (by omega) (by omega)]
            rw [show decide (x.1 > t - 180) = late t x by unfold late; rw [decide_eq_decide]; omega]
theorem RunwayChanges.pureN (x0 : List Mv) (x1 : List Sp) (x2 : Int) (hl : x0.length < 4611686018427387904) (hs : x1.length < 4611686018427387904) : law_RunwayChanges.fn N (x0, x1, x2) = some true := by
  obtain ⟨M, hM⟩ : ∃ M, N = M + 1 := ⟨N - 1, by omega⟩
  rw [law_RunwayChanges.clean, law_runwayFact.v hN, runway_Change.v hN x0 x1 x2 hl hs, ref_MovesError.v hN x0 hl, ref_EndsError.v hN x1 hs]
  simp -implicitDefEqProofs only [Option.bind_some, Bool.not_true, cond_false]
  -- the ends, told by what is wanted
  have j2e : ∀ (a : Int) (r : List Sp × Int), (a == 0) = false → r = ([], a) → law_RunwayChanges.j2 N x1 x2 r a = some true := by
    intro a r ha hr
    subst hr
    rw [law_RunwayChanges.j2_clean N x1 x2 _ a hM, ha]
    simp -implicitDefEqProofs
  have j6e : ∀ (a : Int) (r : List Sp × Int), (a == 0) = false → r = ([], a) → law_RunwayChanges.j6 N x1 x2 r a = some true := by
    intro a r ha hr
    subst hr
    rw [law_RunwayChanges.j6_clean N x1 x2 _ a hM, ha]
    simp -implicitDefEqProofs
  have j1e : ∀ (a : Int) (r : List Sp × Int), (a == 0) = false → r = ([], a) → law_RunwayChanges.j1 N x0 x1 x2 r a = some true := by
    intro a r ha hr
    rw [law_RunwayChanges.j1_eq N x0 x1 x2 r a hM, ha]
    exact j2e a r ha hr
  have j5e : ∀ (a : Int) (r : List Sp × Int), (a == 0) = false → r = ([], a) → law_RunwayChanges.j5 N x0 x1 x2 r a = some true := by
    intro a r ha hr
    rw [law_RunwayChanges.j5_eq N x0 x1 x2 r a hM, ha]
    exact j6e a r ha hr
  have j0e : ∀ (a : Int) (r : List Sp × Int), (a == 0) = false → r = ([], a) → law_RunwayChanges.j0 N x0 x1 x2 r a = some true := by
    intro a r ha hr
    rw [law_RunwayChanges.j0_clean N x0 x1 x2 r a hM, ha]
    simp -implicitDefEqProofs only [Bool.false_and, Bool.not_false, Bool.or_true, cond_true, cond_false]
    exact j1e a r ha hr
  have j4e : ∀ (a : Int) (r : List Sp × Int), (a == 0) = false → r = ([], a) → law_RunwayChanges.j4 N x0 x1 x2 r a = some true := by
    intro a r ha hr
    rw [law_RunwayChanges.j4_clean N x0 x1 x2 r a hM, ha]
    simp -implicitDefEqProofs only [Bool.false_and, Bool.not_false, Bool.or_true, cond_true, cond_false]
    exact j5e a r ha hr
  cases h1 : (movesErr x0 == 0) with
  | false =>
    simp -implicitDefEqProofs only [cond_false, Bool.false_and]
    exact j4e _ _ h1 (by unfold chR; rw [h1]; rfl)
  | true =>
    simp -implicitDefEqProofs only [cond_true]
    cases h2 : (spansErr x1 == 0) with
    | false =>
      simp -implicitDefEqProofs only [cond_false, Bool.false_and]
      exact j0e _ _ h2 (by unfold chR; rw [h1, h2]; rfl)
    | true =>
      obtain ⟨m1, m2⟩ := movesErr_ok (beq_iff_eq.1 h1)
      obtain ⟨k1, k2, k3, k4⟩ := spansErr_ok (beq_iff_eq.1 h2)
      obtain ⟨e1, e2⟩ := last_at hN k2 hs
      have hla := k3 _ (last_mem hN k2)
      unfold spOk at hla
      have hg : List.getD x1 (x1.length - 1) (0, 0) = lastSp x1 := rfl
      simp -implicitDefEqProofs only [Bool.true_and]
      cases h3 : ((x1.length : Int) == 24) with
      | true =>
        simp -implicitDefEqProofs only [cond_true]
        exact j0e _ _ rfl (by unfold chR; rw [h1, h2, h3]; rfl)
      | false =>
        simp -implicitDefEqProofs only [cond_false]
        rw [law_RunwayChanges.j0_clean N x0 x1 x2 _ _ hM, e1, e2, Int.toNat_natCast, h2, hg, w_small ((lastSp x1).1 + 360) (by omega) (by omega)]
        simp -implicitDefEqProofs only [Bool.true_or, Bool.true_and, cond_true]
        cases h4 : ((decide (x2 < 0) || decide (x2 > 200000)) || decide (x2 < (lastSp x1).1 + 360)) with
        | true =>
          simp -implicitDefEqProofs only [cond_true]
          exact j1e _ _ rfl (by unfold chR; rw [h1, h2, h3, h4]; rfl)
        | false =>
          simp -implicitDefEqProofs only [cond_false]
          have hch : chR x0 x1 x2 = bif x0.any (late x2) then ([], 15) else (x1 ++ [(x2, w (1 - (lastSp x1).2))], 0) := by unfold chR; rw [h1, h2, h3, h4]; rfl
          rw [law_RunwayChanges.j1_eq N x0 x1 x2 _ _ hM, h2, beq_iff_eq.1 h2]
          simp -implicitDefEqProofs only [cond_true]
          simp only [Bool.or_eq_false_iff, decide_eq_false_iff_not] at h4
          have hsc := scan_list (l := x0) (late x2) (law_RunwayChanges.j2 N x1 x2 (chR x0 x1 x2) 15) (law_RunwayChanges.j2 N x1 x2 (chR x0 x1 x2) 0) (fun k i => law_RunwayChanges.l3 N x0 x1 x2 (chR x0 x1 x2) 0 k i) (fun k => law_RunwayChanges.l3_nil N x0 x1 x2 _ 0 k) (fun k pre x r h => ?_) N (by omega)
          · refine hsc.trans ?_
            cases ha : x0.any (late x2) with
            | true => exact j2e 15 _ rfl (by rw [hch, ha]; rfl)
            | false =>
              rw [cond_false, hch, ha, cond_false, law_RunwayChanges.j2_clean N x1 x2 _ 0 hM, slices_Clone_RunwaySpan.v N x1 (by omega), e1, e2, Int.toNat_natCast, hg]
              have hcap : (decide ((x1.length + 1) * 16 ≤ 140737488355328) && decide ((x1.length + 1) ≤ maxLen)) = true := by
                rw [Bool.and_eq_true, decide_eq_true_iff, decide_eq_true_iff]; unfold maxLen; omega
              simp -implicitDefEqProofs only [beq_self_eq_true, Bool.not_true, cond_false, cond_true, Option.bind_some, hcap]
              rw [slices_Equal_RunwaySpan.self hN _ (by simp; omega)]
              rfl
          · show law_RunwayChanges.l3 N x0 x1 x2 _ 0 (k + 1) (pre.length : Int) = _
            have hx := m2 x (by rw [h]; simp)
            rw [law_RunwayChanges.l3_cons N x0 x1 x2 _ 0 k h hl, law_RunwayChanges_1.eq, Option.bind_some, w_small (x.1 + 180) (by omega) (by omega), decide_eq_true (show ((pre.length : Nat) : Int) ≥ 0 by omega)]
            rfl
end
/-! ### RunwayInserts -/
def gA (x : List Int) (wk : Int) (m : Mv) : Int := gapM x (0, (wk, (true, 0))) m
def gB (x : List Int) (wk : Int) (m : Mv) : Int := gapM x m (0, (wk, (true, 0)))
def clash (x : List Int) (wk t : Int) (m : Mv) : Bool := (decide (t < m.1) && decide (m.1 - t < gA x wk m)) || (decide (t ≥ m.1) && decide (t - m.1 < gB x wk m))
def laterV (x : List Int) (wk t : Int) (m : Mv) : Int := bif clash x wk t m then m.1 + gB x wk m else t
def free (x : List Int) (l : List Mv) (s : List Sp) (wk t : Int) : Bool := decide (endAt s t ≥ 0) && !(l.any (clash x wk t))
def mvOk (m : Mv) : Prop := 0 ≤ m.1 ∧ m.1 ≤ 200000 ∧ cls m.2.1 = false
def inn (x : List Int) (wk : Int) : List Mv → Int → Bool → Int × Bool
  | [], a, b => (a, b)
  | m :: r, a, b => bif decide (laterV x wk a m > a) then inn x wk r (laterV x wk a m) true else inn x wk r a b
theorem inn_cons (x : List Int) (wk : Int) (m : Mv) (r : List Mv) (a : Int) (b : Bool) : inn x wk (m :: r) a b = bif decide (laterV x wk a m > a) then inn x wk r (laterV x wk a m) true else inn x wk r a b := rfl
theorem opL_closed : ∀ {r : List Sp} {a t e e' : Int}, (∀ s ∈ r, spOk s) → 0 ≤ (opL a e r).2 → a ≤ t → t < (opL a e r).2 → 0 ≤ (opL t e' r).2
  | [], a, t, e, e', _, h, _, _ => by simp [opL] at h
  | s :: r, a, t, e, e', hs, h, h1, h2 => by
    obtain ⟨k1, k2⟩ := List.forall_mem_cons.1 hs
    unfold spOk at k1
    rw [opL_cons] at h h2 ⊢
    cases hq : (decide (t > s.1 - 180) && decide (t < s.1 + 180)) with
    | true => simp only [cond_true]; omega
    | false =>
      simp only [cond_false]
      cases hp : (decide (a > s.1 - 180) && decide (a < s.1 + 180)) with
      | true =>
        rw [hp] at h2
        simp only [cond_true] at h2
        simp only [Bool.and_eq_true, decide_eq_true_iff] at hp
        simp only [Bool.and_eq_false_iff, decide_eq_false_iff_not] at hq
        omega
      | false =>
        rw [hp] at h h2
        exact opL_closed k2 h h1 h2
theorem opn_closed {s : List Sp} {a t : Int} (hs : ∀ q ∈ s, spOk q) (h : 0 ≤ (opn s a).2) (h1 : a ≤ t) (h2 : t < (opn s a).2) : 0 ≤ (opn s t).2 := by
  cases s with
  | nil => simp [opn]
  | cons q r =>
    obtain ⟨k1, k2⟩ := List.forall_mem_cons.1 hs
    unfold spOk at k1
    rw [opn_cons] at h h2 ⊢
    by_cases ht : t < q.1
    · rw [decide_eq_true ht]; exact k1.1
    · rw [decide_eq_false ht]
      by_cases ha : a < q.1
      · rw [decide_eq_true ha] at h2; simp only [cond_true] at h2; omega
      · rw [decide_eq_false ha] at h h2
        exact opL_closed k2 h h1 h2
theorem end_closed {s : List Sp} {t : Int} (h : 0 ≤ (opn s t).2) : endAt s t = -1 := by
  unfold endAt
  rw [decide_eq_true (show (opn s t).2 ≥ 0 by omega)]
  rfl
section
variable {x : List Int} (hx : x.length = 16) (ht : tabErr x = 0) {wk : Int} (hwk : cls wk = false)
include hx ht hwk
theorem gAB {m : Mv} (hm : mvOk m) : 30 ≤ gA x wk m ∧ gA x wk m ≤ 600 ∧ 30 ≤ gB x wk m ∧ gB x wk m ≤ 600 := by
  have h1 := gapM_ok (a := (0, (wk, (true, 0)))) (b := m) hx ht hwk hm.2.2
  have h2 := gapM_ok (a := m) (b := (0, (wk, (true, 0)))) hx ht hm.2.2 hwk
  exact ⟨h1.1, h1.2, h2.1, h2.2⟩
theorem clash_till {m : Mv} (hm : mvOk m) {a t : Int} (h : clash x wk a m = true) (h1 : a ≤ t) (h2 : t < m.1 + gB x wk m) : clash x wk t m = true := by
  unfold clash at h ⊢
  simp only [Bool.or_eq_true, Bool.and_eq_true, decide_eq_true_iff] at h ⊢
  omega
theorem later_gt {m : Mv} (hm : mvOk m) (a : Int) : decide (laterV x wk a m > a) = clash x wk a m := by
  have hg := gAB hx ht hwk hm
  unfold laterV
  cases h : clash x wk a m with
  | true =>
    unfold clash at h
    simp only [Bool.or_eq_true, Bool.and_eq_true, decide_eq_true_iff] at h
    rw [cond_true, decide_eq_true_iff]
    omega
  | false => rw [cond_false, decide_eq_false_iff_not]; omega
/-- What the walk over the movements keeps. -/
theorem inn_spec {s : List Sp} {l : List Mv} (hl : ∀ m ∈ l, mvOk m) {t0 at0 : Int} : ∀ (r : List Mv) (a : Int) (b : Bool), (∀ m ∈ r, m ∈ l) → at0 ≤ a → t0 ≤ a → a ≤ 200600 → (∀ t, t0 ≤ t → t < a → free x l s wk t = false) → (b = true → at0 < a) → (b = false → a = at0) →
    at0 ≤ (inn x wk r a b).1 ∧ t0 ≤ (inn x wk r a b).1 ∧ (inn x wk r a b).1 ≤ 200600 ∧ (∀ t, t0 ≤ t → t < (inn x wk r a b).1 → free x l s wk t = false) ∧ ((inn x wk r a b).2 = true → at0 < (inn x wk r a b).1) ∧
      ((inn x wk r a b).2 = false → (inn x wk r a b).1 = at0 ∧ b = false ∧ ∀ m ∈ r, clash x wk at0 m = false)
  | [], a, b, _, h1, h2, h3, h4, h5, h6 => ⟨h1, h2, h3, h4, h5, fun h => ⟨h6 h, h, fun _ hm => (by cases hm)⟩⟩
  | m :: r, a, b, hr, h1, h2, h3, h4, h5, h6 => by
    obtain ⟨r1, r2⟩ := List.forall_mem_cons.1 hr
    have hm := hl m r1
    have hg := gAB hx ht hwk hm
    rw [inn_cons, later_gt hx ht hwk hm]
    cases hc : clash x wk a m with
    | true =>
      have hv : laterV x wk a m = m.1 + gB x wk m := by unfold laterV; rw [hc]; rfl
      have hgt : a < laterV x wk a m := by
        have := later_gt hx ht hwk hm a
        rw [hc, decide_eq_true_iff] at this
        exact this
      unfold mvOk at hm
      have := inn_spec (s := s) hl (t0 := t0) (at0 := at0) r (laterV x wk a m) true r2 (by omega) (by omega) (by omega) (fun t k1 k2 => ?_) (fun _ => by omega) (fun h => by cases h)
      · obtain ⟨q1, q2, q3, q4, q5, q6⟩ := this
        simp only [cond_true]
        exact ⟨q1, q2, q3, q4, q5, fun h => by have := (q6 h).2.1; cases this⟩
      · by_cases k3 : t < a
        · exact h4 t k1 k3
        · have : l.any (clash x wk t) = true := List.any_eq_true.2 ⟨m, r1, clash_till hx ht hwk (hl m r1) hc (by omega) (by omega)⟩
          unfold free
          rw [this, Bool.not_true, Bool.and_false]
    | false =>
      obtain ⟨q1, q2, q3, q4, q5, q6⟩ := inn_spec (s := s) hl (t0 := t0) (at0 := at0) r a b r2 h1 h2 h3 h4 h5 h6
      simp only [cond_false]
      refine ⟨q1, q2, q3, q4, q5, fun h => ?_⟩
      obtain ⟨p1, p2, p3⟩ := q6 h
      refine ⟨p1, p2, List.forall_mem_cons.2 ⟨?_, p3⟩⟩
      rw [← h6 p2]; exact hc
end
section
variable {N : Nat} (hN : 4611686018427387904 ≤ N) {x : List Int} (hx : x.length = 16) (ht : tabErr x = 0)
include hN hx ht
theorem runway_later.v {m : Mv} (hm : mvOk m) {d : Sp} (hd : cls d.2 = false) (t : Int) (h0 : -1000000 ≤ t) (h1 : t ≤ 1000000) : runway_later.fn N (m, x, d, t) = some (laterV x d.2 t m) := by
  have hg := gAB hx ht hd hm
  have ga : runway_gap.fn N (x, (t, (d.2, (true, 0))), m) = some (gA x d.2 m) := runway_gap.v hN hx (a := (t, (d.2, (true, 0)))) hd hm.2.2
  have gb : runway_gap.fn N (x, m, (t, (d.2, (true, 0)))) = some (gB x d.2 m) := runway_gap.v hN hx (b := (t, (d.2, (true, 0)))) hm.2.2 hd
  unfold mvOk at hm
  rw [runway_later.clean]
  simp -implicitDefEqProofs only [vl_self hx, ga, gb, bif_some, Option.bind_some, w_small (m.1 - t) (by omega) (by omega), w_small (t - m.1) (by omega) (by omega), w_small (m.1 + gB x d.2 m) (by omega) (by omega)]
  unfold laterV clash
  cases h2 : decide (t < m.1) with
  | true =>
    have : decide (t ≥ m.1) = false := by rw [decide_eq_true_iff] at h2; rw [decide_eq_false_iff_not]; omega
    simp -implicitDefEqProofs [this]
  | false =>
    have : decide (t ≥ m.1) = true := by rw [decide_eq_false_iff_not] at h2; rw [decide_eq_true_iff]; omega
    simp -implicitDefEqProofs [this]
/-- The first second from a time on at which a departure is possible. -/
theorem runway_earliest.v {l : List Mv} {s : List Sp} {d : Sp} (hl : ∀ m ∈ l, mvOk m) (hll : l.length ≤ 24) (k2 : s ≠ []) (k3 : ∀ q ∈ s, spOk q) (hs : s.length < 4611686018427387904) (hd : cls d.2 = false) (hd0 : 0 ≤ d.1) (hd1 : d.1 ≤ 200000) :
    ∃ e, runway_earliest.fn N (l, s, x, d) = some e ∧ d.1 ≤ e ∧ e ≤ 200600 ∧ free x l s d.2 e = true ∧ ∀ t, d.1 ≤ t → t < e → free x l s d.2 t = false := by
  obtain ⟨M, hM⟩ : ∃ M, N = M + 1 := ⟨N - 1, by omega⟩
  rw [runway_earliest.eq]
  have inner : ∀ (k : Nat) (a : Int) (b : Bool), -1000000 ≤ a → a ≤ 200600 → runway_earliest.l2 N l s x d k N a b 0 = runway_earliest.l0 N l s x d k (inn x d.2 l a b).1 (inn x d.2 l a b).2 := by
    intro k a b ha0 ha
    refine list_loop (l := l) (σ := Int × Bool) (fun k6 st i => runway_earliest.l2 N l s x d k k6 st.1 st.2 i) (fun _ r st => runway_earliest.l0 N l s x d k (inn x d.2 r st.1 st.2).1 (inn x d.2 r st.1 st.2).2) (fun _ st => -1000000 ≤ st.1 ∧ st.1 ≤ 200600)
      (fun k6 st _ => runway_earliest.l2_nil N l s x d k k6 st.1 st.2) (fun k6 pre m r st h hI ih => ?_) N (a, b) ⟨ha0, ha⟩ (by omega)
    show runway_earliest.l2 N l s x d k (k6 + 1) st.1 st.2 (pre.length : Int) = _
    have hm := hl m (by rw [h]; simp)
    have hg := gAB hx ht hd hm
    have hb : -1000000 ≤ laterV x d.2 st.1 m ∧ laterV x d.2 st.1 m ≤ 200600 := by
      unfold mvOk at hm
      unfold laterV
      cases clash x d.2 st.1 m with
      | true => simp only [cond_true]; omega
      | false => exact hI
    rw [runway_earliest.l2_cons N l s x d k k6 st.1 st.2 h (by omega), vl_self hx, runway_later.v hN hx ht hm hd st.1 hI.1 (by omega), Option.bind_some, inn_cons]
    have i1 := ih (laterV x d.2 st.1 m, true) hb
    have i2 := ih st hI
    cases decide (laterV x d.2 st.1 m > st.1) with
    | true => exact i1
    | false => exact i2
  have step : ∀ (k : Nat) (a : Int), d.1 ≤ a → a ≤ 200600 → (∀ t, d.1 ≤ t → t < a → free x l s d.2 t = false) →
      ∃ a' b', runway_earliest.l0 N l s x d (k + 1) a true = runway_earliest.l0 N l s x d k a' b' ∧ d.1 ≤ a' ∧ a' ≤ 200600 ∧ (∀ t, d.1 ≤ t → t < a' → free x l s d.2 t = false) ∧ (b' = true → a < a') ∧ (b' = false → a' = a ∧ free x l s d.2 a = true) := by
    intro k a h1 h2 h3
    rw [runway_earliest.l0_succ, runway_opened.v hN a k2 k3 hs]
    simp -implicitDefEqProofs only [cond_true, Option.bind_some]
    have j : ∀ v b, runway_earliest.j1 N l s x d k v b = _ := fun v b => runway_earliest.j1_eq N l s x d k v b hM
    simp -implicitDefEqProofs only [j]
    cases hw : decide ((opn s a).2 > a) with
    | true =>
      rw [decide_eq_true_iff] at hw
      have ho : 0 ≤ (opn s a).2 ∧ (opn s a).2 ≤ 200180 := by
        rcases opn_spec (t := a) k2 k3 with ⟨q1, q2, q3⟩ | ⟨q1, q2, q3, q4⟩
        · omega
        · omega
      have hJ : ∀ t, d.1 ≤ t → t < (opn s a).2 → free x l s d.2 t = false := by
        intro t h5 h6
        by_cases h7 : t < a
        · exact h3 t h5 h7
        · unfold free
          rw [end_closed (opn_closed k3 ho.1 (by omega) h6)]
          rfl
      obtain ⟨q1, q2, q3, q4, q5, q6⟩ := inn_spec (s := s) hx ht hd hl (t0 := d.1) (at0 := a) l (opn s a).2 true (fun _ h => h) (by omega) (by omega) (by omega) hJ (fun _ => hw) (fun h => by cases h)
      rw [cond_true, inner k _ _ (by omega) (by omega)]
      exact ⟨_, _, rfl, q2, q3, q4, q5, fun h => by have := (q6 h).2.1; cases this⟩
    | false =>
      rw [decide_eq_false_iff_not] at hw
      obtain ⟨q1, q2, q3, q4, q5, q6⟩ := inn_spec (s := s) hx ht hd hl (t0 := d.1) (at0 := a) l a false (fun _ h => h) (by omega) h1 h2 h3 (fun h => by cases h) (fun _ => rfl)
      rw [cond_false, inner k _ _ (by omega) h2]
      refine ⟨_, _, rfl, q2, q3, q4, q5, fun h => ⟨(q6 h).1, ?_⟩⟩
      have hc := (q6 h).2.2
      have he : 0 ≤ endAt s a := by
        unfold endAt
        rcases opn_spec (t := a) k2 k3 with ⟨p1, p2, p3⟩ | ⟨p1, p2, p3, p4⟩
        · rw [decide_eq_false (show ¬ (opn s a).2 ≥ 0 by omega)]; exact p2
        · omega
      have ha : l.any (clash x d.2 a) = false := by
        rw [List.any_eq_false]
        intro m hm
        rw [hc m hm]; simp
      unfold free
      rw [ha, decide_eq_true he]
      rfl
  have key : ∀ (n k : Nat) (a : Int), (200600 - a).toNat ≤ n → n + 2 ≤ k → d.1 ≤ a → a ≤ 200600 → (∀ t, d.1 ≤ t → t < a → free x l s d.2 t = false) →
      ∃ e, runway_earliest.l0 N l s x d k a true = some e ∧ d.1 ≤ e ∧ e ≤ 200600 ∧ free x l s d.2 e = true ∧ ∀ t, d.1 ≤ t → t < e → free x l s d.2 t = false := by
    intro n
    induction n with
    | zero =>
      intro k a hn hk h1 h2 h3
      obtain ⟨k, rfl⟩ : ∃ k', k = k' + 2 := ⟨k - 2, by omega⟩
      obtain ⟨a', b', e1, e2, e3, e4, e5, e6⟩ := step (k + 1) a h1 h2 h3
      cases b' with
      | true => have := e5 rfl; omega
      | false =>
        obtain ⟨rfl, f⟩ := e6 rfl
        exact ⟨a', by rw [e1, runway_earliest.l0_succ]; rfl, e2, e3, f, e4⟩
    | succ n ih =>
      intro k a hn hk h1 h2 h3
      obtain ⟨k, rfl⟩ : ∃ k', k = k' + 2 := ⟨k - 2, by omega⟩
      obtain ⟨a', b', e1, e2, e3, e4, e5, e6⟩ := step (k + 1) a h1 h2 h3
      cases b' with
      | true =>
        have := e5 rfl
        rw [e1]
        exact ih (k + 1) a' (by omega) (by omega) e2 e3 e4
      | false =>
        obtain ⟨rfl, f⟩ := e6 rfl
        exact ⟨a', by rw [e1, runway_earliest.l0_succ]; rfl, e2, e3, f, e4⟩
  exact key (200600 - d.1).toNat N d.1 (Nat.le_refl _) (by omega) (by omega) (by omega) (fun t h1 h2 => by omega)
end
section
variable {N : Nat} (hN : 4611686018427387904 ≤ N) {x : List Int} (hx : x.length = 16) (ht : tabErr x = 0)
include hN hx ht
theorem ref_Fits.v {l : List Mv} {s : List Sp} (hl : ∀ m ∈ l, mvOk m) (hll : l.length ≤ 24) (k2 : s ≠ []) (k3 : ∀ q ∈ s, spOk q) (k4 : s.Pairwise fun a b => a.1 + 360 ≤ b.1) (hs : s.length < 4611686018427387904) {wk : Int} (hwk : cls wk = false) (t : Int) (h0 : 0 ≤ t) (h1 : t ≤ 1000000) :
    ref_Fits.fn N (l, s, x, (t, (wk, (true, endAt s t)))) = some (!(l.any (clash x wk t))) := by
  rw [ref_Fits.eq, ref_EndAt.v hN t k2 k3 k4 (by omega) h1 hs]
  simp -implicitDefEqProofs only [Option.bind_some, beq_self_eq_true, Bool.not_true, cond_false]
  refine (scan_list (l := l) (clash x wk t) (some false) (some true) (fun k i => ref_Fits.l0 N l x (t, (wk, (true, endAt s t))) k i) (fun k => ref_Fits.l0_nil N l x _ k) (fun k pre m r h => ?_) N (by omega)).trans (by cases l.any (clash x wk t) <;> rfl)
  show ref_Fits.l0 N l x (t, (wk, (true, endAt s t))) (k + 1) (pre.length : Int) = _
  have hm := hl m (by rw [h]; simp)
  have hg := gAB hx ht hwk hm
  have ga : ref_Apart.fn N (x, (t, (wk, (true, endAt s t))), m) = some (gA x wk m) := ref_Apart.v hN hx (a := (t, (wk, (true, endAt s t)))) hwk hm.2.2
  have gb : ref_Apart.fn N (x, m, (t, (wk, (true, endAt s t)))) = some (gB x wk m) := ref_Apart.v hN hx (b := (t, (wk, (true, endAt s t)))) hm.2.2 hwk
  unfold mvOk at hm
  rw [ref_Fits.l0_cons N l x _ k h (by omega)]
  simp -implicitDefEqProofs only [vl_self hx, ga, gb, bif_some, Option.bind_some, w_small (t - m.1) (by omega) (by omega), w_small (m.1 - t) (by omega) (by omega)]
  unfold clash
  by_cases h2 : m.1 ≤ t
  · have e1 : decide (m.1 ≤ t) = true := decide_eq_true h2
    have e2 : decide (m.1 > t) = false := decide_eq_false (by omega)
    have e3 : decide (t < m.1) = false := decide_eq_false (by omega)
    have e4 : decide (t ≥ m.1) = true := decide_eq_true (by omega)
    simp -implicitDefEqProofs [e1, e2, e3, e4]
  · have e1 : decide (m.1 ≤ t) = false := decide_eq_false h2
    have e2 : decide (m.1 > t) = true := decide_eq_true (by omega)
    have e3 : decide (t < m.1) = true := decide_eq_true (by omega)
    have e4 : decide (t ≥ m.1) = false := decide_eq_false (by omega)
    simp -implicitDefEqProofs [e1, e2, e3, e4]
theorem ref_Departed.v {l : List Mv} {s : List Sp} {d : Sp} (hl : ∀ m ∈ l, mvOk m) (hll : l.length ≤ 24) (k2 : s ≠ []) (k3 : ∀ q ∈ s, spOk q) (k4 : s.Pairwise fun a b => a.1 + 360 ≤ b.1) (hs : s.length < 4611686018427387904) (hd : cls d.2 = false) (hd0 : 0 ≤ d.1) (hd1 : d.1 ≤ 200000) (u : Int) (hu : u ≤ 200000) :
    ∃ r, ref_Departed.fn N (l, s, x, d, u) = some r ∧ ((∃ a, d.1 ≤ a ∧ a ≤ u ∧ free x l s d.2 a = true ∧ (∀ t, d.1 ≤ t → t < a → free x l s d.2 t = false) ∧ r = ((a, (d.2, (true, endAt s a))), true)) ∨ ((∀ t, d.1 ≤ t → t ≤ u → free x l s d.2 t = false) ∧ r.2 = false)) := by
  rw [ref_Departed.eq]
  have key : ∀ (n k : Nat) (a : Int), (u + 1 - a).toNat ≤ n → n < k → d.1 ≤ a → a ≤ 200001 → (∀ t, d.1 ≤ t → t < a → free x l s d.2 t = false) →
      ∃ r, ref_Departed.l0 N l s x d u k a = some r ∧ ((∃ a, d.1 ≤ a ∧ a ≤ u ∧ free x l s d.2 a = true ∧ (∀ t, d.1 ≤ t → t < a → free x l s d.2 t = false) ∧ r = ((a, (d.2, (true, endAt s a))), true)) ∨ ((∀ t, d.1 ≤ t → t ≤ u → free x l s d.2 t = false) ∧ r.2 = false)) := by
    intro n
    induction n with
    | zero =>
      intro k a hn hk h1 h2 h3
      obtain ⟨k, rfl⟩ : ∃ k', k = k' + 1 := ⟨k - 1, by omega⟩
      rw [ref_Departed.l0_clean, decide_eq_false (show ¬ a ≤ u by omega)]
      exact ⟨_, rfl, .inr ⟨fun t h4 h5 => h3 t h4 (by omega), rfl⟩⟩
    | succ n ih =>
      intro k a hn hk h1 h2 h3
      obtain ⟨k, rfl⟩ : ∃ k', k = k' + 1 := ⟨k - 1, by omega⟩
      by_cases ha : a ≤ u
      · rw [ref_Departed.l0_clean, decide_eq_true ha, ref_EndAt.v hN a k2 k3 k4 (by omega) (by omega) hs]
        simp -implicitDefEqProofs only [cond_true, Option.bind_some, vl_self hx, ref_Fits.v hN hx ht hl hll k2 k3 k4 hs hd a (by omega) (by omega), bif_some, w_small (a + 1) (by omega) (by omega)]
        have hf : (decide (endAt s a ≥ 0) && (bif decide (endAt s a ≥ 0) then !(l.any (clash x d.2 a)) else false)) = free x l s d.2 a := by
          unfold free
          cases decide (endAt s a ≥ 0) <;> rfl
        rw [hf]
        cases hq : free x l s d.2 a with
        | true => exact ⟨_, rfl, .inl ⟨a, h1, ha, hq, h3, rfl⟩⟩
        | false =>
          refine ih k (a + 1) (by omega) (by omega) (by omega) (by omega) fun t h4 h5 => ?_
          by_cases h6 : t < a
          · exact h3 t h4 h6
          · have : t = a := by omega
            rw [this]; exact hq
      · rw [ref_Departed.l0_clean, decide_eq_false ha]
        exact ⟨_, rfl, .inr ⟨fun t h4 h5 => h3 t h4 (by omega), rfl⟩⟩
  exact key (u + 1 - d.1).toNat N d.1 (Nat.le_refl _) (by omega) (by omega) (by omega) (fun t h1 h2 => by omega)
end
def kk (e : Int) (out : List Mv) : Nat := (out.takeWhile fun m => decide (m.1 < e)).length
def putAt (out : List Mv) (e : Int) (new : Mv) : List Mv := out.take (kk e out) ++ [new] ++ out.drop (kk e out)
theorem kk_loop {α : Type} {out : List Mv} (e : Int) (L : Nat → Int → Option α) (fin : Nat → Option α)
    (hs : ∀ k (i : Nat), i ≤ out.length → L (k + 1) (i : Int) = bif decide (i < out.length) && decide ((List.getD out i (0, (0, (false, 0)))).1 < e) then L k ((i : Int) + 1) else fin i) : ∀ k, out.length < k → L k 0 = fin (kk e out) := by
  intro k hk
  refine (list_loop (l := out) (σ := Unit) (fun k _ i => L k i) (fun pre r _ => fin (pre.length + kk e r)) (fun _ _ => True) (fun k _ _ => ?_) (fun k pre m r _ h _ ih => ?_) k () trivial hk).trans (by simp)
  · show L (k + 1) (out.length : Int) = _
    rw [hs k out.length (Nat.le_refl _), decide_eq_false (Nat.lt_irrefl _)]
    rfl
  · show L (k + 1) (pre.length : Int) = _
    have ih := ih () trivial
    have hlen : out.length = pre.length + 1 + r.length := by rw [h]; simp; omega
    rw [hs k pre.length (by omega), decide_eq_true (show pre.length < out.length by omega), show List.getD out pre.length (0, (0, (false, 0))) = m by rw [h]; exact getD_mid pre m r _]
    unfold kk
    rw [List.takeWhile_cons]
    cases hm : decide (m.1 < e) with
    | true =>
      simp only [Bool.and_self, cond_true, if_true, List.length_cons]
      rw [List.length_append, List.length_singleton] at ih
      refine ih.trans (congrArg fin ?_)
      unfold kk
      omega
    | false => simp
theorem kk_le (e : Int) (out : List Mv) : kk e out ≤ out.length := (List.takeWhile_sublist _).length_le
theorem putAt_len (out : List Mv) (e : Int) (new : Mv) : (putAt out e new).length = out.length + 1 := by
  have := kk_le e out
  unfold putAt
  simp
  omega
theorem putAt_ok {out : List Mv} {e : Int} {new : Mv} (h : ∀ m ∈ out, mvOk m) (hn : mvOk new) : ∀ m ∈ putAt out e new, mvOk m := by
  intro m hm
  unfold putAt at hm
  simp only [List.mem_append, List.mem_singleton] at hm
  rcases hm with (hm | hm) | hm
  · exact h m (List.mem_of_mem_take hm)
  · rw [hm]; exact hn
  · exact h m (List.mem_of_mem_drop hm)
noncomputable def earlV (N : Nat) (x : List Int) (s : List Sp) (out : List Mv) (d : Sp) : Int := (runway_earliest.fn N (out, s, x, d)).getD 0
noncomputable def newM (N : Nat) (x : List Int) (s : List Sp) (out : List Mv) (d : Sp) : Mv := (earlV N x s out d, (d.2, (true, (opn s (earlV N x s out d)).1)))
noncomputable def insR (N : Nat) (x : List Int) (s : List Sp) : List Sp → List Mv → List Mv × Int
  | [], out => (out, 0)
  | d :: r, out => bif decide (d.1 < 0) || decide (d.1 > 200000) then ([], 12) else bif cls d.2 then ([], 1) else bif decide (earlV N x s out d > 200000) then ([], 8) else insR N x s r (putAt out (earlV N x s out d) (newM N x s out d))
theorem insR_cons (N : Nat) (x : List Int) (s : List Sp) (d : Sp) (r : List Sp) (out : List Mv) : insR N x s (d :: r) out = bif decide (d.1 < 0) || decide (d.1 > 200000) then ([], 12) else bif cls d.2 then ([], 1) else bif decide (earlV N x s out d > 200000) then ([], 8) else insR N x s r (putAt out (earlV N x s out d) (newM N x s out d)) := rfl
section
variable {N : Nat} (hN : 4611686018427387904 ≤ N) {x : List Int} (hx : x.length = 16) (ht : tabErr x = 0) {s : List Sp} (k2 : s ≠ []) (k3 : ∀ q ∈ s, spOk q) (k4 : s.Pairwise fun a b => a.1 + 360 ≤ b.1) (hs : s.length < 4611686018427387904)
include hN hx ht k2 k3 k4 hs
theorem earl_spec {out : List Mv} {d : Sp} (hl : ∀ m ∈ out, mvOk m) (hll : out.length ≤ 24) (hd : cls d.2 = false) (hd0 : 0 ≤ d.1) (hd1 : d.1 ≤ 200000) :
    runway_earliest.fn N (out, s, x, d) = some (earlV N x s out d) ∧ d.1 ≤ earlV N x s out d ∧ earlV N x s out d ≤ 200600 ∧ free x out s d.2 (earlV N x s out d) = true ∧ ∀ t, d.1 ≤ t → t < earlV N x s out d → free x out s d.2 t = false := by
  obtain ⟨e, h1, h2⟩ := runway_earliest.v hN hx ht hl hll k2 k3 hs hd hd0 hd1
  have : earlV N x s out d = e := by unfold earlV; rw [h1]; rfl
  rw [this]
  exact ⟨h1, h2⟩
theorem newM_ok {out : List Mv} {d : Sp} (hl : ∀ m ∈ out, mvOk m) (hll : out.length ≤ 24) (hd : cls d.2 = false) (hd0 : 0 ≤ d.1) (hd1 : d.1 ≤ 200000) (h : earlV N x s out d ≤ 200000) : mvOk (newM N x s out d) := by
  have := earl_spec hN hx ht k2 k3 k4 hs hl hll hd hd0 hd1
  simp only [newM, mvOk]
  exact ⟨by omega, h, hd⟩
theorem insert_loop (ds : List Sp) (hds : ds.length < 4611686018427387904) (out : List Mv) (hl : ∀ m ∈ out, mvOk m) (hll : out.length + ds.length ≤ 24) : runway_Insert.l0 N s x ds N 0 out = some (insR N x s ds out) := by
  refine list_loop (l := ds) (fun k out i => runway_Insert.l0 N s x ds k i out) (fun _ r out => some (insR N x s r out)) (fun pre out => (∀ m ∈ out, mvOk m) ∧ out.length + ds.length ≤ 24 + pre.length)
    (fun k out _ => runway_Insert.l0_nil N s x ds k out) (fun k pre d r out h hI ih => ?_) N out ⟨hl, by simp; omega⟩ (by omega)
  show runway_Insert.l0 N s x ds (k + 1) (pre.length : Int) out = _
  obtain ⟨i1, i2⟩ := hI
  have hlen : ds.length = pre.length + 1 + r.length := by rw [h]; simp; omega
  rw [runway_Insert.l0_cons N s x ds k out h hds, insR_cons, wake_Class.v hN]
  cases h1 : (decide (d.1 < 0) || decide (d.1 > 200000)) with
  | true => rfl
  | false =>
    simp only [Bool.or_eq_false_iff, decide_eq_false_iff_not] at h1
    cases h2 : cls d.2 with
    | true => rfl
    | false =>
      obtain ⟨e1, e2, e3, e4, e5⟩ := earl_spec hN hx ht k2 k3 k4 hs i1 (by omega) h2 (by omega) (by omega)
      simp -implicitDefEqProofs only [cond_false, Option.bind_some, beq_self_eq_true, Bool.not_true, vl_self hx, e1]
      cases h3 : decide (earlV N x s out d > 200000) with
      | true => rfl
      | false =>
        rw [decide_eq_false_iff_not] at h3
        have ih := ih (putAt out (earlV N x s out d) (newM N x s out d)) ⟨putAt_ok i1 (newM_ok hN hx ht k2 k3 k4 hs i1 (by omega) h2 (by omega) (by omega) (by omega)), by rw [putAt_len]; simp; omega⟩
        simp -implicitDefEqProofs only [cond_false]
        rw [runway_opened.v hN _ k2 k3 hs, Option.bind_some]
        refine (kk_loop (out := out) (earlV N x s out d) (fun k9 i => runway_Insert.l1 N s x ds k (pre.length : Int) out (earlV N x s out d) (opn s (earlV N x s out d)) k9 i)
          (fun i => runway_Insert.l0 N s x ds k ((pre.length : Int) + 1) (out.take i ++ [newM N x s out d] ++ out.drop i)) (fun k9 i hi => ?_) N (by omega)).trans ih
        show runway_Insert.l1 N s x ds k (pre.length : Int) out (earlV N x s out d) (opn s (earlV N x s out d)) (k9 + 1) (i : Int) = _
        have c1 : decide (0 ≤ (i : Int)) = true := by rw [decide_eq_true_iff]; omega
        have c2 : decide ((i : Int) ≤ (out.length : Int)) = true := by rw [decide_eq_true_iff]; omega
        have c3 : decide ((i : Int) < (out.length : Int)) = decide (i < out.length) := by rw [decide_eq_decide]; omega
        have c4 : (decide ((out.length + 1) * 32 ≤ 140737488355328) && decide (out.length + 1 ≤ maxLen)) = true := by
          rw [Bool.and_eq_true, decide_eq_true_iff, decide_eq_true_iff]; unfold maxLen; omega
        rw [runway_Insert.l1_clean, Int.toNat_natCast, Int.toNat_natCast, c1, c2, c3, c4, w_next h hds, w_small ((i : Int) + 1) (by omega) (by omega), show List.getD ds pre.length (0, 0) = d by rw [h]; exact getD_mid pre d r _]
        cases h5 : decide (i < out.length) with
        | true => rfl
        | false => rfl
theorem insert_law (ds : List Sp) (hds : ds.length < 4611686018427387904) (r2 : List Mv × Int) : ∀ (r : List Sp) (pre : List Sp) (k : Nat) (out : List Mv), ds = pre ++ r → r.length + 1 < k → (∀ m ∈ out, mvOk m) → out.length + r.length ≤ 24 → r2 = insR N x s r out →
    law_RunwayInserts.l2 N s x ds r2 k 0 (pre.length : Int) out = some true := by
  have wrong : ∀ (k : Nat) (a : Int) (i : Int) (out : List Mv), (a == 0) = false → r2 = ([], a) → law_RunwayInserts.l2 N s x ds r2 (k + 1) a i out = some true := by
    intro k a i out ha hr
    rw [law_RunwayInserts.l2_clean, ha, hr]
    simp -implicitDefEqProofs [ha]
  intro r
  induction r with
  | nil =>
    intro pre k out h hk i1 i2 hr
    obtain ⟨k, rfl⟩ : ∃ k', k = k' + 1 := ⟨k - 1, by omega⟩
    rw [List.append_nil] at h
    subst h
    have hr : r2 = (out, 0) := hr
    rw [law_RunwayInserts.l2_clean, hr]
    simp -implicitDefEqProofs [slices_Equal_RunwayMove.self hN out (by simp at i2; omega)]
  | cons d r ih =>
    intro pre k out h hk i1 i2 hr
    obtain ⟨k, rfl⟩ : ∃ k', k = k' + 2 := ⟨k - 2, by simp at hk; omega⟩
    have hlen : ds.length = pre.length + 1 + r.length := by rw [h]; simp; omega
    have hll : out.length ≤ 24 := by omega
    have c1 : decide ((pre.length : Int) < (ds.length : Int)) = true := by rw [decide_eq_true_iff]; omega
    have c2 : decide (0 ≤ (pre.length : Int)) = true := by rw [decide_eq_true_iff]; omega
    rw [law_RunwayInserts.l2_clean, Int.toNat_natCast, c1, c2, show List.getD ds pre.length (0, 0) = d by rw [h]; exact getD_mid pre d r _, w_next h hds]
    simp -implicitDefEqProofs only [beq_self_eq_true, Bool.and_self, Bool.true_or, cond_true]
    rw [insR_cons] at hr
    cases h1 : (decide (d.1 < 0) || decide (d.1 > 200000)) with
    | true =>
      rw [h1, cond_true] at hr
      rw [cond_true]
      exact wrong k 12 _ _ rfl hr
    | false =>
      rw [h1] at hr
      simp only [Bool.or_eq_false_iff, decide_eq_false_iff_not] at h1
      simp -implicitDefEqProofs only [cond_false] at hr ⊢
      have hc : law_classesError.fn N [d.2] = some (bif cls d.2 then 1 else 0) := by
        obtain ⟨M, rfl⟩ : ∃ M, N = M + 2 := ⟨N - 2, by omega⟩
        rw [law_classesError.eq]
        have e1 : law_classesError.l0 (M + 2) [d.2] (M + 1 + 1) ((([] : List Int).length : Nat) : Int) = _ := law_classesError.l0_cons (M + 2) [d.2] (M + 1) (pre := []) (x := d.2) (r := []) rfl (by simp)
        have e2 : law_classesError.l0 (M + 2) [d.2] (M + 1) (([d.2].length : Nat) : Int) = _ := law_classesError.l0_nil (M + 2) [d.2] M
        refine e1.trans ?_
        have e2' : law_classesError.l0 (M + 2) [d.2] (M + 1) (((([] : List Int).length : Nat) : Int) + 1) = some 0 := e2
        rw [e2']
        unfold cls
        cases (decide (d.2 < 0) || decide (d.2 > 3)) <;> rfl
      rw [hc, Option.bind_some]
      cases h2 : cls d.2 with
      | true =>
        rw [h2, cond_true] at hr
        simp -implicitDefEqProofs only [cond_true, show ((1 : Int) == 0) = false from rfl, Bool.not_false]
        exact wrong k 1 _ _ rfl hr
      | false =>
        rw [h2] at hr
        simp -implicitDefEqProofs only [cond_false, beq_self_eq_true, Bool.not_true] at hr ⊢
        rw [vl_self hx, w_small (d.1 + 3000) (by omega) (by omega)]
        obtain ⟨e1, e2, e3, e4, e5⟩ := earl_spec hN hx ht k2 k3 k4 hs i1 hll h2 (by omega) (by omega)
        have hu : (if d.1 + 3000 < 200000 then d.1 + 3000 else 200000) ≤ 200000 := by split <;> omega
        obtain ⟨q, hq, hcase⟩ := ref_Departed.v hN hx ht i1 hll k2 k3 k4 hs h2 (by omega) (by omega) _ hu
        rw [hq, Option.bind_some]
        rcases hcase with ⟨a, a1, a2, a3, a4, rfl⟩ | ⟨a1, a2⟩
        · have hea : earlV N x s out d = a := by
            rcases Int.lt_trichotomy (earlV N x s out d) a with h3 | h3 | h3
            · have := a4 _ e2 h3
              rw [e4] at this; cases this
            · exact h3
            · have := e5 a a1 h3
              rw [a3] at this; cases this
          have hend : endAt s a = (opn s a).1 := by
            unfold free at a3
            rw [Bool.and_eq_true, decide_eq_true_iff] at a3
            have := a3.1
            unfold endAt at this ⊢
            cases hb : decide ((opn s a).2 ≥ 0) with
            | true => rw [hb] at this; simp only [cond_true] at this; omega
            | false => rfl
          have hnew : newM N x s out d = (a, (d.2, (true, endAt s a))) := by unfold newM; rw [hea, hend]
          have hle : ¬ earlV N x s out d > 200000 := by rw [hea]; omega
          rw [decide_eq_false hle] at hr
          simp -implicitDefEqProofs only [Bool.not_true, Bool.false_and, cond_false]
          have ih := ih (pre ++ [d]) (k + 1) (putAt out (earlV N x s out d) (newM N x s out d)) (by rw [h]; simp) (by simp at hk ⊢; omega) (putAt_ok i1 (newM_ok hN hx ht k2 k3 k4 hs i1 hll h2 (by omega) (by omega) (by omega))) (by rw [putAt_len]; simp at i2 ⊢; omega) hr
          rw [show (((pre ++ [d]).length : Nat) : Int) = (pre.length : Int) + 1 by simp, hea, hnew] at ih
          refine (kk_loop (out := out) a (fun k9 i => law_RunwayInserts.l3 N s x ds r2 (k + 1) (pre.length : Int) out 0 ((a, (d.2, (true, endAt s a))), true) k9 i)
            (fun i => law_RunwayInserts.l2 N s x ds r2 (k + 1) 0 ((pre.length : Int) + 1) (out.take i ++ [(a, (d.2, (true, endAt s a)))] ++ out.drop i)) (fun k9 i hi => ?_) N (by omega)).trans ih
          show law_RunwayInserts.l3 N s x ds r2 (k + 1) (pre.length : Int) out 0 ((a, (d.2, (true, endAt s a))), true) (k9 + 1) (i : Int) = _
          have c1 : decide (0 ≤ (i : Int)) = true := by rw [decide_eq_true_iff]; omega
          have c2 : decide ((i : Int) ≤ (out.length : Int)) = true := by rw [decide_eq_true_iff]; omega
          have c3 : decide ((i : Int) < (out.length : Int)) = decide (i < out.length) := by rw [decide_eq_decide]; omega
          have c4 : (decide ((out.length + 1) * 32 ≤ 140737488355328) && decide (out.length + 1 ≤ maxLen)) = true := by
            rw [Bool.and_eq_true, decide_eq_true_iff, decide_eq_true_iff]; unfold maxLen; omega
          have e1 : (decide (0 ≤ (i : Int)) && decide ((i : Int) < (out.length : Int)) || !decide ((i : Int) < (out.length : Int))) = true := by rw [c1, Bool.true_and]; cases decide ((i : Int) < (out.length : Int)) <;> rfl
          have e2 : (decide (i < out.length) || !decide ((i : Int) < (out.length : Int))) = true := by rw [c3]; cases decide (i < out.length) <;> rfl
          rw [law_RunwayInserts.l3_clean, Int.toNat_natCast, e1, e2, c1, c2, c3, c4, w_next h hds, w_small ((i : Int) + 1) (by omega) (by omega)]
          simp -implicitDefEqProofs only [cond_true, Bool.and_self]
        · rw [a2]
          simp -implicitDefEqProofs only [Bool.not_false, Bool.true_and, cond_true]
          cases h3 : decide (d.1 < 197000) with
          | true => rfl
          | false =>
            rw [decide_eq_false_iff_not] at h3
            rw [if_neg (show ¬ d.1 + 3000 < 200000 by omega)] at a1
            have hgt : earlV N x s out d > 200000 := by
              rcases Int.lt_or_le 200000 (earlV N x s out d) with h4 | h4
              · exact h4
              · have := a1 _ e2 h4
                rw [e4] at this; cases this
            rw [decide_eq_true hgt, cond_true] at hr
            rw [cond_false]
            exact wrong k 8 _ _ rfl hr
end
section
variable {N : Nat} (hN : 4611686018427387904 ≤ N)
include hN
theorem RunwayInserts.pureN (x0 : List Mv) (x1 : List Sp) (x2 : List Int) (x3 : List Sp) (hb : x0.length * 32 ≤ 140737488355328) (hs : x1.length < 4611686018427387904) (hx : x2.length = 16) (hd : x3.length < 4611686018427387904) : law_RunwayInserts.fn N (x0, x1, x2, x3) = some true := by
  have hl : x0.length < 4611686018427387904 := by omega
  obtain ⟨M, hM⟩ : ∃ M, N = M + 1 := ⟨N - 1, by omega⟩
  have j1 : ∀ r a, law_RunwayInserts.j1 N x0 x1 x2 x3 r a = law_RunwayInserts.l2 N x1 x2 x3 r N a 0 x0 := fun r a => by
    rw [law_RunwayInserts.j1_eq N x0 x1 x2 x3 r a hM, slices_Clone_RunwayMove.v N x0 hb]; rfl
  have wrong : ∀ (a : Int), (a == 0) = false → law_RunwayInserts.l2 N x1 x2 x3 ([], a) N a 0 x0 = some true := by
    intro a ha
    have : ∀ k, law_RunwayInserts.l2 N x1 x2 x3 ([], a) (k + 1) a 0 x0 = some true := fun k => by
      rw [law_RunwayInserts.l2_clean, ha]
      simp -implicitDefEqProofs [ha]
    exact fuel (p := fun k => law_RunwayInserts.l2 N x1 x2 x3 ([], a) k a 0 x0 = some true) hN this
  have j0e : ∀ (a : Int), (a == 0) = false → law_RunwayInserts.j0 N x0 x1 x2 x3 ([], a) a = some true := by
    intro a ha
    rw [law_RunwayInserts.j0_clean N x0 x1 x2 x3 _ a hM, ha, j1, j1]
    exact wrong a ha
  rw [law_RunwayInserts.eq, law_runwayFact.v hN, runway_Insert.eq, vl_self hx, vl_self hx, runway_Safe.v hN x0 x1 hx hl hs, law_planError.v hN x0 x1 hx hl hs, slices_Clone_RunwayMove.v N x0 hb]
  simp -implicitDefEqProofs only [Option.bind_some, Bool.not_true, cond_false]
  cases hp : (planR x0 x1 x2 == 0) with
  | false =>
    simp -implicitDefEqProofs only [Bool.not_false, cond_true, hp, Option.bind_some, cond_false]
    exact j0e _ hp
  | true =>
    obtain ⟨h1, h2, h3⟩ := planR_ok hN (beq_iff_eq.1 hp)
    obtain ⟨m1, m2⟩ := movesErr_ok h1
    obtain ⟨k1, k2, k3, k4⟩ := spansErr_ok h2
    have hw := ref_Wrong.v hN hx h3 (fun m hm => by have := m2 m hm; exact ⟨by omega, by omega, this.2.2.1⟩) k2 k3 k4 hl hs
    simp -implicitDefEqProofs only [Bool.not_true, cond_false, cond_true, hw, Option.bind_some]
    cases hq : ((safeR x2 x0 x1).2.2 == 0) with
    | false =>
      simp -implicitDefEqProofs only [Bool.not_false, cond_true, Option.bind_some]
      exact j0e _ hq
    | true =>
      rw [w_small ((x0.length : Int) + (x3.length : Int)) (by omega) (by omega)]
      have j0 : ∀ r, law_RunwayInserts.j0 N x0 x1 x2 x3 r 0 = _ := fun r => law_RunwayInserts.j0_clean N x0 x1 x2 x3 r 0 hM
      simp -implicitDefEqProofs only [Bool.not_true, cond_false, beq_iff_eq.1 hq]
      by_cases h24 : (x0.length : Int) + (x3.length : Int) > 24
      · simp -implicitDefEqProofs only [decide_eq_true h24, cond_true, Option.bind_some, j0, w_small ((x0.length : Int) + (x3.length : Int)) (by omega) (by omega), beq_self_eq_true, Bool.and_self, j1]
        exact wrong 2 rfl
      · have hok : ∀ m ∈ x0, mvOk m := fun m hm => by have := m2 m hm; exact ⟨this.1, this.2.1, this.2.2.1⟩
        rw [decide_eq_false h24, cond_false, insert_loop hN hx h3 k2 k3 k4 hs x3 hd x0 hok (by omega)]
        simp -implicitDefEqProofs only [Option.bind_some, j0, w_small ((x0.length : Int) + (x3.length : Int)) (by omega) (by omega), decide_eq_false h24, Bool.and_false, cond_false, j1]
        exact insert_law hN hx h3 k2 k3 k4 hs x3 hd _ x3 [] N x0 rfl (by omega) hok (by omega) rfl
end
theorem bytesM : Try.prog.bytesOf 35 = 32 := by kernel_rfl
theorem bytesS : Try.prog.bytesOf 60 = 16 := by kernel_rfl
theorem mv_len {l : List Mv} (h : Wf Try.prog (.sl 35 (.pair (.int .i64) (.pair (.int .i64) (.pair (.bool) (.int .i64))))) l) : l.length < 4611686018427387904 := by
  have := h.1
  rw [bytesM] at this
  simp -implicitDefEqProofs [reachBytes] at this
  omega
theorem sp_len {l : List Sp} (h : Wf Try.prog (.sl 60 (.pair (.int .i64) (.int .i64))) l) : l.length < 4611686018427387904 := by
  have := h.1
  rw [bytesS] at this
  simp -implicitDefEqProofs [reachBytes] at this
  omega
theorem RunwayChecks.pure (x0 : List Mv) (x1 : List Sp) (x2 : List Int) (x3 : Int) (h0 : Wf Try.prog (.sl 35 (.pair (.int .i64) (.pair (.int .i64) (.pair (.bool) (.int .i64))))) x0) (h1 : Wf Try.prog (.sl 60 (.pair (.int .i64) (.int .i64))) x1) (h2 : Wf Try.prog (.vec 16 .i64) x2) (h3 : Wf Try.prog (.int .i64) x3) : law_RunwayChecks.fn NN (x0, x1, x2, x3) = some true := RunwayChecks.pureN NN_big x0 x1 x2 x3 (mv_len h0) (sp_len h1) h2.1
theorem RunwaySafes.pure (x0 : List Mv) (x1 : List Sp) (x2 : List Int) (h0 : Wf Try.prog (.sl 35 (.pair (.int .i64) (.pair (.int .i64) (.pair (.bool) (.int .i64))))) x0) (h1 : Wf Try.prog (.sl 60 (.pair (.int .i64) (.int .i64))) x1) (h2 : Wf Try.prog (.vec 16 .i64) x2) : law_RunwaySafes.fn NN (x0, x1, x2) = some true := RunwaySafes.pureN NN_big x0 x1 x2 (mv_len h0) (sp_len h1) h2.1
theorem RunwayChanges.pure (x0 : List Mv) (x1 : List Sp) (x2 : Int) (h0 : Wf Try.prog (.sl 35 (.pair (.int .i64) (.pair (.int .i64) (.pair (.bool) (.int .i64))))) x0) (h1 : Wf Try.prog (.sl 60 (.pair (.int .i64) (.int .i64))) x1) (h2 : Wf Try.prog (.int .i64) x2) : law_RunwayChanges.fn NN (x0, x1, x2) = some true := RunwayChanges.pureN NN_big x0 x1 x2 (mv_len h0) (sp_len h1)
theorem bytesR : Try.prog.bytesOf 49 = 16 := by kernel_rfl
theorem rd_len {l : List Sp} (h : Wf Try.prog (.sl 49 (.pair (.int .i64) (.int .i64))) l) : l.length < 4611686018427387904 := by
  have := h.1
  rw [bytesR] at this
  simp -implicitDefEqProofs [reachBytes] at this
  omega
theorem mv_bytes {l : List Mv} (h : Wf Try.prog (.sl 35 (.pair (.int .i64) (.pair (.int .i64) (.pair (.bool) (.int .i64))))) l) : l.length * 32 ≤ 140737488355328 := by
  have := h.1
  rw [bytesM] at this
  simp -implicitDefEqProofs [reachBytes] at this
  omega
theorem RunwayInserts.pure (x0 : List Mv) (x1 : List Sp) (x2 : List Int) (x3 : List Sp) (h0 : Wf Try.prog (.sl 35 (.pair (.int .i64) (.pair (.int .i64) (.pair (.bool) (.int .i64))))) x0) (h1 : Wf Try.prog (.sl 60 (.pair (.int .i64) (.int .i64))) x1) (h2 : Wf Try.prog (.vec 16 .i64) x2) (h3 : Wf Try.prog (.sl 49 (.pair (.int .i64) (.int .i64))) x3) : law_RunwayInserts.fn NN (x0, x1, x2, x3) = some true := RunwayInserts.pureN NN_big x0 x1 x2 x3 (mv_bytes h0) (sp_len h1) h2.1 (rd_len h3)
end Go.Proofs.Ytmaeakelhjmfeaa.Sk
