/- SequenceTimes: plain law. -/
import Derived.Test.YtoapmjnfiimmjaaSeqEq
set_option linter.unusedVariables false
set_option linter.unusedSimpArgs false
set_option linter.unusedSectionVars false
set_option maxRecDepth 100000
namespace Go.Proofs.Ytoapmjnfiimmjaa.Sk
open Go

theorem bif_some {α : Type} (b : Bool) (x y : α) : (bif b then some x else some y) = some (bif b then x else y) := by cases b <;> rfl
def entBad (v : Int) : Bool := decide (v < 30) || decide (v > 600)
def tri (x : List Int) (a b c : Nat) : Bool := decide (x.getD (a * 4 + c) 0 > x.getD (a * 4 + b) 0 + x.getD (b * 4 + c) 0)
def tabErr (x : List Int) : Int :=
  bif (List.range 16).any (fun i => entBad (x.getD i 0)) then 4 else bif (List.range 4).any (fun a => (List.range 4).any fun b => (List.range 4).any fun c => tri x a b c) then 3 else 0
def cls (c : Int) : Bool := decide (c < 0) || decide (c > 3)
def gp (x : List Int) (a b : Int) : Int := x.getD (a.toNat * 4 + b.toNat) 0

theorem ents {x : List Int} (h : (List.range 16).any (fun i => entBad (x.getD i 0)) = false) : ∀ i, i < 16 → 30 ≤ x.getD i 0 ∧ x.getD i 0 ≤ 600 := by
  intro i hi
  rw [List.any_eq_false] at h
  have := h i (List.mem_range.2 hi)
  simp -implicitDefEqProofs only [entBad, Bool.or_eq_true, decide_eq_true_eq, not_or] at this
  omega
theorem tabErr_ents {x : List Int} (h : tabErr x = 0) : ∀ i, i < 16 → 30 ≤ x.getD i 0 ∧ x.getD i 0 ≤ 600 := by
  unfold tabErr at h
  cases hb : (List.range 16).any (fun i => entBad (x.getD i 0)) with
  | true => rw [hb] at h; cases h
  | false => exact ents hb
theorem tabErr_tri {x : List Int} (h : tabErr x = 0) : ∀ a b c, a < 4 → b < 4 → c < 4 → x.getD (a * 4 + c) 0 ≤ x.getD (a * 4 + b) 0 + x.getD (b * 4 + c) 0 := by
  intro a b c ha hb hc
  unfold tabErr at h
  cases h1 : (List.range 16).any (fun i => entBad (x.getD i 0)) with
  | true => rw [h1] at h; cases h
  | false =>
    rw [h1] at h
    cases h2 : (List.range 4).any (fun a => (List.range 4).any fun b => (List.range 4).any fun c => tri x a b c) with
    | true => rw [h2] at h; cases h
    | false =>
      rw [List.any_eq_false] at h2
      have h3 := h2 a (List.mem_range.2 ha)
      rw [Bool.not_eq_true, List.any_eq_false] at h3
      have h4 := h3 b (List.mem_range.2 hb)
      rw [Bool.not_eq_true, List.any_eq_false] at h4
      have h5 := h4 c (List.mem_range.2 hc)
      simp -implicitDefEqProofs only [tri, decide_eq_true_eq] at h5
      omega

section
variable {N : Nat} (hN : 4611686018427387904 ≤ N) {x : List Int} (hx : x.length = 16)
include hN hx

theorem l4v (hg : ∀ i, i < 16 → 30 ≤ x.getD i 0 ∧ x.getD i 0 ≤ 600) (k5 k7 a b : Nat) (ha : a < 4) (hb : b < 4) :
    wake_Check.l4 N x k5 a k7 b N 0 = bif (List.range 4).any (tri x a b) then some 3 else wake_Check.l3 N x k5 a k7 ((b : Int) + 1) := by
  refine scan_loop (n := 4) (tri x a b) (some 3) _ (fun k i => wake_Check.l4 N x k5 a k7 b k i) (fun k => ?_) (fun k c hc => ?_) N (by omega)
  · rw [wake_Check.l4_succ]; simp -implicitDefEqProofs [w_small ((b : Int) + 1) (by omega) (by omega)]
  · have h1 := hg (a * 4 + b) (by omega)
    have h2 := hg (b * 4 + c) (by omega)
    rw [wake_Check.l4_succ, vl_self hx, w_small ((c : Int) + 1) (by omega) (by omega)]
    simp -implicitDefEqProofs only [Int.toNat_natCast, Nat.zero_add, Nat.mul_one, w_small (x.getD (a * 4 + b) 0 + x.getD (b * 4 + c) 0) (by omega) (by omega), show decide ((a : Int) < 4) = true by simp; omega, show decide ((b : Int) < 4) = true by simp; omega, show decide ((c : Int) < 4) = true by simp; omega, show decide (0 ≤ (a : Int)) = true by simp,
      show decide (0 ≤ (b : Int)) = true by simp, show decide (0 ≤ (c : Int)) = true by simp, show decide (a * 4 + b < 16) = true by simp; omega, show decide (b * 4 + c < 16) = true by simp; omega, show decide (a * 4 + c < 16) = true by simp; omega, Bool.and_self, cond_true, tri]
theorem l3v (hg : ∀ i, i < 16 → 30 ≤ x.getD i 0 ∧ x.getD i 0 ≤ 600) (k5 a : Nat) (ha : a < 4) :
    wake_Check.l3 N x k5 a N 0 = bif (List.range 4).any (fun b => (List.range 4).any (tri x a b)) then some 3 else wake_Check.l2 N x k5 ((a : Int) + 1) := by
  refine scan_loop (n := 4) (fun b => (List.range 4).any (tri x a b)) (some 3) _ (fun k i => wake_Check.l3 N x k5 a k i) (fun k => ?_) (fun k b hb => ?_) N (by omega)
  · rw [wake_Check.l3_succ]; simp -implicitDefEqProofs [w_small ((a : Int) + 1) (by omega) (by omega)]
  · rw [wake_Check.l3_succ]
    simp -implicitDefEqProofs only [show decide ((b : Int) < 4) = true by simp; omega, cond_true]
    exact l4v hN hx hg k5 k a b ha hb
theorem l2v (hg : ∀ i, i < 16 → 30 ≤ x.getD i 0 ∧ x.getD i 0 ≤ 600) :
    wake_Check.l2 N x N 0 = bif (List.range 4).any (fun a => (List.range 4).any (fun b => (List.range 4).any (tri x a b))) then some 3 else some 0 := by
  refine scan_loop (n := 4) _ (some 3) _ (fun k i => wake_Check.l2 N x k i) (fun k => ?_) (fun k a ha => ?_) N (by omega)
  · rw [wake_Check.l2_succ]; simp
  · rw [wake_Check.l2_succ]
    simp -implicitDefEqProofs only [show decide ((a : Int) < 4) = true by simp; omega, cond_true]
    exact l3v hN hx hg k a ha
theorem l1v (k1 a : Nat) (ha : a < 4) : wake_Check.l1 N x k1 a N 0 = bif (List.range 4).any (fun b => entBad (x.getD (a * 4 + b) 0)) then some 4 else wake_Check.l0 N x k1 ((a : Int) + 1) := by
  refine scan_loop (n := 4) _ (some 4) _ (fun k i => wake_Check.l1 N x k1 a k i) (fun k => ?_) (fun k b hb => ?_) N (by omega)
  · rw [wake_Check.l1_succ]; simp -implicitDefEqProofs [w_small ((a : Int) + 1) (by omega) (by omega)]
  · rw [wake_Check.l1_clean, vl_self hx]
    have hb' : b = 0 ∨ b = 1 ∨ b = 2 ∨ b = 3 := by omega
    rcases hb' with rfl | rfl | rfl | rfl <;> simp -implicitDefEqProofs [entBad, List.getD, w_small] <;> rfl
theorem l0v : wake_Check.l0 N x N 0 = bif (List.range 4).any (fun a => (List.range 4).any (fun b => entBad (x.getD (a * 4 + b) 0))) then some 4 else wake_Check.l2 N x N 0 := by
  refine scan_loop (n := 4) _ (some 4) _ (fun k i => wake_Check.l0 N x k i) (fun k => ?_) (fun k a ha => ?_) N (by omega)
  · rw [wake_Check.l0_succ]; simp
  · rw [wake_Check.l0_succ]
    simp -implicitDefEqProofs only [show decide ((a : Int) < 4) = true by simp; omega, show decide (0 ≤ (a : Int)) = true by simp, Int.toNat_natCast, show decide (a * 4 + 4 ≤ 16) = true by simp; omega, cond_true, Bool.true_and]
    exact l1v hN hx k a ha
theorem any16 (p : Nat → Bool) : ((List.range 4).any fun a => (List.range 4).any fun b => p (a * 4 + b)) = (List.range 16).any p := by
  simp -implicitDefEqProofs [List.range, List.range.loop, Bool.or_assoc]
theorem wake_Check.v : wake_Check.fn N x = some (tabErr x) := by
  rw [wake_Check.eq, l0v hN hx, any16 hN hx fun i => entBad (x.getD i 0)]
  unfold tabErr
  cases h : (List.range 16).any (fun i => entBad (x.getD i 0)) with
  | true => rfl
  | false =>
    rw [cond_false, cond_false, l2v hN hx (ents h)]
    cases (List.range 4).any (fun a => (List.range 4).any (fun b => (List.range 4).any (tri x a b))) <;> rfl

theorem r1v (hg : ∀ i, i < 16 → 30 ≤ x.getD i 0 ∧ x.getD i 0 ≤ 600) : ref_TableError.l1 N x N 0 = bif (List.range 64).any (fun i => tri x (i / 16) (i / 4 % 4) (i % 4)) then some 3 else some 0 := by
  refine scan_loop (n := 64) _ (some 3) _ (fun k i => ref_TableError.l1 N x k i) (fun k => ?_) (fun k i hi => ?_) N (by omega)
  · rw [ref_TableError.l1_succ]; simp
  · have e1 : w (Int.tdiv (i : Int) 16) = ((i / 16 : Nat) : Int) := by rw [w_small] <;> (simp -implicitDefEqProofs only [Int.tdiv_eq_ediv_of_nonneg (Int.natCast_nonneg i)]; omega)
    have e2 : w (Int.tdiv (i : Int) 4) = ((i / 4 : Nat) : Int) := by rw [w_small] <;> (simp -implicitDefEqProofs only [Int.tdiv_eq_ediv_of_nonneg (Int.natCast_nonneg i)]; omega)
    have e3 : Int.tmod ((i / 4 : Nat) : Int) 4 = ((i / 4 % 4 : Nat) : Int) := by rw [Int.tmod_eq_emod_of_nonneg (Int.natCast_nonneg _)]; omega
    have e4 : Int.tmod (i : Int) 4 = ((i % 4 : Nat) : Int) := by rw [Int.tmod_eq_emod_of_nonneg (Int.natCast_nonneg _)]; omega
    rw [ref_TableError.l1_succ, vl_self hx, e1, e2, e3, e4]
    generalize ha : i / 16 = a
    generalize hb : i / 4 % 4 = b
    generalize hc : i % 4 = c
    have ha4 : a < 4 := by omega
    have hb4 : b < 4 := by omega
    have hc4 : c < 4 := by omega
    have h1 := hg (a * 4 + b) (by omega)
    have h2 := hg (b * 4 + c) (by omega)
    rw [w_small ((i : Int) + 1) (by omega) (by omega)]
    simp -implicitDefEqProofs only [Int.toNat_natCast, Nat.zero_add, Nat.mul_one, w_small (x.getD (a * 4 + b) 0 + x.getD (b * 4 + c) 0) (by omega) (by omega), show decide ((i : Int) < 64) = true by simp; omega, show decide ((a : Int) < 4) = true by simp; omega, show decide ((b : Int) < 4) = true by simp; omega, show decide ((c : Int) < 4) = true by simp; omega, show decide (0 ≤ (a : Int)) = true by simp,
      show decide (0 ≤ (b : Int)) = true by simp, show decide (0 ≤ (c : Int)) = true by simp, show decide (a * 4 + b < 16) = true by simp; omega, show decide (b * 4 + c < 16) = true by simp; omega, show decide (a * 4 + c < 16) = true by simp; omega, Bool.and_self, cond_true, tri]
theorem r0v : ref_TableError.l0 N x N 0 = bif (List.range 16).any (fun i => entBad (x.getD i 0)) then some 4 else ref_TableError.l1 N x N 0 := by
  refine scan_loop (n := 16) _ (some 4) _ (fun k i => ref_TableError.l0 N x k i) (fun k => ?_) (fun k i hi => ?_) N (by omega)
  · rw [ref_TableError.l0_succ]; simp
  · have e2 : w (Int.tdiv (i : Int) 4) = ((i / 4 : Nat) : Int) := by rw [w_small] <;> (simp -implicitDefEqProofs only [Int.tdiv_eq_ediv_of_nonneg (Int.natCast_nonneg i)]; omega)
    have e4 : Int.tmod (i : Int) 4 = ((i % 4 : Nat) : Int) := by rw [Int.tmod_eq_emod_of_nonneg (Int.natCast_nonneg _)]; omega
    rw [ref_TableError.l0_clean, vl_self hx, e2, e4]
    have e5 : i / 4 * 4 + i % 4 = i := by omega
    have ha : i / 4 < 4 := by omega
    have hb : i % 4 < 4 := by omega
    clear e2 e4
    revert e5 ha hb
    generalize i / 4 = a
    generalize i % 4 = b
    intro e5 ha hb
    rw [w_small ((i : Int) + 1) (by omega) (by omega)]
    simp -implicitDefEqProofs only [Int.toNat_natCast, Nat.zero_add, Nat.mul_one, e5, show decide ((i : Int) < 16) = true by simp; omega, show decide (i < 16) = true by simp; omega, show decide ((a : Int) < 4) = true by simp; omega, show decide ((b : Int) < 4) = true by simp; omega,
      show decide (0 ≤ (a : Int)) = true by simp, show decide (0 ≤ (b : Int)) = true by simp, Bool.and_self, Bool.true_or, cond_true, entBad]
theorem any64 (p : Nat → Nat → Nat → Bool) : ((List.range 64).any fun i => p (i / 16) (i / 4 % 4) (i % 4)) = ((List.range 4).any fun a => (List.range 4).any fun b => (List.range 4).any fun c => p a b c) := by
  simp -implicitDefEqProofs [List.range, List.range.loop, Bool.or_assoc]
theorem ref_TableError.v : ref_TableError.fn N x = some (tabErr x) := by
  rw [ref_TableError.eq, r0v hN hx]
  unfold tabErr
  cases h : (List.range 16).any (fun i => entBad (x.getD i 0)) with
  | true => rfl
  | false =>
    rw [cond_false, cond_false, r1v hN hx (ents h), any64 hN hx (tri x)]
    cases (List.range 4).any (fun a => (List.range 4).any (fun b => (List.range 4).any (tri x a b))) <;> rfl
end

theorem wake_Class.v {N : Nat} (hN : 4611686018427387904 ≤ N) (c : Int) : wake_Class.fn N c = some (bif cls c then 1 else 0) := by
  rw [wake_Class.clean]; unfold cls; cases (decide (c < 0) || decide (c > 3)) <;> rfl
theorem cls_ok {c : Int} (h : cls c = false) : 0 ≤ c ∧ c < 4 := by
  simp -implicitDefEqProofs only [cls, Bool.or_eq_false_iff, decide_eq_false_iff_not] at h; omega


theorem gp_ok {x : List Int} {a b : Int} (hx : x.length = 16) (ht : tabErr x = 0) (ha : cls a = false) (hb : cls b = false) : 30 ≤ gp x a b ∧ gp x a b ≤ 600 := by
  have h1 := cls_ok ha
  have h2 := cls_ok hb
  exact tabErr_ents ht _ (by omega)

/-! ### names -/
def nameCh (c : UInt8) : Bool := !(((decide (((c.toNat : Nat) : Int) < 65)) || (decide (((c.toNat : Nat) : Int) > 90))) && ((decide (((c.toNat : Nat) : Int) < 48)) || (decide (((c.toNat : Nat) : Int) > 57))))
def isNameL : List UInt8 → Bool
  | [] => false
  | b :: r => bif decide (r.length + 1 > 8) then false else bif decide (((b.toNat : Nat) : Int) < 65) || decide (((b.toNat : Nat) : Int) > 90) then false else (b :: r).all nameCh
def isName (s : ByteArray) : Bool := isNameL s.data.toList
theorem size_list (s : ByteArray) : s.size = s.data.toList.length := by rw [ByteArray.size, Array.length_toList]

section
variable {N : Nat} (hN : 4611686018427387904 ≤ N)
include hN
theorem chart_Name.v (s : ByteArray) : chart_Name.fn N s = some (isName s) := by
  rw [chart_Name.clean]
  unfold isName
  have hsz := size_list s
  cases h : s.data.toList with
  | nil =>
    rw [h] at hsz
    have hsz : s.size = 0 := hsz
    simp [hsz, isNameL]
  | cons b r =>
    rw [h] at hsz
    have hsz : s.size = r.length + 1 := by simpa using hsz
    have g : (ByteArray.data s).getD 0 0 = b := getD_bytes (pre := []) (r := r) h
    have c1 : decide (0 < (s.size : Int)) = true := by rw [decide_eq_true_iff]; omega
    have c2 : ((s.size : Int) == 0) = false := by rw [beq_eq_false_iff_ne]; omega
    have c3 : decide ((s.size : Int) > 8) = decide (r.length + 1 > 8) := by rw [decide_eq_decide]; omega
    simp only [g, c1, c2, c3, Bool.true_or, cond_true, Bool.false_or, isNameL]
    by_cases h8 : r.length + 1 > 8
    · simp [h8]
    have h8' : decide (r.length + 1 > 8) = false := decide_eq_false h8
    simp only [h8', Bool.false_or, cond_false]
    have hl := scan_list (l := s.data.toList) (fun c => !nameCh c) (some false) (some true) (fun k i => chart_Name.l0 N s k i)
      (fun k => by show chart_Name.l0 N s (k + 1) (s.data.toList.length : Int) = _; rw [← size_list s]; exact chart_Name.l0_nil N s k)
      (fun k pre x r' h' => by show chart_Name.l0 N s (k + 1) (pre.length : Int) = _; rw [chart_Name.l0_cons N s k h' (by omega)]; simp [nameCh]) N (by rw [h]; simp; omega)
    rw [hl, h]
    cases (decide (((b.toNat : Nat) : Int) < 65) || decide (((b.toNat : Nat) : Int) > 90)) with
    | true => rfl
    | false =>
      rw [cond_false, cond_false, ← List.not_all_eq_any_not]
      cases ((b :: r).all nameCh) <;> rfl
theorem ref_IsName.v (s : ByteArray) : ref_IsName.fn N s = some (isName s) := by
  rw [ref_IsName.clean]
  unfold isName
  have hsz := size_list s
  cases h : s.data.toList with
  | nil =>
    rw [h] at hsz
    have hsz : s.size = 0 := hsz
    have : s = ⟨#[]⟩ := by cases s with | mk a => congr 1; exact Array.ext' h
    subst this
    simp [isNameL, seq]
  | cons b r =>
    rw [h] at hsz
    have hsz : s.size = r.length + 1 := by simpa using hsz
    have g : (ByteArray.data s).getD 0 0 = b := getD_bytes (pre := []) (r := r) h
    have c1 : decide (0 < (s.size : Int)) = true := by rw [decide_eq_true_iff]; omega
    have c2 : seq s (⟨#[]⟩ : ByteArray) = false := by unfold seq; rw [h]; rfl
    have c3 : decide ((s.size : Int) > 8) = decide (r.length + 1 > 8) := by rw [decide_eq_decide]; omega
    simp only [g, c1, c2, c3, Bool.true_or, cond_true, Bool.false_or, isNameL]
    by_cases h8 : r.length + 1 > 8
    · simp [h8]
    have h8' : decide (r.length + 1 > 8) = false := decide_eq_false h8
    simp only [h8', Bool.false_or, cond_false]
    have hl := scan_list (l := s.data.toList) (fun c => !nameCh c) (some false) (some true) (fun k i => ref_IsName.l0 N s k i)
      (fun k => by show ref_IsName.l0 N s (k + 1) (s.data.toList.length : Int) = _; rw [← size_list s]; exact ref_IsName.l0_nil N s k)
      (fun k pre x r' h' => by show ref_IsName.l0 N s (k + 1) (pre.length : Int) = _; rw [ref_IsName.l0_cons N s k h' (by omega)]; simp [nameCh]) N (by rw [h]; simp; omega)
    rw [hl, h]
    have hb : (b :: r).any (fun c => !nameCh c) = !((b :: r).all nameCh) := List.not_all_eq_any_not.symm
    rw [hb]
    by_cases q1 : ((b.toNat : Nat) : Int) < 65
    · by_cases q2 : ((b.toNat : Nat) : Int) < 48
      · have : nameCh b = false := by simp [nameCh]; omega
        simp [q1, this, show ¬ 48 ≤ b.toNat by omega]
      · by_cases q3 : ((b.toNat : Nat) : Int) > 57
        · have : nameCh b = false := by simp [nameCh]; omega
          simp [q1, this, show ¬ b.toNat ≤ 57 by omega]
        · simp [q1, show (48 : Int) ≤ b.toNat by omega, show (b.toNat : Int) ≤ 57 by omega]
    · by_cases q2 : ((b.toNat : Nat) : Int) > 90
      · have : nameCh b = false := by simp [nameCh]; omega
        simp [q2, this, show ¬ b.toNat ≤ 57 by omega]
      · simp only [q1, q2, decide_false, Bool.or_false, cond_false, show decide (((b.toNat : Nat) : Int) ≤ 57) = false by rw [decide_eq_false_iff_not]; omega, Bool.and_false]
        cases ((b :: r).all nameCh) <;> rfl
theorem slot_Name.v (s : ByteArray) : slot_Name.fn N s = some (isName s) := by
  rw [slot_Name.eq, owner_Name.eq, sector_Name.eq, chart_Name.v hN]; rfl
end
/-! ### arrivals -/
def tmBad (a : Ar) : Bool := ((decide (a.2.2.1 < 0)) || (decide (a.2.2.1 > a.2.2.2))) || (decide (a.2.2.2 > 200000))
def arrL : List Ar → List Ar → Int
  | _, [] => 0
  | pre, x :: r => bif !isName x.1 then 3 else bif cls x.2.1 then 1 else bif tmBad x then 12 else bif pre.any (fun y => seq y.1 x.1) then 7 else arrL (pre ++ [x]) r
theorem arrL_cons (pre : List Ar) (x : Ar) (r : List Ar) : arrL pre (x :: r) = bif !isName x.1 then 3 else bif cls x.2.1 then 1 else bif tmBad x then 12 else bif pre.any (fun y => seq y.1 x.1) then 7 else arrL (pre ++ [x]) r := rfl
def arrErr (l : List Ar) : Int := bif decide ((l.length : Int) > 8) then 2 else arrL [] l
theorem mid_take {X : Type} {l pre r : List X} {x : X} (h : l = pre ++ x :: r) : l.take pre.length = pre := by rw [h]; simp
theorem mid_get {X : Type} {l pre r : List X} {x d : X} (h : l = pre ++ x :: r) : l.getD pre.length d = x := by rw [h]; exact getD_mid pre x r d
theorem mid_lt {X : Type} {l pre r : List X} {x : X} (h : l = pre ++ x :: r) : pre.length < l.length := by rw [h]; simp
section
variable {N : Nat} (hN : 4611686018427387904 ≤ N)
include hN
theorem sequence_Check.v (l : List Ar) : sequence_Check.fn N l = some (arrErr l) := by
  rw [sequence_Check.eq]
  unfold arrErr
  cases h8 : decide ((l.length : Int) > 8) with
  | true => rfl
  | false =>
    rw [decide_eq_false_iff_not] at h8
    rw [cond_false, cond_false]
    refine list_loop (σ := Unit) (l := l) (fun k _ i => sequence_Check.l0 N l k i) (fun pre r _ => some (arrL pre r)) (fun _ _ => True) (fun k _ _ => sequence_Check.l0_nil N l k) (fun k pre x r _ hl _ ih => ?_) N () trivial (by omega)
    have ih : sequence_Check.l0 N l k ((pre.length : Int) + 1) = some (arrL (pre ++ [x]) r) := ih () trivial
    have hlt := mid_lt hl
    have hin : ∀ k', sequence_Check.l1 N l k' (pre.length : Int) N 0 = bif pre.any (fun y => seq y.1 x.1) then some 7 else sequence_Check.l0 N l k' ((pre.length : Int) + 1) := by
      intro k'
      have ht : List.take (Int.toNat (pre.length : Int)) l = pre := by rw [Int.toNat_natCast]; exact mid_take hl
      have hw : w ((pre.length : Int) + 1) = (pre.length : Int) + 1 := w_small _ (by omega) (by omega)
      refine scan_list (l := pre) (fun y => seq y.1 x.1) (some 7) (sequence_Check.l0 N l k' ((pre.length : Int) + 1)) (fun k i => sequence_Check.l1 N l k' (pre.length : Int) k i) (fun k => ?_) (fun k p2 y r2 h2 => ?_) N (by omega)
      · have := sequence_Check.l1_nil N l k' (pre.length : Int) k
        rw [ht, hw] at this
        exact this
      · have := sequence_Check.l1_cons N l k' (pre.length : Int) k (pre := p2) (r := r2) (x := y) (by rw [ht]; exact h2) (by rw [ht]; omega)
        rw [Int.toNat_natCast, mid_get hl] at this
        exact this
    show sequence_Check.l0 N l (k + 1) (pre.length : Int) = some (arrL pre (x :: r))
    rw [sequence_Check.l0_cons N l k hl (by omega), slot_Name.v hN, Option.bind_some, wake_Class.v hN, Option.bind_some, hin, ih, arrL_cons]
    unfold tmBad
    cases isName x.1 with
    | false => rfl
    | true =>
      cases cls x.2.1 with
      | true => rfl
      | false =>
        cases (((decide (x.2.2.1 < 0)) || (decide (x.2.2.1 > x.2.2.2))) || (decide (x.2.2.2 > 200000))) with
        | true => rfl
        | false => cases (pre.any fun y => seq y.1 x.1) <;> rfl
theorem ref_ArrivalsError.v (l : List Ar) : ref_ArrivalsError.fn N l = some (arrErr l) := by
  rw [ref_ArrivalsError.eq]
  unfold arrErr
  cases h8 : decide ((l.length : Int) > 8) with
  | true => rfl
  | false =>
    rw [decide_eq_false_iff_not] at h8
    rw [cond_false, cond_false]
    refine list_loop (σ := Unit) (l := l) (fun k _ i => ref_ArrivalsError.l0 N l k i) (fun pre r _ => some (arrL pre r)) (fun _ _ => True) (fun k _ _ => ref_ArrivalsError.l0_nil N l k) (fun k pre x r _ hl _ ih => ?_) N () trivial (by omega)
    have ih : ref_ArrivalsError.l0 N l k ((pre.length : Int) + 1) = some (arrL (pre ++ [x]) r) := ih () trivial
    have hlt := mid_lt hl
    have hin : ∀ k', ref_ArrivalsError.l1 N l k' (pre.length : Int) N 0 = bif pre.any (fun y => seq y.1 x.1) then some 7 else ref_ArrivalsError.l0 N l k' ((pre.length : Int) + 1) := by
      intro k'
      have hw : w ((pre.length : Int) + 1) = (pre.length : Int) + 1 := w_small _ (by omega) (by omega)
      refine scan_list (l := pre) (fun y => seq y.1 x.1) (some 7) (ref_ArrivalsError.l0 N l k' ((pre.length : Int) + 1)) (fun k i => ref_ArrivalsError.l1 N l k' (pre.length : Int) k i) (fun k => ?_) (fun k p2 y r2 h2 => ?_) N (by omega)
      · show ref_ArrivalsError.l1 N l k' (pre.length : Int) (k + 1) (pre.length : Int) = _
        rw [ref_ArrivalsError.l1_succ, decide_eq_false (by omega), cond_false, hw]
      · have hlt2 := mid_lt h2
        have hg : List.getD l p2.length ((⟨#[]⟩ : ByteArray), (0, (0, 0))) = y := by
          have e : l = p2 ++ y :: (r2 ++ x :: r) := by rw [hl, h2]; simp
          exact mid_get e
        have hw2 : w ((p2.length : Int) + 1) = (p2.length : Int) + 1 := w_small _ (by omega) (by omega)
        have hb : ((decide (0 ≤ (p2.length : Int))) && (decide ((p2.length : Int) < (l.length : Int)))) = true := by rw [Bool.and_eq_true, decide_eq_true_iff, decide_eq_true_iff]; omega
        show ref_ArrivalsError.l1 N l k' (pre.length : Int) (k + 1) (p2.length : Int) = _
        rw [ref_ArrivalsError.l1_succ, decide_eq_true (by omega), cond_true, hb, cond_true, Int.toNat_natCast, Int.toNat_natCast, hg, mid_get hl, hw2]
    show ref_ArrivalsError.l0 N l (k + 1) (pre.length : Int) = some (arrL pre (x :: r))
    rw [ref_ArrivalsError.l0_cons N l k hl (by omega), ref_IsName.v hN, Option.bind_some, hin, ih, arrL_cons]
    unfold tmBad cls
    cases isName x.1 with
    | false => rfl
    | true =>
      cases (decide (x.2.1 < 0) || decide (x.2.1 > 3)) with
      | true => rfl
      | false =>
        cases (((decide (x.2.2.1 < 0)) || (decide (x.2.2.1 > x.2.2.2))) || (decide (x.2.2.2 > 200000))) with
        | true => rfl
        | false => cases (pre.any fun y => seq y.1 x.1) <;> rfl
end
structure ArOk (l : List Ar) : Prop where
  len : l.length ≤ 8
  ok : ∀ a ∈ l, cls a.2.1 = false ∧ 0 ≤ a.2.2.1 ∧ a.2.2.1 ≤ a.2.2.2 ∧ a.2.2.2 ≤ 200000
  one : l.Pairwise fun x y => x.1 ≠ y.1
theorem arrL_ok : ∀ (r pre : List Ar), (pre.Pairwise fun x y => x.1 ≠ y.1) → (∀ a ∈ pre, cls a.2.1 = false ∧ 0 ≤ a.2.2.1 ∧ a.2.2.1 ≤ a.2.2.2 ∧ a.2.2.2 ≤ 200000) → arrL pre r = 0 →
    ((pre ++ r).Pairwise fun x y => x.1 ≠ y.1) ∧ (∀ a ∈ pre ++ r, cls a.2.1 = false ∧ 0 ≤ a.2.2.1 ∧ a.2.2.1 ≤ a.2.2.2 ∧ a.2.2.2 ≤ 200000)
  | [], pre, h1, h2, _ => by rw [List.append_nil]; exact ⟨h1, h2⟩
  | x :: r, pre, h1, h2, h => by
    rw [arrL_cons] at h
    cases e1 : isName x.1 with
    | false => rw [e1] at h; cases h
    | true =>
      cases e2 : cls x.2.1 with
      | true => rw [e1, e2] at h; cases h
      | false =>
        cases e3 : tmBad x with
        | true => rw [e1, e2, e3] at h; cases h
        | false =>
          cases e4 : pre.any (fun y => seq y.1 x.1) with
          | true => rw [e1, e2, e3, e4] at h; cases h
          | false =>
            rw [e1, e2, e3, e4] at h
            have h : arrL (pre ++ [x]) r = 0 := h
            rw [List.any_eq_false] at e4
            unfold tmBad at e3
            simp only [Bool.or_eq_false_iff, decide_eq_false_iff_not] at e3
            have p1 : (pre ++ [x]).Pairwise fun x y => x.1 ≠ y.1 := by
              rw [List.pairwise_append]
              refine ⟨h1, by simp, fun y hy z hz => ?_⟩
              rw [List.mem_singleton] at hz
              subst hz
              intro e
              exact e4 y hy (sq_iff.2 e)
            have p2 : ∀ a ∈ pre ++ [x], cls a.2.1 = false ∧ 0 ≤ a.2.2.1 ∧ a.2.2.1 ≤ a.2.2.2 ∧ a.2.2.2 ≤ 200000 := by
              intro a ha
              rw [List.mem_append, List.mem_singleton] at ha
              rcases ha with ha | rfl
              · exact h2 a ha
              · exact ⟨e2, by omega, by omega, by omega⟩
            have := arrL_ok r (pre ++ [x]) p1 p2 h
            rwa [List.append_assoc, List.singleton_append] at this
theorem arr_ok {l : List Ar} (h : arrErr l = 0) : ArOk l := by
  unfold arrErr at h
  cases h8 : decide ((l.length : Int) > 8) with
  | true => rw [h8] at h; cases h
  | false =>
    rw [h8] at h
    have h : arrL [] l = 0 := h
    rw [decide_eq_false_iff_not] at h8
    obtain ⟨h1, h2⟩ := arrL_ok l [] List.Pairwise.nil (by simp) h
    exact ⟨by omega, h2, h1⟩
/-! ### the position in the natural order -/
def plc (l : List Ar) (i : Int) : Int := ((l.filter fun a => bf (keyA a) (keyA (ix l i))).length : Int)
theorem plc_b (l : List Ar) (i : Int) : 0 ≤ plc l i ∧ plc l i ≤ (l.length : Int) := by
  unfold plc
  have := List.length_filter_le (fun a => bf (keyA a) (keyA (ix l i))) l
  omega
section
variable {N : Nat} (hN : 4611686018427387904 ≤ N)
include hN
theorem ref_Place.v {l : List Ar} (hl : l.length ≤ 8) {i : Int} (h0 : 0 ≤ i) (h1 : i < (l.length : Int)) : ref_Place.fn N (l, i) = some (plc l i) := by
  rw [ref_Place.eq]
  have hi : ((decide (0 ≤ i)) && (decide (i < (l.length : Int)))) = true := by rw [Bool.and_eq_true, decide_eq_true_iff, decide_eq_true_iff]; omega
  have key := list_loop (l := l) (fun k (s : Int) j => ref_Place.l0 N l i k s j) (fun _ r s => some (s + ((r.filter fun a => bf (keyA a) (keyA (ix l i))).length : Int))) (fun pre s => 0 ≤ s ∧ s ≤ (pre.length : Int))
    (fun k s _ => by show ref_Place.l0 N l i (k + 1) s (l.length : Int) = _; rw [ref_Place.l0_nil]; simp) (fun k pre x r s hl' hI ih => ?_) N 0 ⟨by omega, by omega⟩ (by omega)
  · rw [key]
    unfold plc
    rw [Int.zero_add]
  · have hlt := mid_lt hl'
    obtain ⟨i1, i2⟩ := hI
    show ref_Place.l0 N l i (k + 1) s (pre.length : Int) = _
    have eg : List.getD l i.toNat ((⟨#[]⟩ : ByteArray), (0, (0, 0))) = ix l i := rfl
    rw [ref_Place.l0_cons N l i k s hl' (by omega), hi, Bool.true_or, cond_true, Bool.true_or, cond_true, cond_true, eg, w_small (s + 1) (by omega) (by omega)]
    have ec : ((decide (x.2.2.1 < (ix l i).2.2.1)) || ((x.2.2.1 == (ix l i).2.2.1) && (slt x.1 (ix l i).1))) = bf (keyA x) (keyA (ix l i)) := rfl
    rw [ec]
    cases hb : bf (keyA x) (keyA (ix l i)) with
    | true =>
      rw [cond_true, List.filter_cons_of_pos (p := fun a => bf (keyA a) (keyA (ix l i))) hb]
      have := ih (s + 1) ⟨by omega, by simp; omega⟩
      have this : ref_Place.l0 N l i k (s + 1) ((pre.length : Int) + 1) = _ := this
      rw [this, List.length_cons]
      congr 1
      omega
    | false =>
      rw [cond_false, List.filter_cons_of_neg (p := fun a => bf (keyA a) (keyA (ix l i))) (by rw [hb]; decide)]
      exact ih s ⟨i1, by simp; omega⟩
end
theorem ix_map (l : List Ar) : (idxs l.length).map (ix l) = l := by
  unfold idxs
  rw [List.map_map]
  apply List.ext_getElem
  · simp
  · intro i h1 h2
    simp only [List.getElem_map, List.getElem_range, Function.comp_apply]
    have := ix_at (l := l) (i := (i : Int)) (by omega) (by omega)
    rw [Int.toNat_natCast, List.getElem?_eq_getElem h2] at this
    exact (Option.some.inj this).symm
theorem plc_idxs (l : List Ar) (i : Int) : plc l i = (((idxs l.length).filter fun j => nf l j i).length : Int) := by
  unfold plc
  have : (l.filter fun a => bf (keyA a) (keyA (ix l i))) = ((idxs l.length).filter fun j => nf l j i).map (ix l) := by
    have e := ix_map l
    have : ((idxs l.length).map (ix l)).filter (fun a => bf (keyA a) (keyA (ix l i))) = ((idxs l.length).filter fun j => nf l j i).map (ix l) := by
      rw [List.filter_map]
      rfl
    rwa [e] at this
  rw [this, List.length_map]
theorem sorted_cnt {α : Type} {lt : α → α → Bool} (ho : LtOk lt) {L pre r : List α} {x : α} (hL : L = pre ++ x :: r) (hs : L.Pairwise fun a b => lt a b = true) : (L.filter fun y => lt y x).length = pre.length := by
  subst hL
  rw [List.pairwise_append, List.pairwise_cons] at hs
  obtain ⟨_, ⟨h2, _⟩, h3⟩ := hs
  rw [List.filter_append, List.filter_eq_self.2 (fun a ha => h3 a ha x (by simp)), List.filter_cons_of_neg (by rw [ho.irr]; decide), List.filter_eq_nil_iff.2 (fun a ha => by rw [ho.asym (h2 a ha)]; decide), List.append_nil]
theorem plc_nat {l : List Ar} (hl : ArOk l) {pre r : List Int} {x : Int} (h : natO l = pre ++ x :: r) : plc l x = (pre.length : Int) := by
  obtain ⟨hp, hs⟩ := natO_spec hl.one
  rw [plc_idxs, ← (hp.filter fun j => nf l j x).length_eq, sorted_cnt (nf_ok l) h hs]
theorem nat_mem {l : List Ar} (hl : ArOk l) {x : Int} : x ∈ natO l ↔ 0 ≤ x ∧ x < (l.length : Int) := by
  rw [(natO_spec hl.one).1.mem_iff, mem_idxs]
theorem nat_len {l : List Ar} (hl : ArOk l) : (natO l).length = l.length := by
  rw [(natO_spec hl.one).1.length_eq, idxs_len]
/-! ### orders -/
theorem perm_of {α : Type} [DecidableEq α] : ∀ (A M : List α), A.Nodup → (∀ x ∈ A, x ∈ M) → A.length = M.length → A.Perm M
  | [], M, _, _, h => by
    have : M = [] := List.eq_nil_of_length_eq_zero h.symm
    rw [this]
  | x :: r, M, hn, hm, hl => by
    rw [List.nodup_cons] at hn
    have hx : x ∈ M := hm x (by simp)
    have hp := List.perm_cons_erase hx
    have hle : (M.erase x).length = M.length - 1 := by rw [List.length_erase_of_mem hx]
    have : r.Perm (M.erase x) := perm_of r (M.erase x) hn.2 (fun y hy => by
      have hne : y ≠ x := by intro e; subst e; exact hn.1 hy
      exact (List.mem_erase_of_ne hne).2 (hm y (by simp [hy]))) (by rw [hle]; simp at hl; omega)
    exact (this.cons x).trans hp.symm
theorem idxs_nodup (n : Nat) : (idxs n).Nodup := by
  unfold idxs
  unfold List.Nodup
  rw [List.pairwise_map]
  exact (List.pairwise_lt_range (n := n)).imp fun {a b} h => by omega
def perL (n : Int) : List Int → List Int → Bool
  | _, [] => true
  | pre, x :: r => bif ((decide (x < 0)) || (decide (x ≥ n))) || pre.any (fun y => x == y) then false else perL n (pre ++ [x]) r
theorem perL_cons (n : Int) (pre : List Int) (x : Int) (r : List Int) : perL n pre (x :: r) = bif ((decide (x < 0)) || (decide (x ≥ n))) || pre.any (fun y => x == y) then false else perL n (pre ++ [x]) r := rfl
def perB (o : List Int) (n : Nat) : Bool := (o.length == n) && perL (n : Int) [] o
theorem perL_ok {n : Int} : ∀ (r pre : List Int), perL n pre r = true ↔ (∀ x ∈ r, 0 ≤ x ∧ x < n) ∧ r.Nodup ∧ ∀ x ∈ r, x ∉ pre
  | [], pre => by simp [perL]
  | x :: r, pre => by
    rw [perL_cons]
    cases hb : ((decide (x < 0)) || (decide (x ≥ n))) || pre.any (fun y => x == y) with
    | true =>
      rw [cond_true]
      refine ⟨fun h => (by cases h), fun ⟨h1, h2, h3⟩ => ?_⟩
      exfalso
      have g1 := h1 x (by simp)
      have g3 := h3 x (by simp)
      rw [Bool.or_eq_true, Bool.or_eq_true, decide_eq_true_iff, decide_eq_true_iff, List.any_eq_true] at hb
      rcases hb with (hb | hb) | ⟨y, hy, hb⟩
      · omega
      · omega
      · rw [beq_iff_eq] at hb; subst hb; exact g3 hy
    | false =>
      rw [cond_false, perL_ok r (pre ++ [x])]
      rw [Bool.or_eq_false_iff, Bool.or_eq_false_iff, decide_eq_false_iff_not, decide_eq_false_iff_not, List.any_eq_false] at hb
      obtain ⟨⟨b1, b2⟩, b3⟩ := hb
      constructor
      · rintro ⟨h1, h2, h3⟩
        refine ⟨fun y hy => ?_, ?_, fun y hy hp => ?_⟩
        · rw [List.mem_cons] at hy
          rcases hy with rfl | hy
          · omega
          · exact h1 y hy
        · rw [List.nodup_cons]
          exact ⟨fun hx => h3 x hx (by simp), h2⟩
        · rw [List.mem_cons] at hy
          rcases hy with rfl | hy
          · exact b3 y hp (by simp)
          · exact h3 y hy (by simp [hp])
      · rintro ⟨h1, h2, h3⟩
        rw [List.nodup_cons] at h2
        refine ⟨fun y hy => h1 y (by simp [hy]), h2.2, fun y hy hp => ?_⟩
        rw [List.mem_append, List.mem_singleton] at hp
        rcases hp with hp | rfl
        · exact h3 y (by simp [hy]) hp
        · exact h2.1 hy
theorem perB_iff (o : List Int) (n : Nat) : perB o n = true ↔ o.Perm (idxs n) := by
  unfold perB
  rw [Bool.and_eq_true, beq_iff_eq, perL_ok]
  constructor
  · rintro ⟨h1, h2, h3, _⟩
    exact perm_of o (idxs n) h3 (fun x hx => mem_idxs.2 (h2 x hx)) (by rw [h1, idxs_len])
  · intro h
    exact ⟨by rw [h.length_eq, idxs_len], fun x hx => mem_idxs.1 (h.mem_iff.1 hx), h.symm.nodup (idxs_nodup n), by simp⟩
def cnt (o : List Int) (k : Int) : Nat := (o.filter fun x => x == k).length
def ordL (o : List Int) (n : Nat) : Bool := (List.range n).all fun k => cnt o (k : Int) == 1
def ordB (o : List Int) (n : Nat) : Bool := (o.length == n) && ordL o n
theorem cnt_nodup {k : Int} : ∀ {o : List Int}, o.Nodup → k ∈ o → cnt o k = 1
  | [], _, h => by cases h
  | x :: r, hn, h => by
    rw [List.nodup_cons] at hn
    unfold cnt
    by_cases e : x = k
    · subst e
      rw [List.filter_cons_of_pos (by simp), List.filter_eq_nil_iff.2 (fun a ha => by rw [beq_iff_eq]; intro e; subst e; exact hn.1 ha)]
      rfl
    · rw [List.filter_cons_of_neg (by simpa using e)]
      rw [List.mem_cons] at h
      exact cnt_nodup hn.2 (h.resolve_left fun e' => e e'.symm)
theorem ordB_iff (o : List Int) (n : Nat) : ordB o n = true ↔ o.Perm (idxs n) := by
  unfold ordB ordL
  rw [Bool.and_eq_true, beq_iff_eq, List.all_eq_true]
  constructor
  · rintro ⟨h1, h2⟩
    refine (perm_of (idxs n) o (idxs_nodup n) (fun x hx => ?_) (by rw [h1, idxs_len])).symm
    have hx := mem_idxs.1 hx
    have := h2 x.toNat (List.mem_range.2 (by omega))
    rw [beq_iff_eq, show ((x.toNat : Nat) : Int) = x by omega] at this
    unfold cnt at this
    have hne : (o.filter fun y => y == x) ≠ [] := by intro e; rw [e] at this; cases this
    obtain ⟨y, hy⟩ := List.exists_mem_of_ne_nil _ hne
    rw [List.mem_filter, beq_iff_eq] at hy
    rw [← hy.2]
    exact hy.1
  · intro h
    refine ⟨by rw [h.length_eq, idxs_len], fun k hk => ?_⟩
    rw [List.mem_range] at hk
    rw [beq_iff_eq]
    exact cnt_nodup (h.symm.nodup (idxs_nodup n)) (h.mem_iff.2 (mem_idxs.2 ⟨by omega, by omega⟩))
theorem ord_per (o : List Int) (n : Nat) : ordB o n = perB o n := by
  rw [Bool.eq_iff_iff, ordB_iff, perB_iff]
/-! ### orders: what the functions answer -/
theorem idx_any {X : Type} (p : X → Bool) : ∀ (l : List X) (i : Int), 0 ≤ i → decide (idxL p l i ≥ 0) = l.any p
  | [], i, h => rfl
  | x :: r, i, h => by
    show decide ((bif p x then i else idxL p r (i + 1)) ≥ 0) = (p x || r.any p)
    cases p x with
    | true => rw [cond_true, decide_eq_true h, Bool.true_or]
    | false => rw [cond_false, Bool.false_or]; exact idx_any p r (i + 1) (by omega)
def posO (o : List Int) (k : Int) : Int := idxL (fun y => k == y) o 0
theorem posO_at {o pre r : List Int} {k : Int} (hn : o.Nodup) (h : o = pre ++ k :: r) : posO o k = (pre.length : Int) := by
  unfold posO
  rcases idx_spec (fun y => k == y) o with ⟨_, h2⟩ | ⟨p2, x, r2, h1, h2, h3, h4⟩
  · have := h2 k (by rw [h]; simp)
    simp at this
  · rw [beq_iff_eq] at h3
    subst h3
    rw [h2]
    have hx : ∀ y ∈ pre, y ≠ k := by
      intro y hy e
      subst e
      rw [h, List.nodup_append] at hn
      exact hn.2.2 y hy y (by simp) rfl
    have e : pre ++ k :: r = p2 ++ k :: r2 := h.symm.trans h1
    have key : ∀ (a b : List Int) {s t : List Int}, a ++ k :: s = b ++ k :: t → (∀ y ∈ a, y ≠ k) → (∀ y ∈ b, (k == y) = false) → a.length = b.length := by
      intro a
      induction a with
      | nil =>
        intro b s t e _ hb
        cases b with
        | nil => rfl
        | cons z b =>
          have : k = z := by simp at e; exact e.1
          have := hb z (by simp)
          simp at this
          omega
      | cons z a ih =>
        intro b s t e ha hb
        cases b with
        | nil =>
          have : z = k := by simp at e; exact e.1
          exact absurd this (ha z (by simp))
        | cons z' b =>
          have e' : a ++ k :: s = b ++ k :: t := by simp at e; exact e.2
          have := ih b e' (fun y hy => ha y (by simp [hy])) (fun y hy => hb y (by simp [hy]))
          simp [this]
    rw [key pre p2 e hx h4]
theorem posO_b (o : List Int) (k : Int) : -1 ≤ posO o k ∧ posO o k ≤ (o.length : Int) := by
  unfold posO
  rcases idx_spec (fun y => k == y) o with ⟨h1, _⟩ | ⟨p2, x, r2, h1, h2, _⟩
  · rw [h1]; omega
  · rw [h2, h1]; simp; omega
def mxL : Int → List Int → Int
  | m, [] => m
  | m, v :: r => mxL (if v > m then v else m) r
theorem mxL_cons (m v : Int) (r : List Int) : mxL m (v :: r) = mxL (if v > m then v else m) r := rfl
theorem mxL_spec : ∀ (L : List Int) (m : Int), (∀ x ∈ L, x ≤ mxL m L) ∧ m ≤ mxL m L ∧ (mxL m L = m ∨ mxL m L ∈ L)
  | [], m => ⟨by simp, Int.le_refl _, .inl rfl⟩
  | v :: r, m => by
    obtain ⟨h1, h2, h3⟩ := mxL_spec r (if v > m then v else m)
    rw [mxL_cons]
    refine ⟨fun x hx => ?_, ?_, ?_⟩
    · rw [List.mem_cons] at hx
      rcases hx with rfl | hx
      · by_cases hv : x > m
        · rw [if_pos hv] at h2 ⊢; exact h2
        · rw [if_neg hv] at h2 ⊢; omega
      · exact h1 x hx
    · by_cases hv : v > m
      · rw [if_pos hv] at h2 ⊢; omega
      · rw [if_neg hv] at h2 ⊢; exact h2
    · rcases h3 with h3 | h3
      · rw [h3]
        by_cases hv : v > m
        · rw [if_pos hv]; right; simp
        · rw [if_neg hv]; left; rfl
      · right; rw [List.mem_cons]; right; exact h3
theorem mxL_perm {A B : List Int} (h : A.Perm B) (m : Int) : mxL m A = mxL m B := by
  obtain ⟨a1, a2, a3⟩ := mxL_spec A m
  obtain ⟨b1, b2, b3⟩ := mxL_spec B m
  have l1 : mxL m A ≤ mxL m B := by
    rcases a3 with e | e
    · rw [e]; exact b2
    · exact b1 _ (h.mem_iff.1 e)
  have l2 : mxL m B ≤ mxL m A := by
    rcases b3 with e | e
    · rw [e]; exact a2
    · exact a1 _ (h.mem_iff.2 e)
  omega
def fV (l : List Ar) (o : List Int) (k : Int) : Int := ((posO o k - plc l k).natAbs : Int)
section
variable {N : Nat} (hN : 4611686018427387904 ≤ N)
include hN
theorem index_v (L : List Int) (x : Int) (h : L.length < 4611686018427387904) : slices_Index_int.fn N (L, x) = some (posO L x) := by
  have := find_list (l := L) (fun y => x == y) (fun k i => slices_Index_int.l0 N L x k i) (fun k => slices_Index_int.l0_nil N L x k) (fun k pre y r hl => slices_Index_int.l0_cons N L x k hl h) N (by omega)
  rw [slices_Index_int.eq, this]
  rfl
theorem cont_v (L : List Int) (x : Int) (h : L.length < 4611686018427387904) : slices_Contains_int.fn N (L, x) = some (L.any fun y => x == y) := by
  rw [slices_Contains_int.eq, index_v hN L x h, Option.bind_some]
  unfold posO
  rw [idx_any _ _ _ (Int.le_refl _)]
theorem sequence_permutation.v (o : List Int) (n : Nat) (hn : n ≤ 8) : sequence_permutation.fn N (o, (n : Int)) = some (perB o n) := by
  rw [sequence_permutation.eq]
  unfold perB
  have e : ((o.length : Int) == (n : Int)) = (o.length == n) := by
    by_cases h : o.length = n
    · rw [h]; simp
    · rw [beq_eq_false_iff_ne.2 (by omega), beq_eq_false_iff_ne.2 h]
  rw [e]
  cases ho : (o.length == n) with
  | false => rfl
  | true =>
    rw [beq_iff_eq] at ho
    rw [Bool.not_true, cond_false, Bool.true_and]
    refine list_loop (σ := Unit) (l := o) (fun k _ i => sequence_permutation.l0 N o (n : Int) k i) (fun pre r _ => some (perL (n : Int) pre r)) (fun _ _ => True) (fun k _ _ => sequence_permutation.l0_nil N o n k) (fun k pre x r _ hl _ ih => ?_) N () trivial (by omega)
    have ih : sequence_permutation.l0 N o (n : Int) k ((pre.length : Int) + 1) = some (perL (n : Int) (pre ++ [x]) r) := ih () trivial
    have hlt := mid_lt hl
    show sequence_permutation.l0 N o (n : Int) (k + 1) (pre.length : Int) = some (perL (n : Int) pre (x :: r))
    rw [sequence_permutation.l0_cons N o n k hl (by omega), cont_v hN pre x (by omega), ih, perL_cons]
    cases ((decide (x < 0)) || (decide (x ≥ (n : Int)))) with
    | true => rfl
    | false => cases (pre.any fun y => x == y) <;> rfl
theorem ref_IsOrder.v (o : List Int) (n : Nat) (hn : n ≤ 8) : ref_IsOrder.fn N (o, (n : Int)) = some (ordB o n) := by
  rw [ref_IsOrder.eq]
  unfold ordB
  have e : ((o.length : Int) == (n : Int)) = (o.length == n) := by
    by_cases h : o.length = n
    · rw [h]; simp
    · rw [beq_eq_false_iff_ne.2 (by omega), beq_eq_false_iff_ne.2 h]
  rw [e]
  cases ho : (o.length == n) with
  | false => rfl
  | true =>
    rw [beq_iff_eq] at ho
    rw [Bool.not_true, cond_false, Bool.true_and]
    have inner : ∀ (k1 : Nat) (a : Nat), a < n → ref_IsOrder.l1 N o (n : Int) k1 (a : Int) N 0 0 = bif !(cnt o (a : Int) == 1) then some false else ref_IsOrder.l0 N o (n : Int) k1 ((a : Int) + 1) := by
      intro k1 a ha
      have hw : w ((a : Int) + 1) = (a : Int) + 1 := w_small _ (by omega) (by omega)
      have key := list_loop (l := o) (fun k (s : Int) j => ref_IsOrder.l1 N o (n : Int) k1 (a : Int) k s j) (fun _ r s => bif !(s + ((r.filter fun x => x == (a : Int)).length : Int) == 1) then some false else ref_IsOrder.l0 N o (n : Int) k1 ((a : Int) + 1)) (fun pre s => 0 ≤ s ∧ s ≤ (pre.length : Int))
        (fun k s _ => by show ref_IsOrder.l1 N o (n : Int) k1 (a : Int) (k + 1) s (o.length : Int) = _; rw [ref_IsOrder.l1_nil, hw]; simp) (fun k pre x r s hl' hI ih => ?_) N 0 ⟨by omega, by omega⟩ (by omega)
      · rw [key]
        unfold cnt
        rw [Int.zero_add]
        have : (((o.filter fun x => x == (a : Int)).length : Int) == 1) = ((o.filter fun x => x == (a : Int)).length == 1) := by
          generalize (o.filter fun x => x == (a : Int)).length = q
          by_cases h : q = 1
          · rw [h]; rfl
          · rw [beq_eq_false_iff_ne.2 (by omega), beq_eq_false_iff_ne.2 h]
        rw [this]
      · have hlt := mid_lt hl'
        obtain ⟨i1, i2⟩ := hI
        show ref_IsOrder.l1 N o (n : Int) k1 (a : Int) (k + 1) s (pre.length : Int) = _
        rw [ref_IsOrder.l1_cons N o n k1 a k s hl' (by omega), w_small (s + 1) (by omega) (by omega)]
        cases hb : (x == (a : Int)) with
        | true =>
          rw [cond_true, List.filter_cons_of_pos (p := fun x => x == (a : Int)) hb, List.length_cons]
          have := ih (s + 1) ⟨by omega, by simp; omega⟩
          have this : ref_IsOrder.l1 N o (n : Int) k1 (a : Int) k (s + 1) ((pre.length : Int) + 1) = _ := this
          rw [this, show s + (((r.filter fun x => x == (a : Int)).length + 1 : Nat) : Int) = s + 1 + ((r.filter fun x => x == (a : Int)).length : Int) by omega]
        | false =>
          rw [cond_false, List.filter_cons_of_neg (p := fun x => x == (a : Int)) (by rw [hb]; decide)]
          exact ih s ⟨i1, by simp; omega⟩
    have outer := range_loop (n := n) (fun k (_ : Unit) i => ref_IsOrder.l0 N o (n : Int) k i) (fun i _ => some ((List.range' i (n - i)).all fun k => cnt o (k : Int) == 1)) (fun _ _ => True)
      (fun k _ _ => by show ref_IsOrder.l0 N o (n : Int) (k + 1) (n : Int) = _; rw [ref_IsOrder.l0_succ, decide_eq_false (by omega), cond_false, Nat.sub_self]; rfl) (fun k i _ hi _ ih => ?_) N () 0 (by omega) trivial (by omega)
    · have outer : ref_IsOrder.l0 N o (n : Int) N 0 = _ := outer
      rw [outer]
      unfold ordL
      rw [List.range_eq_range', Nat.sub_zero]
    · have ih : ref_IsOrder.l0 N o (n : Int) k ((i : Int) + 1) = _ := ih () trivial
      show ref_IsOrder.l0 N o (n : Int) (k + 1) (i : Int) = _
      rw [ref_IsOrder.l0_succ, decide_eq_true (by omega), cond_true, inner k i hi, ih, show n - i = (n - (i + 1)) + 1 by omega, List.range'_succ, List.all_cons]
      cases (cnt o (i : Int) == 1) <;> rfl
/-! ### shifts -/
theorem shift_v {l : List Ar} (hl : ArOk l) {o : List Int} (ho : o.Perm (idxs l.length)) : sequence_Shift.l0 N o (natO l) N 0 0 = some (mxL 0 ((natO l).map (fV l o)), 0) := by
  have hlen := hl.len
  have hol : o.length = l.length := by rw [ho.length_eq, idxs_len]
  have hnl := nat_len hl
  refine list_loop (l := natO l) (fun k (s : Int) j => sequence_Shift.l0 N o (natO l) k s j) (fun _ r s => some (mxL s (r.map (fV l o)), 0)) (fun pre s => 0 ≤ s ∧ s ≤ 100)
    (fun k s _ => by show sequence_Shift.l0 N o (natO l) (k + 1) s ((natO l).length : Int) = _; rw [sequence_Shift.l0_nil]; rfl) (fun k pre x r s hl' hI ih => ?_) N 0 ⟨by omega, by omega⟩ (by omega)
  have hlt := mid_lt hl'
  obtain ⟨i1, i2⟩ := hI
  obtain ⟨b1, b2⟩ := posO_b o x
  have hp := plc_nat hl hl'
  show sequence_Shift.l0 N o (natO l) (k + 1) s (pre.length : Int) = _
  rw [sequence_Shift.l0_cons N o (natO l) k s hl' (by omega), decide_eq_true hlt, cond_true, index_v hN o x (by omega), Option.bind_some, w_small ((pre.length : Int) - posO o x) (by omega) (by omega), w_small (posO o x - (pre.length : Int)) (by omega) (by omega), List.map_cons, mxL_cons]
  have e : (if (pre.length : Int) - posO o x > (if posO o x - (pre.length : Int) > s then posO o x - (pre.length : Int) else s) then (pre.length : Int) - posO o x else (if posO o x - (pre.length : Int) > s then posO o x - (pre.length : Int) else s)) = if fV l o x > s then fV l o x else s := by
    unfold fV
    rw [hp]
    generalize (pre.length : Int) = a
    generalize posO o x = b
    split <;> split <;> split <;> omega
  rw [e]
  have hf : 0 ≤ fV l o x ∧ fV l o x ≤ 100 := by unfold fV; rw [hp]; omega
  refine ih _ ?_
  split
  · exact hf
  · exact ⟨i1, i2⟩
theorem ref_Shifted.v {l : List Ar} (hl : ArOk l) {o : List Int} (ho : o.Perm (idxs l.length)) : ref_Shifted.fn N (l, o) = some (mxL 0 (o.map (fV l o))) := by
  have hlen := hl.len
  have hol : o.length = l.length := by rw [ho.length_eq, idxs_len]
  have hnd : o.Nodup := ho.symm.nodup (idxs_nodup _)
  rw [ref_Shifted.eq]
  refine list_loop (l := o) (fun k (s : Int) j => ref_Shifted.l0 N l o k s j) (fun _ r s => some (mxL s (r.map (fV l o)))) (fun pre s => 0 ≤ s ∧ s ≤ 100)
    (fun k s _ => by show ref_Shifted.l0 N l o (k + 1) s (o.length : Int) = _; rw [ref_Shifted.l0_nil]; rfl) (fun k pre x r s hl' hI ih => ?_) N 0 ⟨by omega, by omega⟩ (by omega)
  have hlt := mid_lt hl'
  obtain ⟨i1, i2⟩ := hI
  obtain ⟨b1, b2⟩ := plc_b l x
  have hp := posO_at hnd hl'
  obtain ⟨x0, x1⟩ := mem_idxs.1 (ho.mem_iff.1 (show x ∈ o by rw [hl']; simp))
  have hf : fV l o x = (((pre.length : Int) - plc l x).natAbs : Int) := by unfold fV; rw [hp]
  show ref_Shifted.l0 N l o (k + 1) s (pre.length : Int) = _
  rw [ref_Shifted.l0_cons N l o k s hl' (by omega), ref_Place.v hN hlen x0 x1, Option.bind_some, w_small ((pre.length : Int) - plc l x) (by omega) (by omega), w_small (-((pre.length : Int) - plc l x)) (by omega) (by omega), List.map_cons, mxL_cons]
  have ih' := ih (if fV l o x > s then fV l o x else s) (by split <;> omega)
  have ih' : ref_Shifted.l0 N l o k (if fV l o x > s then fV l o x else s) ((pre.length : Int) + 1) = _ := ih'
  rw [← ih', hf]
  by_cases c1 : (pre.length : Int) - plc l x < 0
  · rw [decide_eq_true c1, cond_true]
    by_cases c2 : -((pre.length : Int) - plc l x) > s
    · rw [decide_eq_true c2, cond_true, if_pos (by omega), show (((pre.length : Int) - plc l x).natAbs : Int) = -((pre.length : Int) - plc l x) by omega]
    · rw [decide_eq_false c2, cond_false, if_neg (by omega)]
  · rw [decide_eq_false c1, cond_false]
    by_cases c2 : (pre.length : Int) - plc l x > s
    · rw [decide_eq_true c2, cond_true, if_pos (by omega), show (((pre.length : Int) - plc l x).natAbs : Int) = (pre.length : Int) - plc l x by omega]
    · rw [decide_eq_false c2, cond_false, if_neg (by omega)]
theorem shifts_eq {l : List Ar} (hl : ArOk l) {o : List Int} (ho : o.Perm (idxs l.length)) : mxL 0 ((natO l).map (fV l o)) = mxL 0 (o.map (fV l o)) :=
  mxL_perm (((natO_spec hl.one).1.trans ho.symm).map _) 0
end
/-! ### landing times -/
def gO (l : List Ar) (x : List Int) (i k : Int) : Int := gp x (ix l i).2.1 (ix l k).2.1
def nx (l : List Ar) (x : List Int) (p k a : Int) : Int := bif decide (p < 0) then (ix l k).2.2.1 else if a + gO l x p k > (ix l k).2.2.1 then a + gO l x p k else (ix l k).2.2.1
def tmS (l : List Ar) (x : List Int) : Int → Int → List Int → List Int
  | _, _, [] => []
  | p, a, k :: r => nx l x p k a :: tmS l x k (nx l x p k a) r
def okS (l : List Ar) (x : List Int) : Int → Int → List Int → Bool
  | _, _, [] => true
  | p, a, k :: r => decide (nx l x p k a ≤ (ix l k).2.2.2) && okS l x k (nx l x p k a) r
theorem tmS_cons (l : List Ar) (x : List Int) (p a k : Int) (r : List Int) : tmS l x p a (k :: r) = nx l x p k a :: tmS l x k (nx l x p k a) r := rfl
theorem okS_cons (l : List Ar) (x : List Int) (p a k : Int) (r : List Int) : okS l x p a (k :: r) = (decide (nx l x p k a ≤ (ix l k).2.2.2) && okS l x k (nx l x p k a) r) := rfl
theorem ix_mem {l : List Ar} {i : Int} (h0 : 0 ≤ i) (h1 : i < (l.length : Int)) : ix l i ∈ l := by
  have := ix_at h0 h1
  exact List.mem_of_getElem? this
section
variable {l : List Ar} (hl : ArOk l) {x : List Int} (hx : x.length = 16) (ht : tabErr x = 0)
include hl hx ht
theorem gO_b {i k : Int} (h0 : 0 ≤ i) (h1 : i < (l.length : Int)) (h2 : 0 ≤ k) (h3 : k < (l.length : Int)) : 30 ≤ gO l x i k ∧ gO l x i k ≤ 600 :=
  gp_ok hx ht (hl.ok _ (ix_mem h0 h1)).1 (hl.ok _ (ix_mem h2 h3)).1
theorem gO_tri {i j k : Int} (h0 : 0 ≤ i) (h1 : i < (l.length : Int)) (h2 : 0 ≤ j) (h3 : j < (l.length : Int)) (h4 : 0 ≤ k) (h5 : k < (l.length : Int)) : gO l x i k ≤ gO l x i j + gO l x j k := by
  have a := cls_ok (hl.ok _ (ix_mem h0 h1)).1
  have b := cls_ok (hl.ok _ (ix_mem h2 h3)).1
  have c := cls_ok (hl.ok _ (ix_mem h4 h5)).1
  exact tabErr_tri ht _ _ _ (by omega) (by omega) (by omega)
theorem nx_b {p k a : Int} (h1 : p < (l.length : Int)) (h2 : 0 ≤ k) (h3 : k < (l.length : Int)) (ha : 0 ≤ a) : 0 ≤ nx l x p k a ∧ (nx l x p k a ≤ 200000 ∨ nx l x p k a ≤ a + 600) ∧ (ix l k).2.2.1 ≤ nx l x p k a ∧ (0 ≤ p → a + gO l x p k ≤ nx l x p k a) := by
  obtain ⟨_, t0, t1, t2⟩ := hl.ok _ (ix_mem h2 h3)
  unfold nx
  by_cases hp : p < 0
  · rw [decide_eq_true hp, cond_true]
    exact ⟨by omega, .inl (by omega), Int.le_refl _, fun h => by omega⟩
  · obtain ⟨g0, g1⟩ := gO_b hl hx ht (show 0 ≤ p by omega) h1 h2 h3
    rw [decide_eq_false hp, cond_false]
    split
    · exact ⟨by omega, .inr (by omega), by omega, fun _ => Int.le_refl _⟩
    · exact ⟨by omega, .inl (by omega), Int.le_refl _, fun _ => by omega⟩
theorem tab_at {i k : Int} (h0 : 0 ≤ i) (h1 : i < (l.length : Int)) (h2 : 0 ≤ k) (h3 : k < (l.length : Int)) :
    ((decide (0 ≤ (ix l i).2.1)) && (decide ((ix l i).2.1 < 4))) = true ∧ ((decide (0 ≤ (ix l k).2.1)) && (decide ((ix l k).2.1 < 4))) = true ∧ decide (((0 + (Int.toNat (ix l i).2.1 * 4)) + (Int.toNat (ix l k).2.1 * 1)) < 16) = true ∧
    List.getD x ((0 + (Int.toNat (ix l i).2.1 * 4)) + (Int.toNat (ix l k).2.1 * 1)) 0 = gO l x i k := by
  have a := cls_ok (hl.ok _ (ix_mem h0 h1)).1
  have b := cls_ok (hl.ok _ (ix_mem h2 h3)).1
  refine ⟨by rw [Bool.and_eq_true, decide_eq_true_iff, decide_eq_true_iff]; exact a, by rw [Bool.and_eq_true, decide_eq_true_iff, decide_eq_true_iff]; exact b, by rw [decide_eq_true_iff]; omega, ?_⟩
  unfold gO gp
  rw [Nat.zero_add, Nat.mul_one]
variable {N : Nat} (hN : 4611686018427387904 ≤ N)
include hN
theorem next_v' {p k a : Int} (h1 : p < (l.length : Int)) (h2 : 0 ≤ k) (h3 : k < (l.length : Int)) (ha : 0 ≤ a) (ha2 : a ≤ 300000) : sequence_next.fn N (l, x, p, k, a) = some (nx l x p k a) := by
  have hk : ((decide (0 ≤ k)) && (decide (k < (l.length : Int)))) = true := by rw [Bool.and_eq_true, decide_eq_true_iff, decide_eq_true_iff]; omega
  have ek : List.getD l k.toNat ((⟨#[]⟩ : ByteArray), (0, (0, 0))) = ix l k := rfl
  have ep : List.getD l p.toNat ((⟨#[]⟩ : ByteArray), (0, (0, 0))) = ix l p := rfl
  rw [sequence_next.eq, hk, vl_self hx, ek, ep]
  unfold nx
  by_cases hp : p < 0
  · rw [decide_eq_true hp]
    rfl
  · have hpp : ((decide (0 ≤ p)) && (decide (p < (l.length : Int)))) = true := by rw [Bool.and_eq_true, decide_eq_true_iff, decide_eq_true_iff]; omega
    obtain ⟨q1, q2, q3, q4⟩ := tab_at hl hx ht (show 0 ≤ p by omega) h1 h2 h3
    obtain ⟨g0, g1⟩ := gO_b hl hx ht (show 0 ≤ p by omega) h1 h2 h3
    rw [decide_eq_false hp, cond_false, cond_true, hpp, cond_true, cond_true, q1, cond_true, q2, cond_true, q3, cond_true, q4, w_small (a + gO l x p k) (by omega) (by omega), cond_false]
theorem times_v {o : List Int} (ho : ∀ k ∈ o, 0 ≤ k ∧ k < (l.length : Int)) (hlen : o.length ≤ 8) : sequence_Times.l0 N l o x N (-1) 0 0 [] = bif okS l x (-1) 0 o then some (tmS l x (-1) 0 o, 0) else some ([], 8) := by
  refine list_loop (l := o) (fun k (s : Int × Int × List Int) j => sequence_Times.l0 N l o x k s.1 s.2.1 j s.2.2) (fun _ r s => bif okS l x s.1 s.2.1 r then some (s.2.2 ++ tmS l x s.1 s.2.1 r, 0) else some ([], 8)) (fun pre s => s.1 < (l.length : Int) ∧ 0 ≤ s.2.1 ∧ s.2.1 ≤ 200000 ∧ s.2.2.length = pre.length)
    (fun k s _ => by show sequence_Times.l0 N l o x (k + 1) s.1 s.2.1 (o.length : Int) s.2.2 = _; rw [sequence_Times.l0_nil]; show _ = some (s.2.2 ++ [], (0 : Int)); rw [List.append_nil]) (fun k pre y r s hl' hI ih => ?_) N (-1, 0, []) ⟨by show (-1 : Int) < _; omega, by decide, by decide, rfl⟩ (by omega)
  have hlt := mid_lt hl'
  obtain ⟨i1, i2, i3, i4⟩ := hI
  obtain ⟨y0, y1⟩ := ho y (by rw [hl']; simp)
  obtain ⟨n0, n1, n2, n3⟩ := nx_b hl hx ht i1 y0 y1 i2
  obtain ⟨_, t0, t1, t2⟩ := hl.ok _ (ix_mem y0 y1)
  have hk : ((decide (0 ≤ y)) && (decide (y < (l.length : Int)))) = true := by rw [Bool.and_eq_true, decide_eq_true_iff, decide_eq_true_iff]; omega
  have ek : List.getD l y.toNat ((⟨#[]⟩ : ByteArray), (0, (0, 0))) = ix l y := rfl
  have hcap : (decide ((s.2.2.length + 1) * 8 ≤ 140737488355328) && decide ((s.2.2.length + 1) ≤ maxLen)) = true := by rw [Bool.and_eq_true, decide_eq_true_iff, decide_eq_true_iff]; unfold maxLen; omega
  show sequence_Times.l0 N l o x (k + 1) s.1 s.2.1 (pre.length : Int) s.2.2 = _
  rw [sequence_Times.l0_cons N l o x k s.1 s.2.1 s.2.2 hl' (by omega), vl_self hx, next_v' hl hx ht hN i1 y0 y1 i2 (by omega), Option.bind_some, hk, cond_true, ek, hcap, cond_true, okS_cons, tmS_cons]
  by_cases hc : nx l x s.1 y s.2.1 > (ix l y).2.2.2
  · rw [decide_eq_true hc, cond_true, decide_eq_false (by omega), Bool.false_and, cond_false]
  · rw [decide_eq_false hc, cond_false, decide_eq_true (by omega), Bool.true_and]
    have ih := ih (y, nx l x s.1 y s.2.1, s.2.2 ++ [nx l x s.1 y s.2.1]) ⟨y1, n0, by show nx l x s.1 y s.2.1 ≤ 200000; omega, by simp [i4]⟩
    simp only [List.append_assoc, List.singleton_append] at ih
    exact ih
end
/-! ### the reference's landing times -/
def preO (p : List Int) : Int := (p.getLast?).getD (-1)
def atO (p : List Int) : Int := (p.getLast?).getD 0
theorem preO_snoc (p : List Int) (k : Int) : preO (p ++ [k]) = k := by simp [preO]
theorem atO_snoc (p : List Int) (k : Int) : atO (p ++ [k]) = k := by simp [atO]
structure Dom (l : List Ar) (x : List Int) (pre out : List Int) : Prop where
  len : out.length = pre.length
  val : ∀ k ∈ pre, 0 ≤ k ∧ k < (l.length : Int)
  bnd : ∀ a ∈ out, 0 ≤ a ∧ a ≤ 200000 + 600 * (pre.length : Int)
  dom : ∀ q, q < pre.length → ∀ k, 0 ≤ k → k < (l.length : Int) → out.getD q 0 + gO l x (pre.getD q 0) k ≤ atO out + gO l x (preO pre) k
theorem getD_last {p : List Int} (h : p ≠ []) (d : Int) : p.getD (p.length - 1) d = (p.getLast?).getD d := by
  rw [List.getD_eq_getElem?_getD, List.getLast?_eq_getElem?]
theorem getD_in {p : List Int} {q : Nat} (h : q < p.length) (d : Int) : p.getD q d ∈ p := by
  rw [List.getD_eq_getElem?_getD, List.getElem?_eq_getElem h]
  exact List.getElem_mem h
theorem preO_b {l : List Ar} {pre : List Int} (h : ∀ k ∈ pre, 0 ≤ k ∧ k < (l.length : Int)) : preO pre < (l.length : Int) ∧ (pre ≠ [] → 0 ≤ preO pre) ∧ (pre = [] → preO pre = -1) := by
  unfold preO
  cases hp : pre.getLast? with
  | none =>
    have : pre = [] := List.getLast?_eq_none_iff.1 hp
    subst this
    exact ⟨by show (-1 : Int) < _; omega, fun h => absurd rfl h, fun _ => rfl⟩
  | some k =>
    have hk : k ∈ pre := List.mem_of_getLast? hp
    have := h k hk
    exact ⟨this.2, fun _ => this.1, fun e => by subst e; cases hp⟩
theorem atO_b {pre out : List Int} {B : Int} (h : ∀ a ∈ out, 0 ≤ a ∧ a ≤ B) (hB : 0 ≤ B) : 0 ≤ atO out ∧ atO out ≤ B := by
  unfold atO
  cases hp : out.getLast? with
  | none => exact ⟨Int.le_refl _, hB⟩
  | some k => exact h k (List.mem_of_getLast? hp)
section
variable {l : List Ar} (hl : ArOk l) {x : List Int} (hx : x.length = 16) (ht : tabErr x = 0)
include hl hx ht
theorem dom_snoc {pre out : List Int} (hD : Dom l x pre out) (hlen : pre.length ≤ 8) {k : Int} (h0 : 0 ≤ k) (h1 : k < (l.length : Int)) : Dom l x (pre ++ [k]) (out ++ [nx l x (preO pre) k (atO out)]) := by
  obtain ⟨p1, p2, p3⟩ := preO_b hD.val
  obtain ⟨a0, a1⟩ := atO_b (pre := pre) hD.bnd (by omega)
  obtain ⟨n0, n1, n2, n3⟩ := nx_b hl hx ht p1 h0 h1 a0
  refine ⟨by simp [hD.len], fun j hj => ?_, fun a ha => ?_, fun q hq j j0 j1 => ?_⟩
  · rw [List.mem_append, List.mem_singleton] at hj
    rcases hj with hj | rfl
    · exact hD.val j hj
    · exact ⟨h0, h1⟩
  · rw [List.mem_append, List.mem_singleton] at ha
    rw [List.length_append, List.length_singleton]
    rcases ha with ha | rfl
    · have := hD.bnd a ha; omega
    · omega
  · rw [preO_snoc, atO_snoc]
    rw [List.length_append, List.length_singleton] at hq
    by_cases e : q = pre.length
    · subst e
      rw [← hD.len, List.getD_eq_getElem?_getD, List.getElem?_append_right (Nat.le_refl _), Nat.sub_self, hD.len, List.getD_eq_getElem?_getD, List.getElem?_append_right (Nat.le_refl _), Nat.sub_self]
      exact Int.le_refl _
    · have hq' : q < pre.length := by omega
      have hne : pre ≠ [] := by intro e'; rw [e'] at hq'; simp at hq'
      have e1 : (out ++ [nx l x (preO pre) k (atO out)]).getD q 0 = out.getD q 0 := by
        rw [List.getD_eq_getElem?_getD, List.getElem?_append_left (by rw [hD.len]; exact hq'), ← List.getD_eq_getElem?_getD]
      have e2 : (pre ++ [k]).getD q 0 = pre.getD q 0 := by
        rw [List.getD_eq_getElem?_getD, List.getElem?_append_left hq', ← List.getD_eq_getElem?_getD]
      rw [e1, e2]
      have d1 := hD.dom q hq' j j0 j1
      have d2 := n3 (p2 hne)
      have d3 := gO_tri hl hx ht (p2 hne) p1 h0 h1 j0 j1
      omega
variable {N : Nat} (hN : 4611686018427387904 ≤ N)
include hN
theorem land_in {o pre r : List Int} {k : Int} (ho : o = pre ++ k :: r) (hlen : o.length ≤ 8) {out : List Int} (hD : Dom l x pre out) (h0 : 0 ≤ k) (h1 : k < (l.length : Int)) (k1 : Nat) (fine : Bool) :
    ref_Landings.l1 N l o x k1 fine (pre.length : Int) out N (ix l k).2.2.1 0 = ref_Landings.l0 N l o x k1 (fine && decide (nx l x (preO pre) k (atO out) ≤ (ix l k).2.2.2)) ((pre.length : Int) + 1) (out ++ [nx l x (preO pre) k (atO out)]) := by
  have hlt := mid_lt ho
  obtain ⟨p1, p2, p3⟩ := preO_b hD.val
  obtain ⟨a0, a1⟩ := atO_b (pre := pre) hD.bnd (by omega)
  obtain ⟨n0, n1, n2, n3⟩ := nx_b hl hx ht p1 h0 h1 a0
  have hw : w ((pre.length : Int) + 1) = (pre.length : Int) + 1 := w_small _ (by omega) (by omega)
  have hg : List.getD o pre.length 0 = k := mid_get ho
  have hk : ((decide (0 ≤ k)) && (decide (k < (l.length : Int)))) = true := by rw [Bool.and_eq_true, decide_eq_true_iff, decide_eq_true_iff]; omega
  have ek : List.getD l k.toNat ((⟨#[]⟩ : ByteArray), (0, (0, 0))) = ix l k := rfl
  have hol := hD.len
  have hcap : (decide ((out.length + 1) * 8 ≤ 140737488355328) && decide ((out.length + 1) ≤ maxLen)) = true := by rw [Bool.and_eq_true, decide_eq_true_iff, decide_eq_true_iff]; unfold maxLen; omega
  refine range_loop (n := pre.length) (fun kk (s : Int) q => ref_Landings.l1 N l o x k1 fine (pre.length : Int) out kk s q) (fun _ _ => ref_Landings.l0 N l o x k1 (fine && decide (nx l x (preO pre) k (atO out) ≤ (ix l k).2.2.2)) ((pre.length : Int) + 1) (out ++ [nx l x (preO pre) k (atO out)]))
    (fun q s => (ix l k).2.2.1 ≤ s ∧ s ≤ nx l x (preO pre) k (atO out) ∧ (q = pre.length → s = nx l x (preO pre) k (atO out))) (fun kk s hI => ?_) (fun kk q s hq hI ih => ?_) N (ix l k).2.2.1 0 (Nat.zero_le _) ⟨Int.le_refl _, n2, fun e => ?_⟩ (by omega)
  · show ref_Landings.l1 N l o x k1 fine (pre.length : Int) out (kk + 1) s (pre.length : Int) = _
    rw [ref_Landings.l1_clean, decide_eq_false (by omega), cond_false, Int.toNat_natCast, hg, hk, Bool.true_or, cond_true, hcap, cond_true, ek, hw, hI.2.2 rfl]
  · obtain ⟨i1, i2, i3⟩ := hI
    have hq1 : ((decide (0 ≤ (q : Int))) && (decide ((q : Int) < (out.length : Int)))) = true := by rw [Bool.and_eq_true, decide_eq_true_iff, decide_eq_true_iff]; omega
    have hq2 : decide (q < out.length) = true := decide_eq_true (by omega)
    have hq3 : ((decide (0 ≤ (q : Int))) && (decide ((q : Int) < (o.length : Int)))) = true := by rw [Bool.and_eq_true, decide_eq_true_iff, decide_eq_true_iff]; omega
    have hw2 : w ((q : Int) + 1) = (q : Int) + 1 := w_small _ (by omega) (by omega)
    have hpq : List.getD o q 0 = pre.getD q 0 := by
      rw [ho, List.getD_eq_getElem?_getD, List.getElem?_append_left hq, ← List.getD_eq_getElem?_getD]
    obtain ⟨j0, j1⟩ := hD.val _ (getD_in hq 0)
    obtain ⟨b0, b1⟩ := hD.bnd _ (getD_in (show q < out.length by omega) 0)
    have hd := hD.dom q hq k h0 h1
    have hne : pre ≠ [] := by intro e'; rw [e'] at hq; simp at hq
    have hn3 := n3 (p2 hne)
    generalize hjj : pre.getD q 0 = j at *
    generalize hoo : out.getD q 0 = b at *
    have ej : List.getD l j.toNat ((⟨#[]⟩ : ByteArray), (0, (0, 0))) = ix l j := rfl
    have hj : ((decide (0 ≤ j)) && (decide (j < (l.length : Int)))) = true := by rw [Bool.and_eq_true, decide_eq_true_iff, decide_eq_true_iff]; omega
    obtain ⟨q1, q2, q3, q4⟩ := tab_at hl hx ht j0 j1 h0 h1
    obtain ⟨g0, g1⟩ := gO_b hl hx ht j0 j1 h0 h1
    show ref_Landings.l1 N l o x k1 fine (pre.length : Int) out (kk + 1) s (q : Int) = _
    rw [ref_Landings.l1_clean, decide_eq_true (show (q : Int) < (pre.length : Int) by omega), cond_true, hq1, cond_true, Int.toNat_natCast, hq2, cond_true, hq3, cond_true, hpq, hj, cond_true, Int.toNat_natCast, hg, hk, cond_true, ej, ek, q1, cond_true, q2, cond_true, q3, cond_true, vl_self hx, q4, hoo, w_small (b + gO l x j k) (by omega) (by omega), hw2]
    have last : q + 1 = pre.length → b + gO l x j k = atO out + gO l x (preO pre) k := by
      intro e
      have e1 : b = atO out := by
        rw [← hoo]
        have : out ≠ [] := by intro e'; rw [e'] at hol; simp at hol; omega
        have := getD_last this 0
        rw [show out.length - 1 = q by omega] at this
        exact this
      have e2 : j = preO pre := by
        rw [← hjj]
        have := getD_last hne (0 : Int)
        rw [show pre.length - 1 = q by omega] at this
        rw [this]
        unfold preO
        cases hgl : pre.getLast? with
        | none => exact absurd (List.getLast?_eq_none_iff.1 hgl) hne
        | some z => rfl
      rw [e1, e2]
    have hnx : nx l x (preO pre) k (atO out) = if atO out + gO l x (preO pre) k > (ix l k).2.2.1 then atO out + gO l x (preO pre) k else (ix l k).2.2.1 := by
      unfold nx
      rw [decide_eq_false (by have := p2 hne; omega), cond_false]
    by_cases hc : b + gO l x j k > s
    · rw [decide_eq_true hc, cond_true]
      refine ih (b + gO l x j k) ⟨by omega, by omega, fun e => ?_⟩
      have := last e
      rw [hnx, this]
      rw [this] at hc
      split <;> omega
    · rw [decide_eq_false hc, cond_false]
      refine ih s ⟨i1, i2, fun e => ?_⟩
      have := last e
      rw [hnx] at i2 ⊢
      rw [this] at hc
      split
      · rename_i h; rw [if_pos h] at i2; omega
      · rename_i h; rw [if_neg h] at i2; omega
  · have : pre = [] := List.eq_nil_of_length_eq_zero e.symm
    have hp := p3 this
    unfold nx
    rw [hp]
    rfl
theorem land_v {o : List Int} (ho : ∀ k ∈ o, 0 ≤ k ∧ k < (l.length : Int)) (hlen : o.length ≤ 8) : ref_Landings.fn N (l, o, x) = some (tmS l x (-1) 0 o, okS l x (-1) 0 o) := by
  rw [ref_Landings.eq]
  refine list_loop (l := o) (fun k (s : Bool × List Int) j => ref_Landings.l0 N l o x k s.1 j s.2) (fun pre r s => some (s.2 ++ tmS l x (preO pre) (atO s.2) r, s.1 && okS l x (preO pre) (atO s.2) r)) (fun pre s => Dom l x pre s.2)
    (fun k s _ => by show ref_Landings.l0 N l o x (k + 1) s.1 (o.length : Int) s.2 = _; rw [ref_Landings.l0_nil]; show _ = some (s.2 ++ [], s.1 && true); rw [List.append_nil, Bool.and_true]) (fun k pre y r s hl' hI ih => ?_) N (true, []) ⟨rfl, by simp, by simp, by simp⟩ (by omega)
  have hlt := mid_lt hl'
  have hI : Dom l x pre s.2 := hI
  obtain ⟨y0, y1⟩ := ho y (by rw [hl']; simp)
  have hk : ((decide (0 ≤ y)) && (decide (y < (l.length : Int)))) = true := by rw [Bool.and_eq_true, decide_eq_true_iff, decide_eq_true_iff]; omega
  have ek : List.getD l y.toNat ((⟨#[]⟩ : ByteArray), (0, (0, 0))) = ix l y := rfl
  show ref_Landings.l0 N l o x (k + 1) s.1 (pre.length : Int) s.2 = _
  rw [ref_Landings.l0_cons N l o x k s.1 s.2 hl' (by omega), hk, cond_true, ek, land_in hl hx ht hN hl' hlen hI y0 y1, okS_cons, tmS_cons]
  have ih := ih (s.1 && decide (nx l x (preO pre) y (atO s.2) ≤ (ix l y).2.2.2), s.2 ++ [nx l x (preO pre) y (atO s.2)]) (dom_snoc hl hx ht hI (by omega) y0 y1)
  dsimp only at ih
  rw [ih, preO_snoc, atO_snoc, List.append_assoc, List.singleton_append, Bool.and_assoc]
end
/-! ### the fact -/
section
variable {N : Nat} (hN : 4611686018427387904 ≤ N)
include hN
theorem sequence_both.v {l : List Ar} {x : List Int} (hx : x.length = 16) : sequence_both.fn N (l, x) = some (bif !(arrErr l == 0) then arrErr l else tabErr x) := by
  rw [sequence_both.eq, sequence_Check.v hN, Option.bind_some, vl_self hx, wake_Check.v hN hx, Option.bind_some]
  cases (arrErr l == 0) <;> rfl
theorem sequence_Natural.v {l : List Ar} : sequence_Natural.fn N l = some (bif !(arrErr l == 0) then ([], arrErr l) else (natO l, 0)) := by
  rw [sequence_Natural.eq, sequence_Check.v hN, Option.bind_some]
  cases h : (arrErr l == 0) with
  | false => rfl
  | true =>
    have hl := arr_ok (beq_iff_eq.1 h)
    rw [Bool.not_true, cond_false, cond_false, sequence_natural.v hN hl.len hl.one]
    rfl
theorem sequence_Shift.v {l : List Ar} {o : List Int} : sequence_Shift.fn N (l, o) = some (bif !(arrErr l == 0) then (0, arrErr l) else bif !(perB o l.length) then (0, 3) else (mxL 0 (o.map (fV l o)), 0)) := by
  rw [sequence_Shift.eq, sequence_Check.v hN, Option.bind_some]
  cases h : (arrErr l == 0) with
  | false => rfl
  | true =>
    have hl := arr_ok (beq_iff_eq.1 h)
    rw [Bool.not_true, cond_false, cond_false, sequence_permutation.v hN o l.length hl.len, Option.bind_some]
    cases hp : perB o l.length with
    | false => rfl
    | true =>
      have ho := (perB_iff o l.length).1 hp
      rw [Bool.not_true, cond_false, cond_false, sequence_natural.v hN hl.len hl.one, Option.bind_some, shift_v hN hl ho, shifts_eq hN hl ho]
theorem sequence_Times.v {l : List Ar} {o x : List Int} (hx : x.length = 16) : sequence_Times.fn N (l, o, x) = some (bif !(arrErr l == 0) then ([], arrErr l) else bif !(tabErr x == 0) then ([], tabErr x) else bif !(perB o l.length) then ([], 3) else bif okS l x (-1) 0 o then (tmS l x (-1) 0 o, 0) else ([], 8)) := by
  rw [sequence_Times.eq, vl_self hx, sequence_both.v hN hx, Option.bind_some]
  cases h : (arrErr l == 0) with
  | false =>
    rw [Bool.not_false, cond_true, h]
    rfl
  | true =>
    have hl := arr_ok (beq_iff_eq.1 h)
    rw [Bool.not_true, cond_false, cond_false]
    cases h2 : (tabErr x == 0) with
    | false => rfl
    | true =>
      have ht := beq_iff_eq.1 h2
      rw [Bool.not_true, cond_false, cond_false, sequence_permutation.v hN o l.length hl.len, Option.bind_some]
      cases hp : perB o l.length with
      | false => rfl
      | true =>
        have ho := (perB_iff o l.length).1 hp
        have hol : o.length = l.length := by rw [ho.length_eq, idxs_len]
        rw [Bool.not_true, cond_false, cond_false, times_v hl hx ht hN (fun k hk => mem_idxs.1 (ho.mem_iff.1 hk)) (by rw [hol]; exact hl.len)]
        cases okS l x (-1) 0 o <;> rfl
theorem fact_v : law_sequenceFact.fn N () = some true := by
  have ha : arrErr two = 0 := by kernel_rfl
  have ha2 : arrErr [(nA, (2, (10, 900))), (nB, (0, (0, 900))), (nA, (2, (10, 900))), (nB, (0, (0, 900)))] = 7 := by kernel_rfl
  have ht : tabErr stdT = 0 := by kernel_rfl
  have hp : perB [0, 1] 2 = true := by kernel_rfl
  have ho : okS two stdT (-1) 0 [0, 1] = true := by kernel_rfl
  have hs : tmS two stdT (-1) 0 [0, 1] = [10, 190] := by kernel_rfl
  have hm : mxL 0 ([0, 1].map (fV two [0, 1])) = 1 := by kernel_rfl
  have e1 : sequence_Natural.fn N two = some ([1, 0], 0) := by rw [sequence_Natural.v hN, ha, natO_two]; rfl
  have e2 : sequence_Times.fn N (two, [0, 1], stdT) = some ([10, 190], 0) := by
    rw [sequence_Times.v hN rfl, ha, ht]
    show some (bif !(perB [0, 1] 2) then ([], 3) else bif okS two stdT (-1) 0 [0, 1] then (tmS two stdT (-1) 0 [0, 1], 0) else ([], 8)) = _
    rw [hp, ho, hs]
    rfl
  have e3 : sequence_Shift.fn N (two, [0, 1]) = some (1, 0) := by
    rw [sequence_Shift.v hN, ha]
    show some (bif !(perB [0, 1] 2) then (0, 3) else (mxL 0 ([0, 1].map (fV two [0, 1])), 0)) = _
    rw [hp, hm]
    rfl
  have q : ∀ L : List Int, L.length < 100 → slices_Equal_int.fn N (L, L) = some true := fun L h => slices_Equal_int.self hN L (by omega)
  rw [law_sequenceFact.eq]
  have e1' : sequence_Natural.fn N [(nA, (2, (10, 900))), (nB, (0, (0, 900)))] = _ := e1
  have e2' : sequence_Times.fn N ([(nA, (2, (10, 900))), (nB, (0, (0, 900)))], [0, 1], [60, 60, 60, 60, 120, 60, 60, 60, 180, 120, 90, 60, 240, 180, 120, 120]) = _ := e2
  have e3' : sequence_Shift.fn N ([(nA, (2, (10, 900))), (nB, (0, (0, 900)))], [0, 1]) = _ := e3
  rw [e1', Option.bind_some, e2', Option.bind_some, e3', Option.bind_some]
  dsimp only
  rw [show ((0 : Int) == 0) = true from rfl, cond_true, cond_true, cond_true, q [1, 0] (by decide), Option.bind_some, cond_true, q [10, 190] (by decide), Option.bind_some, cond_true, show ((1 : Int) == 1) = true from rfl, cond_true, Option.bind_some, cond_true, q [0, 60] (by decide), Option.bind_some, cond_true, sequence_Check.v hN, ha2]
  rfl
/-! ### the law -/
theorem SequenceTimes.pureN (l : List Ar) (o x : List Int) (hx : x.length = 16) : law_SequenceTimes.fn N (l, o, x) = some true := by
  obtain ⟨M, hM⟩ : ∃ M, N = M + 1 := ⟨N - 1, by omega⟩
  rw [law_SequenceTimes.clean, fact_v hN, Option.bind_some, show (!true) = false from rfl, cond_false, vl_self hx, sequence_Natural.v hN, sequence_Times.v hN hx, sequence_Shift.v hN, ref_ArrivalsError.v hN, sequence_Check.v hN, Option.bind_some, Option.bind_some, Option.bind_some, Option.bind_some, Option.bind_some]
  cases h : (arrErr l == 0) with
  | false =>
    rw [Bool.not_false, cond_true, cond_true, cond_true, cond_true]
    dsimp only
    rw [beq_self_eq_true]
    simp [w_small]
  | true =>
    have ha := beq_iff_eq.1 h
    have hl := arr_ok ha
    have hlen := hl.len
    have hnl := nat_len hl
    rw [ha, Bool.not_true, cond_false, cond_false, cond_false, cond_false, show ((0 : Int) == 0) = true from rfl]
    dsimp only
    rw [Bool.not_true, Bool.or_self, cond_false, hnl, beq_self_eq_true, Bool.not_true, cond_false]
    generalize hr3 : (bif !(tabErr x == 0) then (([] : List Int), tabErr x) else bif !(perB o l.length) then ([], 3) else bif okS l x (-1) 0 o then (tmS l x (-1) 0 o, 0) else ([], 8)) = r3
    generalize hr4 : (bif !(perB o l.length) then ((0 : Int), (3 : Int)) else (mxL 0 (o.map (fV l o)), 0)) = r4
    have step := list_loop (σ := Unit) (l := natO l) (fun k _ i => law_SequenceTimes.l0 N l o x (natO l, 0) r3 r4 k i) (fun _ _ _ => law_SequenceTimes.l0 N l o x (natO l, 0) r3 r4 1 ((natO l).length : Int)) (fun _ _ => True)
      (fun k _ _ => by
        show law_SequenceTimes.l0 N l o x (natO l, 0) r3 r4 (k + 1) ((natO l).length : Int) = law_SequenceTimes.l0 N l o x (natO l, 0) r3 r4 (0 + 1) ((natO l).length : Int)
        have a := law_SequenceTimes.l0_nil N l o x (natO l, 0) r3 r4 k
        have b := law_SequenceTimes.l0_nil N l o x (natO l, 0) r3 r4 0
        exact a.trans b.symm) (fun k pre y r _ hl' _ ih => ?_) N () trivial (by omega)
    · have step : law_SequenceTimes.l0 N l o x (natO l, 0) r3 r4 N 0 = law_SequenceTimes.l0 N l o x (natO l, 0) r3 r4 1 ((natO l).length : Int) := step
      have hnil := law_SequenceTimes.l0_nil N l o x (natO l, 0) r3 r4 0
      have hnil : law_SequenceTimes.l0 N l o x (natO l, 0) r3 r4 1 ((natO l).length : Int) = _ := hnil
      rw [step, hnil, ref_IsOrder.v hN o l.length hlen, ord_per, Option.bind_some, vl_self hx, ref_TableError.v hN hx]
      have j1 := fun a => law_SequenceTimes.j1_clean N l o x r3 a hM
      have eqn : slices_Equal_int.fn N ([], []) = some true := slices_Equal_int.self hN [] (by show 0 < _; omega)
      cases hp : perB o l.length with
      | false =>
        rw [hp] at hr3 hr4
        have hr4 : ((0 : Int), (3 : Int)) = r4 := hr4
        subst hr4
        rw [Bool.false_and, cond_false, Option.bind_some, Bool.false_and, Bool.false_or, show (!((3 : Int) == 3)) = false from rfl, show (!((0 : Int) == 0)) = false from rfl, Bool.or_self, Bool.and_false, cond_false, Option.bind_some, Bool.not_false, Bool.and_true]
        cases ht : (tabErr x == 0) with
        | true =>
          rw [ht] at hr3
          have hr3 : (([] : List Int), (3 : Int)) = r3 := hr3
          subst hr3
          rw [cond_true, j1]
          rfl
        | false =>
          rw [ht] at hr3
          have hr3 : (([] : List Int), tabErr x) = r3 := hr3
          subst hr3
          rw [cond_false, j1, ht, Bool.not_false, cond_true]
          dsimp only
          rw [beq_self_eq_true]
          rfl
      | true =>
        have ho := (perB_iff o l.length).1 hp
        have hol : o.length = l.length := by rw [ho.length_eq, idxs_len]
        rw [hp] at hr3 hr4
        have hr4 : (mxL 0 (o.map (fV l o)), (0 : Int)) = r4 := hr4
        subst hr4
        dsimp only
        rw [show ((0 : Int) == 0) = true from rfl, Bool.not_true, Bool.not_false, Bool.and_self, cond_true, ref_Shifted.v hN hl ho, Option.bind_some, beq_self_eq_true, Bool.not_true, Bool.or_self, Bool.and_false, Bool.false_and, Bool.or_self, cond_false, Option.bind_some, Bool.and_false, cond_false, j1, vl_self hx]
        cases ht : (tabErr x == 0) with
        | false =>
          rw [ht] at hr3
          have hr3 : (([] : List Int), tabErr x) = r3 := hr3
          subst hr3
          rw [Bool.not_false, cond_true]
          dsimp only
          rw [beq_self_eq_true]
          rfl
        | true =>
          rw [ht] at hr3
          have hr3 : (bif okS l x (-1) 0 o then (tmS l x (-1) 0 o, (0 : Int)) else ([], 8)) = r3 := hr3
          rw [Bool.not_true, cond_false, land_v hl hx (beq_iff_eq.1 ht) hN (fun k hk => mem_idxs.1 (ho.mem_iff.1 hk)) (by rw [hol]; exact hlen), Option.bind_some]
          cases hok : okS l x (-1) 0 o with
          | false =>
            rw [hok] at hr3
            have hr3 : (([] : List Int), (8 : Int)) = r3 := hr3
            subst hr3
            rfl
          | true =>
            rw [hok] at hr3
            have hr3 : (tmS l x (-1) 0 o, (0 : Int)) = r3 := hr3
            subst hr3
            have hts : ∀ (r : List Int) (p a : Int), (tmS l x p a r).length = r.length := by
              intro r
              induction r with
              | nil => intro p a; rfl
              | cons k r ih => intro p a; rw [tmS_cons, List.length_cons, List.length_cons, ih]
            dsimp only
            rw [Bool.not_true, cond_false, show ((0 : Int) == 0) = true from rfl, cond_true, slices_Equal_int.self hN _ (by rw [hts, hol]; omega)]
            rfl
    · have hlt := mid_lt hl'
      have hp := plc_nat hl hl'
      obtain ⟨y0, y1⟩ := (nat_mem hl).1 (show y ∈ natO l by rw [hl']; simp)
      have hb : ((decide (y < 0)) || (decide (y ≥ (l.length : Int)))) = false := by rw [Bool.or_eq_false_iff, decide_eq_false_iff_not, decide_eq_false_iff_not]; omega
      show law_SequenceTimes.l0 N l o x (natO l, 0) r3 r4 (k + 1) (pre.length : Int) = _
      have hc := law_SequenceTimes.l0_cons N l o x (natO l, 0) r3 r4 k (pre := pre) (r := r) (x := y) hl' (by show (natO l).length < _; omega)
      rw [hc, decide_eq_true (show pre.length < ((natO l, (0 : Int)) : List Int × Int).1.length from hlt), cond_true, hb, Bool.not_false, cond_true, ref_Place.v hN hlen y0 y1, Option.bind_some, hp, beq_self_eq_true, Bool.not_true, Bool.or_self, cond_false]
      exact ih () trivial
end
theorem SequenceTimes.pure (x0 : List Ar) (x1 x2 : List Int) (h0 : Wf Try.prog tAr x0) (h1 : Wf Try.prog (.sl 3 (.int .i64)) x1) (h2 : Wf Try.prog (.vec 16 .i64) x2) : law_SequenceTimes.fn NN (x0, x1, x2) = some true :=
  SequenceTimes.pureN NN_big x0 x1 x2 h2.1
end Go.Proofs.Ytoapmjnfiimmjaa.Sk
