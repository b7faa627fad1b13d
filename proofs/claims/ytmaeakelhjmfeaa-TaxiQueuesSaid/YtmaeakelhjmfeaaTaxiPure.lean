/- The laws TaxiQueues, TaxiWaits, plain: what the printed functions answer. -/
import Derived.Test.YtmaeakelhjmfeaaTaxiEq
set_option linter.unusedVariables false
set_option linter.unusedSimpArgs false
set_option linter.unusedSectionVars false
set_option maxRecDepth 100000
namespace Go.Proofs.Ytmaeakelhjmfeaa.Sk
open Go

theorem bif_some {α : Type} (b : Bool) (x y : α) : (bif b then some x else some y) = some (bif b then x else y) := by cases b <;> rfl
/-! ### names -/
def nameCh (c : UInt8) : Bool := !(((decide (((c.toNat : Nat) : Int) < 65)) || (decide (((c.toNat : Nat) : Int) > 90))) && ((decide (((c.toNat : Nat) : Int) < 48)) || (decide (((c.toNat : Nat) : Int) > 57))))
def isNameL : List UInt8 → Bool
  | [] => false
  | b :: r => bif decide (r.length + 1 > 8) then false else bif decide (((b.toNat : Nat) : Int) < 65) || decide (((b.toNat : Nat) : Int) > 90) then false else (b :: r).all nameCh
def isName (s : ByteArray) : Bool := isNameL s.data.toList
theorem size_list (s : ByteArray) : s.size = s.data.toList.length := by rw [ByteArray.size, Array.length_toList]

section
variable {N : Nat} (hN : 4611686018427387904 ≤ N)
include hN
theorem chart_Name.v (s : ByteArray) : chart_Name.fn N s = some (isName s) := by
  rw [chart_Name.clean]
  unfold isName
  have hsz := size_list s
  cases h : s.data.toList with
  | nil =>
    rw [h] at hsz
    have hsz : s.size = 0 := hsz
    simp [hsz, isNameL]
  | cons b r =>
    rw [h] at hsz
    have hsz : s.size = r.length + 1 := by simpa using hsz
    have g : (ByteArray.data s).getD 0 0 = b := getD_bytes (pre := []) (r := r) h
    have c1 : decide (0 < (s.size : Int)) = true := by rw [decide_eq_true_iff]; omega
    have c2 : ((s.size : Int) == 0) = false := by rw [beq_eq_false_iff_ne]; omega
    have c3 : decide ((s.size : Int) > 8) = decide (r.length + 1 > 8) := by rw [decide_eq_decide]; omega
    simp only [g, c1, c2, c3, Bool.true_or, cond_true, Bool.false_or, isNameL]
    by_cases h8 : r.length + 1 > 8
    · simp [h8]
    have h8' : decide (r.length + 1 > 8) = false := decide_eq_false h8
    simp only [h8', Bool.false_or, cond_false]
    have hl := scan_list (l := s.data.toList) (fun c => !nameCh c) (some false) (some true) (fun k i => chart_Name.l0 N s k i)
      (fun k => by show chart_Name.l0 N s (k + 1) (s.data.toList.length : Int) = _; rw [← size_list s]; exact chart_Name.l0_nil N s k)
      (fun k pre x r' h' => by show chart_Name.l0 N s (k + 1) (pre.length : Int) = _; rw [chart_Name.l0_cons N s k h' (by omega)]; simp [nameCh]) N (by rw [h]; simp; omega)
    rw [hl, h]
    cases (decide (((b.toNat : Nat) : Int) < 65) || decide (((b.toNat : Nat) : Int) > 90)) with
    | true => rfl
    | false =>
      rw [cond_false, cond_false, ← List.not_all_eq_any_not]
      cases ((b :: r).all nameCh) <;> rfl
theorem ref_IsName.v (s : ByteArray) : ref_IsName.fn N s = some (isName s) := by
  rw [ref_IsName.clean]
  unfold isName
  have hsz := size_list s
  cases h : s.data.toList with
  | nil =>
    rw [h] at hsz
    have hsz : s.size = 0 := hsz
    have : s = ⟨#[]⟩ := by cases s with | mk a => congr 1; exact Array.ext' h
    subst this
    simp [isNameL, seq]
  | cons b r =>
    rw [h] at hsz
    have hsz : s.size = r.length + 1 := by simpa using hsz
    have g : (ByteArray.data s).getD 0 0 = b := getD_bytes (pre := []) (r := r) h
    have c1 : decide (0 < (s.size : Int)) = true := by rw [decide_eq_true_iff]; omega
    have c2 : seq s (⟨#[]⟩ : ByteArray) = false := by unfold seq; rw [h]; rfl
    have c3 : decide ((s.size : Int) > 8) = decide (r.length + 1 > 8) := by rw [decide_eq_decide]; omega
    simp only [g, c1, c2, c3, Bool.true_or, cond_true, Bool.false_or, isNameL]
    by_cases h8 : r.length + 1 > 8
    · simp [h8]
    have h8' : decide (r.length + 1 > 8) = false := decide_eq_false h8
    simp only [h8', Bool.false_or, cond_false]
    have hl := scan_list (l := s.data.toList) (fun c => !nameCh c) (some false) (some true) (fun k i => ref_IsName.l0 N s k i)
      (fun k => by show ref_IsName.l0 N s (k + 1) (s.data.toList.length : Int) = _; rw [← size_list s]; exact ref_IsName.l0_nil N s k)
      (fun k pre x r' h' => by show ref_IsName.l0 N s (k + 1) (pre.length : Int) = _; rw [ref_IsName.l0_cons N s k h' (by omega)]; simp [nameCh]) N (by rw [h]; simp; omega)
    rw [hl, h]
    have hb : (b :: r).any (fun c => !nameCh c) = !((b :: r).all nameCh) := List.not_all_eq_any_not.symm
    rw [hb]
    by_cases q1 : ((b.toNat : Nat) : Int) < 65
    · by_cases q2 : ((b.toNat : Nat) : Int) < 48
      · have : nameCh b = false := by simp [nameCh]; omega
        simp [q1, this, show ¬ 48 ≤ b.toNat by omega]
      · by_cases q3 : ((b.toNat : Nat) : Int) > 57
        · have : nameCh b = false := by simp [nameCh]; omega
          simp [q1, this, show ¬ b.toNat ≤ 57 by omega]
        · simp [q1, show (48 : Int) ≤ b.toNat by omega, show (b.toNat : Int) ≤ 57 by omega]
    · by_cases q2 : ((b.toNat : Nat) : Int) > 90
      · have : nameCh b = false := by simp [nameCh]; omega
        simp [q2, this, show ¬ b.toNat ≤ 57 by omega]
      · simp only [q1, q2, decide_false, Bool.or_false, cond_false, show decide (((b.toNat : Nat) : Int) ≤ 57) = false by rw [decide_eq_false_iff_not]; omega, Bool.and_false]
        cases ((b :: r).all nameCh) <;> rfl
theorem slot_Name.v (s : ByteArray) : slot_Name.fn N s = some (isName s) := by
  rw [slot_Name.eq, owner_Name.eq, sector_Name.eq, chart_Name.v hN]; rfl
end

/-! ### the order of the names -/
theorem blt_irrefl : ∀ a : List UInt8, Op.bytesLess a a = false
  | [] => rfl
  | x :: a => by simp [Op.bytesLess, blt_irrefl a, UInt8.lt_irrefl]
theorem blt_trans : ∀ {a b c : List UInt8}, Op.bytesLess a b = true → Op.bytesLess b c = true → Op.bytesLess a c = true
  | _, [], _, h, _ => by simp [Op.bytesLess] at h
  | _, _ :: _, [], _, h => by simp [Op.bytesLess] at h
  | [], _ :: _, _ :: _, _, _ => rfl
  | x :: a, y :: b, z :: c, h1, h2 => by
    simp only [Op.bytesLess, Bool.or_eq_true, Bool.and_eq_true, decide_eq_true_iff, beq_iff_eq] at h1 h2 ⊢
    rcases h1 with h1 | ⟨rfl, h1⟩
    · rcases h2 with h2 | ⟨rfl, h2⟩
      · exact .inl (UInt8.lt_trans h1 h2)
      · exact .inl h1
    · rcases h2 with h2 | ⟨rfl, h2⟩
      · exact .inl h2
      · exact .inr ⟨rfl, blt_trans h1 h2⟩
theorem blt_tri : ∀ {a b : List UInt8}, Op.bytesLess a b = false → Op.bytesLess b a = false → a = b
  | [], [], _, _ => rfl
  | [], _ :: _, h, _ => by simp [Op.bytesLess] at h
  | _ :: _, [], _, h => by simp [Op.bytesLess] at h
  | x :: a, y :: b, h1, h2 => by
    simp only [Op.bytesLess, Bool.or_eq_false_iff, Bool.and_eq_false_iff, decide_eq_false_iff_not, beq_eq_false_iff_ne] at h1 h2
    have he : x = y := UInt8.le_antisymm (UInt8.not_lt.1 h2.1) (UInt8.not_lt.1 h1.1)
    subst he
    rw [blt_tri (a := a) (b := b) (by simpa using h1.2) (by simpa using h2.2)]
theorem ba_ext {a b : ByteArray} (h : a.data.toList = b.data.toList) : a = b := by
  cases a; cases b; congr 1; exact Array.ext' h
theorem sq_iff {a b : ByteArray} : seq a b = true ↔ a = b := ⟨fun h => ba_ext (beq_iff_eq.1 h), fun h => by subst h; exact beq_self_eq_true _⟩
theorem seq_ff {a b : ByteArray} : seq a b = false ↔ a ≠ b := by
  cases h : seq a b with
  | true => simp [sq_iff.1 h]
  | false => simp; intro e; rw [sq_iff.2 e] at h; cases h
theorem slt_irrefl (a : ByteArray) : slt a a = false := blt_irrefl _
theorem slt_trans {a b c : ByteArray} (h1 : slt a b = true) (h2 : slt b c = true) : slt a c = true := blt_trans h1 h2
theorem slt_tri {a b : ByteArray} (h1 : slt a b = false) (h2 : slt b a = false) : a = b := ba_ext (blt_tri h1 h2)
theorem slt_ne {a b : ByteArray} (h : slt a b = true) : a ≠ b := by intro e; subst e; rw [slt_irrefl] at h; cases h
theorem slt_asymm {a b : ByteArray} (h : slt a b = true) : slt b a = false := by
  cases h2 : slt b a with
  | false => rfl
  | true => have := slt_trans h h2; rw [slt_irrefl] at this; cases this
/-- a, not before b, and b before c: so a is behind... -/
theorem slt_le_trans {a b c : ByteArray} (h1 : slt b a = false) (h2 : slt b c = true) (h3 : slt c a = true) : False := by
  rw [slt_trans h2 h3] at h1; cases h1


/-! ### sorting -/
section
variable {α : Type} {F : α → α → Option Int} {lt : α → α → Bool}
structure LtOk (lt : α → α → Bool) : Prop where
  irr : ∀ x, lt x x = false
  tr : ∀ {x y z}, lt x y = true → lt y z = true → lt x z = true
  ntr : ∀ {x y z}, lt x y = false → lt y z = false → lt x z = false
theorem LtOk.asym (h : LtOk lt) {x y : α} (h1 : lt x y = true) : lt y x = false := by
  cases h2 : lt y x with
  | false => rfl
  | true => have := h.tr h1 h2; rw [h.irr] at this; cases this
theorem ltZ_eq {x y : α} (hF : ∃ z, F x y = some z ∧ decide (z < 0) = lt x y) : ltZ (F x y) = lt x y := by
  obtain ⟨z, h1, h2⟩ := hF
  rw [h1, ← h2]; rfl
theorem apartL_of {l : List α} (hF : ∀ x y, ∃ z, F x y = some z ∧ decide (z < 0) = lt x y) (ap : l.Pairwise fun x y => (lt x y || lt y x) = true) : apartL F l = true := by
  induction l with
  | nil => rfl
  | cons a r ih =>
    simp only [apartL, Bool.and_eq_true, List.all_eq_true]
    refine ⟨fun y hy => ?_, ih (List.Pairwise.of_cons ap)⟩
    rw [ltZ_eq (hF _ _), ltZ_eq (hF _ _)]
    exact List.rel_of_pairwise_cons ap hy
theorem sortOk_of {l : List α} (hlen : l.length < 4611686018427387904) (hF : ∀ x y, ∃ z, F x y = some z ∧ decide (z < 0) = lt x y) (ho : LtOk lt) (ap : l.Pairwise fun x y => (lt x y || lt y x) = true) : sortOk F l = true := by
  unfold sortOk
  simp only [Bool.and_eq_true, List.all_eq_true, decide_eq_true_eq]
  refine ⟨⟨⟨⟨⟨hlen, fun x _ y _ => ?_⟩, fun x _ => ?_⟩, fun x _ y _ z _ => ?_⟩, fun x _ y _ z _ => ?_⟩, apartL_of hF ap⟩
  · obtain ⟨z, h1, _⟩ := hF x y; rw [h1]; rfl
  · rw [ltZ_eq (hF _ _), ho.irr]; rfl
  · rw [ltZ_eq (hF _ _), ltZ_eq (hF _ _), ltZ_eq (hF _ _)]
    cases h1 : lt x y with
    | false => rfl
    | true =>
      cases h2 : lt y z with
      | false => rfl
      | true => rw [ho.tr h1 h2]; rfl
  · rw [ltZ_eq (hF _ _), ltZ_eq (hF _ _), ltZ_eq (hF _ _)]
    cases h1 : lt x y with
    | true => rfl
    | false =>
      cases h2 : lt y z with
      | true => rfl
      | false => rw [ho.ntr h1 h2]; rfl
theorem sortL_perm (l : List α) : (sortL F l).Perm l := List.mergeSort_perm _ _
theorem sortL_sorted {l : List α} (hF : ∀ x y, ∃ z, F x y = some z ∧ decide (z < 0) = lt x y) (ho : LtOk lt) (ap : l.Pairwise fun x y => (lt x y || lt y x) = true) : (sortL F l).Pairwise fun x y => lt x y = true := by
  have h1 : (sortL F l).Pairwise fun x y => (!lt y x) = true := by
    have := List.pairwise_mergeSort (le := fun x y => !ltZ (F y x)) (fun a b c h1 h2 => by
      rw [ltZ_eq (hF _ _)] at h1 h2 ⊢
      simp only [Bool.not_eq_true'] at h1 h2 ⊢
      exact ho.ntr h2 h1) (fun a b => by
      rw [ltZ_eq (hF _ _), ltZ_eq (hF _ _)]
      cases h : lt b a with
      | false => rfl
      | true => rw [ho.asym h]; rfl) l
    exact this.imp fun {a b} h => by rw [ltZ_eq (hF _ _)] at h; exact h
  have h2 : (sortL F l).Pairwise fun x y => (lt x y || lt y x) = true := (List.Perm.pairwise_iff (fun {x y} h => by rw [Bool.or_comm]; exact h) (sortL_perm l)).2 ap
  refine (h1.and h2).imp fun {a b} h => ?_
  have h3 := h.1
  have h4 := h.2
  simp only [Bool.not_eq_true'] at h3
  rw [h3, Bool.or_false] at h4
  exact h4
theorem sorted_one (ho : LtOk lt) {l m : List α} (hp : l.Perm m) (h1 : l.Pairwise fun x y => lt x y = true) (h2 : m.Pairwise fun x y => lt x y = true) : l = m :=
  List.Perm.eq_of_pairwise (le := fun x y => lt x y = true) (fun a b _ _ h h' => by rw [ho.asym h] at h'; cases h') h1 h2 hp
end

/-! ### demands -/
abbrev Dem := ByteArray × Int
abbrev nop : ByteArray := ⟨#[]⟩
def bf (p q : Dem) : Bool := decide (p.2 < q.2) || (p.2 == q.2 && slt p.1 q.1)
theorem bf_iff {p q : Dem} : bf p q = true ↔ p.2 < q.2 ∨ (p.2 = q.2 ∧ slt p.1 q.1 = true) := by
  unfold bf
  rw [Bool.or_eq_true, Bool.and_eq_true, decide_eq_true_iff, beq_iff_eq]
theorem slt_ntrans {a b c : ByteArray} (h1 : slt a b = false) (h2 : slt b c = false) : slt a c = false := by
  cases h : slt a c with
  | false => rfl
  | true =>
    cases h3 : slt b a with
    | true => rw [slt_trans h3 h] at h2; cases h2
    | false => have := slt_tri h1 h3; subst this; rw [h] at h2; cases h2
theorem bf_ff {p q : Dem} : bf p q = false ↔ q.2 < p.2 ∨ (p.2 = q.2 ∧ slt p.1 q.1 = false) := by
  cases h : bf p q with
  | true =>
    have := bf_iff.1 h
    refine ⟨fun h => (by cases h), fun h2 => ?_⟩
    rcases this with h1 | ⟨h1, h3⟩
    · rcases h2 with h2 | ⟨h2, _⟩ <;> omega
    · rcases h2 with h2 | ⟨_, h4⟩
      · omega
      · rw [h3] at h4; cases h4
  | false =>
    refine ⟨fun _ => ?_, fun _ => rfl⟩
    rcases Int.lt_trichotomy p.2 q.2 with h1 | h1 | h1
    · rw [bf_iff.2 (.inl h1)] at h; cases h
    · cases h2 : slt p.1 q.1 with
      | true => rw [bf_iff.2 (.inr ⟨h1, h2⟩)] at h; cases h
      | false => exact .inr ⟨h1, rfl⟩
    · exact .inl h1
theorem bf_ok : LtOk bf := by
  refine ⟨fun x => ?_, fun {x y z} h1 h2 => ?_, fun {x y z} h1 h2 => ?_⟩
  · exact bf_ff.2 (.inr ⟨rfl, slt_irrefl _⟩)
  · rw [bf_iff] at h1 h2 ⊢
    rcases h1 with h1 | ⟨h1, h1'⟩
    · rcases h2 with h2 | ⟨h2, _⟩
      · exact .inl (by omega)
      · exact .inl (by omega)
    · rcases h2 with h2 | ⟨h2, h2'⟩
      · exact .inl (by omega)
      · exact .inr ⟨by omega, slt_trans h1' h2'⟩
  · rw [bf_ff] at h1 h2 ⊢
    rcases h1 with h1 | ⟨h1, h1'⟩
    · rcases h2 with h2 | ⟨h2, _⟩
      · exact .inl (by omega)
      · exact .inl (by omega)
    · rcases h2 with h2 | ⟨h2, h2'⟩
      · exact .inl (by omega)
      · exact .inr ⟨by omega, slt_ntrans h1' h2'⟩
theorem bf_apart {p q : Dem} (h : p.1 ≠ q.1) : (bf p q || bf q p) = true := by
  cases h1 : bf p q with
  | true => rfl
  | false =>
    rw [Bool.false_or, bf_iff]
    rcases bf_ff.1 h1 with h2 | ⟨h2, h3⟩
    · exact .inl h2
    · refine .inr ⟨h2.symm, ?_⟩
      cases h4 : slt q.1 p.1 with
      | true => rfl
      | false => exact absurd (slt_tri h3 h4) h

section
variable {N : Nat} (hN : 4611686018427387904 ≤ N)
include hN
theorem cmpI_v (a b : Int) : cmp_Compare_int.fn N (a, b) = some (bif decide (a < b) then -1 else bif decide (a > b) then 1 else 0) := by
  rw [cmp_Compare_int.eq, cmp_isNaN_int.eq, cmp_isNaN_int.eq]
  simp only [Option.bind_some, beq_self_eq_true, Bool.not_true, cond_false]
  cases decide (a < b) <;> cases decide (a > b) <;> rfl
theorem cmpS_v (a b : ByteArray) : cmp_Compare_string.fn N (a, b) = some (bif slt a b then -1 else bif seq a b then 0 else 1) := by
  rw [cmp_Compare_string.eq, cmp_isNaN_string.eq, cmp_isNaN_string.eq]
  simp only [Option.bind_some, seq_self, Bool.not_true, cond_false]
  cases slt a b <;> cases seq a b <;> rfl
theorem or_v (a b : Int) : cmp_Or_int.fn N [a, b] = some (bif !(a == 0) then a else b) := by
  rw [cmp_Or_int.eq]
  obtain ⟨M, rfl⟩ : ∃ M, N = M + 1 + 1 + 1 := ⟨N - 3, by omega⟩
  have h1 := cmp_Or_int.l0_cons (M + 1 + 1 + 1) [a, b] (M + 1 + 1) (pre := []) (x := a) (r := [b]) rfl (by simp)
  have h2 := cmp_Or_int.l0_cons (M + 1 + 1 + 1) [a, b] (M + 1) (pre := [a]) (x := b) (r := []) rfl (by simp)
  have h3 := cmp_Or_int.l0_nil (M + 1 + 1 + 1) [a, b] M
  simp only [List.length_nil, List.length_cons, Int.ofNat_zero, Int.zero_add, Nat.zero_add] at h1 h2 h3
  rw [h1]
  cases ha : a == 0 with
  | false => rfl
  | true =>
    simp only [Bool.not_true, cond_false]
    have h2 : cmp_Or_int.l0 (M + 1 + 1 + 1) [a, b] (M + 1 + 1) 1 = _ := h2
    rw [h2]
    cases hb : b == 0 with
    | false => rfl
    | true =>
      simp only [Bool.not_true, cond_false]
      have h3 : cmp_Or_int.l0 (M + 1 + 1 + 1) [a, b] (M + 1) (((1 : Nat) : Int) + 1) = _ := h3
      rw [h3, beq_iff_eq.1 hb]
end

/-! ### stands and departures -/
abbrev Std := ByteArray × Int
abbrev Ask := ByteArray × ByteArray × Int
abbrev Tm := ByteArray × Int × Int × Int
abbrev m0 : Tm := ((⟨#[]⟩ : ByteArray), (0, (0, 0)))
abbrev a0 : Ask := ((⟨#[]⟩ : ByteArray), ((⟨#[]⟩ : ByteArray), 0))
def stdE : List Std → List Std → Int
  | _, [] => 0
  | p, x :: r => bif !isName x.1 then 3 else bif decide (x.2 < 0) || decide (x.2 > 1800) then 4 else bif p.any (fun y => seq y.1 x.1) then 7 else stdE (p ++ [x]) r
theorem stdE_cons (p : List Std) (x : Std) (r : List Std) : stdE p (x :: r) = bif !isName x.1 then 3 else bif decide (x.2 < 0) || decide (x.2 > 1800) then 4 else bif p.any (fun y => seq y.1 x.1) then 7 else stdE (p ++ [x]) r := rfl
def stdsErr (l : List Std) : Int := bif decide ((l.length : Int) > 16) then 2 else stdE [] l
theorem stdE_ok : ∀ {l p : List Std}, stdE p l = 0 → ∀ x ∈ l, 0 ≤ x.2 ∧ x.2 ≤ 1800
  | [], _, _, x, h => by cases h
  | a :: r, p, h, x, hx => by
    rw [stdE_cons] at h
    cases hn : isName a.1 with
    | false => rw [hn] at h; cases h
    | true =>
      rw [hn] at h
      simp only [Bool.not_true, cond_false] at h
      cases ht : (decide (a.2 < 0) || decide (a.2 > 1800)) with
      | true => rw [ht] at h; cases h
      | false =>
        rw [ht, cond_false] at h
        cases ha : p.any (fun y => seq y.1 a.1) with
        | true => rw [ha] at h; cases h
        | false =>
          rw [ha, cond_false] at h
          simp only [Bool.or_eq_false_iff, decide_eq_false_iff_not] at ht
          rcases List.mem_cons.1 hx with rfl | hx
          · omega
          · exact stdE_ok h x hx
theorem stdsErr_ok {l : List Std} (h : stdsErr l = 0) : l.length ≤ 16 ∧ ∀ x ∈ l, 0 ≤ x.2 ∧ x.2 ≤ 1800 := by
  unfold stdsErr at h
  by_cases hl : (l.length : Int) > 16
  · simp [hl] at h
  · simp only [hl, decide_false, cond_false] at h
    exact ⟨by omega, stdE_ok h⟩
/-- The time of a stand, or -1. -/
def stT (n : ByteArray) : List Std → Int
  | [] => -1
  | x :: r => bif seq x.1 n then x.2 else stT n r
def atS (l : List Std) (n : ByteArray) : Int := idxL (fun x => seq x.1 n) l 0
theorem stT_spec {l : List Std} (n : ByteArray) : (atS l n = -1 ∧ stT n l = -1) ∨ ∃ j x, j < l.length ∧ atS l n = (j : Int) ∧ l[j]? = some x ∧ stT n l = x.2 := by
  have key : ∀ (l : List Std), (∀ x ∈ l, seq x.1 n = false) → stT n l = -1 := by
    intro l
    induction l with
    | nil => intro _; rfl
    | cons a r ih => intro h; simp only [stT]; rw [h a (by simp)]; exact ih fun x hx => h x (by simp [hx])
  have key2 : ∀ (p : List Std) (x : Std) (r : List Std), (∀ y ∈ p, seq y.1 n = false) → seq x.1 n = true → stT n (p ++ x :: r) = x.2 := by
    intro p x r
    induction p with
    | nil => intro _ hx; simp only [List.nil_append, stT]; rw [hx]; rfl
    | cons a p ih => intro h hx; simp only [List.cons_append, stT]; rw [h a (by simp)]; exact ih (fun y hy => h y (by simp [hy])) hx
  rcases idx_spec (fun x : Std => seq x.1 n) l with ⟨h1, h2⟩ | ⟨p, x, r, h1, h2, h3, h4⟩
  · exact .inl ⟨h1, key l h2⟩
  · exact .inr ⟨p.length, x, by rw [h1]; simp, h2, by rw [h1]; simp, by rw [h1]; exact key2 p x r h4 h3⟩
def askE (l : List Std) : List Ask → List Ask → Int
  | _, [] => 0
  | p, x :: r => bif !isName x.1 then 3 else bif decide (atS l x.2.1 < 0) then 6 else bif decide (x.2.2 < 0) || decide (x.2.2 > 200000) then 12 else bif p.any (fun y => seq y.1 x.1) then 7 else askE l (p ++ [x]) r
theorem askE_cons (l : List Std) (p : List Ask) (x : Ask) (r : List Ask) : askE l p (x :: r) = bif !isName x.1 then 3 else bif decide (atS l x.2.1 < 0) then 6 else bif decide (x.2.2 < 0) || decide (x.2.2 > 200000) then 12 else bif p.any (fun y => seq y.1 x.1) then 7 else askE l (p ++ [x]) r := rfl
def asksErr (l : List Std) (d : List Ask) : Int := bif !(stdsErr l == 0) then stdsErr l else bif decide ((d.length : Int) > 16) then 2 else askE l [] d
theorem askE_ok {l : List Std} : ∀ {d p : List Ask}, askE l p d = 0 → (∀ x ∈ d, 0 ≤ atS l x.2.1 ∧ 0 ≤ x.2.2 ∧ x.2.2 ≤ 200000 ∧ ∀ y ∈ p, y.1 ≠ x.1) ∧ d.Pairwise fun x y => x.1 ≠ y.1
  | [], _, _ => ⟨fun x h => (by cases h), .nil⟩
  | a :: r, p, h => by
    rw [askE_cons] at h
    cases hn : isName a.1 with
    | false => rw [hn] at h; cases h
    | true =>
      rw [hn] at h
      simp only [Bool.not_true, cond_false] at h
      cases hs : decide (atS l a.2.1 < 0) with
      | true => rw [hs] at h; cases h
      | false =>
        rw [hs, cond_false] at h
        cases ht : (decide (a.2.2 < 0) || decide (a.2.2 > 200000)) with
        | true => rw [ht] at h; cases h
        | false =>
          rw [ht, cond_false] at h
          cases ha : p.any (fun y => seq y.1 a.1) with
          | true => rw [ha] at h; cases h
          | false =>
            rw [ha, cond_false] at h
            obtain ⟨h1, h2⟩ := askE_ok h
            simp only [Bool.or_eq_false_iff, decide_eq_false_iff_not] at ht hs
            have ha' : ∀ y ∈ p, y.1 ≠ a.1 := fun y hy => by
              rw [List.any_eq_false] at ha
              have := ha y hy
              exact fun e => this (sq_iff.2 e)
            refine ⟨fun x hx => ?_, .cons (fun y hy => (h1 y hy).2.2.2 a (by simp)) h2⟩
            rcases List.mem_cons.1 hx with rfl | hx
            · exact ⟨by omega, by omega, by omega, ha'⟩
            · have := h1 x hx
              exact ⟨this.1, this.2.1, this.2.2.1, fun y hy => this.2.2.2 y (by simp [hy])⟩
theorem asksErr_ok {l : List Std} {d : List Ask} (h : asksErr l d = 0) : l.length ≤ 16 ∧ (∀ x ∈ l, 0 ≤ x.2 ∧ x.2 ≤ 1800) ∧ d.length ≤ 16 ∧ (∀ x ∈ d, 0 ≤ atS l x.2.1 ∧ 0 ≤ x.2.2 ∧ x.2.2 ≤ 200000) ∧ d.Pairwise fun x y => x.1 ≠ y.1 := by
  unfold asksErr at h
  cases hs : stdsErr l == 0 with
  | false =>
    rw [hs] at h
    have h : stdsErr l = 0 := h
    rw [h] at hs; cases hs
  | true =>
    rw [hs] at h
    obtain ⟨s1, s2⟩ := stdsErr_ok (beq_iff_eq.1 hs)
    by_cases hl : (d.length : Int) > 16
    · simp [hl] at h
    · simp only [hl, decide_false, cond_false, Bool.not_true] at h
      obtain ⟨h1, h2⟩ := askE_ok h
      exact ⟨s1, s2, by omega, fun x hx => ⟨(h1 x hx).1, (h1 x hx).2.1, (h1 x hx).2.2.1⟩, h2⟩
section
variable {N : Nat} (hN : 4611686018427387904 ≤ N)
include hN
theorem taxi_Stands.v (l : List Std) (hl : l.length < 4611686018427387904) : taxi_Stands.fn N l = some (stdsErr l) := by
  rw [taxi_Stands.eq]
  unfold stdsErr
  by_cases h : (l.length : Int) > 16
  · simp [h]
  simp only [h, decide_false, cond_false]
  refine list_loop (l := l) (fun k (_ : Unit) i => taxi_Stands.l0 N l k i) (fun pre r _ => some (stdE pre r)) (fun _ _ => True) (fun k s _ => taxi_Stands.l0_nil N l k) (fun k pre c r s h _ ih => ?_) N () trivial (by omega)
  have hlen : l.length = pre.length + 1 + r.length := by rw [h]; simp; omega
  have ih := ih () trivial
  rw [taxi_Stands.l0_cons N l k h hl, slot_Name.v hN, Option.bind_some, stdE_cons]
  cases hn : isName c.1 with
  | false => rfl
  | true =>
    simp only [Bool.not_true, cond_false]
    cases ht : (decide (c.2 < 0) || decide (c.2 > 1800)) with
    | true => rfl
    | false =>
      simp only [cond_false]
      have htk : List.take (Int.toNat (pre.length : Int)) l = pre := by rw [h]; simp
      have hs := scan_list (l := pre) (fun y => seq y.1 c.1) (some 7) (taxi_Stands.l0 N l k (w ((pre.length : Int) + 1))) (fun q i => taxi_Stands.l1 N l k (pre.length : Int) q i)
        (fun q => by have := taxi_Stands.l1_nil N l k (pre.length : Int) q; rw [htk] at this; exact this)
        (fun q p y r' h' => by
          have := taxi_Stands.l1_cons N l k (pre.length : Int) q (pre := p) (x := y) (r := r') (by rw [htk]; exact h') (by rw [htk]; omega)
          rw [this]
          simp only [Int.toNat_natCast, show l.getD pre.length ((⟨#[]⟩ : ByteArray), 0) = c by rw [h]; exact getD_mid pre c r _]) N (by omega)
      rw [hs, w_next h hl, ih]
      cases pre.any (fun y => seq y.1 c.1) <;> rfl
theorem taxi_stand.v (l : List Std) (n : ByteArray) (hl : l.length < 4611686018427387904) : taxi_stand.fn N (l, n) = some (stT n l) := by
  rw [taxi_stand.eq]
  refine list_loop (l := l) (fun k (_ : Unit) i => taxi_stand.l0 N l n k i) (fun _ r _ => some (stT n r)) (fun _ _ => True) (fun k s _ => taxi_stand.l0_nil N l n k) (fun k pre c r s h _ ih => ?_) N () trivial (by omega)
  rw [taxi_stand.l0_cons N l n k h hl, ih () trivial]
  show _ = some (bif seq c.1 n then c.2 else stT n r)
  cases seq c.1 n <;> rfl
theorem ref_StandAt.v (l : List Std) (n : ByteArray) (hl : l.length < 4611686018427387904) : ref_StandAt.fn N (l, n) = some (atS l n) := by
  rw [ref_StandAt.eq]
  exact find_list (l := l) (fun x => seq x.1 n) (fun k i => ref_StandAt.l0 N l n k i) (fun k => ref_StandAt.l0_nil N l n k) (fun k pre x r h => by
    show ref_StandAt.l0 N l n (k + 1) (pre.length : Int) = _
    rw [ref_StandAt.l0_cons N l n k h hl]) N (by omega)
theorem ref_StandsError.v (l : List Std) (hl : l.length < 4611686018427387904) : ref_StandsError.fn N l = some (stdsErr l) := by
  rw [ref_StandsError.eq]
  unfold stdsErr
  by_cases h : (l.length : Int) > 16
  · simp [h]
  simp only [h, decide_false, cond_false]
  refine list_loop (l := l) (fun k (_ : Unit) i => ref_StandsError.l0 N l k i) (fun pre r _ => some (stdE pre r)) (fun _ _ => True) (fun k s _ => ref_StandsError.l0_nil N l k) (fun k pre c r s h _ ih => ?_) N () trivial (by omega)
  have hlen : l.length = pre.length + 1 + r.length := by rw [h]; simp; omega
  have ih := ih () trivial
  rw [ref_StandsError.l0_cons N l k h hl, ref_IsName.v hN, Option.bind_some, stdE_cons, ref_StandAt.v hN pre c.1 (by omega), ih]
  cases hn : isName c.1 with
  | false => rfl
  | true =>
    simp only [Bool.not_true, cond_false]
    cases ht : (decide (c.2 < 0) || decide (c.2 > 1800)) with
    | true => rfl
    | false =>
      simp only [cond_false, Option.bind_some]
      have : decide (atS pre c.1 ≥ 0) = pre.any (fun y => seq y.1 c.1) := by
        rcases idx_spec (fun x : Std => seq x.1 c.1) pre with ⟨h1, h2⟩ | ⟨p, x, q, h1, h2, h3, _⟩
        · have : pre.any (fun y => seq y.1 c.1) = false := by rw [List.any_eq_false]; intro x hx; rw [h2 x hx]; simp
          rw [this]
          show decide (idxL _ pre 0 ≥ 0) = false
          rw [h1]; rfl
        · have : pre.any (fun y => seq y.1 c.1) = true := by rw [List.any_eq_true]; exact ⟨x, by rw [h1]; simp, h3⟩
          rw [this]
          show decide (idxL _ pre 0 ≥ 0) = true
          rw [h2]; simp
      rw [this]
      cases pre.any (fun y => seq y.1 c.1) <;> rfl
theorem taxi_Check.v (l : List Std) (d : List Ask) (hl : l.length < 4611686018427387904) (hd : d.length < 4611686018427387904) : taxi_Check.fn N (l, d) = some (asksErr l d) := by
  rw [taxi_Check.eq, taxi_Stands.v hN l hl, Option.bind_some]
  unfold asksErr
  cases hs : stdsErr l == 0 with
  | false => rfl
  | true =>
    obtain ⟨_, s2⟩ := stdsErr_ok (beq_iff_eq.1 hs)
    simp only [Bool.not_true, cond_false]
    by_cases h : (d.length : Int) > 16
    · simp [h]
    simp only [h, decide_false, cond_false]
    refine list_loop (l := d) (fun k (_ : Unit) i => taxi_Check.l0 N l d k i) (fun pre r _ => some (askE l pre r)) (fun _ _ => True) (fun k s _ => taxi_Check.l0_nil N l d k) (fun k pre c r s h _ ih => ?_) N () trivial (by omega)
    have hlen : d.length = pre.length + 1 + r.length := by rw [h]; simp; omega
    have ih := ih () trivial
    rw [taxi_Check.l0_cons N l d k h hd, slot_Name.v hN, Option.bind_some, askE_cons, taxi_stand.v hN l _ hl]
    cases hn : isName c.1 with
    | false => rfl
    | true =>
      simp only [Bool.not_true, cond_false, Option.bind_some]
      have hst : decide (stT c.2.1 l < 0) = decide (atS l c.2.1 < 0) := by
        rcases stT_spec (l := l) c.2.1 with ⟨h1, h2⟩ | ⟨j, x, h1, h2, h3, h4⟩
        · rw [h1, h2]
        · have := s2 x (List.mem_of_getElem? h3)
          rw [h2, h4, decide_eq_decide]; omega
      rw [hst]
      cases ha : decide (atS l c.2.1 < 0) with
      | true => rfl
      | false =>
        simp only [cond_false]
        cases ht : (decide (c.2.2 < 0) || decide (c.2.2 > 200000)) with
        | true => rfl
        | false =>
          simp only [cond_false]
          have htk : List.take (Int.toNat (pre.length : Int)) d = pre := by rw [h]; simp
          have hs := scan_list (l := pre) (fun y => seq y.1 c.1) (some 7) (taxi_Check.l0 N l d k (w ((pre.length : Int) + 1))) (fun q i => taxi_Check.l1 N l d k (pre.length : Int) q i)
            (fun q => by have := taxi_Check.l1_nil N l d k (pre.length : Int) q; rw [htk] at this; exact this)
            (fun q p y r' h' => by
              have := taxi_Check.l1_cons N l d k (pre.length : Int) q (pre := p) (x := y) (r := r') (by rw [htk]; exact h') (by rw [htk]; omega)
              rw [this]
              simp only [Int.toNat_natCast, show d.getD pre.length a0 = c by rw [h]; exact getD_mid pre c r _]) N (by omega)
          rw [hs, w_next h hd, ih]
          cases pre.any (fun y => seq y.1 c.1) <;> rfl
theorem ref_AsksError.v (l : List Std) (d : List Ask) (hl : l.length < 4611686018427387904) (hd : d.length < 4611686018427387904) : ref_AsksError.fn N (l, d) = some (asksErr l d) := by
  rw [ref_AsksError.eq, ref_StandsError.v hN l hl, Option.bind_some]
  unfold asksErr
  cases hs : stdsErr l == 0 with
  | false => rfl
  | true =>
    simp only [Bool.not_true, cond_false]
    by_cases h : (d.length : Int) > 16
    · simp [h]
    simp only [h, decide_false, cond_false]
    refine list_loop (l := d) (fun k (_ : Unit) i => ref_AsksError.l0 N l d k i) (fun pre r _ => some (askE l pre r)) (fun _ _ => True) (fun k s _ => ref_AsksError.l0_nil N l d k) (fun k pre c r s h _ ih => ?_) N () trivial (by omega)
    have hlen : d.length = pre.length + 1 + r.length := by rw [h]; simp; omega
    have ih := ih () trivial
    rw [ref_AsksError.l0_cons N l d k h hd, ref_IsName.v hN, Option.bind_some, askE_cons, ref_StandAt.v hN l _ hl]
    cases hn : isName c.1 with
    | false => rfl
    | true =>
      simp only [Bool.not_true, cond_false, Option.bind_some]
      cases ha : decide (atS l c.2.1 < 0) with
      | true => rfl
      | false =>
        simp only [cond_false]
        cases ht : (decide (c.2.2 < 0) || decide (c.2.2 > 200000)) with
        | true => rfl
        | false =>
          simp only [cond_false]
          have hs := scan_list (l := pre) (fun y => seq y.1 c.1) (some 7) (ref_AsksError.l0 N l d k (w ((pre.length : Int) + 1))) (fun q i => ref_AsksError.l1 N l d k (pre.length : Int) q i)
            (fun q => by
              show ref_AsksError.l1 N l d k (pre.length : Int) (q + 1) (pre.length : Int) = _
              rw [ref_AsksError.l1_succ]; simp)
            (fun q p y r' h' => by
              show ref_AsksError.l1 N l d k (pre.length : Int) (q + 1) (p.length : Int) = _
              have hp : pre.length = p.length + 1 + r'.length := by rw [h']; simp; omega
              have e1 : decide ((p.length : Int) < (pre.length : Int)) = true := by rw [decide_eq_true_iff]; omega
              have e2 : (decide (0 ≤ (p.length : Int)) && decide ((p.length : Int) < (d.length : Int))) = true := by simp; omega
              have e3 : w ((p.length : Int) + 1) = (p.length : Int) + 1 := by rw [w_small] <;> omega
              rw [ref_AsksError.l1_succ, e1, e2, e3]
              simp only [cond_true, Int.toNat_natCast, show d.getD pre.length a0 = c by rw [h]; exact getD_mid pre c r _, show d.getD p.length a0 = y by rw [h, h', List.append_assoc]; exact getD_mid p y _ _]) N (by omega)
          rw [hs, w_next h hd, ih]
          cases pre.any (fun y => seq y.1 c.1) <;> rfl
end

/-! ### the queue -/
def holdT (l : List Std) (x : Ask) : Int := x.2.2 + stT x.2.1 l
def mv (l : List Std) (x : Ask) : Tm := (x.1, x.2.2, holdT l x, 0)
def tf (p q : Tm) : Bool := bf (p.1, p.2.2.1) (q.1, q.2.2.1)
theorem tf_ok : LtOk tf := ⟨fun _ => bf_ok.irr _, fun h1 h2 => bf_ok.tr h1 h2, fun h1 h2 => bf_ok.ntr h1 h2⟩
def lvL (free : Int) (m : Tm) : Int := if m.2.2.1 < free then free else m.2.2.1
def lvs (gap : Int) : Int → List Tm → List Tm
  | _, [] => []
  | free, m :: r => (m.1, m.2.1, m.2.2.1, lvL free m) :: lvs gap (lvL free m + gap) r
theorem lvs_cons (gap free : Int) (m : Tm) (r : List Tm) : lvs gap free (m :: r) = (m.1, m.2.1, m.2.2.1, lvL free m) :: lvs gap (lvL free m + gap) r := rfl
def qw (gap : Int) : List Tm → Int → List Tm → List Tm × Int
  | D, _, [] => (D, 0)
  | D, free, m :: r => bif decide (lvL free m > 200000) then ([], 12) else qw gap (D ++ [(m.1, m.2.1, m.2.2.1, lvL free m)]) (lvL free m + gap) r
theorem qw_cons (gap : Int) (D : List Tm) (free : Int) (m : Tm) (r : List Tm) : qw gap D free (m :: r) = bif decide (lvL free m > 200000) then ([], 12) else qw gap (D ++ [(m.1, m.2.1, m.2.2.1, lvL free m)]) (lvL free m + gap) r := rfl
theorem qw_val {gap : Int} : ∀ (s D : List Tm) (free : Int), qw gap D free s = bif (lvs gap free s).any (fun m => decide (m.2.2.2 > 200000)) then ([], 12) else (D ++ lvs gap free s, 0)
  | [], D, free => by simp [qw, lvs]
  | m :: r, D, free => by
    rw [qw_cons, lvs_cons, List.any_cons, qw_val r]
    cases decide (lvL free m > 200000) with
    | true => rfl
    | false =>
      simp only [cond_false, Bool.false_or, List.append_assoc, List.singleton_append]
theorem lvs_len (gap : Int) : ∀ (s : List Tm) (free : Int), (lvs gap free s).length = s.length
  | [], _ => rfl
  | m :: r, free => by rw [lvs_cons, List.length_cons, lvs_len gap r, List.length_cons]
theorem lv_ge (free : Int) (m : Tm) : free ≤ lvL free m ∧ m.2.2.1 ≤ lvL free m := by unfold lvL; split <;> omega
theorem lvs_ge {gap : Int} (hg : 0 ≤ gap) : ∀ (s : List Tm) (free : Int), ∀ m ∈ lvs gap free s, free ≤ m.2.2.2
  | [], _, m, h => by cases h
  | a :: r, free, m, h => by
    rw [lvs_cons] at h
    have := lv_ge free a
    rcases List.mem_cons.1 h with rfl | h
    · exact this.1
    · have := lvs_ge hg r _ m h; omega
/-- The last one leaves last. -/
theorem lvs_last {gap : Int} (hg : 0 ≤ gap) : ∀ (s : List Tm) (free : Int), s ≠ [] → (lvs gap free s).any (fun m => decide (m.2.2.2 > 200000)) = decide (((lvs gap free s).getD (s.length - 1) m0).2.2.2 > 200000)
  | [], _, h => absurd rfl h
  | [a], free, _ => by simp [lvs]
  | a :: b :: r, free, _ => by
    rw [lvs_cons, List.any_cons, lvs_last hg (b :: r) _ (by simp)]
    have e : (a :: b :: r).length - 1 = ((b :: r).length - 1) + 1 := by simp
    rw [e, List.getD_cons_succ]
    have hlt : (b :: r).length - 1 < (lvs gap (lvL free a + gap) (b :: r)).length := by rw [lvs_len]; simp
    have hmem : (lvs gap (lvL free a + gap) (b :: r)).getD ((b :: r).length - 1) m0 ∈ lvs gap (lvL free a + gap) (b :: r) := by
      rw [List.getD_eq_getElem?_getD, List.getElem?_eq_getElem hlt]; exact List.getElem_mem hlt
    have h1 := lvs_ge hg _ _ _ hmem
    cases h2 : decide (lvL free a > 200000) with
    | false => rfl
    | true =>
      rw [Bool.true_or]
      have h2 := of_decide_eq_true h2
      exact (decide_eq_true (by omega)).symm
theorem set_at {α : Type} {n : Nat} {D : List α} (h : D.length = n) (x : α) (r : List α) (v : α) : (D ++ x :: r).set n v = D ++ v :: r := by subst h; simp
theorem get_at {α : Type} {n : Nat} {D : List α} (h : D.length = n) (x : α) (r : List α) (d : α) : (D ++ x :: r).getD n d = x := by subst h; exact getD_mid D x r d
theorem lvs_snoc (gap : Int) : ∀ (s : List Tm) (free : Int) (m : Tm), ∃ f, lvs gap free (s ++ [m]) = lvs gap free s ++ [(m.1, m.2.1, m.2.2.1, lvL f m)]
  | [], free, m => ⟨free, rfl⟩
  | a :: r, free, m => by
    obtain ⟨f, h⟩ := lvs_snoc gap r (lvL free a + gap) m
    exact ⟨f, by rw [List.cons_append, lvs_cons, h, lvs_cons]; rfl⟩
section
variable {N : Nat} (hN : 4611686018427387904 ≤ N)
include hN
theorem q1_v (p q : Tm) : ∃ z, taxi_Queue_1.fn N (p, q) = some z ∧ decide (z < 0) = tf p q := by
  refine ⟨bif !((bif decide (p.2.2.1 < q.2.2.1) then -1 else bif decide (p.2.2.1 > q.2.2.1) then (1 : Int) else 0) == 0) then (bif decide (p.2.2.1 < q.2.2.1) then -1 else bif decide (p.2.2.1 > q.2.2.1) then 1 else 0) else (bif slt p.1 q.1 then -1 else bif seq p.1 q.1 then 0 else 1), ?_, ?_⟩
  · rw [taxi_Queue_1.eq, cmpI_v hN, Option.bind_some, cmpS_v hN, Option.bind_some, or_v hN]; rfl
  · unfold tf bf
    rcases Int.lt_trichotomy p.2.2.1 q.2.2.1 with h | h | h
    · simp [h]
    · have h1 : ¬ p.2.2.1 < q.2.2.1 := by omega
      have h2 : ¬ p.2.2.1 > q.2.2.1 := by omega
      simp only [h1, h2, decide_false, cond_false, show (p.2.2.1 == q.2.2.1) = true by rw [beq_iff_eq]; exact h]
      cases slt p.1 q.1 <;> cases seq p.1 q.1 <;> rfl
    · have h1 : ¬ p.2.2.1 < q.2.2.1 := by omega
      have h3 : (p.2.2.1 == q.2.2.1) = false := by rw [beq_eq_false_iff_ne]; omega
      simp only [h1, h3, decide_false, cond_false, decide_eq_true h, cond_true]
      rfl
noncomputable abbrev srt (N : Nat) (l : List Tm) : List Tm := sortL (fun (p q : ByteArray × Int × Int × Int) => taxi_Queue_1.fn N (p, q)) l
theorem srt_spec {l : List Tm} (ap : l.Pairwise fun x y => x.1 ≠ y.1) : (srt N l).Perm l ∧ (srt N l).Pairwise fun x y => tf x y = true :=
  ⟨sortL_perm l, sortL_sorted (fun x y => q1_v hN x y) tf_ok (ap.imp fun h => bf_apart h)⟩
/-- One departure of the sorted ones. -/
theorem walk_v {gap : Int} (hg : 0 ≤ gap) (hg2 : gap ≤ 1800) (a4 : List Tm) (hlen : (srt N a4).length ≤ 16) (hh : ∀ m ∈ srt N a4, 0 ≤ m.2.2.1 ∧ m.2.2.1 ≤ 201800 ∧ m.2.2.2 = 0) :
    taxi_Queue.l1 N gap a4 N 0 (srt N a4) = some (qw gap [] 0 (srt N a4)) := by
  obtain ⟨M, hM⟩ : ∃ M, N = M + 1 := ⟨N - 1, by omega⟩
  have key := list_loop (l := srt N a4) (fun k (s : List Tm × Int) i => taxi_Queue.l1 N gap a4 k i (s.1 ++ (srt N a4).drop s.1.length)) (fun _ r s => some (qw gap s.1 s.2 r))
    (fun p s => s.1.length = p.length ∧ 0 ≤ s.2 ∧ s.2 ≤ 201800 ∧ ((p = [] ∧ s.2 = 0) ∨ ∃ D m, s.1 = D ++ [m] ∧ s.2 = m.2.2.2 + gap))
    (fun k s hI => ?_) (fun k pre x r s h hI ih => ?_) N ([], 0) ⟨rfl, by simp, by simp, .inl ⟨rfl, rfl⟩⟩ (by omega)
  · exact key
  · show taxi_Queue.l1 N gap a4 (k + 1) ((srt N a4).length : Int) (s.1 ++ (srt N a4).drop s.1.length) = some (qw gap s.1 s.2 [])
    rw [taxi_Queue.l1_nil, hI.1, List.drop_length, List.append_nil]; rfl
  · obtain ⟨hD, hf0, hf1, hfree⟩ := hI
    have hlen2 : (srt N a4).length = pre.length + 1 + r.length := by rw [h]; simp; omega
    have hdrop : (srt N a4).drop s.1.length = x :: r := by rw [hD, h]; simp
    have hx := hh x (by rw [h]; simp)
    have ht : (s.1 ++ x :: r).length = (srt N a4).length := by rw [List.length_append, hD, hlen2]; simp; omega
    have b1 : decide ((pre.length : Int) < ((s.1 ++ x :: r).length : Int)) = true := by rw [decide_eq_true_iff, ht]; omega
    have b2 : decide (pre.length < (s.1 ++ x :: r).length) = true := by rw [decide_eq_true_iff, ht]; omega
    have hw : w ((pre.length : Int) + 1) = (pre.length : Int) + 1 := by rw [w_small] <;> omega
    show taxi_Queue.l1 N gap a4 (k + 1) (pre.length : Int) (s.1 ++ (srt N a4).drop s.1.length) = some (qw gap s.1 s.2 (x :: r))
    rw [hdrop, qw_cons]
    have step : ∀ (L : Int), L = lvL s.2 x → taxi_Queue.j2 N gap a4 k (pre.length : Int) (s.1 ++ (x.1, x.2.1, x.2.2.1, L) :: r) = some (bif decide (lvL s.2 x > 200000) then ([], 12) else qw gap (s.1 ++ [(x.1, x.2.1, x.2.2.1, lvL s.2 x)]) (lvL s.2 x + gap) r) := by
      rintro L rfl
      have ht2 : (s.1 ++ (x.1, x.2.1, x.2.2.1, lvL s.2 x) :: r).length = (srt N a4).length := by rw [List.length_append, hD, hlen2]; simp; omega
      rw [taxi_Queue.j2_eq (hM := hM)]
      rw [show (decide (0 ≤ (pre.length : Int)) && decide ((pre.length : Int) < ((s.1 ++ (x.1, x.2.1, x.2.2.1, lvL s.2 x) :: r).length : Int))) = true by rw [ht2]; simp; omega, cond_true, Int.toNat_natCast,
        show decide (pre.length < (s.1 ++ (x.1, x.2.1, x.2.2.1, lvL s.2 x) :: r).length) = true by rw [decide_eq_true_iff, ht2]; omega, cond_true, get_at hD, hw]
      cases hb : decide (lvL s.2 x > 200000) with
      | true => rfl
      | false =>
        have hb := of_decide_eq_false hb
        have hge := lv_ge s.2 x
        rw [cond_false, cond_false]
        have := ih (s.1 ++ [(x.1, x.2.1, x.2.2.1, lvL s.2 x)], lvL s.2 x + gap) ⟨by simp [hD], by show 0 ≤ lvL s.2 x + gap; omega, by show lvL s.2 x + gap ≤ 201800; omega, .inr ⟨s.1, _, rfl, rfl⟩⟩
        simp only [List.length_append, List.length_cons, List.length_nil, Nat.zero_add] at this
        have hd2 : (srt N a4).drop (s.1.length + 1) = r := by rw [hD, h, ← List.drop_drop]; simp
        rw [hd2, List.append_assoc] at this
        exact this
    rw [taxi_Queue.l1_cons N gap a4 k _ h (by show (srt N a4).length < _; omega)]
    simp -implicitDefEqProofs only [b1, b2, cond_true, get_at hD, set_at hD]
    rcases hfree with ⟨rfl, h0⟩ | ⟨D, m, hDm, hfm⟩
    · simp -implicitDefEqProofs only [show decide ((([] : List Tm).length : Int) > 0) = false from rfl, cond_false]
      refine step _ ?_
      unfold lvL
      rw [h0, if_neg (by omega)]
    · have hpl : pre.length = D.length + 1 := by rw [← hD, hDm]; simp
      have b0 : decide ((pre.length : Int) > 0) = true := by rw [decide_eq_true_iff]; omega
      have e1 : w ((pre.length : Int) - 1) = (D.length : Int) := by rw [w_small] <;> omega
      have hgp : ∀ (v : Tm) d, (s.1 ++ v :: r).getD D.length d = m := fun v d => by rw [hDm, List.append_assoc]; exact getD_mid D m _ d
      have b3 : ∀ (v : Tm), decide ((pre.length : Int) < ((s.1 ++ v :: r).length : Int)) = true := fun v => by rw [decide_eq_true_iff, List.length_append, hD]; simp; omega
      have b4 : ∀ (v : Tm), decide (pre.length < (s.1 ++ v :: r).length) = true := fun v => by rw [decide_eq_true_iff, List.length_append, hD]; simp
      have b5 : ∀ (v : Tm), (decide (0 ≤ (D.length : Int)) && decide ((D.length : Int) < ((s.1 ++ v :: r).length : Int))) = true := fun v => by rw [List.length_append, hD]; simp; omega
      have b6 : ∀ (v : Tm), decide (D.length < (s.1 ++ v :: r).length) = true := fun v => by rw [decide_eq_true_iff, List.length_append, hD]; simp; omega
      have hwg : w (m.2.2.2 + gap) = m.2.2.2 + gap := by rw [← hfm, w_small] <;> omega
      simp -implicitDefEqProofs only [b0, cond_true, e1, b3, b4, b5, b6, Int.toNat_natCast, hgp, hwg]
      refine step _ ?_
      unfold lvL
      rw [hfm]
end

noncomputable def queueE (N : Nat) (l : List Std) (d : List Ask) (gap : Int) : List Tm × Int :=
  bif !(asksErr l d == 0) then ([], asksErr l d) else bif decide (gap < 0) || decide (gap > 1800) then ([], 4) else qw gap [] 0 (srt N (d.map (mv l)))
theorem holdT_ok {l : List Std} {x : Ask} (hl : ∀ s ∈ l, 0 ≤ s.2 ∧ s.2 ≤ 1800) (h : 0 ≤ atS l x.2.1 ∧ 0 ≤ x.2.2 ∧ x.2.2 ≤ 200000) : 0 ≤ holdT l x ∧ holdT l x ≤ 201800 ∧ ∃ j s, j < l.length ∧ atS l x.2.1 = (j : Int) ∧ l[j]? = some s ∧ stT x.2.1 l = s.2 := by
  rcases stT_spec (l := l) x.2.1 with ⟨h1, _⟩ | ⟨j, s, h1, h2, h3, h4⟩
  · omega
  · have := hl s (List.mem_of_getElem? h3)
    unfold holdT
    rw [h4]
    exact ⟨by omega, by omega, j, s, h1, h2, h3, rfl⟩
section
variable {N : Nat} (hN : 4611686018427387904 ≤ N)
include hN
theorem taxi_Queue.v (l : List Std) (d : List Ask) (gap : Int) (hl : l.length < 4611686018427387904) (hd : d.length < 4611686018427387904) : taxi_Queue.fn N (l, d, gap) = some (queueE N l d gap) := by
  rw [taxi_Queue.clean, taxi_Check.v hN l d hl hd, Option.bind_some]
  unfold queueE
  cases he : asksErr l d == 0 with
  | false => rfl
  | true =>
    obtain ⟨l1, l2, d1, d2, d3⟩ := asksErr_ok (beq_iff_eq.1 he)
    simp only [Bool.not_true, cond_false]
    cases hg : decide (gap < 0) || decide (gap > 1800) with
    | true => rfl
    | false =>
      simp only [Bool.or_eq_false_iff, decide_eq_false_iff_not] at hg
      simp only [cond_false]
      have hap : (d.map (mv l)).Pairwise fun x y => x.1 ≠ y.1 := by rw [List.pairwise_map]; exact d3
      obtain ⟨s1, s2⟩ := srt_spec hN hap
      have hsl : (srt N (d.map (mv l))).length = d.length := by rw [s1.length_eq]; simp
      have key := list_loop (l := d) (fun k (m : List Tm) i => taxi_Queue.l0 N l d gap k i m) (fun _ r m => some (qw gap [] 0 (srt N (d.map (mv l))))) (fun p m => m = p.map (mv l))
        (fun k m hI => ?_) (fun k pre x r m h hI ih => ?_) N [] rfl (by omega)
      · exact key
      · show taxi_Queue.l0 N l d gap (k + 1) (d.length : Int) m = _
        rw [taxi_Queue.l0_nil, hI, sortOk_of (by simp; omega) (fun x y => q1_v hN x y) tf_ok (hap.imp fun h => bf_apart h), cond_true]
        refine walk_v hN (by omega) (by omega) _ (by omega) fun m hm => ?_
        have := s1.mem_iff.1 hm
        rw [List.mem_map] at this
        obtain ⟨x, hx, rfl⟩ := this
        have := holdT_ok l2 (d2 x hx)
        exact ⟨this.1, this.2.1, rfl⟩
      · show taxi_Queue.l0 N l d gap (k + 1) (pre.length : Int) m = _
        have hlen : d.length = pre.length + 1 + r.length := by rw [h]; simp; omega
        have hml : m.length = pre.length := by rw [hI]; simp
        have hx := holdT_ok l2 (d2 x (by rw [h]; simp))
        have hx2 := d2 x (by rw [h]; simp)
        have b1 : (decide ((m.length + 1) * 40 ≤ 140737488355328) && decide (m.length + 1 ≤ maxLen)) = true := by simp [maxLen]; omega
        have hw : w (x.2.2 + stT x.2.1 l) = holdT l x := by unfold holdT at hx ⊢; rw [w_small] <;> omega
        rw [taxi_Queue.l0_cons N l d gap k m h hd, taxi_stand.v hN l _ hl, Option.bind_some, b1, cond_true, hw]
        exact ih _ (by rw [hI, List.map_append]; rfl)

/-! ### the reference -/
theorem hold_v {l : List Std} {x : Ask} (hl : l.length ≤ 16) (hl2 : ∀ s ∈ l, 0 ≤ s.2 ∧ s.2 ≤ 1800) (h : 0 ≤ atS l x.2.1 ∧ 0 ≤ x.2.2 ∧ x.2.2 ≤ 200000) : ref_Queued_1.fn N (x, l) = some (holdT l x) := by
  obtain ⟨q1, q2, j, s, q3, q4, q5, q6⟩ := holdT_ok hl2 h
  have hg : l.getD j ((⟨#[]⟩ : ByteArray), 0) = s := by rw [List.getD_eq_getElem?_getD, q5]; rfl
  have hw : w (x.2.2 + s.2) = holdT l x := by unfold holdT at q1 q2 ⊢; rw [q6] at q1 q2 ⊢; rw [w_small] <;> omega
  rw [ref_Queued_1.eq, ref_StandAt.v hN l _ (by omega), Option.bind_some, q4, show (decide (0 ≤ (j : Int)) && decide ((j : Int) < (l.length : Int))) = true by simp; omega, cond_true, Int.toNat_natCast, hg, hw]
def af (l : List Std) (x y : Ask) : Bool := tf (mv l x) (mv l y)
/-- The search of the first one goes on. -/
theorem best_from {l : List Std} (hl : l.length ≤ 16) (hl2 : ∀ s ∈ l, 0 ≤ s.2 ∧ s.2 ≤ 1800) {a3 : List Ask} (ha : a3.length ≤ 16) (hok : ∀ x ∈ a3, 0 ≤ atS l x.2.1 ∧ 0 ≤ x.2.2 ∧ x.2.2 ≤ 200000) (gap : Int) (k1 : Nat) (a2 : Int) (a4 : List Tm) :
    ∀ (r p : List Ask) (s : Nat) (m : Ask) (k : Nat), a3 = p ++ r → r.length < k → a3[s]? = some m → (∀ y ∈ p, af l y m = false) →
    ∃ (j : Nat) (m' : Ask) (k' : Nat), a3[j]? = some m' ∧ (∀ y ∈ a3, af l y m' = false) ∧ ref_Queued.l1 N l gap k1 a2 a3 a4 k (s : Int) (p.length : Int) = ref_Queued.l1 N l gap k1 a2 a3 a4 (k' + 1) (j : Int) (a3.length : Int)
  | [], p, s, m, k + 1, h, _, hs, hp => by
    rw [List.append_nil] at h
    subst h
    exact ⟨s, m, k, hs, hp, rfl⟩
  | x :: r, p, s, m, k + 1, h, hk, hs, hp => by
    have hsl : s < a3.length := by
      rcases Nat.lt_or_ge s a3.length with h' | h'
      · exact h'
      · rw [List.getElem?_eq_none h'] at hs; cases hs
    have hpl : p.length < a3.length := by rw [h]; simp
    have hx := hok x (by rw [h]; simp)
    have hm := hok m (List.mem_of_getElem? hs)
    have hg : a3.getD s ((⟨#[]⟩ : ByteArray), ((⟨#[]⟩ : ByteArray), 0)) = m := by rw [List.getD_eq_getElem?_getD, hs]; rfl
    have b1 : decide (p.length < a3.length) = true := decide_eq_true hpl
    have b2 : (decide (0 ≤ (s : Int)) && decide ((s : Int) < (a3.length : Int))) = true := by simp; omega
    have b3 : decide (s < a3.length) = true := decide_eq_true hsl
    have hr := ref_Queued.l1_cons N l gap k1 a2 a3 a4 k (s : Int) h (by omega)
    simp -implicitDefEqProofs only [b1, b2, b3, cond_true, Int.toNat_natCast, hg, hold_v hN hl hl2 hx, hold_v hN hl hl2 hm, Option.bind_some, Bool.true_or] at hr
    have hnx : ((p.length : Int) + 1) = ((p ++ [x]).length : Int) := by simp
    have hxj : a3[p.length]? = some x := by rw [h]; simp
    have haf : af l x m = (decide (holdT l x < holdT l m) || (holdT l x == holdT l m && slt x.1 m.1)) := rfl
    have hr2 : ref_Queued.l1 N l gap k1 a2 a3 a4 (k + 1) (s : Int) (p.length : Int) = bif af l x m then ref_Queued.l1 N l gap k1 a2 a3 a4 k (p.length : Int) ((p.length : Int) + 1) else ref_Queued.l1 N l gap k1 a2 a3 a4 k (s : Int) ((p.length : Int) + 1) := by
      rw [hr, haf]
      cases hlt : decide (holdT l x < holdT l m) with
      | true => simp
      | false => simp
    cases hbm : af l x m with
    | true =>
      obtain ⟨j, m', k', q1, q2, q3⟩ := best_from hl hl2 ha hok gap k1 a2 a4 r (p ++ [x]) p.length x k (by rw [h]; simp) (by simpa using hk) hxj (fun y hy => by
        rcases List.mem_append.1 hy with hy | hy
        · cases hyx : af l y x with
          | false => rfl
          | true => have := tf_ok.tr hyx hbm; have h3 := hp y hy; unfold af at h3; rw [this] at h3; cases h3
        · rw [List.mem_singleton] at hy; subst hy; exact tf_ok.irr _)
      refine ⟨j, m', k', q1, q2, ?_⟩
      rw [hr2, hbm, cond_true, hnx]
      exact q3
    | false =>
      obtain ⟨j, m', k', q1, q2, q3⟩ := best_from hl hl2 ha hok gap k1 a2 a4 r (p ++ [x]) s m k (by rw [h]; simp) (by simpa using hk) hs (fun y hy => by
        rcases List.mem_append.1 hy with hy | hy
        · exact hp y hy
        · rw [List.mem_singleton] at hy; subst hy; exact hbm)
      refine ⟨j, m', k', q1, q2, ?_⟩
      rw [hr2, hbm, cond_false, hnx]
      exact q3
theorem Queued_loop {l : List Std} (hl : l.length ≤ 16) (hl2 : ∀ s ∈ l, 0 ≤ s.2 ∧ s.2 ≤ 1800) {gap : Int} (hg0 : 0 ≤ gap) (hg1 : gap ≤ 1800) :
    ∀ (s : List Tm) (a3 : List Ask) (out : List Tm) (free : Int) (k : Nat), s.Perm (a3.map (mv l)) → (s.Pairwise fun x y => tf x y = true) → (∀ x ∈ a3, 0 ≤ atS l x.2.1 ∧ 0 ≤ x.2.2 ∧ x.2.2 ≤ 200000) → a3.length + out.length ≤ 16 → 0 ≤ free → free ≤ 201800 + 1800 * (out.length : Int) → a3.length < k →
    ref_Queued.l0 N l gap k free a3 out = some (out ++ lvs gap free s)
  | [], a3, out, free, k + 1, hp, _, _, _, _, _, _ => by
    have : a3 = [] := by
      have := hp.symm.eq_nil
      simpa using this
    subst this
    rw [ref_Queued.l0_succ]
    simp [lvs]
  | h :: t, a3, out, free, k + 1, hp, hs, hok, hlen, hf0, hf1, hk => by
    obtain ⟨M, hM⟩ : ∃ M, N = M + 1 := ⟨N - 1, by omega⟩
    obtain ⟨a, r, rfl⟩ : ∃ a r, a3 = a :: r := by
      cases a3 with
      | nil => exact absurd hp.eq_nil (by simp)
      | cons a r => exact ⟨a, r, rfl⟩
    obtain ⟨j, m, k', q1, q2, q3⟩ := best_from hN hl hl2 (a3 := a :: r) (by omega) hok gap k free out (a :: r) [] 0 a N rfl (by simp at hlen ⊢; omega) rfl (fun y hy => by cases hy)
    obtain ⟨hj, hm⟩ := List.getElem?_eq_some_iff.1 q1
    obtain ⟨p, q, hpm, hpj⟩ : ∃ p q, a :: r = p ++ m :: q ∧ p.length = j := ⟨(a :: r).take j, (a :: r).drop (j + 1), by rw [← hm, List.getElem_cons_drop, List.take_append_drop], by rw [List.length_take]; omega⟩
    have hmh : mv l m = h := by
      have hmem : mv l m ∈ h :: t := hp.mem_iff.2 (by rw [hpm]; simp)
      rcases List.mem_cons.1 hmem with e | hmt
      · exact e
      · have h1 := List.rel_of_pairwise_cons hs hmt
        have h2 := hp.mem_iff.1 (by simp : h ∈ h :: t)
        rw [List.mem_map] at h2
        obtain ⟨y, hy, rfl⟩ := h2
        have h3 := q2 y hy
        unfold af at h3
        rw [h1] at h3; cases h3
    have hpt : t.Perm ((p ++ q).map (mv l)) := by
      have h1 : (h :: t).Perm (h :: (p ++ q).map (mv l)) := hp.trans (by rw [hpm, ← hmh, List.map_append, List.map_append, List.map_cons]; exact List.perm_middle)
      exact List.Perm.cons_inv h1
    have hokm := hok m (by rw [hpm]; simp)
    obtain ⟨hh0, hh1, _⟩ := holdT_ok hl2 hokm
    generalize ha3 : a :: r = a3 at *
    have hl3 : a3.length = p.length + 1 + q.length := by rw [hpm]; simp; omega
    have hgd : a3.getD j ((⟨#[]⟩ : ByteArray), ((⟨#[]⟩ : ByteArray), 0)) = m := by rw [List.getD_eq_getElem?_getD, q1]; rfl
    have hw1 : w ((j : Int) + 1) = (j : Int) + 1 := by rw [w_small] <;> omega
    rw [ref_Queued.l0_succ, show decide ((a3.length : Int) > 0) = true by rw [decide_eq_true_iff]; omega, cond_true]
    have q3' : ref_Queued.l1 N l gap k free a3 out N 0 0 = ref_Queued.l1 N l gap k free a3 out (k' + 1) (j : Int) (a3.length : Int) := q3
    rw [q3', ref_Queued.l1_nil]
    have b1 : (decide (0 ≤ (j : Int)) && decide ((j : Int) < (a3.length : Int))) = true := by simp; omega
    have b2 : decide (j < a3.length) = true := by rw [decide_eq_true_iff]; omega
    have b3 : (decide (0 ≤ (j : Int)) && decide (0 + j ≤ a3.length)) = true := by simp; omega
    have b4 : (decide ((0 + (List.take j a3).length) * 40 ≤ 140737488355328) && decide (0 + (List.take j a3).length ≤ maxLen)) = true := by simp [maxLen]; omega
    have b5 : (decide (0 ≤ (j : Int) + 1) && decide ((j : Int) + 1 ≤ ((a3.length : Nat) : Int))) = true := by simp; omega
    have e1 : Int.toNat ((j : Int) + 1) = j + 1 := by omega
    have e2 : List.take j a3 = p := by rw [hpm, ← hpj]; simp
    have e3 : List.take (a3.length - (j + 1)) (List.drop (0 + (j + 1)) a3) = q := by
      rw [Nat.zero_add, List.take_of_length_le (by simp), hpm, ← hpj, ← List.drop_drop]; simp
    have b6 : (decide ((p.length + q.length) * 40 ≤ 140737488355328) && decide (p.length + q.length ≤ maxLen)) = true := by rw [Bool.and_eq_true, decide_eq_true_iff, decide_eq_true_iff]; unfold maxLen; omega
    have b7 : (decide ((0 + p.length) * 40 ≤ 140737488355328) && decide (0 + p.length ≤ maxLen)) = true := by simp [maxLen]; omega
    have b8 : (decide ((out.length + 1) * 40 ≤ 140737488355328) && decide (out.length + 1 ≤ maxLen)) = true := by simp [maxLen]; omega
    simp -implicitDefEqProofs only [b1, b2, b3, b5, b6, b7, cond_true, Int.toNat_natCast, hw1, e1, e2, e3, hgd, hold_v hN hl hl2 hokm, Option.bind_some]
    have hLv : lvL free h = if holdT l m < free then free else holdT l m := by rw [← hmh]; rfl
    have hLb : 0 ≤ lvL free h ∧ lvL free h ≤ 201800 + 1800 * (out.length : Int) := by rw [hLv]; split <;> omega
    have fin : ref_Queued.j2 N l gap k a3 out (j : Int) (holdT l m) (lvL free h) = some (out ++ lvs gap free (h :: t)) := by
      have hwg : w (lvL free h + gap) = lvL free h + gap := by rw [w_small] <;> omega
      rw [ref_Queued.j2_eq (hM := hM), b8, cond_true]
      simp -implicitDefEqProofs only [Int.toNat_natCast, hw1, e1, e2, e3, hgd, hwg]
      rw [Queued_loop hl hl2 hg0 hg1 t (p ++ q) _ (lvL free h + gap) k hpt (List.Pairwise.of_cons hs) (fun x hx => hok x (by rw [hpm]; simp only [List.mem_append, List.mem_cons] at hx ⊢; rcases hx with h | h; exact .inl h; exact .inr (.inr h)))
        (by simp only [List.length_append, List.length_cons, List.length_nil]; omega) (by omega) (by simp only [List.length_append, List.length_cons, List.length_nil]; omega) (by simp only [List.length_append]; omega), lvs_cons]
      rw [List.append_assoc, ← hmh]
      rfl
    cases hlt : decide (holdT l m < free) with
    | true =>
      rw [cond_true]
      rw [hLv, if_pos (of_decide_eq_true hlt)] at fin
      exact fin
    | false =>
      rw [cond_false]
      rw [hLv, if_neg (of_decide_eq_false hlt)] at fin
      exact fin
theorem ref_Queued.v {l : List Std} {d : List Ask} {gap : Int} (he : asksErr l d = 0) (hg0 : 0 ≤ gap) (hg1 : gap ≤ 1800) : ref_Queued.fn N (l, d, gap) = some (lvs gap 0 (srt N (d.map (mv l)))) := by
  obtain ⟨l1, l2, d1, d2, d3⟩ := asksErr_ok he
  have hap : (d.map (mv l)).Pairwise fun x y => x.1 ≠ y.1 := by rw [List.pairwise_map]; exact d3
  obtain ⟨s1, s2⟩ := srt_spec hN hap
  rw [ref_Queued.eq, show (decide ((0 + d.length) * 40 ≤ 140737488355328) && decide (0 + d.length ≤ maxLen)) = true by simp [maxLen]; omega, cond_true]
  exact Queued_loop hN l1 l2 hg0 hg1 (srt N (d.map (mv l))) d [] 0 N s1 s2 d2 (by simpa using d1) (by omega) (by simp) (by omega)
end

/-! ### later departures -/
def ltM (slack : Int) (m : Tm) : Tm := bif decide (m.2.2.2 - m.2.2.1 - slack > 0) then (m.1, m.2.1 + (m.2.2.2 - m.2.2.1 - slack), m.2.2.1 + (m.2.2.2 - m.2.2.1 - slack), m.2.2.2) else m
def mvOk (m : Tm) : Prop := 0 ≤ m.2.1 ∧ m.2.1 ≤ 400000 ∧ 0 ≤ m.2.2.1 ∧ m.2.2.1 ≤ 400000 ∧ 0 ≤ m.2.2.2 ∧ m.2.2.2 ≤ 400000
section
variable {N : Nat} (hN : 4611686018427387904 ≤ N)
include hN
theorem late_v {slack : Int} (h0 : 0 ≤ slack) (h1 : slack ≤ 1800) (R : List Tm × Int) (hlen : R.1.length ≤ 16) (hok : ∀ m ∈ R.1, mvOk m) : taxi_Late.l0 N slack R N 0 R.1 = some (R.1.map (ltM slack), 0) := by
  have key := list_loop (l := R.1) (fun k (s : List Tm) i => taxi_Late.l0 N slack R k i (s ++ R.1.drop s.length)) (fun _ r s => some (s ++ r.map (ltM slack), 0)) (fun p s => s.length = p.length)
    (fun k s hI => ?_) (fun k pre x r s h hI ih => ?_) N [] rfl (by omega)
  · exact key
  · show taxi_Late.l0 N slack R (k + 1) (R.1.length : Int) (s ++ R.1.drop s.length) = _
    rw [taxi_Late.l0_nil, hI, List.drop_length]; simp
  · have hlen2 : R.1.length = pre.length + 1 + r.length := by rw [h]; simp; omega
    have hdrop : R.1.drop s.length = x :: r := by rw [hI, h]; simp
    have hx := hok x (by rw [h]; simp)
    obtain ⟨p0, p1, q0, q1, r0, r1⟩ := hx
    show taxi_Late.l0 N slack R (k + 1) (pre.length : Int) (s ++ R.1.drop s.length) = _
    have b3 : ∀ (v : Tm), decide ((pre.length : Int) < ((s ++ v :: r).length : Int)) = true := fun v => by rw [decide_eq_true_iff, List.length_append, hI]; simp; omega
    have b4 : ∀ (v : Tm), decide (pre.length < (s ++ v :: r).length) = true := fun v => by rw [decide_eq_true_iff, List.length_append, hI]; simp
    have e1 : w (x.2.2.2 - x.2.2.1) = x.2.2.2 - x.2.2.1 := by rw [w_small] <;> omega
    have e2 : w (x.2.2.2 - x.2.2.1 - slack) = x.2.2.2 - x.2.2.1 - slack := by rw [w_small] <;> omega
    have e3 : w (x.2.1 + (x.2.2.2 - x.2.2.1 - slack)) = x.2.1 + (x.2.2.2 - x.2.2.1 - slack) := by rw [w_small] <;> omega
    have e4 : w (x.2.2.1 + (x.2.2.2 - x.2.2.1 - slack)) = x.2.2.1 + (x.2.2.2 - x.2.2.1 - slack) := by rw [w_small] <;> omega
    have hd2 : R.1.drop (pre.length + 1) = r := by rw [h, ← List.drop_drop]; simp
    have hi : ∀ v : Tm, taxi_Late.l0 N slack R k ((pre.length : Int) + 1) (s ++ v :: r) = some (s ++ v :: r.map (ltM slack), 0) := fun v => by
      have := ih (s ++ [v]) (by simp [hI])
      simp only [List.length_append, List.length_cons, List.length_nil, Nat.zero_add, hI] at this
      rw [hd2, List.append_assoc, List.append_assoc] at this
      exact this
    rw [hdrop, taxi_Late.l0_cons N slack R k _ h (by omega)]
    simp -implicitDefEqProofs only [b3, b4, cond_true, get_at hI, set_at hI, e1, e2, e3, e4]
    rw [hi, hi, List.map_cons]
    unfold ltM
    cases decide (x.2.2.2 - x.2.2.1 - slack > 0) <;> rfl
theorem l4_run {slack : Int} (h0 : 0 ≤ slack) (R3 : List Tm × Int) (a10 D r : List Tm) (k13 : Nat) (hD : D.length ≤ 16) : ∀ (n : Nat) (m : Tm) (k16 : Nat), mvOk m → (m.2.2.2 - m.2.2.1 - slack).toNat = n → m.2.1 + n ≤ 400000 → n < k16 →
    law_TaxiQueues.l4 N slack R3 a10 k13 (D.length : Int) k16 (D ++ m :: r) = law_TaxiQueues.l3 N slack R3 a10 k13 ((D.length : Int) + 1) (D ++ ltM slack m :: r)
  | _, _, 0, _, _, _, hk => by omega
  | n, m, k + 1, hok, hn, hp, hk => by
    obtain ⟨p0, p1, q0, q1, r0, r1⟩ := hok
    have b1 : ∀ v : Tm, (decide (0 ≤ (D.length : Int)) && decide ((D.length : Int) < ((D ++ v :: r).length : Int))) = true := fun v => by rw [List.length_append]; simp; omega
    have b2 : ∀ v : Tm, decide (D.length < (D ++ v :: r).length) = true := fun v => by rw [decide_eq_true_iff, List.length_append]; simp
    have e1 : w (m.2.2.2 - m.2.2.1) = m.2.2.2 - m.2.2.1 := by rw [w_small] <;> omega
    have e2 : w ((D.length : Int) + 1) = (D.length : Int) + 1 := by rw [w_small] <;> omega
    rw [law_TaxiQueues.l4_succ]
    simp -implicitDefEqProofs only [b1, b2, cond_true, Int.toNat_natCast, get_at rfl, set_at rfl, e1, e2]
    by_cases hb : m.2.2.2 - m.2.2.1 > slack
    · have e3 : w (m.2.1 + 1) = m.2.1 + 1 := by rw [w_small] <;> omega
      have e4 : w (m.2.2.1 + 1) = m.2.2.1 + 1 := by rw [w_small] <;> omega
      rw [decide_eq_true hb, cond_true, e3, e4]
      obtain ⟨n', rfl⟩ : ∃ n', n = n' + 1 := ⟨n - 1, by omega⟩
      rw [l4_run h0 R3 a10 D r k13 hD n' (m.1, m.2.1 + 1, m.2.2.1 + 1, m.2.2.2) k ⟨by show 0 ≤ m.2.1 + 1; omega, by show m.2.1 + 1 ≤ 400000; omega, by show 0 ≤ m.2.2.1 + 1; omega, by show m.2.2.1 + 1 ≤ 400000; omega, r0, r1⟩ (by show (m.2.2.2 - (m.2.2.1 + 1) - slack).toNat = n'; omega) (by show m.2.1 + 1 + (n' : Int) ≤ 400000; omega) (by omega)]
      congr 3
      unfold ltM
      rw [show decide (m.2.2.2 - m.2.2.1 - slack > 0) = true by rw [decide_eq_true_iff]; omega, cond_true]
      by_cases hz : m.2.2.2 - (m.2.2.1 + 1) - slack > 0
      · rw [decide_eq_true hz, cond_true]
        exact Prod.ext rfl (Prod.ext (by show m.2.1 + 1 + (m.2.2.2 - (m.2.2.1 + 1) - slack) = m.2.1 + (m.2.2.2 - m.2.2.1 - slack); omega) (Prod.ext (by show m.2.2.1 + 1 + (m.2.2.2 - (m.2.2.1 + 1) - slack) = m.2.2.1 + (m.2.2.2 - m.2.2.1 - slack); omega) rfl))
      · rw [decide_eq_false hz, cond_false]
        exact Prod.ext rfl (Prod.ext (by show m.2.1 + 1 = m.2.1 + (m.2.2.2 - m.2.2.1 - slack); omega) (Prod.ext (by show m.2.2.1 + 1 = m.2.2.1 + (m.2.2.2 - m.2.2.1 - slack); omega) rfl))
    · rw [decide_eq_false hb, cond_false]
      unfold ltM
      rw [show decide (m.2.2.2 - m.2.2.1 - slack > 0) = false by rw [decide_eq_false_iff_not]; omega, cond_false]
theorem l3_v {slack : Int} (h0 : 0 ≤ slack) (R3 : List Tm × Int) (q : List Tm) (hlen : q.length ≤ 16) (hok : ∀ m ∈ q, mvOk m ∧ m.2.1 ≤ 200000 ∧ m.2.2.2 ≤ 200000) :
    law_TaxiQueues.l3 N slack R3 q N 0 q = (bif (R3.2 == 0) then slices_Equal_TaxiMove.fn N (R3.1, q.map (ltM slack)) else some (false)).bind fun r18 => some ((R3.2 == 0) && r18) := by
  have key := list_loop (l := q) (fun k (s : List Tm) i => law_TaxiQueues.l3 N slack R3 q k i (s ++ q.drop s.length)) (fun _ r s => (bif (R3.2 == 0) then slices_Equal_TaxiMove.fn N (R3.1, s ++ r.map (ltM slack)) else some (false)).bind fun r18 => some ((R3.2 == 0) && r18)) (fun p s => s.length = p.length)
    (fun k s hI => ?_) (fun k pre x r s h hI ih => ?_) N [] rfl (by omega)
  · exact key
  · show law_TaxiQueues.l3 N slack R3 q (k + 1) (q.length : Int) (s ++ q.drop s.length) = _
    rw [law_TaxiQueues.l3_nil, hI, List.drop_length]; simp
  · have hlen2 : q.length = pre.length + 1 + r.length := by rw [h]; simp; omega
    have hdrop : q.drop s.length = x :: r := by rw [hI, h]; simp
    obtain ⟨⟨p0, p1, q0, q1, r0, r1⟩, hp2, hl2⟩ := hok x (by rw [h]; simp)
    have hd2 : q.drop (pre.length + 1) = r := by rw [h, ← List.drop_drop]; simp
    show law_TaxiQueues.l3 N slack R3 q (k + 1) (pre.length : Int) (s ++ q.drop s.length) = _
    rw [hdrop, law_TaxiQueues.l3_cons N slack R3 q k _ h (by omega), ← hI]
    rw [l4_run hN h0 R3 q s r k (by omega) (x.2.2.2 - x.2.2.1 - slack).toNat x N ⟨p0, p1, q0, q1, r0, r1⟩ rfl (by omega) (by omega)]
    have := ih (s ++ [ltM slack x]) (by simp [hI])
    simp only [List.length_append, List.length_cons, List.length_nil, Nat.zero_add] at this
    rw [hI, hd2, List.append_assoc, List.append_assoc] at this
    rw [hI]
    exact this
end

/-! ### the laws -/
noncomputable def lateE (N : Nat) (l : List Std) (d : List Ask) (gap slack : Int) : List Tm × Int :=
  bif !((queueE N l d gap).2 == 0) then ([], (queueE N l d gap).2) else bif decide (slack < 0) || decide (slack > 1800) then ([], 4) else ((queueE N l d gap).1.map (ltM slack), 0)
theorem lvs_mem {gap : Int} : ∀ (s : List Tm) (free : Int), ∀ m ∈ lvs gap free s, ∃ m' ∈ s, m.2.1 = m'.2.1 ∧ m.2.2.1 = m'.2.2.1
  | [], _, m, h => by cases h
  | a :: r, free, m, h => by
    rw [lvs_cons] at h
    rcases List.mem_cons.1 h with rfl | h
    · exact ⟨a, by simp, rfl, rfl⟩
    · obtain ⟨m', h1, h2⟩ := lvs_mem r _ m h
      exact ⟨m', by simp [h1], h2⟩
section
variable {N : Nat} (hN : 4611686018427387904 ≤ N)
include hN
theorem queue_ok {l : List Std} {d : List Ask} {gap : Int} (h : (queueE N l d gap).2 = 0) : asksErr l d = 0 ∧ 0 ≤ gap ∧ gap ≤ 1800 ∧ queueE N l d gap = (lvs gap 0 (srt N (d.map (mv l))), 0) ∧ (lvs gap 0 (srt N (d.map (mv l)))).length ≤ 16 ∧
    ∀ m ∈ lvs gap 0 (srt N (d.map (mv l))), mvOk m ∧ m.2.1 ≤ 200000 ∧ m.2.2.2 ≤ 200000 := by
  unfold queueE at h ⊢
  cases he : asksErr l d == 0 with
  | false =>
    rw [he] at h
    have h : asksErr l d = 0 := h
    rw [h] at he; cases he
  | true =>
    have he' := beq_iff_eq.1 he
    obtain ⟨l1, l2, d1, d2, d3⟩ := asksErr_ok he'
    rw [he] at h
    simp only [Bool.not_true, cond_false] at h ⊢
    cases hg : decide (gap < 0) || decide (gap > 1800) with
    | true => rw [hg] at h; cases h
    | false =>
      rw [hg] at h
      simp only [Bool.or_eq_false_iff, decide_eq_false_iff_not] at hg
      simp only [cond_false] at h ⊢
      have hap : (d.map (mv l)).Pairwise fun x y => x.1 ≠ y.1 := by rw [List.pairwise_map]; exact d3
      obtain ⟨s1, s2⟩ := srt_spec hN hap
      rw [qw_val] at h ⊢
      cases ha : (lvs gap 0 (srt N (d.map (mv l)))).any (fun m => decide (m.2.2.2 > 200000)) with
      | true => rw [ha] at h; cases h
      | false =>
        refine ⟨he', by omega, by omega, rfl, by rw [lvs_len, s1.length_eq]; simpa using d1, fun m hm => ?_⟩
        rw [List.any_eq_false] at ha
        have h1 := ha m hm
        have h2 := lvs_ge (by omega : 0 ≤ gap) _ _ m hm
        obtain ⟨m', h3, h4, h5⟩ := lvs_mem _ _ m hm
        have h6 := s1.mem_iff.1 h3
        rw [List.mem_map] at h6
        obtain ⟨x, hx, rfl⟩ := h6
        have h7 := holdT_ok l2 (d2 x hx)
        have h8 := d2 x hx
        have h4 : m.2.1 = x.2.2 := h4
        have h5 : m.2.2.1 = holdT l x := h5
        have h1 : ¬ m.2.2.2 > 200000 := fun e => h1 (decide_eq_true e)
        exact ⟨⟨by omega, by omega, by omega, by omega, by omega, by omega⟩, by omega, by omega⟩
theorem taxi_Late.v (l : List Std) (d : List Ask) (gap slack : Int) (hl : l.length < 4611686018427387904) (hd : d.length < 4611686018427387904) : taxi_Late.fn N (l, d, gap, slack) = some (lateE N l d gap slack) := by
  rw [taxi_Late.clean, taxi_Queue.v hN l d gap hl hd, Option.bind_some]
  unfold lateE
  cases hq : (queueE N l d gap).2 == 0 with
  | false => rfl
  | true =>
    obtain ⟨_, _, _, h1, h2, h3⟩ := queue_ok hN (beq_iff_eq.1 hq)
    simp only [Bool.not_true, cond_false]
    cases hs : decide (slack < 0) || decide (slack > 1800) with
    | true => rfl
    | false =>
      simp only [Bool.or_eq_false_iff, decide_eq_false_iff_not] at hs
      rw [cond_false, cond_false]
      exact late_v hN (by omega) (by omega) (queueE N l d gap) (by rw [h1]; exact h2) (fun m hm => (h3 m (by rw [h1] at hm; exact hm)).1)
theorem eq_self (s : List Tm) (h : s.length ≤ 60) : slices_Equal_TaxiMove.fn N (s, s) = some true := slices_Equal_TaxiMove.self hN s (by omega)
end
abbrev nS : ByteArray := ⟨#[83]⟩
abbrev nA : ByteArray := ⟨#[65]⟩
abbrev nB : ByteArray := ⟨#[66]⟩
abbrev fl : List Std := [(nS, 50)]
abbrev fd : List Ask := [(nB, (nS, 50)), (nA, (nS, 50))]
/-! ### how many wait -/
def wtC (t : Int) (m : Tm) : Bool := decide (m.2.2.1 ≤ t) && decide (t < m.2.2.2)
def wtN (l : List Tm) (t : Int) : Int := (l.countP (wtC t) : Int)
def mostL (l : List Tm) : List Tm → Int → Int → Int × Int
  | [], a, b => (a, b)
  | x :: r, a, b => bif decide (wtN l x.2.2.1 > a) || (((wtN l x.2.2.1 == a) && decide (wtN l x.2.2.1 > 0)) && decide (x.2.2.1 < b)) then mostL l r (wtN l x.2.2.1) x.2.2.1 else mostL l r a b
theorem mostL_cons (l : List Tm) (x : Tm) (r : List Tm) (a b : Int) : mostL l (x :: r) a b = bif decide (wtN l x.2.2.1 > a) || (((wtN l x.2.2.1 == a) && decide (wtN l x.2.2.1 > 0)) && decide (x.2.2.1 < b)) then mostL l r (wtN l x.2.2.1) x.2.2.1 else mostL l r a b := rfl
section
variable {N : Nat} (hN : 4611686018427387904 ≤ N)
include hN
theorem taxi_Waiting.v (l : List Tm) (t : Int) (hl : l.length ≤ 60) : taxi_Waiting.fn N (l, t) = some (wtN l t) := by
  rw [taxi_Waiting.eq]
  have key := list_loop (l := l) (fun k (s : Int) i => taxi_Waiting.l0 N l t k s i) (fun _ r s => some (s + wtN r t)) (fun p s => 0 ≤ s ∧ s ≤ (p.length : Int))
    (fun k s _ => by show taxi_Waiting.l0 N l t (k + 1) s (l.length : Int) = _; rw [taxi_Waiting.l0_nil]; simp [wtN]) (fun k pre x r s h hI ih => ?_) N 0 ⟨by omega, by simp⟩ (by omega)
  · rw [key, Int.zero_add]
  · have hlen : l.length = pre.length + 1 + r.length := by rw [h]; simp; omega
    show taxi_Waiting.l0 N l t (k + 1) s (pre.length : Int) = _
    have hw : w (s + 1) = s + 1 := by rw [w_small] <;> omega
    rw [taxi_Waiting.l0_cons N l t k s h (by omega), hw]
    have hc : wtN (x :: r) t = wtN r t + (bif wtC t x then 1 else 0) := by
      unfold wtN
      rw [List.countP_cons]
      cases wtC t x <;> simp
    rw [hc]
    show (bif wtC t x then _ else _) = _
    cases wtC t x with
    | true => rw [cond_true, cond_true, ih (s + 1) ⟨by omega, by simp; omega⟩]; congr 1; omega
    | false => rw [cond_false, cond_false, ih s ⟨by omega, by simp; omega⟩, Int.add_zero]
theorem law_count.v (l : List Tm) (t : Int) (hl : l.length ≤ 60) : law_TaxiWaits_1.fn N (t, l) = some (wtN l t) := by
  rw [law_TaxiWaits_1.eq]
  have key := list_loop (l := l) (fun k (s : Int) i => law_TaxiWaits_1.l0 N t l k s i) (fun _ r s => some (s + wtN r t)) (fun p s => 0 ≤ s ∧ s ≤ (p.length : Int))
    (fun k s _ => by show law_TaxiWaits_1.l0 N t l (k + 1) s (l.length : Int) = _; rw [law_TaxiWaits_1.l0_nil]; simp [wtN]) (fun k pre x r s h hI ih => ?_) N 0 ⟨by omega, by simp⟩ (by omega)
  · rw [key, Int.zero_add]
  · have hlen : l.length = pre.length + 1 + r.length := by rw [h]; simp; omega
    show law_TaxiWaits_1.l0 N t l (k + 1) s (pre.length : Int) = _
    have hw : w (s + 1) = s + 1 := by rw [w_small] <;> omega
    rw [law_TaxiWaits_1.l0_cons N t l k s h (by omega), hw]
    have hc : wtN (x :: r) t = wtN r t + (bif wtC t x then 1 else 0) := by
      unfold wtN
      rw [List.countP_cons]
      cases wtC t x <;> simp
    rw [hc]
    show (bif wtC t x then _ else _) = _
    cases wtC t x with
    | true => rw [cond_true, cond_true, ih (s + 1) ⟨by omega, by simp; omega⟩]; congr 1; omega
    | false => rw [cond_false, cond_false, ih s ⟨by omega, by simp; omega⟩, Int.add_zero]
theorem taxi_Most.v (l : List Tm) (hl : l.length ≤ 60) : taxi_Most.fn N l = some (mostL l l 0 0) := by
  rw [taxi_Most.eq]
  refine list_loop (l := l) (fun k (s : Int × Int) i => taxi_Most.l0 N l k s.1 s.2 i) (fun _ r s => some (mostL l r s.1 s.2)) (fun _ _ => True)
    (fun k s _ => taxi_Most.l0_nil N l k s.1 s.2) (fun k pre x r s h _ ih => ?_) N (0, 0) trivial (by omega)
  show taxi_Most.l0 N l (k + 1) s.1 s.2 (pre.length : Int) = _
  rw [taxi_Most.l0_cons N l k s.1 s.2 h (by omega), taxi_Waiting.v hN l _ hl, Option.bind_some, mostL_cons]
  have i1 := ih (wtN l x.2.2.1, x.2.2.1) trivial
  have i2 := ih s trivial
  cases decide (wtN l x.2.2.1 > s.1) || (((wtN l x.2.2.1 == s.1) && decide (wtN l x.2.2.1 > 0)) && decide (x.2.2.1 < s.2)) with
  | true => exact i1
  | false => exact i2
theorem srt_eq {l s : List Tm} (ap : l.Pairwise fun x y => x.1 ≠ y.1) (hp : s.Perm l) (hs : s.Pairwise fun x y => tf x y = true) : srt N l = s :=
  sorted_one tf_ok ((srt_spec hN ap).1.trans hp.symm) (srt_spec hN ap).2 hs
theorem law_taxiFact.v : law_taxiFact.fn N () = some true := by
  have hs : srt N (fd.map (mv fl)) = [(nA, (50, (100, 0))), (nB, (50, (100, 0)))] :=
    srt_eq hN (by simp [mv]) (List.Perm.swap ..) (by simp; decide)
  have hq : queueE N fl fd 60 = ([(nA, (50, (100, 100))), (nB, (50, (100, 160)))], 0) := by unfold queueE; rw [hs]; rfl
  have hlt : lateE N fl fd 60 20 = ([(nA, (50, (100, 100))), (nB, (90, (140, 160)))], 0) := by unfold lateE; rw [hq]; rfl
  have e1 : taxi_Queue.fn N (fl, fd, 60) = some ([(nA, (50, (100, 100))), (nB, (50, (100, 160)))], 0) := (taxi_Queue.v hN fl fd 60 (by simp) (by simp)).trans (congrArg some hq)
  have e2 : taxi_Late.fn N (fl, fd, 60, 20) = some ([(nA, (50, (100, 100))), (nB, (90, (140, 160)))], 0) := (taxi_Late.v hN fl fd 60 20 (by simp) (by simp)).trans (congrArg some hlt)
  have e3 : taxi_Most.fn N [(nA, (50, (100, 100))), (nB, (50, (100, 160)))] = some (1, 100) := taxi_Most.v hN _ (by simp)
  have e4 := eq_self hN [(nA, ((50 : Int), ((100 : Int), (100 : Int)))), (nB, (50, (100, 160)))] (by simp)
  have e5 : taxi_Waiting.fn N ([(nA, (50, (100, 100))), (nB, (50, (100, 160)))], 120) = some 1 := taxi_Waiting.v hN _ _ (by simp)
  have e6 : taxi_Stands.fn N [(nS, 50), (nS, 50)] = some 7 := taxi_Stands.v hN _ (by simp)
  have e7 : taxi_Check.fn N (fl, [(nB, (nS, 50)), (nA, (nS, 50)), (nB, (nS, 50)), (nA, (nS, 50))]) = some 7 := taxi_Check.v hN _ _ (by simp) (by simp)
  rw [law_taxiFact.eq, e1, Option.bind_some, e2, Option.bind_some, e3, Option.bind_some]
  simp -implicitDefEqProofs only [beq_self_eq_true, cond_true, e4, Option.bind_some]
  rw [e5, Option.bind_some, e6, Option.bind_some, e7, Option.bind_some]
  rfl
theorem TaxiWaits.pureN (l : List Tm) (t : Int) (hl : l.length < 4611686018427387904) : law_TaxiWaits.fn N (l, t) = some true := by
  rw [law_TaxiWaits.eq, law_taxiFact.v hN, Option.bind_some]
  simp only [Bool.not_true, cond_false]
  by_cases h60 : (l.length : Int) > 60
  · simp [h60]
  simp only [h60, decide_false, cond_false]
  have hl60 : l.length ≤ 60 := by omega
  refine list_loop (l := l) (fun k (s : Int × Int) i => law_TaxiWaits.l0 N l t k s.1 s.2 i) (fun _ r s => some ((((mostL l l 0 0).1 == (mostL l r s.1 s.2).1) && ((mostL l l 0 0).2 == (mostL l r s.1 s.2).2)))) (fun _ _ => True)
    (fun k s _ => ?_) (fun k pre x r s h _ ih => ?_) N (0, 0) trivial (by omega) |>.trans ?_
  · show law_TaxiWaits.l0 N l t (k + 1) s.1 s.2 (l.length : Int) = _
    rw [law_TaxiWaits.l0_nil, taxi_Most.v hN l hl60, Option.bind_some, taxi_Waiting.v hN l t hl60, law_count.v hN l t hl60]
    show _ = some (((mostL l l 0 0).1 == s.1) && ((mostL l l 0 0).2 == s.2))
    cases ((mostL l l 0 0).1 == s.1) && ((mostL l l 0 0).2 == s.2) with
    | true => simp
    | false => simp
  · show law_TaxiWaits.l0 N l t (k + 1) s.1 s.2 (pre.length : Int) = _
    rw [law_TaxiWaits.l0_cons N l t k s.1 s.2 h (by omega), law_count.v hN l _ hl60, Option.bind_some, mostL_cons]
    have i1 := ih (wtN l x.2.2.1, x.2.2.1) trivial
    have i2 := ih s trivial
    cases decide (wtN l x.2.2.1 > s.1) || (((wtN l x.2.2.1 == s.1) && decide (wtN l x.2.2.1 > 0)) && decide (x.2.2.1 < s.2)) with
    | true => exact i1
    | false => exact i2
  · simp
theorem j1_end {slack : Int} {Q : List Tm} {e : Int} {R3 : List Tm × Int} (hQ : Q.length ≤ 60) (h : law_TaxiQueues.j2 N slack R3 Q (bif (e == 0) && (decide (slack < 0) || decide (slack > 1800)) then 4 else e) = some true) : law_TaxiQueues.j1 N slack (Q, e) R3 e Q = some true := by
  obtain ⟨M, hM⟩ : ∃ M, N = M + 1 := ⟨N - 1, by omega⟩
  rw [law_TaxiQueues.j1_clean (hM := hM)]
  simp -implicitDefEqProofs only [beq_self_eq_true, Bool.not_true, Bool.not_false, cond_true, eq_self hN Q hQ, Option.bind_some, Bool.or_self, cond_false]
  cases hb : (e == 0) && (decide (slack < 0) || decide (slack > 1800)) with
  | true => rw [hb] at h; exact h
  | false => rw [hb] at h; exact h
theorem j2_err {slack : Int} {Q : List Tm} {e : Int} (he : (e == 0) = false) : law_TaxiQueues.j2 N slack ([], e) Q e = some true := by
  obtain ⟨M, hM⟩ : ∃ M, N = M + 1 := ⟨N - 1, by omega⟩
  rw [law_TaxiQueues.j2_clean (hM := hM), he]
  simp
theorem TaxiQueues.pureN (l : List Std) (d : List Ask) (gap slack : Int) (hl : l.length < 4611686018427387904) (hd : d.length < 4611686018427387904) : law_TaxiQueues.fn N (l, d, gap, slack) = some true := by
  obtain ⟨M, hM⟩ : ∃ M, N = M + 1 := ⟨N - 1, by omega⟩
  rw [law_TaxiQueues.clean, law_taxiFact.v hN, Option.bind_some, taxi_Queue.v hN l d gap hl hd, Option.bind_some, taxi_Late.v hN l d gap slack hl hd, Option.bind_some, ref_AsksError.v hN l d hl hd, Option.bind_some, taxi_Stands.v hN l hl, Option.bind_some, ref_StandsError.v hN l hl, Option.bind_some, taxi_Check.v hN l d hl hd]
  simp -implicitDefEqProofs only [beq_self_eq_true, Bool.not_true, Bool.not_false, cond_true, cond_false, Option.bind_some, Bool.or_self]
  cases he : asksErr l d == 0 with
  | false =>
    have hq : queueE N l d gap = ([], asksErr l d) := by unfold queueE; rw [he]; rfl
    have hL : lateE N l d gap slack = ([], asksErr l d) := by unfold lateE; rw [hq]; show (bif !(asksErr l d == 0) then _ else _) = _; rw [he]; rfl
    rw [Bool.false_and, cond_false, hq, hL, law_TaxiQueues.j0_clean (hM := hM), he, cond_false]
    refine j1_end hN (by simp) ?_
    rw [he, Bool.false_and, cond_false]
    exact j2_err hN he
  | true =>
    rw [Bool.true_and]
    cases hg : decide (gap < 0) || decide (gap > 1800) with
    | true =>
      have hq : queueE N l d gap = ([], 4) := by unfold queueE; rw [he, hg]; rfl
      have hL : lateE N l d gap slack = ([], 4) := by unfold lateE; rw [hq]; rfl
      rw [cond_true, hq, hL, law_TaxiQueues.j0_clean (hM := hM), show ((4 : Int) == 0) = false from rfl, cond_false]
      exact j1_end hN (by simp) (j2_err hN rfl)
    | false =>
      have hg' := hg
      simp only [Bool.or_eq_false_iff, decide_eq_false_iff_not] at hg'
      have he' := beq_iff_eq.1 he
      obtain ⟨l1, l2, d1, d2, d3⟩ := asksErr_ok he'
      have hq : queueE N l d gap = qw gap [] 0 (srt N (d.map (mv l))) := by unfold queueE; rw [he, hg]; rfl
      rw [qw_val] at hq
      have hap : (d.map (mv l)).Pairwise fun x y => x.1 ≠ y.1 := by rw [List.pairwise_map]; exact d3
      obtain ⟨s1, s2⟩ := srt_spec hN hap
      have hlen : (lvs gap 0 (srt N (d.map (mv l)))).length = (srt N (d.map (mv l))).length := lvs_len _ _ _
      have hle : (srt N (d.map (mv l))).length ≤ 16 := by rw [s1.length_eq]; simpa using d1
      rw [cond_false, law_TaxiQueues.j0_clean (hM := hM), he, cond_true, ref_Queued.v hN he' (by omega) (by omega), Option.bind_some]
      have hlast : (decide (((lvs gap 0 (srt N (d.map (mv l)))).length : Int) > 0) && decide ((((lvs gap 0 (srt N (d.map (mv l)))).getD (w (((lvs gap 0 (srt N (d.map (mv l)))).length : Int) - 1)).toNat m0).2.2.2) > 200000)) = (lvs gap 0 (srt N (d.map (mv l)))).any (fun m => decide (m.2.2.2 > 200000)) := by
        by_cases hn : srt N (d.map (mv l)) = []
        · rw [hn]; rfl
        · have hpos : 0 < (srt N (d.map (mv l))).length := List.length_pos_iff.2 hn
          rw [lvs_last (by omega) _ _ hn, hlen, show decide (((srt N (d.map (mv l))).length : Int) > 0) = true by rw [decide_eq_true_iff]; omega, Bool.true_and,
            show (w (((srt N (d.map (mv l))).length : Int) - 1)).toNat = (srt N (d.map (mv l))).length - 1 by rw [w_small] <;> omega]
      have c1 : (((decide (0 ≤ (w (((lvs gap 0 (srt N (d.map (mv l)))).length : Int) - 1)))) && (decide ((w (((lvs gap 0 (srt N (d.map (mv l)))).length : Int) - 1)) < ((lvs gap 0 (srt N (d.map (mv l)))).length : Int)))) || !(decide (((lvs gap 0 (srt N (d.map (mv l)))).length : Int) > 0))) = true := by
        rw [hlen]
        by_cases hn : (srt N (d.map (mv l))).length = 0
        · rw [hn]; rfl
        · rw [w_small _ (by omega) (by omega)]; simp; omega
      have c2 : ((decide ((Int.toNat (w (((lvs gap 0 (srt N (d.map (mv l)))).length : Int) - 1))) < (lvs gap 0 (srt N (d.map (mv l)))).length)) || !(decide (((lvs gap 0 (srt N (d.map (mv l)))).length : Int) > 0))) = true := by
        rw [hlen]
        by_cases hn : (srt N (d.map (mv l))).length = 0
        · rw [hn]; rfl
        · rw [w_small _ (by omega) (by omega)]; simp; omega
      rw [c1, cond_true, c2, cond_true, hlast]
      cases ha : (lvs gap 0 (srt N (d.map (mv l)))).any (fun m => decide (m.2.2.2 > 200000)) with
      | true =>
        rw [ha, cond_true] at hq
        have hL : lateE N l d gap slack = ([], 12) := by unfold lateE; rw [hq]; rfl
        rw [cond_true, hq, hL]
        exact j1_end hN (by simp) (j2_err hN rfl)
      | false =>
        rw [ha, cond_false, List.nil_append] at hq
        rw [cond_false, he', hq]
        refine j1_end hN (by omega) ?_
        rw [show ((0 : Int) == 0) = true from rfl, Bool.true_and]
        cases hsl : decide (slack < 0) || decide (slack > 1800) with
        | true =>
          have hL : lateE N l d gap slack = ([], 4) := by unfold lateE; rw [hq, hsl]; rfl
          rw [cond_true, hL]
          exact j2_err hN rfl
        | false =>
          have hL : lateE N l d gap slack = ((lvs gap 0 (srt N (d.map (mv l)))).map (ltM slack), 0) := by unfold lateE; rw [hq, hsl]; rfl
          simp only [Bool.or_eq_false_iff, decide_eq_false_iff_not] at hsl
          obtain ⟨_, _, _, _, h2, h3⟩ := queue_ok (gap := gap) hN (by rw [hq] : (queueE N l d gap).2 = 0)
          rw [cond_false, hL, law_TaxiQueues.j2_clean (hM := hM), show ((0 : Int) == 0) = true from rfl, Bool.not_true, cond_false, l3_v hN (by omega) _ _ (by omega) h3]
          simp only [beq_self_eq_true, cond_true]
          rw [eq_self hN _ (by simp; omega)]
          rfl
end
theorem bytesS : Try.prog.bytesOf 133 = 24 := by kernel_rfl
theorem bytesK : Try.prog.bytesOf 135 = 40 := by kernel_rfl
theorem bytesT : Try.prog.bytesOf 76 = 40 := by kernel_rfl
theorem std_len {l : List Std} (h : Wf Try.prog (.sl 133 (.pair (.str) (.int .i64))) l) : l.length < 4611686018427387904 := by
  have := h.1
  rw [bytesS] at this
  simp -implicitDefEqProofs [reachBytes] at this
  omega
theorem ask_len {l : List Ask} (h : Wf Try.prog (.sl 135 (.pair (.str) (.pair (.str) (.int .i64)))) l) : l.length < 4611686018427387904 := by
  have := h.1
  rw [bytesK] at this
  simp -implicitDefEqProofs [reachBytes] at this
  omega
theorem tm_len {l : List Tm} (h : Wf Try.prog (.sl 76 (.pair (.str) (.pair (.int .i64) (.pair (.int .i64) (.int .i64))))) l) : l.length < 4611686018427387904 := by
  have := h.1
  rw [bytesT] at this
  simp -implicitDefEqProofs [reachBytes] at this
  omega
theorem TaxiQueues.pure (x0 : List Std) (x1 : List Ask) (x2 x3 : Int) (h0 : Wf Try.prog (.sl 133 (.pair (.str) (.int .i64))) x0) (h1 : Wf Try.prog (.sl 135 (.pair (.str) (.pair (.str) (.int .i64)))) x1) (h2 : Wf Try.prog (.int .i64) x2) (h3 : Wf Try.prog (.int .i64) x3) : law_TaxiQueues.fn NN (x0, x1, x2, x3) = some true :=
  TaxiQueues.pureN NN_big x0 x1 x2 x3 (std_len h0) (ask_len h1)
theorem TaxiWaits.pure (x0 : List Tm) (x1 : Int) (h0 : Wf Try.prog (.sl 76 (.pair (.str) (.pair (.int .i64) (.pair (.int .i64) (.int .i64))))) x0) (h1 : Wf Try.prog (.int .i64) x1) : law_TaxiWaits.fn NN (x0, x1) = some true :=
  TaxiWaits.pureN NN_big x0 x1 (tm_len h0)
end Go.Proofs.Ytmaeakelhjmfeaa.Sk
