/- The laws SlotAssigns, SlotDelays, SlotReleases, plain: what the printed functions answer. -/
import Derived.Test.YtmaeakelhjmfeaaSlotEq
set_option linter.unusedVariables false
set_option linter.unusedSimpArgs false
set_option linter.unusedSectionVars false
set_option maxRecDepth 100000
namespace Go.Proofs.Ytmaeakelhjmfeaa.Sk
open Go

theorem bif_some {α : Type} (b : Bool) (x y : α) : (bif b then some x else some y) = some (bif b then x else y) := by cases b <;> rfl
/-! ### names -/
def nameCh (c : UInt8) : Bool := !(((decide (((c.toNat : Nat) : Int) < 65)) || (decide (((c.toNat : Nat) : Int) > 90))) && ((decide (((c.toNat : Nat) : Int) < 48)) || (decide (((c.toNat : Nat) : Int) > 57))))
def isNameL : List UInt8 → Bool
  | [] => false
  | b :: r => bif decide (r.length + 1 > 8) then false else bif decide (((b.toNat : Nat) : Int) < 65) || decide (((b.toNat : Nat) : Int) > 90) then false else (b :: r).all nameCh
def isName (s : ByteArray) : Bool := isNameL s.data.toList
theorem size_list (s : ByteArray) : s.size = s.data.toList.length := by rw [ByteArray.size, Array.length_toList]

section
variable {N : Nat} (hN : 4611686018427387904 ≤ N)
include hN
theorem chart_Name.v (s : ByteArray) : chart_Name.fn N s = some (isName s) := by
  rw [chart_Name.clean]
  unfold isName
  have hsz := size_list s
  cases h : s.data.toList with
  | nil =>
    rw [h] at hsz
    have hsz : s.size = 0 := hsz
    simp [hsz, isNameL]
  | cons b r =>
    rw [h] at hsz
    have hsz : s.size = r.length + 1 := by simpa using hsz
    have g : (ByteArray.data s).getD 0 0 = b := getD_bytes (pre := []) (r := r) h
    have c1 : decide (0 < (s.size : Int)) = true := by rw [decide_eq_true_iff]; omega
    have c2 : ((s.size : Int) == 0) = false := by rw [beq_eq_false_iff_ne]; omega
    have c3 : decide ((s.size : Int) > 8) = decide (r.length + 1 > 8) := by rw [decide_eq_decide]; omega
    simp only [g, c1, c2, c3, Bool.true_or, cond_true, Bool.false_or, isNameL]
    by_cases h8 : r.length + 1 > 8
    · simp [h8]
    have h8' : decide (r.length + 1 > 8) = false := decide_eq_false h8
    simp only [h8', Bool.false_or, cond_false]
    have hl := scan_list (l := s.data.toList) (fun c => !nameCh c) (some false) (some true) (fun k i => chart_Name.l0 N s k i)
      (fun k => by show chart_Name.l0 N s (k + 1) (s.data.toList.length : Int) = _; rw [← size_list s]; exact chart_Name.l0_nil N s k)
      (fun k pre x r' h' => by show chart_Name.l0 N s (k + 1) (pre.length : Int) = _; rw [chart_Name.l0_cons N s k h' (by omega)]; simp [nameCh]) N (by rw [h]; simp; omega)
    rw [hl, h]
    cases (decide (((b.toNat : Nat) : Int) < 65) || decide (((b.toNat : Nat) : Int) > 90)) with
    | true => rfl
    | false =>
      rw [cond_false, cond_false, ← List.not_all_eq_any_not]
      cases ((b :: r).all nameCh) <;> rfl
theorem ref_IsName.v (s : ByteArray) : ref_IsName.fn N s = some (isName s) := by
  rw [ref_IsName.clean]
  unfold isName
  have hsz := size_list s
  cases h : s.data.toList with
  | nil =>
    rw [h] at hsz
    have hsz : s.size = 0 := hsz
    have : s = ⟨#[]⟩ := by cases s with | mk a => congr 1; exact Array.ext' h
    subst this
    simp [isNameL, seq]
  | cons b r =>
    rw [h] at hsz
    have hsz : s.size = r.length + 1 := by simpa using hsz
    have g : (ByteArray.data s).getD 0 0 = b := getD_bytes (pre := []) (r := r) h
    have c1 : decide (0 < (s.size : Int)) = true := by rw [decide_eq_true_iff]; omega
    have c2 : seq s (⟨#[]⟩ : ByteArray) = false := by unfold seq; rw [h]; rfl
    have c3 : decide ((s.size : Int) > 8) = decide (r.length + 1 > 8) := by rw [decide_eq_decide]; omega
    simp only [g, c1, c2, c3, Bool.true_or, cond_true, Bool.false_or, isNameL]
    by_cases h8 : r.length + 1 > 8
    · simp [h8]
    have h8' : decide (r.length + 1 > 8) = false := decide_eq_false h8
    simp only [h8', Bool.false_or, cond_false]
    have hl := scan_list (l := s.data.toList) (fun c => !nameCh c) (some false) (some true) (fun k i => ref_IsName.l0 N s k i)
      (fun k => by show ref_IsName.l0 N s (k + 1) (s.data.toList.length : Int) = _; rw [← size_list s]; exact ref_IsName.l0_nil N s k)
      (fun k pre x r' h' => by show ref_IsName.l0 N s (k + 1) (pre.length : Int) = _; rw [ref_IsName.l0_cons N s k h' (by omega)]; simp [nameCh]) N (by rw [h]; simp; omega)
    rw [hl, h]
    have hb : (b :: r).any (fun c => !nameCh c) = !((b :: r).all nameCh) := List.not_all_eq_any_not.symm
    rw [hb]
    by_cases q1 : ((b.toNat : Nat) : Int) < 65
    · by_cases q2 : ((b.toNat : Nat) : Int) < 48
      · have : nameCh b = false := by simp [nameCh]; omega
        simp [q1, this, show ¬ 48 ≤ b.toNat by omega]
      · by_cases q3 : ((b.toNat : Nat) : Int) > 57
        · have : nameCh b = false := by simp [nameCh]; omega
          simp [q1, this, show ¬ b.toNat ≤ 57 by omega]
        · simp [q1, show (48 : Int) ≤ b.toNat by omega, show (b.toNat : Int) ≤ 57 by omega]
    · by_cases q2 : ((b.toNat : Nat) : Int) > 90
      · have : nameCh b = false := by simp [nameCh]; omega
        simp [q2, this, show ¬ b.toNat ≤ 57 by omega]
      · simp only [q1, q2, decide_false, Bool.or_false, cond_false, show decide (((b.toNat : Nat) : Int) ≤ 57) = false by rw [decide_eq_false_iff_not]; omega, Bool.and_false]
        cases ((b :: r).all nameCh) <;> rfl
theorem slot_Name.v (s : ByteArray) : slot_Name.fn N s = some (isName s) := by
  rw [slot_Name.eq, owner_Name.eq, sector_Name.eq, chart_Name.v hN]; rfl
end

/-! ### the order of the names -/
theorem blt_irrefl : ∀ a : List UInt8, Op.bytesLess a a = false
  | [] => rfl
  | x :: a => by simp [Op.bytesLess, blt_irrefl a, UInt8.lt_irrefl]
theorem blt_trans : ∀ {a b c : List UInt8}, Op.bytesLess a b = true → Op.bytesLess b c = true → Op.bytesLess a c = true
  | _, [], _, h, _ => by simp [Op.bytesLess] at h
  | _, _ :: _, [], _, h => by simp [Op.bytesLess] at h
  | [], _ :: _, _ :: _, _, _ => rfl
  | x :: a, y :: b, z :: c, h1, h2 => by
    simp only [Op.bytesLess, Bool.or_eq_true, Bool.and_eq_true, decide_eq_true_iff, beq_iff_eq] at h1 h2 ⊢
    rcases h1 with h1 | ⟨rfl, h1⟩
    · rcases h2 with h2 | ⟨rfl, h2⟩
      · exact .inl (UInt8.lt_trans h1 h2)
      · exact .inl h1
    · rcases h2 with h2 | ⟨rfl, h2⟩
      · exact .inl h2
      · exact .inr ⟨rfl, blt_trans h1 h2⟩
theorem blt_tri : ∀ {a b : List UInt8}, Op.bytesLess a b = false → Op.bytesLess b a = false → a = b
  | [], [], _, _ => rfl
  | [], _ :: _, h, _ => by simp [Op.bytesLess] at h
  | _ :: _, [], _, h => by simp [Op.bytesLess] at h
  | x :: a, y :: b, h1, h2 => by
    simp only [Op.bytesLess, Bool.or_eq_false_iff, Bool.and_eq_false_iff, decide_eq_false_iff_not, beq_eq_false_iff_ne] at h1 h2
    have he : x = y := UInt8.le_antisymm (UInt8.not_lt.1 h2.1) (UInt8.not_lt.1 h1.1)
    subst he
    rw [blt_tri (a := a) (b := b) (by simpa using h1.2) (by simpa using h2.2)]
theorem ba_ext {a b : ByteArray} (h : a.data.toList = b.data.toList) : a = b := by
  cases a; cases b; congr 1; exact Array.ext' h
theorem sq_iff {a b : ByteArray} : seq a b = true ↔ a = b := ⟨fun h => ba_ext (beq_iff_eq.1 h), fun h => by subst h; exact beq_self_eq_true _⟩
theorem seq_ff {a b : ByteArray} : seq a b = false ↔ a ≠ b := by
  cases h : seq a b with
  | true => simp [sq_iff.1 h]
  | false => simp; intro e; rw [sq_iff.2 e] at h; cases h
theorem slt_irrefl (a : ByteArray) : slt a a = false := blt_irrefl _
theorem slt_trans {a b c : ByteArray} (h1 : slt a b = true) (h2 : slt b c = true) : slt a c = true := blt_trans h1 h2
theorem slt_tri {a b : ByteArray} (h1 : slt a b = false) (h2 : slt b a = false) : a = b := ba_ext (blt_tri h1 h2)
theorem slt_ne {a b : ByteArray} (h : slt a b = true) : a ≠ b := by intro e; subst e; rw [slt_irrefl] at h; cases h
theorem slt_asymm {a b : ByteArray} (h : slt a b = true) : slt b a = false := by
  cases h2 : slt b a with
  | false => rfl
  | true => have := slt_trans h h2; rw [slt_irrefl] at this; cases this
/-- a, not before b, and b before c: so a is behind... -/
theorem slt_le_trans {a b c : ByteArray} (h1 : slt b a = false) (h2 : slt b c = true) (h3 : slt c a = true) : False := by
  rw [slt_trans h2 h3] at h1; cases h1


/-! ### sorting -/
section
variable {α : Type} {F : α → α → Option Int} {lt : α → α → Bool}
structure LtOk (lt : α → α → Bool) : Prop where
  irr : ∀ x, lt x x = false
  tr : ∀ {x y z}, lt x y = true → lt y z = true → lt x z = true
  ntr : ∀ {x y z}, lt x y = false → lt y z = false → lt x z = false
theorem LtOk.asym (h : LtOk lt) {x y : α} (h1 : lt x y = true) : lt y x = false := by
  cases h2 : lt y x with
  | false => rfl
  | true => have := h.tr h1 h2; rw [h.irr] at this; cases this
theorem ltZ_eq {x y : α} (hF : ∃ z, F x y = some z ∧ decide (z < 0) = lt x y) : ltZ (F x y) = lt x y := by
  obtain ⟨z, h1, h2⟩ := hF
  rw [h1, ← h2]; rfl
theorem apartL_of {l : List α} (hF : ∀ x y, ∃ z, F x y = some z ∧ decide (z < 0) = lt x y) (ap : l.Pairwise fun x y => (lt x y || lt y x) = true) : apartL F l = true := by
  induction l with
  | nil => rfl
  | cons a r ih =>
    simp only [apartL, Bool.and_eq_true, List.all_eq_true]
    refine ⟨fun y hy => ?_, ih (List.Pairwise.of_cons ap)⟩
    rw [ltZ_eq (hF _ _), ltZ_eq (hF _ _)]
    exact List.rel_of_pairwise_cons ap hy
theorem sortOk_of {l : List α} (hlen : l.length < 4611686018427387904) (hF : ∀ x y, ∃ z, F x y = some z ∧ decide (z < 0) = lt x y) (ho : LtOk lt) (ap : l.Pairwise fun x y => (lt x y || lt y x) = true) : sortOk F l = true := by
  unfold sortOk
  simp only [Bool.and_eq_true, List.all_eq_true, decide_eq_true_eq]
  refine ⟨⟨⟨⟨⟨hlen, fun x _ y _ => ?_⟩, fun x _ => ?_⟩, fun x _ y _ z _ => ?_⟩, fun x _ y _ z _ => ?_⟩, apartL_of hF ap⟩
  · obtain ⟨z, h1, _⟩ := hF x y; rw [h1]; rfl
  · rw [ltZ_eq (hF _ _), ho.irr]; rfl
  · rw [ltZ_eq (hF _ _), ltZ_eq (hF _ _), ltZ_eq (hF _ _)]
    cases h1 : lt x y with
    | false => rfl
    | true =>
      cases h2 : lt y z with
      | false => rfl
      | true => rw [ho.tr h1 h2]; rfl
  · rw [ltZ_eq (hF _ _), ltZ_eq (hF _ _), ltZ_eq (hF _ _)]
    cases h1 : lt x y with
    | true => rfl
    | false =>
      cases h2 : lt y z with
      | true => rfl
      | false => rw [ho.ntr h1 h2]; rfl
theorem sortL_perm (l : List α) : (sortL F l).Perm l := List.mergeSort_perm _ _
theorem sortL_sorted {l : List α} (hF : ∀ x y, ∃ z, F x y = some z ∧ decide (z < 0) = lt x y) (ho : LtOk lt) (ap : l.Pairwise fun x y => (lt x y || lt y x) = true) : (sortL F l).Pairwise fun x y => lt x y = true := by
  have h1 : (sortL F l).Pairwise fun x y => (!lt y x) = true := by
    have := List.pairwise_mergeSort (le := fun x y => !ltZ (F y x)) (fun a b c h1 h2 => by
      rw [ltZ_eq (hF _ _)] at h1 h2 ⊢
      simp only [Bool.not_eq_true'] at h1 h2 ⊢
      exact ho.ntr h2 h1) (fun a b => by
      rw [ltZ_eq (hF _ _), ltZ_eq (hF _ _)]
      cases h : lt b a with
      | false => rfl
      | true => rw [ho.asym h]; rfl) l
    exact this.imp fun {a b} h => by rw [ltZ_eq (hF _ _)] at h; exact h
  have h2 : (sortL F l).Pairwise fun x y => (lt x y || lt y x) = true := (List.Perm.pairwise_iff (fun {x y} h => by rw [Bool.or_comm]; exact h) (sortL_perm l)).2 ap
  refine (h1.and h2).imp fun {a b} h => ?_
  have h3 := h.1
  have h4 := h.2
  simp only [Bool.not_eq_true'] at h3
  rw [h3, Bool.or_false] at h4
  exact h4
theorem sorted_one (ho : LtOk lt) {l m : List α} (hp : l.Perm m) (h1 : l.Pairwise fun x y => lt x y = true) (h2 : m.Pairwise fun x y => lt x y = true) : l = m :=
  List.Perm.eq_of_pairwise (le := fun x y => lt x y = true) (fun a b _ _ h h' => by rw [ho.asym h] at h'; cases h') h1 h2 hp
end

/-! ### demands -/
abbrev Dem := ByteArray × Int
abbrev nop : ByteArray := ⟨#[]⟩
def bf (p q : Dem) : Bool := decide (p.2 < q.2) || (p.2 == q.2 && slt p.1 q.1)
theorem bf_iff {p q : Dem} : bf p q = true ↔ p.2 < q.2 ∨ (p.2 = q.2 ∧ slt p.1 q.1 = true) := by
  unfold bf
  rw [Bool.or_eq_true, Bool.and_eq_true, decide_eq_true_iff, beq_iff_eq]
theorem slt_ntrans {a b c : ByteArray} (h1 : slt a b = false) (h2 : slt b c = false) : slt a c = false := by
  cases h : slt a c with
  | false => rfl
  | true =>
    cases h3 : slt b a with
    | true => rw [slt_trans h3 h] at h2; cases h2
    | false => have := slt_tri h1 h3; subst this; rw [h] at h2; cases h2
theorem bf_ff {p q : Dem} : bf p q = false ↔ q.2 < p.2 ∨ (p.2 = q.2 ∧ slt p.1 q.1 = false) := by
  cases h : bf p q with
  | true =>
    have := bf_iff.1 h
    refine ⟨fun h => (by cases h), fun h2 => ?_⟩
    rcases this with h1 | ⟨h1, h3⟩
    · rcases h2 with h2 | ⟨h2, _⟩ <;> omega
    · rcases h2 with h2 | ⟨_, h4⟩
      · omega
      · rw [h3] at h4; cases h4
  | false =>
    refine ⟨fun _ => ?_, fun _ => rfl⟩
    rcases Int.lt_trichotomy p.2 q.2 with h1 | h1 | h1
    · rw [bf_iff.2 (.inl h1)] at h; cases h
    · cases h2 : slt p.1 q.1 with
      | true => rw [bf_iff.2 (.inr ⟨h1, h2⟩)] at h; cases h
      | false => exact .inr ⟨h1, rfl⟩
    · exact .inl h1
theorem bf_ok : LtOk bf := by
  refine ⟨fun x => ?_, fun {x y z} h1 h2 => ?_, fun {x y z} h1 h2 => ?_⟩
  · exact bf_ff.2 (.inr ⟨rfl, slt_irrefl _⟩)
  · rw [bf_iff] at h1 h2 ⊢
    rcases h1 with h1 | ⟨h1, h1'⟩
    · rcases h2 with h2 | ⟨h2, _⟩
      · exact .inl (by omega)
      · exact .inl (by omega)
    · rcases h2 with h2 | ⟨h2, h2'⟩
      · exact .inl (by omega)
      · exact .inr ⟨by omega, slt_trans h1' h2'⟩
  · rw [bf_ff] at h1 h2 ⊢
    rcases h1 with h1 | ⟨h1, h1'⟩
    · rcases h2 with h2 | ⟨h2, _⟩
      · exact .inl (by omega)
      · exact .inl (by omega)
    · rcases h2 with h2 | ⟨h2, h2'⟩
      · exact .inl (by omega)
      · exact .inr ⟨by omega, slt_ntrans h1' h2'⟩
theorem bf_apart {p q : Dem} (h : p.1 ≠ q.1) : (bf p q || bf q p) = true := by
  cases h1 : bf p q with
  | true => rfl
  | false =>
    rw [Bool.false_or, bf_iff]
    rcases bf_ff.1 h1 with h2 | ⟨h2, h3⟩
    · exact .inl h2
    · refine .inr ⟨h2.symm, ?_⟩
      cases h4 : slt q.1 p.1 with
      | true => rfl
      | false => exact absurd (slt_tri h3 h4) h

section
variable {N : Nat} (hN : 4611686018427387904 ≤ N)
include hN
theorem cmpI_v (a b : Int) : cmp_Compare_int.fn N (a, b) = some (bif decide (a < b) then -1 else bif decide (a > b) then 1 else 0) := by
  rw [cmp_Compare_int.eq, cmp_isNaN_int.eq, cmp_isNaN_int.eq]
  simp only [Option.bind_some, beq_self_eq_true, Bool.not_true, cond_false]
  cases decide (a < b) <;> cases decide (a > b) <;> rfl
theorem cmpS_v (a b : ByteArray) : cmp_Compare_string.fn N (a, b) = some (bif slt a b then -1 else bif seq a b then 0 else 1) := by
  rw [cmp_Compare_string.eq, cmp_isNaN_string.eq, cmp_isNaN_string.eq]
  simp only [Option.bind_some, seq_self, Bool.not_true, cond_false]
  cases slt a b <;> cases seq a b <;> rfl
theorem or_v (a b : Int) : cmp_Or_int.fn N [a, b] = some (bif !(a == 0) then a else b) := by
  rw [cmp_Or_int.eq]
  obtain ⟨M, rfl⟩ : ∃ M, N = M + 1 + 1 + 1 := ⟨N - 3, by omega⟩
  have h1 := cmp_Or_int.l0_cons (M + 1 + 1 + 1) [a, b] (M + 1 + 1) (pre := []) (x := a) (r := [b]) rfl (by simp)
  have h2 := cmp_Or_int.l0_cons (M + 1 + 1 + 1) [a, b] (M + 1) (pre := [a]) (x := b) (r := []) rfl (by simp)
  have h3 := cmp_Or_int.l0_nil (M + 1 + 1 + 1) [a, b] M
  simp only [List.length_nil, List.length_cons, Int.ofNat_zero, Int.zero_add, Nat.zero_add] at h1 h2 h3
  rw [h1]
  cases ha : a == 0 with
  | false => rfl
  | true =>
    simp only [Bool.not_true, cond_false]
    have h2 : cmp_Or_int.l0 (M + 1 + 1 + 1) [a, b] (M + 1 + 1) 1 = _ := h2
    rw [h2]
    cases hb : b == 0 with
    | false => rfl
    | true =>
      simp only [Bool.not_true, cond_false]
      have h3 : cmp_Or_int.l0 (M + 1 + 1 + 1) [a, b] (M + 1) (((1 : Nat) : Int) + 1) = _ := h3
      rw [h3, beq_iff_eq.1 hb]
theorem before_v (p q : Dem) : ∃ z, slot_before.fn N (p, q) = some z ∧ decide (z < 0) = bf p q := by
  refine ⟨bif !((bif decide (p.2 < q.2) then -1 else bif decide (p.2 > q.2) then (1 : Int) else 0) == 0) then (bif decide (p.2 < q.2) then -1 else bif decide (p.2 > q.2) then 1 else 0) else (bif slt p.1 q.1 then -1 else bif seq p.1 q.1 then 0 else 1), ?_, ?_⟩
  · rw [slot_before.eq, cmpI_v hN, Option.bind_some, cmpS_v hN, Option.bind_some, or_v hN]; rfl
  · unfold bf
    rcases Int.lt_trichotomy p.2 q.2 with h | h | h
    · simp [h]
    · have h1 : ¬ p.2 < q.2 := by omega
      have h2 : ¬ p.2 > q.2 := by omega
      simp only [h1, h2, decide_false, cond_false, show (p.2 == q.2) = true by rw [beq_iff_eq]; exact h]
      cases slt p.1 q.1 <;> cases seq p.1 q.1 <;> rfl
    · have h1 : ¬ p.2 < q.2 := by omega
      have h3 : (p.2 == q.2) = false := by rw [beq_eq_false_iff_ne]; omega
      simp only [h1, h3, decide_false, cond_false, decide_eq_true h, cond_true]
      rfl
end

/-- The demands' fault. -/
def demsE : List Dem → List Dem → Int
  | _, [] => 0
  | p, x :: r => bif !isName x.1 then 3 else bif decide (x.2 < 0) || decide (x.2 > 200000) then 12 else bif p.any (fun y => seq y.1 x.1) then 7 else demsE (p ++ [x]) r
theorem demsE_cons (p : List Dem) (x : Dem) (r : List Dem) : demsE p (x :: r) = bif !isName x.1 then 3 else bif decide (x.2 < 0) || decide (x.2 > 200000) then 12 else bif p.any (fun y => seq y.1 x.1) then 7 else demsE (p ++ [x]) r := rfl
def demsErr (l : List Dem) : Int := bif decide ((l.length : Int) > 24) then 2 else demsE [] l
section
variable {N : Nat} (hN : 4611686018427387904 ≤ N)
include hN
theorem slot_Check.v (l : List Dem) (hl : l.length < 4611686018427387904) : slot_Check.fn N l = some (demsErr l) := by
  rw [slot_Check.eq]
  unfold demsErr
  by_cases h : (l.length : Int) > 24
  · simp [h]
  simp only [h, decide_false, cond_false]
  refine list_loop (l := l) (fun k (_ : Unit) i => slot_Check.l0 N l k i) (fun pre r _ => some (demsE pre r)) (fun _ _ => True) (fun k s _ => slot_Check.l0_nil N l k) (fun k pre c r s h _ ih => ?_) N () trivial (by omega)
  have hlen : l.length = pre.length + 1 + r.length := by rw [h]; simp; omega
  have ih := ih () trivial
  rw [slot_Check.l0_cons N l k h hl, slot_Name.v hN, Option.bind_some, demsE_cons]
  cases hn : isName c.1 with
  | false => rfl
  | true =>
    simp only [Bool.not_true, cond_false]
    cases ht : (decide (c.2 < 0) || decide (c.2 > 200000)) with
    | true => rfl
    | false =>
      simp only [cond_false]
      have htk : List.take (Int.toNat (pre.length : Int)) l = pre := by rw [h]; simp
      have hs := scan_list (l := pre) (fun y => seq y.1 c.1) (some 7) (slot_Check.l0 N l k (w ((pre.length : Int) + 1))) (fun q i => slot_Check.l1 N l k (pre.length : Int) q i)
        (fun q => by have := slot_Check.l1_nil N l k (pre.length : Int) q; rw [htk] at this; exact this)
        (fun q p y r' h' => by
          have := slot_Check.l1_cons N l k (pre.length : Int) q (pre := p) (x := y) (r := r') (by rw [htk]; exact h') (by rw [htk]; omega)
          rw [this]
          simp only [Int.toNat_natCast, show l.getD pre.length ((⟨#[]⟩ : ByteArray), 0) = c by rw [h]; exact getD_mid pre c r _]) N (by omega)
      rw [hs, w_next h hl, ih]
      cases pre.any (fun y => seq y.1 c.1) <;> rfl
theorem ref_DemandsError.v (l : List Dem) (hl : l.length < 4611686018427387904) : ref_DemandsError.fn N l = some (demsErr l) := by
  rw [ref_DemandsError.eq]
  unfold demsErr
  by_cases h : (l.length : Int) > 24
  · simp [h]
  simp only [h, decide_false, cond_false]
  refine list_loop (l := l) (fun k (_ : Unit) i => ref_DemandsError.l0 N l k i) (fun pre r _ => some (demsE pre r)) (fun _ _ => True) (fun k s _ => ref_DemandsError.l0_nil N l k) (fun k pre c r s h _ ih => ?_) N () trivial (by omega)
  have hlen : l.length = pre.length + 1 + r.length := by rw [h]; simp; omega
  have ih := ih () trivial
  rw [ref_DemandsError.l0_cons N l k h hl, ref_IsName.v hN, Option.bind_some, demsE_cons]
  cases hn : isName c.1 with
  | false => rfl
  | true =>
    simp only [Bool.not_true, cond_false]
    cases ht : (decide (c.2 < 0) || decide (c.2 > 200000)) with
    | true => rfl
    | false =>
      simp only [cond_false]
      have hs := scan_list (l := pre) (fun y => seq y.1 c.1) (some 7) (ref_DemandsError.l0 N l k (w ((pre.length : Int) + 1))) (fun q i => ref_DemandsError.l1 N l k (pre.length : Int) q i)
        (fun q => by
          show ref_DemandsError.l1 N l k (pre.length : Int) (q + 1) (pre.length : Int) = _
          rw [ref_DemandsError.l1_succ]; simp)
        (fun q p y r' h' => by
          show ref_DemandsError.l1 N l k (pre.length : Int) (q + 1) (p.length : Int) = _
          have hp : pre.length = p.length + 1 + r'.length := by rw [h']; simp; omega
          have e1 : decide ((p.length : Int) < (pre.length : Int)) = true := by rw [decide_eq_true_iff]; omega
          have e2 : (decide (0 ≤ (p.length : Int)) && decide ((p.length : Int) < (l.length : Int))) = true := by simp; omega
          have e3 : w ((p.length : Int) + 1) = (p.length : Int) + 1 := by rw [w_small] <;> omega
          rw [ref_DemandsError.l1_succ, e1, e2, e3]
          simp only [cond_true, Int.toNat_natCast, show l.getD pre.length ((⟨#[]⟩ : ByteArray), 0) = c by rw [h]; exact getD_mid pre c r _, show l.getD p.length ((⟨#[]⟩ : ByteArray), 0) = y by rw [h, h', List.append_assoc]; exact getD_mid p y _ _]) N (by omega)
      rw [hs, w_next h hl, ih]
      cases pre.any (fun y => seq y.1 c.1) <;> rfl
end
theorem demsE_ok : ∀ {l p : List Dem}, demsE p l = 0 → (∀ x ∈ l, isName x.1 = true ∧ 0 ≤ x.2 ∧ x.2 ≤ 200000 ∧ ∀ y ∈ p, y.1 ≠ x.1) ∧ l.Pairwise fun x y => x.1 ≠ y.1
  | [], _, _ => ⟨fun x h => (by cases h), .nil⟩
  | a :: r, p, h => by
    rw [demsE_cons] at h
    cases hn : isName a.1 with
    | false => rw [hn] at h; cases h
    | true =>
      rw [hn] at h
      simp only [Bool.not_true, cond_false] at h
      cases ht : (decide (a.2 < 0) || decide (a.2 > 200000)) with
      | true => rw [ht] at h; cases h
      | false =>
        rw [ht, cond_false] at h
        cases ha : p.any (fun y => seq y.1 a.1) with
        | true => rw [ha] at h; cases h
        | false =>
          rw [ha, cond_false] at h
          obtain ⟨h1, h2⟩ := demsE_ok h
          simp only [Bool.or_eq_false_iff, decide_eq_false_iff_not] at ht
          have ha' : ∀ y ∈ p, y.1 ≠ a.1 := fun y hy => by
            rw [List.any_eq_false] at ha
            have := ha y hy
            exact fun e => this (sq_iff.2 e)
          refine ⟨fun x hx => ?_, .cons (fun y hy => (h1 y hy).2.2.2 a (by simp)) h2⟩
          rcases List.mem_cons.1 hx with rfl | hx
          · exact ⟨hn, by omega, by omega, ha'⟩
          · have := h1 x hx
            exact ⟨this.1, this.2.1, this.2.2.1, fun y hy => this.2.2.2 y (by simp [hy])⟩
theorem demsErr_ok {l : List Dem} (h : demsErr l = 0) : l.length ≤ 24 ∧ (∀ x ∈ l, isName x.1 = true ∧ 0 ≤ x.2 ∧ x.2 ≤ 200000) ∧ l.Pairwise fun x y => x.1 ≠ y.1 := by
  unfold demsErr at h
  by_cases hl : (l.length : Int) > 24
  · simp [hl] at h
  · simp only [hl, decide_false, cond_false] at h
    obtain ⟨h1, h2⟩ := demsE_ok h
    exact ⟨by omega, fun x hx => ⟨(h1 x hx).1, (h1 x hx).2.1, (h1 x hx).2.2.1⟩, h2⟩

/-! ### capacities -/
abbrev Cap := (Int × Int) × Int
def capBad (c : Cap) : Bool := decide (c.1.1 < 0) || decide (c.1.2 > 200000) || decide (c.1.1 ≥ c.1.2) || decide (c.2 < 0) || decide (c.2 > 24)
def capE : Int → List Cap → Int
  | _, [] => 0
  | e, c :: r => bif capBad c then 4 else bif decide (c.1.1 < e) then 12 else capE c.1.2 r
theorem capE_cons (e : Int) (c : Cap) (r : List Cap) : capE e (c :: r) = bif capBad c then 4 else bif decide (c.1.1 < e) then 12 else capE c.1.2 r := rfl
def capsErr (l : List Cap) : Int := bif decide ((l.length : Int) > 256) then 2 else capE 0 l
theorem capBad_ok {c : Cap} (h : capBad c = false) : 0 ≤ c.1.1 ∧ c.1.2 ≤ 200000 ∧ c.1.1 < c.1.2 ∧ 0 ≤ c.2 ∧ c.2 ≤ 24 := by
  simp only [capBad, Bool.or_eq_false_iff, decide_eq_false_iff_not] at h; omega
theorem capE_ok : ∀ {l : List Cap} {e : Int}, capE e l = 0 → (∀ c, c ∈ l → capBad c = false ∧ e ≤ c.1.1) ∧ l.Pairwise fun a b => a.1.2 ≤ b.1.1
  | [], e, _ => ⟨fun c h => (by cases h), .nil⟩
  | a :: r, e, h => by
    unfold capE at h
    cases hb : capBad a with
    | true => rw [hb] at h; cases h
    | false =>
      rw [hb, cond_false] at h
      by_cases hf : a.1.1 < e
      · simp [hf] at h
      · simp only [hf, decide_false, cond_false] at h
        obtain ⟨h1, h2⟩ := capE_ok (l := r) h
        have h3 := capBad_ok hb
        refine ⟨fun c hc => ?_, .cons (fun b hb => (h1 b hb).2) h2⟩
        rcases List.mem_cons.1 hc with rfl | hc
        · exact ⟨hb, by omega⟩
        · have := h1 c hc; exact ⟨this.1, by omega⟩
theorem capsErr_ok {l : List Cap} (h : capsErr l = 0) : l.length ≤ 256 ∧ (∀ c, c ∈ l → capBad c = false) ∧ l.Pairwise fun a b => a.1.2 ≤ b.1.1 := by
  unfold capsErr at h
  by_cases hl : (l.length : Int) > 256
  · simp [hl] at h
  · simp only [hl, decide_false, cond_false] at h
    obtain ⟨h1, h2⟩ := capE_ok h
    exact ⟨by omega, fun c hc => (h1 c hc).1, h2⟩
section
variable {N : Nat} (hN : 4611686018427387904 ≤ N) {l : List Cap} (hl : l.length < 4611686018427387904)
include hN hl
theorem ref_CapsError.v : ref_CapsError.fn N l = some (capsErr l) := by
  rw [ref_CapsError.eq]
  unfold capsErr
  by_cases h : (l.length : Int) > 256
  · simp [h]
  simp only [h, decide_false, cond_false]
  refine list_loop (l := l) (fun k (s : Int) i => ref_CapsError.l0 N l k s i) (fun _ r s => some (capE s r)) (fun _ _ => True) (fun k s _ => ref_CapsError.l0_nil N l k s) (fun k pre c r s h _ ih => ?_) N 0 trivial (by omega)
  rw [ref_CapsError.l0_cons N l k s h hl, ih _ trivial, capE_cons]
  unfold capBad
  simp only [ge_iff_le]
  cases (decide (c.1.1 < 0) || decide (c.1.2 > 200000) || decide (c.1.2 ≤ c.1.1) || decide (c.2 < 0) || decide (c.2 > 24)) with
  | true => rfl
  | false => cases decide (c.1.1 < s) <;> rfl
theorem flow_Check.v : flow_Check.fn N l = some (capsErr l) := by
  rw [flow_Check.eq]
  unfold capsErr
  by_cases h : (l.length : Int) > 256
  · simp [h]
  simp only [h, decide_false, cond_false]
  refine list_loop (l := l) (fun k (_ : Unit) i => flow_Check.l0 N l k i) (fun pre r _ => some (capE ((pre.getLast?.map (·.1.2)).getD 0) r)) (fun _ _ => True) (fun k s _ => flow_Check.l0_nil N l k) (fun k pre c r s h _ ih => ?_) N () trivial (by omega)
  have hlen : l.length = pre.length + 1 + r.length := by rw [h]; simp; omega
  have ih := ih () trivial
  simp only [List.getLast?_append, List.getLast?_singleton, Option.some_or, Option.map_some, Option.getD_some] at ih
  rw [flow_Check.l0_cons N l k h hl, ih, capE_cons]
  unfold capBad
  cases h1 : (decide (c.1.1 < 0) || decide (c.1.2 > 200000) || decide (c.1.1 ≥ c.1.2)) with
  | true => simp [h1]
  | false =>
    cases h2 : (decide (c.2 < 0) || decide (c.2 > 24)) with
    | true => simp only [cond_false, cond_true, Bool.or_assoc, h2, Bool.or_true]
    | false =>
      simp only [cond_false, Bool.or_assoc, h2]
      simp only [Bool.or_eq_false_iff, decide_eq_false_iff_not] at h1
      rcases List.eq_nil_or_concat pre with rfl | ⟨pre', p, rfl⟩
      · simp [h1, show ¬ c.1.1 < 0 by omega, show ¬ 200000 < c.1.2 by omega, show ¬ c.1.2 ≤ c.1.1 by omega]
      · rw [List.concat_eq_append] at *
        have hlen' : l.length = pre'.length + 1 + 1 + r.length := by simpa using hlen
        have e1 : w (((pre' ++ [p]).length : Int) - 1) = (pre'.length : Int) := by rw [w_small] <;> simp <;> omega
        have g2 : ∀ d, l.getD pre'.length d = p := fun d => by rw [h, List.append_assoc]; exact getD_mid _ p _ d
        rw [e1]
        simp only [Int.toNat_natCast, g2]
        simp [show (pre'.length : Int) < l.length by omega, show ¬ c.1.1 < 0 by omega, show ¬ 200000 < c.1.2 by omega, show ¬ c.1.2 ≤ c.1.1 by omega, show ((pre'.length : Int) + 1 > 0) by omega]
        cases decide (c.1.1 < p.1.2) <;> rfl
end
/-- The last capacity of a time. -/
def inC (t : Int) (c : Cap) : Bool := !(decide (t < c.1.1) || decide (t ≥ c.1.2))
def lastC (t : Int) : Int → Int → List Cap → Int
  | s, _, [] => s
  | s, i, c :: r => lastC t (bif inC t c then i else s) (i + 1) r
theorem lastC_cons (t s i : Int) (c : Cap) (r : List Cap) : lastC t s i (c :: r) = lastC t (bif inC t c then i else s) (i + 1) r := rfl
theorem ref_CapAt.v {N : Nat} (hN : 4611686018427387904 ≤ N) {l : List Cap} (hl : l.length < 4611686018427387904) (t : Int) : ref_CapAt.fn N (l, t) = some (lastC t (-1) 0 l) := by
  rw [ref_CapAt.eq]
  refine list_loop (l := l) (fun k (s : Int) i => ref_CapAt.l0 N l t k s i) (fun p r s => some (lastC t s (p.length : Int) r)) (fun _ _ => True) (fun k s _ => ref_CapAt.l0_nil N l t k s) (fun k pre c r s h _ ih => ?_) N (-1) trivial (by omega)
  rw [ref_CapAt.l0_cons N l t k s h hl, lastC_cons]
  have e : ((pre ++ [c]).length : Int) = (pre.length : Int) + 1 := by simp
  have h1 := ih (pre.length : Int) trivial
  have h2 := ih s trivial
  rw [e] at h1 h2
  rw [h1, h2]
  unfold inC
  cases decide (t < c.1.1) || decide (t ≥ c.1.2) <;> rfl
theorem lastC_none {t : Int} : ∀ (r : List Cap) (s i : Int), (∀ c, c ∈ r → inC t c = false) → lastC t s i r = s
  | [], s, i, _ => rfl
  | c :: r, s, i, h => by
    rw [lastC_cons, h c (List.mem_cons_self ..), cond_false]
    exact lastC_none r s _ fun c hc => h c (List.mem_cons_of_mem _ hc)
/-- The one capacity of a time: where it lies. -/
theorem lastC_at {t : Int} {p r : List Cap} {c : Cap} {s i : Int} (hp : (p ++ c :: r).Pairwise fun a b => a.1.2 ≤ b.1.1) (hc : inC t c = true) : lastC t s i (p ++ c :: r) = i + p.length := by
  induction p generalizing s i with
  | nil =>
    rw [List.nil_append, lastC_cons, hc, cond_true]
    rw [lastC_none r i _ fun b hb => by
      have hp' : (c :: r).Pairwise fun a b => a.1.2 ≤ b.1.1 := hp
      have h1 := List.rel_of_pairwise_cons hp' hb
      simp only [inC, Bool.not_eq_true', Bool.or_eq_false_iff, decide_eq_false_iff_not] at hc
      simp only [inC, Bool.not_eq_false', Bool.or_eq_true, decide_eq_true_iff]
      omega]
    simp
  | cons a p ih =>
    rw [List.cons_append, lastC_cons, ih (List.Pairwise.of_cons hp)]
    simp; omega

/-! ### slots -/
abbrev Slt := ByteArray × ByteArray × Int
def atC (d : Dem) (c : Cap) : Int := if c.1.1 > d.2 then c.1.1 else d.2
def take1 (d : Dem) : List Cap → Option (List Cap × Int)
  | [] => none
  | c :: r => bif decide (c.2 > 0) && decide (c.1.2 > d.2) then some ((c.1, c.2 - 1) :: r, atC d c) else (take1 d r).map fun q => (c :: q.1, q.2)
theorem take1_cons (d : Dem) (c : Cap) (r : List Cap) : take1 d (c :: r) = bif decide (c.2 > 0) && decide (c.1.2 > d.2) then some ((c.1, c.2 - 1) :: r, atC d c) else (take1 d r).map fun q => (c :: q.1, q.2) := rfl
def serve (pl : ByteArray) : List Dem → List Cap → List Slt → List Slt × Int
  | [], _, out => (out, 0)
  | d :: r, left, out => match take1 d left with
    | none => ([], 18)
    | some (l', t) => serve pl r l' (out ++ [(d.1, pl, t)])
theorem serve_cons (pl : ByteArray) (d : Dem) (r : List Dem) (left : List Cap) (out : List Slt) : serve pl (d :: r) left out = match take1 d left with
    | none => ([], 18)
    | some (l', t) => serve pl r l' (out ++ [(d.1, pl, t)]) := rfl
def capGood (c : Cap) : Prop := 0 ≤ c.1.1 ∧ c.2 ≤ 24
theorem take1_good {d : Dem} : ∀ {l l' : List Cap} {t : Int}, (∀ c ∈ l, capGood c) → take1 d l = some (l', t) → l'.length = l.length ∧ ∀ c ∈ l', capGood c
  | [], _, _, _, h => by cases h
  | c :: r, l', t, hg, h => by
    rw [take1_cons] at h
    cases hc : decide (c.2 > 0) && decide (c.1.2 > d.2) with
    | true =>
      rw [hc] at h
      cases h
      have := hg c (by simp)
      unfold capGood at this
      refine ⟨by simp, fun x hx => ?_⟩
      rcases List.mem_cons.1 hx with rfl | hx
      · exact ⟨this.1, by show c.2 - 1 ≤ 24; omega⟩
      · exact hg x (by simp [hx])
    | false =>
      rw [hc, cond_false, Option.map_eq_some_iff] at h
      obtain ⟨q, hq, he⟩ := h
      cases he
      have := take1_good (fun x hx => hg x (by simp [hx])) hq
      refine ⟨by simp [this.1], fun x hx => ?_⟩
      rcases List.mem_cons.1 hx with rfl | hx
      · exact hg x (by simp)
      · exact this.2 x hx
theorem serve_len {pl : ByteArray} : ∀ (s : List Dem) (left : List Cap) (out : List Slt), (serve pl s left out).1.length ≤ out.length + s.length
  | [], left, out => by show out.length ≤ _; simp
  | d :: r, left, out => by
    rw [serve_cons]
    cases take1 d left with
    | none => simp
    | some q =>
      have := serve_len (pl := pl) r q.1 (out ++ [(d.1, pl, q.2)])
      simp only [List.length_append, List.length_cons, List.length_nil] at this ⊢
      omega

section
variable {N : Nat} (hN : 4611686018427387904 ≤ N)
include hN
noncomputable abbrev srt (N : Nat) (l : List Dem) : List Dem := sortL (fun (p q : ByteArray × Int) => slot_before.fn N (p, q)) l
theorem first_v {pl : ByteArray} {l pre r : List Dem} {d : Dem} (hs : srt N l = pre ++ d :: r) (hd : 0 ≤ d.2) (hlen : (srt N l).length ≤ 24) (k : Nat) (left : List Cap) (hg : ∀ c ∈ left, capGood c) (hl : left.length < 4611686018427387904) (out : List Slt) (ho : out.length ≤ 24) :
    slot_Assign.l1 N pl l k (pre.length : Int) left out N 0 = match take1 d left with
      | none => some ([], 18)
      | some (l', t) => slot_Assign.l0 N pl l k ((pre.length : Int) + 1) l' (out ++ [(d.1, pl, t)]) := by
  have key := list_loop (l := left) (fun q (_ : Unit) i => slot_Assign.l1 N pl l k (pre.length : Int) left out q i)
    (fun p r' _ => match take1 d r' with
      | none => some ([], 18)
      | some (l', t) => slot_Assign.l0 N pl l k ((pre.length : Int) + 1) (p ++ l') (out ++ [(d.1, pl, t)])) (fun _ _ => True)
    (fun q s _ => slot_Assign.l1_nil N pl l k (pre.length : Int) left out q) (fun q p c r' s h _ ih => ?_) N () trivial (by omega)
  · exact key
  have ih := ih () trivial
  have hc : capGood c := hg c (by rw [h]; simp)
  unfold capGood at hc
  have hpl : p.length < left.length := by rw [h]; simp
  have hgd : (srt N l).getD pre.length ((⟨#[]⟩ : ByteArray), 0) = d := by rw [hs]; exact getD_mid pre d r _
  have hw : w ((pre.length : Int) + 1) = (pre.length : Int) + 1 := by
    have : pre.length < (srt N l).length := by rw [hs]; simp
    rw [w_small] <;> omega
  rw [slot_Assign.l1_cons N pl l k _ left out q h hl, ih, take1_cons]
  have hgd' : (sortL (fun (p q : ByteArray × Int) => slot_before.fn N (p, q)) l).getD pre.length ((⟨#[]⟩ : ByteArray), 0) = d := hgd
  simp -implicitDefEqProofs only [decide_eq_true hpl, cond_true, Int.toNat_natCast, hgd', hw]
  cases hh : decide (c.2 > 0) && decide (c.1.2 > d.2) with
  | false =>
    simp only [cond_false]
    cases take1 d r' with
    | none => rfl
    | some q => simp only [Option.map_some, List.append_assoc, List.singleton_append]
  | true =>
    simp only [Bool.and_eq_true, decide_eq_true_iff] at hh
    have h1 : decide ((if c.1.1 > d.2 then c.1.1 else d.2) < 0) = false := by rw [decide_eq_false_iff_not]; split <;> omega
    have h2 : (decide ((out.length + 1) * 40 ≤ 140737488355328) && decide (out.length + 1 ≤ maxLen)) = true := by simp [maxLen]; omega
    have h3 : w (c.2 - 1) = c.2 - 1 := by rw [w_small] <;> omega
    have h4 : left.set p.length (c.1, c.2 - 1) = p ++ (c.1, c.2 - 1) :: r' := by rw [h]; simp
    simp -implicitDefEqProofs only [h1, h2, h3, h4, cond_true, cond_false]
    rfl
theorem Assign_loop {pl : ByteArray} {l : List Dem} (hlen : (srt N l).length ≤ 24) (hd : ∀ d ∈ srt N l, 0 ≤ d.2) (left : List Cap) (hg : ∀ c ∈ left, capGood c) (hl : left.length < 4611686018427387904) :
    slot_Assign.l0 N pl l N 0 left [] = some (serve pl (srt N l) left []) := by
  refine list_loop (l := srt N l) (fun k (s : List Cap × List Slt) i => slot_Assign.l0 N pl l k i s.1 s.2) (fun _ r s => some (serve pl r s.1 s.2)) (fun p s => (∀ c ∈ s.1, capGood c) ∧ s.1.length < 4611686018427387904 ∧ s.2.length = p.length)
    (fun k s _ => slot_Assign.l0_nil N pl l k s.1 s.2) (fun k pre d r s h hI ih => ?_) N (left, []) ⟨hg, hl, rfl⟩ (by omega)
  obtain ⟨hg', hl', ho⟩ := hI
  have hpl : pre.length < (srt N l).length := by rw [h]; simp
  rw [slot_Assign.l0_cons N pl l k s.1 s.2 h (by show (srt N l).length < _; omega)]
  have hd' : decide (pre.length < (sortL (fun (p q : ByteArray × Int) => slot_before.fn N (p, q)) l).length) = true := decide_eq_true hpl
  rw [hd', cond_true, first_v hN h (hd d (by rw [h]; simp)) hlen k s.1 hg' hl' s.2 (by omega), serve_cons]
  cases ht : take1 d s.1 with
  | none => rfl
  | some q =>
    have := take1_good hg' ht
    exact ih (q.1, s.2 ++ [(d.1, pl, q.2)]) ⟨this.2, by rw [this.1]; exact hl', by simp [ho]⟩
theorem srt_spec {l : List Dem} (ap : l.Pairwise fun x y => x.1 ≠ y.1) : (srt N l).Perm l ∧ (srt N l).Pairwise fun x y => bf x y = true :=
  ⟨sortL_perm l, sortL_sorted (fun x y => before_v hN x y) bf_ok (ap.imp fun h => bf_apart h)⟩
def asg (pl : ByteArray) (s : List Dem) (c : List Cap) : List Slt × Int := serve pl s c []
theorem slot_Assign.v {pl : ByteArray} {l : List Dem} {c : List Cap} (hl : l.length < 4611686018427387904) (hc : c.length < 4611686018427387904) :
    slot_Assign.fn N (pl, l, c) = some (bif !isName pl then ([], 3) else bif !(demsErr l == 0) then ([], demsErr l) else bif !(capsErr c == 0) then ([], capsErr c) else serve pl (srt N l) c []) := by
  rw [slot_Assign.eq, slot_Name.v hN, Option.bind_some, slot_Check.v hN l hl, Option.bind_some, flow_Check.v hN hc, Option.bind_some]
  cases isName pl with
  | false => rfl
  | true =>
    cases hd : demsErr l == 0 with
    | false => rfl
    | true =>
      cases he : capsErr c == 0 with
      | false => rfl
      | true =>
        obtain ⟨d1, d2, d3⟩ := demsErr_ok (beq_iff_eq.1 hd)
        obtain ⟨c1, c2, c3⟩ := capsErr_ok (beq_iff_eq.1 he)
        obtain ⟨s1, s2⟩ := srt_spec hN d3
        rw [slices_Clone_FlowCap.v N c (by omega), Option.bind_some, slices_Clone_SlotDemand.v N l (by omega), Option.bind_some]
        rw [sortOk_of (by omega) (fun x y => before_v hN x y) bf_ok (d3.imp fun h => bf_apart h)]
        simp only [Bool.not_true, cond_false, cond_true]
        exact Assign_loop hN (by rw [s1.length_eq]; exact d1) (fun d hd => (d2 d (s1.mem_iff.1 hd)).2.1) c (fun x hx => by
          have := capBad_ok (c2 x hx)
          exact ⟨this.1, this.2.2.2.2⟩) hc
end

/-! ### the reference -/
def cntC (C : List Cap) (k : Nat) (out : List Slt) : Nat := out.countP fun s => lastC s.2.2 (-1) 0 C == (k : Int)
def leftOf (C : List Cap) (out : List Slt) : Nat → List Cap → List Cap
  | _, [] => []
  | k, x :: r => (x.1, x.2 - (cntC C k out : Int)) :: leftOf C out (k + 1) r
theorem leftOf_cons (C : List Cap) (out : List Slt) (k : Nat) (x : Cap) (r : List Cap) : leftOf C out k (x :: r) = (x.1, x.2 - (cntC C k out : Int)) :: leftOf C out (k + 1) r := rfl
theorem leftOf_nil (C : List Cap) : ∀ (k : Nat) (r : List Cap), leftOf C [] k r = r
  | _, [] => rfl
  | k, x :: r => by rw [leftOf_cons, leftOf_nil C (k + 1) r]; simp [cntC]
theorem cnt_snoc (C : List Cap) (k : Nat) (out : List Slt) (s : Slt) : cntC C k (out ++ [s]) = cntC C k out + if lastC s.2.2 (-1) 0 C = (k : Int) then 1 else 0 := by
  unfold cntC
  rw [List.countP_append, List.countP_singleton]
  simp
theorem leftOf_later (C : List Cap) (out : List Slt) (s : Slt) : ∀ (r : List Cap) (k : Nat), lastC s.2.2 (-1) 0 C < (k : Int) → leftOf C (out ++ [s]) k r = leftOf C out k r
  | [], _, _ => rfl
  | x :: r, k, h => by
    rw [leftOf_cons, leftOf_cons, cnt_snoc, if_neg (by omega), leftOf_later C out s r (k + 1) (by omega)]; simp
def scanC (C : List Cap) (d : Dem) (out : List Slt) : Int → Nat → List Cap → Int
  | at_, _, [] => at_
  | at_, k, x :: r => scanC C d out (bif (decide (at_ < 0) && decide ((cntC C k out : Int) < x.2)) && decide (d.2 < x.1.2) then (bif decide (d.2 < x.1.1) then x.1.1 else d.2) else at_) (k + 1) r
theorem scanC_cons (C : List Cap) (d : Dem) (out : List Slt) (at_ : Int) (k : Nat) (x : Cap) (r : List Cap) : scanC C d out at_ k (x :: r) = scanC C d out (bif (decide (at_ < 0) && decide ((cntC C k out : Int) < x.2)) && decide (d.2 < x.1.2) then (bif decide (d.2 < x.1.1) then x.1.1 else d.2) else at_) (k + 1) r := rfl
theorem scanC_done (C : List Cap) (d : Dem) (out : List Slt) {at_ : Int} (h : 0 ≤ at_) : ∀ (r : List Cap) (k : Nat), scanC C d out at_ k r = at_
  | [], _ => rfl
  | x :: r, k => by
    rw [scanC_cons, show decide (at_ < 0) = false by rw [decide_eq_false_iff_not]; omega]
    exact scanC_done C d out h r (k + 1)
theorem take_step {C : List Cap} {d : Dem} (out : List Slt) (hpw : C.Pairwise fun a b => a.1.2 ≤ b.1.1) (hbad : ∀ c ∈ C, capBad c = false) (hd : 0 ≤ d.2) : ∀ (r p : List Cap), C = p ++ r →
    (take1 d (leftOf C out p.length r) = none ∧ scanC C d out (-1) p.length r = -1) ∨
    ∃ t, 0 ≤ t ∧ (p.length : Int) ≤ lastC t (-1) 0 C ∧ (∀ a b, take1 d (leftOf C out p.length r) = some (leftOf C (out ++ [(a, b, t)]) p.length r, t)) ∧ scanC C d out (-1) p.length r = t
  | [], p, h => .inl ⟨rfl, rfl⟩
  | x :: r, p, h => by
    have hx := capBad_ok (hbad x (by rw [h]; simp))
    rw [leftOf_cons, take1_cons, scanC_cons]
    by_cases hh : (cntC C p.length out : Int) < x.2 ∧ d.2 < x.1.2
    · have h1 : (decide (x.2 - (cntC C p.length out : Int) > 0) && decide (x.1.2 > d.2)) = true := by simp; omega
      have h2 : ((decide ((-1 : Int) < 0) && decide ((cntC C p.length out : Int) < x.2)) && decide (d.2 < x.1.2)) = true := by simp; omega
      have h3 : (bif decide (d.2 < x.1.1) then x.1.1 else d.2) = atC d x := by
        unfold atC
        by_cases hq : d.2 < x.1.1
        · simp [hq]
        · simp [hq]
      have hat : 0 ≤ atC d x ∧ x.1.1 ≤ atC d x ∧ atC d x < x.1.2 := by unfold atC; split <;> omega
      have hin : inC (atC d x) x = true := by
        unfold inC
        simp only [Bool.not_eq_true', Bool.or_eq_false_iff, decide_eq_false_iff_not]; omega
      have hlast : lastC (atC d x) (-1) 0 C = (p.length : Int) := by rw [h]; rw [lastC_at (by rw [← h]; exact hpw) hin]; omega
      refine .inr ⟨atC d x, hat.1, by rw [hlast]; omega, fun a b => ?_, ?_⟩
      · simp only [h1, cond_true]
        rw [leftOf_cons, cnt_snoc, if_pos hlast, leftOf_later C out (a, b, atC d x) r (p.length + 1) (by show lastC (atC d x) (-1) 0 C < _; omega)]
        rw [show x.2 - (cntC C p.length out : Int) - 1 = x.2 - ((cntC C p.length out + 1 : Nat) : Int) by omega]
        rfl
      · rw [h2, cond_true, h3]
        exact scanC_done C d out hat.1 r _
    · have h1 : (decide (x.2 - (cntC C p.length out : Int) > 0) && decide (x.1.2 > d.2)) = false := by
        rw [Bool.and_eq_false_iff, decide_eq_false_iff_not, decide_eq_false_iff_not]; omega
      have h2 : ((decide ((-1 : Int) < 0) && decide ((cntC C p.length out : Int) < x.2)) && decide (d.2 < x.1.2)) = false := by
        rw [Bool.and_eq_false_iff, Bool.and_eq_false_iff, decide_eq_false_iff_not, decide_eq_false_iff_not, decide_eq_false_iff_not]; omega
      have ih := take_step out hpw hbad hd r (p ++ [x]) (by rw [h]; simp)
      simp only [List.length_append, List.length_cons, List.length_nil, Nat.zero_add] at ih
      simp only [h1, h2, cond_false]
      rcases ih with ⟨i1, i2⟩ | ⟨t, i1, i2, i3, i4⟩
      · exact .inl ⟨by rw [i1]; rfl, i2⟩
      · refine .inr ⟨t, i1, by omega, fun a b => ?_, i4⟩
        rw [i3 a b, leftOf_cons, cnt_snoc, if_neg (by show ¬ lastC t (-1) 0 C = _; omega)]
        rfl

section
variable {N : Nat} (hN : 4611686018427387904 ≤ N)
include hN
theorem served_from {l : List Dem} (hl : l.length < 4611686018427387904) : ∀ (r p : List Dem) (s : Nat) (m : Dem) (k : Nat), l = p ++ r → r.length < k → l[s]? = some m → (∀ y ∈ p, bf y m = false) →
    ∃ (j : Nat) (m' : Dem), l[j]? = some m' ∧ (∀ y ∈ l, bf y m' = false) ∧ ref_served.l0 N l k (s : Int) (p.length : Int) = some (j : Int)
  | [], p, s, m, k + 1, h, _, hs, hp => by
    rw [List.append_nil] at h
    subst h
    exact ⟨s, m, hs, hp, ref_served.l0_nil N l k (s : Int)⟩
  | x :: r, p, s, m, k + 1, h, hk, hs, hp => by
    have hsl : s < l.length := by
      rcases Nat.lt_or_ge s l.length with h' | h'
      · exact h'
      · rw [List.getElem?_eq_none h'] at hs; cases hs
    have h1 : (decide (0 ≤ (s : Int)) && decide ((s : Int) < (l.length : Int))) = true := by simp; omega
    have hg : l.getD s ((⟨#[]⟩ : ByteArray), 0) = m := by rw [List.getD_eq_getElem?_getD, hs]; rfl
    have hx : l[p.length]? = some x := by rw [h]; simp
    have hr := ref_served.l0_cons N l k (s : Int) h hl
    rw [h1, cond_true] at hr
    simp only [Int.toNat_natCast, hg] at hr
    have hb : (decide (x.2 < m.2) || ((x.2 == m.2) && slt x.1 m.1)) = bf x m := rfl
    rw [hb] at hr
    have hnx : ((p.length : Int) + 1) = ((p ++ [x]).length : Int) := by simp
    cases hbm : bf x m with
    | true =>
      obtain ⟨j, m', q1, q2, q3⟩ := served_from hl r (p ++ [x]) p.length x k (by rw [h]; simp) (by simpa using hk) hx (fun y hy => by
        rcases List.mem_append.1 hy with hy | hy
        · cases hyx : bf y x with
          | false => rfl
          | true => have := bf_ok.tr hyx hbm; rw [hp y hy] at this; cases this
        · rw [List.mem_singleton] at hy; subst hy; exact bf_ok.irr _)
      refine ⟨j, m', q1, q2, ?_⟩
      rw [hr, hbm, cond_true, hnx]
      exact q3
    | false =>
      obtain ⟨j, m', q1, q2, q3⟩ := served_from hl r (p ++ [x]) s m k (by rw [h]; simp) (by simpa using hk) hs (fun y hy => by
        rcases List.mem_append.1 hy with hy | hy
        · exact hp y hy
        · rw [List.mem_singleton] at hy; subst hy; exact hbm)
      refine ⟨j, m', q1, q2, ?_⟩
      rw [hr, hbm, cond_false, hnx]
      exact q3
theorem served_v {l : List Dem} (hl : l.length < 4611686018427387904) (hne : l ≠ []) : ∃ p m q, l = p ++ m :: q ∧ (∀ y ∈ l, bf y m = false) ∧ ref_served.fn N l = some (p.length : Int) := by
  obtain ⟨a, r, rfl⟩ : ∃ a r, l = a :: r := by
    cases l with
    | nil => exact absurd rfl hne
    | cons a r => exact ⟨a, r, rfl⟩
  obtain ⟨j, m, h1, h2, h3⟩ := served_from hN hl (a :: r) [] 0 a N rfl (by omega) rfl (fun y hy => by cases hy)
  obtain ⟨hj, hm⟩ := List.getElem?_eq_some_iff.1 h1
  refine ⟨(a :: r).take j, m, (a :: r).drop (j + 1), ?_, h2, ?_⟩
  · rw [← hm, List.getElem_cons_drop, List.take_append_drop]
  · rw [ref_served.eq]
    have e : ((a :: r).take j).length = j := by rw [List.length_take]; omega
    rw [e]
    exact h3
theorem count_v {pl : ByteArray} {C : List Cap} (hC : C.length < 4611686018427387904) (k1 : Nat) (a2 : List Dem) (out : List Slt) (ho : out.length ≤ 24) (r4 : Int) (k5 : Nat) (a6 : Int) (m : Nat) :
    ref_Slots.l2 N pl C k1 a2 out r4 k5 a6 (m : Int) N 0 0 =
      bif ((decide (a6 < 0)) && (decide ((cntC C m out : Int) < ((List.getD C m ((0, 0), 0)).2)))) && (decide (((List.getD a2 (Int.toNat r4) ((⟨#[]⟩ : ByteArray), 0)).2) < (((List.getD C m ((0, 0), 0)).1).2))) then
        bif decide (((List.getD a2 (Int.toNat r4) ((⟨#[]⟩ : ByteArray), 0)).2) < (((List.getD C m ((0, 0), 0)).1).1)) then
          ref_Slots.l1 N pl C k1 a2 out r4 k5 (((List.getD C m ((0, 0), 0)).1).1) (w ((m : Int) + 1))
        else ref_Slots.l1 N pl C k1 a2 out r4 k5 ((List.getD a2 (Int.toNat r4) ((⟨#[]⟩ : ByteArray), 0)).2) (w ((m : Int) + 1))
      else ref_Slots.l1 N pl C k1 a2 out r4 k5 a6 (w ((m : Int) + 1)) := by
  have key := list_loop (l := out) (fun q (s : Int) i => ref_Slots.l2 N pl C k1 a2 out r4 k5 a6 (m : Int) q s i)
    (fun p r s => bif ((decide (a6 < 0)) && (decide (s + (cntC C m r : Int) < ((List.getD C m ((0, 0), 0)).2)))) && (decide (((List.getD a2 (Int.toNat r4) ((⟨#[]⟩ : ByteArray), 0)).2) < (((List.getD C m ((0, 0), 0)).1).2))) then
        bif decide (((List.getD a2 (Int.toNat r4) ((⟨#[]⟩ : ByteArray), 0)).2) < (((List.getD C m ((0, 0), 0)).1).1)) then
          ref_Slots.l1 N pl C k1 a2 out r4 k5 (((List.getD C m ((0, 0), 0)).1).1) (w ((m : Int) + 1))
        else ref_Slots.l1 N pl C k1 a2 out r4 k5 ((List.getD a2 (Int.toNat r4) ((⟨#[]⟩ : ByteArray), 0)).2) (w ((m : Int) + 1))
      else ref_Slots.l1 N pl C k1 a2 out r4 k5 a6 (w ((m : Int) + 1))) (fun p s => 0 ≤ s ∧ s ≤ (p.length : Int))
    (fun q s _ => by
      show ref_Slots.l2 N pl C k1 a2 out r4 k5 a6 (m : Int) (q + 1) s (out.length : Int) = _
      rw [ref_Slots.l2_nil]
      simp only [Int.toNat_natCast, cntC, List.countP_nil, Int.natCast_zero, Int.add_zero])
    (fun q p x r s h hI ih => ?_) N 0 ⟨by omega, by simp⟩ (by omega)
  · rw [key, Int.zero_add]
  have hlen : out.length = p.length + 1 + r.length := by rw [h]; simp; omega
  show ref_Slots.l2 N pl C k1 a2 out r4 k5 a6 (m : Int) (q + 1) s (p.length : Int) = _
  rw [ref_Slots.l2_cons N pl C k1 a2 out r4 k5 a6 (m : Int) q s h (by omega), decide_eq_true (by omega : p.length < out.length), cond_true, ref_CapAt.v hN hC, Option.bind_some]
  have hw : w (s + 1) = s + 1 := by rw [w_small] <;> omega
  have hc : (cntC C m (x :: r) : Int) = (cntC C m r : Int) + if lastC x.2.2 (-1) 0 C = (m : Int) then 1 else 0 := by
    unfold cntC
    rw [List.countP_cons]
    simp
    split <;> rfl
  cases hx : lastC x.2.2 (-1) 0 C == (m : Int) with
  | true =>
    rw [cond_true, hw, ih (s + 1) ⟨by omega, by simp; omega⟩, hc, if_pos (beq_iff_eq.1 hx)]
    rw [show s + 1 + (cntC C m r : Int) = s + ((cntC C m r : Int) + 1) by omega]
  | false =>
    rw [cond_false, ih s ⟨by omega, by simp; omega⟩, hc, if_neg (beq_eq_false_iff_ne.1 hx), Int.add_zero]
theorem place_v {pl : ByteArray} {C : List Cap} (hC : C.length < 4611686018427387904) (k1 : Nat) (a2 : List Dem) {p q : List Dem} {d : Dem} (h2 : a2 = p ++ d :: q) (hl2 : a2.length ≤ 24) (out : List Slt) (ho : out.length ≤ 24) :
    ref_Slots.l1 N pl C k1 a2 out (p.length : Int) N (-1) 0 = bif decide (scanC C d out (-1) 0 C < 0) then some ([], 18) else ref_Slots.l0 N pl C k1 (p ++ q) (out ++ [(d.1, pl, scanC C d out (-1) 0 C)]) := by
  have hgd : a2.getD p.length ((⟨#[]⟩ : ByteArray), 0) = d := by rw [h2]; exact getD_mid p d q _
  refine list_loop (l := C) (fun k (s : Int) i => ref_Slots.l1 N pl C k1 a2 out (p.length : Int) k s i)
    (fun pre r s => bif decide (scanC C d out s pre.length r < 0) then some ([], 18) else ref_Slots.l0 N pl C k1 (p ++ q) (out ++ [(d.1, pl, scanC C d out s pre.length r)])) (fun _ _ => True)
    (fun k s _ => ?_) (fun k pre x r s h _ ih => ?_) N (-1) trivial (by omega)
  · show ref_Slots.l1 N pl C k1 a2 out (p.length : Int) (k + 1) s (C.length : Int) = _
    rw [ref_Slots.l1_nil]
    have hw : w ((p.length : Int) + 1) = (p.length : Int) + 1 := by
      have : p.length < a2.length := by rw [h2]; simp
      rw [w_small] <;> omega
    have e1 : (List.take (Int.toNat (p.length : Int)) a2) ++ (List.take (a2.length - (Int.toNat (w ((p.length : Int) + 1)))) (List.drop (0 + (Int.toNat (w ((p.length : Int) + 1)))) a2)) = p ++ q := by
      rw [hw, h2, show Int.toNat ((p.length : Int) + 1) = p.length + 1 by omega, Int.toNat_natCast, Nat.zero_add]
      simp
      rw [List.take_of_length_le (by omega)]
    have e2 : (decide ((out.length + 1) * 40 ≤ 140737488355328) && decide (out.length + 1 ≤ maxLen)) = true := by simp [maxLen]; omega
    rw [e1, e2, Int.toNat_natCast, hgd]
    rw [cond_true]
    show _ = bif decide (s < 0) then some ([], 18) else ref_Slots.l0 N pl C k1 (p ++ q) (out ++ [(d.1, pl, s)])
    cases decide (s < 0) <;> rfl
  · show ref_Slots.l1 N pl C k1 a2 out (p.length : Int) (k + 1) s (pre.length : Int) = _
    have hg2 : C.getD pre.length ((0, 0), 0) = x := by rw [h]; exact getD_mid pre x r _
    have hw : w ((pre.length : Int) + 1) = (pre.length : Int) + 1 := w_next h hC
    have hn : (pre ++ [x]).length = pre.length + 1 := by simp
    rw [ref_Slots.l1_cons N pl C k1 a2 out _ k s h hC, count_v hN hC k1 a2 out ho _ k s pre.length, scanC_cons, Int.toNat_natCast, hgd, hg2, hw]
    have i1 := ih x.1.1 trivial
    have i2 := ih d.2 trivial
    have i3 := ih s trivial
    rw [hn] at i1 i2 i3
    rw [i1, i2, i3]
    cases (decide (s < 0) && decide ((cntC C pre.length out : Int) < x.2)) && decide (d.2 < x.1.2) with
    | false => rfl
    | true =>
      simp only [cond_true]
      cases decide (d.2 < x.1.1) <;> rfl
theorem Slots_loop {pl : ByteArray} {C : List Cap} (hC : capsErr C = 0) : ∀ (s a2 : List Dem) (out : List Slt) (k : Nat), s.Perm a2 → (s.Pairwise fun x y => bf x y = true) → (∀ d ∈ a2, 0 ≤ d.2) → a2.length + out.length ≤ 24 → a2.length < k →
    ref_Slots.l0 N pl C k a2 out = some (serve pl s (leftOf C out 0 C) out)
  | [], a2, out, k + 1, hp, _, _, _, _ => by
    have : a2 = [] := hp.symm.eq_nil
    subst this
    rw [ref_Slots.l0_succ]; rfl
  | h :: t, a2, out, k + 1, hp, hs, hd, hlen, hk => by
    obtain ⟨c1, c2, c3⟩ := capsErr_ok hC
    have hne : a2 ≠ [] := fun e => by subst e; exact absurd hp.eq_nil (by simp)
    obtain ⟨p, m, q, hpm, hmin, hsv⟩ := served_v hN (by omega : a2.length < 4611686018427387904) hne
    have hm : m = h := by
      have hmem : m ∈ h :: t := hp.mem_iff.2 (by rw [hpm]; simp)
      rcases List.mem_cons.1 hmem with e | hmt
      · exact e
      · have h1 := List.rel_of_pairwise_cons hs hmt
        have h2 := hmin h (hp.mem_iff.1 (by simp))
        rw [h1] at h2; cases h2
    subst hm
    have hpt : t.Perm (p ++ q) := by
      have h1 : (m :: t).Perm (m :: (p ++ q)) := hp.trans (by rw [hpm]; exact List.perm_middle)
      exact List.Perm.cons_inv h1
    have hpl : p.length < a2.length := by rw [hpm]; simp
    have hl2 : a2.length = p.length + 1 + q.length := by rw [hpm]; simp; omega
    have hw : w ((p.length : Int) + 1) = (p.length : Int) + 1 := by rw [w_small] <;> omega
    rw [ref_Slots.l0_succ, show decide ((a2.length : Int) > 0) = true by rw [decide_eq_true_iff]; omega, cond_true, hsv, Option.bind_some]
    have b1 : (decide (0 ≤ (p.length : Int)) && decide ((p.length : Int) < (a2.length : Int))) = true := by simp; omega
    have b2 : decide ((p.length : Int).toNat < a2.length) = true := by rw [decide_eq_true_iff]; omega
    have b3 : (decide (0 ≤ (p.length : Int)) && decide (0 + (p.length : Int).toNat ≤ a2.length)) = true := by simp; omega
    have b4 : (decide ((0 + (List.take (p.length : Int).toNat a2).length) * 24 ≤ 140737488355328) && decide (0 + (List.take (p.length : Int).toNat a2).length ≤ maxLen)) = true := by simp [maxLen]; omega
    have b5 : (decide (0 ≤ w ((p.length : Int) + 1)) && decide (w ((p.length : Int) + 1) ≤ ((a2.length : Nat) : Int))) = true := by rw [hw]; simp; omega
    have b6 : (decide (((List.take (p.length : Int).toNat a2).length + (List.take (a2.length - (w ((p.length : Int) + 1)).toNat) (List.drop (0 + (w ((p.length : Int) + 1)).toNat) a2)).length) * 24 ≤ 140737488355328) && decide ((List.take (p.length : Int).toNat a2).length + (List.take (a2.length - (w ((p.length : Int) + 1)).toNat) (List.drop (0 + (w ((p.length : Int) + 1)).toNat) a2)).length ≤ maxLen)) = true := by
      simp only [List.length_take, List.length_drop, Bool.and_eq_true, decide_eq_true_iff, maxLen]; omega
    rw [b1, cond_true, b2, cond_true, b3, cond_true, b4, cond_true, b5, cond_true, b6, cond_true, place_v hN (by omega) k a2 hpm (by omega) out (by omega), serve_cons]
    rcases take_step (C := C) (d := m) out c3 c2 (hd m (by rw [hpm]; simp)) C [] rfl with ⟨q1, q2⟩ | ⟨t', q1, _, q3, q4⟩
    · have q1 : take1 m (leftOf C out 0 C) = none := q1
      have q2 : scanC C m out (-1) 0 C = -1 := q2
      rw [q1, q2]; rfl
    · have q3 := q3 m.1 pl
      have q3 : take1 m (leftOf C out 0 C) = some (leftOf C (out ++ [(m.1, pl, t')]) 0 C, t') := q3
      have q4 : scanC C m out (-1) 0 C = t' := q4
      rw [q3, q4, show decide (t' < 0) = false by rw [decide_eq_false_iff_not]; omega, cond_false]
      exact Slots_loop hC t (p ++ q) _ k hpt (List.Pairwise.of_cons hs) (fun d hd' => hd d (by rw [hpm]; simp only [List.mem_append, List.mem_cons] at hd' ⊢; rcases hd' with h | h; exact .inl h; exact .inr (.inr h))) (by simp at hlen ⊢; omega) (by simp; omega)
theorem ref_Slots.v {pl : ByteArray} {l : List Dem} {C : List Cap} (hd : demsErr l = 0) (hC : capsErr C = 0) : ref_Slots.fn N (pl, l, C) = some (serve pl (srt N l) C []) := by
  obtain ⟨d1, d2, d3⟩ := demsErr_ok hd
  obtain ⟨s1, s2⟩ := srt_spec hN d3
  rw [ref_Slots.eq, show (decide ((0 + l.length) * 24 ≤ 140737488355328) && decide (0 + l.length ≤ maxLen)) = true by simp [maxLen]; omega, cond_true]
  have := Slots_loop hN (pl := pl) hC (srt N l) l [] N s1 s2 (fun d hd => (d2 d hd).2.1) (by simpa using d1) (by omega)
  rw [leftOf_nil] at this
  exact this
end

/-! ### delays -/
abbrev s0 : Slt := ((⟨#[]⟩ : ByteArray), ((⟨#[]⟩ : ByteArray), 0))
def fndS (s : List Slt) (c : ByteArray) : Int := idxL (fun x => seq x.1 c) s 0
theorem fndS_cases (s : List Slt) (c : ByteArray) : fndS s c = -1 ∨ ∃ n : Nat, n < s.length ∧ fndS s c = (n : Int) := by
  rcases idx_spec (fun x : Slt => seq x.1 c) s with ⟨h, _⟩ | ⟨pre, x, r, h, h2, _, _⟩
  · exact .inl h
  · exact .inr ⟨pre.length, by rw [h]; simp, h2⟩
def dlys (s : List Slt) : List Dem → List Int → List Int × Int
  | [], out => (out, 0)
  | d :: r, out => bif decide (fndS s d.1 < 0) then ([], 8) else
      bif decide ((s.getD (fndS s d.1).toNat s0).2.2 < d.2) || decide ((s.getD (fndS s d.1).toNat s0).2.2 > 200000) then ([], 12) else dlys s r (out ++ [(s.getD (fndS s d.1).toNat s0).2.2 - d.2])
theorem dlys_cons (s : List Slt) (d : Dem) (r : List Dem) (out : List Int) : dlys s (d :: r) out = bif decide (fndS s d.1 < 0) then ([], 8) else
      bif decide ((s.getD (fndS s d.1).toNat s0).2.2 < d.2) || decide ((s.getD (fndS s d.1).toNat s0).2.2 > 200000) then ([], 12) else dlys s r (out ++ [(s.getD (fndS s d.1).toNat s0).2.2 - d.2]) := rfl
def delayE (l : List Dem) (s : List Slt) : List Int × Int := bif !(demsErr l == 0) then ([], demsErr l) else bif decide ((s.length : Int) > 24) then ([], 2) else dlys s l []
theorem dlys_len (s : List Slt) : ∀ (l : List Dem) (out : List Int), (dlys s l out).1.length ≤ out.length + l.length
  | [], out => by show out.length ≤ _; simp
  | d :: r, out => by
    rw [dlys_cons]
    cases decide (fndS s d.1 < 0) with
    | true => simp
    | false =>
      rw [cond_false]
      cases decide ((s.getD (fndS s d.1).toNat s0).2.2 < d.2) || decide ((s.getD (fndS s d.1).toNat s0).2.2 > 200000) with
      | true => simp
      | false =>
        have := dlys_len s r (out ++ [(s.getD (fndS s d.1).toNat s0).2.2 - d.2])
        simp only [cond_false, List.length_append, List.length_cons, List.length_nil] at this ⊢
        omega
theorem delayE_len (l : List Dem) (s : List Slt) : (delayE l s).1.length ≤ l.length := by
  unfold delayE
  cases !(demsErr l == 0) with
  | true => simp
  | false =>
    cases decide ((s.length : Int) > 24) with
    | true => simp
    | false => have := dlys_len s l []; simpa using this
theorem delayE_ok {l : List Dem} {s : List Slt} (h : (delayE l s).2 = 0) : demsErr l = 0 ∧ s.length ≤ 24 := by
  unfold delayE at h
  cases hd : demsErr l == 0 with
  | false =>
    rw [hd] at h
    have h : demsErr l = 0 := h
    rw [h] at hd; cases hd
  | true =>
    refine ⟨beq_iff_eq.1 hd, ?_⟩
    rw [hd] at h
    by_cases h24 : (s.length : Int) > 24
    · simp [h24] at h
    · omega
/-- Two slots exchange their times. -/
def swS (s : List Slt) (i k : Nat) : List Slt :=
  List.set (List.set s i ((s.getD i s0).1, ((s.getD i s0).2.1, (s.getD k s0).2.2))) k
    ((List.getD (List.set s i ((s.getD i s0).1, ((s.getD i s0).2.1, (s.getD k s0).2.2))) k s0).1, ((List.getD (List.set s i ((s.getD i s0).1, ((s.getD i s0).2.1, (s.getD k s0).2.2))) k s0).2.1, (s.getD i s0).2.2))
theorem swS_len (s : List Slt) (i k : Nat) : (swS s i k).length = s.length := by simp [swS]
theorem idx_snoc {X : Type} (p : X → Bool) (x : X) : ∀ (l : List X) (i : Int), idxL p (l ++ [x]) i = bif l.any p then idxL p l i else bif p x then i + l.length else -1
  | [], i => by simp [idxL]
  | a :: r, i => by
    simp only [List.cons_append, idxL, List.any_cons]
    cases p a with
    | true => rfl
    | false =>
      simp only [cond_false, Bool.false_or]
      rw [idx_snoc p x r (i + 1)]
      cases r.any p with
      | true => rfl
      | false =>
        cases p x with
        | true => simp only [cond_false, cond_true, List.length_cons]; omega
        | false => rfl
theorem idx_any {X : Type} (p : X → Bool) (l : List X) (h : l.any p = true) : 0 ≤ idxL p l 0 := by
  rcases idx_spec p l with ⟨_, h2⟩ | ⟨pre, x, r, _, h2, _, _⟩
  · rw [List.any_eq_true] at h
    obtain ⟨x, hx, hp⟩ := h
    rw [h2 x hx] at hp; cases hp
  · omega
section
variable {N : Nat} (hN : 4611686018427387904 ≤ N)
include hN
theorem slot_find.v (s : List Slt) (c : ByteArray) (hl : s.length < 4611686018427387904) : slot_find.fn N (s, c) = some (fndS s c) := by
  rw [slot_find.eq]
  exact find_list (l := s) (fun x => seq x.1 c) (fun k i => slot_find.l0 N s c k i) (fun k => slot_find.l0_nil N s c k) (fun k pre x r h => by
    show slot_find.l0 N s c (k + 1) (pre.length : Int) = _
    rw [slot_find.l0_cons N s c k h hl, slot_find_1.eq, Option.bind_some]) N (by omega)
/-- The step of both programs, at a found place. -/
def stepD {α : Type} (s : List Slt) (d : Dem) (i : Int) (bad : Int → Option α) (go : Int → Option α) : Option α :=
  bif decide (i < 0) then bad 8 else bif decide ((s.getD i.toNat s0).2.2 < d.2) || decide ((s.getD i.toNat s0).2.2 > 200000) then bad 12 else go ((s.getD i.toNat s0).2.2 - d.2)
theorem slot_Delays.v (l : List Dem) (s : List Slt) (hl : l.length < 4611686018427387904) (hs : s.length < 4611686018427387904) : slot_Delays.fn N (l, s) = some (delayE l s) := by
  rw [slot_Delays.eq, slot_Check.v hN l hl, Option.bind_some]
  unfold delayE
  cases hd : demsErr l == 0 with
  | false => rfl
  | true =>
    obtain ⟨d1, d2, _⟩ := demsErr_ok (beq_iff_eq.1 hd)
    simp only [Bool.not_true, cond_false]
    by_cases h24 : (s.length : Int) > 24
    · simp [h24]
    simp only [h24, decide_false, cond_false]
    refine list_loop (l := l) (fun k (out : List Int) i => slot_Delays.l0 N l s k i out) (fun _ r out => some (dlys s r out)) (fun p out => out.length = p.length) (fun k out _ => slot_Delays.l0_nil N l s k out) (fun k pre d r out h hI ih => ?_) N [] rfl (by omega)
    have hlen : l.length = pre.length + 1 + r.length := by rw [h]; simp; omega
    have hd0 := d2 d (by rw [h]; simp)
    rw [slot_Delays.l0_cons N l s k out h hl, slot_find.v hN s d.1 hs, Option.bind_some, dlys_cons]
    rcases fndS_cases s d.1 with hf | ⟨n, hn, hf⟩
    · rw [hf]; rfl
    · rw [hf]
      have b1 : decide ((n : Int) < 0) = false := by rw [decide_eq_false_iff_not]; omega
      have b2 : (decide (0 ≤ (n : Int)) && decide ((n : Int) < (s.length : Int))) = true := by simp; omega
      have b3 : (decide ((out.length + 1) * 8 ≤ 140737488355328) && decide (out.length + 1 ≤ maxLen)) = true := by simp [maxLen]; omega
      rw [b1, cond_false, b2, cond_true, Bool.true_or, cond_true, cond_true, b3, cond_true, cond_false]
      cases hb : decide ((s.getD (n : Int).toNat s0).2.2 < d.2) || decide ((s.getD (n : Int).toNat s0).2.2 > 200000) with
      | true => rfl
      | false =>
        simp only [Bool.or_eq_false_iff, decide_eq_false_iff_not] at hb
        have hwb : w ((s.getD (n : Int).toNat s0).2.2 - d.2) = (s.getD (n : Int).toNat s0).2.2 - d.2 := w_small _ (by omega) (by omega)
        rw [cond_false, cond_false, hwb]
        exact ih _ (by simp [hI])
theorem law_down (l : List Dem) (s : List Slt) (k : Nat) (out : List Int) (hs : s.length ≤ 24) {d : Dem} {pre r : List Dem} (h : l = pre ++ d :: r) : ∀ (n k5 : Nat) (a6 : Int), n ≤ s.length → n < k5 →
    law_delays.l1 N l s k (pre.length : Int) out k5 a6 ((n : Int) - 1) = law_delays.l1 N l s k (pre.length : Int) out (k5 - n) (bif (s.take n).any (fun x => seq x.1 d.1) then idxL (fun x => seq x.1 d.1) (s.take n) 0 else a6) (-1)
  | 0, k5, a6, _, _ => by simp
  | n + 1, 0, _, _, hk => by omega
  | n + 1, k5 + 1, a6, hn, hk => by
    have hgd : l.getD pre.length ((⟨#[]⟩ : ByteArray), 0) = d := by rw [h]; exact getD_mid pre d r _
    have e0 : (((n + 1 : Nat) : Int) - 1) = (n : Int) := by omega
    have b1 : decide ((n : Int) ≥ 0) = true := by rw [decide_eq_true_iff]; omega
    have b2 : decide ((n : Int) < (s.length : Int)) = true := by rw [decide_eq_true_iff]; omega
    have hw : w ((n : Int) - 1) = (n : Int) - 1 := by rw [w_small] <;> omega
    rw [e0, law_delays.l1_clean, b1, cond_true, Bool.true_and, b2, cond_true, hw]
    simp only [Int.toNat_natCast, hgd]
    have htk : s.take (n + 1) = s.take n ++ [s.getD n s0] := by
      rw [List.take_add_one, List.getD_eq_getElem?_getD, List.getElem?_eq_getElem (by omega)]; rfl
    have e2 : k5 + 1 - (n + 1) = k5 - n := by omega
    have hlt : (s.take n).length = n := by simp; omega
    rw [htk, List.any_append, idx_snoc, hlt, e2]
    rw [law_down l s k out hs h n k5 (n : Int) (by omega) (by omega), law_down l s k out hs h n k5 a6 (by omega) (by omega)]
    cases (s.take n).any (fun x => seq x.1 d.1) with
    | true => cases seq (s.getD n s0).1 d.1 <;> rfl
    | false =>
      simp only [List.any_cons, List.any_nil, Bool.or_false, Bool.false_or, cond_false, Int.zero_add]
      cases seq (s.getD n s0).1 d.1 <;> rfl
theorem law_delays.v (l : List Dem) (s : List Slt) (hl : l.length < 4611686018427387904) (hs : s.length < 4611686018427387904) : law_delays.fn N (l, s) = some (delayE l s) := by
  rw [law_delays.eq, ref_DemandsError.v hN l hl, Option.bind_some]
  unfold delayE
  cases hd : demsErr l == 0 with
  | false => rfl
  | true =>
    obtain ⟨d1, d2, _⟩ := demsErr_ok (beq_iff_eq.1 hd)
    simp only [Bool.not_true, cond_false]
    by_cases h24 : (s.length : Int) > 24
    · simp [h24]
    simp only [h24, decide_false, cond_false]
    refine list_loop (l := l) (fun k (out : List Int) i => law_delays.l0 N l s k i out) (fun _ r out => some (dlys s r out)) (fun p out => out.length = p.length) (fun k out _ => law_delays.l0_nil N l s k out) (fun k pre d r out h hI ih => ?_) N [] rfl (by omega)
    have hlen : l.length = pre.length + 1 + r.length := by rw [h]; simp; omega
    have hd0 := d2 d (by rw [h]; simp)
    have hw0 : w ((s.length : Int) - 1) = (s.length : Int) - 1 := by rw [w_small] <;> omega
    have hgd : l.getD pre.length ((⟨#[]⟩ : ByteArray), 0) = d := by rw [h]; exact getD_mid pre d r _
    rw [law_delays.l0_cons N l s k out h hl, hw0, law_down hN l s k out (by omega) h s.length N (-1) (Nat.le_refl _) (by omega), List.take_length, dlys_cons]
    obtain ⟨M, hM⟩ : ∃ M, N - s.length = M + 1 := ⟨N - s.length - 1, by omega⟩
    have hidx : (bif s.any (fun x => seq x.1 d.1) then idxL (fun x => seq x.1 d.1) s 0 else -1) = fndS s d.1 := by
      unfold fndS
      cases ha : s.any (fun x => seq x.1 d.1) with
      | true => rfl
      | false =>
        rcases idx_spec (fun x : Slt => seq x.1 d.1) s with ⟨h1, _⟩ | ⟨p, x, q, h1, _, h3, _⟩
        · rw [h1]; rfl
        · rw [List.any_eq_false] at ha
          exact absurd h3 (ha x (by rw [h1]; simp))
    rw [hidx, hM, law_delays.l1_clean, show decide ((-1 : Int) ≥ 0) = false from rfl, cond_false]
    rcases fndS_cases s d.1 with hf | ⟨n, hn, hf⟩
    · rw [hf]; rfl
    · rw [hf]
      have b1 : decide ((n : Int) < 0) = false := by rw [decide_eq_false_iff_not]; omega
      have b2 : (decide (0 ≤ (n : Int)) && decide ((n : Int) < (s.length : Int))) = true := by simp; omega
      have b3 : (decide ((out.length + 1) * 8 ≤ 140737488355328) && decide (out.length + 1 ≤ maxLen)) = true := by simp [maxLen]; omega
      rw [b1, cond_false, b2, cond_true, Bool.true_or, cond_true, cond_true, b3, cond_true, cond_false]
      simp only [Int.toNat_natCast (n := pre.length), hgd]
      cases hb : decide ((s.getD (n : Int).toNat s0).2.2 < d.2) || decide ((s.getD (n : Int).toNat s0).2.2 > 200000) with
      | true => rfl
      | false =>
        simp only [Bool.or_eq_false_iff, decide_eq_false_iff_not] at hb
        rw [cond_false, cond_false, w_small ((s.getD (n : Int).toNat s0).2.2 - d.2) (by omega) (by omega), w_next h hl]
        exact ih _ (by simp [hI])
def swapE (l : List Dem) (s : List Slt) (a b : ByteArray) : List Slt × Int :=
  bif !((delayE l s).2 == 0) then ([], (delayE l s).2) else
    bif decide (fndS s a < 0) || decide (fndS s b < 0) then ([], 8) else
      bif !((delayE l (swS s (fndS s a).toNat (fndS s b).toNat)).2 == 0) then ([], 12) else (swS s (fndS s a).toNat (fndS s b).toNat, 0)
theorem slot_Swap.v (l : List Dem) (s : List Slt) (a b : ByteArray) (hl : l.length < 4611686018427387904) (hs : s.length < 4611686018427387904) : slot_Swap.fn N (l, s, a, b) = some (swapE l s a b) := by
  rw [slot_Swap.clean, slot_Delays.v hN l s hl hs, Option.bind_some]
  unfold swapE
  cases hd : (delayE l s).2 == 0 with
  | false => rfl
  | true =>
    obtain ⟨_, h24⟩ := delayE_ok (beq_iff_eq.1 hd)
    rw [slot_find.v hN s a hs, Option.bind_some, slot_find.v hN s b hs, Option.bind_some]
    simp only [Bool.not_true, cond_false]
    rcases fndS_cases s a with hf | ⟨n, hn, hf⟩
    · rw [hf]; rfl
    rcases fndS_cases s b with hg | ⟨m, hm, hg⟩
    · rw [hf, hg, show (decide ((n : Int) < 0) || decide ((-1 : Int) < 0)) = true by simp]; rfl
    rw [hf, hg]
    have b1 : (decide ((n : Int) < 0) || decide ((m : Int) < 0)) = false := by simp
    have b2 : (decide (0 ≤ (n : Int)) && decide ((n : Int) < (s.length : Int))) = true := by simp; omega
    have b3 : (decide (0 ≤ (m : Int)) && decide ((m : Int) < (s.length : Int))) = true := by simp; omega
    have b4 : decide (n < s.length) = true := decide_eq_true hn
    have b5 : decide (m < s.length) = true := decide_eq_true hm
    rw [b1, slices_Clone_Slot.v N s (by omega), Option.bind_some]
    simp -implicitDefEqProofs only [cond_false, b2, b3, cond_true, Int.toNat_natCast, List.length_set, b4, b5]
    have := slot_Delays.v hN l (swS s n m) hl (by rw [swS_len]; exact hs)
    unfold swS s0 at this
    rw [this, Option.bind_some]
    show (bif !((delayE l (swS s n m)).2 == 0) then _ else _) = _
    cases (delayE l (swS s n m)).2 == 0 <;> rfl
end

/-! ### Release -/
noncomputable def asgE (N : Nat) (pl : ByteArray) (l : List Dem) (c : List Cap) : List Slt × Int :=
  bif !isName pl then ([], 3) else bif !(demsErr l == 0) then ([], demsErr l) else bif !(capsErr c == 0) then ([], capsErr c) else serve pl (srt N l) c []
def slotsE (pl : ByteArray) (l : List Dem) (c : List Cap) : Int := bif !isName pl then 3 else bif !(demsErr l == 0) then demsErr l else capsErr c
theorem asgE_slots {N : Nat} {pl : ByteArray} {l : List Dem} {c : List Cap} : asgE N pl l c = bif slotsE pl l c == 0 then serve pl (srt N l) c [] else ([], slotsE pl l c) := by
  unfold asgE slotsE
  cases isName pl with
  | false => rfl
  | true =>
    cases hd : demsErr l == 0 with
    | false => simp [hd]
    | true =>
      cases he : capsErr c == 0 with
      | false => simp [he]
      | true => simp [he]
theorem slotsE_ok {pl : ByteArray} {l : List Dem} {c : List Cap} (h : slotsE pl l c = 0) : isName pl = true ∧ demsErr l = 0 ∧ capsErr c = 0 := by
  unfold slotsE at h
  cases hn : isName pl with
  | false => rw [hn] at h; cases h
  | true =>
    rw [hn] at h
    cases hd : demsErr l == 0 with
    | false =>
      rw [hd] at h
      have h : demsErr l = 0 := h
      rw [h] at hd; cases hd
    | true => rw [hd] at h; exact ⟨rfl, beq_iff_eq.1 hd, h⟩
theorem demsE_of : ∀ {l p : List Dem}, (∀ x ∈ l, isName x.1 = true ∧ 0 ≤ x.2 ∧ x.2 ≤ 200000 ∧ ∀ y ∈ p, y.1 ≠ x.1) → (l.Pairwise fun x y => x.1 ≠ y.1) → demsE p l = 0
  | [], _, _, _ => rfl
  | a :: r, p, h, hp => by
    have ha := h a (by simp)
    have h1 : (decide (a.2 < 0) || decide (a.2 > 200000)) = false := by simp; omega
    have h2 : p.any (fun y => seq y.1 a.1) = false := by
      rw [List.any_eq_false]
      exact fun y hy e => ha.2.2.2 y hy (sq_iff.1 e)
    rw [demsE_cons, ha.1, h1, h2]
    refine demsE_of (fun x hx => ?_) (List.Pairwise.of_cons hp)
    have hx' := h x (by simp [hx])
    refine ⟨hx'.1, hx'.2.1, hx'.2.2.1, fun y hy => ?_⟩
    rcases List.mem_append.1 hy with hy | hy
    · exact hx'.2.2.2 y hy
    · rw [List.mem_singleton] at hy
      subst hy
      exact List.rel_of_pairwise_cons hp hx
theorem demsErr_sub {l m : List Dem} (h : demsErr l = 0) (hs : m.Sublist l) : demsErr m = 0 := by
  obtain ⟨h1, h2, h3⟩ := demsErr_ok h
  have hl := hs.length_le
  unfold demsErr
  rw [show decide ((m.length : Int) > 24) = false by rw [decide_eq_false_iff_not]; omega, cond_false]
  exact demsE_of (fun x hx => by
    have := h2 x (hs.subset hx)
    exact ⟨this.1, this.2.1, this.2.2, fun y hy => by cases hy⟩) (h3.sublist hs)
def rest (call : ByteArray) (l : List Dem) : List Dem := l.filter fun d => !seq d.1 call
noncomputable def relE (N : Nat) (pl call : ByteArray) (l : List Dem) (c : List Cap) : List Slt × Int :=
  bif !((asgE N pl l c).2 == 0) then ([], (asgE N pl l c).2) else bif l.any (fun d => seq d.1 call) then asgE N pl (rest call l) c else ([], 8)
theorem rest_split {call : ByteArray} {pre r : List Dem} {x : Dem} (hp : (pre ++ x :: r).Pairwise fun x y => x.1 ≠ y.1) (hx : seq x.1 call = true) : rest call (pre ++ x :: r) = pre ++ r := by
  have hx := sq_iff.1 hx
  subst hx
  unfold rest
  rw [List.filter_append, List.filter_cons, seq_self]
  have h1 : pre.filter (fun d => !seq d.1 x.1) = pre := List.filter_eq_self.2 fun a ha => by
    have := (List.pairwise_append.1 hp).2.2 a ha x (by simp)
    rw [seq_ff.2 this]; rfl
  have h2 : r.filter (fun d => !seq d.1 x.1) = r := List.filter_eq_self.2 fun a ha => by
    have := List.rel_of_pairwise_cons (List.pairwise_append.1 hp).2.1 ha
    rw [seq_ff.2 (Ne.symm this)]; rfl
  rw [h1, h2]; rfl
section
variable {N : Nat} (hN : 4611686018427387904 ≤ N)
include hN
theorem slot_Release.v {pl call : ByteArray} {l : List Dem} {c : List Cap} (hl : l.length < 4611686018427387904) (hc : c.length < 4611686018427387904) :
    slot_Release.fn N (pl, call, l, c) = some (relE N pl call l c) := by
  have hA : slot_Assign.fn N (pl, l, c) = some (asgE N pl l c) := slot_Assign.v hN hl hc
  rw [slot_Release.eq, hA, Option.bind_some]
  unfold relE
  cases hz : (asgE N pl l c).2 == 0 with
  | false => rfl
  | true =>
    simp only [Bool.not_true, cond_false]
    have hdem : demsErr l = 0 := by
      rw [asgE_slots] at hz
      cases hs : slotsE pl l c == 0 with
      | true => exact (slotsE_ok (beq_iff_eq.1 hs)).2.1
      | false =>
        rw [hs, cond_false] at hz
        have hz : (slotsE pl l c == 0) = true := hz
        rw [hz] at hs; cases hs
    obtain ⟨d1, d2, d3⟩ := demsErr_ok hdem
    generalize hA' : asgE N pl l c = A
    have key := list_loop (l := l) (fun k (_ : Unit) i => slot_Release.l0 N pl call l c A k i) (fun p r _ => some (bif r.any (fun d => seq d.1 call) then asgE N pl (rest call l) c else ([], 8))) (fun _ _ => True)
      (fun k s _ => slot_Release.l0_nil N pl call l c A k) (fun k pre x r s h _ ih => ?_) N () trivial (by omega)
    · exact key
    · have ih := ih () trivial
      have hlen : l.length = pre.length + 1 + r.length := by rw [h]; simp; omega
      have hgd : l.getD pre.length ((⟨#[]⟩ : ByteArray), 0) = x := by rw [h]; exact getD_mid pre x r _
      refine (slot_Release.l0_succ N pl call l c A k (pre.length : Int)).trans ?_
      rw [show decide ((pre.length : Int) < (l.length : Int)) = true by rw [decide_eq_true_iff]; omega, cond_true, Bool.and_true, show decide (0 ≤ (pre.length : Int)) = true by rw [decide_eq_true_iff]; omega, cond_true]
      rw [Int.toNat_natCast, hgd, slot_Release_1.eq, Option.bind_some]
      cases hx : seq x.1 call with
      | false =>
        rw [cond_false, w_next h hl]
        refine ih.trans ?_
        simp only [List.any_cons, hx, Bool.false_or]
      | true =>
        rw [cond_true, show decide ((pre.length : Int) < 0) = false by rw [decide_eq_false_iff_not]; omega, cond_false, slices_Clone_SlotDemand.v N l (by omega), Option.bind_some]
        refine (delK_eq ((⟨#[]⟩ : ByteArray), (0 : Int)) (B := 24) (i := (pre.length : Int)) (fun m => (slot_Assign.fn N (pl, m, c)).bind fun r7 => some (r7.1, r7.2)) h rfl (by omega) (by omega)).trans ?_
        have hr : rest call l = pre ++ r := by rw [h]; exact rest_split (by rw [← h]; exact d3) hx
        rw [slot_Assign.v hN (by simp; omega) hc, Option.bind_some]
        simp only [List.any_cons, hx, Bool.true_or, cond_true, hr]
        rfl
end

/-! ### the fact -/
abbrev rwy : ByteArray := ⟨#[82, 87, 89]⟩
abbrev nA : ByteArray := ⟨#[65, 49]⟩
abbrev nB : ByteArray := ⟨#[66, 50]⟩
theorem sltEq (p q : Slt) : ((seq (p.1) (q.1)) && ((seq ((p.2).1) ((q.2).1)) && ((((p.2).2) == ((q.2).2)) && true))) = true ↔ p = q := by
  simp only [Bool.and_eq_true, sq_iff, beq_iff_eq, and_true]
  constructor
  · rintro ⟨h1, h2, h3⟩
    exact Prod.ext h1 (Prod.ext h2 h3)
  · rintro rfl; exact ⟨rfl, rfl, rfl⟩
theorem caps_v (N : Nat) : law_caps.fn N () = some [((0, 10), 1), ((10, 20), 1)] := law_caps.eq N
section
variable {N : Nat} (hN : 4611686018427387904 ≤ N)
include hN
theorem srt_eq {l s : List Dem} (ap : l.Pairwise fun x y => x.1 ≠ y.1) (hp : s.Perm l) (hs : s.Pairwise fun x y => bf x y = true) : srt N l = s :=
  sorted_one bf_ok ((srt_spec hN ap).1.trans hp.symm) (srt_spec hN ap).2 hs
theorem fact_srt : srt N [(nB, 4), (nA, 3)] = [(nA, 3), (nB, 4)] :=
  srt_eq hN (by simp) (List.Perm.swap ..) (by simp; decide)
theorem fact_srt1 : srt N [(nB, 4)] = [(nB, 4)] := srt_eq hN (by simp) (List.Perm.refl _) (by simp)
theorem law_slotFact.v : law_slotFact.fn N () = some true := by
  have hA : asgE N rwy [(nB, 4), (nA, 3)] [((0, 10), 1), ((10, 20), 1)] = ([(nA, rwy, 3), (nB, rwy, 10)], 0) := by
    unfold asgE; rw [fact_srt hN]; rfl
  have hA' : asgE N rwy [(nB, 4)] [((0, 10), 1), ((10, 20), 1)] = ([(nB, rwy, 4)], 0) := by
    unfold asgE; rw [fact_srt1 hN]; rfl
  have e1 : slot_Assign.fn N (rwy, [(nB, 4), (nA, 3)], [((0, 10), 1), ((10, 20), 1)]) = some ([(nA, rwy, 3), (nB, rwy, 10)], 0) := (slot_Assign.v hN (by simp) (by simp)).trans (congrArg some hA)
  have e2 : slot_Delays.fn N ([(nB, 4), (nA, 3)], [(nA, rwy, 3), (nB, rwy, 10)]) = some ([6, 0], 0) := slot_Delays.v hN _ _ (by simp) (by simp)
  have e3 : slot_Release.fn N (rwy, nA, [(nB, 4), (nA, 3)], [((0, 10), 1), ((10, 20), 1)]) = some ([(nB, rwy, 4)], 0) := by
    refine (slot_Release.v hN (by simp) (by simp)).trans ?_
    unfold relE
    rw [hA]
    exact congrArg some hA'
  have e4 : slot_Swap.fn N ([(nB, 4), (nA, 3)], [(nA, rwy, 3), (nB, rwy, 10)], nA, nB) = some ([], 12) := slot_Swap.v hN _ _ _ _ (by simp) (by simp)
  have e5 := slices_Equal_Slot.self hN [(nA, rwy, (3 : Int)), (nB, rwy, 10)] (by simp)
  have e6 := slices_Equal_int.self hN [(6 : Int), 0] (by simp)
  have e7 := slices_Equal_Slot.self hN [(nB, rwy, (4 : Int))] (by simp)
  have e8 : slot_Name.fn N nA = some true := slot_Name.v hN nA
  have e9 : slot_Check.fn N [(nB, 4), (nA, 3), (nB, 4), (nA, 3)] = some 7 := slot_Check.v hN _ (by simp)
  rw [law_slotFact.eq, caps_v, Option.bind_some, e1, Option.bind_some, e2, Option.bind_some, Option.bind_some, e3, Option.bind_some, e4, Option.bind_some]
  simp -implicitDefEqProofs only [beq_self_eq_true, cond_true, e5, e6, e7, e8, e9, Option.bind_some]
end

/-! ### the laws -/
section
variable {N : Nat} (hN : 4611686018427387904 ≤ N)
include hN
theorem law_slotsError.v {pl : ByteArray} {l : List Dem} {c : List Cap} (hl : l.length < 4611686018427387904) (hc : c.length < 4611686018427387904) : law_slotsError.fn N (pl, l, c) = some (slotsE pl l c) := by
  rw [law_slotsError.eq, ref_IsName.v hN, Option.bind_some, ref_DemandsError.v hN l hl, Option.bind_some, ref_CapsError.v hN hc, Option.bind_some]
  unfold slotsE
  cases isName pl with
  | false => rfl
  | true => cases demsErr l == 0 <;> rfl
theorem eq_self (s : List Slt) (h : s.length ≤ 24) : slices_Equal_Slot.fn N (s, s) = some true := slices_Equal_Slot.self hN s (by omega)
theorem serve_le {pl : ByteArray} {l : List Dem} {c : List Cap} (hd : demsErr l = 0) : (serve pl (srt N l) c []).1.length ≤ 24 := by
  obtain ⟨d1, d2, d3⟩ := demsErr_ok hd
  have := serve_len (pl := pl) (srt N l) c []
  have h2 := (srt_spec hN d3).1.length_eq
  simp only [List.length_nil, Nat.zero_add] at this
  omega
theorem SlotAssigns.pureN (pl : ByteArray) (l : List Dem) (c : List Cap) (hl : l.length < 4611686018427387904) (hc : c.length < 4611686018427387904) : law_SlotAssigns.fn N (pl, l, c) = some true := by
  have hA : slot_Assign.fn N (pl, l, c) = some (asgE N pl l c) := slot_Assign.v hN hl hc
  rw [law_SlotAssigns.clean, law_slotFact.v hN, Option.bind_some, hA, Option.bind_some, slot_Check.v hN l hl, Option.bind_some, ref_DemandsError.v hN l hl, Option.bind_some, slot_Name.v hN, ref_IsName.v hN, law_slotsError.v hN hl hc]
  simp -implicitDefEqProofs only [Bool.not_true, cond_false, beq_self_eq_true, Bool.not_false, cond_true, Option.bind_some, Bool.or_self]
  rw [asgE_slots]
  cases hs : slotsE pl l c == 0 with
  | true =>
    obtain ⟨h1, h2, h3⟩ := slotsE_ok (beq_iff_eq.1 hs)
    rw [cond_true, cond_true, ref_Slots.v hN h2 h3, Option.bind_some]
    simp only [beq_self_eq_true, cond_true]
    rw [eq_self hN _ (serve_le hN h2)]
    rfl
  | false =>
    rw [cond_false, cond_false]
    simp only [beq_self_eq_true, cond_true]
    rw [eq_self hN _ (by simp)]
    rfl
end
theorem first_eq {X : Type} (p : X → Bool) : ∀ {a b r q : List X} {x y : X}, a ++ x :: r = b ++ y :: q → (∀ z ∈ a, p z = false) → p x = true → (∀ z ∈ b, p z = false) → p y = true → b.length = a.length
  | [], [], _, _, _, _, _, _, _, _, _ => rfl
  | [], c :: b, _, _, x, _, h, _, hx, hb, _ => by
    simp only [List.nil_append, List.cons_append, List.cons.injEq] at h
    have := hb c (by simp)
    rw [← h.1, hx] at this; cases this
  | c :: a, [], _, _, _, y, h, ha, _, _, hy => by
    simp only [List.nil_append, List.cons_append, List.cons.injEq] at h
    have := ha c (by simp)
    rw [h.1, hy] at this; cases this
  | c :: a, d :: b, _, _, _, _, h, ha, hx, hb, hy => by
    simp only [List.cons_append, List.cons.injEq] at h
    have := first_eq p h.2 (fun z hz => ha z (by simp [hz])) hx (fun z hz => hb z (by simp [hz])) hy
    simp [this]
section
variable {N : Nat} (hN : 4611686018427387904 ≤ N)
include hN
theorem SlotDelays.pureN (l : List Dem) (s : List Slt) (a b : ByteArray) (hl : l.length < 4611686018427387904) (hs : s.length < 4611686018427387904) : law_SlotDelays.fn N (l, s, a, b) = some true := by
  rw [law_SlotDelays.clean, law_slotFact.v hN, Option.bind_some, slot_Delays.v hN l s hl hs, Option.bind_some, slot_Swap.v hN l s a b hl hs, Option.bind_some, law_delays.v hN l s hl hs, Option.bind_some]
  have hE := slices_Equal_int.self hN (delayE l s).1 (Nat.lt_of_le_of_lt (delayE_len l s) hl)
  simp -implicitDefEqProofs only [Bool.not_true, cond_false, beq_self_eq_true, Bool.not_false, cond_true, hE, Option.bind_some, Bool.or_self]
  cases hd : (delayE l s).2 == 0 with
  | false =>
    have : swapE l s a b = ([], (delayE l s).2) := by unfold swapE; rw [hd]; rfl
    rw [this]
    simp
  | true =>
    obtain ⟨hdem, h24⟩ := delayE_ok (beq_iff_eq.1 hd)
    have hsw : swapE l s a b = bif decide (fndS s a < 0) || decide (fndS s b < 0) then ([], 8) else
      bif !((delayE l (swS s (fndS s a).toNat (fndS s b).toNat)).2 == 0) then ([], 12) else (swS s (fndS s a).toNat (fndS s b).toNat, 0) := by unfold swapE; rw [hd]; rfl
    simp only [Bool.not_true, cond_false]
    generalize hR3 : swapE l s a b = R3 at hsw ⊢
    generalize hR2 : delayE l s = R2
    have l2 : ∀ k i, law_SlotDelays.l2 N l s a b true R2 R3 R2 true k i = law_SlotDelays.l2 N l s a b true R2 R3 R2 true k i := fun _ _ => rfl
    have hfa : ∀ (pre r : List Slt) (x : Slt), s = pre ++ x :: r → (∀ y ∈ pre, seq y.1 a = false) → seq x.1 a = true → fndS s a = (pre.length : Int) := by
      intro pre r x h h1 h2
      rcases idx_spec (fun y : Slt => seq y.1 a) s with ⟨_, h3⟩ | ⟨p2, x2, r2, h4, h5, h6, h7⟩
      · have := h3 x (by rw [h]; simp); rw [this] at h2; cases h2
      · show idxL _ s 0 = _
        rw [h5]
        have := first_eq (fun y : Slt => seq y.1 a) (h.symm.trans h4) h1 h2 h7 h6
        rw [this]
    have hfb : ∀ (pre r : List Slt) (x : Slt), s = pre ++ x :: r → (∀ y ∈ pre, seq y.1 b = false) → seq x.1 b = true → fndS s b = (pre.length : Int) := by
      intro pre r x h h1 h2
      rcases idx_spec (fun y : Slt => seq y.1 b) s with ⟨_, h3⟩ | ⟨p2, x2, r2, h4, h5, h6, h7⟩
      · have := h3 x (by rw [h]; simp); rw [this] at h2; cases h2
      · show idxL _ s 0 = _
        rw [h5]
        have := first_eq (fun y : Slt => seq y.1 b) (h.symm.trans h4) h1 h2 h7 h6
        rw [this]
    -- the first place is there or not
    refine list_loop (l := s) (fun k (_ : Unit) i => law_SlotDelays.l0 N l s a b true R2 R3 R2 true k i) (fun _ _ _ => some true) (fun p _ => ∀ y ∈ p, seq y.1 a = false)
      (fun k u hI => ?_) (fun k pre x r u h hI ih => ?_) N () (fun y hy => by cases hy) (by omega)
    · -- none
      have hna : fndS s a = -1 := by
        rcases idx_spec (fun y : Slt => seq y.1 a) s with ⟨h3, _⟩ | ⟨p2, x2, r2, h4, h5, h6, h7⟩
        · exact h3
        · have := hI x2 (by rw [h4]; simp); rw [this] at h6; cases h6
      have hR : R3 = ([], 8) := by rw [hsw, hna]; rfl
      show law_SlotDelays.l0 N l s a b true R2 R3 R2 true (k + 1) (s.length : Int) = some true
      rw [law_SlotDelays.l0_nil, hR]
      refine list_loop (l := s) (fun k (_ : Unit) i => law_SlotDelays.l2 N l s a b true R2 ([], 8) R2 true k i) (fun _ _ _ => some true) (fun _ _ => True)
        (fun k u _ => ?_) (fun k pre x r u h _ ih => ?_) N () trivial (by omega)
      · show law_SlotDelays.l2 N l s a b true R2 ([], 8) R2 true (k + 1) (s.length : Int) = _
        rw [law_SlotDelays.l2_nil]; rfl
      · show law_SlotDelays.l2 N l s a b true R2 ([], 8) R2 true (k + 1) (pre.length : Int) = _
        rw [law_SlotDelays.l2_cons N l s a b true R2 ([], 8) R2 true k h hs, law_SlotDelays_2.eq, Option.bind_some, ih () trivial]
        cases seq x.1 b <;> rfl
    · have hlen : s.length = pre.length + 1 + r.length := by rw [h]; simp; omega
      show law_SlotDelays.l0 N l s a b true R2 R3 R2 true (k + 1) (pre.length : Int) = _
      rw [law_SlotDelays.l0_cons N l s a b true R2 R3 R2 true k h hs, law_SlotDelays_1.eq, Option.bind_some]
      cases hx : seq x.1 a with
      | false =>
        rw [cond_false]
        exact ih () (fun y hy => by
          rcases List.mem_append.1 hy with hy | hy
          · exact hI y hy
          · rw [List.mem_singleton] at hy; subst hy; exact hx)
      | true =>
        rw [cond_true]
        have hia := hfa pre r x h hI hx
        have hlt : pre.length < s.length := by omega
        refine list_loop (l := s) (fun k (_ : Unit) i => law_SlotDelays.l1 N l s a b true R2 R3 R2 true (pre.length : Int) k i) (fun _ _ _ => some true) (fun p _ => ∀ y ∈ p, seq y.1 b = false)
          (fun k u hJ => ?_) (fun k pre2 x2 r2 u h2 hJ ih2 => ?_) N () (fun y hy => by cases hy) (by omega)
        · have hnb : fndS s b = -1 := by
            rcases idx_spec (fun y : Slt => seq y.1 b) s with ⟨h3, _⟩ | ⟨p2, x2, r2, h4, h5, h6, h7⟩
            · exact h3
            · have := hJ x2 (by rw [h4]; simp); rw [this] at h6; cases h6
          have hR : R3 = ([], 8) := by rw [hsw, hnb]; simp
          show law_SlotDelays.l1 N l s a b true R2 R3 R2 true (pre.length : Int) (k + 1) (s.length : Int) = some true
          rw [law_SlotDelays.l1_nil, hR]
          cases decide ((pre.length : Int) < 0) <;> rfl
        · have hlen2 : s.length = pre2.length + 1 + r2.length := by rw [h2]; simp; omega
          show law_SlotDelays.l1 N l s a b true R2 R3 R2 true (pre.length : Int) (k + 1) (pre2.length : Int) = _
          rw [law_SlotDelays.l1_cons N l s a b true R2 R3 R2 true (pre.length : Int) k h2 hs, law_SlotDelays_2.eq, Option.bind_some]
          cases hx2 : seq x2.1 b with
          | false =>
            rw [cond_false]
            exact ih2 () (fun y hy => by
              rcases List.mem_append.1 hy with hy | hy
              · exact hJ y hy
              · rw [List.mem_singleton] at hy; subst hy; exact hx2)
          | true =>
            have hib := hfb pre2 r2 x2 h2 hJ hx2
            have hgx2 : s.getD pre2.length ((⟨#[]⟩ : ByteArray), ((⟨#[]⟩ : ByteArray), 0)) = x2 := by rw [h2]; exact getD_mid pre2 x2 r2 _
            have b1 : (decide ((pre.length : Int) < 0) || decide ((pre2.length : Int) < 0)) = false := by simp
            have b2 : (decide (0 ≤ (pre.length : Int)) && decide ((pre.length : Int) < (s.length : Int))) = true := by simp; omega
            have b3 : decide ((pre2.length : Int) < (s.length : Int)) = true := by rw [decide_eq_true_iff]; omega
            have b4 : decide (pre.length < s.length) = true := decide_eq_true hlt
            have b5 : decide (pre2.length < s.length) = true := by rw [decide_eq_true_iff]; omega
            have hR : R3 = bif !((delayE l (swS s pre.length pre2.length)).2 == 0) then ([], 12) else (swS s pre.length pre2.length, 0) := by
              rw [hsw, hia, hib, b1]; rfl
            rw [cond_true, b1, cond_false, slices_Clone_Slot.v N s (by omega), Option.bind_some]
            have hdl := law_delays.v hN l (swS s pre.length pre2.length) hl (by rw [swS_len]; exact hs)
            unfold swS s0 at hdl
            rw [hgx2] at hdl
            simp -implicitDefEqProofs only [b2, b3, cond_true, Int.toNat_natCast, List.length_set, b4, b5]
            rw [hdl, Option.bind_some]
            have hdE : (delayE l (swS s pre.length pre2.length)) = (delayE l (swS s pre.length pre2.length)) := rfl
            have hsame : ∀ z, swS s pre.length pre2.length = z → (delayE l z).2 = (delayE l (swS s pre.length pre2.length)).2 := fun z e => by rw [e]
            have hz : swS s pre.length pre2.length = List.set (List.set s pre.length ((List.getD s pre.length s0).1, (((List.getD s pre.length s0).2).1, (x2.2).2))) pre2.length ((List.getD (List.set s pre.length ((List.getD s pre.length s0).1, (((List.getD s pre.length s0).2).1, (x2.2).2))) pre2.length s0).1, (((List.getD (List.set s pre.length ((List.getD s pre.length s0).1, (((List.getD s pre.length s0).2).1, (x2.2).2))) pre2.length s0).2).1, ((List.getD s pre.length s0).2).2)) := by
              unfold swS; rw [show s.getD pre2.length s0 = x2 from hgx2]
            rw [← hz, hR]
            cases hq : (delayE l (swS s pre.length pre2.length)).2 == 0 with
            | false => rfl
            | true =>
              simp only [Bool.not_true, cond_false, beq_self_eq_true, cond_true]
              rw [eq_self hN _ (by rw [swS_len]; exact h24)]
              rfl
theorem SlotReleases.pureN (pl call : ByteArray) (l : List Dem) (c : List Cap) (hl : l.length < 4611686018427387904) (hlb : l.length * 24 ≤ 140737488355328) (hc : c.length < 4611686018427387904) : law_SlotReleases.fn N (pl, call, l, c) = some true := by
  obtain ⟨M, hM⟩ : ∃ M, N = M + 1 := ⟨N - 1, by omega⟩
  have hJ : ∀ (R2 : List Slt × Int) (a4 : Int), (∀ m : List Dem, m = rest call l → law_SlotReleases.j2 N pl c R2 m (bif (a4 == 0) && ((m.length : Int) == (l.length : Int)) then 8 else a4) = some true) → law_SlotReleases.j0 N pl call l c R2 a4 = some true := by
    intro R2 a4 h2
    rw [law_SlotReleases.j0_eq (hM := hM)]
    have key := list_loop (l := l) (fun k (m : List Dem) i => law_SlotReleases.l1 N pl call l c R2 a4 k i m) (fun p r m => some true) (fun p m => m = rest call p)
      (fun k m hI => ?_) (fun k pre x r m h hI ih => ?_) N [] rfl (by omega)
    · exact key
    · show law_SlotReleases.l1 N pl call l c R2 a4 (k + 1) (l.length : Int) m = _
      rw [law_SlotReleases.l1_nil]
      have := h2 m hI
      cases hb : (a4 == 0) && ((m.length : Int) == (l.length : Int)) with
      | true => rw [hb] at this; exact this
      | false => rw [hb] at this; exact this
    · have hlen : l.length = pre.length + 1 + r.length := by rw [h]; simp; omega
      show law_SlotReleases.l1 N pl call l c R2 a4 (k + 1) (pre.length : Int) m = _
      have hml : m.length ≤ pre.length := by rw [hI]; exact List.length_filter_le _ _
      have b1 : (decide ((m.length + 1) * 24 ≤ 140737488355328) && decide (m.length + 1 ≤ maxLen)) = true := by simp [maxLen]; omega
      rw [law_SlotReleases.l1_cons N pl call l c R2 a4 k m h hl, b1]
      have hr : rest call (pre ++ [x]) = rest call pre ++ (bif !seq x.1 call then [x] else []) := by
        unfold rest
        rw [List.filter_append]
        cases hx : seq x.1 call <;> simp [hx]
      cases hx : seq x.1 call with
      | false =>
        rw [hx] at hr
        simp only [Bool.not_false, cond_true]
        exact ih _ (by rw [hr, hI]; rfl)
      | true =>
        rw [hx] at hr
        simp only [Bool.not_true, cond_false]
        exact ih _ (by rw [hr, hI]; simp)
  rw [law_SlotReleases.eq, law_slotFact.v hN, Option.bind_some, slot_Release.v hN hl hc, Option.bind_some, law_slotsError.v hN hl hc, Option.bind_some]
  simp only [Bool.not_true, cond_false]
  have hA := asgE_slots (N := N) (pl := pl) (l := l) (c := c)
  cases hs : slotsE pl l c == 0 with
  | false =>
    rw [cond_false]
    rw [hs, cond_false] at hA
    have hR : relE N pl call l c = ([], slotsE pl l c) := by unfold relE; rw [hA]; show (bif !(slotsE pl l c == 0) then _ else _) = _; rw [hs]; rfl
    rw [hR]
    refine hJ _ _ fun m hm => ?_
    rw [hs, Bool.false_and, cond_false, law_SlotReleases.j2_clean (hM := hM), hs]
    simp
  | true =>
    obtain ⟨h1, h2, h3⟩ := slotsE_ok (beq_iff_eq.1 hs)
    obtain ⟨d1, d2, d3⟩ := demsErr_ok h2
    rw [hs, cond_true] at hA
    rw [cond_true, ref_Slots.v hN h2 h3, Option.bind_some, ← hA]
    cases hz : (asgE N pl l c).2 == 0 with
    | false =>
      have hR : relE N pl call l c = ([], (asgE N pl l c).2) := by unfold relE; rw [hz]; rfl
      rw [hR]
      refine hJ _ _ fun m hm => ?_
      rw [hz, Bool.false_and, cond_false, law_SlotReleases.j2_clean (hM := hM), hz]
      simp
    | true =>
      cases ha : l.any (fun d => seq d.1 call) with
      | false =>
        have hR : relE N pl call l c = ([], 8) := by unfold relE; rw [hz, ha]; rfl
        rw [hR]
        refine hJ _ _ fun m hm => ?_
        have : m = l := by
          rw [hm]
          refine List.filter_eq_self.2 fun d hd => ?_
          rw [List.any_eq_false] at ha
          have := ha d hd
          cases hq : seq d.1 call with
          | false => rfl
          | true => exact absurd hq this
        rw [this, hz, law_SlotReleases.j2_clean (hM := hM)]
        simp
      | true =>
        have hR : relE N pl call l c = asgE N pl (rest call l) c := by unfold relE; rw [hz, ha]; rfl
        rw [hR]
        have hdr : demsErr (rest call l) = 0 := demsErr_sub h2 List.filter_sublist
        refine hJ _ _ fun m hm => ?_
        have hml : m.length < l.length := by
          rw [hm]
          rw [List.any_eq_true] at ha
          obtain ⟨x, hx, hx2⟩ := ha
          exact List.length_filter_lt_length_iff_exists.2 ⟨x, hx, by rw [hx2]; simp⟩
        rw [show ((m.length : Int) == (l.length : Int)) = false by rw [beq_eq_false_iff_ne]; omega, Bool.and_false, cond_false, law_SlotReleases.j2_clean (hM := hM), hz, hm]
        have hA2 : asgE N pl (rest call l) c = serve pl (srt N (rest call l)) c [] := by
          rw [asgE_slots]
          have : slotsE pl (rest call l) c = 0 := by unfold slotsE; rw [h1, hdr, h3]; rfl
          rw [this]; rfl
        rw [hA2]
        simp only [Bool.not_true, cond_false]
        rw [ref_Slots.v hN hdr h3, Option.bind_some]
        simp only [beq_self_eq_true, cond_true]
        rw [eq_self hN _ (serve_le hN hdr)]
        rfl
end
theorem dem_len {l : List Dem} (h : Wf Try.prog (.sl 106 (.pair (.str) (.int .i64))) l) : l.length < 4611686018427387904 := by
  have := wf_sl_len h (of_decide_eq_true (by kernel_rfl)); unfold reachBytes at this; omega
theorem cap_len {l : List Cap} (h : Wf Try.prog (.sl 149 (.pair (.pair (.int .i64) (.int .i64)) (.int .i64))) l) : l.length < 4611686018427387904 := by
  have := wf_sl_len h (of_decide_eq_true (by kernel_rfl)); unfold reachBytes at this; omega
theorem slt_len {l : List Slt} (h : Wf Try.prog (.sl 94 (.pair (.str) (.pair (.str) (.int .i64)))) l) : l.length < 4611686018427387904 := by
  have := wf_sl_len h (of_decide_eq_true (by kernel_rfl)); unfold reachBytes at this; omega
theorem SlotAssigns.pure (x0 : ByteArray) (x1 : List Dem) (x2 : List Cap) (h0 : Wf Try.prog (.str) x0) (h1 : Wf Try.prog (.sl 106 (.pair (.str) (.int .i64))) x1) (h2 : Wf Try.prog (.sl 149 (.pair (.pair (.int .i64) (.int .i64)) (.int .i64))) x2) : law_SlotAssigns.fn NN (x0, x1, x2) = some true :=
  SlotAssigns.pureN NN_big x0 x1 x2 (dem_len h1) (cap_len h2)
theorem SlotDelays.pure (x0 : List Dem) (x1 : List Slt) (x2 x3 : ByteArray) (h0 : Wf Try.prog (.sl 106 (.pair (.str) (.int .i64))) x0) (h1 : Wf Try.prog (.sl 94 (.pair (.str) (.pair (.str) (.int .i64)))) x1) (h2 : Wf Try.prog (.str) x2) (h3 : Wf Try.prog (.str) x3) : law_SlotDelays.fn NN (x0, x1, x2, x3) = some true :=
  SlotDelays.pureN NN_big x0 x1 x2 x3 (dem_len h0) (slt_len h1)
theorem bytesD : Try.prog.bytesOf 106 = 24 := by kernel_rfl
theorem dem_bytes {l : List Dem} (h : Wf Try.prog (.sl 106 (.pair (.str) (.int .i64))) l) : l.length * 24 ≤ 140737488355328 := by
  have := h.1
  rw [bytesD] at this
  simp -implicitDefEqProofs [reachBytes] at this
  omega
theorem SlotReleases.pure (x0 x1 : ByteArray) (x2 : List Dem) (x3 : List Cap) (h0 : Wf Try.prog (.str) x0) (h1 : Wf Try.prog (.str) x1) (h2 : Wf Try.prog (.sl 106 (.pair (.str) (.int .i64))) x2) (h3 : Wf Try.prog (.sl 149 (.pair (.pair (.int .i64) (.int .i64)) (.int .i64))) x3) : law_SlotReleases.fn NN (x0, x1, x2, x3) = some true :=
  SlotReleases.pureN NN_big x0 x1 x2 x3 (dem_len h2) (dem_bytes h2) (cap_len h3)
end Go.Proofs.Ytmaeakelhjmfeaa.Sk
