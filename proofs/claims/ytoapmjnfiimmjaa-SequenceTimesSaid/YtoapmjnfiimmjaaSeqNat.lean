/- sequence.natural: what it answers; told at one place for the fact of the sequences. -/
import Derived.Test.YtoapmjnfiimmjaaSeqEq1
set_option linter.unusedVariables false
set_option linter.unusedSimpArgs false
set_option linter.unusedSectionVars false
set_option maxRecDepth 100000
namespace Go.Proofs.Ytoapmjnfiimmjaa.Sk
open Go

/-! ### the order of the names -/
theorem blt_irrefl : ∀ a : List UInt8, Op.bytesLess a a = false
  | [] => rfl
  | x :: a => by simp [Op.bytesLess, blt_irrefl a, UInt8.lt_irrefl]
theorem blt_trans : ∀ {a b c : List UInt8}, Op.bytesLess a b = true → Op.bytesLess b c = true → Op.bytesLess a c = true
  | _, [], _, h, _ => by simp [Op.bytesLess] at h
  | _, _ :: _, [], _, h => by simp [Op.bytesLess] at h
  | [], _ :: _, _ :: _, _, _ => rfl
  | x :: a, y :: b, z :: c, h1, h2 => by
    simp only [Op.bytesLess, Bool.or_eq_true, Bool.and_eq_true, decide_eq_true_iff, beq_iff_eq] at h1 h2 ⊢
    rcases h1 with h1 | ⟨rfl, h1⟩
    · rcases h2 with h2 | ⟨rfl, h2⟩
      · exact .inl (UInt8.lt_trans h1 h2)
      · exact .inl h1
    · rcases h2 with h2 | ⟨rfl, h2⟩
      · exact .inl h2
      · exact .inr ⟨rfl, blt_trans h1 h2⟩
theorem blt_tri : ∀ {a b : List UInt8}, Op.bytesLess a b = false → Op.bytesLess b a = false → a = b
  | [], [], _, _ => rfl
  | [], _ :: _, h, _ => by simp [Op.bytesLess] at h
  | _ :: _, [], _, h => by simp [Op.bytesLess] at h
  | x :: a, y :: b, h1, h2 => by
    simp only [Op.bytesLess, Bool.or_eq_false_iff, Bool.and_eq_false_iff, decide_eq_false_iff_not, beq_eq_false_iff_ne] at h1 h2
    have he : x = y := UInt8.le_antisymm (UInt8.not_lt.1 h2.1) (UInt8.not_lt.1 h1.1)
    subst he
    rw [blt_tri (a := a) (b := b) (by simpa using h1.2) (by simpa using h2.2)]
theorem ba_ext {a b : ByteArray} (h : a.data.toList = b.data.toList) : a = b := by
  cases a; cases b; congr 1; exact Array.ext' h
theorem sq_iff {a b : ByteArray} : seq a b = true ↔ a = b := ⟨fun h => ba_ext (beq_iff_eq.1 h), fun h => by subst h; exact beq_self_eq_true _⟩
theorem seq_ff {a b : ByteArray} : seq a b = false ↔ a ≠ b := by
  cases h : seq a b with
  | true => simp [sq_iff.1 h]
  | false => simp; intro e; rw [sq_iff.2 e] at h; cases h
theorem slt_irrefl (a : ByteArray) : slt a a = false := blt_irrefl _
theorem slt_trans {a b c : ByteArray} (h1 : slt a b = true) (h2 : slt b c = true) : slt a c = true := blt_trans h1 h2
theorem slt_tri {a b : ByteArray} (h1 : slt a b = false) (h2 : slt b a = false) : a = b := ba_ext (blt_tri h1 h2)
theorem slt_ne {a b : ByteArray} (h : slt a b = true) : a ≠ b := by intro e; subst e; rw [slt_irrefl] at h; cases h
theorem slt_asymm {a b : ByteArray} (h : slt a b = true) : slt b a = false := by
  cases h2 : slt b a with
  | false => rfl
  | true => have := slt_trans h h2; rw [slt_irrefl] at this; cases this
/-- a, not before b, and b before c: so a is behind... -/
theorem slt_le_trans {a b c : ByteArray} (h1 : slt b a = false) (h2 : slt b c = true) (h3 : slt c a = true) : False := by
  rw [slt_trans h2 h3] at h1; cases h1


/-! ### sorting -/
section
variable {α : Type} {F : α → α → Option Int} {lt : α → α → Bool}
structure LtOk (lt : α → α → Bool) : Prop where
  irr : ∀ x, lt x x = false
  tr : ∀ {x y z}, lt x y = true → lt y z = true → lt x z = true
  ntr : ∀ {x y z}, lt x y = false → lt y z = false → lt x z = false
theorem LtOk.asym (h : LtOk lt) {x y : α} (h1 : lt x y = true) : lt y x = false := by
  cases h2 : lt y x with
  | false => rfl
  | true => have := h.tr h1 h2; rw [h.irr] at this; cases this
theorem ltZ_eq {x y : α} (hF : ∃ z, F x y = some z ∧ decide (z < 0) = lt x y) : ltZ (F x y) = lt x y := by
  obtain ⟨z, h1, h2⟩ := hF
  rw [h1, ← h2]; rfl
theorem apartL_of {l : List α} (hF : ∀ x y, ∃ z, F x y = some z ∧ decide (z < 0) = lt x y) (ap : l.Pairwise fun x y => (lt x y || lt y x) = true) : apartL F l = true := by
  induction l with
  | nil => rfl
  | cons a r ih =>
    simp only [apartL, Bool.and_eq_true, List.all_eq_true]
    refine ⟨fun y hy => ?_, ih (List.Pairwise.of_cons ap)⟩
    rw [ltZ_eq (hF _ _), ltZ_eq (hF _ _)]
    exact List.rel_of_pairwise_cons ap hy
theorem sortOk_of {l : List α} (hlen : l.length < 4611686018427387904) (hF : ∀ x y, ∃ z, F x y = some z ∧ decide (z < 0) = lt x y) (ho : LtOk lt) (ap : l.Pairwise fun x y => (lt x y || lt y x) = true) : sortOk F l = true := by
  unfold sortOk
  simp only [Bool.and_eq_true, List.all_eq_true, decide_eq_true_eq]
  refine ⟨⟨⟨⟨⟨hlen, fun x _ y _ => ?_⟩, fun x _ => ?_⟩, fun x _ y _ z _ => ?_⟩, fun x _ y _ z _ => ?_⟩, apartL_of hF ap⟩
  · obtain ⟨z, h1, _⟩ := hF x y; rw [h1]; rfl
  · rw [ltZ_eq (hF _ _), ho.irr]; rfl
  · rw [ltZ_eq (hF _ _), ltZ_eq (hF _ _), ltZ_eq (hF _ _)]
    cases h1 : lt x y with
    | false => rfl
    | true =>
      cases h2 : lt y z with
      | false => rfl
      | true => rw [ho.tr h1 h2]; rfl
  · rw [ltZ_eq (hF _ _), ltZ_eq (hF _ _), ltZ_eq (hF _ _)]
    cases h1 : lt x y with
    | true => rfl
    | false =>
      cases h2 : lt y z with
      | true => rfl
      | false => rw [ho.ntr h1 h2]; rfl
theorem sortL_perm (l : List α) : (sortL F l).Perm l := List.mergeSort_perm _ _
theorem sortL_sorted {l : List α} (hF : ∀ x y, ∃ z, F x y = some z ∧ decide (z < 0) = lt x y) (ho : LtOk lt) (ap : l.Pairwise fun x y => (lt x y || lt y x) = true) : (sortL F l).Pairwise fun x y => lt x y = true := by
  have h1 : (sortL F l).Pairwise fun x y => (!lt y x) = true := by
    have := List.pairwise_mergeSort (le := fun x y => !ltZ (F y x)) (fun a b c h1 h2 => by
      rw [ltZ_eq (hF _ _)] at h1 h2 ⊢
      simp only [Bool.not_eq_true'] at h1 h2 ⊢
      exact ho.ntr h2 h1) (fun a b => by
      rw [ltZ_eq (hF _ _), ltZ_eq (hF _ _)]
      cases h : lt b a with
      | false => rfl
      | true => rw [ho.asym h]; rfl) l
    exact this.imp fun {a b} h => by rw [ltZ_eq (hF _ _)] at h; exact h
  have h2 : (sortL F l).Pairwise fun x y => (lt x y || lt y x) = true := (List.Perm.pairwise_iff (fun {x y} h => by rw [Bool.or_comm]; exact h) (sortL_perm l)).2 ap
  refine (h1.and h2).imp fun {a b} h => ?_
  have h3 := h.1
  have h4 := h.2
  simp only [Bool.not_eq_true'] at h3
  rw [h3, Bool.or_false] at h4
  exact h4
theorem sorted_one (ho : LtOk lt) {l m : List α} (hp : l.Perm m) (h1 : l.Pairwise fun x y => lt x y = true) (h2 : m.Pairwise fun x y => lt x y = true) : l = m :=
  List.Perm.eq_of_pairwise (le := fun x y => lt x y = true) (fun a b _ _ h h' => by rw [ho.asym h] at h'; cases h') h1 h2 hp
end

/-! ### demands -/
abbrev Dem := ByteArray × Int
abbrev nop : ByteArray := ⟨#[]⟩
def bf (p q : Dem) : Bool := decide (p.2 < q.2) || (p.2 == q.2 && slt p.1 q.1)
theorem bf_iff {p q : Dem} : bf p q = true ↔ p.2 < q.2 ∨ (p.2 = q.2 ∧ slt p.1 q.1 = true) := by
  unfold bf
  rw [Bool.or_eq_true, Bool.and_eq_true, decide_eq_true_iff, beq_iff_eq]
theorem slt_ntrans {a b c : ByteArray} (h1 : slt a b = false) (h2 : slt b c = false) : slt a c = false := by
  cases h : slt a c with
  | false => rfl
  | true =>
    cases h3 : slt b a with
    | true => rw [slt_trans h3 h] at h2; cases h2
    | false => have := slt_tri h1 h3; subst this; rw [h] at h2; cases h2
theorem bf_ff {p q : Dem} : bf p q = false ↔ q.2 < p.2 ∨ (p.2 = q.2 ∧ slt p.1 q.1 = false) := by
  cases h : bf p q with
  | true =>
    have := bf_iff.1 h
    refine ⟨fun h => (by cases h), fun h2 => ?_⟩
    rcases this with h1 | ⟨h1, h3⟩
    · rcases h2 with h2 | ⟨h2, _⟩ <;> omega
    · rcases h2 with h2 | ⟨_, h4⟩
      · omega
      · rw [h3] at h4; cases h4
  | false =>
    refine ⟨fun _ => ?_, fun _ => rfl⟩
    rcases Int.lt_trichotomy p.2 q.2 with h1 | h1 | h1
    · rw [bf_iff.2 (.inl h1)] at h; cases h
    · cases h2 : slt p.1 q.1 with
      | true => rw [bf_iff.2 (.inr ⟨h1, h2⟩)] at h; cases h
      | false => exact .inr ⟨h1, rfl⟩
    · exact .inl h1
theorem bf_ok : LtOk bf := by
  refine ⟨fun x => ?_, fun {x y z} h1 h2 => ?_, fun {x y z} h1 h2 => ?_⟩
  · exact bf_ff.2 (.inr ⟨rfl, slt_irrefl _⟩)
  · rw [bf_iff] at h1 h2 ⊢
    rcases h1 with h1 | ⟨h1, h1'⟩
    · rcases h2 with h2 | ⟨h2, _⟩
      · exact .inl (by omega)
      · exact .inl (by omega)
    · rcases h2 with h2 | ⟨h2, h2'⟩
      · exact .inl (by omega)
      · exact .inr ⟨by omega, slt_trans h1' h2'⟩
  · rw [bf_ff] at h1 h2 ⊢
    rcases h1 with h1 | ⟨h1, h1'⟩
    · rcases h2 with h2 | ⟨h2, _⟩
      · exact .inl (by omega)
      · exact .inl (by omega)
    · rcases h2 with h2 | ⟨h2, h2'⟩
      · exact .inl (by omega)
      · exact .inr ⟨by omega, slt_ntrans h1' h2'⟩
theorem bf_apart {p q : Dem} (h : p.1 ≠ q.1) : (bf p q || bf q p) = true := by
  cases h1 : bf p q with
  | true => rfl
  | false =>
    rw [Bool.false_or, bf_iff]
    rcases bf_ff.1 h1 with h2 | ⟨h2, h3⟩
    · exact .inl h2
    · refine .inr ⟨h2.symm, ?_⟩
      cases h4 : slt q.1 p.1 with
      | true => rfl
      | false => exact absurd (slt_tri h3 h4) h

section
variable {N : Nat} (hN : 4611686018427387904 ≤ N)
include hN
theorem cmpI_v (a b : Int) : cmp_Compare_int.fn N (a, b) = some (bif decide (a < b) then -1 else bif decide (a > b) then 1 else 0) := by
  rw [cmp_Compare_int.eq, cmp_isNaN_int.eq, cmp_isNaN_int.eq]
  simp only [Option.bind_some, beq_self_eq_true, Bool.not_true, cond_false]
  cases decide (a < b) <;> cases decide (a > b) <;> rfl
theorem cmpS_v (a b : ByteArray) : cmp_Compare_string.fn N (a, b) = some (bif slt a b then -1 else bif seq a b then 0 else 1) := by
  rw [cmp_Compare_string.eq, cmp_isNaN_string.eq, cmp_isNaN_string.eq]
  simp only [Option.bind_some, seq_self, Bool.not_true, cond_false]
  cases slt a b <;> cases seq a b <;> rfl
theorem or_v (a b : Int) : cmp_Or_int.fn N [a, b] = some (bif !(a == 0) then a else b) := by
  rw [cmp_Or_int.eq]
  obtain ⟨M, rfl⟩ : ∃ M, N = M + 1 + 1 + 1 := ⟨N - 3, by omega⟩
  have h1 := cmp_Or_int.l0_cons (M + 1 + 1 + 1) [a, b] (M + 1 + 1) (pre := []) (x := a) (r := [b]) rfl (by simp)
  have h2 := cmp_Or_int.l0_cons (M + 1 + 1 + 1) [a, b] (M + 1) (pre := [a]) (x := b) (r := []) rfl (by simp)
  have h3 := cmp_Or_int.l0_nil (M + 1 + 1 + 1) [a, b] M
  simp only [List.length_nil, List.length_cons, Int.ofNat_zero, Int.zero_add, Nat.zero_add] at h1 h2 h3
  rw [h1]
  cases ha : a == 0 with
  | false => rfl
  | true =>
    simp only [Bool.not_true, cond_false]
    have h2 : cmp_Or_int.l0 (M + 1 + 1 + 1) [a, b] (M + 1 + 1) 1 = _ := h2
    rw [h2]
    cases hb : b == 0 with
    | false => rfl
    | true =>
      simp only [Bool.not_true, cond_false]
      have h3 : cmp_Or_int.l0 (M + 1 + 1 + 1) [a, b] (M + 1) (((1 : Nat) : Int) + 1) = _ := h3
      rw [h3, beq_iff_eq.1 hb]
end

/-! ### the natural order -/
abbrev Ar := ByteArray × Int × Int × Int
abbrev r0 : Ar := ((⟨#[]⟩ : ByteArray), (0, (0, 0)))
def keyA (a : Ar) : Dem := (a.1, a.2.2.1)
def ix (l : List Ar) (i : Int) : Ar := l.getD i.toNat r0
def nf (l : List Ar) (i j : Int) : Bool := bf (keyA (ix l i)) (keyA (ix l j))
theorem nf_ok (l : List Ar) : LtOk (nf l) := ⟨fun _ => bf_ok.irr _, fun h1 h2 => bf_ok.tr h1 h2, fun h1 h2 => bf_ok.ntr h1 h2⟩
def zcmp (l : List Ar) (i j : Int) : Int :=
  bif !((bif decide ((ix l i).2.2.1 < (ix l j).2.2.1) then -1 else bif decide ((ix l i).2.2.1 > (ix l j).2.2.1) then (1 : Int) else 0) == 0) then (bif decide ((ix l i).2.2.1 < (ix l j).2.2.1) then -1 else bif decide ((ix l i).2.2.1 > (ix l j).2.2.1) then 1 else 0) else (bif slt (ix l i).1 (ix l j).1 then -1 else bif seq (ix l i).1 (ix l j).1 then 0 else 1)
theorem zcmp_lt (l : List Ar) (i j : Int) : decide (zcmp l i j < 0) = nf l i j := by
  unfold zcmp nf bf keyA
  rcases Int.lt_trichotomy (ix l i).2.2.1 (ix l j).2.2.1 with h | h | h
  · simp [h]
  · have h1 : ¬ (ix l i).2.2.1 < (ix l j).2.2.1 := by omega
    have h2 : ¬ (ix l i).2.2.1 > (ix l j).2.2.1 := by omega
    simp only [h1, h2, decide_false, cond_false, show ((ix l i).2.2.1 == (ix l j).2.2.1) = true by rw [beq_iff_eq]; exact h]
    cases slt (ix l i).1 (ix l j).1 <;> cases seq (ix l i).1 (ix l j).1 <;> rfl
  · have h1 : ¬ (ix l i).2.2.1 < (ix l j).2.2.1 := by omega
    have h3 : ((ix l i).2.2.1 == (ix l j).2.2.1) = false := by rw [beq_eq_false_iff_ne]; omega
    simp only [h1, h3, decide_false, cond_false, decide_eq_true h, cond_true]
    rfl
section
variable {α : Type} {F G : α → α → Option Int}
theorem sortL_congr {l : List α} (h : ∀ x ∈ l, ∀ y ∈ l, F x y = G x y) : sortL F l = sortL G l := by
  have := List.map_mergeSort (r := fun x y => !ltZ (F y x)) (s := fun x y => !ltZ (G y x)) (f := id) (l := l) (fun a ha b hb => by rw [h b hb a ha]; rfl)
  simpa [sortL] using this
theorem apartL_congr : ∀ {l : List α}, (∀ x ∈ l, ∀ y ∈ l, F x y = G x y) → apartL F l = apartL G l
  | [], _ => rfl
  | a :: r, h => by
    simp only [apartL]
    rw [apartL_congr (l := r) fun x hx y hy => h x (by simp [hx]) y (by simp [hy])]
    congr 1
    have : ∀ y ∈ r, (ltZ (F a y) || ltZ (F y a)) = (ltZ (G a y) || ltZ (G y a)) := fun y hy => by rw [h a (by simp) y (by simp [hy]), h y (by simp [hy]) a (by simp)]
    rw [Bool.eq_iff_iff, List.all_eq_true, List.all_eq_true]
    exact ⟨fun q y hy => by rw [← this y hy]; exact q y hy, fun q y hy => by rw [this y hy]; exact q y hy⟩
theorem sortOk_congr {l : List α} (h : ∀ x ∈ l, ∀ y ∈ l, F x y = G x y) (hg : sortOk G l = true) : sortOk F l = true := by
  unfold sortOk at hg ⊢
  simp only [Bool.and_eq_true, List.all_eq_true] at hg ⊢
  obtain ⟨⟨⟨⟨⟨g0, g1⟩, g2⟩, g3⟩, g4⟩, g5⟩ := hg
  refine ⟨⟨⟨⟨⟨g0, fun x hx y hy => by rw [h x hx y hy]; exact g1 x hx y hy⟩, fun x hx => by rw [h x hx x hx]; exact g2 x hx⟩, fun x hx y hy z hz => by rw [h x hx y hy, h y hy z hz, h x hx z hz]; exact g3 x hx y hy z hz⟩, fun x hx y hy z hz => by rw [h x hx y hy, h y hy z hz, h x hx z hz]; exact g4 x hx y hy z hz⟩, by rw [apartL_congr h]; exact g5⟩
end
/-- The indices. -/
def idxs (n : Nat) : List Int := (List.range n).map fun (i : Nat) => (i : Int)
theorem idxs_len (n : Nat) : (idxs n).length = n := by simp [idxs]
theorem idxs_succ (n : Nat) : idxs (n + 1) = idxs n ++ [(n : Int)] := by simp [idxs, List.range_succ]
theorem mem_idxs {n : Nat} {i : Int} : i ∈ idxs n ↔ 0 ≤ i ∧ i < (n : Int) := by
  unfold idxs
  rw [List.mem_map]
  constructor
  · rintro ⟨j, hj, rfl⟩
    rw [List.mem_range] at hj
    omega
  · rintro ⟨h1, h2⟩
    exact ⟨i.toNat, by rw [List.mem_range]; omega, by omega⟩
/-- The natural order. -/
def natO (l : List Ar) : List Int := sortL (fun p q => some (zcmp l p q)) (idxs l.length)
theorem ix_at {l : List Ar} {i : Int} (h0 : 0 ≤ i) (h1 : i < (l.length : Int)) : l[i.toNat]? = some (ix l i) := by
  unfold ix
  rw [List.getD_eq_getElem?_getD, List.getElem?_eq_getElem (by omega)]
  rfl
theorem idxs_apart {l : List Ar} (hn : l.Pairwise fun x y => x.1 ≠ y.1) : (idxs l.length).Pairwise fun i j => (nf l i j || nf l j i) = true := by
  unfold idxs
  rw [List.pairwise_map]
  have hp : (List.range l.length).Pairwise fun i j => i < j := List.pairwise_lt_range
  refine List.Pairwise.imp_of_mem ?_ hp
  intro i j hi hj hij
  rw [List.mem_range] at hi hj
  refine bf_apart ?_
  show (ix l (i : Int)).1 ≠ (ix l (j : Int)).1
  have h1 := ix_at (l := l) (i := (i : Int)) (by omega) (by omega)
  have h2 := ix_at (l := l) (i := (j : Int)) (by omega) (by omega)
  rw [Int.toNat_natCast] at h1 h2
  rw [List.pairwise_iff_getElem] at hn
  have := hn i j (by omega) (by omega) hij
  rw [List.getElem?_eq_getElem (by omega)] at h1 h2
  have e1 := Option.some.inj h1
  have e2 := Option.some.inj h2
  rw [← e1, ← e2]
  exact this
theorem natO_spec {l : List Ar} (hn : l.Pairwise fun x y => x.1 ≠ y.1) : (natO l).Perm (idxs l.length) ∧ (natO l).Pairwise fun i j => nf l i j = true :=
  ⟨sortL_perm _, sortL_sorted (lt := nf l) (fun x y => ⟨_, rfl, zcmp_lt l x y⟩) (nf_ok l) (idxs_apart hn)⟩
section
variable {N : Nat} (hN : 4611686018427387904 ≤ N)
include hN
theorem nat1_v {l : List Ar} {i j : Int} (hi : 0 ≤ i ∧ i < (l.length : Int)) (hj : 0 ≤ j ∧ j < (l.length : Int)) : sequence_natural_1.fn N (i, j, l) = some (zcmp l i j) := by
  have b1 : (decide (0 ≤ i) && decide (i < (l.length : Int))) = true := by simp; omega
  have b2 : (decide (0 ≤ j) && decide (j < (l.length : Int))) = true := by simp; omega
  rw [sequence_natural_1.eq, b1, b2, cond_true, cond_true, cmpI_v hN, Option.bind_some, cond_true, cond_true, cmpS_v hN, Option.bind_some, or_v hN]
  rfl
theorem sequence_natural.v {l : List Ar} (hl : l.length ≤ 8) (hn : l.Pairwise fun x y => x.1 ≠ y.1) : sequence_natural.fn N l = some (natO l) := by
  rw [sequence_natural.eq]
  have hc : ∀ x ∈ idxs l.length, ∀ y ∈ idxs l.length, sequence_natural_1.fn N (x, y, l) = (fun p q => some (zcmp l p q)) x y := fun x hx y hy => nat1_v hN (mem_idxs.1 hx) (mem_idxs.1 hy)
  have key := list_loop (l := l) (fun k (s : List Int) i => sequence_natural.l0 N l k i s) (fun _ _ _ => some (natO l)) (fun p s => s = idxs p.length)
    (fun k s hI => ?_) (fun k pre x r s h hI ih => ?_) N [] rfl (by omega)
  · exact key
  · show sequence_natural.l0 N l (k + 1) (l.length : Int) s = _
    rw [sequence_natural.l0_nil, hI, sortOk_congr hc (sortOk_of (lt := nf l) (by rw [idxs_len]; omega) (fun x y => ⟨_, rfl, zcmp_lt l x y⟩) (nf_ok l) (idxs_apart hn)), cond_true]
    exact congrArg some (sortL_congr hc)
  · have hlen : l.length = pre.length + 1 + r.length := by rw [h]; simp; omega
    have hs : s.length = pre.length := by rw [hI, idxs_len]
    show sequence_natural.l0 N l (k + 1) (pre.length : Int) s = _
    have b1 : (decide ((s.length + 1) * 8 ≤ 140737488355328) && decide (s.length + 1 ≤ maxLen)) = true := by rw [Bool.and_eq_true, decide_eq_true_iff, decide_eq_true_iff]; unfold maxLen; omega
    rw [sequence_natural.l0_cons N l k s h (by omega), b1, cond_true]
    exact ih _ (by rw [hI, List.length_append]; exact (idxs_succ _).symm)
end
abbrev nA : ByteArray := ⟨#[65]⟩
abbrev nB : ByteArray := ⟨#[66]⟩
abbrev two : List Ar := [(nA, (2, (10, 900))), (nB, (0, (0, 900)))]
theorem natO_two : natO two = [1, 0] :=
  sorted_one (nf_ok two) ((natO_spec (l := two) (by simp)).1.trans (List.Perm.swap ..)) (natO_spec (l := two) (by simp)).2 (by simp; decide)
def arEq (p q : Ar) : Bool := seq p.1 q.1 && ((p.2.1 == q.2.1) && ((p.2.2.1 == q.2.2.1) && (p.2.2.2 == q.2.2.2)))
theorem arEq_iff (p q : Ar) : arEq p q = true ↔ p = q := by
  unfold arEq
  simp only [Bool.and_eq_true, sq_iff, beq_iff_eq]
  constructor
  · rintro ⟨h1, h2, h3, h4⟩
    exact Prod.ext h1 (Prod.ext h2 (Prod.ext h3 h4))
  · rintro rfl; exact ⟨rfl, rfl, rfl, rfl⟩
/-- The natural order, told of the two arrivals alone. -/
def natS : PSpec := ⟨false, [.cell (.sl 48 (.pair (.str) (.pair (.int .i64) (.pair (.int .i64) (.int .i64)))))], [.own 3 (.int .i64)], fun x => bif eqL arEq x two then some [1, 0] else none⟩
theorem natS_sound : Sound Try.prog 20 natS :=
  Sound.mono (sequence_natural.sound NN) fun x r h => by
    have h : (bif eqL arEq x two then some ([1, 0] : List Int) else none) = some r := h
    cases hq : eqL arEq x two with
    | false => rw [hq] at h; cases h
    | true =>
      rw [hq] at h
      have hx : x = two := (eqL_iff arEq_iff x two).1 hq
      subst hx
      exact (sequence_natural.v NN_big (by simp) (by simp)).trans ((congrArg some natO_two).trans h)
/-- both and next, told of the two arrivals and the standard table alone. -/
abbrev stdT : List Int := [60, 60, 60, 60, 120, 60, 60, 60, 180, 120, 90, 60, 240, 180, 120, 120]
def intEq (a b : Int) : Bool := a == b
theorem intEq_iff (a b : Int) : intEq a b = true ↔ a = b := by unfold intEq; exact beq_iff_eq
theorem both_two (M : Nat) : sequence_both.fn (M + 16) (two, stdT) = some 0 := by kernel_rfl
def bothS : PSpec := ⟨false, [.cell (.sl 48 (.pair (.str) (.pair (.int .i64) (.pair (.int .i64) (.int .i64))))), .agg (.vec 16 .i64)], [.val (.cell (.int .i64))], fun x => (bif eqL arEq x.1 two && eqL intEq x.2 stdT then some (0 : Int) else none : Option Int)⟩
theorem bothS_sound : Sound Try.prog 21 bothS :=
  Sound.mono (sequence_both.sound NN) fun x r h => by
    have h : (bif eqL arEq x.1 two && eqL intEq x.2 stdT then some (0 : Int) else none) = some r := h
    cases hq : eqL arEq x.1 two && eqL intEq x.2 stdT with
    | false => rw [hq] at h; cases h
    | true =>
      rw [hq] at h
      rw [Bool.and_eq_true] at hq
      have h1 : x.1 = two := (eqL_iff arEq_iff x.1 two).1 hq.1
      have h2 : x.2 = stdT := (eqL_iff intEq_iff x.2 stdT).1 hq.2
      have hx : x = (two, stdT) := Prod.ext h1 h2
      subst hx
      obtain ⟨M, hM⟩ : ∃ M, NN = M + 16 := ⟨NN - 16, by have := NN_big; omega⟩
      show sequence_both.fn NN (two, stdT) = some r
      rw [hM, both_two]
      exact h
def nxtV (i k a : Int) : Option Int :=
  bif i == -1 && k == 0 && a == 0 then some 10 else bif i == -1 && k == 1 && a == 0 then some 0 else bif i == 0 && k == 1 && a == 10 then some 190 else bif i == 1 && k == 0 && a == 0 then some 60 else none
theorem next_1 (M : Nat) : sequence_next.fn M (two, stdT, -1, 0, 0) = some 10 := by kernel_rfl
theorem next_2 (M : Nat) : sequence_next.fn M (two, stdT, -1, 1, 0) = some 0 := by kernel_rfl
theorem next_3 (M : Nat) : sequence_next.fn M (two, stdT, 0, 1, 10) = some 190 := by kernel_rfl
theorem next_4 (M : Nat) : sequence_next.fn M (two, stdT, 1, 0, 0) = some 60 := by kernel_rfl
theorem next_v (M : Nat) (i k a : Int) {r : Int} (h : nxtV i k a = some r) : sequence_next.fn M (two, stdT, i, k, a) = some r := by
  unfold nxtV at h
  cases h1 : (i == -1 && k == 0 && a == 0) with
  | true =>
    rw [h1, cond_true] at h
    rw [Bool.and_eq_true, Bool.and_eq_true, beq_iff_eq, beq_iff_eq, beq_iff_eq] at h1
    obtain ⟨⟨rfl, rfl⟩, rfl⟩ := h1
    exact (next_1 M).trans h
  | false =>
    rw [h1, cond_false] at h
    cases h2 : (i == -1 && k == 1 && a == 0) with
    | true =>
      rw [h2, cond_true] at h
      rw [Bool.and_eq_true, Bool.and_eq_true, beq_iff_eq, beq_iff_eq, beq_iff_eq] at h2
      obtain ⟨⟨rfl, rfl⟩, rfl⟩ := h2
      exact (next_2 M).trans h
    | false =>
      rw [h2, cond_false] at h
      cases h3 : (i == 0 && k == 1 && a == 10) with
      | true =>
        rw [h3, cond_true] at h
        rw [Bool.and_eq_true, Bool.and_eq_true, beq_iff_eq, beq_iff_eq, beq_iff_eq] at h3
        obtain ⟨⟨rfl, rfl⟩, rfl⟩ := h3
        exact (next_3 M).trans h
      | false =>
        rw [h3, cond_false] at h
        cases h4 : (i == 1 && k == 0 && a == 0) with
        | true =>
          rw [h4, cond_true] at h
          rw [Bool.and_eq_true, Bool.and_eq_true, beq_iff_eq, beq_iff_eq, beq_iff_eq] at h4
          obtain ⟨⟨rfl, rfl⟩, rfl⟩ := h4
          exact (next_4 M).trans h
        | false => rw [h4] at h; cases h
def nextS : PSpec := ⟨false, [.cell (.sl 48 (.pair (.str) (.pair (.int .i64) (.pair (.int .i64) (.int .i64))))), .agg (.vec 16 .i64), .cell (.int .i64), .cell (.int .i64), .cell (.int .i64)], [.val (.cell (.int .i64))], fun x => (bif eqL arEq x.1 two && eqL intEq x.2.1 stdT then nxtV x.2.2.1 x.2.2.2.1 x.2.2.2.2 else none : Option Int)⟩
theorem nextS_sound : Sound Try.prog 23 nextS :=
  Sound.mono (sequence_next.sound NN) fun x r h => by
    have h : (bif eqL arEq x.1 two && eqL intEq x.2.1 stdT then nxtV x.2.2.1 x.2.2.2.1 x.2.2.2.2 else none) = some r := h
    cases hq : eqL arEq x.1 two && eqL intEq x.2.1 stdT with
    | false => rw [hq] at h; cases h
    | true =>
      rw [hq] at h
      rw [Bool.and_eq_true] at hq
      have h1 : x.1 = two := (eqL_iff arEq_iff x.1 two).1 hq.1
      have h2 : x.2.1 = stdT := (eqL_iff intEq_iff x.2.1 stdT).1 hq.2
      have hx : x = (two, stdT, x.2.2.1, x.2.2.2.1, x.2.2.2.2) := Prod.ext h1 (Prod.ext h2 rfl)
      rw [hx]
      exact next_v NN _ _ _ h
end Go.Proofs.Ytoapmjnfiimmjaa.Sk
