/- The laws OwnerChecks, OwnerSteps, OwnerAsks, OwnerMoves, plain: what the printed functions answer. -/
import Derived.Test.YtcmcacophbbagaaOwnerEq
set_option linter.unusedVariables false
set_option linter.unusedSimpArgs false
set_option linter.unusedSectionVars false
set_option maxRecDepth 100000
namespace Go.Proofs.Ytcmcacophbbagaa.Sk
open Go

theorem bif_some {α : Type} (b : Bool) (x y : α) : (bif b then some x else some y) = some (bif b then x else y) := by cases b <;> rfl
/-! ### names -/
def nameCh (c : UInt8) : Bool := !(((decide (((c.toNat : Nat) : Int) < 65)) || (decide (((c.toNat : Nat) : Int) > 90))) && ((decide (((c.toNat : Nat) : Int) < 48)) || (decide (((c.toNat : Nat) : Int) > 57))))
def isNameL : List UInt8 → Bool
  | [] => false
  | b :: r => bif decide (r.length + 1 > 8) then false else bif decide (((b.toNat : Nat) : Int) < 65) || decide (((b.toNat : Nat) : Int) > 90) then false else (b :: r).all nameCh
def isName (s : ByteArray) : Bool := isNameL s.data.toList
theorem size_list (s : ByteArray) : s.size = s.data.toList.length := by rw [ByteArray.size, Array.length_toList]

section
variable {N : Nat} (hN : 4611686018427387904 ≤ N)
include hN
theorem chart_Name.v (s : ByteArray) : chart_Name.fn N s = some (isName s) := by
  rw [chart_Name.clean]
  unfold isName
  have hsz := size_list s
  cases h : s.data.toList with
  | nil =>
    rw [h] at hsz
    have hsz : s.size = 0 := hsz
    simp [hsz, isNameL]
  | cons b r =>
    rw [h] at hsz
    have hsz : s.size = r.length + 1 := by simpa using hsz
    have g : (ByteArray.data s).getD 0 0 = b := getD_bytes (pre := []) (r := r) h
    have c1 : decide (0 < (s.size : Int)) = true := by rw [decide_eq_true_iff]; omega
    have c2 : ((s.size : Int) == 0) = false := by rw [beq_eq_false_iff_ne]; omega
    have c3 : decide ((s.size : Int) > 8) = decide (r.length + 1 > 8) := by rw [decide_eq_decide]; omega
    simp only [g, c1, c2, c3, Bool.true_or, cond_true, Bool.false_or, isNameL]
    by_cases h8 : r.length + 1 > 8
    · simp [h8]
    have h8' : decide (r.length + 1 > 8) = false := decide_eq_false h8
    simp only [h8', Bool.false_or, cond_false]
    have hl := scan_list (l := s.data.toList) (fun c => !nameCh c) (some false) (some true) (fun k i => chart_Name.l0 N s k i)
      (fun k => by show chart_Name.l0 N s (k + 1) (s.data.toList.length : Int) = _; rw [← size_list s]; exact chart_Name.l0_nil N s k)
      (fun k pre x r' h' => by show chart_Name.l0 N s (k + 1) (pre.length : Int) = _; rw [chart_Name.l0_cons N s k h' (by omega)]; simp [nameCh]) N (by rw [h]; simp; omega)
    rw [hl, h]
    cases (decide (((b.toNat : Nat) : Int) < 65) || decide (((b.toNat : Nat) : Int) > 90)) with
    | true => rfl
    | false =>
      rw [cond_false, cond_false, ← List.not_all_eq_any_not]
      cases ((b :: r).all nameCh) <;> rfl
theorem ref_IsName.v (s : ByteArray) : ref_IsName.fn N s = some (isName s) := by
  rw [ref_IsName.clean]
  unfold isName
  have hsz := size_list s
  cases h : s.data.toList with
  | nil =>
    rw [h] at hsz
    have hsz : s.size = 0 := hsz
    have : s = ⟨#[]⟩ := by cases s with | mk a => congr 1; exact Array.ext' h
    subst this
    simp [isNameL, seq]
  | cons b r =>
    rw [h] at hsz
    have hsz : s.size = r.length + 1 := by simpa using hsz
    have g : (ByteArray.data s).getD 0 0 = b := getD_bytes (pre := []) (r := r) h
    have c1 : decide (0 < (s.size : Int)) = true := by rw [decide_eq_true_iff]; omega
    have c2 : seq s (⟨#[]⟩ : ByteArray) = false := by unfold seq; rw [h]; rfl
    have c3 : decide ((s.size : Int) > 8) = decide (r.length + 1 > 8) := by rw [decide_eq_decide]; omega
    simp only [g, c1, c2, c3, Bool.true_or, cond_true, Bool.false_or, isNameL]
    by_cases h8 : r.length + 1 > 8
    · simp [h8]
    have h8' : decide (r.length + 1 > 8) = false := decide_eq_false h8
    simp only [h8', Bool.false_or, cond_false]
    have hl := scan_list (l := s.data.toList) (fun c => !nameCh c) (some false) (some true) (fun k i => ref_IsName.l0 N s k i)
      (fun k => by show ref_IsName.l0 N s (k + 1) (s.data.toList.length : Int) = _; rw [← size_list s]; exact ref_IsName.l0_nil N s k)
      (fun k pre x r' h' => by show ref_IsName.l0 N s (k + 1) (pre.length : Int) = _; rw [ref_IsName.l0_cons N s k h' (by omega)]; simp [nameCh]) N (by rw [h]; simp; omega)
    rw [hl, h]
    have hb : (b :: r).any (fun c => !nameCh c) = !((b :: r).all nameCh) := List.not_all_eq_any_not.symm
    rw [hb]
    by_cases q1 : ((b.toNat : Nat) : Int) < 65
    · by_cases q2 : ((b.toNat : Nat) : Int) < 48
      · have : nameCh b = false := by simp [nameCh]; omega
        simp [q1, this, show ¬ 48 ≤ b.toNat by omega]
      · by_cases q3 : ((b.toNat : Nat) : Int) > 57
        · have : nameCh b = false := by simp [nameCh]; omega
          simp [q1, this, show ¬ b.toNat ≤ 57 by omega]
        · simp [q1, show (48 : Int) ≤ b.toNat by omega, show (b.toNat : Int) ≤ 57 by omega]
    · by_cases q2 : ((b.toNat : Nat) : Int) > 90
      · have : nameCh b = false := by simp [nameCh]; omega
        simp [q2, this, show ¬ b.toNat ≤ 57 by omega]
      · simp only [q1, q2, decide_false, Bool.or_false, cond_false, show decide (((b.toNat : Nat) : Int) ≤ 57) = false by rw [decide_eq_false_iff_not]; omega, Bool.and_false]
        cases ((b :: r).all nameCh) <;> rfl
theorem owner_Name.v (s : ByteArray) : owner_Name.fn N s = some (isName s) := by
  rw [owner_Name.eq, sector_Name.eq, chart_Name.v hN]; rfl
end

/-! ### the order of the names -/
theorem blt_irrefl : ∀ a : List UInt8, Op.bytesLess a a = false
  | [] => rfl
  | x :: a => by simp [Op.bytesLess, blt_irrefl a, UInt8.lt_irrefl]
theorem blt_trans : ∀ {a b c : List UInt8}, Op.bytesLess a b = true → Op.bytesLess b c = true → Op.bytesLess a c = true
  | _, [], _, h, _ => by simp [Op.bytesLess] at h
  | _, _ :: _, [], _, h => by simp [Op.bytesLess] at h
  | [], _ :: _, _ :: _, _, _ => rfl
  | x :: a, y :: b, z :: c, h1, h2 => by
    simp only [Op.bytesLess, Bool.or_eq_true, Bool.and_eq_true, decide_eq_true_iff, beq_iff_eq] at h1 h2 ⊢
    rcases h1 with h1 | ⟨rfl, h1⟩
    · rcases h2 with h2 | ⟨rfl, h2⟩
      · exact .inl (UInt8.lt_trans h1 h2)
      · exact .inl h1
    · rcases h2 with h2 | ⟨rfl, h2⟩
      · exact .inl h2
      · exact .inr ⟨rfl, blt_trans h1 h2⟩
theorem blt_tri : ∀ {a b : List UInt8}, Op.bytesLess a b = false → Op.bytesLess b a = false → a = b
  | [], [], _, _ => rfl
  | [], _ :: _, h, _ => by simp [Op.bytesLess] at h
  | _ :: _, [], _, h => by simp [Op.bytesLess] at h
  | x :: a, y :: b, h1, h2 => by
    simp only [Op.bytesLess, Bool.or_eq_false_iff, Bool.and_eq_false_iff, decide_eq_false_iff_not, beq_eq_false_iff_ne] at h1 h2
    have he : x = y := UInt8.le_antisymm (UInt8.not_lt.1 h2.1) (UInt8.not_lt.1 h1.1)
    subst he
    rw [blt_tri (a := a) (b := b) (by simpa using h1.2) (by simpa using h2.2)]
theorem ba_ext {a b : ByteArray} (h : a.data.toList = b.data.toList) : a = b := by
  cases a; cases b; congr 1; exact Array.ext' h
theorem sq_iff {a b : ByteArray} : seq a b = true ↔ a = b := ⟨fun h => ba_ext (beq_iff_eq.1 h), fun h => by subst h; exact beq_self_eq_true _⟩
theorem seq_ff {a b : ByteArray} : seq a b = false ↔ a ≠ b := by
  cases h : seq a b with
  | true => simp [sq_iff.1 h]
  | false => simp; intro e; rw [sq_iff.2 e] at h; cases h
theorem slt_irrefl (a : ByteArray) : slt a a = false := blt_irrefl _
theorem slt_trans {a b c : ByteArray} (h1 : slt a b = true) (h2 : slt b c = true) : slt a c = true := blt_trans h1 h2
theorem slt_tri {a b : ByteArray} (h1 : slt a b = false) (h2 : slt b a = false) : a = b := ba_ext (blt_tri h1 h2)
theorem slt_ne {a b : ByteArray} (h : slt a b = true) : a ≠ b := by intro e; subst e; rw [slt_irrefl] at h; cases h
theorem slt_asymm {a b : ByteArray} (h : slt a b = true) : slt b a = false := by
  cases h2 : slt b a with
  | false => rfl
  | true => have := slt_trans h h2; rw [slt_irrefl] at this; cases this
/-- a, not before b, and b before c: so a is behind... -/
theorem slt_le_trans {a b c : ByteArray} (h1 : slt b a = false) (h2 : slt b c = true) (h3 : slt c a = true) : False := by
  rw [slt_trans h2 h3] at h1; cases h1

/-! ### entries -/
abbrev Own := ByteArray × ByteArray × ByteArray
abbrev nop : ByteArray := ⟨#[]⟩
def entBad (x : Own) : Bool := !isName x.1 || !isName x.2.1 || (!(seq x.2.2 nop) && !isName x.2.2)
def ersL : ByteArray → List Own → Int
  | _, [] => 0
  | a, x :: r => bif entBad x then 3 else bif seq x.2.2 x.2.1 then 11 else bif slt x.1 a || seq x.1 a then 7 else ersL x.1 r
theorem ersL_cons (a : ByteArray) (x : Own) (r : List Own) : ersL a (x :: r) = bif entBad x then 3 else bif seq x.2.2 x.2.1 then 11 else bif slt x.1 a || seq x.1 a then 7 else ersL x.1 r := rfl
def ownErr (l : List Own) : Int := bif decide ((l.length : Int) > 24) then 2 else ersL nop l
def lastOf (p : List Own) : ByteArray := (p.getLast?.map (·.1)).getD nop
theorem lastOf_snoc (p : List Own) (x : Own) : lastOf (p ++ [x]) = x.1 := by simp [lastOf]
theorem isName_ne {s : ByteArray} (h : isName s = true) : slt s nop = false ∧ seq s nop = false := by
  have : s.data.toList ≠ [] := by intro e; unfold isName at h; rw [e] at h; cases h
  refine ⟨?_, seq_ff.2 (by intro e; subst e; exact this rfl)⟩
  unfold slt
  cases h2 : s.data.toList with
  | nil => rfl
  | cons b r => rfl
theorem ersL_ok : ∀ {l : List Own} {a : ByteArray}, ersL a l = 0 → (∀ e ∈ l, entBad e = false ∧ seq e.2.2 e.2.1 = false ∧ slt a e.1 = true) ∧ l.Pairwise fun x y => slt x.1 y.1 = true
  | [], _, _ => ⟨fun e h => (by cases h), .nil⟩
  | x :: r, a, h => by
    unfold ersL at h
    cases h1 : entBad x with
    | true => rw [h1] at h; cases h
    | false =>
      cases h2 : seq x.2.2 x.2.1 with
      | true => rw [h1, h2] at h; cases h
      | false =>
        cases h3 : (slt x.1 a || seq x.1 a) with
        | true => rw [h1, h2, h3] at h; cases h
        | false =>
          rw [h1, h2, h3] at h
          have h : ersL x.1 r = 0 := h
          obtain ⟨q1, q2⟩ := ersL_ok h
          rw [Bool.or_eq_false_iff] at h3
          have h4 : slt a x.1 = true := by
            cases h5 : slt a x.1 with
            | true => rfl
            | false => exact absurd (slt_tri h3.1 h5) (seq_ff.1 h3.2)
          refine ⟨fun e he => ?_, .cons (fun y hy => (q1 y hy).2.2) q2⟩
          rcases List.mem_cons.1 he with rfl | he
          · exact ⟨h1, h2, h4⟩
          · have := q1 e he; exact ⟨this.1, this.2.1, slt_trans h4 this.2.2⟩
theorem ownErr_ok {l : List Own} (h : ownErr l = 0) : l.length ≤ 24 ∧ (∀ e ∈ l, entBad e = false) ∧ l.Pairwise fun x y => slt x.1 y.1 = true := by
  unfold ownErr at h
  by_cases hl : (l.length : Int) > 24
  · simp [hl] at h
  · simp only [hl, decide_false, cond_false] at h
    have := ersL_ok h
    exact ⟨by omega, fun e he => (this.1 e he).1, this.2⟩
/-- A sorted list, cut at a name. -/
theorem cut_at {l : List Own} (hs : l.Pairwise fun x y => slt x.1 y.1 = true) (c : ByteArray) :
    (∃ lo x r, l = lo ++ x :: r ∧ x.1 = c ∧ (∀ e ∈ lo, slt e.1 c = true) ∧ ∀ e ∈ r, slt c e.1 = true) ∨ (∃ lo hi, l = lo ++ hi ∧ (∀ e ∈ lo, slt e.1 c = true) ∧ ∀ e ∈ hi, slt c e.1 = true) := by
  induction l with
  | nil => exact .inr ⟨[], [], rfl, fun _ h => (by cases h), fun _ h => (by cases h)⟩
  | cons y t ih =>
    obtain ⟨hy, ht⟩ := List.pairwise_cons.1 hs
    cases h1 : slt y.1 c with
    | true =>
      rcases ih ht with ⟨lo, x, r, rfl, q2, q3, q4⟩ | ⟨lo, hi, rfl, q3, q4⟩
      · exact .inl ⟨y :: lo, x, r, rfl, q2, List.forall_mem_cons.2 ⟨h1, q3⟩, q4⟩
      · exact .inr ⟨y :: lo, hi, rfl, List.forall_mem_cons.2 ⟨h1, q3⟩, q4⟩
    | false =>
      cases h2 : slt c y.1 with
      | true => exact .inr ⟨[], y :: t, rfl, fun _ h => (by cases h), List.forall_mem_cons.2 ⟨h2, fun e he => slt_trans h2 (hy e he)⟩⟩
      | false =>
        have hc : y.1 = c := slt_tri h1 h2
        exact .inl ⟨[], y, t, rfl, hc, fun _ h => (by cases h), fun e he => hc ▸ hy e he⟩

def fnd (c : ByteArray) : List Own → Bool
  | [] => false
  | x :: _ => seq x.1 c
section
variable {N : Nat} (hN : 4611686018427387904 ≤ N)
include hN
theorem owner_Check.v (l : List Own) (hl : l.length < 4611686018427387904) : owner_Check.fn N l = some (ownErr l) := by
  rw [owner_Check.eq]
  unfold ownErr
  by_cases h : (l.length : Int) > 24
  · simp [h]
  simp only [h, decide_false, cond_false]
  refine list_loop (l := l) (σ := Unit) (fun k _ i => owner_Check.l0 N l k i) (fun pre r _ => some (ersL (lastOf pre) r)) (fun _ _ => True)
    (fun k _ _ => owner_Check.l0_nil N l k) (fun k pre x r _ hl' _ ih => ?_) N () trivial (by omega)
  show owner_Check.l0 N l (k + 1) (pre.length : Int) = _
  have ih : owner_Check.l0 N l k ((pre.length : Int) + 1) = some (ersL x.1 r) := by rw [← lastOf_snoc pre x]; exact ih () trivial
  rw [owner_Check.l0_cons N l k hl' hl, ih]
  have ch : (decide (0 ≤ (w ((pre.length : Int) - 1))) && decide ((w ((pre.length : Int) - 1)) < (l.length : Int)) || !(decide ((pre.length : Int) > 0))) = true ∧
      (isName x.1 = true → (decide ((pre.length : Int) > 0) && ((slt (x.1) ((List.getD l (Int.toNat (w ((pre.length : Int) - 1))) ((⟨#[]⟩ : ByteArray), ((⟨#[]⟩ : ByteArray), (⟨#[]⟩ : ByteArray)))).1)) || (seq (x.1) ((List.getD l (Int.toNat (w ((pre.length : Int) - 1))) ((⟨#[]⟩ : ByteArray), ((⟨#[]⟩ : ByteArray), (⟨#[]⟩ : ByteArray)))).1)))) = (slt x.1 (lastOf pre) || seq x.1 (lastOf pre))) := by
    rcases List.eq_nil_or_concat pre with rfl | ⟨p, y, rfl⟩
    · refine ⟨by simp, fun hn => ?_⟩
      have := isName_ne hn
      simp [lastOf, this.1, this.2]
    · have hlen : l.length = p.length + 2 + r.length := by rw [hl']; simp; omega
      have hw : w ((((p.concat y).length : Nat) : Int) - 1) = (p.length : Int) := by rw [show ((((p.concat y).length : Nat) : Int) - 1) = p.length by simp]; exact w_small _ (by omega) (by omega)
      rw [hw]
      have hg : List.getD l (Int.toNat (p.length : Int)) ((⟨#[]⟩ : ByteArray), ((⟨#[]⟩ : ByteArray), (⟨#[]⟩ : ByteArray))) = y := by
        rw [hl', Int.toNat_natCast, List.concat_eq_append, List.append_assoc]; exact getD_mid p y _ _
      rw [hg]
      refine ⟨by simp [hlen]; omega, fun _ => ?_⟩
      rw [List.concat_eq_append, lastOf_snoc]
      simp
  rw [ch.1]
  simp only [owner_Name.v hN, cond_true, Option.bind_some, bif_some, Bool.not_not]
  rw [ersL_cons]
  unfold entBad
  have c2 := ch.2
  revert c2
  generalize (decide ((pre.length : Int) > 0) && _) = q
  generalize (slt x.1 (lastOf pre) || seq x.1 (lastOf pre)) = q'
  generalize isName x.1 = b1, isName x.2.1 = b2, isName x.2.2 = b3, seq x.2.2 nop = b4, seq x.2.2 x.2.1 = b5
  intro c2
  cases b1 with
  | false => rfl
  | true =>
    rw [c2 rfl]
    cases b2 <;> cases b3 <;> cases b4 <;> cases b5 <;> cases q' <;> rfl
theorem ref_OwnersError.v (l : List Own) (hl : l.length < 4611686018427387904) : ref_OwnersError.fn N l = some (ownErr l) := by
  rw [ref_OwnersError.eq]
  unfold ownErr
  by_cases h : (l.length : Int) > 24
  · simp [h]
  simp only [h, decide_false, cond_false]
  refine list_loop (l := l) (fun k s i => ref_OwnersError.l0 N l k s i) (fun _ r s => some (ersL s r)) (fun _ _ => True)
    (fun k s _ => ref_OwnersError.l0_nil N l k s) (fun k pre x r s hl' _ ih => ?_) N _ trivial (by omega)
  show ref_OwnersError.l0 N l (k + 1) s (pre.length : Int) = _
  have ih : ref_OwnersError.l0 N l k x.1 ((pre.length : Int) + 1) = some (ersL x.1 r) := ih _ trivial
  rw [ref_OwnersError.l0_cons N l k s hl' hl, ih]
  simp only [ref_IsName.v hN, Option.bind_some, bif_some, Bool.not_not]
  rw [ersL_cons]
  unfold entBad
  generalize (slt x.1 s || seq x.1 s) = q'
  generalize isName x.1 = b1, isName x.2.1 = b2, isName x.2.2 = b3, seq x.2.2 nop = b4, seq x.2.2 x.2.1 = b5
  cases b1 <;> cases b2 <;> cases b3 <;> cases b4 <;> cases b5 <;> cases q' <;> rfl
/-- The binary search. -/

theorem owner_find.v {lo hi : List Own} {c : ByteArray} (hlo : ∀ e ∈ lo, slt e.1 c = true) (hhi : ∀ e ∈ hi, slt e.1 c = false) (hl : (lo ++ hi).length < 4611686018427387904) :
    owner_find.fn N (lo ++ hi, c) = some ((lo.length : Int), fnd c hi) := by
  have hf : ∀ e : Own, owner_find_1.fn N (e, c) = some (cmpS e.1 c) := fun e => by rw [owner_find_1.eq, strings_Compare.eq]; rfl
  have key : ∀ (m : Nat) (k : Nat) (a b : Nat), b - a ≤ m → m < k → a ≤ lo.length → lo.length ≤ b → b ≤ (lo ++ hi).length →
      owner_find.l0 N (lo ++ hi) c k (a : Int) (b : Int) = some ((lo.length : Int), fnd c hi) := by
    intro m
    induction m with
    | zero =>
      intro k a b hm hk ha hb hbl
      obtain ⟨k, rfl⟩ : ∃ k', k = k' + 1 := ⟨k - 1, by omega⟩
      obtain rfl : a = lo.length := by omega
      obtain rfl : b = lo.length := by omega
      rw [owner_find.l0_clean]
      simp only [hf, Int.lt_irrefl, decide_false, cond_false, Int.toNat_natCast, bif_some, Option.bind_some]
      cases hi with
      | nil => simp [fnd]
      | cons x r =>
        rw [getD_mid]
        have h1 := hhi x (.head _)
        have h2 : ((lo.length : Nat) : Int) < ((lo ++ x :: r).length : Int) := by simp; omega
        have h3 : (cmpS x.1 c == 0) = seq x.1 c := by unfold cmpS; rw [h1]; cases seq x.1 c <;> rfl
        simp [show (lo.length : Int) < (lo.length : Int) + ((r.length : Int) + 1) by omega, h3, fnd]
    | succ m ih =>
      intro k a b hm hk ha hb hbl
      by_cases hab : a = b
      · exact ih k a b (by omega) (by omega) ha hb hbl
      obtain ⟨k, rfl⟩ : ∃ k', k = k' + 1 := ⟨k - 1, by omega⟩
      rw [owner_find.l0_clean]
      have hmid : w (shrI .u64 (IntKind.wrap .u64 (w ((a : Int) + (b : Int)))) 1) = ((((a + b) / 2 : Nat)) : Int) := by
        rw [w_small ((a : Int) + b) (by omega) (by omega)]
        have e1 : IntKind.wrap .u64 ((a : Int) + b) = (a : Int) + b := by
          simp only [IntKind.wrap, IntKind.bits, IntKind.signed]
          simp
          omega
        rw [e1]
        have e2 : shrI .u64 ((a : Int) + b) 1 = ((((a + b) / 2 : Nat)) : Int) := by
          unfold shrI
          have : (2 ^ (min (Int.toNat 1) (IntKind.bits .u64)) : Int) = 2 := rfl
          rw [this, Int.fdiv_eq_ediv_of_nonneg _ (by omega)]
          omega
        rw [e2]
        exact w_small _ (by omega) (by omega)
      rw [hmid]
      have hlt : decide ((a : Int) < (b : Int)) = true := by rw [decide_eq_true_iff]; omega
      have hin : (decide (0 ≤ ((((a + b) / 2 : Nat)) : Int)) && decide (((((a + b) / 2 : Nat)) : Int) < ((lo ++ hi).length : Int))) = true := by
        rw [Bool.and_eq_true, decide_eq_true_iff, decide_eq_true_iff]; omega
      rw [hlt, hin]
      simp only [cond_true, hf, Option.bind_some, Int.toNat_natCast]
      by_cases hc : (a + b) / 2 < lo.length
      · have hg : slt (List.getD (lo ++ hi) ((a + b) / 2) (nop, nop, nop)).1 c = true := by
          have : List.getD (lo ++ hi) ((a + b) / 2) (nop, nop, nop) = lo[(a + b) / 2] := by simp [List.getD, List.getElem?_append_left hc, hc]
          rw [this]
          exact hlo _ (List.getElem_mem _)
        have hq : decide (cmpS (List.getD (lo ++ hi) ((a + b) / 2) (nop, nop, nop)).1 c < 0) = true := by unfold cmpS; rw [hg]; rfl
        rw [hq, cond_true]
        have : w (((((a + b) / 2 : Nat)) : Int) + 1) = (((a + b) / 2 + 1 : Nat) : Int) := by rw [w_small _ (by omega) (by omega)]; omega
        rw [this]
        exact ih k _ b (by omega) (by omega) (by omega) hb hbl
      · have hg : slt (List.getD (lo ++ hi) ((a + b) / 2) (nop, nop, nop)).1 c = false := by
          have hlt' : (a + b) / 2 - lo.length < hi.length := by rw [List.length_append] at hbl; omega
          have : List.getD (lo ++ hi) ((a + b) / 2) (nop, nop, nop) = hi[(a + b) / 2 - lo.length] := by simp [List.getD, List.getElem?_append_right (Nat.not_lt.1 hc), hlt']
          rw [this]
          exact hhi _ (List.getElem_mem _)
        have hq : decide (cmpS (List.getD (lo ++ hi) ((a + b) / 2) (nop, nop, nop)).1 c < 0) = false := by
          unfold cmpS; rw [hg]; cases seq _ c <;> rfl
        rw [hq, cond_false]
        exact ih k a _ (by omega) (by omega) ha (by omega) (by omega)
  rw [owner_find.eq]
  exact key (lo ++ hi).length N 0 (lo ++ hi).length (by omega) (by omega) (by omega) (by simp) (Nat.le_refl _)

theorem find_found {lo r : List Own} {x : Own} (hlo : ∀ e ∈ lo, slt e.1 x.1 = true) (hr : ∀ e ∈ r, slt x.1 e.1 = true) (hl : (lo ++ x :: r).length < 4611686018427387904) :
    owner_find.fn N (lo ++ x :: r, x.1) = some ((lo.length : Int), true) := by
  rw [owner_find.v hN hlo (List.forall_mem_cons.2 ⟨slt_irrefl _, fun e he => slt_asymm (hr e he)⟩) hl]
  simp [fnd, seq_self]
theorem find_none {lo hi : List Own} {c : ByteArray} (hlo : ∀ e ∈ lo, slt e.1 c = true) (hhi : ∀ e ∈ hi, slt c e.1 = true) (hl : (lo ++ hi).length < 4611686018427387904) :
    owner_find.fn N (lo ++ hi, c) = some ((lo.length : Int), false) := by
  rw [owner_find.v hN hlo (fun e he => slt_asymm (hhi e he)) hl]
  cases hi with
  | nil => rfl
  | cons x r => rw [fnd, show seq x.1 c = false from seq_ff.2 (slt_ne (hhi x (.head _))).symm]
theorem ref_at (l : List Own) (c : ByteArray) (hl : l.length < 4611686018427387904) : ref_OwnerAt.fn N (l, c) = some (idxL (fun x => seq x.1 c) l 0) := by
  rw [ref_OwnerAt.eq]
  exact find_list (fun x => seq x.1 c) (fun k i => ref_OwnerAt.l0 N l c k i) (fun k => ref_OwnerAt.l0_nil N l c k) (fun k pre x r h => ref_OwnerAt.l0_cons N l c k h hl) N (by omega)
theorem ref_found {lo r : List Own} {x : Own} (hlo : ∀ e ∈ lo, slt e.1 x.1 = true) (hl : (lo ++ x :: r).length < 4611686018427387904) :
    ref_OwnerAt.fn N (lo ++ x :: r, x.1) = some (lo.length : Int) := by
  rw [ref_at hN _ _ hl]
  have : ∀ (lo : List Own) (i : Int), (∀ e ∈ lo, slt e.1 x.1 = true) → idxL (fun y => seq y.1 x.1) (lo ++ x :: r) i = i + lo.length := by
    intro lo
    induction lo with
    | nil => intro i _; simp [idxL, seq_self]
    | cons y lo ih =>
      intro i h
      obtain ⟨h1, h2⟩ := List.forall_mem_cons.1 h
      have := ih (i + 1) h2
      simp only [List.cons_append, idxL, show seq y.1 x.1 = false from seq_ff.2 (slt_ne h1), cond_false, this, List.length_cons]
      omega
  rw [this lo 0 hlo, Int.zero_add]
theorem ref_none {lo hi : List Own} {c : ByteArray} (hlo : ∀ e ∈ lo, slt e.1 c = true) (hhi : ∀ e ∈ hi, slt c e.1 = true) (hl : (lo ++ hi).length < 4611686018427387904) :
    ref_OwnerAt.fn N (lo ++ hi, c) = some (-1) := by
  rw [ref_at hN _ _ hl]
  have : ∀ (l : List Own) (i : Int), (∀ e ∈ l, seq e.1 c = false) → idxL (fun y => seq y.1 c) l i = -1 := by
    intro l
    induction l with
    | nil => intro i _; rfl
    | cons y l ih =>
      intro i h
      obtain ⟨h1, h2⟩ := List.forall_mem_cons.1 h
      rw [idxL, h1, cond_false]
      exact ih _ h2
  rw [this _ 0 fun e he => ?_]
  rcases List.mem_append.1 he with he | he
  · exact seq_ff.2 (slt_ne (hlo e he))
  · exact seq_ff.2 (slt_ne (hhi e he)).symm
end
/-! ### a list with an entry put in -/
def wth (e : Own) : Bool → List Own → List Own
  | a, [] => bif !a then [e] else []
  | a, x :: r => (bif !a && !(slt x.1 e.1) then [e] else []) ++ ((bif !(seq x.1 e.1) then [x] else []) ++ wth e (a || !(slt x.1 e.1)) r)
theorem wth_true {e : Own} : ∀ {r : List Own}, (∀ y ∈ r, slt e.1 y.1 = true) → wth e true r = r
  | [], _ => rfl
  | y :: r, h => by
    obtain ⟨h1, h2⟩ := List.forall_mem_cons.1 h
    simp [wth, seq_ff.2 (slt_ne h1).symm, wth_true h2]
theorem wth_lo {e : Own} (a : Bool) : ∀ {lo t : List Own}, (∀ y ∈ lo, slt y.1 e.1 = true) → wth e a (lo ++ t) = lo ++ wth e a t
  | [], _, _ => rfl
  | y :: lo, t, h => by
    obtain ⟨h1, h2⟩ := List.forall_mem_cons.1 h
    simp [wth, seq_ff.2 (slt_ne h1), h1, wth_lo a h2]
theorem wth_found {e x : Own} {lo r : List Own} (hx : x.1 = e.1) (hlo : ∀ y ∈ lo, slt y.1 x.1 = true) (hr : ∀ y ∈ r, slt x.1 y.1 = true) (a : Bool) : wth e a (lo ++ x :: r) = lo ++ ((bif !a then [e] else []) ++ r) := by
  rw [hx] at hlo hr
  rw [wth_lo a hlo]
  simp [wth, hx, slt_irrefl, seq_self, wth_true hr]
theorem wth_none {e : Own} {lo hi : List Own} (hlo : ∀ y ∈ lo, slt y.1 e.1 = true) (hhi : ∀ y ∈ hi, slt e.1 y.1 = true) : wth e false (lo ++ hi) = lo ++ e :: hi := by
  rw [wth_lo false hlo]
  cases hi with
  | nil => rfl
  | cons y r =>
    obtain ⟨h1, h2⟩ := List.forall_mem_cons.1 hhi
    simp [wth, seq_ff.2 (slt_ne h1).symm, slt_asymm h1, wth_true h2]
section
variable {N : Nat} (hN : 4611686018427387904 ≤ N)
include hN
theorem ref_OwnersWith.v (l : List Own) (e : Own) (hl : l.length ≤ 24) : ref_OwnersWith.fn N (l, e) = some (wth e (seq e.2.1 nop) l) := by
  rw [ref_OwnersWith.eq]
  obtain ⟨M, hM⟩ : ∃ M, N = M + 1 := ⟨N - 1, by omega⟩
  have cap : ∀ m : Nat, m ≤ 60 → (decide ((m + 1) * 48 ≤ 140737488355328) && decide ((m + 1) ≤ maxLen)) = true := fun m hm => by
    rw [Bool.and_eq_true, decide_eq_true_iff, decide_eq_true_iff]; unfold maxLen; omega
  refine (list_loop (l := l) (σ := Bool × List Own) (fun k s i => ref_OwnersWith.l0 N l e k s.1 i s.2) (fun _ r s => some (s.2 ++ wth e s.1 r)) (fun pre s => s.2.length ≤ pre.length + s.1.toNat)
    (fun k s hs => ?_) (fun k pre x r s hl' hs ih => ?_) N (seq e.2.1 nop, []) (by simp) (by omega)).trans (by simp)
  · show ref_OwnersWith.l0 N l e (k + 1) s.1 (l.length : Int) s.2 = _
    have := Bool.toNat_le s.1
    rw [ref_OwnersWith.l0_nil N l e k, cap _ (by omega)]
    cases s.1 <;> simp [wth]
  · show ref_OwnersWith.l0 N l e (k + 1) s.1 (pre.length : Int) s.2 = _
    have := Bool.toNat_le s.1
    have hlen : l.length = pre.length + 1 + r.length := by rw [hl']; simp; omega
    have j : ∀ a3 (a5 : Bool) a6, ref_OwnersWith.j1 N l e k a3 a5 a6 = _ := fun a3 a5 a6 => ref_OwnersWith.j1_eq N l e k a3 a5 a6 hM
    rw [ref_OwnersWith.l0_cons N l e k s.1 s.2 hl' (by omega), cap _ (by omega)]
    simp only [cond_true, j, Int.toNat_natCast]
    rw [show List.getD l pre.length ((⟨#[]⟩ : ByteArray), ((⟨#[]⟩ : ByteArray), (⟨#[]⟩ : ByteArray))) = x by rw [hl']; exact getD_mid pre x r _, w_next hl' (by omega)]
    obtain ⟨a, acc⟩ := s
    have ih : ∀ (a' : Bool) acc', acc'.length ≤ pre.length + 1 + a'.toNat → ref_OwnersWith.l0 N l e k a' ((pre.length : Int) + 1) acc' = some (acc' ++ wth e a' r) := fun a' acc' h => ih (a', acc') (by simpa using h)
    have hs : acc.length ≤ pre.length + a.toNat := hs
    have t1 : true.toNat = 1 := rfl
    have t0 : false.toNat = 0 := rfl
    simp only [wth]
    cases a with
    | true =>
      simp only [Bool.not_true, Bool.false_and, cond_false, Bool.true_or, List.nil_append]
      cases hq : seq x.1 e.1 with
      | true => simp only [Bool.not_true, cond_false, List.nil_append]; exact ih _ _ (by omega)
      | false =>
        simp only [Bool.not_false, cond_true, cap _ (show acc.length ≤ 60 by omega)]
        rw [ih _ _ (by simp; omega), List.append_assoc]
    | false =>
      cases hp : slt x.1 e.1 with
      | true =>
        simp only [Bool.not_true, Bool.and_false, cond_false, Bool.false_or, List.nil_append]
        cases hq : seq x.1 e.1 with
        | true => simp only [Bool.not_true, cond_false, List.nil_append]; exact ih _ _ (by omega)
        | false =>
          simp only [Bool.not_false, cond_true, cap _ (show acc.length ≤ 60 by omega)]
          rw [ih _ _ (by simp; omega), List.append_assoc]
      | false =>
        simp only [Bool.not_false, Bool.and_self, cond_true, Bool.false_or]
        cases hq : seq x.1 e.1 with
        | true => simp only [Bool.not_true, cond_false, List.nil_append]; rw [ih _ _ (by simp; omega), List.append_assoc]
        | false =>
          simp only [Bool.not_false, cond_true, cap (acc ++ [e]).length (by simp; omega)]
          rw [ih _ _ (by simp; omega), List.append_assoc, List.append_assoc]
end

section
variable {N : Nat} (hN : 4611686018427387904 ≤ N)
include hN
theorem at_err {l : List Own} (hl : l.length < 4611686018427387904) (h : (ownErr l == 0) = false) (c : ByteArray) : owner_at.fn N (l, c) = some (0, ownErr l) := by
  rw [owner_at.eq, owner_Check.v hN l hl]; simp -implicitDefEqProofs [h]
theorem at_found {lo r : List Own} {x : Own} (hE : ownErr (lo ++ x :: r) = 0) (hlo : ∀ e ∈ lo, slt e.1 x.1 = true) (hr : ∀ e ∈ r, slt x.1 e.1 = true) (hl : (lo ++ x :: r).length < 4611686018427387904) :
    owner_at.fn N (lo ++ x :: r, x.1) = some ((lo.length : Int), 0) := by
  rw [owner_at.eq, owner_Check.v hN _ hl, find_found hN hlo hr hl]; simp -implicitDefEqProofs [hE]
theorem at_none {lo hi : List Own} {c : ByteArray} (hE : ownErr (lo ++ hi) = 0) (hlo : ∀ e ∈ lo, slt e.1 c = true) (hhi : ∀ e ∈ hi, slt c e.1 = true) (hl : (lo ++ hi).length < 4611686018427387904) :
    owner_at.fn N (lo ++ hi, c) = some (0, 8) := by
  rw [owner_at.eq, owner_Check.v hN _ hl, find_none hN hlo hhi hl]; simp -implicitDefEqProofs [hE]
theorem changed_v {lo r : List Own} {x : Own} (e : Own) (hl : (lo ++ x :: r).length ≤ 24) : owner_changed.fn N (lo ++ x :: r, (lo.length : Int), e) = some (lo ++ e :: r) := by
  rw [owner_changed.eq, slices_Clone_OwnerEntry.v N _ (by omega)]
  have h : lo.length < (lo ++ x :: r).length := by simp
  simp -implicitDefEqProofs only [Option.bind_some, Int.toNat_natCast, show decide (lo.length < (lo ++ x :: r).length) = true from decide_eq_true h, show decide ((lo.length : Int) < ((lo ++ x :: r).length : Int)) = true by rw [decide_eq_true_iff]; omega,
    show decide (0 ≤ (lo.length : Int)) = true by rw [decide_eq_true_iff]; omega, Bool.and_self, cond_true]
  simp
/-- An operation, and what the reference says of it. -/
def StepOk (N : Nat) (l : List Own) (i : Int) (c o t : ByteArray) (f : Option (List Own × Int)) : Prop :=
  ∃ v, f = some v ∧ v.1.length < 4611686018427387904 ∧ (ownErr l = 0 → ref_OwnerStep.fn N (l, i, c, o, t) = some v) ∧ (ownErr l ≠ 0 → v = ([], ownErr l))
theorem stepOk_err {l : List Own} {i : Int} {c o t : ByteArray} {f : Option (List Own × Int)} (h : ownErr l ≠ 0) (hf : f = some ([], ownErr l)) : StepOk N l i c o t f :=
  ⟨_, hf, by simp, fun e => absurd e h, fun _ => rfl⟩
theorem stepOk_ok {l : List Own} {i : Int} {c o t : ByteArray} {f : Option (List Own × Int)} (h : ownErr l = 0) (v : List Own × Int) (hf : f = some v) (hv : v.1.length ≤ 25) (hr : ref_OwnerStep.fn N (l, i, c, o, t) = some v) : StepOk N l i c o t f :=
  ⟨v, hf, by omega, fun _ => hr, fun e => absurd h e⟩
theorem lo_in (lo : List Own) (x : Own) (r : List Own) : (decide (0 ≤ (lo.length : Int)) && decide ((lo.length : Int) < ((lo ++ x :: r).length : Int))) = true := by
  rw [Bool.and_eq_true, decide_eq_true_iff, decide_eq_true_iff]; simp; omega
theorem begin_ok (l : List Own) (c o t : ByteArray) (hl : l.length < 4611686018427387904) : StepOk N l 0 c o t (owner_Begin.fn N (l, c, o)) := by
  by_cases hE : ownErr l ≠ 0
  · refine stepOk_err hN hE ?_
    rw [owner_Begin.clean, owner_Check.v hN l hl]
    simp -implicitDefEqProofs [show (ownErr l == 0) = false by simpa using hE]
  have hE := Decidable.not_not.1 hE
  obtain ⟨hlen, hbad, hsort⟩ := ownErr_ok hE
  rcases cut_at hsort c with ⟨lo, x, r, rfl, rfl, hlo, hr⟩ | ⟨lo, hi, rfl, hlo, hhi⟩
  · refine stepOk_ok hN hE (bif !isName x.1 || !isName o then ([], 3) else ([], 7)) ?_ ?_ ?_
    · rw [owner_Begin.clean, owner_Check.v hN _ hl, find_found hN hlo hr hl]
      simp -implicitDefEqProofs only [hE, owner_Name.v hN, Option.bind_some, bif_some, beq_self_eq_true, Bool.not_true, cond_false, cond_true]
      generalize isName x.1 = b1, isName o = b2
      cases b1 <;> cases b2 <;> rfl
    · generalize isName x.1 = b1, isName o = b2
      cases b1 <;> cases b2 <;> simp
    · rw [ref_OwnerStep.clean, ref_found hN hlo hl]
      simp -implicitDefEqProofs only [ref_IsName.v hN, Option.bind_some, bif_some, beq_self_eq_true, cond_true, show decide ((lo.length : Int) ≥ 0) = true by rw [decide_eq_true_iff]; omega]
      generalize isName x.1 = b1, isName o = b2
      cases b1 <;> cases b2 <;> rfl
  · have h24 : (((lo ++ hi).length : Int) == 24) = decide (((lo ++ hi).length : Int) ≥ 24) := by
      by_cases h : (lo ++ hi).length = 24
      · rw [h]; rfl
      · rw [decide_eq_false (by omega), beq_eq_false_iff_ne]; omega
    refine stepOk_ok hN hE (bif !isName c || !isName o then ([], 3) else bif decide (((lo ++ hi).length : Int) ≥ 24) then ([], 9) else (lo ++ (c, o, nop) :: hi, 0)) ?_ ?_ ?_
    · rw [owner_Begin.clean, owner_Check.v hN _ hl, find_none hN hlo hhi hl, slices_Clone_OwnerEntry.v N _ (by omega), h24]
      have c1 : (decide (0 ≤ (lo.length : Int)) && decide ((lo.length : Int) ≤ ((lo ++ hi).length : Int))) = true := by
        rw [Bool.and_eq_true, decide_eq_true_iff, decide_eq_true_iff]; simp; omega
      have c2 : (decide (((lo ++ hi).length + 1) * 48 ≤ 140737488355328) && decide ((lo ++ hi).length + 1 ≤ maxLen)) = true := by
        rw [Bool.and_eq_true, decide_eq_true_iff, decide_eq_true_iff]; unfold maxLen; omega
      simp -implicitDefEqProofs only [hE, owner_Name.v hN, Option.bind_some, bif_some, beq_self_eq_true, Bool.not_true, cond_false, cond_true, c1, c2, Int.toNat_natCast, List.take_left', List.drop_left']
      generalize isName c = b1, isName o = b2
      cases b1 <;> cases b2 <;> simp -implicitDefEqProofs [bif_some]
    · generalize isName c = b1, isName o = b2
      by_cases h : (((lo ++ hi).length : Int) ≥ 24)
      · rw [decide_eq_true h]
        cases b1 <;> cases b2 <;> simp -implicitDefEqProofs
      · rw [decide_eq_false h]
        rw [List.length_append] at h
        cases b1 <;> cases b2 <;> simp -implicitDefEqProofs
        omega
    · rw [ref_OwnerStep.clean, ref_none hN hlo hhi hl, ref_OwnersWith.v hN _ _ hlen]
      have nb : isName o = true → seq o nop = false := fun h => (isName_ne h).2
      simp -implicitDefEqProofs only [ref_IsName.v hN, Option.bind_some, bif_some, beq_self_eq_true, cond_true, cond_false, show decide ((-1 : Int) ≥ 0) = false from rfl]
      revert nb
      generalize isName c = b1, isName o = b2
      intro nb
      cases b1 <;> cases b2 <;> simp -implicitDefEqProofs [bif_some]
      rw [nb rfl, wth_none hlo hhi]
theorem offer_ok (l : List Own) (c o t : ByteArray) (hl : l.length < 4611686018427387904) : StepOk N l 2 c o t (owner_Offer.fn N (l, c, o, t)) := by
  by_cases hE : ownErr l ≠ 0
  · refine stepOk_err hN hE ?_
    rw [owner_Offer.eq, at_err hN hl (by simpa using hE)]
    simp -implicitDefEqProofs [show (ownErr l == 0) = false by simpa using hE]
  have hE := Decidable.not_not.1 hE
  obtain ⟨hlen, hbad, hsort⟩ := ownErr_ok hE
  rcases cut_at hsort c with ⟨lo, x, r, rfl, rfl, hlo, hr⟩ | ⟨lo, hi, rfl, hlo, hhi⟩
  · have hb := hbad x (by simp)
    have hx : seq x.2.1 nop = false := by
      unfold entBad at hb
      cases h : isName x.2.1 with
      | true => exact (isName_ne h).2
      | false => rw [h] at hb; simp at hb
    refine stepOk_ok hN hE (bif !seq x.2.1 o then ([], 16) else bif !seq x.2.2 nop then ([], 11) else bif !isName t then ([], 3) else bif seq t o then ([], 1) else (lo ++ (x.1, x.2.1, t) :: r, 0)) ?_ ?_ ?_
    · rw [owner_Offer.eq, at_found hN hE hlo hr hl]
      simp -implicitDefEqProofs only [lo_in hN lo x r, beq_self_eq_true, Option.bind_some, Bool.not_true, Bool.not_false, cond_true, cond_false, Int.toNat_natCast, getD_mid, bif_some, owner_Name.v hN, changed_v hN _ hlen]
    · simp at hlen
      cases seq x.2.1 o <;> cases seq x.2.2 nop <;> cases isName t <;> cases seq t o <;> simp <;> omega
    · have wf : ∀ (b d : ByteArray) (a : Bool), wth (x.1, b, d) a (lo ++ x :: r) = lo ++ ((bif !a then [(x.1, b, d)] else []) ++ r) := fun b d a => wth_found (e := (x.1, b, d)) (x := x) rfl hlo hr a
      rw [ref_OwnerStep.clean, ref_found hN hlo hl]
      simp -implicitDefEqProofs only [lo_in hN lo x r, show decide ((lo.length : Int) < 0) = false by rw [decide_eq_false_iff_not]; omega, Option.bind_some, cond_true, cond_false, Int.toNat_natCast, getD_mid, bif_some, ref_OwnersWith.v hN _ _ hlen, wf, hx, beq_self_eq_true, seq_self, Bool.not_true, Bool.not_false, Bool.true_or, Bool.false_or, Bool.and_true, List.nil_append, List.cons_append, List.append_assoc,
        show ((1 : Int) == 0) = false from rfl, show ((2 : Int) == 0) = false from rfl, show ((3 : Int) == 0) = false from rfl, show ((4 : Int) == 0) = false from rfl, show ((2 : Int) == 1) = false from rfl, show ((3 : Int) == 1) = false from rfl, show ((4 : Int) == 1) = false from rfl, show ((3 : Int) == 2) = false from rfl, show ((4 : Int) == 2) = false from rfl, show ((4 : Int) == 3) = false from rfl, ref_IsName.v hN]
  · refine stepOk_ok hN hE ([], 8) ?_ (by simp) ?_
    · rw [owner_Offer.eq, at_none hN hE hlo hhi hl]
      simp -implicitDefEqProofs
    · rw [ref_OwnerStep.clean, ref_none hN hlo hhi hl]
      simp -implicitDefEqProofs
theorem accept_ok (l : List Own) (c o t : ByteArray) (hl : l.length < 4611686018427387904) : StepOk N l 3 c o t (owner_Accept.fn N (l, c, o)) := by
  by_cases hE : ownErr l ≠ 0
  · refine stepOk_err hN hE ?_
    rw [owner_Accept.eq, at_err hN hl (by simpa using hE)]
    simp -implicitDefEqProofs [show (ownErr l == 0) = false by simpa using hE]
  have hE := Decidable.not_not.1 hE
  obtain ⟨hlen, hbad, hsort⟩ := ownErr_ok hE
  rcases cut_at hsort c with ⟨lo, x, r, rfl, rfl, hlo, hr⟩ | ⟨lo, hi, rfl, hlo, hhi⟩
  · have hb := hbad x (by simp)
    have hx : seq x.2.1 nop = false := by
      unfold entBad at hb
      cases h : isName x.2.1 with
      | true => exact (isName_ne h).2
      | false => rw [h] at hb; simp at hb
    refine stepOk_ok hN hE (bif seq x.2.2 nop then ([], 11) else bif !seq x.2.2 o then ([], 16) else (lo ++ (x.1, o, nop) :: r, 0)) ?_ ?_ ?_
    · rw [owner_Accept.eq, at_found hN hE hlo hr hl]
      simp -implicitDefEqProofs only [lo_in hN lo x r, beq_self_eq_true, Option.bind_some, Bool.not_true, Bool.not_false, cond_true, cond_false, Int.toNat_natCast, getD_mid, bif_some, changed_v hN _ hlen]
    · simp at hlen
      cases seq x.2.2 nop <;> cases seq x.2.2 o <;> simp <;> omega
    · have wf : ∀ (b d : ByteArray) (a : Bool), wth (x.1, b, d) a (lo ++ x :: r) = lo ++ ((bif !a then [(x.1, b, d)] else []) ++ r) := fun b d a => wth_found (e := (x.1, b, d)) (x := x) rfl hlo hr a
      rw [ref_OwnerStep.clean, ref_found hN hlo hl]
      simp -implicitDefEqProofs only [lo_in hN lo x r, show decide ((lo.length : Int) < 0) = false by rw [decide_eq_false_iff_not]; omega, Option.bind_some, cond_true, cond_false, Int.toNat_natCast, getD_mid, bif_some, ref_OwnersWith.v hN _ _ hlen, wf, hx, beq_self_eq_true, seq_self, Bool.not_true, Bool.not_false, Bool.true_or, Bool.false_or, Bool.and_true, List.nil_append, List.cons_append, List.append_assoc,
        show ((1 : Int) == 0) = false from rfl, show ((2 : Int) == 0) = false from rfl, show ((3 : Int) == 0) = false from rfl, show ((4 : Int) == 0) = false from rfl, show ((2 : Int) == 1) = false from rfl, show ((3 : Int) == 1) = false from rfl, show ((4 : Int) == 1) = false from rfl, show ((3 : Int) == 2) = false from rfl, show ((4 : Int) == 2) = false from rfl, show ((4 : Int) == 3) = false from rfl]
      cases h1 : seq x.2.2 nop with
      | true => rfl
      | false =>
        cases h2 : seq x.2.2 o with
        | false => rfl
        | true =>
          have : seq o nop = false := by rw [← sq_iff.1 h2]; exact h1
          simp -implicitDefEqProofs [this]
  · refine stepOk_ok hN hE ([], 8) ?_ (by simp) ?_
    · rw [owner_Accept.eq, at_none hN hE hlo hhi hl]
      simp -implicitDefEqProofs
    · rw [ref_OwnerStep.clean, ref_none hN hlo hhi hl]
      simp -implicitDefEqProofs
theorem cancel_ok (l : List Own) (c o t : ByteArray) (hl : l.length < 4611686018427387904) : StepOk N l 4 c o t (owner_Cancel.fn N (l, c, o)) := by
  by_cases hE : ownErr l ≠ 0
  · refine stepOk_err hN hE ?_
    rw [owner_Cancel.clean, at_err hN hl (by simpa using hE)]
    simp -implicitDefEqProofs [show (ownErr l == 0) = false by simpa using hE]
  have hE := Decidable.not_not.1 hE
  obtain ⟨hlen, hbad, hsort⟩ := ownErr_ok hE
  rcases cut_at hsort c with ⟨lo, x, r, rfl, rfl, hlo, hr⟩ | ⟨lo, hi, rfl, hlo, hhi⟩
  · have hb := hbad x (by simp)
    have hx : seq x.2.1 nop = false := by
      unfold entBad at hb
      cases h : isName x.2.1 with
      | true => exact (isName_ne h).2
      | false => rw [h] at hb; simp at hb
    refine stepOk_ok hN hE (bif seq x.2.2 nop then ([], 11) else bif !seq x.2.1 o && !seq x.2.2 o then ([], 16) else (lo ++ (x.1, x.2.1, nop) :: r, 0)) ?_ ?_ ?_
    · rw [owner_Cancel.clean, at_found hN hE hlo hr hl]
      simp -implicitDefEqProofs only [lo_in hN lo x r, beq_self_eq_true, Option.bind_some, Bool.not_true, Bool.not_false, cond_true, cond_false, Int.toNat_natCast, getD_mid, bif_some, changed_v hN _ hlen]
    · simp at hlen
      cases seq x.2.2 nop <;> cases seq x.2.2 o <;> cases seq x.2.1 o <;> simp <;> omega
    · have wf : ∀ (b d : ByteArray) (a : Bool), wth (x.1, b, d) a (lo ++ x :: r) = lo ++ ((bif !a then [(x.1, b, d)] else []) ++ r) := fun b d a => wth_found (e := (x.1, b, d)) (x := x) rfl hlo hr a
      rw [ref_OwnerStep.clean, ref_found hN hlo hl]
      simp -implicitDefEqProofs only [lo_in hN lo x r, show decide ((lo.length : Int) < 0) = false by rw [decide_eq_false_iff_not]; omega, Option.bind_some, cond_true, cond_false, Int.toNat_natCast, getD_mid, bif_some, ref_OwnersWith.v hN _ _ hlen, wf, hx, beq_self_eq_true, seq_self, Bool.not_true, Bool.not_false, Bool.true_or, Bool.false_or, Bool.and_true, List.nil_append, List.cons_append, List.append_assoc,
        show ((1 : Int) == 0) = false from rfl, show ((2 : Int) == 0) = false from rfl, show ((3 : Int) == 0) = false from rfl, show ((4 : Int) == 0) = false from rfl, show ((2 : Int) == 1) = false from rfl, show ((3 : Int) == 1) = false from rfl, show ((4 : Int) == 1) = false from rfl, show ((3 : Int) == 2) = false from rfl, show ((4 : Int) == 2) = false from rfl, show ((4 : Int) == 3) = false from rfl]
      cases seq x.2.2 nop <;> cases seq x.2.2 o <;> cases seq x.2.1 o <;> rfl
  · refine stepOk_ok hN hE ([], 8) ?_ (by simp) ?_
    · rw [owner_Cancel.clean, at_none hN hE hlo hhi hl]
      simp -implicitDefEqProofs
    · rw [ref_OwnerStep.clean, ref_none hN hlo hhi hl]
      simp -implicitDefEqProofs
theorem end_ok (l : List Own) (c o t : ByteArray) (hl : l.length < 4611686018427387904) : StepOk N l 1 c o t (owner_End.fn N (l, c, o)) := by
  by_cases hE : ownErr l ≠ 0
  · refine stepOk_err hN hE ?_
    rw [owner_End.eq, at_err hN hl (by simpa using hE)]
    simp -implicitDefEqProofs [show (ownErr l == 0) = false by simpa using hE]
  have hE := Decidable.not_not.1 hE
  obtain ⟨hlen, hbad, hsort⟩ := ownErr_ok hE
  rcases cut_at hsort c with ⟨lo, x, r, rfl, rfl, hlo, hr⟩ | ⟨lo, hi, rfl, hlo, hhi⟩
  · have hb := hbad x (by simp)
    have hx : seq x.2.1 nop = false := by
      unfold entBad at hb
      cases h : isName x.2.1 with
      | true => exact (isName_ne h).2
      | false => rw [h] at hb; simp at hb
    refine stepOk_ok hN hE (bif !seq x.2.1 o then ([], 16) else (lo ++ r, 0)) ?_ ?_ ?_
    · rw [owner_End.eq, at_found hN hE hlo hr hl, slices_Clone_OwnerEntry.v N _ (by omega)]
      simp -implicitDefEqProofs only [lo_in hN lo x r, beq_self_eq_true, Option.bind_some, Bool.not_true, Bool.not_false, cond_true, cond_false, Int.toNat_natCast, getD_mid, bif_some]
      cases seq x.2.1 o with
      | false => rfl
      | true =>
        simp -implicitDefEqProofs only [Bool.not_true, cond_false]
        exact (delK_eq ((⟨#[]⟩ : ByteArray), ((⟨#[]⟩ : ByteArray), (⟨#[]⟩ : ByteArray))) (B := 48) (fun m => some (m, (0 : Int))) rfl rfl (by omega) (by omega)).trans (by simp)
    · simp at hlen
      cases seq x.2.1 o <;> simp <;> omega
    · have wf : ∀ (b d : ByteArray) (a : Bool), wth (x.1, b, d) a (lo ++ x :: r) = lo ++ ((bif !a then [(x.1, b, d)] else []) ++ r) := fun b d a => wth_found (e := (x.1, b, d)) (x := x) rfl hlo hr a
      rw [ref_OwnerStep.clean, ref_found hN hlo hl]
      simp -implicitDefEqProofs only [lo_in hN lo x r, show decide ((lo.length : Int) < 0) = false by rw [decide_eq_false_iff_not]; omega, Option.bind_some, cond_true, cond_false, Int.toNat_natCast, getD_mid, bif_some, ref_OwnersWith.v hN _ _ hlen, wf, hx, beq_self_eq_true, seq_self, Bool.not_true, Bool.not_false, Bool.true_or, Bool.false_or, Bool.and_true, List.nil_append, List.cons_append, List.append_assoc,
        show ((1 : Int) == 0) = false from rfl, show ((2 : Int) == 0) = false from rfl, show ((3 : Int) == 0) = false from rfl, show ((4 : Int) == 0) = false from rfl, show ((2 : Int) == 1) = false from rfl, show ((3 : Int) == 1) = false from rfl, show ((4 : Int) == 1) = false from rfl, show ((3 : Int) == 2) = false from rfl, show ((4 : Int) == 2) = false from rfl, show ((4 : Int) == 3) = false from rfl]
  · refine stepOk_ok hN hE ([], 8) ?_ (by simp) ?_
    · rw [owner_End.eq, at_none hN hE hlo hhi hl]
      simp -implicitDefEqProofs
    · rw [ref_OwnerStep.clean, ref_none hN hlo hhi hl]
      simp -implicitDefEqProofs
end
section
variable {N : Nat} (hN : 4611686018427387904 ≤ N)
include hN
theorem law_ownerFact.v : law_ownerFact.fn N () = some true := by
  obtain ⟨M, rfl⟩ : ∃ M, N = M + 16 := ⟨N - 16, by omega⟩
  have s1 : owner_Begin.fn (M + 16) ([], (⟨#[65, 49]⟩ : ByteArray), (⟨#[69, 65, 83, 84]⟩ : ByteArray)) = some ([((⟨#[65, 49]⟩ : ByteArray), (⟨#[69, 65, 83, 84]⟩ : ByteArray), nop)], 0) := by
    rw [owner_Begin.clean, slices_Clone_OwnerEntry.v _ _ (by simp)]
    kernel_rfl
  have s2 : owner_Offer.fn (M + 16) ([((⟨#[65, 49]⟩ : ByteArray), (⟨#[69, 65, 83, 84]⟩ : ByteArray), nop)], (⟨#[65, 49]⟩ : ByteArray), (⟨#[69, 65, 83, 84]⟩ : ByteArray), (⟨#[87, 69, 83, 84]⟩ : ByteArray)) = some ([((⟨#[65, 49]⟩ : ByteArray), (⟨#[69, 65, 83, 84]⟩ : ByteArray), (⟨#[87, 69, 83, 84]⟩ : ByteArray))], 0) := by kernel_rfl
  have s3 : owner_Accept.fn (M + 16) ([((⟨#[65, 49]⟩ : ByteArray), (⟨#[69, 65, 83, 84]⟩ : ByteArray), (⟨#[87, 69, 83, 84]⟩ : ByteArray))], (⟨#[65, 49]⟩ : ByteArray), (⟨#[87, 69, 83, 84]⟩ : ByteArray)) = some ([((⟨#[65, 49]⟩ : ByteArray), (⟨#[87, 69, 83, 84]⟩ : ByteArray), nop)], 0) := by kernel_rfl
  have s4 : owner_Cancel.fn (M + 16) ([((⟨#[65, 49]⟩ : ByteArray), (⟨#[69, 65, 83, 84]⟩ : ByteArray), (⟨#[87, 69, 83, 84]⟩ : ByteArray))], (⟨#[65, 49]⟩ : ByteArray), (⟨#[87, 69, 83, 84]⟩ : ByteArray)) = some ([((⟨#[65, 49]⟩ : ByteArray), (⟨#[69, 65, 83, 84]⟩ : ByteArray), nop)], 0) := by kernel_rfl
  have s5 : owner_Of.fn (M + 16) ([((⟨#[65, 49]⟩ : ByteArray), (⟨#[87, 69, 83, 84]⟩ : ByteArray), nop)], (⟨#[65, 49]⟩ : ByteArray)) = some ((⟨#[87, 69, 83, 84]⟩ : ByteArray), 0) := by kernel_rfl
  have s6 : owner_Flights.fn (M + 16) ([((⟨#[65, 49]⟩ : ByteArray), (⟨#[87, 69, 83, 84]⟩ : ByteArray), nop)], (⟨#[87, 69, 83, 84]⟩ : ByteArray)) = some ([(⟨#[65, 49]⟩ : ByteArray)], 0) := by kernel_rfl
  have s7 : owner_Move.fn (M + 16) ([((⟨#[65, 49]⟩ : ByteArray), (⟨#[69, 65, 83, 84]⟩ : ByteArray), (⟨#[87, 69, 83, 84]⟩ : ByteArray))], (⟨#[87, 69, 83, 84]⟩ : ByteArray), (⟨#[69, 65, 83, 84]⟩ : ByteArray)) = some ([((⟨#[65, 49]⟩ : ByteArray), (⟨#[69, 65, 83, 84]⟩ : ByteArray), nop)], 0) := by kernel_rfl
  have s8 : owner_End.fn (M + 16) ([((⟨#[65, 49]⟩ : ByteArray), (⟨#[87, 69, 83, 84]⟩ : ByteArray), nop)], (⟨#[65, 49]⟩ : ByteArray), (⟨#[87, 69, 83, 84]⟩ : ByteArray)) = some ([], 0) := by kernel_rfl
  have s9 : owner_End.fn (M + 16) ([((⟨#[65, 49]⟩ : ByteArray), (⟨#[87, 69, 83, 84]⟩ : ByteArray), nop)], (⟨#[65, 49]⟩ : ByteArray), (⟨#[69, 65, 83, 84]⟩ : ByteArray)) = some ([], 16) := by kernel_rfl
  have s10 : slices_Equal_string.fn (M + 16) ([(⟨#[65, 49]⟩ : ByteArray)], [(⟨#[65, 49]⟩ : ByteArray)]) = some true := slices_Equal_string.self hN _ (by simp)
  have s11 : slices_Equal_OwnerEntry.fn (M + 16) ([((⟨#[65, 49]⟩ : ByteArray), (⟨#[69, 65, 83, 84]⟩ : ByteArray), nop)], [((⟨#[65, 49]⟩ : ByteArray), (⟨#[69, 65, 83, 84]⟩ : ByteArray), nop)]) = some true := slices_Equal_OwnerEntry.self hN _ (by simp)
  have s12 : owner_Check.fn (M + 16) ([((⟨#[65, 49]⟩ : ByteArray), (⟨#[69, 65, 83, 84]⟩ : ByteArray), nop)] ++ [((⟨#[65, 49]⟩ : ByteArray), (⟨#[69, 65, 83, 84]⟩ : ByteArray), nop)]) = some 7 := (owner_Check.v hN _ (by simp)).trans (by kernel_rfl)
  rw [law_ownerFact.eq]
  simp -implicitDefEqProofs only [Option.bind_some, s1, s2, s3, s4, s5, s6, s7, s8, s9, s10, s11, s12, owner_Name.v hN]
  rfl
end
/-! ### OwnerAsks -/
def flightsOf (o : ByteArray) (l : List Own) : List ByteArray := (l.filter fun x => seq x.2.1 o).map (·.1)
theorem flightsOf_cons (o : ByteArray) (x : Own) (l : List Own) : flightsOf o (x :: l) = (bif seq x.2.1 o then [x.1] else []) ++ flightsOf o l := by
  unfold flightsOf
  rw [List.filter_cons]
  cases seq x.2.1 o <;> rfl
theorem flights_len (o : ByteArray) (l : List Own) : (flightsOf o l).length ≤ l.length := by
  unfold flightsOf
  rw [List.length_map]; exact List.length_filter_le _ _
section
variable {N : Nat} (hN : 4611686018427387904 ≤ N)
include hN
theorem OwnerChecks.pureN (x0 : List Own) (x1 : ByteArray) (hl : x0.length < 4611686018427387904) : law_OwnerChecks.fn N (x0, x1) = some true := by
  rw [law_OwnerChecks.clean, law_ownerFact.v hN]
  simp -implicitDefEqProofs [owner_Check.v hN x0 hl, ref_OwnersError.v hN x0 hl, owner_Name.v hN, ref_IsName.v hN]
theorem OwnerSteps.pureN (x0 : List Own) (x1 x2 x3 : ByteArray) (hl : x0.length < 4611686018427387904) : law_OwnerSteps.fn N (x0, x1, x2, x3) = some true := by
  rw [law_OwnerSteps.eq, law_ownerFact.v hN]
  have key : ∀ (k : Nat) (i : Int) (f : Option (List Own × Int)), StepOk N x0 i x1 x2 x3 f → (f.bind fun r => law_OwnerSteps.j1 N x0 x1 x2 x3 k i r.2 r.1) = law_OwnerSteps.l0 N x0 x1 x2 x3 k (w (i + 1)) := by
    rintro k i f ⟨v, rfl, hv, h1, h2⟩
    obtain ⟨M, hM⟩ : ∃ M, N = M + 1 := ⟨N - 1, by omega⟩
    rw [Option.bind_some, law_OwnerSteps.j1_eq N x0 x1 x2 x3 k i v.2 v.1 hM, ref_OwnersError.v hN x0 hl]
    have e := slices_Equal_OwnerEntry.self hN v.1 hv
    by_cases hE : ownErr x0 = 0
    · simp -implicitDefEqProofs only [hE, h1 hE, Option.bind_some, beq_self_eq_true, cond_true, law_OwnerSteps.j2_clean N x0 x1 x2 x3 k i v.2 v.1 v.2 v.1 hM, e, Bool.not_true, Bool.not_false, Bool.false_or, cond_false]
    · have hv := h2 hE
      have e2 : slices_Equal_OwnerEntry.fn N ([], []) = some true := slices_Equal_OwnerEntry.self hN [] (by simp)
      subst hv
      simp -implicitDefEqProofs only [Option.bind_some, beq_self_eq_true, cond_true, show (ownErr x0 == 0) = false by simpa using hE, law_OwnerSteps.j2_clean N x0 x1 x2 x3 k i (ownErr x0) [] (ownErr x0) [] hM, e2, Bool.not_true, Bool.not_false, Bool.false_or, cond_false]
  obtain ⟨M, hM⟩ : ∃ M, N = M + 6 := ⟨N - 6, by omega⟩
  simp -implicitDefEqProofs only [Option.bind_some, Bool.not_true, cond_false]
  have hs : law_OwnerSteps.l0 N x0 x1 x2 x3 N 0 = law_OwnerSteps.l0 N x0 x1 x2 x3 (M + 5 + 1) 0 := congrArg (fun k => law_OwnerSteps.l0 N x0 x1 x2 x3 k 0) hM
  rw [hs]
  have st : ∀ k, law_OwnerSteps.l0 N x0 x1 x2 x3 (k + 1) 0 = _ := fun k => law_OwnerSteps.l0_succ N x0 x1 x2 x3 k 0
  simp -implicitDefEqProofs only [show decide ((0 : Int) < 5) = true from rfl, show decide ((1 : Int) < 5) = true from rfl, show decide ((2 : Int) < 5) = true from rfl, show decide ((3 : Int) < 5) = true from rfl, show decide ((4 : Int) < 5) = true from rfl, show decide ((5 : Int) < 5) = false from rfl, show ((0 : Int) == 0) = true from rfl, show ((1 : Int) == 0) = false from rfl, show ((2 : Int) == 0) = false from rfl, show ((3 : Int) == 0) = false from rfl, show ((4 : Int) == 0) = false from rfl, show ((1 : Int) == 1) = true from rfl, show ((2 : Int) == 1) = false from rfl, show ((3 : Int) == 1) = false from rfl, show ((4 : Int) == 1) = false from rfl, show ((2 : Int) == 2) = true from rfl, show ((3 : Int) == 2) = false from rfl, show ((4 : Int) == 2) = false from rfl, show ((3 : Int) == 3) = true from rfl, show ((4 : Int) == 3) = false from rfl, cond_true, cond_false] at st
  rw [st (M + 5), key (M + 5) 0 _ (begin_ok hN x0 x1 x2 x3 hl), show w ((0 : Int) + 1) = 1 from rfl]
  clear st
  have st : ∀ k, law_OwnerSteps.l0 N x0 x1 x2 x3 (k + 1) 1 = _ := fun k => law_OwnerSteps.l0_succ N x0 x1 x2 x3 k 1
  simp -implicitDefEqProofs only [show decide ((0 : Int) < 5) = true from rfl, show decide ((1 : Int) < 5) = true from rfl, show decide ((2 : Int) < 5) = true from rfl, show decide ((3 : Int) < 5) = true from rfl, show decide ((4 : Int) < 5) = true from rfl, show decide ((5 : Int) < 5) = false from rfl, show ((0 : Int) == 0) = true from rfl, show ((1 : Int) == 0) = false from rfl, show ((2 : Int) == 0) = false from rfl, show ((3 : Int) == 0) = false from rfl, show ((4 : Int) == 0) = false from rfl, show ((1 : Int) == 1) = true from rfl, show ((2 : Int) == 1) = false from rfl, show ((3 : Int) == 1) = false from rfl, show ((4 : Int) == 1) = false from rfl, show ((2 : Int) == 2) = true from rfl, show ((3 : Int) == 2) = false from rfl, show ((4 : Int) == 2) = false from rfl, show ((3 : Int) == 3) = true from rfl, show ((4 : Int) == 3) = false from rfl, cond_true, cond_false] at st
  rw [st (M + 4), key (M + 4) 1 _ (end_ok hN x0 x1 x2 x3 hl), show w ((1 : Int) + 1) = 2 from rfl]
  clear st
  have st : ∀ k, law_OwnerSteps.l0 N x0 x1 x2 x3 (k + 1) 2 = _ := fun k => law_OwnerSteps.l0_succ N x0 x1 x2 x3 k 2
  simp -implicitDefEqProofs only [show decide ((0 : Int) < 5) = true from rfl, show decide ((1 : Int) < 5) = true from rfl, show decide ((2 : Int) < 5) = true from rfl, show decide ((3 : Int) < 5) = true from rfl, show decide ((4 : Int) < 5) = true from rfl, show decide ((5 : Int) < 5) = false from rfl, show ((0 : Int) == 0) = true from rfl, show ((1 : Int) == 0) = false from rfl, show ((2 : Int) == 0) = false from rfl, show ((3 : Int) == 0) = false from rfl, show ((4 : Int) == 0) = false from rfl, show ((1 : Int) == 1) = true from rfl, show ((2 : Int) == 1) = false from rfl, show ((3 : Int) == 1) = false from rfl, show ((4 : Int) == 1) = false from rfl, show ((2 : Int) == 2) = true from rfl, show ((3 : Int) == 2) = false from rfl, show ((4 : Int) == 2) = false from rfl, show ((3 : Int) == 3) = true from rfl, show ((4 : Int) == 3) = false from rfl, cond_true, cond_false] at st
  rw [st (M + 3), key (M + 3) 2 _ (offer_ok hN x0 x1 x2 x3 hl), show w ((2 : Int) + 1) = 3 from rfl]
  clear st
  have st : ∀ k, law_OwnerSteps.l0 N x0 x1 x2 x3 (k + 1) 3 = _ := fun k => law_OwnerSteps.l0_succ N x0 x1 x2 x3 k 3
  simp -implicitDefEqProofs only [show decide ((0 : Int) < 5) = true from rfl, show decide ((1 : Int) < 5) = true from rfl, show decide ((2 : Int) < 5) = true from rfl, show decide ((3 : Int) < 5) = true from rfl, show decide ((4 : Int) < 5) = true from rfl, show decide ((5 : Int) < 5) = false from rfl, show ((0 : Int) == 0) = true from rfl, show ((1 : Int) == 0) = false from rfl, show ((2 : Int) == 0) = false from rfl, show ((3 : Int) == 0) = false from rfl, show ((4 : Int) == 0) = false from rfl, show ((1 : Int) == 1) = true from rfl, show ((2 : Int) == 1) = false from rfl, show ((3 : Int) == 1) = false from rfl, show ((4 : Int) == 1) = false from rfl, show ((2 : Int) == 2) = true from rfl, show ((3 : Int) == 2) = false from rfl, show ((4 : Int) == 2) = false from rfl, show ((3 : Int) == 3) = true from rfl, show ((4 : Int) == 3) = false from rfl, cond_true, cond_false] at st
  rw [st (M + 2), key (M + 2) 3 _ (accept_ok hN x0 x1 x2 x3 hl), show w ((3 : Int) + 1) = 4 from rfl]
  clear st
  have st : ∀ k, law_OwnerSteps.l0 N x0 x1 x2 x3 (k + 1) 4 = _ := fun k => law_OwnerSteps.l0_succ N x0 x1 x2 x3 k 4
  simp -implicitDefEqProofs only [show decide ((0 : Int) < 5) = true from rfl, show decide ((1 : Int) < 5) = true from rfl, show decide ((2 : Int) < 5) = true from rfl, show decide ((3 : Int) < 5) = true from rfl, show decide ((4 : Int) < 5) = true from rfl, show decide ((5 : Int) < 5) = false from rfl, show ((0 : Int) == 0) = true from rfl, show ((1 : Int) == 0) = false from rfl, show ((2 : Int) == 0) = false from rfl, show ((3 : Int) == 0) = false from rfl, show ((4 : Int) == 0) = false from rfl, show ((1 : Int) == 1) = true from rfl, show ((2 : Int) == 1) = false from rfl, show ((3 : Int) == 1) = false from rfl, show ((4 : Int) == 1) = false from rfl, show ((2 : Int) == 2) = true from rfl, show ((3 : Int) == 2) = false from rfl, show ((4 : Int) == 2) = false from rfl, show ((3 : Int) == 3) = true from rfl, show ((4 : Int) == 3) = false from rfl, cond_true, cond_false] at st
  rw [st (M + 1), key (M + 1) 4 _ (cancel_ok hN x0 x1 x2 x3 hl), show w ((4 : Int) + 1) = 5 from rfl]
  clear st
  rw [show M + 1 = M + 1 from rfl, law_OwnerSteps.l0_succ N x0 x1 x2 x3 M 5]
  rfl
theorem gather {α : Type} {l : List Own} (o : ByteArray) (hl : l.length ≤ 24) (L : Nat → List ByteArray → Int → Option α) (tail : List ByteArray → Option α)
    (hnil : ∀ k s, L (k + 1) s (l.length : Int) = tail s)
    (hcons : ∀ k pre x r s, l = pre ++ x :: r → L (k + 1) s (pre.length : Int) = bif seq x.2.1 o then bif decide ((s.length + 1) * 16 ≤ 140737488355328) && decide ((s.length + 1) ≤ maxLen) then L k (s ++ [x.1]) ((pre.length : Int) + 1) else none else L k s ((pre.length : Int) + 1)) :
    L N [] 0 = tail (flightsOf o l) := by
  refine (list_loop (l := l) L (fun _ r s => tail (s ++ flightsOf o r)) (fun pre s => s.length ≤ pre.length) (fun k s _ => by rw [hnil]; simp [flightsOf]) (fun k pre x r s hl' hs ih => ?_) N [] (by simp) (by omega)).trans (by simp)
  have hlen : l.length = pre.length + 1 + r.length := by rw [hl']; simp; omega
  have c : (decide ((s.length + 1) * 16 ≤ 140737488355328) && decide ((s.length + 1) ≤ maxLen)) = true := by
    rw [Bool.and_eq_true, decide_eq_true_iff, decide_eq_true_iff]; unfold maxLen; omega
  rw [hcons k pre x r s hl', c, flightsOf_cons]
  cases seq x.2.1 o with
  | true => simp only [cond_true]; rw [ih _ (by simp; omega)]; simp
  | false => simp only [cond_false]; rw [ih _ (by simp; omega)]; simp
theorem owner_Flights.v (l : List Own) (o : ByteArray) (hl : l.length < 4611686018427387904) : owner_Flights.fn N (l, o) = some (bif !(ownErr l == 0) then ([], ownErr l) else (flightsOf o l, 0)) := by
  rw [owner_Flights.eq, owner_Check.v hN l hl, Option.bind_some]
  by_cases hE : ownErr l = 0
  · have hlen := (ownErr_ok hE).1
    rw [hE]
    exact gather hN o hlen (fun k s i => owner_Flights.l0 N l o k i s) (fun s => some (s, 0)) (fun k s => owner_Flights.l0_nil N l o k s) (fun k pre x r s h => owner_Flights.l0_cons N l o k s h hl)
  · rw [show (ownErr l == 0) = false by simpa using hE]; rfl
theorem OwnerAsks.pureN (x0 : List Own) (x1 x2 : ByteArray) (hl : x0.length < 4611686018427387904) : law_OwnerAsks.fn N (x0, x1, x2) = some true := by
  rw [law_OwnerAsks.clean, law_ownerFact.v hN, owner_Flights.v hN _ _ hl, ref_OwnersError.v hN _ hl]
  simp -implicitDefEqProofs only [Option.bind_some, Bool.not_true, cond_false]
  by_cases hE : ownErr x0 ≠ 0
  · have e : (ownErr x0 == 0) = false := by simpa using hE
    rw [owner_Of.eq, at_err hN hl e]
    simp -implicitDefEqProofs [e, seq_self]
  have hE := Decidable.not_not.1 hE
  obtain ⟨hlen, hbad, hsort⟩ := ownErr_ok hE
  rw [hE]
  simp -implicitDefEqProofs only [beq_self_eq_true, Bool.not_true, cond_false]
  have g : ∀ r2 : ByteArray × Int, law_OwnerAsks.l0 N x0 x1 x2 r2 (flightsOf x2 x0, 0) N 0 [] = _ := fun r2 => gather hN x2 hlen (fun k s i => law_OwnerAsks.l0 N x0 x1 x2 r2 (flightsOf x2 x0, 0) k i s) _
    (fun k s => law_OwnerAsks.l0_nil N x0 x1 x2 r2 _ k s) (fun k pre x r s h => law_OwnerAsks.l0_cons N x0 x1 x2 r2 _ k s h hl)
  have es := slices_Equal_string.self hN (flightsOf x2 x0) (by have := flights_len x2 x0; omega)
  have em : seq (⟨#[]⟩ : ByteArray) (⟨#[]⟩ : ByteArray) = true := seq_self _
  rcases cut_at hsort x1 with ⟨lo, x, r, rfl, rfl, hlo, hr⟩ | ⟨lo, hi, rfl, hlo, hhi⟩
  · rw [owner_Of.eq, at_found hN hE hlo hr hl]
    simp -implicitDefEqProofs only [Option.bind_some, beq_self_eq_true, Bool.not_true, cond_false, cond_true, lo_in hN lo x r, Int.toNat_natCast, getD_mid, g, ref_found hN hlo hl, seq_self, Bool.and_self, es, Bool.true_or,
      show decide ((lo.length : Int) < 0) = false by rw [decide_eq_false_iff_not]; omega]
  · rw [owner_Of.eq, at_none hN hE hlo hhi hl]
    simp -implicitDefEqProofs only [Option.bind_some, beq_self_eq_true, show ((8 : Int) == 0) = false from rfl, Bool.not_false, Bool.not_true, cond_false, cond_true, g, ref_none hN hlo hhi hl, em, Bool.and_self, es, show decide ((-1 : Int) < 0) = true from rfl]
end
/-! ### OwnerMoves -/
def oth (f t s : ByteArray) : ByteArray := bif seq s f then t else s
def mvE (f t : ByteArray) (x : Own) : Own := (x.1, oth f t x.2.1, bif seq (oth f t x.2.1) (oth f t x.2.2) then nop else oth f t x.2.2)
theorem set_mid {α : Type} {n : Nat} {p : List α} (x e : α) (r : List α) (h : p.length = n) : List.set (p ++ x :: r) n e = p ++ e :: r := by subst h; simp
theorem get_mid {α : Type} {n : Nat} {p : List α} (x d : α) (r : List α) (h : p.length = n) : List.getD (p ++ x :: r) n d = x := by subst h; simp [List.getD]
theorem len_mid {α : Type} {n : Nat} {p : List α} (x : α) (r : List α) (h : p.length = n) : decide (n < (p ++ x :: r).length) = true := by subst h; simp
theorem seq_comm (a b : ByteArray) : seq a b = seq b a := by
  cases h : seq a b with
  | true => rw [sq_iff.1 h, seq_self]
  | false => exact (seq_ff.2 (seq_ff.1 h).symm).symm
section
variable {N : Nat} (hN : 4611686018427387904 ≤ N)
include hN
theorem move_loop (l : List Own) (f t : ByteArray) (hl : l.length ≤ 24) : owner_Move.l0 N f t l N 0 l = some (l.map (mvE f t), 0) := by
  obtain ⟨M, hM⟩ : ∃ M, N = M + 1 := ⟨N - 1, by omega⟩
  refine list_loop (l := l) (fun k s i => owner_Move.l0 N f t l k i s) (fun _ _ _ => some (l.map (mvE f t), 0)) (fun pre s => s = pre.map (mvE f t) ++ l.drop pre.length)
    (fun k s hs => ?_) (fun k pre x r s hl' hs ih => ?_) N l (by simp) (by omega)
  · show owner_Move.l0 N f t l (k + 1) (l.length : Int) s = _
    rw [owner_Move.l0_nil N f t l k s, hs]
    simp
  · show owner_Move.l0 N f t l (k + 1) (pre.length : Int) s = _
    have hd : l.drop pre.length = x :: r := by rw [hl']; simp
    have hd1 : l.drop (pre ++ [x]).length = r := by rw [hl']; simp
    rw [hd] at hs
    have hp : (pre.map (mvE f t)).length = pre.length := by simp
    have hlen : l.length = pre.length + 1 + r.length := by rw [hl']; simp; omega
    have ih : owner_Move.l0 N f t l k ((pre.length : Int) + 1) (pre.map (mvE f t) ++ mvE f t x :: r) = some (l.map (mvE f t), 0) := ih _ (by rw [hd1]; simp)
    have hw := w_next hl' (show l.length < 4611686018427387904 by omega)
    rw [owner_Move.l0_cons N f t l k s hl' (by omega), hs]
    have c1 : decide ((pre.length : Int) < ((pre.map (mvE f t) ++ x :: r).length : Int)) = true := by rw [decide_eq_true_iff]; simp; omega
    simp -implicitDefEqProofs only [c1, cond_true, len_mid _ _ hp, get_mid _ _ _ hp, set_mid _ _ _ hp]
    have j : ∀ y : Own, owner_Move.j1 N f t l k (pre.length : Int) (pre.map (mvE f t) ++ y :: r) = owner_Move.l0 N f t l k ((pre.length : Int) + 1) (pre.map (mvE f t) ++ (y.1, y.2.1, bif seq y.2.1 (oth f t y.2.2) then nop else oth f t y.2.2) :: r) := by
      intro y
      rw [owner_Move.j1_eq N f t l k (pre.length : Int) _ hM]
      simp -implicitDefEqProofs only [cond_true, Int.toNat_natCast, len_mid _ _ hp, get_mid _ _ _ hp, set_mid _ _ _ hp, hw]
      unfold oth
      cases h1 : seq y.2.2 f with
      | true =>
        simp -implicitDefEqProofs only [cond_true]
        rw [seq_comm t]
        cases h2 : seq y.2.1 t <;> rfl
      | false =>
        simp -implicitDefEqProofs only [cond_false]
        rw [seq_comm y.2.2]
        cases h2 : seq y.2.1 y.2.2 <;> rfl
    rw [j, j, ← ih]
    unfold mvE
    cases h : seq x.2.1 f <;> simp -implicitDefEqProofs only [oth, h, cond_true, cond_false]
theorem OwnerMoves.pureN (x0 : List Own) (x1 x2 : ByteArray) (hl : x0.length < 4611686018427387904) : law_OwnerMoves.fn N (x0, x1, x2) = some true := by
  obtain ⟨M, hM⟩ : ∃ M, N = M + 1 := ⟨N - 1, by omega⟩
  have hmove : owner_Move.fn N (x0, x1, x2) = some (bif !(ownErr x0 == 0) then ([], ownErr x0) else bif !isName x1 || !isName x2 then ([], 3) else (x0.map (mvE x1 x2), 0)) := by
    rw [owner_Move.clean, owner_Check.v hN _ hl]
    by_cases hE : ownErr x0 = 0
    · have hlen := (ownErr_ok hE).1
      rw [slices_Clone_OwnerEntry.v N x0 (by omega)]
      simp -implicitDefEqProofs only [hE, Option.bind_some, beq_self_eq_true, Bool.not_true, cond_false, owner_Name.v hN, bif_some, move_loop hN x0 x1 x2 hlen]
      generalize isName x1 = b1, isName x2 = b2
      cases b1 <;> cases b2 <;> rfl
    · simp -implicitDefEqProofs [show (ownErr x0 == 0) = false by simpa using hE]
  rw [law_OwnerMoves.clean, law_ownerFact.v hN, hmove, ref_OwnersError.v hN _ hl]
  simp -implicitDefEqProofs only [Option.bind_some, Bool.not_true, cond_false, ref_IsName.v hN, bif_some]
  by_cases hE : ownErr x0 = 0
  · have hlen := (ownErr_ok hE).1
    simp -implicitDefEqProofs only [hE, beq_self_eq_true, Bool.not_true, cond_false, cond_true, Bool.true_and]
    have main : law_OwnerMoves.l1 N x0 x1 x2 (x0.map (mvE x1 x2), 0) N 0 = some true := by
      refine list_loop0 (l := x0) (fun k i => law_OwnerMoves.l1 N x0 x1 x2 (x0.map (mvE x1 x2), 0) k i) (fun _ => some true) (fun k => law_OwnerMoves.l1_nil N x0 x1 x2 _ k) (fun k pre x r hl' ih => ?_) N (by omega)
      have hg : List.getD (x0.map (mvE x1 x2)) pre.length ((⟨#[]⟩ : ByteArray), ((⟨#[]⟩ : ByteArray), (⟨#[]⟩ : ByteArray))) = mvE x1 x2 x := by
        rw [hl', List.map_append, List.map_cons]; exact get_mid _ _ _ (by simp)
      have hg0 : List.getD x0 pre.length ((⟨#[]⟩ : ByteArray), ((⟨#[]⟩ : ByteArray), (⟨#[]⟩ : ByteArray))) = x := by rw [hl']; exact get_mid _ _ _ rfl
      have hlt : pre.length < (x0.map (mvE x1 x2)).length := by rw [hl']; simp
      have hw := w_next hl' (show x0.length < 4611686018427387904 by omega)
      show law_OwnerMoves.l1 N x0 x1 x2 (x0.map (mvE x1 x2), 0) (k + 1) (pre.length : Int) = some true
      rw [law_OwnerMoves.l1_cons N x0 x1 x2 _ k hl' (by omega)]
      simp -implicitDefEqProofs only [law_OwnerMoves_1.eq, bif_some, Option.bind_some]
      have o : ∀ s, (bif seq s x1 then x2 else s) = oth x1 x2 s := fun s => rfl
      rw [o, o]
      have j : ∀ a : ByteArray, a = (mvE x1 x2 x).2.2 → law_OwnerMoves.j2 N x0 x1 x2 (x0.map (mvE x1 x2), 0) k (pre.length : Int) (oth x1 x2 x.2.1) a = some true := by
        intro a ha
        rw [law_OwnerMoves.j2_eq N x0 x1 x2 _ k (pre.length : Int) _ a hM]
        simp -implicitDefEqProofs only [Int.toNat_natCast, hg, hg0, decide_eq_true hlt, show decide (0 ≤ (pre.length : Int)) = true by rw [decide_eq_true_iff]; omega,
          show decide ((pre.length : Int) < ((x0.map (mvE x1 x2)).length : Int)) = true by rw [decide_eq_true_iff]; omega, Bool.and_self, cond_true, hw]
        rw [ha, show (mvE x1 x2 x).1 = x.1 from rfl, show (mvE x1 x2 x).2.1 = oth x1 x2 x.2.1 from rfl]
        simp -implicitDefEqProofs only [seq_self, Bool.and_self, Bool.not_true, cond_false]
        exact ih
      cases h : seq (oth x1 x2 x.2.1) (oth x1 x2 x.2.2) with
      | true => exact j _ (by unfold mvE; rw [h]; rfl)
      | false => exact j _ (by unfold mvE; rw [h]; rfl)
    have j0 : ∀ r2 a4, law_OwnerMoves.j0 N x0 x1 x2 r2 a4 = _ := fun r2 a4 => law_OwnerMoves.j0_clean N x0 x1 x2 r2 a4 hM
    have m2 : (((x0.map (mvE x1 x2)).length : Int) == (x0.length : Int)) = true := by simp
    cases h1 : isName x1 <;> cases h2 : isName x2 <;> simp -implicitDefEqProofs only [j0, Bool.not_true, Bool.not_false, Bool.or_true, Bool.true_or, Bool.or_self, Bool.false_or, Bool.or_false, cond_true, cond_false, Option.bind_some, beq_self_eq_true, show ((3 : Int) == 0) = false from rfl, List.length_nil, Bool.true_and, m2, main] <;> rfl
  · have e : (ownErr x0 == 0) = false := by simpa using hE
    have j0 : ∀ r2 a4, law_OwnerMoves.j0 N x0 x1 x2 r2 a4 = _ := fun r2 a4 => law_OwnerMoves.j0_clean N x0 x1 x2 r2 a4 hM
    simp -implicitDefEqProofs [e, j0]
end
theorem bytesE : Try.prog.bytesOf 34 = 48 := by kernel_rfl
theorem own_len {l : List Own} (h : Wf Try.prog (.sl 34 (.pair (.str) (.pair (.str) (.str)))) l) : l.length < 4611686018427387904 := by
  have := h.1
  rw [bytesE] at this
  simp -implicitDefEqProofs [reachBytes] at this
  omega
theorem OwnerChecks.pure (x0 : List Own) (x1 : ByteArray) (h0 : Wf Try.prog (.sl 34 (.pair (.str) (.pair (.str) (.str)))) x0) (h1 : Wf Try.prog .str x1) : law_OwnerChecks.fn NN (x0, x1) = some true := OwnerChecks.pureN NN_big x0 x1 (own_len h0)
theorem OwnerSteps.pure (x0 : List Own) (x1 x2 x3 : ByteArray) (h0 : Wf Try.prog (.sl 34 (.pair (.str) (.pair (.str) (.str)))) x0) (h1 : Wf Try.prog .str x1) (h2 : Wf Try.prog .str x2) (h3 : Wf Try.prog .str x3) : law_OwnerSteps.fn NN (x0, x1, x2, x3) = some true := OwnerSteps.pureN NN_big x0 x1 x2 x3 (own_len h0)
theorem OwnerAsks.pure (x0 : List Own) (x1 x2 : ByteArray) (h0 : Wf Try.prog (.sl 34 (.pair (.str) (.pair (.str) (.str)))) x0) (h1 : Wf Try.prog .str x1) (h2 : Wf Try.prog .str x2) : law_OwnerAsks.fn NN (x0, x1, x2) = some true := OwnerAsks.pureN NN_big x0 x1 x2 (own_len h0)
theorem OwnerMoves.pure (x0 : List Own) (x1 x2 : ByteArray) (h0 : Wf Try.prog (.sl 34 (.pair (.str) (.pair (.str) (.str)))) x0) (h1 : Wf Try.prog .str x1) (h2 : Wf Try.prog .str x2) : law_OwnerMoves.fn NN (x0, x1, x2) = some true := OwnerMoves.pureN NN_big x0 x1 x2 (own_len h0)
end Go.Proofs.Ytcmcacophbbagaa.Sk
