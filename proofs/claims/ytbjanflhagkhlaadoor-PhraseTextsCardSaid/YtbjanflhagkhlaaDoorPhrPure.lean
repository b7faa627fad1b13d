/- PhraseTexts: plain law. -/
import Derived.Test.YtbjanflhagkhlaaDoorPhrEq
set_option linter.unusedVariables false
set_option linter.unusedSimpArgs false
set_option linter.unusedSectionVars false
set_option maxRecDepth 100000
namespace Go.Proofs.YtbjanflhagkhlaaDoor.Sk
open Go

theorem bchk {α : Type} {b : Bool} {f : Option α} (h : b = true) : (bif b then f else none) = f := by rw [h]; rfl
theorem bif_some {α : Type} (b : Bool) (x y : α) : (bif b then some x else some y) = some (bif b then x else y) := by cases b <;> rfl
/-! ### names -/
def nameCh (c : UInt8) : Bool := !(((decide (((c.toNat : Nat) : Int) < 65)) || (decide (((c.toNat : Nat) : Int) > 90))) && ((decide (((c.toNat : Nat) : Int) < 48)) || (decide (((c.toNat : Nat) : Int) > 57))))
def isNameL : List UInt8 → Bool
  | [] => false
  | b :: r => bif decide (r.length + 1 > 8) then false else bif decide (((b.toNat : Nat) : Int) < 65) || decide (((b.toNat : Nat) : Int) > 90) then false else (b :: r).all nameCh
def isName (s : ByteArray) : Bool := isNameL s.data.toList
theorem size_list (s : ByteArray) : s.size = s.data.toList.length := by rw [ByteArray.size, Array.length_toList]

section
variable {N : Nat} (hN : 4611686018427387904 ≤ N)
include hN
theorem chart_Name.v (s : ByteArray) : chart_Name.fn N s = some (isName s) := by
  rw [chart_Name.clean]
  unfold isName
  have hsz := size_list s
  cases h : s.data.toList with
  | nil =>
    rw [h] at hsz
    have hsz : s.size = 0 := hsz
    simp [hsz, isNameL]
  | cons b r =>
    rw [h] at hsz
    have hsz : s.size = r.length + 1 := by simpa using hsz
    have g : (ByteArray.data s).getD 0 0 = b := getD_bytes (pre := []) (r := r) h
    have c1 : decide (0 < (s.size : Int)) = true := by rw [decide_eq_true_iff]; omega
    have c2 : ((s.size : Int) == 0) = false := by rw [beq_eq_false_iff_ne]; omega
    have c3 : decide ((s.size : Int) > 8) = decide (r.length + 1 > 8) := by rw [decide_eq_decide]; omega
    simp only [g, c1, c2, c3, Bool.true_or, cond_true, Bool.false_or, isNameL]
    by_cases h8 : r.length + 1 > 8
    · simp [h8]
    have h8' : decide (r.length + 1 > 8) = false := decide_eq_false h8
    simp only [h8', Bool.false_or, cond_false]
    have hl := scan_list (l := s.data.toList) (fun c => !nameCh c) (some false) (some true) (fun k i => chart_Name.l0 N s k i)
      (fun k => by show chart_Name.l0 N s (k + 1) (s.data.toList.length : Int) = _; rw [← size_list s]; exact chart_Name.l0_nil N s k)
      (fun k pre x r' h' => by show chart_Name.l0 N s (k + 1) (pre.length : Int) = _; rw [chart_Name.l0_cons N s k h' (by omega)]; simp [nameCh]) N (by rw [h]; simp; omega)
    rw [hl, h]
    cases (decide (((b.toNat : Nat) : Int) < 65) || decide (((b.toNat : Nat) : Int) > 90)) with
    | true => rfl
    | false =>
      rw [cond_false, cond_false, ← List.not_all_eq_any_not]
      cases ((b :: r).all nameCh) <;> rfl
theorem ref_IsName.v (s : ByteArray) : ref_IsName.fn N s = some (isName s) := by
  rw [ref_IsName.clean]
  unfold isName
  have hsz := size_list s
  cases h : s.data.toList with
  | nil =>
    rw [h] at hsz
    have hsz : s.size = 0 := hsz
    have : s = ⟨#[]⟩ := by cases s with | mk a => congr 1; exact Array.ext' h
    subst this
    simp [isNameL, seq]
  | cons b r =>
    rw [h] at hsz
    have hsz : s.size = r.length + 1 := by simpa using hsz
    have g : (ByteArray.data s).getD 0 0 = b := getD_bytes (pre := []) (r := r) h
    have c1 : decide (0 < (s.size : Int)) = true := by rw [decide_eq_true_iff]; omega
    have c2 : seq s (⟨#[]⟩ : ByteArray) = false := by unfold seq; rw [h]; rfl
    have c3 : decide ((s.size : Int) > 8) = decide (r.length + 1 > 8) := by rw [decide_eq_decide]; omega
    simp only [g, c1, c2, c3, Bool.true_or, cond_true, Bool.false_or, isNameL]
    by_cases h8 : r.length + 1 > 8
    · simp [h8]
    have h8' : decide (r.length + 1 > 8) = false := decide_eq_false h8
    simp only [h8', Bool.false_or, cond_false]
    have hl := scan_list (l := s.data.toList) (fun c => !nameCh c) (some false) (some true) (fun k i => ref_IsName.l0 N s k i)
      (fun k => by show ref_IsName.l0 N s (k + 1) (s.data.toList.length : Int) = _; rw [← size_list s]; exact ref_IsName.l0_nil N s k)
      (fun k pre x r' h' => by show ref_IsName.l0 N s (k + 1) (pre.length : Int) = _; rw [ref_IsName.l0_cons N s k h' (by omega)]; simp [nameCh]) N (by rw [h]; simp; omega)
    rw [hl, h]
    have hb : (b :: r).any (fun c => !nameCh c) = !((b :: r).all nameCh) := List.not_all_eq_any_not.symm
    rw [hb]
    by_cases q1 : ((b.toNat : Nat) : Int) < 65
    · by_cases q2 : ((b.toNat : Nat) : Int) < 48
      · have : nameCh b = false := by simp [nameCh]; omega
        simp [q1, this, show ¬ 48 ≤ b.toNat by omega]
      · by_cases q3 : ((b.toNat : Nat) : Int) > 57
        · have : nameCh b = false := by simp [nameCh]; omega
          simp [q1, this, show ¬ b.toNat ≤ 57 by omega]
        · simp [q1, show (48 : Int) ≤ b.toNat by omega, show (b.toNat : Int) ≤ 57 by omega]
    · by_cases q2 : ((b.toNat : Nat) : Int) > 90
      · have : nameCh b = false := by simp [nameCh]; omega
        simp [q2, this, show ¬ b.toNat ≤ 57 by omega]
      · simp only [q1, q2, decide_false, Bool.or_false, cond_false, show decide (((b.toNat : Nat) : Int) ≤ 57) = false by rw [decide_eq_false_iff_not]; omega, Bool.and_false]
        cases ((b :: r).all nameCh) <;> rfl
theorem owner_Name.v (s : ByteArray) : owner_Name.fn N s = some (isName s) := by
  rw [owner_Name.eq, sector_Name.eq, chart_Name.v hN]; rfl
end

/-! ### clearances -/
abbrev Clr := ByteArray × Int × Int × ByteArray
def kindOf (s : ByteArray) : Int :=
  bif seq (⟨#[72, 69, 73, 71, 72, 84]⟩ : ByteArray) s then 0 else bif seq (⟨#[72, 69, 65, 68, 73, 78, 71]⟩ : ByteArray) s then 1 else bif seq (⟨#[83, 80, 69, 69, 68]⟩ : ByteArray) s then 2 else
  bif seq (⟨#[68, 73, 82, 69, 67, 84]⟩ : ByteArray) s then 3 else bif seq (⟨#[72, 79, 76, 68]⟩ : ByteArray) s then 4 else bif seq (⟨#[67, 79, 78, 84, 65, 67, 84]⟩ : ByteArray) s then 5 else bif seq (⟨#[76, 65, 78, 68]⟩ : ByteArray) s then 6 else -1
theorem phrase_kind.v8 (M : Nat) (s : ByteArray) : phrase_kind.fn (M + 8) s =
    bif seq (⟨#[72, 69, 73, 71, 72, 84]⟩ : ByteArray) s then some 0 else bif seq (⟨#[72, 69, 65, 68, 73, 78, 71]⟩ : ByteArray) s then some 1 else bif seq (⟨#[83, 80, 69, 69, 68]⟩ : ByteArray) s then some 2 else
    bif seq (⟨#[68, 73, 82, 69, 67, 84]⟩ : ByteArray) s then some 3 else bif seq (⟨#[72, 79, 76, 68]⟩ : ByteArray) s then some 4 else bif seq (⟨#[67, 79, 78, 84, 65, 67, 84]⟩ : ByteArray) s then some 5 else
    bif seq (⟨#[76, 65, 78, 68]⟩ : ByteArray) s then some 6 else some (-1) := by kernel_rfl
theorem ref_free.v8 (M : Nat) (s : ByteArray) : ref_free.fn (M + 8) s =
    bif seq (⟨#[72, 69, 73, 71, 72, 84]⟩ : ByteArray) s then some false else bif seq (⟨#[72, 69, 65, 68, 73, 78, 71]⟩ : ByteArray) s then some false else bif seq (⟨#[83, 80, 69, 69, 68]⟩ : ByteArray) s then some false else
    bif seq (⟨#[68, 73, 82, 69, 67, 84]⟩ : ByteArray) s then some false else bif seq (⟨#[72, 79, 76, 68]⟩ : ByteArray) s then some false else bif seq (⟨#[67, 79, 78, 84, 65, 67, 84]⟩ : ByteArray) s then some false else
    bif seq (⟨#[76, 65, 78, 68]⟩ : ByteArray) s then some false else ((ref_IsName.fn (M + 8) s).bind fun r => some r) := by kernel_rfl
def plainW (s : ByteArray) : Bool := isName s && decide (kindOf s < 0)
def clearErr (c : Clr) : Int :=
  bif !plainW c.1 then 3 else bif decide (c.2.1 < 0) || decide (c.2.1 > 6) then 1 else
  bif decide (c.2.1 ≥ 3) then (bif !(c.2.2.1 == 0) || !plainW c.2.2.2 then 3 else 0) else
  bif !(seq c.2.2.2 (⟨#[]⟩ : ByteArray)) then 3 else bif decide (c.2.2.1 < 0) || decide (c.2.2.1 > List.getD [60000, 4095, 400] c.2.1.toNat 0) then 4 else 0

section
variable {N : Nat} (hN : 4611686018427387904 ≤ N)
include hN
theorem phrase_kind.v (s : ByteArray) : phrase_kind.fn N s = some (kindOf s) := by
  obtain ⟨M, rfl⟩ : ∃ M, N = M + 8 := ⟨N - 8, by omega⟩
  rw [phrase_kind.v8]
  unfold kindOf
  repeat (first | rfl | (generalize seq _ s = b; cases b <;> simp only [cond_true, cond_false]))
theorem phrase_plain.v (s : ByteArray) : phrase_plain.fn N s = some (plainW s) := by
  rw [phrase_plain.clean, owner_Name.v hN, phrase_kind.v hN]
  unfold plainW
  cases isName s <;> rfl
theorem ref_free.v (s : ByteArray) : ref_free.fn N s = some (plainW s) := by
  have hn := ref_IsName.v hN s
  obtain ⟨M, rfl⟩ : ∃ M, N = M + 8 := ⟨N - 8, by omega⟩
  rw [ref_free.v8, hn]
  unfold plainW kindOf
  cases isName s <;> repeat (first | rfl | (generalize seq _ s = b; cases b <;> simp only [cond_true, cond_false]))
theorem phrase_Check.v (c : Clr) : phrase_Check.fn N c = some (clearErr c) := by
  rw [phrase_Check.clean]
  simp only [phrase_plain.v hN, Option.bind_some]
  unfold clearErr
  cases plainW c.1 with
  | false => rfl
  | true =>
    simp only [Bool.not_true, cond_false]
    by_cases h1 : c.2.1 < 0
    · simp [h1]
    by_cases h2 : c.2.1 > 6
    · simp [h2]
    simp only [h1, h2, decide_false, Bool.or_false, cond_false]
    by_cases h3 : c.2.1 ≥ 3
    · simp only [h3, decide_true, cond_true]
      cases h4 : (c.2.2.1 == 0) <;> simp [h4]
      cases plainW c.2.2.2 <;> rfl
    · simp only [h3, decide_false, cond_false]
      cases seq c.2.2.2 ⟨#[]⟩ with
      | false => rfl
      | true =>
        simp only [Bool.not_true, cond_false, Nat.zero_add, Nat.mul_one, show decide (0 ≤ c.2.1) = true by rw [decide_eq_true_iff]; omega, show decide (c.2.1 < 3) = true by rw [decide_eq_true_iff]; omega, show decide (c.2.1.toNat < 3) = true by rw [decide_eq_true_iff]; omega, Bool.and_self, Bool.true_or, cond_true]
        cases (decide (c.2.2.1 < 0) || decide (c.2.2.1 > List.getD [60000, 4095, 400] c.2.1.toNat 0)) <;> rfl
theorem ref_ClearError.v (c : Clr) : ref_ClearError.fn N c = some (clearErr c) := by
  rw [ref_ClearError.clean]
  simp only [ref_free.v hN, Option.bind_some]
  unfold clearErr
  cases plainW c.1 with
  | false => rfl
  | true =>
    simp only [Bool.not_true, cond_false]
    by_cases h1 : c.2.1 < 0
    · simp [h1]
    by_cases h2 : c.2.1 > 6
    · simp [h2]
    simp only [h1, h2, decide_false, Bool.or_false, cond_false]
    have hk : c.2.1 = 0 ∨ c.2.1 = 1 ∨ c.2.1 = 2 ∨ c.2.1 = 3 ∨ c.2.1 = 4 ∨ c.2.1 = 5 ∨ c.2.1 = 6 := by omega
    generalize c.2.1 = kd at hk
    generalize c.2.2.1 = vl
    generalize hpl : plainW c.2.2.2 = pl
    generalize seq c.2.2.2 ⟨#[]⟩ = em
    rcases hk with rfl | rfl | rfl | rfl | rfl | rfl | rfl <;> cases hv : (vl == 0) <;> cases pl <;> cases em <;> simp [hv] <;> (try (simp at hv; subst hv; simp)) <;> (try (by_cases a1 : vl < 0 <;> simp [a1])) <;> (try (exact bif_some _ _ _))
end
/-! ### numbers -/
theorem ba_ext {a b : ByteArray} (h : a.data.toList = b.data.toList) : a = b := by
  cases a; cases b; congr 1; exact Array.ext' h
theorem ba_app (a b : List UInt8) : ((⟨a.toArray⟩ : ByteArray) ++ (⟨b.toArray⟩ : ByteArray)) = (⟨(a ++ b).toArray⟩ : ByteArray) := by
  apply ba_ext
  rw [ByteArray.data_append]
  simp
def dec (v : Int) : ByteArray := ⟨(Lib.itoa v).toArray⟩
theorem dig : ∀ (n : Nat), n < 10 → ByteArray.extract (⟨#[48, 49, 50, 51, 52, 53, 54, 55, 56, 57]⟩ : ByteArray) n (n + 1) = ⟨#[UInt8.ofNat (48 + n)]⟩
  | 0, _ => by kernel_rfl
  | 1, _ => by kernel_rfl
  | 2, _ => by kernel_rfl
  | 3, _ => by kernel_rfl
  | 4, _ => by kernel_rfl
  | 5, _ => by kernel_rfl
  | 6, _ => by kernel_rfl
  | 7, _ => by kernel_rfl
  | 8, _ => by kernel_rfl
  | 9, _ => by kernel_rfl
  | n + 10, h => by omega
theorem dec_small {n : Nat} (h : n < 10) : dec (n : Int) = ⟨#[UInt8.ofNat (48 + n)]⟩ := by
  unfold dec Lib.itoa
  rw [if_neg (by omega), Int.toNat_natCast, Lib.decDigits, dif_pos h]
theorem dec_big {n : Nat} (h : ¬ n < 10) : dec (n : Int) = dec ((n / 10 : Nat) : Int) ++ dec ((n % 10 : Nat) : Int) := by
  have e1 : dec (n : Int) = ⟨(Lib.decDigits (n / 10) ++ [UInt8.ofNat (48 + n % 10)]).toArray⟩ := by
    unfold dec Lib.itoa
    rw [if_neg (by omega), Int.toNat_natCast, Lib.decDigits, dif_neg h]
  have e2 : dec ((n / 10 : Nat) : Int) = ⟨(Lib.decDigits (n / 10)).toArray⟩ := by
    unfold dec Lib.itoa
    rw [if_neg (by omega), Int.toNat_natCast]
  rw [e1, e2, dec_small (Nat.mod_lt _ (by decide)), ← ba_app]
theorem dec_len : ∀ (k n : Nat), n ≤ k → (dec (n : Int)).size ≤ n + 1
  | 0, n, h => by
    rw [dec_small (by omega)]
    show 1 ≤ n + 1
    omega
  | k + 1, n, h => by
    by_cases h10 : n < 10
    · rw [dec_small h10]
      show 1 ≤ n + 1
      omega
    · have := dec_len k (n / 10) (by omega)
      rw [dec_big h10, ByteArray.size_append, dec_small (Nat.mod_lt _ (by decide))]
      show _ + 1 ≤ n + 1
      omega
theorem ble_ok {a : Nat} (h : a ≤ 1000000) : Nat.ble a 9223372036854775807 = true := Nat.ble_eq_true_of_le (by omega)
theorem dec_R (N : Nat) : ∀ (D n : Nat), n < D → n ≤ 60000 → ref_Dec.R N D (n : Int) = some (dec (n : Int))
  | 0, n, h, _ => by omega
  | D + 1, n, h, hn => by
    rw [ref_Dec.eq, decide_eq_false (by omega), cond_false]
    by_cases h10 : n < 10
    · have hw : w ((n : Int) + 1) = ((n + 1 : Nat) : Int) := by rw [w_small _ (by omega) (by omega)]; rfl
      have hs : ((⟨#[48, 49, 50, 51, 52, 53, 54, 55, 56, 57]⟩ : ByteArray).size : Int) = 10 := rfl
      rw [decide_eq_true (by omega), cond_true, hw, hs, bchk (by simp; omega), Int.toNat_natCast, Int.toNat_natCast, dig n h10, dec_small h10]
    · have e1 : w (Int.tdiv (n : Int) 10) = ((n / 10 : Nat) : Int) := by
        have : Int.tdiv (n : Int) 10 = ((n / 10 : Nat) : Int) := by rw [Int.tdiv_eq_ediv_of_nonneg (by omega)]; omega
        rw [this, w_small _ (by omega) (by omega)]
      have e2 : Int.tmod (n : Int) 10 = ((n % 10 : Nat) : Int) := by rw [Int.tmod_eq_emod_of_nonneg (by omega)]; omega
      have l1 := dec_len (n / 10) (n / 10) (Nat.le_refl _)
      have l2 := dec_len (n % 10) (n % 10) (Nat.le_refl _)
      rw [decide_eq_false (by omega), cond_false, e1, e2, dec_R N D (n / 10) (by omega) (by omega), Option.bind_some, dec_R N D (n % 10) (by omega) (by omega), Option.bind_some, bchk (ble_ok (by omega)), dec_big h10]
theorem dec_v {N : Nat} (hN : 4611686018427387904 ≤ N) {v : Int} (h0 : 0 ≤ v) (h1 : v ≤ 60000) : ref_Dec.fn N v = some (dec v) := by
  obtain ⟨n, rfl⟩ : ∃ n : Nat, v = (n : Int) := ⟨v.toNat, by omega⟩
  exact dec_R N N n (by omega) (by omega)
theorem itoa_v {v : Int} (h0 : 0 ≤ v) (h1 : v ≤ 60000) : Itoa.itoaS v = some (dec v) := by
  unfold Itoa.itoaS
  rw [show (decide (-9223372036854775808 ≤ v) && decide (v ≤ 9223372036854775807)) = true by rw [Bool.and_eq_true, decide_eq_true_iff, decide_eq_true_iff]; omega]
  rfl
/-! ### texts -/
abbrev sp1 : ByteArray := ⟨#[32]⟩
def wd (k : Int) : ByteArray := List.getD [(⟨#[72, 69, 73, 71, 72, 84]⟩ : ByteArray), (⟨#[72, 69, 65, 68, 73, 78, 71]⟩ : ByteArray), (⟨#[83, 80, 69, 69, 68]⟩ : ByteArray), (⟨#[68, 73, 82, 69, 67, 84]⟩ : ByteArray), (⟨#[72, 79, 76, 68]⟩ : ByteArray), (⟨#[67, 79, 78, 84, 65, 67, 84]⟩ : ByteArray), (⟨#[76, 65, 78, 68]⟩ : ByteArray)] k.toNat (⟨#[]⟩ : ByteArray)
def tailT (c : Clr) : ByteArray := bif decide (c.2.1 ≥ 3) then c.2.2.2 else dec c.2.2.1
def bodyT (c : Clr) : ByteArray := (wd c.2.1 ++ sp1) ++ tailT c
theorem wd_len (k : Int) : (wd k).size ≤ 7 := by
  unfold wd
  match k.toNat with
  | 0 => decide
  | 1 => decide
  | 2 => decide
  | 3 => decide
  | 4 => decide
  | 5 => decide
  | 6 => decide
  | n + 7 => exact Nat.zero_le _
theorem name_len {s : ByteArray} (h : isName s = true) : s.size ≤ 8 := by
  unfold isName at h
  rw [size_list]
  cases e : s.data.toList with
  | nil => simp
  | cons b r =>
    rw [e] at h
    have h : (bif decide (r.length + 1 > 8) then false else bif decide (((b.toNat : Nat) : Int) < 65) || decide (((b.toNat : Nat) : Int) > 90) then false else (b :: r).all nameCh) = true := h
    cases h8 : decide (r.length + 1 > 8) with
    | true => rw [h8] at h; cases h
    | false => rw [decide_eq_false_iff_not] at h8; simp; omega
theorem plain_len {s : ByteArray} (h : plainW s = true) : s.size ≤ 8 := by
  unfold plainW at h
  rw [Bool.and_eq_true] at h
  exact name_len h.1
structure ClrOk (c : Clr) : Prop where
  call : c.1.size ≤ 8
  k0 : 0 ≤ c.2.1
  k1 : c.2.1 ≤ 6
  fix : c.2.1 ≥ 3 → c.2.2.2.size ≤ 8
  val : ¬ c.2.1 ≥ 3 → 0 ≤ c.2.2.1 ∧ c.2.2.1 ≤ 60000
theorem clr_ok {c : Clr} (h : clearErr c = 0) : ClrOk c := by
  unfold clearErr at h
  cases h1 : plainW c.1 with
  | false => rw [h1] at h; cases h
  | true =>
    rw [h1, Bool.not_true, cond_false] at h
    cases h2 : (decide (c.2.1 < 0) || decide (c.2.1 > 6)) with
    | true => rw [h2] at h; cases h
    | false =>
      rw [h2, cond_false] at h
      rw [Bool.or_eq_false_iff, decide_eq_false_iff_not, decide_eq_false_iff_not] at h2
      by_cases h3 : c.2.1 ≥ 3
      · rw [decide_eq_true h3, cond_true] at h
        cases h4 : (!(c.2.2.1 == 0) || !plainW c.2.2.2) with
        | true => rw [h4] at h; cases h
        | false =>
          rw [Bool.or_eq_false_iff] at h4
          have h5 : plainW c.2.2.2 = true := by simpa using h4.2
          exact ⟨plain_len h1, by omega, by omega, fun _ => plain_len h5, fun hn => absurd h3 hn⟩
      · rw [decide_eq_false h3, cond_false] at h
        cases h4 : (!(seq c.2.2.2 (⟨#[]⟩ : ByteArray))) with
        | true => rw [h4] at h; cases h
        | false =>
          rw [h4, cond_false] at h
          cases h5 : (decide (c.2.2.1 < 0) || decide (c.2.2.1 > List.getD [60000, 4095, 400] c.2.1.toNat 0)) with
          | true => rw [h5] at h; cases h
          | false =>
            rw [Bool.or_eq_false_iff, decide_eq_false_iff_not, decide_eq_false_iff_not] at h5
            have hk : c.2.1.toNat = 0 ∨ c.2.1.toNat = 1 ∨ c.2.1.toNat = 2 := by omega
            have hm : List.getD [60000, 4095, 400] c.2.1.toNat (0 : Int) ≤ 60000 := by
              rcases hk with e | e | e <;> rw [e] <;> decide
            exact ⟨plain_len h1, by omega, by omega, fun hn => absurd hn h3, fun _ => by omega⟩
theorem tail_len {c : Clr} (h : ClrOk c) : (tailT c).size ≤ 60001 := by
  unfold tailT
  by_cases h3 : c.2.1 ≥ 3
  · rw [decide_eq_true h3, cond_true]
    have := h.fix h3
    omega
  · rw [decide_eq_false h3, cond_false]
    obtain ⟨v0, v1⟩ := h.val h3
    have := dec_len c.2.2.1.toNat c.2.2.1.toNat (Nat.le_refl _)
    rw [show ((c.2.2.1.toNat : Nat) : Int) = c.2.2.1 by omega] at this
    omega
theorem body_len {c : Clr} (h : ClrOk c) : (bodyT c).size ≤ 60100 := by
  unfold bodyT
  have h1 := tail_len h
  have h2 := wd_len c.2.1
  rw [ByteArray.size_append, ByteArray.size_append]
  show (wd c.2.1).size + 1 + _ ≤ 60100
  omega
theorem sp_len : sp1.size = 1 := rfl
section
variable {N : Nat} (hN : 4611686018427387904 ≤ N)
include hN
theorem body_v {c : Clr} (h : ClrOk c) : phrase_body.fn N c = some (bodyT c) := by
  have hw := wd_len c.2.1
  have k0 := h.k0
  have k1 := h.k1
  have c1 : ((decide (0 ≤ c.2.1)) && (decide (c.2.1 < 7))) = true := by rw [Bool.and_eq_true, decide_eq_true_iff, decide_eq_true_iff]; omega
  have c2 : decide (c.2.1.toNat < 7) = true := by rw [decide_eq_true_iff]; omega
  have ew : List.getD [(⟨#[72, 69, 73, 71, 72, 84]⟩ : ByteArray), (⟨#[72, 69, 65, 68, 73, 78, 71]⟩ : ByteArray), (⟨#[83, 80, 69, 69, 68]⟩ : ByteArray), (⟨#[68, 73, 82, 69, 67, 84]⟩ : ByteArray), (⟨#[72, 79, 76, 68]⟩ : ByteArray), (⟨#[67, 79, 78, 84, 65, 67, 84]⟩ : ByteArray), (⟨#[76, 65, 78, 68]⟩ : ByteArray)] c.2.1.toNat (⟨#[]⟩ : ByteArray) = wd c.2.1 := rfl
  have tl := tail_len h
  rw [phrase_body.eq, Nat.zero_add, Nat.mul_one, c1, c2, ew]
  simp only [cond_true]
  have b1 : Nat.ble ((wd c.2.1).size + sp1.size) 9223372036854775807 = true := ble_ok (by rw [sp_len]; omega)
  rw [b1, cond_true, cond_true]
  unfold bodyT
  unfold tailT at tl ⊢
  by_cases h3 : c.2.1 ≥ 3
  · rw [decide_eq_true h3] at tl ⊢
    rw [cond_true] at tl
    rw [cond_true, cond_true, bchk (ble_ok (by rw [ByteArray.size_append, sp_len]; omega))]
  · rw [decide_eq_false h3] at tl ⊢
    rw [cond_false] at tl
    obtain ⟨v0, v1⟩ := h.val h3
    rw [cond_false, cond_false, itoa_v v0 v1, Option.bind_some, bchk (ble_ok (by rw [ByteArray.size_append, sp_len]; omega))]
def printT (c : Clr) : ByteArray := (c.1 ++ sp1) ++ bodyT c
def backT (c : Clr) : ByteArray := (bodyT c ++ sp1) ++ c.1
theorem print_v (c : Clr) : phrase_Print.fn N c = some (bif !(clearErr c == 0) then ((⟨#[]⟩ : ByteArray), clearErr c) else (printT c, 0)) := by
  rw [phrase_Print.eq, phrase_Check.v hN, Option.bind_some]
  cases he : (clearErr c == 0) with
  | false => rfl
  | true =>
    have h := clr_ok (beq_iff_eq.1 he)
    have b1 := body_len h
    have b2 := h.call
    rw [Bool.not_true, cond_false, cond_false, bchk (ble_ok (by rw [sp_len]; omega)), body_v hN h, Option.bind_some, bchk (ble_ok (by rw [ByteArray.size_append, sp_len]; omega))]
    rfl
theorem back_v (c : Clr) : phrase_Back.fn N c = some (bif !(clearErr c == 0) then ((⟨#[]⟩ : ByteArray), clearErr c) else (backT c, 0)) := by
  rw [phrase_Back.eq, phrase_Check.v hN, Option.bind_some]
  cases he : (clearErr c == 0) with
  | false => rfl
  | true =>
    have h := clr_ok (beq_iff_eq.1 he)
    have b1 := body_len h
    have b2 := h.call
    rw [Bool.not_true, cond_false, cond_false, body_v hN h, Option.bind_some, bchk (ble_ok (by rw [sp_len]; omega)), bchk (ble_ok (by rw [ByteArray.size_append, sp_len]; omega))]
    rfl
theorem text_v {c : Clr} (h : ClrOk c) (b : Bool) : ref_ClearText.fn N (c, b) = some (bif b then backT c else printT c) := by
  obtain ⟨M, hM⟩ : ∃ M, N = M + 1 := ⟨N - 1, by omega⟩
  have hw := wd_len c.2.1
  have k0 := h.k0
  have k1 := h.k1
  have c1 : ((decide (0 ≤ c.2.1)) && (decide (c.2.1 < 7))) = true := by rw [Bool.and_eq_true, decide_eq_true_iff, decide_eq_true_iff]; omega
  have c2 : decide (c.2.1.toNat < 7) = true := by rw [decide_eq_true_iff]; omega
  have ew : List.getD [(⟨#[72, 69, 73, 71, 72, 84]⟩ : ByteArray), (⟨#[72, 69, 65, 68, 73, 78, 71]⟩ : ByteArray), (⟨#[83, 80, 69, 69, 68]⟩ : ByteArray), (⟨#[68, 73, 82, 69, 67, 84]⟩ : ByteArray), (⟨#[72, 79, 76, 68]⟩ : ByteArray), (⟨#[67, 79, 78, 84, 65, 67, 84]⟩ : ByteArray), (⟨#[76, 65, 78, 68]⟩ : ByteArray)] c.2.1.toNat (⟨#[]⟩ : ByteArray) = wd c.2.1 := rfl
  have tl := tail_len h
  have b2 := h.call
  have hword : ref_word.fn N c.2.1 = some (wd c.2.1) := by rw [ref_word.eq, c1, c2, ew]; rfl
  have hj : ref_ClearText.j0 N c b (tailT c) = some (bif b then backT c else printT c) := by
    have hb := body_len h
    rw [ref_ClearText.j0_eq N c b (tailT c) hM, hword, Option.bind_some, bchk (ble_ok (by rw [sp_len]; omega)), bchk (ble_ok (by rw [ByteArray.size_append, sp_len]; omega))]
    have eb : (wd c.2.1 ++ sp1) ++ tailT c = bodyT c := rfl
    rw [eb]
    cases b with
    | true =>
      rw [cond_true, cond_true, bchk (ble_ok (by rw [sp_len]; omega)), bchk (ble_ok (by rw [ByteArray.size_append, sp_len]; omega))]
      rfl
    | false =>
      rw [cond_false, cond_false, bchk (ble_ok (by rw [sp_len]; omega)), bchk (ble_ok (by rw [ByteArray.size_append, sp_len]; omega))]
      rfl
  rw [ref_ClearText.eq]
  by_cases h3 : c.2.1 ≥ 3
  · have et : tailT c = c.2.2.2 := by unfold tailT; rw [decide_eq_true h3]; rfl
    rw [et] at hj
    rw [decide_eq_false (by omega), cond_false, hj]
  · have et : tailT c = dec c.2.2.1 := by unfold tailT; rw [decide_eq_false h3]; rfl
    rw [et] at hj
    obtain ⟨v0, v1⟩ := h.val h3
    rw [decide_eq_true (by omega), cond_true, dec_v hN v0 v1, Option.bind_some, hj]
end
/-! ### the fact -/
theorem dec_9000 : dec 9000 = ⟨#[57, 48, 48, 48]⟩ := by
  have a1 : dec ((9000 : Nat) : Int) = dec ((900 : Nat) : Int) ++ dec ((0 : Nat) : Int) := dec_big (n := 9000) (by decide)
  have a2 : dec ((900 : Nat) : Int) = dec ((90 : Nat) : Int) ++ dec ((0 : Nat) : Int) := dec_big (n := 900) (by decide)
  have a3 : dec ((90 : Nat) : Int) = dec ((9 : Nat) : Int) ++ dec ((0 : Nat) : Int) := dec_big (n := 90) (by decide)
  have a4 : dec ((9 : Nat) : Int) = ⟨#[57]⟩ := dec_small (n := 9) (by decide)
  have a5 : dec ((0 : Nat) : Int) = ⟨#[48]⟩ := dec_small (n := 0) (by decide)
  have a6 : dec 9000 = dec ((9000 : Nat) : Int) := rfl
  have a7 : ((((⟨#[57]⟩ : ByteArray) ++ (⟨#[48]⟩ : ByteArray)) ++ (⟨#[48]⟩ : ByteArray)) ++ (⟨#[48]⟩ : ByteArray)) = (⟨#[57, 48, 48, 48]⟩ : ByteArray) := by kernel_rfl
  rw [a6, a1, a2, a3, a4, a5]
  exact a7
abbrev c9 : Clr := ((⟨#[65, 49]⟩ : ByteArray), (0, (9000, (⟨#[]⟩ : ByteArray))))
abbrev t9 : ByteArray := ⟨#[65, 49, 32, 72, 69, 73, 71, 72, 84, 32, 57, 48, 48, 48]⟩
abbrev u9 : ByteArray := ⟨#[72, 69, 73, 71, 72, 84, 32, 57, 48, 48, 48, 32, 65, 49]⟩
theorem tail9 : tailT c9 = ⟨#[57, 48, 48, 48]⟩ := dec_9000
theorem print9 : printT c9 = t9 := by
  unfold printT bodyT
  rw [tail9]
  show ((⟨#[65, 49]⟩ : ByteArray) ++ sp1) ++ ((wd 0 ++ sp1) ++ (⟨#[57, 48, 48, 48]⟩ : ByteArray)) = t9
  kernel_rfl
theorem back9 : backT c9 = u9 := by
  unfold backT bodyT
  rw [tail9]
  show (((wd 0 ++ sp1) ++ (⟨#[57, 48, 48, 48]⟩ : ByteArray)) ++ sp1) ++ (⟨#[65, 49]⟩ : ByteArray) = u9
  kernel_rfl
theorem split_t : Split.splitS (t9, sp1) = some [⟨#[65, 49]⟩, ⟨#[72, 69, 73, 71, 72, 84]⟩, ⟨#[57, 48, 48, 48]⟩] := by kernel_rfl
theorem split_u : Split.splitS (u9, sp1) = some [⟨#[72, 69, 73, 71, 72, 84]⟩, ⟨#[57, 48, 48, 48]⟩, ⟨#[65, 49]⟩] := by kernel_rfl
abbrev w1 : ByteArray := ⟨#[65, 49]⟩
abbrev w2 : ByteArray := ⟨#[72, 69, 73, 71, 72, 84]⟩
abbrev w3 : ByteArray := ⟨#[57, 48, 48, 48]⟩
theorem kind2 : kindOf w2 = 0 := by kernel_rfl
theorem kind3 : kindOf w3 = -1 := by kernel_rfl
theorem atoi3 : Lib.atoi w3.data.toList = some 9000 := by kernel_rfl
theorem err9 : clearErr c9 = 0 := by kernel_rfl
section
variable {N : Nat} (hN : 4611686018427387904 ≤ N)
include hN
theorem read9 : phrase_read.fn N (w1, w2, w3) = some (c9, true) := by
  have e1 : (decide (w3.size ≤ 18) && (some (9000 : Int)).isSome) = true := rfl
  have e2 : seq (dec 9000) w3 = true := by rw [dec_9000]; exact beq_self_eq_true _
  rw [phrase_read.eq, phrase_kind.v hN, Option.bind_some, kind2, show decide ((0 : Int) < 0) = false from rfl, cond_false, show decide ((0 : Int) ≥ 3) = false from rfl, cond_false, atoi3, e1, cond_true, show ((some (9000 : Int)).getD 0) = 9000 from rfl, itoa_v (by decide) (by decide), Option.bind_some, e2]
theorem readb : phrase_read.fn N (w2, w3, w1) = some (((⟨#[]⟩ : ByteArray), (0, (0, (⟨#[]⟩ : ByteArray)))), false) := by
  rw [phrase_read.eq, phrase_kind.v hN, Option.bind_some, kind3, show decide ((-1 : Int) < 0) = true from rfl, cond_true]
theorem parse_j (b : Bool) : phrase_Parse.j0 N true b w1 0 9000 (⟨#[]⟩ : ByteArray) = some (c9, b, 0) := by
  obtain ⟨M, hM⟩ : ∃ M, N = M + 1 := ⟨N - 1, by omega⟩
  rw [phrase_Parse.j0_eq N true b w1 0 9000 (⟨#[]⟩ : ByteArray) hM, phrase_Check.v hN]
  show ((some (clearErr c9)).bind fun r9 => bif !(r9 == 0) then some (((⟨#[]⟩ : ByteArray), (0, (0, (⟨#[]⟩ : ByteArray)))), false, r9) else some (c9, b, 0)) = _
  rw [err9]
  rfl
theorem parse_t : phrase_Parse.fn N t9 = some (c9, false, 0) := by
  rw [phrase_Parse.eq, show decide ((t9.size : Int) > 120) = false from rfl, cond_false, split_t, Option.bind_some]
  show ((phrase_read.fn N (w1, w2, w3)).bind fun r2 => bif !r2.2 then ((phrase_read.fn N (w3, w1, w2)).bind fun r10 => phrase_Parse.j0 N r10.2 true r10.1.1 r10.1.2.1 r10.1.2.2.1 r10.1.2.2.2) else phrase_Parse.j0 N r2.2 false r2.1.1 r2.1.2.1 r2.1.2.2.1 r2.1.2.2.2) = _
  rw [read9 hN, Option.bind_some]
  exact parse_j hN false
theorem parse_u : phrase_Parse.fn N u9 = some (c9, true, 0) := by
  rw [phrase_Parse.eq, show decide ((u9.size : Int) > 120) = false from rfl, cond_false, split_u, Option.bind_some]
  show ((phrase_read.fn N (w2, w3, w1)).bind fun r2 => bif !r2.2 then ((phrase_read.fn N (w1, w2, w3)).bind fun r10 => phrase_Parse.j0 N r10.2 true r10.1.1 r10.1.2.1 r10.1.2.2.1 r10.1.2.2.2) else phrase_Parse.j0 N r2.2 false r2.1.1 r2.1.2.1 r2.1.2.2.1 r2.1.2.2.2) = _
  rw [readb hN, read9 hN, Option.bind_some, Option.bind_some]
  exact parse_j hN true
theorem fact_v : law_phraseFact.fn N () = some true := by
  have e0 : clearErr ((⟨#[]⟩ : ByteArray), (0, (0, (⟨#[]⟩ : ByteArray)))) = 3 := by kernel_rfl
  have p : phrase_Print.fn N c9 = some (t9, 0) := by rw [print_v hN, err9, print9]; rfl
  have b : phrase_Back.fn N c9 = some (u9, 0) := by rw [back_v hN, err9, back9]; rfl
  rw [law_phraseFact.eq, law_climbed.eq, Option.bind_some, p, b, Option.bind_some, Option.bind_some]
  dsimp only
  rw [parse_t hN, parse_u hN, Option.bind_some, Option.bind_some, phrase_Check.v hN, e0]
  rfl
theorem PhraseTexts.pureN (c : Clr) : law_PhraseTexts.fn N c = some true := by
  rw [law_PhraseTexts.clean, fact_v hN, Option.bind_some, print_v hN, back_v hN, ref_ClearError.v hN, phrase_Check.v hN, Option.bind_some, Option.bind_some, Option.bind_some, Option.bind_some, show (!true) = false from rfl, cond_false]
  cases he : (clearErr c == 0) with
  | false =>
    rw [Bool.not_false, cond_true, cond_true, cond_true]
    dsimp only
    rw [beq_self_eq_true]
    rfl
  | true =>
    have h := clr_ok (beq_iff_eq.1 he)
    rw [beq_iff_eq.1 he, Bool.not_true, cond_false, cond_false, cond_false]
    dsimp only
    rw [text_v hN h, text_v hN h, Option.bind_some]
    have s1 : seq (printT c) (bif false then backT c else printT c) = true := beq_self_eq_true _
    have s2 : seq (backT c) (bif true then backT c else printT c) = true := beq_self_eq_true _
    rw [s1, cond_true, Option.bind_some, s2]
    rfl
end
theorem PhraseTexts.pure (x0 : Clr) (h0 : Wf Tryd.prog (.pair .str (.pair (.int .i64) (.pair (.int .i64) .str))) x0) : law_PhraseTexts.fn NN x0 = some true := PhraseTexts.pureN NN_big x0
end Go.Proofs.YtbjanflhagkhlaaDoor.Sk
