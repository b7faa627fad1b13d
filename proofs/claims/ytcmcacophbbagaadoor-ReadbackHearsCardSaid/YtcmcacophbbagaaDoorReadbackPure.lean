/- The laws ReadbackDiffers, ReadbackSays, ReadbackHears, ReadbackLapses, plain: what the printed functions answer. -/
import Derived.Test.YtcmcacophbbagaaDoorReadbackEq
set_option linter.unusedVariables false
set_option linter.unusedSimpArgs false
set_option linter.unusedSectionVars false
set_option maxRecDepth 100000
namespace Go.Proofs.YtcmcacophbbagaaDoor.Sk
open Go

theorem bif_some {α : Type} (b : Bool) (x y : α) : (bif b then some x else some y) = some (bif b then x else y) := by cases b <;> rfl
/-! ### names -/
def nameCh (c : UInt8) : Bool := !(((decide (((c.toNat : Nat) : Int) < 65)) || (decide (((c.toNat : Nat) : Int) > 90))) && ((decide (((c.toNat : Nat) : Int) < 48)) || (decide (((c.toNat : Nat) : Int) > 57))))
def isNameL : List UInt8 → Bool
  | [] => false
  | b :: r => bif decide (r.length + 1 > 8) then false else bif decide (((b.toNat : Nat) : Int) < 65) || decide (((b.toNat : Nat) : Int) > 90) then false else (b :: r).all nameCh
def isName (s : ByteArray) : Bool := isNameL s.data.toList
theorem size_list (s : ByteArray) : s.size = s.data.toList.length := by rw [ByteArray.size, Array.length_toList]

section
variable {N : Nat} (hN : 4611686018427387904 ≤ N)
include hN
theorem chart_Name.v (s : ByteArray) : chart_Name.fn N s = some (isName s) := by
  rw [chart_Name.clean]
  unfold isName
  have hsz := size_list s
  cases h : s.data.toList with
  | nil =>
    rw [h] at hsz
    have hsz : s.size = 0 := hsz
    simp [hsz, isNameL]
  | cons b r =>
    rw [h] at hsz
    have hsz : s.size = r.length + 1 := by simpa using hsz
    have g : (ByteArray.data s).getD 0 0 = b := getD_bytes (pre := []) (r := r) h
    have c1 : decide (0 < (s.size : Int)) = true := by rw [decide_eq_true_iff]; omega
    have c2 : ((s.size : Int) == 0) = false := by rw [beq_eq_false_iff_ne]; omega
    have c3 : decide ((s.size : Int) > 8) = decide (r.length + 1 > 8) := by rw [decide_eq_decide]; omega
    simp only [g, c1, c2, c3, Bool.true_or, cond_true, Bool.false_or, isNameL]
    by_cases h8 : r.length + 1 > 8
    · simp [h8]
    have h8' : decide (r.length + 1 > 8) = false := decide_eq_false h8
    simp only [h8', Bool.false_or, cond_false]
    have hl := scan_list (l := s.data.toList) (fun c => !nameCh c) (some false) (some true) (fun k i => chart_Name.l0 N s k i)
      (fun k => by show chart_Name.l0 N s (k + 1) (s.data.toList.length : Int) = _; rw [← size_list s]; exact chart_Name.l0_nil N s k)
      (fun k pre x r' h' => by show chart_Name.l0 N s (k + 1) (pre.length : Int) = _; rw [chart_Name.l0_cons N s k h' (by omega)]; simp [nameCh]) N (by rw [h]; simp; omega)
    rw [hl, h]
    cases (decide (((b.toNat : Nat) : Int) < 65) || decide (((b.toNat : Nat) : Int) > 90)) with
    | true => rfl
    | false =>
      rw [cond_false, cond_false, ← List.not_all_eq_any_not]
      cases ((b :: r).all nameCh) <;> rfl
theorem ref_IsName.v (s : ByteArray) : ref_IsName.fn N s = some (isName s) := by
  rw [ref_IsName.clean]
  unfold isName
  have hsz := size_list s
  cases h : s.data.toList with
  | nil =>
    rw [h] at hsz
    have hsz : s.size = 0 := hsz
    have : s = ⟨#[]⟩ := by cases s with | mk a => congr 1; exact Array.ext' h
    subst this
    simp [isNameL, seq]
  | cons b r =>
    rw [h] at hsz
    have hsz : s.size = r.length + 1 := by simpa using hsz
    have g : (ByteArray.data s).getD 0 0 = b := getD_bytes (pre := []) (r := r) h
    have c1 : decide (0 < (s.size : Int)) = true := by rw [decide_eq_true_iff]; omega
    have c2 : seq s (⟨#[]⟩ : ByteArray) = false := by unfold seq; rw [h]; rfl
    have c3 : decide ((s.size : Int) > 8) = decide (r.length + 1 > 8) := by rw [decide_eq_decide]; omega
    simp only [g, c1, c2, c3, Bool.true_or, cond_true, Bool.false_or, isNameL]
    by_cases h8 : r.length + 1 > 8
    · simp [h8]
    have h8' : decide (r.length + 1 > 8) = false := decide_eq_false h8
    simp only [h8', Bool.false_or, cond_false]
    have hl := scan_list (l := s.data.toList) (fun c => !nameCh c) (some false) (some true) (fun k i => ref_IsName.l0 N s k i)
      (fun k => by show ref_IsName.l0 N s (k + 1) (s.data.toList.length : Int) = _; rw [← size_list s]; exact ref_IsName.l0_nil N s k)
      (fun k pre x r' h' => by show ref_IsName.l0 N s (k + 1) (pre.length : Int) = _; rw [ref_IsName.l0_cons N s k h' (by omega)]; simp [nameCh]) N (by rw [h]; simp; omega)
    rw [hl, h]
    have hb : (b :: r).any (fun c => !nameCh c) = !((b :: r).all nameCh) := List.not_all_eq_any_not.symm
    rw [hb]
    by_cases q1 : ((b.toNat : Nat) : Int) < 65
    · by_cases q2 : ((b.toNat : Nat) : Int) < 48
      · have : nameCh b = false := by simp [nameCh]; omega
        simp [q1, this, show ¬ 48 ≤ b.toNat by omega]
      · by_cases q3 : ((b.toNat : Nat) : Int) > 57
        · have : nameCh b = false := by simp [nameCh]; omega
          simp [q1, this, show ¬ b.toNat ≤ 57 by omega]
        · simp [q1, show (48 : Int) ≤ b.toNat by omega, show (b.toNat : Int) ≤ 57 by omega]
    · by_cases q2 : ((b.toNat : Nat) : Int) > 90
      · have : nameCh b = false := by simp [nameCh]; omega
        simp [q2, this, show ¬ b.toNat ≤ 57 by omega]
      · simp only [q1, q2, decide_false, Bool.or_false, cond_false, show decide (((b.toNat : Nat) : Int) ≤ 57) = false by rw [decide_eq_false_iff_not]; omega, Bool.and_false]
        cases ((b :: r).all nameCh) <;> rfl
theorem owner_Name.v (s : ByteArray) : owner_Name.fn N s = some (isName s) := by
  rw [owner_Name.eq, sector_Name.eq, chart_Name.v hN]; rfl
end

/-! ### clearances -/
abbrev Clr := ByteArray × Int × Int × ByteArray
abbrev Opn := Clr × Int
def kindOf (s : ByteArray) : Int :=
  bif seq (⟨#[72, 69, 73, 71, 72, 84]⟩ : ByteArray) s then 0 else bif seq (⟨#[72, 69, 65, 68, 73, 78, 71]⟩ : ByteArray) s then 1 else bif seq (⟨#[83, 80, 69, 69, 68]⟩ : ByteArray) s then 2 else
  bif seq (⟨#[68, 73, 82, 69, 67, 84]⟩ : ByteArray) s then 3 else bif seq (⟨#[72, 79, 76, 68]⟩ : ByteArray) s then 4 else bif seq (⟨#[67, 79, 78, 84, 65, 67, 84]⟩ : ByteArray) s then 5 else bif seq (⟨#[76, 65, 78, 68]⟩ : ByteArray) s then 6 else -1
theorem phrase_kind.v8 (M : Nat) (s : ByteArray) : phrase_kind.fn (M + 8) s =
    bif seq (⟨#[72, 69, 73, 71, 72, 84]⟩ : ByteArray) s then some 0 else bif seq (⟨#[72, 69, 65, 68, 73, 78, 71]⟩ : ByteArray) s then some 1 else bif seq (⟨#[83, 80, 69, 69, 68]⟩ : ByteArray) s then some 2 else
    bif seq (⟨#[68, 73, 82, 69, 67, 84]⟩ : ByteArray) s then some 3 else bif seq (⟨#[72, 79, 76, 68]⟩ : ByteArray) s then some 4 else bif seq (⟨#[67, 79, 78, 84, 65, 67, 84]⟩ : ByteArray) s then some 5 else
    bif seq (⟨#[76, 65, 78, 68]⟩ : ByteArray) s then some 6 else some (-1) := by kernel_rfl
theorem ref_free.v8 (M : Nat) (s : ByteArray) : ref_free.fn (M + 8) s =
    bif seq (⟨#[72, 69, 73, 71, 72, 84]⟩ : ByteArray) s then some false else bif seq (⟨#[72, 69, 65, 68, 73, 78, 71]⟩ : ByteArray) s then some false else bif seq (⟨#[83, 80, 69, 69, 68]⟩ : ByteArray) s then some false else
    bif seq (⟨#[68, 73, 82, 69, 67, 84]⟩ : ByteArray) s then some false else bif seq (⟨#[72, 79, 76, 68]⟩ : ByteArray) s then some false else bif seq (⟨#[67, 79, 78, 84, 65, 67, 84]⟩ : ByteArray) s then some false else
    bif seq (⟨#[76, 65, 78, 68]⟩ : ByteArray) s then some false else ((ref_IsName.fn (M + 8) s).bind fun r => some r) := by kernel_rfl
def plainW (s : ByteArray) : Bool := isName s && decide (kindOf s < 0)
def clearErr (c : Clr) : Int :=
  bif !plainW c.1 then 3 else bif decide (c.2.1 < 0) || decide (c.2.1 > 6) then 1 else
  bif decide (c.2.1 ≥ 3) then (bif !(c.2.2.1 == 0) || !plainW c.2.2.2 then 3 else 0) else
  bif !(seq c.2.2.2 (⟨#[]⟩ : ByteArray)) then 3 else bif decide (c.2.2.1 < 0) || decide (c.2.2.1 > List.getD [60000, 4095, 400] c.2.1.toNat 0) then 4 else 0

section
variable {N : Nat} (hN : 4611686018427387904 ≤ N)
include hN
theorem phrase_kind.v (s : ByteArray) : phrase_kind.fn N s = some (kindOf s) := by
  obtain ⟨M, rfl⟩ : ∃ M, N = M + 8 := ⟨N - 8, by omega⟩
  rw [phrase_kind.v8]
  unfold kindOf
  repeat (first | rfl | (generalize seq _ s = b; cases b <;> simp only [cond_true, cond_false]))
theorem phrase_plain.v (s : ByteArray) : phrase_plain.fn N s = some (plainW s) := by
  rw [phrase_plain.clean, owner_Name.v hN, phrase_kind.v hN]
  unfold plainW
  cases isName s <;> rfl
theorem ref_free.v (s : ByteArray) : ref_free.fn N s = some (plainW s) := by
  have hn := ref_IsName.v hN s
  obtain ⟨M, rfl⟩ : ∃ M, N = M + 8 := ⟨N - 8, by omega⟩
  rw [ref_free.v8, hn]
  unfold plainW kindOf
  cases isName s <;> repeat (first | rfl | (generalize seq _ s = b; cases b <;> simp only [cond_true, cond_false]))
theorem phrase_Check.v (c : Clr) : phrase_Check.fn N c = some (clearErr c) := by
  rw [phrase_Check.clean]
  simp only [phrase_plain.v hN, Option.bind_some]
  unfold clearErr
  cases plainW c.1 with
  | false => rfl
  | true =>
    simp only [Bool.not_true, cond_false]
    by_cases h1 : c.2.1 < 0
    · simp [h1]
    by_cases h2 : c.2.1 > 6
    · simp [h2]
    simp only [h1, h2, decide_false, Bool.or_false, cond_false]
    by_cases h3 : c.2.1 ≥ 3
    · simp only [h3, decide_true, cond_true]
      cases h4 : (c.2.2.1 == 0) <;> simp [h4]
      cases plainW c.2.2.2 <;> rfl
    · simp only [h3, decide_false, cond_false]
      cases seq c.2.2.2 ⟨#[]⟩ with
      | false => rfl
      | true =>
        simp only [Bool.not_true, cond_false, Nat.zero_add, Nat.mul_one, show decide (0 ≤ c.2.1) = true by rw [decide_eq_true_iff]; omega, show decide (c.2.1 < 3) = true by rw [decide_eq_true_iff]; omega, show decide (c.2.1.toNat < 3) = true by rw [decide_eq_true_iff]; omega, Bool.and_self, Bool.true_or, cond_true]
        cases (decide (c.2.2.1 < 0) || decide (c.2.2.1 > List.getD [60000, 4095, 400] c.2.1.toNat 0)) <;> rfl
theorem ref_ClearError.v (c : Clr) : ref_ClearError.fn N c = some (clearErr c) := by
  rw [ref_ClearError.clean]
  simp only [ref_free.v hN, Option.bind_some]
  unfold clearErr
  cases plainW c.1 with
  | false => rfl
  | true =>
    simp only [Bool.not_true, cond_false]
    by_cases h1 : c.2.1 < 0
    · simp [h1]
    by_cases h2 : c.2.1 > 6
    · simp [h2]
    simp only [h1, h2, decide_false, Bool.or_false, cond_false]
    have hk : c.2.1 = 0 ∨ c.2.1 = 1 ∨ c.2.1 = 2 ∨ c.2.1 = 3 ∨ c.2.1 = 4 ∨ c.2.1 = 5 ∨ c.2.1 = 6 := by omega
    generalize c.2.1 = kd at hk
    generalize c.2.2.1 = vl
    generalize hpl : plainW c.2.2.2 = pl
    generalize seq c.2.2.2 ⟨#[]⟩ = em
    rcases hk with rfl | rfl | rfl | rfl | rfl | rfl | rfl <;> cases hv : (vl == 0) <;> cases pl <;> cases em <;> simp [hv] <;> (try (simp at hv; subst hv; simp)) <;> (try (by_cases a1 : vl < 0 <;> simp [a1])) <;> (try (exact bif_some _ _ _))

/-! ### open clearances -/
end
def opKey (c : Clr) (x : Opn) : Bool := seq x.1.1 c.1 && (x.1.2.1 == c.2.1)
def openAt (l : List Opn) (c : Clr) : Int := idxL (opKey c) l 0
def lastT (l : List Opn) : Int := (l.getLast?.map (·.2)).getD 0
theorem lastT_snoc (l : List Opn) (x : Opn) : lastT (l ++ [x]) = x.2 := by simp [lastT]
def chkE : List Opn → List Opn → Int
  | _, [] => 0
  | pre, x :: r => bif !(clearErr x.1 == 0) then clearErr x.1 else bif decide (x.2 < lastT pre) || decide (x.2 > 200000) then 12 else bif decide (openAt pre x.1 ≥ 0) then 7 else chkE (pre ++ [x]) r
def openErr (l : List Opn) : Int := bif decide ((l.length : Int) > 12) then 2 else chkE [] l
theorem chkE_ok : ∀ {r pre : List Opn}, chkE pre r = 0 → (∀ x, x ∈ pre → 0 ≤ x.2 ∧ x.2 ≤ lastT pre) → 0 ≤ lastT pre → lastT pre ≤ 200000 → (∀ x, x ∈ pre ++ r → 0 ≤ x.2 ∧ x.2 ≤ lastT (pre ++ r)) ∧ 0 ≤ lastT (pre ++ r) ∧ lastT (pre ++ r) ≤ 200000
  | [], pre, _, hp, h0, h1 => by rw [List.append_nil]; exact ⟨hp, h0, h1⟩
  | x :: r, pre, h, hp, h0, h1 => by
    unfold chkE at h
    cases hc : (clearErr x.1 == 0) with
    | false => rw [hc] at h; simp at h hc; exact absurd h hc
    | true =>
      rw [hc] at h
      cases ht : (decide (x.2 < lastT pre) || decide (x.2 > 200000)) with
      | true => rw [ht] at h; cases h
      | false =>
        rw [ht] at h
        simp only [Bool.or_eq_false_iff, decide_eq_false_iff_not] at ht
        cases ha : decide (openAt pre x.1 ≥ 0) with
        | true => rw [ha] at h; cases h
        | false =>
          rw [ha] at h
          have := chkE_ok (r := r) (pre := pre ++ [x]) h (fun y hy => by
            rw [lastT_snoc]
            rcases List.mem_append.1 hy with hy | hy
            · have := hp y hy; omega
            · simp at hy; subst hy; omega) (by rw [lastT_snoc]; omega) (by rw [lastT_snoc]; omega)
          simpa using this
theorem openErr_ok {l : List Opn} (h : openErr l = 0) : l.length ≤ 12 ∧ (∀ x, x ∈ l → 0 ≤ x.2 ∧ x.2 ≤ lastT l) ∧ 0 ≤ lastT l ∧ lastT l ≤ 200000 := by
  unfold openErr at h
  by_cases hl : (l.length : Int) > 12
  · simp [hl] at h
  · simp [hl] at h
    have := chkE_ok (pre := []) h (fun x hx => by cases hx) (by simp [lastT]) (by simp [lastT])
    exact ⟨by omega, by simpa using this.1, by simpa using this.2.1, by simpa using this.2.2⟩
def timeErr (l : List Opn) (t : Int) : Int := bif decide (t < 0) || decide (t > 200000) || l.any (fun x => decide (t < x.2)) then 12 else 0
theorem timeErr_last {l : List Opn} (h : openErr l = 0) (t : Int) (h0 : ¬ t < 0) : l.any (fun x => decide (t < x.2)) = decide (t < lastT l) := by
  obtain ⟨_, h2, h3, h4⟩ := openErr_ok h
  by_cases ht : t < lastT l
  · rw [decide_eq_true ht, List.any_eq_true]
    rcases List.eq_nil_or_concat l with rfl | ⟨l', x, rfl⟩
    · simp [lastT] at ht; omega
    · rw [List.concat_eq_append] at *
      rw [lastT_snoc] at ht
      exact ⟨x, by simp, by simpa using ht⟩
  · rw [decide_eq_false ht, List.any_eq_false]
    intro x hx
    have := h2 x hx
    simp; omega
/-- Without the element at a place. -/
def wo (i : Int) : Int → List Opn → List Opn
  | _, [] => []
  | n, x :: r => bif n == i then wo i (n + 1) r else x :: wo i (n + 1) r
theorem wo_above {i : Int} : ∀ (r : List Opn) (n : Int), i < n → wo i n r = r
  | [], _, _ => rfl
  | x :: r, n, h => by
    unfold wo
    rw [show (n == i) = false by rw [beq_eq_false_iff_ne]; omega, wo_above r (n + 1) (by omega)]; rfl
theorem wo_at {x : Opn} {r : List Opn} : ∀ (pre : List Opn) (n : Int), wo (n + pre.length) n (pre ++ x :: r) = pre ++ r
  | [], n => by
    unfold wo
    simp only [List.nil_append, List.length_nil]
    rw [show (n == n + ((0 : Nat) : Int)) = true by rw [beq_iff_eq]; simp, cond_true]
    exact wo_above r _ (by simp; omega)
  | y :: pre, n => by
    have := wo_at (x := x) (r := r) pre (n + 1)
    rw [List.cons_append, wo, show (n == n + (((y :: pre).length : Nat) : Int)) = false by rw [beq_eq_false_iff_ne]; simp; omega, cond_false,
      show n + (((y :: pre).length : Nat) : Int) = n + 1 + (pre.length : Int) by simp; omega, this]; rfl

section
variable {N : Nat} (hN : 4611686018427387904 ≤ N)
include hN
theorem readback_find.v (l : List Opn) (c : Clr) (hl : l.length < 4611686018427387904) : readback_find.fn N (l, c) = some (openAt l c) := by
  rw [readback_find.eq]
  exact find_list (opKey c) (fun k i => readback_find.l0 N l c k i) (fun k => readback_find.l0_nil N l c k) (fun k pre x r h => by rw [readback_find.l0_cons N l c k h hl]; rfl) N (by omega)
theorem ref_OpenAt.v (l : List Opn) (c : Clr) (hl : l.length < 4611686018427387904) : ref_OpenAt.fn N (l, c) = some (openAt l c) := by
  rw [ref_OpenAt.eq]
  exact find_list (opKey c) (fun k i => ref_OpenAt.l0 N l c k i) (fun k => ref_OpenAt.l0_nil N l c k) (fun k pre x r h => by rw [ref_OpenAt.l0_cons N l c k h hl, Bool.and_comm]; rfl) N (by omega)
theorem readback_Check.v (l : List Opn) (hl : l.length < 4611686018427387904) : readback_Check.fn N l = some (openErr l) := by
  rw [readback_Check.eq]
  unfold openErr
  by_cases h : (l.length : Int) > 12
  · simp [h]
  simp only [h, decide_false, cond_false]
  refine list_loop (l := l) (fun k (_ : Unit) i => readback_Check.l0 N l k i) (fun pre r _ => some (chkE pre r)) (fun pre _ => 0 ≤ lastT pre) (fun k s _ => readback_Check.l0_nil N l k) (fun k pre x r s h hI ih => ?_) N () (by simp [lastT]) (by omega)
  have hlen : l.length = pre.length + 1 + r.length := by rw [h]; simp; omega
  show readback_Check.l0 N l (k + 1) (pre.length : Int) = _
  rw [readback_Check.l0_cons N l k h hl, phrase_Check.v hN, readback_find.v hN pre x.1 (by omega)]
  simp only [Option.bind_some, chkE]
  cases (clearErr x.1 == 0) with
  | false => rfl
  | true =>
    simp only [Bool.not_true, cond_false]
    by_cases t1 : x.2 < 0
    · simp [t1, show x.2 < lastT pre by omega]
    by_cases t2 : x.2 > 200000
    · simp [t2]
    have fin : ∀ b : Bool, (b = decide (x.2 < lastT pre)) → (bif b then some (12 : Int) else (bif decide (openAt pre x.1 ≥ 0) then some 7 else readback_Check.l0 N l k ((pre.length : Int) + 1))) = some (bif decide (x.2 < lastT pre) || decide (x.2 > 200000) then 12 else bif decide (openAt pre x.1 ≥ 0) then 7 else chkE (pre ++ [x]) r) := by
      rintro b rfl
      simp only [t2, decide_false, Bool.or_false]
      cases hb : decide (x.2 < lastT pre) with
      | true => rfl
      | false =>
        rw [cond_false, cond_false, ih () (by rw [lastT_snoc]; omega)]
        cases decide (openAt pre x.1 ≥ 0) <;> rfl
    rcases List.eq_nil_or_concat pre with rfl | ⟨pre', p, rfl⟩
    · have hl0 : lastT [] = 0 := rfl
      have := fin false (decide_eq_false (by rw [hl0]; omega)).symm
      simpa [t1, t2] using this
    · rw [List.concat_eq_append] at *
      have hlen' : l.length = pre'.length + 1 + 1 + r.length := by simpa using hlen
      have e1 : w (((pre' ++ [p]).length : Int) - 1) = (pre'.length : Int) := by rw [w_small] <;> simp <;> omega
      have g2 : ∀ d, l.getD pre'.length d = p := fun d => by rw [h, List.append_assoc]; exact getD_mid pre' p _ d
      have := fin (decide (x.2 < p.2)) (by rw [lastT_snoc])
      rw [e1]
      simp only [Int.toNat_natCast, g2, t1, t2, decide_false, Bool.or_false, Bool.false_or, show decide ((0 : Int) ≤ (pre'.length : Int)) = true by rw [decide_eq_true_iff]; omega, show decide ((pre'.length : Int) < (l.length : Int)) = true by rw [decide_eq_true_iff]; omega,
        show decide (((pre' ++ [p]).length : Int) > 0) = true by rw [decide_eq_true_iff]; simp, Bool.true_and, Bool.true_or, cond_true]
      simp only [t2, decide_false, Bool.or_false] at this
      exact this
theorem ref_OpenError.v (l : List Opn) (hl : l.length < 4611686018427387904) : ref_OpenError.fn N l = some (openErr l) := by
  rw [ref_OpenError.eq]
  unfold openErr
  by_cases h : (l.length : Int) > 12
  · simp [h]
  simp only [h, decide_false, cond_false]
  refine list_loop (l := l) (fun k (s : Int) i => ref_OpenError.l0 N l k s i) (fun pre r s => some (chkE pre r)) (fun pre s => s = lastT pre) (fun k s _ => ref_OpenError.l0_nil N l k s) (fun k pre x r s h hI ih => ?_) N 0 (by simp [lastT]) (by omega)
  have hlen : l.length = pre.length + 1 + r.length := by rw [h]; simp; omega
  subst hI
  show ref_OpenError.l0 N l (k + 1) (lastT pre) (pre.length : Int) = _
  rw [ref_OpenError.l0_cons N l k _ h hl, ref_ClearError.v hN, ref_OpenAt.v hN pre x.1 (by omega), ih x.2 (lastT_snoc pre x).symm]
  simp only [Option.bind_some, chkE]
  cases (clearErr x.1 == 0) with
  | false => rfl
  | true =>
    simp only [Bool.not_true, cond_false]
    cases (decide (x.2 < lastT pre) || decide (x.2 > 200000)) with
    | true => rfl
    | false => cases decide (openAt pre x.1 ≥ 0) <;> rfl
theorem ref_TimeError.v (l : List Opn) (t : Int) (hl : l.length < 4611686018427387904) : ref_TimeError.fn N (l, t) = some (timeErr l t) := by
  rw [ref_TimeError.clean]
  unfold timeErr
  cases (decide (t < 0) || decide (t > 200000)) with
  | true => rfl
  | false =>
    simp only [cond_false, Bool.false_or]
    rw [← bif_some]
    exact scan_list (l := l) (fun x => decide (t < x.2)) (some 12) (some 0) (fun k i => ref_TimeError.l0 N l t k i) (fun k => ref_TimeError.l0_nil N l t k) (fun k pre x r h => ref_TimeError.l0_cons N l t k h hl) N (by omega)
theorem readback_early.v (l : List Opn) (t : Int) (he : openErr l = 0) : readback_early.fn N (l, t) = some (timeErr l t) := by
  obtain ⟨hl, h2, h3, h4⟩ := openErr_ok he
  rw [readback_early.clean]
  unfold timeErr
  by_cases t1 : t < 0
  · simp [t1]
  by_cases t2 : t > 200000
  · simp [t2]
  rw [timeErr_last he t t1]
  simp only [t1, t2, decide_false, Bool.or_false, Bool.false_or, Bool.not_false, Bool.true_and]
  rcases List.eq_nil_or_concat l with rfl | ⟨l', p, rfl⟩
  · have hl0 : lastT [] = 0 := rfl
    simp [hl0, t1]
  · rw [List.concat_eq_append] at *
    rw [lastT_snoc]
    have hl' : l'.length + 1 ≤ 12 := by simpa using hl
    have e1 : w (((l' ++ [p]).length : Int) - 1) = (l'.length : Int) := by rw [w_small] <;> simp <;> omega
    have g2 : ∀ d, (l' ++ [p]).getD l'.length d = p := fun d => getD_mid l' p [] d
    rw [e1]
    simp only [Int.toNat_natCast, g2, show decide ((0 : Int) ≤ (l'.length : Int)) = true by rw [decide_eq_true_iff]; omega, show decide ((l'.length : Int) < ((l' ++ [p]).length : Int)) = true by rw [decide_eq_true_iff]; simp; omega,
        show decide (((l' ++ [p]).length : Int) > 0) = true by rw [decide_eq_true_iff]; simp, Bool.true_and, Bool.true_or, cond_true]
    exact bif_some _ _ _
theorem ref_OpenWithout.v (l : List Opn) (i : Int) (hl : l.length * 56 ≤ 140737488355328) : ref_OpenWithout.fn N (l, i) = some (wo i 0 l) := by
  rw [ref_OpenWithout.eq]
  refine (list_loop (l := l) (fun k (s : List Opn) n => ref_OpenWithout.l0 N l i k n s) (fun pre r s => some (s ++ wo i (pre.length : Int) r)) (fun pre s => s.length ≤ pre.length) (fun k s _ => ?_) (fun k pre x r s h hI ih => ?_) N [] (by simp) (by omega)).trans (by simp)
  · show ref_OpenWithout.l0 N l i (k + 1) (l.length : Int) s = _
    rw [ref_OpenWithout.l0_nil]; simp [wo]
  · have hlen : l.length = pre.length + 1 + r.length := by rw [h]; simp; omega
    show ref_OpenWithout.l0 N l i (k + 1) (pre.length : Int) s = _
    rw [ref_OpenWithout.l0_cons N l i k s h (by omega), wo]
    cases hi : ((pre.length : Int) == i) with
    | true =>
      simp only [Bool.not_true, cond_false, cond_true]
      rw [ih s (by simp; omega)]; simp
    | false =>
      simp only [Bool.not_false, cond_true, cond_false]
      rw [show (decide ((s.length + 1) * 56 ≤ 140737488355328) && decide ((s.length + 1) ≤ maxLen)) = true by rw [Bool.and_eq_true, decide_eq_true_iff, decide_eq_true_iff]; unfold maxLen; omega, cond_true]
      have := ih (s ++ [x]) (by simp; omega)
      rw [this]; simp

/-! ### what is said and heard -/
theorem openAt_spec (l : List Opn) (c : Clr) : (openAt l c = -1 ∧ wo (openAt l c) 0 l = l) ∨ ∃ pre x r, l = pre ++ x :: r ∧ openAt l c = pre.length ∧ wo (openAt l c) 0 l = pre ++ r := by
  rcases idx_spec (opKey c) l with ⟨h1, h2⟩ | ⟨pre, x, r, h1, h2, h3, h4⟩
  · refine .inl ⟨h1, ?_⟩
    unfold openAt
    rw [h1]; exact wo_above l 0 (by omega)
  · refine .inr ⟨pre, x, r, h1, h2, ?_⟩
    unfold openAt
    rw [h2, h1]
    have := wo_at (x := x) (r := r) pre 0
    rwa [Int.zero_add] at this
theorem readback_Compare.v (c r : Clr) : readback_Compare.fn N (c, r) = some (bif !(clearErr c == 0) then (0, clearErr c) else bif !(clearErr r == 0) then (0, clearErr r) else
    ((bif !seq c.1 r.1 then 1 else 0) + (bif !(c.2.1 == r.2.1) then 2 else 0) + (bif !(c.2.2.1 == r.2.2.1) then 4 else 0) + (bif !seq c.2.2.2 r.2.2.2 then 8 else 0), 0)) := by
  obtain ⟨M, hM⟩ : ∃ M, N = M + 1 := ⟨N - 1, by omega⟩
  rw [readback_Compare.eq, phrase_Check.v hN, phrase_Check.v hN]
  simp only [Option.bind_some, readback_Compare.j0_eq (hM := hM), readback_Compare.j1_eq (hM := hM), readback_Compare.j2_eq (hM := hM)]
  cases (clearErr c == 0) with
  | false => rfl
  | true =>
    cases (clearErr r == 0) with
    | false => rfl
    | true =>
      generalize seq c.1 r.1 = b1
      generalize (c.2.1 == r.2.1) = b2
      generalize (c.2.2.1 == r.2.2.1) = b3
      generalize seq c.2.2.2 r.2.2.2 = b4
      cases b1 <;> cases b2 <;> cases b3 <;> cases b4 <;> rfl
theorem readback_Say.v (l : List Opn) (c : Clr) (t : Int) (hl : l.length < 4611686018427387904) : readback_Say.fn N (l, c, t) = some (bif !(openErr l == 0) then ([], openErr l) else bif !(clearErr c == 0) then ([], clearErr c) else bif !(timeErr l t == 0) then ([], timeErr l t) else
    bif decide ((wo (openAt l c) 0 l).length > 11) then ([], 9) else (wo (openAt l c) 0 l ++ [(c, t)], 0)) := by
  obtain ⟨M, hM⟩ : ∃ M, N = M + 1 := ⟨N - 1, by omega⟩
  have j : ∀ (m : List Opn), m.length ≤ 12 → readback_Say.j0 N c t m = some (bif decide (m.length > 11) then ([], 9) else (m ++ [(c, t)], 0)) := by
    intro m hm
    rw [readback_Say.j0_eq (hM := hM)]
    by_cases h : m.length = 12
    · simp [h]
    · have c1 : ((m.length : Int) == 12) = false := by rw [beq_eq_false_iff_ne]; omega
      have c2 : decide (m.length > 11) = false := by rw [decide_eq_false_iff_not]; omega
      have c3 : (decide ((m.length + 1) * 56 ≤ 140737488355328) && decide ((m.length + 1) ≤ maxLen)) = true := by rw [Bool.and_eq_true, decide_eq_true_iff, decide_eq_true_iff]; unfold maxLen; omega
      rw [c1, c2, c3]; rfl
  rw [readback_Say.eq, readback_Check.v hN l hl]
  simp only [Option.bind_some]
  cases he : (openErr l == 0) with
  | false => rfl
  | true =>
    have he := beq_iff_eq.1 he
    have hlen := (openErr_ok he).1
    rw [phrase_Check.v hN, readback_early.v hN l t he, slices_Clone_ReadbackOpen.v N l (by omega), readback_find.v hN l c hl]
    simp only [Option.bind_some, Bool.not_true, cond_false]
    cases (clearErr c == 0) with
    | false => rfl
    | true =>
      cases (timeErr l t == 0) with
      | false => rfl
      | true =>
        simp only [Bool.not_true, cond_false]
        rcases openAt_spec hN l c with ⟨h1, h2⟩ | ⟨pre, x, r, h1, h2, h3⟩
        · rw [h2, h1]; exact j l hlen
        · rw [h3, h2, show decide ((pre.length : Int) ≥ 0) = true by rw [decide_eq_true_iff]; omega, cond_true]
          have hl2 : l.length = pre.length + 1 + r.length := by rw [h1]; simp; omega
          exact (delK_eq (((⟨#[]⟩ : ByteArray), (0, (0, (⟨#[]⟩ : ByteArray)))), 0) (B := 56) (fun m => readback_Say.j0 N c t m) h1 rfl (by omega) (by omega)).trans (j _ (by simp; omega))
def hearErr (l : List Opn) (c : Clr) (t : Int) : Int :=
  bif decide (openAt l c < 0) then 8 else bif decide (t > (l.getD (openAt l c).toNat (((⟨#[]⟩ : ByteArray), (0, (0, (⟨#[]⟩ : ByteArray)))), 0)).2 + 40) then 21 else
  bif !(eqC (l.getD (openAt l c).toNat (((⟨#[]⟩ : ByteArray), (0, (0, (⟨#[]⟩ : ByteArray)))), 0)).1 c) then 17 else 0
where eqC (a b : Clr) : Bool := (seq a.1 b.1) && (((a.2.1) == b.2.1) && (((a.2.2.1) == b.2.2.1) && ((seq a.2.2.2 b.2.2.2) && true)))
theorem readback_Hear.v (l : List Opn) (c : Clr) (t : Int) (hl : l.length < 4611686018427387904) : readback_Hear.fn N (l, c, t) = some (bif !(openErr l == 0) then ([], openErr l) else bif !(clearErr c == 0) then ([], clearErr c) else bif !(timeErr l t == 0) then ([], timeErr l t) else
    bif !(hearErr l c t == 0) then ([], hearErr l c t) else (wo (openAt l c) 0 l, 0)) := by
  rw [readback_Hear.eq, readback_Check.v hN l hl]
  simp only [Option.bind_some]
  cases he : (openErr l == 0) with
  | false => rfl
  | true =>
    have he := beq_iff_eq.1 he
    obtain ⟨hlen, hsrt, hl0, hl1⟩ := openErr_ok he
    rw [phrase_Check.v hN, readback_early.v hN l t he, slices_Clone_ReadbackOpen.v N l (by omega), readback_find.v hN l c hl]
    simp only [Option.bind_some, Bool.not_true, cond_false]
    cases (clearErr c == 0) with
    | false => rfl
    | true =>
      cases ht : (timeErr l t == 0) with
      | false => rfl
      | true =>
        simp only [Bool.not_true, cond_false]
        unfold hearErr
        rcases openAt_spec hN l c with ⟨h1, h2⟩ | ⟨pre, x, r, h1, h2, h3⟩
        · rw [h1]; rfl
        · have hx := hsrt x (by rw [h1]; simp)
          have ht : 0 ≤ t ∧ t ≤ 200000 := by
            have ht := beq_iff_eq.1 ht
            unfold timeErr at ht
            by_cases q1 : t < 0
            · simp [q1] at ht
            · by_cases q2 : t > 200000
              · simp [q2] at ht
              · omega
          have hg : ∀ d, l.getD pre.length d = x := fun d => by rw [h1]; exact getD_mid pre x r d
          rw [h3, h2]
          have hl2 : l.length = pre.length + 1 + r.length := by rw [h1]; simp; omega
          simp only [Int.toNat_natCast, hg, show decide ((pre.length : Int) < 0) = false by rw [decide_eq_false_iff_not]; omega, show decide (0 ≤ (pre.length : Int)) = true by rw [decide_eq_true_iff]; omega, show decide ((pre.length : Int) < (l.length : Int)) = true by rw [decide_eq_true_iff]; omega,
            Bool.and_self, cond_true, cond_false, show w (t - x.2) = t - x.2 by rw [w_small] <;> omega, show decide (t - x.2 > 40) = decide (t > x.2 + 40) by rw [decide_eq_decide]; omega]
          cases decide (t > x.2 + 40) with
          | true => rfl
          | false =>
            simp only [cond_false]
            unfold hearErr.eqC
            cases ((seq x.1.1 c.1) && (((x.1.2.1) == c.2.1) && (((x.1.2.2.1) == c.2.2.1) && ((seq x.1.2.2.2 c.2.2.2) && true)))) with
            | false => rfl
            | true => exact delK_eq (((⟨#[]⟩ : ByteArray), (0, (0, (⟨#[]⟩ : ByteArray)))), 0) (B := 56) (fun m => some (m, (0 : Int))) h1 rfl (by omega) (by omega)
theorem readback_Lapse.v (l : List Opn) (t : Int) (hl : l.length < 4611686018427387904) : readback_Lapse.fn N (l, t) = some (bif !(openErr l == 0) then ([], [], openErr l) else bif !(timeErr l t == 0) then ([], [], timeErr l t) else
    (l.filter fun x => !decide (x.2 + 40 < t), (l.filter fun x => decide (x.2 + 40 < t)).map (·.1), 0)) := by
  rw [readback_Lapse.eq, readback_Check.v hN l hl]
  simp only [Option.bind_some]
  cases he : (openErr l == 0) with
  | false => rfl
  | true =>
    have he := beq_iff_eq.1 he
    obtain ⟨hlen, hsrt, hl0, hl1⟩ := openErr_ok he
    rw [readback_early.v hN l t he]
    simp only [Option.bind_some, Bool.not_true, cond_false]
    cases ht : (timeErr l t == 0) with
    | false => rfl
    | true =>
      simp only [Bool.not_true, cond_false]
      have ht : 0 ≤ t ∧ t ≤ 200000 := by
        have ht := beq_iff_eq.1 ht
        unfold timeErr at ht
        by_cases q1 : t < 0
        · simp [q1] at ht
        · by_cases q2 : t > 200000
          · simp [q2] at ht
          · omega
      refine (list_loop (l := l) (fun k (s : List Opn × List Clr) n => readback_Lapse.l0 N l t k n s.1 s.2) (fun pre r s => some (s.1 ++ r.filter (fun x => !decide (x.2 + 40 < t)), s.2 ++ (r.filter fun x => decide (x.2 + 40 < t)).map (·.1), 0)) (fun pre s => s.1.length ≤ pre.length ∧ s.2.length ≤ pre.length) (fun k s _ => ?_) (fun k pre x r s h hI ih => ?_) N ([], []) (by simp) (by omega)).trans (by simp)
      · show readback_Lapse.l0 N l t (k + 1) (l.length : Int) s.1 s.2 = _
        rw [readback_Lapse.l0_nil]; simp
      · have hl2 : l.length = pre.length + 1 + r.length := by rw [h]; simp; omega
        have hx := hsrt x (by rw [h]; simp)
        show readback_Lapse.l0 N l t (k + 1) (pre.length : Int) s.1 s.2 = _
        rw [readback_Lapse.l0_cons N l t k s.1 s.2 h (by omega)]
        have b1 : (decide ((s.1.length + 1) * 56 ≤ 140737488355328) && decide ((s.1.length + 1) ≤ maxLen)) = true := by rw [Bool.and_eq_true, decide_eq_true_iff, decide_eq_true_iff]; unfold maxLen; omega
        have b2 : (decide ((s.2.length + 1) * 48 ≤ 140737488355328) && decide ((s.2.length + 1) ≤ maxLen)) = true := by rw [Bool.and_eq_true, decide_eq_true_iff, decide_eq_true_iff]; unfold maxLen; omega
        simp only [b1, b2, cond_true, show w (t - x.2) = t - x.2 by rw [w_small] <;> omega, show decide (t - x.2 > 40) = decide (x.2 + 40 < t) by rw [decide_eq_decide]; omega]
        cases hd : decide (x.2 + 40 < t) with
        | true => rw [cond_true]; have := ih (s.1, s.2 ++ [x.1]) (by simp; omega); rw [this]; simp [hd]
        | false => rw [cond_false]; have := ih (s.1 ++ [x], s.2) (by simp; omega); rw [this]; simp [hd]
theorem readback_Of.v (l : List Opn) (c : ByteArray) (hl : l.length < 4611686018427387904) : readback_Of.fn N (l, c) = some (bif !(openErr l == 0) then ([], openErr l) else ((l.filter fun x => seq x.1.1 c).map (·.1), 0)) := by
  rw [readback_Of.eq, readback_Check.v hN l hl]
  simp only [Option.bind_some]
  cases he : (openErr l == 0) with
  | false => rfl
  | true =>
    have he := beq_iff_eq.1 he
    obtain ⟨hlen, hsrt, hl0, hl1⟩ := openErr_ok he
    simp only [Bool.not_true, cond_false]
    refine (list_loop (l := l) (fun k (s : List Clr) n => readback_Of.l0 N l c k n s) (fun pre r s => some (s ++ (r.filter fun x => seq x.1.1 c).map (·.1), 0)) (fun pre s => s.length ≤ pre.length) (fun k s _ => ?_) (fun k pre x r s h hI ih => ?_) N [] (by simp) (by omega)).trans (by simp)
    · show readback_Of.l0 N l c (k + 1) (l.length : Int) s = _
      rw [readback_Of.l0_nil]; simp
    · have hl2 : l.length = pre.length + 1 + r.length := by rw [h]; simp; omega
      show readback_Of.l0 N l c (k + 1) (pre.length : Int) s = _
      rw [readback_Of.l0_cons N l c k s h (by omega)]
      rw [show (decide ((s.length + 1) * 48 ≤ 140737488355328) && decide ((s.length + 1) ≤ maxLen)) = true by rw [Bool.and_eq_true, decide_eq_true_iff, decide_eq_true_iff]; unfold maxLen; omega]
      cases hd : seq x.1.1 c with
      | true => simp only [cond_true]; have := ih (s ++ [x.1]) (by simp; omega); rw [this]; simp [hd]
      | false => simp only [cond_false]; have := ih s (by simp; omega); rw [this]; simp [hd]
def clb (n : Int) : Clr := ((⟨#[65, 49]⟩ : ByteArray), (0, (n, (⟨#[]⟩ : ByteArray))))
theorem law_readbackFact.v : law_readbackFact.fn N () = some true := by
  have s1 : readback_Say.fn N ([], clb 9000, 5) = some ([(clb 9000, 5)], 0) := (readback_Say.v hN _ _ _ (by simp)).trans (by kernel_rfl)
  have s2 : readback_Hear.fn N ([(clb 9000, 5)], clb 8000, 6) = some ([], 17) := (readback_Hear.v hN _ _ _ (by simp)).trans (by kernel_rfl)
  have s3 : readback_Hear.fn N ([(clb 9000, 5)], clb 9000, 6) = some ([], 0) := (readback_Hear.v hN _ _ _ (by simp)).trans (by kernel_rfl)
  have s4 : readback_Lapse.fn N ([(clb 9000, 5)], 46) = some ([], [clb 9000], 0) := (readback_Lapse.v hN _ _ (by simp)).trans (by kernel_rfl)
  have s5 : readback_Of.fn N ([(clb 9000, 5)], (⟨#[65, 49]⟩ : ByteArray)) = some ([clb 9000], 0) := (readback_Of.v hN _ _ (by simp)).trans (by kernel_rfl)
  have s6 : readback_Compare.fn N (clb 9000, clb 8000) = some (4, 0) := (readback_Compare.v hN _ _).trans (by kernel_rfl)
  have s7 : readback_Check.fn N ([(clb 9000, 5)] ++ [(clb 9000, 5)]) = some 7 := (readback_Check.v hN _ (by simp)).trans (by kernel_rfl)
  have s8 : slices_Equal_ReadbackOpen.fn N ([(clb 9000, 5)], [(clb 9000, 5)]) = some true := slices_Equal_ReadbackOpen.self hN _ (by simp)
  have s9 : slices_Equal_Clearance.fn N ([clb 9000], [clb 9000]) = some true := slices_Equal_Clearance.self hN _ (by simp)
  have c : ∀ n, law_climbed.fn N n = some (clb n) := fun n => law_climbed.eq N n
  rw [law_readbackFact.eq]
  simp only [c, Option.bind_some, s1, s2, s3, s4, s5, s6, s7, s8, s9]
  rfl

/-! ### the laws -/
theorem ReadbackDiffers.pureN (x0 x1 : Clr) : law_ReadbackDiffers.fn N (x0, x1) = some true := by
  obtain ⟨M, hM⟩ : ∃ M, N = M + 5 := ⟨N - 5, by omega⟩
  have j : ∀ (r2 : Int × Int) (a : Int), law_ReadbackDiffers.j0 N x0 x1 r2 a = _ := fun r2 a => law_ReadbackDiffers.j0_clean N x0 x1 r2 a (M := M + 4) hM
  rw [law_ReadbackDiffers.eq, law_readbackFact.v hN]
  simp only [Option.bind_some, Bool.not_true, cond_false, readback_Compare.v hN, ref_ClearError.v hN, j]
  cases h1 : (clearErr x0 == 0) with
  | false => simp [h1]
  | true =>
    cases h2 : (clearErr x1 == 0) with
    | false => simp [h2]
    | true =>
      simp only [h1, h2, Bool.not_true, cond_false, cond_true]
      subst hM
      have l : ∀ (b1 b2 b3 b4 : Bool) (r : Int × Int), seq x0.1 x1.1 = b1 → (x0.2.1 == x1.2.1) = b2 → (x0.2.2.1 == x1.2.2.1) = b3 → seq x0.2.2.2 x1.2.2.2 = b4 →
          law_ReadbackDiffers.l1 (M + 5) x0 x1 r (M + 5) 0 0 = some ((r.2 == 0) && (r.1 == ((bif !b1 then 1 else 0) + (bif !b2 then 2 else 0) + (bif !b3 then 4 else 0) + (bif !b4 then 8 else 0)))) := by
        intro b1 b2 b3 b4 r e1 e2 e3 e4
        have st : ∀ k a6 a7, law_ReadbackDiffers.l1 (M + 5) x0 x1 r (k + 1) a6 a7 = _ := fun k a6 a7 => law_ReadbackDiffers.l1_clean (M + 5) x0 x1 r k a6 a7
        simp only [e1, e2, e3, e4] at st
        have st0 : ∀ k a6, law_ReadbackDiffers.l1 (M + 5) x0 x1 r (k + 1) a6 0 = bif !b1 then law_ReadbackDiffers.l1 (M + 5) x0 x1 r k (w (a6 + 1)) 1 else law_ReadbackDiffers.l1 (M + 5) x0 x1 r k a6 1 := fun k a6 => st k a6 0
        have st1 : ∀ k a6, law_ReadbackDiffers.l1 (M + 5) x0 x1 r (k + 1) a6 1 = bif !b2 then law_ReadbackDiffers.l1 (M + 5) x0 x1 r k (w (a6 + 2)) 2 else law_ReadbackDiffers.l1 (M + 5) x0 x1 r k a6 2 := fun k a6 => st k a6 1
        have st2 : ∀ k a6, law_ReadbackDiffers.l1 (M + 5) x0 x1 r (k + 1) a6 2 = bif !b3 then law_ReadbackDiffers.l1 (M + 5) x0 x1 r k (w (a6 + 4)) 3 else law_ReadbackDiffers.l1 (M + 5) x0 x1 r k a6 3 := fun k a6 => st k a6 2
        have st3 : ∀ k a6, law_ReadbackDiffers.l1 (M + 5) x0 x1 r (k + 1) a6 3 = bif !b4 then law_ReadbackDiffers.l1 (M + 5) x0 x1 r k (w (a6 + 8)) 4 else law_ReadbackDiffers.l1 (M + 5) x0 x1 r k a6 4 := fun k a6 => st k a6 3
        have st4 : ∀ k a6, law_ReadbackDiffers.l1 (M + 5) x0 x1 r (k + 1) a6 4 = some ((r.2 == 0) && (r.1 == a6)) := fun k a6 => st k a6 4
        clear st
        rw [st0, st1, st2, st3, st4]
        cases b1 <;> cases b2 <;> cases b3 <;> cases b4 <;> simp only [Bool.not_true, Bool.not_false, cond_true, cond_false, st1, st2, st3, st4] <;> rfl
      rw [l _ _ _ _ _ rfl rfl rfl rfl]
      simp
theorem ReadbackSays.pureN (x0 : List Opn) (x1 : Clr) (x2 : Int) (hl : x0.length * 56 ≤ 140737488355328) : law_ReadbackSays.fn N (x0, x1, x2) = some true := by
  obtain ⟨M, hM⟩ : ∃ M, N = M + 1 := ⟨N - 1, by omega⟩
  have hl' : x0.length < 4611686018427387904 := by omega
  have j0 : ∀ (r2 : List Opn × Int) (a : Int), law_ReadbackSays.j0 N x0 x1 x2 r2 a = _ := fun r2 a => law_ReadbackSays.j0_clean N x0 x1 x2 r2 a hM
  have j1 : ∀ (r2 : List Opn × Int) (r8 : List Opn) (a : Int), law_ReadbackSays.j1 N x1 x2 r2 r8 a = _ := fun r2 r8 a => law_ReadbackSays.j1_clean N x1 x2 r2 r8 a hM
  have j2 : ∀ (r2 : List Opn × Int) (r8 : List Opn) (a : Int), law_ReadbackSays.j2 N x1 x2 r2 r8 a = _ := fun r2 r8 a => law_ReadbackSays.j2_clean N x1 x2 r2 r8 a hM
  rw [law_ReadbackSays.eq, law_readbackFact.v hN]
  simp -implicitDefEqProofs only [Option.bind_some, Bool.not_true, cond_false, readback_Say.v hN _ _ _ hl', ref_OpenError.v hN _ hl', readback_Check.v hN _ hl', ref_ClearError.v hN, beq_self_eq_true, j0, ref_TimeError.v hN _ _ hl', ref_OpenAt.v hN _ _ hl', ref_OpenWithout.v hN _ _ hl]
  cases h1 : (openErr x0 == 0) with
  | false => simp -implicitDefEqProofs [h1, j2]
  | true =>
    simp -implicitDefEqProofs only [Bool.not_true, cond_false, cond_true]
    cases h2 : (clearErr x1 == 0) with
    | false => simp -implicitDefEqProofs [h2, j2]
    | true =>
      simp -implicitDefEqProofs only [Bool.not_true, cond_false, cond_true]
      cases h3 : (timeErr x0 x2 == 0) with
      | false => simp -implicitDefEqProofs [h3, j1]
      | true =>
        have hlen := (openErr_ok (beq_iff_eq.1 h1)).1
        have h3 := beq_iff_eq.1 h3
        have hw : (wo (openAt x0 x1) 0 x0).length ≤ 12 := by
          rcases openAt_spec hN x0 x1 with ⟨q1, q2⟩ | ⟨pre, x, r, q1, q2, q3⟩
          · rw [q2]; exact hlen
          · have : x0.length = pre.length + 1 + r.length := by rw [q1]; simp; omega
            rw [q3]; simp; omega
        generalize wo (openAt x0 x1) 0 x0 = ws at hw
        by_cases h4 : ws.length > 11
        · simp -implicitDefEqProofs [h4, j1, show (ws.length : Int) > 11 by omega]
        · have c3 : (decide ((ws.length + 1) * 56 ≤ 140737488355328) && decide ((ws.length + 1) ≤ maxLen)) = true := by rw [Bool.and_eq_true, decide_eq_true_iff, decide_eq_true_iff]; unfold maxLen; omega
          simp -implicitDefEqProofs only [h3, h4, show decide ((ws.length : Int) > 11) = false by rw [decide_eq_false_iff_not]; omega, decide_false, Bool.and_false, cond_false, j1, beq_self_eq_true, Bool.not_true, cond_true, c3, slices_Equal_ReadbackOpen.self hN (ws ++ [(x1, x2)]) (by simp; omega), Option.bind_some]
theorem ReadbackHears.pureN (x0 : List Opn) (x1 : Clr) (x2 : Int) (hl : x0.length * 56 ≤ 140737488355328) : law_ReadbackHears.fn N (x0, x1, x2) = some true := by
  obtain ⟨M, hM⟩ : ∃ M, N = M + 1 := ⟨N - 1, by omega⟩
  have hl' : x0.length < 4611686018427387904 := by omega
  have j0 : ∀ (r2 : List Opn × Int) (a : Int), law_ReadbackHears.j0 N x0 x1 x2 r2 a = _ := fun r2 a => law_ReadbackHears.j0_eq N x0 x1 x2 r2 a hM
  have j1 : ∀ (r2 : List Opn × Int) (r8 : Int) (a : Int), law_ReadbackHears.j1 N x0 r2 r8 a = _ := fun r2 r8 a => law_ReadbackHears.j1_clean N x0 r2 r8 a hM
  have j2 : ∀ (r2 : List Opn × Int) (r8 : Int) (a : Int), law_ReadbackHears.j2 N x0 r2 r8 a = _ := fun r2 r8 a => law_ReadbackHears.j2_clean N x0 r2 r8 a hM
  rw [law_ReadbackHears.eq, law_readbackFact.v hN]
  simp -implicitDefEqProofs only [Option.bind_some, Bool.not_true, cond_false, readback_Hear.v hN _ _ _ hl', ref_OpenError.v hN _ hl', ref_ClearError.v hN, j0, ref_TimeError.v hN _ _ hl', ref_OpenAt.v hN _ _ hl', ref_OpenWithout.v hN _ _ hl]
  cases h1 : (openErr x0 == 0) with
  | false => simp -implicitDefEqProofs [h1, j2]
  | true =>
    simp -implicitDefEqProofs only [Bool.not_true, cond_false, cond_true]
    cases h2 : (clearErr x1 == 0) with
    | false => simp -implicitDefEqProofs [h2, j2]
    | true =>
      simp -implicitDefEqProofs only [Bool.not_true, cond_false, cond_true]
      cases h3 : (timeErr x0 x2 == 0) with
      | false => simp -implicitDefEqProofs [h3, j1]
      | true =>
        obtain ⟨hlen, hsrt, hl0, hl1⟩ := openErr_ok (beq_iff_eq.1 h1)
        have h3 := beq_iff_eq.1 h3
        simp -implicitDefEqProofs only [Bool.not_true, cond_false, cond_true]
        rcases openAt_spec hN x0 x1 with ⟨q1, q2⟩ | ⟨pre, x, r, q1, q2, q3⟩
        · have : hearErr x0 x1 x2 = 8 := by unfold hearErr; rw [q1]; rfl
          rw [this, q1]; simp -implicitDefEqProofs [j1]
        · have hx := hsrt x (by rw [q1]; simp)
          have hg : ∀ d, x0.getD pre.length d = x := fun d => by rw [q1]; exact getD_mid pre x r d
          have hl2 : x0.length = pre.length + 1 + r.length := by rw [q1]; simp; omega
          have hh : hearErr x0 x1 x2 = bif decide (x2 > x.2 + 40) then 21 else bif !(hearErr.eqC x.1 x1) then 17 else 0 := by
            unfold hearErr
            rw [q2, Int.toNat_natCast, hg, show decide ((pre.length : Int) < 0) = false by rw [decide_eq_false_iff_not]; omega, cond_false]
          rw [q3, q2]
          simp -implicitDefEqProofs only [Int.toNat_natCast, hg, show decide ((pre.length : Int) < 0) = false by rw [decide_eq_false_iff_not]; omega, show decide (0 ≤ (pre.length : Int)) = true by rw [decide_eq_true_iff]; omega, show decide ((pre.length : Int) < (x0.length : Int)) = true by rw [decide_eq_true_iff]; omega,
            Bool.and_self, cond_true, cond_false, show w (x.2 + 40) = x.2 + 40 by rw [w_small] <;> omega, hh]
          cases decide (x2 > x.2 + 40) with
          | true => simp -implicitDefEqProofs [j1]
          | false =>
            simp -implicitDefEqProofs only [cond_false]
            unfold hearErr.eqC
            cases ((seq x.1.1 x1.1) && (((x.1.2.1) == x1.2.1) && (((x.1.2.2.1) == x1.2.2.1) && ((seq x.1.2.2.2 x1.2.2.2) && true)))) with
            | false => simp -implicitDefEqProofs [j1]
            | true =>
              have e := ref_OpenWithout.v hN x0 (pre.length : Int) hl
              have e2 := wo_at (x := x) (r := r) pre 0
              rw [Int.zero_add, ← q1] at e2
              rw [e2] at e
              simp -implicitDefEqProofs only [h3, Bool.not_true, cond_false, j1, beq_self_eq_true, cond_true, e, Option.bind_some, slices_Equal_ReadbackOpen.self hN (pre ++ r) (by simp; omega)]
theorem ReadbackLapses.pureN (x0 : List Opn) (x1 : Int) (x2 : ByteArray) (hl : x0.length * 56 ≤ 140737488355328) : law_ReadbackLapses.fn N (x0, x1, x2) = some true := by
  have hl' : x0.length < 4611686018427387904 := by omega
  rw [law_ReadbackLapses.clean, law_readbackFact.v hN]
  simp -implicitDefEqProofs only [Option.bind_some, Bool.not_true, cond_false, readback_Lapse.v hN _ _ hl', readback_Of.v hN _ _ hl', ref_OpenError.v hN _ hl']
  cases h1 : (openErr x0 == 0) with
  | false => simp -implicitDefEqProofs [h1, w_small]
  | true =>
    have he := beq_iff_eq.1 h1
    obtain ⟨hlen, hsrt, hl0, hl1⟩ := openErr_ok he
    simp -implicitDefEqProofs only [he, Bool.not_true, cond_false, beq_self_eq_true]
    generalize hr2 : (bif !(timeErr x0 x1 == 0) then (([] : List Opn), ([] : List Clr), timeErr x0 x1) else ((x0.filter fun x => !decide (x.2 + 40 < x1)), (x0.filter fun x => decide (x.2 + 40 < x1)).map (·.1), (0 : Int))) = r2
    refine (list_loop (l := x0) (fun k (s : List Clr) n => law_ReadbackLapses.l0 N x0 x1 x2 r2 (((x0.filter fun x => seq x.1.1 x2).map (·.1)), 0) k n s) (fun pre r s => some true) (fun pre s => s = ((pre.filter fun x => seq x.1.1 x2).map (·.1))) (fun k s hs => ?_) (fun k pre x r s h hI ih => ?_) N [] (by simp) (by omega))
    · have hfl : (x0.filter fun x => seq x.1.1 x2).length ≤ x0.length := List.length_filter_le _ _
      subst hs
      show law_ReadbackLapses.l0 N x0 x1 x2 r2 _ (k + 1) (x0.length : Int) _ = _
      rw [law_ReadbackLapses.l0_nil, slices_Equal_Clearance.self hN _ (by rw [List.length_map]; omega), ref_TimeError.v hN _ _ hl']
      simp -implicitDefEqProofs only [Option.bind_some, Bool.not_true, cond_false]
      cases h2 : (timeErr x0 x1 == 0) with
      | false => rw [h2] at hr2; subst hr2; simp -implicitDefEqProofs [w_small]
      | true =>
        rw [h2] at hr2
        simp -implicitDefEqProofs only [Bool.not_true, cond_false] at hr2
        simp -implicitDefEqProofs only [Bool.not_true, cond_false]
        have ht : 0 ≤ x1 ∧ x1 ≤ 200000 := by
          have ht := beq_iff_eq.1 h2
          unfold timeErr at ht
          by_cases q1 : x1 < 0
          · simp -implicitDefEqProofs [q1] at ht
          · by_cases q2 : x1 > 200000
            · simp -implicitDefEqProofs [q2] at ht
            · omega
        refine (list_loop (l := x0) (fun k (s : List Opn × List Clr) n => law_ReadbackLapses.l1 N x0 x1 r2 k n s.1 s.2) (fun pre r s => some true) (fun pre s => s = ((pre.filter fun x => !decide (x.2 + 40 < x1)), (pre.filter fun x => decide (x.2 + 40 < x1)).map (·.1))) (fun k s hs => ?_) (fun k pre x r s h hI ih => ?_) N ([], []) (by simp) (by omega))
        · subst hs
          show law_ReadbackLapses.l1 N x0 x1 r2 (k + 1) (x0.length : Int) _ _ = _
          have f1 : (x0.filter fun x => !decide (x.2 + 40 < x1)).length ≤ x0.length := List.length_filter_le _ _
          have f2 : (x0.filter fun x => decide (x.2 + 40 < x1)).length ≤ x0.length := List.length_filter_le _ _
          rw [law_ReadbackLapses.l1_nil]
          subst hr2
          have g1 := slices_Equal_ReadbackOpen.self hN (x0.filter fun x => !decide (x.2 + 40 < x1)) (Nat.lt_of_le_of_lt f1 hl')
          simp -implicitDefEqProofs only [beq_self_eq_true, cond_true, g1, Option.bind_some, Bool.and_self, slices_Equal_Clearance.self hN ((x0.filter fun x => decide (x.2 + 40 < x1)).map (·.1)) (by rw [List.length_map]; omega)]
        · have hl2 : x0.length = pre.length + 1 + r.length := by rw [h]; simp; omega
          have hx := hsrt x (by rw [h]; simp)
          have f1 : (pre.filter fun x => !decide (x.2 + 40 < x1)).length ≤ pre.length := List.length_filter_le _ _
          have f2 : (pre.filter fun x => decide (x.2 + 40 < x1)).length ≤ pre.length := List.length_filter_le _ _
          have b1 : (decide ((s.1.length + 1) * 56 ≤ 140737488355328) && decide ((s.1.length + 1) ≤ maxLen)) = true := by rw [Bool.and_eq_true, decide_eq_true_iff, decide_eq_true_iff]; subst hI; unfold maxLen; simp only; omega
          have b2 : (decide ((s.2.length + 1) * 48 ≤ 140737488355328) && decide ((s.2.length + 1) ≤ maxLen)) = true := by rw [Bool.and_eq_true, decide_eq_true_iff, decide_eq_true_iff]; subst hI; unfold maxLen; simp -implicitDefEqProofs only [List.length_map]; omega
          show law_ReadbackLapses.l1 N x0 x1 r2 (k + 1) (pre.length : Int) s.1 s.2 = _
          rw [law_ReadbackLapses.l1_cons N x0 x1 r2 k _ _ h (by omega)]
          simp -implicitDefEqProofs only [b1, b2, cond_true, show w (x.2 + 40) = x.2 + 40 by rw [w_small] <;> omega]
          cases hd : decide (x.2 + 40 < x1) with
          | true => rw [cond_true]; exact ih (s.1, s.2 ++ [x.1]) (by subst hI; simp -implicitDefEqProofs [hd])
          | false => rw [cond_false]; exact ih (s.1 ++ [x], s.2) (by subst hI; simp -implicitDefEqProofs [hd])
    · have hl2 : x0.length = pre.length + 1 + r.length := by rw [h]; simp; omega
      have f1 : (pre.filter fun x => seq x.1.1 x2).length ≤ pre.length := List.length_filter_le _ _
      have b2 : (decide ((s.length + 1) * 48 ≤ 140737488355328) && decide ((s.length + 1) ≤ maxLen)) = true := by rw [Bool.and_eq_true, decide_eq_true_iff, decide_eq_true_iff]; subst hI; unfold maxLen; simp -implicitDefEqProofs only [List.length_map]; omega
      show law_ReadbackLapses.l0 N x0 x1 x2 r2 _ (k + 1) (pre.length : Int) s = _
      rw [law_ReadbackLapses.l0_cons N x0 x1 x2 r2 _ k _ h (by omega), b2]
      cases hd : seq x.1.1 x2 with
      | true =>
        have e : s ++ [x.1] = ((pre ++ [x]).filter fun x => seq x.1.1 x2).map (·.1) := by subst hI; simp -implicitDefEqProofs [hd]
        have := ih (s ++ [x.1]) e
        simp -implicitDefEqProofs only [cond_true]; exact this
      | false =>
        have e : s = ((pre ++ [x]).filter fun x => seq x.1.1 x2).map (·.1) := by subst hI; simp -implicitDefEqProofs [hd]
        have := ih s e
        simp -implicitDefEqProofs only [cond_true, cond_false]; exact this
end
theorem bytesO : Tryd.prog.bytesOf 40 = 56 := by kernel_rfl
theorem opn_len {l : List Opn} (h : Wf Tryd.prog (.sl 40 (.pair (.pair (.str) (.pair (.int .i64) (.pair (.int .i64) (.str)))) (.int .i64))) l) : l.length * 56 ≤ 140737488355328 := by
  have := h.1
  rw [bytesO] at this
  simp -implicitDefEqProofs [reachBytes] at this
  omega
theorem ReadbackDiffers.pure (x0 x1 : Clr) (h0 : Wf Tryd.prog (.pair (.str) (.pair (.int .i64) (.pair (.int .i64) (.str)))) x0) (h1 : Wf Tryd.prog (.pair (.str) (.pair (.int .i64) (.pair (.int .i64) (.str)))) x1) : law_ReadbackDiffers.fn NN (x0, x1) = some true := ReadbackDiffers.pureN NN_big x0 x1
theorem ReadbackSays.pure (x0 : List Opn) (x1 : Clr) (x2 : Int) (h0 : Wf Tryd.prog (.sl 40 (.pair (.pair (.str) (.pair (.int .i64) (.pair (.int .i64) (.str)))) (.int .i64))) x0) (h1 : Wf Tryd.prog (.pair (.str) (.pair (.int .i64) (.pair (.int .i64) (.str)))) x1) (h2 : Wf Tryd.prog (.int .i64) x2) : law_ReadbackSays.fn NN (x0, x1, x2) = some true := ReadbackSays.pureN NN_big x0 x1 x2 (opn_len h0)
theorem ReadbackHears.pure (x0 : List Opn) (x1 : Clr) (x2 : Int) (h0 : Wf Tryd.prog (.sl 40 (.pair (.pair (.str) (.pair (.int .i64) (.pair (.int .i64) (.str)))) (.int .i64))) x0) (h1 : Wf Tryd.prog (.pair (.str) (.pair (.int .i64) (.pair (.int .i64) (.str)))) x1) (h2 : Wf Tryd.prog (.int .i64) x2) : law_ReadbackHears.fn NN (x0, x1, x2) = some true := ReadbackHears.pureN NN_big x0 x1 x2 (opn_len h0)
theorem ReadbackLapses.pure (x0 : List Opn) (x1 : Int) (x2 : ByteArray) (h0 : Wf Tryd.prog (.sl 40 (.pair (.pair (.str) (.pair (.int .i64) (.pair (.int .i64) (.str)))) (.int .i64))) x0) (h1 : Wf Tryd.prog (.int .i64) x1) (h2 : Wf Tryd.prog .str x2) : law_ReadbackLapses.fn NN (x0, x1, x2) = some true := ReadbackLapses.pureN NN_big x0 x1 x2 (opn_len h0)
end Go.Proofs.YtcmcacophbbagaaDoor.Sk
