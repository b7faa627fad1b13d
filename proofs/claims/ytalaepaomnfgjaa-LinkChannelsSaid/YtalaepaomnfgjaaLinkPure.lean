/- The laws LinkSends, LinkHears, plain: what the printed functions answer. -/
import Derived.Test.YtalaepaomnfgjaaLinkEq
import Derived.Test.YtalaepaomnfgjaaSkAid
set_option linter.unusedVariables false
set_option linter.unusedSimpArgs false
namespace Go.Proofs.Ytalaepaomnfgjaa.Sk
open Go

abbrev Sender := Int × List ByteArray
def long (t : ByteArray) : Bool := decide ((t.size : Int) > 120)
def sendErr (s : Sender) : Int := bif decide ((s.2.length : Int) > 32) then 2 else bif decide (s.1 < 1) || decide (s.1 > 100000 - s.2.length) then 4 else bif s.2.any long then 2 else 0
theorem sendErr_ok {s : Sender} (h : sendErr s = 0) : s.2.length ≤ 32 ∧ 1 ≤ s.1 ∧ s.1 + s.2.length ≤ 100000 := by
  unfold sendErr at h
  by_cases h1 : (s.2.length : Int) > 32
  · simp [h1] at h
  · simp only [h1, decide_false, cond_false] at h
    cases h2 : (decide (s.1 < 1) || decide (s.1 > 100000 - s.2.length)) with
    | true => rw [h2] at h; cases h
    | false =>
      simp only [Bool.or_eq_false_iff, decide_eq_false_iff_not] at h2
      omega
theorem F51.v {N : Nat} (hN : 4611686018427387904 ≤ N) (s : Sender) (hl : s.2.length < 4611686018427387904) : F51.fn N s = some (sendErr s) := by
  rw [F51.clean]
  unfold sendErr
  by_cases h1 : (s.2.length : Int) > 32
  · simp [h1]
  simp only [h1, decide_false, cond_false]
  rw [w_small (100000 - (s.2.length : Int)) (by omega) (by omega)]
  cases h2 : (decide (s.1 < 1) || decide (s.1 > 100000 - s.2.length)) with
  | true => rfl
  | false =>
    simp only [cond_false]
    rw [scan_list (l := s.2) long (some (2 : Int)) (some 0) (fun k i => F51.l0 N s k i) (fun k => by rw [F51.l0_succ]; simp) (fun k pre x r h => by
      have h1 : (pre.length : Int) < s.2.length := by rw [h]; simp; omega
      rw [F51.l0_succ, w_next h hl]
      simp only [h1, decide_true, cond_true, show decide (0 ≤ (pre.length : Int)) = true by simp, Bool.true_and, Int.toNat_natCast, show s.2.getD pre.length ⟨#[]⟩ = x by rw [h]; exact getD_mid pre x r _]
      rfl) N (by omega)]
    cases s.2.any long <;> rfl
theorem F50.v {N : Nat} (hN : 4611686018427387904 ≤ N) (s : Sender) (hl : s.2.length < 4611686018427387904) (hs : -9223372036854775808 ≤ s.1) : F50.fn N s = some (sendErr s) := by
  rw [F50.clean]
  unfold sendErr
  by_cases h1 : (s.2.length : Int) > 32
  · simp [h1]
  simp only [h1, decide_false, cond_false]
  have e : ((decide (s.1 < 1) || decide (s.1 > 100000)) || decide (w (s.1 + (s.2.length : Int)) > 100000)) = (decide (s.1 < 1) || decide (s.1 > 100000 - s.2.length)) := by
    by_cases h2 : s.1 < 1
    · simp [h2]
    · by_cases h3 : s.1 > 100000
      · simp [h2, h3, show s.1 > 100000 - s.2.length by omega, show 100000 - (s.2.length : Int) < s.1 by omega]
      · rw [w_small _ (by omega) (by omega), Bool.eq_iff_iff]
        simp [h2, h3]
        omega
  rw [e]
  cases h2 : (decide (s.1 < 1) || decide (s.1 > 100000 - s.2.length)) with
  | true => rfl
  | false =>
    simp only [cond_false]
    rw [scan_list (l := s.2) long (some (2 : Int)) (some 0) (fun k i => F50.l0 N s k i) (fun k => by rw [F50.l0_succ]; simp) (fun k pre x r h => by
      have h1 : (pre.length : Int) < s.2.length := by rw [h]; simp; omega
      rw [F50.l0_succ, w_next h hl]
      simp only [h1, decide_true, cond_true, show decide (0 ≤ (pre.length : Int)) = true by simp, Bool.true_and, Int.toNat_natCast, show s.2.getD pre.length ⟨#[]⟩ = x by rw [h]; exact getD_mid pre x r _]
      rfl) N (by omega)]
    cases s.2.any long <;> rfl
theorem F53.v {N : Nat} (hN : 4611686018427387904 ≤ N) {l : List ByteArray} (h : l.length * 16 ≤ 140737488355328) : F53.fn N l = some l := by
  rw [F53.eq]
  have e : (decide ((0 + l.length) * 16 ≤ 140737488355328) && decide ((0 + l.length) ≤ maxLen)) = true := by simp [maxLen]; omega
  rw [e]
  simp only [cond_true]
  cases l with
  | nil => simp [agree_self]
  | cons a r => simp
theorem F48.v {N : Nat} (hN : 4611686018427387904 ≤ N) (s : Sender) (t : ByteArray) (hl : s.2.length < 4611686018427387904) : F48.fn N (s, t) = some (bif !(sendErr s == 0) then ((0, []), sendErr s) else bif long t then ((0, []), 2) else
    bif ((s.2.length : Int) == 32) || (s.1 + s.2.length == 100000) then ((0, []), 9) else ((s.1, s.2 ++ [t]), 0)) := by
  rw [F48.clean, F51.v hN s hl, Option.bind_some]
  by_cases he : sendErr s = 0
  · obtain ⟨h1, h2, h3⟩ := sendErr_ok he
    rw [w_small (s.1 + s.2.length) (by omega) (by omega), F53.v hN (by omega), Option.bind_some]
    have e : (decide ((s.2.length + 1) * 16 ≤ 140737488355328) && decide ((s.2.length + 1) ≤ maxLen)) = true := by simp [maxLen]; omega
    rw [e]
    simp only [he, beq_self_eq_true, Bool.not_true, cond_false, cond_true]
    unfold long
    cases decide ((t.size : Int) > 120) with
    | true => rfl
    | false => cases (((s.2.length : Int) == 32) || (s.1 + s.2.length == 100000)) <;> rfl
  · have he' : (sendErr s == 0) = false := by simpa using he
    simp [he']

def frames : Int → List ByteArray → List (Int × ByteArray)
  | _, [] => []
  | b, t :: r => (b, t) :: frames (b + 1) r
theorem frames_app : ∀ (a b : List ByteArray) (n : Int), frames n (a ++ b) = frames n a ++ frames (n + a.length) b
  | [], b, n => by simp [frames]
  | t :: a, b, n => by
    simp only [List.cons_append, frames, frames_app a b, List.length_cons]
    rw [show n + 1 + (a.length : Int) = n + ((a.length + 1 : Nat) : Int) by omega]
theorem frames_len : ∀ (a : List ByteArray) (n : Int), (frames n a).length = a.length
  | [], _ => rfl
  | t :: a, n => by simp [frames, frames_len a]
theorem frames_get : ∀ (a : List ByteArray) (n : Int) (i : Nat) (x : Int × ByteArray), (frames n a)[i]? = some x → a[i]? = some x.2 ∧ x.1 = n + i
  | [], n, i, x, h => by simp [frames] at h
  | t :: a, n, 0, x, h => by simp [frames] at h; subst h; simp
  | t :: a, n, i + 1, x, h => by
    simp [frames] at h
    have := frames_get a (n + 1) i x h
    simp; exact ⟨this.1, by omega⟩
def firsts (s : Sender) : List ByteArray := List.take (Int.toNat (if 4 < (s.2.length : Int) then 4 else (s.2.length : Int))) s.2
theorem firsts_len (s : Sender) : ((firsts s).length : Int) = if (s.2.length : Int) < 4 then (s.2.length : Int) else 4 := by
  unfold firsts
  rw [List.length_take]
  split <;> split <;> omega
theorem F49.v {N : Nat} (hN : 4611686018427387904 ≤ N) (s : Sender) (hl : s.2.length < 4611686018427387904) : F49.fn N s = some (bif !(sendErr s == 0) then ([], sendErr s) else (frames s.1 (firsts s), 0)) := by
  rw [F49.eq, F51.v hN s hl, Option.bind_some]
  by_cases he : sendErr s = 0
  · obtain ⟨h1, h2, h3⟩ := sendErr_ok he
    simp only [he, beq_self_eq_true, Bool.not_true, cond_false]
    have hfl := firsts_len s
    have e : (decide (0 ≤ (if 4 < (s.2.length : Int) then 4 else (s.2.length : Int))) && decide ((if 4 < (s.2.length : Int) then 4 else (s.2.length : Int)) ≤ (s.2.length : Int))) = true := by
      rw [Bool.and_eq_true, decide_eq_true_eq, decide_eq_true_eq]; split <;> omega
    rw [e, cond_true]
    refine list_loop (l := firsts s) (fun k (acc : List (Int × ByteArray)) i => F49.l0 N s k i acc) (fun _ _ _ => some (frames s.1 (firsts s), 0)) (fun pre acc => acc = frames s.1 pre) (fun k acc h => ?_) (fun k pre x r acc h hI ih => ?_) N [] rfl (by split at hfl <;> omega)
    · rw [F49.l0_succ]
      change (bif decide (((firsts s).length : Int) < ((firsts s).length : Int)) then _ else _) = _
      simp [h]
    · have hlen : (firsts s).length = pre.length + 1 + r.length := by rw [h]; simp; omega
      have hb : pre.length < 4 := by split at hfl <;> omega
      subst hI
      rw [F49.l0_succ]
      change (bif decide ((pre.length : Int) < ((firsts s).length : Int)) then bif decide (0 ≤ (pre.length : Int)) && decide ((pre.length : Int) < ((firsts s).length : Int)) then
        bif decide (((frames s.1 pre).length + 1) * 24 ≤ 140737488355328) && decide ((frames s.1 pre).length + 1 ≤ maxLen) then
          F49.l0 N s k (w ((pre.length : Int) + 1)) (frames s.1 pre ++ [(w (s.1 + pre.length), (firsts s).getD (Int.toNat pre.length) ⟨#[]⟩)]) else none else none else _) = _
      have e2 : (decide (((frames s.1 pre).length + 1) * 24 ≤ 140737488355328) && decide ((frames s.1 pre).length + 1 ≤ maxLen)) = true := by rw [frames_len]; simp [maxLen]; omega
      rw [e2, w_small ((pre.length : Int) + 1) (by omega) (by omega), w_small (s.1 + pre.length) (by omega) (by omega)]
      simp only [show decide ((pre.length : Int) < ((firsts s).length : Int)) = true by simp; omega, show decide (0 ≤ (pre.length : Int)) = true by simp, Bool.true_and, cond_true, Int.toNat_natCast, show (firsts s).getD pre.length ⟨#[]⟩ = x by rw [h]; exact getD_mid pre x r _]
      exact ih _ (by rw [frames_app]; rfl)
  · have he' : (sendErr s == 0) = false := by simpa using he
    simp [he']
def heardK (s : Sender) (n : Int) : Int := if 0 > n - s.1 then 0 else n - s.1
theorem F54.v {N : Nat} (hN : 4611686018427387904 ≤ N) (s : Sender) (n : Int) (hl : s.2.length < 4611686018427387904) : F54.fn N (s, n) = some (bif !(sendErr s == 0) then ((0, []), sendErr s) else bif decide (n < 1) || decide (n > s.1 + s.2.length) then ((0, []), 4) else
    ((s.1 + heardK s n, s.2.drop (heardK s n).toNat), 0)) := by
  rw [F54.clean, F51.v hN s hl, Option.bind_some]
  by_cases he : sendErr s = 0
  · obtain ⟨h1, h2, h3⟩ := sendErr_ok he
    simp only [he, beq_self_eq_true, Bool.not_true, cond_false]
    rw [w_small (s.1 + s.2.length) (by omega) (by omega)]
    cases hc : (decide (n < 1) || decide (n > s.1 + s.2.length)) with
    | true => rfl
    | false =>
      simp only [Bool.or_eq_false_iff, decide_eq_false_iff_not] at hc
      rw [w_small (n - s.1) (by omega) (by omega)]
      change (bif decide (0 ≤ heardK s n) && decide (heardK s n ≤ (s.2.length : Int)) then (F53.fn N (List.drop (heardK s n).toNat s.2)).bind (fun r2 => some ((w (s.1 + heardK s n), r2), 0)) else none) = some ((s.1 + heardK s n, s.2.drop (heardK s n).toNat), 0)
      have hk : 0 ≤ heardK s n ∧ heardK s n ≤ s.2.length := by unfold heardK; split <;> omega
      rw [w_small (s.1 + heardK s n) (by omega) (by omega), F53.v hN (by simp; omega)]
      simp [hk]
  · have he' : (sendErr s == 0) = false := by simpa using he
    simp [he']
theorem F52.v {N : Nat} (hN : 4611686018427387904 ≤ N) {a b : List ByteArray} (hl : a.length < 4611686018427387904) : F52.fn N (a, b) = some (eqL seq a b) :=
  equal_list hN (fun p q : ByteArray => seq p q) ⟨#[]⟩ hl (fun k i => F52.l0 N a b k i) (F52.eq N a b) (fun k i => F52.l0_succ N a b k i)
theorem F72.v {N : Nat} (hN : 4611686018427387904 ≤ N) {a b : List (Int × ByteArray)} (hl : a.length < 4611686018427387904) : F72.fn N (a, b) = some (eqL (fun p q => (p.1 == q.1) && (seq p.2 q.2 && true)) a b) :=
  equal_list hN (fun p q : Int × ByteArray => (p.1 == q.1) && (seq p.2 q.2 && true)) (0, ⟨#[]⟩) hl (fun k i => F72.l0 N a b k i) (F72.eq N a b) (fun k i => F72.l0_succ N a b k i)

theorem F47.t {N : Nat} (hN : 4611686018427387904 ≤ N) : F47.fn N () = some true := by
  rw [F47.clean]
  simp only [F71.eq, Option.bind_some]
  rw [F48.v hN _ _ (by decide +kernel), show (bif !(sendErr ((1, []) : Sender) == 0) then (((0 : Int), ([] : List ByteArray)), sendErr (1, [])) else bif long ⟨#[97]⟩ then ((0, []), 2) else bif ((((1, []) : Sender).2.length : Int) == 32) || (((1, []) : Sender).1 + (((1, []) : Sender).2.length : Int) == 100000) then ((0, []), 9) else
    ((((1, []) : Sender).1, ((1, []) : Sender).2 ++ [⟨#[97]⟩]), 0)) = ((1, [⟨#[97]⟩]), 0) from by kernel_rfl]
  simp only [Option.bind_some]
  rw [F48.v hN _ _ (by decide +kernel), F51.v hN _ (by decide +kernel)]
  rw [show (bif !(sendErr ((1, [⟨#[97]⟩]) : Sender) == 0) then (((0 : Int), ([] : List ByteArray)), sendErr (1, [⟨#[97]⟩])) else bif long ⟨#[98]⟩ then ((0, []), 2) else bif ((((1, [⟨#[97]⟩]) : Sender).2.length : Int) == 32) || (((1, [⟨#[97]⟩]) : Sender).1 + (((1, [⟨#[97]⟩]) : Sender).2.length : Int) == 100000) then ((0, []), 9) else
    ((((1, [⟨#[97]⟩]) : Sender).1, ((1, [⟨#[97]⟩]) : Sender).2 ++ [⟨#[98]⟩]), 0)) = ((1, [⟨#[97]⟩, ⟨#[98]⟩]), 0) from by kernel_rfl]
  simp only [Option.bind_some]
  rw [F49.v hN _ (by decide +kernel), F54.v hN _ _ (by decide +kernel), F55.clean]
  simp only [Option.bind_some]
  rw [show (bif !(sendErr ((1, [⟨#[97]⟩, ⟨#[98]⟩]) : Sender) == 0) then (([] : List (Int × ByteArray)), sendErr (1, [⟨#[97]⟩, ⟨#[98]⟩])) else (frames 1 (firsts (1, [⟨#[97]⟩, ⟨#[98]⟩])), 0)) = ([(1, ⟨#[97]⟩), (2, ⟨#[98]⟩)], 0) from by kernel_rfl]
  rw [F72.v hN (by decide +kernel), F52.v hN (by decide +kernel)]
  kernel_rfl

theorem LinkSends.pureN {N : Nat} (hN : 4611686018427387904 ≤ N) (x0 : Sender) (x1 : ByteArray) (h0 : Wf Try.prog (.pair (.int .i64) (.sl 9 .str)) x0) (h1 : Wf Try.prog .str x1) : F11.fn N (x0, x1) = some true := by
  obtain ⟨M, hM⟩ : ∃ M, N = M + 1 := ⟨N - 1, by omega⟩
  have hr := wf_sl_len h0.2 (by decide +kernel)
  have hl : x0.2.length < 4611686018427387904 := by simp [reachBytes] at hr; omega
  have hi := wf_int h0.1
  have j : ∀ (r2 : (Int × List ByteArray) × Int) (a : Int), F11.j1 N x0 x1 r2 a = _ := fun r2 a => F11.j1_clean N x0 x1 r2 a hM
  rw [F11.clean, F47.t hN]
  simp only [Option.bind_some, Bool.not_true, cond_false, F48.v hN x0 x1 hl, F49.v hN x0 hl, F50.v hN x0 hl hi.1, F51.v hN x0 hl, beq_self_eq_true, Bool.false_or]
  by_cases he : sendErr x0 = 0
  · obtain ⟨h1, h2, h3⟩ := sendErr_ok he
    have hfl := firsts_len x0
    simp only [he, beq_self_eq_true, Bool.not_true, cond_false]
    have loop : ∀ r2, F11.l0 N x0 x1 r2 (frames x0.1 (firsts x0), 0) 0 N 0 = bif long x1 then F11.j1 N x0 x1 r2 2 else F11.j1 N x0 x1 r2 0 := by
      intro r2
      refine list_loop0 (l := frames x0.1 (firsts x0)) (fun k i => F11.l0 N x0 x1 r2 (frames x0.1 (firsts x0), 0) 0 k i) (fun _ => bif long x1 then F11.j1 N x0 x1 r2 2 else F11.j1 N x0 x1 r2 0) (fun k => ?_) (fun k pre x r h ih => ?_) N (by rw [frames_len]; split at hfl <;> omega)
      · rw [F11.l0_clean]
        simp only [Int.lt_irrefl, decide_false, cond_false, frames_len, hfl, beq_self_eq_true, Bool.not_true, Bool.and_false, Bool.true_and]
        rfl
      · have hlen : (firsts x0).length = pre.length + 1 + r.length := by rw [← frames_len _ x0.1, h]; simp; omega
        have hb : pre.length < 4 := by split at hfl <;> omega
        have hb2 : pre.length < x0.2.length := by split at hfl <;> omega
        have hx := frames_get (firsts x0) x0.1 pre.length x (by rw [h]; simp)
        have hx2 : x0.2.getD pre.length ⟨#[]⟩ = x.2 := by
          have := hx.1
          unfold firsts at this
          rw [List.getElem?_take] at this
          rw [if_pos (by split <;> omega)] at this
          simp [List.getD, this]
        rw [F11.l0_clean, w_small ((pre.length : Int) + 1) (by omega) (by omega), w_small (x0.1 + pre.length) (by omega) (by omega)]
        simp only [Int.toNat_natCast, frames_len, show (frames x0.1 (firsts x0)).getD pre.length (0, ⟨#[]⟩) = x by rw [h]; exact getD_mid pre x r _, hx2, hx.2, seq_self]
        simp only [show decide ((pre.length : Int) < ((firsts x0).length : Int)) = true by simp; omega, show decide (0 ≤ (pre.length : Int)) = true by simp, show decide (pre.length < (firsts x0).length) = true by simp; omega, show decide ((pre.length : Int) < (x0.2.length : Int)) = true by simp; omega,
          show decide ((pre.length : Int) > 3) = false by simp; omega, show decide ((pre.length : Int) ≥ (x0.2.length : Int)) = false by simp; omega, beq_self_eq_true, Bool.not_true, Bool.or_self, Bool.true_and, Bool.true_or, cond_true, cond_false]
        exact ih
    rw [loop]
    simp only [j, F53.v hN (l := x0.2) (by omega), Option.bind_some, w_small (x0.1 + x0.2.length) (by omega) (by omega)]
    have e : (decide ((x0.2.length + 1) * 16 ≤ 140737488355328) && decide ((x0.2.length + 1) ≤ maxLen)) = true := by simp [maxLen]; omega
    cases hlg : long x1 with
    | true => simp
    | false =>
      cases hf : (((x0.2.length : Int) == 32) || (x0.1 + x0.2.length == 100000)) with
      | true => simp [hf]
      | false =>
        simp only [hf, e, cond_false, cond_true, beq_self_eq_true, Bool.and_false, Bool.not_true, Bool.and_self]
        rw [F52.v hN (by simp; omega)]
        simp [eqL_self seq_iff]
  · have he' : (sendErr x0 == 0) = false := by simpa using he
    simp only [he', Bool.not_false, cond_true]
    rw [hM, F11.l0_clean, ← hM]
    simp [he', j]

theorem LinkSends.pure (x0 : Sender) (x1 : ByteArray) (h0 : Wf Try.prog (.pair (.int .i64) (.sl 9 .str)) x0) (h1 : Wf Try.prog .str x1) : F11.fn NN (x0, x1) = some true := LinkSends.pureN NN_big x0 x1 h0 h1

theorem LinkHears.pureN {N : Nat} (hN : 4611686018427387904 ≤ N) (x0 : Sender) (x1 : Int) (x2 : Int × ByteArray) (h0 : Wf Try.prog (.pair (.int .i64) (.sl 9 .str)) x0) (h1 : Wf Try.prog (.int .i64) x1) (h2 : Wf Try.prog (.pair (.int .i64) .str) x2) : F12.fn N (x0, x1, x2) = some true := by
  obtain ⟨M, hM⟩ : ∃ M, N = M + 1 := ⟨N - 1, by omega⟩
  have hr := wf_sl_len h0.2 (by decide +kernel)
  have hl : x0.2.length < 4611686018427387904 := by simp [reachBytes] at hr; omega
  have hi := wf_int h0.1
  have j0 : ∀ (r2 : (Int × List ByteArray) × Int) (r3 : Int × Bool × Int) (a : Int), F12.j0 N x0 x1 x2 r2 r3 a = _ := fun r2 r3 a => F12.j0_clean N x0 x1 x2 r2 r3 a hM
  have j1 : ∀ (r2 : (Int × List ByteArray) × Int) (a : Int), F12.j1 N x0 x1 r2 a = _ := fun r2 a => F12.j1_clean N x0 x1 r2 a hM
  -- the second half
  have half : ∀ r3 : Int × Bool × Int, ∀ a : Int, (((!(r3.2.2 == a)) || ((!(a == 0)) && ((!(r3.1 == 0)) || r3.2.1))) || ((a == 0) && (((!(r3.2.1 == (x2.1 == x1))) || (r3.2.1 && (!(r3.1 == (w (x1 + 1)))))) || ((!r3.2.1) && (!(r3.1 == x1)))))) = false →
      F12.j0 N x0 x1 x2 (bif !(sendErr x0 == 0) then ((0, []), sendErr x0) else bif decide (x1 < 1) || decide (x1 > x0.1 + x0.2.length) then ((0, []), 4) else ((x0.1 + heardK x0 x1, x0.2.drop (heardK x0 x1).toNat), 0)) r3 a = some true := by
    intro r3 a ha
    rw [j0, ha, cond_false, F50.v hN x0 hl hi.1, Option.bind_some]
    by_cases he : sendErr x0 = 0
    · obtain ⟨h1, h2, h3⟩ := sendErr_ok he
      rw [w_small (x0.1 + x0.2.length) (by omega) (by omega)]
      cases hc : (decide (x1 < 1) || decide (x1 > x0.1 + x0.2.length)) with
      | true => simp [he, hc, j1]
      | false =>
        simp only [he, hc, beq_self_eq_true, Bool.true_and, cond_false, Bool.not_true, j1]
        simp only [Bool.or_eq_false_iff, decide_eq_false_iff_not] at hc
        have hm : (if x1 > x0.1 then x1 else x0.1) = x0.1 + heardK x0 x1 := by unfold heardK; split <;> split <;> omega
        have hk : 0 ≤ heardK x0 x1 ∧ heardK x0 x1 ≤ x0.2.length := by unfold heardK; split <;> omega
        rw [hm, w_small (x0.1 + heardK x0 x1 - x0.1) (by omega) (by omega), show x0.1 + heardK x0 x1 - x0.1 = heardK x0 x1 by omega, F52.v hN (by simp; omega)]
        simp [hk, eqL_self seq_iff]
    · have he' : (sendErr x0 == 0) = false := by simpa using he
      simp [he', j1]
  rw [F12.clean, F47.t hN]
  simp only [Option.bind_some, Bool.not_true, cond_false, F54.v hN x0 x1 hl, F55.clean]
  have e1 : (((decide (x1 < 1) || decide (x1 ≥ 100000)) || decide (x2.1 < 1)) || decide (x2.1 ≥ 100000)) = (((decide (x1 < 1) || decide (x1 > 99999)) || decide (x2.1 < 1)) || decide (x2.1 > 99999)) := by
    rw [Bool.eq_iff_iff]; simp; omega
  rw [e1]
  cases hc : (((decide (x1 < 1) || decide (x1 > 99999)) || decide (x2.1 < 1)) || decide (x2.1 > 99999)) with
  | true => exact half _ _ (by simp)
  | false =>
    simp only [cond_false]
    by_cases hlg : (x2.2.size : Int) > 120
    · simp only [hlg, decide_true, cond_true, Option.bind_some]
      exact half _ _ (by simp)
    · simp only [hlg, decide_false, cond_false]
      cases heq : (x2.1 == x1) with
      | true =>
        simp only [Bool.not_true, cond_false, Option.bind_some]
        exact half _ _ (by simp only [heq, beq_self_eq_true, Bool.not_true, Bool.not_false, Bool.false_or, Bool.or_false, Bool.and_false, Bool.and_true, Bool.true_and, Bool.false_and, Bool.or_self, Bool.and_self])
      | false =>
        simp only [Bool.not_false, cond_true, Option.bind_some]
        exact half _ _ (by simp only [heq, beq_self_eq_true, Bool.not_true, Bool.not_false, Bool.false_or, Bool.or_false, Bool.and_false, Bool.and_true, Bool.true_and, Bool.false_and, Bool.or_self, Bool.and_self])
theorem LinkHears.pure (x0 : Sender) (x1 : Int) (x2 : Int × ByteArray) (h0 : Wf Try.prog (.pair (.int .i64) (.sl 9 .str)) x0) (h1 : Wf Try.prog (.int .i64) x1) (h2 : Wf Try.prog (.pair (.int .i64) .str) x2) : F12.fn NN (x0, x1, x2) = some true := LinkHears.pureN NN_big x0 x1 x2 h0 h1 h2
end Go.Proofs.Ytalaepaomnfgjaa.Sk
