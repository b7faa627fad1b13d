/- Sector*, Load*: plain laws. -/
import Derived.Test.YtjojikhfmlceoaaLoadEq
set_option linter.unusedVariables false
set_option linter.unusedSimpArgs false
namespace Go.Proofs.Ytjojikhfmlceoaa.Sk
open Go

abbrev Pt := Int × Int
abbrev Vol := List Pt × Int × Int
abbrev Sec := ByteArray × List Vol
abbrev Nd := (Int × Pt × Int) × Int × Int

theorem bchk {α : Type} {b : Bool} {f : Option α} (h : b = true) : (bif b then f else none) = f := by rw [h]; rfl
/-! ### points -/
def ptE (p : Pt) : Int := bif (((decide (p.1 < (-1000000))) || (decide (p.1 > 1000000))) || (decide (p.2 < (-1000000)))) || (decide (p.2 > 1000000)) then 4 else 0
theorem ptE_v (N : Nat) (p : Pt) : plane_Check.fn N p = some (ptE p) := by
  rw [plane_Check.clean]; unfold ptE
  generalize ((((decide (p.1 < (-1000000))) || (decide (p.1 > 1000000))) || (decide (p.2 < (-1000000)))) || (decide (p.2 > 1000000))) = b
  cases b <;> rfl
def subP (a b : Pt) : Pt := ((w (a.1 - b.1)), (w (a.2 - b.2)))
def crossP (a b : Pt) : Int := w ((w (a.1 * b.2)) - (w (a.2 * b.1)))
def turn (a b c : Pt) : Int := bif decide (crossP (subP b a) (subP c a) > 0) then 1 else bif decide (crossP (subP b a) (subP c a) < 0) then (-1) else 0
theorem cross_v (N : Nat) (a b : Pt) : plane_Cross.fn N (a, b) = some (crossP a b) := plane_Cross.eq N a b
theorem turn_v (N : Nat) (a b c : Pt) : plane_Turn.fn N (a, b, c) = some (turn a b c) := by
  rw [plane_Turn.eq, plane_Sub.eq, plane_Sub.eq]
  simp -implicitDefEqProofs only [Option.bind_some]
  rw [cross_v]
  simp -implicitDefEqProofs only [Option.bind_some]
  unfold turn subP
  generalize crossP (w (b.1 - a.1), w (b.2 - a.2)) (w (c.1 - a.1), w (c.2 - a.2)) = n
  cases decide (n > 0) <;> cases decide (n < 0) <;> rfl
def onP (a b p : Pt) : Bool := decide (w ((w ((subP a p).1 * (subP b p).1)) + (w ((subP a p).2 * (subP b p).2))) ≤ 0)
theorem on_v (N : Nat) (a b p : Pt) : polygon_on.fn N (a, b, p) = some (onP a b p) := by
  rw [polygon_on.eq, plane_Sub.eq, plane_Sub.eq]
  simp -implicitDefEqProofs only [Option.bind_some]
  rw [plane_Dot.eq]
  rfl
def com (a b c d : Pt) : Bool := ((decide ((w (turn a b c * turn a b d)) < 0)) && (decide ((w (turn c d a * turn c d b)) < 0))) || (((((turn a b c == 0) && onP a b c) || ((turn a b d == 0) && onP a b d)) || ((turn c d a == 0) && onP c d a)) || ((turn c d b == 0) && onP c d b))
theorem com_v (N : Nat) (a b c d : Pt) : polygon_Common.fn N (a, b, c, d) = some (com a b c d) := by
  rw [polygon_Common.clean, turn_v, turn_v, turn_v, turn_v]
  simp -implicitDefEqProofs only [Option.bind_some, on_v]
  unfold com
  generalize ((decide ((w (turn a b c * turn a b d)) < 0)) && (decide ((w (turn c d a * turn c d b)) < 0))) = b0
  generalize (turn a b c == 0) = b1
  generalize (turn a b d == 0) = b2
  generalize (turn c d a == 0) = b3
  generalize (turn c d b == 0) = b4
  generalize onP a b c = o1
  generalize onP a b d = o2
  generalize onP c d a = o3
  generalize onP c d b = o4
  cases b0
  · cases b1 <;> cases o1 <;> cases b2 <;> cases o2 <;> cases b3 <;> cases o3 <;> cases b4 <;> cases o4 <;> rfl
  · rfl
def crs (a b c d : Pt) : Bool := (decide ((w (turn a b c * turn a b d)) < 0)) && (decide ((w (turn c d a * turn c d b)) < 0))
theorem crs_v (N : Nat) (a b c d : Pt) : polygon_crosses.fn N (a, b, c, d) = some (crs a b c d) := by
  rw [polygon_crosses.clean, turn_v, turn_v]
  simp -implicitDefEqProofs only [Option.bind_some, turn_v]
  unfold crs
  cases decide ((w (turn a b c * turn a b d)) < 0) <;> rfl

/-! ### places around -/
def prv (p : List Pt) (i : Nat) : Pt := List.getD p (Int.toNat (Int.tmod (w ((w ((i : Int) + (p.length : Int))) - 1)) (p.length : Int))) (0, 0)
def nxt (p : List Pt) (i : Nat) : Pt := List.getD p (Int.toNat (Int.tmod ((i : Int) + 1) (p.length : Int))) (0, 0)
theorem mod_ok {m : Int} {n : Nat} (h : 0 ≤ m) (hn : 0 < n) : (((n : Int) != 0) = true) ∧ ((decide (0 ≤ Int.tmod m n)) && (decide (Int.tmod m n < (n : Int)))) = true := by
  refine ⟨by simp; omega, ?_⟩
  rw [Bool.and_eq_true, decide_eq_true_iff, decide_eq_true_iff]
  exact ⟨Int.tmod_nonneg _ h, Int.tmod_lt_of_pos _ (by omega)⟩
theorem prv_ok {i n : Nat} (h : i < n) (hn : n < 4611686018427387904) : 0 ≤ w ((w ((i : Int) + (n : Int))) - 1) := by
  rw [w_small ((i : Int) + n) (by omega) (by omega), w_small _ (by omega) (by omega)]; omega
theorem mid_lt {X : Type} {l pre r : List X} {x : X} (h : l = pre ++ x :: r) : pre.length < l.length := by rw [h]; simp
theorem mid_get {X : Type} {l pre r : List X} {x d : X} (h : l = pre ++ x :: r) : l.getD pre.length d = x := by rw [h]; exact getD_mid pre x r d
theorem mid_drop {X : Type} {l pre r : List X} {x : X} (h : l = pre ++ x :: r) : l.drop (pre.length + 1) = r := by rw [h, ← List.drop_drop]; simp
theorem mid_take {X : Type} {l pre r : List X} {x : X} (h : l = pre ++ x :: r) : l.take pre.length = pre := by rw [h]; simp

/-! ### a polygon's check -/
def firstE {X : Type} (f : X → Int) : List X → Int
  | [] => 0
  | x :: r => bif !(f x == 0) then f x else firstE f r
theorem firstE_cons {X : Type} (f : X → Int) (x : X) (r : List X) : firstE f (x :: r) = bif !(f x == 0) then f x else firstE f r := rfl
def comBad (p : List Pt) (i : Nat) : Nat → List Pt → Bool
  | _, [] => false
  | k, x :: r => ((!((Int.tmod ((k : Int) + 1) (p.length : Int)) == (i : Int))) && com (List.getD p i (0, 0)) (List.getD p (i + 1) (0, 0)) x (nxt p k)) || comBad p i (k + 1) r
def nx2 (p : List Pt) (i : Nat) : Pt := List.getD p (Int.toNat (Int.tmod (w ((i : Int) + 2)) (p.length : Int))) (0, 0)
def polyBad (p : List Pt) : Nat → List Pt → Bool
  | _, [] => false
  | i, x :: r => (turn x (nxt p i) (nx2 p i) == 0) || (comBad p i (i + 2) (p.drop (i + 2)) || polyBad p (i + 1) r)
def dbl (p : List Pt) : Nat → Int → List Pt → Int
  | _, a, [] => a
  | i, a, x :: r => dbl p (i + 1) (w (a + crossP x (nxt p i))) r
theorem dbl_v {N : Nat} (hN : 4611686018427387904 ≤ N) {p : List Pt} (hp : p.length < 4611686018427387904) : polygon_double.fn N p = some (dbl p 0 0 p) := by
  rw [polygon_double.eq]
  refine list_loop (l := p) (fun k s i => polygon_double.l0 N p k s i) (fun pre r s => some (dbl p pre.length s r)) (fun _ _ => True) (fun k s _ => polygon_double.l0_nil N p k s) (fun k pre x r s hl _ ih => ?_) N 0 trivial (by omega)
  have h1 := mid_lt hl
  have h2 := mod_ok (m := (pre.length : Int) + 1) (n := p.length) (by omega) (by omega)
  show polygon_double.l0 N p (k + 1) s (pre.length : Int) = _
  rw [polygon_double.l0_cons N p k s hl hp, bchk h2.1, bchk h2.2, cross_v, Option.bind_some, ih _ trivial]
  simp [dbl, nxt]
def polyE (p : List Pt) : Int :=
  bif decide ((p.length : Int) > 16) then 2 else bif decide ((p.length : Int) < 3) then 3 else bif !(firstE ptE p == 0) then firstE ptE p else bif polyBad p 0 p then 3 else bif decide (dbl p 0 0 p ≤ 0) then 3 else 0
theorem l2_v {N : Nat} {p : List Pt} (hp : p.length < 4611686018427387904) (k4 : Nat) {i : Nat} (hi : i < p.length) : ∀ (r pre : List Pt) (k : Nat), p = pre ++ r → i + 2 ≤ pre.length → r.length < k →
    polygon_Check.l2 N p k4 (i : Int) k (pre.length : Int) = bif comBad p i pre.length r then some 3 else polygon_Check.l1 N p k4 ((i : Int) + 1)
  | [], pre, k, hl, h2, hk => by
    obtain ⟨k, rfl⟩ : ∃ k', k = k' + 1 := ⟨k - 1, by simp at hk; omega⟩
    rw [List.append_nil] at hl
    subst hl
    rw [polygon_Check.l2_nil, w_small _ (by omega) (by omega)]
    rfl
  | x :: r, pre, k, hl, h2, hk => by
    obtain ⟨k, rfl⟩ : ∃ k', k = k' + 1 := ⟨k - 1, by omega⟩
    have h1 := mid_lt hl
    have h3 := mod_ok (m := (pre.length : Int) + 1) (n := p.length) (by omega) (by omega)
    have h4 : w ((i : Int) + 1) = ((i + 1 : Nat) : Int) := by rw [w_small _ (by omega) (by omega)]; rfl
    have ih := l2_v (N := N) hp k4 hi r (pre ++ [x]) k (by simp [hl]) (by simp; omega) (by simp at hk; omega)
    rw [List.length_append, List.length_singleton] at ih
    rw [polygon_Check.l2_cons N p k4 i k hl hp, bchk h3.1, h4]
    have c1 : ((decide (0 ≤ (i : Int))) && (decide ((i : Int) < (p.length : Int)))) = true := by simp; omega
    have c2 : ((decide (0 ≤ ((i + 1 : Nat) : Int))) && (decide (((i + 1 : Nat) : Int) < (p.length : Int)))) = true := by simp; omega
    rw [c1, c2, h3.1, h3.2]
    simp -implicitDefEqProofs only [Bool.true_or, cond_true, com_v, Int.toNat_natCast]
    have ih' : polygon_Check.l2 N p k4 (i : Int) k ((pre.length : Int) + 1) = bif comBad p i (pre.length + 1) r then some 3 else polygon_Check.l1 N p k4 ((i : Int) + 1) := ih
    rw [ih']
    show _ = bif ((!((Int.tmod ((pre.length : Int) + 1) (p.length : Int)) == (i : Int))) && com (List.getD p i (0, 0)) (List.getD p (i + 1) (0, 0)) x (nxt p pre.length)) || comBad p i (pre.length + 1) r then _ else _
    unfold nxt
    generalize ((Int.tmod ((pre.length : Int) + 1) (p.length : Int)) == (i : Int)) = b
    generalize com _ _ _ _ = b2
    generalize comBad p i (pre.length + 1) r = b3
    cases b <;> cases b2 <;> cases b3 <;> rfl
theorem l2_start {N : Nat} (hN : 4611686018427387904 ≤ N) {p : List Pt} (hp : p.length < 4611686018427387904) (k4 : Nat) {i : Nat} (hi : i < p.length) :
    polygon_Check.l2 N p k4 (i : Int) N (w ((i : Int) + 2)) = bif comBad p i (i + 2) (p.drop (i + 2)) then some 3 else polygon_Check.l1 N p k4 ((i : Int) + 1) := by
  have hw : w ((i : Int) + 2) = ((i + 2 : Nat) : Int) := by rw [w_small _ (by omega) (by omega)]; rfl
  rw [hw]
  by_cases h : i + 2 ≤ p.length
  · have e : (p.take (i + 2)).length = i + 2 := by simp; omega
    have := l2_v (N := N) hp k4 hi (p.drop (i + 2)) (p.take (i + 2)) N (by rw [List.take_append_drop]) (by omega) (by simp; omega)
    rw [e] at this
    exact this
  · rw [List.drop_eq_nil_of_le (by omega)]
    obtain ⟨M, rfl⟩ : ∃ M, N = M + 1 := ⟨N - 1, by omega⟩
    rw [polygon_Check.l2_clean, show decide (((i + 2 : Nat) : Int) < (p.length : Int)) = false by rw [decide_eq_false_iff_not]; omega, cond_false, w_small _ (by omega) (by omega)]
    rfl
theorem polyE_v {N : Nat} (hN : 4611686018427387904 ≤ N) (p : List Pt) : polygon_Check.fn N p = some (polyE p) := by
  rw [polygon_Check.eq]
  unfold polyE
  cases h1 : decide ((p.length : Int) > 16) with
  | true => rfl
  | false =>
    cases h2 : decide ((p.length : Int) < 3) with
    | true => rfl
    | false =>
      simp only [decide_eq_false_iff_not] at h1 h2
      have hp : p.length < 4611686018427387904 := by omega
      rw [cond_false, cond_false, cond_false, cond_false]
      have k1 : polygon_Check.l1 N p N 0 = some (bif polyBad p 0 p then 3 else bif decide (dbl p 0 0 p ≤ 0) then 3 else 0) := by
        refine list_loop (σ := Unit) (l := p) (fun k _ i => polygon_Check.l1 N p k i) (fun pre r _ => some (bif polyBad p pre.length r then 3 else bif decide (dbl p 0 0 p ≤ 0) then 3 else 0)) (fun _ _ => True) (fun k _ _ => ?_) (fun k pre x r _ hl _ ih => ?_) N () trivial (by omega)
        · show polygon_Check.l1 N p (k + 1) (p.length : Int) = _
          rw [polygon_Check.l1_nil, dbl_v hN hp, Option.bind_some]
          cases decide (dbl p 0 0 p ≤ 0) <;> rfl
        · have q1 := mid_lt hl
          have q2 := mod_ok (m := (pre.length : Int) + 1) (n := p.length) (by omega) (by omega)
          have q3 := mod_ok (m := w ((pre.length : Int) + 2)) (n := p.length) (by rw [w_small _ (by omega) (by omega)]; omega) (by omega)
          have ih : polygon_Check.l1 N p k ((pre.length : Int) + 1) = some (bif polyBad p (pre ++ [x]).length r then 3 else bif decide (dbl p 0 0 p ≤ 0) then 3 else 0) := ih () trivial
          show polygon_Check.l1 N p (k + 1) (pre.length : Int) = some (bif (turn x (nxt p pre.length) (nx2 p pre.length) == 0) || (comBad p pre.length (pre.length + 2) (p.drop (pre.length + 2)) || polyBad p (pre.length + 1) r) then 3 else bif decide (dbl p 0 0 p ≤ 0) then 3 else 0)
          rw [polygon_Check.l1_cons N p k hl hp, bchk q2.1, bchk q2.2, bchk q2.1, bchk q3.2, turn_v, Option.bind_some, l2_start hN hp k q1, ih, List.length_append, List.length_singleton]
          unfold nxt nx2
          cases (turn x _ _ == 0) <;> cases comBad p pre.length (pre.length + 2) (p.drop (pre.length + 2)) <;> rfl
      refine list_loop0 (l := p) (fun k i => polygon_Check.l0 N p k i) (fun r => some (bif !(firstE ptE r == 0) then firstE ptE r else bif polyBad p 0 p then 3 else bif decide (dbl p 0 0 p ≤ 0) then 3 else 0)) (fun k => ?_) (fun k pre x r hl ih => ?_) N (by omega)
      · show polygon_Check.l0 N p (k + 1) (p.length : Int) = _
        rw [polygon_Check.l0_nil, k1]; rfl
      · show polygon_Check.l0 N p (k + 1) (pre.length : Int) = _
        have ih : polygon_Check.l0 N p k ((pre.length : Int) + 1) = _ := ih
        rw [polygon_Check.l0_cons N p k hl hp, ptE_v, Option.bind_some, ih]
        rw [firstE_cons]
        cases h : (ptE x == 0)
        · simp only [Bool.not_false, cond_true, h]
        · simp only [Bool.not_true, cond_false]
/-! ### where a point lies -/
def locF (p : List Pt) (q : Pt) : Nat → Int → List Pt → Int
  | _, a, [] => a
  | i, a, b :: r => bif (turn (prv p i) b q == 0) && onP (prv p i) b q then 0 else
      locF p q (i + 1) (bif (((decide ((prv p i).2 ≤ q.2)) && (decide (q.2 < b.2))) && (decide (turn (prv p i) b q > 0))) || (((decide (b.2 ≤ q.2)) && (decide (q.2 < (prv p i).2))) && (decide (turn (prv p i) b q < 0))) then w (-a) else a) r
def loc (p : List Pt) (q : Pt) : Int := locF p q 0 (-1) p
theorem loc_v {N : Nat} (hN : 4611686018427387904 ≤ N) {p : List Pt} (hp : p.length < 4611686018427387904) (q : Pt) : polygon_locate.fn N (p, q) = some (loc p q) := by
  rw [polygon_locate.eq]
  refine list_loop (l := p) (fun k s i => polygon_locate.l0 N p q k s i) (fun pre r s => some (locF p q pre.length s r)) (fun _ _ => True) (fun k s _ => polygon_locate.l0_nil N p q k s) (fun k pre x r s hl _ ih => ?_) N (-1) trivial (by omega)
  have h1 := mid_lt hl
  have h2 := mod_ok (n := p.length) (prv_ok h1 hp) (by omega)
  have ih' : ∀ s', polygon_locate.l0 N p q k s' ((pre.length : Int) + 1) = some (locF p q (pre.length + 1) s' r) := fun s' => by have := ih s' trivial; rw [List.length_append, List.length_singleton] at this; exact this
  show polygon_locate.l0 N p q (k + 1) s (pre.length : Int) = some (bif (turn (prv p pre.length) x q == 0) && onP (prv p pre.length) x q then 0 else _)
  rw [polygon_locate.l0_cons N p q k s hl hp, bchk h2.1, bchk h2.2, turn_v, Option.bind_some, on_v]
  simp -implicitDefEqProofs only [ih']
  unfold prv
  generalize List.getD p _ _ = a
  generalize (turn a x q == 0) = b1
  generalize onP a x q = b2
  generalize ((((decide (a.2 ≤ q.2)) && (decide (q.2 < x.2))) && (decide (turn a x q > 0))) || (((decide (x.2 ≤ q.2)) && (decide (q.2 < a.2))) && (decide (turn a x q < 0)))) = b3
  cases b1 <;> cases b2 <;> cases b3 <;> rfl

/-! ### an edge inside -/
def sca (by_ : Int) (v : Pt) : Pt := ((w (by_ * v.1)), (w (by_ * v.2)))
theorem sca_v {N : Nat} (hN : 4611686018427387904 ≤ N) {p : List Pt} (hp : p.length * 16 ≤ 140737488355328) (m : Int) : polygon_scaled.fn N (p, m) = some (p.map (sca m)) := by
  rw [polygon_scaled.eq]
  have := list_loop (l := p) (fun k (s : List Pt) i => polygon_scaled.l0 N p m k i s) (fun pre r s => some (s ++ r.map (sca m))) (fun pre s => s.length = pre.length) (fun k s _ => by rw [polygon_scaled.l0_nil]; simp)
    (fun k pre x r s hl hI ih => by
      have h1 := mid_lt hl
      have c : (decide ((s.length + 1) * 16 ≤ 140737488355328) && decide ((s.length + 1) ≤ maxLen)) = true := by rw [Bool.and_eq_true, decide_eq_true_iff, decide_eq_true_iff]; unfold maxLen; omega
      rw [polygon_scaled.l0_cons N p m k s hl (by omega), bchk c, ih _ (by simp [hI])]
      simp [sca]) N [] rfl (by omega)
  simpa using this
def inRow (a5 : List Pt) (t : List Pt) (u : Pt) : List Pt → Bool
  | [] => false
  | v :: r => ((!((u.1 == v.1) && ((u.2 == v.2) && true))) && decide (loc t ((w (u.1 + v.1)), (w (u.2 + v.2))) > 0)) || inRow a5 t u r
def inAll (a5 : List Pt) (t : List Pt) : Nat → List Pt → Bool
  | _, [] => false
  | i, u :: r => inRow a5 t u (a5.take i) || inAll a5 t (i + 1) r
def cuts (a b : Pt) (p : List Pt) : List Pt := [a, b] ++ p.filter fun v => (turn a b v == 0) && onP a b v
def piece (a b : Pt) (p : List Pt) : Bool := ((decide (loc p a > 0)) || (decide (loc p b > 0))) || inAll (cuts a b p) (p.map (sca 2)) 0 (cuts a b p)
theorem p2_v {N : Nat} (hN : 4611686018427387904 ≤ N) {a5 t : List Pt} (h5 : a5.length < 4611686018427387904) (ht : t.length < 4611686018427387904) (k9 : Nat) {i : Nat} (hi : i < a5.length) {u : Pt} (hu : List.getD a5 i (0, 0) = u) :
    polygon_pieceInside.l2 N a5 t k9 (i : Int) N 0 = bif inRow a5 t u (a5.take i) then some true else polygon_pieceInside.l1 N a5 t k9 ((i : Int) + 1) := by
  have hlen : (a5.take i).length = i := by simp; omega
  refine list_loop0 (l := a5.take i) (fun k j => polygon_pieceInside.l2 N a5 t k9 (i : Int) k j) (fun r => bif inRow a5 t u r then some true else polygon_pieceInside.l1 N a5 t k9 ((i : Int) + 1)) (fun k => ?_) (fun k pre x r hl ih => ?_) N (by omega)
  · show polygon_pieceInside.l2 N a5 t k9 (i : Int) (k + 1) ((a5.take i).length : Int) = _
    rw [hlen, polygon_pieceInside.l2_clean, Int.toNat_natCast, show decide ((i : Int) < (i : Int)) = false by simp, cond_false, w_small _ (by omega) (by omega)]
    rfl
  · have h1 := mid_lt hl
    have hx : List.getD a5 pre.length (0, 0) = x := by
      have := mid_get (d := ((0, 0) : Pt)) hl
      rw [← this, List.getD_eq_getElem?_getD, List.getD_eq_getElem?_getD, List.getElem?_take_of_lt (by omega)]
    have ih : polygon_pieceInside.l2 N a5 t k9 (i : Int) k ((pre.length : Int) + 1) = _ := ih
    show polygon_pieceInside.l2 N a5 t k9 (i : Int) (k + 1) (pre.length : Int) = bif ((!((u.1 == x.1) && ((u.2 == x.2) && true))) && decide (loc t ((w (u.1 + x.1)), (w (u.2 + x.2))) > 0)) || inRow a5 t u r then _ else _
    rw [polygon_pieceInside.l2_clean, Int.toNat_natCast, Int.toNat_natCast, Nat.zero_add, hx, hu]
    have c1 : decide ((pre.length : Int) < (i : Int)) = true := by rw [decide_eq_true_iff]; omega
    have c2 : decide ((0 : Int) ≤ (pre.length : Int)) = true := by rw [decide_eq_true_iff]; omega
    have c3 : decide (pre.length < a5.length) = true := by rw [decide_eq_true_iff]; omega
    rw [w_small ((pre.length : Int) + 1) (by omega) (by omega), ih]
    simp -implicitDefEqProofs only [c1, c2, c3, Bool.and_self, cond_true, plane_Add.eq]
    generalize ((u.1 == x.1) && ((u.2 == x.2) && true)) = b
    cases b
    · simp -implicitDefEqProofs only [Bool.not_false, cond_true, Option.bind_some, loc_v hN ht, Bool.true_and]
      generalize decide (loc t (w (u.1 + x.1), w (u.2 + x.2)) > 0) = b2
      cases b2 <;> rfl
    · rfl
theorem p1_v {N : Nat} (hN : 4611686018427387904 ≤ N) {a5 t : List Pt} (h5 : a5.length < 4611686018427387904) (ht : t.length < 4611686018427387904) : polygon_pieceInside.l1 N a5 t N 0 = some (inAll a5 t 0 a5) := by
  refine list_loop (σ := Unit) (l := a5) (fun k _ i => polygon_pieceInside.l1 N a5 t k i) (fun pre r _ => some (inAll a5 t pre.length r)) (fun _ _ => True) (fun k _ _ => polygon_pieceInside.l1_nil N a5 t k) (fun k pre x r _ hl _ ih => ?_) N () trivial (by omega)
  have h1 := mid_lt hl
  have ih : polygon_pieceInside.l1 N a5 t k ((pre.length : Int) + 1) = some (inAll a5 t (pre ++ [x]).length r) := ih () trivial
  show polygon_pieceInside.l1 N a5 t (k + 1) (pre.length : Int) = some (inRow a5 t x (a5.take pre.length) || inAll a5 t (pre.length + 1) r)
  rw [List.length_append, List.length_singleton] at ih
  rw [polygon_pieceInside.l1_cons N a5 t k hl h5, bchk (by rw [decide_eq_true_iff]; exact h1), bchk (by rw [decide_eq_true_iff]; omega), p2_v hN h5 ht k h1 (mid_get hl), ih]
  cases inRow a5 t x (a5.take pre.length) <;> rfl
theorem piece_v {N : Nat} (hN : 4611686018427387904 ≤ N) {p : List Pt} (hp : p.length ≤ 16) (a b : Pt) : polygon_pieceInside.fn N (a, b, p) = some (piece a b p) := by
  have hp' : p.length < 4611686018427387904 := by omega
  rw [polygon_pieceInside.clean, loc_v hN hp', Option.bind_some, loc_v hN hp']
  have k0 : polygon_pieceInside.l0 N a b p N 0 [a, b] = some (inAll (cuts a b p) (p.map (sca 2)) 0 (cuts a b p)) := by
    refine list_loop (l := p) (fun k (s : List Pt) i => polygon_pieceInside.l0 N a b p k i s)
      (fun pre r s => some (inAll (s ++ r.filter fun v => (turn a b v == 0) && onP a b v) (p.map (sca 2)) 0 (s ++ r.filter fun v => (turn a b v == 0) && onP a b v))) (fun pre s => s.length ≤ pre.length + 2) (fun k s hI => ?_) (fun k pre x r s hl hI ih => ?_) N [a, b] (by simp) (by omega)
    · show polygon_pieceInside.l0 N a b p (k + 1) (p.length : Int) s = _
      rw [polygon_pieceInside.l0_nil, sca_v hN (by omega), Option.bind_some, p1_v hN (by omega) (by simp; omega)]
      simp
    · have h1 := mid_lt hl
      show polygon_pieceInside.l0 N a b p (k + 1) (pre.length : Int) s = _
      have c : (decide ((s.length + 1) * 16 ≤ 140737488355328) && decide ((s.length + 1) ≤ maxLen)) = true := by rw [Bool.and_eq_true, decide_eq_true_iff, decide_eq_true_iff]; unfold maxLen; omega
      rw [polygon_pieceInside.l0_cons N a b p k s hl hp', turn_v, Option.bind_some, on_v, bchk c]
      have i1 := ih (s ++ [x]) (by simp; omega)
      have i2 := ih s (by simp; omega)
      cases h2 : (turn a b x == 0)
      · simp only [cond_false, Option.bind_some, Bool.false_and]
        rw [i2, List.filter_cons_of_neg (by simp [h2])]
      · cases h3 : onP a b x
        · simp only [cond_true, Option.bind_some, Bool.true_and, cond_false]
          rw [i2, List.filter_cons_of_neg (by simp [h2, h3])]
        · simp only [cond_true, Option.bind_some, Bool.true_and]
          rw [i1, List.filter_cons_of_pos (by simp [h2, h3]), List.append_assoc]
          rfl
  rw [k0]
  unfold piece
  cases decide (loc p a > 0)
  · simp only [Bool.not_false, cond_true, Option.bind_some, Bool.false_or]
    cases decide (loc p b > 0) <;> rfl
  · rfl
/-! ### the same polygon -/
def eqP (a b : Pt) : Bool := (a.1 == b.1) && ((a.2 == b.2) && true)
theorem eqP_iff (a b : Pt) : eqP a b = true ↔ a = b := by
  unfold eqP
  simp only [Bool.and_true, Bool.and_eq_true, beq_iff_eq]
  exact ⟨fun h => Prod.ext h.1 h.2, fun h => by rw [h]; exact ⟨rfl, rfl⟩⟩
def rot (q : List Pt) (k : Nat) (i : Nat) : Pt := List.getD q (Int.toNat (Int.tmod (w ((k : Int) + (i : Int))) (q.length : Int))) (0, 0)
def rotAll (q : List Pt) (k : Nat) : Nat → List Pt → Bool
  | _, [] => true
  | i, x :: r => bif !eqP x (rot q k i) then false else rotAll q k (i + 1) r
def sameF (p q : List Pt) : Nat → List Pt → Bool
  | _, [] => false
  | k, x :: r => bif eqP x (List.getD p 0 (0, 0)) then rotAll q k 0 p else sameF p q (k + 1) r
def same (p q : List Pt) : Bool := bif !((p.length : Int) == (q.length : Int)) then false else sameF p q 0 q
theorem same_v {N : Nat} (hN : 4611686018427387904 ≤ N) {p q : List Pt} (hp : p.length < 4611686018427387904) (h0 : 0 < p.length) : polygon_same.fn N (p, q) = some (same p q) := by
  rw [polygon_same.eq]
  unfold same
  cases hlen : ((p.length : Int) == (q.length : Int)) with
  | false => rfl
  | true =>
    have hlen : p.length = q.length := by have := beq_iff_eq.1 hlen; omega
    simp only [Bool.not_true, cond_false]
    refine list_loop (σ := Unit) (l := q) (fun k _ i => polygon_same.l0 N p q k i) (fun pre r _ => some (sameF p q pre.length r)) (fun _ _ => True) (fun k _ _ => polygon_same.l0_nil N p q k) (fun k pre x r _ hl _ ih => ?_) N () trivial (by omega)
    have h1 := mid_lt hl
    have ih : polygon_same.l0 N p q k ((pre.length : Int) + 1) = some (sameF p q (pre ++ [x]).length r) := ih () trivial
    rw [List.length_append, List.length_singleton] at ih
    show polygon_same.l0 N p q (k + 1) (pre.length : Int) = some (bif eqP x (List.getD p 0 (0, 0)) then rotAll q pre.length 0 p else sameF p q (pre.length + 1) r)
    rw [polygon_same.l0_cons N p q k hl (by omega), bchk (by rw [decide_eq_true_iff]; omega), ih]
    have k1 : polygon_same.l1 N p q k (pre.length : Int) N 0 = some (rotAll q pre.length 0 p) := by
      refine list_loop (σ := Unit) (l := p) (fun k' _ i => polygon_same.l1 N p q k (pre.length : Int) k' i) (fun pr r _ => some (rotAll q pre.length pr.length r)) (fun _ _ => True) (fun k' _ _ => polygon_same.l1_nil N p q k _ k') (fun k' pr y s _ hl' _ ih' => ?_) N () trivial (by omega)
      have g1 := mid_lt hl'
      have g2 := mod_ok (m := w ((pre.length : Int) + (pr.length : Int))) (n := q.length) (by rw [w_small _ (by omega) (by omega)]; omega) (by omega)
      have ih' : polygon_same.l1 N p q k (pre.length : Int) k' ((pr.length : Int) + 1) = some (rotAll q pre.length (pr ++ [y]).length s) := ih' () trivial
      rw [List.length_append, List.length_singleton] at ih'
      show polygon_same.l1 N p q k (pre.length : Int) (k' + 1) (pr.length : Int) = some (bif !eqP y (rot q pre.length pr.length) then false else rotAll q pre.length (pr.length + 1) s)
      rw [polygon_same.l1_cons N p q k _ k' hl' hp, bchk g2.1, bchk g2.2, ih']
      unfold rot
      show (bif !eqP y (List.getD q _ (0, 0)) then _ else _) = _
      cases eqP y (List.getD q (Int.toNat (Int.tmod (w ((pre.length : Int) + (pr.length : Int))) (q.length : Int))) (0, 0)) <;> rfl
    rw [k1]
    show (bif eqP x (List.getD p 0 (0, 0)) then _ else _) = _
    cases eqP x (List.getD p 0 (0, 0)) <;> rfl
theorem rot_eq {q : List Pt} {k i : Nat} (hk : k < q.length) (hi : i < q.length) (hq : q.length < 4611686018427387904) : rot q k i = List.getD q ((k + i) % q.length) (0, 0) := by
  unfold rot
  rw [w_small _ (by omega) (by omega)]
  have : Int.tmod ((k : Int) + (i : Int)) (q.length : Int) = (((k + i) % q.length : Nat) : Int) := by
    rw [Int.tmod_eq_emod_of_nonneg (by omega)]
    push_cast
    rfl
  rw [this, Int.toNat_natCast]
theorem rotAll_iff (q : List Pt) (k : Nat) (p : List Pt) : ∀ (r pre : List Pt), p = pre ++ r → (rotAll q k pre.length r = true ↔ ∀ i, pre.length ≤ i → i < p.length → List.getD p i (0, 0) = rot q k i)
  | [], pre, hl => by
    rw [List.append_nil] at hl
    subst hl
    exact ⟨fun _ i h1 h2 => by omega, fun _ => rfl⟩
  | x :: r, pre, hl => by
    have ih := rotAll_iff q k p r (pre ++ [x]) (by simp [hl])
    rw [List.length_append, List.length_singleton] at ih
    have h1 := mid_lt hl
    have hx : List.getD p pre.length (0, 0) = x := mid_get hl
    show (bif !eqP x (rot q k pre.length) then false else rotAll q k (pre.length + 1) r) = true ↔ _
    cases he : eqP x (rot q k pre.length) with
    | true =>
      simp only [Bool.not_true, cond_false]
      rw [ih]
      have he := (eqP_iff _ _).1 he
      refine ⟨fun h i h2 h3 => ?_, fun h i h2 h3 => h i (by omega) h3⟩
      by_cases e : i = pre.length
      · subst e; rw [hx]; exact he
      · exact h i (by omega) h3
    | false =>
      simp only [Bool.not_false, cond_true]
      refine ⟨fun h => (nomatch h), fun h => ?_⟩
      have := h pre.length (by omega) h1
      rw [hx] at this
      rw [(eqP_iff _ _).2 this] at he
      cases he
/-- Vertices that are all different. -/
def Apt (p : List Pt) : Prop := ∀ i j, i < j → j < p.length → List.getD p i ((0, 0) : Pt) ≠ List.getD p j (0, 0)
theorem sameF_iff {p q : List Pt} (hq : Apt q) (h0 : 0 < p.length) (hlen : p.length = q.length) (hb : q.length < 4611686018427387904) : ∀ (r pre : List Pt), q = pre ++ r → (sameF p q pre.length r = true ↔ ∃ k, pre.length ≤ k ∧ k < q.length ∧ ∀ i, i < p.length → List.getD p i (0, 0) = rot q k i)
  | [], pre, hl => by
    rw [List.append_nil] at hl
    subst hl
    exact ⟨fun h => (nomatch h), fun ⟨k, h1, h2, _⟩ => by omega⟩
  | x :: r, pre, hl => by
    have ih := sameF_iff hq h0 hlen hb r (pre ++ [x]) (by simp [hl])
    rw [List.length_append, List.length_singleton] at ih
    have h1 := mid_lt hl
    have hx : List.getD q pre.length (0, 0) = x := mid_get hl
    have hr := rotAll_iff q pre.length p p [] rfl
    have hz : ∀ k, k < q.length → rot q k 0 = List.getD q k (0, 0) := fun k hk => by rw [rot_eq hk (by omega) hb, Nat.add_zero, Nat.mod_eq_of_lt hk]
    show (bif eqP x (List.getD p 0 (0, 0)) then rotAll q pre.length 0 p else sameF p q (pre.length + 1) r) = true ↔ _
    cases he : eqP x (List.getD p 0 (0, 0)) with
    | true =>
      have he := (eqP_iff _ _).1 he
      simp only [cond_true]
      rw [show (0 : Nat) = ([] : List Pt).length from rfl, hr]
      refine ⟨fun h => ⟨pre.length, Nat.le_refl _, h1, fun i hi => h i (Nat.zero_le _) hi⟩, fun ⟨k, k1, k2, k3⟩ i _ hi => ?_⟩
      have := k3 0 h0
      rw [hz k k2, ← he, ← hx] at this
      have hk : k = pre.length := by
        rcases Nat.lt_or_ge pre.length k with h | h
        · exact absurd this (hq _ _ h k2)
        · omega
      subst hk
      exact k3 i hi
    | false =>
      simp only [cond_false]
      rw [ih]
      refine ⟨fun ⟨k, k1, k2, k3⟩ => ⟨k, by omega, k2, k3⟩, fun ⟨k, k1, k2, k3⟩ => ⟨k, ?_, k2, k3⟩⟩
      by_cases e : k = pre.length
      · subst e
        have := k3 0 h0
        rw [hz _ k2, hx] at this
        rw [(eqP_iff _ _).2 this.symm] at he
        cases he
      · omega
theorem same_comm {p q : List Pt} (hp : Apt p) (hq : Apt q) (h0 : 0 < p.length) (h1 : 0 < q.length) (hb : p.length < 4611686018427387904) : same p q = same q p := by
  unfold same
  by_cases hlen : p.length = q.length
  · have e1 : ((p.length : Int) == (q.length : Int)) = true := by simp; omega
    have e2 : ((q.length : Int) == (p.length : Int)) = true := by simp; omega
    rw [e1, e2]
    simp only [Bool.not_true, cond_false]
    have dir : ∀ {p q : List Pt}, Apt p → Apt q → 0 < p.length → p.length = q.length → q.length < 4611686018427387904 → sameF p q 0 q = true → sameF q p 0 p = true := by
      intro p q hp hq h0 hlen hb h
      obtain ⟨k, _, k2, k3⟩ := (sameF_iff hq h0 hlen hb q [] rfl).1 h
      refine (sameF_iff hp (by omega) hlen.symm (by omega) p [] rfl).2 ⟨(q.length - k) % q.length, Nat.zero_le _, by rw [hlen]; exact Nat.mod_lt _ (by omega), fun j hj => ?_⟩
      have hk' : (q.length - k) % q.length < p.length := by rw [hlen]; exact Nat.mod_lt _ (by omega)
      rw [rot_eq hk' (by omega) (by omega)]
      have hi : ((q.length - k) % q.length + j) % p.length < p.length := Nat.mod_lt _ h0
      rw [k3 _ hi, rot_eq k2 (by omega) hb, hlen]
      congr 1
      by_cases e : k = 0
      · subst e
        rw [Nat.sub_zero, Nat.mod_self, Nat.zero_add, Nat.zero_add, Nat.mod_mod, Nat.mod_eq_of_lt hj]
      · rw [Nat.mod_eq_of_lt (show q.length - k < q.length by omega)]
        by_cases e2 : q.length - k + j < q.length
        · rw [Nat.mod_eq_of_lt e2, show k + (q.length - k + j) = j + q.length by omega, Nat.add_mod_right, Nat.mod_eq_of_lt hj]
        · have e3 : (q.length - k + j) % q.length = j - k := by
            rw [show q.length - k + j = (j - k) + q.length by omega, Nat.add_mod_right]
            exact Nat.mod_eq_of_lt (by omega)
          rw [e3, show k + (j - k) = j by omega, Nat.mod_eq_of_lt hj]
    cases ha : sameF p q 0 q <;> cases hc : sameF q p 0 p
    · rfl
    · have := dir hq hp h1 hlen.symm hb hc; rw [ha] at this; cases this
    · have := dir hp hq h0 hlen (by omega) ha; rw [hc] at this; cases this
    · rfl
  · have e1 : ((p.length : Int) == (q.length : Int)) = false := by simp; omega
    have e2 : ((q.length : Int) == (p.length : Int)) = false := by simp; omega
    rw [e1, e2]
    rfl
/-! ### two polygons -/
def crsRow (a b : Pt) (q : List Pt) : Nat → List Pt → Bool
  | _, [] => false
  | k, x :: r => crs a b (prv q k) x || crsRow a b q (k + 1) r
def edg (p q : List Pt) : Nat → List Pt → Bool
  | _, [] => false
  | i, b :: r => (crsRow (prv p i) b q 0 q || piece (prv p i) b q) || edg p q (i + 1) r
def ovl (p q : List Pt) : Bool := (edg p q 0 p || edg q p 0 q) || same p q
theorem o1_v {N : Nat} (hN : 4611686018427387904 ≤ N) {p q : List Pt} (hp : p.length ≤ 16) (hq : q.length ≤ 16) (k3 : Nat) {i : Nat} (hi : i < p.length) {b : Pt} (hb : List.getD p i (0, 0) = b) :
    polygon_Overlap.l1 N p q k3 (i : Int) N 0 = bif crsRow (prv p i) b q 0 q || piece (prv p i) b q then some (true, 0) else polygon_Overlap.l0 N p q k3 ((i : Int) + 1) := by
  obtain ⟨M, hM⟩ : ∃ M, N = M + 8 := ⟨N - 8, by omega⟩
  refine list_loop (σ := Unit) (l := q) (fun k _ j => polygon_Overlap.l1 N p q k3 (i : Int) k j) (fun pre r _ => bif crsRow (prv p i) b q pre.length r || piece (prv p i) b q then some (true, 0) else polygon_Overlap.l0 N p q k3 ((i : Int) + 1)) (fun _ _ => True) (fun k _ _ => ?_) (fun k pre x r _ hl _ ih => ?_) N () trivial (by omega)
  · show polygon_Overlap.l1 N p q k3 (i : Int) (k + 1) (q.length : Int) = _
    have hw : w ((i : Int) + 1) = (i : Int) + 1 := w_small _ (by omega) (by omega)
    rw [polygon_Overlap.l1_nil N p q k3 _ k hM, Int.toNat_natCast, hb, piece_v hN hq, Option.bind_some, hw]
    show (bif piece (prv p i) b q then _ else _) = bif false || piece (prv p i) b q then _ else _
    cases piece (prv p i) b q <;> rfl
  · have h1 := mid_lt hl
    have h2 := mod_ok (n := q.length) (prv_ok h1 (by omega)) (by omega)
    have ih : polygon_Overlap.l1 N p q k3 (i : Int) k ((pre.length : Int) + 1) = bif crsRow (prv p i) b q (pre ++ [x]).length r || piece (prv p i) b q then some (true, 0) else polygon_Overlap.l0 N p q k3 ((i : Int) + 1) := ih () trivial
    rw [List.length_append, List.length_singleton] at ih
    show polygon_Overlap.l1 N p q k3 (i : Int) (k + 1) (pre.length : Int) = bif (crs (prv p i) b (prv q pre.length) x || crsRow (prv p i) b q (pre.length + 1) r) || piece (prv p i) b q then some (true, 0) else polygon_Overlap.l0 N p q k3 ((i : Int) + 1)
    rw [polygon_Overlap.l1_cons N p q k3 _ k hl (by omega) hM, bchk h2.1, bchk h2.2, crs_v, Option.bind_some, Int.toNat_natCast, hb, ih]
    show (bif crs (prv p i) b (prv q pre.length) x then _ else _) = _
    cases crs (prv p i) b (prv q pre.length) x <;> rfl
theorem o3_v {N : Nat} (hN : 4611686018427387904 ≤ N) {p q : List Pt} (hp : p.length ≤ 16) (hq : q.length ≤ 16) (k3 : Nat) {i : Nat} (hi : i < q.length) {b : Pt} (hb : List.getD q i (0, 0) = b) :
    polygon_Overlap.l3 N p q k3 (i : Int) N 0 = bif crsRow (prv q i) b p 0 p || piece (prv q i) b p then some (true, 0) else polygon_Overlap.l2 N p q k3 ((i : Int) + 1) := by
  obtain ⟨M, hM⟩ : ∃ M, N = M + 8 := ⟨N - 8, by omega⟩
  refine list_loop (σ := Unit) (l := p) (fun k _ j => polygon_Overlap.l3 N p q k3 (i : Int) k j) (fun pre r _ => bif crsRow (prv q i) b p pre.length r || piece (prv q i) b p then some (true, 0) else polygon_Overlap.l2 N p q k3 ((i : Int) + 1)) (fun _ _ => True) (fun k _ _ => ?_) (fun k pre x r _ hl _ ih => ?_) N () trivial (by omega)
  · show polygon_Overlap.l3 N p q k3 (i : Int) (k + 1) (p.length : Int) = _
    have hw : w ((i : Int) + 1) = (i : Int) + 1 := w_small _ (by omega) (by omega)
    rw [polygon_Overlap.l3_nil N p q k3 _ k hM, Int.toNat_natCast, hb, piece_v hN hp, Option.bind_some, hw]
    show (bif piece (prv q i) b p then _ else _) = bif false || piece (prv q i) b p then _ else _
    cases piece (prv q i) b p <;> rfl
  · have h1 := mid_lt hl
    have h2 := mod_ok (n := p.length) (prv_ok h1 (by omega)) (by omega)
    have ih : polygon_Overlap.l3 N p q k3 (i : Int) k ((pre.length : Int) + 1) = bif crsRow (prv q i) b p (pre ++ [x]).length r || piece (prv q i) b p then some (true, 0) else polygon_Overlap.l2 N p q k3 ((i : Int) + 1) := ih () trivial
    rw [List.length_append, List.length_singleton] at ih
    show polygon_Overlap.l3 N p q k3 (i : Int) (k + 1) (pre.length : Int) = bif (crs (prv q i) b (prv p pre.length) x || crsRow (prv q i) b p (pre.length + 1) r) || piece (prv q i) b p then some (true, 0) else polygon_Overlap.l2 N p q k3 ((i : Int) + 1)
    rw [polygon_Overlap.l3_cons N p q k3 _ k hl (by omega) hM, bchk h2.1, bchk h2.2, crs_v, Option.bind_some, Int.toNat_natCast, hb, ih]
    show (bif crs (prv q i) b (prv p pre.length) x then _ else _) = _
    cases crs (prv q i) b (prv p pre.length) x <;> rfl
theorem ovl_l {N : Nat} (hN : 4611686018427387904 ≤ N) {p q : List Pt} (hp : p.length ≤ 16) (hq : q.length ≤ 16) (h0 : 0 < p.length) : polygon_Overlap.l0 N p q N 0 = some (ovl p q, 0) := by
  obtain ⟨M, hM⟩ : ∃ M, N = M + 8 := ⟨N - 8, by omega⟩
  have k2 : polygon_Overlap.l2 N p q N 0 = some (edg q p 0 q || same p q, 0) := by
    refine list_loop (σ := Unit) (l := q) (fun k _ j => polygon_Overlap.l2 N p q k j) (fun pre r _ => some (edg q p pre.length r || same p q, 0)) (fun _ _ => True) (fun k _ _ => ?_) (fun k pre x r _ hl _ ih => ?_) N () trivial (by omega)
    · show polygon_Overlap.l2 N p q (k + 1) (q.length : Int) = _
      rw [polygon_Overlap.l2_nil N p q k hM, same_v hN (by omega) h0]; rfl
    · have h1 := mid_lt hl
      have h2 := mod_ok (n := q.length) (prv_ok h1 (by omega)) (by omega)
      have ih : polygon_Overlap.l2 N p q k ((pre.length : Int) + 1) = some (edg q p (pre ++ [x]).length r || same p q, 0) := ih () trivial
      rw [List.length_append, List.length_singleton] at ih
      show polygon_Overlap.l2 N p q (k + 1) (pre.length : Int) = some (((crsRow (prv q pre.length) x p 0 p || piece (prv q pre.length) x p) || edg q p (pre.length + 1) r) || same p q, 0)
      rw [polygon_Overlap.l2_cons N p q k hl (by omega) hM, bchk h2.1, bchk h2.2, o3_v hN hp hq k h1 (mid_get hl), ih]
      cases crsRow (prv q pre.length) x p 0 p || piece (prv q pre.length) x p <;> rfl
  have k0 : polygon_Overlap.l0 N p q N 0 = some (edg p q 0 p || (edg q p 0 q || same p q), 0) := by
    refine list_loop (σ := Unit) (l := p) (fun k _ j => polygon_Overlap.l0 N p q k j) (fun pre r _ => some (edg p q pre.length r || (edg q p 0 q || same p q), 0)) (fun _ _ => True) (fun k _ _ => ?_) (fun k pre x r _ hl _ ih => ?_) N () trivial (by omega)
    · show polygon_Overlap.l0 N p q (k + 1) (p.length : Int) = _
      rw [polygon_Overlap.l0_nil N p q k hM, k2]; rfl
    · have h1 := mid_lt hl
      have h2 := mod_ok (n := p.length) (prv_ok h1 (by omega)) (by omega)
      have ih : polygon_Overlap.l0 N p q k ((pre.length : Int) + 1) = some (edg p q (pre ++ [x]).length r || (edg q p 0 q || same p q), 0) := ih () trivial
      rw [List.length_append, List.length_singleton] at ih
      show polygon_Overlap.l0 N p q (k + 1) (pre.length : Int) = some (((crsRow (prv p pre.length) x q 0 q || piece (prv p pre.length) x q) || edg p q (pre.length + 1) r) || (edg q p 0 q || same p q), 0)
      rw [polygon_Overlap.l0_cons N p q k hl (by omega) hM, bchk h2.1, bchk h2.2, o1_v hN hp hq k h1 (mid_get hl), ih]
      cases crsRow (prv p pre.length) x q 0 q || piece (prv p pre.length) x q <;> rfl
  rw [k0]
  unfold ovl
  rw [Bool.or_assoc]
theorem ovl_comm {p q : List Pt} (hp : Apt p) (hq : Apt q) (h0 : 0 < p.length) (h1 : 0 < q.length) (hb : p.length < 4611686018427387904) : ovl p q = ovl q p := by
  unfold ovl
  rw [same_comm hp hq h0 h1 hb, Bool.or_comm (edg p q 0 p)]
/-! ### what a polygon's check tells -/
theorem polyE_zero {p : List Pt} (h : polyE p = 0) : 3 ≤ p.length ∧ p.length ≤ 16 ∧ polyBad p 0 p = false := by
  unfold polyE at h
  cases h1 : decide ((p.length : Int) > 16) with
  | true => rw [h1] at h; cases h
  | false =>
    cases h2 : decide ((p.length : Int) < 3) with
    | true => rw [h1, h2] at h; cases h
    | false =>
      rw [h1, h2] at h
      simp only [decide_eq_false_iff_not] at h1 h2
      refine ⟨by omega, by omega, ?_⟩
      cases h3 : (firstE ptE p == 0) with
      | false =>
        rw [h3] at h
        have h : firstE ptE p = 0 := h
        rw [h] at h3
        cases h3
      | true =>
        rw [h3] at h
        cases h4 : polyBad p 0 p with
        | true => rw [h4] at h; cases h
        | false => rfl
theorem turn_self (a c : Pt) : turn a a c = 0 := by
  have h : subP a a = (0, 0) := by unfold subP; rw [Int.sub_self, Int.sub_self]; rfl
  unfold turn
  rw [h]
  unfold crossP
  rw [Int.zero_mul, Int.zero_mul]
  rfl
theorem turn_back (a b : Pt) : turn a b a = 0 := by
  have h : subP a a = (0, 0) := by unfold subP; rw [Int.sub_self, Int.sub_self]; rfl
  unfold turn
  rw [h]
  unfold crossP
  rw [Int.mul_zero, Int.mul_zero]
  rfl
theorem on_self (a b : Pt) : onP a b a = true := by
  have h : subP a a = (0, 0) := by unfold subP; rw [Int.sub_self, Int.sub_self]; rfl
  unfold onP
  rw [h, Int.zero_mul, Int.zero_mul]
  rfl
theorem com_self (a b d : Pt) : com a b a d = true := by
  unfold com
  rw [turn_back, on_self]
  simp
theorem comBad_false {p : List Pt} {i : Nat} : ∀ (r pre : List Pt), p = pre ++ r → comBad p i pre.length r = false → ∀ k, pre.length ≤ k → k < p.length → Int.tmod ((k : Int) + 1) (p.length : Int) ≠ (i : Int) → com (List.getD p i (0, 0)) (List.getD p (i + 1) (0, 0)) (List.getD p k (0, 0)) (nxt p k) = false
  | [], pre, hl, _, k, h1, h2, _ => by rw [List.append_nil] at hl; subst hl; omega
  | x :: r, pre, hl, h, k, h1, h2, h3 => by
    have h : (((!((Int.tmod ((pre.length : Int) + 1) (p.length : Int)) == (i : Int))) && com (List.getD p i (0, 0)) (List.getD p (i + 1) (0, 0)) x (nxt p pre.length)) || comBad p i (pre.length + 1) r) = false := h
    rw [Bool.or_eq_false_iff] at h
    by_cases e : k = pre.length
    · subst e
      have h := h.1
      rw [show (Int.tmod ((pre.length : Int) + 1) (p.length : Int) == (i : Int)) = false by simpa using h3, Bool.not_false, Bool.true_and] at h
      rw [mid_get hl]; exact h
    · have ih := comBad_false (p := p) (i := i) r (pre ++ [x]) (by simp [hl]) (by rw [List.length_append, List.length_singleton]; exact h.2) k (by simp; omega) h2 h3
      exact ih
theorem polyBad_false {p : List Pt} : ∀ (r pre : List Pt), p = pre ++ r → polyBad p pre.length r = false → ∀ i, pre.length ≤ i → i < p.length → turn (List.getD p i (0, 0)) (nxt p i) (nx2 p i) ≠ 0 ∧ comBad p i (i + 2) (p.drop (i + 2)) = false
  | [], pre, hl, _, i, h1, h2 => by rw [List.append_nil] at hl; subst hl; omega
  | x :: r, pre, hl, h, i, h1, h2 => by
    have h : ((turn x (nxt p pre.length) (nx2 p pre.length) == 0) || (comBad p pre.length (pre.length + 2) (p.drop (pre.length + 2)) || polyBad p (pre.length + 1) r)) = false := h
    rw [Bool.or_eq_false_iff, Bool.or_eq_false_iff] at h
    by_cases e : i = pre.length
    · subst e
      rw [mid_get hl]
      exact ⟨by simpa using h.1, h.2.1⟩
    · exact polyBad_false r (pre ++ [x]) (by simp [hl]) (by rw [List.length_append, List.length_singleton]; exact h.2.2) i (by simp; omega) h2
theorem tmod_nat (a n : Nat) : Int.tmod ((a : Int) + 1) (n : Int) = (((a + 1) % n : Nat) : Int) := by
  rw [Int.tmod_eq_emod_of_nonneg (by omega)]
  push_cast
  rfl
theorem nxt_eq (p : List Pt) (i : Nat) : nxt p i = List.getD p ((i + 1) % p.length) (0, 0) := by
  unfold nxt
  rw [tmod_nat, Int.toNat_natCast]
theorem apart_of {p : List Pt} (h : polyE p = 0) : Apt p := by
  obtain ⟨h3, h16, hb⟩ := polyE_zero h
  have key := polyBad_false (p := p) p [] rfl hb
  have step : ∀ i, i < p.length → List.getD p i (0, 0) ≠ List.getD p ((i + 1) % p.length) ((0, 0) : Pt) := by
    intro i hi he
    have := (key i (Nat.zero_le _) hi).1
    rw [nxt_eq, ← he, turn_self] at this
    exact this rfl
  intro i j hij hj he
  by_cases e1 : j = i + 1
  · subst e1
    have := step i (by omega)
    rw [Nat.mod_eq_of_lt hj] at this
    exact this he
  · by_cases e2 : (j + 1) % p.length = i
    · have := step j hj
      rw [e2] at this
      exact this he.symm
    · have e : (p.take (i + 2)).length = i + 2 := by simp; omega
      have hc := comBad_false (p := p) (i := i) (p.drop (i + 2)) (p.take (i + 2)) (by rw [List.take_append_drop]) (by rw [e]; exact (key i (Nat.zero_le _) (by omega)).2) j (by omega) hj (by rw [tmod_nat]; exact fun h => e2 (by omega))
      rw [← he, com_self] at hc
      cases hc

/-! ### volumes -/
def volE (v : Vol) : Int := bif !(polyE v.1 == 0) then polyE v.1 else bif ((decide (v.2.1 < 0)) || (decide (v.2.2 > 60001))) || (decide (v.2.1 ≥ v.2.2)) then 4 else 0
theorem volE_v {N : Nat} (hN : 4611686018427387904 ≤ N) (v : Vol) : volume_Check.fn N v = some (volE v) := by
  rw [volume_Check.clean, polyE_v hN, Option.bind_some]
  unfold volE
  cases (polyE v.1 == 0) <;> cases (((decide (v.2.1 < 0)) || (decide (v.2.2 > 60001))) || (decide (v.2.1 ≥ v.2.2))) <;> rfl
theorem volE_zero {v : Vol} (h : volE v = 0) : polyE v.1 = 0 := by
  unfold volE at h
  cases h1 : (polyE v.1 == 0) with
  | true => exact beq_iff_eq.1 h1
  | false => rw [h1] at h; exact h
def vov (v x : Vol) : Bool := bif (decide (v.2.1 ≥ x.2.2)) || (decide (x.2.1 ≥ v.2.2)) then false else ovl v.1 x.1
theorem vov_v {N : Nat} (hN : 4611686018427387904 ≤ N) {v x : Vol} (hv : volE v = 0) (hx : volE x = 0) : volume_Overlap.fn N (v, x) = some (vov v x, 0) := by
  obtain ⟨M, hM⟩ : ∃ M, N = M + 8 := ⟨N - 8, by omega⟩
  have h1 := volE_zero hv
  have h2 := volE_zero hx
  obtain ⟨a1, a2, _⟩ := polyE_zero h1
  obtain ⟨b1, b2, _⟩ := polyE_zero h2
  rw [volume_Overlap.clean, volE_v hN, hv, Option.bind_some, show (!((0 : Int) == 0)) = false from rfl, cond_false, volE_v hN, hx, Option.bind_some, show (!((0 : Int) == 0)) = false from rfl, cond_false]
  unfold vov
  cases ((decide (v.2.1 ≥ x.2.2)) || (decide (x.2.1 ≥ v.2.2))) with
  | true => rfl
  | false =>
    rw [cond_false, cond_false, polygon_Overlap.eq N v.1 x.1 hM, polyE_v hN, h1, Option.bind_some, show (!((0 : Int) == 0)) = false from rfl, cond_false, polyE_v hN, h2, Option.bind_some, show (!((0 : Int) == 0)) = false from rfl, cond_false,
      ovl_l hN a2 b2 (by omega)]
    rfl
theorem vov_comm {v x : Vol} (hv : volE v = 0) (hx : volE x = 0) : vov v x = vov x v := by
  have h1 := volE_zero hv
  have h2 := volE_zero hx
  obtain ⟨a1, a2, _⟩ := polyE_zero h1
  obtain ⟨b1, b2, _⟩ := polyE_zero h2
  unfold vov
  rw [ovl_comm (apart_of h1) (apart_of h2) (by omega) (by omega) (by omega), Bool.or_comm]
def has (v : Vol) (at_ : Pt) (h : Int) : Bool × Int :=
  bif !(volE v == 0) then (false, volE v) else bif !(ptE at_ == 0) then (false, ptE at_) else bif (decide (h < 0)) || (decide (h > 60000)) then (false, 4) else
    (((decide (loc v.1 at_ ≥ 0)) && (decide (h ≥ v.2.1))) && (decide (h < v.2.2)), 0)
theorem has_v {N : Nat} (hN : 4611686018427387904 ≤ N) (v : Vol) (at_ : Pt) (h : Int) : volume_Has.fn N (v, at_, h) = some (has v at_ h) := by
  rw [volume_Has.clean, volE_v hN, Option.bind_some, ptE_v]
  unfold has
  cases hv : (volE v == 0) with
  | false => rfl
  | true =>
    cases hp : (ptE at_ == 0) with
    | false => simp only [Bool.not_true, cond_false, Option.bind_some, hp, Bool.not_false, cond_true]
    | true =>
      simp only [Bool.not_true, cond_false, Option.bind_some, hp]
      cases ((decide (h < 0)) || (decide (h > 60000))) with
      | true => rfl
      | false =>
        have h1 := volE_zero (beq_iff_eq.1 hv)
        obtain ⟨a1, a2, _⟩ := polyE_zero h1
        rw [cond_false, cond_false, polygon_Locate.eq, polyE_v hN, h1, Option.bind_some, show (!((0 : Int) == 0)) = false from rfl, cond_false, ptE_v, beq_iff_eq.1 hp, Option.bind_some, show (!((0 : Int) == 0)) = false from rfl, cond_false, loc_v hN (by omega)]
        rfl
theorem bif_some {α : Type} (b : Bool) (x y : α) : (bif b then some x else some y) = some (bif b then x else y) := by cases b <;> rfl
/-! ### names -/
def nameCh (c : UInt8) : Bool := !(((decide (((c.toNat : Nat) : Int) < 65)) || (decide (((c.toNat : Nat) : Int) > 90))) && ((decide (((c.toNat : Nat) : Int) < 48)) || (decide (((c.toNat : Nat) : Int) > 57))))
def isNameL : List UInt8 → Bool
  | [] => false
  | b :: r => bif decide (r.length + 1 > 8) then false else bif decide (((b.toNat : Nat) : Int) < 65) || decide (((b.toNat : Nat) : Int) > 90) then false else (b :: r).all nameCh
def isName (s : ByteArray) : Bool := isNameL s.data.toList
theorem size_list (s : ByteArray) : s.size = s.data.toList.length := by rw [ByteArray.size, Array.length_toList]

section
variable {N : Nat} (hN : 4611686018427387904 ≤ N)
include hN
theorem chart_Name.v (s : ByteArray) : chart_Name.fn N s = some (isName s) := by
  rw [chart_Name.clean]
  unfold isName
  have hsz := size_list s
  cases h : s.data.toList with
  | nil =>
    rw [h] at hsz
    have hsz : s.size = 0 := hsz
    simp [hsz, isNameL]
  | cons b r =>
    rw [h] at hsz
    have hsz : s.size = r.length + 1 := by simpa using hsz
    have g : (ByteArray.data s).getD 0 0 = b := getD_bytes (pre := []) (r := r) h
    have c1 : decide (0 < (s.size : Int)) = true := by rw [decide_eq_true_iff]; omega
    have c2 : ((s.size : Int) == 0) = false := by rw [beq_eq_false_iff_ne]; omega
    have c3 : decide ((s.size : Int) > 8) = decide (r.length + 1 > 8) := by rw [decide_eq_decide]; omega
    simp only [g, c1, c2, c3, Bool.true_or, cond_true, Bool.false_or, isNameL]
    by_cases h8 : r.length + 1 > 8
    · simp [h8]
    have h8' : decide (r.length + 1 > 8) = false := decide_eq_false h8
    simp only [h8', Bool.false_or, cond_false]
    have hl := scan_list (l := s.data.toList) (fun c => !nameCh c) (some false) (some true) (fun k i => chart_Name.l0 N s k i)
      (fun k => by show chart_Name.l0 N s (k + 1) (s.data.toList.length : Int) = _; rw [← size_list s]; exact chart_Name.l0_nil N s k)
      (fun k pre x r' h' => by show chart_Name.l0 N s (k + 1) (pre.length : Int) = _; rw [chart_Name.l0_cons N s k h' (by omega)]; simp [nameCh]) N (by rw [h]; simp; omega)
    rw [hl, h]
    cases (decide (((b.toNat : Nat) : Int) < 65) || decide (((b.toNat : Nat) : Int) > 90)) with
    | true => rfl
    | false =>
      rw [cond_false, cond_false, ← List.not_all_eq_any_not]
      cases ((b :: r).all nameCh) <;> rfl
theorem ref_IsName.v (s : ByteArray) : ref_IsName.fn N s = some (isName s) := by
  rw [ref_IsName.clean]
  unfold isName
  have hsz := size_list s
  cases h : s.data.toList with
  | nil =>
    rw [h] at hsz
    have hsz : s.size = 0 := hsz
    have : s = ⟨#[]⟩ := by cases s with | mk a => congr 1; exact Array.ext' h
    subst this
    simp [isNameL, seq]
  | cons b r =>
    rw [h] at hsz
    have hsz : s.size = r.length + 1 := by simpa using hsz
    have g : (ByteArray.data s).getD 0 0 = b := getD_bytes (pre := []) (r := r) h
    have c1 : decide (0 < (s.size : Int)) = true := by rw [decide_eq_true_iff]; omega
    have c2 : seq s (⟨#[]⟩ : ByteArray) = false := by unfold seq; rw [h]; rfl
    have c3 : decide ((s.size : Int) > 8) = decide (r.length + 1 > 8) := by rw [decide_eq_decide]; omega
    simp only [g, c1, c2, c3, Bool.true_or, cond_true, Bool.false_or, isNameL]
    by_cases h8 : r.length + 1 > 8
    · simp [h8]
    have h8' : decide (r.length + 1 > 8) = false := decide_eq_false h8
    simp only [h8', Bool.false_or, cond_false]
    have hl := scan_list (l := s.data.toList) (fun c => !nameCh c) (some false) (some true) (fun k i => ref_IsName.l0 N s k i)
      (fun k => by show ref_IsName.l0 N s (k + 1) (s.data.toList.length : Int) = _; rw [← size_list s]; exact ref_IsName.l0_nil N s k)
      (fun k pre x r' h' => by show ref_IsName.l0 N s (k + 1) (pre.length : Int) = _; rw [ref_IsName.l0_cons N s k h' (by omega)]; simp [nameCh]) N (by rw [h]; simp; omega)
    rw [hl, h]
    have hb : (b :: r).any (fun c => !nameCh c) = !((b :: r).all nameCh) := List.not_all_eq_any_not.symm
    rw [hb]
    by_cases q1 : ((b.toNat : Nat) : Int) < 65
    · by_cases q2 : ((b.toNat : Nat) : Int) < 48
      · have : nameCh b = false := by simp [nameCh]; omega
        simp [q1, this, show ¬ 48 ≤ b.toNat by omega]
      · by_cases q3 : ((b.toNat : Nat) : Int) > 57
        · have : nameCh b = false := by simp [nameCh]; omega
          simp [q1, this, show ¬ b.toNat ≤ 57 by omega]
        · simp [q1, show (48 : Int) ≤ b.toNat by omega, show (b.toNat : Int) ≤ 57 by omega]
    · by_cases q2 : ((b.toNat : Nat) : Int) > 90
      · have : nameCh b = false := by simp [nameCh]; omega
        simp [q2, this, show ¬ b.toNat ≤ 57 by omega]
      · simp only [q1, q2, decide_false, Bool.or_false, cond_false, show decide (((b.toNat : Nat) : Int) ≤ 57) = false by rw [decide_eq_false_iff_not]; omega, Bool.and_false]
        cases ((b :: r).all nameCh) <;> rfl
end
/-! ### sectors -/
section
variable {N : Nat} (hN : 4611686018427387904 ≤ N)
include hN
theorem sname_v (s : ByteArray) : sector_Name.fn N s = some (isName s) := by rw [sector_Name.eq, chart_Name.v hN]; rfl
theorem hasN_v (ns : List ByteArray) (s : ByteArray) (h : ns.length < 4611686018427387904) : ref_Has.fn N (ns, s) = some (ns.any fun x => seq x s) := by
  rw [ref_Has.eq]
  rw [scan_list (l := ns) (fun x => seq x s) (some true) (some false) (fun k i => ref_Has.l0 N ns s k i) (fun k => ref_Has.l0_nil N ns s k) (fun k pre x r hl => ref_Has.l0_cons N ns s k hl h) N (by omega)]
  cases (ns.any fun x => seq x s) <;> rfl
end
def oneE (s : Sec) : Int := bif !isName s.1 then 3 else bif (s.2.length : Int) == 0 then 8 else bif decide ((s.2.length : Int) > 4) then 2 else firstE volE s.2
theorem first_loop {X : Type} {l : List X} {f : X → Int} (L : Nat → Int → Option Int) (R : Option Int) (hnil : ∀ k, L (k + 1) (l.length : Int) = R)
    (hcons : ∀ k pre x r, l = pre ++ x :: r → L (k + 1) (pre.length : Int) = bif !(f x == 0) then some (f x) else L k ((pre.length : Int) + 1)) : ∀ k, l.length < k → L k 0 = bif !(firstE f l == 0) then some (firstE f l) else R :=
  list_loop0 L (fun r => bif !(firstE f r == 0) then some (firstE f r) else R) (fun k => hnil k) fun k pre x r hl ih => by
    rw [hcons k pre x r hl, ih, firstE_cons]
    cases h : (f x == 0)
    · simp only [Bool.not_false, cond_true, h]
    · simp only [Bool.not_true, cond_false]
theorem oneE_v {N : Nat} (hN : 4611686018427387904 ≤ N) (s : Sec) : sector_one.fn N s = some (oneE s) := by
  rw [sector_one.eq, sname_v hN, Option.bind_some]
  unfold oneE
  cases isName s.1 with
  | false => rfl
  | true =>
    cases ((s.2.length : Int) == 0) with
    | true => rfl
    | false =>
      cases h : decide ((s.2.length : Int) > 4) with
      | true => rfl
      | false =>
        simp only [decide_eq_false_iff_not] at h
        simp only [Bool.not_true, cond_false]
        rw [first_loop (l := s.2) (f := volE) (fun k i => sector_one.l0 N s k i) (some 0) (fun k => sector_one.l0_nil N s k) (fun k pre x r hl => by rw [sector_one.l0_cons N s k hl (by omega), volE_v hN, Option.bind_some]) N (by omega)]
        cases h : (firstE volE s.2 == 0) with
        | false => rfl
        | true => rw [beq_iff_eq.1 h]; rfl
theorem firstE_zero {X : Type} {f : X → Int} : ∀ {l : List X}, firstE f l = 0 → ∀ x, x ∈ l → f x = 0
  | [], _, x, h => by cases h
  | y :: l, h, x, hx => by
    rw [firstE_cons] at h
    cases hy : (f y == 0) with
    | false => rw [hy] at h; have h : f y = 0 := h; rw [h] at hy; cases hy
    | true =>
      rw [hy] at h
      rcases List.mem_cons.1 hx with rfl | hx
      · exact beq_iff_eq.1 hy
      · exact firstE_zero (l := l) h x hx
theorem oneE_zero {s : Sec} (h : oneE s = 0) : s.2.length ≤ 4 ∧ ∀ v, v ∈ s.2 → volE v = 0 := by
  unfold oneE at h
  cases h1 : isName s.1 with
  | false => rw [h1] at h; cases h
  | true =>
    cases h2 : ((s.2.length : Int) == 0) with
    | true => rw [h1, h2] at h; cases h
    | false =>
      cases h3 : decide ((s.2.length : Int) > 4) with
      | true => rw [h1, h2, h3] at h; cases h
      | false =>
        rw [h1, h2, h3] at h
        simp only [decide_eq_false_iff_not] at h3
        exact ⟨by omega, firstE_zero h⟩
def errS (ns : List ByteArray) : List Sec → Int
  | [] => 0
  | s :: r => bif !(oneE s == 0) then oneE s else bif ns.any (fun n => seq n s.1) then 7 else errS (ns ++ [s.1]) r
def rowA (pre : List Vol) : List Vol → Bool
  | [] => false
  | v :: r => pre.any (fun x => vov v x) || rowA (pre ++ [v]) r
def rooms (l : List Sec) : List Vol := l.flatMap fun s => s.2
def secE (l : List Sec) : Int := bif decide ((l.length : Int) > 12) then 2 else bif !(errS [] l == 0) then errS [] l else bif rowA [] (rooms l) then 19 else 0
theorem errS_zero : ∀ {l : List Sec} {ns : List ByteArray}, errS ns l = 0 → ∀ s, s ∈ l → oneE s = 0
  | [], _, _, s, h => by cases h
  | x :: l, ns, h, s, hs => by
    have h : (bif !(oneE x == 0) then oneE x else bif ns.any (fun n => seq n x.1) then 7 else errS (ns ++ [x.1]) l) = 0 := h
    cases h1 : (oneE x == 0) with
    | false => rw [h1] at h; have h : oneE x = 0 := h; rw [h] at h1; cases h1
    | true =>
      rw [h1] at h
      cases h2 : ns.any (fun n => seq n x.1) with
      | true => rw [h2] at h; cases h
      | false =>
        rw [h2] at h
        rcases List.mem_cons.1 hs with rfl | hs
        · exact beq_iff_eq.1 h1
        · exact errS_zero (l := l) h s hs
theorem rooms_len : ∀ {l : List Sec}, (∀ s, s ∈ l → s.2.length ≤ 4) → (rooms l).length ≤ 4 * l.length
  | [], _ => Nat.zero_le _
  | s :: l, h => by
    have := rooms_len (l := l) fun x hx => h x (List.mem_cons_of_mem _ hx)
    have h1 := h s (List.mem_cons_self ..)
    unfold rooms at this ⊢
    rw [List.flatMap_cons, List.length_append, List.length_cons]
    omega
theorem rooms_ok {l : List Sec} (h : ∀ s, s ∈ l → oneE s = 0) : ∀ v, v ∈ rooms l → volE v = 0 := by
  intro v hv
  unfold rooms at hv
  rw [List.mem_flatMap] at hv
  obtain ⟨s, hs, hv⟩ := hv
  exact (oneE_zero (h s hs)).2 v hv
section
variable {N : Nat} (hN : 4611686018427387904 ≤ N)
include hN
theorem rooms_v {l : List Sec} (hl : l.length ≤ 12) (h : ∀ s, s ∈ l → s.2.length ≤ 4) : sector_rooms.fn N l = some (rooms l) := by
  rw [sector_rooms.eq]
  have := list_loop (l := l) (fun k (s : List Vol) i => sector_rooms.l0 N l k i s) (fun pre r s => some (s ++ rooms r)) (fun pre s => s.length ≤ 4 * pre.length) (fun k s _ => by rw [sector_rooms.l0_nil]; simp [rooms])
    (fun k pre x r s hl' hI ih => by
      have h1 := mid_lt hl'
      have hx := h x (by rw [hl']; simp)
      have c : (decide ((s.length + (x.2).length) * 40 ≤ 140737488355328) && decide ((s.length + (x.2).length) ≤ maxLen)) = true := by rw [Bool.and_eq_true, decide_eq_true_iff, decide_eq_true_iff]; unfold maxLen; omega
      rw [sector_rooms.l0_cons N l k s hl' (by omega), bchk c, ih _ (by simp; omega)]
      simp [rooms]) N [] (by simp) (by omega)
  simpa using this
theorem apart_v {l : List Vol} (hl : l.length ≤ 48) (h : ∀ v, v ∈ l → volE v = 0) : sector_apart.fn N l = some (bif rowA [] l then 19 else 0) := by
  rw [sector_apart.eq]
  refine list_loop (σ := Unit) (l := l) (fun k _ i => sector_apart.l0 N l k i) (fun pre r _ => some (bif rowA pre r then 19 else 0)) (fun _ _ => True) (fun k _ _ => sector_apart.l0_nil N l k) (fun k pre x r _ hl' _ ih => ?_) N () trivial (by omega)
  have h1 := mid_lt hl'
  have hx := h x (by rw [hl']; simp)
  have ih : sector_apart.l0 N l k ((pre.length : Int) + 1) = some (bif rowA (pre ++ [x]) r then 19 else 0) := ih () trivial
  show sector_apart.l0 N l (k + 1) (pre.length : Int) = some (bif pre.any (fun y => vov x y) || rowA (pre ++ [x]) r then 19 else 0)
  rw [sector_apart.l0_cons N l k hl' (by omega)]
  have ht : List.take (Int.toNat (pre.length : Int)) l = pre := by rw [Int.toNat_natCast]; exact mid_take hl'
  have := scan_list (l := List.take (Int.toNat (pre.length : Int)) l) (fun y => vov x y) (some 19) (sector_apart.l0 N l k ((pre.length : Int) + 1)) (fun k' i => sector_apart.l1 N l k (pre.length : Int) k' i)
    (fun k' => by show sector_apart.l1 N l k (pre.length : Int) (k' + 1) _ = _; rw [sector_apart.l1_nil, w_small _ (by omega) (by omega)])
    (fun k' pr y s hl2 => by
      have hy := h y (by rw [hl']; exact List.mem_append_left _ (by rw [← ht, hl2]; simp))
      show sector_apart.l1 N l k (pre.length : Int) (k' + 1) _ = _
      rw [sector_apart.l1_cons N l k _ k' hl2 (by rw [ht]; omega), Int.toNat_natCast, mid_get hl', vov_v hN hx hy]
      rfl) N (by rw [ht]; omega)
  rw [this, ht, ih]
  cases pre.any (fun y => vov x y) <;> rfl
theorem secE_v (l : List Sec) : sector_Check.fn N l = some (secE l) := by
  rw [sector_Check.eq]
  unfold secE
  cases h12 : decide ((l.length : Int) > 12) with
  | true => rfl
  | false =>
    simp only [decide_eq_false_iff_not] at h12
    rw [cond_false, cond_false]
    have key := list_loop (σ := Unit) (l := l) (fun k _ i => sector_Check.l0 N l k i) (fun pre r _ => bif !(errS (pre.map (·.1)) r == 0) then some (errS (pre.map (·.1)) r) else some (bif rowA [] (rooms l) then 19 else 0)) (fun pre _ => ∀ s, s ∈ pre → oneE s = 0)
      (fun k _ hI => by
        show sector_Check.l0 N l (k + 1) (l.length : Int) = some (bif rowA [] (rooms l) then 19 else 0)
        rw [sector_Check.l0_nil, rooms_v hN (by omega) (fun s hs => (oneE_zero (hI s hs)).1), Option.bind_some, apart_v hN (by have := rooms_len (l := l) fun s hs => (oneE_zero (hI s hs)).1; omega) (rooms_ok hI)]
        rfl)
      (fun k pre x r _ hl' hI ih => by
        have h1 := mid_lt hl'
        show sector_Check.l0 N l (k + 1) (pre.length : Int) = bif !((bif !(oneE x == 0) then oneE x else bif (pre.map (·.1)).any (fun n => seq n x.1) then 7 else errS (pre.map (·.1) ++ [x.1]) r) == 0) then some (bif !(oneE x == 0) then oneE x else bif (pre.map (·.1)).any (fun n => seq n x.1) then 7 else errS (pre.map (·.1) ++ [x.1]) r) else some (bif rowA [] (rooms l) then 19 else 0)
        rw [sector_Check.l0_cons N l k hl' (by omega), oneE_v hN, Option.bind_some]
        cases hx : (oneE x == 0) with
        | false => simp only [Bool.not_false, cond_true, hx]
        | true =>
          simp only [Bool.not_true, cond_false]
          have ht : List.take (Int.toNat (pre.length : Int)) l = pre := by rw [Int.toNat_natCast]; exact mid_take hl'
          have ih : sector_Check.l0 N l k ((pre.length : Int) + 1) = _ := ih () (fun s hs => by
            rw [List.mem_append, List.mem_singleton] at hs
            rcases hs with hs | rfl
            · exact hI s hs
            · exact beq_iff_eq.1 hx)
          have := scan_list (l := List.take (Int.toNat (pre.length : Int)) l) (fun y => seq y.1 x.1) (some 7) (sector_Check.l0 N l k ((pre.length : Int) + 1)) (fun k' i => sector_Check.l1 N l k (pre.length : Int) k' i)
            (fun k' => by show sector_Check.l1 N l k (pre.length : Int) (k' + 1) _ = _; rw [sector_Check.l1_nil, w_small _ (by omega) (by omega)])
            (fun k' pr y s hl2 => by
              show sector_Check.l1 N l k (pre.length : Int) (k' + 1) _ = _
              rw [sector_Check.l1_cons N l k _ k' hl2 (by rw [ht]; omega), Int.toNat_natCast, mid_get hl']) N (by rw [ht]; omega)
          rw [this, ht, ih, List.map_append, List.any_map]
          have e : ((fun n => seq n x.1) ∘ fun (s : Sec) => s.1) = fun y => seq y.1 x.1 := rfl
          rw [e]
          cases pre.any (fun y => seq y.1 x.1) <;> rfl) N () (fun s hs => by cases hs) (by omega)
    have key : sector_Check.l0 N l N 0 = bif !(errS [] l == 0) then some (errS [] l) else some (bif rowA [] (rooms l) then 19 else 0) := key
    rw [key]
    cases (errS [] l == 0) <;> rfl
end
/-! ### the law's check -/
section
variable {N : Nat} (hN : 4611686018427387904 ≤ N)
include hN
theorem l2e_v {l : List Vol} (hl : l.length ≤ 48) (h : ∀ v, v ∈ l → volE v = 0) : law_sectorsError.l2 N l N 0 = some (bif rowA [] l then 19 else 0) := by
  refine list_loop (σ := Unit) (l := l) (fun k _ i => law_sectorsError.l2 N l k i) (fun pre r _ => some (bif rowA pre r then 19 else 0)) (fun _ _ => True) (fun k _ _ => law_sectorsError.l2_nil N l k) (fun k pre x r _ hl' _ ih => ?_) N () trivial (by omega)
  have h1 := mid_lt hl'
  have hx := h x (by rw [hl']; simp)
  have ih : law_sectorsError.l2 N l k ((pre.length : Int) + 1) = some (bif rowA (pre ++ [x]) r then 19 else 0) := ih () trivial
  show law_sectorsError.l2 N l (k + 1) (pre.length : Int) = some (bif pre.any (fun y => vov x y) || rowA (pre ++ [x]) r then 19 else 0)
  rw [law_sectorsError.l2_cons N l k hl' (by omega)]
  have ht : l.take pre.length = pre := mid_take hl'
  have := scan_list (l := pre) (fun y => vov x y) (some 19) (law_sectorsError.l2 N l k ((pre.length : Int) + 1)) (fun k' i => law_sectorsError.l3 N l k (pre.length : Int) k' i)
    (fun k' => by
      show law_sectorsError.l3 N l k (pre.length : Int) (k' + 1) (pre.length : Int) = _
      rw [law_sectorsError.l3_clean, show decide ((pre.length : Int) < (pre.length : Int)) = false by simp, cond_false, w_small _ (by omega) (by omega)])
    (fun k' pr y s hl2 => by
      have h2 := mid_lt hl2
      have hym : y ∈ pre := by rw [hl2]; simp
      have hy := h y (by rw [hl']; exact List.mem_append_left _ hym)
      have hg : List.getD l pr.length ([], (0, 0)) = y := by
        have := mid_get (d := (([], (0, 0)) : Vol)) hl2
        rw [← this, hl', List.getD_eq_getElem?_getD, List.getD_eq_getElem?_getD, List.getElem?_append_left h2]
      show law_sectorsError.l3 N l k (pre.length : Int) (k' + 1) (pr.length : Int) = _
      rw [law_sectorsError.l3_clean, bchk (by simp; omega), Int.toNat_natCast, Int.toNat_natCast, mid_get hl', hg, vov_v hN hy hx, Option.bind_some, w_small ((pr.length : Int) + 1) (by omega) (by omega), vov_comm hy hx]
      have c1 : decide ((pr.length : Int) < (pre.length : Int)) = true := by rw [decide_eq_true_iff]; omega
      have c2 : decide (pr.length < l.length) = true := by rw [decide_eq_true_iff]; omega
      have c3 : ((decide (0 ≤ (pre.length : Int))) && (decide ((pre.length : Int) < (l.length : Int)))) = true := by simp; omega
      have c4 : decide (pre.length < l.length) = true := by rw [decide_eq_true_iff]; omega
      rw [c1, c2, c3, c4]
      rfl) N (by omega)
  rw [this, ih]
  cases pre.any (fun y => vov x y) <;> rfl
theorem errL_v (l : List Sec) : law_sectorsError.fn N l = some (secE l) := by
  rw [law_sectorsError.eq]
  unfold secE
  cases h12 : decide ((l.length : Int) > 12) with
  | true => rfl
  | false =>
    simp only [decide_eq_false_iff_not] at h12
    rw [cond_false, cond_false]
    have key := list_loop (σ := List ByteArray × List Vol) (l := l) (fun k s i => law_sectorsError.l0 N l k i s.1 s.2) (fun pre r s => bif !(errS s.1 r == 0) then some (errS s.1 r) else some (bif rowA [] (rooms l) then 19 else 0))
      (fun pre s => s.1 = pre.map (·.1) ∧ s.2 = rooms pre ∧ ∀ x, x ∈ pre → oneE x = 0)
      (fun k s hI => by
        show law_sectorsError.l0 N l (k + 1) (l.length : Int) s.1 s.2 = some (bif rowA [] (rooms l) then 19 else 0)
        rw [law_sectorsError.l0_nil, hI.2.1, l2e_v hN (by have := rooms_len (l := l) fun s hs => (oneE_zero (hI.2.2 s hs)).1; omega) (rooms_ok hI.2.2)])
      (fun k pre x r s hl' hI ih => by
        have h1 := mid_lt hl'
        obtain ⟨i1, i2, i3⟩ := hI
        have hs1 : s.1.length = pre.length := by rw [i1]; simp
        have hs2 : s.2.length ≤ 4 * pre.length := by rw [i2]; exact rooms_len fun y hy => (oneE_zero (i3 y hy)).1
        show law_sectorsError.l0 N l (k + 1) (pre.length : Int) s.1 s.2 = bif !((bif !(oneE x == 0) then oneE x else bif s.1.any (fun n => seq n x.1) then 7 else errS (s.1 ++ [x.1]) r) == 0) then some (bif !(oneE x == 0) then oneE x else bif s.1.any (fun n => seq n x.1) then 7 else errS (s.1 ++ [x.1]) r) else some (bif rowA [] (rooms l) then 19 else 0)
        rw [law_sectorsError.l0_cons N l k s.1 s.2 hl' (by omega), ref_IsName.v hN, Option.bind_some]
        cases hn : isName x.1 with
        | false =>
          have : oneE x = 3 := by unfold oneE; rw [hn]; rfl
          rw [this]; rfl
        | true =>
          cases h0 : ((x.2.length : Int) == 0) with
          | true =>
            have : oneE x = 8 := by unfold oneE; rw [hn, h0]; rfl
            rw [this]; rfl
          | false =>
            cases h4 : decide ((x.2.length : Int) > 4) with
            | true =>
              have : oneE x = 2 := by unfold oneE; rw [hn, h0, h4]; rfl
              rw [this]; rfl
            | false =>
              have hone : oneE x = firstE volE x.2 := by unfold oneE; rw [hn, h0, h4]; rfl
              simp only [decide_eq_false_iff_not] at h4
              simp only [Bool.not_true, cond_false]
              have hg : (List.getD l (Int.toNat (pre.length : Int)) ((⟨#[]⟩ : ByteArray), [])) = x := by rw [Int.toNat_natCast]; exact mid_get hl'
              have hg2 : (List.getD l (Int.toNat (pre.length : Int)) ((⟨#[]⟩ : ByteArray), [])).2 = x.2 := by rw [hg]
              have hg1 : (List.getD l (Int.toNat (pre.length : Int)) ((⟨#[]⟩ : ByteArray), [])).1 = x.1 := by rw [hg]
              have := first_loop (l := (List.getD l (Int.toNat (pre.length : Int)) ((⟨#[]⟩ : ByteArray), [])).2) (f := volE) (fun k' i => law_sectorsError.l1 N l k (pre.length : Int) s.1 s.2 k' i)
                (bif s.1.any (fun n => seq n x.1) then some 7 else law_sectorsError.l0 N l k ((pre.length : Int) + 1) (s.1 ++ [x.1]) (s.2 ++ x.2))
                (fun k' => by
                  show law_sectorsError.l1 N l k (pre.length : Int) s.1 s.2 (k' + 1) _ = _
                  rw [law_sectorsError.l1_nil, hg1, hasN_v hN _ _ (by omega), Option.bind_some, hg2,
                    bchk (show (decide ((s.1.length + 1) * 16 ≤ 140737488355328) && decide ((s.1.length + 1) ≤ maxLen)) = true by rw [Bool.and_eq_true, decide_eq_true_iff, decide_eq_true_iff]; unfold maxLen; omega),
                    bchk (show (decide ((s.2.length + x.2.length) * 40 ≤ 140737488355328) && decide ((s.2.length + x.2.length) ≤ maxLen)) = true by rw [Bool.and_eq_true, decide_eq_true_iff, decide_eq_true_iff]; unfold maxLen; omega),
                    w_small _ (by omega) (by omega)])
                (fun k' pr y q hl2 => by
                  show law_sectorsError.l1 N l k (pre.length : Int) s.1 s.2 (k' + 1) _ = _
                  rw [law_sectorsError.l1_cons N l k _ s.1 s.2 k' hl2 (by rw [hg2]; omega), volE_v hN, Option.bind_some]) N (by rw [hg2]; omega)
              rw [this, hg2, hone]
              cases hf : (firstE volE x.2 == 0) with
              | false => simp only [Bool.not_false, cond_true, hf]
              | true =>
                simp only [Bool.not_true, cond_false]
                cases ha : s.1.any (fun n => seq n x.1) with
                | true => rfl
                | false =>
                  have ih : law_sectorsError.l0 N l k ((pre.length : Int) + 1) (s.1 ++ [x.1]) (s.2 ++ x.2) = _ := ih (s.1 ++ [x.1], s.2 ++ x.2) ⟨by rw [i1, List.map_append]; rfl, by rw [i2]; unfold rooms; rw [List.flatMap_append]; simp, fun y hy => by
                    rw [List.mem_append, List.mem_singleton] at hy
                    rcases hy with hy | rfl
                    · exact i3 y hy
                    · rw [hone]; exact beq_iff_eq.1 hf⟩
                  rw [cond_false, cond_false, ih]) N ([], []) ⟨rfl, rfl, fun x hx => by cases hx⟩ (by omega)
    have key : law_sectorsError.l0 N l N 0 [] [] = bif !(errS [] l == 0) then some (errS [] l) else some (bif rowA [] (rooms l) then 19 else 0) := key
    rw [key]
    cases (errS [] l == 0) <;> rfl

/-! ### which sector has a point -/
end
def hasB (at_ : Pt) (h : Int) (v : Vol) : Bool := (has v at_ h).1 && ((has v at_ h).2 == 0)
def inS (at_ : Pt) (h : Int) (s : Sec) : Bool := s.2.any (hasB at_ h)
def plc (l : List Sec) (at_ : Pt) (h : Int) : Int := idxL (inS at_ h) l 0
section
variable {N : Nat} (hN : 4611686018427387904 ≤ N)
include hN
theorem plc_v {l : List Sec} (hl : l.length < 4611686018427387904) (hr : ∀ s, s ∈ l → s.2.length < 4611686018427387904) (at_ : Pt) (h : Int) : sector_Place.fn N (l, at_, h) = some (plc l at_ h) := by
  rw [sector_Place.eq]
  refine find_list (l := l) (inS at_ h) (fun k i => sector_Place.l0 N l at_ h k i) (fun k => sector_Place.l0_nil N l at_ h k) (fun k pre x r hl' => ?_) N (by omega)
  have h1 := mid_lt hl'
  show sector_Place.l0 N l at_ h (k + 1) (pre.length : Int) = _
  have hg : (List.getD l (Int.toNat (pre.length : Int)) ((⟨#[]⟩ : ByteArray), [])).2 = x.2 := by rw [Int.toNat_natCast, mid_get hl']
  have hx := hr x (by rw [hl']; simp)
  rw [sector_Place.l0_cons N l at_ h k hl' hl]
  have := scan_list (l := (List.getD l (Int.toNat (pre.length : Int)) ((⟨#[]⟩ : ByteArray), [])).2) (hasB at_ h) (some (pre.length : Int)) (sector_Place.l0 N l at_ h k ((pre.length : Int) + 1)) (fun k' i => sector_Place.l1 N l at_ h k (pre.length : Int) k' i)
    (fun k' => by show sector_Place.l1 N l at_ h k (pre.length : Int) (k' + 1) _ = _; rw [sector_Place.l1_nil, w_small _ (by omega) (by omega)])
    (fun k' pr y s hl2 => by
      show sector_Place.l1 N l at_ h k (pre.length : Int) (k' + 1) _ = _
      rw [sector_Place.l1_cons N l at_ h k _ k' hl2 (by rw [hg]; exact hx), has_v hN]
      rfl) N (by rw [hg]; omega)
  rw [this, hg]
  rfl
/-- The last that is met from behind is the first. -/
theorem place_v {l : List Sec} (hl : l.length < 4611686018427387904) (hr : ∀ s, s ∈ l → s.2.length < 4611686018427387904) (at_ : Pt) (h : Int) : law_place.fn N (l, at_, h) = some (plc l at_ h) := by
  rw [law_place.eq]
  have inner : ∀ (k : Nat) {pre r : List Sec} {x : Sec} (a : Int), l = pre ++ x :: r → law_place.l1 N l at_ h k (pre.length : Int) N a 0 = law_place.l0 N l at_ h k (bif inS at_ h x then (pre.length : Int) else a) ((pre.length : Int) - 1) := by
    intro k pre r x a hl'
    have h1 := mid_lt hl'
    have hg : (List.getD l (Int.toNat (pre.length : Int)) ((⟨#[]⟩ : ByteArray), [])).2 = x.2 := by rw [Int.toNat_natCast, mid_get hl']
    have hx := hr x (by rw [hl']; simp)
    have := list_loop (l := (List.getD l (Int.toNat (pre.length : Int)) ((⟨#[]⟩ : ByteArray), [])).2) (fun k' (s : Int) i => law_place.l1 N l at_ h k (pre.length : Int) k' s i) (fun _ r s => law_place.l0 N l at_ h k (bif r.any (hasB at_ h) then (pre.length : Int) else s) ((pre.length : Int) - 1)) (fun _ _ => True)
      (fun k' s _ => by show law_place.l1 N l at_ h k (pre.length : Int) (k' + 1) s _ = _; rw [law_place.l1_nil, w_small _ (by omega) (by omega)]; rfl)
      (fun k' pr y q s hl2 _ ih => by
        show law_place.l1 N l at_ h k (pre.length : Int) (k' + 1) s (pr.length : Int) = _
        have i1 := ih (pre.length : Int) trivial
        have i2 := ih s trivial
        rw [law_place.l1_cons N l at_ h k _ k' s hl2 (by rw [hg]; exact hx), has_v hN, Option.bind_some, Bool.and_comm]
        show (bif hasB at_ h y then _ else _) = law_place.l0 N l at_ h k (bif hasB at_ h y || q.any (hasB at_ h) then (pre.length : Int) else s) ((pre.length : Int) - 1)
        cases hasB at_ h y with
        | true => rw [cond_true, i1]; cases q.any (hasB at_ h) <;> rfl
        | false => rw [cond_false, i2]; rfl) N a trivial (by rw [hg]; omega)
    rw [this, hg]
    rfl
  have idx_app : ∀ (p : Sec → Bool) (pre r : List Sec) (j : Int), 0 ≤ j → idxL p (pre ++ r) j = bif idxL p pre j == -1 then idxL p r (j + pre.length) else idxL p pre j := by
    intro p pre
    induction pre with
    | nil => intro r j _; simp [idxL]
    | cons x pre ih =>
      intro r j hj
      · show (bif p x then j else idxL p (pre ++ r) (j + 1)) = bif (bif p x then j else idxL p pre (j + 1)) == -1 then idxL p r (j + ((x :: pre).length : Nat)) else (bif p x then j else idxL p pre (j + 1))
        cases hp : p x with
        | true =>
          simp only [cond_true]
          rw [show (j == -1) = false by rw [beq_eq_false_iff_ne]; omega]; rfl
        | false =>
          simp only [cond_false]
          rw [ih r (j + 1) (by omega), List.length_cons, show j + 1 + (pre.length : Int) = j + ((pre.length + 1 : Nat) : Int) by push_cast; omega]
  have outer : ∀ (m : Nat) (k : Nat) (a : Int), m ≤ l.length → m < k → law_place.l0 N l at_ h k a ((m : Int) - 1) = some (bif idxL (inS at_ h) (l.take m) 0 == -1 then a else idxL (inS at_ h) (l.take m) 0) := by
    intro m
    induction m with
    | zero =>
      intro k a _ hk
      obtain ⟨k, rfl⟩ : ∃ k', k = k' + 1 := ⟨k - 1, by omega⟩
      rw [law_place.l0_succ]
      rfl
    | succ m ih =>
      intro k a hm hk
      obtain ⟨k, rfl⟩ : ∃ k', k = k' + 1 := ⟨k - 1, by omega⟩
      obtain ⟨pre, x, r, hl', hp⟩ : ∃ pre x r, l = pre ++ x :: r ∧ pre.length = m := by
        refine ⟨l.take m, l[m], l.drop (m + 1), ?_, by simp; omega⟩
        rw [← List.drop_eq_getElem_cons (by omega), List.take_append_drop]
      subst hp
      have e : ((pre.length + 1 : Nat) : Int) - 1 = (pre.length : Int) := by omega
      rw [e, law_place.l0_succ, show decide ((pre.length : Int) ≥ 0) = true by simp, cond_true, bchk (by simp; omega), inner k a hl', ih k _ (by omega) (by omega)]
      have ht : l.take pre.length = pre := mid_take hl'
      have ht2 : l.take (pre.length + 1) = pre ++ [x] := by rw [hl', show pre ++ x :: r = (pre ++ [x]) ++ r by simp]; exact List.take_left' (by simp)
      rw [ht, ht2]
      have q := idx_app (inS at_ h) pre [x] 0 (Int.le_refl _)
      · rw [q]
        cases h5 : (idxL (inS at_ h) pre 0 == -1) with
        | false => simp only [cond_false, h5]
        | true =>
          simp only [cond_true]
          show some (bif inS at_ h x then (pre.length : Int) else a) = some (bif (bif inS at_ h x then (0 + (pre.length : Int)) else -1) == -1 then a else (bif inS at_ h x then (0 + (pre.length : Int)) else -1))
          cases inS at_ h x with
          | true =>
            simp only [cond_true, Int.zero_add]
            rw [show (((pre.length : Int)) == -1) = false by rw [beq_eq_false_iff_ne]; omega]; rfl
          | false => rfl
  rw [w_small _ (by omega) (by omega), outer l.length N (-1) (Nat.le_refl _) (by omega), List.take_length]
  unfold plc
  cases h5 : (idxL (inS at_ h) l 0 == -1) with
  | false => rfl
  | true => rw [beq_iff_eq.1 h5]; rfl
end
/-! ### tubes -/
def tubL (l : List Nd) : Nat → List Nd → Int
  | _, [] => 0
  | i, x :: r => bif ((decide (x.1.1 < 0)) || (decide (x.1.1 > 200000))) || ((decide ((i : Int) > 0)) && (decide (x.1.1 ≤ (List.getD l (i - 1) ((0, ((0, 0), 0)), (0, 0))).1.1))) then 12 else
      bif !(ptE x.1.2.1 == 0) then ptE x.1.2.1 else bif (((((decide (x.1.2.2 < 0)) || (decide (x.1.2.2 > 60000))) || (decide (x.2.1 < 0))) || (decide (x.2.1 > 1000000))) || (decide (x.2.2 < 0))) || (decide (x.2.2 > 60000)) then 4 else tubL l (i + 1) r
def tubE (l : List Nd) : Int := bif decide ((l.length : Int) > 64) then 2 else bif (l.length : Int) == 0 then 3 else tubL l 0 l
theorem tubE_v {N : Nat} (hN : 4611686018427387904 ≤ N) (l : List Nd) : tube_Check.fn N l = some (tubE l) := by
  rw [tube_Check.eq]
  unfold tubE
  cases h1 : decide ((l.length : Int) > 64) with
  | true => rfl
  | false =>
    cases h2 : ((l.length : Int) == 0) with
    | true => rfl
    | false =>
      simp only [decide_eq_false_iff_not] at h1
      rw [cond_false, cond_false, cond_false, cond_false]
      refine list_loop (σ := Unit) (l := l) (fun k _ i => tube_Check.l0 N l k i) (fun pre r _ => some (tubL l pre.length r)) (fun _ _ => True) (fun k _ _ => tube_Check.l0_nil N l k) (fun k pre x r _ hl _ ih => ?_) N () trivial (by omega)
      have q1 := mid_lt hl
      have ih : tube_Check.l0 N l k ((pre.length : Int) + 1) = some (tubL l (pre ++ [x]).length r) := ih () trivial
      rw [List.length_append, List.length_singleton] at ih
      show tube_Check.l0 N l (k + 1) (pre.length : Int) = some (bif ((decide (x.1.1 < 0)) || (decide (x.1.1 > 200000))) || ((decide ((pre.length : Int) > 0)) && (decide (x.1.1 ≤ (List.getD l (pre.length - 1) ((0, ((0, 0), 0)), (0, 0))).1.1))) then 12 else _)
      have c : (((decide (0 ≤ (w ((pre.length : Int) - 1)))) && (decide ((w ((pre.length : Int) - 1)) < (l.length : Int)))) || !((!((decide (((x.1).1) < 0)) || (decide (((x.1).1) > 200000)))) && (decide ((pre.length : Int) > 0)))) = true := by
        by_cases h0 : pre.length = 0
        · rw [h0]; simp
        · rw [w_small _ (by omega) (by omega)]; simp; omega
      have e : (decide ((pre.length : Int) > 0) && decide (x.1.1 ≤ (List.getD l (Int.toNat (w ((pre.length : Int) - 1))) ((0, ((0, 0), 0)), (0, 0))).1.1)) = (decide ((pre.length : Int) > 0) && decide (x.1.1 ≤ (List.getD l (pre.length - 1) ((0, ((0, 0), 0)), (0, 0))).1.1)) := by
        by_cases h0 : pre.length = 0
        · rw [h0]; rfl
        · rw [w_small _ (by omega) (by omega), show ((pre.length : Int) - 1).toNat = pre.length - 1 by omega]
      rw [tube_Check.l0_cons N l k hl (by omega), bchk c, e, ptE_v, Option.bind_some, ih]
      generalize (((decide (x.1.1 < 0)) || (decide (x.1.1 > 200000))) || ((decide ((pre.length : Int) > 0)) && (decide (x.1.1 ≤ (List.getD l (pre.length - 1) ((0, ((0, 0), 0)), (0, 0))).1.1)))) = b1
      generalize (ptE x.1.2.1 == 0) = b2
      generalize ((((((decide (x.1.2.2 < 0)) || (decide (x.1.2.2 > 60000))) || (decide (x.2.1 < 0))) || (decide (x.2.1 > 1000000))) || (decide (x.2.2 < 0))) || (decide (x.2.2 > 60000))) = b3
      cases b1 <;> cases b2 <;> cases b3 <;> rfl
def tm (l : List Nd) (i : Nat) : Int := (List.getD l i ((0, ((0, 0), 0)), (0, 0))).1.1
theorem tubL_zero {l : List Nd} : ∀ (r pre : List Nd), l = pre ++ r → tubL l pre.length r = 0 → ∀ i, pre.length ≤ i → i < l.length → (0 ≤ tm l i ∧ tm l i ≤ 200000) ∧ (0 < i → tm l (i - 1) < tm l i) ∧ 0 ≤ (List.getD l i ((0, ((0, 0), 0)), (0, 0))).1.2.2 ∧ (List.getD l i ((0, ((0, 0), 0)), (0, 0))).1.2.2 ≤ 60000
  | [], pre, hl, _, i, h1, h2 => by rw [List.append_nil] at hl; subst hl; omega
  | x :: r, pre, hl, h, i, h1, h2 => by
    have h : (bif ((decide (x.1.1 < 0)) || (decide (x.1.1 > 200000))) || ((decide ((pre.length : Int) > 0)) && (decide (x.1.1 ≤ tm l (pre.length - 1)))) then 12 else
      bif !(ptE x.1.2.1 == 0) then ptE x.1.2.1 else bif (((((decide (x.1.2.2 < 0)) || (decide (x.1.2.2 > 60000))) || (decide (x.2.1 < 0))) || (decide (x.2.1 > 1000000))) || (decide (x.2.2 < 0))) || (decide (x.2.2 > 60000)) then 4 else tubL l (pre.length + 1) r) = 0 := h
    cases b1 : (((decide (x.1.1 < 0)) || (decide (x.1.1 > 200000))) || ((decide ((pre.length : Int) > 0)) && (decide (x.1.1 ≤ tm l (pre.length - 1))))) with
    | true => rw [b1] at h; cases h
    | false =>
      rw [b1] at h
      cases b2 : (ptE x.1.2.1 == 0) with
      | false => rw [b2] at h; have h : ptE x.1.2.1 = 0 := h; rw [h] at b2; cases b2
      | true =>
        rw [b2] at h
        cases b3 : ((((((decide (x.1.2.2 < 0)) || (decide (x.1.2.2 > 60000))) || (decide (x.2.1 < 0))) || (decide (x.2.1 > 1000000))) || (decide (x.2.2 < 0))) || (decide (x.2.2 > 60000))) with
        | true => rw [b3] at h; cases h
        | false =>
          rw [b3] at h
          have h : tubL l (pre.length + 1) r = 0 := h
          by_cases e : i = pre.length
          · subst e
            have hx : List.getD l pre.length ((0, ((0, 0), 0)), (0, 0)) = x := mid_get hl
            unfold tm at b1 ⊢
            rw [hx]
            simp only [Bool.or_eq_false_iff, Bool.and_eq_false_iff, decide_eq_false_iff_not] at b1 b3
            omega
          · exact tubL_zero r (pre ++ [x]) (by simp [hl]) (by rw [List.length_append, List.length_singleton]; exact h) i (by simp; omega) h2
structure TubOk (l : List Nd) : Prop where
  pos : 0 < l.length
  len : l.length ≤ 64
  time : ∀ i, i < l.length → 0 ≤ tm l i ∧ tm l i ≤ 200000
  up : ∀ i, 0 < i → i < l.length → tm l (i - 1) < tm l i
theorem tub_ok {l : List Nd} (h : tubE l = 0) : TubOk l := by
  unfold tubE at h
  cases h1 : decide ((l.length : Int) > 64) with
  | true => rw [h1] at h; cases h
  | false =>
    cases h2 : ((l.length : Int) == 0) with
    | true => rw [h1, h2] at h; cases h
    | false =>
      rw [h1, h2] at h
      have h : tubL l 0 l = 0 := h
      simp only [decide_eq_false_iff_not, beq_eq_false_iff_ne] at h1 h2
      have key := tubL_zero (l := l) l [] rfl h
      exact ⟨by omega, by omega, fun i hi => (key i (Nat.zero_le _) hi).1, fun i h0 hi => (key i (Nat.zero_le _) hi).2.1 h0⟩
/-! ### the node at a time -/
theorem divd_ex (N : Nat) (a b : Int) : ∃ v, num_DivDown.fn N (a, b) = some v := by
  rw [num_DivDown.clean]
  cases h : (b == 0) with
  | true => exact ⟨_, rfl⟩
  | false =>
    have h2 : (b != 0) = true := by rw [bne, h]; rfl
    rw [h2]
    cases ((a == (-9223372036854775808)) && (b == (-1))) with
    | true => exact ⟨_, rfl⟩
    | false => cases ((!((Int.tmod a b) == 0)) && (!((decide (a < 0)) == (decide (b < 0))))) <;> exact ⟨_, rfl⟩
theorem divu_ex (N : Nat) (a b : Int) (hb : b ≠ 0) : ∃ v, num_DivUp.fn N (a, b) = some v := by
  obtain ⟨v, hv⟩ := divd_ex N a b
  rw [num_DivUp.clean, hv, Option.bind_some, show (b != 0) = true by simpa using hb, Bool.true_or, cond_true]
  cases ((v.2 == 0) && (!((Int.tmod a b) == 0))) <;> exact ⟨_, rfl⟩
theorem betw_ex (N : Nat) (a b c d : Int) : ∃ v, tube_between.fn N (a, b, c, d) = some v := by
  obtain ⟨v, hv⟩ := divd_ex N (w ((w (b - a)) * c)) d
  rw [tube_between.eq, hv]
  exact ⟨_, rfl⟩
theorem abov_ex (N : Nat) (a b c d : Int) (hd : d ≠ 0) : ∃ v, tube_above.fn N (a, b, c, d) = some v := by
  obtain ⟨v, hv⟩ := divu_ex N (w ((w (b - a)) * c)) d hd
  rw [tube_above.eq, hv]
  exact ⟨_, rfl⟩
theorem tow_ex (N : Nat) (a b : Pt) (n d : Int) : ∃ v, plane_Toward.fn N (a, b, n, d) = some v := by
  rw [plane_Toward.clean]
  cases decide (d ≤ 0) with
  | true => exact ⟨_, rfl⟩
  | false =>
    obtain ⟨v1, h1⟩ := divd_ex N (w ((w (b.1 - a.1)) * n)) d
    obtain ⟨v2, h2⟩ := divd_ex N (w ((w (b.2 - a.2)) * n)) d
    rw [cond_false, ptE_v, ptE_v, h1, h2, bif_some, Option.bind_some, bif_some, Option.bind_some]
    simp only [Option.bind_some]
    generalize ((((decide (d > 200000)) || (decide (n < 0))) || (decide (n > d))) || (!((bif !(((decide (d > 200000)) || (decide (n < 0))) || (decide (n > d))) then ptE a else 0) == 0))) = q
    generalize (!((bif !q then ptE b else 0) == 0)) = q2
    cases q <;> cases q2 <;> exact ⟨_, rfl⟩
theorem at_l {N : Nat} {l : List Nd} (hl : TubOk l) {t : Int} (h1 : t ≤ tm l (l.length - 1)) : ∀ (m : Nat) (k : Nat) (i : Nat), i + m = l.length → 0 < m → tm l i ≤ t → m ≤ k → ∃ n, tube_at.l0 N l t k (i : Int) = some (n, 0) ∧ n.1.1 = t := by
  intro m
  induction m with
  | zero => intro k i _ h; omega
  | succ m ih =>
    intro k i hi _ ht hk
    obtain ⟨k, rfl⟩ : ∃ k', k = k' + 1 := ⟨k - 1, by omega⟩
    have hlen := hl.len
    have hw : w ((i : Int) + 1) = ((i + 1 : Nat) : Int) := by rw [w_small _ (by omega) (by omega)]; rfl
    have c : (((decide (0 ≤ (((i + 1 : Nat) : Int)))) && (decide ((((i + 1 : Nat) : Int)) < (l.length : Int)))) || !(decide ((((i + 1 : Nat) : Int)) < (l.length : Int)))) = true := by
      by_cases h : i + 1 < l.length <;> simp <;> omega
    rw [tube_at.l0_clean, hw, bchk c, Int.toNat_natCast, Int.toNat_natCast]
    by_cases hn : i + 1 < l.length ∧ tm l (i + 1) ≤ t
    · have c2 : ((decide ((((i + 1 : Nat) : Int)) < (l.length : Int))) && (decide ((((List.getD l (i + 1) ((0, ((0, 0), 0)), (0, 0))).1).1) ≤ t))) = true := by
        rw [Bool.and_eq_true, decide_eq_true_iff, decide_eq_true_iff]; exact ⟨by omega, hn.2⟩
      rw [c2, cond_true]
      exact ih k (i + 1) (by omega) (by omega) hn.2 (by omega)
    · have c2 : ((decide ((((i + 1 : Nat) : Int)) < (l.length : Int))) && (decide ((((List.getD l (i + 1) ((0, ((0, 0), 0)), (0, 0))).1).1) ≤ t))) = false := by
        rw [Bool.and_eq_false_iff, decide_eq_false_iff_not, decide_eq_false_iff_not]
        by_cases h : i + 1 < l.length
        · exact .inr fun h' => hn ⟨h, h'⟩
        · exact .inl (by omega)
      rw [c2, cond_false, bchk (by simp; omega)]
      cases he : ((((List.getD l i ((0, ((0, 0), 0)), (0, 0))).1).1) == t) with
      | true => exact ⟨_, rfl, beq_iff_eq.1 he⟩
      | false =>
        have hne : tm l i ≠ t := beq_eq_false_iff_ne.1 he
        have hi1 : i + 1 < l.length := by
          rcases Nat.lt_or_ge (i + 1) l.length with h | h
          · exact h
          · have e : l.length - 1 = i := by omega
            rw [e] at h1; omega
        have hup := hl.up (i + 1) (by omega) hi1
        have t1 := hl.time i (by omega)
        have t2 := hl.time (i + 1) hi1
        rw [Nat.add_sub_cancel] at hup
        have hd : w (((List.getD l (i + 1) ((0, ((0, 0), 0)), (0, 0))).1.1) - ((List.getD l i ((0, ((0, 0), 0)), (0, 0))).1.1)) ≠ 0 := by
          have e1 : (List.getD l (i + 1) ((0, ((0, 0), 0)), (0, 0))).1.1 = tm l (i + 1) := rfl
          have e2 : (List.getD l i ((0, ((0, 0), 0)), (0, 0))).1.1 = tm l i := rfl
          rw [e1, e2, w_small _ (by omega) (by omega)]
          omega
        rw [cond_false, bchk (by simp; omega)]
        obtain ⟨v1, e1⟩ := tow_ex N (((List.getD l i ((0, ((0, 0), 0)), (0, 0))).1).2).1 (((List.getD l (i + 1) ((0, ((0, 0), 0)), (0, 0))).1).2).1 (w (t - (((List.getD l i ((0, ((0, 0), 0)), (0, 0))).1).1))) (w ((((List.getD l (i + 1) ((0, ((0, 0), 0)), (0, 0))).1).1) - (((List.getD l i ((0, ((0, 0), 0)), (0, 0))).1).1)))
        obtain ⟨v2, e2⟩ := betw_ex N (((List.getD l i ((0, ((0, 0), 0)), (0, 0))).1).2).2 (((List.getD l (i + 1) ((0, ((0, 0), 0)), (0, 0))).1).2).2 (w (t - (((List.getD l i ((0, ((0, 0), 0)), (0, 0))).1).1))) (w ((((List.getD l (i + 1) ((0, ((0, 0), 0)), (0, 0))).1).1) - (((List.getD l i ((0, ((0, 0), 0)), (0, 0))).1).1)))
        obtain ⟨v3, e3⟩ := abov_ex N ((List.getD l i ((0, ((0, 0), 0)), (0, 0))).2).1 ((List.getD l (i + 1) ((0, ((0, 0), 0)), (0, 0))).2).1 (w (t - (((List.getD l i ((0, ((0, 0), 0)), (0, 0))).1).1))) (w ((((List.getD l (i + 1) ((0, ((0, 0), 0)), (0, 0))).1).1) - (((List.getD l i ((0, ((0, 0), 0)), (0, 0))).1).1))) hd
        obtain ⟨v4, e4⟩ := abov_ex N ((List.getD l i ((0, ((0, 0), 0)), (0, 0))).2).2 ((List.getD l (i + 1) ((0, ((0, 0), 0)), (0, 0))).2).2 (w (t - (((List.getD l i ((0, ((0, 0), 0)), (0, 0))).1).1))) (w ((((List.getD l (i + 1) ((0, ((0, 0), 0)), (0, 0))).1).1) - (((List.getD l i ((0, ((0, 0), 0)), (0, 0))).1).1))) hd
        rw [e1, Option.bind_some, e2, Option.bind_some, e3, Option.bind_some, e4, Option.bind_some]
        exact ⟨_, rfl, rfl⟩
theorem last_ok {l : List Nd} (hl : TubOk l) : w ((l.length : Int) - 1) = ((l.length - 1 : Nat) : Int) := by
  have := hl.pos; have := hl.len
  rw [w_small _ (by omega) (by omega)]; omega
theorem at_ok {N : Nat} (hN : 4611686018427387904 ≤ N) {l : List Nd} (hl : TubOk l) {t : Int} (h0 : tm l 0 ≤ t) (h1 : t ≤ tm l (l.length - 1)) : ∃ n, tube_at.fn N (l, t) = some (n, 0) ∧ n.1.1 = t := by
  have hp := hl.pos
  have hlen := hl.len
  rw [tube_at.clean, bchk (by rw [decide_eq_true_iff]; omega), last_ok hl, Int.toNat_natCast]
  have c : (((decide (0 ≤ ((l.length - 1 : Nat) : Int))) && (decide (((l.length - 1 : Nat) : Int) < (l.length : Int)))) || !(!(decide (t < (((List.getD l 0 ((0, ((0, 0), 0)), (0, 0))).1).1))))) = true := by
    rw [show decide (0 ≤ ((l.length - 1 : Nat) : Int)) = true by rw [decide_eq_true_iff]; omega, show decide (((l.length - 1 : Nat) : Int) < (l.length : Int)) = true by rw [decide_eq_true_iff]; omega]; rfl
  have c2 : ((decide (t < (((List.getD l 0 ((0, ((0, 0), 0)), (0, 0))).1).1))) || (decide (t > (((List.getD l (l.length - 1) ((0, ((0, 0), 0)), (0, 0))).1).1)))) = false := by
    rw [Bool.or_eq_false_iff, decide_eq_false_iff_not, decide_eq_false_iff_not]
    exact ⟨Int.not_lt.2 h0, Int.not_lt.2 h1⟩
  rw [bchk c, c2, cond_false]
  exact at_l hl h1 l.length N 0 (by omega) hp h0 (by omega)
/-- Outside of its times a tube has none. -/
theorem at_out {N : Nat} (hN : 4611686018427387904 ≤ N) {l : List Nd} (hl : TubOk l) {t : Int} (h : t < tm l 0 ∨ tm l (l.length - 1) < t) : tube_at.fn N (l, t) = some (((0, ((0, 0), 0)), (0, 0)), 12) := by
  have hp := hl.pos
  have hlen := hl.len
  rw [tube_at.clean, bchk (by rw [decide_eq_true_iff]; omega), last_ok hl, Int.toNat_natCast]
  have c : (((decide (0 ≤ ((l.length - 1 : Nat) : Int))) && (decide (((l.length - 1 : Nat) : Int) < (l.length : Int)))) || !(!(decide (t < (((List.getD l 0 ((0, ((0, 0), 0)), (0, 0))).1).1))))) = true := by
    rw [show decide (0 ≤ ((l.length - 1 : Nat) : Int)) = true by rw [decide_eq_true_iff]; omega, show decide (((l.length - 1 : Nat) : Int) < (l.length : Int)) = true by rw [decide_eq_true_iff]; omega]; rfl
  have c2 : ((decide (t < (((List.getD l 0 ((0, ((0, 0), 0)), (0, 0))).1).1))) || (decide (t > (((List.getD l (l.length - 1) ((0, ((0, 0), 0)), (0, 0))).1).1)))) = true := by
    rw [Bool.or_eq_true, decide_eq_true_iff, decide_eq_true_iff]
    exact h
  rw [bchk c, c2]
  rfl
theorem secE_small {l : List Sec} (hs : secE l = 0) : l.length ≤ 12 ∧ ∀ s, s ∈ l → s.2.length ≤ 4 := by
  unfold secE at hs
  cases h12 : decide ((l.length : Int) > 12) with
  | true => rw [h12] at hs; cases hs
  | false =>
    rw [h12] at hs
    simp only [decide_eq_false_iff_not] at h12
    refine ⟨by omega, ?_⟩
    cases he : (errS [] l == 0) with
    | false => rw [he] at hs; have hs : errS [] l = 0 := hs; rw [hs] at he; cases he
    | true => exact fun s hs => (oneE_zero (errS_zero (beq_iff_eq.1 he) s hs)).1
/-! ### the way through the sectors -/
abbrev Vis := Int × Int × Int
def stepV (acc : List Vis) (i t : Int) : List Vis :=
  bif (decide ((acc.length : Int) > 0)) && ((List.getD acc (acc.length - 1) (0, (0, 0))).1 == i) then
    List.set acc (acc.length - 1) ((List.getD acc (acc.length - 1) (0, (0, 0))).1, ((List.getD acc (acc.length - 1) (0, (0, 0))).2.1, t)) else acc ++ [(i, (t, t))]
def pathS (f : Int → Int) : Nat → Int → List Vis → List Vis
  | 0, _, acc => acc
  | m + 1, t, acc => pathS f m (t + 1) (stepV acc (f t) t)
theorem stepV_len (acc : List Vis) (i t : Int) : (stepV acc i t).length ≤ acc.length + 1 := by
  unfold stepV
  cases ((decide ((acc.length : Int) > 0)) && ((List.getD acc (acc.length - 1) (0, (0, 0))).1 == i)) <;> simp
theorem pathS_len (f : Int → Int) : ∀ (m : Nat) (t : Int) (acc : List Vis), (pathS f m t acc).length ≤ acc.length + m
  | 0, _, _ => Nat.le_refl _
  | m + 1, t, acc => by
    have h1 := pathS_len f m (t + 1) (stepV acc (f t) t)
    have h2 := stepV_len acc (f t) t
    show (pathS f m (t + 1) (stepV acc (f t) t)).length ≤ _
    omega
noncomputable def nodeAt (N : Nat) (x : List Nd) (t : Int) : Nd := ((tube_at.fn N (x, t)).getD (((0, ((0, 0), 0)), (0, 0)), 0)).1
noncomputable def plf (N : Nat) (l : List Sec) (x : List Nd) (t : Int) : Int := plc l (nodeAt N x t).1.2.1 (nodeAt N x t).1.2.2
theorem at_node {N : Nat} (hN : 4611686018427387904 ≤ N) {l : List Nd} (hl : TubOk l) {t : Int} (h0 : tm l 0 ≤ t) (h1 : t ≤ tm l (l.length - 1)) : tube_at.fn N (l, t) = some (nodeAt N l t, 0) ∧ (nodeAt N l t).1.1 = t := by
  obtain ⟨n, hn, ht⟩ := at_ok hN hl h0 h1
  unfold nodeAt
  rw [hn]
  exact ⟨rfl, ht⟩
section
variable {N : Nat} (hN : 4611686018427387904 ≤ N)
include hN
theorem path_l {l : List Sec} (hl : l.length < 4611686018427387904) (hr : ∀ s, s ∈ l → s.2.length < 4611686018427387904) {x : List Nd} (hx : TubOk x) : ∀ (m k : Nat) (t : Int) (acc : List Vis), t + m = tm x (x.length - 1) + 1 → tm x 0 ≤ t → m < k → acc.length + m ≤ 1000000 →
    sector_Path.l0 N l x k t acc = some (pathS (plf N l x) m t acc, 0) := by
  have hp := hx.pos
  have hlen := hx.len
  have t2 := hx.time (x.length - 1) (by omega)
  have c0 : ((decide (0 ≤ (w ((x.length : Int) - 1)))) && (decide ((w ((x.length : Int) - 1)) < (x.length : Int)))) = true := by rw [last_ok hx]; simp; omega
  intro m
  induction m with
  | zero =>
    intro k t acc ht h0 hk ha
    obtain ⟨k, rfl⟩ : ∃ k', k = k' + 1 := ⟨k - 1, by omega⟩
    rw [sector_Path.l0_clean, bchk c0, last_ok hx, Int.toNat_natCast]
    have : decide (t ≤ (((List.getD x (x.length - 1) ((0, ((0, 0), 0)), (0, 0))).1).1)) = false := by
      rw [decide_eq_false_iff_not]; show ¬ t ≤ tm x (x.length - 1); omega
    rw [this]; rfl
  | succ m ih =>
    intro k t acc ht h0 hk ha
    obtain ⟨k, rfl⟩ : ∃ k', k = k' + 1 := ⟨k - 1, by omega⟩
    have t1 := hx.time 0 hp
    have hle : t ≤ tm x (x.length - 1) := by omega
    obtain ⟨e1, e2⟩ := at_node hN hx h0 hle
    have hw : w (t + 1) = t + 1 := w_small _ (by omega) (by omega)
    rw [sector_Path.l0_clean, bchk c0, last_ok hx, Int.toNat_natCast]
    have c1 : decide (t ≤ (((List.getD x (x.length - 1) ((0, ((0, 0), 0)), (0, 0))).1).1)) = true := by
      rw [decide_eq_true_iff]; show t ≤ tm x (x.length - 1); omega
    rw [c1, cond_true, e1, Option.bind_some, plc_v hN hl hr, Option.bind_some, e2, hw]
    show _ = some (pathS (plf N l x) m (t + 1) (stepV acc (plf N l x t) t), 0)
    have hcap : (decide ((acc.length + 1) * 24 ≤ 140737488355328) && decide ((acc.length + 1) ≤ maxLen)) = true := by rw [Bool.and_eq_true, decide_eq_true_iff, decide_eq_true_iff]; unfold maxLen; omega
    have hgo := ih k (t + 1) (stepV acc (plf N l x t) t) (by omega) (by omega) (by omega) (by have := stepV_len acc (plf N l x t) t; omega)
    rw [← hgo]
    show _ = sector_Path.l0 N l x k (t + 1) (stepV acc (plf N l x t) t)
    have hpl : plc l (nodeAt N x t).1.2.1 (nodeAt N x t).1.2.2 = plf N l x t := rfl
    rw [hpl]
    generalize plf N l x t = i
    unfold stepV
    by_cases h : acc.length = 0
    · rw [h]
      have hcap' : (decide ((0 + 1) * 24 ≤ 140737488355328) && decide ((0 + 1) ≤ maxLen)) = true := by rw [← h]; exact hcap
      rw [hcap']
      rfl
    · have hw2 : w ((acc.length : Int) - 1) = ((acc.length - 1 : Nat) : Int) := by rw [w_small _ (by omega) (by omega)]; omega
      rw [hw2, Int.toNat_natCast]
      have d1 : decide (0 ≤ ((acc.length - 1 : Nat) : Int)) = true := by rw [decide_eq_true_iff]; omega
      have d2 : decide (((acc.length - 1 : Nat) : Int) < (acc.length : Int)) = true := by rw [decide_eq_true_iff]; omega
      have d3 : decide (acc.length - 1 < acc.length) = true := by rw [decide_eq_true_iff]; omega
      have d4 : decide ((acc.length : Int) > 0) = true := by rw [decide_eq_true_iff]; omega
      rw [d1, d2, d3, d4, hcap]
      simp only [Bool.true_and, Bool.true_or, cond_true]
      cases ((List.getD acc (acc.length - 1) (0, (0, 0))).1 == i) <;> rfl
theorem path_v {l : List Sec} (hl : l.length < 4611686018427387904) (hr : ∀ s, s ∈ l → s.2.length < 4611686018427387904) (hs : secE l = 0) {x : List Nd} (hx0 : tubE x = 0) (hd : tm x (x.length - 1) - tm x 0 ≤ 20000) :
    sector_Path.fn N (l, x) = some (pathS (plf N l x) (tm x (x.length - 1) - tm x 0 + 1).toNat (tm x 0) [], 0) := by
  have hx := tub_ok hx0
  have hp := hx.pos
  have hlen := hx.len
  have t1 := hx.time 0 hp
  have t2 := hx.time (x.length - 1) (by omega)
  have c0 : ((decide (0 ≤ ((x.length - 1 : Nat) : Int))) && (decide (((x.length - 1 : Nat) : Int) < (x.length : Int)))) = true := by simp; omega
  have c1 : decide ((w ((((List.getD x (x.length - 1) ((0, ((0, 0), 0)), (0, 0))).1).1) - (((List.getD x 0 ((0, ((0, 0), 0)), (0, 0))).1).1))) > 20000) = false := by
    rw [decide_eq_false_iff_not]
    show ¬ w (tm x (x.length - 1) - tm x 0) > 20000
    rw [w_small _ (by omega) (by omega)]
    omega
  have mono : tm x 0 ≤ tm x (x.length - 1) := by
    have : ∀ i, i < x.length → tm x 0 ≤ tm x i := by
      intro i
      induction i with
      | zero => intro _; exact Int.le_refl _
      | succ i ih => intro h; have h1 := ih (by omega); have h2 := hx.up (i + 1) (by omega) h; rw [Nat.add_sub_cancel] at h2; omega
    exact this _ (by omega)
  rw [sector_Path.eq, secE_v hN, hs, Option.bind_some, show (!((0 : Int) == 0)) = false from rfl, cond_false, tubE_v hN, hx0, Option.bind_some, show (!((0 : Int) == 0)) = false from rfl, cond_false, last_ok hx, bchk c0, bchk (by rw [decide_eq_true_iff]; omega), Int.toNat_natCast, c1, cond_false,
    Option.bind_some, show (!((0 : Int) == 0)) = false from rfl, cond_false, bchk (by rw [decide_eq_true_iff]; omega)]
  exact path_l hN hl hr hx _ N (tm x 0) [] (by omega) (Int.le_refl _) (by omega) (by simp; omega)
end
/-! ### the fact -/
def twoS : List Sec := [((⟨#[65]⟩ : ByteArray), [([(0, 0), (10, 0), (10, 10), (0, 10)], (0, 100))]), ((⟨#[66]⟩ : ByteArray), [([(10, 0), (20, 0), (20, 10), (10, 10)], (0, 100))])]
def strT : List Nd := [((0, ((5, 5), 50)), (0, 0)), ((10, ((15, 5), 50)), (0, 0))]
theorem two_v (N : Nat) : law_two.fn N () = some twoS := by kernel_rfl
theorem str_v (N : Nat) : law_straight.fn N (5, 15) = some strT := law_straight.eq N 5 15
theorem twoE : secE twoS = 0 := by kernel_rfl
theorem strE : tubE strT = 0 := by kernel_rfl
theorem node_f (M : Nat) : nodeAt (M + 16) strT 0 = ((0, ((5, 5), 50)), (0, 0)) ∧ nodeAt (M + 16) strT 1 = ((1, ((6, 5), 50)), (0, 0)) ∧ nodeAt (M + 16) strT 2 = ((2, ((7, 5), 50)), (0, 0)) ∧ nodeAt (M + 16) strT 3 = ((3, ((8, 5), 50)), (0, 0)) ∧
    nodeAt (M + 16) strT 4 = ((4, ((9, 5), 50)), (0, 0)) ∧ nodeAt (M + 16) strT 5 = ((5, ((10, 5), 50)), (0, 0)) ∧ nodeAt (M + 16) strT 6 = ((6, ((11, 5), 50)), (0, 0)) ∧ nodeAt (M + 16) strT 7 = ((7, ((12, 5), 50)), (0, 0)) ∧
    nodeAt (M + 16) strT 8 = ((8, ((13, 5), 50)), (0, 0)) ∧ nodeAt (M + 16) strT 9 = ((9, ((14, 5), 50)), (0, 0)) ∧ nodeAt (M + 16) strT 10 = ((10, ((15, 5), 50)), (0, 0)) :=
  ⟨by kernel_rfl, by kernel_rfl, by kernel_rfl, by kernel_rfl, by kernel_rfl, by kernel_rfl, by kernel_rfl, by kernel_rfl, by kernel_rfl, by kernel_rfl, by kernel_rfl⟩
theorem path_f (M : Nat) : pathS (plf (M + 16) twoS strT) 11 0 [] = [(0, (0, 5)), (1, (6, 10))] := by
  obtain ⟨h0, h1, h2, h3, h4, h5, h6, h7, h8, h9, h10⟩ := node_f M
  have p0 : plf (M + 16) twoS strT 0 = 0 := by unfold plf; rw [h0]; kernel_rfl
  have p1 : plf (M + 16) twoS strT 1 = 0 := by unfold plf; rw [h1]; kernel_rfl
  have p2 : plf (M + 16) twoS strT 2 = 0 := by unfold plf; rw [h2]; kernel_rfl
  have p3 : plf (M + 16) twoS strT 3 = 0 := by unfold plf; rw [h3]; kernel_rfl
  have p4 : plf (M + 16) twoS strT 4 = 0 := by unfold plf; rw [h4]; kernel_rfl
  have p5 : plf (M + 16) twoS strT 5 = 0 := by unfold plf; rw [h5]; kernel_rfl
  have p6 : plf (M + 16) twoS strT 6 = 1 := by unfold plf; rw [h6]; kernel_rfl
  have p7 : plf (M + 16) twoS strT 7 = 1 := by unfold plf; rw [h7]; kernel_rfl
  have p8 : plf (M + 16) twoS strT 8 = 1 := by unfold plf; rw [h8]; kernel_rfl
  have p9 : plf (M + 16) twoS strT 9 = 1 := by unfold plf; rw [h9]; kernel_rfl
  have p10 : plf (M + 16) twoS strT 10 = 1 := by unfold plf; rw [h10]; kernel_rfl
  generalize plf (M + 16) twoS strT = f at p0 p1 p2 p3 p4 p5 p6 p7 p8 p9 p10
  have e : ∀ (m : Nat) (t : Int) (acc : List Vis), pathS f (m + 1) t acc = pathS f m (t + 1) (stepV acc (f t) t) := fun _ _ _ => rfl
  rw [e, p0, e, show (0 : Int) + 1 = 1 from rfl, p1, e, show (1 : Int) + 1 = 2 from rfl, p2, e, show (2 : Int) + 1 = 3 from rfl, p3, e, show (3 : Int) + 1 = 4 from rfl, p4, e, show (4 : Int) + 1 = 5 from rfl, p5, e, show (5 : Int) + 1 = 6 from rfl, p6,
    e, show (6 : Int) + 1 = 7 from rfl, p7, e, show (7 : Int) + 1 = 8 from rfl, p8, e, show (8 : Int) + 1 = 9 from rfl, p9, e, show (9 : Int) + 1 = 10 from rfl, p10]
  rfl
theorem nod_len {l : List Nd} (h : Wf Try.prog (.sl 44 (.pair (.pair (.int .i64) (.pair (.pair (.int .i64) (.int .i64)) (.int .i64))) (.pair (.int .i64) (.int .i64)))) l) : l.length < 4611686018427387904 := by
  have := wf_sl_len h (by have : Try.prog.bytesOf 44 = 48 := by kernel_rfl
                          rw [this]; omega)
  simp -implicitDefEqProofs [reachBytes] at this
  omega
abbrev tSec : Ty := .sl 106 (.pair (.str) (.sl 113 (.pair (.sl 29 (.pair (.int .i64) (.int .i64))) (.pair (.int .i64) (.int .i64)))))
/-! ### lists told by a function -/
def tb {α : Type} (n : Nat) (f : Nat → α) : List α := (List.range n).map f
def up {α : Type} (f : Nat → α) (i : Nat) (v : α) : Nat → α := fun j => if j = i then v else f j
theorem tb_len {α : Type} (n : Nat) (f : Nat → α) : (tb n f).length = n := by simp [tb]
theorem tb_at {α : Type} {n : Nat} (f : Nat → α) {i : Nat} (h : i < n) : (tb n f)[i]? = some (f i) := by simp [tb, h]
theorem tb_get {α : Type} {n : Nat} (f : Nat → α) {i : Nat} (h : i < n) (d : α) : List.getD (tb n f) i d = f i := by rw [List.getD_eq_getElem?_getD, tb_at f h]; rfl
theorem tb_congr {α : Type} {n : Nat} {f g : Nat → α} (h : ∀ i, i < n → f i = g i) : tb n f = tb n g := by
  unfold tb
  exact List.map_congr_left fun i hi => h i (List.mem_range.1 hi)
theorem tb_set {α : Type} {n : Nat} (f : Nat → α) (i : Nat) (v : α) : List.set (tb n f) i v = tb n (up f i v) := by
  apply List.ext_getElem?
  intro j
  rw [List.getElem?_set, tb_len]
  by_cases hj : j < n
  · rw [tb_at (up f i v) hj]
    by_cases e : i = j
    · subst e; rw [if_pos rfl, if_pos hj]; simp [up]
    · rw [if_neg e, tb_at f hj]; unfold up; rw [if_neg (Ne.symm e)]
  · have e1 : (tb n (up f i v))[j]? = none := List.getElem?_eq_none (by rw [tb_len]; omega)
    have e2 : (tb n f)[j]? = none := List.getElem?_eq_none (by rw [tb_len]; omega)
    rw [e1, e2]
    by_cases e : i = j
    · subst e; rw [if_pos rfl, if_neg hj]
    · rw [if_neg e]
theorem tb_rep {α : Type} (n : Nat) (v : α) : List.replicate n v = tb n (fun _ => v) := by
  unfold tb; rw [List.map_const', List.length_range]
theorem tb_take {α : Type} (n : Nat) (f : Nat → α) : List.take n (tb (n + 1) f) = tb n f := by
  unfold tb
  rw [List.range_succ, List.map_append, List.take_append_of_le_length (by simp), List.take_of_length_le (by simp)]
theorem tb_inc {n : Nat} {f : Nat → Int} {i : Nat} (h : i < n) (h0 : 0 ≤ f i) (h1 : f i ≤ 1000000) : List.set (tb n f) i (w (List.getD (tb n f) i 0 + 1)) = tb n (up f i (f i + 1)) := by
  rw [tb_get f h, w_small _ (by omega) (by omega), tb_set]
theorem ok2 {n : Nat} (i : Nat) (h : i < n) : ((decide (0 ≤ (i : Int))) && (decide ((i : Int) < (n : Int)))) = true := by
  rw [Bool.and_eq_true, decide_eq_true_iff, decide_eq_true_iff]; omega
theorem ok1 {n i : Nat} (h : i < n) : decide (i < n) = true := decide_eq_true h
theorem ok3 {n : Nat} (h : n ≤ 1000000) : ((((decide (0 ≤ (n : Int))) && ((n : Int) == (n : Int))) && (decide ((n : Int) ≤ 9223372036854775807))) && (decide (((n : Int) * 8) ≤ 140737488355328))) = true := by
  simp; omega
/-! ### the check -/
def loadE (l : List Sec) (ts : List (List Nd)) : Int := bif !(secE l == 0) then secE l else bif decide ((ts.length : Int) > 24) then 2 else firstE tubE ts
theorem lchk_v {N : Nat} (hN : 4611686018427387904 ≤ N) (l : List Sec) (ts : List (List Nd)) : load_check.fn N (l, ts) = some (loadE l ts) := by
  rw [load_check.eq, secE_v hN, Option.bind_some]
  unfold loadE
  cases hs : (secE l == 0) with
  | false => rfl
  | true =>
    cases h : decide ((ts.length : Int) > 24) with
    | true => rfl
    | false =>
      simp only [decide_eq_false_iff_not] at h
      rw [show (!true) = false from rfl, cond_false, cond_false, cond_false, cond_false]
      rw [first_loop (l := ts) (f := tubE) (fun k i => load_check.l0 N ts k i) (some 0) (fun k => load_check.l0_nil N ts k) (fun k pre x r hl => by rw [load_check.l0_cons N ts k hl (by omega), tubE_v hN, Option.bind_some]) N (by omega)]
      cases h : (firstE tubE ts == 0) with
      | false => rfl
      | true => rw [beq_iff_eq.1 h]; rfl
theorem lerr_v {N : Nat} (hN : 4611686018427387904 ≤ N) (l : List Sec) (ts : List (List Nd)) : law_loadError.fn N (l, ts) = some (loadE l ts) := by
  rw [law_loadError.eq, errL_v hN, Option.bind_some]
  unfold loadE
  cases hs : (secE l == 0) with
  | false => rfl
  | true =>
    cases h : decide ((ts.length : Int) > 24) with
    | true => rfl
    | false =>
      simp only [decide_eq_false_iff_not] at h
      rw [show (!true) = false from rfl, cond_false, cond_false, cond_false, cond_false]
      rw [first_loop (l := ts) (f := tubE) (fun k i => law_loadError.l0 N ts k i) (some 0) (fun k => law_loadError.l0_nil N ts k) (fun k pre x r hl => by rw [law_loadError.l0_cons N ts k hl (by omega), tubE_v hN, Option.bind_some]) N (by omega)]
      cases h : (firstE tubE ts == 0) with
      | false => rfl
      | true => rw [beq_iff_eq.1 h]; rfl
structure LoadOk (l : List Sec) (ts : List (List Nd)) : Prop where
  sec : secE l = 0
  len : l.length ≤ 12
  room : ∀ s, s ∈ l → s.2.length ≤ 4
  many : ts.length ≤ 24
  tub : ∀ x, x ∈ ts → tubE x = 0
theorem load_ok {l : List Sec} {ts : List (List Nd)} (h : loadE l ts = 0) : LoadOk l ts := by
  unfold loadE at h
  cases hs : (secE l == 0) with
  | false => rw [hs] at h; have h : secE l = 0 := h; rw [h] at hs; cases hs
  | true =>
    have hs0 := beq_iff_eq.1 hs
    rw [hs] at h
    cases h1 : decide ((ts.length : Int) > 24) with
    | true => rw [h1] at h; cases h
    | false =>
      rw [h1] at h
      simp only [decide_eq_false_iff_not] at h1
      obtain ⟨a, b⟩ := secE_small hs0
      exact ⟨hs0, a, b, by omega, firstE_zero h⟩
/-! ### the counts -/
theorem idxL_b {X : Type} (p : X → Bool) : ∀ (l : List X) (i : Int), 0 ≤ i → -1 ≤ idxL p l i ∧ idxL p l i < i + l.length
  | [], i, h => ⟨Int.le_refl _, by show (-1 : Int) < i + 0; omega⟩
  | x :: r, i, h => by
    have ih := idxL_b p r (i + 1) (by omega)
    show -1 ≤ (bif p x then i else idxL p r (i + 1)) ∧ (bif p x then i else idxL p r (i + 1)) < i + ((r.length + 1 : Nat) : Int)
    cases p x
    · rw [cond_false]; omega
    · rw [cond_true]; omega
theorem plf_b (N : Nat) (l : List Sec) (x : List Nd) (t : Int) : -1 ≤ plf N l x t ∧ plf N l x t < l.length := by
  have := idxL_b (inS (nodeAt N x t).1.2.1 (nodeAt N x t).1.2.2) l 0 (Int.le_refl _)
  rw [Int.zero_add] at this
  exact this
def skipT (t : Int) (x : List Nd) : Bool := (decide (t < (((List.getD x 0 ((0, ((0, 0), 0)), (0, 0))).1).1))) || (decide (t > (((List.getD x (x.length - 1) ((0, ((0, 0), 0)), (0, 0))).1).1)))
def slotP (n : Nat) (p : Int) : Nat := if p < 0 then n else p.toNat
def inc (f : Nat → Int) (i : Nat) : Nat → Int := up f i (f i + 1)
noncomputable def cntS (N : Nat) (l : List Sec) (t : Int) : List (List Nd) → (Nat → Int) → Nat → Int
  | [], f => f
  | x :: r, f => cntS N l t r (bif skipT t x then f else inc f (slotP l.length (plf N l x t)))
noncomputable def cnt (N : Nat) (l : List Sec) (ts : List (List Nd)) (t : Int) : Nat → Int := cntS N l t ts (fun _ => 0)
theorem inc_b {f : Nat → Int} {m : Nat} (h : ∀ j, 0 ≤ f j ∧ f j ≤ (m : Int)) (i : Nat) : ∀ j, 0 ≤ inc f i j ∧ inc f i j ≤ ((m + 1 : Nat) : Int) := by
  intro j
  have h1 := h j
  have h2 := h i
  unfold inc up
  by_cases e : j = i
  · rw [if_pos e]; omega
  · rw [if_neg e]; omega
theorem step_b {f : Nat → Int} {m : Nat} (h : ∀ j, 0 ≤ f j ∧ f j ≤ (m : Int)) (b : Bool) (i : Nat) : ∀ j, 0 ≤ (bif b then f else inc f i) j ∧ (bif b then f else inc f i) j ≤ ((m + 1 : Nat) : Int) := by
  cases b
  · exact inc_b h i
  · intro j; have := h j; rw [cond_true]; omega
theorem cntS_b (N : Nat) (l : List Sec) (t : Int) : ∀ (ts : List (List Nd)) (f : Nat → Int) (m : Nat), (∀ j, 0 ≤ f j ∧ f j ≤ (m : Int)) → ∀ j, 0 ≤ cntS N l t ts f j ∧ cntS N l t ts f j ≤ ((m + ts.length : Nat) : Int)
  | [], f, m, h => h
  | x :: r, f, m, h => by
    intro j
    have := cntS_b N l t r _ (m + 1) (step_b h (skipT t x) (slotP l.length (plf N l x t))) j
    rw [List.length_cons]
    rw [show m + (r.length + 1) = m + 1 + r.length by omega]
    exact this
theorem cnt_b (N : Nat) (l : List Sec) {ts : List (List Nd)} (h : ts.length ≤ 24) (t : Int) (j : Nat) : 0 ≤ cnt N l ts t j ∧ cnt N l ts t j ≤ 24 := by
  have := cntS_b N l t ts (fun _ => 0) 0 (fun _ => ⟨Int.le_refl _, Int.le_refl _⟩) j
  unfold cnt
  omega
theorem slot_b {N : Nat} {l : List Sec} {x : List Nd} {t : Int} : slotP l.length (plf N l x t) < l.length + 1 := by
  have := plf_b N l x t
  unfold slotP
  split <;> omega
section
variable {N : Nat} (hN : 4611686018427387904 ≤ N) {l : List Sec} {ts : List (List Nd)} (hL : LoadOk l ts)
include hN hL
theorem count_v (t : Int) : load_count.fn N (l, ts, t) = some (tb (l.length + 1) (cnt N l ts t)) := by
  have hlen := hL.len
  have hm := hL.many
  have hr1 : ∀ s, s ∈ l → s.2.length < 4611686018427387904 := fun s hs => by have := hL.room s hs; omega
  have hw : w ((l.length : Int) + 1) = ((l.length + 1 : Nat) : Int) := by rw [w_small _ (by omega) (by omega)]; rfl
  rw [load_count.eq, hw, bchk (ok3 (by omega)), Int.toNat_natCast, tb_rep]
  refine list_loop (l := ts) (fun k (f : Nat → Int) i => load_count.l0 N l ts t k i (tb (l.length + 1) f)) (fun pre r f => some (tb (l.length + 1) (cntS N l t r f))) (fun pre f => ∀ j, 0 ≤ f j ∧ f j ≤ (pre.length : Int))
    (fun k f _ => load_count.l0_nil N l ts t k _) (fun k pre x r f hl hI ih => ?_) N (fun _ => 0) (fun _ => ⟨Int.le_refl _, Int.le_refl _⟩) (by omega)
  have h1 := mid_lt hl
  have hx0 := hL.tub x (by rw [hl]; simp)
  have hx := tub_ok hx0
  have hp := hx.pos
  have hxl := hx.len
  have e1 : ((decide (0 ≤ (w ((x.length : Int) - 1)))) && (decide ((w ((x.length : Int) - 1)) < (x.length : Int)))) = true := by rw [last_ok hx]; exact ok2 _ (by omega)
  have ih := ih (bif skipT t x then f else inc f (slotP l.length (plf N l x t))) (by rw [List.length_append, List.length_singleton]; exact step_b hI _ _)
  show load_count.l0 N l ts t (k + 1) (pre.length : Int) (tb (l.length + 1) f) = some (tb (l.length + 1) (cntS N l t r (bif skipT t x then f else inc f (slotP l.length (plf N l x t)))))
  rw [← ih, load_count.l0_cons N l ts t k _ hl (by omega), bchk (by rw [decide_eq_true_iff]; omega), e1, Bool.true_or, cond_true, last_ok hx, Int.toNat_natCast, Int.toNat_natCast]
  show (bif skipT t x then _ else _) = _
  cases hsk : skipT t x with
  | true => rfl
  | false =>
    unfold skipT at hsk
    rw [Bool.or_eq_false_iff, decide_eq_false_iff_not, decide_eq_false_iff_not] at hsk
    have h0 : tm x 0 ≤ t := Int.not_lt.1 hsk.1
    have h2 : t ≤ tm x (x.length - 1) := Int.not_lt.1 hsk.2
    obtain ⟨a1, _⟩ := at_node hN hx h0 h2
    rw [cond_false, cond_false, tube_Point.eq, a1, Option.bind_some, Option.bind_some, plc_v hN (by omega) hr1, Option.bind_some]
    have hpl : plc l (nodeAt N x t).1.2.1 (nodeAt N x t).1.2.2 = plf N l x t := rfl
    rw [hpl]
    have hb := plf_b N l x t
    have hI0 := hI l.length
    generalize plf N l x t = p at hb ⊢
    by_cases hneg : p < 0
    · rw [decide_eq_true hneg, cond_true, tb_len, bchk (ok2 _ (by omega)), bchk (ok1 (by omega)), bchk (ok2 _ (by omega)), bchk (ok1 (by omega)), tb_inc (by omega) hI0.1 (by omega), slotP, if_pos hneg]
      rfl
    · have hI1 := hI p.toNat
      obtain ⟨q, rfl⟩ : ∃ q : Nat, p = (q : Int) := ⟨p.toNat, by omega⟩
      rw [Int.toNat_natCast] at hI1
      rw [decide_eq_false hneg, cond_false, tb_len, Int.toNat_natCast, bchk (ok2 _ (by omega)), bchk (ok1 (by omega)), bchk (ok2 _ (by omega)), bchk (ok1 (by omega)), tb_inc (by omega) hI1.1 (by omega)]
      unfold slotP inc
      rw [if_neg hneg, Int.toNat_natCast]
theorem Count_v {t : Int} (hE : loadE l ts = 0) (h0 : 0 ≤ t) (h1 : t ≤ 200000) : load_Count.fn N (l, ts, t) = some (tb l.length (cnt N l ts t), cnt N l ts t l.length, 0) := by
  have hlen := hL.len
  have c : ((decide (t < 0)) || (decide (t > 200000))) = false := by rw [Bool.or_eq_false_iff, decide_eq_false_iff_not, decide_eq_false_iff_not]; omega
  have c2 : ((decide (0 ≤ (l.length : Int))) && (decide (0 + l.length ≤ l.length + 1))) = true := by simp
  rw [load_Count.clean, lchk_v hN, hE, Option.bind_some, c, cond_false, count_v hN hL, Option.bind_some, tb_len, Int.toNat_natCast, bchk c2, bchk (ok2 _ (by omega)), bchk (ok1 (by omega)), tb_take, tb_get _ (by omega)]
  rfl
theorem lawc_l {t : Int} (r2 : List Int × Int × Int) : law_LoadCounts.l1 N l ts t r2 N 0 0 (tb l.length (fun _ => 0)) =
    (bif (r2.2.2 == 0) then slices_Equal_int.fn N (r2.1, tb l.length (cnt N l ts t)) else some (false)).bind fun r11 => some (((r2.2.2 == 0) && r11) && (r2.2.1 == cnt N l ts t l.length)) := by
  have hlen := hL.len
  have hm := hL.many
  have hr1 : ∀ s, s ∈ l → s.2.length < 4611686018427387904 := fun s hs => by have := hL.room s hs; omega
  refine list_loop (l := ts) (fun k (f : Nat → Int) i => law_LoadCounts.l1 N l ts t r2 k (f l.length) i (tb l.length f)) (fun pre r f => (bif (r2.2.2 == 0) then slices_Equal_int.fn N (r2.1, tb l.length (cntS N l t r f)) else some (false)).bind fun r11 => some (((r2.2.2 == 0) && r11) && (r2.2.1 == cntS N l t r f l.length)))
    (fun pre f => ∀ j, 0 ≤ f j ∧ f j ≤ (pre.length : Int))
    (fun k f _ => law_LoadCounts.l1_nil N l ts t r2 k _ _) (fun k pre x r f hl hI ih => ?_) N (fun _ => 0) (fun _ => ⟨Int.le_refl _, Int.le_refl _⟩) (by omega)
  have h1 := mid_lt hl
  have hx0 := hL.tub x (by rw [hl]; simp)
  have hx := tub_ok hx0
  have hp := hx.pos
  have hxl := hx.len
  have ih := ih (bif skipT t x then f else inc f (slotP l.length (plf N l x t))) (by rw [List.length_append, List.length_singleton]; exact step_b hI _ _)
  show law_LoadCounts.l1 N l ts t r2 (k + 1) (f l.length) (pre.length : Int) (tb l.length f) = (bif (r2.2.2 == 0) then slices_Equal_int.fn N (r2.1, tb l.length (cntS N l t r (bif skipT t x then f else inc f (slotP l.length (plf N l x t))))) else some (false)).bind fun r11 => some (((r2.2.2 == 0) && r11) && (r2.2.1 == cntS N l t r (bif skipT t x then f else inc f (slotP l.length (plf N l x t))) l.length))
  rw [← ih, law_LoadCounts.l1_cons N l ts t r2 k _ _ hl (by omega), tube_At.eq, tubE_v hN, hx0, Option.bind_some, show (!((0 : Int) == 0)) = false from rfl, cond_false]
  cases hsk : skipT t x with
  | true =>
    unfold skipT at hsk
    rw [Bool.or_eq_true, decide_eq_true_iff, decide_eq_true_iff] at hsk
    have h : t < tm x 0 ∨ tm x (x.length - 1) < t := hsk
    rw [at_out hN hx h]
    rfl
  | false =>
    unfold skipT at hsk
    rw [Bool.or_eq_false_iff, decide_eq_false_iff_not, decide_eq_false_iff_not] at hsk
    have h0 : tm x 0 ≤ t := Int.not_lt.1 hsk.1
    have h2 : t ≤ tm x (x.length - 1) := Int.not_lt.1 hsk.2
    obtain ⟨a1, _⟩ := at_node hN hx h0 h2
    rw [a1, Option.bind_some, Option.bind_some]
    dsimp only
    rw [show (!((0 : Int) == 0)) = false from rfl, cond_false, place_v hN (by omega) hr1, Option.bind_some]
    have hpl : plc l (nodeAt N x t).1.2.1 (nodeAt N x t).1.2.2 = plf N l x t := rfl
    rw [hpl]
    have hb := plf_b N l x t
    have hI0 := hI l.length
    generalize plf N l x t = p at hb ⊢
    rw [cond_false]
    by_cases hneg : p < 0
    · have e0 : inc f (slotP l.length p) l.length = f l.length + 1 := by unfold slotP inc up; rw [if_pos hneg, if_pos rfl]
      have e1 : tb l.length (inc f (slotP l.length p)) = tb l.length f := tb_congr fun i hi => by unfold slotP inc up; rw [if_pos hneg, if_neg (by omega)]
      rw [decide_eq_false (by omega), cond_false, w_small _ (by omega) (by omega), e0, e1]
    · have hI1 := hI p.toNat
      obtain ⟨q, rfl⟩ : ∃ q : Nat, p = (q : Int) := ⟨p.toNat, by omega⟩
      rw [Int.toNat_natCast] at hI1
      have e0 : slotP l.length (q : Int) = q := by unfold slotP; rw [if_neg hneg, Int.toNat_natCast]
      have e2 : inc f q l.length = f l.length := by unfold inc up; rw [if_neg (by omega)]
      have c0 : decide ((q : Int) ≥ 0) = true := decide_eq_true (by omega)
      have c3 : decide ((q : Int) < (l.length : Int)) = true := decide_eq_true hb.2
      have c4 : decide (q < l.length) = true := decide_eq_true (by omega)
      rw [tb_len, Int.toNat_natCast, c0, c3, c4, tb_inc (by omega) hI1.1 (by omega), e0, e2]
      rfl
end
theorem LoadCounts.pureN {N : Nat} (hN : 4611686018427387904 ≤ N) (hf : law_loadFact.fn N () = some true) (l : List Sec) (ts : List (List Nd)) (t : Int) : law_LoadCounts.fn N (l, ts, t) = some true := by
  obtain ⟨M, hM⟩ : ∃ M, N = M + 1 := ⟨N - 1, by omega⟩
  have hj0 := fun (r : List Int × Int × Int) (e : Int) => law_LoadCounts.j0_clean N l ts t r e hM
  rw [law_LoadCounts.clean, hf, Option.bind_some, show (!true) = false from rfl, cond_false, lerr_v hN]
  cases hE : (loadE l ts == 0) with
  | false =>
    have hc : load_Count.fn N (l, ts, t) = some ([], 0, loadE l ts) := by rw [load_Count.clean, lchk_v hN, Option.bind_some, hE]; rfl
    rw [hc, Option.bind_some, Option.bind_some, hE, Bool.false_and, cond_false, hj0, hE, Bool.not_false, cond_true]
    simp
  | true =>
    have hE0 := beq_iff_eq.1 hE
    have hL := load_ok hE0
    have hlen := hL.len
    cases ht : ((decide (t < 0)) || (decide (t > 200000))) with
    | true =>
      have hc : load_Count.fn N (l, ts, t) = some ([], 0, 12) := by rw [load_Count.clean, lchk_v hN, Option.bind_some, hE, ht]; rfl
      rw [hc, Option.bind_some, Option.bind_some, hE, Bool.true_and, cond_true, hj0]
      rfl
    | false =>
      rw [Bool.or_eq_false_iff, decide_eq_false_iff_not, decide_eq_false_iff_not] at ht
      rw [Count_v hN hL hE0 (by omega) (by omega), Option.bind_some, Option.bind_some, hE, Bool.true_and, cond_false, hj0, hE, Bool.not_true, cond_false, bchk (ok3 (by omega)), Int.toNat_natCast, tb_rep, lawc_l hN hL, show ((0 : Int) == 0) = true from rfl, cond_true,
        slices_Equal_int.self hN _ (by rw [tb_len]; omega), Option.bind_some]
      simp
/-! ### spans -/
def spE (s : Int × Int) : Int := bif ((decide (s.1 < 0)) || (decide (s.2 > 200001))) || (decide (s.1 ≥ s.2)) then 12 else bif decide ((w (s.2 - s.1)) > 2000) then 2 else 0
theorem span_v (N : Nat) (s : Int × Int) : load_span.fn N s = some (spE s) := by
  rw [load_span.clean]; unfold spE
  cases (((decide (s.1 < 0)) || (decide (s.2 > 200001))) || (decide (s.1 ≥ s.2))) <;> cases decide ((w (s.2 - s.1)) > 2000) <;> rfl
theorem lspan_v (N : Nat) (s : Int × Int) : law_spanError.fn N s = some (spE s) := by
  rw [law_spanError.clean]; unfold spE
  show (bif (((decide (s.1 < 0)) || (decide (s.2 > 200001))) || (decide (s.1 ≥ s.2))) then _ else _) = _
  cases (((decide (s.1 < 0)) || (decide (s.2 > 200001))) || (decide (s.1 ≥ s.2))) <;> cases decide ((w (s.2 - s.1)) > 2000) <;> rfl
theorem sp_ok {s : Int × Int} (h : spE s = 0) : 0 ≤ s.1 ∧ s.2 ≤ 200001 ∧ s.1 < s.2 ∧ s.2 - s.1 ≤ 2000 := by
  unfold spE at h
  cases h1 : (((decide (s.1 < 0)) || (decide (s.2 > 200001))) || (decide (s.1 ≥ s.2))) with
  | true => rw [h1] at h; cases h
  | false =>
    rw [h1] at h
    simp only [Bool.or_eq_false_iff, decide_eq_false_iff_not] at h1
    cases h2 : decide ((w (s.2 - s.1)) > 2000) with
    | true => rw [h2] at h; cases h
    | false =>
      rw [decide_eq_false_iff_not, w_small _ (by omega) (by omega)] at h2
      omega
/-! ### the peaks -/
def mxF (g m : Nat → Int) : Nat → Int := fun j => if m j < g j then g j else m j
def fsF (g m f : Nat → Int) (t : Int) : Nat → Int := fun j => if m j < g j then t else f j
def pkS (G : Int → Nat → Int) : Nat → Int → (Nat → Int) → (Nat → Int) → (Nat → Int) × (Nat → Int)
  | 0, _, m, f => (m, f)
  | c + 1, t, m, f => pkS G c (t + 1) (mxF (G t) m) (fsF (G t) m f t)
/-- What was met until t. -/
structure PkI (G : Int → Nat → Int) (s t : Int) (m f : Nat → Int) (j : Nat) : Prop where
  le : ∀ u, s ≤ u → u < t → G u j ≤ m j
  st : t = s → m j = 0 ∧ f j = s
  at_ : s < t → s ≤ f j ∧ f j < t ∧ G (f j) j = m j ∧ ∀ u, s ≤ u → u < f j → G u j < m j
  nn : 0 ≤ m j
theorem pk_inv {G : Int → Nat → Int} {s : Int} {j : Nat} (hG : ∀ u, 0 ≤ G u j) : ∀ (c : Nat) (t : Int) (m f : Nat → Int), s ≤ t → PkI G s t m f j → PkI G s (t + c) (pkS G c t m f).1 (pkS G c t m f).2 j
  | 0, t, m, f, _, h => by rw [show t + ((0 : Nat) : Int) = t by omega]; exact h
  | c + 1, t, m, f, ht, h => by
    rw [show t + ((c + 1 : Nat) : Int) = t + 1 + (c : Int) by omega]
    refine pk_inv hG c (t + 1) _ _ (by omega) ?_
    have hg := hG t
    by_cases hlt : m j < G t j
    · have e1 : mxF (G t) m j = G t j := if_pos hlt
      have e2 : fsF (G t) m f t j = t := if_pos hlt
      refine ⟨fun u h1 h2 => ?_, fun h1 => by omega, fun _ => ?_, by rw [e1]; exact hg⟩
      · rw [e1]
        by_cases e : u = t
        · subst e; exact Int.le_refl _
        · have := h.le u h1 (by omega); omega
      · rw [e1, e2]
        exact ⟨ht, by omega, rfl, fun u h1 h2 => by have := h.le u h1 h2; omega⟩
    · have e1 : mxF (G t) m j = m j := if_neg hlt
      have e2 : fsF (G t) m f t j = f j := if_neg hlt
      refine ⟨fun u h1 h2 => ?_, fun h1 => by omega, fun _ => ?_, by rw [e1]; exact h.nn⟩
      · rw [e1]
        by_cases e : u = t
        · subst e; omega
        · exact h.le u h1 (by omega)
      · rw [e1, e2]
        by_cases e : t = s
        · obtain ⟨a, b⟩ := h.st e
          rw [b]
          exact ⟨Int.le_refl _, by omega, by rw [← e]; omega, fun u h1 h2 => by omega⟩
        · obtain ⟨a, b, c, d⟩ := h.at_ (by omega)
          exact ⟨a, by omega, c, d⟩
theorem pk_fin {G : Int → Nat → Int} {s : Int} {j : Nat} (hG : ∀ u, 0 ≤ G u j) (c : Nat) : PkI G s (s + c) (pkS G c s (fun _ => 0) (fun _ => s)).1 (pkS G c s (fun _ => 0) (fun _ => s)).2 j :=
  pk_inv hG c s _ _ (Int.le_refl _) ⟨fun u h1 h2 => by omega, fun _ => ⟨rfl, rfl⟩, fun h => by omega, Int.le_refl _⟩
section
variable {N : Nat} (hN : 4611686018427387904 ≤ N) {l : List Sec} {ts : List (List Nd)} (hL : LoadOk l ts)
include hN hL
theorem pk_l2 {s : Int × Int} (k6 : Nat) {t : Int} (h0 : 0 ≤ t) (h1 : t ≤ 200001) (g m f : Nat → Int) :
    load_Peaks.l2 N l ts s k6 t (tb (l.length + 1) g) N 0 (tb l.length m) (tb l.length f) = load_Peaks.l1 N l ts s k6 (t + 1) (tb l.length (mxF g m)) (tb l.length (fsF g m f t)) := by
  have hlen := hL.len
  refine range_loop (σ := (Nat → Int) × (Nat → Int)) (n := l.length) (fun k p i => load_Peaks.l2 N l ts s k6 t (tb (l.length + 1) g) k i (tb l.length p.1) (tb l.length p.2)) (fun _ _ => load_Peaks.l1 N l ts s k6 (t + 1) (tb l.length (mxF g m)) (tb l.length (fsF g m f t)))
    (fun i p => ∀ j, j < l.length → (j < i → p.1 j = mxF g m j ∧ p.2 j = fsF g m f t j) ∧ (i ≤ j → p.1 j = m j ∧ p.2 j = f j)) (fun k p hI => ?_) (fun k i p hi hI ih => ?_) N (m, f) 0 (Nat.zero_le _) (fun j _ => ⟨fun h => absurd h (Nat.not_lt_zero _), fun _ => ⟨rfl, rfl⟩⟩) (by omega)
  · show load_Peaks.l2 N l ts s k6 t (tb (l.length + 1) g) (k + 1) (l.length : Int) (tb l.length p.1) (tb l.length p.2) = _
    rw [load_Peaks.l2_succ, Int.toNat_natCast, decide_eq_false (Int.lt_irrefl _), cond_false, w_small _ (by omega) (by omega), tb_congr fun j hj => ((hI j hj).1 hj).1, tb_congr (f := p.2) fun j hj => ((hI j hj).1 hj).2]
  · have hw : w ((i : Int) + 1) = (i : Int) + 1 := w_small _ (by omega) (by omega)
    obtain ⟨i1, i2⟩ := (hI i hi).2 (Nat.le_refl _)
    have c1 : decide ((i : Int) < (l.length : Int)) = true := decide_eq_true (by omega)
    have c2 : decide (0 ≤ (i : Int)) = true := decide_eq_true (by omega)
    have c3 : decide (i < l.length) = true := decide_eq_true hi
    have c4 : decide (0 + i < l.length + 1) = true := decide_eq_true (by omega)
    have g1 : List.getD (tb (l.length + 1) g) (0 + i) 0 = g i := by rw [Nat.zero_add, tb_get _ (by omega)]
    have g2 : List.getD (tb l.length p.1) i 0 = m i := by rw [tb_get _ hi, i1]
    show load_Peaks.l2 N l ts s k6 t (tb (l.length + 1) g) (k + 1) (i : Int) (tb l.length p.1) (tb l.length p.2) = _
    rw [load_Peaks.l2_succ]
    simp -implicitDefEqProofs only [Int.toNat_natCast, tb_len, c1, c2, c3, c4, g1, g2, Bool.and_self, cond_true, hw, tb_set]
    by_cases h : m i < g i
    · rw [decide_eq_true (show g i > m i from h), cond_true]
      refine ih (up p.1 i (g i), up p.2 i t) fun j hj => ?_
      dsimp only
      refine ⟨fun hji => ?_, fun hij => ?_⟩
      · by_cases e : j = i
        · subst e; exact ⟨by rw [show up p.1 j (g j) j = g j from if_pos rfl]; exact (if_pos h).symm, by rw [show up p.2 j t j = t from if_pos rfl]; exact (if_pos h).symm⟩
        · rw [show up p.1 i (g i) j = p.1 j from if_neg e, show up p.2 i t j = p.2 j from if_neg e]
          exact (hI j hj).1 (by omega)
      · rw [show up p.1 i (g i) j = p.1 j from if_neg (by omega), show up p.2 i t j = p.2 j from if_neg (by omega)]
        exact (hI j hj).2 (by omega)
    · rw [decide_eq_false (show ¬ g i > m i from h), cond_false]
      refine ih p fun j hj => ⟨fun hji => ?_, fun hij => (hI j hj).2 (by omega)⟩
      by_cases e : j = i
      · subst e; exact ⟨by rw [i1]; exact (if_neg h).symm, by rw [i2]; exact (if_neg h).symm⟩
      · exact (hI j hj).1 (by omega)
theorem pk_l1 {s : Int × Int} (hs : s.2 ≤ 200001) : ∀ (c k : Nat) (t : Int) (m f : Nat → Int), t + c = s.2 → 0 ≤ t → c < k →
    load_Peaks.l1 N l ts s k t (tb l.length m) (tb l.length f) = some (tb l.length (pkS (cnt N l ts) c t m f).1, tb l.length (pkS (cnt N l ts) c t m f).2, 0) := by
  have hlen := hL.len
  intro c
  induction c with
  | zero =>
    intro k t m f ht h0 hk
    obtain ⟨k, rfl⟩ : ∃ k', k = k' + 1 := ⟨k - 1, by omega⟩
    rw [load_Peaks.l1_succ, decide_eq_false (by omega)]
    rfl
  | succ c ih =>
    intro k t m f ht h0 hk
    obtain ⟨k, rfl⟩ : ∃ k', k = k' + 1 := ⟨k - 1, by omega⟩
    have c2 : ((decide (0 ≤ (l.length : Int))) && (decide (0 + l.length ≤ l.length + 1))) = true := by simp
    rw [load_Peaks.l1_succ, decide_eq_true (by omega), cond_true, count_v hN hL, Option.bind_some, tb_len, Int.toNat_natCast, c2, cond_true, pk_l2 hN hL k h0 (by omega)]
    exact ih k (t + 1) _ _ (by omega) (by omega) (by omega)
theorem peaks_v {s : Int × Int} (hE : loadE l ts = 0) (hs : spE s = 0) : load_Peaks.fn N (l, ts, s) =
    some (tb l.length (pkS (cnt N l ts) (s.2 - s.1).toNat s.1 (fun _ => 0) (fun _ => s.1)).1, tb l.length (pkS (cnt N l ts) (s.2 - s.1).toNat s.1 (fun _ => 0) (fun _ => s.1)).2, 0) := by
  have hlen := hL.len
  obtain ⟨a1, a2, a3, a4⟩ := sp_ok hs
  rw [load_Peaks.eq, lchk_v hN, hE, Option.bind_some, show (!((0 : Int) == 0)) = false from rfl, cond_false, span_v, hs, Option.bind_some, show (!((0 : Int) == 0)) = false from rfl, cond_false, ok3 (by omega), cond_true, cond_true, Int.toNat_natCast, tb_rep]
  have key := range_loop (σ := Nat → Int) (n := l.length) (fun k f i => load_Peaks.l0 N l ts s k i (tb l.length f)) (fun _ _ => load_Peaks.l1 N l ts s N s.1 (tb l.length (fun _ => 0)) (tb l.length fun _ => s.1))
    (fun i f => ∀ j, j < i → f j = s.1) (fun k f hI => by
      show load_Peaks.l0 N l ts s (k + 1) (l.length : Int) (tb l.length f) = _
      rw [load_Peaks.l0_succ, Int.toNat_natCast, tb_rep, tb_len, decide_eq_false (Int.lt_irrefl _), cond_false, tb_congr (f := f) fun j hj => hI j hj]) (fun k i f hi hI ih => by
      have hw : w ((i : Int) + 1) = (i : Int) + 1 := w_small _ (by omega) (by omega)
      show load_Peaks.l0 N l ts s (k + 1) (i : Int) (tb l.length f) = _
      rw [load_Peaks.l0_succ, Int.toNat_natCast, tb_rep, tb_len, decide_eq_true (by omega), cond_true, tb_len, ok2 _ hi, cond_true, Int.toNat_natCast, ok1 hi, cond_true, hw, tb_set]
      refine ih _ fun j hj => ?_
      unfold up
      by_cases e : j = i
      · rw [if_pos e]
      · rw [if_neg e]; exact hI j (by omega)) N (fun _ => 0) 0 (Nat.zero_le _) (fun j h => absurd h (Nat.not_lt_zero _)) (by omega)
  refine Eq.trans key ?_
  exact pk_l1 hN hL a2 _ N s.1 _ _ (by omega) a1 (by omega)
/-! ### the law -/
theorem lpk_l3 {s : Int × Int} (r2 : List Int × List Int × Int) {M F : Nat → Int} (hr1 : r2.1 = tb l.length M) (hr2 : r2.2.1 = tb l.length F) (k5 : Nat) {t : Int} (h0 : 0 ≤ t) (h1 : t ≤ 200001) (g : Nat → Int)
    (hg : ∀ j, j < l.length → g j ≤ M j) (hF : ∀ j, j < l.length → (g j = M j → F j ≤ t) ∧ (F j = t → g j = M j)) :
    law_LoadPeaks.l3 N l ts s r2 k5 t (tb l.length g) N 0 (tb l.length fun j => decide (F j < t)) = law_LoadPeaks.l1 N l ts s r2 k5 (t + 1) (tb l.length fun j => decide (F j < t + 1)) := by
  have hlen := hL.len
  refine list_loop (σ := Nat → Bool) (l := l) (fun k b i => law_LoadPeaks.l3 N l ts s r2 k5 t (tb l.length g) k i (tb l.length b)) (fun _ _ _ => law_LoadPeaks.l1 N l ts s r2 k5 (t + 1) (tb l.length fun j => decide (F j < t + 1)))
    (fun pre b => ∀ j, j < l.length → (j < pre.length → b j = decide (F j < t + 1)) ∧ (pre.length ≤ j → b j = decide (F j < t))) (fun k b hI => ?_) (fun k pre x r b hl hI ih => ?_) N (fun j => decide (F j < t)) (fun j _ => ⟨fun h => absurd h (Nat.not_lt_zero _), fun _ => rfl⟩) (by omega)
  · show law_LoadPeaks.l3 N l ts s r2 k5 t (tb l.length g) (k + 1) (l.length : Int) (tb l.length b) = _
    rw [law_LoadPeaks.l3_nil, w_small _ (by omega) (by omega), tb_congr fun j hj => (hI j hj).1 hj]
  · have hi := mid_lt hl
    have hb := (hI pre.length hi).2 (Nat.le_refl _)
    have c1 : decide ((pre.length : Int) < (l.length : Int)) = true := decide_eq_true (by omega)
    have c3 : decide (pre.length < l.length) = true := decide_eq_true hi
    have g1 : List.getD (tb l.length g) pre.length 0 = g pre.length := tb_get _ hi _
    have g2 : List.getD (tb l.length M) pre.length 0 = M pre.length := tb_get _ hi _
    have g3 : List.getD (tb l.length F) pre.length 0 = F pre.length := tb_get _ hi _
    have g4 : List.getD (tb l.length b) pre.length false = decide (F pre.length < t) := (tb_get _ hi _).trans hb
    have hgi := hg pre.length hi
    obtain ⟨f1, f2⟩ := hF pre.length hi
    show law_LoadPeaks.l3 N l ts s r2 k5 t (tb l.length g) (k + 1) (pre.length : Int) (tb l.length b) = _
    rw [law_LoadPeaks.l3_cons N l ts s r2 k5 t _ k _ hl (by omega)]
    have q1 : decide (g pre.length > M pre.length) = false := decide_eq_false (by omega)
    have q2 : (((g pre.length == M pre.length) && (!decide (F pre.length < t))) && (!(F pre.length == t))) = false := by
      cases h1 : (g pre.length == M pre.length) with
      | false => rfl
      | true =>
        have := f1 (beq_iff_eq.1 h1)
        cases h2 : decide (F pre.length < t) with
        | true => rfl
        | false =>
          simp only [decide_eq_false_iff_not] at h2
          have : F pre.length = t := by omega
          rw [this]; simp
    have q3 : (decide (F pre.length < t) || (g pre.length == M pre.length)) = decide (F pre.length < t + 1) := by
      rw [Bool.eq_iff_iff, Bool.or_eq_true, decide_eq_true_iff, decide_eq_true_iff, beq_iff_eq]
      constructor
      · rintro (h | h)
        · omega
        · have := f1 h; omega
      · intro h
        by_cases e : F pre.length = t
        · exact .inr (f2 e)
        · exact .inl (by omega)
    rw [hr1, hr2]
    simp -implicitDefEqProofs only [tb_len, c1, c3, g1, g2, g3, g4, q1, q2, q3, Bool.true_or, Bool.false_or, cond_true, cond_false, tb_set]
    refine ih _ fun j hj => ⟨fun hji => ?_, fun hij => ?_⟩
    · rw [List.length_append, List.length_singleton] at hji
      unfold up
      by_cases e : j = pre.length
      · rw [if_pos e, e]
      · rw [if_neg e]; exact (hI j hj).1 (by omega)
    · rw [List.length_append, List.length_singleton] at hij
      unfold up
      rw [if_neg (by omega)]; exact (hI j hj).2 (by omega)
end
theorem cont_v {N : Nat} (hN : 4611686018427387904 ≤ N) {b : List Bool} (h : ∀ x, x ∈ b → x = true) (hb : b.length < 4611686018427387904) : slices_Contains_bool.fn N (b, false) = some false := by
  rw [slices_Contains_bool.eq, slices_Index_bool.eq]
  have := find_list (l := b) (fun x => false == x) (fun k i => slices_Index_bool.l0 N b false k i) (fun k => slices_Index_bool.l0_nil N b false k) (fun k pre x r hl => slices_Index_bool.l0_cons N b false k hl hb) N (by omega)
  rw [this]
  have e : ∀ (l : List Bool) (i : Int), (∀ x, x ∈ l → x = true) → idxL (fun x => false == x) l i = -1 := by
    intro l
    induction l with
    | nil => intro i _; rfl
    | cons y r ih =>
      intro i hx
      have hy := hx y (List.mem_cons_self ..)
      subst hy
      exact ih (i + 1) fun x h => hx x (List.mem_cons_of_mem _ h)
  rw [e b 0 h]
  rfl
section
variable {N : Nat} (hN : 4611686018427387904 ≤ N) {l : List Sec} {ts : List (List Nd)} (hL : LoadOk l ts)
include hN hL
theorem lpk_l1 {s : Int × Int} (hE : loadE l ts = 0) (hs0 : 0 ≤ s.1) (hs : s.2 ≤ 200001) (r2 : List Int × List Int × Int) {M F : Nat → Int} (hr1 : r2.1 = tb l.length M) (hr2 : r2.2.1 = tb l.length F)
    (hP : ∀ j, j < l.length → (∀ u, s.1 ≤ u → u < s.2 → cnt N l ts u j ≤ M j) ∧ F j < s.2 ∧ cnt N l ts (F j) j = M j ∧ ∀ u, s.1 ≤ u → u < F j → cnt N l ts u j < M j) :
    ∀ (c k : Nat) (t : Int), t + c = s.2 → s.1 ≤ t → c < k → law_LoadPeaks.l1 N l ts s r2 k t (tb l.length fun j => decide (F j < t)) = some true := by
  have hlen := hL.len
  obtain ⟨M', hM⟩ : ∃ M', N = M' + 1 := ⟨N - 1, by omega⟩
  intro c
  induction c with
  | zero =>
    intro k t ht h0 hk
    obtain ⟨k, rfl⟩ : ∃ k', k = k' + 1 := ⟨k - 1, by omega⟩
    rw [law_LoadPeaks.l1_clean, decide_eq_false (by omega), cond_false, cont_v hN (fun x hx => ?_) (by rw [tb_len]; omega)]
    · rfl
    · unfold tb at hx
      rw [List.mem_map] at hx
      obtain ⟨j, hj, rfl⟩ := hx
      have := (hP j (List.mem_range.1 hj)).2.1
      exact decide_eq_true (by omega)
  | succ c ih =>
    intro k t ht h0 hk
    obtain ⟨k, rfl⟩ : ∃ k', k = k' + 1 := ⟨k - 1, by omega⟩
    rw [law_LoadPeaks.l1_clean, decide_eq_true (by omega), cond_true, if_neg (by omega), Count_v hN hL hE (by omega) (by omega), Option.bind_some, decide_eq_false (show ¬ t > 200000 by omega), cond_false, law_LoadPeaks.j2_eq N l ts s r2 k t _ _ hM]
    have c1 : ((!((tb l.length (cnt N l ts t), cnt N l ts t l.length, (0 : Int)).2.2 == 0)) || (!(((tb l.length (cnt N l ts t), cnt N l ts t l.length, (0 : Int)).1.length : Int) == (l.length : Int)))) = false := by
      show ((!((0 : Int) == 0)) || (!(((tb l.length (cnt N l ts t)).length : Int) == (l.length : Int)))) = false
      rw [tb_len]; simp
    rw [c1, cond_false, lpk_l3 hN hL r2 hr1 hr2 k (by omega) (by omega) (cnt N l ts t) (fun j hj => (hP j hj).1 t h0 (by omega)) (fun j hj => ?_)]
    · exact ih k (t + 1) (by omega) (by omega) (by omega)
    · obtain ⟨p1, p2, p3, p4⟩ := hP j hj
      refine ⟨fun h => ?_, fun h => by rw [← h]; exact p3⟩
      rcases Int.lt_or_le t (F j) with h' | h'
      · have := p4 t h0 h'; omega
      · exact h'
end
theorem LoadPeaks.pureN {N : Nat} (hN : 4611686018427387904 ≤ N) (hf : law_loadFact.fn N () = some true) (l : List Sec) (ts : List (List Nd)) (s : Int × Int) : law_LoadPeaks.fn N (l, ts, s) = some true := by
  obtain ⟨M, hM⟩ : ∃ M, N = M + 1 := ⟨N - 1, by omega⟩
  have hj0 := fun (r : List Int × List Int × Int) (e : Int) => law_LoadPeaks.j0_clean N l ts s r e hM
  rw [law_LoadPeaks.eq, hf, Option.bind_some, show (!true) = false from rfl, cond_false, lerr_v hN]
  cases hE : (loadE l ts == 0) with
  | false =>
    have hc : load_Peaks.fn N (l, ts, s) = some ([], [], loadE l ts) := by rw [load_Peaks.eq, lchk_v hN, Option.bind_some, hE]; rfl
    rw [hc, Option.bind_some, Option.bind_some, hE, cond_false, hj0, hE, Bool.not_false, cond_true]
    show some ((loadE l ts == loadE l ts) && (w 0 == 0)) = some true
    rw [beq_self_eq_true]; rfl
  | true =>
    have hE0 := beq_iff_eq.1 hE
    have hL := load_ok hE0
    have hlen := hL.len
    cases hs : (spE s == 0) with
    | false =>
      have hc : load_Peaks.fn N (l, ts, s) = some ([], [], spE s) := by rw [load_Peaks.eq, lchk_v hN, Option.bind_some, hE, show (!true) = false from rfl, cond_false, span_v, Option.bind_some, hs]; rfl
      rw [hc, Option.bind_some, Option.bind_some, hE, cond_true, lspan_v, Option.bind_some, hj0, hs, Bool.not_false, cond_true]
      show some ((spE s == spE s) && (w 0 == 0)) = some true
      rw [beq_self_eq_true]; rfl
    | true =>
      have hs0 := beq_iff_eq.1 hs
      obtain ⟨a1, a2, a3, a4⟩ := sp_ok hs0
      rw [peaks_v hN hL hE0 hs0, Option.bind_some, Option.bind_some, hE, cond_true, lspan_v, Option.bind_some, hj0, hs0, show (!((0 : Int) == 0)) = false from rfl, cond_false]
      cases hlong : decide ((w (s.2 - s.1)) > 60) with
      | true => rfl
      | false =>
        have hP := fun j => pk_fin (G := cnt N l ts) (s := s.1) (j := j) (fun u => (cnt_b N l hL.many u j).1) (s.2 - s.1).toNat
        rw [show s.1 + ((s.2 - s.1).toNat : Int) = s.2 by omega] at hP
        generalize pkS (cnt N l ts) (s.2 - s.1).toNat s.1 (fun _ => 0) (fun _ => s.1) = P at hP ⊢
        dsimp only
        rw [cond_false, tb_len, tb_len, show (!((l.length : Int) == (l.length : Int))) = false by simp, Bool.or_false, Bool.or_false, cond_false]
        have c9 : ((((decide (0 ≤ (l.length : Int))) && ((l.length : Int) == (l.length : Int))) && (decide ((l.length : Int) ≤ 9223372036854775807))) && (decide (((l.length : Int) * 1) ≤ 140737488355328))) = true := by simp; omega
        rw [c9, cond_true, Int.toNat_natCast, tb_rep]
        have e : tb l.length (fun _ => false) = tb l.length fun j => decide (P.2 j < s.1) := tb_congr fun j _ => by
          have := (hP j).at_ a3
          exact (decide_eq_false (by omega)).symm
        rw [e]
        refine lpk_l1 hN hL hE0 a1 a2 (tb l.length P.1, tb l.length P.2, 0) rfl rfl (fun j hj => ?_) (s.2 - s.1).toNat N s.1 (by omega) (Int.le_refl _) (by omega)
        obtain ⟨b1, b2, b3, b4⟩ := (hP j).at_ a3
        exact ⟨(hP j).le, b2, b3, b4⟩
/-! ### the intervals -/
abbrev LO := Int × Int × Int
def sumL : List LO → Int
  | [] => 0
  | x :: r => (x.2.2 - x.2.1 + 1) + sumL r
def en (t : Int) (i j : Nat) : Int := if j < i then t + 1 else t
def rowC (ov : Nat → Bool) : Nat → Int
  | 0 => 0
  | i + 1 => rowC ov i + (bif ov i then 1 else 0)
def allC (ov : Int → Nat → Bool) (n : Nat) (s : Int) : Nat → Int
  | 0 => 0
  | c + 1 => allC ov n s c + rowC (ov (s + c)) n
theorem rowC_b (ov : Nat → Bool) : ∀ i : Nat, 0 ≤ rowC ov i ∧ rowC ov i ≤ (i : Int)
  | 0 => ⟨Int.le_refl _, Int.le_refl _⟩
  | i + 1 => by
    have := rowC_b ov i
    show 0 ≤ rowC ov i + (bif ov i then 1 else 0) ∧ rowC ov i + (bif ov i then 1 else 0) ≤ _
    cases ov i
    · rw [cond_false]; omega
    · rw [cond_true]; omega
theorem allC_b (ov : Int → Nat → Bool) {n : Nat} (hn : n ≤ 12) (s : Int) : ∀ c : Nat, 0 ≤ allC ov n s c ∧ allC ov n s c ≤ 12 * (c : Int)
  | 0 => ⟨Int.le_refl _, Int.le_refl _⟩
  | c + 1 => by
    have h1 := allC_b ov hn s c
    have h2 := rowC_b (ov (s + c)) n
    show 0 ≤ allC ov n s c + rowC (ov (s + c)) n ∧ allC ov n s c + rowC (ov (s + c)) n ≤ _
    omega
theorem sumL_app (a b : List LO) : sumL (a ++ b) = sumL a + sumL b := by
  induction a with
  | nil => show sumL b = 0 + sumL b; omega
  | cons x r ih => show (x.2.2 - x.2.1 + 1) + sumL (r ++ b) = (x.2.2 - x.2.1 + 1) + sumL r + sumL b; omega
theorem sumL_set : ∀ (l : List LO) (k : Nat) (x y : LO), l[k]? = some x → sumL (l.set k y) = sumL l - (x.2.2 - x.2.1 + 1) + (y.2.2 - y.2.1 + 1)
  | [], k, x, y, h => by simp at h
  | z :: r, 0, x, y, h => by
    simp at h; subst h
    show (y.2.2 - y.2.1 + 1) + sumL r = (z.2.2 - z.2.1 + 1) + sumL r - _ + _; omega
  | z :: r, k + 1, x, y, h => by
    have := sumL_set r k x y (by simpa using h)
    show (z.2.2 - z.2.1 + 1) + sumL (r.set k y) = (z.2.2 - z.2.1 + 1) + sumL r - _ + _; omega
theorem sumL_len : ∀ (l : List LO), (∀ (k : Nat) (x : LO), l[k]? = some x → x.2.1 ≤ x.2.2) → (l.length : Int) ≤ sumL l
  | [], _ => Int.le_refl _
  | x :: r, h => by
    have h1 := h 0 x rfl
    have h2 := sumL_len r fun k y hy => h (k + 1) y (by simpa using hy)
    show ((r.length + 1 : Nat) : Int) ≤ (x.2.2 - x.2.1 + 1) + sumL r; omega
structure OvI (n : Nat) (s : Int) (ov : Int → Nat → Bool) (t : Int) (i : Nat) (out : List LO) (la : Nat → Int) (c : Int) : Prop where
  el : ∀ (k : Nat) (x : LO), out[k]? = some x → ∃ j : Nat, j < n ∧ x.1 = (j : Int) ∧ s ≤ x.2.1 ∧ x.2.1 ≤ x.2.2 ∧ x.2.2 < en t i j ∧ ∀ u, x.2.1 ≤ u → u ≤ x.2.2 → ov u j = true
  fr : ∀ (k : Nat) (x : LO), out[k]? = some x → x.2.1 < t ∨ (x.2.1 = t ∧ x.1 < (i : Int))
  op : ∀ j : Nat, j < n → 0 < la j → ∃ (k : Nat) (x : LO), la j = (k : Int) + 1 ∧ out[k]? = some x ∧ x.1 = (j : Int) ∧ x.2.2 + 1 = en t i j
  nn : ∀ j : Nat, j < n → 0 ≤ la j
  cl : ∀ j : Nat, j < n → la j = 0 → ∀ (k : Nat) (x : LO), out[k]? = some x → x.1 = (j : Int) → x.2.2 + 1 < en t i j
  cov : ∀ j : Nat, j < n → ∀ u, s ≤ u → u < en t i j → ov u j = true → ∃ (k : Nat) (x : LO), out[k]? = some x ∧ x.1 = (j : Int) ∧ x.2.1 ≤ u ∧ u ≤ x.2.2
  srt : ∀ (k : Nat) (x y : LO), out[k]? = some x → out[k + 1]? = some y → x.2.1 < y.2.1 ∨ (x.2.1 = y.2.1 ∧ x.1 < y.1)
  apt : ∀ (k m : Nat) (x y : LO), k < m → out[k]? = some x → out[m]? = some y → x.1 = y.1 → x.2.2 + 1 < y.2.1
  sum : sumL out = c
theorem en_next {t : Int} {i j : Nat} (h : j ≠ i) : en t (i + 1) j = en t i j := by
  unfold en
  by_cases h1 : j < i
  · rw [if_pos h1, if_pos (by omega)]
  · rw [if_neg h1, if_neg (by omega)]
theorem en_self (t : Int) (i : Nat) : en t i i = t := if_neg (Nat.lt_irrefl _)
theorem en_done (t : Int) (i : Nat) : en t (i + 1) i = t + 1 := if_pos (by omega)
theorem en_le (t : Int) (i j : Nat) : en t i j ≤ en t (i + 1) j := by
  unfold en
  split <;> split <;> omega
variable {n : Nat} {s t : Int} {ov : Int → Nat → Bool} {i : Nat} {out : List LO} {la : Nat → Int} {c : Int}
theorem OvI.no (h : OvI n s ov t i out la c) (hi : i < n) (ho : ov t i = false) : OvI n s ov t (i + 1) out (up la i 0) c := by
  have hu : ∀ j, j ≠ i → up la i 0 j = la j := fun j hj => if_neg hj
  have hi0 : up la i 0 i = 0 := if_pos rfl
  refine ⟨fun k x hx => ?_, fun k x hx => ?_, fun j hj h0 => ?_, fun j hj => ?_, fun j hj h0 k x hx hxj => ?_, fun j hj u h1 h2 h3 => ?_, h.srt, h.apt, h.sum⟩
  · obtain ⟨j, a, b, d, e, f, g⟩ := h.el k x hx
    have := en_le t i j
    exact ⟨j, a, b, d, e, by omega, g⟩
  · have := h.fr k x hx; omega
  · by_cases e : j = i
    · subst e; omega
    · rw [hu j e] at h0 ⊢
      rw [en_next e]
      exact h.op j hj h0
  · by_cases e : j = i
    · subst e; omega
    · rw [hu j e]; exact h.nn j hj
  · by_cases e : j = i
    · subst e
      obtain ⟨j', a, b, d, e, f, g⟩ := h.el k x hx
      have : j' = j := by omega
      subst this
      rw [en_self] at f
      rw [en_done]; omega
    · rw [hu j e] at h0
      rw [en_next e]
      exact h.cl j hj h0 k x hx hxj
  · by_cases e : j = i
    · subst e
      rw [en_done] at h2
      by_cases e : u = t
      · subst e; rw [ho] at h3; cases h3
      · exact h.cov j hj u h1 (by rw [en_self]; omega) h3
    · rw [en_next e] at h2
      exact h.cov j hj u h1 h2 h3
theorem OvI.new (h : OvI n s ov t i out la c) (hst : s ≤ t) (hi : i < n) (ho : ov t i = true) (hl : la i = 0) : OvI n s ov t (i + 1) (out ++ [((i : Int), (t, t))]) (up la i ((out.length : Int) + 1)) (c + 1) := by
  have hu : ∀ j, j ≠ i → up la i ((out.length : Int) + 1) j = la j := fun j hj => if_neg hj
  have hi0 : up la i ((out.length : Int) + 1) i = (out.length : Int) + 1 := if_pos rfl
  have hget : ∀ (k : Nat) (x : LO), (out ++ [((i : Int), (t, t))])[k]? = some x → out[k]? = some x ∨ (k = out.length ∧ x = ((i : Int), (t, t))) := fun k x hx => by
    rw [List.getElem?_append] at hx
    split at hx
    · exact .inl hx
    · rename_i hk
      have : k - out.length = 0 := by
        rcases Nat.eq_zero_or_pos (k - out.length) with h' | h'
        · exact h'
        · rw [List.getElem?_eq_none (by simp; omega)] at hx; cases hx
      rw [this] at hx
      simp at hx
      exact .inr ⟨by omega, hx.symm⟩
  have hold : ∀ (k : Nat) (x : LO), out[k]? = some x → (out ++ [((i : Int), (t, t))])[k]? = some x := fun k x hx => by
    have hk : k < out.length := (List.getElem?_eq_some_iff.1 hx).1
    rw [List.getElem?_append_left hk]; exact hx
  have hnew : (out ++ [((i : Int), (t, t))])[out.length]? = some ((i : Int), (t, t)) := by simp
  have hlt : ∀ (k : Nat) (x : LO), out[k]? = some x → k < out.length := fun k x hx => (List.getElem?_eq_some_iff.1 hx).1
  refine ⟨fun k x hx => ?_, fun k x hx => ?_, fun j hj h0 => ?_, fun j hj => ?_, fun j hj h0 k x hx hxj => ?_, fun j hj u h1 h2 h3 => ?_, fun k x y hx hy => ?_, fun k m x y hkm hx hy hxy => ?_, ?_⟩
  · rcases hget k x hx with hx | ⟨rfl, rfl⟩
    · obtain ⟨j, a, b, d, e, f, g⟩ := h.el k x hx
      have := en_le t i j
      exact ⟨j, a, b, d, e, by omega, g⟩
    · refine ⟨i, hi, rfl, hst, Int.le_refl _, by rw [en_done]; show t < t + 1; omega, fun u h1 h2 => ?_⟩
      have : u = t := Int.le_antisymm h2 h1
      rw [this]; exact ho
  · rcases hget k x hx with hx | ⟨rfl, rfl⟩
    · have := h.fr k x hx; omega
    · right; exact ⟨rfl, by show (i : Int) < ((i + 1 : Nat) : Int); omega⟩
  · by_cases e : j = i
    · subst e
      exact ⟨out.length, _, hi0, hnew, rfl, by rw [en_done]⟩
    · rw [hu j e] at h0 ⊢
      rw [en_next e]
      obtain ⟨k, x, a, b, d⟩ := h.op j hj h0
      exact ⟨k, x, a, hold k x b, d⟩
  · by_cases e : j = i
    · subst e; omega
    · rw [hu j e]; exact h.nn j hj
  · by_cases e : j = i
    · subst e; omega
    · rw [hu j e] at h0
      rw [en_next e]
      rcases hget k x hx with hx | ⟨rfl, rfl⟩
      · exact h.cl j hj h0 k x hx hxj
      · exfalso
        have : (i : Int) = (j : Int) := hxj
        omega
  · by_cases e : j = i
    · subst e
      rw [en_done] at h2
      by_cases e : u = t
      · subst e; exact ⟨out.length, _, hnew, rfl, Int.le_refl _, Int.le_refl _⟩
      · obtain ⟨k, x, a, b⟩ := h.cov j hj u h1 (by rw [en_self]; omega) h3
        exact ⟨k, x, hold k x a, b⟩
    · rw [en_next e] at h2
      obtain ⟨k, x, a, b⟩ := h.cov j hj u h1 h2 h3
      exact ⟨k, x, hold k x a, b⟩
  · rcases hget (k + 1) y hy with hy | ⟨hk, rfl⟩
    · have := hlt _ _ hy
      rcases hget k x hx with hx | ⟨rfl, rfl⟩
      · exact h.srt k x y hx hy
      · omega
    · rcases hget k x hx with hx | ⟨rfl, rfl⟩
      · rcases h.fr k x hx with h' | h'
        · exact .inl h'
        · exact .inr h'
      · omega
  · rcases hget m y hy with hy | ⟨hm, rfl⟩
    · have := hlt _ _ hy
      rcases hget k x hx with hx | ⟨rfl, rfl⟩
      · exact h.apt k m x y hkm hx hy hxy
      · omega
    · rcases hget k x hx with hx | ⟨rfl, rfl⟩
      · have := h.cl i hi hl k x hx hxy
        rw [en_self] at this
        exact this
      · omega
  · rw [sumL_app, h.sum]
    show c + ((t - t + 1) + 0) = c + 1
    omega
theorem OvI.ext (h : OvI n s ov t i out la c) (hi : i < n) (ho : ov t i = true) {k0 : Nat} (hl : la i = (k0 : Int) + 1) :
    ∃ x, out[k0]? = some x ∧ OvI n s ov t (i + 1) (out.set k0 (x.1, (x.2.1, t))) la (c + 1) := by
  obtain ⟨k1, x0, q1, q2, q3, q4⟩ := h.op i hi (by omega)
  have : k1 = k0 := by omega
  subst this
  rw [en_self] at q4
  have hk : k1 < out.length := (List.getElem?_eq_some_iff.1 q2).1
  refine ⟨x0, q2, ?_⟩
  have hget : ∀ (k : Nat) (x : LO), (out.set k1 (x0.1, (x0.2.1, t)))[k]? = some x → (k ≠ k1 ∧ out[k]? = some x) ∨ (k = k1 ∧ x = (x0.1, (x0.2.1, t))) := fun k x hx => by
    rw [List.getElem?_set] at hx
    by_cases e : k1 = k
    · rw [if_pos e, if_pos hk] at hx; cases hx; exact .inr ⟨e.symm, rfl⟩
    · rw [if_neg e] at hx; exact .inl ⟨Ne.symm e, hx⟩
  have hold : ∀ (k : Nat) (x : LO), k ≠ k1 → out[k]? = some x → (out.set k1 (x0.1, (x0.2.1, t)))[k]? = some x := fun k x hne hx => by
    rw [List.getElem?_set, if_neg (Ne.symm hne)]; exact hx
  have hnew : (out.set k1 (x0.1, (x0.2.1, t)))[k1]? = some (x0.1, (x0.2.1, t)) := by rw [List.getElem?_set, if_pos rfl, if_pos hk]
  obtain ⟨j0, a0, b0, d0, e0, f0, g0⟩ := h.el k1 x0 q2
  have hj0 : j0 = i := by omega
  subst hj0
  refine ⟨fun k x hx => ?_, fun k x hx => ?_, fun j hj h0 => ?_, h.nn, fun j hj h0 k x hx hxj => ?_, fun j hj u h1 h2 h3 => ?_, fun k x y hx hy => ?_, fun k m x y hkm hx hy hxy => ?_, ?_⟩
  · rcases hget k x hx with ⟨_, hx⟩ | ⟨rfl, rfl⟩
    · obtain ⟨j, a, b, d, e, f, g⟩ := h.el k x hx
      have := en_le t j0 j
      exact ⟨j, a, b, d, e, by omega, g⟩
    · refine ⟨j0, hi, b0, d0, by show x0.2.1 ≤ t; omega, by rw [en_done]; show t < t + 1; omega, fun u h1 h2 => ?_⟩
      have h2 : u ≤ t := h2
      by_cases e : u = t
      · rw [e]; exact ho
      · exact g0 u h1 (by omega)
  · rcases hget k x hx with ⟨_, hx⟩ | ⟨rfl, rfl⟩
    · have := h.fr k x hx; omega
    · have := h.fr k x0 q2
      show x0.2.1 < t ∨ (x0.2.1 = t ∧ x0.1 < ((j0 + 1 : Nat) : Int))
      omega
  · by_cases e : j = j0
    · subst e
      exact ⟨k1, _, hl, hnew, b0, by rw [en_done]⟩
    · obtain ⟨k, x, a, b, d, f⟩ := h.op j hj h0
      have hne : k ≠ k1 := fun e' => by subst e'; rw [b] at q2; cases q2; omega
      rw [en_next e]
      exact ⟨k, x, a, hold k x hne b, d, f⟩
  · have e : j ≠ j0 := fun e => by subst e; omega
    rw [en_next e]
    rcases hget k x hx with ⟨_, hx⟩ | ⟨rfl, rfl⟩
    · exact h.cl j hj h0 k x hx hxj
    · exfalso
      have : x0.1 = (j : Int) := hxj
      omega
  · have key : ∀ u', s ≤ u' → u' < en t j0 j → ov u' j = true → ∃ (k : Nat) (x : LO), (out.set k1 (x0.1, (x0.2.1, t)))[k]? = some x ∧ x.1 = (j : Int) ∧ x.2.1 ≤ u' ∧ u' ≤ x.2.2 := fun u' h1 h2 h3 => by
      obtain ⟨k, x, a, b, d, f⟩ := h.cov j hj u' h1 h2 h3
      by_cases e : k = k1
      · subst e
        rw [a] at q2; cases q2
        exact ⟨k, _, hnew, b, d, by show u' ≤ t; omega⟩
      · exact ⟨k, x, hold k x e a, b, d, f⟩
    by_cases e : j = j0
    · subst e
      rw [en_done] at h2
      by_cases e : u = t
      · subst e
        exact ⟨k1, _, hnew, b0, by show x0.2.1 ≤ u; omega, Int.le_refl _⟩
      · exact key u h1 (by rw [en_self]; omega) h3
    · rw [en_next e] at h2
      exact key u h1 h2 h3
  · rcases hget k x hx with ⟨_, hx⟩ | ⟨rfl, rfl⟩
    · rcases hget (k + 1) y hy with ⟨_, hy⟩ | ⟨e, rfl⟩
      · exact h.srt k x y hx hy
      · rw [← e] at q2
        exact h.srt k x x0 hx q2
    · rcases hget (k + 1) y hy with ⟨_, hy⟩ | ⟨e, _⟩
      · exact h.srt k x0 y q2 hy
      · omega
  · rcases hget k x hx with ⟨_, hx'⟩ | ⟨rfl, rfl⟩
    · rcases hget m y hy with ⟨_, hy⟩ | ⟨rfl, rfl⟩
      · exact h.apt k m x y hkm hx' hy hxy
      · exact h.apt k m x x0 hkm hx' q2 hxy
    · rcases hget m y hy with ⟨_, hy⟩ | ⟨rfl, _⟩
      · exfalso
        have h1 := h.apt k m x0 y hkm q2 hy hxy
        obtain ⟨j, a, b, d, e, f, g⟩ := h.el m y hy
        have : j = j0 := by have : x0.1 = y.1 := hxy; omega
        subst this
        rw [en_self] at f
        omega
      · omega
  · rw [sumL_set out k1 x0 _ q2, h.sum]
    show c - (x0.2.2 - x0.2.1 + 1) + (t - x0.2.1 + 1) = c + 1
    omega
theorem OvI.row (h : OvI n s ov t n out la c) : OvI n s ov (t + 1) 0 out la c := by
  have hen : ∀ j, j < n → en (t + 1) 0 j = en t n j := fun j hj => by unfold en; rw [if_neg (Nat.not_lt_zero _), if_pos hj]
  refine ⟨fun k x hx => ?_, fun k x hx => ?_, fun j hj h0 => ?_, h.nn, fun j hj h0 k x hx hxj => ?_, fun j hj u h1 h2 h3 => ?_, h.srt, h.apt, h.sum⟩
  · obtain ⟨j, a, b, d, e, f, g⟩ := h.el k x hx
    exact ⟨j, a, b, d, e, by rw [hen j a]; exact f, g⟩
  · have := h.fr k x hx; left; omega
  · rw [hen j hj]; exact h.op j hj h0
  · rw [hen j hj]; exact h.cl j hj h0 k x hx hxj
  · rw [hen j hj] at h2; exact h.cov j hj u h1 h2 h3
/-! ### the program's intervals -/
theorem OvI.small (h : OvI n s ov t i out la c) : (out.length : Int) ≤ c := by
  rw [← h.sum]
  exact sumL_len out fun k x hx => by obtain ⟨j, a, b, d, e, f, g⟩ := h.el k x hx; exact e
theorem OvI.start (n : Nat) (s : Int) (ov : Int → Nat → Bool) : OvI n s ov s 0 [] (fun _ => 0) 0 :=
  ⟨fun k x hx => by simp at hx, fun k x hx => by simp at hx, fun j hj h0 => absurd h0 (Int.lt_irrefl _), fun j hj => Int.le_refl _, fun j hj h0 k x hx => by simp at hx,
   fun j hj u h1 h2 h3 => by unfold en at h2; rw [if_neg (Nat.not_lt_zero _)] at h2; omega, fun k x y hx => by simp at hx, fun k m x y _ hx => by simp at hx, rfl⟩
def ovr (G : Int → Nat → Int) (mo : List Int) : Int → Nat → Bool := fun t j => decide (List.getD mo j 0 < G t j)
section
variable {N : Nat} (hN : 4611686018427387904 ≤ N) {l : List Sec} {ts : List (List Nd)} (hL : LoadOk l ts) {mo : List Int} (hm : mo.length = l.length) {s : Int × Int} (hs0 : 0 ≤ s.1) (hs : s.2 ≤ 200001) (hlong : s.2 - s.1 ≤ 2000)
include hL hm hs0 hs hlong
theorem ov_l1 (k3 : Nat) {t : Int} (h0 : s.1 ≤ t) (h1 : t < s.2) {c0 : Int} (hc0 : c0 ≤ 24000) (hcm : 0 ≤ c0) : ∀ (m i k : Nat) (out : List LO) (la : Nat → Int), i + m = l.length → m < k → OvI l.length s.1 (ovr (cnt N l ts) mo) t i out la (c0 + rowC (ovr (cnt N l ts) mo t) i) →
    ∃ out' la', load_Over.l1 N l ts mo s k3 t (tb (l.length + 1) (cnt N l ts t)) k (i : Int) out (tb l.length la) = load_Over.l0 N l ts mo s k3 (t + 1) out' (tb l.length la') ∧ OvI l.length s.1 (ovr (cnt N l ts) mo) (t + 1) 0 out' la' (c0 + rowC (ovr (cnt N l ts) mo t) l.length) := by
  have hlen := hL.len
  intro m
  induction m with
  | zero =>
    intro i k out la hi hk hI
    obtain ⟨k, rfl⟩ : ∃ k', k = k' + 1 := ⟨k - 1, by omega⟩
    have hi : i = l.length := by omega
    subst hi
    refine ⟨out, la, ?_, hI.row⟩
    rw [load_Over.l1_succ, Int.toNat_natCast, decide_eq_false (Int.lt_irrefl _), cond_false, w_small _ (by omega) (by omega)]
  | succ m ih =>
    intro i k out la hi hk hI
    obtain ⟨k, rfl⟩ : ∃ k', k = k' + 1 := ⟨k - 1, by omega⟩
    have hil : i < l.length := by omega
    have hsm := hI.small
    have hrow := rowC_b (ovr (cnt N l ts) mo t) i
    have hw : w ((i : Int) + 1) = (i : Int) + 1 := w_small _ (by omega) (by omega)
    have c1 : decide ((i : Int) < (l.length : Int)) = true := decide_eq_true (by omega)
    have c2 : decide (0 ≤ (i : Int)) = true := decide_eq_true (by omega)
    have c3 : decide (i < l.length) = true := decide_eq_true hil
    have c4 : decide (0 + i < l.length + 1) = true := decide_eq_true (by omega)
    have g1 : List.getD (tb (l.length + 1) (cnt N l ts t)) (0 + i) 0 = cnt N l ts t i := by rw [Nat.zero_add, tb_get _ (by omega)]
    have g2 : List.getD (tb l.length la) i 0 = la i := tb_get _ hil _
    rw [load_Over.l1_succ]
    simp -implicitDefEqProofs only [Int.toNat_natCast, tb_len, hm, c1, c2, c3, c4, g1, g2, Bool.and_self, cond_true, hw, tb_set]
    by_cases hno : cnt N l ts t i ≤ List.getD mo i 0
    · have ho : ovr (cnt N l ts) mo t i = false := decide_eq_false (by omega)
      rw [decide_eq_true hno, cond_true]
      refine ih (i + 1) k out (up la i 0) (by omega) (by omega) ?_
      have := hI.no hil ho
      rw [show rowC (ovr (cnt N l ts) mo t) (i + 1) = rowC (ovr (cnt N l ts) mo t) i + (bif ovr (cnt N l ts) mo t i then 1 else 0) from rfl, ho, cond_false, Int.add_zero]
      exact this
    · have ho : ovr (cnt N l ts) mo t i = true := decide_eq_true (by omega)
      rw [decide_eq_false hno, cond_false]
      have hr : c0 + rowC (ovr (cnt N l ts) mo t) (i + 1) = c0 + rowC (ovr (cnt N l ts) mo t) i + 1 := by
        rw [show rowC (ovr (cnt N l ts) mo t) (i + 1) = rowC (ovr (cnt N l ts) mo t) i + (bif ovr (cnt N l ts) mo t i then 1 else 0) from rfl, ho, cond_true]; omega
      have hnn := hI.nn i hil
      by_cases hop : 0 < la i
      · obtain ⟨k0, x, q1, q2, q3, q4⟩ := hI.op i hil hop
        obtain ⟨x', q5, hI'⟩ := hI.ext hil ho q1
        have : x' = x := by rw [q2] at q5; cases q5; rfl
        subst this
        have hk0 : k0 < out.length := (List.getElem?_eq_some_iff.1 q2).1
        have hw2 : w (la i - 1) = (k0 : Int) := by rw [q1, w_small _ (by omega) (by omega)]; omega
        have c5 : decide ((k0 : Int) < (out.length : Int)) = true := decide_eq_true (by omega)
        have c6 : decide (0 ≤ (k0 : Int)) = true := decide_eq_true (by omega)
        have c7 : decide (k0 < out.length) = true := decide_eq_true hk0
        have g3 : List.getD out k0 (0, (0, 0)) = x' := by rw [List.getD_eq_getElem?_getD, q2]; rfl
        rw [decide_eq_true (show la i > 0 from hop), cond_true, hw2]
        simp -implicitDefEqProofs only [Int.toNat_natCast, c5, c6, c7, Bool.and_self, cond_true, g3]
        rw [← hr] at hI'
        exact ih (i + 1) k _ la (by omega) (by omega) hI'
      · have hI' := hI.new h0 hil ho (by omega)
        have c5 : (decide ((out.length + 1) * 24 ≤ 140737488355328) && decide ((out.length + 1) ≤ maxLen)) = true := by rw [Bool.and_eq_true, decide_eq_true_iff, decide_eq_true_iff]; unfold maxLen; omega
        rw [decide_eq_false (show ¬ la i > 0 from hop), cond_false, c5, cond_true]
        have e : ((out ++ [((i : Int), (t, t))]).length : Int) = (out.length : Int) + 1 := by rw [List.length_append]; rfl
        rw [← hr] at hI'
        rw [e]
        exact ih (i + 1) k _ _ (by omega) (by omega) hI'
include hN
theorem ov_l0 : ∀ (m d k : Nat) (out : List LO) (la : Nat → Int), s.1 + d + m = s.2 → m < k → OvI l.length s.1 (ovr (cnt N l ts) mo) (s.1 + d) 0 out la (allC (ovr (cnt N l ts) mo) l.length s.1 d) →
    ∃ out' la', load_Over.l0 N l ts mo s k (s.1 + d) out (tb l.length la) = some (out', 0) ∧ OvI l.length s.1 (ovr (cnt N l ts) mo) s.2 0 out' la' (allC (ovr (cnt N l ts) mo) l.length s.1 (d + m)) := by
  have hlen := hL.len
  intro m
  induction m with
  | zero =>
    intro d k out la hd hk hI
    obtain ⟨k, rfl⟩ : ∃ k', k = k' + 1 := ⟨k - 1, by omega⟩
    have e : s.1 + (d : Int) = s.2 := by omega
    rw [e] at hI ⊢
    refine ⟨out, la, ?_, hI⟩
    rw [load_Over.l0_succ, decide_eq_false (Int.lt_irrefl _)]
    rfl
  | succ m ih =>
    intro d k out la hd hk hI
    obtain ⟨k, rfl⟩ : ∃ k', k = k' + 1 := ⟨k - 1, by omega⟩
    have c2 : ((decide (0 ≤ (l.length : Int))) && (decide (0 + l.length ≤ l.length + 1))) = true := by simp
    have hall := allC_b (ovr (cnt N l ts) mo) hlen s.1 d
    obtain ⟨out1, la1, e1, hI1⟩ := ov_l1 hL hm hs0 hs hlong k (t := s.1 + d) (by omega) (by omega) (c0 := allC (ovr (cnt N l ts) mo) l.length s.1 d) (by omega) hall.1 l.length 0 N out la (by omega) (by omega) (by rw [show rowC (ovr (cnt N l ts) mo (s.1 + d)) 0 = 0 from rfl, Int.add_zero]; exact hI)
    have e1' : load_Over.l1 N l ts mo s k (s.1 + d) (tb (l.length + 1) (cnt N l ts (s.1 + d))) N 0 out (tb l.length la) = _ := e1
    rw [load_Over.l0_succ, decide_eq_true (by omega), cond_true, count_v hN hL, Option.bind_some, tb_len, Int.toNat_natCast, c2, cond_true, e1']
    have e2 : s.1 + (d : Int) + 1 = s.1 + ((d + 1 : Nat) : Int) := by omega
    rw [e2] at hI1 ⊢
    rw [show d + (m + 1) = d + 1 + m by omega]
    exact ih (d + 1) k out1 la1 (by omega) (by omega) hI1
theorem over_v (hE : loadE l ts = 0) (hsp : spE s = 0) : ∃ out la, load_Over.fn N (l, ts, mo, s) = some (out, 0) ∧ OvI l.length s.1 (ovr (cnt N l ts) mo) s.2 0 out la (allC (ovr (cnt N l ts) mo) l.length s.1 (s.2 - s.1).toNat) := by
  have hlen := hL.len
  obtain ⟨a1, a2, a3, a4⟩ := sp_ok hsp
  obtain ⟨out, la, e, hI⟩ := ov_l0 hN hL hm hs0 hs hlong (s.2 - s.1).toNat 0 N [] (fun _ => 0) (by omega) (by omega) (by rw [show s.1 + ((0 : Nat) : Int) = s.1 by omega]; exact OvI.start _ _ _)
  rw [Nat.zero_add] at hI
  refine ⟨out, la, ?_, hI⟩
  rw [show s.1 + ((0 : Nat) : Int) = s.1 by omega] at e
  rw [load_Over.eq, lchk_v hN, hE, Option.bind_some, show (!((0 : Int) == 0)) = false from rfl, cond_false, hm, show (!((l.length : Int) == (l.length : Int))) = false by simp, cond_false, span_v, hsp, Option.bind_some, show (!((0 : Int) == 0)) = false from rfl, cond_false, bchk (ok3 (by omega)), Int.toNat_natCast, tb_rep]
  exact e
end
/-! ### the law of the intervals -/
theorem OvI.bnd (h : OvI n s ov t 0 out la c) {k : Nat} {x : LO} (hx : out[k]? = some x) : ∃ j : Nat, j < n ∧ x.1 = (j : Int) ∧ s ≤ x.2.1 ∧ x.2.1 ≤ x.2.2 ∧ x.2.2 < t ∧ ∀ u, x.2.1 ≤ u → u ≤ x.2.2 → ov u j = true := by
  obtain ⟨j, a, b, d, e, f, g⟩ := h.el k x hx
  exact ⟨j, a, b, d, e, by unfold en at f; rw [if_neg (Nat.not_lt_zero _)] at f; exact f, g⟩
theorem OvI.any (h : OvI n s ov t 0 out la c) {u : Int} (h1 : s ≤ u) (h2 : u < t) {j : Nat} (hj : j < n) : (out.any fun x => ((x.1 == (j : Int)) && (decide (x.2.1 ≤ u))) && (decide (u ≤ x.2.2))) = ov u j := by
  rw [Bool.eq_iff_iff, List.any_eq_true]
  constructor
  · rintro ⟨x, hx, hp⟩
    rw [Bool.and_eq_true, Bool.and_eq_true, beq_iff_eq, decide_eq_true_iff, decide_eq_true_iff] at hp
    obtain ⟨k, hk⟩ := List.getElem?_of_mem hx
    obtain ⟨j', a, b, d, e, f, g⟩ := h.bnd hk
    have : j' = j := by omega
    subst this
    exact g u hp.1.2 hp.2
  · intro ho
    obtain ⟨k, x, a, b, d, e⟩ := h.cov j hj u h1 (by unfold en; rw [if_neg (Nat.not_lt_zero _)]; exact h2) ho
    refine ⟨x, List.mem_of_getElem? a, ?_⟩
    rw [Bool.and_eq_true, Bool.and_eq_true, beq_iff_eq, decide_eq_true_iff, decide_eq_true_iff]
    exact ⟨⟨b, d⟩, e⟩
section
variable {N : Nat} (hN : 4611686018427387904 ≤ N) {l : List Sec} {ts : List (List Nd)} (hL : LoadOk l ts) {mo : List Int} (hm : mo.length = l.length) {s : Int × Int} (hs0 : 0 ≤ s.1) (hs : s.2 ≤ 200000) (hlt : s.1 < s.2) {out : List LO} {la : Nat → Int} {A : Int}
  (hI : OvI l.length s.1 (ovr (cnt N l ts) mo) s.2 0 out la A) (hA : A ≤ 24000)
include hN hs0 hs hlt hI hA
theorem lov_l3 (r2 : List LO × Int) (hr2 : r2.1 = out) (k5 : Nat) (a6 : Int) {p : Nat} {x : LO} (hx : out[p]? = some x) :
    law_LoadOvers.l3 N l ts mo s r2 k5 a6 (p : Int) N 0 = law_LoadOvers.l2 N l ts mo s r2 k5 (w (a6 + (w ((w (x.2.2 - x.2.1)) + 1)))) ((p : Int) + 1) := by
  have hsm := hI.small
  have hp : p < out.length := (List.getElem?_eq_some_iff.1 hx).1
  have gx : List.getD out p (0, (0, 0)) = x := by rw [List.getD_eq_getElem?_getD, hx]; rfl
  refine range_loop (σ := Unit) (n := p) (fun k _ i => law_LoadOvers.l3 N l ts mo s r2 k5 a6 (p : Int) k i) (fun _ _ => law_LoadOvers.l2 N l ts mo s r2 k5 (w (a6 + (w ((w (x.2.2 - x.2.1)) + 1)))) ((p : Int) + 1))
    (fun _ _ => True) (fun k _ _ => ?_) (fun k i _ hi _ ih => ?_) N () 0 (Nat.zero_le _) trivial (by omega)
  · show law_LoadOvers.l3 N l ts mo s r2 k5 a6 (p : Int) (k + 1) (p : Int) = _
    rw [law_LoadOvers.l3_clean, Int.toNat_natCast, decide_eq_false (Int.lt_irrefl _), cond_false, hr2, gx, w_small ((p : Int) + 1) (by omega) (by omega)]
  · have hy : out[i]? = some (List.getD out i (0, (0, 0))) := by rw [List.getD_eq_getElem?_getD, List.getElem?_eq_getElem (by omega)]; rfl
    have ih : law_LoadOvers.l3 N l ts mo s r2 k5 a6 (p : Int) k ((i : Int) + 1) = _ := ih () trivial
    show law_LoadOvers.l3 N l ts mo s r2 k5 a6 (p : Int) (k + 1) (i : Int) = _
    have c1 : decide ((i : Int) < (p : Int)) = true := decide_eq_true (by omega)
    have c2 : decide (0 ≤ (i : Int)) = true := decide_eq_true (by omega)
    rw [law_LoadOvers.l3_clean, Int.toNat_natCast, Int.toNat_natCast, c1, cond_true, c2, Bool.and_self, cond_true, hr2, Nat.zero_add, ok1 (by omega), cond_true, gx, w_small ((i : Int) + 1) (by omega) (by omega), ih]
    generalize List.getD out i (0, (0, 0)) = y at hy
    have hap := hI.apt i p y x hi hy hx
    obtain ⟨j', a, b, d, e, f, g⟩ := hI.bnd hy
    have : ((y.1 == x.1) && (decide ((w (y.2.2 + 1)) ≥ x.2.1))) = false := by
      rw [w_small _ (by omega) (by omega), Bool.and_eq_false_iff, decide_eq_false_iff_not, beq_eq_false_iff_ne]
      by_cases e : y.1 = x.1
      · have := hap e; right; omega
      · exact .inl e
    rw [this, cond_false]
end
section
variable {N : Nat} (hN : 4611686018427387904 ≤ N) {l : List Sec} {ts : List (List Nd)} (hL : LoadOk l ts) {mo : List Int} (hm : mo.length = l.length) {s : Int × Int} (hs0 : 0 ≤ s.1) (hs : s.2 ≤ 200000) (hlt : s.1 < s.2) {out : List LO} {la : Nat → Int} {A : Int}
  (hI : OvI l.length s.1 (ovr (cnt N l ts) mo) s.2 0 out la A) (hA : A ≤ 24000)
include hN hs0 hs hlt hI hA
theorem lov_l2 (r2 : List LO × Int) (hr2 : r2.1 = out) : law_LoadOvers.l2 N l ts mo s r2 N 0 0 = law_LoadOvers.l4 N l ts mo s r2 N A s.1 := by
  have hsm := hI.small
  have key := list_loop (l := r2.1) (fun k (a : Int) i => law_LoadOvers.l2 N l ts mo s r2 k a i) (fun _ _ _ => law_LoadOvers.l4 N l ts mo s r2 N A s.1) (fun pre a => a = sumL pre) (fun k a hI' => ?_) (fun k pre x r a hl hI' ih => ?_) N 0 rfl (by rw [hr2]; omega)
  · exact key
  · have : a = A := by rw [hI', hr2, hI.sum]
    rw [this]
    exact law_LoadOvers.l2_nil N l ts mo s r2 k A
  · have hlt := mid_lt hl
    rw [hr2] at hlt
    have hx : out[pre.length]? = some x := by rw [← hr2, hl]; simp
    obtain ⟨j', a1, b1, d1, e1, f1, g1⟩ := hI.bnd hx
    have hpre : 0 ≤ sumL pre ∧ sumL pre ≤ A := by
      have h1 := sumL_len pre fun k y hy => by
        have hk : k < pre.length := (List.getElem?_eq_some_iff.1 hy).1
        obtain ⟨_, _, _, _, e, _⟩ := hI.bnd (k := k) (x := y) (by rw [← hr2, hl, List.getElem?_append_left hk]; exact hy)
        exact e
      have h2 := sumL_len (x :: r) fun k y hy => by
        obtain ⟨_, _, _, _, e, _⟩ := hI.bnd (k := pre.length + k) (x := y) (by rw [← hr2, hl, List.getElem?_append_right (by omega), Nat.add_sub_cancel_left]; exact hy)
        exact e
      have h3 := hI.sum
      rw [← hr2, hl, sumL_app] at h3
      omega
    have hw1 : w (x.2.2 - x.2.1) = x.2.2 - x.2.1 := w_small _ (by omega) (by omega)
    have hw2 : w (x.2.2 - x.2.1 + 1) = x.2.2 - x.2.1 + 1 := w_small _ (by omega) (by omega)
    have hw3 : w (a + (x.2.2 - x.2.1 + 1)) = a + (x.2.2 - x.2.1 + 1) := w_small _ (by omega) (by omega)
    have ih := ih (a + (x.2.2 - x.2.1 + 1)) (by rw [hI', sumL_app]; show _ = sumL pre + ((x.2.2 - x.2.1 + 1) + 0); omega)
    have h3 := lov_l3 hN hs0 hs (by omega) hI hA r2 hr2 k a hx
    rw [hw1, hw2, hw3, ih] at h3
    have cfin : decide (0 + pre.length ≤ r2.1.length) = true := decide_eq_true (by rw [hr2]; omega)
    have c0 : decide (pre.length < r2.1.length) = true := decide_eq_true (by rw [hr2]; omega)
    have c1 : decide (x.2.1 > x.2.2) = false := decide_eq_false (by omega)
    show law_LoadOvers.l2 N l ts mo s r2 (k + 1) a (pre.length : Int) = _
    rw [law_LoadOvers.l2_cons N l ts mo s r2 k a hl (by rw [hr2]; omega)]
    by_cases h0 : pre.length = 0
    · have c2 : decide ((pre.length : Int) > 0) = false := decide_eq_false (by omega)
      simp -implicitDefEqProofs only [c0, c1, c2, cfin, Bool.not_false, Bool.or_true, Bool.false_and, Bool.or_self, cond_true, cond_false]
      exact h3
    · obtain ⟨q, hq⟩ : ∃ q, pre.length = q + 1 := ⟨pre.length - 1, by omega⟩
      have c2 : decide ((pre.length : Int) > 0) = true := decide_eq_true (by omega)
      have hw4 : w ((pre.length : Int) - 1) = (q : Int) := by rw [w_small _ (by omega) (by omega)]; omega
      have hy : out[q]? = some (List.getD out q (0, (0, 0))) := by rw [List.getD_eq_getElem?_getD, List.getElem?_eq_getElem (by omega)]; rfl
      have hsrt := hI.srt q _ x hy (by rw [← hq]; exact hx)
      have c3 : decide (0 ≤ (q : Int)) = true := decide_eq_true (by omega)
      have c4 : decide ((q : Int) < (r2.1.length : Int)) = true := decide_eq_true (by rw [hr2]; omega)
      have c5 : decide (q < r2.1.length) = true := decide_eq_true (by rw [hr2]; omega)
      have c6 : ((decide (x.2.1 < (List.getD out q (0, (0, 0))).2.1)) || ((x.2.1 == (List.getD out q (0, (0, 0))).2.1) && (decide (x.1 ≤ (List.getD out q (0, (0, 0))).1)))) = false := by
        generalize List.getD out q (0, (0, 0)) = y at hsrt
        rw [Bool.or_eq_false_iff, Bool.and_eq_false_iff, decide_eq_false_iff_not, decide_eq_false_iff_not, beq_eq_false_iff_ne]
        refine ⟨by omega, ?_⟩
        by_cases e : x.2.1 = y.2.1
        · right; omega
        · exact .inl e
      rw [hw4, Int.toNat_natCast, c0, c2, c3, c4, c5, cfin, c1]
      simp -implicitDefEqProofs only [Bool.and_self, Bool.true_or, Bool.true_and, cond_true, Bool.or_false]
      rw [hr2, c6, cond_false]
      exact h3
end
section
variable {N : Nat} (hN : 4611686018427387904 ≤ N) {l : List Sec} {ts : List (List Nd)} (hL : LoadOk l ts) {mo : List Int} (hm : mo.length = l.length) {s : Int × Int} (hs0 : 0 ≤ s.1) (hs : s.2 ≤ 200000) (hlt : s.1 < s.2) {out : List LO} {la : Nat → Int} {A : Int}
  (hI : OvI l.length s.1 (ovr (cnt N l ts) mo) s.2 0 out la A) (hA : A ≤ 24000)
include hN hL hm hI hA
theorem lov_l6 (r2 : List LO × Int) (hr2 : r2.1 = out) (k10 : Nat) {t : Int} (h0 : s.1 ≤ t) (h1 : t < s.2) (k14 : Nat) {a : Int} (ha : -100000 ≤ a) (ha2 : a ≤ 100000) {i : Nat} (hi : i < l.length) :
    law_LoadOvers.l6 N l ts mo s r2 k10 t (tb l.length (cnt N l ts t), cnt N l ts t l.length, 0) k14 a (i : Int) N 0 = law_LoadOvers.l5 N l ts mo s r2 k10 t (tb l.length (cnt N l ts t), cnt N l ts t l.length, 0) k14 (a - (bif ovr (cnt N l ts) mo t i then 1 else 0)) ((i : Int) + 1) := by
  have hlen := hL.len
  have hsm := hI.small
  have hov : decide (cnt N l ts t i > List.getD mo i 0) = ovr (cnt N l ts) mo t i := rfl
  have c1 : decide ((i : Int) < (l.length : Int)) = true := decide_eq_true (by omega)
  have c2 : decide (0 ≤ (i : Int)) = true := decide_eq_true (by omega)
  have c3 : decide (i < l.length) = true := decide_eq_true hi
  have g1 : List.getD (tb l.length (cnt N l ts t)) i 0 = cnt N l ts t i := tb_get _ hi _
  have hw1 : w ((i : Int) + 1) = (i : Int) + 1 := w_small _ (by omega) (by omega)
  have hw2 : w (a - 1) = a - 1 := w_small _ (by omega) (by omega)
  have key := scan_list (l := r2.1) (fun x => ((x.1 == (i : Int)) && (decide (x.2.1 ≤ t))) && (decide (t ≤ x.2.2)))
    (bif !(true == ovr (cnt N l ts) mo t i) then some false else law_LoadOvers.l5 N l ts mo s r2 k10 t (tb l.length (cnt N l ts t), cnt N l ts t l.length, 0) k14 (a - 1) ((i : Int) + 1))
    (bif !(false == ovr (cnt N l ts) mo t i) then some false else law_LoadOvers.l5 N l ts mo s r2 k10 t (tb l.length (cnt N l ts t), cnt N l ts t l.length, 0) k14 a ((i : Int) + 1))
    (fun k j => law_LoadOvers.l6 N l ts mo s r2 k10 t (tb l.length (cnt N l ts t), cnt N l ts t l.length, 0) k14 a (i : Int) k j) (fun k => by
      show law_LoadOvers.l6 N l ts mo s r2 k10 t (tb l.length (cnt N l ts t), cnt N l ts t l.length, 0) k14 a (i : Int) (k + 1) (r2.1.length : Int) = _
      rw [law_LoadOvers.l6_nil]
      dsimp only
      simp -implicitDefEqProofs only [Int.toNat_natCast, tb_len, hm, c1, c2, c3, g1, hov, hw1, Bool.and_self, cond_true])
    (fun k pre x r hl => by
      have hlt := mid_lt hl
      show law_LoadOvers.l6 N l ts mo s r2 k10 t (tb l.length (cnt N l ts t), cnt N l ts t l.length, 0) k14 a (i : Int) (k + 1) (pre.length : Int) = _
      have c4 : decide ((pre.length : Int) ≥ 0) = true := decide_eq_true (by omega)
      rw [law_LoadOvers.l6_cons N l ts mo s r2 k10 t _ k14 a _ k hl (by rw [hr2]; omega), decide_eq_true hlt, cond_true, law_LoadOvers_1.clean, Option.bind_some]
      dsimp only
      rw [c4]
      simp -implicitDefEqProofs only [Int.toNat_natCast, tb_len, hm, c1, c2, c3, g1, hov, hw1, hw2, Bool.and_self, cond_true]) N (by rw [hr2]; omega)
  have key : law_LoadOvers.l6 N l ts mo s r2 k10 t (tb l.length (cnt N l ts t), cnt N l ts t l.length, 0) k14 a (i : Int) N 0 = _ := key
  rw [key, hr2, hI.any h0 h1 hi]
  cases ovr (cnt N l ts) mo t i with
  | true => rfl
  | false =>
    show law_LoadOvers.l5 N l ts mo s r2 k10 t (tb l.length (cnt N l ts t), cnt N l ts t l.length, 0) k14 a ((i : Int) + 1) = law_LoadOvers.l5 N l ts mo s r2 k10 t (tb l.length (cnt N l ts t), cnt N l ts t l.length, 0) k14 (a - 0) ((i : Int) + 1)
    rw [Int.sub_zero]
end
section
variable {N : Nat} (hN : 4611686018427387904 ≤ N) {l : List Sec} {ts : List (List Nd)} (hL : LoadOk l ts) {mo : List Int} (hm : mo.length = l.length) {s : Int × Int} (hs0 : 0 ≤ s.1) (hs : s.2 ≤ 200000) (hlt : s.1 < s.2) {out : List LO} {la : Nat → Int} {A : Int}
  (hI : OvI l.length s.1 (ovr (cnt N l ts) mo) s.2 0 out la A) (hA : A ≤ 24000)
include hN hL hm hs0 hs hlt hI hA
theorem lov_l4 (hE : loadE l ts = 0) (r2 : List LO × Int) (hr2 : r2.1 = out) (hr3 : r2.2 = 0) (hAC : A = allC (ovr (cnt N l ts) mo) l.length s.1 (s.2 - s.1).toNat) : ∀ (m d k : Nat), s.1 + d + m = s.2 → m < k →
    law_LoadOvers.l4 N l ts mo s r2 k (A - allC (ovr (cnt N l ts) mo) l.length s.1 d) (s.1 + d) = some true := by
  have hlen := hL.len
  have hsm := hI.small
  intro m
  induction m with
  | zero =>
    intro d k hd hk
    obtain ⟨k, rfl⟩ : ∃ k', k = k' + 1 := ⟨k - 1, by omega⟩
    have e1 : (s.2 - s.1).toNat = d := by omega
    rw [law_LoadOvers.l4_clean, decide_eq_false (by omega), cond_false, hr3, hAC, e1, Int.sub_self]
    rfl
  | succ m ih =>
    intro d k hd hk
    obtain ⟨k, rfl⟩ : ∃ k', k = k' + 1 := ⟨k - 1, by omega⟩
    have hall := allC_b (ovr (cnt N l ts) mo) hlen s.1 d
    have hA2 : (A : Int) ≤ 24000 := hA
    have hrw := fun i => rowC_b (ovr (cnt N l ts) mo (s.1 + d)) i
    have c1 : ((!((tb l.length (cnt N l ts (s.1 + d)), cnt N l ts (s.1 + d) l.length, (0 : Int)).2.2 == 0)) || (!(((tb l.length (cnt N l ts (s.1 + d)), cnt N l ts (s.1 + d) l.length, (0 : Int)).1.length : Int) == (l.length : Int)))) = false := by
      show ((!((0 : Int) == 0)) || (!(((tb l.length (cnt N l ts (s.1 + d))).length : Int) == (l.length : Int)))) = false
      rw [tb_len]; simp
    have hA0 : 0 ≤ A := by omega
    have hd2 : allC (ovr (cnt N l ts) mo) l.length s.1 d ≤ 24000 := by
      have h1 : ∀ q, allC (ovr (cnt N l ts) mo) l.length s.1 d ≤ allC (ovr (cnt N l ts) mo) l.length s.1 (d + q) := by
        intro q
        induction q with
        | zero => exact Int.le_refl _
        | succ q ihq =>
          have := (rowC_b (ovr (cnt N l ts) mo (s.1 + ((d + q : Nat) : Int))) l.length).1
          show _ ≤ allC (ovr (cnt N l ts) mo) l.length s.1 (d + q) + rowC (ovr (cnt N l ts) mo (s.1 + ((d + q : Nat) : Int))) l.length
          omega
      have h2 := h1 ((s.2 - s.1).toNat - d)
      rw [show d + ((s.2 - s.1).toNat - d) = (s.2 - s.1).toNat by omega, ← hAC] at h2
      omega
    rw [law_LoadOvers.l4_clean, decide_eq_true (by omega), cond_true, Count_v hN hL hE (by omega) (by omega), Option.bind_some, c1, cond_false]
    have key := list_loop (l := l) (fun k' (a : Int) i => law_LoadOvers.l5 N l ts mo s r2 k (s.1 + d) (tb l.length (cnt N l ts (s.1 + d)), cnt N l ts (s.1 + d) l.length, 0) k' a i) (fun _ _ _ => law_LoadOvers.l4 N l ts mo s r2 k (A - allC (ovr (cnt N l ts) mo) l.length s.1 (d + 1)) (s.1 + d + 1))
      (fun pre a => a = A - allC (ovr (cnt N l ts) mo) l.length s.1 d - rowC (ovr (cnt N l ts) mo (s.1 + d)) pre.length) (fun k' a hJ => by
        show law_LoadOvers.l5 N l ts mo s r2 k (s.1 + d) (tb l.length (cnt N l ts (s.1 + d)), cnt N l ts (s.1 + d) l.length, 0) (k' + 1) a (l.length : Int) = _
        have e : a = A - allC (ovr (cnt N l ts) mo) l.length s.1 (d + 1) := by
          rw [hJ]
          show _ = A - (allC (ovr (cnt N l ts) mo) l.length s.1 d + rowC (ovr (cnt N l ts) mo (s.1 + d)) l.length)
          omega
        rw [law_LoadOvers.l5_nil, w_small _ (by omega) (by omega), e]) (fun k' pre x r a hl hJ ih' => by
        have hi := mid_lt hl
        have := hrw pre.length
        show law_LoadOvers.l5 N l ts mo s r2 k (s.1 + d) (tb l.length (cnt N l ts (s.1 + d)), cnt N l ts (s.1 + d) l.length, 0) (k' + 1) a (pre.length : Int) = _
        rw [law_LoadOvers.l5_cons N l ts mo s r2 k (s.1 + d) _ k' a hl (by omega), lov_l6 hN hL hm hI hA r2 hr2 k (by omega) (by omega) k' (by omega) (by omega) hi]
        refine ih' _ ?_
        rw [List.length_append, List.length_singleton, hJ]
        show _ = A - allC (ovr (cnt N l ts) mo) l.length s.1 d - (rowC (ovr (cnt N l ts) mo (s.1 + d)) pre.length + (bif ovr (cnt N l ts) mo (s.1 + d) pre.length then 1 else 0))
        omega) N (A - allC (ovr (cnt N l ts) mo) l.length s.1 d) (by show _ = _ - 0; omega) (by omega)
    refine Eq.trans key ?_
    rw [show s.1 + (d : Int) + 1 = s.1 + ((d + 1 : Nat) : Int) by omega]
    exact ih (d + 1) k (by omega) (by omega)
end
theorem LoadOvers.pureN {N : Nat} (hN : 4611686018427387904 ≤ N) (hf : law_loadFact.fn N () = some true) (l : List Sec) (ts : List (List Nd)) (mo : List Int) (s : Int × Int) : law_LoadOvers.fn N (l, ts, mo, s) = some true := by
  obtain ⟨M, hM⟩ : ∃ M, N = M + 1 := ⟨N - 1, by omega⟩
  have hj0 := fun (r : List LO × Int) => law_LoadOvers.j0_clean N l ts mo s r hM
  have hj1 := fun (r : List LO × Int) (e : Int) => law_LoadOvers.j1_clean N l ts mo s r e hM
  rw [law_LoadOvers.clean, hf, Option.bind_some, show (!true) = false from rfl, cond_false, lerr_v hN]
  cases hE : (loadE l ts == 0) with
  | false =>
    have hc : load_Over.fn N (l, ts, mo, s) = some ([], loadE l ts) := by rw [load_Over.eq, lchk_v hN, Option.bind_some, hE]; rfl
    rw [hc, Option.bind_some, Option.bind_some, hE, Bool.false_and, cond_false, cond_false, hj1, hE, Bool.not_false, cond_true]
    simp
  | true =>
    have hE0 := beq_iff_eq.1 hE
    have hL := load_ok hE0
    have hlen := hL.len
    cases hmo : ((mo.length : Int) == (l.length : Int)) with
    | false =>
      have hc : load_Over.fn N (l, ts, mo, s) = some ([], 3) := by rw [load_Over.eq, lchk_v hN, Option.bind_some, hE, hmo]; rfl
      rw [hc, Option.bind_some, Option.bind_some, hE, Bool.true_and, Bool.not_false, cond_true, hj0]
      rfl
    | true =>
      have hm : mo.length = l.length := by have := beq_iff_eq.1 hmo; omega
      cases hs : (spE s == 0) with
      | false =>
        have hc : load_Over.fn N (l, ts, mo, s) = some ([], spE s) := by rw [load_Over.eq, lchk_v hN, Option.bind_some, hE, hmo, show (!true) = false from rfl, cond_false, cond_false, span_v, Option.bind_some, hs]; rfl
        rw [hc, Option.bind_some, Option.bind_some, hE, Bool.true_and, Bool.not_true, cond_false, cond_true, lspan_v, Option.bind_some, hj1, hs, Bool.not_false, cond_true]
        simp
      | true =>
        have hs0 := beq_iff_eq.1 hs
        obtain ⟨a1, a2, a3, a4⟩ := sp_ok hs0
        obtain ⟨out, la, hc, hI⟩ := over_v hN hL hm a1 a2 a4 hE0 hs0
        rw [hc, Option.bind_some, Option.bind_some, hE, Bool.true_and, Bool.not_true, cond_false, cond_true, lspan_v, Option.bind_some, hj1, hs0, show (!((0 : Int) == 0)) = false from rfl, cond_false]
        cases hlong : ((decide ((w (s.2 - s.1)) > 60)) || (decide (s.2 > 200000))) with
        | true => rfl
        | false =>
          rw [Bool.or_eq_false_iff, decide_eq_false_iff_not, decide_eq_false_iff_not] at hlong
          have hall := allC_b (ovr (cnt N l ts) mo) hlen s.1 (s.2 - s.1).toNat
          rw [cond_false, lov_l2 hN a1 (by omega) a3 hI (by omega) (out, 0) rfl]
          have := lov_l4 hN hL hm a1 (by omega) a3 hI (by omega) hE0 (out, 0) rfl rfl rfl (s.2 - s.1).toNat 0 N (by omega) (by omega)
          rw [show s.1 + ((0 : Nat) : Int) = s.1 by omega] at this
          rw [show allC (ovr (cnt N l ts) mo) l.length s.1 0 = 0 from rfl, Int.sub_zero] at this
          exact this
/-! ### the fact -/
theorem loadTwo : loadE twoS [strT] = 0 := by kernel_rfl
theorem plf_f (M : Nat) : (plf (M + 16) twoS strT 0 = 0 ∧ plf (M + 16) twoS strT 1 = 0 ∧ plf (M + 16) twoS strT 2 = 0 ∧ plf (M + 16) twoS strT 3 = 0 ∧ plf (M + 16) twoS strT 4 = 0 ∧ plf (M + 16) twoS strT 5 = 0) ∧
    plf (M + 16) twoS strT 6 = 1 ∧ plf (M + 16) twoS strT 7 = 1 ∧ plf (M + 16) twoS strT 8 = 1 ∧ plf (M + 16) twoS strT 9 = 1 ∧ plf (M + 16) twoS strT 10 = 1 := by
  obtain ⟨h0, h1, h2, h3, h4, h5, h6, h7, h8, h9, h10⟩ := node_f M
  refine ⟨⟨?_, ?_, ?_, ?_, ?_, ?_⟩, ?_, ?_, ?_, ?_, ?_⟩
  · unfold plf; rw [h0]; kernel_rfl
  · unfold plf; rw [h1]; kernel_rfl
  · unfold plf; rw [h2]; kernel_rfl
  · unfold plf; rw [h3]; kernel_rfl
  · unfold plf; rw [h4]; kernel_rfl
  · unfold plf; rw [h5]; kernel_rfl
  · unfold plf; rw [h6]; kernel_rfl
  · unfold plf; rw [h7]; kernel_rfl
  · unfold plf; rw [h8]; kernel_rfl
  · unfold plf; rw [h9]; kernel_rfl
  · unfold plf; rw [h10]; kernel_rfl
def g01 (b : Bool) : Nat → Int := inc (fun _ => 0) (bif b then 1 else 0)
theorem cnt_one (N : Nat) (t : Int) (h0 : 0 ≤ t) (h1 : t ≤ 10) (b : Bool) (hb : plf N twoS strT t = bif b then 1 else 0) : cnt N twoS [strT] t = g01 b := by
  have hs : skipT t strT = false := by
    unfold skipT
    show (decide (t < 0) || decide (t > 10)) = false
    rw [Bool.or_eq_false_iff, decide_eq_false_iff_not, decide_eq_false_iff_not]; omega
  show (bif skipT t strT then (fun _ => 0 : Nat → Int) else inc (fun _ => 0) (slotP twoS.length (plf N twoS strT t))) = _
  rw [hs, cond_false, hb]
  cases b <;> rfl
theorem cnt_f (M : Nat) : ∀ t : Int, 0 ≤ t → t ≤ 10 → cnt (M + 16) twoS [strT] t = g01 (decide (6 ≤ t)) := by
  intro t h0 h1
  refine cnt_one _ t h0 h1 _ ?_
  obtain ⟨⟨p0, p1, p2, p3, p4, p5⟩, p6, p7, p8, p9, p10⟩ := plf_f M
  have : t = 0 ∨ t = 1 ∨ t = 2 ∨ t = 3 ∨ t = 4 ∨ t = 5 ∨ t = 6 ∨ t = 7 ∨ t = 8 ∨ t = 9 ∨ t = 10 := by omega
  rcases this with rfl | rfl | rfl | rfl | rfl | rfl | rfl | rfl | rfl | rfl | rfl
  · exact p0
  · exact p1
  · exact p2
  · exact p3
  · exact p4
  · exact p5
  · exact p6
  · exact p7
  · exact p8
  · exact p9
  · exact p10
theorem pk_f {G : Int → Nat → Int} (h : ∀ t : Int, 0 ≤ t → t ≤ 10 → G t = g01 (decide (6 ≤ t))) : tb 2 (pkS G 11 0 (fun _ => 0) (fun _ => 0)).1 = [1, 1] ∧ tb 2 (pkS G 11 0 (fun _ => 0) (fun _ => 0)).2 = [0, 6] := by
  have e : pkS G 11 0 (fun _ => 0) (fun _ => 0) = pkS (fun t => g01 (decide (6 ≤ t))) 11 0 (fun _ => 0) (fun _ => 0) := by
    have : ∀ (c : Nat) (t : Int) (m f : Nat → Int), 0 ≤ t → t + c = 11 → pkS G c t m f = pkS (fun t => g01 (decide (6 ≤ t))) c t m f := by
      intro c
      induction c with
      | zero => intro t m f _ _; rfl
      | succ c ih =>
        intro t m f h0 h1
        show pkS G c (t + 1) (mxF (G t) m) (fsF (G t) m f t) = pkS (fun t => g01 (decide (6 ≤ t))) c (t + 1) (mxF (g01 (decide (6 ≤ t))) m) (fsF (g01 (decide (6 ≤ t))) m f t)
        rw [h t h0 (by omega)]
        exact ih (t + 1) _ _ (by omega) (by omega)
    exact this 11 0 _ _ (Int.le_refl _) rfl
  rw [e]
  exact ⟨by kernel_rfl, by kernel_rfl⟩
theorem ov_f {G : Int → Nat → Int} (h : ∀ t : Int, 0 ≤ t → t ≤ 10 → G t = g01 (decide (6 ≤ t))) {out : List LO} {la : Nat → Int} {A : Int} (hI : OvI 2 0 (ovr G [0, 1]) 11 0 out la A) : out = [(0, (0, 5))] := by
  have hov : ∀ t : Int, 0 ≤ t → t ≤ 10 → ∀ j : Nat, j < 2 → (ovr G [0, 1] t j = true ↔ (j = 0 ∧ t ≤ 5)) := by
    intro t h0 h1 j hj
    unfold ovr
    rw [h t h0 h1, decide_eq_true_iff]
    have : j = 0 ∨ j = 1 := by omega
    by_cases h6 : 6 ≤ t
    · rw [decide_eq_true h6]
      rcases this with rfl | rfl
      · show (0 : Int) < 0 ↔ _
        omega
      · show (1 : Int) < 1 ↔ _
        omega
    · rw [decide_eq_false h6]
      rcases this with rfl | rfl
      · show (0 : Int) < 1 ↔ _
        omega
      · show (1 : Int) < 0 ↔ _
        omega
  have hel : ∀ (k : Nat) (x : LO), out[k]? = some x → x.1 = 0 ∧ 0 ≤ x.2.1 ∧ x.2.1 ≤ x.2.2 ∧ x.2.2 ≤ 5 := by
    intro k x hx
    obtain ⟨j, a, b, d, e, f, g⟩ := hI.bnd hx
    have := (hov x.2.2 (by omega) (by omega) j a).1 (g _ e (Int.le_refl _))
    omega
  have hcov : ∀ u : Int, 0 ≤ u → u ≤ 5 → ∃ (k : Nat) (x : LO), out[k]? = some x ∧ x.2.1 ≤ u ∧ u ≤ x.2.2 := by
    intro u h0 h1
    obtain ⟨k, x, a, _, b, c⟩ := hI.cov 0 (by omega) u h0 (by unfold en; rw [if_neg (Nat.not_lt_zero _)]; omega) ((hov u h0 (by omega) 0 (by omega)).2 ⟨rfl, h1⟩)
    exact ⟨k, x, a, b, c⟩
  have hone : ∀ (k m : Nat) (x y : LO), k < m → out[k]? = some x → out[m]? = some y → False := by
    intro k m x y hkm hx hy
    obtain ⟨x1, x2, x3, x4⟩ := hel k x hx
    obtain ⟨y1, y2, y3, y4⟩ := hel m y hy
    have hap := hI.apt k m x y hkm hx hy (by omega)
    obtain ⟨q, z, hz, z1, z2⟩ := hcov (x.2.2 + 1) (by omega) (by omega)
    obtain ⟨w1, w2, w3, w4⟩ := hel q z hz
    rcases Nat.lt_trichotomy q k with hq | hq | hq
    · have := hI.apt q k z x hq hz hx (by omega); omega
    · subst hq; rw [hx] at hz; cases hz; omega
    · have := hI.apt k q x z hq hx hz (by omega); omega
  match out, hel, hcov, hone with
  | [], _, hcov, _ => obtain ⟨k, x, hx, _⟩ := hcov 0 (by omega) (by omega); simp at hx
  | [x], hel, hcov, _ =>
    obtain ⟨x1, x2, x3, x4⟩ := hel 0 x rfl
    have h1 : ∀ (k : Nat) (y : LO), [x][k]? = some y → y = x := by
      intro k y hy
      match k with
      | 0 => simpa using hy.symm
      | k + 1 => simp at hy
    obtain ⟨k, y, hy, y1, _⟩ := hcov 0 (by omega) (by omega)
    obtain ⟨k', z, hz, _, z2⟩ := hcov 5 (by omega) (by omega)
    rw [h1 _ _ hy] at y1
    rw [h1 _ _ hz] at z2
    obtain ⟨a, b, c⟩ := x
    have : a = 0 := x1
    have : b = 0 := Int.le_antisymm y1 x2
    have : c = 5 := Int.le_antisymm x4 z2
    subst_vars
    rfl
  | x :: y :: r, _, _, hone => exact (hone 0 1 x y (by omega) rfl rfl).elim
theorem ent_step (N : Nat) (x0 : List Sec) (x1 : List (List Nd)) (k2 : Nat) (a3 : Int) (r5 : List Vis × Int) (k6 : Nat) (a8 : List Int) {pre r : List Vis} {x : Vis} (hl : r5.1 = pre ++ x :: r) (hb : r5.1.length < 4611686018427387904) (q : Nat) (hx : x.1 = (q : Int)) (hq : q < a8.length) :
    load_Entries.l1 N x0 x1 k2 a3 r5 (k6 + 1) (pre.length : Int) a8 = load_Entries.l1 N x0 x1 k2 a3 r5 k6 ((pre.length : Int) + 1) (List.set a8 q (w (List.getD a8 q 0 + 1))) := by
  rw [load_Entries.l1_cons N x0 x1 k2 a3 r5 k6 a8 hl hb, decide_eq_true (mid_lt hl), cond_true, hx, decide_eq_true (show (q : Int) ≥ 0 by omega), cond_true, Int.toNat_natCast]
  have c1 : decide (0 ≤ (q : Int)) = true := decide_eq_true (by omega)
  have c2 : decide ((q : Int) < (a8.length : Int)) = true := decide_eq_true (by omega)
  simp -implicitDefEqProofs only [c1, c2, decide_eq_true hq, Bool.and_self, cond_true]
theorem ent_v {N : Nat} (hN : 4611686018427387904 ≤ N) (x0 : List Sec) (x : List Nd) (h2 : x0.length = 2) (hE : loadE x0 [x] = 0) (hP : sector_Path.fn N (x0, x) = some ([(0, (0, 5)), (1, (6, 10))], 0)) : load_Entries.fn N (x0, [x]) = some ([1, 1], 0) := by
  obtain ⟨M, hM⟩ : ∃ M, N = M + 3 := ⟨N - 3, by omega⟩
  have e0 : (tb 2 fun _ => (0 : Int)) = [0, 0] := rfl
  rw [load_Entries.eq, lchk_v hN, hE, Option.bind_some, show (!((0 : Int) == 0)) = false from rfl, cond_false, bchk (ok3 (by omega)), Int.toNat_natCast, h2, tb_rep, e0]
  have h0 := load_Entries.l0_cons N x0 [x] (M + 2) [0, 0] (pre := []) (x := x) (r := []) rfl (by simp)
  have q1 := ent_step N x0 [x] (M + 2) 0 ([(0, (0, 5)), (1, (6, 10))], 0) (M + 2) [0, 0] (pre := []) (x := (0, (0, 5))) (r := [(1, (6, 10))]) rfl (by decide) 0 rfl (by decide)
  have q2 := ent_step N x0 [x] (M + 2) 0 ([(0, (0, 5)), (1, (6, 10))], 0) (M + 1) [1, 0] (pre := [(0, (0, 5))]) (x := (1, (6, 10))) (r := []) rfl (by decide) 1 rfl (by decide)
  have q3 := load_Entries.l1_nil N x0 [x] (M + 2) 0 ([(0, (0, 5)), (1, (6, 10))], 0) M [1, 1]
  have q4 := load_Entries.l0_nil N x0 [x] (M + 1) [1, 1]
  have n0 : ((([] : List Vis).length : Nat) : Int) = 0 := rfl
  have n0' : ((([] : List (List Nd)).length : Nat) : Int) = 0 := rfl
  have n1 : ((([(0, (0, 5))] : List Vis).length : Nat) : Int) = 1 := rfl
  have n2 : ((([(0, (0, 5)), (1, (6, 10))] : List Vis).length : Nat) : Int) = 2 := rfl
  have n3 : ((([x] : List (List Nd)).length : Nat) : Int) = 1 := rfl
  have s1 : List.set ([0, 0] : List Int) 0 (w (List.getD ([0, 0] : List Int) 0 0 + 1)) = [1, 0] := by kernel_rfl
  have s2 : List.set ([1, 0] : List Int) 1 (w (List.getD ([1, 0] : List Int) 1 0 + 1)) = [1, 1] := by kernel_rfl
  have w1 : w ((0 : Int) + 1) = 1 := by kernel_rfl
  rw [n0'] at h0
  rw [n0, s1] at q1
  rw [n1, s2] at q2
  rw [n2, w1] at q3
  rw [n3] at q4
  rw [show (0 : Int) + 1 = 1 from rfl] at q1
  rw [show (1 : Int) + 1 = 2 from rfl] at q2
  rw [show M + 2 + 1 = N by omega] at h0 q1
  rw [h0, hP, Option.bind_some, show (!((0 : Int) == 0)) = false from rfl, cond_false, q1, q2, q3, q4]
theorem lfact_v {N : Nat} (hN : 4611686018427387904 ≤ N) : law_loadFact.fn N () = some true := by
  obtain ⟨M, rfl⟩ : ∃ M, N = M + 16 := ⟨N - 16, by omega⟩
  have hL := load_ok loadTwo
  have hcf := cnt_f M
  have hsp : spE (0, 11) = 0 := by kernel_rfl
  have hC : load_Count.fn (M + 16) (twoS, [strT], 3) = some ([1, 0], 0, 0) := by
    rw [Count_v hN hL loadTwo (by omega) (by omega), hcf 3 (by omega) (by omega)]
    kernel_rfl
  have hP : load_Peaks.fn (M + 16) (twoS, [strT], (0, 11)) = some ([1, 1], [0, 6], 0) := by
    obtain ⟨a, b⟩ := pk_f hcf
    rw [peaks_v hN hL loadTwo hsp]
    show some (tb 2 (pkS (cnt (M + 16) twoS [strT]) 11 0 (fun _ => 0) (fun _ => 0)).1, tb 2 (pkS (cnt (M + 16) twoS [strT]) 11 0 (fun _ => 0) (fun _ => 0)).2, 0) = _
    rw [a, b]
  have hO : load_Over.fn (M + 16) (twoS, [strT], [0, 1], (0, 11)) = some ([(0, (0, 5))], 0) := by
    obtain ⟨out, la, e, hI⟩ := over_v hN hL (mo := [0, 1]) rfl (s := (0, 11)) (Int.le_refl _) (by decide) (by decide) loadTwo hsp
    rw [e, ov_f hcf hI]
  have s1 := fun (l : List Int) (h : l.length ≤ 4) => slices_Equal_int.self hN l (by omega)
  have s2 := slices_Equal_LoadOver.self hN [(0, (0, 5))] (by decide)
  have hs := secE_small twoE
  have hPt : sector_Path.fn (M + 16) (twoS, strT) = some ([(0, (0, 5)), (1, (6, 10))], 0) := by
    have := path_v hN (l := twoS) (by have := hs.1; omega) (fun s h => by have := hs.2 s h; omega) twoE (x := strT) strE (by decide)
    rw [this, ← path_f M]
    rfl
  have hEn := ent_v hN twoS strT rfl loadTwo hPt
  rw [law_loadFact.eq, two_v, Option.bind_some, str_v, Option.bind_some, hC, Option.bind_some, hP, Option.bind_some, hO, Option.bind_some, hEn, Option.bind_some]
  simp -implicitDefEqProofs only [show ((0 : Int) == 0) = true from rfl, cond_true, s1 [1, 0] (by decide), s1 [1, 1] (by decide), s1 [0, 6] (by decide), s2, Option.bind_some]
abbrev tTub : Ty := .sl 40 (.sl 44 (.pair (.pair (.int .i64) (.pair (.pair (.int .i64) (.int .i64)) (.int .i64))) (.pair (.int .i64) (.int .i64))))
theorem LoadCounts.pure (x0 : List Sec) (x1 : List (List Nd)) (x2 : Int) (h0 : Wf Try.prog tSec x0) (h1 : Wf Try.prog tTub x1) (h2 : Wf Try.prog (.int .i64) x2) : law_LoadCounts.fn NN (x0, x1, x2) = some true :=
  LoadCounts.pureN NN_big (lfact_v NN_big) x0 x1 x2
theorem LoadPeaks.pure (x0 : List Sec) (x1 : List (List Nd)) (x2 : Int × Int) (h0 : Wf Try.prog tSec x0) (h1 : Wf Try.prog tTub x1) (h2 : Wf Try.prog (.pair (.int .i64) (.int .i64)) x2) : law_LoadPeaks.fn NN (x0, x1, x2) = some true :=
  LoadPeaks.pureN NN_big (lfact_v NN_big) x0 x1 x2
theorem LoadOvers.pure (x0 : List Sec) (x1 : List (List Nd)) (x2 : List Int) (x3 : Int × Int) (h0 : Wf Try.prog tSec x0) (h1 : Wf Try.prog tTub x1) (h2 : Wf Try.prog (.sl 3 (.int .i64)) x2) (h3 : Wf Try.prog (.pair (.int .i64) (.int .i64)) x3) : law_LoadOvers.fn NN (x0, x1, x2, x3) = some true :=
  LoadOvers.pureN NN_big (lfact_v NN_big) x0 x1 x2 x3
end Go.Proofs.Ytjojikhfmlceoaa.Sk
