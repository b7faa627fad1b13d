/- slices.Insert of one element: what its code does. -/
import Derived.Test.YtnbkofkgdbhbpaaDoorSkMac
import Derived.Test.YtnbkofkgdbhbpaaDoorProg
import Derived.WalkKit
import Derived.Shelf.RegionOpenPlain
import Derived.Lib.Walk
import Derived.Lib.SliceRun
import Derived.Lib.AppendZeros
import Derived.Lib.AppendZerosOnto
import Derived.Lib.Overlaps
import Derived.Laws.Externs
import Derived.Laws.CopyRow
set_option linter.unusedVariables false
set_option linter.unusedSimpArgs false
namespace Go.Proofs.YtnbkofkgdbhbpaaDoor.Ins44
open Go Go.RowKit Go.Lib Go.Proofs.YtnbkofkgdbhbpaaDoor.Sk

theorem run_copy_rowK {P : Program} (w : World) (dT sT ty elem : TypeId) (k g o dLen dCap : Nat) (a : Addr) (sLen sCap : Nat) (cur : Array Value) (t : TypeId) (cs : List Value)
    (hu : P.underlying dT = some (.slice elem)) (hs : (P.info? elem).map (·.size) = some k)
    (hg : w.heap[g]? = some (.cells cur t (0, 0))) (hn : cs.length = Nat.min sLen dLen * k)
    (hsrc : ∀ j v, cs[j]? = some v → w.cell? (a.add j) = some v) (hfit : o + cs.length ≤ cur.size) (h1 : ∀ v ∈ cs, v.oneCell' = true) :
    (Builtin.copy_ #[dT, sT] ty #[.slice (some ⟨g, o, none⟩) dLen dCap, .slice (some a) sLen sCap]).run P w =
      .ok (goInt (Nat.min sLen dLen)) (w.setRow g (cur.toList.take o ++ cs ++ cur.toList.drop (o + cs.length)).toArray) := by
  have hl := run_loadCells_list (P := P) w a cs hsrc
  have hst := run_storeCells_at P g o t cs 0 cur w hg (by simpa using hfit) h1
  cases hq : P.info? elem with
  | none => simp [hq] at hs
  | some i =>
    have hi : i.size = k := by simpa [hq] using hs
    simp [Builtin.copy_, run_underlying hu, Builtin.lenOf, Builtin.firstCells, sizeOf, typeInfo, hq, hi, ← hn, hl, hst]

theorem wp_copy_runI {P : Program} (w : World) {o : Oper} {a : Act} {K : Act → World → Prop} {Q : Exit → Act → World → Prop} (d s : Operand) (t t' : TypeId)
    (ho : o.op = .call { callee := .builtin .copy, args := #[d, s], argTypes := #[t, t'] }) (v u : Value) (hd : a.eval d = v) (hs : a.eval s = u) {v' : Value} {w' : World}
    (hr : (Builtin.copy_ #[t, t'] o.type #[v, u]).run P w = .ok v' w') (h : K (a.put o.dst v') w') : o.wp P a w K Q := by
  unfold Oper.wp execOp
  simp only [ho, resolve, invoke, builtin, Sem.run_bind, Sem.run_pure, Result.andThen_ok, List.map_toArray, List.map_cons, List.map_nil, hd, hs, hr]
  exact h
theorem wpList_copy_runI {P : Program} (w : World) {ops : Array Oper} {rest : List Oper} {o : Oper} {a : Act} {Q : Exit → Act → World → Prop} (hgd : o.guard = none) (d s : Operand) (t t' : TypeId)
    (ho : o.op = .call { callee := .builtin .copy, args := #[d, s], argTypes := #[t, t'] }) (v u : Value) (hd : a.eval d = v) (hs : a.eval s = u) {v' : Value} {w' : World}
    (hr : (Builtin.copy_ #[t, t'] o.type #[v, u]).run P w = .ok v' w') (h : wpList P ops Q rest (a.put o.dst v') w') : wpList P ops Q (o :: rest) a w :=
  wpList_plain hgd fun _ hK => wp_copy_runI w d s t t' ho v u hd hs hr (hK _ _ h)
theorem step_copy_runI {P : Program} {ops : Array Oper} {o : Oper} {a : Act} {w : World} {K : Act → World → Prop} {Q : Exit → Act → World → Prop} {E : Prop}
    (hg : o.guard = none) (d x : Operand) (dT sT : TypeId) (hop : o.op = Op.call { callee := Callee.builtin Builtin.copy, args := #[d, x], argTypes := #[dT, sT] })
    (v u : Value) (hd : a.eval d = v) (hx : a.eval x = u) {v' : Value} {w' : World} (hr : (Builtin.copy_ #[dT, sT] o.type #[v, u]).run P w = .ok v' w') (hK : K (a.put o.dst v') w') :
    if Region.wanted o (yielded ops a.tmps) = true then Oper.wp P o a w K Q else E := by
  have hw : Region.wanted o (yielded ops a.tmps) = true := by simp [Region.wanted, hg]
  rw [if_pos hw]
  unfold Oper.wp
  simp [execOp, hop, resolve, invoke, builtin, hd, hx, hr, Result.andThen]
  exact hK

theorem append2_run {P : Program} (w : World) {T T' e e' : TypeId} (h1 : P.underlying T = some (.slice e)) (h2 : P.underlying T' = some (.slice e')) (ty : TypeId) (a b : Value) :
    (Builtin.append_ #[T, T'] ty #[a, b]).run P w = (Builtin.append_ #[T, T] ty #[a, b]).run P w := by
  unfold Builtin.append_
  cases a <;> simp [run_underlying h1, run_underlying h2]
theorem cellRow {w : World} {b : Nat} {vs : Array Value} {T : TypeId} {fz : Nat × Nat} (hw : w.heap[b]? = some (.cells vs T fz)) (k : Nat) : w.cell? ⟨b, k, none⟩ = vs[k]? := by
  simp [World.cell?, hw]

theorem shape_row {w : World} {b : Nat} {vs : Array Value} {T : TypeId} (hw : w.heap[b]? = some (.cells vs T (0, 0))) : w.shape? b = some (T, vs.size) := by simp [World.shape?, hw]
theorem frozen_row {w : World} {b k : Nat} {vs : Array Value} {T : TypeId} (hw : w.heap[b]? = some (.cells vs T (0, 0))) : w.frozen? ⟨b, k, none⟩ = false := by simp [World.frozen?, hw]

def mid (cur : Array Value) (i n c : Nat) : Array Value := (cur.toList.take ((i + 1) * 6) ++ (cur.toList.take (n * 6)).drop (i * 6) ++ cur.toList.drop ((i + 1) * 6 + ((cur.toList.take (n * 6)).drop (i * 6)).length)).toArray
def fin (cur vcur : Array Value) (i : Nat) : Array Value := (cur.toList.take (i * 6) ++ vcur.toList.take 6 ++ cur.toList.drop (i * 6 + (vcur.toList.take 6).length)).toArray
set_option maxHeartbeats 4000000 in
set_option maxRecDepth 100000 in
theorem shift (b c n i vb vc : Nat) (cur vcur : Array Value) (w : World) (tb tv : TypeId) (hi : i < n) (hroom : n + 1 ≤ c) (hc63 : c ≤ 9223372036854775807) (hvb : vb ≠ b)
    (hb : w.heap[b]? = some (.cells cur tb (0, 0))) (hv : w.heap[vb]? = some (.cells vcur tv (0, 0))) (hcs : cur.size = c * 6) (hvs : 6 ≤ vcur.size)
    (h1 : ∀ v ∈ (cur.toList.take (n * 6)), v.oneCell' = true) (h1v : ∀ v ∈ vcur.toList.take 6, v.oneCell' = true) :
    Calls Tryd.prog 44 #[.slice (some ⟨b, 0, none⟩) n c, .int .i64 i, .slice (some ⟨vb, 0, none⟩) 1 vc] w fun e w' =>
      e = .returned (.slice (some ⟨b, 0, none⟩) (n + 1) c) ∧ w' = (w.drew.setRow b (mid cur i n c)).setRow b (fin (mid cur i n c) vcur i) := by
  have hz2 : ¬ ((i : Int) = (n : Int)) := by omega
  have hsz : (Tryd.prog.info? 39).map (·.size) = some 6 := by kernel_rfl
  have hov : ∀ lb cb, (callFunc 63 #[.slice (some ⟨vb, 0, none⟩) 1 vc, .slice (some ⟨b, (i + 1) * 6, none⟩) lb cb]).run Tryd.prog w = .ok (.value (.bool false)) w := fun lb cb => by
    rw [run_callFunc_extern Tryd.func63 (by kernel_rfl) (by kernel_rfl) (by kernel_rfl) (e := Extern.SlicesOverlaps.overlaps #[22, 22] #[4]) (by kernel_rfl),
      Lib.run_overlaps_apart w 22 4 39 Tryd.underlying22 6 Tryd.sizeOf39 ⟨vb, 0, none⟩ ⟨b, (i + 1) * 6, none⟩ 1 vc lb cb hvb _ _ _ _ (shape_row hv) (shape_row hb) (by omega) (frozen_row hv) (frozen_row hv)]
    rfl
  have hw1 : IntKind.i64.wrap ((i : Int) + 1) = (i : Int) + 1 := by rw [IntKind.wrap_i64]; omega
  have hdl : ((cur.toList.take (n * 6)).drop (i * 6)).length = (n - i) * 6 := by simp; omega
  have hcp1 : ∀ ty dc sc, (Builtin.copy_ #[23, 23] ty #[.slice (some ⟨b, (i + 1) * 6, none⟩) (n - i) dc, .slice (some ⟨b, i * 6, none⟩) (n + 1 - i) sc]).run Tryd.prog w.drew = .ok (goInt (Nat.min (n + 1 - i) (n - i))) (w.drew.setRow b (mid cur i n c)) := fun ty dc sc =>
    run_copy_rowK w.drew 23 23 ty 39 6 b ((i + 1) * 6) _ dc ⟨b, i * 6, none⟩ _ sc cur tb ((cur.toList.take (n * 6)).drop (i * 6)) Tryd.underlying23 hsz hb (by rw [hdl]; simp only [Nat.min_def]; split <;> omega)
      (fun j v hj => by
        rw [List.getElem?_drop, List.getElem?_take] at hj
        split at hj
        · rw [Addr.add_lit]
          exact (cellRow (w := w.drew) hb _).trans (by simpa using hj)
        · cases hj) (by rw [hdl, hcs]; omega) (fun v hv => h1 v (List.mem_of_mem_drop hv))
  obtain ⟨W1, hW1⟩ : ∃ W1, W1 = w.drew.setRow b (mid cur i n c) := ⟨_, rfl⟩
  rw [← hW1] at hcp1 ⊢
  have hms : (mid cur i n c).size = cur.size := by unfold mid; simp; omega
  have hbb1 : W1.heap[b]? = some (.cells (mid cur i n c) tb (0, 0)) := by rw [hW1]; exact setRow_heap w.drew b cur _ tb _ hb
  have hv1 : W1.heap[vb]? = some (.cells vcur tv (0, 0)) := by rw [hW1]; exact (setRow_other w.drew b vb _ hvb).trans hv
  have hcp2 : ∀ ty dc, (Builtin.copy_ #[23, 22] ty #[.slice (some ⟨b, i * 6, none⟩) (n + 1 - i) dc, .slice (some ⟨vb, 0, none⟩) 1 vc]).run Tryd.prog W1 = .ok (goInt (Nat.min 1 (n + 1 - i))) (W1.setRow b (fin (mid cur i n c) vcur i)) := fun ty dc =>
    run_copy_rowK W1 23 22 ty 39 6 b (i * 6) _ dc ⟨vb, 0, none⟩ _ vc (mid cur i n c) tb (vcur.toList.take 6) Tryd.underlying23 hsz hbb1 (by simp only [Nat.min_def]; split <;> simp <;> omega)
      (fun j v hj => by
        rw [List.getElem?_take] at hj
        split at hj
        · rw [Addr.add_lit]
          exact (cellRow (w := W1) hv1 _).trans (by simpa using hj)
        · cases hj) (by rw [hms]; simp; omega) h1v
  have hb1 : (0 : Int) ≤ (i : Int) + 1 := by omega
  have hin : i ≤ n := by omega
  have htn : ((i : Int) + 1).toNat = i + 1 := by omega
  have hb2 : ¬ (c = i + 1) := by omega
  have hb3 : (i : Int) ≤ (n : Int) + 1 := by omega
  have hb4 : ¬ (c = i) := by omega
  clear hW1 hdl hms hbb1 hv1 h1 h1v hsz
  go_enter Tryd.func44, Tryd.ntmps44
  go_wp2_with (simp only [hov])
  go_region_law (refine step_copy_runI rfl _ _ 23 23 rfl _ _ (by simp [Act.eval, Act.put]) (by simp [Act.eval, Act.put]) (hcp1 _ _ _) ?_)
  go_wp2_with (at_builtin; refine wpList_copy_runI _ rfl _ _ 23 22 rfl _ _ rfl rfl (hcp2 _ _) ?_)
  go_ret
  exact ⟨rfl, rfl⟩

set_option maxHeartbeats 4000000 in
set_option maxRecDepth 100000 in
theorem atEnd (base : Option Addr) (n c : Nat) (vb vc : Nat) (w w1 : World) (r : Value) (hc63 : c ≤ 9223372036854775807) (hnc : n ≤ c)
    (hrun0 : ∀ ty, (Builtin.append_ #[23, 23] ty #[.slice base n c, .slice (some ⟨vb, 0, none⟩) 1 vc]).run Tryd.prog w = .ok r w1) :
    Calls Tryd.prog 44 #[.slice base n c, .int .i64 n, .slice (some ⟨vb, 0, none⟩) 1 vc] w fun e w' => e = .returned r ∧ w' = w1 := by
  have hrun : ∀ ty, (Builtin.append_ #[23, 22] ty #[.slice base n c, .slice (some ⟨vb, 0, none⟩) 1 vc]).run Tryd.prog w = .ok r w1 := fun ty => (append2_run w Tryd.underlying23 Tryd.underlying22 ty _ _).trans (hrun0 ty)
  clear hrun0
  go_enter Tryd.func44, Tryd.ntmps44
  cases base with
  | none =>
    go_wp2_with (at_builtin; refine Lib.wpList_append_run _ rfl _ _ _ _ rfl _ _ rfl rfl _ _ (hrun _) ?_)
    all_goals (go_ret; exact ⟨rfl, rfl⟩)
  | some a =>
    obtain ⟨ab, ao, asp⟩ := a
    go_wp2_with (at_builtin; refine Lib.wpList_append_run _ rfl _ _ _ _ rfl _ _ rfl rfl _ _ (hrun _) ?_)
    all_goals (go_ret; exact ⟨rfl, rfl⟩)

def put1 (row vcur : Array Value) (i : Nat) : Array Value := (row.toList.take (i * 6) ++ vcur.toList.take 6 ++ row.toList.drop (i * 6 + (vcur.toList.take 6).length)).toArray
def put2 (row cur : Array Value) (i n : Nat) : Array Value := (row.toList.take ((i + 1) * 6) ++ (cur.toList.take (n * 6)).drop (i * 6) ++ row.toList.drop ((i + 1) * 6 + ((cur.toList.take (n * 6)).drop (i * 6)).length)).toArray
set_option maxHeartbeats 4000000 in
set_option maxRecDepth 100000 in
theorem grow (b n i vb vc : Nat) (cur vcur : Array Value) (w : World) (tb tv : TypeId) (inf : TypeInfo) (z : Value) (hinf : Tryd.prog.info? 39 = some inf) (hz : inf.zero = some z) (hzs : z.cells.size = 6) (hsz0 : inf.size = 6) (hi : i < n) (hc63 : n < 9223372036854775807) (hvb : vb ≠ b)
    (hbytes : (n + 1) * inf.bytes ≤ 140737488355328)
    (hb : w.heap[b]? = some (.cells cur tb (0, 0))) (hv : w.heap[vb]? = some (.cells vcur tv (0, 0))) (hcs : cur.size = n * 6) (hvs : 6 ≤ vcur.size)
    (h1 : ∀ v ∈ (cur.toList.take (n * 6)), v.oneCell' = true) (h1v : ∀ v ∈ vcur.toList.take 6, v.oneCell' = true) :
    Calls Tryd.prog 44 #[.slice (some ⟨b, 0, none⟩) n n, .int .i64 i, .slice (some ⟨vb, 0, none⟩) 1 vc] w fun e w' =>
      e = .returned (.slice (some ⟨w.heap.size, 0, none⟩) (n + 1) (grownCap w (n + 1) n 39)) ∧ ∃ row : Array Value, row.toList.take (i * 6) = cur.toList.take (i * 6) ∧ row.size = (grownCap w (n + 1) n 39) * 6 ∧
        w' = (((w.alloc (.cells row 39)).setRow w.heap.size (put1 row vcur i)).setRow w.heap.size (put2 (put1 row vcur i) cur i n)).drew.drew := by
  have hz2 : ¬ ((i : Int) = (n : Int)) := by omega
  have hsz : (Tryd.prog.info? 39).map (·.size) = some 6 := by kernel_rfl
  have hkk : (n : Int) + 1 - (i : Int) = ((n + 1 - i : Nat) : Int) := by omega
  have hik : i + (n + 1 - i) = n + 1 := by omega
  have hlt : ∀ {b : Nat} {o : Obj}, w.heap[b]? = some o → b < w.heap.size := by
    intro b o hw
    rcases Nat.lt_or_ge b w.heap.size with h' | h'
    · exact h'
    · rw [Array.getElem?_eq_none h'] at hw; cases hw
  have hbw := hlt hb
  have hvw := hlt hv
  have hold : (Builtin.firstCells inf.size i (.slice (some ⟨b, 0, none⟩) i n)).run Tryd.prog w.drew = .ok (cur.toList.take (i * 6)).toArray w.drew := by
    rw [hsz0]
    exact run_firstCells_some w.drew 6 i ⟨b, 0, none⟩ i n (cur.toList.take (i * 6)) (by rw [List.length_take, Array.length_toList]; omega) (fun j v hj => by
      rw [Addr.add_lit]
      rw [List.getElem?_take] at hj
      split at hj
      · exact (cellRow (w := w.drew) hb _).trans (by simpa using hj)
      · cases hj)
  have hfit := growslice_fits (need := n + 1) (old := n) (bytes := inf.bytes) (by omega) hbytes
  have hrz0 := fun ty => Lib.run_append_grow_zeros w 23 3 ty 39 inf z .i64 .i64 Tryd.underlying23 Tryd.underlying3 hinf hz (some ⟨b, 0, none⟩) i n (cur.toList.take (i * 6)) hold (n + 1 - i) (by omega) (by omega) (by omega) (by omega) (Nat.le_trans (Nat.mul_le_mul_right _ (by omega)) (Nat.le_trans hbytes (by omega))) (by rw [hik]; exact hfit)
  simp only [hik] at hrz0
  have hge := grownCap_ge w (n + 1) n 39
  have hG63 : grownCap w (n + 1) n 39 ≤ 9223372036854775807 := by
    have := grownCap_le_maxLen w (n + 1) n 39 (by unfold maxLen; omega)
    unfold maxLen at this
    omega
  generalize hG : grownCap w (n + 1) n 39 = G at hrz0 hge hG63 ⊢
  obtain ⟨ROW, hROW⟩ : ∃ ROW : Array Value, ROW = (cur.toList.take (i * 6)).toArray ++ Builtin.zeroCells z.cells (n + 1 - i) ++ Builtin.zeroCells z.cells (G - (n + 1)) := ⟨_, rfl⟩
  have hRl : ROW.size = G * 6 := by
    rw [hROW]
    simp only [Array.size_append, size_zeroCells, hzs, List.size_toArray, List.length_take, Array.length_toList, hcs]
    omega
  have hRt : ROW.toList.take (i * 6) = cur.toList.take (i * 6) := by
    rw [hROW]
    simp only [Array.toList_append]
    rw [List.append_assoc, List.take_append_of_le_length (by simp; omega)]
    show List.take (i * 6) (List.take (i * 6) cur.toList) = _
    rw [List.take_take, Nat.min_self]
  rw [← hROW] at hrz0
  have hrz : ∀ ty, (Builtin.append_ #[23, 3] ty #[.slice (some ⟨b, 0, none⟩) i n, .int .i64 ((n : Int) + 1 - (i : Int))]).run Tryd.prog w = .ok (.slice (some ⟨w.heap.size, 0, none⟩) (n + 1) G) (w.drew.alloc (.cells ROW 39)) := fun ty => by
    rw [hkk]; exact hrz0 ty
  clear hrz0 hROW
  obtain ⟨W1, hW1⟩ : ∃ W1, W1 = w.drew.alloc (.cells ROW 39) := ⟨_, rfl⟩
  have n1 : W1.heap[w.heap.size]? = some (.cells ROW 39 (0, 0)) := by rw [hW1]; exact alloc_new w.drew _
  have b1 : W1.heap[b]? = some (.cells cur tb (0, 0)) := by rw [hW1]; exact (alloc_keep w.drew _ b hbw).trans hb
  have v1 : W1.heap[vb]? = some (.cells vcur tv (0, 0)) := by rw [hW1]; exact (alloc_keep w.drew _ vb hvw).trans hv
  have hp1 : (put1 ROW vcur i).size = ROW.size := by unfold put1; simp; omega
  have hcpA : ∀ (W : World), W.heap = W1.heap → ∀ ty dc, (Builtin.copy_ #[23, 22] ty #[.slice (some ⟨w.heap.size, i * 6, none⟩) (n + 1 - i) dc, .slice (some ⟨vb, 0, none⟩) 1 vc]).run Tryd.prog W = .ok (goInt (Nat.min 1 (n + 1 - i))) (W.setRow w.heap.size (put1 ROW vcur i)) := fun W hW ty dc =>
    run_copy_rowK W 23 22 ty 39 6 w.heap.size (i * 6) _ dc ⟨vb, 0, none⟩ _ vc ROW 39 (vcur.toList.take 6) Tryd.underlying23 hsz (by rw [hW]; exact n1) (by simp only [Nat.min_def]; split <;> simp <;> omega)
      (fun j v hj => by
        rw [List.getElem?_take] at hj
        split at hj
        · rw [Addr.add_lit]
          exact (cellRow (w := W) (by rw [hW]; exact v1) _).trans (by simpa using hj)
        · cases hj) (by rw [hRl]; simp; omega) h1v
  have hdl : ((cur.toList.take (n * 6)).drop (i * 6)).length = (n - i) * 6 := by simp; omega
  have n2 : ∀ (W : World), W.heap = W1.heap → (W.setRow w.heap.size (put1 ROW vcur i)).heap[w.heap.size]? = some (.cells (put1 ROW vcur i) 39 (0, 0)) := fun W hW => setRow_heap W _ ROW _ 39 _ (by rw [hW]; exact n1)
  have b2 : ∀ (W : World), W.heap = W1.heap → (W.setRow w.heap.size (put1 ROW vcur i)).heap[b]? = some (.cells cur tb (0, 0)) := fun W hW => (setRow_other W _ b _ (by omega)).trans (by rw [hW]; exact b1)
  have hcpB : ∀ (V W : World), W.heap = W1.heap → V.heap = (W.setRow w.heap.size (put1 ROW vcur i)).heap → ∀ ty dc sc, (Builtin.copy_ #[23, 23] ty #[.slice (some ⟨w.heap.size, (i + 1) * 6, none⟩) (n - i) dc, .slice (some ⟨b, i * 6, none⟩) (n - i) sc]).run Tryd.prog V = .ok (goInt (Nat.min (n - i) (n - i))) (V.setRow w.heap.size (put2 (put1 ROW vcur i) cur i n)) := fun V W hW hV ty dc sc =>
    run_copy_rowK V 23 23 ty 39 6 w.heap.size ((i + 1) * 6) _ dc ⟨b, i * 6, none⟩ _ sc (put1 ROW vcur i) 39 ((cur.toList.take (n * 6)).drop (i * 6)) Tryd.underlying23 hsz (by rw [hV]; exact n2 W hW) (by rw [hdl, show (n - i).min (n - i) = n - i from Nat.min_self _])
      (fun j v hj => by
        rw [List.getElem?_drop, List.getElem?_take] at hj
        split at hj
        · rw [Addr.add_lit]
          exact (cellRow (w := V) (by rw [hV]; exact b2 W hW) _).trans (by simpa using hj)
        · cases hj) (by rw [hdl, hp1, hRl]; omega) (fun v hv => h1 v (List.mem_of_mem_drop hv))
  subst hW1
  have hA := hcpA ((w.alloc (.cells ROW 39)).drew) rfl
  have hB := hcpB (((w.alloc (.cells ROW 39)).drew.setRow w.heap.size (put1 ROW vcur i)).drew) (w.drew.alloc (.cells ROW 39)) rfl rfl
  clear hcpA hcpB
  have hGi : ¬ (G = i) := by omega
  have hGim : ¬ (G = i + 1) := by omega
  have hci : ¬ (n = i) := by omega
  have hw1 : IntKind.i64.wrap ((i : Int) + 1) = (i : Int) + 1 := by rw [IntKind.wrap_i64]; omega
  have hb1 : (0 : Int) ≤ (i : Int) + 1 := by omega
  have hin : i ≤ n := by omega
  have htn : ((i : Int) + 1).toNat = i + 1 := by omega
  have hb3 : (i : Int) ≤ (n : Int) := by omega
  have keep : ∃ R : Array Value, R = ROW := ⟨_, rfl⟩
  clear hkk hik hold hfit hge hsz hdl hp1 h1 h1v n1 b1 v1 n2 b2 hbytes hinf hz hzs hsz0
  refine Calls.mono (R := fun e w' => e = .returned (.slice (some ⟨w.heap.size, 0, none⟩) (n + 1) G) ∧ w' = (((w.alloc (.cells ROW 39)).setRow w.heap.size (put1 ROW vcur i)).setRow w.heap.size (put2 (put1 ROW vcur i) cur i n)).drew.drew) ?_ (fun e w' h => ⟨h.1, ROW, hRt, hRl, h.2⟩)
  clear hRt hRl
  go_enter Tryd.func44, Tryd.ntmps44
  go_wp2_with (at_builtin; refine Lib.wpList_append_run _ rfl _ _ _ _ rfl _ _ rfl rfl _ _ (hrz _) ?_)
  go_region_law (refine step_copy_runI rfl _ _ 23 23 rfl _ _ (by simp [Act.eval, Act.put]) (by simp [Act.eval, Act.put]) (hB _ _ _) ?_)
  go_wp2
  go_ret
  exact ⟨rfl, rfl⟩

theorem flatten3 {A Y C : List Value} (l : List Value) (p q : Nat) (hA : A.length = p) (hY : Y.length = q) : (A ++ Y ++ l).take p = A ∧ True := ⟨by rw [List.append_assoc, List.take_append_of_le_length (by omega), List.take_of_length_le (by omega)], trivial⟩
theorem insC : InsC Tryd.prog 44 23 39 6 := by
  refine ⟨?_, ?_, ?_⟩
  · intro b c n i vb vc cur vcur w tb tv hi hroom hc63 hvb hb hv hcs hvs h1 h1v
    refine (shift b c n i vb vc cur vcur w tb tv hi hroom hc63 hvb hb hv hcs hvs h1 h1v).mono fun x w' hx => ?_
    obtain ⟨rfl, rfl⟩ := hx
    have hcl : cur.toList.length = cur.size := Array.length_toList
    have hvl : vcur.toList.length = vcur.size := Array.length_toList
    have hCl : ((cur.toList.take (n * 6)).drop (i * 6)).length = (n - i) * 6 := by simp; omega
    have hml : (mid cur i n c).toList.length = cur.size := by unfold mid; simp; omega
    have hfl : (fin (mid cur i n c) vcur i).toList.length = cur.size := by unfold fin; simp only [List.length_append, List.length_take, List.length_drop, hml, hvl]; omega
    have hm : (mid cur i n c).toList = cur.toList.take ((i + 1) * 6) ++ ((cur.toList.take (n * 6)).drop (i * 6) ++ cur.toList.drop ((i + 1) * 6 + ((cur.toList.take (n * 6)).drop (i * 6)).length)) := by unfold mid; simp only [List.append_assoc]
    have e1 : (mid cur i n c).toList.take (i * 6) = cur.toList.take (i * 6) := by
      rw [hm, List.take_append_of_le_length (by rw [List.length_take]; omega), List.take_take, Nat.min_eq_left (by omega)]
    have e2 : (mid cur i n c).toList.drop (i * 6 + (vcur.toList.take 6).length) = (cur.toList.take (n * 6)).drop (i * 6) ++ cur.toList.drop ((i + 1) * 6 + ((cur.toList.take (n * 6)).drop (i * 6)).length) := by
      have hq : i * 6 + (vcur.toList.take 6).length = (cur.toList.take ((i + 1) * 6)).length := by simp only [List.length_take, hvl, hcl]; omega
      rw [hm, hq, List.drop_left]
    refine ⟨rfl, (fin (mid cur i n c) vcur i).toList, cur.toList.drop ((i + 1) * 6 + ((cur.toList.take (n * 6)).drop (i * 6)).length), ?_, hfl, ?_, ?_, ?_, ?_, ?_, ?_⟩
    · unfold fin
      rw [e1, e2]
      simp only [List.append_assoc]
    · rw [Array.toArray_toList]
      exact setRow_heap (w.drew.setRow b (mid cur i n c)) b _ _ tb _ (setRow_heap w.drew b cur _ tb _ hb)
    · intro j hj
      exact (setRow_other _ b j _ hj).trans (setRow_other w.drew b j _ hj)
    · rw [(Go.Proofs.YtnbkofkgdbhbpaaDoor.Sk.setRow_os _ b _).2.2.2, (Go.Proofs.YtnbkofkgdbhbpaaDoor.Sk.setRow_os _ b _).2.2.2]; rfl
    · rw [(Go.Proofs.YtnbkofkgdbhbpaaDoor.Sk.setRow_os _ b _).1, (Go.Proofs.YtnbkofkgdbhbpaaDoor.Sk.setRow_os _ b _).1]; rfl
    · rw [(Go.Proofs.YtnbkofkgdbhbpaaDoor.Sk.setRow_os _ b _).2.1, (Go.Proofs.YtnbkofkgdbhbpaaDoor.Sk.setRow_os _ b _).2.1]; rfl
    · exact OutOk.trans (OutOk.trans (w1 := w.drew) ⟨rfl, Nat.le_succ _⟩ (Go.Proofs.YtnbkofkgdbhbpaaDoor.Sk.setRow_os _ b _).2.2.1) (Go.Proofs.YtnbkofkgdbhbpaaDoor.Sk.setRow_os _ b _).2.2.1
  · intro base n c vb vc w w1 r hc63 hnc hrun
    exact atEnd base n c vb vc w w1 r hc63 hnc hrun
  · intro b n i vb vc cur vcur w tb tv inf z hinf hz hzs hsz hi hc63 hvb hbytes hb hv hcs hvs h1 h1v
    refine (grow b n i vb vc cur vcur w tb tv inf z hinf hz hzs hsz hi hc63 hvb hbytes hb hv hcs hvs h1 h1v).mono fun x w' hx => ?_
    obtain ⟨rfl, row, hrt, hrs, rfl⟩ := hx
    have hcl : cur.toList.length = cur.size := Array.length_toList
    have hvl : vcur.toList.length = vcur.size := Array.length_toList
    have hrl : row.toList.length = row.size := Array.length_toList
    have hG := grownCap_ge w (n + 1) n 39
    have hCl : ((cur.toList.take (n * 6)).drop (i * 6)).length = (n - i) * 6 := by simp; omega
    have hpl : (put1 row vcur i).toList.length = row.size := by unfold put1; simp; omega
    have hp2 : (put2 (put1 row vcur i) cur i n).toList.length = row.size := by unfold put2; simp only [List.length_append, List.length_take, List.length_drop, hpl, hcl]; omega
    have e1 : (put1 row vcur i).toList.take ((i + 1) * 6) = cur.toList.take (i * 6) ++ vcur.toList.take 6 := by
      unfold put1
      rw [hrt]
      show (cur.toList.take (i * 6) ++ vcur.toList.take 6 ++ _).take _ = _
      have hq : (i + 1) * 6 = (cur.toList.take (i * 6) ++ vcur.toList.take 6).length := by simp only [List.length_append, List.length_take, hvl, hcl]; omega
      rw [hq, List.take_left]
    have hn0 : (w.alloc (.cells row 39)).heap[w.heap.size]? = some (.cells row 39 (0, 0)) := alloc_new w _
    refine ⟨_, rfl, hG, grownCap_le_maxLen w (n + 1) n 39 (by unfold maxLen; omega), (put2 (put1 row vcur i) cur i n).toList, (put1 row vcur i).toList.drop ((i + 1) * 6 + ((cur.toList.take (n * 6)).drop (i * 6)).length), ?_, hp2.trans hrs, ?_, ?_, ?_, ?_, ?_, ?_⟩
    · unfold put2
      rw [e1]
    · rw [Array.toArray_toList]
      exact setRow_heap _ _ _ _ 39 _ (setRow_heap _ _ row _ 39 _ hn0)
    · intro j hj
      exact ((setRow_other _ _ j _ (by omega)).trans (setRow_other _ _ j _ (by omega))).trans (alloc_keep w _ j hj)
    · exact (Go.Proofs.YtnbkofkgdbhbpaaDoor.Sk.setRow_os _ w.heap.size (put2 (put1 row vcur i) cur i n)).2.2.2.trans ((Go.Proofs.YtnbkofkgdbhbpaaDoor.Sk.setRow_os (w.alloc (.cells row 39)) w.heap.size (put1 row vcur i)).2.2.2.trans (by simp))
    · exact (Go.Proofs.YtnbkofkgdbhbpaaDoor.Sk.setRow_os _ w.heap.size (put2 (put1 row vcur i) cur i n)).1.trans ((Go.Proofs.YtnbkofkgdbhbpaaDoor.Sk.setRow_os (w.alloc (.cells row 39)) w.heap.size (put1 row vcur i)).1.trans rfl)
    · exact (Go.Proofs.YtnbkofkgdbhbpaaDoor.Sk.setRow_os _ w.heap.size (put2 (put1 row vcur i) cur i n)).2.1.trans ((Go.Proofs.YtnbkofkgdbhbpaaDoor.Sk.setRow_os (w.alloc (.cells row 39)) w.heap.size (put1 row vcur i)).2.1.trans rfl)
    · exact OutOk.trans (OutOk.trans (OutOk.trans (w1 := w.alloc (.cells row 39)) ⟨rfl, Nat.le_refl _⟩ (Go.Proofs.YtnbkofkgdbhbpaaDoor.Sk.setRow_os (w.alloc (.cells row 39)) w.heap.size (put1 row vcur i)).2.2.1) (Go.Proofs.YtnbkofkgdbhbpaaDoor.Sk.setRow_os _ w.heap.size (put2 (put1 row vcur i) cur i n)).2.2.1) ⟨rfl, Nat.le_add_right _ 2⟩
end Go.Proofs.YtnbkofkgdbhbpaaDoor.Ins44
