/- slices.SortFunc off the shelf's contract, told of raw cells. -/
import Derived.Test.YtoapmjnfiimmjaaSkMac
import Derived.Shelf.SlSortCmp.NoneTotal
set_option linter.unusedVariables false
set_option linter.unusedSimpArgs false
namespace Go.Proofs.Ytoapmjnfiimmjaa.Sk
open Go Go.RowKit Go.Sort Go.Proofs Go.Lib

/-- All that lay in w lies there still, but for one block. -/
def Wide (b : Nat) (w W : World) : Prop := (∀ j, j < w.heap.size → j ≠ b → W.heap[j]? = w.heap[j]?) ∧ w.heap.size ≤ W.heap.size ∧ W.os = w.os ∧ W.tape = w.tape ∧ OutOk w W
/-- All that lay in w lies there still. -/
def Grown (w W : World) : Prop := (∀ j, j < w.heap.size → W.heap[j]? = w.heap[j]?) ∧ w.heap.size ≤ W.heap.size ∧ W.os = w.os ∧ W.tape = w.tape ∧ OutOk w W

theorem grown_eq {w W : World} (h : Grown w W) : ∃ q os, W = grow (w.drewN q) os := by
  obtain ⟨h1, h2, h3, h4, h5, h6⟩ := h
  refine ⟨W.drawn - w.drawn, W.heap.extract w.heap.size W.heap.size, ?_⟩
  have hh : W.heap = w.heap ++ W.heap.extract w.heap.size W.heap.size := by
    apply Array.ext_getElem?
    intro i
    rw [Array.getElem?_append]
    split
    · rename_i hi; exact h1 i hi
    · rename_i hi
      rw [Array.getElem?_extract]
      split
      · congr 1; omega
      · rename_i hn; rw [Array.getElem?_eq_none]; omega
  have hd : W.drawn = w.drawn + (W.drawn - w.drawn) := by omega
  cases W with
  | mk heap tape drawn os output =>
    simp only at h3 h4 h5 hh hd
    subst h3 h4 h5
    show World.mk _ _ _ _ _ = World.mk _ _ _ _ _
    congr 1

/-- slices.SortFunc, of elements of k cells, as an argument of the comparing function told by arg. -/
structure SortC (P : Program) (f : FuncId) (k : Nat) (arg : List Value → Value) : Prop where
  nil : ∀ (p : Option Addr) (cap : Nat) (fv : Value) (w : World), Calls P f #[.slice p 0 cap, fv] w fun e w' => e = .returned (.tuple #[]) ∧ w' = w
  run : ∀ (n : Nat) (row : Fin n → List Value) (cf : Fin n → Fin n → Int) (g : Nat) (cb : Array Value) (blk cap : Nat) (w : World) (cur : Array Value) (T : TypeId), 0 < n → (∀ i, (row i).length = k) → (∀ i, ∀ v ∈ row i, v.oneCell' = true) →
    SWO (ltOf cf) → (∀ x y, ltOf cf x y = false → ltOf cf y x = false → x = y) → w.heap[blk]? = some (.cells cur T (0, 0)) → (∀ i : Fin n, (cur.toList.drop (i.val * k)).take k = row i) → n < 4611686018427387904 →
    (∀ args w, (callFunc g args).run P w = .ok (.enter g args) w) →
    (∀ W, Wide blk w W → ∀ x y, Calls P g (#[arg (row x), arg (row y)] ++ cb) W fun e w' => e = .returned (.int .i64 (cf x y)) ∧ Grown W w') →
    Calls P f #[.slice (some ⟨blk, 0, none⟩) n cap, .func (.func g) #[] cb] w fun e w' => e = .returned (.tuple #[]) ∧ Wide blk w w' ∧ ∃ cur' : Array Value, w'.heap[blk]? = some (.cells cur' T (0, 0)) ∧ cur'.size = cur.size ∧
      ∀ (i : Nat) (x : Fin n), ((List.finRange n).mergeSort fun x y => !ltOf cf y x)[i]? = some x → (cur'.toList.drop (i * k)).take k = row x

theorem finRange_get! {n : Nat} [Inhabited (Fin n)] {i : Nat} (h : i < n) : (List.finRange n).toArray[i]! = ⟨i, h⟩ := by
  rw [getElem!_pos _ i (by simpa using h)]
  simp

theorem heap_sortWorld (w : World) (blk m : Nat) (F : Array Value) (os : Array Obj) (j : Nat) (hj : j < w.heap.size) : (grow (putRow id (Sort.ahead w m) blk 0 F) os).heap[j]? = (w.heap.modify blk (onCells (putCells id 0 F)))[j]? := by
  show ((putRow id (Sort.ahead w m) blk 0 F).heap ++ os)[j]? = _
  rw [Array.getElem?_append_left (by rw [size_putRow]; exact hj)]
  rfl

theorem wide_sortWorld (w : World) (blk m : Nat) (F : Array Value) (os : Array Obj) : Wide blk w (grow (putRow id (Sort.ahead w m) blk 0 F) os) := by
  refine ⟨fun j hj hne => ?_, ?_, rfl, rfl, rfl, ?_⟩
  · rw [heap_sortWorld w blk m F os j hj, Array.getElem?_modify, if_neg (Ne.symm hne)]
  · rw [size_grow, size_putRow]; exact Nat.le_add_right _ _
  · show w.drawn ≤ w.drawn + m; omega

theorem blk_sortWorld {w : World} {blk : Nat} {cur : Array Value} {T : TypeId} (hw : w.heap[blk]? = some (.cells cur T (0, 0))) (m : Nat) (F : Array Value) (os : Array Obj) :
    (grow (putRow id (Sort.ahead w m) blk 0 F) os).heap[blk]? = some (.cells (putCells id 0 F cur) T (0, 0)) := by
  have hlt : blk < w.heap.size := by
    rcases Nat.lt_or_ge blk w.heap.size with h | h
    · exact h
    · rw [Array.getElem?_eq_none h] at hw; cases hw
  rw [heap_sortWorld w blk m F os blk hlt, Array.getElem?_modify, if_pos rfl, hw]
  rfl

section
variable {n k : Nat} {row : Fin n → List Value} [Inhabited (Fin n)]
theorem flat_get (hk : ∀ i, (row i).length = k) (d : Array (Fin n)) (t : Nat) (h : t < d.size * k) (x : Fin n) (hx : d[t / k]? = some x) (v : Value) (hv : (row x)[t % k]? = some v) : (flatK row k d)[t]! = v := by
  rw [get_flatK row k d t h]
  have hl := (Array.getElem?_eq_some_iff.1 hx)
  obtain ⟨hl, hx⟩ := hl
  rw [getElem!_pos d _ hl, hx]
  obtain ⟨hl2, hv⟩ := List.getElem?_eq_some_iff.1 hv
  rw [List.getElem!_eq_getElem?_getD, List.getElem?_eq_getElem hl2, hv]
  rfl

theorem take_row (hk : ∀ i, (row i).length = k) (cur : Array Value) (d : Array (Fin n)) (hs : d.size * k ≤ cur.size) (i : Nat) (x : Fin n) (hx : d[i]? = some x) :
    ((putCells id 0 (flatK row k d) cur).toList.drop (i * k)).take k = row x := by
  obtain ⟨hi, _⟩ := Array.getElem?_eq_some_iff.1 hx
  have hik : (i + 1) * k ≤ d.size * k := Nat.mul_le_mul_right _ hi
  rw [Nat.add_mul, Nat.one_mul] at hik
  apply List.ext_getElem?
  intro j
  rw [List.getElem?_take]
  split
  · rename_i hj
    obtain ⟨v, hv⟩ : ∃ v, (row x)[j]? = some v := ⟨_, List.getElem?_eq_getElem (by rw [hk]; exact hj)⟩
    rw [hv, List.getElem?_drop, Array.getElem?_toList]
    unfold putCells
    have hlt : i * k + j < d.size * k := by omega
    rw [Array.getElem?_mapIdx, Array.getElem?_eq_getElem (by omega), Option.map_some, size_flatK, if_pos (by omega), Nat.sub_zero]
    have hq : (i * k + j) / k = i := by rw [Nat.mul_comm, Nat.mul_add_div (by omega), Nat.div_eq_of_lt hj, Nat.add_zero]
    have hr : (i * k + j) % k = j := by rw [Nat.mul_comm, Nat.mul_add_mod, Nat.mod_eq_of_lt hj]
    rw [flat_get hk d _ hlt x (by rw [hq]; exact hx) v (by rw [hr]; exact hv)]
    rfl
  · rename_i hj
    rw [List.getElem?_eq_none]
    rw [hk]; omega

theorem holds_row (hk : ∀ i, (row i).length = k) {w : World} {blk : Nat} {cur : Array Value} {T : TypeId} (hw : w.heap[blk]? = some (.cells cur T (0, 0))) (hrow : ∀ i : Fin n, (cur.toList.drop (i.val * k)).take k = row i) :
    HoldsK row k w blk 0 (List.finRange n).toArray := by
  intro j hj
  rw [size_flatK] at hj
  have hs : (List.finRange n).toArray.size = n := by simp
  rw [hs] at hj
  have h0 : 0 < k := Nat.pos_of_ne_zero fun e => by subst e; simp at hj
  have hq : j / k < n := (Nat.div_lt_iff_lt_mul h0).2 hj
  have hr : j % k < k := Nat.mod_lt _ h0
  have hdm : j / k * k + j % k = j := by rw [Nat.mul_comm]; exact Nat.div_add_mod j k
  have hv : (row ⟨j / k, hq⟩)[j % k]? = some ((row ⟨j / k, hq⟩)[j % k]'(by rw [hk]; exact hr)) := List.getElem?_eq_getElem _
  have hc : cur[j]? = (row ⟨j / k, hq⟩)[j % k]? := by
    rw [← hrow ⟨j / k, hq⟩, List.getElem?_take, if_pos hr, List.getElem?_drop, hdm, Array.getElem?_toList]
  refine ⟨?_, ?_⟩
  · rw [flat_get hk _ j (by rw [hs]; exact hj) ⟨j / k, hq⟩ (by simp [hq]) _ hv, Nat.zero_add]
    show w.cell? ⟨blk, j, none⟩ = _
    simp only [World.cell?, hw]
    exact hc.trans hv
  · simp [World.frozen?, hw]
end

variable {P : Program} {ρ : Go.Shelf.Ren}
theorem sortC_K (L : SlLaysF0.n6 P ρ) (k : Nat) (aE : ∀ w, (isAgg (ρ.t 24)).run P w = .ok true w) (zE : ∀ w, (Go.sizeOf (ρ.t 24)).run P w = .ok k w) : SortC P (ρ.f 6) k (fun l => .agg l.toArray) := by
  refine ⟨fun p cap fv w => AnyF.slices_SortFunc_none L p cap fv w, ?_⟩
  intro n row cf g cb blk cap w cur T hn hk h1 hO hT hw hrow hsz eg hcmp
  have : Inhabited (Fin n) := ⟨⟨0, hn⟩⟩
  have hs : (List.finRange n).toArray.size = n := by simp
  have hlt : blk < w.heap.size := by
    rcases Nat.lt_or_ge blk w.heap.size with h | h
    · exact h
    · rw [Array.getElem?_eq_none h] at hw; cases hw
  have hc : CmpLays P g cb row k cf blk 0 (List.finRange n).toArray.size w := by
    intro m os dk hdk x y
    refine (hcmp _ (wide_sortWorld w blk m (flatK row k dk) os) x y).mono fun e w' he => ?_
    exact ⟨he.1, grown_eq he.2⟩
  have h := AnyQ.slices_SortFunc_total L k aE zE row hk h1 cf hO g cb blk 0 cap (List.finRange n).toArray w eg hc (holds_row hk hw hrow) hlt (by rw [hs]; exact hsz) hT
  rw [hs] at h
  refine h.mono fun e w' he => ?_
  obtain ⟨he, m, os, rfl⟩ := he
  refine ⟨he, wide_sortWorld w blk m _ os, _, blk_sortWorld hw m _ os, by simp [putCells], fun i x hx => ?_⟩
  have hperm : ((List.finRange n).mergeSort fun x y => !ltOf cf y x).length = n := by rw [List.length_mergeSort, List.length_finRange]
  refine take_row hk cur _ ?_ i x ?_
  · have hl : ((cur.toList.drop ((n - 1) * k)).take k).length = (row ⟨n - 1, by omega⟩).length := congrArg List.length (hrow ⟨n - 1, by omega⟩)
    rw [hk, List.length_take, List.length_drop, Array.length_toList] at hl
    have e : n * k = (n - 1) * k + k := by rw [← Nat.succ_mul]; congr 1; omega
    show (List.toArray _).size * k ≤ _
    rw [List.size_toArray, hperm, e]
    rcases Nat.eq_zero_or_pos k with h0 | h0
    · subst h0; simp
    · omega
  · simpa using hx

theorem wide_sortWorld1 {α : Type} [Inhabited α] (enc : α → Value) (w : World) (blk m : Nat) (d : Array α) (os : Array Obj) : Wide blk w (grow (putRow enc (Sort.ahead w m) blk 0 d) os) := by
  refine ⟨fun j hj hne => ?_, ?_, rfl, rfl, rfl, ?_⟩
  · show ((putRow enc (Sort.ahead w m) blk 0 d).heap ++ os)[j]? = _
    rw [Array.getElem?_append_left (by rw [size_putRow]; exact hj)]
    show (w.heap.modify blk _)[j]? = _
    rw [Array.getElem?_modify, if_neg (Ne.symm hne)]
  · rw [size_grow, size_putRow]; exact Nat.le_add_right _ _
  · show w.drawn ≤ w.drawn + m; omega

theorem sortC_1 (L : SlLaysF.n6 P ρ) (k : Nat) (h1k : k = 1) : SortC P (ρ.f 6) k (fun l => l.headD (.bool false)) := by
  subst h1k
  refine ⟨fun p cap fv w => AnyF.slices_SortFunc_none { L with } p cap fv w, ?_⟩
  intro n row cf g cb blk cap w cur T hn hk h1 hO hT hw hrow hsz eg hcmp
  have : Inhabited (Fin n) := ⟨⟨0, hn⟩⟩
  have hs : (List.finRange n).toArray.size = n := by simp
  have hlt : blk < w.heap.size := by
    rcases Nat.lt_or_ge blk w.heap.size with h | h
    · exact h
    · rw [Array.getElem?_eq_none h] at hw; cases hw
  obtain ⟨enc, henc⟩ : ∃ enc : Fin n → Value, ∀ i, row i = [enc i] := by
    refine ⟨fun i => (row i).headD (.bool false), fun i => ?_⟩
    have hki := hk i
    show row i = [(row i).headD (.bool false)]
    match row i, hki with
    | [u], _ => rfl
  have he1 : ∀ i, (row i).headD (.bool false) = enc i := fun i => by rw [henc]; rfl
  have ho : OneCell enc := fun i => h1 i _ (by rw [henc]; simp)
  have hcell : ∀ i : Fin n, cur[i.val]? = some (enc i) := fun i => by
    have := hrow i
    rw [henc, Nat.mul_one] at this
    have h2 := congrArg (fun l => l[0]?) this
    simpa [List.getElem?_take] using h2
  have hH : Holds enc w blk 0 (List.finRange n).toArray := by
    intro j hj
    rw [hs] at hj
    refine ⟨?_, by simp [World.frozen?, hw]⟩
    rw [finRange_get! hj, Nat.zero_add]
    simp only [World.cell?, hw]
    exact hcell ⟨j, hj⟩
  have hc : CmpLays1 P g cb enc cf blk 0 (List.finRange n).toArray.size w := by
    intro m os dk hdk x y
    have := hcmp _ (wide_sortWorld1 enc w blk m dk os) x y
    simp only [he1] at this
    exact this.mono fun e w' he => ⟨he.1, grown_eq he.2⟩
  have h := Any.slices_SortFunc_total L enc ho cf hO g cb blk 0 cap (List.finRange n).toArray w eg hc hH hlt (by rw [hs]; exact hsz) hT
  rw [hs] at h
  refine h.mono fun e w' he => ?_
  obtain ⟨he, m, os, rfl⟩ := he
  refine ⟨he, wide_sortWorld1 enc w blk m _ os, putCells enc 0 ((List.finRange n).mergeSort fun x y => !ltOf cf y x).toArray cur, ?_, by simp [putCells], fun i x hx => ?_⟩
  · show ((putRow enc (Sort.ahead w m) blk 0 _).heap ++ os)[blk]? = _
    rw [Array.getElem?_append_left (by rw [size_putRow]; exact hlt)]
    show (w.heap.modify blk _)[blk]? = _
    rw [Array.getElem?_modify, if_pos rfl, hw]
    rfl
  · have hlen : ((List.finRange n).mergeSort fun x y => !ltOf cf y x).length = n := by rw [List.length_mergeSort, List.length_finRange]
    obtain ⟨hi, hxe⟩ := List.getElem?_eq_some_iff.1 hx
    rw [hlen] at hi
    have hci : i < cur.size := by
      have := hcell ⟨i, hi⟩
      exact (Array.getElem?_eq_some_iff.1 this).1
    have hcc : (putCells enc 0 ((List.finRange n).mergeSort fun x y => !ltOf cf y x).toArray cur).toList[i]? = some (enc x) := by
      rw [Array.getElem?_toList]
      unfold putCells
      rw [Array.getElem?_mapIdx, Array.getElem?_eq_getElem hci, Option.map_some, List.size_toArray, hlen, if_pos (by omega), Nat.sub_zero, getElem!_pos _ i (by rw [List.size_toArray, hlen]; exact hi), List.getElem_toArray, hxe]
    rw [henc, Nat.mul_one]
    apply List.ext_getElem?
    intro j
    rw [List.getElem?_take]
    cases j with
    | zero => rw [if_pos (by omega), List.getElem?_drop, Nat.add_zero, hcc]; rfl
    | succ j => rw [if_neg (by omega)]; rfl
end Go.Proofs.Ytoapmjnfiimmjaa.Sk
