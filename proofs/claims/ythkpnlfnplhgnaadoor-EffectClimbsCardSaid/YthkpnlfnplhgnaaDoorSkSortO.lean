/- slices.Sort of integers and of texts, told as an effect. -/
import Derived.Test.YthkpnlfnplhgnaaDoorSkMac
import Derived.Shelf.Sort.Plain
import Derived.Shelf.Slices.In.SortNone
set_option linter.unusedVariables false
set_option linter.unusedSimpArgs false
namespace Go.Proofs.YthkpnlfnplhgnaaDoor.Sk
open Go Go.RowKit Go.Sort Go.Proofs Go.Shelf

/-- All that lay in w lies there still, but for one block. -/
def WideO (b : Nat) (w W : World) : Prop := (∀ j, j < w.heap.size → j ≠ b → W.heap[j]? = w.heap[j]?) ∧ w.heap.size ≤ W.heap.size ∧ W.os = w.os ∧ W.tape = w.tape ∧ OutOk w W
/-- A function that sorts a slice of one-cell elements. -/
structure SortOC (P : Program) (f : FuncId) (t : Ty) (enc : t.den → Value) (srt : List t.den → List t.den) : Prop where
  nil : ∀ (p : Option Addr) (cap : Nat) (w : World), Calls P f #[.slice p 0 cap] w fun e w' => e = .returned (.tuple #[]) ∧ w' = w
  run : ∀ (l : List t.den) (blk cap : Nat) (w : World) (cur : Array Value) (T : TypeId), w.heap[blk]? = some (.cells cur T (0, 0)) → (∀ (i : Nat) (x : t.den), l[i]? = some x → cur[i]? = some (enc x)) → l.length < 4611686018427387904 →
    Calls P f #[.slice (some ⟨blk, 0, none⟩) l.length cap] w fun e w' => e = .returned (.tuple #[]) ∧ WideO blk w w' ∧ ∃ cur' : Array Value, w'.heap[blk]? = some (.cells cur' T (0, 0)) ∧ cur'.size = cur.size ∧ ∀ (i : Nat) (x : t.den), (srt l)[i]? = some x → cur'[i]? = some (enc x)
  len : ∀ l, (srt l).length = l.length
  sub : ∀ l x, x ∈ srt l → x ∈ l

section
variable {α : Type} [Inhabited α] (enc : α → Value)
theorem wideO (w : World) (blk m : Nat) (d : Array α) (os : Array Obj) : WideO blk w (grow (putRow enc (Sort.ahead w m) blk 0 d) os) := by
  refine ⟨fun j hj hne => ?_, ?_, rfl, rfl, rfl, ?_⟩
  · show ((putRow enc (Sort.ahead w m) blk 0 d).heap ++ os)[j]? = _
    rw [Array.getElem?_append_left (by rw [size_putRow]; exact hj)]
    show (w.heap.modify blk _)[j]? = _
    rw [Array.getElem?_modify, if_neg (Ne.symm hne)]
  · rw [size_grow, size_putRow]; exact Nat.le_add_right _ _
  · show w.drawn ≤ w.drawn + m; omega
theorem blkO {w : World} {blk : Nat} {cur : Array Value} {T : TypeId} (hw : w.heap[blk]? = some (.cells cur T (0, 0))) (m : Nat) (d : Array α) (os : Array Obj) :
    (grow (putRow enc (Sort.ahead w m) blk 0 d) os).heap[blk]? = some (.cells (putCells enc 0 d cur) T (0, 0)) := by
  have hlt : blk < w.heap.size := by
    rcases Nat.lt_or_ge blk w.heap.size with h | h
    · exact h
    · rw [Array.getElem?_eq_none h] at hw; cases hw
  show ((putRow enc (Sort.ahead w m) blk 0 d).heap ++ os)[blk]? = _
  rw [Array.getElem?_append_left (by rw [size_putRow]; exact hlt)]
  show (w.heap.modify blk _)[blk]? = _
  rw [Array.getElem?_modify, if_pos rfl, hw]
  rfl
theorem putO {cur : Array Value} {l : List α} (hl : l.length ≤ cur.size) (i : Nat) (x : α) (hx : l[i]? = some x) : (putCells enc 0 l.toArray cur)[i]? = some (enc x) := by
  obtain ⟨hi, hxe⟩ := List.getElem?_eq_some_iff.1 hx
  unfold putCells
  rw [Array.getElem?_mapIdx, Array.getElem?_eq_getElem (by omega), Option.map_some, List.size_toArray, if_pos (by omega), Nat.sub_zero, getElem!_pos _ i (by rw [List.size_toArray]; exact hi), List.getElem_toArray, hxe]
theorem holdsO {w : World} {blk : Nat} {cur : Array Value} {T : TypeId} (hw : w.heap[blk]? = some (.cells cur T (0, 0))) {l : List α} (h : ∀ (i : Nat) (x : α), l[i]? = some x → cur[i]? = some (enc x)) : Holds enc w blk 0 l.toArray := by
  intro j hj
  rw [List.size_toArray] at hj
  refine ⟨?_, by simp [World.frozen?, hw]⟩
  rw [getElem!_pos _ j (by rw [List.size_toArray]; exact hj), List.getElem_toArray, Nat.zero_add]
  simp only [World.cell?, hw]
  exact h j _ (List.getElem?_eq_getElem hj)
end
theorem boundO {α : Type} (enc : α → Value) {cur : Array Value} {l : List α} (h : ∀ (i : Nat) (x : α), l[i]? = some x → cur[i]? = some (enc x)) : l.length ≤ cur.size := by
  rcases Nat.eq_zero_or_pos l.length with h0 | h0
  · omega
  · have := h (l.length - 1) _ (List.getElem?_eq_getElem (by omega))
    have := (Array.getElem?_eq_some_iff.1 this).1
    omega
def sortI (l : List Int) : List Int := l.mergeSort fun x y => decide (x ≤ y)
theorem sortI_C {P : Program} {ρ : Go.Shelf.Ren} (L : Lays.n189 P ρ) : SortOC P (ρ.f 189) (.int .i64) (Value.int .i64) sortI := by
  refine ⟨fun p cap w => Any.slices_Sort_int_none L p cap w, fun l blk cap w cur T hw h hn => ?_, fun l => List.length_mergeSort _, fun l x hx => (List.mergeSort_perm l _).mem_iff.1 hx⟩
  have hlt : blk < w.heap.size := by
    rcases Nat.lt_or_ge blk w.heap.size with h | h
    · exact h
    · rw [Array.getElem?_eq_none h] at hw; cases hw
  refine (Any.slices_Sort_int L blk 0 cap l w (holdsO _ hw h) hlt hn).mono fun e w' he => ?_
  obtain ⟨he, m, os, rfl⟩ := he
  refine ⟨he, wideO _ w blk m _ os, _, blkO _ hw m _ os, by simp [putCells], fun i x hx => putO _ ?_ i x hx⟩
  have : (sortI l).length = l.length := List.length_mergeSort _
  have := boundO (Value.int .i64) h
  show (sortI l).length ≤ _
  omega

/-- What slices.Sort does with a slice of one's own. -/
def sortOM (e : TypeId) (t : Ty) (srt : List t.den → List t.den) (args : List AV) (n : Nat) : Rd Eff :=
  match args with
  | [.own id] => .rd id fun
    | .rows fr e' t' l => cond (decide (e' = e)) ((Rd.ofO (castL t' t l)).bind fun l => .chk (decide (l.length < 4611686018427387904)) (.ret ⟨.tup [], [], [(id, .rows fr e t (srt l))]⟩)) .fail
    | _ => .fail
  | _ => .fail
theorem hrel_updO {B : Nat → Prop} {c : Cx} {hp hp' : List ABlk} {w w' : World} (h : HRel B c hp w) {id : Nat} {b : Nat} (hd : lookIn hp id ≠ .dead) (hs : c.σ id = some b) {blk : ABlk} (hln : hp.length ≤ hp'.length)
    (hle : BlkLe (lookIn hp id) blk) (hnd : blk ≠ .dead) (hl : ∀ j, lookIn hp' j = if j = id then blk else lookIn hp j)
    (hk : ∀ j, j < w.heap.size → j ≠ b → w'.heap[j]? = w.heap[j]?) (hsz : w.heap.size ≤ w'.heap.size)
    (hsh : ∀ (vs : Array Value) (T : TypeId) (fz : Nat × Nat), w.heap[b]? = some (Obj.cells vs T fz) → ∃ vs' : Array Value, w'.heap[b]? = some (Obj.cells vs' T fz) ∧ vs'.size = vs.size)
    (hos : w'.os = w.os) (htp : w'.tape = w.tape) (hou : OutOk w w')
    (hr : Evo All c hp w c hp' w' → BRel B c hp' w' id blk) : HRel B c hp' w' ∧ Evo All c hp w c hp' w' := by
  have hnf := h.nf id b hd hs
  have hlt : ∀ {b : Nat} {o : Obj}, w.heap[b]? = some o → b < w.heap.size := by
    intro b o hw
    rcases Nat.lt_or_ge b w.heap.size with h' | h'
    · exact h'
    · rw [Array.getElem?_eq_none h'] at hw; cases hw
  have he : Evo All c hp w c hp' w' := ⟨fun _ _ h => h, fun _ _ _ => rfl, fun _ h => h, fun j hj => hk j (h.lt j hj) fun e => hnf.1 (e ▸ hj), hsz,
    fun j vs T fz hw => by
      by_cases e : j = b
      · subst e; exact hsh vs T fz hw
      · exact ⟨vs, (hk j (hlt hw) e).trans hw, rfl⟩, fun j _ _ => by
      rw [hl]
      split
      · rename_i e; rw [e]; exact hle
      · exact BlkLe.refl _, hos, htp, hou⟩
  have hlive : ∀ j, lookIn hp' j ≠ .dead → lookIn hp j ≠ .dead := fun j hj => by
    by_cases e : j = id
    · rw [e]; exact hd
    · rw [hl, if_neg e] at hj; exact hj
  refine ⟨⟨fun b hb => h.bs b (Nat.le_trans hsz hb), fun b hb => Nat.lt_of_lt_of_le (h.lt b hb) hsz, fun j hj => Nat.lt_of_lt_of_le (h.dl j hj) hln, fun j hj => h.ld j (hlive j hj), ?_, ?_, ?_, h.gl.keep he.F he.keep⟩, he⟩
  · intro j
    rw [hl]
    split
    · rename_i e; rw [e]; exact hr he
    · rename_i e
      by_cases hdj : lookIn hp j = .dead
      · rw [hdj]; trivial
      · exact (h.blk j).evo he rfl fun q hq => hk q (h.nf j q hdj hq).2.1 fun e' => e (h.inj j id b hdj hd (e' ▸ hq) hs)
  · exact fun i j q h1 h2 s1 s2 => h.inj i j q (hlive i h1) (hlive j h2) s1 s2
  · intro j q hj hq
    have := h.nf j q (hlive j hj) hq
    exact ⟨this.1, Nat.lt_of_lt_of_le this.2.1 hsz, this.2.2⟩
theorem sortO_sound {P : Program} {f : FuncId} {e : TypeId} {t : Ty} {enc : t.den → Value} {srt : List t.den → List t.den} (h1 : t.size = 1) (hflat : t.flat = true) (henc : ∀ w ok x vs, CRel w ok t x vs ↔ vs = [enc x]) (hs : SortOC P f t enc srt) : MacOk P f (sortOM e t srt) := by
  intro B c hp w args us ef log n hH hvl hrun
  unfold sortOM at hrun
  split at hrun
  · rename_i id
    change (match lookIn hp id with
      | .rows fr e' t' l => cond (decide (e' = e)) ((Rd.ofO (castL t' t l)).bind fun l => Rd.chk (decide (l.length < 4611686018427387904)) (Rd.ret (Eff.mk (.tup []) [] [(id, .rows fr e t (srt l))]))) Rd.fail
      | _ => Rd.fail).runO (lookIn hp) (id :: []) = some (ef, log) at hrun
    split at hrun
    case h_2 => cases hrun
    rename_i fr e' t' l0 hl
    obtain ⟨he, hr3⟩ := Rd.cond_some hrun
    clear hrun
    have he := of_decide_eq_true he
    subst he
    obtain ⟨l, g2, h4, hr4⟩ := Rd.bind_some hr3
    obtain ⟨h6, _⟩ := Rd.ofO_some h4
    obtain ⟨e5, h7⟩ := castL_some h6
    subst e5
    have h7 : l0 = l := h7
    subst h7
    obtain ⟨hlen, hrun⟩ := Rd.chk_some hr4
    have hlen := of_decide_eq_true hlen
    cases hrun
    obtain ⟨u0, rfl⟩ : ∃ u0, us = [u0] := by
      match us, hvl.length with
      | [a], _ => exact ⟨a, rfl⟩
    obtain ⟨⟨hD, hv0⟩, _⟩ := hvl
    have hb := hH.blk id
    rw [hl] at hb
    obtain ⟨h0, hb⟩ := hb
    have hlv : lookIn hp id ≠ .dead := by rw [hl]; simp
    have look : ∀ L hp', Upd c hp n ⟨.tup [], [], [(id, .rows fr e' t' L)]⟩ hp' → ∀ j, lookIn hp' j = if j = id then .rows fr e' t' L else lookIn hp j := by
      intro L hp' hu j
      have := hu.look j
      simp only [List.lookup_cons, List.lookup_nil, List.length_nil, Nat.add_zero] at this
      rw [this]
      have hidl : id < hp'.length := Nat.lt_of_lt_of_le (lookIn_live hlv) hu.len
      by_cases e : j = id
      · subst e; simp [hidl]
      · have hf : (j == id) = false := by simpa using e
        simp only [hf, if_neg e]
        rw [if_neg (by omega)]
    have snil : srt [] = [] := List.eq_nil_of_length_eq_zero (hs.len [])
    have none' : l0 = [] → ∀ p cap, u0 = .slice p 0 cap → Calls P f [u0].toArray w fun x w' => ∃ u, x = .returned u ∧ EffOk B c hp w n ⟨.tup [], [], [(id, .rows fr e' t' (srt l0))]⟩ u w' := by
      intro hl0 p cap hu0
      subst hu0 hl0
      refine (hs.nil p cap w).mono fun x w' hx => ?_
      obtain ⟨rfl, rfl⟩ := hx
      refine ⟨_, rfl, fun hp' hu => ?_⟩
      have hlk := look _ hp' hu
      have hlk' : ∀ j, lookIn hp' j = lookIn hp j := fun j => by
        rw [hlk]; split
        · rename_i e; rw [e, hl, snil]
        · rfl
      exact ⟨c, hrel_look hH hu.len hlk', evo_look hlk', ⟨#[], rfl, trivial⟩, fun _ h => .inl h⟩
    unfold OwnV at hv0
    cases hσ : c.σ id with
    | none =>
      rw [hσ] at hb hv0
      exact none' hb none 0 hv0
    | some b =>
      rw [hσ] at hb hv0
      obtain ⟨cap, cur, hw, hc0, hcm, hcs, hrow⟩ := hb
      obtain ⟨k0, cap', rfl, hv0⟩ := hv0
      obtain ⟨rfl, _⟩ := hv0 _ _ _ _ hl
      by_cases hl0 : l0 = []
      · exact none' hl0 (some ⟨b, 0, none⟩) cap' (by rw [hl0]; rfl)
      · have hnf := hH.nf id b hlv hσ
        have hcell : ∀ (i : Nat) (x : t'.den), l0[i]? = some x → cur[i]? = some (enc x) := by
          intro i x hx
          have hr := (henc _ _ _ _).1 (hrow i x hx)
          rw [h1, Nat.mul_one] at hr
          have h2 := congrArg (fun l => l[0]?) hr
          simpa [List.getElem?_take] using h2
        refine (hs.run l0 b cap' w cur e' hw hcell hlen).mono fun x w' hx => ?_
        obtain ⟨rfl, hW, cur', hw', hcs', hrow'⟩ := hx
        refine ⟨_, rfl, fun hp' hu => ?_⟩
        have hlk := look _ hp' hu
        have hll := hs.len l0
        obtain ⟨k1, k2⟩ := hrel_updO (w' := w') (hp' := hp') hH hlv hσ (blk := .rows fr e' t' (srt l0)) hu.len (by rw [hl]; exact ⟨rfl, rfl, hll.symm⟩) (by simp) hlk
          hW.1 hW.2.1 (fun vs T fz hq => by rw [hw] at hq; cases hq; exact ⟨cur', hw', hcs'⟩) hW.2.2.1 hW.2.2.2.1 hW.2.2.2.2
          (fun hE => by
            refine ⟨h0, ?_⟩
            rw [hσ]
            refine ⟨cap, cur', hw', by rw [hll]; exact hc0, hcm, by rw [hcs']; exact hcs, fun i x hx => ?_⟩
            rw [henc, h1, Nat.mul_one]
            have hc := hrow' i x hx
            have hi := (Array.getElem?_eq_some_iff.1 hc).1
            apply List.ext_getElem?
            intro j
            rw [List.getElem?_take]
            cases j with
            | zero => rw [if_pos (by omega), List.getElem?_drop, Nat.add_zero, Array.getElem?_toList, hc]; rfl
            | succ j => rw [if_neg (by omega)]; rfl)
        exact ⟨c, k1, k2, ⟨#[], rfl, trivial⟩, fun _ h => .inl h⟩
  · cases hrun
theorem sortI_sound {P : Program} {f : FuncId} {e : TypeId} (hs : SortOC P f (.int .i64) (Value.int .i64) sortI) : MacOk P f (sortOM e (.int .i64) sortI) :=
  sortO_sound rfl rfl (fun w ok x vs => Iff.rfl) hs
end Go.Proofs.YthkpnlfnplhgnaaDoor.Sk
