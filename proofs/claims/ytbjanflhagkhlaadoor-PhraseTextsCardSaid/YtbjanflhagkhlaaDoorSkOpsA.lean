/- SK, part 6: loads, stores, new blocks. -/
import Derived.Test.YtbjanflhagkhlaaDoorSkData
set_option linter.unusedVariables false
set_option linter.unusedSimpArgs false
namespace Go.Proofs.YtbjanflhagkhlaaDoor.Sk
open Go Go.RowKit

section
variable {B : Nat → Prop} {c : Cx} {hp : List ABlk} {w : World} {P : Program}

theorem addr_add (b k j : Nat) : (⟨b, k, none⟩ : Addr).add j = ⟨b, k + j, none⟩ := by
  unfold Addr.add
  split
  · rename_i h; subst h; rfl
  · rfl
theorem cell_row {b : Nat} {vs : Array Value} {T : TypeId} {fz : Nat × Nat} (hw : w.heap[b]? = some (.cells vs T fz)) (k : Nat) : w.cell? ⟨b, k, none⟩ = vs[k]? := by
  simp [World.cell?, hw]

theorem run_isAgg {t : TypeId} {r : Bool} (h : isAggA P t = some r) (w : World) : (isAgg t).run P w = .ok r w := by
  unfold isAggA at h
  cases hu : P.underlying t with
  | none => simp [hu] at h
  | some d =>
    cases d <;> simp [hu] at h <;> subst h <;> simp [isAgg, run_underlying hu]
theorem run_sizeOf {t : TypeId} {n : Nat} (h : sizeA P t = some n) (w : World) : (sizeOf t).run P w = .ok n w := by
  unfold sizeA at h
  simp only [Option.map_eq_some_iff] at h
  obtain ⟨i, hi, hn⟩ := h
  subst hn
  simp [sizeOf, typeInfo, hi]

theorem load_part {t : TypeId} {b o off : Nat} {vs : Array Value} {T : TypeId} {fz : Nat × Nat} {cs : List AV} {ls : List Value} {av : AV} {look : Nat → ABlk} {g g' : List Nat}
    (hw : w.heap[b]? = some (.cells vs T fz)) (hls : ∀ (j : Nat) (v : Value), ls[j]? = some v → vs[o + j]? = some v) (hr : VRelL B c hp w cs ls)
    (h : (partA P t cs off).runO look g = some (av, g')) : ∃ u, (loadVar t ⟨b, o + off, none⟩).run P w = .ok u w ∧ VRel B c hp w av u := by
  unfold partA at h
  split at h
  · rename_i n ha hs
    obtain ⟨hle, h⟩ := Rd.cond_some h
    have hle' : off + n ≤ cs.length := Nat.le_of_ble_eq_true hle
    cases h
    have hl := hr.length
    have hcs : ∀ j v, ((ls.drop off).take n)[j]? = some v → w.cell? ((⟨b, o + off, none⟩ : Addr).add j) = some v := by
      intro j v hj
      rw [addr_add, cell_row hw, Nat.add_assoc]
      rw [List.getElem?_take] at hj
      split at hj
      · rw [List.getElem?_drop] at hj; exact hls _ _ hj
      · cases hj
    have hln : ((ls.drop off).take n).length = n := by simp; omega
    have hrun := run_loadCells_list (P := P) w ⟨b, o + off, none⟩ _ hcs
    rw [hln] at hrun
    refine ⟨.agg ((ls.drop off).take n).toArray, ?_, ⟨_, rfl, by simpa using (hr.drop off).take n⟩⟩
    simp [loadVar, run_isAgg ha, run_sizeOf hs, hrun]
  · rename_i ha
    split at h
    · rename_i v hv
      cases h
      obtain ⟨u, hu, hvu⟩ := hr.get off _ hv
      refine ⟨u, ?_, hvu⟩
      simp [loadVar, run_isAgg ha, cell_row hw, hls off u hu]
    · cases h
  · cases h

theorem load_int {t : TypeId} {b o off : Nat} {vs : Array Value} {T : TypeId} {fz : Nat × Nat} {cs : List AV} {ls : List Value} {av : AV} {look : Nat → ABlk} {g g' : List Nat}
    (hw : w.heap[b]? = some (.cells vs T fz)) (hls : ∀ (j : Nat) (v : Value), ls[j]? = some v → vs[o + j]? = some v) (hr : VRelL B c hp w cs ls)
    (h : (intAt P t cs off).runO look g = some (av, g')) : ∃ u, (loadVar t ⟨b, o + off, none⟩).run P w = .ok u w ∧ VRel B c hp w av u := by
  unfold intAt at h
  split at h
  · rename_i k hu
    split at h
    · rename_i l hl
      obtain ⟨hc, h⟩ := Rd.chk_some h
      have hlt : off < l.length := of_decide_eq_true hc
      cases h
      have hls' := ints_rel hr hl
      have hv : ls[off]? = some (.int k (l.getD off 0)) := by rw [hls']; simp [List.getD, hlt]
      refine ⟨.int k (l.getD off 0), ?_, rfl⟩
      have ha : isAggA P t = some false := by simp [isAggA, hu]
      simp [loadVar, run_isAgg ha, cell_row hw, hls off _ hv]
    · exact load_part hw hls hr h
  · rename_i hu
    split at h
    · rename_i l hl
      obtain ⟨hc, h⟩ := Rd.chk_some h
      have hlt : off < l.length := of_decide_eq_true hc
      cases h
      have hls' := strs_rel hr hl
      have hv : ls[off]? = some (.string (l.getD off ⟨#[]⟩)) := by rw [hls']; simp [List.getD, hlt]
      refine ⟨.string (l.getD off ⟨#[]⟩), ?_, rfl⟩
      have ha : isAggA P t = some false := by simp [isAggA, hu]
      simp [loadVar, run_isAgg ha, cell_row hw, hls off _ hv]
    · exact load_part hw hls hr h
  · exact load_part hw hls hr h

theorem aggAt_part {t : TypeId} {cs : List AV} {off : Nat} {av : AV} {look : Nat → ABlk} {g g' : List Nat} {ls : List Value} (hr : VRelL B c hp w cs ls) (h : (aggAt P t cs off).runO look g = some (av, g')) :
    ∃ cs', VRelL B c hp w cs' ls ∧ (partA P t cs' off).runO look g = some (av, g') := by
  unfold aggAt at h
  split at h
  · rename_i k x r
    split at h
    · rename_i l n hl ha hs
      obtain ⟨hc, h⟩ := Rd.chk_some h
      have hle : off + n ≤ l.length := of_decide_eq_true hc
      cases h
      have hls := ints_rel hr hl
      refine ⟨(l.map (Value.int k)).map .sc, by rw [hls]; exact VRelL.scs _, ?_⟩
      unfold partA
      rw [ha, hs]
      have hb : Nat.ble (off + n) ((l.map (Value.int k)).map AV.sc).length = true := by rw [Nat.ble_eq]; simpa using hle
      simp only [hb, cond_true, Rd.runO, Option.some.injEq, Prod.mk.injEq, and_true, AV.agg.injEq]
      apply List.ext_getElem
      · simp; omega
      · intro i h1 h2
        have hi : i < n := by simpa using h2
        simp [List.getD, show off + i < l.length by omega]
    · exact ⟨_, hr, h⟩
  · exact ⟨_, hr, h⟩

theorem load_at {t : TypeId} {b o off : Nat} {vs : Array Value} {T : TypeId} {fz : Nat × Nat} {cs : List AV} {ls : List Value} {av : AV} {look : Nat → ABlk} {g g' : List Nat}
    (hw : w.heap[b]? = some (.cells vs T fz)) (hls : ∀ (j : Nat) (v : Value), ls[j]? = some v → vs[o + j]? = some v) (hr : VRelL B c hp w cs ls)
    (h : (atA P t cs off).runO look g = some (av, g')) : ∃ u, (loadVar t ⟨b, o + off, none⟩).run P w = .ok u w ∧ VRel B c hp w av u := by
  unfold atA at h
  split at h
  · obtain ⟨cs', h1, h2⟩ := aggAt_part hr h
    exact load_part hw hls h1 h2
  · exact load_int hw hls hr h

theorem drop_take_get {vs : List Value} {o n : Nat} : ∀ (j : Nat) (v : Value), ((vs.drop o).take n)[j]? = some v → vs[o + j]? = some v := by
  intro j v h
  rw [List.getElem?_take] at h
  split at h
  · rwa [List.getElem?_drop] at h
  · cases h

/-- A load, through whatever pointer. -/
theorem load_sound {E : Env} {t : TypeId} {a : AV} {p : Value} {n : Nat} {e : Eff} {g g' : List Nat} (hH : HRel B c hp w) (hv : VRel B c hp w a p) {o : Oper} {ρ : Operand → AV} {x : Operand} (ho : o.op = .load t x) (hx : ρ x = a)
    (h : (eff E P o ρ n).runO (lookIn hp) g = some (e, g')) : ∃ u, (Instr.loadAt t p).run P w = .ok u w ∧ EffOk B c hp w n e u w := by
  simp only [eff, ho, hx] at h
  cases a with
  | ptr id off =>
    simp only [Rd.runO] at h
    split at h
    · rename_i cs T hl
      obtain ⟨av, g1, h1, h2⟩ := Rd.bind_some h
      cases h2
      obtain ⟨_, b, hs, hp'⟩ := hv
      have hb := hH.blk id
      rw [hl] at hb
      obtain ⟨b', vs, hs', hw, hr⟩ := hb
      rw [hs] at hs'; cases hs'
      obtain ⟨u, hu, hvu⟩ := load_at (o := 0) hw (by intro j v hj; rw [Nat.zero_add]; simpa using hj) hr h1
      rw [Nat.zero_add] at hu
      refine ⟨u, ?_, effOk_val hH hvu⟩
      subst hp'
      simp [Instr.loadAt, Instr.sureAddr, hu]
    · cases h
  | rop fr u x' off =>
    obtain ⟨av, g1, h1, h2⟩ := Rd.bind_some h
    cases h2
    obtain ⟨b, o', cs, T, fz, hb, hp', hw, hsz, hc⟩ := hv
    obtain ⟨u', hu, hvu⟩ := load_at (o := o') hw (by intro j v hj; have := drop_take_get j v hj; simpa using this) (encC_rel fr u x' _ hc) h1
    refine ⟨u', ?_, effOk_val hH hvu⟩
    subst hp'
    simp [Instr.loadAt, Instr.sureAddr, hu]
  | rptr id i off =>
    simp only [Rd.runO] at h
    split at h
    · rename_i fr T u l hl
      obtain ⟨hlt, h⟩ := Rd.chk_some h
      have hlt' : i < l.length := of_decide_eq_true hlt
      obtain ⟨av, g1, h1, h2⟩ := Rd.bind_some h
      cases h2
      obtain ⟨_, b, q, hs, hp', hq⟩ := hv
      have hp'' := hq _ _ _ _ hl
      subst hp''
      have hb := hH.blk id
      rw [hl] at hb
      obtain ⟨_, hb⟩ := hb
      rw [hs] at hb
      obtain ⟨cap, cur, hw, r2, r3, r4, r5⟩ := hb
      have hget : l[i]? = some (l.getD i u.dflt) := by simp [List.getD, hlt']
      obtain ⟨u', hu, hvu⟩ := load_at (o := i * u.size) hw (by intro j v hj; have := drop_take_get j v hj; simpa using this) (encC_rel fr u _ _ (r5 i _ hget)) h1
      refine ⟨u', ?_, effOk_val hH hvu⟩
      subst hp'
      simp [Instr.loadAt, Instr.sureAddr, hu]
    · cases h
  | _ => cases h

/-- The world behind a new block. -/
theorem alloc_keep (w : World) (o : Obj) : ∀ b, b < w.heap.size → (w.alloc o).heap[b]? = w.heap[b]? := fun b hb => Below.heap_alloc w o b hb
theorem alloc_new (w : World) (o : Obj) : (w.alloc o).heap[w.heap.size]? = some o := heap_alloc_new w o

theorem effOk_cells (hH : HRel B c hp w) {n : Nat} {cs : List AV} {T : TypeId} {vs : Array Value} (hr : VRelL B c hp w cs vs.toList) :
    EffOk B c hp w n ⟨.ptr n 0, [.cells cs T], []⟩ (.pointer (some ⟨w.heap.size, 0, none⟩)) (w.alloc (.cells vs T)) := by
  intro hp' hu
  have hl := hu.look
  simp only [List.lookup_nil, List.length_cons, List.length_nil] at hl
  obtain ⟨c', h1, h2, h3, h4, h5, h6⟩ := hrel_new (w' := w.alloc (.cells vs T)) hH (n := n) (by simpa using hu.free 0 (by simp)) (by have := hu.ins; simp at this; omega) hu.len
    (blk := .cells cs T) (by rw [hl]; simp) (fun id hid => by rw [hl, if_neg (by omega)]) (s := some w.heap.size) (alloc_keep w _) (by simp) rfl rfl ⟨rfl, Nat.le_refl _⟩
    (by intro b hb; cases hb; simp) (fun c' hs _ he => ⟨_, vs, hs, alloc_new w _, hr.evo he⟩)
  exact ⟨c', h1, h2, ⟨h3, _, h4, rfl⟩, fun id hid => (h6 id hid).imp (fun h => h) fun e => by subst e; simp⟩

def killAll (hp : List ABlk) : List Nat → List ABlk
  | [] => hp
  | k :: ks => (killAll hp ks).set k .dead
theorem killAll_length (hp : List ABlk) : ∀ ks, (killAll hp ks).length = hp.length
  | [] => rfl
  | k :: ks => by simp [killAll, killAll_length hp ks]
theorem look_killAll (hp : List ABlk) : ∀ (ks : List Nat) (id : Nat), lookIn (killAll hp ks) id = if id ∈ ks then .dead else lookIn hp id
  | [], id => by simp [killAll]
  | k :: ks, id => by
    simp only [killAll, lookIn_set, killAll_length, look_killAll hp ks id, List.mem_cons]
    by_cases e : k = id
    · subst e
      by_cases hl : k < hp.length
      · simp [hl]
      · have : lookIn hp k = .dead := by unfold lookIn; rw [List.getElem?_eq_none (Nat.le_of_not_lt hl)]; rfl
        simp [hl, this]
    · have e' : id ≠ k := fun h => e h.symm
      simp [e, e']
theorem lookup_kills : ∀ (ks : List Nat) (id : Nat), (kills ks).lookup id = if id ∈ ks then some .dead else none
  | [], id => by simp [kills]
  | k :: ks, id => by
    have ih := lookup_kills ks id
    unfold kills at ih ⊢
    simp only [List.map_cons, List.lookup_cons, List.mem_cons]
    by_cases e : id = k
    · subst e; simp
    · have : (id == k) = false := by simpa using e
      rw [this]
      simp only [e, false_or]
      exact ih

/-- One more block, others given up. -/
theorem effOk_new (hH : HRel B c hp w) {n : Nat} {blk : ABlk} {ks : List Nat} (hks : ∀ k, k ∈ ks → lookIn hp k ≠ .dead) {w' : World} {s : Option Nat} {av : AV} {u : Value}
    (hk : ∀ b, b < w.heap.size → w'.heap[b]? = w.heap[b]?) (hsz : w.heap.size ≤ w'.heap.size)
    (hos : w'.os = w.os) (htp : w'.tape = w.tape) (hou : OutOk w w') (hs : ∀ b, s = some b → w.heap.size ≤ b ∧ b < w'.heap.size)
    (hr : ∀ (c' : Cx) (hp' : List ABlk), c'.σ n = s → (∀ b fr, okD B c fr ks b → okF B c' fr b ∧ w'.heap[b]? = w.heap[b]?) → BRel B c' hp' w' n blk)
    (hv : ∀ (c' : Cx) (hp' : List ABlk), c'.σ n = s → c'.D n → lookIn hp' n = blk → VRel B c' hp' w' av u) :
    EffOk B c hp w n ⟨av, [blk], kills ks⟩ u w' := by
  intro hp' hu
  have hfree : ¬ c.D n := by simpa using hu.free 0 (by simp)
  have hnk : n ∉ ks := fun h => hfree (hH.ld n (hks n h))
  have hins := hu.ins
  simp only [List.length_cons, List.length_nil] at hins
  obtain ⟨k1, e1⟩ := hrel_kill (hp' := killAll hp ks) hH ks (by rw [killAll_length]; exact Nat.le_refl _) (look_killAll hp ks)
  have hl : ∀ id, lookIn hp' id = if id ∈ ks then .dead else if id = n then blk else lookIn hp id := by
    intro id
    rw [hu.look id, lookup_kills]
    by_cases h : id ∈ ks
    · simp [h]
    · simp only [h, if_false, List.length_cons, List.length_nil]
      by_cases e : id = n
      · subst e; simp
      · rw [if_neg (by omega), if_neg e]
  obtain ⟨c', h1, h2, h3, h4, h5, h6⟩ := hrel_new (w' := w') (hp' := hp') k1 (n := n) hfree (by omega) (by rw [killAll_length]; exact hu.len) (blk := blk)
    (by rw [hl, if_neg hnk, if_pos rfl]) (fun id hid => by rw [hl, look_killAll]; by_cases h : id ∈ ks <;> simp [h, hid]) (s := s) hk hsz hos htp hou hs
    (fun c' hcs hcF he => hr c' hp' hcs fun b fr hb => by
      rcases hb with hb | ⟨k, hk1, hk2⟩
      · refine ⟨⟨by rw [hcF]; exact .inl hb.1, hb.2⟩, hk b (hH.lt b hb.1)⟩
      · have := hH.nf k b (hks k hk1) hk2
        exact ⟨⟨by rw [hcF]; exact .inr ⟨k, hk1, hks k hk1, hk2⟩, fun _ => this.2.2⟩, hk b this.2.1⟩)
  exact ⟨c', h1, e1.trans h2, hv c' hp' h4 h3 (by rw [hl, if_neg hnk, if_pos rfl]), fun id hid => (h6 id hid).imp (fun h => h) fun e => by subst e; simp⟩

theorem crel_okD {c' : Cx} {w' : World} {fr : Bool} {ks : List Nat} (h : ∀ b fr, okD B c fr ks b → okF B c' fr b ∧ w'.heap[b]? = w.heap[b]?) (t : Ty) (x : t.den) (vs : List Value)
    (hc : CRel w (okD B c fr ks) t x vs) : CRel w' (okF B c' fr) t x vs :=
  CRel.mono (fun b hb => (h b fr hb).2) (fun b hb => (h b fr hb).1) t x vs hc

/-- A new row of data, in a block of its own. -/
theorem effOk_rows (hH : HRel B c hp w) {n : Nat} {fr : Bool} {T : TypeId} {t : Ty} {l : List t.den} {vs : Array Value} {cap : Nat} (h0 : 0 < t.size) (hc : l.length ≤ cap) (hm : cap ≤ maxLen) (hs : vs.size = cap * t.size)
    {ks : List Nat} (hr : ∀ (i : Nat) (x : t.den), l[i]? = some x → CRel w (okD B c fr ks) t x ((vs.toList.drop (i * t.size)).take t.size)) (hks : ∀ k, k ∈ ks → lookIn hp k ≠ .dead) :
    EffOk B c hp w n ⟨.own n, [.rows fr T t l], kills ks⟩ (.slice (some ⟨w.heap.size, 0, none⟩) l.length cap) (w.alloc (.cells vs T)) := by
  refine effOk_new hH hks (s := some w.heap.size) (alloc_keep w _) (by simp) rfl rfl ⟨rfl, Nat.le_refl _⟩ (by intro b hb; cases hb; simp) ?_ ?_
  · intro c' hp' hcs hok
    refine ⟨h0, ?_⟩
    rw [hcs]
    exact ⟨cap, vs, alloc_new w _, hc, hm, hs, fun i x hx => crel_okD hok t x _ (hr i x hx)⟩
  · intro c' hp' hcs hD hl
    refine ⟨hD, ?_⟩
    unfold OwnV
    rw [hcs]
    refine ⟨_, cap, rfl, fun fr' T' t' l' hl' => ?_⟩
    rw [hl] at hl'
    cases hl'
    exact ⟨rfl, hc, hm, vs, alloc_new w _, hs⟩

/-- A new block that is read only. -/
theorem effOk_lit (hH : HRel B c hp w) {n : Nat} {T : TypeId} {t : Ty} {l : List t.den} {vs : Array Value} (h0 : 0 < t.size) (hf : t.flat = true) (hm : l.length ≤ maxLen) (hs : vs.size = l.length * t.size)
    {ok : Nat → Prop} (hr : ∀ (i : Nat) (x : t.den), l[i]? = some x → CRel w ok t x ((vs.toList.drop (i * t.size)).take t.size)) :
    EffOk B c hp w n ⟨.lit T t l, [], []⟩ (.slice (some ⟨w.heap.size, 0, none⟩) l.length l.length) (w.alloc (.cells vs T)) := by
  intro hp' hu
  obtain ⟨hln, hl⟩ := hu.plain
  let c' : Cx := ⟨c.D, c.σ, fun b => c.F b ∨ b = w.heap.size⟩
  have hsz : w.heap.size < (w.alloc (.cells vs T)).heap.size := by simp
  have hkeep : ∀ b, b < w.heap.size → (w.alloc (.cells vs T)).heap[b]? = w.heap[b]? := alloc_keep w _
  have hlt : ∀ {b : Nat} {o : Obj}, w.heap[b]? = some o → b < w.heap.size := by
    intro b o hw
    rcases Nat.lt_or_ge b w.heap.size with h' | h'
    · exact h'
    · rw [Array.getElem?_eq_none h'] at hw; cases hw
  have he : Evo All c hp w c' hp' (w.alloc (.cells vs T)) := ⟨fun _ _ h => h, fun _ _ _ => rfl, fun _ h => .inl h, fun b hb => hkeep b (hH.lt b hb), by omega,
    fun b vs' T' fz h => ⟨vs', (hkeep b (hlt h)).trans h, rfl⟩, fun id _ _ => BlkLe.of_eq (hl id), rfl, rfl, ⟨rfl, Nat.le_refl _⟩⟩
  have hB : B w.heap.size := hH.bs _ (Nat.le_refl _)
  refine ⟨c', ⟨fun b hb => hH.bs b (by omega), ?_, fun id hd => Nat.lt_of_lt_of_le (hH.dl id hd) hln, fun id hd => hH.ld id (by rw [← hl]; exact hd), ?_, fun id id' b h1 h2 => hH.inj id id' b (by rw [← hl]; exact h1) (by rw [← hl]; exact h2), ?_, hH.gl.keep he.F he.keep⟩, he, ?_, fun _ h => .inl h⟩
  · rintro b (hb | rfl)
    · have := hH.lt b hb; omega
    · exact hsz
  · intro id
    rw [hl]
    by_cases hd : lookIn hp id = .dead
    · rw [hd]; trivial
    · exact (hH.blk id).evo he rfl fun b hb => hkeep b (hH.nf id b hd hb).2.1
  · intro id b h1 h2
    have := hH.nf id b (by rw [← hl]; exact h1) h2
    refine ⟨?_, by omega, this.2.2⟩
    rintro (hb | rfl)
    · exact this.1 hb
    · omega
  · exact ⟨h0, w.heap.size, vs, ⟨.inr rfl, fun _ => hB⟩, rfl, alloc_new w _, hm, hs, fun i x hx => CRel.flat t x _ hf (hr i x hx)⟩
end

end Go.Proofs.YtbjanflhagkhlaaDoor.Sk
