/- SK, part 7: stores, aggregates. -/
import Derived.Test.YtbjanflhagkhlaaDoorSkOpsA
import Derived.Laws.CopyRow
set_option linter.unusedVariables false
set_option linter.unusedSimpArgs false
namespace Go.Proofs.YtbjanflhagkhlaaDoor.Sk
open Go Go.RowKit

section
variable {B : Nat → Prop} {c : Cx} {hp : List ABlk} {w : World} {P : Program}

theorem cells_rel {a : AV} {v : Value} (hk : known a = true) (h : VRel B c hp w a v) : VRelL B c hp w (cellsOf a) v.cells.toList := by
  cases a with
  | agg cs => obtain ⟨vs, rfl, hr⟩ := h; exact hr
  | any => cases hk
  | gd _ _ => cases hk
  | lit _ _ _ => cases hk
  | mp _ => cases hk
  | yl _ _ _ _ => cases hk
  | sc u =>
    have : v = u := h
    subst this
    cases v <;> first | (cases hk; done) | exact ⟨rfl, trivial⟩
  | ptr id off => obtain ⟨h1, b, h2, rfl⟩ := h; exact ⟨⟨h1, b, h2, rfl⟩, trivial⟩
  | own id =>
    have hv := h.2
    have : v.cells = #[v] := by
      unfold OwnV at hv
      split at hv
      · subst hv; rfl
      · obtain ⟨n, cap, rfl, _⟩ := hv; rfl
    rw [this]; exact ⟨h, trivial⟩
  | osl id off n =>
    have hv := h.2
    have : v.cells = #[v] := by
      unfold SubV at hv
      split at hv
      · obtain ⟨rfl, _⟩ := hv; rfl
      · obtain ⟨n, cap, rfl, _⟩ := hv; rfl
    rw [this]; exact ⟨h, trivial⟩
  | ros fr e t l => have h' := h; obtain ⟨A, q, rfl, _⟩ := h'; exact ⟨h, trivial⟩
  | rop fr t x off => have h' := h; obtain ⟨b, o, cs, T, fz, _, rfl, _⟩ := h'; exact ⟨h, trivial⟩
  | rptr id i off => have h' := h; obtain ⟨_, b, q, _, rfl, _⟩ := h'; exact ⟨h, trivial⟩
  | clo f cs => have h' := h; obtain ⟨vs, rfl, _⟩ := h'; exact ⟨h, trivial⟩
  | tup cs => have h' := h; obtain ⟨vs, rfl, _⟩ := h'; exact ⟨h, trivial⟩

theorem storA_one {a : AV} {v : Value} (hk : storA a = true) (h : VRel B c hp w a v) : v.oneCell' = true := by
  cases a with
  | sc u => have : v = u := h; subst this; exact hk
  | ptr id off => obtain ⟨h1, b, h2, rfl⟩ := h; rfl
  | own id =>
    have hv := h.2
    unfold OwnV at hv
    split at hv
    · subst hv; rfl
    · obtain ⟨n, cap, rfl, _⟩ := hv; rfl
  | osl id off n =>
    have hv := h.2
    unfold SubV at hv
    split at hv
    · obtain ⟨rfl, _⟩ := hv; rfl
    · obtain ⟨n, cap, rfl, _⟩ := hv; rfl
  | ros fr e t l => obtain ⟨A, q, rfl, _⟩ := h; rfl
  | rop fr t x off => obtain ⟨b, o, cs, T, fz, _, rfl, _⟩ := h; rfl
  | rptr id i off => obtain ⟨_, b, q, _, rfl, _⟩ := h; rfl
  | clo f cs => obtain ⟨vs, rfl, _⟩ := h; rfl
  | _ => cases hk

theorem storL_one : ∀ {as : List AV} {vs : List Value}, as.all storA = true → VRelL B c hp w as vs → ∀ v ∈ vs, v.oneCell' = true
  | [], [], _, _, v, hv => by cases hv
  | a :: as, u :: us, hk, h, v, hv => by
    simp only [List.all_cons, Bool.and_eq_true] at hk
    cases hv with
    | head => exact storA_one hk.1 h.1
    | tail _ hv => exact storL_one hk.2 h.2 v hv
  | [], _ :: _, _, h, _, _ => by simp [VRelL] at h
  | _ :: _, [], _, h, _, _ => by simp [VRelL] at h

theorem setAt_eq : ∀ (vs cs : List AV) (off : Nat), off + vs.length ≤ cs.length → setAt cs off vs = cs.take off ++ vs ++ cs.drop (off + vs.length)
  | [], cs, off, _ => by simp [setAt]
  | v :: vs, cs, off, h => by
    simp only [List.length_cons] at h
    rw [setAt, setAt_eq vs (cs.set off v) (off + 1) (by simp; omega)]
    have h1 : (cs.set off v).take (off + 1) = cs.take off ++ [v] := by
      rw [List.take_succ_eq_append_getElem (by simp; omega), List.getElem_set_self, List.take_set_of_le (Nat.le_refl _)]
    have h2 : (cs.set off v).drop (off + 1 + vs.length) = cs.drop (off + (vs.length + 1)) := by
      rw [List.drop_set_of_lt (by omega)]; congr 1; omega
    rw [h1, h2]
    simp

theorem splice_rel {cs us : List AV} {vs ws : List Value} (off : Nat) (h : VRelL B c hp w cs vs) (k : VRelL B c hp w us ws) (hle : off + us.length ≤ cs.length) :
    VRelL B c hp w (setAt cs off us) (vs.take off ++ ws ++ vs.drop (off + ws.length)) := by
  rw [setAt_eq us cs off hle, ← k.length]
  exact ((h.take off).append k).append (h.drop _)

theorem splice_get {α : Type} (l us : List α) (p k : Nat) (h : p + us.length ≤ l.length) :
    (l.take p ++ us ++ l.drop (p + us.length))[k]? = if p ≤ k ∧ k < p + us.length then us[k - p]? else l[k]? := by
  rw [List.append_assoc, List.getElem?_append]
  by_cases h1 : k < p
  · rw [if_pos (by simp; omega), if_neg (by omega), List.getElem?_take, if_pos h1]
  · rw [if_neg (by simp; omega), List.getElem?_append]
    have hl : (l.take p).length = p := by simp; omega
    rw [hl]
    by_cases h2 : k < p + us.length
    · rw [if_pos (by omega), if_pos (by omega)]
    · rw [if_neg (by omega), if_neg (by omega), List.getElem?_drop]
      congr 1; omega

theorem splice_same {α : Type} (l us : List α) (o sz off : Nat) (h : off + us.length ≤ sz) (hl : o + sz ≤ l.length) :
    ((l.take (o + off) ++ us ++ l.drop (o + off + us.length)).drop o).take sz = ((l.drop o).take sz).take off ++ us ++ ((l.drop o).take sz).drop (off + us.length) := by
  apply List.ext_getElem?
  intro k
  rw [List.getElem?_take, List.getElem?_drop, splice_get l us _ _ (by omega), splice_get _ us _ _ (by simp; omega), List.getElem?_take, List.getElem?_drop]
  by_cases h1 : k < sz
  · simp only [h1, if_true]
    by_cases h2 : off ≤ k ∧ k < off + us.length
    · rw [if_pos (by omega), if_pos h2]; congr 1; omega
    · rw [if_neg (by omega), if_neg h2]
  · simp only [h1, if_false]
    rw [if_neg (by omega)]

theorem splice_other {α : Type} (l us : List α) (i j sz off : Nat) (h : off + us.length ≤ sz) (hl : i * sz + sz ≤ l.length) (hij : i ≠ j) :
    ((l.take (i * sz + off) ++ us ++ l.drop (i * sz + off + us.length)).drop (j * sz)).take sz = (l.drop (j * sz)).take sz := by
  apply List.ext_getElem?
  intro k
  rw [List.getElem?_take, List.getElem?_drop, splice_get l us _ _ (by omega), List.getElem?_take, List.getElem?_drop]
  by_cases h1 : k < sz
  · simp only [h1, if_true]
    rw [if_neg]
    rintro ⟨h2, h3⟩
    rcases Nat.lt_or_gt_of_ne hij with h4 | h4
    · have : (i + 1) * sz ≤ j * sz := Nat.mul_le_mul_right _ h4
      rw [Nat.add_mul] at this; omega
    · have : (j + 1) * sz ≤ i * sz := Nat.mul_le_mul_right _ h4
      rw [Nat.add_mul] at this; omega
  · simp only [h1, if_false]

theorem setRow_os (w : World) (g : Nat) (cs : Array Value) : (w.setRow g cs).os = w.os ∧ (w.setRow g cs).tape = w.tape ∧ OutOk w (w.setRow g cs) ∧ (w.setRow g cs).heap.size = w.heap.size := by
  simp [World.setRow, OutOk]

theorem run_store {t : TypeId} {b off : Nat} {vs : Array Value} {T : TypeId} {v : Value} (hw : w.heap[b]? = some (.cells vs T (0, 0))) (hsz : sizeA P t = some v.cells.size) (hle : off + v.cells.size ≤ vs.size)
    (h1 : ∀ u ∈ v.cells.toList, u.oneCell' = true) :
    (Instr.storeAt t (.pointer (some ⟨b, off, none⟩)) v).run P w = .ok () (w.setRow b (vs.toList.take off ++ v.cells.toList ++ vs.toList.drop (off + v.cells.toList.length)).toArray) := by
  have hst := run_storeCells_at P b off T v.cells.toList 0 vs w hw (by simpa using hle) h1
  simp only [Nat.add_zero] at hst
  simp [Instr.storeAt, Instr.sureAddr, storeVar, run_sizeOf hsz, hst]

/-- A store, through a pointer into one's own memory. -/
theorem store_sound {E : Env} {t : TypeId} {a z : AV} {p v : Value} {n : Nat} {e : Eff} {g g' : List Nat} (hH : HRel B c hp w) (hv : VRel B c hp w a p) (hz : VRel B c hp w z v) {o : Oper} {ρ : Operand → AV} {x y : Operand}
    (ho : o.op = .store t x y) (hx : ρ x = a) (hy : ρ y = z)
    (h : (eff E P o ρ n).runO (lookIn hp) g = some (e, g')) : ∃ w', (Instr.storeAt t p v).run P w = .ok () w' ∧ EffOk B c hp w n e undef w' := by
  simp only [eff, ho, hx, hy] at h
  cases a with
  | ptr id off =>
    simp only [Rd.runO] at h
    split at h
    · rename_i cs T hl
      obtain ⟨hc, h⟩ := Rd.cond_some h
      simp only [Bool.and_eq_true, decide_eq_true_eq] at hc
      obtain ⟨⟨⟨hsz, hle⟩, hst⟩, hkn⟩ := hc
      have hle' : off + (cellsOf z).length ≤ cs.length := Nat.le_of_ble_eq_true hle
      cases h
      obtain ⟨_, b, hs, rfl⟩ := hv
      have hb := hH.blk id
      rw [hl] at hb
      obtain ⟨b', vs, hs', hw, hr⟩ := hb
      rw [hs] at hs'; cases hs'
      have hcr := cells_rel hkn hz
      have hlen := hcr.length
      have hlen2 := hr.length
      simp only [Array.length_toList] at hlen hlen2
      have hrun := run_store (P := P) (t := t) (off := off) (v := v) hw (by rw [hsz, hlen]) (by omega) (storL_one hst hcr)
      refine ⟨_, hrun, ?_⟩
      intro hp' hu
      have hlk : ∀ j, lookIn hp' j = if j = id then .cells (setAt cs off (cellsOf z)) T else lookIn hp j := by
        intro j
        have := hu.look j
        simp only [List.lookup_cons, List.lookup_nil, List.length_nil, Nat.add_zero] at this
        rw [this]
        have hidl : id < hp'.length := Nat.lt_of_lt_of_le (lookIn_live (by rw [hl]; simp)) hu.len
        by_cases e : j = id
        · subst e; simp [hidl]
        · have : (j == id) = false := by simpa using e
          simp only [this, if_neg e]
          rw [if_neg (by omega)]
      have hsr := setRow_os w b (vs.toList.take off ++ v.cells.toList ++ vs.toList.drop (off + v.cells.toList.length)).toArray
      obtain ⟨k1, k2⟩ := hrel_upd (w' := w.setRow b _) (hp' := hp') hH (by rw [hl]; simp) hs (blk := .cells (setAt cs off (cellsOf z)) T) hu.len (by rw [hl]; refine ⟨rfl, ?_⟩; rw [setAt_eq _ _ _ hle']; simp; omega) (by simp) hlk
        (fun j hj => setRow_other w b j _ hj) hsr.2.2.2 (fun vs' T' fz' hw' => by
          rw [hw] at hw'; cases hw'
          refine ⟨_, setRow_heap w b vs _ T _ hw, ?_⟩
          simp; omega) hsr.1 hsr.2.1 hsr.2.2.1
        (fun he => ⟨b, _, hs, setRow_heap w b vs _ T _ hw, by
          have := splice_rel off hr hcr hle'
          exact VRelL.evo this he⟩)
      exact ⟨c, k1, k2, trivial, fun _ h => .inl h⟩
    · cases h
  | rptr id i off =>
    simp only [Rd.runO] at h
    split at h
    · rename_i fr T u l hl
      obtain ⟨hc, h⟩ := Rd.cond_some h
      simp only [Bool.and_eq_true, decide_eq_true_eq] at hc
      obtain ⟨⟨⟨hsz, hle⟩, hst⟩, hkn⟩ := hc
      have hle' : off + (cellsOf z).length ≤ (encC fr u (l.getD i u.dflt)).length := Nat.le_of_ble_eq_true hle
      obtain ⟨hi, h⟩ := Rd.chk_some h
      have hi' : i < l.length := of_decide_eq_true hi
      obtain ⟨d, g1, hd, h⟩ := Rd.bind_some h
      cases hcon : d.own.contains id with
      | true => rw [hcon] at h; cases h
      | false =>
      rw [hcon] at h
      cases h
      have hnid : id ∉ d.own := by simpa using hcon
      obtain ⟨_, b, q, hs, rfl, hq⟩ := hv
      have hq' := hq _ _ _ _ hl
      subst hq'
      have hb := hH.blk id
      rw [hl] at hb
      obtain ⟨h0, hb⟩ := hb
      rw [hs] at hb
      obtain ⟨cap, cur, hw, r2, r3, r4, r5⟩ := hb
      have hget : l[i]? = some (l.getD i u.dflt) := by simp [List.getD, hi']
      have hrow := r5 i _ hget
      have henc := encC_rel (hp := hp) fr u _ _ hrow
      have hcr := cells_rel hkn hz
      have hlen := hcr.length
      have hlen2 := henc.length
      have hrl := CRel.length _ _ _ hrow
      simp only [Array.length_toList] at hlen
      rw [hrl] at hlen2
      have hcap : i * u.size + u.size ≤ cur.size := by
        rw [r4]
        have : (i + 1) * u.size ≤ cap * u.size := Nat.mul_le_mul_right _ (by omega)
        rw [Nat.add_mul] at this; omega
      have hrun := run_store (P := P) (t := t) (off := i * u.size + off) (v := v) hw (by rw [hsz, hlen]) (by omega) (storL_one hst hcr)
      refine ⟨_, hrun, ?_⟩
      -- the row's new cells
      have hsp := splice_rel off henc hcr hle'
      obtain ⟨v1, v2, e1, hv2, hcr1, hown⟩ := decC_sound hH u hsp hd
      have hv1l := CRel.length _ _ _ hcr1
      have hv2n : v2 = [] := by
        have := congrArg List.length e1
        generalize (List.drop (i * u.size) cur.toList).take u.size = row at this hrl
        simp only [List.length_append, List.length_take, List.length_drop, hv1l, hrl, Array.length_toList] at this
        apply List.eq_nil_of_length_eq_zero
        omega
      subst hv2n
      rw [List.append_nil] at e1
      intro hp' hu
      have hkl : ∀ k, k ∈ d.own → lookIn hp k ≠ .dead := fun k hk => by obtain ⟨fr', T', t', l', hlk⟩ := hown k hk; rw [hlk]; simp
      obtain ⟨k1, e2⟩ := hrel_kill (hp' := killAll hp d.own) hH d.own (by rw [killAll_length]; exact Nat.le_refl _) (look_killAll hp d.own)
      have hl1 : lookIn (killAll hp d.own) id = .rows fr T u l := by rw [look_killAll, if_neg hnid, hl]
      have hlk : ∀ j, lookIn hp' j = if j = id then .rows (fr && d.fr) T u (l.set i d.x.1) else lookIn (killAll hp d.own) j := by
        intro j
        have := hu.look j
        simp only [List.lookup_cons, List.length_nil, Nat.add_zero] at this
        rw [this, look_killAll]
        have hidl : id < hp'.length := Nat.lt_of_lt_of_le (lookIn_live (by rw [hl]; simp)) hu.len
        by_cases e : j = id
        · subst e; simp [hidl]
        · have hf : (j == id) = false := by simpa using e
          simp only [hf, if_neg e]
          rw [lookup_kills]
          by_cases hjk : j ∈ d.own
          · simp [hjk]
          · simp only [hjk, if_false]; rw [if_neg (by omega)]
      have hsr := setRow_os w b (cur.toList.take (i * u.size + off) ++ v.cells.toList ++ cur.toList.drop (i * u.size + off + v.cells.toList.length)).toArray
      have hcl : cur.toList.length = cur.size := Array.length_toList
      have hvl : v.cells.toList.length = v.cells.size := Array.length_toList
      obtain ⟨k3, e3⟩ := hrel_upd (w' := w.setRow b _) (hp' := hp') k1 (id := id) (by rw [hl1]; simp) hs (blk := .rows (fr && d.fr) T u (l.set i d.x.1)) (by rw [killAll_length]; exact hu.len) (by rw [hl1]; exact ⟨rfl, rfl, by simp⟩) (by simp) hlk
        (fun j hj => setRow_other w b j _ hj) hsr.2.2.2 (fun vs' T' fz' hw' => by
          rw [hw] at hw'; cases hw'
          refine ⟨_, setRow_heap w b cur _ T _ hw, ?_⟩
          simp; omega) hsr.1 hsr.2.1 hsr.2.2.1
        (fun he => by
          refine ⟨h0, ?_⟩
          rw [show (Cx.σ ⟨c.D, c.σ, _⟩ id : Option Nat) = some b from hs]
          refine ⟨cap, _, setRow_heap w b cur _ T _ hw, by simpa using r2, r3, by rw [← r4]; simp; omega, fun j x hx => ?_⟩
          simp only [List.toList_toArray]
          have hmv : ∀ bb, okF B c (fr && d.fr) bb → okF B ⟨c.D, c.σ, fun b => c.F b ∨ ∃ id, id ∈ d.own ∧ lookIn hp id ≠ .dead ∧ c.σ id = some b⟩ (fr && d.fr) bb := fun bb hbb => ⟨.inl hbb.1, hbb.2⟩
          by_cases e : i = j
          · subst e
            rw [splice_same _ _ _ _ _ (by omega) (by omega)]
            rw [List.getElem?_set_self hi'] at hx
            cases hx
            have e1' := e1
            rw [e1']
            refine CRel.mono (fun bb hbb => ?_) (fun bb hbb => ?_) u _ _ hcr1
            · refine setRow_other w b bb _ fun hbe => ?_
              subst hbe
              rcases hbb with hbb | ⟨k, hk, hks⟩
              · exact (hH.nf id _ (by rw [hl]; simp) hs).1 hbb.1
              · exact hnid (hH.inj id k _ (by rw [hl]; simp) (hkl k hk) hs hks ▸ hk)
            · rcases hbb with hbb | ⟨k, hk, hks⟩
              · exact ⟨.inl hbb.1, fun hf => hbb.2 (by simp at hf; exact hf.2)⟩
              · exact ⟨.inr ⟨k, hk, hkl k hk, hks⟩, fun _ => (hH.nf k bb (hkl k hk) hks).2.2⟩
          · rw [splice_other _ _ _ _ _ _ (by omega) (by omega) e]
            rw [List.getElem?_set_ne e] at hx
            refine CRel.mono (fun bb hbb => ?_) (fun bb hbb => ?_) u _ _ (r5 j x hx)
            · refine setRow_other w b bb _ fun hbe => ?_
              subst hbe
              exact (hH.nf id _ (by rw [hl]; simp) hs).1 hbb.1
            · exact ⟨.inl hbb.1, fun hf => hbb.2 (by simp at hf; exact hf.1)⟩)
      exact ⟨_, k3, e2.trans e3, trivial, fun _ h => .inl h⟩
    · cases h
  | _ => cases h
end
end Go.Proofs.YtbjanflhagkhlaaDoor.Sk
