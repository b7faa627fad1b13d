/- SK, part 11: every operation. -/
import Derived.Test.YtalaepaomnfgjaaSkOpsE
set_option linter.unusedVariables false
set_option linter.unusedSimpArgs false
namespace Go.Proofs.Ytalaepaomnfgjaa.Sk
open Go Go.RowKit

section
variable {B : Nat → Prop} {c : Cx} {hp : List ABlk} {w : World} {P : Program}

theorem madeCells_row (z : Array Value) (size n : Nat) (hz : z.size = size) (h0 : 0 < size) : ∀ i, i < n → ((madeCells z (n * size)).toList.drop (i * size)).take size = z.toList := by
  intro i hi
  have hle : (i + 1) * size ≤ n * size := Nat.mul_le_mul_right _ hi
  rw [Nat.add_mul, Nat.one_mul] at hle
  apply List.ext_getElem
  · simp [madeCells, hz]; omega
  · intro j h1 h2
    have hj : j < size := by simpa [hz] using h2
    simp only [madeCells, List.getElem_take, List.getElem_drop, Array.toList_map, List.getElem_map, Array.getElem_toList, Array.getElem_range]
    have : (i * size + j) % z.size = j := by rw [hz, Nat.add_comm, Nat.add_mul_mod_self_right]; exact Nat.mod_eq_of_lt hj
    rw [this]
    exact getElem!_pos z j (by omega)

theorem makeSlice_sound {E : Env} {T el : TypeId} {t : Ty} {z : List AV} {kl kc : IntKind} {a b : Int} {n : Nat} {e : Eff} {g g' : List Nat} (hH : HRel B c hp w) (hel : elemA P T = some el) (hzA : zeroA P el = some z)
    (h : (cond (rowOk P el t) ((decC t z).bind fun p => cond (p.own.isEmpty && p.fr) (.chk (decide (0 ≤ a) && (a == b) && decide (a ≤ 9223372036854775807) && decide (a * (bytesA P el : Int) ≤ 140737488355328))
          (.ret (⟨.own n, [.rows true el t (List.replicate a.toNat p.x.1)], []⟩ : Eff))) .fail) .fail : Rd Eff).runO (lookIn hp) g = some (e, g')) :
    ∃ r w', (Instr.makeSlice T (.int kl a) (.int kc b)).run P w = .ok r w' ∧ EffOk B c hp w n e r w' := by
  have hT := elemA_some hel
  obtain ⟨hok, h⟩ := Rd.cond_some h
  obtain ⟨i, zv, hi, hz, hsz, hzs, h0⟩ := rowOk_some hok
  obtain ⟨p, g1, hp1, h⟩ := Rd.bind_some h
  obtain ⟨hpf, h⟩ := Rd.cond_some h
  obtain ⟨hb, h6⟩ := Rd.chk_some h
  simp only [Bool.and_eq_true, decide_eq_true_eq, beq_iff_eq, List.isEmpty_iff] at hb hpf
  obtain ⟨⟨⟨ha, hab⟩, hm⟩, hby⟩ := hb
  cases h6
  subst hab
  have hbb : bytesA P el = i.bytes := by simp [bytesA, hi]
  rw [hbb] at hby
  obtain ⟨i', zv', hi', hz', rfl⟩ := zeroA_some hzA
  rw [hi] at hi'; cases hi'
  rw [hz] at hz'; cases hz'
  obtain ⟨v1, v2, e1, hv2, hcr, hown⟩ := decC_sound hH t (VRelL.scs zv.cells.toList) hp1
  have hl1 := CRel.length _ _ _ hcr
  have hv2n : v2 = [] := by
    have := congrArg List.length e1
    simp only [List.length_append, Array.length_toList] at this
    apply List.eq_nil_of_length_eq_zero
    omega
  subst hv2n
  rw [List.append_nil] at e1
  have hrun := run_make (P := P) w T el i zv hT hi hz kl kc a a ha (Int.le_refl _) (by rw [Int.mul_comm]; omega) hm
  refine ⟨_, _, hrun, ?_⟩
  have := effOk_rows (B := B) (c := c) (hp := hp) (w := w) hH (n := n) (fr := true) (T := el) (t := t) (l := List.replicate a.toNat p.x.1) (vs := madeCells zv.cells (a.toNat * i.size)) (cap := a.toNat) h0 (by simp) (by simp only [maxLen]; omega)
    (by rw [size_madeCells, hsz]) (ks := []) (fun j x hj => by
      rw [List.getElem?_replicate] at hj
      split at hj
      · cases hj
        rename_i hlt
        rw [hsz, madeCells_row _ _ _ hzs h0 j hlt, e1]
        rw [hpf.1, hpf.2] at hcr
        exact hcr
      · cases hj) (by simp)
  simpa [kills] using this

theorem decN_sound (hH : HRel B c hp w) (t : Ty) : ∀ (n : Nat) {as : List AV} {vs : List Value} {g : List Nat} {d : Dec (List t.den)} {g' : List Nat}, VRelL B c hp w as vs →
    (eff.decN t n as).runO (lookIn hp) g = some (d, g') → d.x.length = n ∧ vs.length = n * t.size ∧ (∀ (i : Nat) (x : t.den), d.x[i]? = some x → CRel w (okD B c d.fr d.own) t x ((vs.drop (i * t.size)).take t.size)) ∧
      (∀ id, id ∈ d.own → ∃ fr T t' l, lookIn hp id = .rows fr T t' l)
  | 0, [], vs, g, d, g', hv, h => by
    simp only [eff.decN] at h
    cases h
    have : vs = [] := by cases vs with | nil => rfl | cons v vs => simp [VRelL] at hv
    subst this
    exact ⟨rfl, by simp, fun i x hx => by simp at hx, fun id hid => by simp at hid⟩
  | 0, _ :: _, vs, g, d, g', hv, h => by simp only [eff.decN] at h; cases h
  | n + 1, as, vs, g, d, g', hv, h => by
    simp only [eff.decN] at h
    obtain ⟨p, g1, h1, h⟩ := Rd.bind_some h
    obtain ⟨l, g2, h2, h⟩ := Rd.bind_some h
    cases h
    obtain ⟨v1, v2, e1, r1, c1, o1⟩ := decC_sound hH t hv h1
    obtain ⟨q1, q2, q3, q4⟩ := decN_sound hH t n r1 h2
    have hl := CRel.length _ _ _ c1
    subst e1
    refine ⟨by simp [q1], by rw [List.length_append, hl, q2, Nat.add_mul]; omega, fun i x hx => ?_, fun id hid => ?_⟩
    · cases i with
      | zero =>
        simp at hx
        subst hx
        rw [Nat.zero_mul, List.drop_zero, List.take_append_of_le_length (by omega), List.take_of_length_le (by omega)]
        exact c1.weaken (fun b hb => hb.weaken (by intro h; simp at h; exact h.1) (by intro id h; simp [h])) _ _ _
      | succ i =>
        have hx' : l.x[i]? = some x := by simpa using hx
        have := q3 i x hx'
        rw [Nat.add_mul, Nat.one_mul, List.drop_append, List.drop_eq_nil_of_le (by omega), List.nil_append, show i * t.size + t.size - v1.length = i * t.size by omega]
        exact this.weaken (fun b hb => hb.weaken (by intro h; simp at h; exact h.2) (by intro id h; simp [h])) _ _ _
    · simp only [List.mem_append] at hid
      rcases hid with h | h
      · exact o1 id h
      · exact q4 id h

theorem zeros_list (z : Array Value) (size : Nat) (hz : z.size = size) (h0 : 0 < size) : ∀ (n : Nat), (madeCells z (n * size)).toList = (List.replicate n z.toList).flatten := by
  intro n
  have key : ∀ (L : List Value) (n j : Nat), 0 < L.length → ((List.replicate n L).flatten)[j]? = if j < n * L.length then L[j % L.length]? else none := by
    intro L n
    induction n with
    | zero => intro j _; simp
    | succ n ih =>
      intro j hL
      rw [List.replicate_succ, List.flatten_cons, List.getElem?_append]
      by_cases h : j < L.length
      · rw [if_pos h, if_pos (by rw [Nat.add_mul]; omega), Nat.mod_eq_of_lt h]
      · rw [if_neg h, ih _ hL]
        have h1 : (j - L.length) % L.length = j % L.length := by
          conv => rhs; rw [show j = (j - L.length) + L.length by omega]
          rw [Nat.add_mod_right]
        rw [h1, Nat.add_mul, Nat.one_mul]
        by_cases h2 : j - L.length < n * L.length
        · rw [if_pos h2, if_pos (by omega)]
        · rw [if_neg h2, if_neg (by omega)]
  apply List.ext_getElem?
  intro j
  have hzl : z.toList.length = size := by simpa using hz
  rw [key _ _ _ (by omega), hzl]
  by_cases h : j < n * size
  · rw [if_pos h]
    have hm : j % size < z.size := by rw [hz]; exact Nat.mod_lt _ h0
    simp only [madeCells, Array.toList_map, List.getElem?_map, Array.getElem?_toList, Array.getElem?_range, h, if_true, Option.map_some, hz]
    rw [getElem!_pos z _ hm]
    simp [hm]
  · rw [if_neg h]
    simp [madeCells, h]

theorem buildSlice_sound {E : Env} {T el : TypeId} {t : Ty} {len size : Nat} {z cs : List AV} {parts : Array (Nat × Operand)} {ρA : Operand → AV} {ρV : Operand → Value} {n : Nat} {e : Eff} {g g' : List Nat} (hH : HRel B c hp w)
    (hv : ∀ p, p ∈ parts.toList → VRel B c hp w (ρA p.2) (ρV p.2)) (hel : elemA P T = some el) (hzA : zeroA P el = some z) (hsA : sizeA P el = some size) (hok : rowOk P el t = true) (hlen : 0 < len)
    (hf : fillA (fun i => some (i * size, size)) ((List.replicate len z).flatten) (parts.toList.map fun p => (p.1, ρA p.2)) = some cs)
    (h : ((eff.decN t len cs).bind fun l => cond (Nat.ble (len * size) 16777216) (.ret (⟨.own n, [.rows l.fr el t l.x], kills l.own⟩ : Eff)) .fail).runO (lookIn hp) g = some (e, g')) :
    ∃ r w', (Instr.buildSlice T len (parts.map fun p => (p.1, ρV p.2))).run P w = .ok r w' ∧ EffOk B c hp w n e r w' := by
  have hT := elemA_some hel
  obtain ⟨i, zv, hi, hz, hsz, hzs, h0⟩ := rowOk_some hok
  obtain ⟨l, g1, hl, h⟩ := Rd.bind_some h
  obtain ⟨hle, h⟩ := Rd.cond_some h
  have hle' := Nat.le_of_ble_eq_true hle
  cases h
  obtain ⟨i', zv', hi', hz', rfl⟩ := zeroA_some hzA
  rw [hi] at hi'; cases hi'
  rw [hz] at hz'; cases hz'
  have hs' : size = i.size := by simp [sizeA, hi] at hsA; exact hsA.symm
  subst hs'
  have hzr : VRelL B c hp w ((List.replicate len (zv.cells.toList.map AV.sc)).flatten) (madeCells zv.cells (len * i.size)).toList := by
    rw [hsz, zeros_list _ _ hzs h0]
    have : (List.replicate len (zv.cells.toList.map AV.sc)).flatten = ((List.replicate len zv.cells.toList).flatten).map AV.sc := by rw [List.map_flatten, List.map_replicate]
    rw [this]
    exact VRelL.scs _
  obtain ⟨vs', h4, h5⟩ := fill_rel parts.toList hv hzr hf
  obtain ⟨q1, q2, q3, q4⟩ := decN_sound hH t len h5 hl
  have hrun := run_buildSlice (P := P) w T el len (parts.map fun p => (p.1, ρV p.2)) vs' i zv hT hi hz (by omega) (by rw [hsz]; intro h; have := Nat.mul_pos hlen h0; omega) (by rw [Array.toList_map]; exact h4)
  refine ⟨_, _, hrun, ?_⟩
  have hle2 : len * t.size ≤ 16777216 := by rw [← hsz]; exact hle'
  have := effOk_rows (B := B) (c := c) (hp := hp) (w := w) hH (n := n) (fr := l.fr) (T := el) (t := t) (l := l.x) (vs := vs') (cap := len) h0 (by omega) (by simp only [maxLen]; have := Nat.le_mul_of_pos_right len h0; omega)
    (by rw [← q2]; simp) (ks := l.own) q3 (fun k hk => by obtain ⟨fr', T', t', l', hlk⟩ := q4 k hk; rw [hlk]; simp)
  rw [q1] at this
  exact this

theorem fieldOff_some {s : TypeId} {f k : Nat} (h : fieldOff P s f = some k) : ∃ fs g n, P.underlying s = some (.struct fs) ∧ fs[f]? = some g ∧ g.offset = k ∧ sizeA P g.type = some (n + 1) := by
  unfold fieldOff at h
  split at h
  · rename_i fs hu
    split at h
    · rename_i g hg
      split at h
      · rename_i n hn
        cases h
        exact ⟨fs, g, n, hu, by simpa using hg, rfl, hn⟩
      · cases h
    · cases h
  · cases h

theorem run_fieldAt {s : TypeId} {f k : Nat} (h : fieldOff P s f = some k) (b off : Nat) : (Instr.fieldAt s (.pointer (some ⟨b, off, none⟩)) f).run P w = .ok (.pointer (some ⟨b, off + k, none⟩)) w := by
  obtain ⟨fs, g, n, hu, hg, hk, hs⟩ := fieldOff_some h
  have e : (sizeOf g.type).run P w = .ok (n + 1) w := run_sizeOf hs w
  simp [Instr.fieldAt, run_underlying hu, hg, Instr.sureAddr, fieldPlace, e, addr_add, hk]

theorem part_rel {t : TypeId} {cs : List AV} {vs : Array Value} {off : Nat} {av : AV} {look : Nat → ABlk} {g g' : List Nat} (hr : VRelL B c hp w cs vs.toList) (h : (partA P t cs off).runO look g = some (av, g')) :
    ∃ u, (part t vs off).run P w = .ok u w ∧ VRel B c hp w av u := by
  unfold partA at h
  split at h
  · rename_i n ha hs
    obtain ⟨hle, h⟩ := Rd.cond_some h
    have hle' : off + n ≤ cs.length := Nat.le_of_ble_eq_true hle
    cases h
    refine ⟨.agg (vs.extract off (off + n)), by simp [part, run_isAgg ha, run_sizeOf hs], ⟨_, rfl, ?_⟩⟩
    have : (vs.extract off (off + n)).toList = (vs.toList.drop off).take n := by simp [List.extract_eq_take_drop]
    rw [this]
    exact (hr.drop off).take n
  · rename_i ha
    split at h
    · rename_i v hv
      cases h
      obtain ⟨u, hu, hvu⟩ := hr.get off _ hv
      have hu' : vs[off]? = some u := by simpa using hu
      exact ⟨u, by simp [part, run_isAgg ha, hu'], hvu⟩
    · cases h
  · cases h

theorem intAt_rel {t : TypeId} {cs : List AV} {vs : Array Value} {off : Nat} {av : AV} {look : Nat → ABlk} {g g' : List Nat} (hr : VRelL B c hp w cs vs.toList) (h : (intAt P t cs off).runO look g = some (av, g')) :
    ∃ u, (part t vs off).run P w = .ok u w ∧ VRel B c hp w av u := by
  unfold intAt at h
  split at h
  · rename_i k hu
    split at h
    · rename_i l hl
      obtain ⟨hc, h⟩ := Rd.chk_some h
      have hlt : off < l.length := of_decide_eq_true hc
      cases h
      have hls' := ints_rel hr hl
      have hv : vs.toList[off]? = some (.int k (l.getD off 0)) := by rw [hls']; simp [List.getD, hlt]
      have hv' : vs[off]? = some (.int k (l.getD off 0)) := by simpa using hv
      have ha : isAggA P t = some false := by simp [isAggA, hu]
      exact ⟨.int k (l.getD off 0), by simp [part, run_isAgg ha, hv'], rfl⟩
    · exact part_rel hr h
  · exact part_rel hr h

theorem at_rel {t : TypeId} {cs : List AV} {vs : Array Value} {off : Nat} {av : AV} {look : Nat → ABlk} {g g' : List Nat} (hr : VRelL B c hp w cs vs.toList) (h : (atA P t cs off).runO look g = some (av, g')) :
    ∃ u, (part t vs off).run P w = .ok u w ∧ VRel B c hp w av u := by
  unfold atA at h
  split at h
  · obtain ⟨cs', h1, h2⟩ := aggAt_part hr h
    exact part_rel h1 h2
  · exact intAt_rel hr h

theorem buildEmpty_sound {T el : TypeId} {t : Ty} {parts : Array (Nat × Value)} {n : Nat} (hH : HRel B c hp w) (hel : elemA P T = some el) (hok : rowOk P el t = true) (hp0 : parts = #[]) :
    ∃ r w', (Instr.buildSlice T 0 parts).run P w = .ok r w' ∧ EffOk B c hp w n ⟨.own n, [.rows true el t []], []⟩ r w' := by
  have hT := elemA_some hel
  obtain ⟨i, zv, hi, hz, hsz, hzs, h0⟩ := rowOk_some hok
  subst hp0
  refine ⟨.slice (some ⟨w.heap.size, 0, none⟩) 0 0, w.alloc (.cells #[] el), ?_, ?_⟩
  · simp [Instr.buildSlice, run_underlying hT, sizeOf, typeInfo, hi, Instr.fill, newRow]
    congr 2
    apply Array.ext'
    simp [Array.toList_range]
  · exact effOk_rows (B := B) (c := c) (hp := hp) (w := w) hH (n := n) (fr := true) (T := el) (t := t) (l := ([] : List t.den)) (vs := #[]) (cap := 0) h0 (Nat.le_refl _) (Nat.zero_le _) (by simp) (ks := []) (fun i x h => by simp at h) (fun k h => by simp at h)

/-- An element's place. -/
theorem index_ros {T e : TypeId} {k : IntKind} {a : Int} {fr : Bool} {e' : TypeId} {t : Ty} {l : List t.den} {u : Value} (hT : P.underlying T = some (.slice e)) (hs : sizeA P e = some t.size) (hv : VRel B c hp w (.ros fr e' t l) u)
    (h0 : 0 ≤ a) (h1 : a < l.length) : ∃ p, (Instr.indexAt T u (.int k a)).run P w = .ok p w ∧ VRel B c hp w (.rop fr t (l.getD a.toNat t.dflt) 0) p := by
  obtain ⟨A, q, rfl, hq, hm⟩ := hv
  have hne : l ≠ [] := by intro e; subst e; simp at h1; omega
  obtain ⟨b, o, cs, T', fz, rfl, hb, hw, hsz, hr⟩ := hm hne
  have hlt : a.toNat < l.length := by omega
  have hget : l[a.toNat]? = some (l.getD a.toNat t.dflt) := by simp [List.getD, hlt]
  refine ⟨.pointer (some ⟨b, o + a.toNat * t.size, none⟩), ?_, ⟨b, o + a.toNat * t.size, cs, T', fz, hb, by simp, hw, ?_, hr _ _ hget⟩⟩
  · have he : P.elem T = e := by simp [Program.elem, hT]
    rw [run_indexAt_slice w T _ _ _ _ _ (by rw [he]; exact hT), if_pos ⟨h0, h1⟩, he, run_sizeOf hs]
    simp [addr_add]
  · have : (a.toNat + 1) * t.size ≤ l.length * t.size := Nat.mul_le_mul_right _ hlt
    rw [Nat.add_mul, Nat.one_mul] at this
    omega

theorem index_own {T e : TypeId} {k : IntKind} {a : Int} {id : Nat} {fr : Bool} {e' : TypeId} {t : Ty} {l : List t.den} {u : Value} (hH : HRel B c hp w) (hl : lookIn hp id = .rows fr e' t l) (hT : P.underlying T = some (.slice e)) (hs : sizeA P e = some t.size)
    (hv : VRel B c hp w (.own id) u) (h0 : 0 ≤ a) (h1 : a < l.length) : ∃ p, (Instr.indexAt T u (.int k a)).run P w = .ok p w ∧ VRel B c hp w (.rptr id a.toNat 0) p := by
  obtain ⟨hD, hv⟩ := hv
  have hb := hH.blk id
  rw [hl] at hb
  obtain ⟨_, hb⟩ := hb
  unfold OwnV at hv
  cases hσ : c.σ id with
  | none =>
    rw [hσ] at hb
    simp only at hb
    subst hb
    simp at h1; omega
  | some b =>
    rw [hσ] at hv
    obtain ⟨n, cap, rfl, hr⟩ := hv
    obtain ⟨rfl, _⟩ := hr _ _ _ _ hl
    refine ⟨.pointer (some ⟨b, a.toNat * t.size, none⟩), ?_, hD, b, a.toNat * t.size, hσ, rfl, fun fr' T' t' l' hl' => ?_⟩
    · have he : P.elem T = e := by simp [Program.elem, hT]
      rw [run_indexAt_slice w T _ _ _ _ _ (by rw [he]; exact hT), if_pos ⟨h0, h1⟩, he, run_sizeOf hs]
      simp [addr_add]
    · rw [hl] at hl'; cases hl'; rfl

theorem index_arr {T e : TypeId} {len size : Nat} {k : IntKind} {a : Int} {b off : Nat} (hT : P.underlying T = some (.array len e)) (hs : sizeA P e = some size) (h0 : 0 ≤ a) (h1 : a < (len : Int)) :
    (Instr.indexAt T (.pointer (some ⟨b, off, none⟩)) (.int k a)).run P w = .ok (.pointer (some ⟨b, off + a.toNat * size, none⟩)) w := by
  have he : P.elem T = e := by simp [Program.elem, hT]
  have hn : P.arrayLen T = len := by simp [Program.arrayLen, hT]
  rw [run_indexAt_array w T _ _ _ (by rw [he, hn]; exact hT), if_pos ⟨h0, by rw [hn]; exact h1⟩, he, run_sizeOf hs]
  simp [addr_add]
end
end Go.Proofs.Ytalaepaomnfgjaa.Sk
