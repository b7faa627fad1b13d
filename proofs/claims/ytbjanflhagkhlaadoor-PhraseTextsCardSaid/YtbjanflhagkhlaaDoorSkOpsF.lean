/- SK, part 11: every operation. -/
import Derived.Test.YtbjanflhagkhlaaDoorSkOpsE
import Derived.MapKept
set_option linter.unusedVariables false
set_option linter.unusedSimpArgs false
namespace Go.Proofs.YtbjanflhagkhlaaDoor.Sk
open Go Go.RowKit

section
variable {B : Nat → Prop} {c : Cx} {hp : List ABlk} {w : World} {P : Program}

theorem madeCells_row (z : Array Value) (size n : Nat) (hz : z.size = size) (h0 : 0 < size) : ∀ i, i < n → ((madeCells z (n * size)).toList.drop (i * size)).take size = z.toList := by
  intro i hi
  have hle : (i + 1) * size ≤ n * size := Nat.mul_le_mul_right _ hi
  rw [Nat.add_mul, Nat.one_mul] at hle
  apply List.ext_getElem
  · simp [madeCells, hz]; omega
  · intro j h1 h2
    have hj : j < size := by simpa [hz] using h2
    simp only [madeCells, List.getElem_take, List.getElem_drop, Array.toList_map, List.getElem_map, Array.getElem_toList, Array.getElem_range]
    have : (i * size + j) % z.size = j := by rw [hz, Nat.add_comm, Nat.add_mul_mod_self_right]; exact Nat.mod_eq_of_lt hj
    rw [this]
    exact getElem!_pos z j (by omega)

theorem makeSlice_sound {E : Env} {T el : TypeId} {t : Ty} {z : List AV} {kl kc : IntKind} {a b : Int} {n : Nat} {e : Eff} {g g' : List Nat} (hH : HRel B c hp w) (hel : elemA P T = some el) (hzA : zeroA P el = some z)
    (h : (cond (rowOk P el t) ((decC t z).bind fun p => cond (p.own.isEmpty && p.fr) (.chk (decide (0 ≤ a) && (a == b) && decide (a ≤ 9223372036854775807) && decide (a * (bytesA P el : Int) ≤ 140737488355328))
          (.ret (⟨.own n, [.rows true el t (List.replicate a.toNat p.x.1)], []⟩ : Eff))) .fail) .fail : Rd Eff).runO (lookIn hp) g = some (e, g')) :
    ∃ r w', (Instr.makeSlice T (.int kl a) (.int kc b)).run P w = .ok r w' ∧ EffOk B c hp w n e r w' := by
  have hT := elemA_some hel
  obtain ⟨hok, h⟩ := Rd.cond_some h
  obtain ⟨i, zv, hi, hz, hsz, hzs, h0⟩ := rowOk_some hok
  obtain ⟨p, g1, hp1, h⟩ := Rd.bind_some h
  obtain ⟨hpf, h⟩ := Rd.cond_some h
  obtain ⟨hb, h6⟩ := Rd.chk_some h
  simp only [Bool.and_eq_true, decide_eq_true_eq, beq_iff_eq, List.isEmpty_iff] at hb hpf
  obtain ⟨⟨⟨ha, hab⟩, hm⟩, hby⟩ := hb
  cases h6
  subst hab
  have hbb : bytesA P el = i.bytes := by simp [bytesA, hi]
  rw [hbb] at hby
  obtain ⟨i', zv', hi', hz', rfl⟩ := zeroA_some hzA
  rw [hi] at hi'; cases hi'
  rw [hz] at hz'; cases hz'
  obtain ⟨v1, v2, e1, hv2, hcr, hown⟩ := decC_sound hH t (VRelL.scs zv.cells.toList) hp1
  have hl1 := CRel.length _ _ _ hcr
  have hv2n : v2 = [] := by
    have := congrArg List.length e1
    simp only [List.length_append, Array.length_toList] at this
    apply List.eq_nil_of_length_eq_zero
    omega
  subst hv2n
  rw [List.append_nil] at e1
  have hrun := run_make (P := P) w T el i zv hT hi hz kl kc a a ha (Int.le_refl _) (by rw [Int.mul_comm]; omega) hm
  refine ⟨_, _, hrun, ?_⟩
  have := effOk_rows (B := B) (c := c) (hp := hp) (w := w) hH (n := n) (fr := true) (T := el) (t := t) (l := List.replicate a.toNat p.x.1) (vs := madeCells zv.cells (a.toNat * i.size)) (cap := a.toNat) h0 (by simp) (by simp only [maxLen]; omega)
    (by rw [size_madeCells, hsz]) (ks := []) (fun j x hj => by
      rw [List.getElem?_replicate] at hj
      split at hj
      · cases hj
        rename_i hlt
        rw [hsz, madeCells_row _ _ _ hzs h0 j hlt, e1]
        rw [hpf.1, hpf.2] at hcr
        exact hcr
      · cases hj) (by simp)
  simpa [kills] using this

theorem decN_sound (hH : HRel B c hp w) (t : Ty) : ∀ (n : Nat) {as : List AV} {vs : List Value} {g : List Nat} {d : Dec (List t.den)} {g' : List Nat}, VRelL B c hp w as vs →
    (eff.decN t n as).runO (lookIn hp) g = some (d, g') → d.x.length = n ∧ vs.length = n * t.size ∧ (∀ (i : Nat) (x : t.den), d.x[i]? = some x → CRel w (okD B c d.fr d.own) t x ((vs.drop (i * t.size)).take t.size)) ∧
      (∀ id, id ∈ d.own → ∃ fr T t' l, lookIn hp id = .rows fr T t' l)
  | 0, [], vs, g, d, g', hv, h => by
    simp only [eff.decN] at h
    cases h
    have : vs = [] := by cases vs with | nil => rfl | cons v vs => simp [VRelL] at hv
    subst this
    exact ⟨rfl, by simp, fun i x hx => by simp at hx, fun id hid => by simp at hid⟩
  | 0, _ :: _, vs, g, d, g', hv, h => by simp only [eff.decN] at h; cases h
  | n + 1, as, vs, g, d, g', hv, h => by
    simp only [eff.decN] at h
    obtain ⟨p, g1, h1, h⟩ := Rd.bind_some h
    obtain ⟨l, g2, h2, h⟩ := Rd.bind_some h
    cases h
    obtain ⟨v1, v2, e1, r1, c1, o1⟩ := decC_sound hH t hv h1
    obtain ⟨q1, q2, q3, q4⟩ := decN_sound hH t n r1 h2
    have hl := CRel.length _ _ _ c1
    subst e1
    refine ⟨by simp [q1], by rw [List.length_append, hl, q2, Nat.add_mul]; omega, fun i x hx => ?_, fun id hid => ?_⟩
    · cases i with
      | zero =>
        simp at hx
        subst hx
        rw [Nat.zero_mul, List.drop_zero, List.take_append_of_le_length (by omega), List.take_of_length_le (by omega)]
        exact c1.weaken (fun b hb => hb.weaken (by intro h; simp at h; exact h.1) (by intro id h; simp [h])) _ _ _
      | succ i =>
        have hx' : l.x[i]? = some x := by simpa using hx
        have := q3 i x hx'
        rw [Nat.add_mul, Nat.one_mul, List.drop_append, List.drop_eq_nil_of_le (by omega), List.nil_append, show i * t.size + t.size - v1.length = i * t.size by omega]
        exact this.weaken (fun b hb => hb.weaken (by intro h; simp at h; exact h.2) (by intro id h; simp [h])) _ _ _
    · simp only [List.mem_append] at hid
      rcases hid with h | h
      · exact o1 id h
      · exact q4 id h

theorem zeros_list (z : Array Value) (size : Nat) (hz : z.size = size) (h0 : 0 < size) : ∀ (n : Nat), (madeCells z (n * size)).toList = (List.replicate n z.toList).flatten := by
  intro n
  have key : ∀ (L : List Value) (n j : Nat), 0 < L.length → ((List.replicate n L).flatten)[j]? = if j < n * L.length then L[j % L.length]? else none := by
    intro L n
    induction n with
    | zero => intro j _; simp
    | succ n ih =>
      intro j hL
      rw [List.replicate_succ, List.flatten_cons, List.getElem?_append]
      by_cases h : j < L.length
      · rw [if_pos h, if_pos (by rw [Nat.add_mul]; omega), Nat.mod_eq_of_lt h]
      · rw [if_neg h, ih _ hL]
        have h1 : (j - L.length) % L.length = j % L.length := by
          conv => rhs; rw [show j = (j - L.length) + L.length by omega]
          rw [Nat.add_mod_right]
        rw [h1, Nat.add_mul, Nat.one_mul]
        by_cases h2 : j - L.length < n * L.length
        · rw [if_pos h2, if_pos (by omega)]
        · rw [if_neg h2, if_neg (by omega)]
  apply List.ext_getElem?
  intro j
  have hzl : z.toList.length = size := by simpa using hz
  rw [key _ _ _ (by omega), hzl]
  by_cases h : j < n * size
  · rw [if_pos h]
    have hm : j % size < z.size := by rw [hz]; exact Nat.mod_lt _ h0
    simp only [madeCells, Array.toList_map, List.getElem?_map, Array.getElem?_toList, Array.getElem?_range, h, if_true, Option.map_some, hz]
    rw [getElem!_pos z _ hm]
    simp [hm]
  · rw [if_neg h]
    simp [madeCells, h]

theorem buildSlice_sound {E : Env} {T el : TypeId} {t : Ty} {len size : Nat} {z cs : List AV} {parts : Array (Nat × Operand)} {ρA : Operand → AV} {ρV : Operand → Value} {n : Nat} {e : Eff} {g g' : List Nat} (hH : HRel B c hp w)
    (hv : ∀ p, p ∈ parts.toList → VRel B c hp w (ρA p.2) (ρV p.2)) (hel : elemA P T = some el) (hzA : zeroA P el = some z) (hsA : sizeA P el = some size) (hok : rowOk P el t = true) (hlen : 0 < len)
    (hf : fillA (fun i => some (i * size, size)) ((List.replicate len z).flatten) (parts.toList.map fun p => (p.1, ρA p.2)) = some cs)
    (h : ((eff.decN t len cs).bind fun l => cond (Nat.ble (len * size) 16777216) (cond (E.lits && t.flat) (.ret (⟨.lit el t l.x, [], []⟩ : Eff)) (.ret (⟨.own n, [.rows (t.flat || l.fr) el t l.x], kills l.own⟩ : Eff))) .fail).runO (lookIn hp) g = some (e, g')) :
    ∃ r w', (Instr.buildSlice T len (parts.map fun p => (p.1, ρV p.2))).run P w = .ok r w' ∧ EffOk B c hp w n e r w' := by
  have hT := elemA_some hel
  obtain ⟨i, zv, hi, hz, hsz, hzs, h0⟩ := rowOk_some hok
  obtain ⟨l, g1, hl, h⟩ := Rd.bind_some h
  obtain ⟨hle, h2⟩ := Rd.cond_some h
  clear h
  have hle' := Nat.le_of_ble_eq_true hle
  obtain ⟨i', zv', hi', hz', rfl⟩ := zeroA_some hzA
  rw [hi] at hi'; cases hi'
  rw [hz] at hz'; cases hz'
  have hs' : size = i.size := by simp [sizeA, hi] at hsA; exact hsA.symm
  subst hs'
  have hzr : VRelL B c hp w ((List.replicate len (zv.cells.toList.map AV.sc)).flatten) (madeCells zv.cells (len * i.size)).toList := by
    rw [hsz, zeros_list _ _ hzs h0]
    have : (List.replicate len (zv.cells.toList.map AV.sc)).flatten = ((List.replicate len zv.cells.toList).flatten).map AV.sc := by rw [List.map_flatten, List.map_replicate]
    rw [this]
    exact VRelL.scs _
  obtain ⟨vs', h4, h5⟩ := fill_rel parts.toList hv hzr hf
  obtain ⟨q1, q2, q3, q4⟩ := decN_sound hH t len h5 hl
  have hrun := run_buildSlice (P := P) w T el len (parts.map fun p => (p.1, ρV p.2)) vs' i zv hT hi hz (by omega) (by rw [hsz]; intro h; have := Nat.mul_pos hlen h0; omega) (by rw [Array.toList_map]; exact h4)
  refine ⟨_, _, hrun, ?_⟩
  have hle2 : len * t.size ≤ 16777216 := by rw [← hsz]; exact hle'
  cases hlit : E.lits && t.flat with
  | true =>
    rw [hlit] at h2
    cases h2
    rw [Bool.and_eq_true] at hlit
    have := effOk_lit (B := B) (c := c) (hp := hp) (w := w) hH (n := n) (T := el) (t := t) (l := l.x) (vs := vs') h0 hlit.2 (by simp only [maxLen]; have := Nat.le_mul_of_pos_right len h0; omega)
      (by rw [q1, ← q2]; simp) (ok := okD B c l.fr l.own) q3
    rw [q1] at this
    exact this
  | false =>
  rw [hlit] at h2
  cases h2
  have := effOk_rows (B := B) (c := c) (hp := hp) (w := w) hH (n := n) (fr := t.flat || l.fr) (T := el) (t := t) (l := l.x) (vs := vs') (cap := len) h0 (by omega) (by simp only [maxLen]; have := Nat.le_mul_of_pos_right len h0; omega)
    (by rw [← q2]; simp) (ks := l.own) (fun i x hx => by
      rcases (flag_1 (t := t) (a := l.fr)) with hf | hf
      · exact CRel.flat t x _ hf (q3 i x hx)
      · exact (q3 i x hx).weaken (fun b hb => hb.weaken hf (fun _ h => h)) _ _ _) (fun k hk => by obtain ⟨fr', T', t', l', hlk⟩ := q4 k hk; rw [hlk]; simp)
  rw [q1] at this
  exact this

theorem fieldOff_some {s : TypeId} {f k : Nat} (h : fieldOff P s f = some k) : ∃ fs g n, P.underlying s = some (.struct fs) ∧ fs[f]? = some g ∧ g.offset = k ∧ sizeA P g.type = some (n + 1) := by
  unfold fieldOff at h
  split at h
  · rename_i fs hu
    split at h
    · rename_i g hg
      split at h
      · rename_i n hn
        cases h
        exact ⟨fs, g, n, hu, by simpa using hg, rfl, hn⟩
      · cases h
    · cases h
  · cases h

theorem run_fieldAt {s : TypeId} {f k : Nat} (h : fieldOff P s f = some k) (b off : Nat) : (Instr.fieldAt s (.pointer (some ⟨b, off, none⟩)) f).run P w = .ok (.pointer (some ⟨b, off + k, none⟩)) w := by
  obtain ⟨fs, g, n, hu, hg, hk, hs⟩ := fieldOff_some h
  have e : (sizeOf g.type).run P w = .ok (n + 1) w := run_sizeOf hs w
  simp [Instr.fieldAt, run_underlying hu, hg, Instr.sureAddr, fieldPlace, e, addr_add, hk]

theorem part_rel {t : TypeId} {cs : List AV} {vs : Array Value} {off : Nat} {av : AV} {look : Nat → ABlk} {g g' : List Nat} (hr : VRelL B c hp w cs vs.toList) (h : (partA P t cs off).runO look g = some (av, g')) :
    ∃ u, (part t vs off).run P w = .ok u w ∧ VRel B c hp w av u := by
  unfold partA at h
  split at h
  · rename_i n ha hs
    obtain ⟨hle, h⟩ := Rd.cond_some h
    have hle' : off + n ≤ cs.length := Nat.le_of_ble_eq_true hle
    cases h
    refine ⟨.agg (vs.extract off (off + n)), by simp [part, run_isAgg ha, run_sizeOf hs], ⟨_, rfl, ?_⟩⟩
    have : (vs.extract off (off + n)).toList = (vs.toList.drop off).take n := by simp [List.extract_eq_take_drop]
    rw [this]
    exact (hr.drop off).take n
  · rename_i ha
    split at h
    · rename_i v hv
      cases h
      obtain ⟨u, hu, hvu⟩ := hr.get off _ hv
      have hu' : vs[off]? = some u := by simpa using hu
      exact ⟨u, by simp [part, run_isAgg ha, hu'], hvu⟩
    · cases h
  · cases h

theorem intAt_rel {t : TypeId} {cs : List AV} {vs : Array Value} {off : Nat} {av : AV} {look : Nat → ABlk} {g g' : List Nat} (hr : VRelL B c hp w cs vs.toList) (h : (intAt P t cs off).runO look g = some (av, g')) :
    ∃ u, (part t vs off).run P w = .ok u w ∧ VRel B c hp w av u := by
  unfold intAt at h
  split at h
  · rename_i k hu
    split at h
    · rename_i l hl
      obtain ⟨hc, h⟩ := Rd.chk_some h
      have hlt : off < l.length := of_decide_eq_true hc
      cases h
      have hls' := ints_rel hr hl
      have hv : vs.toList[off]? = some (.int k (l.getD off 0)) := by rw [hls']; simp [List.getD, hlt]
      have hv' : vs[off]? = some (.int k (l.getD off 0)) := by simpa using hv
      have ha : isAggA P t = some false := by simp [isAggA, hu]
      exact ⟨.int k (l.getD off 0), by simp [part, run_isAgg ha, hv'], rfl⟩
    · exact part_rel hr h
  · rename_i hu
    split at h
    · rename_i l hl
      obtain ⟨hc, h⟩ := Rd.chk_some h
      have hlt : off < l.length := of_decide_eq_true hc
      cases h
      have hls' := strs_rel hr hl
      have hv : vs.toList[off]? = some (.string (l.getD off ⟨#[]⟩)) := by rw [hls']; simp [List.getD, hlt]
      have hv' : vs[off]? = some (.string (l.getD off ⟨#[]⟩)) := by simpa using hv
      have ha : isAggA P t = some false := by simp [isAggA, hu]
      exact ⟨.string (l.getD off ⟨#[]⟩), by simp [part, run_isAgg ha, hv'], rfl⟩
    · exact part_rel hr h
  · exact part_rel hr h

theorem at_rel {t : TypeId} {cs : List AV} {vs : Array Value} {off : Nat} {av : AV} {look : Nat → ABlk} {g g' : List Nat} (hr : VRelL B c hp w cs vs.toList) (h : (atA P t cs off).runO look g = some (av, g')) :
    ∃ u, (part t vs off).run P w = .ok u w ∧ VRel B c hp w av u := by
  unfold atA at h
  split at h
  · obtain ⟨cs', h1, h2⟩ := aggAt_part hr h
    exact part_rel h1 h2
  · exact intAt_rel hr h

theorem buildEmpty_sound {T el : TypeId} {t : Ty} {parts : Array (Nat × Value)} {n : Nat} (hH : HRel B c hp w) (hel : elemA P T = some el) (hok : rowOk P el t = true) (hp0 : parts = #[]) :
    ∃ r w', (Instr.buildSlice T 0 parts).run P w = .ok r w' ∧ EffOk B c hp w n ⟨.own n, [.rows true el t []], []⟩ r w' := by
  have hT := elemA_some hel
  obtain ⟨i, zv, hi, hz, hsz, hzs, h0⟩ := rowOk_some hok
  subst hp0
  refine ⟨.slice (some ⟨w.heap.size, 0, none⟩) 0 0, w.alloc (.cells #[] el), ?_, ?_⟩
  · simp [Instr.buildSlice, run_underlying hT, sizeOf, typeInfo, hi, Instr.fill, newRow]
    congr 2
    apply Array.ext'
    simp [Array.toList_range]
  · exact effOk_rows (B := B) (c := c) (hp := hp) (w := w) hH (n := n) (fr := true) (T := el) (t := t) (l := ([] : List t.den)) (vs := #[]) (cap := 0) h0 (Nat.le_refl _) (Nat.zero_le _) (by simp) (ks := []) (fun i x h => by simp at h) (fun k h => by simp at h)

/-- An element's place. -/
theorem index_ros {T e : TypeId} {k : IntKind} {a : Int} {fr : Bool} {e' : TypeId} {t : Ty} {l : List t.den} {u : Value} (hT : P.underlying T = some (.slice e)) (hs : sizeA P e = some t.size) (hv : VRel B c hp w (.ros fr e' t l) u)
    (h0 : 0 ≤ a) (h1 : a < l.length) : ∃ p, (Instr.indexAt T u (.int k a)).run P w = .ok p w ∧ VRel B c hp w (.rop fr t (l.getD a.toNat t.dflt) 0) p := by
  obtain ⟨A, q, rfl, hq, hm⟩ := hv
  have hne : l ≠ [] := by intro e; subst e; simp at h1; omega
  obtain ⟨b, o, cs, T', fz, rfl, hb, hw, hsz, hr⟩ := hm hne
  have hlt : a.toNat < l.length := by omega
  have hget : l[a.toNat]? = some (l.getD a.toNat t.dflt) := by simp [List.getD, hlt]
  refine ⟨.pointer (some ⟨b, o + a.toNat * t.size, none⟩), ?_, ⟨b, o + a.toNat * t.size, cs, T', fz, hb, by simp, hw, ?_, hr _ _ hget⟩⟩
  · have he : P.elem T = e := by simp [Program.elem, hT]
    rw [run_indexAt_slice w T _ _ _ _ _ (by rw [he]; exact hT), if_pos ⟨h0, h1⟩, he, run_sizeOf hs]
    simp [addr_add]
  · have : (a.toNat + 1) * t.size ≤ l.length * t.size := Nat.mul_le_mul_right _ hlt
    rw [Nat.add_mul, Nat.one_mul] at this
    omega

theorem index_own {T e : TypeId} {k : IntKind} {a : Int} {id : Nat} {fr : Bool} {e' : TypeId} {t : Ty} {l : List t.den} {u : Value} (hH : HRel B c hp w) (hl : lookIn hp id = .rows fr e' t l) (hT : P.underlying T = some (.slice e)) (hs : sizeA P e = some t.size)
    (hv : VRel B c hp w (.own id) u) (h0 : 0 ≤ a) (h1 : a < l.length) : ∃ p, (Instr.indexAt T u (.int k a)).run P w = .ok p w ∧ VRel B c hp w (.rptr id a.toNat 0) p := by
  obtain ⟨hD, hv⟩ := hv
  have hb := hH.blk id
  rw [hl] at hb
  obtain ⟨_, hb⟩ := hb
  unfold OwnV at hv
  cases hσ : c.σ id with
  | none =>
    rw [hσ] at hb
    simp only at hb
    subst hb
    simp at h1; omega
  | some b =>
    rw [hσ] at hv
    obtain ⟨n, cap, rfl, hr⟩ := hv
    obtain ⟨rfl, _⟩ := hr _ _ _ _ hl
    refine ⟨.pointer (some ⟨b, a.toNat * t.size, none⟩), ?_, hD, b, a.toNat * t.size, hσ, rfl, fun fr' T' t' l' hl' => ?_⟩
    · have he : P.elem T = e := by simp [Program.elem, hT]
      rw [run_indexAt_slice w T _ _ _ _ _ (by rw [he]; exact hT), if_pos ⟨h0, h1⟩, he, run_sizeOf hs]
      simp [addr_add]
    · rw [hl] at hl'; cases hl'; rfl

theorem index_sub {T e : TypeId} {k : IntKind} {a : Int} {id off n : Nat} {fr : Bool} {e' : TypeId} {t : Ty} {l : List t.den} {u : Value} (hH : HRel B c hp w) (hl : lookIn hp id = .rows fr e' t l) (hT : P.underlying T = some (.slice e)) (hs : sizeA P e = some t.size)
    (hv : VRel B c hp w (.osl id off n) u) (h0 : 0 ≤ a) (h1 : a < n) : ∃ p, (Instr.indexAt T u (.int k a)).run P w = .ok p w ∧ VRel B c hp w (.rptr id (off + a.toNat) 0) p := by
  obtain ⟨hD, hv⟩ := hv
  unfold SubV at hv
  cases hσ : c.σ id with
  | none =>
    rw [hσ] at hv
    obtain ⟨rfl, rfl, rfl⟩ := hv
    simp at h1; omega
  | some b =>
    rw [hσ] at hv
    obtain ⟨A, q, rfl, hr⟩ := hv
    obtain ⟨cap, cur, r1, r2, r3, r4, r5, r6, r7⟩ := hr _ _ _ _ hl
    have hA := r5 (.inl (by omega))
    subst hA
    refine ⟨.pointer (some ⟨b, off * t.size + a.toNat * t.size, none⟩), ?_, hD, b, _, hσ, rfl, fun fr' T' t' l' hl' => ?_⟩
    · have he : P.elem T = e := by simp [Program.elem, hT]
      rw [run_indexAt_slice w T _ _ _ _ _ (by rw [he]; exact hT), if_pos ⟨h0, h1⟩, he, run_sizeOf hs]
      simp [addr_add]
    · rw [hl] at hl'; cases hl'; rw [← Nat.add_mul]; rfl

theorem fillL_length {α : Type} {l : List α} {off n : Nat} {z : α} (h : off + n ≤ l.length) : (fillL l off n z).length = l.length := by simp [fillL]; omega
theorem zeroCells_list (z : Array Value) (n : Nat) (h0 : 0 < z.size) : (Builtin.zeroCells z n).toList = (List.replicate n z.toList).flatten := by
  rw [← zeros_list z z.size rfl h0 n]
  simp [Builtin.zeroCells, madeCells]

theorem clear_sound {E : Env} {T ty : TypeId} {x : AV} {u : Value} {n : Nat} {e : Eff} {g g' : List Nat} (hH : HRel B c hp w) (hx : VRel B c hp w x u)
    (h : (clearA E P x T).runO (lookIn hp) g = some (e, g')) : ∃ r w', (Builtin.clear_ #[T] ty #[u]).run P w = .ok r w' ∧ EffOk B c hp w n e r w' := by
  unfold clearA at h
  split at h
  · rename_i id off k el hel
    have hT := elemA_some hel
    split at h
    · rename_i z t hz0 ht
      obtain ⟨hok, h⟩ := Rd.cond_some h
      obtain ⟨i, zv, hi, hz, hsz, hzs, h0⟩ := rowOk_some hok
      obtain ⟨p, g1, hp1, h⟩ := Rd.bind_some h
      obtain ⟨hpf, h⟩ := Rd.cond_some h
      simp only [Bool.and_eq_true, List.isEmpty_iff] at hpf
      simp only [Rd.runO] at h
      split at h
      case h_2 => cases h
      rename_i fr e' t' l hl
      obtain ⟨he, h⟩ := Rd.cond_some h
      have he' := of_decide_eq_true he
      obtain ⟨l0, g2, h4, h5⟩ := Rd.bind_some h
      clear h
      obtain ⟨h6, _⟩ := Rd.ofO_some h4
      obtain ⟨e5, h7⟩ := castL_some h6
      subst e5
      cases h7
      subst he'
      cases h5
      obtain ⟨i', zv', hi', hz', rfl⟩ := zeroA_some hz0
      rw [hi] at hi'; cases hi'
      rw [hz] at hz'; cases hz'
      obtain ⟨v1, v2, e1, hv2, hcr, hown⟩ := decC_sound hH t' (VRelL.scs zv.cells.toList) hp1
      have hl1 := CRel.length _ _ _ hcr
      have hv2n : v2 = [] := by
        have := congrArg List.length e1
        simp only [List.length_append, Array.length_toList] at this
        apply List.eq_nil_of_length_eq_zero
        omega
      subst hv2n
      rw [List.append_nil] at e1
      rw [hpf.1, hpf.2] at hcr
      have hlive : lookIn hp id ≠ .dead := by rw [hl]; simp
      have hsl := sub_len hH hx hl
      obtain ⟨hD, hv⟩ := hx
      have hlen := fillL_length (z := p.x.1) hsl.1
      have look : ∀ hp', Upd c hp n ⟨.tup [], [], [(id, .rows fr e' t' (fillL l off k p.x.1))]⟩ hp' → ∀ j, lookIn hp' j = if j = id then .rows fr e' t' (fillL l off k p.x.1) else lookIn hp j := by
        intro hp' hu j
        have := hu.look j
        simp only [List.lookup_cons, List.lookup_nil, List.length_nil, Nat.add_zero] at this
        rw [this]
        have hidl : id < hp'.length := Nat.lt_of_lt_of_le (lookIn_live hlive) hu.len
        by_cases e : j = id
        · subst e; simp [hidl]
        · have hf : (j == id) = false := by simpa using e
          simp only [hf, if_neg e]
          rw [if_neg (by omega)]
      have hzv : (zeroValue e').run P w = .ok zv w := by simp [zeroValue, typeInfo, hi, hz]
      -- nothing to be cleared
      have none' : k = 0 → ∃ r w', (Builtin.clear_ #[T] ty #[u]).run P w = .ok r w' ∧ EffOk B c hp w n ⟨.tup [], [], [(id, .rows fr e' t' (fillL l off k p.x.1))]⟩ r w' := by
        intro hk0
        subst hk0
        obtain ⟨A, q, rfl, _⟩ := hsl.2.2
        have hrun : (Builtin.clear_ #[T] ty #[.slice A 0 q]).run P w = .ok (.tuple #[]) w := by
          cases A <;> simp [Builtin.clear_, run_underlying hT]
        refine ⟨_, w, hrun, ?_⟩
        intro hp' hu
        have hlk := look hp' hu
        have hsame : fillL l off 0 p.x.1 = l := by simp [fillL]
        have hlk' : ∀ j, lookIn hp' j = lookIn hp j := fun j => by
          rw [hlk, hsame]; split
          · rename_i e; rw [e, hl]
          · rfl
        have he : Evo All c hp w c hp' w := evo_look hlk'
        exact ⟨c, hrel_look hH hu.len hlk', he, ⟨#[], rfl, trivial⟩, fun _ h => .inl h⟩
      by_cases hk0 : k = 0
      · exact none' hk0
      unfold SubV at hv
      cases hs : c.σ id with
      | none =>
        rw [hs] at hv
        exact absurd hv.2.1 hk0
      | some b =>
        rw [hs] at hv
        obtain ⟨a, q, rfl, hr⟩ := hv
        obtain ⟨cap, cur, r1, r2, r3, r4, r5, r6, r7⟩ := hr _ _ _ _ hl
        have ha := r5 (.inl (by omega))
        subst ha
        have hb := hH.blk id
        rw [hl] at hb
        obtain ⟨_, hb⟩ := hb
        rw [hs] at hb
        obtain ⟨cap', cur', q1, q2, q3, q4, q5⟩ := hb
        rw [r6] at q1; cases q1
        have hzl : (Builtin.zeroCells zv.cells k).toList = (List.replicate k zv.cells.toList).flatten := zeroCells_list _ _ (by omega)
        have hzn : (Builtin.zeroCells zv.cells k).toList.length = k * t'.size := by simp [Builtin.zeroCells, hzs]
        have hzr : ∀ j, j < k → ((Builtin.zeroCells zv.cells k).toList.drop (j * t'.size)).take t'.size = zv.cells.toList := by
          intro j hj
          have := madeCells_row zv.cells t'.size k hzs h0 j hj
          rw [zeros_list _ _ hzs h0] at this
          rw [hzl]; exact this
        have hfit : (off + k) * t'.size ≤ cur.size := by rw [r7]; exact Nat.mul_le_mul_right _ (by omega)
        rw [Nat.add_mul] at hfit
        have h1c : ∀ v ∈ (Builtin.zeroCells zv.cells k).toList, v.oneCell' = true := by
          intro v hv
          rw [hzl] at hv
          obtain ⟨L, hL, hvL⟩ := List.mem_flatten.1 hv
          rw [List.mem_replicate] at hL
          rw [hL.2, e1] at hvL
          exact CRel.one t' _ _ hcr v hvL
        have hst := run_storeCells_at P b (off * t'.size) e' (Builtin.zeroCells zv.cells k).toList 0 cur w r6 (by rw [hzn]; omega) h1c
        simp only [Nat.add_zero] at hst
        have hrun : (Builtin.clear_ #[T] ty #[.slice (some ⟨b, off * t'.size, none⟩) k q]).run P w = .ok (.tuple #[]) (w.setRow b (cur.toList.take (off * t'.size) ++ (Builtin.zeroCells zv.cells k).toList ++ cur.toList.drop (off * t'.size + (Builtin.zeroCells zv.cells k).toList.length)).toArray) := by
          cases k with
          | zero => exact absurd rfl hk0
          | succ k => simp [Builtin.clear_, run_underlying hT, hzv, hst]
        refine ⟨_, _, hrun, ?_⟩
        generalize hnews : (Builtin.zeroCells zv.cells k).toList = news at hzn hzr hrun
        have hsr := setRow_os w b (cur.toList.take (off * t'.size) ++ news ++ cur.toList.drop (off * t'.size + news.length)).toArray
        have hcl : cur.toList.length = cur.size := Array.length_toList
        have hsize : (cur.toList.take (off * t'.size) ++ news ++ cur.toList.drop (off * t'.size + news.length)).toArray.size = cur.size := by simp; omega
        intro hp' hu
        have hlk := look hp' hu
        obtain ⟨k1, k2⟩ := hrel_upd (w' := w.setRow b _) (hp' := hp') hH hlive hs (blk := .rows fr e' t' (fillL l off k p.x.1)) hu.len (by rw [hl]; exact ⟨rfl, rfl, hlen.symm⟩) (by simp) hlk
          (fun j hj => setRow_other w b j _ hj) hsr.2.2.2 (fun vs' T' fz' hw' => by
            rw [r6] at hw'; cases hw'
            exact ⟨_, setRow_heap w b cur _ e' _ r6, hsize⟩) hsr.1 hsr.2.1 hsr.2.2.1
          (fun he => by
            refine ⟨h0, ?_⟩
            rw [hs]
            refine ⟨cap', _, setRow_heap w b cur _ e' _ r6, by rw [hlen]; exact q2, q3, by rw [hsize]; exact q4, fun j x hj => ?_⟩
            simp only [List.toList_toArray]
            refine CRel.mono (w := w) (ok := okF B c fr) (fun bb hbb => setRow_other w b bb _ fun e => (hH.nf id b hlive hs).1 (e ▸ hbb.1)) (fun _ h => h) t' x _ ?_
            unfold fillL at hj
            by_cases hj1 : j < off
            · have hj' : l[j]? = some x := by
                rw [List.append_assoc, List.getElem?_append_left (by simp; omega), List.getElem?_take, if_pos hj1] at hj; exact hj
              have h3 : (j + 1) * t'.size ≤ off * t'.size := Nat.mul_le_mul_right _ hj1
              rw [Nat.add_mul, Nat.one_mul] at h3
              rw [List.append_assoc, List.drop_append_of_le_length (by simp; omega), List.take_append_of_le_length (by simp; omega), List.drop_take, List.take_take, Nat.min_eq_left (by omega)]
              exact q5 j x hj'
            · by_cases hj2 : j < off + k
              · have hj' : p.x.1 = x := by
                  rw [List.getElem?_append_left (by simp; omega), List.getElem?_append_right (by simp; omega), List.getElem?_replicate] at hj
                  split at hj
                  · exact Option.some.inj hj
                  · cases hj
                subst hj'
                have h3 : (j - off + 1) * t'.size ≤ k * t'.size := Nat.mul_le_mul_right _ (by omega)
                rw [Nat.add_mul, Nat.one_mul] at h3
                have h4 : j * t'.size = off * t'.size + (j - off) * t'.size := by rw [← Nat.add_mul]; congr 1; omega
                have hxl : (cur.toList.take (off * t'.size)).length = off * t'.size := by simp; omega
                rw [h4, List.append_assoc, List.drop_append, List.drop_eq_nil_of_le (by omega), List.nil_append, hxl, Nat.add_sub_cancel_left,
                  List.drop_append_of_le_length (by omega), List.take_append_of_le_length (by simp; omega), hzr _ (by omega), e1]
                exact hcr.weaken (fun bb hbb => by
                  rcases hbb with hbb | ⟨_, hk, _⟩
                  · exact hbb.weaken (fun _ => rfl)
                  · cases hk) _ _ _
              · have hj' : l[j]? = some x := by
                  rw [List.getElem?_append_right (by simp; omega), List.getElem?_drop] at hj
                  rw [← hj]; congr 1; simp; omega
                have h1 : (off + k) * t'.size ≤ j * t'.size := Nat.mul_le_mul_right _ (by omega)
                rw [Nat.add_mul] at h1
                have h3 : (cur.toList.take (off * t'.size) ++ news ++ cur.toList.drop (off * t'.size + news.length)).drop (j * t'.size) = cur.toList.drop (j * t'.size) := by
                  rw [List.drop_append, List.drop_eq_nil_of_le (by simp; omega), List.nil_append, List.drop_drop]
                  congr 1
                  simp only [List.length_append, List.length_take]; omega
                rw [h3]
                exact q5 j x hj')
        exact ⟨c, k1, k2, ⟨#[], rfl, trivial⟩, fun _ h => .inl h⟩
    · cases h
  · cases h

theorem index_arr {T e : TypeId} {len size : Nat} {k : IntKind} {a : Int} {b off : Nat} (hT : P.underlying T = some (.array len e)) (hs : sizeA P e = some size) (h0 : 0 ≤ a) (h1 : a < (len : Int)) :
    (Instr.indexAt T (.pointer (some ⟨b, off, none⟩)) (.int k a)).run P w = .ok (.pointer (some ⟨b, off + a.toNat * size, none⟩)) w := by
  have he : P.elem T = e := by simp [Program.elem, hT]
  have hn : P.arrayLen T = len := by simp [Program.arrayLen, hT]
  rw [run_indexAt_array w T _ _ _ (by rw [he, hn]; exact hT), if_pos ⟨h0, by rw [hn]; exact h1⟩, he, run_sizeOf hs]
  simp [addr_add]

/-! ### maps of texts to integers -/
theorem sq_iff0 (a b : ByteArray) : seq a b = true ↔ a = b := by
  constructor
  · intro h
    have h : (a.data.toList == b.data.toList) = true := h
    cases a; cases b
    congr 1
    exact Array.ext' (by simpa using h)
  · rintro rfl; exact beq_self_eq_true _
theorem beq_sq (a b : ByteArray) : (a == b) = seq a b := by
  rw [Bool.eq_iff_iff, sq_iff0]
  cases a; cases b
  rename_i x y
  show (x == y) = true ↔ _
  rw [beq_iff_eq]
  exact ⟨fun h => by rw [h], fun h => by injection h⟩
def mapE (e : MapEntry) : Value × Value := (e.key, e.val)
def mapP (p : ByteArray × Int) : Value × Value := (Value.string p.1, Value.int .i64 p.2)
theorem mapOk_some {T : TypeId} (h : mapOk P T = true) : ∃ k e i, P.underlying T = some (.map k e) ∧ P.underlying k = some .string ∧ P.info? e = some i ∧ i.zero = some (.int .i64 0) := by
  unfold mapOk at h
  split at h
  · rename_i k e hT
    split at h
    · rename_i x hk hz
      rw [Option.bind_eq_some_iff] at hz
      obtain ⟨i, h1, h2⟩ := hz
      have hx : x = 0 := by simpa using h
      subst hx
      exact ⟨k, e, i, hT, hk, h1, h2⟩
    · cases h
  · cases h
theorem findNow_rel (s : ByteArray) : ∀ (es : List MapEntry) (l : List (ByteArray × Int)) (i : Nat), es.map mapE = l.map mapP →
    (mfind l s = none ∧ Instr.findNow .string (.string s) es i = some none ∧ ∀ v, mset l s v = l ++ [(s, v)]) ∨
    ∃ j v e, mfind l s = some v ∧ Instr.findNow .string (.string s) es i = some (some (i + j, .int .i64 v)) ∧ es[j]? = some e ∧ e.key = .string s ∧ ∀ v', mset l s v' = l.set j (s, v')
  | [], [], i, _ => .inl ⟨rfl, rfl, fun _ => rfl⟩
  | e :: es, p :: l, i, h => by
    simp only [List.map_cons, List.cons.injEq] at h
    obtain ⟨h1, h2⟩ := h
    have hk : e.key = .string p.1 := congrArg Prod.fst h1
    have hv : e.val = .int .i64 p.2 := congrArg Prod.snd h1
    have hs : Instr.sameNow .string (.string s) e.key = some (seq s p.1) := by rw [hk]; show some (s == p.1) = _; rw [beq_sq]
    cases hq : seq s p.1 with
    | true =>
      have hsp := (sq_iff0 _ _).1 hq
      refine .inr ⟨0, p.2, e, by simp [mfind, hq], ?_, rfl, by rw [hk, hsp], fun v' => by simp [mset, hq]⟩
      unfold Instr.findNow
      rw [hs, hq, hv]; rfl
    | false =>
      have hf : Instr.findNow .string (.string s) (e :: es) i = Instr.findNow .string (.string s) es (i + 1) := by
        conv => lhs; unfold Instr.findNow
        rw [hs, hq]
      rcases findNow_rel s es l (i + 1) h2 with ⟨r1, r2, r3⟩ | ⟨j, v, e', r1, r2, r3, r4, r5⟩
      · exact .inl ⟨by simp [mfind, hq, r1], by rw [hf, r2], fun v => by simp [mset, hq, r3]⟩
      · refine .inr ⟨j + 1, v, e', by simp [mfind, hq, r1], by rw [hf, r2]; congr 3; omega, by simpa using r3, r4, fun v' => by simp [mset, hq, r5]⟩
  | [], _ :: _, _, h => by simp at h
  | _ :: _, [], _, h => by simp at h
theorem check_str {k : TypeId} (hk : P.underlying k = some .string) (b : Bool) (s : ByteArray) : (Instr.checkKey b 10000 k (.string s)).run P w = .ok () w := by
  show (Instr.checkKey b (9999 + 1) k (.string s)).run P w = _
  rw [Instr.checkKey]
  simp [run_underlying hk]
theorem findKey_run {k : TypeId} (hk : P.underlying k = some .string) {s : ByteArray} {es : List MapEntry} {r : Option (Nat × Value)} (h : Instr.findNow .string (.string s) es 0 = some r) : (Instr.findKey k (.string s) es).run P w = .ok r w := by
  simp [Instr.findKey, run_underlying hk, h]
theorem map_at (hH : HRel B c hp w) {id : Nat} {l : List (ByteArray × Int)} {u : Value} (hl : lookIn hp id = .smap l) (hv : VRel B c hp w (.mp id) u) :
    ∃ b es clock, c.σ id = some b ∧ u = .map (some b) ∧ w.heap[b]? = some (.map es clock) ∧ es.toList.map mapE = l.map mapP := by
  have hb := hH.blk id
  rw [hl] at hb
  obtain ⟨b, es, clock, h1, h2, h3⟩ := hb
  obtain ⟨_, b', h4, h5⟩ := hv
  rw [h1] at h4
  cases h4
  exact ⟨b, es, clock, h1, h5, h2, h3⟩
theorem makeMap_sound (hH : HRel B c hp w) {n : Nat} (T : TypeId) : ∃ u w', (Instr.makeMap T none).run P w = .ok u w' ∧ EffOk B c hp w n ⟨.mp n, [.smap []], []⟩ u w' := by
  refine ⟨.map (some w.heap.size), w.alloc (.map #[] 0), by simp [Instr.makeMap], ?_⟩
  refine effOk_new (ks := []) hH (by simp) (s := some w.heap.size) (alloc_keep w _) (by simp) rfl rfl ⟨rfl, Nat.le_refl _⟩ (by intro b hb; cases hb; simp) ?_ ?_
  · intro c' hp' hcs _
    exact ⟨w.heap.size, #[], 0, hcs, alloc_new w _, rfl⟩
  · intro c' hp' hcs hD _
    exact ⟨hD, w.heap.size, hcs, rfl⟩
theorem lookup_sound (hH : HRel B c hp w) {T : TypeId} {id : Nat} {l : List (ByteArray × Int)} {u : Value} {s : ByteArray} (hok : mapOk P T = true) (hl : lookIn hp id = .smap l) (hv : VRel B c hp w (.mp id) u) :
    (Instr.lookup T u (.string s) false).run P w = .ok (.int .i64 ((mfind l s).getD 0)) w := by
  obtain ⟨k, e, i, hT, hk, hi, hz⟩ := mapOk_some hok
  obtain ⟨b, es, clock, h1, rfl, h3, h4⟩ := map_at hH hl hv
  have hzv : (zeroValue e).run P w = .ok (.int .i64 0) w := by simp [zeroValue, typeInfo, hi, hz]
  rcases findNow_rel s es.toList l 0 h4 with ⟨r1, r2, _⟩ | ⟨j, v, e', r1, r2, _, _, _⟩
  · simp [Instr.lookup, run_underlying hT, MapKept.run_getObj_map h3, check_str hk, findKey_run hk r2, hzv, r1]
  · simp [Instr.lookup, run_underlying hT, MapKept.run_getObj_map h3, check_str hk, findKey_run hk r2, r1]
theorem maplen_sound (hH : HRel B c hp w) {T k e : TypeId} {id : Nat} {l : List (ByteArray × Int)} {u : Value} (hT : P.underlying T = some (.map k e)) (hl : lookIn hp id = .smap l) (hv : VRel B c hp w (.mp id) u) (ty : TypeId) :
    (Builtin.len_ #[T] ty #[u]).run P w = .ok (.int .i64 l.length) w := by
  obtain ⟨b, es, clock, h1, rfl, h3, h4⟩ := map_at hH hl hv
  have hlen : es.size = l.length := by have := congrArg List.length h4; simpa using this
  simp [Builtin.len_, run_underlying hT, MapKept.run_getObj_map h3, goInt, hlen]
theorem same_str (s : ByteArray) (a : Value) (h : a = .string s) : (Instr.keyThatStays a (.string s)).run P w = .ok (.string s) w := by
  subst h
  have : Instr.sameBits 10000 (.string s) (.string s) = true := by
    show Instr.sameBits (9999 + 1) (.string s) (.string s) = true
    rw [Instr.sameBits]
    rw [beq_sq]
    exact beq_self_eq_true _
  simp [Instr.keyThatStays, this]
theorem update_sound (hH : HRel B c hp w) {T : TypeId} {id : Nat} {l : List (ByteArray × Int)} {u : Value} {s : ByteArray} {x : Int} {n : Nat} (hok : mapOk P T = true) (hl : lookIn hp id = .smap l) (hv : VRel B c hp w (.mp id) u) (r : Value) :
    ∃ w', (Instr.mapUpdate T u (.string s) (.int .i64 x)).run P w = .ok () w' ∧ EffOk B c hp w n ⟨.any, [], [(id, .smap (mset l s x))]⟩ r w' := by
  obtain ⟨k, e, i, hT, hk, hi, hz⟩ := mapOk_some hok
  obtain ⟨b, es, clock, h1, rfl, h3, h4⟩ := map_at hH hl hv
  have hlive : lookIn hp id ≠ .dead := by rw [hl]; simp
  have hnf := hH.nf id b hlive h1
  have key : ∀ (es' : Array MapEntry) (clock' : Nat), es'.toList.map mapE = (mset l s x).map mapP → EffOk B c hp w n ⟨.any, [], [(id, .smap (mset l s x))]⟩ r { w with heap := w.heap.setIfInBounds b (.map es' clock') } := by
    intro es' clock' hrep hp' hu
    have hlk : ∀ j, lookIn hp' j = if j = id then .smap (mset l s x) else lookIn hp j := by
      intro j
      have := hu.look j
      simp only [List.lookup_cons, List.lookup_nil, List.length_nil, Nat.add_zero] at this
      rw [this]
      have hidl : id < hp'.length := Nat.lt_of_lt_of_le (lookIn_live hlive) hu.len
      by_cases e : j = id
      · subst e; simp [hidl]
      · have hf : (j == id) = false := by simpa using e
        simp only [hf, if_neg e]
        rw [if_neg (by omega)]
    obtain ⟨k1, k2⟩ := hrel_upd (w' := { w with heap := w.heap.setIfInBounds b (.map es' clock') }) (hp' := hp') hH hlive h1 (blk := .smap (mset l s x)) hu.len (by rw [hl]; trivial) (by simp) hlk
      (fun j hj => by show (w.heap.setIfInBounds b _)[j]? = _; rw [Array.getElem?_setIfInBounds, if_neg (Ne.symm hj)]) (by simp) (fun vs T fz hw => by rw [h3] at hw; cases hw) rfl rfl ⟨rfl, Nat.le_refl _⟩
      (fun _ => ⟨b, es', clock', h1, by show (w.heap.setIfInBounds b _)[b]? = _; rw [Array.getElem?_setIfInBounds, if_pos rfl, if_pos hnf.2.1], hrep⟩)
    exact ⟨c, k1, k2, trivial, fun _ h => .inl h⟩
  rcases findNow_rel s es.toList l 0 h4 with ⟨_, r2, r3⟩ | ⟨j, v, e', _, r2, r4, r5, r6⟩
  · refine ⟨_, by simp [Instr.mapUpdate, run_underlying hT, MapKept.run_getObj_map h3, check_str hk, findKey_run hk r2, MapKept.run_setObj_map _ h3]; rfl, key _ _ ?_⟩
    rw [r3, Array.toList_push, List.map_append, List.map_append, h4]; rfl
  · have r4' : es[j]? = some e' := by simpa using r4
    refine ⟨_, by simp [Instr.mapUpdate, run_underlying hT, MapKept.run_getObj_map h3, check_str hk, findKey_run hk r2, r4', same_str _ _ r5, MapKept.run_setObj_map _ h3]; rfl, key _ _ ?_⟩
    rw [r6, List.map_set, ← h4]
    apply List.ext_getElem?
    intro q
    rw [List.getElem?_map, Array.getElem?_toList, Array.getElem?_modify, List.getElem?_set, List.getElem?_map, Array.getElem?_toList]
    by_cases hq : j = q
    · subst hq
      have hlt : j < es.size := (Array.getElem?_eq_some_iff.1 r4').1
      rw [if_pos rfl, if_pos rfl, r4', if_pos (by simpa using hlt)]; rfl
    · rw [if_neg hq, if_neg hq]
end
end Go.Proofs.YtbjanflhagkhlaaDoor.Sk
