/- SK, part 5: data and cells. -/
import Derived.Test.YtbjanflhagkhlaaDoorSkOps
set_option linter.unusedVariables false
set_option linter.unusedSimpArgs false
namespace Go.Proofs.YtbjanflhagkhlaaDoor.Sk
open Go Go.RowKit

section
variable {B : Nat → Prop} {c : Cx} {hp : List ABlk} {w : World}

theorem range_map_getD (k : IntKind) : ∀ (l : List Int), (List.range l.length).map (fun i => AV.sc (.int k (List.getD l i 0))) = l.map fun x => .sc (.int k x) := by
  intro l
  apply List.ext_getElem
  · simp
  · intro i h1 h2
    simp at h1
    simp [List.getD, h1]

/-- Data written as cells. -/
theorem encC_rel (fr : Bool) : ∀ (t : Ty) (x : t.den) (vs : List Value), CRel w (okF B c fr) t x vs → VRelL B c hp w (encC fr t x) vs
  | .int k, x, vs, h => by simp only [CRel] at h; subst h; simp [encC, VRelL, VRel]
  | .bool, x, vs, h => by simp only [CRel] at h; subst h; simp [encC, VRelL, VRel]
  | .str, x, vs, h => by simp only [CRel] at h; subst h; simp [encC, VRelL, VRel]
  | .flt, x, vs, h => by simp only [CRel] at h; subst h; simp [encC, VRelL, VRel]
  | .unit, x, vs, h => by simp only [CRel] at h; subst h; simp [encC, VRelL]
  | .pair a b, x, vs, h => by
    obtain ⟨v1, v2, e, h1, h2⟩ := h
    subst e
    exact (encC_rel fr a x.1 v1 h1).append (encC_rel fr b x.2 v2 h2)
  | .vec n k, l, vs, h => by
    obtain ⟨h1, h2⟩ := h
    rw [h2]
    show VRelL B c hp w ((List.range n).map fun i => AV.sc (.int k (List.getD l i 0))) _
    rw [← h1, range_map_getD]
    have := VRelL.scs (B := B) (c := c) (hp := hp) (w := w) (l.map (Value.int k))
    rwa [List.map_map] at this
  | .sl e t, l, vs, h => by
    obtain ⟨v, e', hr⟩ := h
    subst e'
    exact ⟨hr, trivial⟩

/-- In which memory what was read lies. -/
def okD (B : Nat → Prop) (c : Cx) (fr : Bool) (own : List Nat) (b : Nat) : Prop := okF B c fr b ∨ ∃ id, id ∈ own ∧ c.σ id = some b

theorem okF.weaken {b : Nat} {fr fr' : Bool} (h : okF B c fr b) (hf : fr' = true → fr = true) : okF B c fr' b := ⟨h.1, fun h' => h.2 (hf h')⟩
theorem okD.weaken {b : Nat} {fr fr' : Bool} {o o' : List Nat} (h : okD B c fr o b) (hf : fr' = true → fr = true) (ho : ∀ id, id ∈ o → id ∈ o') : okD B c fr' o' b := by
  rcases h with h | ⟨id, h1, h2⟩
  · exact .inl (h.weaken hf)
  · exact .inr ⟨id, ho id h1, h2⟩

theorem castL_some {t u : Ty} {l : List t.den} {m : List u.den} (h : castL t u l = some m) : ∃ e : t = u, e ▸ l = m := by
  unfold castL at h
  split at h
  · rename_i e; exact ⟨e, by simpa using h⟩
  · cases h

theorem CRel.weaken {ok ok' : Nat → Prop} (ho : ∀ b, ok b → ok' b) (t : Ty) (x : t.den) (vs : List Value) (h : CRel w ok t x vs) : CRel w ok' t x vs :=
  CRel.mono (fun _ _ => rfl) ho t x vs h

/-- An own slice, as a row that is read. -/
theorem own_row {id : Nat} {fr : Bool} {T : TypeId} {t : Ty} {l : List t.den} {u : Value} (hH : HRel B c hp w) (hv : OwnV c hp w id u) (hl : lookIn hp id = .rows fr T t l) :
    Row w (okD B c fr [id]) (CRel w (okF B c fr) t) t.size l u := by
  have hb := hH.blk id
  rw [hl] at hb
  obtain ⟨_, hb⟩ := hb
  unfold OwnV at hv
  cases hs : c.σ id with
  | none =>
    rw [hs] at hv hb
    simp only at hb hv
    subst hb; subst hv
    exact ⟨none, 0, rfl, Nat.le_refl _, fun h => absurd rfl h⟩
  | some b =>
    rw [hs] at hv hb
    simp only at hb hv
    obtain ⟨n, cap, hu, hr⟩ := hv
    obtain ⟨r1, r2, r3, cur, r4, r5⟩ := hr _ _ _ _ hl
    obtain ⟨cap', cur', q1, q2, q3, q4, q5⟩ := hb
    rw [r4] at q1; cases q1
    subst r1
    refine ⟨_, cap, hu, r2, fun hne => ⟨b, 0, cur, T, (0, 0), rfl, .inr ⟨id, by simp, hs⟩, r4, ?_, fun i x hx => ?_⟩⟩
    · rw [r5, Nat.zero_add]; exact Nat.mul_le_mul_right _ r2
    · rw [Nat.zero_add]
      exact q5 i x hx

theorem sub_row {id off n : Nat} {fr : Bool} {T : TypeId} {t : Ty} {l : List t.den} {u : Value} (hH : HRel B c hp w) (hv : SubV c hp w id off n u) (hl : lookIn hp id = .rows fr T t l) :
    Row w (okD B c fr [id]) (CRel w (okF B c fr) t) t.size ((l.drop off).take n) u := by
  have hb := hH.blk id
  rw [hl] at hb
  obtain ⟨h0, hb⟩ := hb
  unfold SubV at hv
  cases hs : c.σ id with
  | none =>
    rw [hs] at hv hb
    simp only at hb hv
    obtain ⟨rfl, rfl, rfl⟩ := hv
    rw [List.take_zero]
    exact ⟨none, 0, rfl, Nat.le_refl _, fun h => absurd rfl h⟩
  | some b =>
    rw [hs] at hv hb
    simp only at hb hv
    obtain ⟨a, q, hu, hr⟩ := hv
    obtain ⟨cap, cur, r1, r2, r3, r4, r5, r6, r7⟩ := hr _ _ _ _ hl
    obtain ⟨cap', cur', q1, q2, q3, q4, q5⟩ := hb
    rw [r6] at q1; cases q1
    have hlen : ((l.drop off).take n).length = n := by simp; omega
    refine ⟨some a, q, by rw [hlen]; exact hu, by rw [hlen]; omega, fun hne => ?_⟩
    have hn0 : 0 < n := by
      rcases Nat.eq_zero_or_pos n with h | h
      · subst h; simp at hne
      · exact h
    refine ⟨b, off * t.size, cur, T, (0, 0), by rw [r5 (.inl (by omega))], .inr ⟨id, by simp, hs⟩, r6, ?_, fun i x hx => ?_⟩
    · rw [hlen, r7, ← Nat.add_mul]; exact Nat.mul_le_mul_right _ (by omega)
    · have hx' : l[off + i]? = some x := by
        rw [List.getElem?_take] at hx
        split at hx
        · rwa [List.getElem?_drop] at hx
        · cases hx
      have := q5 (off + i) x hx'
      rw [Nat.add_mul] at this
      exact this

theorem decS_sound {e : TypeId} {t : Ty} {a : AV} {u : Value} {g : List Nat} {d : Dec (List t.den)} {g' : List Nat} (hH : HRel B c hp w) (hv : VRel B c hp w a u)
    (h : (decS e t a).runO (lookIn hp) g = some (d, g')) : Row w (okD B c d.fr d.own) (CRel w (okF B c d.fr) t) t.size d.x u ∧ (∀ id, id ∈ d.own → (a = .own id ∨ ∃ off n, a = .osl id off n) ∧ ∃ fr l, lookIn hp id = .rows fr e t l) := by
  cases a with
  | ros fr e' t' l =>
    obtain ⟨_, h⟩ := Rd.cond_some h
    obtain ⟨h, _⟩ := Rd.ofO_some h
    simp only [Option.map_eq_some_iff] at h
    obtain ⟨m, hm, hd⟩ := h
    obtain ⟨rfl, hm⟩ := castL_some hm
    cases hm; subst hd
    exact ⟨Row.mono hv (fun _ _ => rfl) (fun b hb => .inl hb) fun x cs hc => hc, fun id hid => by simp at hid⟩
  | own id =>
    simp only [decS, Rd.runO] at h
    split at h
    · rename_i fr e' t' l hl
      obtain ⟨he, h2⟩ := Rd.cond_some h
      clear h
      have he' := of_decide_eq_true he
      clear he
      subst he'
      obtain ⟨h3, _⟩ := Rd.ofO_some h2
      simp only [Option.map_eq_some_iff] at h3
      obtain ⟨m, hm, hd⟩ := h3
      obtain ⟨rfl, hm⟩ := castL_some hm
      cases hm; subst hd
      exact ⟨own_row hH hv.2 hl, fun id' hid => by simp at hid; subst hid; exact ⟨.inl rfl, fr, l, hl⟩⟩
    · cases h
  | osl id off n =>
    simp only [decS, Rd.runO] at h
    split at h
    · rename_i fr e' t' l hl
      obtain ⟨he, h2⟩ := Rd.cond_some h
      clear h
      have he' := of_decide_eq_true he
      clear he
      subst he'
      obtain ⟨h3, _⟩ := Rd.ofO_some h2
      simp only [Option.map_eq_some_iff] at h3
      obtain ⟨m, hm, hd⟩ := h3
      obtain ⟨rfl, hm⟩ := castL_some hm
      cases hm; subst hd
      exact ⟨sub_row hH hv.2 hl, fun id' hid => by simp at hid; subst hid; exact ⟨.inr ⟨off, n, rfl⟩, fr, l, hl⟩⟩
    · cases h
  | sc v =>
    simp only [decS] at h
    split at h
    all_goals first
      | (cases h; fail)
      | skip
    · rename_i heq; cases heq
    · rename_i heq; cases heq
    · rename_i heq; cases heq
    · rename_i heq; cases heq
    · rename_i heq
      cases heq
      cases h
      have : u = .slice none 0 0 := hv
      subst this
      exact ⟨⟨none, 0, rfl, Nat.le_refl _, fun h => absurd rfl h⟩, fun id hid => by simp at hid⟩
    · cases h
  | lit e' t' l =>
    obtain ⟨he, h2⟩ := Rd.cond_some h
    have he' := of_decide_eq_true he
    clear h he
    subst he'
    obtain ⟨h3, _⟩ := Rd.ofO_some h2
    simp only [Option.map_eq_some_iff] at h3
    obtain ⟨m, hm, hd⟩ := h3
    obtain ⟨rfl, hm⟩ := castL_some hm
    cases hm; subst hd
    obtain ⟨h0, b, cur, hb, hu, hw, hmx, hs, hr⟩ := hv
    exact ⟨⟨some ⟨b, 0, none⟩, l.length, hu, Nat.le_refl _, fun _ => ⟨b, 0, cur, e', (0, 0), rfl, .inl hb, hw, by show 0 + l.length * t'.size ≤ cur.size; omega, fun i x hi => by rw [Nat.zero_add]; exact hr i x hi⟩⟩, fun id hid => by simp at hid⟩
  | _ => simp only [decS] at h; cases h

theorem strs_rel : ∀ {as : List AV} {vs : List Value} {l : List ByteArray}, VRelL B c hp w as vs → strs as = some l → vs = l.map Value.string
  | [], [], l, _, h => by simp only [strs] at h; cases h; rfl
  | a :: as, v :: vs, l, hr, h => by
    unfold strs at h
    split at h
    · rename_i e; cases e
    · rename_i x r e
      cases e
      simp only [Option.map_eq_some_iff] at h
      obtain ⟨m, hm, rfl⟩ := h
      have h1 : v = .string x := hr.1
      rw [h1, strs_rel hr.2 hm]
      rfl
    · cases h
  | [], _ :: _, _, hr, _ => by simp [VRelL] at hr
  | _ :: _, [], _, hr, _ => by simp [VRelL] at hr
theorem ints_rel {k : IntKind} : ∀ {as : List AV} {vs : List Value} {l : List Int}, VRelL B c hp w as vs → ints k as = some l → vs = l.map (Value.int k)
  | [], [], l, _, h => by simp only [ints] at h; cases h; rfl
  | a :: as, v :: vs, l, hv, h => by
    unfold ints at h
    split at h
    · rename_i heq; cases heq
    · rename_i k' x r heq
      cases heq
      cases hk : decide (k' = k) with
      | false => rw [hk] at h; cases h
      | true =>
        rw [hk] at h
        simp only [cond_true, Option.map_eq_some_iff] at h
        obtain ⟨l', h1, h2⟩ := h
        subst h2
        have hk' : k' = k := of_decide_eq_true hk
        subst hk'
        have h0 : v = .int k' x := hv.1
        rw [h0, ints_rel hv.2 h1]; rfl
    · cases h
  | [], _ :: _, _, h, _ => by simp [VRelL] at h
  | _ :: _, [], _, h, _ => by simp [VRelL] at h

theorem VRelL.split {as : List AV} {vs : List Value} (n : Nat) (h : VRelL B c hp w as vs) : vs = vs.take n ++ vs.drop n ∧ VRelL B c hp w (as.take n) (vs.take n) ∧ VRelL B c hp w (as.drop n) (vs.drop n) :=
  ⟨(List.take_append_drop n vs).symm, h.take n, h.drop n⟩

/-- Cells read as data. -/
theorem decC_sound (hH : HRel B c hp w) : ∀ (t : Ty) {as : List AV} {vs : List Value} {g : List Nat} {d : Dec (t.den × List AV)} {g' : List Nat}, VRelL B c hp w as vs →
    (decC t as).runO (lookIn hp) g = some (d, g') → ∃ v1 v2, vs = v1 ++ v2 ∧ VRelL B c hp w d.x.2 v2 ∧ CRel w (okD B c d.fr d.own) t d.x.1 v1 ∧
      (∀ id, id ∈ d.own → ∃ fr T t' l, lookIn hp id = .rows fr T t' l)
  | .int k, as, vs, g, d, g', hv, h => by
    unfold decC decInt at h
    split at h <;> try (cases h; done)
    rename_i k' x r
    cases vs with
    | nil => simp [VRelL] at hv
    | cons v vs =>
      obtain ⟨hk, h⟩ := Rd.cond_some h
      have hk' : k' = k := of_decide_eq_true hk
      subst hk'
      cases h
      have h0 : v = .int k' x := hv.1
      exact ⟨[v], vs, rfl, hv.2, by rw [h0]; rfl, fun id hid => by simp at hid⟩
  | .bool, as, vs, g, d, g', hv, h => by
    unfold decC decBool at h
    split at h <;> try (cases h; done)
    cases vs with
    | nil => simp [VRelL] at hv
    | cons v vs =>
      cases h
      have h0 := hv.1
      exact ⟨[v], vs, rfl, hv.2, by rw [show v = _ from h0]; rfl, fun id hid => by simp at hid⟩
  | .flt, as, vs, g, d, g', hv, h => by
    unfold decC decFlt at h
    split at h <;> try (cases h; done)
    cases vs with
    | nil => simp [VRelL] at hv
    | cons v vs =>
      cases h
      have h0 := hv.1
      exact ⟨[v], vs, rfl, hv.2, by rw [show v = _ from h0]; rfl, fun id hid => by simp at hid⟩
  | .str, as, vs, g, d, g', hv, h => by
    unfold decC decStr at h
    split at h <;> try (cases h; done)
    cases vs with
    | nil => simp [VRelL] at hv
    | cons v vs =>
      cases h
      have h0 := hv.1
      exact ⟨[v], vs, rfl, hv.2, by rw [show v = _ from h0]; rfl, fun id hid => by simp at hid⟩
  | .unit, as, vs, g, d, g', hv, h => by
    simp only [decC] at h
    cases h
    exact ⟨[], vs, rfl, hv, rfl, fun id hid => by simp at hid⟩
  | .pair a b, as, vs, g, d, g', hv, h => by
    simp only [decC] at h
    obtain ⟨p, g1, h1, h⟩ := Rd.bind_some h
    obtain ⟨q, g2, h2, h⟩ := Rd.bind_some h
    cases h
    obtain ⟨v1, v2, e1, r1, c1, o1⟩ := decC_sound hH a hv h1
    obtain ⟨v3, v4, e2, r2, c2, o2⟩ := decC_sound hH b r1 h2
    refine ⟨v1 ++ v3, v4, by rw [e1, e2, List.append_assoc], r2, ⟨v1, v3, rfl, c1.weaken (fun b hb => hb.weaken (by intro h; simp at h; exact h.1) (by intro id h; simp [h])) _ _ _,
      c2.weaken (fun b hb => hb.weaken (by intro h; simp at h; exact h.2) (by intro id h; simp [h])) _ _ _⟩, fun id hid => ?_⟩
    simp only [List.mem_append] at hid
    rcases hid with h | h
    · exact o1 id h
    · exact o2 id h
  | .vec n k, as, vs, g, d, g', hv, h => by
    unfold decC decVec at h
    split at h <;> try (cases h; done)
    rename_i l hl
    obtain ⟨hn, h⟩ := Rd.cond_some h
    have hn' := of_decide_eq_true hn
    cases h
    obtain ⟨e, h1, h2⟩ := hv.split n
    refine ⟨vs.take n, vs.drop n, e, h2, ⟨hn', ints_rel h1 hl⟩, fun id hid => by simp at hid⟩
  | .sl e t, as, vs, g, d, g', hv, h => by
    unfold decC decSl at h
    split at h <;> try (cases h; done)
    rename_i a r
    cases vs with
    | nil => simp [VRelL] at hv
    | cons v vs =>
      obtain ⟨l, g1, h1, h⟩ := Rd.bind_some h
      cases h
      obtain ⟨r1, o1⟩ := decS_sound hH hv.1 h1
      exact ⟨[v], vs, rfl, hv.2, ⟨v, rfl, r1.mono (fun _ _ => rfl) (fun _ h => h) fun x cs hc => hc.weaken (fun b hb => .inl hb) _ _ _⟩, fun id hid => by obtain ⟨_, fr, l', hl⟩ := o1 id hid; exact ⟨fr, _, _, l', hl⟩⟩
end

end Go.Proofs.YtbjanflhagkhlaaDoor.Sk
