/- SK, part 20: what a function answers, for its callers. -/
import Derived.Test.YtbjanflhagkhlaaDoorSkFn
set_option linter.unusedVariables false
set_option linter.unusedSimpArgs false
namespace Go.Proofs.YtbjanflhagkhlaaDoor.Sk
open Go Go.RowKit

section
variable {P : Program} {B1 : Nat → Prop} {c1 : Cx} {hp1 : List ABlk} {w1 : World} {ok : Nat → Prop}

theorem ids_inj : ∀ {ow : List (Option Nat)} {i j a : Nat}, (ids ow).Nodup → ow[i]? = some (some a) → ow[j]? = some (some a) → i = j
  | [], i, j, a, _, h, _ => by simp at h
  | o :: ow, i, j, a, hn, hi, hj => by
    have hmem : ∀ {k : Nat}, ow[k]? = some (some a) → a ∈ ids ow := fun {k} hk => List.mem_filterMap.2 ⟨some a, List.mem_of_getElem? hk, rfl⟩
    have hn2 : (ids ow).Nodup ∧ (o = some a → a ∉ ids ow) := by
      cases o with
      | none => exact ⟨hn, fun h => by cases h⟩
      | some b =>
        have : (b :: ids ow).Nodup := hn
        rw [List.nodup_cons] at this
        exact ⟨this.2, fun h => by cases h; exact this.1⟩
    cases i with
    | zero =>
      cases j with
      | zero => rfl
      | succ j =>
        simp at hi hj
        exact absurd (hmem hj) (hn2.2 hi)
    | succ i =>
      cases j with
      | zero =>
        simp at hi hj
        exact absurd (hmem hi) (hn2.2 hj)
      | succ j =>
        simp at hi hj
        rw [ids_inj hn2.1 hi hj]

theorem rt_enc (fr : Bool) (n : Nat) : ∀ (r : RT) (x : r.ty.den) (u : Value) (ow : List (Option Nat)), RTRel B1 c1 hp1 w1 ok r x u ow →
    (r.enc fr n x).2.length = ow.length ∧ ∀ (i : Nat) (oid : Option Nat), ow[i]? = some oid → ∃ e t l u, (r.enc fr n x).2[i]? = some (ABlk.rows fr e t l) ∧ OwnRel B1 c1 hp1 w1 oid e t l u
  | .val v, x, u, ow, ⟨h1, h2⟩ => by subst h1; exact ⟨rfl, fun i oid h => by simp at h⟩
  | .own e t, l, u, ow, ⟨oid, h1, h2⟩ => by
    subst h1
    refine ⟨rfl, fun i oid' h => ?_⟩
    cases i with
    | zero => simp at h; subst h; exact ⟨e, t, l, u, rfl, h2⟩
    | succ i => simp at h

theorem res_enc (fr : Bool) : ∀ (ts : List RT) (n : Nat) (x : denL (ts.map RT.ty)) (us : List Value) (ow : List (Option Nat)), ResRel B1 c1 hp1 w1 ok ts x us ow →
    (encRes fr n ts x).2.length = ow.length ∧ ∀ (i : Nat) (oid : Option Nat), ow[i]? = some oid → ∃ e t l u, (encRes fr n ts x).2[i]? = some (ABlk.rows fr e t l) ∧ OwnRel B1 c1 hp1 w1 oid e t l u
  | [], n, x, us, ow, ⟨h1, h2⟩ => by subst h2; exact ⟨rfl, fun i oid h => by simp at h⟩
  | [r], n, x, us, ow, ⟨u, h1, h2⟩ => rt_enc fr n r x u ow h2
  | r :: r' :: q, n, x, us, ow, ⟨u, us', o1, o2, h1, h2, h3, h4⟩ => by
    subst h2
    obtain ⟨k1, k2⟩ := rt_enc fr n r x.1 u o1 h3
    obtain ⟨k3, k4⟩ := res_enc fr (r' :: q) (n + (r.enc fr n x.1).2.length) x.2 us' o2 h4
    have e : (encRes fr n (r :: r' :: q) x).2 = (r.enc fr n x.1).2 ++ (encRes fr (n + (r.enc fr n x.1).2.length) (r' :: q) x.2).2 := rfl
    rw [e]
    refine ⟨by rw [List.length_append, List.length_append, k3, k1], fun i oid h => ?_⟩
    rw [List.getElem?_append] at h
    split at h
    · rename_i hlt
      obtain ⟨e', t, l, u, h5, h6⟩ := k2 i oid h
      exact ⟨e', t, l, u, by rw [List.getElem?_append_left (by omega)]; exact h5, h6⟩
    · rename_i hge
      obtain ⟨e', t, l, u, h5, h6⟩ := k4 _ oid h
      exact ⟨e', t, l, u, by rw [List.getElem?_append_right (by omega)]; rw [k1] at h5 ⊢; exact h5, h6⟩

section
variable {B : Nat → Prop} {c : Cx} {hp : List ABlk} {fr : Bool}

theorem rt_vals (hval : ∀ (v : VT) (x : v.ty.den) (u : Value), VTRel w1 ok v x u → VRel B c hp w1 (v.enc fr x) u) (n : Nat) : ∀ (r : RT) (x : r.ty.den) (u : Value) (ow : List (Option Nat)), RTRel B1 c1 hp1 w1 ok r x u ow →
    (∀ (i : Nat) (oid : Option Nat) (e : TypeId) (t : Ty) (l : List t.den) (u : Value), ow[i]? = some oid → (r.enc fr n x).2[i]? = some (ABlk.rows fr e t l) → OwnRel B1 c1 hp1 w1 oid e t l u → VRel B c hp w1 (.own (n + i)) u) → VRel B c hp w1 (r.enc fr n x).1 u
  | .val v, x, u, ow, ⟨h1, h2⟩, hown => hval v x u h2
  | .own e t, l, u, ow, ⟨oid, h1, h2⟩, hown => by
    subst h1
    exact hown 0 oid e t l u rfl rfl h2

theorem res_vals (hval : ∀ (v : VT) (x : v.ty.den) (u : Value), VTRel w1 ok v x u → VRel B c hp w1 (v.enc fr x) u) : ∀ (ts : List RT) (n : Nat) (x : denL (ts.map RT.ty)) (us : List Value) (ow : List (Option Nat)), ResRel B1 c1 hp1 w1 ok ts x us ow →
    (∀ (i : Nat) (oid : Option Nat) (e : TypeId) (t : Ty) (l : List t.den) (u : Value), ow[i]? = some oid → (encRes fr n ts x).2[i]? = some (ABlk.rows fr e t l) → OwnRel B1 c1 hp1 w1 oid e t l u → VRel B c hp w1 (.own (n + i)) u) → VRelL B c hp w1 (encRes fr n ts x).1 us
  | [], n, x, us, ow, ⟨h1, h2⟩, hown => by subst h1; trivial
  | [r], n, x, us, ow, ⟨u, h1, h2⟩, hown => by subst h1; exact ⟨rt_vals hval n r x u ow h2 hown, trivial⟩
  | r :: r' :: q, n, x, us, ow, ⟨u, us', o1, o2, h1, h2, h3, h4⟩, hown => by
    subst h1; subst h2
    obtain ⟨k1, k2⟩ := rt_enc fr n r x.1 u o1 h3
    have e : (encRes fr n (r :: r' :: q) x).2 = (r.enc fr n x.1).2 ++ (encRes fr (n + (r.enc fr n x.1).2.length) (r' :: q) x.2).2 := rfl
    refine ⟨rt_vals hval n r x.1 u o1 h3 fun i oid e' t l u' g1 g2 g3 => ?_, res_vals hval (r' :: q) (n + (r.enc fr n x.1).2.length) x.2 us' o2 h4 fun i oid e' t l u' g1 g2 g3 => ?_⟩
    · have hlt : i < o1.length := by
        rcases Nat.lt_or_ge i o1.length with h | h
        · exact h
        · rw [List.getElem?_eq_none h] at g1; cases g1
      exact hown i oid e' t l u' (by rw [List.getElem?_append_left hlt]; exact g1) (by rw [e, List.getElem?_append_left (by omega)]; exact g2) g3
    · have := hown (o1.length + i) oid e' t l u' (by rw [List.getElem?_append_right (by omega), Nat.add_sub_cancel_left]; exact g1) (by rw [e, List.getElem?_append_right (by omega)]; rw [k1] at g2 ⊢; rw [Nat.add_sub_cancel_left]; exact g2) g3
      rw [k1, Nat.add_assoc]; exact this
end
end

section
variable {P : Program}
theorem evFn_sound {E : Env} (hE : SpecsOk P E) (hI : InlOk P E) (hm : P.follows .mixedOrders = true) (d : Nat) {f : FuncId} {fn : Func} (hf : P.funcs[f]? = some fn) (ali : Bool) (arg : List VT) (res : List RT) :
    Sound P f ⟨ali, arg, res, evFn E P d fn ali arg res⟩ := by
  intro B c hp w args us p r n hH hv hd hown hfn
  obtain ⟨ha, hlive⟩ := args_dec hH arg hv hd
  have hok : ∀ b, okD B c p.1.fr p.1.own b → b < w.heap.size := by
    rintro b (hb | ⟨id, h1, h2⟩)
    · exact hH.lt b hb.1
    · exact (hH.nf id b (hlive id h1) h2).2.1
  refine (evFn_core hE hI hm hf ha hok (hH.gl.keep hH.lt fun _ _ => rfl) hfn).mono fun e w1 he => ?_
  obtain ⟨us1, c1, hp1, ow, sh, rfl, H1, V1, hres, hnd, hdis, hshl, howl⟩ := he
  refine ⟨tupV us1, rfl, fun hp' hu => ?_⟩
  have hkeep : ∀ b, b < w.heap.size → w1.heap[b]? = w.heap[b]? := fun b hb => V1.keep b hb
  have hnew : ∀ id b, lookIn hp1 id ≠ .dead → c1.σ id = some b → w.heap.size ≤ b := fun id b hl hs => by
    have := (H1.nf id b hl hs).1
    rcases Nat.lt_or_ge b w.heap.size with h | h
    · exact absurd (V1.F b h) this
    · exact h
  generalize hfr : (!ali || p.1.fr) = fr' at hu
  have he : (resEff ⟨ali, arg, res, evFn E P d fn ali arg res⟩ p.1.fr n r) = ⟨tupOf (encRes fr' n res r).1, (encRes fr' n res r).2, []⟩ := by unfold resEff; simp only [hfr]
  rw [he] at hu ⊢
  obtain ⟨hql, hqo⟩ := res_enc fr' res n r us1 ow hres
  have hlook : ∀ id, lookIn hp' id = if n ≤ id ∧ id < n + ow.length then ((encRes fr' n res r).2[id - n]?).getD .dead else lookIn hp id := by
    intro id
    have := hu.look id
    simp only [List.lookup_nil, hql] at this
    exact this
  let c' : Cx := ⟨fun id => c.D id ∨ (n ≤ id ∧ id < n + ow.length), fun id => if n ≤ id ∧ id < n + ow.length then (ow.getD (id - n) none).bind c1.σ else c.σ id,
    fun b => c.F b ∨ (w.heap.size ≤ b ∧ (c1.F b ∨ ∃ id, id ∈ sh ∧ c1.σ id = some b))⟩
  have hσo : ∀ id, ¬ (n ≤ id ∧ id < n + ow.length) → c'.σ id = c.σ id := fun id h => if_neg h
  have hσn : ∀ (i : Nat) (oid : Option Nat), ow[i]? = some oid → c'.σ (n + i) = oid.bind c1.σ := fun i oid h => by
    have hlt : i < ow.length := by
      rcases Nat.lt_or_ge i ow.length with h' | h'
      · exact h'
      · rw [List.getElem?_eq_none h'] at h; cases h
    show (if n ≤ n + i ∧ n + i < n + ow.length then (ow.getD (n + i - n) none).bind c1.σ else _) = _
    rw [if_pos ⟨by omega, by omega⟩, Nat.add_sub_cancel_left, List.getD_eq_getElem?_getD, h]; rfl
  have hDo : ∀ id, c.D id → ¬ (n ≤ id ∧ id < n + ow.length) := fun id hd ⟨h1, h2⟩ => by
    refine hu.free (id - n) (by simp only [hql]; omega) ?_
    rw [show n + (id - n) = id by omega]; exact hd
  have okmap : ∀ b, okD (freshB ali (okD B c p.1.fr p.1.own) w.heap.size) c1 true sh b → okF B c' fr' b := by
    rintro b (⟨hb1, hb2⟩ | ⟨id, h1, h2⟩)
    · rcases hb2 rfl with ⟨hal, hb⟩ | hb
      · have hno : p.1.own = [] := by simpa [hal] using hown
        rcases hb with hb | ⟨id, h1, _⟩
        · exact ⟨.inl hb.1, fun h => hb.2 (by rw [hal] at hfr; simp only [Bool.not_true, Bool.false_or] at hfr; rw [hfr]; exact h)⟩
        · rw [hno] at h1; cases h1
      · exact ⟨.inr ⟨hb, .inl hb1⟩, fun _ => hH.bs b hb⟩
    · have := hnew id b (hshl id h1) h2
      exact ⟨.inr ⟨this, .inr ⟨id, h1, h2⟩⟩, fun _ => hH.bs b this⟩
  have hE : Evo All c hp w c' hp' w1 := ⟨fun _ _ h => .inl h, fun id _ hd => hσo id (hDo id hd), fun b hb => .inl hb, fun b hb => hkeep b (hH.lt b hb), V1.size, V1.shape,
    fun id _ hd => BlkLe.of_eq (by rw [hlook, if_neg (hDo id hd)]), V1.os, V1.tape, V1.output⟩
  -- a new place
  have hpl : ∀ id, n ≤ id ∧ id < n + ow.length → ∃ oid e t l u, ow[id - n]? = some oid ∧ lookIn hp' id = .rows fr' e t l ∧ OwnRel (freshB ali (okD B c p.1.fr p.1.own) w.heap.size) c1 hp1 w1 oid e t l u ∧ c'.σ id = oid.bind c1.σ := by
    intro id hid
    have hlt : id - n < ow.length := by omega
    obtain ⟨e, t, l, u, h1, h2⟩ := hqo (id - n) _ (List.getElem?_eq_getElem hlt)
    refine ⟨_, e, t, l, u, List.getElem?_eq_getElem hlt, by rw [hlook, if_pos hid, h1]; rfl, h2, ?_⟩
    have := hσn (id - n) _ (List.getElem?_eq_getElem hlt)
    rwa [show n + (id - n) = id by omega] at this
  have hplb : ∀ id b, n ≤ id ∧ id < n + ow.length → c'.σ id = some b → ∃ j, ow[id - n]? = some (some j) ∧ c1.σ j = some b ∧ lookIn hp1 j ≠ .dead := by
    intro id b hid hs
    obtain ⟨oid, e, t, l, u, h1, h2, h3, h4⟩ := hpl id hid
    rw [h4] at hs
    cases oid with
    | none => cases hs
    | some j => exact ⟨j, h1, hs, by have := h3.2; rw [this]; simp⟩
  refine ⟨c', ⟨fun b hb => hH.bs b (Nat.le_trans V1.size hb), ?_, ?_, ?_, ?_, ?_, ?_, hH.gl.keep hE.F hE.keep⟩, hE, ?_, ?_⟩
  · rintro b (hb | ⟨_, hb | ⟨id, h1, h2⟩⟩)
    · exact Nat.lt_of_lt_of_le (hH.lt b hb) V1.size
    · exact H1.lt b hb
    · exact (H1.nf id b (hshl id h1) h2).2.1
  · rintro id (hd | hd)
    · exact Nat.lt_of_lt_of_le (hH.dl id hd) hu.len
    · have := hu.ins
      simp only [hql] at this
      omega
  · intro id hd
    by_cases h : n ≤ id ∧ id < n + ow.length
    · exact .inr h
    · rw [hlook, if_neg h] at hd; exact .inl (hH.ld id hd)
  · intro id
    by_cases h : n ≤ id ∧ id < n + ow.length
    · obtain ⟨oid, e, t, l, u, h1, h2, h3, h4⟩ := hpl id h
      rw [h2]
      cases oid with
      | none =>
        obtain ⟨q1, q2, q3⟩ := h3
        exact ⟨q3, by rw [h4]; exact q1⟩
      | some j =>
        obtain ⟨q1, q2⟩ := h3
        have hb := H1.blk j
        rw [q2] at hb
        obtain ⟨h0, hb⟩ := hb
        refine ⟨h0, ?_⟩
        rw [h4]
        show match c1.σ j with | none => l = [] | some b => _
        cases hs : c1.σ j with
        | none => rw [hs] at hb; exact hb
        | some b =>
          rw [hs] at hb
          obtain ⟨cap, cur, r1, r2, r3, r4, r5⟩ := hb
          exact ⟨cap, cur, r1, r2, r3, r4, fun i x hx => (r5 i x hx).weaken (fun b hb => okmap b (.inl hb)) _ _ _⟩
    · rw [hlook, if_neg h]
      by_cases hd : lookIn hp id = .dead
      · rw [hd]; trivial
      · exact (hH.blk id).evo hE (hσo id h) fun b hs => hkeep b (hH.nf id b hd hs).2.1
  · intro i j b h1 h2 s1 s2
    by_cases hi : n ≤ i ∧ i < n + ow.length
    · obtain ⟨i1, g1, g2, g3⟩ := hplb i b hi s1
      by_cases hj : n ≤ j ∧ j < n + ow.length
      · obtain ⟨j1, k1, k2, k3⟩ := hplb j b hj s2
        have := H1.inj i1 j1 b g3 k3 g2 k2
        subst this
        have := ids_inj hnd g1 k1
        omega
      · rw [hσo j hj] at s2
        rw [hlook, if_neg hj] at h2
        have := (hH.nf j b h2 s2).2.1
        have := hnew i1 b g3 g2
        omega
    · rw [hσo i hi] at s1
      rw [hlook, if_neg hi] at h1
      by_cases hj : n ≤ j ∧ j < n + ow.length
      · obtain ⟨j1, k1, k2, k3⟩ := hplb j b hj s2
        have := (hH.nf i b h1 s1).2.1
        have := hnew j1 b k3 k2
        omega
      · rw [hσo j hj] at s2
        rw [hlook, if_neg hj] at h2
        exact hH.inj i j b h1 h2 s1 s2
  · intro id b h1 s1
    by_cases h : n ≤ id ∧ id < n + ow.length
    · obtain ⟨j, g1, g2, g3⟩ := hplb id b h s1
      have hge := hnew j b g3 g2
      have hnf := H1.nf j b g3 g2
      refine ⟨?_, hnf.2.1, hH.bs b hge⟩
      rintro (hb | ⟨_, hb | ⟨k, k1, k2⟩⟩)
      · have := hH.lt b hb; omega
      · exact hnf.1 hb
      · have := H1.inj j k b g3 (hshl k k1) g2 k2
        subst this
        exact hdis j (List.mem_filterMap.2 ⟨some j, List.mem_of_getElem? g1, rfl⟩) k1
    · rw [hσo id h] at s1
      rw [hlook, if_neg h] at h1
      have hnf := hH.nf id b h1 s1
      refine ⟨?_, Nat.lt_of_lt_of_le hnf.2.1 V1.size, hnf.2.2⟩
      rintro (hb | ⟨hb, _⟩)
      · exact hnf.1 hb
      · omega
  · refine tup_rel (res_vals (fun v x u hvt => vt_enc fr' v x u (hvt.mono (fun _ _ => rfl) okmap _ _ _)) res n r us1 ow hres ?_)
    intro i oid e t l u g1 g2 g3
    have hlt : i < ow.length := by
      rcases Nat.lt_or_ge i ow.length with h' | h'
      · exact h'
      · rw [List.getElem?_eq_none h'] at g1; cases g1
    refine ⟨.inr ⟨by omega, by omega⟩, ?_⟩
    unfold OwnV
    rw [hσn i oid g1]
    have hll : lookIn hp' (n + i) = .rows fr' e t l := by rw [hlook, if_pos ⟨by omega, by omega⟩, Nat.add_sub_cancel_left, g2]; rfl
    cases oid with
    | none => exact g3.2.1
    | some j =>
      obtain ⟨⟨_, q1⟩, q2⟩ := g3
      unfold OwnV at q1
      show match c1.σ j with | none => _ | some b => _
      cases hs : c1.σ j with
      | none => rw [hs] at q1; exact q1
      | some b =>
        rw [hs] at q1
        obtain ⟨k, cap, r1, r2⟩ := q1
        refine ⟨k, cap, r1, fun fr T t2 l2 hl2 => ?_⟩
        rw [hll] at hl2
        cases hl2
        exact r2 true e t l q2
  · rintro id (hd | hd)
    · exact .inl hd
    · exact .inr (by simp only [hql]; exact hd)

theorem Sound.mono {f : FuncId} {ali : Bool} {arg : List VT} {res : List RT} {F G : denL (arg.map VT.ty) → Option (denL (res.map RT.ty))} (h : Sound P f ⟨ali, arg, res, F⟩) (hF : ∀ x r, G x = some r → F x = some r) : Sound P f ⟨ali, arg, res, G⟩ :=
  fun B c hp w args us p r n hH hv hd hown hfn => h B c hp w args us p r n hH hv hd hown (hF _ _ hfn)
end
end Go.Proofs.YtbjanflhagkhlaaDoor.Sk
