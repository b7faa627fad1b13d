/- SK, part 19: what a function answers. -/
import Derived.Test.YtbjanflhagkhlaaDoorSkCodeG
set_option linter.unusedVariables false
set_option linter.unusedSimpArgs false
namespace Go.Proofs.YtbjanflhagkhlaaDoor.Sk
open Go Go.RowKit

section
variable {P : Program}

/-! ### arguments -/
def VTRel (w : World) (ok : Nat → Prop) : (v : VT) → v.ty.den → Value → Prop
  | .cell t, x, u => CRel w ok t x [u]
  | .agg t, x, u => ∃ vs : Array Value, u = .agg vs ∧ CRel w ok t x vs.toList
  | .box t, x, u => ∃ b o cs T fz, ok b ∧ u = .pointer (some ⟨b, o, none⟩) ∧ w.heap[b]? = some (.cells cs T fz) ∧ o + t.size ≤ cs.size ∧ CRel w ok t x ((cs.toList.drop o).take t.size)

def ArgsRel (w : World) (ok : Nat → Prop) : (ts : List VT) → denL (ts.map VT.ty) → List Value → Prop
  | [], _, us => us = []
  | [v], x, us => ∃ u, us = [u] ∧ VTRel w ok v x u
  | v :: v' :: r, x, us => ∃ u us', us = u :: us' ∧ VTRel w ok v x.1 u ∧ ArgsRel w ok (v' :: r) x.2 us'

theorem VTRel.mono {w w' : World} {ok ok' : Nat → Prop} (hk : ∀ b, ok b → w'.heap[b]? = w.heap[b]?) (ho : ∀ b, ok b → ok' b) : ∀ (v : VT) (x : v.ty.den) (u : Value), VTRel w ok v x u → VTRel w' ok' v x u
  | .cell t, x, u, h => CRel.mono hk ho t x _ h
  | .agg t, x, u, ⟨vs, h1, h2⟩ => ⟨vs, h1, CRel.mono hk ho t x _ h2⟩
  | .box t, x, u, ⟨b, o, cs, T, fz, h1, h2, h3, h4, h5⟩ => ⟨b, o, cs, T, fz, ho b h1, h2, (hk b h1).trans h3, h4, CRel.mono hk ho t x _ h5⟩
theorem ArgsRel.mono {w w' : World} {ok ok' : Nat → Prop} (hk : ∀ b, ok b → w'.heap[b]? = w.heap[b]?) (ho : ∀ b, ok b → ok' b) : ∀ (ts : List VT) (x : denL (ts.map VT.ty)) (us : List Value), ArgsRel w ok ts x us → ArgsRel w' ok' ts x us
  | [], _, _, h => h
  | [v], x, us, ⟨u, h1, h2⟩ => ⟨u, h1, VTRel.mono hk ho v x u h2⟩
  | v :: v' :: r, x, us, ⟨u, us', h1, h2, h3⟩ => ⟨u, us', h1, VTRel.mono hk ho v x.1 u h2, ArgsRel.mono hk ho (v' :: r) x.2 us' h3⟩

section
variable {B : Nat → Prop} {c : Cx} {hp : List ABlk} {w : World}

theorem vt_enc (fr : Bool) : ∀ (v : VT) (x : v.ty.den) (u : Value), VTRel w (okF B c fr) v x u → VRel B c hp w (v.enc fr x) u
  | .cell t, x, u, h => by
    have := encC_rel (B := B) (c := c) (hp := hp) fr t x [u] h
    show VRel B c hp w ((encC fr t x).headD .any) u
    cases hq : encC fr t x with
    | nil => exact trivial
    | cons a l => rw [hq] at this; exact this.1
  | .agg t, x, u, ⟨vs, h1, h2⟩ => ⟨vs, h1, encC_rel fr t x _ h2⟩
  | .box t, x, u, ⟨b, o, cs, T, fz, h1, h2, h3, h4, h5⟩ => ⟨b, o, cs, T, fz, h1, h2, h3, h4, h5⟩

theorem args_enc (fr : Bool) : ∀ (ts : List VT) (x : denL (ts.map VT.ty)) (us : List Value), ArgsRel w (okF B c fr) ts x us → VRelL B c hp w (encArgs fr ts x) us
  | [], _, us, h => by have h : us = [] := h; subst h; trivial
  | [v], x, us, ⟨u, h1, h2⟩ => by subst h1; exact ⟨vt_enc fr v x u h2, trivial⟩
  | v :: v' :: r, x, us, ⟨u, us', h1, h2, h3⟩ => by subst h1; exact ⟨vt_enc fr v x.1 u h2, args_enc fr (v' :: r) x.2 us' h3⟩

theorem vt_dec (hH : HRel B c hp w) : ∀ (v : VT) {a : AV} {u : Value} {g : List Nat} {d : Dec v.ty.den} {g' : List Nat}, VRel B c hp w a u → (v.dec a).runO (lookIn hp) g = some (d, g') →
    VTRel w (okD B c d.fr d.own) v d.x u ∧ (∀ id, id ∈ d.own → lookIn hp id ≠ .dead)
  | .cell t, a, u, g, d, g', hv, h => by
    obtain ⟨p, g1, h1, h2⟩ := Rd.bind_some h
    obtain ⟨v1, v2, e, k1, k2, k3⟩ := decC_sound hH t (as := [a]) (vs := [u]) ⟨hv, trivial⟩ h1
    split at h2
    · rename_i hnil
      cases h2
      rw [hnil] at k1
      have : v2 = [] := by cases v2 with
        | nil => rfl
        | cons _ _ => simp [VRelL] at k1
      subst this
      rw [List.append_nil] at e
      subst e
      exact ⟨k2, fun id hid => by obtain ⟨_, _, _, _, h⟩ := k3 id hid; rw [h]; simp⟩
    · cases h2
  | .agg t, a, u, g, d, g', hv, h => by
    cases a with
    | agg cs =>
      obtain ⟨p, g1, h1, h2⟩ := Rd.bind_some h
      obtain ⟨vs, hu, hr⟩ := hv
      obtain ⟨v1, v2, e, k1, k2, k3⟩ := decC_sound hH t hr h1
      split at h2
      · rename_i hnil
        cases h2
        rw [hnil] at k1
        have : v2 = [] := by cases v2 with
          | nil => rfl
          | cons _ _ => simp [VRelL] at k1
        subst this
        rw [List.append_nil] at e
        exact ⟨⟨vs, hu, by rw [e]; exact k2⟩, fun id hid => by obtain ⟨_, _, _, _, h⟩ := k3 id hid; rw [h]; simp⟩
      · cases h2
    | _ => cases h
  | .box t, a, u, g, d, g', hv, h => by
    cases a with
    | ptr id off =>
      cases off with
      | zero =>
        simp only [VT.dec, Rd.runO] at h
        split at h
        · rename_i cs T hl
          obtain ⟨p, g1, h1, h2⟩ := Rd.bind_some h
          cases h2
          have hb := hH.blk id
          rw [hl] at hb
          obtain ⟨b, vs, hs, hw, hr⟩ := hb
          obtain ⟨hD, b', hs', hu⟩ := hv
          obtain rfl : b' = b := Option.some.inj (hs'.symm.trans hs)
          obtain ⟨v1, v2, e, k1, k2, k3⟩ := decC_sound hH t hr h1
          have hlen := k2.length
          have hsz : vs.size = v1.length + v2.length := by rw [← Array.length_toList, e, List.length_append]
          refine ⟨⟨b', 0, vs, T, (0, 0), .inr ⟨id, by simp, hs⟩, hu, hw, by omega, ?_⟩, fun id' hid => ?_⟩
          · rw [e, List.drop_zero, ← hlen, List.take_left']
            · exact k2.mono (fun _ _ => rfl) (fun b hb => hb.weaken (fun h => h) (fun id hid => by simp [hid])) _ _ _
            · rfl
          · rcases List.mem_cons.1 hid with rfl | hid
            · rw [hl]; simp
            · obtain ⟨_, _, _, _, h⟩ := k3 id' hid
              rw [h]; simp
        · cases h
      | succ _ => cases h
    | _ => cases h

theorem args_dec (hH : HRel B c hp w) : ∀ (ts : List VT) {as : List AV} {us : List Value} {g : List Nat} {d : Dec (denL (ts.map VT.ty))} {g' : List Nat}, VRelL B c hp w as us →
    (decArgs ts as).runO (lookIn hp) g = some (d, g') → ArgsRel w (okD B c d.fr d.own) ts d.x us ∧ (∀ id, id ∈ d.own → lookIn hp id ≠ .dead)
  | [], [], us, g, d, g', hv, h => by
    cases us with
    | nil => cases h; exact ⟨rfl, fun id hid => by simp at hid⟩
    | cons _ _ => simp [VRelL] at hv
  | [], _ :: _, us, g, d, g', hv, h => by cases h
  | [v], [a], us, g, d, g', hv, h => by
    match us, hv with
    | [u], hv =>
      obtain ⟨h1, h2⟩ := vt_dec hH v hv.1 h
      exact ⟨⟨u, rfl, h1⟩, h2⟩
    | [], hv => simp [VRelL] at hv
    | _ :: _ :: _, hv => simp [VRelL] at hv
  | [v], [], us, g, d, g', hv, h => by cases h
  | [v], _ :: _ :: _, us, g, d, g', hv, h => by cases h
  | v :: v' :: r, [], us, g, d, g', hv, h => by cases h
  | v :: v' :: r, a :: as, us, g, d, g', hv, h => by
    cases us with
    | nil => simp [VRelL] at hv
    | cons u us =>
      obtain ⟨p, g1, h1, h⟩ := Rd.bind_some h
      obtain ⟨q, g2, h2, h⟩ := Rd.bind_some h
      cases h
      obtain ⟨k1, k2⟩ := vt_dec hH v hv.1 h1
      obtain ⟨k3, k4⟩ := args_dec hH (v' :: r) hv.2 h2
      refine ⟨⟨u, us, rfl, k1.mono (fun _ _ => rfl) (fun b hb => hb.weaken (by intro h; simp at h; exact h.1) (by intro id h; simp [h])) _ _ _,
        k3.mono (fun _ _ => rfl) (fun b hb => hb.weaken (by intro h; simp at h; exact h.2) (by intro id h; simp [h])) _ _ _⟩, fun id hid => ?_⟩
      simp only [List.mem_append] at hid
      exact hid.elim (k2 id) (k4 id)

/-! ### results -/
def ids (ow : List (Option Nat)) : List Nat := ow.filterMap id

/-- An own result, in the callee's words. -/
def OwnRel (B : Nat → Prop) (c : Cx) (hp : List ABlk) (w : World) (oid : Option Nat) (e : TypeId) (t : Ty) (l : List t.den) (u : Value) : Prop :=
  match oid with
  | none => l = [] ∧ u = .slice none 0 0 ∧ 0 < t.size
  | some id => VRel B c hp w (.own id) u ∧ lookIn hp id = .rows true e t l

def RTRel (B : Nat → Prop) (c : Cx) (hp : List ABlk) (w : World) (ok : Nat → Prop) : (r : RT) → r.ty.den → Value → List (Option Nat) → Prop
  | .val v, x, u, ow => ow = [] ∧ VTRel w ok v x u
  | .own e t, l, u, ow => ∃ oid, ow = [oid] ∧ OwnRel B c hp w oid e t l u
def ResRel (B : Nat → Prop) (c : Cx) (hp : List ABlk) (w : World) (ok : Nat → Prop) : (ts : List RT) → denL (ts.map RT.ty) → List Value → List (Option Nat) → Prop
  | [], _, us, ow => us = [] ∧ ow = []
  | [r], x, us, ow => ∃ u, us = [u] ∧ RTRel B c hp w ok r x u ow
  | r :: r' :: q, x, us, ow => ∃ u us' o1 o2, us = u :: us' ∧ ow = o1 ++ o2 ∧ RTRel B c hp w ok r x.1 u o1 ∧ ResRel B c hp w ok (r' :: q) x.2 us' o2

theorem RTRel.mono {ok ok' : Nat → Prop} (ho : ∀ b, ok b → ok' b) : ∀ (r : RT) (x : r.ty.den) (u : Value) (ow : List (Option Nat)), RTRel B c hp w ok r x u ow → RTRel B c hp w ok' r x u ow
  | .val v, x, u, ow, ⟨h1, h2⟩ => ⟨h1, h2.mono (fun _ _ => rfl) ho v x u⟩
  | .own e t, x, u, ow, h => h
theorem ResRel.mono {ok ok' : Nat → Prop} (ho : ∀ b, ok b → ok' b) : ∀ (ts : List RT) (x : denL (ts.map RT.ty)) (us : List Value) (ow : List (Option Nat)), ResRel B c hp w ok ts x us ow → ResRel B c hp w ok' ts x us ow
  | [], _, _, _, h => h
  | [r], x, us, ow, ⟨u, h1, h2⟩ => ⟨u, h1, h2.mono ho r x u ow⟩
  | r :: r' :: q, x, us, ow, ⟨u, us', o1, o2, h1, h2, h3, h4⟩ => ⟨u, us', o1, o2, h1, h2, h3.mono ho r x.1 u o1, ResRel.mono ho (r' :: q) x.2 us' o2 h4⟩

theorem rt_dec (hH : HRel B c hp w) : ∀ (r : RT) {a : AV} {u : Value} {g : List Nat} {d : Res r.ty.den} {g' : List Nat}, VRel B c hp w a u → (r.dec a).runO (lookIn hp) g = some (d, g') → d.fr = true →
    ∃ ow, RTRel B c hp w (okD B c true d.sh) r d.x u ow ∧ ids ow = d.own ∧ (∀ id, id ∈ d.sh → lookIn hp id ≠ .dead) ∧ (∀ id, id ∈ d.own → lookIn hp id ≠ .dead)
  | .val v, a, u, g, d, g', hv, h, hf => by
    obtain ⟨p, g1, h1, h2⟩ := Rd.bind_some h
    cases h2
    have hf : p.fr = true := hf
    obtain ⟨k1, k2⟩ := vt_dec hH v hv h1
    rw [hf] at k1
    exact ⟨[], ⟨rfl, k1⟩, rfl, k2, fun id hid => by simp at hid⟩
  | .own e t, a, u, g, d, g', hv, h, hf => by
    cases a with
    | own id =>
      obtain ⟨p, g1, h1, h2⟩ := Rd.bind_some h
      cases h2
      have hf : p.fr = true := hf
      simp only [decS, Rd.runO] at h1
      split at h1
      · rename_i fr e2 t2 l hl
        obtain ⟨he, h3⟩ := Rd.cond_some h1
        have he' := of_decide_eq_true he
        obtain ⟨h4, _⟩ := Rd.ofO_some h3
        simp only [Option.map_eq_some_iff] at h4
        obtain ⟨m, hm, hd⟩ := h4
        obtain ⟨rfl, hm⟩ := castL_some hm
        cases hm
        rw [← hd] at hf ⊢
        have hf : fr = true := hf
        subst hf
        subst he'
        exact ⟨[some id], ⟨some id, rfl, hv, hl⟩, rfl, fun id' hid => by simp at hid, fun id' hid => by simp at hid; subst hid; rw [hl]; simp⟩
      · cases h1
    | sc v =>
      cases v with
      | slice A k q =>
        cases A with
        | some _ => cases h
        | none =>
          cases k with
          | succ _ => cases h
          | zero =>
            cases q with
            | succ _ => cases h
            | zero =>
              obtain ⟨h0, h2⟩ := Rd.cond_some h
              cases h2
              exact ⟨[none], ⟨none, rfl, rfl, hv, by simpa [Nat.blt_eq] using h0⟩, rfl, fun id' hid => by simp at hid, fun id' hid => by simp at hid⟩
      | _ => cases h
    | _ => cases h

theorem res_dec (hH : HRel B c hp w) : ∀ (ts : List RT) {as : List AV} {us : List Value} {g : List Nat} {d : Res (denL (ts.map RT.ty))} {g' : List Nat}, VRelL B c hp w as us →
    (decRes ts as).runO (lookIn hp) g = some (d, g') → d.fr = true → ∃ ow, ResRel B c hp w (okD B c true d.sh) ts d.x us ow ∧ ids ow = d.own ∧ (∀ id, id ∈ d.sh → lookIn hp id ≠ .dead) ∧ (∀ id, id ∈ d.own → lookIn hp id ≠ .dead)
  | [], [], us, g, d, g', hv, h, hf => by
    cases us with
    | nil => cases h; exact ⟨[], ⟨rfl, rfl⟩, rfl, fun id hid => by simp at hid, fun id hid => by simp at hid⟩
    | cons _ _ => simp [VRelL] at hv
  | [], _ :: _, us, g, d, g', hv, h, hf => by cases h
  | [r], [a], us, g, d, g', hv, h, hf => by
    match us, hv with
    | [u], hv =>
      obtain ⟨ow, h1, h2⟩ := rt_dec hH r hv.1 h hf
      exact ⟨ow, ⟨u, rfl, h1⟩, h2⟩
    | [], hv => simp [VRelL] at hv
    | _ :: _ :: _, hv => simp [VRelL] at hv
  | [r], [], us, g, d, g', hv, h, hf => by cases h
  | [r], _ :: _ :: _, us, g, d, g', hv, h, hf => by cases h
  | r :: r' :: q, [], us, g, d, g', hv, h, hf => by cases h
  | r :: r' :: q, a :: as, us, g, d, g', hv, h, hf => by
    cases us with
    | nil => simp [VRelL] at hv
    | cons u us =>
      obtain ⟨p, g1, h1, h⟩ := Rd.bind_some h
      obtain ⟨s, g2, h2, h⟩ := Rd.bind_some h
      cases h
      have hf : (p.fr && s.fr) = true := hf
      rw [Bool.and_eq_true] at hf
      obtain ⟨o1, k1, k2, k3, k3'⟩ := rt_dec hH r hv.1 h1 hf.1
      obtain ⟨o2, k4, k5, k6, k6'⟩ := res_dec hH (r' :: q) hv.2 h2 hf.2
      refine ⟨o1 ++ o2, ⟨u, us, o1, o2, rfl, rfl, k1.mono (fun b hb => hb.weaken (fun h => h) (by intro id h; simp [h])) _ _ _ _, k4.mono (fun b hb => hb.weaken (fun h => h) (by intro id h; simp [h])) _ _ _ _⟩, ?_, fun id hid => ?_, fun id hid => ?_⟩
      · show ids (o1 ++ o2) = _
        unfold ids at k2 k5 ⊢
        rw [List.filterMap_append, k2, k5]
      · simp only [List.mem_append] at hid
        exact hid.elim (k3 id) (k6 id)
      · simp only [List.mem_append] at hid
        exact hid.elim (k3' id) (k6' id)
end

/-! ### a function's run -/
theorem nodup_spec : ∀ {l : List Nat}, nodup l = true → l.Nodup
  | [], _ => List.nodup_nil
  | x :: r, h => by
    unfold nodup at h
    rw [Bool.and_eq_true] at h
    exact List.nodup_cons.2 ⟨by simpa using h.1, nodup_spec h.2⟩

/-- In which memory a function's results may lie. -/
def freshB (ali : Bool) (ok : Nat → Prop) (n : Nat) (b : Nat) : Prop := (ali = true ∧ ok b) ∨ n ≤ b
def cx0 (n : Nat) : Cx := ⟨fun _ => False, fun _ => none, fun b => b < n⟩

theorem evFn_core {E : Env} (hE : SpecsOk P E) (hI : InlOk P E) (hm : P.follows .mixedOrders = true) {d : Nat} {f : FuncId} {fn : Func} (hf : P.funcs[f]? = some fn) {ali : Bool} {arg : List VT} {res : List RT}
    {xs : denL (arg.map VT.ty)} {r : denL (res.map RT.ty)} {w : World} {ok : Nat → Prop} {us : List Value} (ha : ArgsRel w ok arg xs us) (hok : ∀ b, ok b → b < w.heap.size) (hgl : GlobsAt (fun b => b < w.heap.size) w) (h : evFn E P d fn ali arg res xs = some r) :
    Calls P f us.toArray w fun e w1 => ∃ us1 c1 hp1 ow sh, e = .returned (tupV us1) ∧ HRel (freshB ali ok w.heap.size) c1 hp1 w1 ∧ Evo (· < 0) (cx0 w.heap.size) [] w c1 hp1 w1 ∧
      ResRel (freshB ali ok w.heap.size) c1 hp1 w1 (okD (freshB ali ok w.heap.size) c1 true sh) res r us1 ow ∧ (ids ow).Nodup ∧ (∀ id, id ∈ ids ow → id ∉ sh) ∧ (∀ id, id ∈ sh → lookIn hp1 id ≠ .dead) ∧ (∀ id, id ∈ ids ow → lookIn hp1 id ≠ .dead) := by
  unfold evFn at h
  cases hb : fn.body with
  | none => rw [hb] at h; cases h
  | some code =>
    rw [hb] at h
    simp only at h
    refine calls_marks hf hb ?_
    have hH0 : HRel (freshB ali ok w.heap.size) (cx0 w.heap.size) [] w := by
      refine ⟨fun b hb => .inr hb, fun b hb => hb, fun id hd => hd.elim, fun id hd => ?_, fun id => ?_, fun id id' b h1 => ?_, fun id b h1 => ?_, hgl⟩
      · exact absurd rfl hd
      · exact trivial
      · exact absurd rfl h1
      · exact absurd rfl h1
    have hargs : VRelL (freshB ali ok w.heap.size) (cx0 w.heap.size) [] w (encArgs ali arg xs) us :=
      args_enc ali arg xs us (ha.mono (fun _ _ => rfl) (fun b hb => ⟨hok b hb, fun hal => .inl ⟨hal, hb⟩⟩) _ _ _)
    refine ev_sound hE hm (callD_sound hE hI hm d) (lo := 0) (c0 := cx0 w.heap.size) (hp0 := []) (w0 := w) code _ _ _ _ w _ (.inl rfl) h ⟨enterT_rel hargs fn, hH0⟩ (Evo.refl _ _ _ _) (Nat.le_refl _) trivial ?_
    intro ex S' a' w1' c' hK hS1' hV1' hl' hd'
    have go : ∀ (q : (resA P S' fn.results.toList).runK (lookIn S'.hp) [] (fun vs _ => (decRes res (tidy vs S'.hp).1).runK (lookIn (tidy vs S'.hp).2) [] fun r _ => cond (nodup r.own && disj r.own r.sh && r.fr) (some r.x) none) = some r) (w' : World), Aft w.heap.size w1' w' →
        ∃ v, (results fn a'.tmps).run P w' = .ok v w' ∧ ∃ us1 c1 hp1 ow sh, Ending.returned v = .returned (tupV us1) ∧ HRel (freshB ali ok w.heap.size) c1 hp1 w' ∧ Evo (· < 0) (cx0 w.heap.size) [] w c1 hp1 w' ∧
      ResRel (freshB ali ok w.heap.size) c1 hp1 w' (okD (freshB ali ok w.heap.size) c1 true sh) res r us1 ow ∧ (ids ow).Nodup ∧ (∀ id, id ∈ ids ow → id ∉ sh) ∧ (∀ id, id ∈ sh → lookIn hp1 id ≠ .dead) ∧ (∀ id, id ∈ ids ow → lookIn hp1 id ≠ .dead) := by
      intro q w' haft
      have hS' := hS1'.aft haft
      have hV' := hV1'.aft (fun b hb => hb) haft
      rw [Rd.runK_eq] at q
      cases hr : (resA P S' fn.results.toList).runO (lookIn S'.hp) [] with
      | none => rw [hr] at q; cases q
      | some p =>
        rw [hr] at q
        simp only [Option.bind_some] at q
        rw [Rd.runK_eq] at q
        obtain ⟨us', r1, r2⟩ := results_rel (fn := fn) hS' hr
        obtain ⟨c2, t1, t2, t3, t4⟩ := tidy_sound p.1 us' S'.hp c' hS'.hp r2
        cases hd : (decRes res (tidy p.1 S'.hp).1).runO (lookIn (tidy p.1 S'.hp).2) [] with
        | none => rw [hd] at q; cases q
        | some s =>
          rw [hd] at q
          simp only [Option.bind_some] at q
          cases hc : (nodup s.1.own && disj s.1.own s.1.sh && s.1.fr) with
          | false => rw [hc] at q; cases q
          | true =>
            rw [hc] at q
            simp only [cond_true, Option.some.injEq] at q
            rw [Bool.and_eq_true, Bool.and_eq_true] at hc
            obtain ⟨ow, k1, k2, k3, k4⟩ := res_dec t1 res t3 hd hc.2
            subst q
            exact ⟨_, r1, us', c2, _, ow, s.1.sh, rfl, t1, hV'.trans (t2.mono fun _ _ => trivial), k1, by rw [k2]; exact nodup_spec hc.1.1, by rw [k2]; exact disj_spec hc.1.2, k3, by rw [k2]; exact k4⟩
    cases ex with
    | normal => exact leave_marks _ _ hd' (go hK)
    | ret => exact leave_marks _ _ hd' (go hK)
    | exit j => cases hK
end
end Go.Proofs.YtbjanflhagkhlaaDoor.Sk
