/- SK, part 3: how the interpreter's values and blocks stand to the machine's, and how they keep as memory grows. -/
import Derived.Test.YtbjanflhagkhlaaDoorSkRun
set_option linter.unusedVariables false
namespace Go.Proofs.YtbjanflhagkhlaaDoor.Sk
open Go Go.RowKit

/-- A row of elements that is read: 'ok' tells in which blocks. -/
def Row {α : Type} (w : World) (ok : Nat → Prop) (R : α → List Value → Prop) (size : Nat) (l : List α) (v : Value) : Prop :=
  ∃ A c, v = .slice A l.length c ∧ l.length ≤ c ∧
    (l ≠ [] → ∃ b o cs T fz, A = some ⟨b, o, none⟩ ∧ ok b ∧ w.heap[b]? = some (.cells cs T fz) ∧ o + l.length * size ≤ cs.size ∧
      ∀ i x, l[i]? = some x → R x ((cs.toList.drop (o + i * size)).take size))

def CRel (w : World) (ok : Nat → Prop) : (t : Ty) → t.den → List Value → Prop
  | .int k, x, vs => vs = [.int k x]
  | .bool, b, vs => vs = [.bool b]
  | .str, s, vs => vs = [.string s]
  | .flt, b, vs => vs = [.float .f64 b]
  | .unit, _, vs => vs = []
  | .pair a b, x, vs => ∃ v1 v2, vs = v1 ++ v2 ∧ CRel w ok a x.1 v1 ∧ CRel w ok b x.2 v2
  | .vec n k, l, vs => List.length l = n ∧ vs = List.map (Value.int k) l
  | .sl _ t, l, vs => ∃ v, vs = [v] ∧ Row w ok (fun x cs => CRel w ok t x cs) t.size l v

theorem Row.mono {α : Type} {w w' : World} {ok ok' : Nat → Prop} {R R' : α → List Value → Prop} {size : Nat} {l : List α} {v : Value}
    (h : Row w ok R size l v) (hk : ∀ b, ok b → w'.heap[b]? = w.heap[b]?) (ho : ∀ b, ok b → ok' b) (hR : ∀ x cs, R x cs → R' x cs) :
    Row w' ok' R' size l v := by
  obtain ⟨A, c, hv, hc, hm⟩ := h
  refine ⟨A, c, hv, hc, fun hl => ?_⟩
  obtain ⟨b, o, cs, T, fz, hA, hb, hw, hs, hr⟩ := hm hl
  exact ⟨b, o, cs, T, fz, hA, ho b hb, (hk b hb).trans hw, hs, fun i x hx => hR _ _ (hr i x hx)⟩

theorem CRel.mono {w w' : World} {ok ok' : Nat → Prop} (hk : ∀ b, ok b → w'.heap[b]? = w.heap[b]?) (ho : ∀ b, ok b → ok' b) :
    ∀ (t : Ty) (x : t.den) (vs : List Value), CRel w ok t x vs → CRel w' ok' t x vs
  | .int _, _, _, h => h
  | .bool, _, _, h => h
  | .str, _, _, h => h
  | .flt, _, _, h => h
  | .unit, _, _, h => h
  | .pair a b, x, vs, h => by
    obtain ⟨v1, v2, e, h1, h2⟩ := h
    exact ⟨v1, v2, e, CRel.mono hk ho a _ _ h1, CRel.mono hk ho b _ _ h2⟩
  | .vec _ _, _, _, h => h
  | .sl _ t, l, vs, h => by
    obtain ⟨v, e, hr⟩ := h
    exact ⟨v, e, hr.mono hk ho fun x cs => CRel.mono hk ho t x cs⟩

/-- Flat data lie in no other memory. -/
theorem CRel.flat {w w' : World} {ok ok' : Nat → Prop} : ∀ (t : Ty) (x : t.den) (vs : List Value), t.flat = true → CRel w ok t x vs → CRel w' ok' t x vs
  | .int _, _, _, _, h => h
  | .bool, _, _, _, h => h
  | .str, _, _, _, h => h
  | .flt, _, _, _, h => h
  | .unit, _, _, _, h => h
  | .pair a b, x, vs, hf, h => by
    have hf : (a.flat && b.flat) = true := hf
    rw [Bool.and_eq_true] at hf
    obtain ⟨v1, v2, e, h1, h2⟩ := h
    exact ⟨v1, v2, e, CRel.flat a _ _ hf.1 h1, CRel.flat b _ _ hf.2 h2⟩
  | .vec _ _, _, _, _, h => h
  | .sl _ t, _, _, hf, _ => by cases hf

theorem CRel.length {w : World} {ok : Nat → Prop} : ∀ (t : Ty) (x : t.den) (vs : List Value), CRel w ok t x vs → vs.length = t.size
  | .int _, _, _, h => by simp only [CRel] at h; subst h; rfl
  | .bool, _, _, h => by simp only [CRel] at h; subst h; rfl
  | .str, _, _, h => by simp only [CRel] at h; subst h; rfl
  | .flt, _, _, h => by simp only [CRel] at h; subst h; rfl
  | .unit, _, _, h => by simp only [CRel] at h; subst h; rfl
  | .pair a b, x, vs, h => by
    obtain ⟨v1, v2, e, h1, h2⟩ := h
    rw [e, List.length_append, CRel.length a _ _ h1, CRel.length b _ _ h2]; rfl
  | .vec n k, l, vs, h => by obtain ⟨h1, h2⟩ := h; rw [h2, List.length_map, h1]; rfl
  | .sl _ t, l, vs, h => by obtain ⟨v, e, _⟩ := h; rw [e]; rfl

/-- Which places of the list of blocks are known, where they lie, and which of the machine's blocks nobody will write any more. -/
structure Cx where
  D : Nat → Prop
  σ : Nat → Option Nat
  F : Nat → Prop

def okF (B : Nat → Prop) (c : Cx) (fr : Bool) (b : Nat) : Prop := c.F b ∧ (fr = true → B b)

/-- A slice that is one's own. -/
def OwnV (c : Cx) (hp : List ABlk) (w : World) (id : Nat) (u : Value) : Prop :=
  match c.σ id with
  | none => u = .slice none 0 0
  | some b => ∃ n cap, u = .slice (some ⟨b, 0, none⟩) n cap ∧
      ∀ fr T t l, lookIn hp id = .rows fr T t l → n = l.length ∧ n ≤ cap ∧ cap ≤ maxLen ∧ ∃ cur, w.heap[b]? = some (.cells cur T (0, 0)) ∧ cur.size = cap * t.size

/-- A part of a block of one's own, as a slice. -/
def SubV (c : Cx) (hp : List ABlk) (w : World) (id off n : Nat) (u : Value) : Prop :=
  match c.σ id with
  | none => u = .slice none 0 0 ∧ n = 0 ∧ off = 0
  | some b => ∃ a q, u = .slice (some a) n q ∧
      ∀ fr T t l, lookIn hp id = .rows fr T t l → ∃ cap cur, q = cap - off ∧ off + n ≤ l.length ∧ l.length ≤ cap ∧ cap ≤ maxLen ∧ (off < cap ∨ off = 0 → a = ⟨b, off * t.size, none⟩) ∧
        w.heap[b]? = some (.cells cur T (0, 0)) ∧ cur.size = cap * t.size

mutual
def VRel (B : Nat → Prop) (c : Cx) (hp : List ABlk) (w : World) : AV → Value → Prop
  | .sc v, u => u = v
  | .ptr id off, u => c.D id ∧ ∃ b, c.σ id = some b ∧ u = .pointer (some ⟨b, off, none⟩)
  | .own id, u => c.D id ∧ OwnV c hp w id u
  | .osl id off n, u => c.D id ∧ SubV c hp w id off n u
  | .ros fr _ t l, u => Row w (okF B c fr) (CRel w (okF B c fr) t) t.size l u
  | .rop fr t x off, u => ∃ b o cs T fz, okF B c fr b ∧ u = .pointer (some ⟨b, o + off, none⟩) ∧ w.heap[b]? = some (.cells cs T fz) ∧ o + t.size ≤ cs.size ∧
      CRel w (okF B c fr) t x ((cs.toList.drop o).take t.size)
  | .rptr id i off, u => c.D id ∧ ∃ b q, c.σ id = some b ∧ u = .pointer (some ⟨b, q, none⟩) ∧ ∀ fr T t l, lookIn hp id = .rows fr T t l → q = i * t.size + off
  | .clo f cs, u => ∃ vs : Array Value, u = .func (.func f) #[] vs ∧ VRelL B c hp w cs vs.toList
  | .yl tm ps asg body, u => ∃ l lp, u = .func (.yield l) #[] #[] ∧ c.F l ∧ w.heap[l]? = some (.loop lp) ∧ lp.state = .ready ∧ lp.pending = none ∧ lp.params = ps ∧ lp.assign = asg ∧ lp.body = body ∧ VRelL B c hp w tm lp.tmps.toList
  | .agg cs, u => ∃ vs : Array Value, u = .agg vs ∧ VRelL B c hp w cs vs.toList
  | .tup cs, u => ∃ vs : Array Value, u = .tuple vs ∧ VRelL B c hp w cs vs.toList
  | .any, _ => True
  | .lit e t l, u => 0 < t.size ∧ ∃ b cur, okF B c true b ∧ u = .slice (some ⟨b, 0, none⟩) l.length l.length ∧ w.heap[b]? = some (.cells cur e (0, 0)) ∧ l.length ≤ maxLen ∧ cur.size = l.length * t.size ∧
      ∀ (i : Nat) (x : t.den), l[i]? = some x → CRel w (okF B c true) t x ((cur.toList.drop (i * t.size)).take t.size)
  | .mp id, u => c.D id ∧ ∃ b, c.σ id = some b ∧ u = .map (some b)
  | .gd b v, u => (b = true → VRel B c hp w v u) ∧ (b = false → u = undef)
def VRelL (B : Nat → Prop) (c : Cx) (hp : List ABlk) (w : World) : List AV → List Value → Prop
  | [], [] => True
  | a :: as, v :: vs => VRel B c hp w a v ∧ VRelL B c hp w as vs
  | _, _ => False
end

section
variable {B : Nat → Prop} {c : Cx} {hp : List ABlk} {w : World}

theorem VRelL.length : ∀ {as : List AV} {vs : List Value}, VRelL B c hp w as vs → as.length = vs.length
  | [], [], _ => rfl
  | a :: as, v :: vs, h => by simp only [VRelL] at h; simp [VRelL.length h.2]
  | [], _ :: _, h => by simp [VRelL] at h
  | _ :: _, [], h => by simp [VRelL] at h

theorem VRelL.get : ∀ {as : List AV} {vs : List Value} (h : VRelL B c hp w as vs) (i : Nat) (a : AV), as[i]? = some a → ∃ v, vs[i]? = some v ∧ VRel B c hp w a v
  | a :: as, v :: vs, h, 0, x, hx => by simp only [VRelL] at h; simp at hx; subst hx; exact ⟨v, rfl, h.1⟩
  | a :: as, v :: vs, h, i + 1, x, hx => by simp only [VRelL] at h; simpa using VRelL.get h.2 i x (by simpa using hx)
  | [], [], _, i, x, hx => by simp at hx
  | [], _ :: _, h, _, _, _ => by simp [VRelL] at h
  | _ :: _, [], h, _, _, _ => by simp [VRelL] at h

theorem VRelL.mk : ∀ {as : List AV} {vs : List Value}, as.length = vs.length → (∀ (i : Nat) (a : AV) (v : Value), as[i]? = some a → vs[i]? = some v → VRel B c hp w a v) → VRelL B c hp w as vs
  | [], [], _, _ => trivial
  | a :: as, v :: vs, hl, h => ⟨h 0 a v rfl rfl, VRelL.mk (by simpa using hl) fun i a' v' h1 h2 => h (i + 1) a' v' (by simpa using h1) (by simpa using h2)⟩
  | [], _ :: _, hl, _ => by simp at hl
  | _ :: _, [], hl, _ => by simp at hl

theorem VRelL.append : ∀ {as : List AV} {vs : List Value} {bs : List AV} {us : List Value}, VRelL B c hp w as vs → VRelL B c hp w bs us → VRelL B c hp w (as ++ bs) (vs ++ us)
  | [], [], _, _, _, h => h
  | a :: as, v :: vs, _, _, h, h' => ⟨h.1, VRelL.append h.2 h'⟩
  | [], _ :: _, _, _, h, _ => by simp [VRelL] at h
  | _ :: _, [], _, _, h, _ => by simp [VRelL] at h

theorem VRelL.drop : ∀ {as : List AV} {vs : List Value} (n : Nat), VRelL B c hp w as vs → VRelL B c hp w (as.drop n) (vs.drop n)
  | _, _, 0, h => by simpa using h
  | [], [], n + 1, _ => by simp [VRelL]
  | a :: as, v :: vs, n + 1, h => by simpa using VRelL.drop n h.2
  | [], _ :: _, _ + 1, h => by simp [VRelL] at h
  | _ :: _, [], _ + 1, h => by simp [VRelL] at h

theorem VRelL.take : ∀ {as : List AV} {vs : List Value} (n : Nat), VRelL B c hp w as vs → VRelL B c hp w (as.take n) (vs.take n)
  | _, _, 0, h => by simp [VRelL]
  | [], [], n + 1, _ => by simp [VRelL]
  | a :: as, v :: vs, n + 1, h => by simpa [VRelL] using ⟨h.1, VRelL.take n h.2⟩
  | [], _ :: _, _ + 1, h => by simp [VRelL] at h
  | _ :: _, [], _ + 1, h => by simp [VRelL] at h

theorem VRelL.set {as : List AV} {vs : List Value} (h : VRelL B c hp w as vs) (i : Nat) {a : AV} {v : Value} (ha : VRel B c hp w a v) : VRelL B c hp w (as.set i a) (vs.set i v) := by
  refine VRelL.mk (by simp [h.length]) fun j a' v' h1 h2 => ?_
  rw [List.getElem?_set] at h1 h2
  by_cases e : i = j
  · rw [if_pos e] at h1 h2
    split at h1 <;> simp at h1
    split at h2 <;> simp at h2
    subst h1; subst h2; exact ha
  · rw [if_neg e] at h1 h2
    obtain ⟨u, hu, hr⟩ := h.get j a' h1
    rw [hu] at h2; cases h2; exact hr

theorem VRelL.scs : ∀ (l : List Value), VRelL B c hp w (l.map .sc) l
  | [] => by simp [VRelL]
  | v :: l => by simpa [VRelL, VRel] using VRelL.scs l
end

/-! ### memory that grows -/
def BlkLe : ABlk → ABlk → Prop
  | _, .dead => True
  | .rows _ T t l, .rows _ T' t' l' => T = T' ∧ t = t' ∧ l.length = l'.length
  | .cells cs T, .cells cs' T' => T = T' ∧ cs.length = cs'.length
  | .smap _, .smap _ => True
  | _, _ => False

theorem BlkLe.refl : ∀ b, BlkLe b b
  | .dead => trivial
  | .cells _ _ => ⟨rfl, rfl⟩
  | .rows _ _ _ _ => ⟨rfl, rfl, rfl⟩
  | .smap _ => trivial
theorem BlkLe.trans {a b c : ABlk} (h : BlkLe a b) (k : BlkLe b c) : BlkLe a c := by
  cases c with
  | dead => cases a <;> trivial
  | smap l =>
    cases b with
    | smap l' =>
      cases a with
      | smap => trivial
      | _ => exact h.elim
    | _ => exact k.elim
  | cells cs T =>
    cases b with
    | cells cs' T' =>
      cases a with
      | cells => exact ⟨h.1.trans k.1, h.2.trans k.2⟩
      | _ => exact h.elim
    | _ => exact k.elim
  | rows fr T t l =>
    cases b with
    | rows fr' T' t' l' =>
      cases a with
      | rows => exact ⟨h.1.trans k.1, h.2.1.trans k.2.1, h.2.2.trans k.2.2⟩
      | _ => exact h.elim
    | _ => exact k.elim

/-- What was written is the same, and no draw is taken back. -/
def OutOk (w w' : World) : Prop := w'.output = w.output ∧ w.drawn ≤ w'.drawn
theorem OutOk.refl (w : World) : OutOk w w := ⟨rfl, Nat.le_refl _⟩
theorem OutOk.trans {w w1 w2 : World} (h : OutOk w w1) (k : OutOk w1 w2) : OutOk w w2 := ⟨k.1.trans h.1, Nat.le_trans h.2 k.2⟩
/-- From one moment to a later one: for the places of L. -/
structure Evo (L : Nat → Prop) (c : Cx) (hp : List ABlk) (w : World) (c' : Cx) (hp' : List ABlk) (w' : World) : Prop where
  D : ∀ id, L id → c.D id → c'.D id
  σ : ∀ id, L id → c.D id → c'.σ id = c.σ id
  F : ∀ b, c.F b → c'.F b
  keep : ∀ b, c.F b → w'.heap[b]? = w.heap[b]?
  size : w.heap.size ≤ w'.heap.size
  shape : ∀ (b : Nat) (vs : Array Value) (T : TypeId) (fz : Nat × Nat), w.heap[b]? = some (Obj.cells vs T fz) → ∃ vs' : Array Value, w'.heap[b]? = some (Obj.cells vs' T fz) ∧ vs'.size = vs.size
  blk : ∀ id, L id → c.D id → BlkLe (lookIn hp id) (lookIn hp' id)
  os : w'.os = w.os
  tape : w'.tape = w.tape
  output : OutOk w w'

theorem Evo.trans {L : Nat → Prop} {c c1 c2 : Cx} {hp hp1 hp2 : List ABlk} {w w1 w2 : World} (h : Evo L c hp w c1 hp1 w1) (k : Evo L c1 hp1 w1 c2 hp2 w2) : Evo L c hp w c2 hp2 w2 :=
  ⟨fun id hi hd => k.D id hi (h.D id hi hd), fun id hi hd => (k.σ id hi (h.D id hi hd)).trans (h.σ id hi hd), fun b hb => k.F b (h.F b hb), fun b hb => (k.keep b (h.F b hb)).trans (h.keep b hb), Nat.le_trans h.size k.size,
   fun b vs T fz hw => by obtain ⟨v1, h1, s1⟩ := h.shape b vs T fz hw; obtain ⟨v2, h2, s2⟩ := k.shape b v1 T fz h1; exact ⟨v2, h2, s2.trans s1⟩,
   fun id hi hd => (h.blk id hi hd).trans (k.blk id hi (h.D id hi hd)), k.os.trans h.os, k.tape.trans h.tape, h.output.trans k.output⟩
theorem Evo.mono {L L' : Nat → Prop} {c c1 : Cx} {hp hp1 : List ABlk} {w w1 : World} (h : Evo L c hp w c1 hp1 w1) (hl : ∀ id, L' id → L id) : Evo L' c hp w c1 hp1 w1 :=
  ⟨fun id hi hd => h.D id (hl id hi) hd, fun id hi hd => h.σ id (hl id hi) hd, h.F, h.keep, h.size, h.shape, fun id hi hd => h.blk id (hl id hi) hd, h.os, h.tape, h.output⟩
theorem Evo.refl (L : Nat → Prop) (c : Cx) (hp : List ABlk) (w : World) : Evo L c hp w c hp w :=
  ⟨fun _ _ h => h, fun _ _ _ => rfl, fun _ h => h, fun _ _ => rfl, Nat.le_refl _, fun b vs T fz h => ⟨vs, h, rfl⟩, fun id _ _ => BlkLe.refl _, rfl, rfl, OutOk.refl _⟩

theorem okF_evo {B : Nat → Prop} {L : Nat → Prop} {c c' : Cx} {hp hp' : List ABlk} {w w' : World} (h : Evo L c hp w c' hp' w') {fr : Bool} {b : Nat} (hb : okF B c fr b) : okF B c' fr b := ⟨h.F b hb.1, hb.2⟩

theorem OwnV_evo {L : Nat → Prop} {c c' : Cx} {hp hp' : List ABlk} {w w' : World} (h : Evo L c hp w c' hp' w') {id : Nat} (hi : L id) (hd : c.D id) {u : Value} (hv : OwnV c hp w id u) : OwnV c' hp' w' id u := by
  unfold OwnV at hv ⊢
  rw [h.σ id hi hd]
  cases hs : c.σ id with
  | none => rw [hs] at hv; exact hv
  | some b =>
    rw [hs] at hv
    obtain ⟨n, cap, hu, hr⟩ := hv
    refine ⟨n, cap, hu, fun fr T t l hl => ?_⟩
    have hb := h.blk id hi hd
    rw [hl] at hb
    cases hq : lookIn hp id with
    | dead => rw [hq] at hb; exact hb.elim
    | smap _ => rw [hq] at hb; exact hb.elim
    | cells cs T' => rw [hq] at hb; exact hb.elim
    | rows fr' T' t' l' =>
      rw [hq] at hb
      obtain ⟨e1, e2, e3⟩ := hb
      subst e1; subst e2
      obtain ⟨r1, r2, r3, cur, r4, r5⟩ := hr fr' T' t' l' hq
      obtain ⟨cur', q1, q2⟩ := h.shape b cur _ _ r4
      exact ⟨r1.trans e3, r2, r3, cur', q1, q2.trans r5⟩

theorem SubV_evo {L : Nat → Prop} {c c' : Cx} {hp hp' : List ABlk} {w w' : World} (h : Evo L c hp w c' hp' w') {id off n : Nat} (hi : L id) (hd : c.D id) {u : Value} (hv : SubV c hp w id off n u) : SubV c' hp' w' id off n u := by
  unfold SubV at hv ⊢
  rw [h.σ id hi hd]
  cases hs : c.σ id with
  | none => rw [hs] at hv; exact hv
  | some b =>
    rw [hs] at hv
    obtain ⟨a, q, hu, hr⟩ := hv
    refine ⟨a, q, hu, fun fr T t l hl => ?_⟩
    have hb := h.blk id hi hd
    rw [hl] at hb
    cases hq : lookIn hp id with
    | dead => rw [hq] at hb; exact hb.elim
    | smap _ => rw [hq] at hb; exact hb.elim
    | cells cs T' => rw [hq] at hb; exact hb.elim
    | rows fr' T' t' l' =>
      rw [hq] at hb
      obtain ⟨e1, e2, e3⟩ := hb
      subst e1; subst e2
      obtain ⟨cap, cur, r1, r2, r3, r4, r5, r6, r7⟩ := hr fr' T' t' l' hq
      obtain ⟨cur', q1, q2⟩ := h.shape b cur _ _ r6
      exact ⟨cap, cur', r1, by rw [← e3]; exact r2, by rw [← e3]; exact r3, r4, r5, q1, q2.trans r7⟩

mutual
/-- The blocks that a value names lie below. -/
theorem VRel_evo {B : Nat → Prop} {L : Nat → Prop} {c c' : Cx} {hp hp' : List ABlk} {w w' : World} (h : Evo L c hp w c' hp' w') : ∀ (a : AV) (u : Value), (∀ id, c.D id → L id) → VRel B c hp w a u → VRel B c' hp' w' a u
  | .sc _, _, _, hv => hv
  | .any, _, _, _ => trivial
  | .ptr id off, u, hi, hv => by
    obtain ⟨hd, b, hs, hu⟩ := hv
    have hi' := hi id hd
    exact ⟨h.D id hi' hd, b, (h.σ id hi' hd).trans hs, hu⟩
  | .own id, u, hi, hv => by
    have hi' := hi id hv.1
    exact ⟨h.D id hi' hv.1, OwnV_evo h hi' hv.1 hv.2⟩
  | .osl id off n, u, hi, hv => by
    have hi' := hi id hv.1
    exact ⟨h.D id hi' hv.1, SubV_evo h hi' hv.1 hv.2⟩
  | .rptr id i off, u, hi, hv => by
    obtain ⟨hd, b, q, hs, hu, hr⟩ := hv
    have hi' := hi id hd
    refine ⟨h.D id hi' hd, b, q, (h.σ id hi' hd).trans hs, hu, fun fr T t l hl => ?_⟩
    have hb := h.blk id hi' hd
    rw [hl] at hb
    cases hq : lookIn hp id with
    | dead => rw [hq] at hb; exact hb.elim
    | smap _ => rw [hq] at hb; exact hb.elim
    | cells cs T' => rw [hq] at hb; exact hb.elim
    | rows fr' T' t' l' =>
      rw [hq] at hb
      obtain ⟨e1, e2, e3⟩ := hb
      subst e1; subst e2
      exact hr _ _ _ _ hq
  | .ros fr e t l, u, _, hv => by
    exact Row.mono hv (fun b hb => h.keep b hb.1) (fun b hb => okF_evo h hb) fun x cs hc => CRel.mono (fun b hb => h.keep b hb.1) (fun b hb => okF_evo h hb) t x cs hc
  | .rop fr t x off, u, _, hv => by
    obtain ⟨b, o, cs, T, fz, hb, hu, hw, hs, hc⟩ := hv
    exact ⟨b, o, cs, T, fz, okF_evo h hb, hu, (h.keep b hb.1).trans hw, hs, CRel.mono (fun b hb => h.keep b hb.1) (fun b hb => okF_evo h hb) t x _ hc⟩
  | .lit e t l, u, _, hv => by
    obtain ⟨h0, b, cur, hb, hu, hw, hm, hs, hr⟩ := hv
    exact ⟨h0, b, cur, okF_evo h hb, hu, (h.keep b hb.1).trans hw, hm, hs, fun i x hx => CRel.mono (fun b hb => h.keep b hb.1) (fun b hb => okF_evo h hb) t x _ (hr i x hx)⟩
  | .mp id, u, hi, hv => by
    obtain ⟨hd, b, hs, hu⟩ := hv
    have hi' := hi id hd
    exact ⟨h.D id hi' hd, b, (h.σ id hi' hd).trans hs, hu⟩
  | .gd b v, u, hi, hv => ⟨fun hb => VRel_evo h v u hi (hv.1 hb), hv.2⟩
  | .clo f cs, u, hi, hv => by
    obtain ⟨vs, hu, hr⟩ := hv
    exact ⟨vs, hu, VRelL_evo h cs _ hi hr⟩
  | .yl tm ps asg body, u, hi, hv => by
    obtain ⟨l, lp, hu, hF, hl, h1, h2, h3, h4, h5, hr⟩ := hv
    exact ⟨l, lp, hu, h.F l hF, (h.keep l hF).trans hl, h1, h2, h3, h4, h5, VRelL_evo h tm _ hi hr⟩
  | .agg cs, u, hi, hv => by
    obtain ⟨vs, hu, hr⟩ := hv
    exact ⟨vs, hu, VRelL_evo h cs _ hi hr⟩
  | .tup cs, u, hi, hv => by
    obtain ⟨vs, hu, hr⟩ := hv
    exact ⟨vs, hu, VRelL_evo h cs _ hi hr⟩
theorem VRelL_evo {B : Nat → Prop} {L : Nat → Prop} {c c' : Cx} {hp hp' : List ABlk} {w w' : World} (h : Evo L c hp w c' hp' w') : ∀ (as : List AV) (us : List Value), (∀ id, c.D id → L id) → VRelL B c hp w as us → VRelL B c' hp' w' as us
  | [], [], _, _ => trivial
  | a :: as, u :: us, hi, hv => ⟨VRel_evo h a u hi hv.1, VRelL_evo h as us hi hv.2⟩
  | [], _ :: _, _, h => by simp [VRelL] at h
  | _ :: _, [], _, h => by simp [VRelL] at h
end

/-- All places. -/
def All : Nat → Prop := fun _ => True
theorem VRel.evo {B : Nat → Prop} {c c' : Cx} {hp hp' : List ABlk} {w w' : World} {a : AV} {u : Value} (hv : VRel B c hp w a u) (h : Evo All c hp w c' hp' w') : VRel B c' hp' w' a u :=
  VRel_evo h a u (fun _ _ => trivial) hv
theorem VRelL.evo {B : Nat → Prop} {c c' : Cx} {hp hp' : List ABlk} {w w' : World} {a : List AV} {u : List Value} (hv : VRelL B c hp w a u) (h : Evo All c hp w c' hp' w') : VRelL B c' hp' w' a u :=
  VRelL_evo h a u (fun _ _ => trivial) hv

/-! ### a block, the whole heap, the state -/
def BRel (B : Nat → Prop) (c : Cx) (hp : List ABlk) (w : World) (id : Nat) : ABlk → Prop
  | .dead => True
  | .smap l => ∃ b es clock, c.σ id = some b ∧ w.heap[b]? = some (.map es clock) ∧ es.toList.map (fun e => (e.key, e.val)) = l.map fun p => (Value.string p.1, Value.int .i64 p.2)
  | .cells cs T => ∃ b vs, c.σ id = some b ∧ w.heap[b]? = some (.cells vs T (0, 0)) ∧ VRelL B c hp w cs vs.toList
  | .rows fr T t l => 0 < t.size ∧ match c.σ id with
    | none => l = []
    | some b => ∃ cap cur, w.heap[b]? = some (.cells cur T (0, 0)) ∧ l.length ≤ cap ∧ cap ≤ maxLen ∧ cur.size = cap * t.size ∧
        ∀ i x, l[i]? = some x → CRel w (okF B c fr) t x ((cur.toList.drop (i * t.size)).take t.size)

/-- A listed package variable holds what is told of it. -/
def GlobAt (w : World) (g : Nat) (t : Ty) (x : t.den) : Prop := ∃ cs T fz, w.heap[g]? = some (.cells cs T fz) ∧ cs.size = t.size ∧ CRel w (fun _ => False) t x (cs.toList.take t.size)
theorem GlobAt.keep {w w' : World} {g : Nat} {t : Ty} {x : t.den} (hk : w'.heap[g]? = w.heap[g]?) (h : GlobAt w g t x) : GlobAt w' g t x := by
  obtain ⟨cs, T, fz, h1, h2, h3⟩ := h
  exact ⟨cs, T, fz, hk.trans h1, h2, CRel.mono (fun _ h => h.elim) (fun _ h => h.elim) t x _ h3⟩
/-- A package variable of which no value is told: some int. -/
def GlobI (w : World) (g : Nat) : Prop := ∃ m T fz, w.heap[g]? = some (.cells #[.int .i64 m] T fz)
def GlobsAt (F : Nat → Prop) (w : World) : Prop := (∀ g t x, glob g = some ⟨t, x⟩ → F g ∧ GlobAt w g t x) ∧ ∀ g, globI g = true → F g ∧ GlobI w g
theorem GlobsAt.keep {F F' : Nat → Prop} {w w' : World} (h : GlobsAt F w) (hF : ∀ b, F b → F' b) (hk : ∀ b, F b → w'.heap[b]? = w.heap[b]?) : GlobsAt F' w' :=
  ⟨fun g t x hg => ⟨hF g (h.1 g t x hg).1, (h.1 g t x hg).2.keep (hk g (h.1 g t x hg).1)⟩, fun g hg => by
    obtain ⟨hf, m, T, fz, hm⟩ := h.2 g hg
    exact ⟨hF g hf, m, T, fz, (hk g hf).trans hm⟩⟩
structure HRel (B : Nat → Prop) (c : Cx) (hp : List ABlk) (w : World) : Prop where
  bs : ∀ b, w.heap.size ≤ b → B b
  lt : ∀ b, c.F b → b < w.heap.size
  dl : ∀ id, c.D id → id < hp.length
  ld : ∀ id, lookIn hp id ≠ .dead → c.D id
  blk : ∀ id, BRel B c hp w id (lookIn hp id)
  inj : ∀ id id' b, lookIn hp id ≠ .dead → lookIn hp id' ≠ .dead → c.σ id = some b → c.σ id' = some b → id = id'
  nf : ∀ id b, lookIn hp id ≠ .dead → c.σ id = some b → ¬ c.F b ∧ b < w.heap.size ∧ B b
  gl : GlobsAt c.F w

structure SRel (B : Nat → Prop) (c : Cx) (S : St) (a : Act) (w : World) : Prop where
  tm : VRelL B c S.hp w S.tm a.tmps.toList
  hp : HRel B c S.hp w

theorem lookIn_live {hp : List ABlk} {id : Nat} (h : lookIn hp id ≠ .dead) : id < hp.length := by
  unfold lookIn at h
  rcases Nat.lt_or_ge id hp.length with h' | h'
  · exact h'
  · rw [List.getElem?_eq_none h'] at h; exact absurd rfl h

/-- A block's relation, later: where its own cells are kept. -/
theorem BRel.evo {B : Nat → Prop} {c c' : Cx} {hp hp' : List ABlk} {w w' : World} (h : Evo All c hp w c' hp' w') {id : Nat} {blk : ABlk} (hb : BRel B c hp w id blk)
    (hs : c'.σ id = c.σ id) (hk : ∀ b, c.σ id = some b → w'.heap[b]? = w.heap[b]?) : BRel B c' hp' w' id blk := by
  cases blk with
  | dead => trivial
  | smap l =>
    obtain ⟨b, es, clock, h1, h2, h3⟩ := hb
    exact ⟨b, es, clock, hs.trans h1, (hk b h1).trans h2, h3⟩
  | cells cs T =>
    obtain ⟨b, vs, h1, h2, h3⟩ := hb
    exact ⟨b, vs, hs.trans h1, (hk b h1).trans h2, h3.evo h⟩
  | rows fr T t l =>
    obtain ⟨h0, hb⟩ := hb
    refine ⟨h0, ?_⟩
    rw [hs]
    cases hq : c.σ id with
    | none => rw [hq] at hb; exact hb
    | some b =>
      rw [hq] at hb
      obtain ⟨cap, cur, r1, r2, r3, r4, r5⟩ := hb
      exact ⟨cap, cur, (hk b hq).trans r1, r2, r3, r4, fun i x hx => CRel.mono (fun b hb => h.keep b hb.1) (fun b hb => okF_evo h hb) t x _ (r5 i x hx)⟩

/-! ### changes of what is no cells -/
/-- Whatever object is of the kinds of st lies as it lay. -/
structure Lies (st : Obj → Bool) (w w1 : World) : Prop where
  same : ∀ (b : Nat) (o : Obj), w.heap[b]? = some o → st o = true → w1.heap[b]? = some o
  size : w1.heap.size = w.heap.size
  cells : ∀ vs T fz, st (.cells vs T fz) = true
  map : ∀ es clock, st (.map es clock) = true

section
variable {B : Nat → Prop} {c : Cx} {hp : List ABlk} {st : Obj → Bool} {w w1 : World}
theorem Row.put {α : Type} {ok : Nat → Prop} {R R' : α → List Value → Prop} {size : Nat} {l : List α} {v : Value} (hw : Lies st w w1) (h : Row w ok R size l v) (hR : ∀ x cs, R x cs → R' x cs) : Row w1 ok R' size l v := by
  obtain ⟨A, q, hv, hc, hm⟩ := h
  refine ⟨A, q, hv, hc, fun hl => ?_⟩
  obtain ⟨b, o, cs, T, fz, hA, hb, hw', hs, hr⟩ := hm hl
  exact ⟨b, o, cs, T, fz, hA, hb, hw.same _ _ hw' (hw.cells _ _ _), hs, fun i x hx => hR _ _ (hr i x hx)⟩
theorem CRel.put {ok : Nat → Prop} (hw : Lies st w w1) : ∀ (t : Ty) (x : t.den) (vs : List Value), CRel w ok t x vs → CRel w1 ok t x vs
  | .int _, _, _, h => h
  | .bool, _, _, h => h
  | .str, _, _, h => h
  | .flt, _, _, h => h
  | .unit, _, _, h => h
  | .pair a b, x, vs, h => by
    obtain ⟨v1, v2, e, h1, h2⟩ := h
    exact ⟨v1, v2, e, CRel.put hw a _ _ h1, CRel.put hw b _ _ h2⟩
  | .vec _ _, _, _, h => h
  | .sl _ t, l, vs, h => by
    obtain ⟨v, e, hr⟩ := h
    exact ⟨v, e, hr.put hw fun x cs => CRel.put hw t x cs⟩
mutual
theorem VRel.put (hw : Lies st w w1) : ∀ (a : AV) (u : Value), (noYl a = true ∨ ∀ lp, st (.loop lp) = true) → VRel B c hp w a u → VRel B c hp w1 a u
  | .sc _, _, _, hv => hv
  | .any, _, _, _ => trivial
  | .ptr id off, u, _, hv => hv
  | .own id, u, _, hv => by
    refine ⟨hv.1, ?_⟩
    have hv := hv.2
    unfold OwnV at hv ⊢
    cases hs : c.σ id with
    | none => rw [hs] at hv; exact hv
    | some b =>
      rw [hs] at hv
      obtain ⟨n, cap, hu, hr⟩ := hv
      refine ⟨n, cap, hu, fun fr T t l hl => ?_⟩
      obtain ⟨r1, r2, r3, cur, r4, r5⟩ := hr fr T t l hl
      exact ⟨r1, r2, r3, cur, hw.same _ _ r4 (hw.cells _ _ _), r5⟩
  | .osl id off n, u, _, hv => by
    refine ⟨hv.1, ?_⟩
    have hv := hv.2
    unfold SubV at hv ⊢
    cases hs : c.σ id with
    | none => rw [hs] at hv; exact hv
    | some b =>
      rw [hs] at hv
      obtain ⟨a, q, hu, hr⟩ := hv
      refine ⟨a, q, hu, fun fr T t l hl => ?_⟩
      obtain ⟨cap, cur, r1, r2, r3, r4, r5, r6, r7⟩ := hr fr T t l hl
      exact ⟨cap, cur, r1, r2, r3, r4, r5, hw.same _ _ r6 (hw.cells _ _ _), r7⟩
  | .rptr id i off, u, _, hv => hv
  | .ros fr e t l, u, _, hv => Row.put hw hv fun x cs hc => CRel.put hw t x cs hc
  | .rop fr t x off, u, _, hv => by
    obtain ⟨b, o, cs, T, fz, hb, hu, hw', hs, hc⟩ := hv
    exact ⟨b, o, cs, T, fz, hb, hu, hw.same _ _ hw' (hw.cells _ _ _), hs, CRel.put hw t x _ hc⟩
  | .lit e t l, u, _, hv => by
    obtain ⟨h0, b, cur, hb, hu, hw', hm, hs, hr⟩ := hv
    exact ⟨h0, b, cur, hb, hu, hw.same _ _ hw' (hw.cells _ _ _), hm, hs, fun i x hx => CRel.put hw t x _ (hr i x hx)⟩
  | .mp id, u, _, hv => hv
  | .gd b v, u, hy, hv => ⟨fun hb => VRel.put hw v u hy (hv.1 hb), hv.2⟩
  | .clo f cs, u, hy, hv => by
    obtain ⟨vs, hu, hr⟩ := hv
    exact ⟨vs, hu, VRelL.put hw cs _ hy hr⟩
  | .yl tm ps asg body, u, hy, hv => by
    obtain ⟨l, lp, hu, hF, hl, h1, h2, h3, h4, h5, hr⟩ := hv
    have hy' := hy.resolve_left (by simp [noYl])
    exact ⟨l, lp, hu, hF, hw.same _ _ hl (hy' lp), h1, h2, h3, h4, h5, VRelL.put hw tm _ (.inr hy') hr⟩
  | .agg cs, u, hy, hv => by
    obtain ⟨vs, hu, hr⟩ := hv
    exact ⟨vs, hu, VRelL.put hw cs _ hy hr⟩
  | .tup cs, u, hy, hv => by
    obtain ⟨vs, hu, hr⟩ := hv
    exact ⟨vs, hu, VRelL.put hw cs _ hy hr⟩
theorem VRelL.put (hw : Lies st w w1) : ∀ (as : List AV) (us : List Value), (noYlL as = true ∨ ∀ lp, st (.loop lp) = true) → VRelL B c hp w as us → VRelL B c hp w1 as us
  | [], [], _, _ => trivial
  | a :: as, u :: us, hy, hv => by
    have h1 : noYl a = true ∨ ∀ lp, st (.loop lp) = true := hy.imp (fun h => by rw [noYlL, Bool.and_eq_true] at h; exact h.1) id
    have h2 : noYlL as = true ∨ ∀ lp, st (.loop lp) = true := hy.imp (fun h => by rw [noYlL, Bool.and_eq_true] at h; exact h.2) id
    exact ⟨VRel.put hw a u h1 hv.1, VRelL.put hw as us h2 hv.2⟩
  | [], _ :: _, _, h => by simp [VRelL] at h
  | _ :: _, [], _, h => by simp [VRelL] at h
end
theorem noYlH_look : ∀ {hp : List ABlk} (id : Nat), noYlH hp = true → noYlB (lookIn hp id) = true
  | [], id, _ => by simp [lookIn, noYlB]
  | b :: r, 0, h => by rw [noYlH, Bool.and_eq_true] at h; simpa [lookIn] using h.1
  | b :: r, id + 1, h => by
    rw [noYlH, Bool.and_eq_true] at h
    have := noYlH_look (hp := r) id h.2
    simpa [lookIn] using this
theorem BRel.put (hw : Lies st w w1) {id : Nat} {blk : ABlk} (hy : noYlB blk = true ∨ ∀ lp, st (.loop lp) = true) (hb : BRel B c hp w id blk) : BRel B c hp w1 id blk := by
  cases blk with
  | dead => trivial
  | smap l =>
    obtain ⟨b, es, clock, h1, h2, h3⟩ := hb
    exact ⟨b, es, clock, h1, hw.same _ _ h2 (hw.map _ _), h3⟩
  | cells cs T =>
    obtain ⟨b, vs, h1, h2, h3⟩ := hb
    exact ⟨b, vs, h1, hw.same _ _ h2 (hw.cells _ _ _), VRelL.put hw cs _ hy h3⟩
  | rows fr T t l =>
    obtain ⟨h0, hb⟩ := hb
    refine ⟨h0, ?_⟩
    cases hq : c.σ id with
    | none => rw [hq] at hb; exact hb
    | some b =>
      rw [hq] at hb
      obtain ⟨cap, cur, r1, r2, r3, r4, r5⟩ := hb
      exact ⟨cap, cur, hw.same _ _ r1 (hw.cells _ _ _), r2, r3, r4, fun i x hx => CRel.put hw t x _ (r5 i x hx)⟩
theorem HRel.put (hw : Lies st w w1) (hy : noYlH hp = true ∨ ∀ lp, st (.loop lp) = true) (h : HRel B c hp w) : HRel B c hp w1 :=
  ⟨fun b hb => h.bs b (by rw [← hw.size]; exact hb), fun b hb => by rw [hw.size]; exact h.lt b hb, h.dl, h.ld, fun id => BRel.put hw (hy.imp (noYlH_look id) fun h => h) (h.blk id), h.inj,
   fun id b h1 h2 => by rw [hw.size]; exact h.nf id b h1 h2, ⟨fun g t x hg => by
    obtain ⟨h1, cs, T, fz, h2, h3, h4⟩ := h.gl.1 g t x hg
    exact ⟨h1, cs, T, fz, hw.same _ _ h2 (hw.cells _ _ _), h3, CRel.put hw t x _ h4⟩, fun g hg => by
    obtain ⟨h1, m, T, fz, h2⟩ := h.gl.2 g hg
    exact ⟨h1, m, T, fz, hw.same _ _ h2 (hw.cells _ _ _)⟩⟩⟩
end

/-! ### the marks of loops over functions among the deferred calls -/
def DfrOk (n0 : Nat) (c : Cx) (w : World) : List Deferred → Prop
  | [] => True
  | d :: r => (∃ D, d = { target := .collected D, args := #[] } ∧ n0 ≤ D ∧ c.F D ∧ w.heap[D]? = some (.deferred (some [])) ∧ ∀ D', { target := .collected D', args := #[] } ∈ r → D' ≠ D) ∧ DfrOk n0 c w r
theorem DfrOk.evo {n0 : Nat} {L : Nat → Prop} {c c' : Cx} {hp hp' : List ABlk} {w w' : World} (h : Evo L c hp w c' hp' w') : ∀ {l : List Deferred}, DfrOk n0 c w l → DfrOk n0 c' w' l
  | [], _ => trivial
  | d :: r, ⟨⟨D, h1, h2, h3, h4, h5⟩, k⟩ => ⟨⟨D, h1, h2, h.F D h3, (h.keep D h3).trans h4, h5⟩, DfrOk.evo h k⟩

end Go.Proofs.YtbjanflhagkhlaaDoor.Sk
