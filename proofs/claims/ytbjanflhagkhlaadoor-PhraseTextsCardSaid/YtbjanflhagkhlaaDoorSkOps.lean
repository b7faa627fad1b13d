/- SK, part 4: operations: what the interpreter answers is what the machine does. First: changes of the list of blocks. -/
import Derived.Test.YtbjanflhagkhlaaDoorSkRel
import Derived.Laws.Tables
import Derived.Great.BuildSlice
set_option linter.unusedVariables false
set_option linter.unusedSimpArgs false
namespace Go.Proofs.YtbjanflhagkhlaaDoor.Sk
open Go Go.RowKit

namespace Rd
theorem runK_eq {α R : Type} (look : Nat → ABlk) : ∀ (m : Rd α) (g : List Nat) (K : α → List Nat → Option R), m.runK look g K = (m.runO look g).bind fun p => K p.1 p.2
  | ret a, g, K => rfl
  | fail, g, K => rfl
  | rd id k, g, K => by simp only [runK, runO]; exact runK_eq look _ _ _
  | chk b k, g, K => by
    cases b with
    | true => simp only [runK, runO, cond_true]; exact runK_eq look _ _ _
    | false => rfl
theorem runO_bind {α β : Type} (look : Nat → ABlk) : ∀ (m : Rd α) (f : α → Rd β) (g : List Nat), (m.bind f).runO look g = (m.runO look g).bind fun p => (f p.1).runO look p.2
  | ret a, f, g => rfl
  | fail, f, g => rfl
  | rd id k, f, g => by simp only [bind, runO]; exact runO_bind look _ _ _
  | chk b k, f, g => by
    cases b with
    | true => simp only [bind, runO, cond_true]; exact runO_bind look _ _ _
    | false => rfl
theorem bind_some {α β : Type} {look : Nat → ABlk} {m : Rd α} {f : α → Rd β} {g : List Nat} {r : β × List Nat} (h : (m.bind f).runO look g = some r) :
    ∃ a g1, m.runO look g = some (a, g1) ∧ (f a).runO look g1 = some r := by
  rw [runO_bind] at h
  cases hm : m.runO look g with
  | none => rw [hm] at h; cases h
  | some p => rw [hm] at h; exact ⟨p.1, p.2, rfl, h⟩
theorem chk_some {α : Type} {look : Nat → ABlk} {b : Bool} {k : Rd α} {g : List Nat} {r : α × List Nat} (h : (chk b k).runO look g = some r) : b = true ∧ k.runO look g = some r := by
  cases b with
  | true => exact ⟨rfl, h⟩
  | false => cases h
theorem ofO_some {α : Type} {look : Nat → ABlk} {o : Option α} {g : List Nat} {r : α × List Nat} (h : (ofO o).runO look g = some r) : o = some r.1 ∧ r.2 = g := by
  cases o with
  | none => cases h
  | some a => cases h; exact ⟨rfl, rfl⟩
theorem cond_some {α : Type} {look : Nat → ABlk} {b : Bool} {k : Rd α} {g : List Nat} {r : α × List Nat} (h : (cond b k fail).runO look g = some r) : b = true ∧ k.runO look g = some r := by
  cases b with
  | true => exact ⟨rfl, h⟩
  | false => cases h
end Rd

/-! ### the list of blocks -/
theorem lookIn_set (hp : List ABlk) (i id : Nat) (b : ABlk) : lookIn (hp.set i b) id = if i = id ∧ i < hp.length then b else lookIn hp id := by
  unfold lookIn
  rw [List.getElem?_set]
  by_cases h : i = id
  · subst h
    by_cases h' : i < hp.length
    · simp [h']
    · simp [h']
  · simp [h]

/-- hp' is hp behind an operation that makes blocks at the places from n on and changes others. -/
structure Upd (c : Cx) (hp : List ABlk) (n : Nat) (e : Eff) (hp' : List ABlk) : Prop where
  len : hp.length ≤ hp'.length
  ins : n + e.news.length ≤ hp'.length
  free : ∀ j, j < e.news.length → ¬ c.D (n + j)
  look : ∀ id, lookIn hp' id = match e.upd.lookup id with
    | some b => if id < hp'.length then b else .dead
    | none => if n ≤ id ∧ id < n + e.news.length then (e.news[id - n]?).getD .dead else lookIn hp id

def EffOk (B : Nat → Prop) (c : Cx) (hp : List ABlk) (w : World) (n : Nat) (e : Eff) (u : Value) (w' : World) : Prop :=
  ∀ hp', Upd c hp n e hp' → ∃ c', HRel B c' hp' w' ∧ Evo All c hp w c' hp' w' ∧ VRel B c' hp' w' e.v u ∧ ∀ id, c'.D id → c.D id ∨ (n ≤ id ∧ id < n + e.news.length)

section
variable {B : Nat → Prop} {c : Cx} {hp hp' : List ABlk} {w w' : World}

theorem BlkLe.of_eq {a b : ABlk} (h : b = a) : BlkLe a b := by subst h; exact BlkLe.refl _

theorem evo_look (hl : ∀ id, lookIn hp' id = lookIn hp id) : Evo All c hp w c hp' w :=
  ⟨fun _ _ h => h, fun _ _ _ => rfl, fun _ h => h, fun _ _ => rfl, Nat.le_refl _, fun b vs T fz h => ⟨vs, h, rfl⟩, fun id _ _ => BlkLe.of_eq (hl id), rfl, rfl, ⟨rfl, Nat.le_refl _⟩⟩

theorem hrel_look (h : HRel B c hp w) (hn : hp.length ≤ hp'.length) (hl : ∀ id, lookIn hp' id = lookIn hp id) : HRel B c hp' w :=
  ⟨h.bs, h.lt, fun id hd => Nat.lt_of_lt_of_le (h.dl id hd) hn, fun id hd => h.ld id (by rw [← hl]; exact hd),
   fun id => by rw [hl]; exact (h.blk id).evo (evo_look hl) rfl (fun _ _ => rfl),
   fun id id' b h1 h2 => h.inj id id' b (by rw [← hl]; exact h1) (by rw [← hl]; exact h2),
   fun id b h1 => h.nf id b (by rw [← hl]; exact h1), h.gl⟩

theorem Upd.plain {v : AV} {n : Nat} (h : Upd c hp n ⟨v, [], []⟩ hp') : hp.length ≤ hp'.length ∧ ∀ id, lookIn hp' id = lookIn hp id :=
  ⟨h.len, fun id => by
    have := h.look id
    simp only [List.lookup_nil, List.length_nil, Nat.add_zero] at this
    rw [this, if_neg (by omega)]⟩

/-- Nothing but a value. -/
theorem effOk_val (h : HRel B c hp w) {n : Nat} {v : AV} {u : Value} (hv : VRel B c hp w v u) : EffOk B c hp w n ⟨v, [], []⟩ u w := by
  intro hp' hu
  obtain ⟨h1, h2⟩ := hu.plain
  have he : Evo All c hp w c hp' w := evo_look h2
  exact ⟨c, hrel_look h h1 h2, he, hv.evo he, fun _ h => .inl h⟩

/-- One more block. -/
theorem hrel_new (h : HRel B c hp w) {n : Nat} (hn : ¬ c.D n) (hnl : n < hp'.length) (hln : hp.length ≤ hp'.length) {blk : ABlk} (hb : lookIn hp' n = blk)
    (ho : ∀ id, id ≠ n → lookIn hp' id = lookIn hp id) {s : Option Nat} (hk : ∀ b, b < w.heap.size → w'.heap[b]? = w.heap[b]?) (hsz : w.heap.size ≤ w'.heap.size)
    (hos : w'.os = w.os) (htp : w'.tape = w.tape) (hou : OutOk w w') (hs : ∀ b, s = some b → w.heap.size ≤ b ∧ b < w'.heap.size)
    (hr : ∀ c' : Cx, c'.σ n = s → c'.F = c.F → Evo All c hp w c' hp' w' → BRel B c' hp' w' n blk) :
    ∃ c' : Cx, HRel B c' hp' w' ∧ Evo All c hp w c' hp' w' ∧ c'.D n ∧ c'.σ n = s ∧ c'.F = c.F ∧ ∀ id, c'.D id → c.D id ∨ id = n := by
  have hdead : lookIn hp n = .dead := Classical.byContradiction fun hd => hn (h.ld n hd)
  let c' : Cx := ⟨fun id => c.D id ∨ id = n, fun id => if id = n then s else c.σ id, c.F⟩
  have hσ : ∀ id, id ≠ n → c'.σ id = c.σ id := fun id hid => by show (if id = n then s else c.σ id) = c.σ id; rw [if_neg hid]
  have hσn : c'.σ n = s := by show (if n = n then s else c.σ n) = s; rw [if_pos rfl]
  have hne : ∀ id, c.D id → id ≠ n := fun id hd e => hn (e ▸ hd)
  have he : Evo All c hp w c' hp' w' := ⟨fun id _ hd => .inl hd, fun id _ hd => hσ id (hne id hd), fun b hb => hb, fun b hb => hk b (h.lt b hb), hsz,
    fun b vs T fz hw => ⟨vs, by
      have hlt : b < w.heap.size := by
        rcases Nat.lt_or_ge b w.heap.size with h' | h'
        · exact h'
        · rw [Array.getElem?_eq_none h'] at hw; cases hw
      rw [hk b hlt]; exact hw, rfl⟩, fun id _ hd => BlkLe.of_eq (ho id (hne id hd)), hos, htp, hou⟩
  refine ⟨c', ⟨fun b hb => h.bs b (Nat.le_trans hsz hb), fun b hb => Nat.lt_of_lt_of_le (h.lt b hb) hsz, ?_, ?_, ?_, ?_, ?_, h.gl.keep he.F he.keep⟩, he, .inr rfl, hσn, rfl, fun _ h => h⟩
  · rintro id (hd | rfl)
    · exact Nat.lt_of_lt_of_le (h.dl id hd) hln
    · exact hnl
  · intro id hd
    by_cases hid : id = n
    · exact .inr hid
    · rw [ho id hid] at hd; exact .inl (h.ld id hd)
  · intro id
    by_cases hid : id = n
    · subst hid; rw [hb]; exact hr c' hσn rfl he
    · rw [ho id hid]
      by_cases hd : lookIn hp id = .dead
      · rw [hd]; trivial
      · exact (h.blk id).evo he (hσ id hid) fun b hsb => hk b (h.nf id b hd hsb).2.1
  · intro id id' b h1 h2 s1 s2
    by_cases hid : id = n
    · by_cases hid' : id' = n
      · rw [hid, hid']
      · rw [hid, hσn] at s1
        rw [hσ id' hid'] at s2
        rw [ho id' hid'] at h2
        have := (hs b s1).1
        have := (h.nf id' b h2 s2).2.1
        omega
    · by_cases hid' : id' = n
      · rw [hid', hσn] at s2
        rw [hσ id hid] at s1
        rw [ho id hid] at h1
        have := (hs b s2).1
        have := (h.nf id b h1 s1).2.1
        omega
      · rw [hσ id hid] at s1; rw [hσ id' hid'] at s2; rw [ho id hid] at h1; rw [ho id' hid'] at h2
        exact h.inj id id' b h1 h2 s1 s2
  · intro id b h1 s1
    by_cases hid : id = n
    · rw [hid, hσn] at s1
      have hsb := hs b s1
      exact ⟨fun hf => by have := h.lt b hf; omega, hsb.2, h.bs _ hsb.1⟩
    · rw [hσ id hid] at s1; rw [ho id hid] at h1
      have := h.nf id b h1 s1
      exact ⟨this.1, Nat.lt_of_lt_of_le this.2.1 hsz, this.2.2⟩

/-- Blocks given up: nobody writes them any more. -/
theorem hrel_kill (h : HRel B c hp w) (ks : List Nat) (hln : hp.length ≤ hp'.length) (hl : ∀ id, lookIn hp' id = if id ∈ ks then .dead else lookIn hp id) :
    HRel B ⟨c.D, c.σ, fun b => c.F b ∨ ∃ id, id ∈ ks ∧ lookIn hp id ≠ .dead ∧ c.σ id = some b⟩ hp' w ∧
    Evo All c hp w ⟨c.D, c.σ, fun b => c.F b ∨ ∃ id, id ∈ ks ∧ lookIn hp id ≠ .dead ∧ c.σ id = some b⟩ hp' w := by
  have he : Evo All c hp w ⟨c.D, c.σ, fun b => c.F b ∨ ∃ id, id ∈ ks ∧ lookIn hp id ≠ .dead ∧ c.σ id = some b⟩ hp' w :=
    ⟨fun _ _ h => h, fun _ _ _ => rfl, fun b hb => .inl hb, fun _ _ => rfl, Nat.le_refl _, fun b vs T fz h => ⟨vs, h, rfl⟩, fun id _ _ => by
      rw [hl]
      split
      · cases lookIn hp id <;> trivial
      · exact BlkLe.refl _, rfl, rfl, ⟨rfl, Nat.le_refl _⟩⟩
  refine ⟨⟨h.bs, ?_, fun id hd => Nat.lt_of_lt_of_le (h.dl id hd) hln, ?_, ?_, ?_, ?_, h.gl.keep he.F he.keep⟩, he⟩
  · rintro b (hb | ⟨id, _, hd, hs⟩)
    · exact h.lt b hb
    · exact (h.nf id b hd hs).2.1
  · intro id hd
    rw [hl] at hd
    split at hd
    · exact absurd rfl hd
    · exact h.ld id hd
  · intro id
    rw [hl]
    split
    · trivial
    · exact (h.blk id).evo he rfl (fun _ _ => rfl)
  · intro id id' b h1 h2 s1 s2
    rw [hl] at h1 h2
    split at h1
    · exact absurd rfl h1
    · split at h2
      · exact absurd rfl h2
      · exact h.inj id id' b h1 h2 s1 s2
  · intro id b h1 s1
    rw [hl] at h1
    split at h1
    · exact absurd rfl h1
    · rename_i hni
      have hnf := h.nf id b h1 s1
      refine ⟨?_, hnf.2⟩
      rintro (hb | ⟨k, hk, hd, hs⟩)
      · exact hnf.1 hb
      · exact hni (h.inj id k b h1 hd s1 hs ▸ hk)

/-- A block's cells written. -/
theorem hrel_upd (h : HRel B c hp w) {id : Nat} {b : Nat} (hd : lookIn hp id ≠ .dead) (hs : c.σ id = some b) {blk : ABlk} (hln : hp.length ≤ hp'.length)
    (hle : BlkLe (lookIn hp id) blk) (hnd : blk ≠ .dead) (hl : ∀ j, lookIn hp' j = if j = id then blk else lookIn hp j)
    (hk : ∀ j, j ≠ b → w'.heap[j]? = w.heap[j]?) (hsz : w'.heap.size = w.heap.size)
    (hsh : ∀ (vs : Array Value) (T : TypeId) (fz : Nat × Nat), w.heap[b]? = some (Obj.cells vs T fz) → ∃ vs' : Array Value, w'.heap[b]? = some (Obj.cells vs' T fz) ∧ vs'.size = vs.size)
    (hos : w'.os = w.os) (htp : w'.tape = w.tape) (hou : OutOk w w')
    (hr : Evo All c hp w c hp' w' → BRel B c hp' w' id blk) : HRel B c hp' w' ∧ Evo All c hp w c hp' w' := by
  have hnf := h.nf id b hd hs
  have he : Evo All c hp w c hp' w' := ⟨fun _ _ h => h, fun _ _ _ => rfl, fun _ h => h, fun j hj => hk j fun e => hnf.1 (e ▸ hj), Nat.le_of_eq hsz.symm,
    fun j vs T fz hw => by
      by_cases e : j = b
      · subst e; exact hsh vs T fz hw
      · exact ⟨vs, (hk j e).trans hw, rfl⟩, fun j _ _ => by
      rw [hl]
      split
      · rename_i e; rw [e]; exact hle
      · exact BlkLe.refl _, hos, htp, hou⟩
  have hlive : ∀ j, lookIn hp' j ≠ .dead → lookIn hp j ≠ .dead := fun j hj => by
    by_cases e : j = id
    · rw [e]; exact hd
    · rw [hl, if_neg e] at hj; exact hj
  refine ⟨⟨by rw [hsz]; exact h.bs, fun b hb => by rw [hsz]; exact h.lt b hb, fun j hj => Nat.lt_of_lt_of_le (h.dl j hj) hln, fun j hj => h.ld j (hlive j hj), ?_, ?_, ?_, h.gl.keep he.F he.keep⟩, he⟩
  · intro j
    rw [hl]
    split
    · rename_i e; rw [e]; exact hr he
    · rename_i e
      by_cases hdj : lookIn hp j = .dead
      · rw [hdj]; trivial
      · exact (h.blk j).evo he rfl fun q hq => hk q fun e' => e (h.inj j id b hdj hd (e' ▸ hq) hs)
  · exact fun i j q h1 h2 s1 s2 => h.inj i j q (hlive i h1) (hlive j h2) s1 s2
  · intro j q hj hq
    rw [hsz]
    exact h.nf j q (hlive j hj) hq
end

end Go.Proofs.YtbjanflhagkhlaaDoor.Sk
