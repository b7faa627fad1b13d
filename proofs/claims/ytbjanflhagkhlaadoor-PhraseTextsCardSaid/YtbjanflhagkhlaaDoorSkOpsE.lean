/- SK, part 10: appends and new slices. -/
import Derived.Test.YtbjanflhagkhlaaDoorSkOpsD
import Derived.Laws.MakeOwn
set_option linter.unusedVariables false
set_option linter.unusedSimpArgs false
namespace Go.Proofs.YtbjanflhagkhlaaDoor.Sk
open Go Go.RowKit

section
variable {B : Nat → Prop} {c : Cx} {hp hp' : List ABlk} {w w' : World} {P : Program}

/-- A block whose memory passes to another place of the list. -/
theorem hrel_move (h : HRel B c hp w) {n id : Nat} (hn : ¬ c.D n) (hnl : n < hp'.length) (hln : hp.length ≤ hp'.length) (hid : lookIn hp id ≠ .dead) {blk : ABlk}
    (hl : ∀ j, lookIn hp' j = if j = n then blk else if j = id then .dead else lookIn hp j) {s : Option Nat}
    (hk : ∀ b, b < w.heap.size → c.σ id ≠ some b → w'.heap[b]? = w.heap[b]?) (hsz : w.heap.size ≤ w'.heap.size)
    (hsh : ∀ (b : Nat) (vs : Array Value) (T : TypeId) (fz : Nat × Nat), c.σ id = some b → w.heap[b]? = some (Obj.cells vs T fz) → ∃ vs' : Array Value, w'.heap[b]? = some (Obj.cells vs' T fz) ∧ vs'.size = vs.size)
    (hos : w'.os = w.os) (htp : w'.tape = w.tape) (hou : OutOk w w') (hs : ∀ b, s = some b → c.σ id = some b ∨ (w.heap.size ≤ b ∧ b < w'.heap.size))
    (hr : ∀ c' : Cx, c'.σ n = s → c'.F = c.F → Evo All c hp w c' hp' w' → BRel B c' hp' w' n blk) :
    ∃ c' : Cx, HRel B c' hp' w' ∧ Evo All c hp w c' hp' w' ∧ c'.D n ∧ c'.σ n = s ∧ c'.F = c.F ∧ ∀ id, c'.D id → c.D id ∨ id = n := by
  have hdead : lookIn hp n = .dead := Classical.byContradiction fun hd => hn (h.ld n hd)
  have hne2 : id ≠ n := fun e => hn (e ▸ h.ld id hid)
  let c' : Cx := ⟨fun j => c.D j ∨ j = n, fun j => if j = n then s else c.σ j, c.F⟩
  have hσ : ∀ j, j ≠ n → c'.σ j = c.σ j := fun j hj => by show (if j = n then s else c.σ j) = c.σ j; rw [if_neg hj]
  have hσn : c'.σ n = s := by show (if n = n then s else c.σ n) = s; rw [if_pos rfl]
  have hne : ∀ j, c.D j → j ≠ n := fun j hd e => hn (e ▸ hd)
  have hlt : ∀ {b : Nat} {o : Obj}, w.heap[b]? = some o → b < w.heap.size := by
    intro b o hw
    rcases Nat.lt_or_ge b w.heap.size with h' | h'
    · exact h'
    · rw [Array.getElem?_eq_none h'] at hw; cases hw
  have he : Evo All c hp w c' hp' w' := ⟨fun j _ hd => .inl hd, fun j _ hd => hσ j (hne j hd), fun b hb => hb,
    fun b hb => hk b (h.lt b hb) fun e => (h.nf id b hid e).1 hb, hsz,
    fun b vs T fz hw => by
      by_cases e : c.σ id = some b
      · exact hsh b vs T fz e hw
      · exact ⟨vs, (hk b (hlt hw) e).trans hw, rfl⟩, fun j _ hd => by
      rw [hl, if_neg (hne j hd)]
      split
      · cases lookIn hp j <;> trivial
      · exact BlkLe.refl _, hos, htp, hou⟩
  have hold : ∀ j, j ≠ n → lookIn hp' j ≠ .dead → j ≠ id ∧ lookIn hp j ≠ .dead ∧ lookIn hp' j = lookIn hp j := by
    intro j hj hd
    rw [hl, if_neg hj] at hd
    by_cases e : j = id
    · rw [if_pos e] at hd; exact absurd rfl hd
    · rw [if_neg e] at hd; exact ⟨e, hd, by rw [hl, if_neg hj, if_neg e]⟩
  have hapart : ∀ j b, j ≠ n → lookIn hp' j ≠ .dead → c.σ j = some b → c.σ id ≠ some b := fun j b hj hd hsj hsi => by
    obtain ⟨h1, h2, _⟩ := hold j hj hd
    exact h1 (h.inj j id b h2 hid hsj hsi)
  refine ⟨c', ⟨fun b hb => h.bs b (Nat.le_trans hsz hb), fun b hb => Nat.lt_of_lt_of_le (h.lt b hb) hsz, ?_, ?_, ?_, ?_, ?_, h.gl.keep he.F he.keep⟩, he, .inr rfl, hσn, rfl, fun _ h => h⟩
  · rintro j (hd | rfl)
    · exact Nat.lt_of_lt_of_le (h.dl j hd) hln
    · exact hnl
  · intro j hd
    by_cases hj : j = n
    · exact .inr hj
    · exact .inl (h.ld j (hold j hj hd).2.1)
  · intro j
    by_cases hj : j = n
    · subst hj; rw [hl, if_pos rfl]; exact hr c' hσn rfl he
    · by_cases hd : lookIn hp' j = .dead
      · rw [hd]; trivial
      · obtain ⟨h1, h2, h3⟩ := hold j hj hd
        rw [h3]
        exact (h.blk j).evo he (hσ j hj) fun b hsb => hk b (h.nf j b h2 hsb).2.1 (hapart j b hj hd hsb)
  · intro i j b h1 h2 s1 s2
    by_cases hi : i = n
    · by_cases hj : j = n
      · rw [hi, hj]
      · rw [hi, hσn] at s1
        rw [hσ j hj] at s2
        rcases hs b s1 with e | e
        · exact absurd e (hapart j b hj h2 s2)
        · have := (h.nf j b (hold j hj h2).2.1 s2).2.1; omega
    · by_cases hj : j = n
      · rw [hj, hσn] at s2
        rw [hσ i hi] at s1
        rcases hs b s2 with e | e
        · exact absurd e (hapart i b hi h1 s1)
        · have := (h.nf i b (hold i hi h1).2.1 s1).2.1; omega
      · rw [hσ i hi] at s1; rw [hσ j hj] at s2
        exact h.inj i j b (hold i hi h1).2.1 (hold j hj h2).2.1 s1 s2
  · intro j b h1 s1
    by_cases hj : j = n
    · rw [hj, hσn] at s1
      rcases hs b s1 with e | e
      · have := h.nf id b hid e
        exact ⟨this.1, Nat.lt_of_lt_of_le this.2.1 hsz, this.2.2⟩
      · exact ⟨fun hf => by have := h.lt b hf; omega, e.2, h.bs _ e.1⟩
    · rw [hσ j hj] at s1
      have := h.nf j b (hold j hj h1).2.1 s1
      exact ⟨this.1, Nat.lt_of_lt_of_le this.2.1 hsz, this.2.2⟩

theorem CRel.one {ok : Nat → Prop} : ∀ (t : Ty) (x : t.den) (vs : List Value), CRel w ok t x vs → ∀ v ∈ vs, v.oneCell' = true
  | .int _, _, vs, h, v, hv => by simp only [CRel] at h; subst h; simp at hv; subst hv; rfl
  | .bool, _, vs, h, v, hv => by simp only [CRel] at h; subst h; simp at hv; subst hv; rfl
  | .str, _, vs, h, v, hv => by simp only [CRel] at h; subst h; simp at hv; subst hv; rfl
  | .flt, _, vs, h, v, hv => by simp only [CRel] at h; subst h; simp at hv; subst hv; rfl
  | .unit, _, vs, h, v, hv => by simp only [CRel] at h; subst h; cases hv
  | .pair a b, x, vs, h, v, hv => by
    obtain ⟨v1, v2, e, h1, h2⟩ := h
    subst e
    rcases List.mem_append.1 hv with hv | hv
    · exact CRel.one a _ _ h1 v hv
    · exact CRel.one b _ _ h2 v hv
  | .vec n k, l, vs, h, v, hv => by
    obtain ⟨_, rfl⟩ := h
    obtain ⟨i, _, rfl⟩ := List.mem_map.1 hv; rfl
  | .sl _ t, l, vs, h, v, hv => by obtain ⟨u, e, A, q, rfl, _⟩ := h; subst e; simp at hv; subst hv; rfl

/-- What a row that is read holds, cell by cell. -/
theorem Row.cells {ok ok' : Nat → Prop} {t : Ty} {l : List t.den} {A : Option Addr} {n q : Nat} (h : Row w ok (CRel w ok' t) t.size l (.slice A n q)) (hne : l ≠ []) :
    ∃ (a : Addr) (news : List Value), A = some a ∧ n = l.length ∧ news.length = l.length * t.size ∧ (∀ (j : Nat) (u : Value), news[j]? = some u → w.cell? (a.add j) = some u) ∧ (∀ u ∈ news, u.oneCell' = true) ∧
      ∀ (i : Nat) (x : t.den), l[i]? = some x → CRel w ok' t x ((news.drop (i * t.size)).take t.size) := by
  obtain ⟨A', q', e, hq, hm⟩ := h
  cases e
  obtain ⟨b, o, cs, T, fz, rfl, hb, hw, hs, hr⟩ := hm hne
  have hcl : cs.toList.length = cs.size := Array.length_toList
  have hnl : ((cs.toList.drop o).take (l.length * t.size)).length = l.length * t.size := by simp; omega
  have hrow : ∀ (i : Nat) (x : t.den), l[i]? = some x → ((((cs.toList.drop o).take (l.length * t.size)).drop (i * t.size)).take t.size) = (cs.toList.drop (o + i * t.size)).take t.size := by
    intro i x hx
    have hi : i < l.length := by
      rcases Nat.lt_or_ge i l.length with h' | h'
      · exact h'
      · rw [List.getElem?_eq_none h'] at hx; cases hx
    have : (i + 1) * t.size ≤ l.length * t.size := Nat.mul_le_mul_right _ hi
    rw [Nat.add_mul, Nat.one_mul] at this
    rw [List.drop_take, List.take_take, List.drop_drop, Nat.min_eq_left (by omega)]
  refine ⟨_, (cs.toList.drop o).take (l.length * t.size), rfl, rfl, hnl, ?_, ?_, fun i x hx => by rw [hrow i x hx]; exact hr i x hx⟩
  · intro j u hj
    have := drop_take_get j u hj
    rw [addr_add, cell_row hw]
    simpa using this
  · intro u hu
    obtain ⟨j, hj, rfl⟩ := List.getElem_of_mem hu
    rw [hnl] at hj
    by_cases h0 : t.size = 0
    · rw [h0] at hj; omega
    have hjd : j / t.size < l.length := Nat.div_lt_of_lt_mul (by rw [Nat.mul_comm]; exact hj)
    have hx : l[j / t.size]? = some l[j / t.size] := by simp [hjd]
    have hc := hr _ _ hx
    rw [← hrow _ _ hx] at hc
    refine CRel.one t _ _ hc _ ?_
    have hmod := Nat.mod_lt j (Nat.pos_of_ne_zero h0)
    have hdm := Nat.div_add_mod j t.size
    refine List.mem_of_getElem? (i := j % t.size) ?_
    rw [List.getElem?_take, if_pos hmod, List.getElem?_drop]
    rw [show j / t.size * t.size + j % t.size = j by rw [Nat.mul_comm]; exact hdm]
    exact List.getElem?_eq_getElem _

theorem rowOk_some {e : TypeId} {t : Ty} (h : rowOk P e t = true) : ∃ i z, P.info? e = some i ∧ i.zero = some z ∧ i.size = t.size ∧ z.cells.size = t.size ∧ 0 < t.size := by
  simp only [rowOk, Bool.and_eq_true, decide_eq_true_eq] at h
  obtain ⟨⟨h1, h2⟩, h3⟩ := h
  simp only [sizeA, Option.map_eq_some_iff] at h1
  obtain ⟨i, hi, hs⟩ := h1
  simp only [Option.map_eq_some_iff] at h2
  obtain ⟨cs, hc, hl⟩ := h2
  obtain ⟨i', z, hi', hz, rfl⟩ := zeroA_some hc
  rw [hi] at hi'; cases hi'
  refine ⟨i, z, hi, hz, hs, by simpa using hl, h3⟩

theorem row_append {t : Ty} {ok : Nat → Prop} {l m : List t.den} {xs ys : List Value} {w1 : World} (hx : xs.length = l.length * t.size) (hy : ys.length = m.length * t.size)
    (h1 : ∀ (i : Nat) (x : t.den), l[i]? = some x → CRel w1 ok t x ((xs.drop (i * t.size)).take t.size)) (h2 : ∀ (i : Nat) (x : t.den), m[i]? = some x → CRel w1 ok t x ((ys.drop (i * t.size)).take t.size)) (rest : List Value) :
    ∀ (i : Nat) (x : t.den), (l ++ m)[i]? = some x → CRel w1 ok t x (((xs ++ ys ++ rest).drop (i * t.size)).take t.size) := by
  intro i x hi
  rw [List.getElem?_append] at hi
  split at hi
  · rename_i hlt
    have : (i + 1) * t.size ≤ l.length * t.size := Nat.mul_le_mul_right _ hlt
    rw [Nat.add_mul, Nat.one_mul] at this
    rw [List.append_assoc, List.drop_append_of_le_length (by omega), List.take_append_of_le_length (by simp; omega)]
    exact h1 i x hi
  · rename_i hge
    have hge' : l.length ≤ i := Nat.le_of_not_lt hge
    have hlt : i - l.length < m.length := by
      rcases Nat.lt_or_ge (i - l.length) m.length with h' | h'
      · exact h'
      · rw [List.getElem?_eq_none h'] at hi; cases hi
    have h3 : (i - l.length + 1) * t.size ≤ m.length * t.size := Nat.mul_le_mul_right _ hlt
    rw [Nat.add_mul, Nat.one_mul] at h3
    have h4 : i * t.size = xs.length + (i - l.length) * t.size := by rw [hx, ← Nat.add_mul]; congr 1; omega
    rw [h4, List.append_assoc, List.drop_append, List.drop_eq_nil_of_le (by omega), List.nil_append, show xs.length + (i - l.length) * t.size - xs.length = (i - l.length) * t.size by omega,
      List.drop_append_of_le_length (by omega), List.take_append_of_le_length (by simp; omega)]
    exact h2 _ x hi

theorem append_none {T ty e : TypeId} {i : TypeInfo} (ht : P.underlying T = some (.slice e)) (hi : P.info? e = some i) (base A : Option Addr) (n q q' : Nat) (hn : n ≤ q) (hb : base = none → n = 0 ∧ q = 0) :
    (Builtin.append_ #[T, T] ty #[.slice base n q, .slice A 0 q']).run P w = .ok (.slice base n q) w := by
  have hf : (Builtin.firstCells i.size 0 (.slice A 0 q')).run P w = .ok #[] w := by
    cases A <;> simp [Builtin.firstCells, loadCells, loadCellsFrom]
  cases base <;> simp [Builtin.append_, run_underlying ht, sizeOf, typeInfo, hi, Builtin.lenOf, hn, hf, storeCells]

theorem Row.nil_of {α : Type} {ok : Nat → Prop} {R : α → List Value → Prop} {size : Nat} {v : Value} (h : Row w ok R size ([] : List α) v) : ∃ A q, v = .slice A 0 q := by
  obtain ⟨A, q, rfl, _⟩ := h; exact ⟨A, q, rfl⟩

/-- A slice in a block of its own, or nil. -/
def Held (w : World) (old : Option Nat) (T : TypeId) (t : Ty) (ok : Nat → Prop) (w0 : World) (l : List t.den) (u : Value) : Prop :=
  (old = none ∧ l = [] ∧ u = .slice none 0 0) ∨ ∃ b cap cur, old = some b ∧ u = .slice (some ⟨b, 0, none⟩) l.length cap ∧ w.heap[b]? = some (.cells cur T (0, 0)) ∧ l.length ≤ cap ∧ cap ≤ maxLen ∧
    cur.size = cap * t.size ∧ ∀ (i : Nat) (x : t.den), l[i]? = some x → CRel w0 ok t x ((cur.toList.drop (i * t.size)).take t.size)

theorem append_run {T ty el : TypeId} {t : Ty} {i : TypeInfo} {z : Value} (hT : P.underlying T = some (.slice el)) (hi : P.info? el = some i) (hz : i.zero = some z) (hsz : i.size = t.size) (hzs : z.cells.size = t.size) (h0 : 0 < t.size)
    {l m : List t.den} {u v : Value} {old : Option Nat} {ok ok1 : Nat → Prop} (hu : Held w old el t ok w l u) (hx : Row w ok1 (CRel w ok t) t.size m v)
    (hbytes : (l.length + m.length) * i.bytes ≤ 140737488355328) (hmax : l.length + m.length ≤ maxLen) :
    ∃ r w' s, (Builtin.append_ #[T, T] ty #[u, v]).run P w = .ok r w' ∧ Held w' s el t ok w (l ++ m) r ∧ (∀ b, b < w.heap.size → old ≠ some b → w'.heap[b]? = w.heap[b]?) ∧ w.heap.size ≤ w'.heap.size ∧
      (∀ (b : Nat) (vs : Array Value) (T : TypeId) (fz : Nat × Nat), old = some b → w.heap[b]? = some (Obj.cells vs T fz) → ∃ vs' : Array Value, w'.heap[b]? = some (Obj.cells vs' T fz) ∧ vs'.size = vs.size) ∧
      w'.os = w.os ∧ w'.tape = w.tape ∧ OutOk w w' ∧ (∀ b, s = some b → old = some b ∨ (w.heap.size ≤ b ∧ b < w'.heap.size)) := by
  have hmax' : l.length + m.length ≤ 9223372036854775807 := by have h' := hmax; simp only [maxLen] at h'; omega
  obtain ⟨A, q, hv⟩ : ∃ A q, v = .slice A m.length q := by obtain ⟨A, q, rfl, _⟩ := hx; exact ⟨A, q, rfl⟩
  subst hv
  by_cases hm0 : m = []
  · subst hm0
    rcases hu with ⟨rfl, rfl, rfl⟩ | ⟨b, cap, cur, rfl, rfl, hw, h1, h2, h3, h4⟩
    · exact ⟨_, w, none, append_none hT hi none A 0 0 q (Nat.le_refl _) (fun _ => ⟨rfl, rfl⟩), .inl ⟨rfl, rfl, rfl⟩, fun _ _ _ => rfl, Nat.le_refl _, fun b vs T fz h _ => (by cases h), rfl, rfl, ⟨rfl, Nat.le_refl _⟩, fun b h => by cases h⟩
    · exact ⟨_, w, some b, append_none hT hi (some _) A _ cap q h1 (fun h => by cases h), .inr ⟨b, cap, cur, rfl, by simp, hw, by simpa using h1, h2, h3, by simpa using h4⟩, fun _ _ _ => rfl, Nat.le_refl _,
        fun b vs T fz _ h => ⟨vs, h, rfl⟩, rfl, rfl, ⟨rfl, Nat.le_refl _⟩, fun b h => .inl h⟩
  · obtain ⟨a, news, rfl, _, hnl, hnc, hn1, hnr⟩ := hx.cells hm0
    have hpos : 0 < m.length := List.length_pos_iff.2 hm0
    have hnl' : news.length = m.length * i.size := by rw [hnl, hsz]
    -- a new block
    have grown : ∀ (old' need : Nat) (xs : List Value), need = l.length + m.length → xs.length = l.length * t.size → (∀ (i : Nat) (x : t.den), l[i]? = some x → CRel w ok t x ((xs.drop (i * t.size)).take t.size)) →
        Held (w.drew.alloc (.cells (xs.toArray ++ news.toArray ++ Builtin.zeroCells z.cells (grownCap w need old' el - need)) el)) (some w.heap.size) el t ok w (l ++ m) (.slice (some ⟨w.heap.size, 0, none⟩) need (grownCap w need old' el)) := by
      intro old' need xs hneed hxl hxr
      subst hneed
      have hge := grownCap_ge w (l.length + m.length) old' el
      have hcm := grownCap_le_maxLen w (l.length + m.length) old' el hmax
      refine .inr ⟨_, _, _, rfl, by simp, alloc_new w.drew _, by simpa using hge, hcm, ?_, ?_⟩
      · simp only [Array.size_append, List.size_toArray, size_zeroCells, hzs, hnl, hxl, ← Nat.add_mul]; congr 1; omega
      · intro j x hj
        have := row_append hxl hnl hxr hnr (Builtin.zeroCells z.cells (grownCap w (l.length + m.length) old' el - (l.length + m.length))).toList j x hj
        simpa using this
    have gk : ∀ (cs : Array Value), (∀ b, b < w.heap.size → (w.drew.alloc (.cells cs el)).heap[b]? = w.heap[b]?) ∧ w.heap.size ≤ (w.drew.alloc (.cells cs el)).heap.size ∧ w.heap.size < (w.drew.alloc (.cells cs el)).heap.size :=
      fun cs => ⟨fun b hb => alloc_keep w.drew _ b hb, by simp, by simp⟩
    have hlt : ∀ {b : Nat} {o : Obj}, w.heap[b]? = some o → b < w.heap.size := by
      intro b o hw
      rcases Nat.lt_or_ge b w.heap.size with h' | h'
      · exact h'
      · rw [Array.getElem?_eq_none h'] at hw; cases hw
    rcases hu with ⟨rfl, rfl, rfl⟩ | ⟨b, cap, cur, rfl, rfl, hw, h1, h2, h3, h4⟩
    · simp only [List.length_nil, Nat.zero_add] at hbytes hmax' hmax grown
      have hrun := run_append_nil (P := P) w T ty el i z hT hi hz a m.length q news hnl' hnc hpos (by omega) (by omega)
      have hg := grown 0 m.length [] rfl (by simp) (fun i x h => by simp at h)
      rw [show ([] : List Value).toArray ++ news.toArray = news.toArray by simp] at hg
      exact ⟨_, _, some w.heap.size, hrun, hg, fun b hb _ => (gk _).1 b hb, (gk _).2.1, fun b vs T fz h _ => (by cases h), rfl, rfl, ⟨rfl, Nat.le_succ _⟩, fun b h => by cases h; exact .inr ⟨Nat.le_refl _, (gk _).2.2⟩⟩
    · have hcl : cur.toList.length = cur.size := Array.length_toList
      have hlc : l.length * t.size ≤ cur.size := by rw [h3]; exact Nat.mul_le_mul_right _ h1
      by_cases hroom : l.length + m.length ≤ cap
      · have hfit : l.length * i.size + news.length ≤ cur.size := by rw [hsz, hnl, h3, ← Nat.add_mul]; exact Nat.mul_le_mul_right _ hroom
        have hrun := run_append_room (P := P) w T ty el i hT hi b l.length cap cur hw a m.length q news hnl' hnc hn1 hroom hfit
        rw [hsz] at hrun hfit
        refine ⟨_, _, some b, hrun, .inr ⟨b, cap, _, rfl, by simp, setRow_heap w b cur _ el _ hw, by simpa using hroom, h2, ?_, ?_⟩, fun k _ hk => setRow_other w b k _ (fun e => hk (by rw [e])), by simp [(setRow_os w b _).2.2.2], ?_,
          (setRow_os w b _).1, (setRow_os w b _).2.1, (setRow_os w b _).2.2.1, fun k h => .inl h⟩
        · rw [← h3]; simp; omega
        · intro j x hj
          have hxl : (cur.toList.take (l.length * t.size)).length = l.length * t.size := by simp; omega
          have := row_append (xs := cur.toList.take (l.length * t.size)) hxl hnl (fun i x hx => by
            have hi' : i < l.length := by
              rcases Nat.lt_or_ge i l.length with h' | h'
              · exact h'
              · rw [List.getElem?_eq_none h'] at hx; cases hx
            have : (i + 1) * t.size ≤ l.length * t.size := Nat.mul_le_mul_right _ hi'
            rw [Nat.add_mul, Nat.one_mul] at this
            rw [List.drop_take, List.take_take, Nat.min_eq_left (by omega)]
            exact h4 i x hx) hnr (cur.toList.drop (l.length * t.size + news.length)) j x hj
          simpa using this
        · intro k vs T' fz hk hwk
          cases hk
          rw [hw] at hwk; cases hwk
          refine ⟨_, setRow_heap w b cur _ el _ hw, ?_⟩
          simp; omega
      · have holds : ∀ (j : Nat) (u : Value), (cur.toList.take (l.length * t.size))[j]? = some u → w.cell? ((⟨b, 0, none⟩ : Addr).add j) = some u := by
          intro j u hj
          rw [addr_add, cell_row hw, Nat.zero_add]
          rw [List.getElem?_take] at hj
          split at hj
          · simpa using hj
          · cases hj
        have hxl : (cur.toList.take (l.length * t.size)).length = l.length * t.size := by simp; omega
        have hrun := run_append_grow (P := P) w T ty el i z hT hi hz ⟨b, 0, none⟩ l.length cap _ (by rw [hxl, hsz]) holds a m.length q news hnl' hnc (by omega) (by omega) (growslice_fits (by omega) hbytes)
        have hg := grown cap (l.length + m.length) _ rfl hxl (fun i x hx => by
            have hi' : i < l.length := by
              rcases Nat.lt_or_ge i l.length with h' | h'
              · exact h'
              · rw [List.getElem?_eq_none h'] at hx; cases hx
            have : (i + 1) * t.size ≤ l.length * t.size := Nat.mul_le_mul_right _ hi'
            rw [Nat.add_mul, Nat.one_mul] at this
            rw [List.drop_take, List.take_take, Nat.min_eq_left (by omega)]
            exact h4 i x hx)
        exact ⟨_, _, some w.heap.size, hrun, hg, fun b hb _ => (gk _).1 b hb, (gk _).2.1, fun k vs T' fz hk hwk => by cases hk; exact ⟨vs, ((gk _).1 b (hlt hw)).trans hwk, rfl⟩, rfl, rfl, ⟨rfl, Nat.le_succ _⟩,
          fun b h => by cases h; exact .inr ⟨Nat.le_refl _, (gk _).2.2⟩⟩

/-- Behind a full slice: a new block. -/
theorem append_full {T ty el : TypeId} {t : Ty} {i : TypeInfo} {z : Value} (hT : P.underlying T = some (.slice el)) (hi : P.info? el = some i) (hz : i.zero = some z) (hsz : i.size = t.size) (hzs : z.cells.size = t.size) (h0 : 0 < t.size)
    {l m : List t.den} {v : Value} {b : Nat} {cur : Array Value} {ok ok1 : Nat → Prop} (hw : w.heap[b]? = some (.cells cur el (0, 0))) (hcs : cur.size = l.length * t.size) (h4 : ∀ (i : Nat) (x : t.den), l[i]? = some x → CRel w ok t x ((cur.toList.drop (i * t.size)).take t.size))
    (hx : Row w ok1 (CRel w ok t) t.size m v) (hm0 : m ≠ []) (hbytes : (l.length + m.length) * i.bytes ≤ 140737488355328) (hmax : l.length + m.length ≤ maxLen) :
    ∃ r w', (Builtin.append_ #[T, T] ty #[.slice (some ⟨b, 0, none⟩) l.length l.length, v]).run P w = .ok r w' ∧ Held w' (some w.heap.size) el t ok w (l ++ m) r ∧ (∀ b, b < w.heap.size → w'.heap[b]? = w.heap[b]?) ∧ w.heap.size < w'.heap.size ∧
      w'.os = w.os ∧ w'.tape = w.tape ∧ OutOk w w' := by
  have hmax' : l.length + m.length ≤ 9223372036854775807 := by have h' := hmax; simp only [maxLen] at h'; omega
  obtain ⟨A, q, hv⟩ : ∃ A q, v = .slice A m.length q := by obtain ⟨A, q, rfl, _⟩ := hx; exact ⟨A, q, rfl⟩
  subst hv
  obtain ⟨a, news, rfl, _, hnl, hnc, hn1, hnr⟩ := hx.cells hm0
  have hpos : 0 < m.length := List.length_pos_iff.2 hm0
  have hnl' : news.length = m.length * i.size := by rw [hnl, hsz]
  have gk : ∀ (cs : Array Value), (∀ b, b < w.heap.size → (w.drew.alloc (.cells cs el)).heap[b]? = w.heap[b]?) ∧ w.heap.size < (w.drew.alloc (.cells cs el)).heap.size :=
    fun cs => ⟨fun b hb => alloc_keep w.drew _ b hb, by simp⟩
  have hcl : cur.toList.length = cur.size := Array.length_toList
  have holds : ∀ (j : Nat) (u : Value), (cur.toList.take (l.length * t.size))[j]? = some u → w.cell? ((⟨b, 0, none⟩ : Addr).add j) = some u := by
    intro j u hj
    rw [addr_add, cell_row hw, Nat.zero_add]
    rw [List.getElem?_take] at hj
    split at hj
    · simpa using hj
    · cases hj
  have hxl : (cur.toList.take (l.length * t.size)).length = l.length * t.size := by simp; omega
  have hrun := run_append_grow (P := P) w T ty el i z hT hi hz ⟨b, 0, none⟩ l.length l.length _ (by rw [hxl, hsz]) holds a m.length q news hnl' hnc (by omega) (by omega) (growslice_fits (by omega) hbytes)
  have hxr : ∀ (i : Nat) (x : t.den), l[i]? = some x → CRel w ok t x (((cur.toList.take (l.length * t.size)).drop (i * t.size)).take t.size) := fun i x hx => by
    have hi' : i < l.length := by
      rcases Nat.lt_or_ge i l.length with h' | h'
      · exact h'
      · rw [List.getElem?_eq_none h'] at hx; cases hx
    have : (i + 1) * t.size ≤ l.length * t.size := Nat.mul_le_mul_right _ hi'
    rw [Nat.add_mul, Nat.one_mul] at this
    rw [List.drop_take, List.take_take, Nat.min_eq_left (by omega)]
    exact h4 i x hx
  refine ⟨_, _, hrun, ?_, (gk _).1, (gk _).2, rfl, rfl, ⟨rfl, Nat.le_succ _⟩⟩
  have hge := grownCap_ge w (l.length + m.length) l.length el
  have hcm := grownCap_le_maxLen w (l.length + m.length) l.length el hmax
  refine .inr ⟨_, _, _, rfl, by simp, alloc_new w.drew _, by simpa using hge, hcm, ?_, ?_⟩
  · simp only [Array.size_append, List.size_toArray, size_zeroCells, hzs, hnl, hxl, ← Nat.add_mul]; congr 1; omega
  · intro j x hj
    have := row_append hxl hnl hxr hnr (Builtin.zeroCells z.cells (grownCap w (l.length + m.length) l.length el - (l.length + m.length))).toList j x hj
    simpa using this

theorem crel_fl {F fr : Bool} {t : Ty} (hF : t.flat = true ∨ (F = true → fr = true)) {x : t.den} {vs : List Value} (h : CRel w (okF B c fr) t x vs) : CRel w (okF B c F) t x vs := by
  rcases hF with hF | hF
  · exact CRel.flat t x vs hF h
  · exact h.weaken (fun b hb => hb.weaken hF) _ _ _
theorem row_fl {F fr : Bool} {t : Ty} {ok : Nat → Prop} {l : List t.den} {v : Value} (hF : t.flat = true ∨ (F = true → fr = true)) (h : Row w ok (CRel w (okF B c fr) t) t.size l v) : Row w ok (CRel w (okF B c F) t) t.size l v :=
  h.mono (fun _ _ => rfl) (fun _ h => h) fun x cs hc => crel_fl hF hc

theorem flag_l {t : Ty} {a b : Bool} : t.flat = true ∨ ((t.flat || (a && b)) = true → a = true) := by
  cases t.flat <;> simp
  intro h _; exact h
theorem flag_r {t : Ty} {a b : Bool} : t.flat = true ∨ ((t.flat || (a && b)) = true → b = true) := by
  cases t.flat <;> simp
theorem flag_1 {t : Ty} {a : Bool} : t.flat = true ∨ ((t.flat || a) = true → a = true) := by
  cases t.flat <;> simp

/-- What a held slice becomes: a block at a new place. -/
theorem held_eff {el : TypeId} {t : Ty} {F : Bool} (hH : HRel B c hp w) {n id : Nat} (h0 : 0 < t.size) {L : List t.den} {r : Value} {w' : World} {s' : Option Nat} (hlive : lookIn hp id ≠ .dead)
    (hh : Held w' s' el t (okF B c F) w L r) (hk : ∀ b, b < w.heap.size → c.σ id ≠ some b → w'.heap[b]? = w.heap[b]?) (hszw : w.heap.size ≤ w'.heap.size)
    (hsh : ∀ (b : Nat) (vs : Array Value) (T : TypeId) (fz : Nat × Nat), c.σ id = some b → w.heap[b]? = some (Obj.cells vs T fz) → ∃ vs' : Array Value, w'.heap[b]? = some (Obj.cells vs' T fz) ∧ vs'.size = vs.size)
    (hos : w'.os = w.os) (htp : w'.tape = w.tape) (hou : OutOk w w') (hs' : ∀ b, s' = some b → c.σ id = some b ∨ (w.heap.size ≤ b ∧ b < w'.heap.size)) :
    EffOk B c hp w n ⟨.own n, [.rows F el t L], [(id, .dead)]⟩ r w' := by
  have hnF : ∀ b, c.σ id = some b → ¬ c.F b := fun b hb => (hH.nf id b hlive hb).1
  intro hp' hu
  have hf : ¬ c.D n := by simpa using hu.free 0 (by simp)
  have hins := hu.ins
  simp only [List.length_cons, List.length_nil] at hins
  have hne : id ≠ n := fun e => hf (e ▸ hH.ld id hlive)
  have hq : ∀ j, lookIn hp' j = if j = n then .rows F el t L else if j = id then .dead else lookIn hp j := by
    intro j
    rw [hu.look j]
    by_cases e : j = id
    · subst e
      rw [if_neg hne]
      simp
    · have hfj : (j == id) = false := by simpa using e
      simp only [List.lookup_cons, hfj, List.lookup_nil, List.length_cons, List.length_nil]
      by_cases e2 : j = n
      · subst e2; simp
      · rw [if_neg (by omega), if_neg e2, if_neg e]
  obtain ⟨c', k1, k2, k3, k4, k5, k6⟩ := hrel_move (w' := w') hH hf (by omega) hu.len hlive hq (s := s') hk hszw hsh hos htp hou hs'
    (fun c' hcs hcF he => by
      rcases hh with ⟨h5, h6, h7⟩ | ⟨b, cap, cur, h5, h6, hw, h1, h2, h3, h4⟩
      · exact ⟨h0, by rw [hcs, h5]; exact h6⟩
      · refine ⟨h0, by rw [hcs, h5]; exact ⟨cap, cur, hw, h1, h2, h3, fun j x hj => CRel.mono (fun b hb => hk b (hH.lt b hb.1) fun e => hnF b e hb.1) (fun b hb => ⟨by rw [hcF]; exact hb.1, hb.2⟩) t x _ (h4 j x hj)⟩⟩)
  refine ⟨c', k1, k2, ?_, fun id hid => (k6 id hid).imp (fun h => h) fun e => by subst e; simp⟩
  have hln : lookIn hp' n = .rows F el t L := by rw [hq, if_pos rfl]
  rcases hh with ⟨rfl, h6, h7⟩ | ⟨b, cap, cur, rfl, h6, hw, h1, h2, h3, h4⟩
  · refine ⟨k3, ?_⟩
    unfold OwnV; rw [k4]; exact h7
  · refine ⟨k3, ?_⟩
    unfold OwnV; rw [k4]
    refine ⟨_, cap, h6, fun fr' T' t' l' hl' => ?_⟩
    rw [hln] at hl'
    cases hl'
    exact ⟨rfl, h1, h2, cur, hw, h3⟩

/-- What a held slice becomes behind an append: a block at a new place. -/
theorem append_new {T el : TypeId} {t : Ty} {F : Bool} {i : TypeInfo} {z : Value} (hH : HRel B c hp w) {n id : Nat} (hT : P.underlying T = some (.slice el)) (hi : P.info? el = some i) (hz : i.zero = some z) (hsz : i.size = t.size) (hzs : z.cells.size = t.size) (h0 : 0 < t.size)
    {l m : List t.den} {u v : Value} {ok1 : Nat → Prop} (hlive : lookIn hp id ≠ .dead) (hheld : Held w (c.σ id) el t (okF B c F) w l u) (hx : Row w ok1 (CRel w (okF B c F) t) t.size m v)
    (hbytes : (l.length + m.length) * i.bytes ≤ 140737488355328) (hmax : l.length + m.length ≤ maxLen) (ty : TypeId) :
    ∃ r w', (Builtin.append_ #[T, T] ty #[u, v]).run P w = .ok r w' ∧ EffOk B c hp w n ⟨.own n, [.rows F el t (l ++ m)], [(id, .dead)]⟩ r w' := by
  obtain ⟨r, w', s', hrun, hh, hk, hszw, hsh, hos, htp, hou, hs'⟩ := append_run (ty := ty) hT hi hz hsz hzs h0 hheld hx hbytes hmax
  exact ⟨r, w', hrun, held_eff hH h0 hlive hh hk hszw hsh hos htp hou hs'⟩

/-- An append that stays within the block's elements. -/
theorem append_in {T el : TypeId} {t : Ty} {F fr : Bool} {i : TypeInfo} {z : Value} (hH : HRel B c hp w) {n id k : Nat} (hT : P.underlying T = some (.slice el)) (hi : P.info? el = some i) (hz : i.zero = some z) (hsz : i.size = t.size) (hzs : z.cells.size = t.size) (h0 : 0 < t.size)
    {l m : List t.den} {u v : Value} {ok1 : Nat → Prop} (hl : lookIn hp id = .rows fr el t l) (hv : SubV c hp w id 0 k u) (hD : c.D id) (hF : t.flat = true ∨ (F = true → fr = true)) (hx : Row w ok1 (CRel w (okF B c F) t) t.size m v)
    (hroom : k + m.length ≤ l.length) (ty : TypeId) :
    ∃ r w', (Builtin.append_ #[T, T] ty #[u, v]).run P w = .ok r w' ∧ EffOk B c hp w n ⟨.osl id 0 (k + m.length), [], [(id, .rows F el t (l.take k ++ m ++ l.drop (k + m.length)))]⟩ r w' := by
  have hlive : lookIn hp id ≠ .dead := by rw [hl]; simp
  have hlen : (l.take k ++ m ++ l.drop (k + m.length)).length = l.length := by simp; omega
  have look : ∀ hp', Upd c hp n ⟨.osl id 0 (k + m.length), [], [(id, .rows F el t (l.take k ++ m ++ l.drop (k + m.length)))]⟩ hp' → ∀ j, lookIn hp' j = if j = id then .rows F el t (l.take k ++ m ++ l.drop (k + m.length)) else lookIn hp j := by
    intro hp' hu j
    have := hu.look j
    simp only [List.lookup_cons, List.lookup_nil, List.length_nil, Nat.add_zero] at this
    rw [this]
    have hidl : id < hp'.length := Nat.lt_of_lt_of_le (lookIn_live hlive) hu.len
    by_cases e : j = id
    · subst e; simp [hidl]
    · have hf : (j == id) = false := by simpa using e
      simp only [hf, if_neg e]
      rw [if_neg (by omega)]
  have hb := hH.blk id
  rw [hl] at hb
  obtain ⟨_, hb⟩ := hb
  obtain ⟨A, q', hvv⟩ : ∃ A q, v = .slice A m.length q := by obtain ⟨A, q, rfl, _⟩ := hx; exact ⟨A, q, rfl⟩
  subst hvv
  unfold SubV at hv
  cases hs : c.σ id with
  | none =>
    rw [hs] at hb hv
    simp only at hb hv
    subst hb
    obtain ⟨rfl, rfl, _⟩ := hv
    simp only [List.length_nil, Nat.zero_add, Nat.le_zero, List.length_eq_zero_iff] at hroom
    subst hroom
    refine ⟨_, w, append_none hT hi none A 0 0 q' (Nat.le_refl _) (fun _ => ⟨rfl, rfl⟩), ?_⟩
    intro hp' hu
    have hlk := look hp' hu
    have he : Evo All c hp w c hp' w := ⟨fun _ _ h => h, fun _ _ _ => rfl, fun _ h => h, fun _ _ => rfl, Nat.le_refl _, fun b vs T fz h => ⟨vs, h, rfl⟩, fun j _ _ => by
      rw [hlk]; split
      · rename_i e; rw [e, hl]; exact ⟨rfl, rfl, by simp⟩
      · exact BlkLe.refl _, rfl, rfl, ⟨rfl, Nat.le_refl _⟩⟩
    refine ⟨c, ⟨hH.bs, hH.lt, fun j hj => Nat.lt_of_lt_of_le (hH.dl j hj) hu.len, ?_, ?_, ?_, ?_, hH.gl⟩, he, ⟨hD, ?_⟩, fun _ h => .inl h⟩
    · intro j hj
      by_cases e : j = id
      · rw [e]; exact hD
      · rw [hlk, if_neg e] at hj; exact hH.ld j hj
    · intro j
      rw [hlk]; split
      · rename_i e; subst e; exact ⟨h0, by rw [hs]; simp⟩
      · exact (hH.blk j).evo he rfl fun _ _ => rfl
    · intro i j b h1 h2 s1 s2
      have l1 : lookIn hp i ≠ .dead := by
        by_cases e : i = id
        · rw [e]; exact hlive
        · rw [hlk, if_neg e] at h1; exact h1
      have l2 : lookIn hp j ≠ .dead := by
        by_cases e : j = id
        · rw [e]; exact hlive
        · rw [hlk, if_neg e] at h2; exact h2
      exact hH.inj i j b l1 l2 s1 s2
    · intro j b h1 s1
      have l1 : lookIn hp j ≠ .dead := by
        by_cases e : j = id
        · rw [e]; exact hlive
        · rw [hlk, if_neg e] at h1; exact h1
      exact hH.nf j b l1 s1
    · unfold SubV; rw [hs]; exact ⟨rfl, rfl, rfl⟩
  | some b =>
    rw [hs] at hb hv
    simp only at hb hv
    obtain ⟨a, q, rfl, hr⟩ := hv
    obtain ⟨cap, cur, r1, r2, r3, r4, r5, r6, r7⟩ := hr _ _ _ _ hl
    obtain ⟨cap', cur', q1, q2, q3, q4, q5⟩ := hb
    rw [r6] at q1; cases q1
    have hcc : cap = cap' := by rw [r7] at q4; exact Nat.eq_of_mul_eq_mul_right h0 q4
    subst hcc
    have ha := r5 (by simp)
    rw [Nat.zero_mul] at ha
    subst ha
    rw [Nat.sub_zero] at r1
    subst r1
    have hcl : cur.toList.length = cur.size := Array.length_toList
    -- in either case the cells
    have fin : ∀ (w' : World) (news : List Value), news.length = m.length * t.size → (∀ (j : Nat) (x : t.den), m[j]? = some x → CRel w (okF B c F) t x ((news.drop (j * t.size)).take t.size)) →
        w' = w.setRow b (cur.toList.take (k * t.size) ++ news ++ cur.toList.drop (k * t.size + news.length)).toArray →
        EffOk B c hp w n ⟨.osl id 0 (k + m.length), [], [(id, .rows F el t (l.take k ++ m ++ l.drop (k + m.length)))]⟩ (.slice (some ⟨b, 0, none⟩) (k + m.length) q) w' := by
      intro w' news hnl hnr hw'
      subst hw'
      have hkm : (k + m.length) * t.size ≤ cur.size := by rw [r7]; exact Nat.mul_le_mul_right _ (by omega)
      rw [Nat.add_mul] at hkm
      have hsr := setRow_os w b (cur.toList.take (k * t.size) ++ news ++ cur.toList.drop (k * t.size + news.length)).toArray
      have hsize : (cur.toList.take (k * t.size) ++ news ++ cur.toList.drop (k * t.size + news.length)).toArray.size = cur.size := by simp; omega
      intro hp' hu
      have hlk := look hp' hu
      obtain ⟨k1, k2⟩ := hrel_upd (w' := w.setRow b _) (hp' := hp') hH hlive hs (blk := .rows F el t (l.take k ++ m ++ l.drop (k + m.length))) hu.len (by rw [hl]; exact ⟨rfl, rfl, hlen.symm⟩) (by simp) hlk
        (fun j hj => setRow_other w b j _ hj) hsr.2.2.2 (fun vs' T' fz' hw' => by
          rw [r6] at hw'; cases hw'
          exact ⟨_, setRow_heap w b cur _ el _ r6, hsize⟩) hsr.1 hsr.2.1 hsr.2.2.1
        (fun he => by
          refine ⟨h0, ?_⟩
          rw [hs]
          refine ⟨q, _, setRow_heap w b cur _ el _ r6, by rw [hlen]; exact r3, r4, by rw [hsize]; exact r7, fun j x hj => ?_⟩
          simp only [List.toList_toArray]
          refine CRel.mono (w := w) (ok := okF B c F) (fun bb hbb => setRow_other w b bb _ fun e => (hH.nf id b hlive hs).1 (e ▸ hbb.1)) (fun _ h => h) t x _ ?_
          have hxl : (cur.toList.take (k * t.size)).length = (l.take k).length * t.size := by
            rw [List.length_take, List.length_take, Nat.min_eq_left (by omega), Nat.min_eq_left (by omega)]
          by_cases hj2 : j < k + m.length
          · have hj' : (l.take k ++ m)[j]? = some x := by
              rw [List.getElem?_append_left (by simp; omega)] at hj; exact hj
            exact row_append (l := l.take k) (m := m) hxl hnl (fun i y hy => by
              rw [List.getElem?_take] at hy
              split at hy
              · rename_i hik
                have : (i + 1) * t.size ≤ k * t.size := Nat.mul_le_mul_right _ hik
                rw [Nat.add_mul, Nat.one_mul] at this
                rw [List.drop_take, List.take_take, Nat.min_eq_left (by omega)]
                exact crel_fl hF (q5 i y hy)
              · cases hy) hnr _ j x hj'
          · have hj' : l[j]? = some x := by
              rw [List.getElem?_append_right (by simp; omega), List.getElem?_drop] at hj
              rw [← hj]; congr 1; simp; omega
            have hjl : j < l.length := by
              rcases Nat.lt_or_ge j l.length with h | h
              · exact h
              · rw [List.getElem?_eq_none h] at hj'; cases hj'
            have h1 : (k + m.length) * t.size ≤ j * t.size := Nat.mul_le_mul_right _ (by omega)
            rw [Nat.add_mul] at h1
            have h3 : (cur.toList.take (k * t.size) ++ news ++ cur.toList.drop (k * t.size + news.length)).drop (j * t.size) = cur.toList.drop (j * t.size) := by
              rw [List.drop_append, List.drop_eq_nil_of_le (by simp; omega), List.nil_append, List.drop_drop]
              congr 1
              simp only [List.length_append, List.length_take]; omega
            rw [h3]
            exact crel_fl hF (q5 j x hj'))
      refine ⟨c, k1, k2, ⟨hD, ?_⟩, fun _ h => .inl h⟩
      unfold SubV
      rw [hs]
      refine ⟨_, _, rfl, fun fr' T' t' l' hl' => ?_⟩
      rw [hlk, if_pos rfl] at hl'
      cases hl'
      exact ⟨q, _, by omega, by rw [hlen]; omega, by rw [hlen]; exact r3, r4, fun _ => by simp, setRow_heap w b cur _ el _ r6, by rw [hsize]; exact r7⟩
    by_cases hm0 : m = []
    · subst hm0
      refine ⟨_, _, append_none hT hi (some _) A k _ q' (by omega) (fun h => by cases h), ?_⟩
      have := fin w [] (by simp) (fun j x h => by simp at h) (by
        have : (cur.toList.take (k * t.size) ++ [] ++ cur.toList.drop (k * t.size + ([] : List Value).length)).toArray = cur := by simp
        rw [this, setRow_self w b cur el (0, 0) r6])
      simpa using this
    · obtain ⟨a', news, rfl, _, hnl, hnc, hn1, hnr⟩ := hx.cells hm0
      have hnl' : news.length = m.length * i.size := by rw [hnl, hsz]
      have hkm : (k + m.length) * t.size ≤ cur.size := by rw [r7]; exact Nat.mul_le_mul_right _ (by omega)
      rw [Nat.add_mul] at hkm
      have hrun := run_append_room (P := P) w T ty el i hT hi b k q cur r6 a' m.length q' news hnl' hnc hn1 (by omega) (by rw [hsz, hnl]; exact hkm)
      rw [hsz] at hrun
      exact ⟨_, _, hrun, fin _ news hnl hnr rfl⟩

/-- append(s, x...) at a slice of one's own, or nil. -/
theorem append_sound {E : Env} {T : TypeId} {s x : AV} {u v : Value} {n : Nat} {e : Eff} {g g' : List Nat} (hH : HRel B c hp w) (hs : VRel B c hp w s u) (hx : VRel B c hp w x v)
    (h : (appendA E P n s x T).runO (lookIn hp) g = some (e, g')) (ty : TypeId) : ∃ r w', (Builtin.append_ #[T, T] ty #[u, v]).run P w = .ok r w' ∧ EffOk B c hp w n e r w' := by
  unfold appendA at h
  split at h
  · cases h
  rename_i el hel
  have hT := elemA_some hel
  split at h
  · cases h
  rename_i t hty
  obtain ⟨hok, h⟩ := Rd.cond_some h
  obtain ⟨i, z, hi, hz, hsz, hzs, h0⟩ := rowOk_some hok
  obtain ⟨l, g1, hl, h⟩ := Rd.bind_some h
  obtain ⟨m, g2, hm, h⟩ := Rd.bind_some h
  obtain ⟨hb, h⟩ := Rd.chk_some h
  simp only [Bool.and_eq_true, decide_eq_true_eq] at hb
  obtain ⟨hbytes, hmax⟩ := hb
  have hby : bytesA P el = i.bytes := by simp [bytesA, hi]
  rw [hby] at hbytes
  obtain ⟨hxr, hxo⟩ := decS_sound hH hx hm
  cases s with
  | own id =>
    simp only at h
    cases h
    -- the block
    simp only [decS, Rd.runO] at hl
    split at hl
    case h_2 => cases hl
    rename_i fr T' t' l' hlk
    obtain ⟨he, h2⟩ := Rd.cond_some hl
    have he' := of_decide_eq_true he
    obtain ⟨h3, _⟩ := Rd.ofO_some h2
    simp only [Option.map_eq_some_iff] at h3
    obtain ⟨l2, hl2, hd⟩ := h3
    obtain ⟨ee, hm2⟩ := castL_some hl2
    subst ee
    cases hm2
    subst he'
    have hd' : l = ⟨l', fr, [id]⟩ := hd.symm
    subst hd'
    have hlive : lookIn hp id ≠ .dead := by rw [hlk]; simp
    have hbl := hH.blk id
    rw [hlk] at hbl
    obtain ⟨_, hbl⟩ := hbl
    have hv := hs.2
    unfold OwnV at hv
    have hheld : Held w (c.σ id) T' t' (okF B c (t'.flat || (fr && m.fr))) w l' u := by
      cases hσ : c.σ id with
      | none =>
        rw [hσ] at hv hbl
        exact .inl ⟨rfl, hbl, hv⟩
      | some b =>
        rw [hσ] at hv hbl
        obtain ⟨k, cap, rfl, hr⟩ := hv
        obtain ⟨rfl, r2, r3, cur, r4, r5⟩ := hr _ _ _ _ hlk
        obtain ⟨cap', cur', q1, q2, q3, q4, q5⟩ := hbl
        rw [r4] at q1; cases q1
        exact .inr ⟨b, cap, cur, rfl, rfl, r4, r2, r3, r5, fun j x hj => crel_fl flag_l (q5 j x hj)⟩
    exact append_new hH hT hi hz hsz hzs h0 hlive hheld (row_fl flag_r hxr) hbytes hmax ty
  | osl id off k =>
    cases off with
    | succ _ => simp only at h; cases h
    | zero =>
    -- the block
    simp only [decS, Rd.runO] at hl
    split at hl
    case h_2 => cases hl
    rename_i fr T' t' l' hlk
    obtain ⟨he, h2⟩ := Rd.cond_some hl
    have he' := of_decide_eq_true he
    obtain ⟨h3, _⟩ := Rd.ofO_some h2
    simp only [Option.map_eq_some_iff] at h3
    obtain ⟨l2, hl2, hd⟩ := h3
    obtain ⟨ee, hm2⟩ := castL_some hl2
    subst ee
    cases hm2
    subst he'
    have hd' : l = ⟨(l'.drop 0).take k, fr, [id]⟩ := hd.symm
    subst hd'
    have hlive : lookIn hp id ≠ .dead := by rw [hlk]; simp
    have hsub := sub_len hH hs hlk
    simp only at h
    cases hcn : m.own.contains id with
    | true =>
      rw [hcn] at h
      simp only [cond_true, Rd.runO, hlk] at h
      obtain ⟨_, h⟩ := Rd.cond_some h
      obtain ⟨l0, g3, h4, h⟩ := Rd.bind_some h
      obtain ⟨h5, _⟩ := Rd.ofO_some h4
      obtain ⟨e5, h6⟩ := castL_some h5
      cases h6
      obtain ⟨hroom, h⟩ := Rd.chk_some h
      cases h
      exact append_in hH hT hi hz hsz hzs h0 hlk hs.2 hs.1 flag_l (row_fl flag_r hxr) (of_decide_eq_true hroom) ty
    | false =>
      rw [hcn] at h
      simp only [cond_false] at h
      cases h
      have hbl := hH.blk id
      rw [hlk] at hbl
      obtain ⟨_, hbl⟩ := hbl
      have hv := hs.2
      unfold SubV at hv
      have hheld : Held w (c.σ id) T' t' (okF B c (t'.flat || (fr && m.fr))) w ((l'.drop 0).take k) u := by
        rw [List.drop_zero]
        cases hσ : c.σ id with
        | none =>
          rw [hσ] at hv hbl
          obtain ⟨rfl, rfl, _⟩ := hv
          exact .inl ⟨rfl, by simp, rfl⟩
        | some b =>
          rw [hσ] at hv hbl
          obtain ⟨a, q, rfl, hr⟩ := hv
          obtain ⟨cap, cur, r1, r2, r3, r4, r5, r6, r7⟩ := hr _ _ _ _ hlk
          obtain ⟨cap', cur', q1, q2, q3, q4, q5⟩ := hbl
          rw [r6] at q1; cases q1
          have hkl : (l'.take k).length = k := by simp; omega
          refine .inr ⟨b, cap, cur, rfl, ?_, r6, by omega, r4, r7, fun j x hj => ?_⟩
          · rw [hkl, r5 (.inr rfl), r1]; simp
          · rw [List.getElem?_take] at hj
            split at hj
            · exact crel_fl flag_l (q5 j x hj)
            · cases hj
      exact append_new hH hT hi hz hsz hzs h0 hlive hheld (row_fl flag_r hxr) hbytes hmax ty
  | sc sv =>
    have he2 : e = ⟨.own n, [.rows (t.flat || m.fr) el t m.x], []⟩ := by cases h; rfl
    subst he2
    have hu0 : u = sv := hs
    subst hu0
    have hnil : u = .slice none 0 0 ∧ l.x = [] := by
      cases u with
      | slice A k q =>
        cases A with
        | none =>
          cases k with
          | zero =>
            cases q with
            | zero => cases hl; exact ⟨rfl, rfl⟩
            | succ q => cases hl
          | succ k => cases hl
        | some a => cases hl
      | _ => cases hl
    obtain ⟨rfl, hlx⟩ := hnil
    rw [hlx] at hbytes hmax
    have hxr := row_fl (F := t.flat || m.fr) flag_1 hxr
    obtain ⟨r, w', s', hrun, hh, hk, hszw, hsh, hos, htp, hou, hs'⟩ := append_run (ty := ty) hT hi hz hsz hzs h0 (old := none) (l := ([] : List t.den)) (.inl ⟨rfl, rfl, rfl⟩) hxr hbytes hmax
    refine ⟨r, w', hrun, ?_⟩
    simp only [List.nil_append] at hh
    refine effOk_new (ks := []) hH (by simp) (s := s') (fun b hb => hk b hb (by simp)) hszw hos htp hou (fun b hb => (hs' b hb).resolve_left (by simp)) ?_ ?_
    · intro c' hp' hcs hokd
      rcases hh with ⟨rfl, h6, h7⟩ | ⟨b, cap, cur, rfl, h6, hw, h1, h2, h3, h4⟩
      · exact ⟨h0, by rw [hcs]; exact h6⟩
      · exact ⟨h0, by rw [hcs]; exact ⟨cap, cur, hw, h1, h2, h3, fun j x hj => CRel.mono (fun b hb => (hokd b _ (.inl hb)).2) (fun b hb => (hokd b _ (.inl hb)).1) t x _ (h4 j x hj)⟩⟩
    · intro c' hp' hcs hD hln
      refine ⟨hD, ?_⟩
      unfold OwnV
      rcases hh with ⟨rfl, h6, h7⟩ | ⟨b, cap, cur, rfl, h6, hw, h1, h2, h3, h4⟩
      · rw [hcs]; exact h7
      · rw [hcs]
        refine ⟨_, cap, h6, fun fr' T' t' l' hl' => ?_⟩
        rw [hln] at hl'
        cases hl'
        exact ⟨rfl, h1, h2, cur, hw, h3⟩
  | lit e' t' l' =>
    simp only at h
    obtain ⟨hflat, h⟩ := Rd.cond_some h
    obtain ⟨hne, h⟩ := Rd.chk_some h
    cases h
    obtain ⟨he, h2⟩ := Rd.cond_some hl
    have he' := of_decide_eq_true he
    obtain ⟨h3, _⟩ := Rd.ofO_some h2
    simp only [Option.map_eq_some_iff] at h3
    obtain ⟨l2, hl2, hd⟩ := h3
    obtain ⟨ee, hm2⟩ := castL_some hl2
    subst ee
    cases hm2
    subst he'
    have hd' : l = ⟨l', true, []⟩ := hd.symm
    subst hd'
    obtain ⟨_, b, cur, hb, rfl, hw, hmx, hcs, hr⟩ := hs
    have hm0 : m.x ≠ [] := fun e => by rw [e] at hne; cases hne
    have hxr := row_fl (F := true) (fr := m.fr) (.inl hflat) hxr
    obtain ⟨r, w', hrun, hh, hk, hszw, hos, htp, hou⟩ := append_full (ty := ty) hT hi hz hsz hzs h0 hw hcs hr hxr hm0 hbytes hmax
    refine ⟨r, w', hrun, ?_⟩
    refine effOk_new (ks := []) hH (by simp) (s := some w.heap.size) hk (by omega) hos htp hou (fun b hb => by cases hb; omega) ?_ ?_
    · intro c' hp' hcs' hokd
      rcases hh with ⟨hbad, _, _⟩ | ⟨b', cap, cur', hb', h6, hw', h1, h2, h3, h4⟩
      · cases hbad
      · exact ⟨h0, by rw [hcs', hb']; exact ⟨cap, cur', hw', h1, h2, h3, fun j x hj => CRel.mono (fun b hb => (hokd b _ (.inl hb)).2) (fun b hb => (hokd b _ (.inl hb)).1) t' x _ (h4 j x hj)⟩⟩
    · intro c' hp' hcs' hD hln
      refine ⟨hD, ?_⟩
      unfold OwnV
      rcases hh with ⟨hbad, _, _⟩ | ⟨b', cap, cur', hb', h6, hw', h1, h2, h3, h4⟩
      · cases hbad
      · rw [hcs', hb']
        refine ⟨_, cap, h6, fun fr' T' t2 l2 hl' => ?_⟩
        rw [hln] at hl'
        cases hl'
        exact ⟨rfl, h1, h2, cur', hw', h3⟩
  | _ => cases h
end
end Go.Proofs.YtbjanflhagkhlaaDoor.Sk
