/- SK, part 13: what is forgotten at a loop's head. -/
import Derived.Test.YtbjanflhagkhlaaDoorSkOpsG
set_option linter.unusedVariables false
set_option linter.unusedSimpArgs false
namespace Go.Proofs.YtbjanflhagkhlaaDoor.Sk
open Go Go.RowKit

section
variable {B : Nat → Prop} {w : World}

theorem lookIn_append (hp news : List ABlk) (id : Nat) : lookIn (hp ++ news) id = if hp.length ≤ id then (news[id - hp.length]?).getD .dead else lookIn hp id := by
  unfold lookIn
  rw [List.getElem?_append]
  by_cases h : id < hp.length
  · rw [if_pos h, if_neg (by omega)]
  · rw [if_neg h, if_pos (by omega)]

/-- A block gets a new name; what bore the old one is told no more. -/
theorem hrel_name {c : Cx} {hp : List ABlk} (h : HRel B c hp w) {id : Nat} {fr : Bool} {T : TypeId} {t : Ty} {l : List t.den} (hl : lookIn hp id = .rows fr T t l) :
    ∃ c' : Cx, HRel B c' (hp.set id .dead ++ [.rows fr T t l]) w ∧ Evo All c hp w c' (hp.set id .dead ++ [.rows fr T t l]) w ∧ c'.D hp.length ∧ c'.σ hp.length = c.σ id ∧ lookIn (hp.set id .dead ++ [.rows fr T t l]) hp.length = .rows fr T t l := by
  have hlive : lookIn hp id ≠ .dead := by rw [hl]; simp
  have hidl : id < hp.length := lookIn_live hlive
  have hlk : ∀ j, lookIn (hp.set id .dead ++ [.rows fr T t l]) j = if j = hp.length then .rows fr T t l else if j = id then .dead else lookIn hp j := by
    intro j
    rw [lookIn_append, List.length_set]
    by_cases e : j = hp.length
    · rw [if_pos e, if_pos (by omega), e]; simp
    · rw [if_neg e]
      by_cases h1 : hp.length ≤ j
      · rw [if_pos h1, List.getElem?_eq_none (by simp; omega), if_neg (by omega)]
        unfold lookIn
        rw [List.getElem?_eq_none h1]
      · rw [if_neg h1, lookIn_set]
        by_cases e2 : id = j
        · rw [if_pos ⟨e2, hidl⟩, if_pos e2.symm]
        · rw [if_neg (by simp [e2]), if_neg (fun h => e2 h.symm)]
  have hnD : ¬ c.D hp.length := fun h' => by have := h.dl _ h'; omega
  let c' : Cx := ⟨fun j => c.D j ∨ j = hp.length, fun j => if j = hp.length then c.σ id else c.σ j, c.F⟩
  have hσ : ∀ j, j ≠ hp.length → c'.σ j = c.σ j := fun j hj => by show (if j = hp.length then _ else c.σ j) = c.σ j; rw [if_neg hj]
  have hσn : c'.σ hp.length = c.σ id := by show (if hp.length = hp.length then c.σ id else _) = _; rw [if_pos rfl]
  have hne : ∀ j, c.D j → j ≠ hp.length := fun j hd e => hnD (e ▸ hd)
  have he : Evo All c hp w c' (hp.set id .dead ++ [.rows fr T t l]) w := ⟨fun j _ hd => .inl hd, fun j _ hd => hσ j (hne j hd), fun b hb => hb, fun _ _ => rfl, Nat.le_refl _, fun b vs T fz hw => ⟨vs, hw, rfl⟩, fun j _ hd => by
      rw [hlk, if_neg (hne j hd)]
      split
      · cases lookIn hp j <;> trivial
      · exact BlkLe.refl _, rfl, rfl, ⟨rfl, Nat.le_refl _⟩⟩
  refine ⟨c', ⟨h.bs, h.lt, ?_, ?_, ?_, ?_, ?_, h.gl⟩, he, .inr rfl, hσn, by rw [hlk, if_pos rfl]⟩
  · rintro j (hd | rfl)
    · have := h.dl j hd; simp; omega
    · simp
  · intro j hd
    by_cases e : j = hp.length
    · exact .inr e
    · rw [hlk, if_neg e] at hd
      split at hd
      · exact absurd rfl hd
      · exact .inl (h.ld j hd)
  · intro j
    rw [hlk]
    split
    · rename_i e
      have hb := (h.blk id).evo he (hσ id (by omega)) fun _ _ => rfl
      rw [hl] at hb
      unfold BRel at hb ⊢
      rw [hσ id (by omega)] at hb
      rw [e, hσn]
      exact hb
    · rename_i e
      split
      · trivial
      · exact (h.blk j).evo he (hσ j e) fun _ _ => rfl
  · intro i j b h1 h2 s1 s2
    rw [hlk] at h1 h2
    by_cases e1 : i = hp.length
    · by_cases e2 : j = hp.length
      · rw [e1, e2]
      · rw [if_neg e2] at h2
        rw [e1, hσn] at s1
        rw [hσ j e2] at s2
        split at h2
        · exact absurd rfl h2
        · rename_i e3
          exact absurd (h.inj id j b hlive h2 s1 s2).symm e3
    · rw [if_neg e1] at h1
      split at h1
      · exact absurd rfl h1
      · rename_i e3
        by_cases e2 : j = hp.length
        · rw [e2, hσn] at s2
          rw [hσ i e1] at s1
          exact absurd (h.inj i id b h1 hlive s1 s2) e3
        · rw [if_neg e2] at h2
          split at h2
          · exact absurd rfl h2
          · rw [hσ i e1] at s1
            rw [hσ j e2] at s2
            exact h.inj i j b h1 h2 s1 s2
  · intro j b h1 s1
    rw [hlk] at h1
    by_cases e1 : j = hp.length
    · rw [e1, hσn] at s1; exact h.nf id b hlive s1
    · rw [if_neg e1] at h1
      rw [hσ j e1] at s1
      split at h1
      · exact absurd rfl h1
      · exact h.nf j b h1 s1

theorem keepT_sound (ks : List (Nat × Option (TypeId × Ty))) : ∀ (as : List AV) (us : List Value) (i : Nat) (hp : List ABlk) (c : Cx), VRelL B c hp w as us → HRel B c hp w →
    ∃ c', HRel B c' (keepT ks i as hp).2 w ∧ Evo All c hp w c' (keepT ks i as hp).2 w ∧ VRelL B c' (keepT ks i as hp).2 w (keepT ks i as hp).1 us ∧ hp.length ≤ (keepT ks i as hp).2.length
  | [], us, i, hp, c, hv, hH => ⟨c, hH, Evo.refl _ _ _ _, hv, Nat.le_refl _⟩
  | a :: as, [], i, hp, c, hv, hH => by simp [VRelL] at hv
  | a :: as, u :: us, i, hp, c, hv, hH => by
    have plain : ∀ {b : AV}, VRel B c hp w b u → ∃ c', HRel B c' (keepT ks (i + 1) as hp).2 w ∧ Evo All c hp w c' (keepT ks (i + 1) as hp).2 w ∧ VRelL B c' (keepT ks (i + 1) as hp).2 w (b :: (keepT ks (i + 1) as hp).1) (u :: us) ∧ hp.length ≤ (keepT ks (i + 1) as hp).2.length := by
      intro b hb
      obtain ⟨c', h1, h2, h3, h4⟩ := keepT_sound ks as us (i + 1) hp c hv.2 hH
      exact ⟨c', h1, h2, ⟨hb.evo h2, h3⟩, h4⟩
    unfold keepT
    split
    · exact plain (b := .any) trivial
    · exact plain hv.1
    · rename_i j e t hf
      split
      · rename_i heq
        cases hsz : Nat.blt 0 t.size with
        | false => simp only [cond_false]; exact plain hv.1
        | true =>
          simp only [cond_true]
          have h0 : 0 < t.size := by simpa [Nat.blt_eq] using hsz
          have hnD : ¬ c.D hp.length := fun h => by have := hH.dl _ h; omega
          obtain ⟨c1, k1, k2, k3, k4, k5, _⟩ := hrel_new (w' := w) (hp' := hp ++ [.rows true e t []]) hH hnD (by simp) (by simp) (blk := .rows true e t []) (by rw [lookIn_append, if_pos (Nat.le_refl _)]; simp)
            (fun id hid => by
              rw [lookIn_append]
              split
              · rename_i hle
                rw [List.getElem?_eq_none (by simp; omega)]
                unfold lookIn
                rw [List.getElem?_eq_none hle]
              · rfl) (s := none) (fun _ _ => rfl) (Nat.le_refl _) rfl rfl ⟨rfl, Nat.le_refl _⟩ (fun b h => by cases h) (fun c' hcs _ _ => ⟨h0, by rw [hcs]⟩)
          have hv2 := VRelL.evo hv.2 k2
          obtain ⟨c', h1, h2, h3, h4⟩ := keepT_sound ks as us (i + 1) _ c1 hv2 k1
          refine ⟨c', h1, k2.trans h2, ⟨VRel.evo ⟨k3, ?_⟩ h2, h3⟩, by simp at h4; omega⟩
          have hu : u = .slice none 0 0 := hv.1
          unfold OwnV; rw [k4]; exact hu
      · rename_i id
        cases hsz : Nat.beq t.size 0 with
        | false => simp only [cond_false]; exact plain hv.1
        | true =>
          simp only [cond_true]
          split
          · rename_i fr T t' l hl
            obtain ⟨c1, k1, k2, k3, k4, k5⟩ := hrel_name hH hl
            have hv2 := VRelL.evo hv.2 k2
            obtain ⟨c', h1, h2, h3, h4⟩ := keepT_sound ks as us (i + 1) _ c1 hv2 k1
            refine ⟨c', h1, k2.trans h2, ⟨VRel.evo ⟨k3, ?_⟩ h2, h3⟩, by simp at h4; dsimp only; omega⟩
            have hu : OwnV c hp w id u := hv.1.2
            unfold OwnV at hu ⊢
            rw [k4]
            cases hs : c.σ id with
            | none => rw [hs] at hu; exact hu
            | some b =>
              rw [hs] at hu
              obtain ⟨n, cap, q1, q2⟩ := hu
              refine ⟨n, cap, q1, fun fr' T' t'' l' hl' => ?_⟩
              rw [k5] at hl'
              exact q2 fr' T' t'' l' (hl.trans hl')
          · exact plain hv.1
      · exact plain hv.1

theorem visit_nodup (hp : List ABlk) : ∀ (f : Nat) (todo seen : List Nat), seen.Nodup → (visit hp f todo seen).Nodup
  | 0, _, _, h => h
  | f + 1, [], _, h => h
  | f + 1, id :: todo, seen, h => by
    unfold visit
    cases hc : seen.contains id with
    | true => exact visit_nodup hp f todo seen h
    | false =>
      have hn : id ∉ seen := by simpa using hc
      refine visit_nodup hp f _ _ ?_
      rw [List.nodup_append]
      exact ⟨h, by simp, fun a ha b hb => by simp at hb; subst hb; exact fun e => hn (e ▸ ha)⟩

theorem seenOf_nodup (lo : Nat) (tm : List AV) (hp : List ABlk) : (seenOf lo tm hp).Nodup := (visit_nodup hp _ _ _ List.nodup_nil).filter _
theorem seenOf_ge {lo : Nat} {tm : List AV} {hp : List ABlk} {id : Nat} (h : id ∈ seenOf lo tm hp) : lo ≤ id := by
  unfold seenOf at h
  rw [List.mem_filter] at h
  exact Nat.le_of_ble_eq_true h.2

theorem posOf_some : ∀ {seen : List Nat} {id n j : Nat}, posOf seen id n = some j → n ≤ j ∧ seen[j - n]? = some id
  | [], id, n, j, h => by cases h
  | x :: r, id, n, j, h => by
    unfold posOf at h
    cases hb : Nat.beq x id with
    | true =>
      rw [hb] at h
      simp only [cond_true, Option.some.injEq] at h
      subst h
      have := Nat.eq_of_beq_eq_true hb
      subst this
      simp
    | false =>
      rw [hb] at h
      obtain ⟨h1, h2⟩ := posOf_some h
      refine ⟨by omega, ?_⟩
      rw [show j - n = (j - (n + 1)) + 1 by omega]
      simpa using h2

/-- The old place of a new one. -/
def oldOf (lo : Nat) (seen : List Nat) (j : Nat) : Nat := if j < lo then j else (seen[j - lo]?).getD 0

theorem renL_length (r : Nat → Option Nat) : ∀ (cs : List AV), (renL r cs).length = cs.length
  | [] => rfl
  | _ :: cs => by simp [renL, renL_length r cs]

section
variable {c c' : Cx} {hp hp' : List ABlk} {lo : Nat} {seen : List Nat}

structure Ren (c : Cx) (hp : List ABlk) (c' : Cx) (hp' : List ABlk) (r : Nat → Option Nat) : Prop where
  D : ∀ id j, r id = some j → c.D id → c'.D j
  σ : ∀ id j, r id = some j → c'.σ j = c.σ id
  rows : ∀ id j fr T t l, r id = some j → lookIn hp' j = .rows fr T t l → lookIn hp id = .rows fr T t l
  F : c'.F = c.F

mutual
theorem VRel.ren {r : Nat → Option Nat} (h : Ren c hp c' hp' r) : ∀ (a : AV) (u : Value), VRel B c hp w a u → VRel B c' hp' w (renV r a) u
  | .sc _, _, hv => hv
  | .any, _, _ => trivial
  | .ptr id off, u, hv => by
    obtain ⟨hD, b, hs, hu⟩ := hv
    simp only [renV]
    split
    · rename_i j hj; exact ⟨h.D id j hj hD, b, (h.σ id j hj).trans hs, hu⟩
    · trivial
  | .own id, u, hv => by
    obtain ⟨hD, hv⟩ := hv
    simp only [renV]
    split
    · rename_i j hj
      refine ⟨h.D id j hj hD, ?_⟩
      unfold OwnV at hv ⊢
      rw [h.σ id j hj]
      split
      · rename_i hs; rw [hs] at hv; exact hv
      · rename_i b hs
        rw [hs] at hv
        obtain ⟨n, cap, hu, hr⟩ := hv
        exact ⟨n, cap, hu, fun fr T t l hl => hr fr T t l (h.rows id j fr T t l hj hl)⟩
    · trivial
  | .osl id off n, u, hv => by
    obtain ⟨hD, hv⟩ := hv
    simp only [renV]
    split
    · rename_i j hj
      refine ⟨h.D id j hj hD, ?_⟩
      unfold SubV at hv ⊢
      rw [h.σ id j hj]
      split
      · rename_i hs; rw [hs] at hv; exact hv
      · rename_i b hs
        rw [hs] at hv
        obtain ⟨a, q, hu, hr⟩ := hv
        exact ⟨a, q, hu, fun fr T t l hl => hr fr T t l (h.rows id j fr T t l hj hl)⟩
    · trivial
  | .lit e t l, u, hv => by
    obtain ⟨h0, b, cur, hb, hu, hw, hm, hs, hr⟩ := hv
    have hok : ∀ b, okF B c true b → okF B c' true b := fun b hb => ⟨by rw [h.F]; exact hb.1, hb.2⟩
    exact ⟨h0, b, cur, hok b hb, hu, hw, hm, hs, fun i x hx => (hr i x hx).weaken hok _ _ _⟩
  | .mp id, u, hv => by
    obtain ⟨hD, b, hs, hu⟩ := hv
    simp only [renV]
    split
    · rename_i j hj
      exact ⟨h.D id j hj hD, b, (h.σ id j hj).trans hs, hu⟩
    · trivial
  | .rptr id i off, u, hv => by
    obtain ⟨hD, b, q, hs, hu, hr⟩ := hv
    simp only [renV]
    split
    · rename_i j hj
      exact ⟨h.D id j hj hD, b, q, (h.σ id j hj).trans hs, hu, fun fr T t l hl => hr fr T t l (h.rows id j fr T t l hj hl)⟩
    · trivial
  | .ros fr e t l, u, hv => by
    have : okF B c' fr = okF B c fr := by funext b; simp [okF, h.F]
    simp only [renV, VRel]
    rw [this]; exact hv
  | .rop fr t x off, u, hv => by
    have : okF B c' fr = okF B c fr := by funext b; simp [okF, h.F]
    simp only [renV, VRel]
    rw [this]; exact hv
  | .gd b v, u, hv => ⟨fun hb => VRel.ren h v u (hv.1 hb), hv.2⟩
  | .clo f cs, u, hv => by obtain ⟨vs, hu, hr⟩ := hv; exact ⟨vs, hu, VRelL.ren h cs _ hr⟩
  | .yl tm ps asg body, u, hv => by
    obtain ⟨l, lp, hu, hF, hl, h1, h2, h3, h4, h5, hr⟩ := hv
    exact ⟨l, lp, hu, by rw [h.F]; exact hF, hl, h1, h2, h3, h4, h5, VRelL.ren h tm _ hr⟩
  | .agg cs, u, hv => by obtain ⟨vs, hu, hr⟩ := hv; exact ⟨vs, hu, VRelL.ren h cs _ hr⟩
  | .tup cs, u, hv => by obtain ⟨vs, hu, hr⟩ := hv; exact ⟨vs, hu, VRelL.ren h cs _ hr⟩
theorem VRelL.ren {r : Nat → Option Nat} (h : Ren c hp c' hp' r) : ∀ (as : List AV) (us : List Value), VRelL B c hp w as us → VRelL B c' hp' w (renL r as) us
  | [], [], _ => trivial
  | a :: as, u :: us, hv => ⟨VRel.ren h a u hv.1, VRelL.ren h as us hv.2⟩
  | [], _ :: _, h => by simp [VRelL] at h
  | _ :: _, [], h => by simp [VRelL] at h
end

theorem renSt_look (lo : Nat) (seen : List Nat) (tm : List AV) (hp : List ABlk) (hlo : lo ≤ hp.length) (j : Nat) :
    lookIn (renSt lo seen tm hp).hp j = if j < lo then renB (newName lo seen) (lookIn hp j) else match seen[j - lo]? with | some id => renB (newName lo seen) (lookIn hp id) | none => .dead := by
  unfold renSt
  simp only
  unfold lookIn
  rw [List.getElem?_append]
  have hl : ((hp.take lo).map (renB (newName lo seen))).length = lo := by simp; omega
  rw [hl]
  by_cases h : j < lo
  · have hj : j < hp.length := by omega
    rw [if_pos h, if_pos h]
    simp [h, hj]
  · rw [if_neg h, if_neg h, List.getElem?_map]
    cases seen[j - lo]? <;> rfl

theorem renSt_sound {tm : List AV} {us : List Value} (hH : HRel B c hp w) (hv : VRelL B c hp w tm us) (hlo : lo ≤ hp.length) (hnd : seen.Nodup) (hge : ∀ id, id ∈ seen → lo ≤ id) :
    ∃ c', HRel B c' (renSt lo seen tm hp).hp w ∧ VRelL B c' (renSt lo seen tm hp).hp w (renSt lo seen tm hp).tm us ∧ Evo (· < lo) c hp w c' (renSt lo seen tm hp).hp w ∧ lo ≤ (renSt lo seen tm hp).hp.length := by
  let c' : Cx := ⟨fun j => if j < lo then c.D j else ∃ id, seen[j - lo]? = some id ∧ c.D id, fun j => if j < lo then c.σ j else (seen[j - lo]?).bind c.σ, c.F⟩
  have hlen : (renSt lo seen tm hp).hp.length = lo + seen.length := by simp [renSt]; omega
  have hlook := renSt_look lo seen tm hp hlo
  -- new names
  have hnn : ∀ id j, newName lo seen id = some j → (id < lo ∧ j = id) ∨ (¬ id < lo ∧ ¬ j < lo ∧ seen[j - lo]? = some id) := by
    intro id j h
    unfold newName at h
    cases hb : Nat.blt id lo with
    | true =>
      rw [hb] at h
      have : id < lo := by simpa [Nat.blt_eq] using hb
      simp at h; exact .inl ⟨this, h.symm⟩
    | false =>
      rw [hb] at h
      have : ¬ id < lo := by intro h'; have : Nat.blt id lo = true := by simpa [Nat.blt_eq] using h'
                             rw [hb] at this; cases this
      obtain ⟨h1, h2⟩ := posOf_some h
      exact .inr ⟨this, by omega, h2⟩
  have hren : Ren c hp c' (renSt lo seen tm hp).hp (newName lo seen) := by
    refine ⟨?_, ?_, ?_, rfl⟩
    · intro id j h hD
      rcases hnn id j h with ⟨h1, rfl⟩ | ⟨h1, h2, h3⟩
      · show (if j < lo then c.D j else _); rw [if_pos h1]; exact hD
      · show (if j < lo then c.D j else ∃ id, seen[j - lo]? = some id ∧ c.D id); rw [if_neg h2]; exact ⟨id, h3, hD⟩
    · intro id j h
      rcases hnn id j h with ⟨h1, rfl⟩ | ⟨h1, h2, h3⟩
      · show (if j < lo then c.σ j else _) = _; rw [if_pos h1]
      · show (if j < lo then c.σ j else (seen[j - lo]?).bind c.σ) = _; rw [if_neg h2, h3]; rfl
    · intro id j fr T t l h hl
      rw [hlook] at hl
      have key : ∀ b, renB (newName lo seen) b = .rows fr T t l → b = .rows fr T t l := by
        intro b hb; cases b <;> simp [renB] at hb <;> simp [hb]
      rcases hnn id j h with ⟨h1, rfl⟩ | ⟨h1, h2, h3⟩
      · rw [if_pos h1] at hl; exact key _ hl
      · rw [if_neg h2, h3] at hl; exact key _ hl
  have hbr : ∀ id j, (∀ q, c'.σ j = q → c.σ id = q) → ∀ blk, BRel B c hp w id blk → BRel B c' (renSt lo seen tm hp).hp w j (renB (newName lo seen) blk) := by
    intro id j hs blk hb
    have hs' : c'.σ j = c.σ id := (hs _ rfl).symm
    cases blk with
    | dead => trivial
    | smap l =>
      obtain ⟨b, es, clock, h1, h2, h3⟩ := hb
      exact ⟨b, es, clock, hs'.trans h1, h2, h3⟩
    | cells cs T =>
      obtain ⟨b, vs, h1, h2, h3⟩ := hb
      exact ⟨b, vs, hs'.trans h1, h2, VRelL.ren hren cs _ h3⟩
    | rows fr T t l =>
      obtain ⟨h0, hb⟩ := hb
      refine ⟨h0, ?_⟩
      rw [hs']
      exact hb
  have hold : ∀ j, lookIn (renSt lo seen tm hp).hp j ≠ .dead → ∃ id, (if j < lo then id = j else seen[j - lo]? = some id) ∧ lookIn hp id ≠ .dead ∧ c'.σ j = c.σ id := by
    intro j hd
    rw [hlook] at hd
    by_cases h : j < lo
    · rw [if_pos h] at hd
      exact ⟨j, by rw [if_pos h], fun e => hd (by rw [e]; rfl), by show (if j < lo then c.σ j else _) = _; rw [if_pos h]⟩
    · rw [if_neg h] at hd
      cases hs : seen[j - lo]? with
      | none => rw [hs] at hd; exact absurd rfl hd
      | some id =>
        rw [hs] at hd
        exact ⟨id, by rw [if_neg h], fun e => hd (by show renB _ (lookIn hp id) = _; rw [e]; rfl), by show (if j < lo then c.σ j else (seen[j - lo]?).bind c.σ) = _; rw [if_neg h, hs]; rfl⟩
  refine ⟨c', ⟨hH.bs, hH.lt, ?_, ?_, ?_, ?_, ?_, hH.gl⟩, VRelL.ren hren tm us hv, ?_, by omega⟩
  · intro j hj
    have hj : (if j < lo then c.D j else ∃ id, seen[j - lo]? = some id ∧ c.D id) := hj
    by_cases h : j < lo
    · omega
    · rw [if_neg h] at hj
      obtain ⟨id, h1, _⟩ := hj
      have : j - lo < seen.length := by
        rcases Nat.lt_or_ge (j - lo) seen.length with h' | h'
        · exact h'
        · rw [List.getElem?_eq_none h'] at h1; cases h1
      omega
  · intro j hd
    obtain ⟨id, h1, h2, _⟩ := hold j hd
    show (if j < lo then c.D j else ∃ id, seen[j - lo]? = some id ∧ c.D id)
    by_cases h : j < lo
    · rw [if_pos h] at h1 ⊢; subst h1; exact hH.ld _ h2
    · rw [if_neg h] at h1 ⊢; exact ⟨id, h1, hH.ld _ h2⟩
  · intro j
    rw [hlook]
    by_cases h : j < lo
    · rw [if_pos h]
      exact hbr j j (fun q hq => by rw [← hq]; show c.σ j = (if j < lo then c.σ j else _); rw [if_pos h]) _ (hH.blk j)
    · rw [if_neg h]
      cases hs : seen[j - lo]? with
      | none => trivial
      | some id =>
        exact hbr id j (fun q hq => by rw [← hq]; show c.σ id = (if j < lo then c.σ j else (seen[j - lo]?).bind c.σ); rw [if_neg h, hs]; rfl) _ (hH.blk id)
  · intro i j b h1 h2 s1 s2
    obtain ⟨id1, p1, q1, r1⟩ := hold i h1
    obtain ⟨id2, p2, q2, r2⟩ := hold j h2
    have he := hH.inj id1 id2 b q1 q2 (r1 ▸ s1) (r2 ▸ s2)
    subst he
    by_cases hi : i < lo
    · rw [if_pos hi] at p1
      by_cases hj : j < lo
      · rw [if_pos hj] at p2; rw [← p1, ← p2]
      · rw [if_neg hj] at p2
        have := hge id1 (List.mem_of_getElem? p2); omega
    · rw [if_neg hi] at p1
      by_cases hj : j < lo
      · rw [if_pos hj] at p2
        have := hge id1 (List.mem_of_getElem? p1); omega
      · rw [if_neg hj] at p2
        have hli : i - lo < seen.length := by
          rcases Nat.lt_or_ge (i - lo) seen.length with h' | h'
          · exact h'
          · rw [List.getElem?_eq_none h'] at p1; cases p1
        have := (List.getElem?_inj hli hnd).1 (p1.trans p2.symm)
        omega
  · intro j b h1 s1
    obtain ⟨id, p1, q1, r1⟩ := hold j h1
    exact hH.nf id b q1 (r1 ▸ s1)
  · refine ⟨fun id hi hd => ?_, fun id hi _ => ?_, fun b hb => hb, fun _ _ => rfl, Nat.le_refl _, fun b vs T fz h => ⟨vs, h, rfl⟩, fun id hi _ => ?_, rfl, rfl, ⟨rfl, Nat.le_refl _⟩⟩
    · show (if id < lo then c.D id else _); rw [if_pos hi]; exact hd
    · show (if id < lo then c.σ id else _) = _; rw [if_pos hi]
    · rw [hlook, if_pos hi]
      cases lookIn hp id with
      | dead => trivial
      | smap l => trivial
      | cells cs T => exact ⟨rfl, by rw [renL_length]⟩
      | rows fr T t l => exact ⟨rfl, rfl, rfl⟩
end

theorem keepH_sound {tm : List AV} {us : List Value} : ∀ (ks : List (Nat × Option (TypeId × Ty))) (hp : List ABlk) (c : Cx), VRelL B c hp w tm us → HRel B c hp w →
    ∃ c', HRel B c' (keepH ks tm hp) w ∧ Evo All c hp w c' (keepH ks tm hp) w ∧ hp.length ≤ (keepH ks tm hp).length
  | [], hp, c, hv, hH => ⟨c, hH, Evo.refl _ _ _ _, Nat.le_refl _⟩
  | (k, none) :: r, hp, c, hv, hH => keepH_sound r hp c hv hH
  | (k, some (e, t)) :: r, hp, c, hv, hH => by
    have plain := keepH_sound (tm := tm) (us := us) r hp c hv hH
    unfold keepH
    cases hk : (Nat.ble 1000000 k && Nat.blt 0 t.size) with
    | false =>
      rw [cond_false]
      cases hk2 : (Nat.ble 1000000 k && Nat.beq t.size 0) with
      | false => exact plain
      | true =>
        rw [cond_true]
        split
        · rename_i id j' ht
          split
          · rename_i cs T hl
            have hidl : id < hp.length := lookIn_live (by rw [hl]; simp)
            have hb := hH.blk id
            rw [hl] at hb
            obtain ⟨b, vs, hs, hw, hr⟩ := hb
            have hlk : ∀ j, lookIn (hp.set id (.cells (cs.set j' .any) T)) j = if j = id then .cells (cs.set j' .any) T else lookIn hp j := by
              intro j
              rw [lookIn_set]
              by_cases e2 : id = j
              · subst e2; rw [if_pos ⟨rfl, hidl⟩, if_pos rfl]
              · rw [if_neg (by simp [e2]), if_neg (show ¬ j = id from fun h => e2 h.symm)]
            have hle : BlkLe (lookIn hp id) (.cells (cs.set j' .any) T) := by rw [hl]; exact ⟨rfl, by simp⟩
            have h3 : VRelL B c hp w (cs.set j' .any) vs.toList := by
              refine VRelL.mk (by rw [List.length_set, hr.length]) fun i a v h1 h2 => ?_
              rw [List.getElem?_set] at h1
              by_cases e3 : j' = i
              · rw [if_pos e3] at h1
                split at h1
                · cases h1; trivial
                · cases h1
              · rw [if_neg e3] at h1
                obtain ⟨u, hu, hur⟩ := hr.get i a h1
                rw [hu] at h2; cases h2; exact hur
            obtain ⟨m1, m2⟩ := hrel_upd (w' := w) (hp' := hp.set id (.cells (cs.set j' .any) T)) hH (by rw [hl]; simp) hs (blk := .cells (cs.set j' .any) T)
              (by simp) hle (by simp) hlk (fun _ _ => rfl) rfl (fun vs T fz h => ⟨vs, h, rfl⟩) rfl rfl ⟨rfl, Nat.le_refl _⟩
              (fun he => ⟨b, vs, hs, hw, VRelL.evo h3 he⟩)
            obtain ⟨c', q1, q2, q3⟩ := keepH_sound (tm := tm) (us := us) r _ c (hv.evo m2) m1
            exact ⟨c', q1, m2.trans q2, by simp at q3; omega⟩
          · exact plain
        · exact plain
    | true =>
      rw [cond_true]
      rw [Bool.and_eq_true] at hk
      have h0 : 0 < t.size := by simpa [Nat.blt_eq] using hk.2
      split
      · rename_i id j' ht
        split
        · rename_i cs T hl
          split
          · rename_i hc
            have hidl : id < hp.length := lookIn_live (by rw [hl]; simp)
            have hnD : ¬ c.D hp.length := fun h => by have := hH.dl _ h; omega
            have hl1 : ∀ j, lookIn (hp ++ [ABlk.rows true e t []]) j = if j = hp.length then .rows true e t [] else lookIn hp j := by
              intro j
              rw [lookIn_append]
              by_cases e2 : j = hp.length
              · subst e2; simp
              · rw [if_neg e2]
                split
                · rename_i hle
                  rw [List.getElem?_eq_none (by simp; omega)]
                  unfold lookIn
                  rw [List.getElem?_eq_none hle]
                · rfl
            obtain ⟨c1, k1, k2, k3, k4, k5, k6⟩ := hrel_new (w' := w) (hp' := hp ++ [ABlk.rows true e t []]) hH hnD (by simp) (by simp) (blk := .rows true e t []) (by rw [hl1, if_pos rfl])
              (fun j hj => by rw [hl1, if_neg hj]) (s := none) (fun _ _ => rfl) (Nat.le_refl _) rfl rfl ⟨rfl, Nat.le_refl _⟩ (fun b h => by cases h) (fun c' hcs _ _ => ⟨h0, by rw [hcs]⟩)
            have hl2 : lookIn (hp ++ [ABlk.rows true e t []]) id = .cells cs T := by rw [hl1, if_neg (by omega), hl]
            have hb := k1.blk id
            rw [hl2] at hb
            obtain ⟨b, vs, hs, hw, hr⟩ := hb
            have hlk : ∀ j, lookIn ((hp ++ [ABlk.rows true e t []]).set id (.cells (cs.set j' (.own hp.length)) T)) j = if j = id then .cells (cs.set j' (.own hp.length)) T else lookIn (hp ++ [ABlk.rows true e t []]) j := by
              intro j
              rw [lookIn_set]
              by_cases e2 : id = j
              · subst e2; rw [if_pos ⟨rfl, by simp; omega⟩, if_pos rfl]
              · rw [if_neg (by simp [e2]), if_neg (show ¬ j = id from fun h => e2 h.symm)]
            have hle : BlkLe (lookIn (hp ++ [ABlk.rows true e t []]) id) (.cells (cs.set j' (.own hp.length)) T) := by rw [hl2]; exact ⟨rfl, by simp⟩
            have hnil : VRel B c1 (hp ++ [ABlk.rows true e t []]) w (.own hp.length) (.slice none 0 0) := by
              refine ⟨k3, ?_⟩
              unfold OwnV; rw [k4]
            obtain ⟨m1, m2⟩ := hrel_upd (w' := w) (hp' := (hp ++ [ABlk.rows true e t []]).set id (.cells (cs.set j' (.own hp.length)) T)) k1 (by rw [hl2]; simp) hs (blk := .cells (cs.set j' (.own hp.length)) T)
              (by simp) hle (by simp) hlk (fun _ _ => rfl) rfl (fun vs T fz h => ⟨vs, h, rfl⟩) rfl rfl ⟨rfl, Nat.le_refl _⟩
              (fun he => by
                obtain ⟨u, hu, hur⟩ := hr.get _ _ hc
                have hu0 : u = .slice none 0 0 := hur
                subst hu0
                refine ⟨b, vs, hs, hw, ?_⟩
                have h3 := VRelL.set hr j' hnil
                have hself : vs.toList.set j' (.slice none 0 0) = vs.toList := by
                  apply List.ext_getElem?
                  intro i
                  rw [List.getElem?_set]
                  split
                  · rename_i e3; subst e3
                    rw [hu]
                    split
                    · rfl
                    · rename_i h5
                      rw [List.getElem?_eq_none (by omega)] at hu
                      cases hu
                  · rfl
                rw [hself] at h3
                exact VRelL.evo h3 he)
            obtain ⟨c', q1, q2, q3⟩ := keepH_sound (tm := tm) (us := us) r _ c1 ((hv.evo k2).evo m2) m1
            exact ⟨c', q1, (k2.trans m2).trans q2, by simp at q3; omega⟩
          · exact plain
        · exact plain
      · exact plain

theorem norm_sound {c : Cx} {S : St} {a : Act} (ks : List (Nat × Option (TypeId × Ty))) {lo : Nat} (h : SRel B c S a w) (hlo : lo ≤ S.hp.length) :
    ∃ c', SRel B c' (norm ks lo S) a w ∧ Evo (· < lo) c S.hp w c' (norm ks lo S).hp w ∧ lo ≤ (norm ks lo S).hp.length := by
  obtain ⟨c1, k1, k2, k3, k4⟩ := keepT_sound ks S.tm a.tmps.toList 0 S.hp c h.tm h.hp
  obtain ⟨c3, m1, m2, m3⟩ := keepH_sound ks (keepT ks 0 S.tm S.hp).2 c1 k3 k1
  obtain ⟨c2, h1, h2, h3, h4⟩ := renSt_sound (lo := lo) (seen := seenOf lo (keepT ks 0 S.tm S.hp).1 (keepH ks (keepT ks 0 S.tm S.hp).1 (keepT ks 0 S.tm S.hp).2)) m1 (k3.evo m2) (by omega) (seenOf_nodup _ _ _) (fun id hid => seenOf_ge hid)
  exact ⟨c2, ⟨h2, h1⟩, ((k2.trans m2).mono fun _ _ => trivial).trans h3, h4⟩
end
end Go.Proofs.YtbjanflhagkhlaaDoor.Sk
