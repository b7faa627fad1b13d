/- SK, part 16: regions that draw their order: every order comes to the same. -/
import Derived.Test.YtbjanflhagkhlaaDoorSkCodeD
set_option linter.unusedVariables false
set_option linter.unusedSimpArgs false
namespace Go.Proofs.YtbjanflhagkhlaaDoor.Sk
open Go Go.RowKit

section
variable {P : Program} {X Y : Nat → Bool}

def snap (X : Nat → Bool) : Nat → List Item → St → St
  | _, [], S => S
  | i, it :: r, S => snap X (i + 1) r (cond (X i) (appI S it) S)

theorem snap_append : ∀ (l r : List Item) (i : Nat) (S : St), snap X i (l ++ r) S = snap X (i + l.length) r (snap X i l S)
  | [], r, i, S => rfl
  | it :: l, r, i, S => by
    simp only [List.cons_append, snap, List.length_cons]
    rw [snap_append l r (i + 1) _, show i + 1 + l.length = i + (l.length + 1) by omega]
theorem snap_congr : ∀ (its : List Item) (i : Nat) (S : St), (∀ k, i ≤ k → k < i + its.length → X k = Y k) → snap X i its S = snap Y i its S
  | [], _, _, _ => rfl
  | it :: its, i, S, h => by
    simp only [snap]
    rw [h i (Nat.le_refl _) (by simp)]
    exact snap_congr its (i + 1) _ fun k h1 h2 => h k (by omega) (by simp; omega)
theorem snap_all : ∀ (its : List Item) (i : Nat) (S : St), (∀ k, i ≤ k → k < i + its.length → X k = true) → snap X i its S = its.foldl appI S
  | [], _, _, _ => rfl
  | it :: its, i, S, h => by
    simp only [snap, List.foldl_cons]
    rw [h i (Nat.le_refl _) (by simp)]
    exact snap_all its (i + 1) _ fun k h1 h2 => h k (by omega) (by simp; omega)
theorem snap_none : ∀ (its : List Item) (i : Nat) (S : St), (∀ k, i ≤ k → k < i + its.length → X k = false) → snap X i its S = S
  | [], _, _, _ => rfl
  | it :: its, i, S, h => by
    simp only [snap]
    rw [h i (Nat.le_refl _) (by simp)]
    exact snap_none its (i + 1) _ fun k h1 h2 => h k (by omega) (by simp; omega)

/-! ### changes -/
def chg (it : Item) : List (Nat × ABlk) := it.e.upd ++ numbered it.n it.e.news
def WrOk (it : Item) : Prop := it.ent.dst = it.o.dst ∧ it.ent.writes = (List.range it.e.news.length).map (it.n + ·) ++ it.e.upd.map (·.1)

theorem lookup_mem : ∀ {ch : List (Nat × ABlk)} {id : Nat} {b : ABlk}, ch.lookup id = some b → id ∈ ch.map (·.1)
  | [], _, _, h => by cases h
  | (i, b') :: ch, id, b, h => by
    rw [List.lookup_cons] at h
    by_cases e : id = i
    · simp [e]
    · have : (id == i) = false := by simpa using e
      rw [this] at h
      exact List.mem_cons_of_mem _ (lookup_mem h)
theorem lookup_not_mem : ∀ {ch : List (Nat × ABlk)} {id : Nat}, id ∉ ch.map (·.1) → ch.lookup id = none
  | ch, id, h => by
    cases hl : ch.lookup id with
    | none => rfl
    | some b => exact absurd (lookup_mem hl) h
theorem lookup_append : ∀ (l r : List (Nat × ABlk)) (id : Nat), (l ++ r).lookup id = match l.lookup id with | some b => some b | none => r.lookup id
  | [], r, id => rfl
  | (i, b) :: l, r, id => by
    simp only [List.cons_append, List.lookup_cons]
    cases (id == i) with
    | true => rfl
    | false => exact lookup_append l r id
theorem numbered_lookup : ∀ (news : List ABlk) (n id : Nat), (numbered n news).lookup id = if n ≤ id ∧ id < n + news.length then news[id - n]? else none
  | [], n, id => by simp only [numbered, List.lookup_nil, List.length_nil, Nat.add_zero]; rw [if_neg (by omega)]
  | b :: news, n, id => by
    simp only [numbered, List.lookup_cons, List.length_cons]
    by_cases e : id = n
    · subst e; simp
    · have : (id == n) = false := by simpa using e
      rw [this]
      simp only
      rw [numbered_lookup news (n + 1) id]
      by_cases h : n + 1 ≤ id ∧ id < n + 1 + news.length
      · rw [if_pos h, if_pos (by omega), show id - n = (id - (n + 1)) + 1 by omega]; simp
      · rw [if_neg h, if_neg (by omega)]
theorem numbered_fst : ∀ (news : List ABlk) (n : Nat), (numbered n news).map (·.1) = (List.range news.length).map (n + ·)
  | [], n => rfl
  | b :: news, n => by
    simp only [numbered, List.map_cons, numbered_fst news (n + 1), List.length_cons, List.range_succ_eq_map, List.map_map]
    simp only [List.cons.injEq, Nat.add_zero, true_and]
    refine List.map_congr_left fun x _ => ?_
    simp only [Function.comp]
    omega

theorem chg_writes {it : Item} (h : WrOk it) {id : Nat} (hid : id ∈ (chg it).map (·.1)) : id ∈ it.ent.writes := by
  rw [h.2]
  unfold chg at hid
  rw [List.map_append, List.mem_append] at hid
  rw [List.mem_append]
  rcases hid with hid | hid
  · exact .inr hid
  · rw [numbered_fst] at hid; exact .inl hid

theorem put_tm' (S : St) (d : Option Tmp) (v : AV) : (S.put d v).tm = match d with | some t => S.tm.set t v | none => S.tm := by cases d <;> rfl
theorem appI_hp (S : St) (it : Item) : (appI S it).hp = updAll S.hp (chg it) := put_tm _ _ _
theorem appI_tm (S : St) (it : Item) : (appI S it).tm = match it.o.dst with | some t => S.tm.set t it.e.v | none => S.tm := put_tm' _ _ _
theorem St.ext' {S S' : St} (h1 : S.tm = S'.tm) (h2 : S.hp = S'.hp) : S = S' := by cases S; cases S'; simp only at h1 h2; rw [h1, h2]

theorem updAll_comm {hp : List ABlk} {ch ch' : List (Nat × ABlk)} (h : ∀ i, i ∈ ch.map (·.1) → i ∉ ch'.map (·.1)) : updAll (updAll hp ch) ch' = updAll (updAll hp ch') ch := by
  apply List.ext_getElem?
  intro id
  simp only [updAll_get, updAll_length]
  cases h1 : ch.lookup id with
  | none => cases ch'.lookup id <;> rfl
  | some b =>
    rw [lookup_not_mem (h id (lookup_mem h1))]

theorem appI_comm {S : St} {it it' : Item} (hx : WrOk it) (hy : WrOk it') (h : Indep it.ent it'.ent) : appI (appI S it) it' = appI (appI S it') it := by
  obtain ⟨h1, _, _, _, h5⟩ := h
  apply St.ext'
  · rw [appI_tm, appI_tm, appI_tm, appI_tm]
    cases hd : it.o.dst with
    | none => rfl
    | some d =>
      cases hd' : it'.o.dst with
      | none => rfl
      | some d' =>
        simp only
        have hne : d ≠ d' := fun e => (h1 d (by rw [hx.1]; exact hd)).2 (by rw [hy.1, hd', e])
        exact List.set_comm _ _ hne
  · rw [appI_hp, appI_hp, appI_hp, appI_hp]
    exact updAll_comm fun i hi hi' => h5 i (chg_writes hx hi) (chg_writes hy hi')

theorem snap_comm {it : Item} : ∀ (suf : List Item) (i : Nat) (S : St), (∀ j it', suf[j]? = some it' → X (i + j) = true → ∀ S, appI (appI S it) it' = appI (appI S it') it) →
    snap X i suf (appI S it) = appI (snap X i suf S) it
  | [], _, _, _ => rfl
  | it' :: suf, i, S, h => by
    simp only [snap]
    have hr : ∀ j it'', suf[j]? = some it'' → X (i + 1 + j) = true → ∀ S, appI (appI S it) it'' = appI (appI S it'') it := fun j it'' hj hX => h (j + 1) it'' (by simpa using hj) (by rw [← hX]; congr 1; omega)
    cases hX : X i with
    | false => exact snap_comm suf (i + 1) S hr
    | true =>
      simp only [cond_true]
      rw [h 0 it' rfl (by simpa using hX) S]
      exact snap_comm suf (i + 1) _ hr

theorem snap_insert {pre suf : List Item} {it : Item} {S : St} (hX : X pre.length = false) (hY : ∀ k, Y k = (X k || k == pre.length))
    (h : ∀ j it', suf[j]? = some it' → X (pre.length + 1 + j) = true → ∀ S, appI (appI S it) it' = appI (appI S it') it) :
    snap Y 0 (pre ++ it :: suf) S = appI (snap X 0 (pre ++ it :: suf) S) it := by
  rw [snap_append, snap_append, Nat.zero_add]
  have e1 : snap Y 0 pre S = snap X 0 pre S := snap_congr pre 0 S fun k _ h2 => by
    rw [hY k]
    have : (k == pre.length) = false := by simp; omega
    rw [this, Bool.or_false]
  rw [e1]
  simp only [snap, hX, cond_false]
  rw [hY pre.length]
  simp only [beq_self_eq_true, Bool.or_true, cond_true]
  rw [snap_congr (X := Y) (Y := X) suf (pre.length + 1) _ (fun k h1 _ => by
    rw [hY k]
    have : (k == pre.length) = false := by simp; omega
    rw [this, Bool.or_false])]
  exact snap_comm suf _ _ h

/-! ### what an operation looks at is the same in every order -/
structure Agree (L Rs : List Nat) (S S' : St) : Prop where
  tl : S.tm.length = S'.tm.length
  hl : S.hp.length = S'.hp.length
  tm : ∀ t, t ∈ L → S.tm[t]? = S'.tm[t]?
  hp : ∀ id, id ∈ Rs → S.hp[id]? = S'.hp[id]?

theorem appI_tl (S : St) (it : Item) : (appI S it).tm.length = S.tm.length := by rw [appI_tm]; cases it.o.dst <;> simp
theorem appI_hl (S : St) (it : Item) : (appI S it).hp.length = S.hp.length := by rw [appI_hp, updAll_length]

theorem Agree.app {L Rs : List Nat} {S S' : St} (h : Agree L Rs S S') (it : Item) : Agree L Rs (appI S it) (appI S' it) := by
  refine ⟨by rw [appI_tl, appI_tl, h.tl], by rw [appI_hl, appI_hl, h.hl], fun t ht => ?_, fun id hid => ?_⟩
  · rw [appI_tm, appI_tm]
    cases it.o.dst with
    | none => exact h.tm t ht
    | some d => simp only [List.getElem?_set, h.tl, h.tm t ht]
  · rw [appI_hp, appI_hp, updAll_get, updAll_get, h.hl, h.hp id hid]

def Apart (L Rs : List Nat) (it : Item) : Prop := (∀ d, it.o.dst = some d → d ∉ L) ∧ ∀ id, id ∈ (chg it).map (·.1) → id ∉ Rs

theorem Agree.left {L Rs : List Nat} {S S' : St} (h : Agree L Rs S S') {it : Item} (ha : Apart L Rs it) : Agree L Rs (appI S it) S' := by
  refine ⟨by rw [appI_tl, h.tl], by rw [appI_hl, h.hl], fun t ht => ?_, fun id hid => ?_⟩
  · rw [appI_tm, ← h.tm t ht]
    cases hd : it.o.dst with
    | none => rfl
    | some d =>
      have hne : d ≠ t := fun e => ha.1 d hd (e ▸ ht)
      simp only [List.getElem?_set, if_neg hne]
  · rw [appI_hp, updAll_get, lookup_not_mem fun hm => ha.2 id hm hid]
    exact h.hp id hid
theorem Agree.symm {L Rs : List Nat} {S S' : St} (h : Agree L Rs S S') : Agree L Rs S' S := ⟨h.tl.symm, h.hl.symm, fun t ht => (h.tm t ht).symm, fun id hid => (h.hp id hid).symm⟩

theorem snap_agree_pre {L Rs : List Nat} : ∀ (pre : List Item) (i : Nat) (S S' : St), Agree L Rs S S' → (∀ j it, pre[j]? = some it → X (i + j) = false → Apart L Rs it) → Agree L Rs (snap X i pre S) (pre.foldl appI S')
  | [], _, _, _, h, _ => h
  | it :: pre, i, S, S', h, ha => by
    simp only [snap, List.foldl_cons]
    refine snap_agree_pre pre (i + 1) _ _ ?_ fun j it' hj hX => ha (j + 1) it' (by simpa using hj) (by rw [← hX]; congr 1; omega)
    cases hX : X i with
    | true => exact h.app it
    | false => exact (h.symm.left (ha 0 it rfl (by simpa using hX))).symm
theorem snap_agree_suf {L Rs : List Nat} : ∀ (suf : List Item) (i : Nat) (S S' : St), Agree L Rs S S' → (∀ j it, suf[j]? = some it → X (i + j) = true → Apart L Rs it) → Agree L Rs (snap X i suf S) S'
  | [], _, _, _, h, _ => h
  | it :: suf, i, S, S', h, ha => by
    simp only [snap]
    refine snap_agree_suf suf (i + 1) _ _ ?_ fun j it' hj hX => ha (j + 1) it' (by simpa using hj) (by rw [← hX]; congr 1; omega)
    cases hX : X i with
    | true => exact h.left (ha 0 it rfl (by simpa using hX))
    | false => exact h

/-! ### which operations wait for which -/
theorem edgesOk_spec : ∀ (r : List Oper) (i : Nat), edgesOk i r = true → ∀ j o, r[j]? = some o → ∀ e, e ∈ o.after.toList → bindsA e = true → e.on < i + j
  | [], _, _, j, o, hj, _, _, _ => by simp at hj
  | o' :: r, i, h, j, o, hj, e, he, hb => by
    unfold edgesOk at h
    rw [Bool.and_eq_true, List.all_eq_true] at h
    cases j with
    | zero =>
      simp at hj; subst hj
      have := h.1 e (List.mem_filter.2 ⟨he, hb⟩)
      simpa [Nat.blt_eq] using this
    | succ j =>
      have := edgesOk_spec r (i + 1) h.2 j o (by simpa using hj) e he hb
      omega

theorem befores_pre : ∀ (r : List Oper) (acc : List Nat) (k : Nat), k < acc.length → (befores r acc)[k]? = acc[k]?
  | [], acc, k, h => rfl
  | o :: r, acc, k, h => by
    unfold befores
    rw [befores_pre r _ k (by simp; omega), List.getElem?_append_left h]

theorem maskE_bit {acc : List Nat} {k : Nat} : ∀ {es : List Edge}, Nat.testBit (maskE acc es) k = true → ∃ e, e ∈ es ∧ (k = e.on ∨ Nat.testBit (acc.getD e.on 0) k = true)
  | [], h => by simp [maskE] at h
  | e :: es, h => by
    unfold maskE at h
    rw [bit_or, bit_or, bit_one, Bool.or_eq_true, Bool.or_eq_true, decide_eq_true_eq] at h
    rcases h with h | h
    · exact ⟨e, List.mem_cons_self .., h⟩
    · obtain ⟨e', h1, h2⟩ := maskE_bit h
      exact ⟨e', List.mem_cons_of_mem _ h1, h2⟩
theorem befores_at : ∀ (r : List Oper) (acc : List Nat), edgesOk acc.length r = true → ∀ j o, r[j]? = some o → ∀ k, Nat.testBit ((befores r acc).getD (acc.length + j) 0) k = true →
    ∃ e, e ∈ o.after.toList ∧ bindsA e = true ∧ (k = e.on ∨ Nat.testBit ((befores r acc).getD e.on 0) k = true)
  | [], _, _, j, o, hj, _, _ => by simp at hj
  | o' :: r, acc, h, j, o, hj, k, hk => by
    have hspec := edgesOk_spec (o' :: r) acc.length h
    unfold edgesOk at h
    rw [Bool.and_eq_true] at h
    cases j with
    | zero =>
      simp at hj; subst hj
      unfold befores at hk ⊢
      have hpre := fun k hk => befores_pre r (acc ++ [maskE acc (o'.after.toList.filter bindsA)]) k hk
      rw [Nat.add_zero, List.getD_eq_getElem?_getD, hpre acc.length (by simp)] at hk
      simp only [List.getElem?_append_right (Nat.le_refl _), Nat.sub_self, List.getElem?_cons_zero, Option.getD_some] at hk
      obtain ⟨e, he, hk⟩ := maskE_bit hk
      rw [List.mem_filter] at he
      obtain ⟨he, hb⟩ := he
      refine ⟨e, he, hb, ?_⟩
      rcases hk with hk | hk
      · exact .inl hk
      · refine .inr ?_
        have hlt := hspec 0 o' rfl e he hb
        rw [Nat.add_zero] at hlt
        rw [List.getD_eq_getElem?_getD, hpre e.on (by simp; omega), List.getElem?_append_left hlt, ← List.getD_eq_getElem?_getD]
        exact hk
    | succ j =>
      unfold befores at hk ⊢
      exact befores_at r (acc ++ [_]) (by simpa using h.2) j o (by simpa using hj) k (by
        rw [show (acc ++ [maskE acc (o'.after.toList.filter bindsA)]).length + j = acc.length + (j + 1) by simp; omega]
        exact hk)

def Closed (ops : List Oper) (X : Nat → Bool) : Prop := ∀ i o, ops[i]? = some o → X i = true → ∀ e, e ∈ o.after.toList → bindsA e = true → X e.on = true

theorem befores_out : ∀ (r : List Oper) (acc : List Nat), (befores r acc).length = acc.length + r.length
  | [], acc => rfl
  | o :: r, acc => by unfold befores; rw [befores_out r]; simp; omega

/-- What an operation waits for has been, once its nearest have. -/
theorem closed_all {ops : List Oper} (h : edgesOk 0 ops = true) (hX : Closed ops X) : ∀ (i : Nat) (o : Oper), ops[i]? = some o → (∀ e, e ∈ o.after.toList → bindsA e = true → X e.on = true) → ∀ k, Nat.testBit ((befores ops []).getD i 0) k = true → X k = true := by
  intro i
  induction i using Nat.strongRecOn with
  | _ i ih =>
    intro o ho hn k hk
    obtain ⟨e, he, hb, hk'⟩ := befores_at ops [] (by simpa using h) i o ho k (by simpa using hk)
    have hlt := edgesOk_spec ops 0 h i o ho e he hb
    rcases hk' with rfl | hk'
    · exact hn e he hb
    · have hi : i < ops.length := by
        rcases Nat.lt_or_ge i ops.length with h' | h'
        · exact h'
        · rw [List.getElem?_eq_none h'] at ho; cases ho
      have hoe : ops[e.on]? = some ops[e.on] := List.getElem?_eq_getElem (by omega)
      exact ih e.on (by omega) _ hoe (fun e' he' hb' => hX e.on _ hoe (hn e he hb) e' he' hb') k hk'
end
end Go.Proofs.YtbjanflhagkhlaaDoor.Sk
