/- SK, part 17: regions. -/
import Derived.Test.YtbjanflhagkhlaaDoorSkCodeE
set_option linter.unusedVariables false
set_option linter.unusedSimpArgs false
namespace Go.Proofs.YtbjanflhagkhlaaDoor.Sk
open Go Go.RowKit

section
variable {B : Nat → Prop} {P : Program}

def Xof (listed : Array Bool) (i : Nat) : Bool := listed.getD i false

theorem mem_ready {ops : Array Oper} {listed : Array Bool} {i : Nat} (h : i ∈ Region.ready .any ops listed) (hs : listed.size = ops.size) :
    i < ops.size ∧ Xof listed i = false ∧ ∃ o, ops[i]? = some o ∧ ∀ e, e ∈ o.after.toList → bindsA e = true → Xof listed e.on = true := by
  unfold Region.ready at h
  rw [List.mem_filter, List.mem_range, Bool.and_eq_true] at h
  obtain ⟨h1, h2, h3⟩ := h
  refine ⟨h1, ?_, ops[i], by simp [h1], fun e he hb => ?_⟩
  · unfold Xof
    rw [Array.getD_eq_getD_getElem?, Array.getElem?_eq_getElem (by omega)] at h2 ⊢
    simpa using h2
  · rw [Array.getElem?_eq_getElem h1] at h3
    simp only [Option.map_some, Option.getD_some, Array.all_eq_true'] at h3
    have := h3 e (by simpa using he)
    unfold bindsA at hb
    rw [hb] at this
    simpa [Xof] using this

theorem all_ready {ops : Array Oper} {listed : Array Bool} (hs : listed.size = ops.size) (he : edgesOk 0 ops.toList = true) (h : Region.ready .any ops listed = []) : ∀ i, i < ops.size → Xof listed i = true := by
  intro i
  induction i using Nat.strongRecOn with
  | _ i ih =>
    intro hi
    cases hX : Xof listed i with
    | true => rfl
    | false =>
      exfalso
      have : i ∈ Region.ready .any ops listed := by
        unfold Region.ready
        rw [List.mem_filter, List.mem_range, Bool.and_eq_true]
        refine ⟨hi, ?_, ?_⟩
        · unfold Xof at hX
          rw [Array.getD_eq_getD_getElem?, Array.getElem?_eq_getElem (by omega)] at hX ⊢
          simpa using hX
        · rw [Array.getElem?_eq_getElem hi]
          simp only [Option.map_some, Option.getD_some, Array.all_eq_true']
          intro e hem
          cases hb : bindsA e with
          | false => unfold bindsA at hb; rw [hb]; rfl
          | true =>
            have hlt := edgesOk_spec ops.toList 0 he i ops[i] (by simp [hi]) e (by simpa using hem) hb
            have := ih e.on (by omega) (by omega)
            unfold Xof at this
            rw [this, Bool.or_true]
      rw [h] at this
      cases this

theorem Xof_set {listed : Array Bool} {i : Nat} (hi : i < listed.size) (k : Nat) : Xof (listed.setIfInBounds i true) k = (Xof listed k || k == i) := by
  unfold Xof
  rw [Array.getD_eq_getD_getElem?, Array.getD_eq_getD_getElem?, Array.getElem?_setIfInBounds]
  by_cases h : i = k
  · subst h; simp [hi]
  · have : (k == i) = false := by simpa using fun e => h e.symm
    rw [if_neg h, this, Bool.or_false]

theorem upd_place {c : Cx} {hp : List ABlk} {it : Item} (hin : it.n + it.e.news.length ≤ hp.length) (hf : ∀ j, j < it.e.news.length → ¬ c.D (it.n + j)) : Upd c hp it.n it.e (updAll hp (chg it)) := by
  refine ⟨by rw [updAll_length]; exact Nat.le_refl _, by rw [updAll_length]; exact hin, hf, fun id => ?_⟩
  rw [lookIn_updAll, updAll_length]
  unfold chg
  rw [lookup_append]
  cases it.e.upd.lookup id with
  | some b => rfl
  | none =>
    simp only
    rw [numbered_lookup]
    by_cases h : it.n ≤ id ∧ id < it.n + it.e.news.length
    · rw [if_pos h, if_pos h, List.getElem?_eq_getElem (by omega)]
      simp only [Option.getD_some]
      rw [if_pos (by omega)]
    · rw [if_neg h, if_neg h]

theorem replicate_look (hp : List ABlk) (k id : Nat) : lookIn (hp ++ List.replicate k .dead) id = lookIn hp id := by
  rw [lookIn_append]
  by_cases h : hp.length ≤ id
  · rw [if_pos h, lookIn_out h]
    cases hq : (List.replicate k ABlk.dead)[id - hp.length]? with
    | none => rfl
    | some b =>
      have := List.mem_of_getElem? hq
      rw [List.mem_replicate] at this
      rw [this.2]; rfl
  · rw [if_neg h]

variable {R : Type}

theorem region_draw_sound {E : Env} (hE : SpecsOk P E) (hm : P.follows .mixedOrders = true) {call : CallK R} {id : Nat} {ops : Array Oper} {K : St → Option R} {x : R} {Q : Exit → Act → World → Prop} {c : Cx} {S : St} {a : Act} {w : World}
    (h : region E P call ops.toList true S K = some x) (hS : SRel B c S a w)
    {r0 : Option Nat} (hQ : ∀ S' a' w' c', K S' = some x → SRel B c' S' a' w' → Evo (· < S.hp.length) c S.hp w c' S'.hp w' → S.hp.length ≤ S'.hp.length → a'.defers = a.defers → Q .normal a' w') : (Code.region id ops true).wpIn (Wd r0) 0 P Q a w := by
  obtain ⟨ds, hds⟩ : ∃ ds, a.defers = ds := ⟨_, rfl⟩
  rw [hds] at hQ
  unfold region at h
  simp only at h
  cases hed0 : (edgesOk 0 ops.toList && statOk (befores ops.toList []) 0 [] (ops.toList.map (statOf ops.toList))) with
  | false => rw [hed0] at h; cases h
  | true =>
  rw [hed0, cond_true] at h
  rw [Bool.and_eq_true] at hed0
  obtain ⟨hed, hst⟩ := hed0
  obtain ⟨its, hmap, hK, hits⟩ := regD_items _ _ _ _ _ h
  have hlen : its.length = ops.size := by have := congrArg List.length hmap; simpa using this
  refine wpIn_region_any hm ?_
  -- the start
  have hS0 : SRel B c ⟨S.tm, S.hp ++ List.replicate (3 * ops.toList.length) .dead⟩ a { w with drawn := w.drawn + 1 } ∧ Evo (· < S.hp.length) c S.hp w c (S.hp ++ List.replicate (3 * ops.toList.length) .dead) { w with drawn := w.drawn + 1 } := by
    have hl := fun id => replicate_look S.hp (3 * ops.toList.length) id
    have he : Evo All c S.hp w c (S.hp ++ List.replicate (3 * ops.toList.length) .dead) { w with drawn := w.drawn + 1 } :=
      ⟨fun _ _ h => h, fun _ _ _ => rfl, fun _ h => h, fun _ _ => rfl, Nat.le_refl _, fun b vs T fz h => ⟨vs, h, rfl⟩, fun id _ _ => BlkLe.of_eq (hl id), rfl, rfl, ⟨rfl, Nat.le_succ _⟩⟩
    have hh := hrel_look (hp' := S.hp ++ List.replicate (3 * ops.toList.length) .dead) hS.hp (by simp) hl
    refine ⟨⟨hS.tm.evo he, ⟨hh.bs, hh.lt, hh.dl, hh.ld, fun id => ?_, hh.inj, hh.nf, hh.gl.keep he.F he.keep⟩⟩, he.mono fun _ _ => trivial⟩
    rw [hl]
    exact (hS.hp.blk id).evo he rfl fun _ _ => rfl
  generalize hS0e : (⟨S.tm, S.hp ++ List.replicate (3 * ops.toList.length) .dead⟩ : St) = S0 at hS0 hK hits
  have hl0 : S0.hp.length = S.hp.length + 3 * ops.size := by rw [← hS0e]; simp
  have hE0 : Evo (· < S.hp.length) c S.hp w c S0.hp { w with drawn := w.drawn + 1 } := by rw [← hS0e]; exact hS0.2
  have hd0 : ∀ i j, ¬ c.D (S.hp.length + 3 * i + j) := fun i j hd => by have := hS.hp.dl _ hd; omega
  -- each place
  have hat : ∀ i, i < ops.size → ∃ it, its[i]? = some it ∧ its = its.take i ++ it :: its.drop (i + 1) ∧ ops[i]? = some it.o := by
    intro i hi
    have hi' : i < its.length := by omega
    refine ⟨its[i], List.getElem?_eq_getElem hi', ?_, ?_⟩
    · rw [← List.drop_eq_getElem_cons hi', List.take_append_drop]
    · have := congrArg (fun l => l[i]?) hmap
      simp only [List.getElem?_map, List.getElem?_eq_getElem hi', Option.map_some] at this
      rw [← Array.getElem?_toList]; exact this.symm
  have hwr : ∀ (i : Nat) (it : Item), its[i]? = some it → WrOk it := fun i it hi => ⟨(hits i it hi).2.1.dst, (hits i it hi).2.1.wr⟩
  have hop' : ∀ (i : Nat) (it : Item), its[i]? = some it → ops.toList[i]? = some it.o := by
    intro i it hi
    have := congrArg (fun l => l[i]?) hmap
    simpa only [List.getElem?_map, hi, Option.map_some] using this.symm
  have hind : ∀ (i j : Nat) (x y : Item), its[i]? = some x → its[j]? = some y → i < j → Nat.testBit ((befores ops.toList []).getD j 0) i = true ∨ Indep x.ent y.ent := by
    intro i j x y hx hy hij
    have h1 := (hits j y hy).2.2.2 i x hij hx
    rw [Nat.zero_add, Nat.zero_add] at h1
    have h2 := statOk_spec _ [] hst i j (statOf ops.toList x.o) (statOf ops.toList y.o) hij (Nat.zero_le _) (by simp [List.getElem?_map, hop' i x hx]) (by simp [List.getElem?_map, hop' j y hy])
    rcases h1 with h1 | h1
    · exact .inl h1
    · rcases h2 with h2 | h2
      · exact .inl h2
      · exact .inr (indep_mk (hits i x hx).2.1.dst (hits j y hy).2.1.dst (hits i x hx).2.1.stat (hits j y hy).2.1.stat h2 h1)
  have main : ∀ (fuel : Nat) (listed : Array Bool) (rem : List Nat) (a : Act) (w1 : World), rem.length ≤ fuel → (∀ i, i < ops.size → Xof listed i = false → i ∈ rem) → listed.size = ops.size → Closed ops.toList (Xof listed) → a.defers = ds →
      (∃ c', SRel B c' (snap (Xof listed) 0 its S0) a w1 ∧ Evo (· < S.hp.length) c S.hp w c' (snap (Xof listed) 0 its S0).hp w1 ∧ ∀ i j, i < ops.size → Xof listed i = false → j < 3 → ¬ c'.D (S.hp.length + 3 * i + j)) →
      wpAnyIn (Wd r0) 0 P .any ops Q fuel listed a w1 := by
    have hslen : ∀ (X : Nat → Bool) (l : List Item) (i : Nat) (S : St), (snap X i l S).hp.length = S.hp.length := by
      intro X l
      induction l with
      | nil => intro i S; rfl
      | cons it l ih => intro i S; simp only [snap]; rw [ih]; cases X i <;> simp [appI_hl]
    have fin : ∀ (listed : Array Bool) (a : Act) (w1 : World), (∀ i, i < ops.size → Xof listed i = true) → a.defers = ds →
        (∃ c', SRel B c' (snap (Xof listed) 0 its S0) a w1 ∧ Evo (· < S.hp.length) c S.hp w c' (snap (Xof listed) 0 its S0).hp w1 ∧ ∀ i j, i < ops.size → Xof listed i = false → j < 3 → ¬ c'.D (S.hp.length + 3 * i + j)) → Q .normal a w1 := by
      intro listed a w1 hall hds ⟨c', h1, h2, _⟩
      have e := snap_all (X := Xof listed) its 0 S0 fun k _ hk => hall k (by omega)
      rw [e] at h1 h2
      refine hQ _ a w1 c' hK h1 h2 ?_ hds
      rw [← e, hslen, hl0]; omega
    intro fuel
    induction fuel with
    | zero =>
      intro listed rem a w1 hr hrem hs hcl hds hinv
      have hall : ∀ i, i < ops.size → Xof listed i = true := fun i hi => by
        cases hX : Xof listed i with
        | true => rfl
        | false =>
          have := hrem i hi hX
          rw [List.eq_nil_of_length_eq_zero (Nat.le_zero.1 hr)] at this
          cases this
      refine ⟨?_, fin listed a w1 hall hds hinv⟩
      cases hr : Region.ready .any ops listed with
      | nil => rfl
      | cons i r =>
        have := mem_ready (listed := listed) (i := i) (by rw [hr]; exact List.mem_cons_self ..) hs
        rw [hall i this.1] at this
        exact absurd this.2.1 (by simp)
    | succ fuel ih =>
      intro listed rem a w1 hr hrem hs hcl hds hinv
      refine ⟨fun hnil => fin listed a w1 (all_ready hs hed hnil) hds hinv, fun i hi => ?_⟩
      obtain ⟨hilt, hXi, o, hoi, hedges⟩ := mem_ready hi hs
      obtain ⟨it, hit, hsplit, hop⟩ := hat i hilt
      rw [hop] at hoi
      cases hoi
      obtain ⟨c', h1, h2, h3⟩ := hinv
      have hTX : ∀ k, Nat.testBit ((befores ops.toList []).getD i 0) k = true → Xof listed k = true := closed_all hed hcl i it.o (by simpa using hop) hedges
      have hTn : ∀ (j : Nat) (it' : Item), its[j]? = some it' → Xof listed j = true → ¬ Nat.testBit ((befores ops.toList []).getD j 0) i = true := by
        intro j it' hj hXj hmem
        have hjl : j < ops.size := by
          rcases Nat.lt_or_ge j its.length with h' | h'
          · omega
          · rw [List.getElem?_eq_none h'] at hj; cases hj
        obtain ⟨it2, hit2, _, hop2⟩ := hat j hjl
        have := closed_all hed hcl j it2.o (by simpa using hop2) (hcl j it2.o (by simpa using hop2) hXj) i hmem
        rw [hXi] at this; cases this
      have hpl : (its.take i).length = i := by rw [List.length_take]; omega
      have hpre : ∀ (j : Nat) (it' : Item), (its.take i)[j]? = some it' → j < i ∧ its[j]? = some it' := by
        intro j it' hj
        rw [List.getElem?_take] at hj
        split at hj
        · exact ⟨by assumption, hj⟩
        · cases hj
      have hsuf : ∀ (j : Nat) (it' : Item), (its.drop (i + 1))[j]? = some it' → its[i + 1 + j]? = some it' := by
        intro j it' hj; rwa [List.getElem?_drop] at hj
      -- it sees what it saw
      have hag : Agree it.ent.looks it.ent.reads (snap (Xof listed) 0 its S0) ((its.take i).foldl appI S0) := by
        have h4 : Agree it.ent.looks it.ent.reads (snap (Xof listed) 0 (its.take i) S0) ((its.take i).foldl appI S0) := by
          refine snap_agree_pre _ 0 S0 S0 ⟨rfl, rfl, fun _ _ => rfl, fun _ _ => rfl⟩ fun j it' hj hX => ?_
          obtain ⟨hji, hj⟩ := hpre j it' hj
          rw [Nat.zero_add] at hX
          rcases hind j i it' it hj hit hji with hb | hb
          · rw [hTX j hb] at hX; cases hX
          · obtain ⟨q1, q2, q3, q4, q5⟩ := hb
            exact ⟨fun d hd => (q1 d (by rw [(hwr j it' hj).1]; exact hd)).1, fun id hid => q3 id (chg_writes (hwr j it' hj) hid)⟩
        rw [hsplit, snap_append, hpl, Nat.zero_add]
        simp only [snap, hXi, cond_false]
        refine snap_agree_suf _ (i + 1) _ _ ?_ fun j it' hj hX => ?_
        · rw [← hsplit]; exact h4
        · have hj := hsuf j it' hj
          rcases hind i (i + 1 + j) it it' hit hj (by omega) with hb | hb
          · exact absurd hb (hTn _ it' hj hX)
          · obtain ⟨q1, q2, q3, q4, q5⟩ := hb
            exact ⟨fun d hd => q2 d (by rw [(hwr _ it' hj).1]; exact hd), fun id hid => q4 id (chg_writes (hwr _ it' hj) hid)⟩
      have hnew : snap (Xof (listed.setIfInBounds i true)) 0 its S0 = appI (snap (Xof listed) 0 its S0) it := by
        rw [hsplit]
        refine snap_insert (by rw [hpl]; exact hXi) (fun k => by rw [hpl]; exact Xof_set (by omega) k) fun j it' hj hX S => ?_
        rw [hpl] at hX
        have hj := hsuf j it' hj
        rcases hind i (i + 1 + j) it it' hit hj (by omega) with hb | hb
        · exact absurd hb (hTn _ it' hj hX)
        · exact appI_comm (hwr i it hit) (hwr _ it' hj) hb
      obtain ⟨hn, hok, _⟩ := hits i it hit
      rw [Nat.zero_add] at hn
      -- on
      have goOn : ∀ (u : Value) (w2 : World), EffOk B c' (snap (Xof listed) 0 its S0).hp w1 it.n it.e u w2 → wpAnyIn (Wd r0) 0 P .any ops Q fuel (listed.setIfInBounds i true) (a.put it.o.dst u) w2 := by
        intro u w2 he
        refine ih (listed.setIfInBounds i true) (rem.erase i) _ _ ?_ ?_ (by simp [hs]) ?_ ((put_defers ..).trans hds) ?_
        · rw [List.length_erase_of_mem (hrem i hilt hXi)]; omega
        · intro k hk hXk
          rw [Xof_set (by omega), Bool.or_eq_false_iff] at hXk
          have hne : k ≠ i := by simpa using hXk.2
          exact (List.mem_erase_of_ne hne).2 (hrem k hk hXk.1)
        · intro k o' ho' hXk e he hb
          rw [Xof_set (by omega)] at hXk ⊢
          rw [Bool.or_eq_true] at hXk ⊢
          rcases hXk with hXk | hXk
          · exact .inl (hcl k o' ho' hXk e he hb)
          · have : k = i := by simpa using hXk
            subst this
            have hoo : ops.toList[k]? = some it.o := by simpa using hop
            rw [hoo] at ho'
            cases ho'
            exact .inl (hedges e he hb)
        · rw [hnew]
          have hin : it.n + it.e.news.length ≤ (snap (Xof listed) 0 its S0).hp.length := by have := hok.three; rw [hslen, hl0, hn]; omega
          obtain ⟨c2, k1, k2, k3, k4⟩ := he _ (upd_place hin fun j hj => by have := hok.three; rw [hn]; exact h3 i j hilt hXi (by omega))
          refine ⟨c2, ?_, ?_, ?_⟩
          · exact srel_put (S := ⟨(snap (Xof listed) 0 its S0).tm, updAll (snap (Xof listed) 0 its S0).hp (chg it)⟩) ⟨h1.tm.evo k2, k1⟩ k3
          · rw [appI_hp]; exact h2.trans (k2.mono fun _ _ => trivial)
          · intro k j hk hXk hj hd
            rw [Xof_set (by omega), Bool.or_eq_false_iff] at hXk
            have hne : k ≠ i := by simpa using hXk.2
            rcases k4 _ hd with hd | ⟨hd1, hd2⟩
            · exact h3 k j hk hXk.1 hj hd
            · have := hok.three; rw [hn] at hd1 hd2; omega
      unfold wpOpIn
      rw [hop]
      simp only
      -- guards
      have hwant : Region.wanted it.o (yielded ops a.tmps) = it.on := by
        have hg := hok.guard
        split at hg
        · rename_i hgd; unfold Region.wanted; rw [hgd, hg]
        · rename_i j want hgd
          obtain ⟨t, g1, g4, ⟨b, g2, g3⟩ | ⟨v, g2, g3, g5⟩ | ⟨q, b, g2, g3⟩⟩ := hg
          · rw [g3]
            unfold Region.wanted
            rw [hgd]
            have hu' := tm_sc h1 ((hag.tm t g4).trans g2)
            simp [yielded, dstOf_eq g1, hu']
          · rw [g5]
            exact wanted_no' h1 hgd g1 ((hag.tm t g4).trans g2) g3
          · rw [g3]
            exact wanted_gd h1 hgd g1 ((hag.tm t g4).trans g2)
      rw [hwant]
      cases hon : it.on with
      | true =>
        rw [if_pos rfl]
        obtain ⟨e0, y1, y0, y2⟩ := hok.yes hon
        have y1' : effO E P it.o (snap (Xof listed) 0 its S0).ev (snap (Xof listed) 0 its S0).hp it.n = some (e0, it.ent.reads) := by
          refine effO_congr y1 (fun x hx => ?_) fun id hid => ?_
          · cases x with
            | tmp t =>
              have ht : t ∈ tmpsOf it.o.op.operands.toList := List.mem_filterMap.2 ⟨_, hx, rfl⟩
              show (((its.take i).foldl appI S0).tm[t]?).getD .any = ((snap (Xof listed) 0 its S0).tm[t]?).getD .any
              rw [hag.tm t (y2 t ht)]
            | _ => rfl
          · unfold lookIn; rw [hag.hp id hid]
        refine effO_sound hE y1' h1 fun u w2 hk => goOn u w2 ?_
        rcases y0 with y0 | ⟨v, y3, y4⟩
        · rw [y0]; exact hk
        · rw [y4]
          rw [y3] at hk
          exact effOk_gd hk
      | false =>
        rw [if_neg (by simp)]
        refine ⟨fun _ _ => trivial, ?_⟩
        rcases hok.no hon with hno | ⟨v, hno⟩
        · refine goOn undef w1 ?_
          rw [hno]
          exact effOk_val h1.hp rfl
        · refine goOn undef w1 ?_
          rw [hno]
          exact effOk_val h1.hp ⟨(fun h => nomatch h), fun _ => rfl⟩
  refine main ops.size _ (List.range ops.size) a _ (by simp) (fun i hi _ => List.mem_range.2 hi) (by simp) ?_ hds ⟨c, ?_, ?_, fun i j _ _ _ => hd0 i j⟩
  · intro i o ho hX
    have : Xof (Array.replicate ops.size false) i = false := by unfold Xof; rw [Array.getD_eq_getD_getElem?, Array.getElem?_replicate]; split <;> rfl
    rw [this] at hX; cases hX
  all_goals
    rw [snap_none its 0 S0 fun k _ _ => by unfold Xof; rw [Array.getD_eq_getD_getElem?, Array.getElem?_replicate]; split <;> rfl]
  · rw [← hS0e] at hS0 ⊢; exact hS0.1
  · exact hE0
end
end Go.Proofs.YtbjanflhagkhlaaDoor.Sk
