/- SK, part 15: operations that draw their order. -/
import Derived.Test.YtbjanflhagkhlaaDoorSkCode
set_option linter.unusedVariables false
set_option linter.unusedSimpArgs false
namespace Go.Proofs.YtbjanflhagkhlaaDoor.Sk
open Go Go.RowKit

section
variable {P : Program}

/-! ### the operations of a region, each with what it does -/
structure Item where
  o : Oper
  n : Nat
  on : Bool
  e : Eff
  ent : Ent
def appI (S : St) (it : Item) : St := S.appD it.n it.o.dst it.e

structure ItemOk (E : Env) (P : Program) (ops : List Oper) (it : Item) (S : St) : Prop where
  dst : it.ent.dst = it.o.dst
  wr : it.ent.writes = (List.range it.e.news.length).map (it.n + ·) ++ it.e.upd.map (·.1)
  three : it.e.news.length ≤ 3
  stat : ∀ t, t ∈ it.ent.looks → t ∈ looksOf ops it.o
  guard : match it.o.guard with
    | none => it.on = true
    | some (j, want) => ∃ t, dstOf ops j = some t ∧ t ∈ it.ent.looks ∧ ((∃ b, S.tm[t]? = some (.sc (.bool b)) ∧ it.on = (b == want)) ∨ (∃ v, S.tm[t]? = some (.sc v) ∧ (∀ b, v = .bool b → False) ∧ it.on = false) ∨
        ∃ q b, S.tm[t]? = some (.gd q (.sc (.bool b))) ∧ it.on = (q && wantB want b))
  yes : it.on = true → ∃ e0, effO E P it.o S.ev S.hp it.n = some (e0, it.ent.reads) ∧ (it.e = e0 ∨ ∃ v, e0 = ⟨v, [], []⟩ ∧ it.e = ⟨.gd true v, [], []⟩) ∧ ∀ t, t ∈ tmpsOf it.o.op.operands.toList → t ∈ it.ent.looks
  no : it.on = false → it.e = ⟨.sc undef, [], []⟩ ∨ ∃ v, it.e = ⟨.gd false v, [], []⟩

/-- How a guard told what to do. -/
def GuardOk (ops : List Oper) (o : Oper) (S : St) (on : Bool) (g : List Nat) : Prop :=
  match o.guard with
  | none => on = true
  | some (j, want) => ∃ t, dstOf ops j = some t ∧ t ∈ g ∧ ((∃ b, S.tm[t]? = some (.sc (.bool b)) ∧ on = (b == want)) ∨ (∃ v, S.tm[t]? = some (.sc v) ∧ (∀ b, v = .bool b → False) ∧ on = false) ∨
      ∃ q b, S.tm[t]? = some (.gd q (.sc (.bool b))) ∧ on = (q && wantB want b))

theorem ev_bool {S : St} {t : Tmp} {b : Bool} (h : S.ev (.tmp t) = .sc (.bool b)) : S.tm[t]? = some (.sc (.bool b)) := ev_sc h
theorem want_eq (want b : Bool) : wantB want b = (b == want) := by cases want <;> cases b <;> rfl

def hindE (x y : Ent) : Bool := hind x.reads x.writes y.reads y.writes
def Told {R : Type} (E : Env) (P : Program) (ops : List Oper) (T : List Nat) (base : Nat) (K : St → Option R) (x : R) (i : Nat) (r : List Oper) (acc : List HEnt) (S : St) : Prop :=
  ∃ its : List Item, its.map (·.o) = r ∧ K (its.foldl appI S) = some x ∧
    ∀ k it, its[k]? = some it → it.n = base + 3 * (i + k) ∧ ItemOk E P ops it ((its.take k).foldl appI S) ∧
      (∀ h, h ∈ acc → Nat.testBit (T.getD (i + k) 0) h.i = true ∨ hind h.reads h.writes it.ent.reads it.ent.writes = true) ∧
      ∀ m x, m < k → its[m]? = some x → Nat.testBit (T.getD (i + k) 0) (i + m) = true ∨ hindE x.ent it.ent = true

theorem hind_nil_r (r w : List Nat) : hind r w [] [] = true := by simp [hind, disj]
theorem hind_nil_l (r w : List Nat) : hind [] [] r w = true := by simp [hind, disj]
theorem hpAll_spec {m : Nat} {r w : List Nat} : ∀ {acc : List HEnt}, hpAll m r w acc = true → ∀ h, h ∈ acc → Nat.testBit m h.i = true ∨ hind h.reads h.writes r w = true
  | [], _, h, hm => by cases hm
  | z :: acc, ha, h, hm => by
    unfold hpAll at ha
    rw [Bool.and_eq_true, Bool.or_eq_true] at ha
    rcases List.mem_cons.1 hm with rfl | hm
    · exact ha.1
    · exact hpAll_spec ha.2 h hm

theorem regD_items {R : Type} {E : Env} {ops : List Oper} {T : List Nat} {base : Nat} {K : St → Option R} {x : R} : ∀ (r : List Oper) (kn : List Nat) (i : Nat) (acc : List HEnt) (S : St),
    regD E P ops T base kn i r acc S K = some x → Told E P ops T base K x i r acc S
  | [], kn, i, acc, S, h => ⟨[], rfl, h, fun k it hk => by simp at hk⟩
  | o :: r, kn, i, acc, S, h => by
    have ih := regD_items (E := E) (ops := ops) (T := T) (base := base) (K := K) (x := x) r
    -- one operation, and the rest
    have step : ∀ (kn : List Nat) (on : Bool) (looks : List Nat) (e : Eff) (log : List Nat), (∀ t, t ∈ looks → t ∈ looksOf ops o) → GuardOk ops o S on looks →
        (on = true → ∃ e0, effO E P o S.ev S.hp (base + 3 * i) = some (e0, log) ∧ (e = e0 ∨ ∃ v, e0 = ⟨v, [], []⟩ ∧ e = ⟨.gd true v, [], []⟩) ∧ ∀ t, t ∈ tmpsOf o.op.operands.toList → t ∈ looks) →
        (on = false → e = ⟨.sc undef, [], []⟩ ∨ ∃ v, e = ⟨.gd false v, [], []⟩) →
        cond (Nat.ble e.news.length 3) (cond (log.isEmpty && e.news.isEmpty && e.upd.isEmpty) (regD E P ops T base kn (i + 1) r acc (S.appD (base + 3 * i) o.dst e) K)
          (cond (hpAll (T.getD i 0) log (writesOf (base + 3 * i) e) acc) (regD E P ops T base kn (i + 1) r (acc ++ [⟨i, log, writesOf (base + 3 * i) e⟩]) (S.appD (base + 3 * i) o.dst e) K) none)) none = some x →
        Told E P ops T base K x i (o :: r) acc S := by
      intro kn on looks e log hlk hg hy hn h
      cases hc : Nat.ble e.news.length 3 with
      | false => rw [hc] at h; cases h
      | true =>
        rw [hc, cond_true] at h
        let it : Item := ⟨o, base + 3 * i, on, e, entOf o (base + 3 * i) looks e log⟩
        have hok : ItemOk E P ops it S := ⟨rfl, rfl, Nat.le_of_ble_eq_true hc, hlk, hg, hy, hn⟩
        have put : ∀ (acc' : List HEnt), (∀ h, h ∈ acc → h ∈ acc') → (∀ h, h ∈ acc → Nat.testBit (T.getD i 0) h.i = true ∨ hind h.reads h.writes it.ent.reads it.ent.writes = true) →
            (∀ (m : Nat) (y : Ent), (∀ h, h ∈ acc' → Nat.testBit m h.i = true ∨ hind h.reads h.writes y.reads y.writes = true) → Nat.testBit m i = true ∨ hindE it.ent y = true) →
            Told E P ops T base K x (i + 1) r acc' (S.appD (base + 3 * i) o.dst e) → Told E P ops T base K x i (o :: r) acc S := by
          rintro acc' hsub h0 hme ⟨its, h1, h2, h3⟩
          refine ⟨it :: its, by simp [h1, it], h2, fun k it' hk => ?_⟩
          cases k with
          | zero => simp at hk; subst hk; exact ⟨rfl, hok, h0, fun m x hm => by omega⟩
          | succ k =>
            have := h3 k it' (by simpa using hk)
            rw [show i + (k + 1) = i + 1 + k by omega]
            refine ⟨this.1, by rw [List.take_succ_cons, List.foldl_cons]; exact this.2.1, fun h hh => this.2.2.1 h (hsub h hh), fun m x hm hx => ?_⟩
            cases m with
            | zero => simp at hx; subst hx; exact hme _ _ this.2.2.1
            | succ m =>
              have := this.2.2.2 m x (by omega) (by simpa using hx)
              rwa [show i + (m + 1) = i + 1 + m by omega]
        cases he : (log.isEmpty && e.news.isEmpty && e.upd.isEmpty) with
        | true =>
          rw [he, cond_true] at h
          simp only [Bool.and_eq_true, List.isEmpty_iff] at he
          have e1 : it.ent.reads = [] := he.1.1
          have e2 : it.ent.writes = [] := by show (List.range e.news.length).map _ ++ e.upd.map (·.1) = []; rw [he.1.2, he.2]; rfl
          exact put acc (fun _ h => h) (fun h _ => .inr (by rw [e1, e2]; exact hind_nil_r _ _)) (fun m y _ => .inr (by unfold hindE; rw [e1, e2]; exact hind_nil_l _ _)) (ih kn (i + 1) acc _ h)
        | false =>
          rw [he, cond_false] at h
          cases hh : hpAll (T.getD i 0) log (writesOf (base + 3 * i) e) acc with
          | false => rw [hh] at h; cases h
          | true =>
            rw [hh, cond_true] at h
            exact put _ (fun _ h => List.mem_append_left _ h) (hpAll_spec hh) (fun m y hy => hy ⟨i, log, writesOf (base + 3 * i) e⟩ (by simp)) (ih kn (i + 1) _ _ h)
    have yes : ∀ (kn g : List Nat), (∀ t, t ∈ g → t ∈ looksOf ops o) → GuardOk ops o S true (g ++ tmpsOf o.op.operands.toList) →
        (effC E P o S (base + 3 * i) fun e log => cond (Nat.ble e.news.length 3) (cond (log.isEmpty && e.news.isEmpty && e.upd.isEmpty) (regD E P ops T base kn (i + 1) r acc (S.appD (base + 3 * i) o.dst e) K)
          (cond (hpAll (T.getD i 0) log (writesOf (base + 3 * i) e) acc) (regD E P ops T base kn (i + 1) r (acc ++ [⟨i, log, writesOf (base + 3 * i) e⟩]) (S.appD (base + 3 * i) o.dst e) K) none)) none) = some x → Told E P ops T base K x i (o :: r) acc S := by
      intro kn g hgl hg h
      rw [effC_eq] at h
      cases he : effO E P o S.ev S.hp (base + 3 * i) with
      | none => rw [he] at h; cases h
      | some p =>
        rw [he] at h
        exact step kn true _ p.1 p.2 (fun t ht => (List.mem_append.1 ht).elim (hgl t) fun h => List.mem_append_right _ h) hg (fun _ => ⟨p.1, he, .inl rfl, fun t ht => List.mem_append_right _ ht⟩) (fun h => nomatch h) h
    have no : ∀ (kn g : List Nat), (∀ t, t ∈ g → t ∈ looksOf ops o) → GuardOk ops o S false g →
        cond (Nat.ble (⟨.sc undef, [], []⟩ : Eff).news.length 3) (cond (([] : List Nat).isEmpty && (⟨.sc undef, [], []⟩ : Eff).news.isEmpty && (⟨.sc undef, [], []⟩ : Eff).upd.isEmpty) (regD E P ops T base kn (i + 1) r acc (S.appD (base + 3 * i) o.dst ⟨.sc undef, [], []⟩) K)
          (cond (hpAll (T.getD i 0) [] (writesOf (base + 3 * i) ⟨.sc undef, [], []⟩) acc) (regD E P ops T base kn (i + 1) r (acc ++ [⟨i, [], writesOf (base + 3 * i) ⟨.sc undef, [], []⟩⟩]) (S.appD (base + 3 * i) o.dst ⟨.sc undef, [], []⟩) K) none)) none = some x → Told E P ops T base K x i (o :: r) acc S := by
      intro kn g hgl hg h
      exact step kn false g _ _ hgl hg (fun h => nomatch h) (fun _ => .inl rfl) h
    have may : ∀ (t : Nat) (q : Bool), t ∈ looksOf ops o → GuardOk ops o S q ([t] ++ tmpsOf o.op.operands.toList) →
        (effG E P q o S (base + 3 * i) fun e log => cond (Nat.ble e.news.length 3) (cond (log.isEmpty && e.news.isEmpty && e.upd.isEmpty) (regD E P ops T base kn (i + 1) r acc (S.appD (base + 3 * i) o.dst e) K)
          (cond (hpAll (T.getD i 0) log (writesOf (base + 3 * i) e) acc) (regD E P ops T base kn (i + 1) r (acc ++ [⟨i, log, writesOf (base + 3 * i) e⟩]) (S.appD (base + 3 * i) o.dst e) K) none)) none) = some x → Told E P ops T base K x i (o :: r) acc S := by
      intro t q ht hg h
      rw [effG_eq] at h
      cases he : effGO E P q o S.ev S.hp (base + 3 * i) with
      | none => rw [he] at h; cases h
      | some p =>
        rw [he] at h
        obtain ⟨v, hv, hon⟩ := effGO_some (e := p.1) (log := p.2) he
        refine step kn q _ p.1 p.2 (fun t' ht' => ?_) hg (fun hq => ?_) (fun hq => ?_) h
        · rcases List.mem_append.1 ht' with h' | h'
          · simp at h'; subst h'; exact ht
          · exact List.mem_append_right _ h'
        · subst hq
          exact ⟨_, hon rfl, .inr ⟨v, rfl, hv⟩, fun t ht => List.mem_append_right _ ht⟩
        · subst hq
          exact .inr ⟨v, hv⟩
    unfold regD at h
    simp only [St.force_eq] at h
    split at h
    · rename_i hg
      exact yes kn [] (fun t ht => by cases ht) (by unfold GuardOk; rw [hg]) h
    · rename_i j want hg
      split at h
      · cases h
      · rename_i t hd
        have hlt : t ∈ looksOf ops o := by unfold looksOf; rw [hg]; simp only [hd]; simp
        have hl1 : ∀ t', t' ∈ [t] → t' ∈ looksOf ops o := fun t' ht' => by simp at ht'; subst ht'; exact hlt
        split at h
        · rename_i b hb
          have htm := ev_bool hb
          have hlit := litB_eq htm
          have gk : ∀ {l : List Nat}, t ∈ l → GuardOk ops o S (b == want) l := fun hl => by unfold GuardOk; rw [hg]; exact ⟨t, hd, hl, .inl ⟨b, htm, rfl⟩⟩
          cases hst : (still E S o && !kn.contains t) with
          | true =>
            rw [hst] at h
            rw [want_eq] at h
            exact may t _ hlt (gk (by simp)) h
          | false =>
            rw [hst] at h
            cases want <;> cases b <;> simp only [cond_true, cond_false, hlit] at h
            · exact yes _ [t] hl1 (gk (by simp)) h
            · exact no _ [t] hl1 (gk (by simp)) h
            · exact no _ [t] hl1 (gk (by simp)) h
            · exact yes _ [t] hl1 (gk (by simp)) h
        · rename_i q b hb
          cases hst : still E S o with
          | false => rw [hst] at h; cases h
          | true =>
            rw [hst] at h
            exact may t _ hlt (by unfold GuardOk; rw [hg]; exact ⟨t, hd, by simp, .inr (.inr ⟨q, b, ev_tm hb (by simp), rfl⟩)⟩) h
        · rename_i v hv hb
          exact no _ [t] hl1 (by unfold GuardOk; rw [hg]; exact ⟨t, hd, by simp, .inr (.inl ⟨v, ev_sc hb, fun b hb' => hv b hb', rfl⟩)⟩) h
        · cases h

theorem bit_one (t d : Nat) : Nat.testBit (Nat.shiftLeft 1 t) d = decide (d = t) := by
  show (1 <<< t).testBit d = _
  rw [Nat.one_shiftLeft, Nat.testBit_two_pow]
  by_cases h : t = d
  · subst h; simp
  · rw [decide_eq_false h, decide_eq_false fun e => h e.symm]
theorem bit_or (a b d : Nat) : Nat.testBit (Nat.lor a b) d = (Nat.testBit a d || Nat.testBit b d) := Nat.testBit_or a b d
theorem maskL_bit : ∀ (l : List Nat) (d : Nat), Nat.testBit (maskL l) d = decide (d ∈ l)
  | [], d => by simp [maskL]
  | t :: r, d => by
    unfold maskL
    rw [bit_or, bit_one, maskL_bit r d, ← Bool.decide_or]
    simp [List.mem_cons]
theorem statAll_spec {m : Nat} {y : Stat} : ∀ (acc : List Stat) (i : Nat), statAll m y i acc = true → ∀ (k : Nat) (x : Stat), acc[k]? = some x → Nat.testBit m (i + k) = true ∨ stat2 x y = true
  | [], _, _, k, x, hk => by simp at hk
  | z :: acc, i, h, k, x, hk => by
    unfold statAll at h
    rw [Bool.and_eq_true, Bool.or_eq_true] at h
    cases k with
    | zero => simp at hk; subst hk; exact h.1
    | succ k =>
      have := statAll_spec acc (i + 1) h.2 k x (by simpa using hk)
      rwa [show i + (k + 1) = i + 1 + k by omega]
theorem statOk_spec {T : List Nat} : ∀ (r acc : List Stat), statOk T acc.length acc r = true → ∀ (i j : Nat) (x y : Stat), i < j → acc.length ≤ j → (acc ++ r)[i]? = some x → (acc ++ r)[j]? = some y → Nat.testBit (T.getD j 0) i = true ∨ stat2 x y = true
  | [], acc, _, i, j, x, y, _, hj, _, hy => by
    rw [List.append_nil, List.getElem?_eq_none hj] at hy; cases hy
  | z :: r, acc, h, i, j, x, y, hij, hj, hx, hy => by
    unfold statOk at h
    rw [Bool.and_eq_true] at h
    by_cases e : j = acc.length
    · subst e
      have hz : z = y := by simpa using hy
      subst hz
      have := statAll_spec acc 0 h.1 i x (by rwa [List.getElem?_append_left hij] at hx)
      rwa [Nat.zero_add] at this
    · exact statOk_spec r (acc ++ [z]) (by simpa using h.2) i j x y hij (by simp; omega) (by simpa using hx) (by simpa using hy)

theorem disj_spec {a b : List Nat} (h : disj a b = true) : ∀ x, x ∈ a → x ∉ b := by
  intro x hx hb
  unfold disj at h
  rw [List.all_eq_true] at h
  have := h x hx
  simp [hb] at this
def Indep (x y : Ent) : Prop := (∀ d, x.dst = some d → d ∉ y.looks ∧ y.dst ≠ some d) ∧ (∀ d, y.dst = some d → d ∉ x.looks) ∧
    (∀ i, i ∈ x.writes → i ∉ y.reads) ∧ (∀ i, i ∈ y.writes → i ∉ x.reads) ∧ (∀ i, i ∈ x.writes → i ∉ y.writes)
theorem indep_mk {ops : List Oper} {x y : Ent} {ox oy : Oper} (hx : x.dst = ox.dst) (hy : y.dst = oy.dst) (lx : ∀ t, t ∈ x.looks → t ∈ looksOf ops ox) (ly : ∀ t, t ∈ y.looks → t ∈ looksOf ops oy)
    (h : stat2 (statOf ops ox) (statOf ops oy) = true) (k : hindE x y = true) : Indep x y := by
  unfold stat2 statOf at h
  rw [Bool.and_eq_true] at h
  unfold hindE hind at k
  simp only [Bool.and_eq_true] at k
  refine ⟨fun d hd => ?_, fun d hd => ?_, disj_spec k.1.1, disj_spec k.1.2, disj_spec k.2⟩
  · have h := h.1
    rw [hx] at hd
    rw [hy]
    simp only [hd, Bool.and_eq_true, Bool.not_eq_true', maskL_bit, decide_eq_false_iff_not] at h
    refine ⟨fun hm => h.1 (ly d hm), fun e => ?_⟩
    have := h.2
    rw [e] at this
    simp [optNe] at this
  · have h := h.2
    rw [hy] at hd
    simp only [hd, Bool.not_eq_true', maskL_bit, decide_eq_false_iff_not] at h
    exact fun hm => h (lx d hm)
end
end Go.Proofs.YtbjanflhagkhlaaDoor.Sk
