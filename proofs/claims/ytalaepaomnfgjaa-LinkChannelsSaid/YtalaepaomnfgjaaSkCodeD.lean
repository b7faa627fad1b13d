/- SK, part 15: operations that draw their order. -/
import Derived.Test.YtalaepaomnfgjaaSkCode
set_option linter.unusedVariables false
set_option linter.unusedSimpArgs false
namespace Go.Proofs.Ytalaepaomnfgjaa.Sk
open Go Go.RowKit

section
variable {P : Program}

/-! ### the operations of a region, each with what it does -/
structure Item where
  o : Oper
  n : Nat
  on : Bool
  e : Eff
  ent : Ent
def appI (S : St) (it : Item) : St := S.appD it.n it.o.dst it.e

structure ItemOk (E : Env) (P : Program) (ops : List Oper) (it : Item) (S : St) : Prop where
  dst : it.ent.dst = it.o.dst
  wr : it.ent.writes = (List.range it.e.news.length).map (it.n + ·) ++ it.e.upd.map (·.1)
  three : it.e.news.length ≤ 3
  guard : match it.o.guard with
    | none => it.on = true
    | some (j, want) => ∃ t, dstOf ops j = some t ∧ t ∈ it.ent.looks ∧ ((∃ b, S.tm[t]? = some (.sc (.bool b)) ∧ it.on = (b == want)) ∨ (∃ v, S.tm[t]? = some (.sc v) ∧ (∀ b, v = .bool b → False) ∧ it.on = false) ∨
        ∃ q b, S.tm[t]? = some (.gd q (.sc (.bool b))) ∧ it.on = (q && wantB want b))
  yes : it.on = true → ∃ e0, effO E P it.o S.ev S.hp it.n = some (e0, it.ent.reads) ∧ (it.e = e0 ∨ ∃ v, e0 = ⟨v, [], []⟩ ∧ it.e = ⟨.gd true v, [], []⟩) ∧ ∀ t, t ∈ tmpsOf it.o.op.operands.toList → t ∈ it.ent.looks
  no : it.on = false → it.e = ⟨.sc undef, [], []⟩ ∨ ∃ v, it.e = ⟨.gd false v, [], []⟩

/-- How a guard told what to do. -/
def GuardOk (ops : List Oper) (o : Oper) (S : St) (on : Bool) (g : List Nat) : Prop :=
  match o.guard with
  | none => on = true
  | some (j, want) => ∃ t, dstOf ops j = some t ∧ t ∈ g ∧ ((∃ b, S.tm[t]? = some (.sc (.bool b)) ∧ on = (b == want)) ∨ (∃ v, S.tm[t]? = some (.sc v) ∧ (∀ b, v = .bool b → False) ∧ on = false) ∨
      ∃ q b, S.tm[t]? = some (.gd q (.sc (.bool b))) ∧ on = (q && wantB want b))

theorem ev_bool {S : St} {t : Tmp} {b : Bool} (h : S.ev (.tmp t) = .sc (.bool b)) : S.tm[t]? = some (.sc (.bool b)) := ev_sc h
theorem want_eq (want b : Bool) : wantB want b = (b == want) := by cases want <;> cases b <;> rfl

def Told {R : Type} (E : Env) (P : Program) (ops : List Oper) (T : List (List Nat)) (base : Nat) (K : St → Option R) (x : R) (i : Nat) (r : List Oper) (acc : List Ent) (S : St) : Prop :=
  ∃ its : List Item, its.map (·.o) = r ∧ K (its.foldl appI S) = some x ∧
    ∀ k it, its[k]? = some it → it.n = base + 3 * (i + k) ∧ ItemOk E P ops it ((its.take k).foldl appI S) ∧ indepAll T (i + k) it.ent 0 (acc ++ (its.take k).map (·.ent)) = true

theorem regD_items {R : Type} {E : Env} {ops : List Oper} {T : List (List Nat)} {base : Nat} {K : St → Option R} {x : R} : ∀ (r : List Oper) (kn : List Nat) (i : Nat) (acc : List Ent) (S : St),
    regD E P ops T base kn i r acc S K = some x → Told E P ops T base K x i r acc S
  | [], kn, i, acc, S, h => ⟨[], rfl, h, fun k it hk => by simp at hk⟩
  | o :: r, kn, i, acc, S, h => by
    have ih := regD_items (E := E) (ops := ops) (T := T) (base := base) (K := K) (x := x) r
    -- one operation, and the rest
    have step : ∀ (kn : List Nat) (on : Bool) (looks : List Nat) (e : Eff) (log : List Nat), GuardOk ops o S on looks →
        (on = true → ∃ e0, effO E P o S.ev S.hp (base + 3 * i) = some (e0, log) ∧ (e = e0 ∨ ∃ v, e0 = ⟨v, [], []⟩ ∧ e = ⟨.gd true v, [], []⟩) ∧ ∀ t, t ∈ tmpsOf o.op.operands.toList → t ∈ looks) →
        (on = false → e = ⟨.sc undef, [], []⟩ ∨ ∃ v, e = ⟨.gd false v, [], []⟩) →
        cond (Nat.ble e.news.length 3 && indepAll T i (entOf o (base + 3 * i) looks e log) 0 acc) (regD E P ops T base kn (i + 1) r (acc ++ [entOf o (base + 3 * i) looks e log]) (S.appD (base + 3 * i) o.dst e) K) none = some x →
        Told E P ops T base K x i (o :: r) acc S := by
      intro kn on looks e log hg hy hn h
      cases hc : (Nat.ble e.news.length 3 && indepAll T i (entOf o (base + 3 * i) looks e log) 0 acc) with
      | false => rw [hc] at h; cases h
      | true =>
        rw [hc] at h
        rw [Bool.and_eq_true] at hc
        obtain ⟨its, h1, h2, h3⟩ := ih kn (i + 1) _ _ h
        let it : Item := ⟨o, base + 3 * i, on, e, entOf o (base + 3 * i) looks e log⟩
        have hok : ItemOk E P ops it S := ⟨rfl, rfl, Nat.le_of_ble_eq_true hc.1, hg, hy, hn⟩
        refine ⟨it :: its, by simp [h1, it], h2, fun k it' hk => ?_⟩
        cases k with
        | zero => simp at hk; subst hk; exact ⟨rfl, hok, by simpa using hc.2⟩
        | succ k =>
          have := h3 k it' (by simpa using hk)
          rw [show i + (k + 1) = i + 1 + k by omega]
          exact ⟨this.1, by rw [List.take_succ_cons, List.foldl_cons]; exact this.2.1, by rw [List.take_succ_cons, List.map_cons]; have h9 := this.2.2; rw [List.append_assoc] at h9; exact h9⟩
    have yes : ∀ (kn g : List Nat), GuardOk ops o S true (g ++ tmpsOf o.op.operands.toList) →
        (effC E P o S (base + 3 * i) fun e log => cond (Nat.ble e.news.length 3 && indepAll T i (entOf o (base + 3 * i) (g ++ tmpsOf o.op.operands.toList) e log) 0 acc)
          (regD E P ops T base kn (i + 1) r (acc ++ [entOf o (base + 3 * i) (g ++ tmpsOf o.op.operands.toList) e log]) (S.appD (base + 3 * i) o.dst e) K) none) = some x → Told E P ops T base K x i (o :: r) acc S := by
      intro kn g hg h
      rw [effC_eq] at h
      cases he : effO E P o S.ev S.hp (base + 3 * i) with
      | none => rw [he] at h; cases h
      | some p =>
        rw [he] at h
        exact step kn true _ p.1 p.2 hg (fun _ => ⟨p.1, he, .inl rfl, fun t ht => List.mem_append_right _ ht⟩) (fun h => nomatch h) h
    have no : ∀ (kn g : List Nat), GuardOk ops o S false g →
        cond (Nat.ble (⟨.sc undef, [], []⟩ : Eff).news.length 3 && indepAll T i (entOf o (base + 3 * i) g ⟨.sc undef, [], []⟩ []) 0 acc)
          (regD E P ops T base kn (i + 1) r (acc ++ [entOf o (base + 3 * i) g ⟨.sc undef, [], []⟩ []]) (S.appD (base + 3 * i) o.dst ⟨.sc undef, [], []⟩) K) none = some x → Told E P ops T base K x i (o :: r) acc S := by
      intro kn g hg h
      exact step kn false g _ _ hg (fun h => nomatch h) (fun _ => .inl rfl) h
    have may : ∀ (t : Nat) (q : Bool), GuardOk ops o S q ([t] ++ tmpsOf o.op.operands.toList) →
        (effG E P q o S (base + 3 * i) fun e log => cond (Nat.ble e.news.length 3 && indepAll T i (entOf o (base + 3 * i) ([t] ++ tmpsOf o.op.operands.toList) e log) 0 acc)
          (regD E P ops T base kn (i + 1) r (acc ++ [entOf o (base + 3 * i) ([t] ++ tmpsOf o.op.operands.toList) e log]) (S.appD (base + 3 * i) o.dst e) K) none) = some x → Told E P ops T base K x i (o :: r) acc S := by
      intro t q hg h
      rw [effG_eq] at h
      cases he : effGO E P q o S.ev S.hp (base + 3 * i) with
      | none => rw [he] at h; cases h
      | some p =>
        rw [he] at h
        obtain ⟨v, hv, hon⟩ := effGO_some (e := p.1) (log := p.2) he
        refine step kn q _ p.1 p.2 hg (fun hq => ?_) (fun hq => ?_) h
        · subst hq
          exact ⟨_, hon rfl, .inr ⟨v, rfl, hv⟩, fun t ht => List.mem_append_right _ ht⟩
        · subst hq
          exact .inr ⟨v, hv⟩
    unfold regD at h
    simp only at h
    split at h
    · rename_i hg
      exact yes kn [] (by unfold GuardOk; rw [hg]) h
    · rename_i j want hg
      split at h
      · cases h
      · rename_i t hd
        split at h
        · rename_i b hb
          have htm := ev_bool hb
          have hlit := litB_eq htm
          have gk : ∀ {l : List Nat}, t ∈ l → GuardOk ops o S (b == want) l := fun hl => by unfold GuardOk; rw [hg]; exact ⟨t, hd, hl, .inl ⟨b, htm, rfl⟩⟩
          cases hst : (still E S o && !kn.contains t) with
          | true =>
            rw [hst] at h
            rw [want_eq] at h
            exact may t _ (gk (by simp)) h
          | false =>
            rw [hst] at h
            cases want <;> cases b <;> simp only [cond_true, cond_false, hlit] at h
            · exact yes _ [t] (gk (by simp)) h
            · exact no _ [t] (gk (by simp)) h
            · exact no _ [t] (gk (by simp)) h
            · exact yes _ [t] (gk (by simp)) h
        · rename_i q b hb
          cases hst : still E S o with
          | false => rw [hst] at h; cases h
          | true =>
            rw [hst] at h
            exact may t _ (by unfold GuardOk; rw [hg]; exact ⟨t, hd, by simp, .inr (.inr ⟨q, b, ev_tm hb (by simp), rfl⟩)⟩) h
        · rename_i v hv hb
          exact no _ [t] (by unfold GuardOk; rw [hg]; exact ⟨t, hd, by simp, .inr (.inl ⟨v, ev_sc hb, fun b hb' => hv b hb', rfl⟩)⟩) h
        · cases h

theorem indepAll_spec {T : List (List Nat)} {j : Nat} {y : Ent} : ∀ (acc : List Ent) (i : Nat), indepAll T j y i acc = true → ∀ k x, acc[k]? = some x → i + k ∈ T.getD j [] ∨ indep x y = true
  | [], _, _, k, x, hk => by simp at hk
  | z :: acc, i, h, k, x, hk => by
    unfold indepAll at h
    rw [Bool.and_eq_true, Bool.or_eq_true] at h
    cases k with
    | zero => simp at hk; subst hk; exact h.1.imp (fun h => by simpa using h) id
    | succ k =>
      have := indepAll_spec acc (i + 1) h.2 k x (by simpa using hk)
      rwa [show i + (k + 1) = i + 1 + k by omega]

theorem disj_spec {a b : List Nat} (h : disj a b = true) : ∀ x, x ∈ a → x ∉ b := by
  intro x hx hb
  unfold disj at h
  rw [List.all_eq_true] at h
  have := h x hx
  simp [hb] at this
theorem indep_spec {x y : Ent} (h : indep x y = true) : (∀ d, x.dst = some d → d ∉ y.looks ∧ y.dst ≠ some d) ∧ (∀ d, y.dst = some d → d ∉ x.looks) ∧
    (∀ i, i ∈ x.writes → i ∉ y.reads) ∧ (∀ i, i ∈ y.writes → i ∉ x.reads) ∧ (∀ i, i ∈ x.writes → i ∉ y.writes) := by
  unfold indep at h
  simp only [Bool.and_eq_true] at h
  obtain ⟨⟨⟨⟨h1, h2⟩, h3⟩, h4⟩, h5⟩ := h
  refine ⟨fun d hd => ?_, fun d hd => ?_, disj_spec h3, disj_spec h4, disj_spec h5⟩
  · rw [hd] at h1
    simp only [Bool.and_eq_true, bne_iff_ne, ne_eq] at h1
    exact ⟨by simpa using h1.1, h1.2⟩
  · rw [hd] at h2
    simpa using h2
end
end Go.Proofs.Ytalaepaomnfgjaa.Sk
