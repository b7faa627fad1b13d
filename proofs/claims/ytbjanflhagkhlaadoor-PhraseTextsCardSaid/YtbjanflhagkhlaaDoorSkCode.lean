/- SK, part 14: operations in a row. -/
import Derived.Test.YtbjanflhagkhlaaDoorSkNorm
import Derived.TacticsIn
import Derived.OrdersIn
import Derived.OwnWalkIn
import Derived.RangeFuncRecord
set_option linter.unusedVariables false
set_option linter.unusedSimpArgs false
namespace Go.Proofs.YtbjanflhagkhlaaDoor.Sk
open Go Go.RowKit

section
variable {B : Nat → Prop} {c : Cx} {hp : List ABlk} {w : World} {P : Program} {S : St} {a : Act}

theorem arr_getD {l : Array Value} {t : Nat} {u d : Value} (h : l.toList[t]? = some u) : l.getD t d = u := by
  rw [Array.getD_eq_getD_getElem?, ← Array.getElem?_toList, h]; rfl

theorem srel_ev (h : SRel B c S a w) (x : Operand) : VRel B c S.hp w (S.ev x) (a.eval x) := by
  cases x with
  | tmp t =>
    show VRel B c S.hp w ((S.tm[t]?).getD .any) (a.tmps.getD t undef)
    cases hs : S.tm[t]? with
    | none => trivial
    | some v =>
      obtain ⟨u, hu, hr⟩ := h.tm.get t v hs
      rw [arr_getD hu]; exact hr
  | const v => exact ofV_rel v
  | global g =>
    show VRel B c S.hp w (match glob g with | some ⟨t, x⟩ => .rop false t x 0 | none => .any) (.pointer (some ⟨g, 0, none⟩))
    cases hg : glob g with
    | none => trivial
    | some q =>
      obtain ⟨t, x⟩ := q
      obtain ⟨hF, cs, T, fz, h1, h2, h3⟩ := h.hp.gl.1 g t x hg
      exact ⟨g, 0, cs, T, fz, ⟨hF, fun h => by cases h⟩, rfl, h1, by omega, CRel.mono (ok := fun _ => False) (fun _ h => h.elim) (fun _ h => h.elim) t x _ (by simpa using h3)⟩
  | func f => exact ⟨#[], rfl, trivial⟩

theorem put_defers (a : Act) (d : Option Tmp) (v : Value) : (a.put d v).defers = a.defers := by cases d <;> rfl
theorem put_tm (S : St) (d : Option Tmp) (v : AV) : (S.put d v).hp = S.hp := by cases d <;> rfl

theorem srel_put (h : SRel B c S a w) {d : Option Tmp} {v : AV} {u : Value} (hv : VRel B c S.hp w v u) : SRel B c (S.put d v) (a.put d u) w := by
  cases d with
  | none => exact h
  | some t => exact ⟨by simpa [St.put, Act.put] using h.tm.set t hv, h.hp⟩

/-! ### changes of the list of blocks -/
theorem updAll_length : ∀ (ch : List (Nat × ABlk)) (hp : List ABlk), (updAll hp ch).length = hp.length
  | [], hp => rfl
  | (i, b) :: r, hp => by simp [updAll, updAll_length r hp]

theorem updAll_get : ∀ (ch : List (Nat × ABlk)) (hp : List ABlk) (id : Nat), (updAll hp ch)[id]? = match ch.lookup id with | some b => if id < hp.length then some b else none | none => hp[id]?
  | [], hp, id => by simp [updAll]
  | (i, b) :: r, hp, id => by
    simp only [updAll, List.lookup_cons, List.getElem?_set, updAll_length]
    by_cases h : i = id
    · subst h; simp
    · have : (id == i) = false := by simp; exact fun e => h e.symm
      simp only [this, if_neg h]
      exact updAll_get r hp id

theorem lookIn_updAll (hp : List ABlk) (ch : List (Nat × ABlk)) (id : Nat) : lookIn (updAll hp ch) id = match ch.lookup id with | some b => if id < hp.length then b else .dead | none => lookIn hp id := by
  unfold lookIn
  rw [updAll_get]
  cases ch.lookup id with
  | none => rfl
  | some b => by_cases h : id < hp.length <;> simp [h]

theorem lookIn_out {hp : List ABlk} {id : Nat} (h : hp.length ≤ id) : lookIn hp id = .dead := by
  unfold lookIn; rw [List.getElem?_eq_none h]; rfl

theorem upd_app (hd : ∀ id, c.D id → id < hp.length) (e : Eff) : Upd c hp hp.length e (updAll (hp ++ e.news) e.upd) := by
  refine ⟨by simp [updAll_length], by simp [updAll_length], fun j _ h => by have := hd _ h; omega, fun id => ?_⟩
  rw [lookIn_updAll]
  cases e.upd.lookup id with
  | some b => simp [updAll_length]
  | none =>
    simp only
    rw [lookIn_append]
    by_cases h1 : hp.length ≤ id
    · by_cases h2 : id < hp.length + e.news.length
      · rw [if_pos h1, if_pos ⟨h1, h2⟩]
      · rw [if_pos h1, if_neg (by omega), List.getElem?_eq_none (by omega), lookIn_out h1]; rfl
    · rw [if_neg h1, if_neg (by omega)]

theorem srel_app (h : SRel B c S a w) {e : Eff} {u : Value} {w' : World} {d : Option Tmp} (he : EffOk B c S.hp w S.hp.length e u w') :
    ∃ c', SRel B c' (S.app d e) (a.put d u) w' ∧ Evo All c S.hp w c' (S.app d e).hp w' ∧ S.hp.length ≤ (S.app d e).hp.length := by
  obtain ⟨c', h1, h2, h3, _⟩ := he _ (upd_app h.hp.dl e)
  have : (S.app d e).hp = updAll (S.hp ++ e.news) e.upd := put_tm _ _ _
  refine ⟨c', srel_put (S := ⟨S.tm, updAll (S.hp ++ e.news) e.upd⟩) ⟨h.tm.evo h2, h1⟩ h3, by rw [this]; exact h2, by rw [this]; simp [updAll_length]⟩

/-! ### calls -/
def Enters (P : Program) (f : FuncId) : Prop := ∃ fn, P.funcs[f]? = some fn ∧ (fn.name == "runtime.NumGoroutine") = false ∧ fn.body.isNone = false

variable {R : Type}
/-- What comes of a call. -/
def Come (B : Nat → Prop) (K : AV → List ABlk → Option R) (x : R) (c : Cx) (hp : List ABlk) (w : World) (e : Ending) (w' : World) : Prop := ∃ v, e = .returned v ∧ ∃ av hp' c',
    K av hp' = some x ∧ HRel B c' hp' w' ∧ Evo (· < hp.length) c hp w c' hp' w' ∧ hp.length ≤ hp'.length ∧ VRel B c' hp' w' av v
def CallOk (B : Nat → Prop) (P : Program) (call : CallK R) : Prop :=
  (∀ f args hp K x, call (.fn f) args hp K = some x → (Enters P f ∧ ∀ c w us, HRel B c hp w → VRelL B c hp w args us → Calls P f us.toArray w (Come B K x c hp w)) ∨
    (noYlL args = true ∧ ∀ c w us, HRel B c hp w → VRelL B c hp w args us → ∃ v, (callFunc f us.toArray).run P w = .ok (.value v) w ∧ Come B K x c hp w (.returned v) w)) ∧
  (∀ tm ps asg body args hp K x, call (.yl tm ps asg body) args hp K = some x → ∀ c w us l, HRel B c hp w → VRelL B c hp w args us → VRel B c hp w (.yl tm ps asg body) (.func (.yield l) #[] #[]) →
    ∃ fn tmps, (Instr.yield l us.toArray).run P w = .ok (.round l fn tmps asg body) w ∧ RoundIn Fence.wide 0 P l fn tmps asg body w (Come B K x c hp w))

/-! ### operations, in a function's frame or in a round's -/
/-- The fence that lets all in; r: the loop in whose round one is. -/
abbrev Wd (r : Option Nat) : Fence := { Fence.wide with round := r }
abbrev wpI (r : Option Nat) (P : Program) (o : Oper) (a : Act) (w : World) (N : Act → World → Prop) (Q : Exit → Act → World → Prop) : Prop := o.wpIn (Wd r) 0 P a w N Q
theorem semAt_run {r : Option Nat} {P : Program} {o : Oper} {ρ : Operand → Value} {w w' : World} {nx : Next} (h : (execOp ρ o).run P w = .ok nx w') (hd : ∀ d, nx ≠ .defer d) : (o.semAt (Wd r).round ρ).run P w = .ok nx w' := by
  rw [Oper.semAt_plain (Wd r)]
  · exact h
  · intro c hc
    unfold execOp at h
    rw [hc] at h
    simp only [Sem.run_bind] at h
    cases hr : (resolve ρ c o.type).run P w with
    | ok d w1 =>
      rw [hr] at h
      simp only [Result.andThen, Sem.run_pure] at h
      cases h
      exact hd _ rfl
    | halt _ _ => rw [hr] at h; cases h
theorem wpI_value {r : Option Nat} {P : Program} {o : Oper} {a : Act} {w w' : World} {u : Value} {N : Act → World → Prop} {Q : Exit → Act → World → Prop} (h : (execOp a.eval o).run P w = .ok (.value u) w') (hN : N (a.put o.dst u) w') : wpI r P o a w N Q := by
  refine ⟨fun _ _ => trivial, ?_⟩
  rw [semAt_run h (by intro d e; cases e), Oper.uponIn_value]
  exact hN
theorem wpI_skip {r : Option Nat} {P : Program} {o : Oper} {a : Act} {w w' : World} {N : Act → World → Prop} {Q : Exit → Act → World → Prop} (h : (execOp a.eval o).run P w = .ok .skip w') (hN : N (a.put o.dst undef) w') : wpI r P o a w N Q := by
  refine ⟨fun _ _ => trivial, ?_⟩
  rw [semAt_run h (by intro d e; cases e), Oper.uponIn_skip]
  exact hN
theorem wpI_enter {r : Option Nat} {P : Program} {o : Oper} {a : Act} {w w' : World} {f : FuncId} {args : Array Value} {N : Act → World → Prop} {Q : Exit → Act → World → Prop} (h : (execOp a.eval o).run P w = .ok (.enter f args) w')
    (hc : Calls P f args w' fun e w'' => ∃ v, e = .returned v ∧ N (a.put o.dst v) w'') : wpI r P o a w N Q := by
  refine ⟨fun _ _ => trivial, ?_⟩
  rw [semAt_run h (by intro d e; cases e), Oper.uponIn_enter]
  refine ⟨(fun h => nomatch h), ?_⟩
  have : CallsIn Fence.wide 0 P f args w' _ := callsIn_wide.2 (hc.mono (R' := fun | .returned v, w'' => N (a.put o.dst v) w'' | .panicked chain, w'' => Q (.panic chain) a w'' | .outgrown, _ => LetsOut Q) fun e w'' he => by obtain ⟨v, rfl, he⟩ := he; exact he)
  exact this
theorem wpI_round {r : Option Nat} {P : Program} {o : Oper} {a : Act} {w w' : World} {l : Nat} {f : FuncId} {tmps : Array Value} {asg body : Code} {N : Act → World → Prop} {Q : Exit → Act → World → Prop} (h : (execOp a.eval o).run P w = .ok (.round l f tmps asg body) w')
    (hc : RoundIn Fence.wide 0 P l f tmps asg body w' fun e w'' => ∃ v, e = .returned v ∧ N (a.put o.dst v) w'') : wpI r P o a w N Q := by
  refine ⟨fun _ _ => trivial, ?_⟩
  rw [semAt_run h (by intro d e; cases e), Oper.uponIn_round]
  refine ⟨(fun h => nomatch h), ?_⟩
  have : RoundIn Fence.wide 0 P l f tmps asg body w' _ := hc.mono (R' := fun | .returned v, w'' => N (a.put o.dst v) w'' | .panicked chain, w'' => Q (.panic chain) a w'' | .outgrown, _ => LetsOut Q) fun e w'' he => by obtain ⟨v, rfl, he⟩ := he; exact he
  exact this

theorem run_round {o : Oper} {f : Operand} {args : Array Operand} {l : Nat} {ρ : Operand → Value} {nx : Next} (ho : ∃ c : Call, o.op = .call c ∧ c.callee = .value f ∧ c.args = args)
    (hf : ρ f = .func (.yield l) #[] #[]) (h : (Instr.yield l (args.map ρ)).run P w = .ok nx w) : (execOp ρ o).run P w = .ok nx w := by
  obtain ⟨c, ho, hc, ha⟩ := ho
  simp [execOp, ho, resolve, hc, hf, Deferred.ofValue, invoke, ha, h]

theorem run_enter {o : Oper} {f : Operand} {args : Array Operand} {g : FuncId} {vs : Array Value} {ρ : Operand → Value} (ho : ∃ c : Call, o.op = .call c ∧ c.callee = .value f ∧ c.args = args)
    (hf : ρ f = .func (.func g) #[] vs) (he : Enters P g) : (execOp ρ o).run P w = .ok (.enter g (args.map ρ ++ vs)) w := by
  obtain ⟨c, ho, hc, ha⟩ := ho
  obtain ⟨fn, h1, h2, h3⟩ := he
  have h2' : ¬ fn.name = "runtime.NumGoroutine" := by simpa using h2
  have h3' : ¬ fn.body = none := fun e => by rw [e] at h3; cases h3
  simp [execOp, ho, resolve, hc, hf, Deferred.ofValue, invoke, callFunc, h1, h2', h3', ha]

/-- A function without a body answers at once. -/
theorem run_value {o : Oper} {f : Operand} {args : Array Operand} {g : FuncId} {vs : Array Value} {ρ : Operand → Value} {v : Value} (ho : ∃ c : Call, o.op = .call c ∧ c.callee = .value f ∧ c.args = args)
    (hf : ρ f = .func (.func g) #[] vs) (h : (callFunc g (args.map ρ ++ vs)).run P w = .ok (.value v) w) : (execOp ρ o).run P w = .ok (.value v) w := by
  obtain ⟨c, ho, hc, ha⟩ := ho
  simp [execOp, ho, resolve, hc, hf, Deferred.ofValue, invoke, ha, h]

/-! ### what an operation looks at -/
theorem eff_congr {E : Env} {o : Oper} {ρ ρ' : Operand → AV} {n : Nat} (h : ∀ x, x ∈ o.op.operands.toList → ρ x = ρ' x) : eff E P o ρ n = eff E P o ρ' n := by
  obtain ⟨dst, op, type, pos, after, guard⟩ := o
  have pairs : ∀ ps : Array (Nat × Operand), (∀ x, x ∈ ps.toList.map (·.2) → ρ x = ρ' x) → (ps.toList.map fun p => (p.1, ρ p.2)) = (ps.toList.map fun p => (p.1, ρ' p.2)) := fun ps hp =>
    List.map_congr_left fun p hm => by rw [hp p.2 (List.mem_map.2 ⟨p, hm, rfl⟩)]
  cases op <;> simp only [Op.operands] at h <;> simp only [eff]
  case move x => rw [h x (by simp)]
  case assign x => rw [h x (by simp)]
  case pick c a b => rw [h a (by simp), h b (by simp), h c (by simp)]
  case box t x => rw [h x (by simp)]
  case build t ps => rw [pairs ps fun x hx => h x (by simpa using hx)]
  case buildSlice t l ps => rw [pairs ps fun x hx => h x (by simpa using hx)]
  case load t x => rw [h x (by simp)]
  case store t x y => rw [h x (by simp), h y (by simp)]
  case nilCheck x => rw [h x (by simp)]
  case binOp op t x y t' => rw [h x (by simp), h y (by simp)]
  case unOp op t x => rw [h x (by simp)]
  case convert s d x => rw [h x (by simp)]
  case makeFunc f fi cs =>
    have : cs.toList.map ρ = cs.toList.map ρ' := List.map_congr_left fun x hx => h x (by simp; exact .inr (by simpa using hx))
    rw [this]
  case makeSlice t x y => rw [h x (by simp), h y (by simp)]
  case slice t x lo hi mx =>
    have h1 : lo.map ρ = lo.map ρ' := by cases lo <;> simp; rename_i v; exact h v (by simp)
    have h2 : hi.map ρ = hi.map ρ' := by cases hi <;> simp; rename_i v; exact h v (by simp)
    rw [h x (by simp), h1, h2]
    cases mx with
    | none => rfl
    | some m => simp only [h m (by simp)]
  case fieldAddr s x f => rw [h x (by simp)]
  case field s x f => rw [h x (by simp)]
  case indexAddr t x i => rw [h x (by simp), h i (by simp)]
  case index t x i => rw [h x (by simp), h i (by simp)]
  case extract x i => rw [h x (by simp)]
  case makeMap t r => cases r <;> rfl
  case lookup t x i ok =>
    have h1 := h x (by simp)
    have h2 := h i (by simp)
    cases ok <;> simp only [h1, h2]
  case mapUpdate t x i y =>
    have h1 := h x (by simp)
    have h2 := h i (by simp)
    have h3 := h y (by simp)
    simp only [h1, h2, h3]
  case call c =>
    obtain ⟨callee, args, tys⟩ := c
    cases callee with
    | builtin b =>
      have : args.toList.map ρ = args.toList.map ρ' := List.map_congr_left fun x hx => h x (by simp [Call.operands]; simpa using hx)
      simp only [this]
    | _ => rfl

theorem runO_mono {α : Type} {look : Nat → ABlk} : ∀ (m : Rd α) (g : List Nat) (r : α × List Nat), m.runO look g = some r → ∀ id, id ∈ g → id ∈ r.2
  | .ret a, g, r, h, id, hid => by cases h; exact hid
  | .fail, g, r, h, _, _ => by cases h
  | .rd j k, g, r, h, id, hid => runO_mono (k (look j)) (j :: g) r h id (List.mem_cons_of_mem _ hid)
  | .chk b k, g, r, h, id, hid => runO_mono k g r (Rd.chk_some h).2 id hid
theorem runO_congr {α : Type} {look look' : Nat → ABlk} : ∀ (m : Rd α) (g : List Nat) (r : α × List Nat), m.runO look g = some r → (∀ id, id ∈ r.2 → look id = look' id) → m.runO look' g = some r
  | .ret a, g, r, h, _ => h
  | .fail, g, r, h, _ => by cases h
  | .rd j k, g, r, h, hl => by
    have h : (k (look j)).runO look (j :: g) = some r := h
    have hj := hl j (runO_mono (k (look j)) (j :: g) r h j (List.mem_cons_self ..))
    show (k (look' j)).runO look' (j :: g) = some r
    rw [← hj]
    exact runO_congr (k (look j)) (j :: g) r h hl
  | .chk b k, g, r, h, hl => by
    obtain ⟨rfl, h⟩ := Rd.chk_some h
    exact runO_congr k g r h hl

/-! ### values under a guard -/
def soft : AV → AV
  | .gd b v => cond b v .any
  | v => v

theorem soft_rel {x : AV} {u : Value} (h : VRel B c hp w x u) : VRel B c hp w (soft x) u := by
  cases x with
  | gd b v =>
    cases b with
    | true => exact h.1 rfl
    | false => trivial
  | _ => exact h
theorem strip_soft {x : AV} (h : ∀ b, b ∈ needOf x → b = true) : strip x = soft x := by
  cases x with
  | gd b v => rw [h b (by simp [needOf])]; rfl
  | _ => rfl
theorem strip_rel {x : AV} {u : Value} (hn : ∀ b, b ∈ needOf x → b = true) (h : VRel B c hp w x u) : VRel B c hp w (strip x) u := by
  rw [strip_soft hn]; exact soft_rel h

theorem chkAll_some {R : Type} {x : R} : ∀ {l : List Bool} {k : Option R}, chkAll l k = some x → (∀ b, b ∈ l → b = true) ∧ k = some x
  | [], k, h => ⟨fun b hb => (by cases hb), h⟩
  | b :: r, k, h => by
    unfold chkAll at h
    cases b with
    | false => cases h
    | true =>
      obtain ⟨h1, h2⟩ := chkAll_some h
      exact ⟨fun q hq => by rcases List.mem_cons.1 hq with rfl | hq; rfl; exact h1 q hq, h2⟩
theorem chkAll_mk {R : Type} : ∀ {l : List Bool} {k : Option R}, (∀ b, b ∈ l → b = true) → chkAll l k = k
  | [], k, h => rfl
  | b :: r, k, h => by
    unfold chkAll
    rw [h b (List.mem_cons_self ..)]
    exact chkAll_mk fun q hq => h q (List.mem_cons_of_mem _ hq)
theorem chkAll_bind {R R' : Type} (f : R → Option R') : ∀ (l : List Bool) (k : Option R), (chkAll l k).bind f = chkAll l (k.bind f)
  | [], k => rfl
  | b :: r, k => by
    unfold chkAll
    cases b with
    | false => rfl
    | true => exact chkAll_bind f r k

theorem needs_congr {ρ ρ' : Operand → AV} {op : Op} (h : ∀ x, x ∈ op.operands.toList → ρ x = ρ' x) : needs ρ op = needs ρ' op := by
  have gen : op.operands.toList.flatMap (fun x => needOf (ρ x)) = op.operands.toList.flatMap (fun x => needOf (ρ' x)) := by
    generalize op.operands.toList = l at h
    induction l with
    | nil => rfl
    | cons x l ih => simp only [List.flatMap_cons]; rw [h x (List.mem_cons_self ..), ih fun y hy => h y (List.mem_cons_of_mem _ hy)]
  cases op with
  | pick a b d => simp only [needs]; rw [h a (by simp [Op.operands]), h b (by simp [Op.operands]), h d (by simp [Op.operands])]
  | _ => exact gen

theorem needs_operand {ρ : Operand → AV} {op : Op} (hp : ∀ a b d, op ≠ .pick a b d) (h : ∀ b, b ∈ needs ρ op → b = true) {x : Operand} (hx : x ∈ op.operands.toList) : ∀ b, b ∈ needOf (ρ x) → b = true := by
  intro b hb
  refine h b ?_
  cases op with
  | pick a b d => exact absurd rfl (hp a b d)
  | _ => exact List.mem_flatMap.2 ⟨x, hx, hb⟩

def pickE (x : Bool) (u v : AV) : Rd Eff :=
  match u, v with
  | .sc (.bool p), .sc (.bool q) => Eff.val (.sc (.bool (cond x p q)))
  | u, v => cond x (Eff.val u) (Eff.val v)
theorem pickE_true (u v : AV) : pickE true u v = Eff.val u := by unfold pickE; split <;> rfl
theorem pickE_false (u v : AV) : pickE false u v = Eff.val v := by unfold pickE; split <;> rfl

theorem eff_soft {E : Env} {o : Oper} {ρ : Operand → AV} {n : Nat} (h : ∀ b, b ∈ needs ρ o.op → b = true) : eff E P o (fun x => strip (ρ x)) n = eff E P o (fun x => soft (ρ x)) n := by
  by_cases hp : ∃ a b d, o.op = .pick a b d
  · obtain ⟨a, b, d, ho⟩ := hp
    rw [ho] at h
    simp only [needs, List.mem_append, List.mem_map] at h
    have hc : strip (ρ a) = soft (ρ a) := strip_soft fun q hq => h q (.inl (.inl hq))
    unfold eff
    simp only [ho]
    rw [← hc]
    cases hx : strip (ρ a) with
    | sc v =>
      cases v with
      | bool x =>
        simp only
        show pickE x (strip (ρ b)) (strip (ρ d)) = pickE x (soft (ρ b)) (soft (ρ d))
        cases x with
        | true =>
          rw [pickE_true, pickE_true]
          congr 1
          exact strip_soft fun q hq => by
            have := h (!boolOf (strip (ρ a)) || q) (.inl (.inr ⟨q, hq, rfl⟩))
            rw [hx] at this
            simpa [boolOf] using this
        | false =>
          rw [pickE_false, pickE_false]
          congr 1
          exact strip_soft fun q hq => by
            have := h (boolOf (strip (ρ a)) || q) (.inr ⟨q, hq, rfl⟩)
            rw [hx] at this
            simpa [boolOf] using this
      | _ => rfl
    | _ => rfl
  · exact eff_congr fun x hx => strip_soft (needs_operand (fun a b d e => hp ⟨a, b, d, e⟩) h hx)

/-! ### operations, calls of known functions among them -/
def resEff (s : PSpec) (fr : Bool) (n : Nat) (r : denL (s.res.map RT.ty)) : Eff := ⟨tupOf (encRes (!s.ali || fr) n s.res r).1, (encRes (!s.ali || fr) n s.res r).2, []⟩

def callO (P : Program) (s : PSpec) (args : List AV) (hp : List ABlk) (n : Nat) : Option (Eff × List Nat) :=
  ((decArgs s.arg args).runO (lookIn hp) []).bind fun p => cond (s.ali && !p.1.own.isEmpty) none ((s.fn p.1.x).map fun r => (resEff s p.1.fr n r, p.2))

def effP (E : Env) (P : Program) (o : Oper) (ρ : Operand → AV) (hp : List ABlk) (n : Nat) : Option (Eff × List Nat) :=
  match o.op with
  | .call { callee := .value f, args, .. } =>
    match ρ f with
    | .clo g caps =>
      match E.G g with
      | some (.pure s) => callO P s (args.toList.map ρ ++ caps) hp n
      | some (.mac m) => (m (args.toList.map ρ ++ caps) n).runO (lookIn hp) []
      | _ => none
    | _ => none
  | _ => (eff E P o ρ n).runO (lookIn hp) []
def effO (E : Env) (P : Program) (o : Oper) (ρ : Operand → AV) (hp : List ABlk) (n : Nat) : Option (Eff × List Nat) :=
  chkAll (needs ρ o.op) (effP E P o (fun x => strip (ρ x)) hp n)

theorem effC_eq {R : Type} {E : Env} {o : Oper} {S : St} {n : Nat} {K : Eff → List Nat → Option R} : effC E P o S n K = (effO E P o S.ev S.hp n).bind fun p => K p.1 p.2 := by
  unfold effO
  rw [chkAll_bind]
  unfold effC
  congr 1
  by_cases hv : ∃ f args tys, o.op = .call ⟨.value f, args, tys⟩
  · obtain ⟨f, args, tys, ho⟩ := hv
    unfold effP
    simp only [ho]
    show (match S.evs f with | .clo g caps => _ | _ => none) = Option.bind (match S.evs f with | .clo g caps => _ | _ => none) _
    cases S.evs f with
    | clo g caps =>
      simp only
      cases hg : E.G g with
      | none => rfl
      | some sp =>
        cases sp with
        | inl fn => rfl
        | mac m => exact Rd.runK_eq _ _ _ _
        | pure s =>
          simp only
          rw [Rd.runK_eq]
          unfold callO
          show _ = Option.bind (Option.bind ((decArgs s.arg (args.toList.map S.evs ++ caps)).runO (lookIn S.hp) []) _) _
          cases (decArgs s.arg (args.toList.map S.evs ++ caps)).runO (lookIn S.hp) [] with
          | none => rfl
          | some p =>
            simp only [Option.bind_some]
            cases (s.ali && !p.1.own.isEmpty) with
            | true => rfl
            | false =>
              simp only [cond_false]
              cases s.fn p.1.x <;> rfl
    | _ => rfl
  · have h2 : effP E P o (fun x => strip (S.ev x)) S.hp n = (eff E P o S.evs n).runO (lookIn S.hp) [] := by
      unfold effP
      split
      · rename_i f args tys ho; exact absurd ⟨f, args, tys, ho⟩ hv
      · rfl
    rw [h2]
    split
    · rename_i f args tys ho; exact absurd ⟨f, args, tys, ho⟩ hv
    · rw [Rd.runK_eq]

def Sound (P : Program) (f : FuncId) (s : PSpec) : Prop := ∀ (B : Nat → Prop) (c : Cx) (hp : List ABlk) (w : World) (args : List AV) (us : List Value) (p : Dec (denL (s.arg.map VT.ty)) × List Nat) (r : denL (s.res.map RT.ty)) (n : Nat),
  HRel B c hp w → VRelL B c hp w args us → (decArgs s.arg args).runO (lookIn hp) [] = some p → (s.ali && !p.1.own.isEmpty) = false → s.fn p.1.x = some r →
  Calls P f us.toArray w fun e w' => ∃ v, e = .returned v ∧ EffOk B c hp w n (resEff s p.1.fr n r) v w'

def MacOk (P : Program) (f : FuncId) (m : List AV → Nat → Rd Eff) : Prop := ∀ (B : Nat → Prop) (c : Cx) (hp : List ABlk) (w : World) (args : List AV) (us : List Value) (e : Eff) (log : List Nat) (n : Nat),
  HRel B c hp w → VRelL B c hp w args us → (m args n).runO (lookIn hp) [] = some (e, log) → Calls P f us.toArray w fun x w' => ∃ v, x = .returned v ∧ EffOk B c hp w n e v w'

/-- A function without a body, told as an effect. -/
def ExtOk (P : Program) (f : FuncId) (m : List AV → Nat → Rd Eff) : Prop := ∀ (hp : List ABlk) (args : List AV) (e : Eff) (log : List Nat) (n : Nat), (m args n).runO (lookIn hp) [] = some (e, log) →
  noYlL args = true ∧ ∀ (B : Nat → Prop) (c : Cx) (w : World) (us : List Value), HRel B c hp w → VRelL B c hp w args us → ∃ v, (callFunc f us.toArray).run P w = .ok (.value v) w ∧ EffOk B c hp w n e v w

structure SpecsOk (P : Program) (E : Env) : Prop where
  pure : ∀ f s, E.G f = some (.pure s) → Enters P f ∧ Sound P f s
  mac : ∀ f m, E.G f = some (.mac m) → (Enters P f ∧ MacOk P f m) ∨ ExtOk P f m

theorem callO_some {s : PSpec} {args : List AV} {hp : List ABlk} {n : Nat} {e : Eff} {log : List Nat} (h : callO P s args hp n = some (e, log)) :
    ∃ p r, (decArgs s.arg args).runO (lookIn hp) [] = some p ∧ (s.ali && !p.1.own.isEmpty) = false ∧ s.fn p.1.x = some r ∧ e = resEff s p.1.fr n r ∧ log = p.2 := by
  unfold callO at h
  cases hd : (decArgs s.arg args).runO (lookIn hp) [] with
  | none => rw [hd] at h; cases h
  | some p =>
    rw [hd] at h
    simp only [Option.bind_some] at h
    cases hc : (s.ali && !p.1.own.isEmpty) with
    | true => rw [hc] at h; cases h
    | false =>
      rw [hc] at h
      simp only [cond_false] at h
      cases hf : s.fn p.1.x with
      | none => rw [hf] at h; cases h
      | some r => rw [hf] at h; cases h; exact ⟨p, r, rfl, hc, hf, rfl, rfl⟩

theorem effP_congr {E : Env} {o : Oper} {ρ ρ' : Operand → AV} {hp hp' : List ABlk} {n : Nat} {e : Eff} {log : List Nat} (h : effP E P o ρ hp n = some (e, log))
    (hρ : ∀ x, x ∈ o.op.operands.toList → ρ x = ρ' x) (hl : ∀ id, id ∈ log → lookIn hp id = lookIn hp' id) : effP E P o ρ' hp' n = some (e, log) := by
  unfold effP at h ⊢
  split
  · rename_i f args tys ho
    rw [ho] at h
    simp only at h
    simp only [ho, Op.operands, Call.operands] at hρ
    have hf := hρ f (by simp)
    rw [hf] at h
    split
    · rename_i g caps hg
      rw [hg] at h
      simp only at h
      split
      · rename_i s hs
        rw [hs] at h
        simp only at h
        have ha : args.toList.map ρ = args.toList.map ρ' := List.map_congr_left fun x hx => hρ x (by simp; exact .inr (by simpa using hx))
        rw [ha] at h
        obtain ⟨p, r, h1, h2, h3, h4, h5⟩ := callO_some h
        subst h4; subst h5
        unfold callO
        rw [runO_congr _ _ _ h1 hl]
        simp only [Option.bind_some, h2, cond_false, h3, Option.map_some]
      · rename_i m hs
        rw [hs] at h
        simp only at h
        have ha : args.toList.map ρ = args.toList.map ρ' := List.map_congr_left fun x hx => hρ x (by simp; exact .inr (by simpa using hx))
        rw [ha] at h
        exact runO_congr _ _ _ h hl
      · rename_i hs hs2
        split at h
        · rename_i s hs'; exact absurd hs' (hs s)
        · rename_i m hs'; exact absurd hs' (hs2 m)
        · cases h
    · rename_i hg
      split at h
      · rename_i g caps hg'; exact absurd hg' (hg g caps)
      · cases h
  · rename_i ho
    split at h
    · rename_i f args tys ho'; exact absurd ho' (ho f args tys)
    · rw [← eff_congr hρ]
      exact runO_congr _ _ _ h hl

theorem effO_congr {E : Env} {o : Oper} {ρ ρ' : Operand → AV} {hp hp' : List ABlk} {n : Nat} {e : Eff} {log : List Nat} (h : effO E P o ρ hp n = some (e, log))
    (hρ : ∀ x, x ∈ o.op.operands.toList → ρ x = ρ' x) (hl : ∀ id, id ∈ log → lookIn hp id = lookIn hp' id) : effO E P o ρ' hp' n = some (e, log) := by
  obtain ⟨h1, h2⟩ := chkAll_some h
  unfold effO
  rw [← needs_congr hρ, chkAll_mk h1]
  exact effP_congr h2 (fun x hx => by rw [hρ x hx]) hl

theorem evs_rel (h : SRel B c S a w) : ∀ (l : List Operand), (∀ x, x ∈ l → ∀ b, b ∈ needOf (S.ev x) → b = true) → VRelL B c S.hp w (l.map fun x => strip (S.ev x)) (l.map a.eval)
  | [], _ => trivial
  | x :: l, hn => ⟨strip_rel (hn x (List.mem_cons_self ..)) (srel_ev h x), evs_rel h l fun y hy => hn y (List.mem_cons_of_mem _ hy)⟩

theorem effO_sound {E : Env} (hE : SpecsOk P E) {o : Oper} {n : Nat} {e : Eff} {log : List Nat} (h : effO E P o S.ev S.hp n = some (e, log)) (hS : SRel B c S a w)
    {N : Act → World → Prop} {Q : Exit → Act → World → Prop} (hN : ∀ u w', EffOk B c S.hp w n e u w' → N (a.put o.dst u) w') {r : Option Nat} : wpI r P o a w N Q := by
  obtain ⟨hn, h⟩ := chkAll_some h
  unfold effP at h
  split at h
  · rename_i f args tys ho
    have hop : ∀ x, x ∈ o.op.operands.toList → ∀ b, b ∈ needOf (S.ev x) → b = true := fun x hx => needs_operand (fun a b d e => by rw [ho] at e; cases e) hn hx
    simp only [ho, Op.operands, Call.operands] at hop
    split at h
    · rename_i g caps hf
      split at h
      · rename_i s hs
        obtain ⟨hent, hsound⟩ := hE.pure g s hs
        obtain ⟨p, r, h1, h2, h3, rfl, h5⟩ := callO_some h
        have hfv := strip_rel (hop f (by simp)) (srel_ev hS f)
        have hf : strip (S.ev f) = .clo g caps := hf
        rw [hf] at hfv
        obtain ⟨vs, hfv, hcaps⟩ := hfv
        refine wpI_enter (run_enter ⟨_, ho, rfl, rfl⟩ hfv hent) ?_
        have hl : VRelL B c S.hp w (args.toList.map (fun x => strip (S.ev x)) ++ caps) (args.toList.map a.eval ++ vs.toList) := (evs_rel hS _ fun x hx => hop x (by simp; exact .inr (by simpa using hx))).append hcaps
        have := hsound B c S.hp w _ _ p r n hS.hp hl h1 h2 h3
        have e1 : (args.toList.map a.eval ++ vs.toList).toArray = args.map a.eval ++ vs := by apply Array.ext'; simp
        rw [e1] at this
        refine this.mono fun e w' he => ?_
        obtain ⟨v, rfl, he⟩ := he
        exact ⟨v, rfl, hN v w' he⟩
      · rename_i m hs
        have hfv := strip_rel (hop f (by simp)) (srel_ev hS f)
        have hf : strip (S.ev f) = .clo g caps := hf
        rw [hf] at hfv
        obtain ⟨vs, hfv, hcaps⟩ := hfv
        have hl : VRelL B c S.hp w (args.toList.map (fun x => strip (S.ev x)) ++ caps) (args.toList.map a.eval ++ vs.toList) := (evs_rel hS _ fun x hx => hop x (by simp; exact .inr (by simpa using hx))).append hcaps
        rcases hE.mac g m hs with ⟨hent, hsound⟩ | hext
        rotate_left
        · obtain ⟨v, hv1, hv2⟩ := (hext S.hp _ e log n h).2 B c w _ hS.hp hl
          have e1 : (args.toList.map a.eval ++ vs.toList).toArray = args.map a.eval ++ vs := by apply Array.ext'; simp
          rw [e1] at hv1
          exact wpI_value (run_value ⟨_, ho, rfl, rfl⟩ hfv hv1) (hN v w hv2)
        refine wpI_enter (run_enter ⟨_, ho, rfl, rfl⟩ hfv hent) ?_
        have := hsound B c S.hp w _ _ e log n hS.hp hl h
        have e1 : (args.toList.map a.eval ++ vs.toList).toArray = args.map a.eval ++ vs := by apply Array.ext'; simp
        rw [e1] at this
        refine this.mono fun e w' he => ?_
        obtain ⟨v, rfl, he⟩ := he
        exact ⟨v, rfl, hN v w' he⟩
      · cases h
    · cases h
  · rw [eff_soft hn] at h
    rcases eff_sound hS.hp (fun x => soft_rel (srel_ev hS x)) h with ⟨u, w', h1, h2⟩ | ⟨w', h1, h2⟩
    · exact wpI_value h1 (hN u w' h2)
    · exact wpI_skip h1 (hN _ w' h2)

/-! ### operations under a guard -/
theorem under_true {α : Type} {look : Nat → ABlk} : ∀ (m : Rd α) (g : List Nat), (m.under true).runO look g = m.runO look g
  | .ret a, g => rfl
  | .fail, g => rfl
  | .rd id k, g => under_true (k (look id)) (id :: g)
  | .chk b k, g => by
    show cond (b || !true) _ none = cond b _ none
    cases b with
    | true => exact under_true k g
    | false => rfl

theorem hasOwn_news : ∀ (ts : List RT) (fr : Bool) (n : Nat) (x : denL (ts.map RT.ty)), hasOwn ts = false → (encRes fr n ts x).2 = []
  | [], _, _, _, _ => rfl
  | [.val v], _, _, _, _ => rfl
  | [.own _ _], _, _, _, h => by cases h
  | .val v :: r' :: q, fr, n, x, h => by
    show [] ++ (encRes fr (n + 0) (r' :: q) x.2).2 = []
    rw [hasOwn_news (r' :: q) fr _ x.2 h]; rfl
  | .own _ _ :: _ :: _, _, _, _, h => by cases h

def effGO (E : Env) (P : Program) (g : Bool) (o : Oper) (ρ : Operand → AV) (hp : List ABlk) (n : Nat) : Option (Eff × List Nat) :=
  chkAll ((needs ρ o.op).map fun q => !g || q) (match o.op with
  | .call { callee := .value f, args, .. } =>
    match strip (ρ f) with
    | .clo h caps =>
      match E.G h with
      | some (.pure s) => (((decArgs s.arg (args.toList.map (fun x => strip (ρ x)) ++ caps)).under g).runO (lookIn hp) []).bind fun p =>
          cond ((s.ali && !p.1.own.isEmpty) || hasOwn s.res) none ((cond g (s.fn p.1.x) (some (dfltL s.res))).bind fun r => some (⟨.gd g (tupOf (encRes (!s.ali || p.1.fr) n s.res r).1), [], []⟩, p.2))
      | _ => none
    | _ => none
  | _ => (((eff E P o (fun x => strip (ρ x)) n).under g).runO (lookIn hp) []).bind fun p => cond (p.1.news.isEmpty && p.1.upd.isEmpty) (some (⟨.gd g p.1.v, [], []⟩, p.2)) none)

theorem effG_eq {R : Type} {E : Env} {g : Bool} {o : Oper} {S : St} {n : Nat} {K : Eff → List Nat → Option R} : effG E P g o S n K = (effGO E P g o S.ev S.hp n).bind fun p => K p.1 p.2 := by
  unfold effGO
  rw [chkAll_bind]
  unfold effG
  congr 1
  by_cases hv : ∃ f args tys, o.op = .call ⟨.value f, args, tys⟩
  · obtain ⟨f, args, tys, ho⟩ := hv
    simp only [ho]
    show (match S.evs f with | .clo h caps => _ | _ => none) = Option.bind (match S.evs f with | .clo h caps => _ | _ => none) _
    cases S.evs f with
    | clo h caps =>
      simp only
      cases hg : E.G h with
      | none => rfl
      | some sp =>
        cases sp with
        | inl fn => rfl
        | mac m => rfl
        | pure s =>
          simp only
          rw [Rd.runK_eq]
          show _ = Option.bind (Option.bind (((decArgs s.arg (args.toList.map S.evs ++ caps)).under g).runO (lookIn S.hp) []) _) _
          cases ((decArgs s.arg (args.toList.map S.evs ++ caps)).under g).runO (lookIn S.hp) [] with
          | none => rfl
          | some p =>
            simp only [Option.bind_some]
            cases ((s.ali && !p.1.own.isEmpty) || hasOwn s.res) with
            | true => rfl
            | false =>
              simp only [cond_false]
              cases (cond g (s.fn p.1.x) (some (dfltL s.res))) <;> rfl
    | _ => rfl
  · split
    · rename_i f args tys ho; exact absurd ⟨f, args, tys, ho⟩ hv
    · split
      · rename_i f args tys ho; exact absurd ⟨f, args, tys, ho⟩ hv
      rw [Rd.runK_eq]
      show _ = Option.bind (Option.bind (((eff E P o S.evs n).under g).runO (lookIn S.hp) []) _) _
      cases ((eff E P o S.evs n).under g).runO (lookIn S.hp) [] with
      | none => rfl
      | some p =>
        simp only [Option.bind_some]
        cases (p.1.news.isEmpty && p.1.upd.isEmpty) <;> rfl

theorem effGO_some {E : Env} {g : Bool} {o : Oper} {ρ : Operand → AV} {hp : List ABlk} {n : Nat} {e : Eff} {log : List Nat} (h : effGO E P g o ρ hp n = some (e, log)) :
    ∃ v, e = ⟨.gd g v, [], []⟩ ∧ (g = true → effO E P o ρ hp n = some (⟨v, [], []⟩, log)) := by
  obtain ⟨hn, h⟩ := chkAll_some h
  have hn' : g = true → ∀ b, b ∈ needs ρ o.op → b = true := fun hg b hb => by
    have := hn (!g || b) (List.mem_map.2 ⟨b, hb, rfl⟩)
    rw [hg] at this
    simpa using this
  by_cases hv : ∃ f args tys, o.op = .call ⟨.value f, args, tys⟩
  · obtain ⟨f, args, tys, ho⟩ := hv
    rw [ho] at h
    simp only at h
    split at h
    · rename_i h' caps hf
      split at h
      · rename_i s hs
        cases hd : ((decArgs s.arg (args.toList.map (fun x => strip (ρ x)) ++ caps)).under g).runO (lookIn hp) [] with
        | none => rw [hd] at h; cases h
        | some p =>
          rw [hd] at h
          simp only [Option.bind_some] at h
          cases hc : ((s.ali && !p.1.own.isEmpty) || hasOwn s.res) with
          | true => rw [hc] at h; cases h
          | false =>
            rw [hc] at h
            simp only [cond_false] at h
            rw [Bool.or_eq_false_iff] at hc
            cases hr : (cond g (s.fn p.1.x) (some (dfltL s.res))) with
            | none => rw [hr] at h; cases h
            | some r =>
              rw [hr] at h
              simp only [Option.bind_some, Option.some.injEq, Prod.mk.injEq] at h
              obtain ⟨rfl, rfl⟩ := h
              refine ⟨_, rfl, fun hg => ?_⟩
              subst hg
              rw [under_true] at hd
              unfold effO
              rw [chkAll_mk (hn' rfl)]
              unfold effP
              rw [ho]
              simp only [hf, hs]
              unfold callO
              rw [hd]
              simp only [Option.bind_some, hc.1, cond_false]
              simp only [cond_true] at hr
              rw [hr]
              simp only [Option.map_some, resEff]
              rw [hasOwn_news _ _ _ _ hc.2]
      · cases h
    · cases h
  · have h3 : (((eff E P o (fun x => strip (ρ x)) n).under g).runO (lookIn hp) []).bind (fun p => cond (p.1.news.isEmpty && p.1.upd.isEmpty) (some (⟨.gd g p.1.v, [], []⟩, p.2)) none) = some (e, log) := by
      split at h
      · rename_i f args tys ho; exact absurd ⟨f, args, tys, ho⟩ hv
      · exact h
    clear h
    cases hd : ((eff E P o (fun x => strip (ρ x)) n).under g).runO (lookIn hp) [] with
    | none => rw [hd] at h3; cases h3
    | some p =>
      rw [hd] at h3
      simp only [Option.bind_some] at h3
      cases hc : (p.1.news.isEmpty && p.1.upd.isEmpty) with
      | false => rw [hc] at h3; cases h3
      | true =>
        rw [hc] at h3
        simp only [cond_true, Option.some.injEq, Prod.mk.injEq] at h3
        obtain ⟨rfl, rfl⟩ := h3
        refine ⟨_, rfl, fun hg => ?_⟩
        subst hg
        rw [under_true] at hd
        rw [Bool.and_eq_true, List.isEmpty_iff, List.isEmpty_iff] at hc
        unfold effO
        rw [chkAll_mk (hn' rfl)]
        unfold effP
        split
        · rename_i f args tys ho; exact absurd ⟨f, args, tys, ho⟩ hv
        · rw [hd]
          obtain ⟨⟨v, news, upd⟩, lg⟩ := p
          obtain ⟨h1, h2⟩ := hc
          simp only at h1 h2
          rw [h1, h2]

theorem effOk_gd {n : Nat} {v : AV} {u : Value} {w' : World} (h : EffOk B c hp w n ⟨v, [], []⟩ u w') : EffOk B c hp w n ⟨.gd true v, [], []⟩ u w' := by
  intro hp' hu
  obtain ⟨c', h1, h2, h3, h4⟩ := h hp' ⟨hu.len, hu.ins, hu.free, hu.look⟩
  exact ⟨c', h1, h2, ⟨fun _ => h3, fun h => by cases h⟩, h4⟩

theorem mayNil_sound {t : TypeId} {x y : AV} {u v : Value} {b : Bool} (hH : HRel B c hp w) (hx : VRel B c hp w x u) (hy : VRel B c hp w y v) (h : mayNil P t x y hp = some b) :
    ∃ r, EqRuns P w t u v r ∧ (b = false → r = false) := by
  unfold mayNil at h
  split at h
  · rename_i e hu
    split at h
    · rename_i fr e' t' l n q
      cases h
      obtain ⟨A, cap, rfl, hc, hm⟩ := hx
      rw [show v = _ from hy]
      refine ⟨_, eqRuns_slice hu A l.length cap n q, fun hb => ?_⟩
      have hne : l ≠ [] := by intro e; subst e; cases hb
      obtain ⟨b', o, cs, T, fz, rfl, _⟩ := hm hne
      rfl
    · rename_i id n q
      split at h
      · rename_i fr T t' l hl
        cases h
        have hx' := hx.2
        rw [show v = _ from hy]
        unfold OwnV at hx'
        cases hs : c.σ id with
        | none =>
          rw [hs] at hx'
          simp only at hx'
          subst hx'
          refine ⟨_, eqRuns_slice hu none 0 0 n q, fun hb => ?_⟩
          have hbl := hH.blk id
          rw [hl] at hbl
          obtain ⟨_, hbl⟩ := hbl
          rw [hs] at hbl
          simp only at hbl
          subst hbl
          cases hb
        | some bb =>
          rw [hs] at hx'
          obtain ⟨k, cap, rfl, hr⟩ := hx'
          exact ⟨_, eqRuns_slice hu (some _) k cap n q, fun _ => rfl⟩
      · cases h
    · cases h
  · cases h
theorem unkB_sound {o : Oper} {q neg : Bool} (hn : ∀ b, b ∈ needs S.ev o.op → b = true) (hS : SRel B c S a w) (h : unkB P S o.op = some (q, neg)) :
    ∃ b : Bool, (execOp a.eval o).run P w = .ok (.value (.bool b)) w ∧ (q = false → b = neg) := by
  obtain ⟨dst, op, type, pos, after, guard⟩ := o
  unfold unkB at h
  split at h
  · rename_i bop t x y t' ho
    have ho : op = .binOp bop t x y t' := ho
    subst ho
    have hx := strip_rel (needs_operand (x := x) (fun a b d e => by cases e) hn (by simp [Op.operands])) (srel_ev hS x)
    have hy := strip_rel (needs_operand (x := y) (fun a b d e => by cases e) hn (by simp [Op.operands])) (srel_ev hS y)
    split at h
    · simp only [Option.map_eq_some_iff] at h
      obtain ⟨e, h1, h2⟩ := h
      cases h2
      obtain ⟨r, h3, h4⟩ := mayNil_sound hS.hp hx hy h1
      exact ⟨r, by simp [execOp, h3.1 x y, h3.2.1], h4⟩
    · simp only [Option.map_eq_some_iff] at h
      obtain ⟨e, h1, h2⟩ := h
      cases h2
      obtain ⟨r, h3, h4⟩ := mayNil_sound hS.hp hx hy h1
      exact ⟨!r, by simp [execOp, h3.2.2.1 x y, h3.2.2.2], fun he => by rw [h4 he]; rfl⟩
    · cases h
  · cases h

theorem opK_sound {call : CallK R} (hc : CallOk B P call) {E : Env} {o : Oper} {K : St → Option R} {x : R} (h : opK E P call o S K = some x) (hS : SRel B c S a w)
    {N : Act → World → Prop} {Q : Exit → Act → World → Prop}
    (hN : ∀ S' a' w' c', K S' = some x → SRel B c' S' a' w' → Evo (· < S.hp.length) c S.hp w c' S'.hp w' → S.hp.length ≤ S'.hp.length → a'.defers = a.defers → N a' w') {r : Option Nat} : wpI r P o a w N Q := by
  obtain ⟨hn, h⟩ := chkAll_some h
  split at h
  · rename_i f args argTypes ho
    have hop : ∀ x, x ∈ o.op.operands.toList → ∀ b, b ∈ needOf (S.ev x) → b = true := fun x hx => needs_operand (fun a b d e => by rw [ho] at e; cases e) hn hx
    simp only [ho, Op.operands, Call.operands] at hop
    split at h
    · rename_i g caps hf
      have hfv := strip_rel (hop f (by simp)) (srel_ev hS f)
      have hf : strip (S.ev f) = .clo g caps := hf
      rw [hf] at hfv
      obtain ⟨vs, hfv, hcaps⟩ := hfv
      have hl : VRelL B c S.hp w (args.toList.map S.evs ++ caps) (args.toList.map a.eval ++ vs.toList) := (evs_rel hS _ fun x hx => hop x (by simp; exact .inr (by simpa using hx))).append hcaps
      rcases hc.1 _ _ _ _ _ h with ⟨hent, hcall⟩ | ⟨_, hext⟩
      rotate_left
      · obtain ⟨v, hv1, v', hv2, av, hp', c', k1, k2, k3, k4, k5⟩ := hext c w _ hS.hp hl
        cases hv2
        have e1 : (args.toList.map a.eval ++ vs.toList).toArray = args.map a.eval ++ vs := by apply Array.ext'; simp
        rw [e1] at hv1
        refine wpI_value (run_value ⟨_, ho, rfl, rfl⟩ hfv hv1) (hN _ _ w c' k1 (srel_put (S := ⟨S.tm, hp'⟩) ⟨VRelL_evo k3 _ _ (fun id hd => hS.hp.dl id hd) hS.tm, k2⟩ k5) ?_ ?_ (put_defers ..))
        · rw [put_tm]; exact k3
        · rw [put_tm]; exact k4
      refine wpI_enter (run_enter ⟨_, ho, rfl, rfl⟩ hfv hent) ?_
      have := hcall c w _ hS.hp hl
      have e1 : (args.toList.map a.eval ++ vs.toList).toArray = args.map a.eval ++ vs := by apply Array.ext'; simp
      rw [e1] at this
      refine this.mono fun e w' he => ?_
      obtain ⟨v, rfl, av, hp', c', k1, k2, k3, k4, k5⟩ := he
      refine ⟨v, rfl, hN _ _ w' c' k1 (srel_put (S := ⟨S.tm, hp'⟩) ⟨VRelL_evo k3 _ _ (fun id hd => hS.hp.dl id hd) hS.tm, k2⟩ k5) ?_ ?_ (put_defers ..)⟩
      · rw [put_tm]; exact k3
      · rw [put_tm]; exact k4
    · rename_i tm ps asg body hf
      have hfv := strip_rel (hop f (by simp)) (srel_ev hS f)
      have hf : strip (S.ev f) = .yl tm ps asg body := hf
      rw [hf] at hfv
      have hfv' := hfv
      obtain ⟨l, lp, hfe, _⟩ := hfv'
      rw [hfe] at hfv
      have hl : VRelL B c S.hp w (args.toList.map S.evs) (args.toList.map a.eval) := evs_rel hS _ fun x hx => hop x (by simp; exact .inr (by simpa using hx))
      obtain ⟨fn, tmps, k1, k2⟩ := hc.2 _ _ _ _ _ _ _ _ h c w _ l hS.hp hl hfv
      have e1 : (args.toList.map a.eval).toArray = args.map a.eval := by apply Array.ext'; simp
      rw [e1] at k1
      refine wpI_round (run_round ⟨_, ho, rfl, rfl⟩ hfe k1) (k2.mono fun e w' he => ?_)
      obtain ⟨v, rfl, av, hp', c', k1, k2, k3, k4, k5⟩ := he
      refine ⟨v, rfl, hN _ _ w' c' k1 (srel_put (S := ⟨S.tm, hp'⟩) ⟨VRelL_evo k3 _ _ (fun id hd => hS.hp.dl id hd) hS.tm, k2⟩ k5) ?_ ?_ (put_defers ..)⟩
      · rw [put_tm]; exact k3
      · rw [put_tm]; exact k4
    · cases h
  · split at h
    · rename_i q neg hu
      -- a test of nil
      obtain ⟨hw, hr⟩ : ∃ b : Bool, (execOp a.eval o).run P w = .ok (.value (.bool b)) w ∧ K (S.app o.dst ⟨.sc (.bool b), [], []⟩) = some x := by
        obtain ⟨b, h1, h2⟩ := unkB_sound hn hS hu
        refine ⟨b, h1, ?_⟩
        cases q with
        | true =>
          rw [cond_true] at h
          unfold agree at h
          split at h
          · rename_i e
            cases b with
            | true => exact h
            | false => rw [← e]; exact h
          · cases h
        | false => rw [cond_false] at h; rw [h2 rfl]; exact h
      obtain ⟨c', k1, k2, k3⟩ := srel_app (d := o.dst) hS (effOk_val hS.hp (n := S.hp.length) (v := .sc (.bool hw)) (u := .bool hw) rfl)
      exact wpI_value hr.1 (hN _ _ _ c' hr.2 k1 (k2.mono fun _ _ => trivial) k3 (put_defers ..))
    rename_i hunk
    rw [Rd.runK_eq] at h
    cases hr : (eff E P o S.evs S.hp.length).runO (lookIn S.hp) [] with
    | none => rw [hr] at h; cases h
    | some p =>
      rw [hr] at h
      have h : K (S.app o.dst p.1) = some x := h
      have hr : (eff E P o (fun x => strip (S.ev x)) S.hp.length).runO (lookIn S.hp) [] = some p := hr
      rw [eff_soft hn] at hr
      rcases eff_sound (e := p.1) (g' := p.2) hS.hp (fun x => soft_rel (srel_ev hS x)) hr with ⟨u, w', h1, h2⟩ | ⟨w', h1, h2⟩
      · obtain ⟨c', k1, k2, k3⟩ := srel_app (d := o.dst) hS h2
        exact wpI_value h1 (hN _ _ _ c' h k1 (k2.mono fun _ _ => trivial) k3 (put_defers ..))
      · obtain ⟨c', k1, k2, k3⟩ := srel_app (d := o.dst) hS h2
        exact wpI_skip h1 (hN _ _ _ c' h k1 (k2.mono fun _ _ => trivial) k3 (put_defers ..))

/-! ### regions in the order of the text -/
theorem tm_bool (hS : SRel B c S a w) {t : Tmp} {b : Bool} (h : S.ev (.tmp t) = .sc (.bool b)) : S.tm[t]? = some (.sc (.bool b)) ∧ a.tmps[t]? = some (.bool b) := by
  have h' : (S.tm[t]?).getD .any = .sc (.bool b) := h
  cases hs : S.tm[t]? with
  | none => rw [hs] at h'; cases h'
  | some v =>
    rw [hs] at h'
    have h' : v = .sc (.bool b) := h'
    subst h'
    obtain ⟨u, hu, hr⟩ := hS.tm.get t _ hs
    have hr : u = .bool b := hr
    subst hr
    exact ⟨rfl, by simpa using hu⟩

theorem litB_eq {t : Tmp} {b : Bool} (h : S.tm[t]? = some (.sc (.bool b))) : litB S t b = S := by
  cases S with | mk tm hp =>
  simp only [litB, St.put, St.mk.injEq, and_true]
  have h : tm[t]? = some (.sc (.bool b)) := h
  apply List.ext_getElem?
  intro i
  rw [List.getElem?_set]
  split
  · rename_i e; subst e
    split
    · exact h.symm
    · rename_i e; rw [List.getElem?_eq_none (by omega)] at h; cases h
  · rfl

theorem dstOf_eq {ops : Array Oper} {j : Nat} {t : Tmp} (h : dstOf ops.toList j = some t) : (ops[j]?).bind (·.dst) = some t := by
  simpa [dstOf] using h

theorem wanted_eq {ops : Array Oper} {o : Oper} {j : Nat} {want b : Bool} {t : Tmp} (hS : SRel B c S a w) (hg : o.guard = some (j, want)) (hd : dstOf ops.toList j = some t)
    (hb : S.ev (.tmp t) = .sc (.bool b)) : Region.wanted o (yielded ops a.tmps) = (b == want) := by
  have := (tm_bool hS hb).2
  simp [Region.wanted, hg, yielded, dstOf_eq hd, this]

theorem tm_sc (hS : SRel B c S a w) {t : Tmp} {v : Value} (h : S.tm[t]? = some (.sc v)) : a.tmps[t]? = some v := by
  obtain ⟨u, hu, hr⟩ := hS.tm.get t _ h
  have hr : u = v := hr
  subst hr
  simpa using hu
theorem ev_sc {S : St} {t : Tmp} {v : Value} (h : S.ev (.tmp t) = .sc v) : S.tm[t]? = some (.sc v) := by
  have h' : (S.tm[t]?).getD .any = .sc v := h
  cases hs : S.tm[t]? with
  | none => rw [hs] at h'; cases h'
  | some u => rw [hs] at h'; exact congrArg some h'
theorem wanted_no' {ops : Array Oper} {o : Oper} {j : Nat} {want : Bool} {t : Tmp} {v : Value} (hS : SRel B c S a w) (hg : o.guard = some (j, want)) (hd : dstOf ops.toList j = some t)
    (hb : S.tm[t]? = some (.sc v)) (hv : ∀ b, v = .bool b → False) : Region.wanted o (yielded ops a.tmps) = false := by
  have := tm_sc hS hb
  simp only [Region.wanted, hg, yielded, dstOf_eq hd, Option.bind_some, this]
  cases v <;> first | rfl | exact (hv _ rfl).elim
theorem wanted_no {ops : Array Oper} {o : Oper} {j : Nat} {want : Bool} {t : Tmp} {v : Value} (hS : SRel B c S a w) (hg : o.guard = some (j, want)) (hd : dstOf ops.toList j = some t)
    (hb : S.ev (.tmp t) = .sc v) (hv : ∀ b, v = .bool b → False) : Region.wanted o (yielded ops a.tmps) = false := wanted_no' hS hg hd (ev_sc hb) hv

theorem ev_tm {S : St} {t : Tmp} {v : AV} (h : S.ev (.tmp t) = v) (hv : v ≠ .any) : S.tm[t]? = some v := by
  have h' : (S.tm[t]?).getD .any = v := h
  cases hs : S.tm[t]? with
  | none => rw [hs] at h'; exact absurd h'.symm hv
  | some u => rw [hs] at h'; exact congrArg some h'
theorem wanted_gd {ops : Array Oper} {o : Oper} {j : Nat} {want q b : Bool} {t : Tmp} (hS : SRel B c S a w) (hg : o.guard = some (j, want)) (hd : dstOf ops.toList j = some t)
    (hb : S.tm[t]? = some (.gd q (.sc (.bool b)))) : Region.wanted o (yielded ops a.tmps) = (q && wantB want b) := by
  obtain ⟨u, hu, h1, h2⟩ := hS.tm.get t _ hb
  have hu : a.tmps[t]? = some u := by simpa using hu
  simp only [Region.wanted, hg, yielded, dstOf_eq hd, Option.bind_some, hu]
  cases q with
  | true =>
    have : u = .bool b := h1 rfl
    subst this
    cases want <;> cases b <;> rfl
  | false =>
    have : u = undef := h2 rfl
    subst this
    rfl

theorem reg_sound {call : CallK R} (hc : CallOk B P call) {E : Env} (hsp : SpecsOk P E) {ops : Array Oper} {K : St → Option R} {x : R} {Q : Exit → Act → World → Prop} {c0 : Cx} {hp0 : List ABlk} {w0 : World}
    {ds : List Deferred} {r0 : Option Nat} (hQ : ∀ S' a' w' c', K S' = some x → SRel B c' S' a' w' → Evo (· < hp0.length) c0 hp0 w0 c' S'.hp w' → hp0.length ≤ S'.hp.length → a'.defers = ds → Q .normal a' w') :
    ∀ (l : List Oper) (kn : List Nat) (S : St) (a : Act) (w : World) (c : Cx), reg E P call ops.toList kn l S K = some x → SRel B c S a w → Evo (· < hp0.length) c0 hp0 w0 c S.hp w → hp0.length ≤ S.hp.length → a.defers = ds → wpListIn (Wd r0) 0 P ops Q l a w
  | [], kn, S, a, w, c, h, hS, hE, hl, hds => hQ S a w c h hS hE hl hds
  | o :: r, kn, S, a, w, c, h, hS, hE, hl, hds => by
    have ih := reg_sound (E := E) (ops := ops) (r0 := r0) hc hsp hQ r
    have go : ∀ {kn : List Nat} {S : St} {c : Cx}, opK E P call o S (fun S' => reg E P call ops.toList kn r S' K) = some x → SRel B c S a w → Evo (· < hp0.length) c0 hp0 w0 c S.hp w → hp0.length ≤ S.hp.length → wpI r0 P o a w (wpListIn (Wd r0) 0 P ops Q r) Q := by
      intro kn S c h hS hE hl
      exact opK_sound hc h hS fun S' a' w' c' k1 k2 k3 k4 k5 => ih kn S' a' w' c' k1 k2 (hE.trans (k3.mono fun id hid => Nat.lt_of_lt_of_le hid hl)) (Nat.le_trans hl k4) (k5.trans hds)
    have no : ∀ {kn : List Nat} {S : St} {c : Cx}, reg E P call ops.toList kn r (S.put o.dst (.sc undef)) K = some x → SRel B c S a w → Evo (· < hp0.length) c0 hp0 w0 c S.hp w → hp0.length ≤ S.hp.length → wpListIn (Wd r0) 0 P ops Q r (a.put o.dst undef) w := by
      intro kn S c h hS hE hl
      exact ih kn _ _ _ c h (srel_put hS (show VRel B c S.hp w (.sc undef) undef from rfl)) (by rw [put_tm]; exact hE) (by rw [put_tm]; exact hl) ((put_defers ..).trans hds)
    have may : ∀ {g : Bool}, Region.wanted o (yielded ops a.tmps) = g → effG E P g o S S.hp.length (fun e _ => reg E P call ops.toList kn r (S.app o.dst e) K) = some x →
        if Region.wanted o (yielded ops a.tmps) then wpI r0 P o a w (wpListIn (Wd r0) 0 P ops Q r) Q else (∀ f, o.about P w a.eval = some f → (Wd r0).fn f) ∧ wpListIn (Wd r0) 0 P ops Q r (a.put o.dst undef) w := by
      intro g hg h
      rw [hg]
      rw [effG_eq] at h
      cases he : effGO E P g o S.ev S.hp S.hp.length with
      | none => rw [he] at h; cases h
      | some p =>
        rw [he] at h
        have h : reg E P call ops.toList kn r (S.app o.dst p.1) K = some x := h
        obtain ⟨v, hv, hon⟩ := effGO_some (e := p.1) (log := p.2) he
        rw [hv] at h
        have fin : ∀ u w', EffOk B c S.hp w S.hp.length ⟨.gd g v, [], []⟩ u w' → wpListIn (Wd r0) 0 P ops Q r (a.put o.dst u) w' := by
          intro u w' hk
          obtain ⟨c', k1, k2, k3⟩ := srel_app (d := o.dst) hS hk
          exact ih kn _ _ _ c' h k1 (hE.trans (k2.mono fun _ _ => trivial)) (Nat.le_trans hl k3) ((put_defers ..).trans hds)
        cases g with
        | true =>
          rw [if_pos rfl]
          exact effO_sound hsp (hon rfl) hS fun u w' hk => fin u w' (effOk_gd hk)
        | false =>
          rw [if_neg (by simp)]
          exact ⟨fun _ _ => trivial, fin undef w (effOk_val hS.hp ⟨(fun h => nomatch h), fun _ => rfl⟩)⟩
    unfold reg at h
    unfold wpListIn
    split at h
    · rename_i hg
      rw [if_pos (by simp [Region.wanted, hg])]
      exact go h hS hE hl
    · rename_i j want hg
      split at h
      · cases h
      · rename_i t hd
        simp only at h
        split at h
        · rename_i b hb
          have hw := wanted_eq hS hg hd hb
          have hlit := litB_eq (tm_bool hS hb).1
          cases hst : (still E S o && !kn.contains t) with
          | true =>
            rw [hst] at h
            exact may (by rw [hw]; cases want <;> cases b <;> rfl) h
          | false =>
            rw [hst] at h
            cases want <;> cases b <;> simp only [cond_true, cond_false, hlit] at h <;> rw [hw] <;> first | rw [if_pos (by rfl)] | rw [if_neg (by intro h; cases h)]
            all_goals
              first | exact go h hS hE hl | exact ⟨fun _ _ => trivial, no h hS hE hl⟩
        · rename_i q b hb
          cases hst : still E S o with
          | false => rw [hst] at h; cases h
          | true =>
            rw [hst] at h
            exact may (wanted_gd hS hg hd (ev_tm hb (by simp))) h
        · rename_i v hv hb
          rw [if_neg (by rw [wanted_no hS hg hd hb (fun b hb' => hv b hb')]; simp)]
          exact ⟨fun _ _ => trivial, no h hS hE hl⟩
        · cases h

theorem region_seq_sound {call : CallK R} (hc : CallOk B P call) {E : Env} (hsp : SpecsOk P E) {id : Nat} {ops : Array Oper} {K : St → Option R} {x : R} {Q : Exit → Act → World → Prop}
    (h : region E P call ops.toList false S K = some x) (hS : SRel B c S a w)
    {r0 : Option Nat} (hQ : ∀ S' a' w' c', K S' = some x → SRel B c' S' a' w' → Evo (· < S.hp.length) c S.hp w c' S'.hp w' → S.hp.length ≤ S'.hp.length → a'.defers = a.defers → Q .normal a' w') : (Code.region id ops false).wpIn (Wd r0) 0 P Q a w :=
  wpIn_region_list (reg_sound hc hsp hQ ops.toList [] S a w c h hS (Evo.refl _ _ _ _) (Nat.le_refl _) rfl)
end
end Go.Proofs.YtbjanflhagkhlaaDoor.Sk
