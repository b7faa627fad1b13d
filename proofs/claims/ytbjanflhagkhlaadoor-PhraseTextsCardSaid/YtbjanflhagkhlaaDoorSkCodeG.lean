/- SK, part 18: code. -/
import Derived.Test.YtbjanflhagkhlaaDoorSkCodeF
import Derived.LoopNIn
import Derived.RangeFuncIn
set_option linter.unusedVariables false
set_option linter.unusedSimpArgs false
namespace Go.Proofs.YtbjanflhagkhlaaDoor.Sk
open Go Go.RowKit

def exOf : Ex → Exit
  | .normal => .normal
  | .exit id => .exit id
  | .ret => .ret

section
variable {B : Nat → Prop} {P : Program} {R : Type}

def Good (B : Nat → Prop) (lo : Nat) (c0 : Cx) (hp0 : List ABlk) (w0 : World) (K : Ex → St → Option R) (x : R) (Q : Exit → Act → World → Prop) : Prop :=
  ∀ ex S' a' w' c', K ex S' = some x → SRel B c' S' a' w' → Evo (· < lo) c0 hp0 w0 c' S'.hp w' → lo ≤ S'.hp.length → DfrOk w0.heap.size c' w' a'.defers → Q (exOf ex) a' w'

theorem cond_bool {c : Cx} {S : St} {a : Act} {w : World} (hS : SRel B c S a w) {x : Operand} {b : Bool} (hn : ∀ q, q ∈ needOf (S.ev x) → q = true) (h : S.evs x = .sc (.bool b)) : a.eval x = .bool b := by
  have := strip_rel hn (srel_ev hS x)
  have h : strip (S.ev x) = .sc (.bool b) := h
  rw [h] at this
  exact this

theorem cnd_some {b : Bool} {k : Option R} {x : R} (h : cond b k none = some x) : b = true ∧ k = some x := by
  cases b with
  | true => exact ⟨rfl, h⟩
  | false => cases h
/-- The objects of loops over functions lie apart. -/
def notLoop : Obj → Bool
  | .loop _ => false
  | _ => true
theorem lies_loop {w : World} {l : Nat} {lp lp' : Loop} (h : w.heap[l]? = some (.loop lp)) : Lies notLoop w (w.putObj l (.loop lp')) :=
  ⟨fun b o hb ho => by
    by_cases e : b = l
    · subst e; rw [h] at hb; cases hb; cases ho
    · exact (World.putObj_heap_other e).trans hb, by simp, fun _ _ _ => rfl, fun _ _ => rfl⟩

/-- A loop's two new objects. -/
theorem enter_loop {c : Cx} {hp : List ABlk} {w : World} {lp : Loop} (hH : HRel B c hp w) :
    ∃ c1, HRel B c1 hp ((w.alloc (.deferred (some []))).alloc (.loop lp)) ∧ Evo All c hp w c1 hp ((w.alloc (.deferred (some []))).alloc (.loop lp)) ∧ c1.F w.heap.size ∧ c1.F (w.heap.size + 1) ∧
      ((w.alloc (.deferred (some []))).alloc (.loop lp)).heap[w.heap.size]? = some (.deferred (some [])) ∧ ((w.alloc (.deferred (some []))).alloc (.loop lp)).heap[w.heap.size + 1]? = some (.loop lp) := by
  obtain ⟨W1, hW1⟩ : ∃ W1, (w.alloc (.deferred (some []))).alloc (.loop lp) = W1 := ⟨_, rfl⟩
  have hL1 : W1.heap[w.heap.size + 1]? = some (.loop lp) := by
    rw [← hW1]; have := World.alloc_heap_new (w.alloc (.deferred (some []))) (.loop lp); rwa [World.size_alloc] at this
  have hK1 : W1.heap[w.heap.size]? = some (.deferred (some [])) := by
    rw [← hW1]; exact (Below.heap_alloc _ _ _ (by simp)).trans (World.alloc_heap_new w _)
  have hold : ∀ b, b < w.heap.size → W1.heap[b]? = w.heap[b]? := fun b hb => by
    rw [← hW1]; exact (Below.heap_alloc _ _ _ (by simp; omega)).trans (Below.heap_alloc _ _ _ hb)
  have hsz : W1.heap.size = w.heap.size + 2 := by rw [← hW1]; simp
  have hrest : W1.os = w.os ∧ W1.tape = w.tape ∧ W1.output = w.output ∧ W1.drawn = w.drawn := by rw [← hW1]; exact ⟨rfl, rfl, rfl, rfl⟩
  rw [hW1]
  have he : Evo All c hp w ⟨c.D, c.σ, fun b => c.F b ∨ b = w.heap.size ∨ b = w.heap.size + 1⟩ hp W1 :=
    ⟨fun _ _ h => h, fun _ _ _ => rfl, fun _ h => .inl h, fun b hb => hold b (hH.lt b hb), by omega, fun b vs T fz h => ⟨vs, (hold b (Array.getElem?_eq_some_iff.1 h).1).trans h, rfl⟩,
     fun id _ _ => BlkLe.refl _, hrest.1, hrest.2.1, ⟨hrest.2.2.1, by rw [hrest.2.2.2]; exact Nat.le_refl _⟩⟩
  refine ⟨⟨c.D, c.σ, fun b => c.F b ∨ b = w.heap.size ∨ b = w.heap.size + 1⟩, ⟨fun b hb => hH.bs b (by omega), fun b hb => ?_, hH.dl, hH.ld, fun id => ?_, hH.inj, fun id b h1 h2 => ?_, hH.gl.keep he.F he.keep⟩, he, .inr (.inl rfl), .inr (.inr rfl), hK1, hL1⟩
  · rcases hb with hb | rfl | rfl
    · have := hH.lt b hb; omega
    · omega
    · omega
  · by_cases hd : lookIn hp id = .dead
    · rw [hd]; trivial
    · exact (hH.blk id).evo he rfl fun b hb => hold b (hH.nf id b hd hb).2.1
  · obtain ⟨k1, k2, k3⟩ := hH.nf id b h1 h2
    exact ⟨fun h => h.elim k1 (fun h => by omega), by omega, k3⟩

theorem setAll_rel {c : Cx} {hp : List ABlk} {w : World} : ∀ (ps : List Tmp) (as : List AV) (us : List Value) (tm : List AV) (vs : Array Value), VRelL B c hp w as us → VRelL B c hp w tm vs.toList →
    VRelL B c hp w (setAll ps as tm) ((ps.zip us).foldl (fun t (p, v) => t.setIfInBounds p v) vs).toList
  | [], as, us, tm, vs, _, h => by cases as <;> exact h
  | p :: ps, [], [], tm, vs, _, h => h
  | p :: ps, a :: as, u :: us, tm, vs, ha, h => by
    simp only [setAll, List.zip_cons_cons, List.foldl_cons]
    exact setAll_rel ps as us _ _ ha.2 (by simpa using h.set p ha.1)
  | p :: ps, [], _ :: _, _, _, h, _ => by simp [VRelL] at h
  | p :: ps, _ :: _, [], _, _, h, _ => by simp [VRelL] at h

theorem ev_sound {E : Env} (hE : SpecsOk P E) (hm : P.follows .mixedOrders = true) {call : CallK R} (hc : CallOk B P call) {lo : Nat} {c0 : Cx} {hp0 : List ABlk} {w0 : World} {x : R} {r0 : Option Nat} :
    ∀ (code : Code) (S : St) (K : Ex → St → Option R) (Q : Exit → Act → World → Prop) (a : Act) (w : World) (c : Cx), (r0 = none ∨ noRange code = true) → ev E P call lo code S K = some x → SRel B c S a w → Evo (· < lo) c0 hp0 w0 c S.hp w →
      lo ≤ S.hp.length → DfrOk w0.heap.size c w a.defers → Good B lo c0 hp0 w0 K x Q → code.wpIn (Wd r0) 0 P Q a w
  | .skip, S, K, Q, a, w, c, hr, h, hS, hV, hl, hd, hG => wpIn_skip (hG .normal S a w c h hS hV hl hd)
  | .label _, S, K, Q, a, w, c, hr, h, hS, hV, hl, hd, hG => wpIn_label (hG .normal S a w c h hS hV hl hd)
  | .exit id, S, K, Q, a, w, c, hr, h, hS, hV, hl, hd, hG => wpIn_exit (hG (.exit id) S a w c h hS hV hl hd)
  | .ret, S, K, Q, a, w, c, hr, h, hS, hV, hl, hd, hG => wpIn_ret (hG .ret S a w c h hS hV hl hd)
  | .seq p q, S, K, Q, a, w, c, hr, h, hS, hV, hl, hd, hG => by
    refine wpIn_seq (ev_sound hE hm hc p S _ _ a w c (hr.imp id fun h => by rw [noRange, Bool.and_eq_true] at h; exact h.1) h hS hV hl hd ?_)
    intro ex S' a' w' c' hK hS' hV' hl' hd'
    cases ex with
    | normal => exact ev_sound hE hm hc q S' K Q a' w' c' (hr.imp id fun h => by rw [noRange, Bool.and_eq_true] at h; exact h.2) hK hS' hV' hl' hd' hG
    | exit j => exact hG (.exit j) S' a' w' c' hK hS' hV' hl' hd'
    | ret => exact hG .ret S' a' w' c' hK hS' hV' hl' hd'
  | .cond o p q, S, K, Q, a, w, c, hr, h, hS, hV, hl, hd, hG => by
    unfold ev at h
    split at h
    · rename_i b hb
      obtain ⟨hn, h⟩ := chkAll_some h
      cases b with
      | true => exact wpIn_cond_true (cond_bool hS hn hb) (ev_sound hE hm hc p S K Q a w c (hr.imp id fun h => by rw [noRange, Bool.and_eq_true] at h; exact h.1) h hS hV hl hd hG)
      | false => exact wpIn_cond_false (cond_bool hS hn hb) (ev_sound hE hm hc q S K Q a w c (hr.imp id fun h => by rw [noRange, Bool.and_eq_true] at h; exact h.2) h hS hV hl hd hG)
    · cases h
  | .block id p, S, K, Q, a, w, c, hr, h, hS, hV, hl, hd, hG => by
    refine wpIn_block (ev_sound hE hm hc p S _ _ a w c hr h hS hV hl hd ?_)
    intro ex S' a' w' c' hK hS' hV' hl' hd'
    cases ex with
    | normal => exact hG .normal S' a' w' c' hK hS' hV' hl' hd'
    | exit j =>
      show if j = id then _ else _
      have hK : cond (Nat.beq j id) (K .normal S') (K (.exit j) S') = some x := hK
      by_cases e : j = id
      · rw [if_pos e]
        have : Nat.beq j id = true := by rw [e]; exact Nat.beq_refl id
        rw [this] at hK
        exact hG .normal S' a' w' c' hK hS' hV' hl' hd'
      · rw [if_neg e]
        have : Nat.beq j id = false := by
          cases hb : Nat.beq j id with
          | false => rfl
          | true => exact absurd (Nat.eq_of_beq_eq_true hb) e
        rw [this] at hK
        exact hG (.exit j) S' a' w' c' hK hS' hV' hl' hd'
    | ret => exact hG .ret S' a' w' c' hK hS' hV' hl' hd'
  | .loop p, S, K, Q, a, w, c, hr, h, hS, hV, hl, hd, hG => by
    have key : ∀ (k : Nat) (S : St) (a : Act) (w : World) (c : Cx), loopN (norm (E.keep (keyOf p)) lo) (ev E P call lo p) k S K = some x → SRel B c S a w → Evo (· < lo) c0 hp0 w0 c S.hp w → lo ≤ S.hp.length → DfrOk w0.heap.size c w a.defers → Code.roundsIn (Wd r0) 0 P p Q k a w := by
      intro k
      induction k with
      | zero => intro S a w c h; cases h
      | succ k ih =>
        intro S a w c h hS hV hl hd
        refine ev_sound hE hm hc p S _ _ a w c hr h hS hV hl hd ?_
        intro ex S' a' w' c' hK hS' hV' hl' hd'
        cases ex with
        | normal =>
          obtain ⟨c2, h1, h2, h3⟩ := norm_sound (E.keep (keyOf p)) hS' hl'
          exact ih _ a' w' c2 hK h1 (hV'.trans h2) h3 (hd'.evo h2)
        | exit j => exact hG (.exit j) S' a' w' c' hK hS' hV' hl' hd'
        | ret => exact hG .ret S' a' w' c' hK hS' hV' hl' hd'
    obtain ⟨c2, h1, h2, h3⟩ := norm_sound (E.keep (keyOf p)) hS hl
    exact wpIn_loop_rounds E.N (key E.N _ a w c2 h h1 (hV.trans h2) h3 (hd.evo h2))
  | .region id ops draw, S, K, Q, a, w, c, hr, h, hS, hV, hl, hd, hG => by
    have h : joinR E lo S (fun S => region E P call ops.toList draw S fun S' => K .normal S') (E.keep (1000000 + id)) = some x := h
    obtain ⟨S, c, h, hS, hV, hl, hd⟩ : ∃ S1 c1, region E P call ops.toList draw S1 (fun S' => K .normal S') = some x ∧ SRel B c1 S1 a w ∧ Evo (· < lo) c0 hp0 w0 c1 S1.hp w ∧ lo ≤ S1.hp.length ∧ DfrOk w0.heap.size c1 w a.defers := by
      generalize E.keep (1000000 + id) = ks at h
      cases ks with
      | nil => exact ⟨S, c, h, hS, hV, hl, hd⟩
      | cons k ks =>
        obtain ⟨c2, h1, h2, h3⟩ := norm_sound (k :: ks) hS hl
        exact ⟨_, c2, fuelK_some h, h1, hV.trans h2, h3, hd.evo h2⟩
    have hQ : ∀ S' a' w' c', K .normal S' = some x → SRel B c' S' a' w' → Evo (· < S.hp.length) c S.hp w c' S'.hp w' → S.hp.length ≤ S'.hp.length → a'.defers = a.defers → Q .normal a' w' :=
      fun S' a' w' c' hK hS' hV' hl' hda => hG .normal S' a' w' c' hK hS' (hV.trans (hV'.mono fun id hid => Nat.lt_of_lt_of_le hid hl)) (Nat.le_trans hl hl') (by rw [hda]; exact hd.evo hV')
    cases draw with
    | false => exact region_seq_sound hc hE h hS hQ
    | true => exact region_draw_sound hE hm h hS hQ
  | .rangeFunc g ps asg body, S, K, Q, a, w, c, hr, h, hS, hV, hl, hd, hG => by
    obtain rfl : r0 = none := hr.resolve_right (by simp [noRange])
    obtain ⟨c, S, h, hS, hV, hl, hd⟩ : ∃ c1 S1, (match S1.evs g with
      | .clo f caps => chkAll (needOf (S1.ev g)) (cond (noYlL S1.tm && noYlH S1.hp) (call (.fn f) (.yl S1.tm ps asg body :: caps) S1.hp (rangeE S1.tm K)) none)
      | _ => none) = some x ∧ SRel B c1 S1 a w ∧ Evo (· < lo) c0 hp0 w0 c1 S1.hp w ∧ lo ≤ S1.hp.length ∧ DfrOk w0.heap.size c1 w a.defers := by
      obtain ⟨c2, h1, h2, h3⟩ := norm_sound (E.keep (2000000 + keyOf asg)) hS hl
      exact ⟨c2, _, h, h1, hV.trans h2, h3, hd.evo h2⟩
    split at h
    · rename_i f caps hf
      obtain ⟨hn, h⟩ := chkAll_some h
      obtain ⟨hy, h⟩ := cnd_some h
      rw [Bool.and_eq_true] at hy
      have hgv := strip_rel hn (srel_ev hS g)
      have hf : strip (S.ev g) = .clo f caps := hf
      rw [hf] at hgv
      obtain ⟨vs, hgv, hcaps⟩ := hgv
      rcases hc.1 _ _ _ _ _ h with ⟨hent, hcall⟩ | ⟨hno, _⟩
      rotate_left
      · simp [noYlL, noYl] at hno
      refine wpIn_rangeFunc fun fn _ => ?_
      obtain ⟨c1, q1, q2, q3, q4, q5, q6⟩ := enter_loop (lp := { state := .ready, pending := none, fn, tmps := a.tmps, params := ps, assign := asg, body, defers := w.heap.size }) hS.hp
      generalize hW1 : ((w.alloc (.deferred (some []))).alloc (.loop { state := .ready, pending := none, fn, tmps := a.tmps, params := ps, assign := asg, body, defers := w.heap.size })) = W1 at q1 q2 q5 q6
      obtain ⟨fn', e1, e2, e3⟩ := hent
      have hinv : (invoke (.fn (.func f) vs) #[.func (.yield (w.heap.size + 1)) #[] #[]]).run P W1 = .ok (.enter f (#[.func (.yield (w.heap.size + 1)) #[] #[]] ++ vs)) W1 := by
        have h2' : ¬ fn'.name = "runtime.NumGoroutine" := by simpa using e2
        have h3' : ¬ fn'.body = none := fun e => by rw [e] at e3; cases e3
        simp [invoke, go_sem, callFunc, e1, h2', h3']
      refine ⟨w.heap.size + 1, [{ target := .collected w.heap.size, args := #[] }], W1, { target := .fn (.func f) vs, args := #[.func (.yield (w.heap.size + 1)) #[] #[]] }, W1, f,
        #[.func (.yield (w.heap.size + 1)) #[] #[]] ++ vs, W1, ?_, ?_, fun _ _ => trivial, hinv, (fun h => nomatch h), ?_⟩
      · rw [← hW1]; exact run_enterLoop_outer _ _ _ _ _
      · simp only [resolve, hgv]
        simp [go_sem]
      · have hargs : VRelL B c1 S.hp W1 (.yl S.tm ps asg body :: caps) (Value.func (.yield (w.heap.size + 1)) #[] #[] :: vs.toList) :=
          ⟨⟨_, _, rfl, q4, q6, rfl, rfl, rfl, rfl, rfl, hS.tm.evo q2⟩, hcaps.evo q2⟩
        have hcl := hcall c1 W1 _ q1 hargs
        have e1 : (Value.func (.yield (w.heap.size + 1)) #[] #[] :: vs.toList).toArray = #[.func (.yield (w.heap.size + 1)) #[] #[]] ++ vs := by apply Array.ext'; simp
        rw [e1] at hcl
        refine (callsIn_wide (n := 0) .. |>.2 hcl).mono fun e w3 he => ?_
        obtain ⟨v, rfl, av, hp', c', k1, k2, k3, k4, k5⟩ := he
        have k1 : cond (noYlH hp') (K .normal ⟨S.tm, hp'⟩) none = some x := k1
        obtain ⟨hy', k1⟩ := cnd_some k1
        have hl3 : w3.heap[w.heap.size + 1]? = some (.loop { state := .ready, pending := none, fn, tmps := a.tmps, params := ps, assign := asg, body, defers := w.heap.size }) := (k3.keep _ q4).trans q6
        have hlies := lies_loop (lp' := { state := .exhausted, pending := none, fn, tmps := a.tmps, params := ps, assign := asg, body, defers := w.heap.size }) hl3
        refine ⟨none, _, run_endLoop hl3 (by simp), ?_⟩
        have hV2 : Evo (· < S.hp.length) c S.hp w c' hp' (w3.putObj (w.heap.size + 1) (.loop { state := .exhausted, pending := none, fn, tmps := a.tmps, params := ps, assign := asg, body, defers := w.heap.size })) := by
          have t := (q2.mono (L' := (· < S.hp.length)) fun _ _ => trivial).trans k3
          refine ⟨t.D, t.σ, t.F, fun b hb => ?_, by rw [World.putObj_size]; exact t.size, fun b vs T fz hb => ?_, t.blk, t.os, t.tape, t.output⟩
          · have := hS.hp.lt b hb
            exact (World.putObj_heap_other (by omega)).trans (t.keep b hb)
          · obtain ⟨vs', g1, g2⟩ := t.shape b vs T fz hb
            have := (Array.getElem?_eq_some_iff.1 hb).1
            exact ⟨vs', (World.putObj_heap_other (by omega)).trans g1, g2⟩
        refine hG .normal ⟨S.tm, hp'⟩ { a with defers := [{ target := .collected w.heap.size, args := #[] }] ++ a.defers } _ c' k1 ⟨?_, k2.put hlies (.inl hy')⟩ (hV.trans (hV2.mono fun id hid => Nat.lt_of_lt_of_le hid hl)) (Nat.le_trans hl k4) ?_
        · exact VRelL.put hlies _ _ (.inl hy.1) (VRelL_evo k3 _ _ (fun id hd => q1.dl id hd) (hS.tm.evo q2))
        · refine ⟨⟨w.heap.size, rfl, hV.size, k3.F _ q3, (World.putObj_heap_other (by omega)).trans ((k3.keep _ q3).trans q5), fun D' hD' e => ?_⟩, hd.evo hV2⟩
          subst e
          have : ∀ {l : List Deferred}, DfrOk w0.heap.size c w l → { target := .collected w.heap.size, args := #[] } ∈ l → False := by
            intro l
            induction l with
            | nil => intro _ h; cases h
            | cons d r ih =>
              rintro ⟨⟨D, g1, g2, g3, g4, g5⟩, gr⟩ hm
              rcases List.mem_cons.1 hm with e | hm
              · rw [g1] at e
                have e : w.heap.size = D := by injection e with e; injection e
                have := hS.hp.lt _ g3
                omega
              · exact ih gr hm
          exact this hd hD'
    · cases h
  | .scope _, S, K, Q, a, w, c, hr, h, hS, hV, hl, hd, hG => by cases h
  | .goto _, S, K, Q, a, w, c, hr, h, hS, hV, hl, hd, hG => by cases h
  | .refuse _, S, K, Q, a, w, c, hr, h, hS, hV, hl, hd, hG => by cases h

/-! ### a function's results -/
def tupV (us : List Value) : Value := match us with | [u] => u | us => .tuple us.toArray

theorem tup_rel {c : Cx} {hp : List ABlk} {w : World} : ∀ {as : List AV} {us : List Value}, VRelL B c hp w as us → VRel B c hp w (tupOf as) (tupV us)
  | [], [], _ => ⟨#[], rfl, trivial⟩
  | [a], [u], h => h.1
  | a :: b :: as, u :: v :: us, h => ⟨(u :: v :: us).toArray, rfl, h⟩
  | [], _ :: _, h => by simp [VRelL] at h
  | _ :: _, [], h => by simp [VRelL] at h
  | [_], _ :: _ :: _, h => by simp [VRelL] at h
  | _ :: _ :: _, [_], h => by simp [VRelL] at h

def resF (tmps : Array Value) : ResultVar → Sem Value
  | .tmp t => pure (tmps.getD t undef)
  | .cell b t => do loadVar t (← asAddr (tmps.getD b undef))
theorem results_eq (fn : Func) (tmps : Array Value) : results fn tmps = (do let vs ← fn.results.mapM (resF tmps); pure (if h : vs.size = 1 then vs[0] else .tuple vs)) := by
  unfold results
  congr 2

theorem mapM_rel {c : Cx} {S : St} {a : Act} {w : World} (hS : SRel B c S a w) : ∀ (l : List ResultVar) (g : List Nat) (vs : List AV) (g' : List Nat), (resA P S l).runO (lookIn S.hp) g = some (vs, g') →
    ∃ us, (l.mapM (m := Sem) (resF a.tmps)).run P w = .ok us w ∧ VRelL B c S.hp w vs us
  | [], g, vs, g', h => by cases h; exact ⟨[], by simp, trivial⟩
  | .tmp t :: l, g, vs, g', h => by
    unfold resA at h
    obtain ⟨r, g1, h1, h2⟩ := Rd.bind_some h
    cases h2
    obtain ⟨us, k1, k2⟩ := mapM_rel hS l g r _ h1
    exact ⟨a.tmps.getD t undef :: us, by rw [List.mapM_cons]; simp only [Sem.run_bind, k1, resF, Sem.run_pure, Result.andThen], srel_ev hS (.tmp t), k2⟩
  | .cell b t :: l, g, vs, g', h => by
    unfold resA at h
    obtain ⟨v, g1, h1, h2⟩ := Rd.bind_some h
    obtain ⟨r, g2, h3, h4⟩ := Rd.bind_some h2
    cases h4
    obtain ⟨us, k1, k2⟩ := mapM_rel hS l _ r _ h3
    unfold loadA at h1
    split at h1
    · rename_i id off hv
      have hp := srel_ev hS (.tmp b)
      rw [hv] at hp
      obtain ⟨_, bb, hs, hu⟩ := hp
      have hu : a.tmps.getD b undef = .pointer (some ⟨bb, off, none⟩) := hu
      simp only [Rd.runO] at h1
      split at h1
      · rename_i cs T hl
        have hb := hS.hp.blk id
        rw [hl] at hb
        obtain ⟨b', ls, hs', hw, hr⟩ := hb
        rw [hs] at hs'; cases hs'
        obtain ⟨u, q1, q2⟩ := load_part (o := 0) hw (by intro j v hj; rw [Nat.zero_add]; simpa using hj) hr h1
        rw [Nat.zero_add] at q1
        refine ⟨u :: us, ?_, q2, k2⟩
        rw [List.mapM_cons]
        simp only [resF, hu, asAddr, pure_bind, Sem.run_bind, q1, k1, Sem.run_pure, Result.andThen]
      · cases h1
    · cases h1

theorem results_rel {c : Cx} {S : St} {a : Act} {w : World} (hS : SRel B c S a w) {fn : Func} {g : List Nat} {vs : List AV} {g' : List Nat} (h : (resA P S fn.results.toList).runO (lookIn S.hp) g = some (vs, g')) :
    ∃ us, (results fn a.tmps).run P w = .ok (tupV us) w ∧ VRelL B c S.hp w vs us := by
  obtain ⟨us, h1, h2⟩ := mapM_rel hS _ _ _ _ h
  refine ⟨us, ?_, h2⟩
  rw [results_eq, Array.mapM_eq_mapM_toList]
  simp only [Sem.run_bind, map_eq_pure_bind, bind_assoc, pure_bind, h1, Result.andThen]
  match us with
  | [] => simp [tupV]
  | [u] => simp [tupV]
  | u :: v :: us => simp [tupV]

theorem enterT_rel {c : Cx} {hp : List ABlk} {w : World} {args : List AV} {us : List Value} (h : VRelL B c hp w args us) (fn : Func) :
    VRelL B c hp w (enterT fn args) ((us.toArray ++ Array.replicate (fn.ntmps - us.toArray.size) undef).toList) := by
  have e : (us.toArray ++ Array.replicate (fn.ntmps - us.toArray.size) undef).toList = us ++ List.replicate (fn.ntmps - us.length) undef := by simp
  rw [e]
  unfold enterT
  rw [h.length]
  refine h.append ?_
  generalize fn.ntmps - us.length = k
  induction k with
  | zero => trivial
  | succ k ih => exact ⟨trivial, ih⟩

theorem tidy_sound {w : World} : ∀ (as : List AV) (us : List Value) (hp : List ABlk) (c : Cx), HRel B c hp w → VRelL B c hp w as us →
    ∃ c', HRel B c' (tidy as hp).2 w ∧ Evo All c hp w c' (tidy as hp).2 w ∧ VRelL B c' (tidy as hp).2 w (tidy as hp).1 us ∧ hp.length ≤ (tidy as hp).2.length
  | [], us, hp, c, hH, hv => ⟨c, hH, Evo.refl _ _ _ _, hv, Nat.le_refl _⟩
  | v :: r, [], hp, c, hH, hv => by simp [VRelL] at hv
  | v :: r, u :: us, hp, c, hH, hv => by
    have plain : ∃ c', HRel B c' (tidy r hp).2 w ∧ Evo All c hp w c' (tidy r hp).2 w ∧ VRelL B c' (tidy r hp).2 w (v :: (tidy r hp).1) (u :: us) ∧ hp.length ≤ (tidy r hp).2.length := by
      obtain ⟨c', h1, h2, h3, h4⟩ := tidy_sound r us hp c hH hv.2
      exact ⟨c', h1, h2, ⟨VRel.evo hv.1 h2, h3⟩, h4⟩
    unfold tidy
    split
    · rename_i id n
      split
      · rename_i fr T t l hl
        have hlive : lookIn hp id ≠ .dead := by rw [hl]; simp
        have hidl := lookIn_live hlive
        have hnD : ¬ c.D hp.length := fun h => by have := hH.dl _ h; omega
        have hq : ∀ j, lookIn ((hp ++ [ABlk.rows fr T t (l.take n)]).set id .dead) j = if j = hp.length then .rows fr T t (l.take n) else if j = id then .dead else lookIn hp j := by
          intro j
          rw [lookIn_set, lookIn_append]
          by_cases e : id = j
          · subst e
            rw [if_pos ⟨rfl, by simp; omega⟩, if_neg (by omega), if_pos rfl]
          · rw [if_neg (by simp [e])]
            by_cases e2 : j = hp.length
            · subst e2; simp
            · rw [if_neg e2, if_neg (show ¬ j = id from fun h => e h.symm)]
              split
              · rename_i hle
                rw [List.getElem?_eq_none (by simp; omega)]
                unfold lookIn
                rw [List.getElem?_eq_none hle]
              · rfl
        have hbl := hH.blk id
        rw [hl] at hbl
        obtain ⟨h0, hbl⟩ := hbl
        have hvu := hv.1.2
        unfold SubV at hvu
        obtain ⟨c1, k1, k2, k3, k4, k5, k6⟩ := hrel_move (w' := w) (hp' := (hp ++ [ABlk.rows fr T t (l.take n)]).set id .dead) hH hnD (by simp) (by simp) hlive hq (s := c.σ id)
          (fun _ _ _ => rfl) (Nat.le_refl _) (fun b vs T fz _ h => ⟨vs, h, rfl⟩) rfl rfl ⟨rfl, Nat.le_refl _⟩ (fun b h => .inl h)
          (fun c' hcs hcF he => by
            refine ⟨h0, ?_⟩
            rw [hcs]
            cases hs : c.σ id with
            | none => rw [hs] at hbl; simp only at hbl ⊢; subst hbl; simp
            | some b =>
              rw [hs] at hbl
              obtain ⟨cap, cur, q1, q2, q3, q4, q5⟩ := hbl
              exact ⟨cap, cur, q1, by simp; omega, q3, q4, fun i x hx => by
                rw [List.getElem?_take] at hx
                split at hx
                · exact CRel.mono (fun b hb => rfl) (fun b hb => ⟨by rw [hcF]; exact hb.1, hb.2⟩) t x _ (q5 i x hx)
                · cases hx⟩)
        have hown : VRel B c1 ((hp ++ [ABlk.rows fr T t (l.take n)]).set id .dead) w (.own hp.length) u := by
          refine ⟨k3, ?_⟩
          unfold OwnV
          rw [k4]
          cases hs : c.σ id with
          | none => rw [hs] at hvu; exact hvu.1
          | some b =>
            rw [hs] at hvu
            obtain ⟨a, q, rfl, hr⟩ := hvu
            obtain ⟨cap, cur, r1, r2, r3, r4, r5, r6, r7⟩ := hr _ _ _ _ hl
            refine ⟨n, q, by rw [r5 (.inr rfl)]; simp, fun fr' T' t' l' hl' => ?_⟩
            rw [hq, if_pos rfl] at hl'
            cases hl'
            exact ⟨by simp; omega, by omega, by omega, cur, r6, by rw [r7, r1]; rfl⟩
        obtain ⟨c', h1, h2, h3, h4⟩ := tidy_sound r us _ c1 k1 (VRelL.evo hv.2 k2)
        exact ⟨c', h1, k2.trans h2, ⟨VRel.evo hown h2, h3⟩, by simp at h4; simp only; omega⟩
      · exact plain
    · exact plain

def InlOk (P : Program) (E : Env) : Prop := ∀ f fn, E.G f = some (.inl fn) → Enters P f ∧ P.funcs[f]? = some fn

theorem evo_of_eff {B : Nat → Prop} {c : Cx} {hp : List ABlk} {w w' : World} {e : Eff} {u : Value} (hH : HRel B c hp w) (h : EffOk B c hp w hp.length e u w') (hup : e.upd = []) :
    ∃ c', HRel B c' (hp ++ e.news) w' ∧ Evo All c hp w c' (hp ++ e.news) w' ∧ VRel B c' (hp ++ e.news) w' e.v u := by
  have := upd_app hH.dl e
  rw [hup] at this
  obtain ⟨c', h1, h2, h3, _⟩ := h _ this
  exact ⟨c', h1, h2, h3⟩

/-! ### a function is left -/
def notDfr : Obj → Bool
  | .deferred _ => false
  | _ => true
structure Aft (n0 : Nat) (w w1 : World) : Prop where
  lies : Lies notDfr w w1
  low : ∀ b, b < n0 → w1.heap[b]? = w.heap[b]?
  os : w1.os = w.os
  tape : w1.tape = w.tape
  output : OutOk w w1
theorem Aft.refl (n0 : Nat) (w : World) : Aft n0 w w := ⟨⟨fun _ _ h _ => h, rfl, fun _ _ _ => rfl, fun _ _ => rfl⟩, fun _ _ => rfl, rfl, rfl, OutOk.refl _⟩
theorem Aft.trans {n0 : Nat} {w w1 w2 : World} (h : Aft n0 w w1) (k : Aft n0 w1 w2) : Aft n0 w w2 :=
  ⟨⟨fun b o hb ho => k.lies.same b o (h.lies.same b o hb ho) ho, k.lies.size.trans h.lies.size, h.lies.cells, h.lies.map⟩, fun b hb => (k.low b hb).trans (h.low b hb), k.os.trans h.os, k.tape.trans h.tape, h.output.trans k.output⟩
theorem aft_put {n0 D : Nat} {w : World} {x : Option (List Deferred)} {o : Option (List Deferred)} (h : w.heap[D]? = some (.deferred x)) (hD : n0 ≤ D) : Aft n0 w (w.putObj D (.deferred o)) :=
  ⟨⟨fun b o' hb ho => by
    by_cases e : b = D
    · subst e; rw [h] at hb; cases hb; cases ho
    · exact (World.putObj_heap_other e).trans hb, by simp, fun _ _ _ => rfl, fun _ _ => rfl⟩, fun b hb => World.putObj_heap_other (by omega), rfl, rfl, OutOk.refl _⟩
theorem DfrOk.at {n0 : Nat} {c : Cx} {w w1 : World} : ∀ {l : List Deferred}, (∀ D, { target := .collected D, args := #[] } ∈ l → w.heap[D]? = some (.deferred (some [])) → w1.heap[D]? = w.heap[D]?) → DfrOk n0 c w l → DfrOk n0 c w1 l
  | [], _, _ => trivial
  | d :: r, hk, ⟨⟨D, h1, h2, h3, h4, h5⟩, k⟩ => ⟨⟨D, h1, h2, h3, (hk D (by rw [h1]; exact List.mem_cons_self ..) h4).trans h4, h5⟩, DfrOk.at (fun D' h => hk D' (List.mem_cons_of_mem _ h)) k⟩
theorem Evo.aft {L : Nat → Prop} {c c' : Cx} {hp hp' : List ABlk} {w w' w2 : World} (h : Evo L c hp w c' hp' w') (hlt : ∀ b, c.F b → b < w.heap.size) (k : Aft w.heap.size w' w2) : Evo L c hp w c' hp' w2 :=
  ⟨h.D, h.σ, h.F, fun b hb => (k.low b (hlt b hb)).trans (h.keep b hb), by rw [k.lies.size]; exact h.size, fun b vs T fz hb => by
    obtain ⟨vs', g1, g2⟩ := h.shape b vs T fz hb
    exact ⟨vs', k.lies.same _ _ g1 rfl, g2⟩, h.blk, k.os.trans h.os, k.tape.trans h.tape, h.output.trans k.output⟩
theorem SRel.aft {n0 : Nat} {c : Cx} {S : St} {a : Act} {w w2 : World} (h : SRel B c S a w) (k : Aft n0 w w2) : SRel B c S a w2 :=
  ⟨VRelL.put k.lies _ _ (.inr fun _ => rfl) h.tm, h.hp.put k.lies (.inr fun _ => rfl)⟩
theorem leave_marks {n0 : Nat} {c : Cx} {fn : Func} {tmps : Array Value} {Rs : Ending → World → Prop} : ∀ (l : List Deferred) (w : World), DfrOk n0 c w l →
    (∀ w1, Aft n0 w w1 → ∃ v, (results fn tmps).run P w1 = .ok v w1 ∧ Rs (.returned v) w1) → LeavesInM (Wd none) 0 P fn tmps Rs l .returning w
  | [], w, _, h => h w (Aft.refl _ _)
  | d :: r, w, ⟨⟨D, h1, h2, h3, h4, h5⟩, k⟩, h => by
    refine ⟨by simp, .inl ⟨D, w.putObj D (.deferred none), by rw [h1], run_takeDeferred h4, leave_marks r _ (k.at fun D' hD' _ => World.putObj_heap_other (h5 D' hD')) fun w1 hw1 => h w1 ((aft_put h4 h2).trans hw1)⟩⟩
theorem calls_marks {f : FuncId} {fn : Func} {c : Code} {args : Array Value} {w : World} {Rs : Ending → World → Prop} (hf : P.funcs[f]? = some fn) (hb : fn.body = some c)
    (h : c.wpIn (Wd none) 0 P (bodyPostM (Wd none) 0 P fn Rs) { tmps := args ++ Array.replicate (fn.ntmps - args.size) undef, defers := [] } w) : Calls P f args w Rs :=
  callsIn_wide.1 (callsIn_of_wp_marks (F := Wd none) hf hb trivial h)

/-! ### a round -/
theorem Evo.putL {L : Nat → Prop} {c c' : Cx} {hp hp' : List ABlk} {w w' : World} {l : Nat} {lp lp' o : Loop} (h : Evo L c hp w c' hp' w') (hl : w.heap[l]? = some (.loop lp)) (hl' : w'.heap[l]? = some (.loop lp')) :
    Evo L c hp (w.putObj l (.loop o)) c' hp' (w'.putObj l (.loop o)) := by
  have h1 := (Array.getElem?_eq_some_iff.1 hl).1
  have h2 := (Array.getElem?_eq_some_iff.1 hl').1
  refine ⟨h.D, h.σ, h.F, fun b hb => ?_, by simpa using h.size, fun b vs T fz hb => ?_, h.blk, h.os, h.tape, h.output⟩
  · by_cases e : b = l
    · subst e; rw [World.putObj_heap_same h1, World.putObj_heap_same h2]
    · rw [World.putObj_heap_other e, World.putObj_heap_other e]; exact h.keep b hb
  · by_cases e : b = l
    · subst e; rw [World.putObj_heap_same h1] at hb; cases hb
    · rw [World.putObj_heap_other e] at hb ⊢; exact h.shape b vs T fz hb
theorem putObj_back {w : World} {l : Nat} {o o' : Obj} (h : w.heap[l]? = some o) : (w.putObj l o').putObj l o = w := by
  have : ((w.heap.setIfInBounds l o').setIfInBounds l o) = w.heap := by
    apply Array.ext_getElem?
    intro i
    rw [Array.getElem?_setIfInBounds, Array.getElem?_setIfInBounds]
    have hlt := (Array.getElem?_eq_some_iff.1 h).1
    by_cases e : l = i
    · subst e; simp [hlt, (Array.getElem?_eq_some_iff.1 h).2]
    · simp [e]
  unfold World.putObj
  simp only
  rw [this]

theorem round_sound {E : Env} (hE : SpecsOk P E) (hm : P.follows .mixedOrders = true) {call : CallK R} (hc : CallOk B P call) {tm : List AV} {ps : Array Tmp} {asg body : Code} {args : List AV} {hp : List ABlk} {K : AV → List ABlk → Option R} {x : R}
    (h : cond (noRange asg && noRange body && (noYlL tm && noYlL args && noYlH hp) && Nat.beq args.length ps.size)
        (ev E P call hp.length asg ⟨setAll ps.toList args tm, hp⟩ (rndA (ev E P call hp.length body) K)) none = some x)
    {c : Cx} {w : World} {us : List Value} {l : Nat} (hH : HRel B c hp w) (hv : VRelL B c hp w args us) (hy : VRel B c hp w (.yl tm ps asg body) (.func (.yield l) #[] #[])) :
    ∃ fn tmps, (Instr.yield l us.toArray).run P w = .ok (.round l fn tmps asg body) w ∧ RoundIn Fence.wide 0 P l fn tmps asg body w (Come B K x c hp w) := by
  obtain ⟨l', lp, hu, hF, hl, h1, h2, h3, h4, h5, hr⟩ := hy
  obtain rfl : l' = l := by injection hu with hu; injection hu with hu; exact hu.symm
  subst h3; subst h4; subst h5
  obtain ⟨hg, h⟩ := cnd_some h
  simp only [Bool.and_eq_true] at hg
  obtain ⟨⟨⟨g1, g2⟩, ⟨g3, g4⟩, g5⟩, g6⟩ := hg
  have g6 : args.length = lp.params.size := Nat.eq_of_beq_eq_true g6
  refine ⟨_, _, run_yield hl (by simp [← hv.length, g6]), roundIn_of_wpIn trivial ?_⟩
  have htm : VRelL B c hp w (setAll lp.params.toList args tm) ((lp.params.zip us.toArray).foldl (fun tmps (t, a) => tmps.setIfInBounds t a) lp.tmps).toList := by
    have := setAll_rel lp.params.toList args us tm lp.tmps hv hr
    rw [← Array.foldl_toList]
    simpa using this
  refine ev_sound hE hm hc (r0 := some l') (lo := hp.length) (c0 := c) (hp0 := hp) (w0 := w) lp.assign ⟨setAll lp.params.toList args tm, hp⟩ _ _ _ w c (.inr g1) h ⟨htm, hH⟩ (Evo.refl _ _ _ _) (Nat.le_refl _) trivial ?_
  intro ex S1 a1 w1 c1 hK hS1 hV1 hl1 hd1
  cases ex with
  | exit j => exact nomatch (show (none : Option R) = some x from hK)
  | ret => exact nomatch (show (none : Option R) = some x from hK)
  | normal =>
    have hK : cond (noYlL S1.tm && noYlH S1.hp) (ev E P call hp.length lp.body S1 (rndB K)) none = some x := hK
    obtain ⟨hg, hK⟩ := cnd_some hK
    rw [Bool.and_eq_true] at hg
    have hL1 : w1.heap[l']? = some (.loop lp) := (hV1.keep _ hF).trans hl
    refine ⟨_, run_beginRound hL1 h1, ?_⟩
    have hlies := lies_loop (lp' := { lp with state := .busy }) hL1
    have hS2 : SRel B c1 S1 a1 (w1.putObj l' (.loop { lp with state := .busy })) := ⟨VRelL.put hlies _ _ (.inl hg.1) hS1.tm, hS1.hp.put hlies (.inl hg.2)⟩
    have hV2 := hV1.putL (o := { lp with state := .busy }) hl hL1
    refine ev_sound hE hm hc (r0 := some l') (lo := hp.length) (c0 := c) (hp0 := hp) (w0 := w.putObj l' (.loop { lp with state := .busy })) lp.body S1 _ _ a1 _ c1 (.inr g2) hK hS2 hV2 hl1
      (by rw [World.putObj_size]; exact hd1.at fun D _ hD => World.putObj_heap_other fun e => by subst e; rw [hL1] at hD; cases hD) ?_
    intro ex S3 a3 w3 c3 hK hS3 hV3 hl3 hd3
    cases ex with
    | exit j => exact nomatch (show (none : Option R) = some x from hK)
    | ret => exact nomatch (show (none : Option R) = some x from hK)
    | normal =>
      have hK : cond (noYlH S3.hp) (K (.sc (.bool true)) S3.hp) none = some x := hK
      obtain ⟨hg3, hK⟩ := cnd_some hK
      have hl2 : (w.putObj l' (.loop { lp with state := .busy })).heap[l']? = some (.loop { lp with state := .busy }) := World.putObj_heap_same (Array.getElem?_eq_some_iff.1 hl).1
      have hL3 : w3.heap[l']? = some (.loop { lp with state := .busy }) := (hV3.keep _ hF).trans hl2
      have hend := run_endRound (P := P) none hL3
      have hlp : ({ ({ lp with state := .busy } : Loop) with state := if (none : Option Code).isNone then .ready else .done, pending := none } : Loop) = lp := by
        cases lp; simp only at h1 h2; subst h1; subst h2; rfl
      rw [hlp] at hend
      refine ⟨_, _, hend, .bool true, rfl, .sc (.bool true), S3.hp, c3, hK, hS3.hp.put (lies_loop hL3) (.inl hg3), ?_, hl3, rfl⟩
      have := hV3.putL (o := lp) hl2 hL3
      rw [putObj_back hl] at this
      exact this

theorem callD_sound {E : Env} (hE : SpecsOk P E) (hI : InlOk P E) (hm : P.follows .mixedOrders = true) : ∀ (d : Nat), CallOk (R := R) B P (callD E P d)
  | 0 => by
    refine ⟨fun _ _ _ _ _ h => ?_, fun _ _ _ _ _ _ _ _ h => ?_⟩
    · cases h
    · cases h
  | d + 1 => by
    refine ⟨fun f args hp K x h => ?_, fun tm ps asg body args hp K x h c w us l hH hv hy => round_sound hE hm (callD_sound hE hI hm d) h hH hv hy⟩
    have ih := callD_sound hE hI hm d
    unfold callD at h
    simp only at h
    cases hg : E.G f with
    | none => rw [hg] at h; cases h
    | some sp =>
      rw [hg] at h
      cases sp with
      | pure s =>
        obtain ⟨hent, hsound⟩ := hE.pure f s hg
        refine .inl ⟨hent, fun c w us hH hv => ?_⟩
        simp only [Rd.runK_eq] at h
        cases hd : (decArgs s.arg args).runO (lookIn hp) [] with
        | none => rw [hd] at h; cases h
        | some p =>
          rw [hd] at h
          simp only [Option.bind_some] at h
          cases hcn : (s.ali && !p.1.own.isEmpty) with
          | true => rw [hcn] at h; cases h
          | false =>
            rw [hcn] at h
            simp only [cond_false] at h
            cases hf : s.fn p.1.x with
            | none => rw [hf] at h; cases h
            | some r =>
              rw [hf] at h
              have h : K (resEff s p.1.fr hp.length r).v (hp ++ (resEff s p.1.fr hp.length r).news) = some x := h
              refine (hsound B c hp w args us p r hp.length hH hv hd hcn hf).mono fun e w' he => ?_
              obtain ⟨v, rfl, he⟩ := he
              obtain ⟨c', k1, k2, k3⟩ := evo_of_eff hH he rfl
              exact ⟨v, rfl, _, _, c', h, k1, k2.mono fun _ _ => trivial, by simp, k3⟩
      | mac m =>
        simp only at h
        rw [Rd.runK_eq] at h
        cases hd : (m args hp.length).runO (lookIn hp) [] with
        | none => rw [hd] at h; cases h
        | some p =>
          rw [hd] at h
          rcases hE.mac f m hg with ⟨hent, hsound⟩ | hext
          rotate_left
          · obtain ⟨hno, hx⟩ := hext hp args p.1 p.2 hp.length hd
            refine .inr ⟨hno, fun c w us hH hv => ?_⟩
            obtain ⟨v, hv1, he⟩ := hx B c w us hH hv
            have h : K p.1.v (updAll (hp ++ p.1.news) p.1.upd) = some x := h
            obtain ⟨c', k1, k2, k3, _⟩ := he _ (upd_app hH.dl p.1)
            exact ⟨v, hv1, v, rfl, _, _, c', h, k1, k2.mono fun _ _ => trivial, by simp [updAll_length], k3⟩
          refine .inl ⟨hent, fun c w us hH hv => ?_⟩
          have h : K p.1.v (updAll (hp ++ p.1.news) p.1.upd) = some x := h
          refine (hsound B c hp w args us p.1 p.2 hp.length hH hv hd).mono fun e w' he => ?_
          obtain ⟨v, rfl, he⟩ := he
          obtain ⟨c', k1, k2, k3, _⟩ := he _ (upd_app hH.dl p.1)
          exact ⟨v, rfl, _, _, c', h, k1, k2.mono fun _ _ => trivial, by simp [updAll_length], k3⟩
      | inl fn =>
        simp only at h
        obtain ⟨hent, hfn⟩ := hI f fn hg
        refine .inl ⟨hent, fun c w us hH hv => ?_⟩
        cases hb : fn.body with
        | none => rw [hb] at h; cases h
        | some code =>
          rw [hb] at h
          simp only at h
          refine calls_marks hfn hb ?_
          refine ev_sound hE hm ih (lo := hp.length) (c0 := c) (hp0 := hp) (w0 := w) code ⟨enterT fn args, hp⟩ _ _ _ w c (.inl rfl) h ⟨enterT_rel hv fn, hH⟩ (Evo.refl _ _ _ _) (Nat.le_refl _) trivial ?_
          intro ex S' a' w1' c' hK hS1' hV1' hl' hd'
          have go : ∀ (q : (resA P S' fn.results.toList).runK (lookIn S'.hp) [] (fun vs _ => K (tupOf (tidy vs S'.hp).1) (tidy vs S'.hp).2) = some x) (w' : World), Aft w.heap.size w1' w' → ∃ v, (results fn a'.tmps).run P w' = .ok v w' ∧ ∃ v', Ending.returned v = .returned v' ∧ ∃ av hp' c', K av hp' = some x ∧ HRel B c' hp' w' ∧ Evo (· < hp.length) c hp w c' hp' w' ∧ hp.length ≤ hp'.length ∧ VRel B c' hp' w' av v' := by
            intro q w' haft
            have hS' := hS1'.aft haft
            have hV' := hV1'.aft hH.lt haft
            rw [Rd.runK_eq] at q
            cases hr : (resA P S' fn.results.toList).runO (lookIn S'.hp) [] with
            | none => rw [hr] at q; cases q
            | some p =>
              rw [hr] at q
              obtain ⟨us', r1, r2⟩ := results_rel (fn := fn) hS' hr
              obtain ⟨c2, t1, t2, t3, t4⟩ := tidy_sound p.1 us' S'.hp c' hS'.hp r2
              exact ⟨_, r1, _, rfl, _, _, c2, q, t1, hV'.trans (t2.mono fun _ _ => trivial), Nat.le_trans hl' t4, tup_rel t3⟩
          cases ex with
          | normal => exact leave_marks _ _ hd' (go hK)
          | ret => exact leave_marks _ _ hd' (go hK)
          | exit j => cases hK
end
end Go.Proofs.YtbjanflhagkhlaaDoor.Sk
