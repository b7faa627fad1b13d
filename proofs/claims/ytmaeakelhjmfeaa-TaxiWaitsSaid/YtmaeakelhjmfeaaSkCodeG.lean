/- SK, part 18: code. -/
import Derived.Test.YtmaeakelhjmfeaaSkCodeF
import Derived.LoopN
set_option linter.unusedVariables false
set_option linter.unusedSimpArgs false
namespace Go.Proofs.Ytmaeakelhjmfeaa.Sk
open Go Go.RowKit

def exOf : Ex → Exit
  | .normal => .normal
  | .exit id => .exit id
  | .ret => .ret

section
variable {B : Nat → Prop} {P : Program} {R : Type}

def Good (B : Nat → Prop) (lo : Nat) (c0 : Cx) (hp0 : List ABlk) (w0 : World) (K : Ex → St → Option R) (x : R) (Q : Exit → Act → World → Prop) : Prop :=
  ∀ ex S' a' w' c', K ex S' = some x → SRel B c' S' a' w' → Evo (· < lo) c0 hp0 w0 c' S'.hp w' → lo ≤ S'.hp.length → Q (exOf ex) a' w'

theorem cond_bool {c : Cx} {S : St} {a : Act} {w : World} (hS : SRel B c S a w) {x : Operand} {b : Bool} (hn : ∀ q, q ∈ needOf (S.ev x) → q = true) (h : S.evs x = .sc (.bool b)) : a.eval x = .bool b := by
  have := strip_rel hn (srel_ev hS x)
  have h : strip (S.ev x) = .sc (.bool b) := h
  rw [h] at this
  exact this

theorem ev_sound {E : Env} (hE : SpecsOk P E) (hm : P.follows .mixedOrders = true) {call : CallK R} (hc : CallOk B P call) {lo : Nat} {c0 : Cx} {hp0 : List ABlk} {w0 : World} {x : R} :
    ∀ (code : Code) (S : St) (K : Ex → St → Option R) (Q : Exit → Act → World → Prop) (a : Act) (w : World) (c : Cx), ev E P call lo code S K = some x → SRel B c S a w → Evo (· < lo) c0 hp0 w0 c S.hp w →
      lo ≤ S.hp.length → Good B lo c0 hp0 w0 K x Q → code.wp P Q a w
  | .skip, S, K, Q, a, w, c, h, hS, hV, hl, hG => wp_skip (hG .normal S a w c h hS hV hl)
  | .label _, S, K, Q, a, w, c, h, hS, hV, hl, hG => wp_label (hG .normal S a w c h hS hV hl)
  | .exit id, S, K, Q, a, w, c, h, hS, hV, hl, hG => wp_exit (hG (.exit id) S a w c h hS hV hl)
  | .ret, S, K, Q, a, w, c, h, hS, hV, hl, hG => wp_ret (hG .ret S a w c h hS hV hl)
  | .seq p q, S, K, Q, a, w, c, h, hS, hV, hl, hG => by
    refine wp_seq (ev_sound hE hm hc p S _ _ a w c h hS hV hl ?_)
    intro ex S' a' w' c' hK hS' hV' hl'
    cases ex with
    | normal => exact ev_sound hE hm hc q S' K Q a' w' c' hK hS' hV' hl' hG
    | exit j => exact hG (.exit j) S' a' w' c' hK hS' hV' hl'
    | ret => exact hG .ret S' a' w' c' hK hS' hV' hl'
  | .cond o p q, S, K, Q, a, w, c, h, hS, hV, hl, hG => by
    unfold ev at h
    split at h
    · rename_i b hb
      obtain ⟨hn, h⟩ := chkAll_some h
      cases b with
      | true => exact wp_cond_true (cond_bool hS hn hb) (ev_sound hE hm hc p S K Q a w c h hS hV hl hG)
      | false => exact wp_cond_false (cond_bool hS hn hb) (ev_sound hE hm hc q S K Q a w c h hS hV hl hG)
    · cases h
  | .block id p, S, K, Q, a, w, c, h, hS, hV, hl, hG => by
    refine wp_block (ev_sound hE hm hc p S _ _ a w c h hS hV hl ?_)
    intro ex S' a' w' c' hK hS' hV' hl'
    cases ex with
    | normal => exact hG .normal S' a' w' c' hK hS' hV' hl'
    | exit j =>
      show if j = id then _ else _
      have hK : cond (Nat.beq j id) (K .normal S') (K (.exit j) S') = some x := hK
      by_cases e : j = id
      · rw [if_pos e]
        have : Nat.beq j id = true := by rw [e]; exact Nat.beq_refl id
        rw [this] at hK
        exact hG .normal S' a' w' c' hK hS' hV' hl'
      · rw [if_neg e]
        have : Nat.beq j id = false := by
          cases hb : Nat.beq j id with
          | false => rfl
          | true => exact absurd (Nat.eq_of_beq_eq_true hb) e
        rw [this] at hK
        exact hG (.exit j) S' a' w' c' hK hS' hV' hl'
    | ret => exact hG .ret S' a' w' c' hK hS' hV' hl'
  | .loop p, S, K, Q, a, w, c, h, hS, hV, hl, hG => by
    have key : ∀ (k : Nat) (S : St) (a : Act) (w : World) (c : Cx), loopN (norm (E.keep (keyOf p)) lo) (ev E P call lo p) k S K = some x → SRel B c S a w → Evo (· < lo) c0 hp0 w0 c S.hp w → lo ≤ S.hp.length → Code.rounds P p Q k a w := by
      intro k
      induction k with
      | zero => intro S a w c h; cases h
      | succ k ih =>
        intro S a w c h hS hV hl
        refine ev_sound hE hm hc p S _ _ a w c h hS hV hl ?_
        intro ex S' a' w' c' hK hS' hV' hl'
        cases ex with
        | normal =>
          obtain ⟨c2, h1, h2, h3⟩ := norm_sound (E.keep (keyOf p)) hS' hl'
          exact ih _ a' w' c2 hK h1 (hV'.trans h2) h3
        | exit j => exact hG (.exit j) S' a' w' c' hK hS' hV' hl'
        | ret => exact hG .ret S' a' w' c' hK hS' hV' hl'
    obtain ⟨c2, h1, h2, h3⟩ := norm_sound (E.keep (keyOf p)) hS hl
    exact wp_loop_rounds E.N (key E.N _ a w c2 h h1 (hV.trans h2) h3)
  | .region id ops draw, S, K, Q, a, w, c, h, hS, hV, hl, hG => by
    have h : joinR E lo S (fun S => region E P call ops.toList draw S fun S' => K .normal S') (E.keep (1000000 + id)) = some x := h
    obtain ⟨S, c, h, hS, hV, hl⟩ : ∃ S1 c1, region E P call ops.toList draw S1 (fun S' => K .normal S') = some x ∧ SRel B c1 S1 a w ∧ Evo (· < lo) c0 hp0 w0 c1 S1.hp w ∧ lo ≤ S1.hp.length := by
      generalize E.keep (1000000 + id) = ks at h
      cases ks with
      | nil => exact ⟨S, c, h, hS, hV, hl⟩
      | cons k ks =>
        obtain ⟨c2, h1, h2, h3⟩ := norm_sound (k :: ks) hS hl
        exact ⟨_, c2, fuelK_some h, h1, hV.trans h2, h3⟩
    have hQ : ∀ S' a' w' c', K .normal S' = some x → SRel B c' S' a' w' → Evo (· < S.hp.length) c S.hp w c' S'.hp w' → S.hp.length ≤ S'.hp.length → Q .normal a' w' :=
      fun S' a' w' c' hK hS' hV' hl' => hG .normal S' a' w' c' hK hS' (hV.trans (hV'.mono fun id hid => Nat.lt_of_lt_of_le hid hl)) (Nat.le_trans hl hl')
    cases draw with
    | false => exact region_seq_sound hc hE h hS hQ
    | true => exact region_draw_sound hE hm h hS hQ
  | .rangeFunc _ _ _ _, S, K, Q, a, w, c, h, hS, hV, hl, hG => by cases h
  | .scope _, S, K, Q, a, w, c, h, hS, hV, hl, hG => by cases h
  | .goto _, S, K, Q, a, w, c, h, hS, hV, hl, hG => by cases h
  | .refuse _, S, K, Q, a, w, c, h, hS, hV, hl, hG => by cases h

/-! ### a function's results -/
def tupV (us : List Value) : Value := match us with | [u] => u | us => .tuple us.toArray

theorem tup_rel {c : Cx} {hp : List ABlk} {w : World} : ∀ {as : List AV} {us : List Value}, VRelL B c hp w as us → VRel B c hp w (tupOf as) (tupV us)
  | [], [], _ => ⟨#[], rfl, trivial⟩
  | [a], [u], h => h.1
  | a :: b :: as, u :: v :: us, h => ⟨(u :: v :: us).toArray, rfl, h⟩
  | [], _ :: _, h => by simp [VRelL] at h
  | _ :: _, [], h => by simp [VRelL] at h
  | [_], _ :: _ :: _, h => by simp [VRelL] at h
  | _ :: _ :: _, [_], h => by simp [VRelL] at h

def resF (tmps : Array Value) : ResultVar → Sem Value
  | .tmp t => pure (tmps.getD t undef)
  | .cell b t => do loadVar t (← asAddr (tmps.getD b undef))
theorem results_eq (fn : Func) (tmps : Array Value) : results fn tmps = (do let vs ← fn.results.mapM (resF tmps); pure (if h : vs.size = 1 then vs[0] else .tuple vs)) := by
  unfold results
  congr 2

theorem mapM_rel {c : Cx} {S : St} {a : Act} {w : World} (hS : SRel B c S a w) : ∀ (l : List ResultVar) (g : List Nat) (vs : List AV) (g' : List Nat), (resA P S l).runO (lookIn S.hp) g = some (vs, g') →
    ∃ us, (l.mapM (m := Sem) (resF a.tmps)).run P w = .ok us w ∧ VRelL B c S.hp w vs us
  | [], g, vs, g', h => by cases h; exact ⟨[], by simp, trivial⟩
  | .tmp t :: l, g, vs, g', h => by
    unfold resA at h
    obtain ⟨r, g1, h1, h2⟩ := Rd.bind_some h
    cases h2
    obtain ⟨us, k1, k2⟩ := mapM_rel hS l g r _ h1
    exact ⟨a.tmps.getD t undef :: us, by rw [List.mapM_cons]; simp only [Sem.run_bind, k1, resF, Sem.run_pure, Result.andThen], srel_ev hS (.tmp t), k2⟩
  | .cell b t :: l, g, vs, g', h => by
    unfold resA at h
    obtain ⟨v, g1, h1, h2⟩ := Rd.bind_some h
    obtain ⟨r, g2, h3, h4⟩ := Rd.bind_some h2
    cases h4
    obtain ⟨us, k1, k2⟩ := mapM_rel hS l _ r _ h3
    unfold loadA at h1
    split at h1
    · rename_i id off hv
      have hp := srel_ev hS (.tmp b)
      rw [hv] at hp
      obtain ⟨_, bb, hs, hu⟩ := hp
      have hu : a.tmps.getD b undef = .pointer (some ⟨bb, off, none⟩) := hu
      simp only [Rd.runO] at h1
      split at h1
      · rename_i cs T hl
        have hb := hS.hp.blk id
        rw [hl] at hb
        obtain ⟨b', ls, hs', hw, hr⟩ := hb
        rw [hs] at hs'; cases hs'
        obtain ⟨u, q1, q2⟩ := load_part (o := 0) hw (by intro j v hj; rw [Nat.zero_add]; simpa using hj) hr h1
        rw [Nat.zero_add] at q1
        refine ⟨u :: us, ?_, q2, k2⟩
        rw [List.mapM_cons]
        simp only [resF, hu, asAddr, pure_bind, Sem.run_bind, q1, k1, Sem.run_pure, Result.andThen]
      · cases h1
    · cases h1

theorem results_rel {c : Cx} {S : St} {a : Act} {w : World} (hS : SRel B c S a w) {fn : Func} {g : List Nat} {vs : List AV} {g' : List Nat} (h : (resA P S fn.results.toList).runO (lookIn S.hp) g = some (vs, g')) :
    ∃ us, (results fn a.tmps).run P w = .ok (tupV us) w ∧ VRelL B c S.hp w vs us := by
  obtain ⟨us, h1, h2⟩ := mapM_rel hS _ _ _ _ h
  refine ⟨us, ?_, h2⟩
  rw [results_eq, Array.mapM_eq_mapM_toList]
  simp only [Sem.run_bind, map_eq_pure_bind, bind_assoc, pure_bind, h1, Result.andThen]
  match us with
  | [] => simp [tupV]
  | [u] => simp [tupV]
  | u :: v :: us => simp [tupV]

theorem enterT_rel {c : Cx} {hp : List ABlk} {w : World} {args : List AV} {us : List Value} (h : VRelL B c hp w args us) (fn : Func) :
    VRelL B c hp w (enterT fn args) ((us.toArray ++ Array.replicate (fn.ntmps - us.toArray.size) undef).toList) := by
  have e : (us.toArray ++ Array.replicate (fn.ntmps - us.toArray.size) undef).toList = us ++ List.replicate (fn.ntmps - us.length) undef := by simp
  rw [e]
  unfold enterT
  rw [h.length]
  refine h.append ?_
  generalize fn.ntmps - us.length = k
  induction k with
  | zero => trivial
  | succ k ih => exact ⟨trivial, ih⟩

theorem tidy_sound {w : World} : ∀ (as : List AV) (us : List Value) (hp : List ABlk) (c : Cx), HRel B c hp w → VRelL B c hp w as us →
    ∃ c', HRel B c' (tidy as hp).2 w ∧ Evo All c hp w c' (tidy as hp).2 w ∧ VRelL B c' (tidy as hp).2 w (tidy as hp).1 us ∧ hp.length ≤ (tidy as hp).2.length
  | [], us, hp, c, hH, hv => ⟨c, hH, Evo.refl _ _ _ _, hv, Nat.le_refl _⟩
  | v :: r, [], hp, c, hH, hv => by simp [VRelL] at hv
  | v :: r, u :: us, hp, c, hH, hv => by
    have plain : ∃ c', HRel B c' (tidy r hp).2 w ∧ Evo All c hp w c' (tidy r hp).2 w ∧ VRelL B c' (tidy r hp).2 w (v :: (tidy r hp).1) (u :: us) ∧ hp.length ≤ (tidy r hp).2.length := by
      obtain ⟨c', h1, h2, h3, h4⟩ := tidy_sound r us hp c hH hv.2
      exact ⟨c', h1, h2, ⟨VRel.evo hv.1 h2, h3⟩, h4⟩
    unfold tidy
    split
    · rename_i id n
      split
      · rename_i fr T t l hl
        have hlive : lookIn hp id ≠ .dead := by rw [hl]; simp
        have hidl := lookIn_live hlive
        have hnD : ¬ c.D hp.length := fun h => by have := hH.dl _ h; omega
        have hq : ∀ j, lookIn ((hp ++ [ABlk.rows fr T t (l.take n)]).set id .dead) j = if j = hp.length then .rows fr T t (l.take n) else if j = id then .dead else lookIn hp j := by
          intro j
          rw [lookIn_set, lookIn_append]
          by_cases e : id = j
          · subst e
            rw [if_pos ⟨rfl, by simp; omega⟩, if_neg (by omega), if_pos rfl]
          · rw [if_neg (by simp [e])]
            by_cases e2 : j = hp.length
            · subst e2; simp
            · rw [if_neg e2, if_neg (show ¬ j = id from fun h => e h.symm)]
              split
              · rename_i hle
                rw [List.getElem?_eq_none (by simp; omega)]
                unfold lookIn
                rw [List.getElem?_eq_none hle]
              · rfl
        have hbl := hH.blk id
        rw [hl] at hbl
        obtain ⟨h0, hbl⟩ := hbl
        have hvu := hv.1.2
        unfold SubV at hvu
        obtain ⟨c1, k1, k2, k3, k4, k5, k6⟩ := hrel_move (w' := w) (hp' := (hp ++ [ABlk.rows fr T t (l.take n)]).set id .dead) hH hnD (by simp) (by simp) hlive hq (s := c.σ id)
          (fun _ _ _ => rfl) (Nat.le_refl _) (fun b vs T fz _ h => ⟨vs, h, rfl⟩) rfl rfl ⟨rfl, Nat.le_refl _⟩ (fun b h => .inl h)
          (fun c' hcs hcF he => by
            refine ⟨h0, ?_⟩
            rw [hcs]
            cases hs : c.σ id with
            | none => rw [hs] at hbl; simp only at hbl ⊢; subst hbl; simp
            | some b =>
              rw [hs] at hbl
              obtain ⟨cap, cur, q1, q2, q3, q4, q5⟩ := hbl
              exact ⟨cap, cur, q1, by simp; omega, q3, q4, fun i x hx => by
                rw [List.getElem?_take] at hx
                split at hx
                · exact CRel.mono (fun b hb => rfl) (fun b hb => ⟨by rw [hcF]; exact hb.1, hb.2⟩) t x _ (q5 i x hx)
                · cases hx⟩)
        have hown : VRel B c1 ((hp ++ [ABlk.rows fr T t (l.take n)]).set id .dead) w (.own hp.length) u := by
          refine ⟨k3, ?_⟩
          unfold OwnV
          rw [k4]
          cases hs : c.σ id with
          | none => rw [hs] at hvu; exact hvu.1
          | some b =>
            rw [hs] at hvu
            obtain ⟨a, q, rfl, hr⟩ := hvu
            obtain ⟨cap, cur, r1, r2, r3, r4, r5, r6, r7⟩ := hr _ _ _ _ hl
            refine ⟨n, q, by rw [r5 (.inr rfl)]; simp, fun fr' T' t' l' hl' => ?_⟩
            rw [hq, if_pos rfl] at hl'
            cases hl'
            exact ⟨by simp; omega, by omega, by omega, cur, r6, by rw [r7, r1]; rfl⟩
        obtain ⟨c', h1, h2, h3, h4⟩ := tidy_sound r us _ c1 k1 (VRelL.evo hv.2 k2)
        exact ⟨c', h1, k2.trans h2, ⟨VRel.evo hown h2, h3⟩, by simp at h4; simp only; omega⟩
      · exact plain
    · exact plain

def InlOk (P : Program) (E : Env) : Prop := ∀ f fn, E.G f = some (.inl fn) → Enters P f ∧ P.funcs[f]? = some fn

theorem evo_of_eff {B : Nat → Prop} {c : Cx} {hp : List ABlk} {w w' : World} {e : Eff} {u : Value} (hH : HRel B c hp w) (h : EffOk B c hp w hp.length e u w') (hup : e.upd = []) :
    ∃ c', HRel B c' (hp ++ e.news) w' ∧ Evo All c hp w c' (hp ++ e.news) w' ∧ VRel B c' (hp ++ e.news) w' e.v u := by
  have := upd_app hH.dl e
  rw [hup] at this
  obtain ⟨c', h1, h2, h3, _⟩ := h _ this
  exact ⟨c', h1, h2, h3⟩

theorem callD_sound {E : Env} (hE : SpecsOk P E) (hI : InlOk P E) (hm : P.follows .mixedOrders = true) : ∀ (d : Nat), CallOk (R := R) B P (callD E P d)
  | 0, f, args, hp, K, x, h => by cases h
  | d + 1, f, args, hp, K, x, h => by
    have ih := callD_sound hE hI hm d
    unfold callD at h
    simp only at h
    cases hg : E.G f with
    | none => rw [hg] at h; cases h
    | some sp =>
      rw [hg] at h
      cases sp with
      | pure s =>
        obtain ⟨hent, hsound⟩ := hE.pure f s hg
        refine ⟨hent, fun c w us hH hv => ?_⟩
        simp only [Rd.runK_eq] at h
        cases hd : (decArgs s.arg args).runO (lookIn hp) [] with
        | none => rw [hd] at h; cases h
        | some p =>
          rw [hd] at h
          simp only [Option.bind_some] at h
          cases hcn : (s.ali && !p.1.own.isEmpty) with
          | true => rw [hcn] at h; cases h
          | false =>
            rw [hcn] at h
            simp only [cond_false] at h
            cases hf : s.fn p.1.x with
            | none => rw [hf] at h; cases h
            | some r =>
              rw [hf] at h
              have h : K (resEff s p.1.fr hp.length r).v (hp ++ (resEff s p.1.fr hp.length r).news) = some x := h
              refine (hsound B c hp w args us p r hp.length hH hv hd hcn hf).mono fun e w' he => ?_
              obtain ⟨v, rfl, he⟩ := he
              obtain ⟨c', k1, k2, k3⟩ := evo_of_eff hH he rfl
              exact ⟨v, rfl, _, _, c', h, k1, k2.mono fun _ _ => trivial, by simp, k3⟩
      | mac m =>
        simp only at h
        obtain ⟨hent, hsound⟩ := hE.mac f m hg
        refine ⟨hent, fun c w us hH hv => ?_⟩
        rw [Rd.runK_eq] at h
        cases hd : (m args hp.length).runO (lookIn hp) [] with
        | none => rw [hd] at h; cases h
        | some p =>
          rw [hd] at h
          have h : K p.1.v (updAll (hp ++ p.1.news) p.1.upd) = some x := h
          refine (hsound B c hp w args us p.1 p.2 hp.length hH hv hd).mono fun e w' he => ?_
          obtain ⟨v, rfl, he⟩ := he
          obtain ⟨c', k1, k2, k3, _⟩ := he _ (upd_app hH.dl p.1)
          exact ⟨v, rfl, _, _, c', h, k1, k2.mono fun _ _ => trivial, by simp [updAll_length], k3⟩
      | inl fn =>
        simp only at h
        obtain ⟨hent, hfn⟩ := hI f fn hg
        refine ⟨hent, fun c w us hH hv => ?_⟩
        cases hb : fn.body with
        | none => rw [hb] at h; cases h
        | some code =>
          rw [hb] at h
          simp only at h
          refine calls_of_wp hfn hb ?_
          refine ev_sound hE hm ih (lo := hp.length) (c0 := c) (hp0 := hp) (w0 := w) code ⟨enterT fn args, hp⟩ _ _ _ w c h ⟨rfl, enterT_rel hv fn, hH⟩ (Evo.refl _ _ _ _) (Nat.le_refl _) ?_
          intro ex S' a' w' c' hK hS' hV' hl'
          have go : ∀ (q : (resA P S' fn.results.toList).runK (lookIn S'.hp) [] (fun vs _ => K (tupOf (tidy vs S'.hp).1) (tidy vs S'.hp).2) = some x), a'.defers = [] ∧ ∃ v, (results fn a'.tmps).run P w' = .ok v w' ∧ ∃ v', Ending.returned v = .returned v' ∧ ∃ av hp' c', K av hp' = some x ∧ HRel B c' hp' w' ∧ Evo (· < hp.length) c hp w c' hp' w' ∧ hp.length ≤ hp'.length ∧ VRel B c' hp' w' av v' := by
            intro q
            rw [Rd.runK_eq] at q
            cases hr : (resA P S' fn.results.toList).runO (lookIn S'.hp) [] with
            | none => rw [hr] at q; cases q
            | some p =>
              rw [hr] at q
              obtain ⟨us', r1, r2⟩ := results_rel (fn := fn) hS' hr
              obtain ⟨c2, t1, t2, t3, t4⟩ := tidy_sound p.1 us' S'.hp c' hS'.hp r2
              exact ⟨hS'.dfr, _, r1, _, rfl, _, _, c2, q, t1, hV'.trans (t2.mono fun _ _ => trivial), Nat.le_trans hl' t4, tup_rel t3⟩
          cases ex with
          | normal => exact go hK
          | ret => exact go hK
          | exit j => cases hK
end
end Go.Proofs.Ytmaeakelhjmfeaa.Sk
