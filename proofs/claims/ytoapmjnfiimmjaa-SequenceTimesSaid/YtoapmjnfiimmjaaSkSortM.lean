/- SK: slices.SortFunc, told as an effect. -/
import Derived.Test.YtoapmjnfiimmjaaSkSortK
set_option linter.unusedVariables false
set_option linter.unusedSimpArgs false
namespace Go.Proofs.Ytoapmjnfiimmjaa.Sk
open Go Go.RowKit Go.Sort Go.Proofs

/-- A comparing function that is told: it only reads. -/
def ReadsOk (P : Program) (g : FuncId) (arg : List VT) (fn : denL (arg.map VT.ty) → Option Int) : Prop :=
  ∀ (w : World) (ok : Nat → Prop) (us : List Value) (xs : denL (arg.map VT.ty)) (r : Int), ArgsRel w ok arg xs us → (∀ b, ok b → b < w.heap.size) → GlobsAt (fun b => b < w.heap.size) w → fn xs = some r →
    Calls P g us.toArray w fun e w1 => e = .returned (.int .i64 r) ∧ Grown w w1

theorem evFn_reads {P : Program} {E : Env} (hE : SpecsOk P E) (hI : InlOk P E) (hm : P.follows .mixedOrders = true) (d : Nat) {f : FuncId} {fn : Func} (hf : P.funcs[f]? = some fn) (ali : Bool) (arg : List VT) :
    ReadsOk P f arg (evFn E P d fn ali arg [.val (.cell (.int .i64))]) := by
  intro w ok us xs r ha hok hgl h
  refine (evFn_core hE hI hm hf ha hok hgl h).mono fun e w1 he => ?_
  obtain ⟨us1, c1, hp1, ow, sh, rfl, H1, V1, ⟨u, rfl, _, hu⟩, _⟩ := he
  have hu : [u] = [Value.int .i64 r] := hu
  cases hu
  exact ⟨rfl, fun j hj => V1.keep j hj, V1.size, V1.os, V1.tape, V1.output⟩

theorem enters_run {P : Program} {f : FuncId} (h : Enters P f) : ∀ args w, (callFunc f args).run P w = .ok (.enter f args) w := by
  obtain ⟨fn, h1, h2, h3⟩ := h
  intro args w
  have h2 : fn.name ≠ "runtime.NumGoroutine" := by simpa using h2
  cases hb : fn.body with
  | none => rw [hb] at h3; cases h3
  | some c => simp [callFunc, h1, h2, hb, mark]

section
variable {α : Type}
def ltZ (o : Option Int) : Bool := decide (o.getD 0 < 0)
def sortL (F : α → α → Option Int) (l : List α) : List α := l.mergeSort fun x y => !ltZ (F y x)
def apartL (F : α → α → Option Int) : List α → Bool
  | [] => true
  | x :: r => (r.all fun y => ltZ (F x y) || ltZ (F y x)) && apartL F r
def sortOk (F : α → α → Option Int) (l : List α) : Bool :=
  decide (l.length < 4611686018427387904) && (l.all fun x => l.all fun y => (F x y).isSome) && (l.all fun x => !ltZ (F x x)) && (l.all fun x => l.all fun y => l.all fun z => !(ltZ (F x y) && ltZ (F y z)) || ltZ (F x z)) &&
    (l.all fun x => l.all fun y => l.all fun z => ltZ (F x y) || ltZ (F y z) || !ltZ (F x z)) && apartL F l
theorem apartL_get {F : α → α → Option Int} : ∀ {l : List α}, apartL F l = true → ∀ (i j : Nat) (x y : α), i < j → l[i]? = some x → l[j]? = some y → (ltZ (F x y) || ltZ (F y x)) = true
  | a :: r, h, 0, j + 1, x, y, _, hx, hy => by
    simp only [apartL, Bool.and_eq_true, List.all_eq_true] at h
    simp at hx hy
    subst hx
    exact h.1 y (List.mem_of_getElem? hy)
  | a :: r, h, i + 1, j + 1, x, y, hij, hx, hy => by
    simp only [apartL, Bool.and_eq_true] at h
    exact apartL_get h.2 i j x y (by omega) (by simpa using hx) (by simpa using hy)
  | _, _, _, 0, _, _, h, _, _ => by omega
  | [], _, _, _ + 1, _, _, _, hx, _ => by simp at hx
theorem sort_map (F : α → α → Option Int) (l : List α) (cf : Fin l.length → Fin l.length → Int) (hcf : ∀ i j, ltOf cf i j = ltZ (F (l.get i) (l.get j))) :
    ((List.finRange l.length).mergeSort fun x y => !ltOf cf y x).map l.get = sortL F l := by
  rw [List.map_mergeSort (s := fun x y => !ltZ (F y x)) (fun a _ b _ => by rw [hcf])]
  unfold sortL
  congr 1
  apply List.ext_getElem?
  intro i
  rw [List.getElem?_map]
  by_cases hi : i < l.length
  · rw [List.getElem?_eq_getElem (by simpa using hi), List.getElem?_eq_getElem hi]
    simp
  · rw [List.getElem?_eq_none (by simpa using hi), List.getElem?_eq_none (by simpa using hi)]
    rfl
end

/-- Two elements and what was caught, as a told function's arguments. -/
def app2 (v : VT) : (r : List VT) → (denL ((v :: v :: r).map VT.ty) → Option Int) → v.ty.den → v.ty.den → denL (r.map VT.ty) → Option Int
  | [], f, x, y, _ => f (x, y)
  | _ :: _, f, x, y, c => f (x, (y, c))
def argV : VT → List Value → Value
  | .agg _, l => .agg l.toArray
  | _, l => l.headD (.bool false)
def VT.elem : VT → Prop
  | .agg _ => True
  | .cell t => t.size = 1
  | .box _ => False

theorem app2_args {W : World} {ok : Nat → Prop} {v : VT} {r : List VT} {fn : denL ((v :: v :: r).map VT.ty) → Option Int} {x y : v.ty.den} {cx : denL (r.map VT.ty)} {u1 u2 : Value} {us : List Value}
    (h1 : VTRel W ok v x u1) (h2 : VTRel W ok v y u2) (h3 : ArgsRel W ok r cx us) {z : Int} (h : app2 v r fn x y cx = some z) : ∃ xs, ArgsRel W ok (v :: v :: r) xs (u1 :: u2 :: us) ∧ fn xs = some z := by
  cases r with
  | nil =>
    have h3 : us = [] := h3
    subst h3
    exact ⟨(x, y), ⟨u1, [u2], rfl, h1, u2, rfl, h2⟩, h⟩
  | cons a r => exact ⟨(x, (y, cx)), ⟨u1, u2 :: us, rfl, h1, u2, us, rfl, h2, h3⟩, h⟩

/-- slices.SortFunc by a function that is told. -/
def sortM (e : TypeId) (g : FuncId) (v : VT) (r : List VT) (fn : denL ((v :: v :: r).map VT.ty) → Option Int) (args : List AV) (n : Nat) : Rd Eff :=
  match args with
  | [.own id, .clo g' caps] => cond (Nat.beq g' g) (.rd id fun
    | .rows fr e' t' l => cond (decide (e' = e)) ((Rd.ofO (castL t' v.ty l)).bind fun l => (decArgs r caps).bind fun c =>
        cond (c.own.contains id) .fail (.chk (sortOk (fun x y => app2 v r fn x y c.x) l) (.ret ⟨.tup [], [], [(id, .rows fr e v.ty (sortL (fun x y => app2 v r fn x y c.x) l))]⟩))) .fail
    | _ => .fail) .fail
  | _ => .fail

theorem hrel_updG {B : Nat → Prop} {c : Cx} {hp hp' : List ABlk} {w w' : World} (h : HRel B c hp w) {id : Nat} {b : Nat} (hd : lookIn hp id ≠ .dead) (hs : c.σ id = some b) {blk : ABlk} (hln : hp.length ≤ hp'.length)
    (hle : BlkLe (lookIn hp id) blk) (hnd : blk ≠ .dead) (hl : ∀ j, lookIn hp' j = if j = id then blk else lookIn hp j)
    (hk : ∀ j, j < w.heap.size → j ≠ b → w'.heap[j]? = w.heap[j]?) (hsz : w.heap.size ≤ w'.heap.size)
    (hsh : ∀ (vs : Array Value) (T : TypeId) (fz : Nat × Nat), w.heap[b]? = some (Obj.cells vs T fz) → ∃ vs' : Array Value, w'.heap[b]? = some (Obj.cells vs' T fz) ∧ vs'.size = vs.size)
    (hos : w'.os = w.os) (htp : w'.tape = w.tape) (hou : OutOk w w')
    (hr : Evo All c hp w c hp' w' → BRel B c hp' w' id blk) : HRel B c hp' w' ∧ Evo All c hp w c hp' w' := by
  have hnf := h.nf id b hd hs
  have hlt : ∀ {b : Nat} {o : Obj}, w.heap[b]? = some o → b < w.heap.size := by
    intro b o hw
    rcases Nat.lt_or_ge b w.heap.size with h' | h'
    · exact h'
    · rw [Array.getElem?_eq_none h'] at hw; cases hw
  have he : Evo All c hp w c hp' w' := ⟨fun _ _ h => h, fun _ _ _ => rfl, fun _ h => h, fun j hj => hk j (h.lt j hj) fun e => hnf.1 (e ▸ hj), hsz,
    fun j vs T fz hw => by
      by_cases e : j = b
      · subst e; exact hsh vs T fz hw
      · exact ⟨vs, (hk j (hlt hw) e).trans hw, rfl⟩, fun j _ _ => by
      rw [hl]
      split
      · rename_i e; rw [e]; exact hle
      · exact BlkLe.refl _, hos, htp, hou⟩
  have hlive : ∀ j, lookIn hp' j ≠ .dead → lookIn hp j ≠ .dead := fun j hj => by
    by_cases e : j = id
    · rw [e]; exact hd
    · rw [hl, if_neg e] at hj; exact hj
  refine ⟨⟨fun b hb => h.bs b (Nat.le_trans hsz hb), fun b hb => Nat.lt_of_lt_of_le (h.lt b hb) hsz, fun j hj => Nat.lt_of_lt_of_le (h.dl j hj) hln, fun j hj => h.ld j (hlive j hj), ?_, ?_, ?_, h.gl.keep he.F he.keep⟩, he⟩
  · intro j
    rw [hl]
    split
    · rename_i e; rw [e]; exact hr he
    · rename_i e
      by_cases hdj : lookIn hp j = .dead
      · rw [hdj]; trivial
      · exact (h.blk j).evo he rfl fun q hq => hk q (h.nf j q hdj hq).2.1 fun e' => e (h.inj j id b hdj hd (e' ▸ hq) hs)
  · exact fun i j q h1 h2 s1 s2 => h.inj i j q (hlive i h1) (hlive j h2) s1 s2
  · intro j q hj hq
    have := h.nf j q (hlive j hj) hq
    exact ⟨this.1, Nat.lt_of_lt_of_le this.2.1 hsz, this.2.2⟩

theorem sort_sound {P : Program} {f g : FuncId} {e : TypeId} {v : VT} {r : List VT} {fn : denL ((v :: v :: r).map VT.ty) → Option Int} (hve : v.elem) (hs : SortC P f v.ty.size (argV v))
    (hg : ∀ args w, (callFunc g args).run P w = .ok (.enter g args) w) (hr : ReadsOk P g (v :: v :: r) fn) : MacOk P f (sortM e g v r fn) := by
  intro B c hp w args us ef log n hH hvl hrun
  unfold sortM at hrun
  split at hrun
  · rename_i id g' caps
    obtain ⟨hgg, hr2⟩ := Rd.cond_some hrun
    clear hrun
    have hgg := Nat.eq_of_beq_eq_true hgg
    subst hgg
    change (match lookIn hp id with
      | .rows fr e' t' l => cond (decide (e' = e)) ((Rd.ofO (castL t' v.ty l)).bind fun l => (decArgs r caps).bind fun c =>
          cond (c.own.contains id) Rd.fail (Rd.chk (sortOk (fun x y => app2 v r fn x y c.x) l) (Rd.ret (Eff.mk (.tup []) [] [(id, .rows fr e v.ty (sortL (fun x y => app2 v r fn x y c.x) l))])))) Rd.fail
      | _ => Rd.fail).runO (lookIn hp) (id :: []) = some (ef, log) at hr2
    split at hr2
    case h_2 => cases hr2
    rename_i fr e' t' l0 hl
    obtain ⟨he, hr3⟩ := Rd.cond_some hr2
    clear hr2
    have he := of_decide_eq_true he
    subst he
    obtain ⟨l, g2, h4, hr4⟩ := Rd.bind_some hr3
    obtain ⟨h6, _⟩ := Rd.ofO_some h4
    obtain ⟨d, g3, hd, hrun⟩ := Rd.bind_some hr4
    clear hr3 hr4
    simp only at h6 hd hrun
    obtain ⟨e5, h7⟩ := castL_some h6
    subst e5
    have h7 : l0 = l := h7
    clear h6 h4
    subst h7
    obtain ⟨l, hll0⟩ : ∃ l, l = l0 := ⟨_, rfl⟩
    subst hll0
    cases hcon : d.own.contains id with
    | true => rw [hcon] at hrun; cases hrun
    | false =>
      rw [hcon, cond_false] at hrun
      obtain ⟨hok, hrun⟩ := Rd.chk_some hrun
      cases hrun
      generalize hF : (fun x y => app2 v r fn x y d.x) = F at hok ⊢
      have hFe : ∀ x y, app2 v r fn x y d.x = F x y := fun x y => by rw [← hF]
      obtain ⟨u0, u1, rfl⟩ : ∃ u0 u1, us = [u0, u1] := by
        match us, hvl.length with
        | [a, b], _ => exact ⟨a, b, rfl⟩
      obtain ⟨⟨hD, hv0⟩, ⟨cb, rfl, hcaps⟩, _⟩ := hvl
      obtain ⟨ha, hlive⟩ := args_dec hH r hcaps hd
      have hb := hH.blk id
      rw [hl] at hb
      obtain ⟨h0, hb⟩ := hb
      have hlv : lookIn hp id ≠ .dead := by rw [hl]; simp
      have look : ∀ L hp', Upd c hp n ⟨.tup [], [], [(id, .rows fr e' v.ty L)]⟩ hp' → ∀ j, lookIn hp' j = if j = id then .rows fr e' v.ty L else lookIn hp j := by
        intro L hp' hu j
        have := hu.look j
        simp only [List.lookup_cons, List.lookup_nil, List.length_nil, Nat.add_zero] at this
        rw [this]
        have hidl : id < hp'.length := Nat.lt_of_lt_of_le (lookIn_live hlv) hu.len
        by_cases e : j = id
        · subst e; simp [hidl]
        · have hf : (j == id) = false := by simpa using e
          simp only [hf, if_neg e]
          rw [if_neg (by omega)]
      have none' : l = [] → ∀ p cap, u0 = .slice p 0 cap → Calls P f [u0, .func (.func g') #[] cb].toArray w fun x w' => ∃ u, x = .returned u ∧ EffOk B c hp w n ⟨.tup [], [], [(id, .rows fr e' v.ty (sortL F l))]⟩ u w' := by
        intro hl0 p cap hu0
        subst hu0 hl0
        refine (hs.nil p cap _ w).mono fun x w' hx => ?_
        obtain ⟨rfl, rfl⟩ := hx
        refine ⟨_, rfl, fun hp' hu => ?_⟩
        have hlk := look _ hp' hu
        have hlk' : ∀ j, lookIn hp' j = lookIn hp j := fun j => by
          rw [hlk]; split
          · rename_i e; rw [e, hl]; simp [sortL]
          · rfl
        exact ⟨c, hrel_look hH hu.len hlk', evo_look hlk', ⟨#[], rfl, trivial⟩, fun _ h => .inl h⟩
      unfold OwnV at hv0
      cases hσ : c.σ id with
      | none =>
        rw [hσ] at hb hv0
        exact none' hb none 0 hv0
      | some b =>
        rw [hσ] at hb hv0
        obtain ⟨cap, cur, hw, hc0, hcm, hcs, hrow⟩ := hb
        obtain ⟨k0, cap', rfl, hv0⟩ := hv0
        obtain ⟨rfl, _⟩ := hv0 _ _ _ _ hl
        by_cases hl0 : l = []
        · exact none' hl0 (some ⟨b, 0, none⟩) cap' (by rw [hl0]; rfl)
        · have hn : 0 < l.length := List.length_pos_iff.2 hl0
          have hnf := hH.nf id b hlv hσ
          unfold sortOk at hok
          simp only [Bool.and_eq_true, List.all_eq_true, decide_eq_true_eq] at hok
          obtain ⟨⟨⟨⟨⟨hlmax, hsome⟩, hirr⟩, htr⟩, hntr⟩, hap⟩ := hok
          have hlm : ∀ i : Fin l.length, l.get i ∈ l := fun i => List.get_mem l i
          obtain ⟨row, hrowd⟩ : ∃ row : Fin l.length → List Value, row = fun i => (cur.toList.drop (i.val * v.ty.size)).take v.ty.size := ⟨_, rfl⟩
          have hrowe : ∀ i : Fin l.length, (cur.toList.drop (i.val * v.ty.size)).take v.ty.size = row i := fun i => by rw [hrowd]
          have hget : ∀ i : Fin l.length, l[i.val]? = some (l.get i) := fun i => by simp
          have hcr : ∀ i : Fin l.length, CRel w (okF B c fr) v.ty (l.get i) (row i) := fun i => by rw [← hrowe]; exact hrow i.val _ (hget i)
          obtain ⟨cf, hcfd⟩ : ∃ cf : Fin l.length → Fin l.length → Int, cf = fun i j => (F (l.get i) (l.get j)).getD 0 := ⟨_, rfl⟩
          have hcf : ∀ i j, ltOf cf i j = ltZ (F (l.get i) (l.get j)) := fun i j => by rw [hcfd]; rfl
          have hcfv : ∀ i j, F (l.get i) (l.get j) = some (cf i j) := fun i j => by
            have := hsome _ (hlm i) _ (hlm j)
            rw [hcfd]
            cases hq : F (l.get i) (l.get j) with
            | none => rw [hq] at this; cases this
            | some z => show some z = some ((F (l.get i) (l.get j)).getD 0); rw [hq]; rfl
          have hO : SWO (ltOf cf) := by
            refine ⟨fun x => ?_, fun x y z h1 h2 => ?_, fun x y z h1 h2 => ?_⟩
            · rw [hcf]; simpa using hirr _ (hlm x)
            · rw [hcf] at h1 h2 ⊢
              have := htr _ (hlm x) _ (hlm y) _ (hlm z)
              rw [h1, h2] at this; simpa using this
            · rw [hcf] at h1 h2 ⊢
              have := hntr _ (hlm x) _ (hlm y) _ (hlm z)
              rw [h1, h2] at this; simpa using this
          have hT : ∀ x y, ltOf cf x y = false → ltOf cf y x = false → x = y := by
            intro x y h1 h2
            rw [hcf] at h1 h2
            rcases Nat.lt_trichotomy x.val y.val with h | h | h
            · have := apartL_get hap x.val y.val _ _ h (hget x) (hget y)
              rw [h1, h2] at this; cases this
            · exact Fin.ext h
            · have := apartL_get hap y.val x.val _ _ h (hget y) (hget x)
              rw [h1, h2] at this; cases this
          have hvt : ∀ (W : World), Wide b w W → ∀ i, VTRel W (fun j => j < w.heap.size ∧ j ≠ b) v (l.get i) (argV v (row i)) := by
            intro W hW i
            have h1 : CRel W (fun j => j < w.heap.size ∧ j ≠ b) v.ty (l.get i) (row i) :=
              CRel.mono (fun j hj => hW.1 j (hH.lt j hj.1) fun e => hnf.1 (e ▸ hj.1)) (fun j hj => ⟨hH.lt j hj.1, fun e => hnf.1 (e ▸ hj.1)⟩) _ _ _ (hcr i)
            clear hH
            cases v with
            | agg t => exact ⟨(row i).toArray, rfl, h1⟩
            | cell t =>
              have hlen := CRel.length _ _ _ h1
              have hve : t.size = 1 := hve
              have hlen : (row i).length = 1 := hlen.trans hve
              match hq : row i, hlen with
              | [u], _ => rw [hq] at h1; exact h1
            | box t => exact hve.elim
          have hca : ∀ (W : World), Wide b w W → ArgsRel W (fun j => j < w.heap.size ∧ j ≠ b) r d.x cb.toList := by
            intro W hW
            have hokd : ∀ j, okD B c d.fr d.own j → j < w.heap.size ∧ j ≠ b := by
              rintro j (hj | ⟨id2, h1, h2⟩)
              · exact ⟨hH.lt j hj.1, fun e => hnf.1 (e ▸ hj.1)⟩
              · refine ⟨(hH.nf id2 j (hlive id2 h1) h2).2.1, fun e => ?_⟩
                subst e
                have := hH.inj id2 id j (hlive id2 h1) hlv h2 hσ
                subst this
                have : d.own.contains id2 = true := by simpa using h1
                rw [this] at hcon; cases hcon
            exact ArgsRel.mono (fun j hj => hW.1 j (hokd j hj).1 (hokd j hj).2) hokd _ _ _ ha
          have hcmp : ∀ W, Wide b w W → ∀ x y, Calls P g' (#[argV v (row x), argV v (row y)] ++ cb) W fun e w' => e = .returned (.int .i64 (cf x y)) ∧ Grown W w' := by
            intro W hW x y
            obtain ⟨xs, hxs, hfn⟩ := app2_args (fn := fn) (hvt W hW x) (hvt W hW y) (hca W hW) ((hFe _ _).trans (hcfv x y))
            have := hr W _ _ xs _ hxs (fun j hj => Nat.lt_of_lt_of_le hj.1 hW.2.1) (hH.gl.keep (fun j hj => Nat.lt_of_lt_of_le (hH.lt j hj) hW.2.1) fun j hj => hW.1 j (hH.lt j hj) fun e => hnf.1 (e ▸ hj)) hfn
            have e1 : (argV v (row x) :: argV v (row y) :: cb.toList).toArray = #[argV v (row x), argV v (row y)] ++ cb := by
              apply Array.ext'
              simp
            rw [← e1]
            exact this
          have hone : ∀ i, ∀ u ∈ row i, u.oneCell' = true := fun i => CRel.one _ _ _ (hcr i)
          have hlen : ∀ i, (row i).length = v.ty.size := fun i => CRel.length _ _ _ (hcr i)
          refine (hs.run l.length row cf g' cb b cap' w cur e' hn hlen hone hO hT hw hrowe hlmax hg hcmp).mono fun x w' hx => ?_
          obtain ⟨rfl, hW, cur', hw', hcs', hrow'⟩ := hx
          refine ⟨_, rfl, fun hp' hu => ?_⟩
          have hlk := look _ hp' hu
          have hll : (sortL F l).length = l.length := by unfold sortL; rw [List.length_mergeSort]
          obtain ⟨k1, k2⟩ := hrel_updG (w' := w') (hp' := hp') hH hlv hσ (blk := .rows fr e' v.ty (sortL F l)) hu.len (by rw [hl]; exact ⟨rfl, rfl, hll.symm⟩) (by simp) hlk
            hW.1 hW.2.1 (fun vs T fz hq => by rw [hw] at hq; cases hq; exact ⟨cur', hw', hcs'⟩) hW.2.2.1 hW.2.2.2.1 hW.2.2.2.2
            (fun hE => by
              refine ⟨h0, ?_⟩
              rw [hσ]
              refine ⟨cap, cur', hw', by rw [hll]; exact hc0, hcm, by rw [hcs']; exact hcs, fun i x hx => ?_⟩
              rw [← sort_map F l cf hcf, List.getElem?_map, Option.map_eq_some_iff] at hx
              obtain ⟨q, hq, rfl⟩ := hx
              rw [hrow' i q hq]
              exact CRel.mono (fun j hj => hW.1 j (hH.lt j hj.1) fun e => hnf.1 (e ▸ hj.1)) (fun _ h => h) _ _ _ (hcr q))
          exact ⟨c, k1, k2, ⟨#[], rfl, trivial⟩, fun _ h => .inl h⟩
  · cases hrun
end Go.Proofs.Ytoapmjnfiimmjaa.Sk
