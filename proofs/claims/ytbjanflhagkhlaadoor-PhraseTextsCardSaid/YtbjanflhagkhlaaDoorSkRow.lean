/- SK, part 22: from what a function answers to a claim's row. -/
import Derived.Test.YtbjanflhagkhlaaDoorSkOpen
import Derived.WalkKit
import Derived.ProofKit
import Derived.ShutString
import Derived.ChangeOld
import Derived.LaidMore
import Derived.Stop.Joined
set_option linter.unusedVariables false
set_option linter.unusedSimpArgs false
namespace Go.Proofs.YtbjanflhagkhlaaDoor.Sk
open Go Go.RowKit Go.WideShapes Go.ChangeShapes

def vtB (P : Program) : VT → TypeId → Bool
  | .cell T, t => tyB P T t && (match P.underlying t with | some (.struct _) | some (.array _ _) => false | _ => true)
  | .agg T, t => tyB P T t && (match P.underlying t with | some (.struct _) | some (.array _ _) => true | _ => false)
  | .box _, _ => false
def vtsB (P : Program) : List VT → List TypeId → Bool
  | [], [] => true
  | v :: r, t :: ts => vtB P v t && P.readableRec t && decide (t < P.types.size) && vtsB P r ts
  | _, _ => false
def WfArgs (P : Program) : (ts : List VT) → denL (ts.map VT.ty) → Prop
  | [], _ => True
  | [v], x => Wf P v.ty x
  | v :: v' :: r, x => Wf P v.ty x.1 ∧ WfArgs P (v' :: r) x.2

section
variable {H : Type} {enc : TypeId × Value → H} {P : Program} {w : World}

theorem cells_one {u v : Value} (h : ∃ k n, u = .int k n ∨ (∃ b, u = .bool b) ∨ (∃ s, u = .string s) ∨ ∃ a l c, u = .slice a l c) : u.cells.toList = [u] := by
  obtain ⟨k, n, h | ⟨b, h⟩ | ⟨s, h⟩ | ⟨a, l, c, h⟩⟩ := h <;> subst h <;> rfl

theorem vt_open {r : Reach} {base : Nat} : ∀ (v : VT) {t : TypeId} {u : Value} {d : DataW H} {p : List MemPlace}, vtB P v t = true → Value.okWide P w r base t u → DataW.Trod enc P w 0 (fun _ => true) true t u d p → (∀ n, n ∈ d.weights P t → n ≤ reachBytes) →
    ∃ y : v.ty.den, VTRel w (oldB w) v y u ∧ Wf P v.ty y
  | .box T, t, u, d, p, hB, hok, ⟨n, h⟩, hw => by cases hB
  | .agg T, t, u, d, p, hB, hok, ⟨n, h⟩, hw => by
    unfold vtB at hB
    rw [Bool.and_eq_true] at hB
    obtain ⟨hB, hk⟩ := hB
    have hu : ∃ cs, u = .agg cs := by
      unfold Value.okWide at hok
      split at hk
      · rename_i fs hu; rw [hu] at hok; obtain ⟨cs, h, _⟩ := hok; exact ⟨cs, h⟩
      · rename_i m e hu; rw [hu] at hok; obtain ⟨cs, h, _⟩ := hok; exact ⟨cs, h⟩
      · cases hk
    obtain ⟨cs, rfl⟩ := hu
    obtain ⟨y, h1, h2⟩ := open_ty T t n _ _ hB h hw
    exact ⟨y, ⟨cs, rfl, h1⟩, h2⟩
  | .cell T, t, u, d, p, hB, hok, ⟨n, h⟩, hw => by
    unfold vtB at hB
    rw [Bool.and_eq_true] at hB
    obtain ⟨hB, hk⟩ := hB
    have hcs : u.cells.toList = [u] := by
      cases T with
      | int k =>
        unfold tyB at hB
        split at hB
        · rename_i k' hu; obtain ⟨n, rfl⟩ := okWide_int hu hok; rfl
        · cases hB
      | bool =>
        unfold tyB at hB
        split at hB
        · rename_i hu; obtain ⟨n, rfl⟩ := okWide_bool hu hok; rfl
        · cases hB
      | flt => unfold tyB at hB; cases hB
      | str =>
        unfold tyB at hB
        split at hB
        · rename_i hu; obtain ⟨n, rfl⟩ := okWide_string hu hok; rfl
        · cases hB
      | sl e T =>
        unfold tyB at hB
        split at hB
        · rename_i e' hu; obtain ⟨a, l, c, rfl⟩ := okWide_slice hu hok; rfl
        · cases hB
      | unit =>
        unfold tyB at hB
        split at hB
        · rename_i fs hu; rw [hu] at hk; cases hk
        · cases hB
      | pair a b =>
        unfold tyB at hB
        split at hB
        · rename_i fs hu; rw [hu] at hk; cases hk
        · cases hB
      | vec m k =>
        unfold tyB at hB
        split at hB
        · rename_i m' e hu; rw [hu] at hk; cases hk
        · cases hB
    obtain ⟨y, h1, h2⟩ := open_ty T t n _ _ hB h hw
    rw [hcs] at h1
    exact ⟨y, h1, h2⟩

theorem args_open {r : Reach} {base : Nat} : ∀ (vts : List VT) (ts : List TypeId) (us : List Value) (ds : List (DataW H)) (p : List MemPlace), vtsB P vts ts = true → DataW.TrodAll enc P w 0 (fun _ => true) true ts us ds p →
    (∀ (j : Nat) (t : TypeId) (v : Value), ts[j]? = some t → us[j]? = some v → Value.okWide P w r base t v) → (∀ (j : Nat) (t : TypeId) (d : DataW H), ts[j]? = some t → ds[j]? = some d → ∀ n, n ∈ d.weights P t → n ≤ reachBytes) →
    ∃ xs : denL (vts.map VT.ty), ArgsRel w (oldB w) vts xs us ∧ WfArgs P vts xs
  | [], [], us, ds, p, hB, h, hok, hw => by
    obtain ⟨rfl, rfl, rfl⟩ := trodAll_nil h
    exact ⟨(), rfl, trivial⟩
  | [v], [t], us, ds, p, hB, h, hok, hw => by
    obtain ⟨u, us', d, ds', p', q, rfl, rfl, rfl, h1, h2⟩ := trodAll_cons h
    obtain ⟨rfl, rfl, rfl⟩ := trodAll_nil h2
    unfold vtsB at hB
    rw [Bool.and_eq_true, Bool.and_eq_true, Bool.and_eq_true] at hB
    obtain ⟨y, h3, h4⟩ := vt_open v hB.1.1.1 (hok 0 t u rfl rfl) h1 (hw 0 t d rfl rfl)
    exact ⟨y, ⟨u, rfl, h3⟩, h4⟩
  | v :: v' :: r', t :: ts, us, ds, p, hB, h, hok, hw => by
    obtain ⟨u, us', d, ds', p', q, rfl, rfl, rfl, h1, h2⟩ := trodAll_cons h
    unfold vtsB at hB
    rw [Bool.and_eq_true, Bool.and_eq_true, Bool.and_eq_true] at hB
    obtain ⟨y, h3, h4⟩ := vt_open v hB.1.1.1 (hok 0 t u rfl rfl) h1 (hw 0 t d rfl rfl)
    obtain ⟨ys, h5, h6⟩ := args_open (v' :: r') ts us' ds' q hB.2 h2 (fun j t v a b => hok (j + 1) t v (by simpa using a) (by simpa using b)) (fun j t d a b => hw (j + 1) t d (by simpa using a) (by simpa using b))
    exact ⟨(y, ys), ⟨u, us', rfl, h3, h5⟩, h4, h6⟩
  | [], _ :: _, us, ds, p, hB, h, hok, hw => by cases hB
  | [v], [], us, ds, p, hB, h, hok, hw => by cases hB
  | [v], t :: t' :: ts, us, ds, p, hB, h, hok, hw => by
    unfold vtsB at hB
    rw [Bool.and_eq_true] at hB
    exact absurd hB.2 (by simp [vtsB])
  | v :: v' :: r', [], us, ds, p, hB, h, hok, hw => by cases hB

theorem trodAll_below (hl : laidOutB P = true) {W' : World} (hb : Below w.heap.size w W') : ∀ {vts : List VT} {ts : List TypeId} {us : List Value} {ds : List (DataW H)} {p : List MemPlace}, vtsB P vts ts = true → DataW.TrodAll enc P w 0 (fun _ => true) true ts us ds p →
    DataW.TrodAll enc P W' 0 (fun b => decide (b < w.heap.size)) true ts us ds p
  | [], [], us, ds, p, hB, h => by obtain ⟨rfl, rfl, rfl⟩ := trodAll_nil h; exact trodAll_mk0
  | v :: r, t :: ts, us, ds, p, hB, h => by
    obtain ⟨u, us', d, ds', p', q, rfl, rfl, rfl, h1, h2⟩ := trodAll_cons h
    unfold vtsB at hB
    rw [Bool.and_eq_true, Bool.and_eq_true, Bool.and_eq_true] at hB
    refine trodAll_cons_mk (Below.trod hl hB.1.1.2 (of_decide_eq_true hB.1.2) h1 hb ?_) (trodAll_below hl hb hB.2 h2)
    obtain ⟨m, hm⟩ := h1
    exact DataW.trod_lt m _ _ _ hm
  | [], _ :: _, us, ds, p, hB, h => by cases hB
  | _ :: _, [], us, ds, p, hB, h => by cases hB

/-- A function that answers true whatever comes in. -/
theorem answers_true {E : Env} (hE : SpecsOk P E) (hI : InlOk P E) (hm : P.follows .mixedOrders = true) {d : Nat} {f : FuncId} {fn : Func} (hf : P.funcs[f]? = some fn) {arg : List VT} {xs : denL (arg.map VT.ty)} {us : List Value}
    (ha : ArgsRel w (oldB w) arg xs us) (hgl : GlobsAt (fun b => b < w.heap.size) w) (h : evFn E P d fn false arg [.val (.cell .bool)] xs = some true) : Calls P f us.toArray w fun e W' => e = .returned (.bool true) ∧ Below w.heap.size w W' := by
  refine (evFn_core hE hI hm hf ha (fun _ h => h) hgl h).mono fun e W' he => ?_
  obtain ⟨us1, c1, hp1, ow, sh, rfl, H1, V1, hres, _⟩ := he
  obtain ⟨u, h1, h2⟩ := hres
  obtain ⟨_, h3⟩ := h2
  have h3 : [u] = [.bool true] := h3
  cases h3
  subst h1
  exact ⟨rfl, V1.os, V1.tape, V1.output.1, V1.size, fun b hb => V1.keep b hb⟩

theorem row_contract {C : Checked} {f : FuncId} {fn : Func} (hf : C.prog.funcs[f]? = some fn) {s : ChangeSpec}
    (hvars : s.vars = []) {rt : TypeId} (hres : fn.resultTypes = #[rt]) (hrt : C.prog.underlying rt = some .bool) {arg : List VT} (hspec : ∀ (ds : List (DataW H)), ds.length = arg.length → s.fn H ds = { results := [.lit (.bool true)], args := ds })
    (hvt : vtsB C.prog arg fn.params.toList = true) (hl : laidOutB C.prog = true) {E : Env} (hE : SpecsOk C.prog E) (hI : InlOk C.prog E) (hm : C.prog.follows .mixedOrders = true) {d : Nat}
    (h : ∀ xs : denL (arg.map VT.ty), WfArgs C.prog arg xs → evFn E C.prog d fn false arg [.val (.cell .bool)] xs = some true)
    (W : World) (base : Nat) (args : Array Value) (ds gs : List (DataW H)) (before : List MemPlace)
    (hval : ∀ (j : Nat) t v, fn.params[j]? = some t → args[j]? = some v → Value.okWide C.prog W .any base t v) (hW : DataW.Whole enc C.prog fn.params.toList s.vars false W args.toList ds gs before)
    (hsz : (DataW.weightsEach C.prog (fn.params.toList ++ s.plain.varTypes C.prog) (ds ++ gs)).all (· ≤ reachBytes) = true) (hgl : GlobsAt (fun b => b < W.heap.size) W) :
    Calls C.prog f args W fun e W' => ∃ v, e = .returned v ∧ s.post enc C.prog fn false true false false W args v W' := by
  have hW' := hW
  obtain ⟨p, q, hA, hV, rfl, hfz, hnd⟩ := hW
  rw [hvars] at hV
  obtain ⟨rfl, rfl⟩ := trodVars_none hV
  have hw : ∀ (j : Nat) (t : TypeId) (d : DataW H), fn.params.toList[j]? = some t → ds[j]? = some d → ∀ n, n ∈ d.weights C.prog t → n ≤ reachBytes := by
    intro j t d ht hd n hn
    have hlt : j < fn.params.toList.length := by
      rcases Nat.lt_or_ge j fn.params.toList.length with h' | h'
      · exact h'
      · rw [List.getElem?_eq_none h'] at ht; cases ht
    have := List.all_eq_true.1 hsz n (DataW.weights_mem_each (j := j) (t := t) (d := d) (by rw [List.getElem?_append_left hlt]; exact ht) (by rw [List.append_nil]; exact hd) n hn)
    simpa using this
  obtain ⟨xs, h1, h2⟩ := args_open (r := .any) (base := base) arg _ args.toList ds p hvt hA (fun j t v a b => hval j t v (by simpa using a) (by simpa using b)) hw
  have := answers_true hE hI hm hf h1 hgl (h xs h2)
  rw [Array.toArray_toList] at this
  refine this.mono fun e W' ⟨he, hb⟩ => ?_
  subst he
  refine ⟨_, rfl, ds, [], _, [], p, [], hW', ?_, ?_, ?_, hb.frame _, fun h => by cases h⟩
  all_goals
    have hlen : ds.length = arg.length := by
      have : ∀ {vts : List VT} {ts : List TypeId} {us : List Value} {ds : List (DataW H)} {p : List MemPlace}, vtsB C.prog vts ts = true → DataW.TrodAll enc C.prog W 0 (fun _ => true) true ts us ds p → ds.length = vts.length := by
        intro vts
        induction vts with
        | nil =>
          intro ts us ds p hB h
          cases ts with
          | nil => obtain ⟨rfl, rfl, rfl⟩ := trodAll_nil h; rfl
          | cons _ _ => cases hB
        | cons v r ih =>
          intro ts us ds p hB h
          cases ts with
          | nil => cases hB
          | cons t ts =>
            obtain ⟨u, us', d, ds', p', q, rfl, rfl, rfl, h1, h2⟩ := trodAll_cons h
            unfold vtsB at hB
            rw [Bool.and_eq_true] at hB
            simp [ih hB.2 h2]
      exact this hvt hA
    rw [List.append_nil, hspec ds hlen]
  · rw [hres]
    exact trodAll_mk1 (shut_bool hrt _)
  · exact trodAll_below hl hb hvt hA
  · rw [hvars]; exact rfl
theorem row_lifted {C : Checked} {os : Os} (own : ownKnob C.prog.godebug = none) (started : os.Started) {f : FuncId} {fn : Func} (noInit : C.prog.inits.idxOf? f = none) (hf : C.prog.funcs[f]? = some fn) {s : ChangeSpec} {conds : List PathCond}
    (witness : ∃ (w : World) (tape : Tape) (i : Input), w.os = os ∧ (w.forCall tape i).Shaped C.prog ∧ i.vars = [] ∧ Input.okWide C.prog (w.forCall tape i) .any w.heap.size f i ∧
      s.pre6 enc C.prog fn conds false (w.forCall tape i).memory i.args ∧ ({} : Assume).holds C.prog (lone (Frame.enter C.prog f i.args .normal) [] (w.forCall tape i)))
    (hvars : s.vars = []) {rt : TypeId} (hres : fn.resultTypes = #[rt]) (hrt : C.prog.underlying rt = some .bool) {arg : List VT} (hspec : ∀ (ds : List (DataW H)), ds.length = arg.length → s.fn H ds = { results := [.lit (.bool true)], args := ds })
    (hvt : vtsB C.prog arg fn.params.toList = true) (hl : laidOutB C.prog = true) {E : Env} (hE : SpecsOk C.prog E) (hI : InlOk C.prog E) (hm : C.prog.follows .mixedOrders = true) {d : Nat}
    (hgl : ∀ W : World, GlobsAt (fun b => b < W.heap.size) W)
    (h : ∀ xs : denL (arg.map VT.ty), WfArgs C.prog arg xs → evFn E C.prog d fn false arg [.val (.cell .bool)] xs = some true) :
    ReturnsInHanded {} C os f .any (s.pre6 enc C.prog fn conds false) (s.post enc C.prog fn false true false false) := by
  refine returnsInHanded_of_change_sized own started noInit hf witness ?_
  intro W base args ds gs before hval hW hcnd hsz _
  exact row_contract hf hvars hres hrt hspec hvt hl hE hI hm h W base args ds gs before hval hW hsz (hgl W)

theorem row_lifted_laid {C : Checked} {os : Os} (own : ownKnob C.prog.godebug = none) (started : os.Started) {f : FuncId} {fn : Func} (noInit : C.prog.inits.idxOf? f = none) (hf : C.prog.funcs[f]? = some fn) {s : ChangeSpec} {conds : List PathCond} {laid : List (String × DataW Unit)}
    (witness : ∃ (w : World) (tape : Tape) (i : Input), w.os = os ∧ (w.forCall tape i).Shaped C.prog ∧ i.vars = [] ∧ Input.okWide C.prog (w.forCall tape i) .any w.heap.size f i ∧
      ((s.pre enc C.prog fn conds false (w.forCall tape i).memory i.args ∧ laidMetH C.prog laid (w.forCall tape i).memory) ∧ sizedMet enc C.prog fn (OpenSpec.ofChange s) false (w.forCall tape i).memory i.args) ∧ ({} : Assume).holds C.prog (lone (Frame.enter C.prog f i.args .normal) [] (w.forCall tape i)))
    (hvars : s.vars = []) {rt : TypeId} (hres : fn.resultTypes = #[rt]) (hrt : C.prog.underlying rt = some .bool) {arg : List VT} (hspec : ∀ (ds : List (DataW H)), ds.length = arg.length → s.fn H ds = { results := [.lit (.bool true)], args := ds })
    (hvt : vtsB C.prog arg fn.params.toList = true) (hl : laidOutB C.prog = true) {E : Env} (hE : SpecsOk C.prog E) (hI : InlOk C.prog E) (hm : C.prog.follows .mixedOrders = true) {d : Nat}
    (hgl : ∀ W : World, laidMetH C.prog laid W → GlobsAt (fun b => b < W.heap.size) W)
    (h : ∀ xs : denL (arg.map VT.ty), WfArgs C.prog arg xs → evFn E C.prog d fn false arg [.val (.cell .bool)] xs = some true) :
    ReturnsInHanded {} C os f .any (fun w args => (s.pre enc C.prog fn conds false w args ∧ laidMetH C.prog laid w) ∧ sizedMet enc C.prog fn (OpenSpec.ofChange s) false w args) (s.post enc C.prog fn false true false false) := by
  refine returnsInHanded_of_change_and (X := fun w _ => laidMetH C.prog laid w) (fun _ _ _ hh h => h.of_heap hh) own started noInit hf witness ?_
  intro W base args ds gs before hval hW hcnd hsz hL _
  exact row_contract hf hvars hres hrt hspec hvt hl hE hI hm h W base args ds gs before hval hW hsz (hgl W hL)

theorem row_lifted_shaped {C : Checked} {os : Os} (own : ownKnob C.prog.godebug = none) (started : os.Started) {f : FuncId} {fn : Func} (noInit : C.prog.inits.idxOf? f = none) (hf : C.prog.funcs[f]? = some fn) {s : ChangeSpec} {conds : List PathCond} {laid : List (String × DataW Unit)}
    (witness : ∃ (w : World) (tape : Tape) (i : Input), w.os = os ∧ (w.forCall tape i).Shaped C.prog ∧ i.vars = [] ∧ Input.okWide C.prog (w.forCall tape i) .any w.heap.size f i ∧
      ((s.pre enc C.prog fn conds false (w.forCall tape i).memory i.args ∧ laidMetH C.prog laid (w.forCall tape i).memory) ∧ sizedMet enc C.prog fn (OpenSpec.ofChange s) false (w.forCall tape i).memory i.args) ∧ ({} : Assume).holds C.prog (lone (Frame.enter C.prog f i.args .normal) [] (w.forCall tape i)))
    (hvars : s.vars = []) {rt : TypeId} (hres : fn.resultTypes = #[rt]) (hrt : C.prog.underlying rt = some .bool) {arg : List VT} (hspec : ∀ (ds : List (DataW H)), ds.length = arg.length → s.fn H ds = { results := [.lit (.bool true)], args := ds })
    (hvt : vtsB C.prog arg fn.params.toList = true) (hl : laidOutB C.prog = true) {E : Env} (hE : SpecsOk C.prog E) (hI : InlOk C.prog E) (hm : C.prog.follows .mixedOrders = true) {d : Nat}
    (hgl : ∀ W : World, W.ShapedOpen C.prog → laidMetH C.prog laid W → GlobsAt (fun b => b < W.heap.size) W)
    (h : ∀ xs : denL (arg.map VT.ty), WfArgs C.prog arg xs → evFn E C.prog d fn false arg [.val (.cell .bool)] xs = some true) :
    ReturnsInHanded {} C os f .any (fun w args => (s.pre enc C.prog fn conds false w args ∧ laidMetH C.prog laid w) ∧ sizedMet enc C.prog fn (OpenSpec.ofChange s) false w args) (s.post enc C.prog fn false true false false) := by
  refine returnsInHanded_of_calls own started noInit witness ?_
  intro w tape i _ hshape _ hok hpre hholds
  obtain ⟨_, _, _, fn', hfn', _, _, _, _, hval⟩ := hok
  have e : fn' = fn := Option.some.inj (hfn'.symm.trans hf)
  subst e
  obtain ⟨⟨⟨ds, gs, before, hw, hc⟩, hx⟩, hz⟩ := hpre
  have hw' := DataW.Whole.of_heap (w' := w.forCall tape i) (by rfl) hw
  refine (row_contract hf hvars hres hrt hspec hvt hl hE hI hm h (w.forCall tape i) w.heap.size i.args ds gs before hval hw' (hz.weights hw) (hgl _ hshape (laidMetH.of_heap (w := (w.forCall tape i).memory) (w' := w.forCall tape i) (by rfl) hx))).mono fun e W' ⟨v, he, hp⟩ => ?_
  subst he
  exact ChangeSpec.post_blind hp

end
end Go.Proofs.YtbjanflhagkhlaaDoor.Sk
