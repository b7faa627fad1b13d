/- SK, part 8: the other operations. -/
import Derived.Test.YtbjanflhagkhlaaDoorSkOpsB
import Derived.Laws.OwnMore
import Derived.Laws.StructEq
import Derived.Laws.Unary
set_option linter.unusedVariables false
set_option linter.unusedSimpArgs false
namespace Go.Proofs.YtbjanflhagkhlaaDoor.Sk
open Go Go.RowKit

section
variable {B : Nat → Prop} {c : Cx} {hp : List ABlk} {w : World} {P : Program}

theorem ofV_rel (v : Value) : VRel B c hp w (ofV v) v := by
  cases v with
  | agg cs => exact ⟨cs, rfl, VRelL.scs _⟩
  | tuple vs => exact ⟨vs, rfl, VRelL.scs _⟩
  | _ => rfl

/-- An operation that only reckons: what is asked of its lemma. -/
def Says (B : Nat → Prop) (c : Cx) (hp : List ABlk) (w : World) (P : Program) (n : Nat) (e : Eff) (s : Sem Value) : Prop :=
  ∃ u w', s.run P w = .ok u w' ∧ EffOk B c hp w n e u w'

theorem Says.val {n : Nat} {s : Sem Value} {a : AV} {u : Value} (hH : HRel B c hp w) (hr : s.run P w = .ok u w) (hv : VRel B c hp w a u) : Says B c hp w P n ⟨a, [], []⟩ s :=
  ⟨u, w, hr, effOk_val hH hv⟩

theorem valE {look : Nat → ABlk} {g g' : List Nat} {a : AV} {e : Eff} (h : (Eff.val a).runO look g = some (e, g')) : e = ⟨a, [], []⟩ := by cases h; rfl

theorem zeroA_some {t : TypeId} {cs : List AV} (h : zeroA P t = some cs) : ∃ i z, P.info? t = some i ∧ i.zero = some z ∧ cs = z.cells.toList.map .sc := by
  unfold zeroA at h
  split at h
  · rename_i i hi
    simp only [Option.map_eq_some_iff] at h
    obtain ⟨z, hz, hc⟩ := h
    exact ⟨i, z, hi, hz, hc.symm⟩
  · cases h

theorem alloc_sound {t : TypeId} {cs : List AV} {n : Nat} (hH : HRel B c hp w) (h : zeroA P t = some cs) : Says B c hp w P n ⟨.ptr n 0, [.cells cs t], []⟩ (Instr.alloc t true (.tuple #[])) := by
  obtain ⟨i, z, hi, hz, rfl⟩ := zeroA_some h
  refine ⟨_, _, ?_, effOk_cells (vs := z.cells) hH (VRelL.scs _)⟩
  simp [Instr.alloc, zeroValue, typeInfo, hi, hz, newVar, newRow]

theorem box_sound {t : TypeId} {a : AV} {v : Value} {n : Nat} (hH : HRel B c hp w) (hk : known a = true) (hv : VRel B c hp w a v) : Says B c hp w P n ⟨.ptr n 0, [.cells (cellsOf a) t], []⟩ (Instr.box t v) := by
  refine ⟨_, _, ?_, effOk_cells (vs := v.cells) hH (cells_rel hk hv)⟩
  simp [Instr.box, newVar, newRow]

/-! ### aggregates -/
theorem foldl_splice : ∀ (us : List Value) (k off : Nat) (cs : Array Value), off + k + us.length ≤ cs.size →
    ((us.zipIdx k).foldl (fun cs (q : Value × Nat) => cs.setIfInBounds (off + q.2) q.1) cs).toList = cs.toList.take (off + k) ++ us ++ cs.toList.drop (off + k + us.length)
  | [], k, off, cs, _ => by simp
  | u :: us, k, off, cs, h => by
    simp only [List.length_cons] at h
    simp only [List.zipIdx_cons, List.foldl_cons]
    rw [foldl_splice us (k + 1) off _ (by simp; omega)]
    simp only [Array.toList_setIfInBounds]
    have h1 : (cs.toList.set (off + k) u).take (off + (k + 1)) = cs.toList.take (off + k) ++ [u] := by
      rw [show off + (k + 1) = (off + k) + 1 by omega, List.take_succ_eq_append_getElem (by simp; omega), List.getElem_set_self, List.take_set_of_le (Nat.le_refl _)]
    have h2 : (cs.toList.set (off + k) u).drop (off + (k + 1) + us.length) = cs.toList.drop (off + k + (us.length + 1)) := by
      rw [List.drop_set_of_lt (by omega)]; congr 1; omega
    rw [h1, h2]
    simp

theorem fill_rel {place : Nat → Option (Nat × Nat)} : ∀ (ps : List (Nat × Operand)) {ρA : Operand → AV} {ρV : Operand → Value} {cs cs' : List AV} {vs : Array Value},
    (∀ p, p ∈ ps → VRel B c hp w (ρA p.2) (ρV p.2)) → VRelL B c hp w cs vs.toList → fillA place cs (ps.map fun p => (p.1, ρA p.2)) = some cs' →
    ∃ vs' : Array Value, Instr.fill place vs (ps.map fun p => (p.1, ρV p.2)) = some vs' ∧ VRelL B c hp w cs' vs'.toList
  | [], _, _, cs, cs', vs, _, hr, h => by simp only [List.map_nil, fillA] at h; cases h; exact ⟨vs, rfl, hr⟩
  | p :: ps, ρA, ρV, cs, cs', vs, hv, hr, h => by
    simp only [List.map_cons, fillA] at h
    split at h
    · cases h
    · rename_i off size hpl
      cases hc : (known (ρA p.2) && Nat.beq (cellsOf (ρA p.2)).length size && Nat.ble (off + (cellsOf (ρA p.2)).length) cs.length) with
      | false => rw [hc] at h; cases h
      | true =>
        rw [hc] at h
        simp only [cond_true] at h
        simp only [Bool.and_eq_true] at hc
        obtain ⟨⟨hk, hs⟩, hle⟩ := hc
        have hs' := Nat.eq_of_beq_eq_true hs
        have hle' := Nat.le_of_ble_eq_true hle
        have hcr := cells_rel hk (hv p (by simp))
        have hl1 := hcr.length
        have hl2 := hr.length
        simp only [Array.length_toList] at hl1 hl2
        have hsp := splice_rel off hr hcr hle'
        have hfold := foldl_splice (ρV p.2).cells.toList 0 off vs (by simp; omega)
        simp only [Nat.add_zero] at hfold
        rw [← hfold] at hsp
        obtain ⟨vs', h1, h2⟩ := fill_rel ps (fun q hq => hv q (by simp [hq])) hsp h
        refine ⟨vs', ?_, h2⟩
        simp only [List.map_cons, Instr.fill, hpl]
        rw [if_neg (by simp; omega)]
        rw [← h1]
        congr 1
        rw [← Array.foldl_toList, Array.toList_zipIdx]

theorem build_sound {t : TypeId} {parts : Array (Nat × Operand)} {n : Nat} {ρA : Operand → AV} {ρV : Operand → Value} {z cs : List AV} {pl : Nat → Option (Nat × Nat)} (hH : HRel B c hp w)
    (hv : ∀ p, p ∈ parts.toList → VRel B c hp w (ρA p.2) (ρV p.2)) (h1 : zeroA P t = some z) (h2 : placeOf P t = some pl) (h3 : fillA pl z (parts.toList.map fun p => (p.1, ρA p.2)) = some cs) :
    Says B c hp w P n ⟨.agg cs, [], []⟩ (Instr.build t (parts.map fun p => (p.1, ρV p.2))) := by
  obtain ⟨i, zv, hi, hz, rfl⟩ := zeroA_some h1
  obtain ⟨vs', h4, h5⟩ := fill_rel parts.toList hv (VRelL.scs zv.cells.toList) h3
  refine Says.val hH (u := .agg vs') (run_build w t _ vs' ?_) ⟨vs', rfl, h5⟩
  unfold Program.built placeOf at *
  rw [Array.toList_map]
  cases hu : P.underlying t with
  | none => simp [hu] at h2
  | some d =>
    cases d <;> try (simp [hu] at h2; done)
    case array m e =>
      simp only [hu, Option.map_eq_some_iff] at h2
      obtain ⟨ie, hie, hpl⟩ := h2
      subst hpl
      simp only [hi, hz, hie]
      exact h4
    case struct fields =>
      simp only [hu, Option.map_eq_some_iff] at h2
      obtain ⟨places, hp', hpl⟩ := h2
      subst hpl
      simp only [hi, hz, hp']
      rw [← h4]
      congr 1
      funext j
      simp

/-! ### slices -/
theorem elemA_some {T e : TypeId} (h : elemA P T = some e) : P.underlying T = some (.slice e) := by
  unfold elemA at h
  split at h
  · rename_i e' hu; cases h; exact hu
  · cases h

theorem seq_eq (a b : ByteArray) : seq a b = (a.toList == b.toList) := by rw [seq, ByteArray.toList_eq, ByteArray.toList_eq]
theorem slt_eq (a b : ByteArray) : slt a b = Op.bytesLess a.toList b.toList := by rw [slt, ByteArray.toList_eq, ByteArray.toList_eq]

theorem scs_rel : ∀ {cs : List AV} {ls vs : List Value}, scs cs = some ls → VRelL B c hp w cs vs → vs = ls
  | [], ls, [], h, _ => by simp only [scs] at h; cases h; rfl
  | a :: as, ls, v :: vs, h, hv => by
    unfold scs at h
    split at h
    · rename_i heq; cases heq
    · rename_i x r heq
      cases heq
      simp only [Option.map_eq_some_iff] at h
      obtain ⟨l', h1, h2⟩ := h
      subst h2
      rw [scs_rel h1 hv.2, show v = x from hv.1]
    · cases h
  | [], _, _ :: _, _, h => by simp [VRelL] at h
  | _ :: _, _, [], _, h => by simp [VRelL] at h

theorem toV_rel {a : AV} {u v : Value} (h : toV a = some v) (hv : VRel B c hp w a u) : u = v := by
  cases a with
  | sc x => cases h; exact hv
  | agg cs =>
    simp only [toV, Option.map_eq_some_iff] at h
    obtain ⟨l, h1, h2⟩ := h
    obtain ⟨vs, rfl, hr⟩ := hv
    rw [← h2, ← scs_rel h1 hr]
  | tup cs =>
    simp only [toV, Option.map_eq_some_iff] at h
    obtain ⟨l, h1, h2⟩ := h
    obtain ⟨vs, rfl, hr⟩ := hv
    rw [← h2, ← scs_rel h1 hr]
  | _ => cases h

theorem partV_run {t : TypeId} {xs : Array Value} {off : Nat} {v : Value} (h : partV P t xs.toList off = some v) (w : World) : (part t xs off).run P w = .ok v w := by
  unfold partV at h
  have key : ∀ {i : TypeInfo}, (xs.extract off (off + i.size)) = ((xs.toList.drop off).take i.size).toArray := by
    intro i
    apply Array.ext'
    simp [List.extract_eq_take_drop]
  cases hu : P.underlying t with
  | none => rw [hu] at h; simp at h
  | some d =>
    rw [hu] at h
    cases d with
    | struct fs =>
      simp only [Option.map_eq_some_iff] at h
      obtain ⟨i, hi, rfl⟩ := h
      have ha : isAggA P t = some true := by simp [isAggA, hu]
      simp [part, run_isAgg ha, sizeOf, typeInfo, hi, key]
    | array n e =>
      simp only [Option.map_eq_some_iff] at h
      obtain ⟨i, hi, rfl⟩ := h
      have ha : isAggA P t = some true := by simp [isAggA, hu]
      simp [part, run_isAgg ha, sizeOf, typeInfo, hi, key]
    | _ =>
      simp only at h
      have ha : isAggA P t = some false := by simp [isAggA, hu]
      have h' : xs[off]? = some v := by simpa using h
      simp [part, run_isAgg ha, h']

theorem eqFs_run {D : Nat} {eq : TypeId → Value → Value → Option Bool} (he : ∀ t x y b, eq t x y = some b → (Op.equalIn D t x y).run P w = .ok b w) {xs ys : Array Value} :
    ∀ (fs : List Field) (b : Bool), eqFs P eq xs.toList ys.toList fs = some b → (Op.eqFields D xs ys fs).run P w = .ok b w
  | [], b, h => by simp only [eqFs] at h; cases h; rfl
  | f :: r, b, h => by
    unfold eqFs at h
    cases hn : (f.name == "_") with
    | true => rw [hn] at h; cases h
    | false =>
      rw [hn] at h
      simp only [cond_false] at h
      have hn' : f.name ≠ "_" := by simpa using hn
      split at h
      · rename_i x y hx hy
        split at h
        · rename_i a b' ha hb
          cases h
          have ih := eqFs_run he r b' hb
          simp only [Op.eqFields, if_pos hn', Sem.run_bind, partV_run hx w, partV_run hy w, Result.andThen_ok, he _ _ _ _ ha]
          cases a with
          | true => simpa using ih
          | false => simp
        · cases h
      · cases h

theorem eqV_run : ∀ (d D : Nat), d ≤ D → ∀ (t : TypeId) (x y : Value) (b : Bool), eqV P d t x y = some b → (Op.equalIn D t x y).run P w = .ok b w
  | 0, _, _, t, x, y, b, h => by simp [eqV] at h
  | d + 1, 0, hle, _, _, _, _, _ => absurd hle (by omega)
  | d + 1, D + 1, hle, t, x, y, b, h => by
    unfold eqV at h
    split at h
    · rename_i k0 k a k' b' hu
      cases hk : decide (k = k') with
      | false => rw [hk] at h; cases h
      | true =>
        rw [hk] at h
        have hk' : k = k' := of_decide_eq_true hk
        subst hk'
        cases h
        exact run_equalIn_int w D t k _ _ _ hu
    · rename_i a b' hu
      cases h
      exact run_equalIn_bool w D t _ _ hu
    · rename_i a b' hu
      cases h
      rw [run_equalIn_string w D t _ _ hu, seq_eq]
    · rename_i fs xs ys hu
      cases hs : P.stoodInHeld t with
      | true => rw [hs] at h; cases h
      | false =>
        rw [hs] at h
        simp only [cond_false] at h
        have hf : P.fieldsOf t = fs := by simp [Program.fieldsOf, hu]
        rw [run_equalIn_struct w D t xs ys (by rw [hf]; exact hu) hs, hf]
        exact eqFs_run (fun t x y b hb => eqV_run d D (by omega) t x y b hb) fs.toList b h
    · cases h

/-- Slices that are nil, or not. -/
theorem nilS_sound {a : AV} {u : Value} {b : Bool} {g g' : List Nat} (hH : HRel B c hp w) (hv : VRel B c hp w a u) (h : (nilS a).runO (lookIn hp) g = some (b, g')) : ∃ A n q, u = .slice A n q ∧ A.isNone = b := by
  cases a with
  | sc v =>
    cases v with
    | slice A n q =>
      cases A with
      | none => cases h; exact ⟨none, _, _, hv, rfl⟩
      | some A => cases h
    | _ => cases h
  | own id =>
    simp only [nilS, Rd.runO] at h
    split at h
    · rename_i fr T t l hl
      obtain ⟨hc, h⟩ := Rd.chk_some h
      cases h
      have hv := hv.2
      unfold OwnV at hv
      cases hs : c.σ id with
      | none =>
        have hb := hH.blk id
        rw [hl] at hb
        obtain ⟨_, hb⟩ := hb
        rw [hs] at hb
        simp only at hb
        subst hb
        simp at hc
      | some bb =>
        rw [hs] at hv
        obtain ⟨n, cap, rfl, _⟩ := hv
        exact ⟨_, _, _, rfl, rfl⟩
    · cases h
  | ros fr e t l =>
    simp only [nilS] at h
    obtain ⟨hc, h⟩ := Rd.chk_some h
    cases h
    obtain ⟨A, q, rfl, _, hm⟩ := hv
    have hne : l ≠ [] := by intro e; subst e; simp at hc
    obtain ⟨b', o, cs, T, fz, rfl, _⟩ := hm hne
    exact ⟨_, _, _, rfl, rfl⟩
  | _ => cases h
theorem nilP_sound {a : AV} {u : Value} {b : Bool} {g g' : List Nat} (hv : VRel B c hp w a u) (h : (nilP a).runO (lookIn hp) g = some (b, g')) : ∃ A, u = .pointer A ∧ A.isNone = b := by
  cases a with
  | sc v =>
    cases v with
    | pointer A =>
      cases A with
      | none => cases h; exact ⟨none, hv, rfl⟩
      | some A => cases h
    | _ => cases h
  | ptr id off => cases h; obtain ⟨_, b, _, rfl⟩ := hv; exact ⟨_, rfl, rfl⟩
  | rop fr t x off => cases h; obtain ⟨b, o, cs, T, fz, _, rfl, _⟩ := hv; exact ⟨_, rfl, rfl⟩
  | rptr id i off => cases h; obtain ⟨_, b, q, _, rfl, _⟩ := hv; exact ⟨_, rfl, rfl⟩
  | _ => cases h
theorem nilF_sound {a : AV} {u : Value} {b : Bool} {g g' : List Nat} (hv : VRel B c hp w a u) (h : (nilF a).runO (lookIn hp) g = some (b, g')) :
    (u = .nilFunc ∧ b = true) ∨ (∃ f x y, u = .func f x y ∧ b = false) := by
  cases a with
  | sc v =>
    cases v with
    | nilFunc => cases h; exact .inl ⟨hv, rfl⟩
    | _ => cases h
  | clo f cs => cases h; obtain ⟨vs, rfl, _⟩ := hv; exact .inr ⟨_, _, _, rfl, rfl⟩
  | _ => cases h

theorem equal_def (t : TypeId) (x y : Value) : Op.equal t x y = Op.equalIn (9999 + 1) t x y := rfl
section
variable {t : TypeId} (D : Nat)
theorem eqIn_slice {e : TypeId} (hu : P.underlying t = some (.slice e)) (A : Option Addr) (n q n' q' : Nat) : (Op.equalIn (D + 1) t (.slice A n q) (.slice none n' q')).run P w = .ok A.isNone w := by
  cases A <;> simp [Op.equalIn, run_underlying hu]
theorem eqIn_slice' {e : TypeId} (hu : P.underlying t = some (.slice e)) (A : Option Addr) (n q n' q' : Nat) : (Op.equalIn (D + 1) t (.slice none n' q') (.slice A n q)).run P w = .ok A.isNone w := by
  simp [Op.equalIn, run_underlying hu]
theorem eqIn_ptr {e : TypeId} (hu : P.underlying t = some (.pointer e)) (A : Option Addr) : (Op.equalIn (D + 1) t (.pointer A) (.pointer none)).run P w = .ok A.isNone w := by
  cases A <;> simp [Op.equalIn, run_underlying hu]
theorem eqIn_ptr' {e : TypeId} (hu : P.underlying t = some (.pointer e)) (A : Option Addr) : (Op.equalIn (D + 1) t (.pointer none) (.pointer A)).run P w = .ok A.isNone w := by
  simp [Op.equalIn, run_underlying hu]
theorem eqIn_func {ps rs : Array TypeId} {vr : Bool} (hu : P.underlying t = some (.func ps rs vr)) (f : Fn) (x y : Array Value) : (Op.equalIn (D + 1) t (.func f x y) .nilFunc).run P w = .ok false w := by
  simp [Op.equalIn, run_underlying hu]
theorem eqIn_func' {ps rs : Array TypeId} {vr : Bool} (hu : P.underlying t = some (.func ps rs vr)) (f : Fn) (x y : Array Value) : (Op.equalIn (D + 1) t .nilFunc (.func f x y)).run P w = .ok false w := by
  simp [Op.equalIn, run_underlying hu]
theorem eqIn_func2 {ps rs : Array TypeId} {vr : Bool} (hu : P.underlying t = some (.func ps rs vr)) : (Op.equalIn (D + 1) t .nilFunc .nilFunc).run P w = .ok true w := by
  simp [Op.equalIn, run_underlying hu]
end

/-- What '==' and '!=' come to. -/
def EqRuns (P : Program) (w : World) (t : TypeId) (u v : Value) (b : Bool) : Prop :=
  (∀ ox oy : Operand, (eqGuard .eql t ox oy u v).run P w = .ok () w) ∧ (binOp .eql t u v).run P w = .ok (.bool b) w ∧ (∀ ox oy : Operand, (eqGuard .neq t ox oy u v).run P w = .ok () w) ∧ (binOp .neq t u v).run P w = .ok (.bool (!b)) w

theorem EqRuns.mk' {t : TypeId} {u v : Value} {b : Bool} (h1 : (Op.equalIn (9999 + 1) t u v).run P w = .ok b w) (hg : ∀ op (x y : Operand), (eqGuard op t x y u v).run P w = .ok () w)
    (he : binOp .eql t u v = (do pure (.bool (← Op.equal t u v)))) (hn : binOp .neq t u v = (do pure (.bool (!(← Op.equal t u v))))) : EqRuns P w t u v b := by
  refine ⟨hg _, ?_, hg _, ?_⟩
  · rw [he, equal_def]; simp only [Sem.run_bind, h1, Result.andThen_ok]; rfl
  · rw [hn, equal_def]; simp only [Sem.run_bind, h1, Result.andThen_ok]; rfl

theorem guard_plain (t : TypeId) (op : BinOp) (ox oy : Operand) (u v : Value) (h : ∀ xs, u ≠ .agg xs) (h2 : u ≠ .nilIface) : (eqGuard op t ox oy u v).run P w = .ok () w := by
  cases op <;> cases u <;> first | exact absurd rfl (h _) | exact absurd rfl h2 | (simp [eqGuard]; done)

theorem eqRuns_slice {t e : TypeId} (hu : P.underlying t = some (.slice e)) (A : Option Addr) (n q n' q' : Nat) : EqRuns P w t (.slice A n q) (.slice none n' q') A.isNone :=
  .mk' (eqIn_slice _ hu A n q n' q') (fun op x y => guard_plain t op x y _ _ (by simp) (by simp)) rfl rfl
theorem eqRuns_slice' {t e : TypeId} (hu : P.underlying t = some (.slice e)) (A : Option Addr) (n q n' q' : Nat) : EqRuns P w t (.slice none n' q') (.slice A n q) A.isNone :=
  .mk' (eqIn_slice' _ hu A n q n' q') (fun op x y => guard_plain t op x y _ _ (by simp) (by simp)) rfl rfl
theorem eqRuns_ptr {t e : TypeId} (hu : P.underlying t = some (.pointer e)) (A : Option Addr) : EqRuns P w t (.pointer A) (.pointer none) A.isNone :=
  .mk' (eqIn_ptr _ hu A) (fun op x y => guard_plain t op x y _ _ (by simp) (by simp)) (by cases A <;> rfl) (by cases A <;> rfl)
theorem eqRuns_ptr' {t e : TypeId} (hu : P.underlying t = some (.pointer e)) (A : Option Addr) : EqRuns P w t (.pointer none) (.pointer A) A.isNone :=
  .mk' (eqIn_ptr' _ hu A) (fun op x y => guard_plain t op x y _ _ (by simp) (by simp)) (by cases A <;> rfl) (by cases A <;> rfl)

theorem eqRuns_int {t : TypeId} (k : IntKind) (a b : Int) : EqRuns P w t (.int k a) (.int k b) (a == b) :=
  ⟨fun ox oy => guard_plain t _ ox oy _ _ (by simp) (by simp), by simp [binOp, Op.intCmp], fun ox oy => guard_plain t _ ox oy _ _ (by simp) (by simp), by simp [binOp, Op.intCmp, bne]⟩
theorem eqRuns_string {t : TypeId} (a b : ByteArray) : EqRuns P w t (.string a) (.string b) (seq a b) :=
  ⟨fun ox oy => guard_plain t _ ox oy _ _ (by simp) (by simp), by simp [binOp, Op.stringOp, seq_eq], fun ox oy => guard_plain t _ ox oy _ _ (by simp) (by simp), by simp [binOp, Op.stringOp, seq_eq]⟩
theorem eqRuns_bool {t : TypeId} (hu : P.underlying t = some .bool) (a b : Bool) : EqRuns P w t (.bool a) (.bool b) (a == b) :=
  .mk' (run_equalIn_bool w _ t _ _ hu) (fun op x y => guard_plain t op x y _ _ (by simp) (by simp)) rfl rfl
theorem eqRuns_struct {t : TypeId} (hg : P.eqGuardType P.depth t = false) {xs ys : Array Value} {b : Bool} (h : (Op.equalIn (9999 + 1) t (.agg xs) (.agg ys)).run P w = .ok b w) : EqRuns P w t (.agg xs) (.agg ys) b :=
  .mk' h (fun op x y => run_eqGuard_agg w op t x y xs ys hg) rfl rfl

theorem eqRuns_plain {t : TypeId} {u v : Value} {b : Bool} (hs : ∀ fs, P.underlying t ≠ some (.struct fs)) (h : eqV P 8 t u v = some b) : EqRuns P w t u v b := by
  unfold eqV at h
  split at h
  · rename_i k0 k a k' b' hu
    cases hk : decide (k = k') with
    | false => rw [hk] at h; cases h
    | true =>
      rw [hk] at h
      have hk' : k = k' := of_decide_eq_true hk
      subst hk'
      cases h
      exact eqRuns_int k a b'
  · rename_i a b' hu
    cases h
    exact eqRuns_bool hu a b'
  · cases h
    exact eqRuns_string _ _
  · rename_i fs xs ys hu
    exact absurd hu (hs fs)
  · cases h

theorem eqV_struct {t : TypeId} {fs : Array Field} (hu : P.underlying t = some (.struct fs)) {d : Nat} {u v : Value} {b : Bool} (h : eqV P (d + 1) t u v = some b) : ∃ xs ys, u = .agg xs ∧ v = .agg ys := by
  unfold eqV at h
  rw [hu] at h
  cases u <;> first | (cases h; done) | skip
  cases v <;> first | (cases h; done) | skip
  exact ⟨_, _, rfl, rfl⟩

theorem eqA_sound {t : TypeId} {x y : AV} {u v : Value} {b : Bool} {g g' : List Nat} (hH : HRel B c hp w) (hx : VRel B c hp w x u) (hy : VRel B c hp w y v) (h : (eqA P t x y).runO (lookIn hp) g = some (b, g')) :
    EqRuns P w t u v b := by
  unfold eqA at h
  have scal : ∀ {x y : AV} {u v : Value}, VRel B c hp w x u → VRel B c hp w y v → (match x, y with | .sc u, .sc v => Rd.ofO (eqV P 8 t u v) | _, _ => .fail).runO (lookIn hp) g = some (b, g') →
      (∀ fs, P.underlying t ≠ some (.struct fs)) → EqRuns P w t u v b := by
    intro x y u v hx hy h hs
    split at h
    · rename_i u' v'
      obtain ⟨h, _⟩ := Rd.ofO_some h
      have e1 : u = u' := hx
      have e2 : v = v' := hy
      subst e1; subst e2
      exact eqRuns_plain hs h
    · cases h
  split at h
  · rename_i e hu
    split at h
    · obtain ⟨A, n, q, rfl, rfl⟩ := nilS_sound hH hx h
      rw [show v = _ from hy]; exact eqRuns_slice hu _ _ _ _ _
    · obtain ⟨A, n, q, rfl, rfl⟩ := nilS_sound hH hy h
      rw [show u = _ from hx]; exact eqRuns_slice' hu _ _ _ _ _
    · cases h
  · rename_i e hu
    split at h
    · obtain ⟨A, rfl, rfl⟩ := nilP_sound hx h
      rw [show v = _ from hy]; exact eqRuns_ptr hu _
    · obtain ⟨A, rfl, rfl⟩ := nilP_sound hy h
      rw [show u = _ from hx]; exact eqRuns_ptr' hu _
    · cases h
  · rename_i ps rs vr hu
    split at h
    · rw [show v = _ from hy]
      rcases nilF_sound hx h with ⟨rfl, rfl⟩ | ⟨f, x, y, rfl, rfl⟩
      · exact .mk' (eqIn_func2 _ hu) (fun op x y => guard_plain t op x y _ _ (by simp) (by simp)) rfl rfl
      · exact .mk' (eqIn_func _ hu _ _ _) (fun op x y => guard_plain t op x y _ _ (by simp) (by simp)) rfl rfl
    · rw [show u = _ from hx]
      rcases nilF_sound hy h with ⟨rfl, rfl⟩ | ⟨f, x, y, rfl, rfl⟩
      · exact .mk' (eqIn_func2 _ hu) (fun op x y => guard_plain t op x y _ _ (by simp) (by simp)) rfl rfl
      · exact .mk' (eqIn_func' _ hu _ _ _) (fun op x y => guard_plain t op x y _ _ (by simp) (by simp)) rfl rfl
    · cases h
  · rename_i hu; exact scal hx hy h (by simp [hu])
  · rename_i hu; exact scal hx hy h (by simp [hu])
  · rename_i hu; exact scal hx hy h (by simp [hu])
  · rename_i kk hu
    split at h
    · rename_i k a k' b'
      obtain ⟨hk, h9⟩ := Rd.cond_some h
      have hk' : k = k' := of_decide_eq_true hk
      clear h
      subst hk'
      cases h9
      rw [show u = _ from hx, show v = _ from hy]
      refine ⟨fun ox oy => guard_plain t _ ox oy _ _ (by simp) (by simp), ?_, fun ox oy => guard_plain t _ ox oy _ _ (by simp) (by simp), ?_⟩
      · simp [binOp, Op.floatCmp, feql]
      · simp [binOp, Op.floatCmp, feql, bne]
    · cases h
  · rename_i fs hu
    cases hg : P.eqGuardType P.depth t with
    | true => rw [hg] at h; cases h
    | false =>
      rw [hg] at h
      simp only [cond_false] at h
      split at h
      · rename_i u' v' h1 h2
        obtain ⟨h, _⟩ := Rd.ofO_some h
        have e1 := toV_rel h1 hx
        have e2 := toV_rel h2 hy
        subst e1; subst e2
        have hr := eqV_run (P := P) (w := w) 8 (9999 + 1) (by omega) t u v b h
        obtain ⟨xs, ys, rfl, rfl⟩ := eqV_struct hu h
        exact eqRuns_struct hg hr
      · cases h
  · cases h
theorem eqIn_nilI (D : Nat) {ms : Array (String × TypeId)} {t : TypeId} (hu : P.underlying t = some (.interface ms)) : (Op.equalIn (D + 1) t .nilIface .nilIface).run P w = .ok true w := by
  simp [Op.equalIn, run_underlying hu]
theorem guard_nilI (t : TypeId) (op : BinOp) (ox oy : Operand) (h : (constO ox || constO oy) = true) : (eqGuard op t ox oy .nilIface .nilIface).run P w = .ok () w := by
  cases ox <;> cases oy <;> simp [constO] at h <;> cases op <;> simp [eqGuard]
theorem eqB_sound {t : TypeId} {ox oy : Operand} {x y : AV} {u v : Value} {b : Bool} {g g' : List Nat} (hH : HRel B c hp w) (hx : VRel B c hp w x u) (hy : VRel B c hp w y v) (h : (eqB P t ox oy x y).runO (lookIn hp) g = some (b, g')) :
    ((eqGuard .eql t ox oy u v).run P w = .ok () w ∧ (binOp .eql t u v).run P w = .ok (.bool b) w) ∧ (eqGuard .neq t ox oy u v).run P w = .ok () w ∧ (binOp .neq t u v).run P w = .ok (.bool (!b)) w := by
  unfold eqB at h
  split at h
  · split at h
    · rename_i ms hu
      obtain ⟨hc, h⟩ := Rd.cond_some h
      cases h
      rw [show u = _ from hx, show v = _ from hy]
      have h1 := eqIn_nilI (P := P) (w := w) 9999 hu
      refine ⟨⟨guard_nilI t _ ox oy hc, ?_⟩, guard_nilI t _ ox oy hc, ?_⟩
      · show (do pure (.bool (← Op.equal t .nilIface .nilIface)) : Sem Value).run P w = _
        rw [equal_def]; simp only [Sem.run_bind, h1, Result.andThen_ok]; rfl
      · show (do pure (.bool (!(← Op.equal t .nilIface .nilIface))) : Sem Value).run P w = _
        rw [equal_def]; simp only [Sem.run_bind, h1, Result.andThen_ok]; rfl
    · cases h
  · have := eqA_sound hH hx hy h
    exact ⟨⟨this.1 ox oy, this.2.1⟩, this.2.2.1 ox oy, this.2.2.2⟩
end
end Go.Proofs.YtbjanflhagkhlaaDoor.Sk
