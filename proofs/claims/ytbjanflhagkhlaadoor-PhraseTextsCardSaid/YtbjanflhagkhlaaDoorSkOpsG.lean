/- SK, part 12: what the interpreter says of an operation is what the machine does. -/
import Derived.Test.YtbjanflhagkhlaaDoorSkOpsF
set_option linter.unusedVariables false
set_option linter.unusedSimpArgs false
namespace Go.Proofs.YtbjanflhagkhlaaDoor.Sk
open Go Go.RowKit

section
variable {B : Nat → Prop} {c : Cx} {hp : List ABlk} {w : World} {P : Program}

/-- What becomes of an operation that only memory and values are in. -/
def OpOk (B : Nat → Prop) (c : Cx) (hp : List ABlk) (w : World) (P : Program) (n : Nat) (e : Eff) (s : Sem Next) : Prop :=
  (∃ u w', s.run P w = .ok (.value u) w' ∧ EffOk B c hp w n e u w') ∨ (∃ w', s.run P w = .ok .skip w' ∧ EffOk B c hp w n e undef w')

theorem OpOk.v {n : Nat} {e : Eff} {s : Sem Value} {u : Value} {w' : World} (h : s.run P w = .ok u w') (k : EffOk B c hp w n e u w') : OpOk B c hp w P n e (do pure (.value (← s))) :=
  .inl ⟨u, w', by simp [h], k⟩
theorem OpOk.val {n : Nat} {e : Eff} {s : Sem Value} {u : Value} {a : AV} {look : Nat → ABlk} {g g' : List Nat} (hH : HRel B c hp w) (he : (Eff.val a).runO look g = some (e, g')) (h : s.run P w = .ok u w) (hv : VRel B c hp w a u) :
    OpOk B c hp w P n e (do pure (.value (← s))) := by
  rw [valE he]; exact .v h (effOk_val hH hv)

theorem eff_sound {E : Env} {o : Oper} {ρA : Operand → AV} {ρV : Operand → Value} {n : Nat} {e : Eff} {g g' : List Nat} (hH : HRel B c hp w)
    (hρ : ∀ x, VRel B c hp w (ρA x) (ρV x)) (h : (eff E P o ρA n).runO (lookIn hp) g = some (e, g')) : OpOk B c hp w P n e (execOp ρV o) := by
  obtain ⟨dst, op, type, pos, after, guard⟩ := o
  cases op with
  | move x => simp only [eff] at h; rw [valE h]; exact .inl ⟨ρV x, w, by simp [execOp], effOk_val hH (hρ x)⟩
  | assign x => simp only [eff] at h; rw [valE h]; exact .inl ⟨ρV x, w, by simp [execOp], effOk_val hH (hρ x)⟩
  | pick cc a b =>
    simp only [eff] at h
    have hc := hρ cc
    have ha := hρ a
    have hb := hρ b
    split at h
    · rename_i q hq
      rw [hq] at hc
      have hcv : ρV cc = .bool q := hc
      split at h
      · rename_i x y hx hy
        rw [hx] at ha; rw [hy] at hb
        have e1 : ρV a = .bool x := ha
        have e2 : ρV b = .bool y := hb
        rw [valE h]
        refine .inl ⟨.bool (cond q x y), w, ?_, effOk_val hH rfl⟩
        cases q <;> simp [execOp, hcv, asBool, e1, e2]
      · cases q with
        | true => simp only [cond_true] at h; rw [valE h]; exact .inl ⟨ρV a, w, by simp [execOp, hcv, asBool], effOk_val hH ha⟩
        | false => simp only [cond_false] at h; rw [valE h]; exact .inl ⟨ρV b, w, by simp [execOp, hcv, asBool], effOk_val hH hb⟩
    · cases h
  | alloc t =>
    simp only [eff] at h
    split at h
    · rename_i cs hz
      cases h
      obtain ⟨u, w', hr, hk⟩ := alloc_sound (n := n) hH hz
      exact .v hr hk
    · cases h
  | box t x =>
    simp only [eff] at h
    obtain ⟨hk, h⟩ := Rd.cond_some h
    cases h
    obtain ⟨u, w', hr, hk⟩ := box_sound (P := P) (t := t) (n := n) hH hk (hρ x)
    exact .v hr hk
  | build t parts =>
    simp only [eff] at h
    split at h
    · rename_i z pl hz hpl
      split at h
      · rename_i cs hf
        rw [valE h]
        obtain ⟨u, w', hr, hk⟩ := build_sound (n := n) hH (fun p _ => hρ p.2) hz hpl hf
        exact .v hr hk
      · cases h
    · cases h
  | buildSlice t len parts =>
    simp only [eff] at h
    split at h
    · cases h
    · rename_i el hel
      split at h
      · rename_i z size t' hz hs ht
        obtain ⟨hok, h⟩ := Rd.cond_some h
        cases hlen : Nat.blt 0 len with
        | true =>
          rw [hlen] at h
          simp only [cond_true] at h
          split at h
          · rename_i cs hf
            obtain ⟨u, w', hr, hk⟩ := buildSlice_sound (E := E) (n := n) hH (fun p _ => hρ p.2) hel hz hs hok (by simpa [Nat.blt_eq] using hlen) hf h
            exact .v hr hk
          · cases h
        | false =>
          rw [hlen] at h
          obtain ⟨h2, h3⟩ := Rd.cond_some h
          clear h
          rw [Bool.and_eq_true] at h2
          have hl0 := Nat.eq_of_beq_eq_true h2.1
          subst hl0
          cases h3
          have hp0 : parts = #[] := by simpa using h2.2
          obtain ⟨u, w', hr, hk⟩ := buildEmpty_sound (n := n) (parts := parts.map fun p => (p.1, ρV p.2)) hH hel hok (by rw [hp0]; simp)
          exact .v hr hk
      · cases h
  | load t x =>
    obtain ⟨u, hr, hk⟩ := load_sound (o := ⟨dst, .load t x, type, pos, after, guard⟩) hH (hρ x) rfl rfl h
    exact .v hr hk
  | store t x y =>
    obtain ⟨w', hr, hk⟩ := store_sound (o := ⟨dst, .store t x y, type, pos, after, guard⟩) hH (hρ x) (hρ y) rfl rfl rfl h
    exact .inr ⟨w', by simp [execOp, hr], hk⟩
  | nilCheck x =>
    simp only [eff] at h
    have hx := hρ x
    split at h
    · rename_i heq
      rw [heq] at hx
      rw [valE h]
      have hx' := hx
      obtain ⟨_, b, _, hu⟩ := hx'
      exact .inl ⟨ρV x, w, by simp [execOp, hu], effOk_val hH hx⟩
    · rename_i heq
      rw [heq] at hx
      rw [valE h]
      have hx' := hx
      obtain ⟨b, o', cs, T, fz, _, hu, _⟩ := hx'
      exact .inl ⟨ρV x, w, by simp [execOp, hu], effOk_val hH hx⟩
    · rename_i heq
      rw [heq] at hx
      rw [valE h]
      have hx' := hx
      obtain ⟨_, b, q, _, hu, _⟩ := hx'
      exact .inl ⟨ρV x, w, by simp [execOp, hu], effOk_val hH hx⟩
    · rename_i heq
      rw [heq] at hx
      rw [valE h]
      have hx' := hx
      obtain ⟨vs, hu, _⟩ := hx'
      exact .inl ⟨ρV x, w, by simp [execOp, hu], effOk_val hH hx⟩
    · cases h
  | binOp op t x y t' =>
    simp only [eff] at h
    have fin : ∀ {r : Value}, (eqGuard op t x y (ρV x) (ρV y)).run P w = .ok () w → (binOp op t (ρV x) (ρV y)).run P w = .ok r w → OpOk B c hp w P n ⟨.sc r, [], []⟩ (execOp ρV ⟨dst, .binOp op t x y t', type, pos, after, guard⟩) := by
      intro r h1 h2
      exact .inl ⟨r, w, by simp [execOp, h1, h2], effOk_val hH rfl⟩
    cases op with
    | eql =>
      obtain ⟨b, g1, h1, h2⟩ := Rd.bind_some h
      rw [valE h2]
      have := eqB_sound hH (hρ x) (hρ y) h1
      exact fin this.1.1 this.1.2
    | neq =>
      obtain ⟨b, g1, h1, h2⟩ := Rd.bind_some h
      rw [valE h2]
      have := eqB_sound hH (hρ x) (hρ y) h1
      exact fin this.2.1 this.2.2
    | _ =>
      simp only at h
      have hx := hρ x
      have hy := hρ y
      split at h
      · rename_i u v hu hv
        obtain ⟨r, g1, h1, h2⟩ := Rd.bind_some h
        rw [valE h2]
        rw [hu] at hx; rw [hv] at hy
        have e1 : ρV x = u := hx
        have e2 : ρV y = v := hy
        have := abin_sound (P := P) (w := w) (t := t) h1 (by simp) (by simp) x y
        exact fin (by rw [e1, e2]; exact this.1) (by rw [e1, e2]; exact this.2)
      · cases h
  | unOp op t x =>
    simp only [eff] at h
    have hx := hρ x
    split at h
    · rename_i b hb
      rw [hb] at hx
      have e1 : ρV x = .bool b := hx
      rw [valE h]
      exact .inl ⟨.bool !b, w, by simp [execOp, e1, Op.unary], effOk_val hH rfl⟩
    · rename_i k a hb
      rw [hb] at hx
      have e1 : ρV x = .int k a := hx
      rw [valE h]
      exact .inl ⟨.int k (k.wrap (-a)), w, by simp [execOp, e1, Op.unary, Op.intArith], effOk_val hH rfl⟩
    · rename_i k a hb
      rw [hb] at hx
      have e1 : ρV x = .float k a := hx
      rw [valE h]
      exact .inl ⟨.float k (fneg k a), w, by simp [execOp, e1, Op.unary, fneg], effOk_val hH rfl⟩
    · cases h
  | convert s d x =>
    simp only [eff] at h
    have hx := hρ x
    split at h
    · rename_i k0 k k1 a h1 h2 h3
      rw [h3] at hx
      have e1 : ρV x = .int k1 a := hx
      rw [valE h]
      exact .inl ⟨.int k (k.wrap a), w, by simp [execOp, e1, convert, run_underlying h1, run_underlying h2, Conv.intToInt], effOk_val hH rfl⟩
    · rename_i b h1 h2 h3
      rw [h3] at hx
      have e1 : ρV x = .string b := hx
      rw [valE h]
      exact .inl ⟨.string b, w, by simp [execOp, e1, convert, run_underlying h1, run_underlying h2], effOk_val hH rfl⟩
    · rename_i k0 k k1 a h1 h2 h3
      rw [h3] at hx
      have e1 : ρV x = .int k1 a := hx
      rw [valE h]
      exact .inl ⟨.float k (floatOfInt k a), w, by simp [execOp, e1, convert, run_underlying h1, run_underlying h2, Conv.intToFloat, floatOfInt], effOk_val hH rfl⟩
    · rename_i k0 k j b h1 h2 h3
      rw [h3] at hx
      have e1 : ρV x = .float j b := hx
      obtain ⟨hc, h⟩ := Rd.chk_some h
      obtain ⟨n, hn⟩ := Option.isSome_iff_exists.1 hc
      rw [hn] at h
      rw [valE h]
      have hrun := run_convert_float_int (P := P) w s d j k b n (by rw [h1]; rfl) h2 hn
      exact .inl ⟨.int k n, w, by simp [execOp, e1, hrun], effOk_val hH rfl⟩
    · cases h
  | makeFunc fn first caps =>
    simp only [eff] at h
    split at h
    · rename_i f hf
      rw [valE h]
      have hfe : first = #[] := by
        apply Array.ext'
        simpa using hf
      subst hfe
      refine .inl ⟨.func (.func f) #[] (caps.map ρV), w, by simp [execOp, Instr.makeFunc], effOk_val hH ⟨_, rfl, ?_⟩⟩
      rw [Array.toList_map]
      generalize caps.toList = l
      induction l with
      | nil => trivial
      | cons a l ih => exact ⟨hρ a, ih⟩
    · cases h
  | makeSlice T l cc =>
    simp only [eff] at h
    split at h
    · cases h
    · rename_i el hel
      have hl := hρ l
      have hc := hρ cc
      split at h
      · rename_i z t k a k' b hz ht h1 h2
        rw [h1] at hl; rw [h2] at hc
        have e1 : ρV l = .int k a := hl
        have e2 : ρV cc = .int k' b := hc
        obtain ⟨u, w', hr, hk⟩ := makeSlice_sound (E := E) (kl := k) (kc := k') hH hel hz h
        rw [← e1, ← e2] at hr
        exact .v hr hk
      · cases h
  | slice T x lo hi mx =>
    simp only [eff] at h
    have hlo : ∀ (q : Option Operand), (match q.map ρA, q.map ρV with | none, none => True | some x, some y => VRel B c hp w x y | _, _ => False) := by
      intro q; cases q with
      | none => trivial
      | some q => exact hρ q
    have hx := hρ x
    have ownS : ∀ {id off n' : Nat} {fr : Bool} {e' : TypeId} {t : Ty} {l : List t.den}, lookIn hp id = .rows fr e' t l → VRel B c hp w (.osl id off n') (ρV x) →
        (cond (decide (elemA P T = some e') && decide (sizeA P e' = some t.size)) ((sliceOwn id off n' l.length (lo.map ρA) (hi.map ρA)).bind Eff.val) .fail : Rd Eff).runO (lookIn hp) (id :: g) = some (e, g') → ∀ mx', mx' = none →
        OpOk B c hp w P n e (execOp ρV ⟨dst, .slice T x lo hi mx', type, pos, after, guard⟩) := by
      intro id off n' fr e' t l hl hv h mx' hmx
      subst hmx
      obtain ⟨hok, h⟩ := Rd.cond_some h
      simp only [Bool.and_eq_true, decide_eq_true_eq] at hok
      obtain ⟨r, g1, h1, h2⟩ := Rd.bind_some h
      have hsl := sub_len hH hv hl
      obtain ⟨v, hr, hv'⟩ := sub_slice (P := P) (elemA_some hok.1) hok.2 hv hl (hlo lo) (hlo hi) hsl.1 hsl.2.1 h1
      exact .val hH h2 hr hv'
    have maxS : ∀ {e' : TypeId} {sz N n' q : Nat} {A : Option Addr} {gg : List Nat} {mx' : Operand}, ρV x = .slice A n' q → N ≤ q →
        (cond (decide (elemA P T = some e') && decide (sizeA P e' = some sz)) ((sliceMax N (lo.map ρA) (hi.map ρA) (ρA mx')).bind Eff.val) .fail : Rd Eff).runO (lookIn hp) gg = some (e, g') →
        OpOk B c hp w P n e (execOp ρV ⟨dst, .slice T x lo hi (some mx'), type, pos, after, guard⟩) := by
      intro e' sz N n' q A gg mx' hu hN h
      obtain ⟨hok, h⟩ := Rd.cond_some h
      simp only [Bool.and_eq_true, decide_eq_true_eq] at hok
      obtain ⟨r, g1, h1, h2⟩ := Rd.bind_some h
      obtain ⟨v, hr, hv'⟩ := max_slice (P := P) (A := A) (n := n') (elemA_some hok.1) hok.2 hN (hlo lo) (hlo hi) (hρ mx') h1
      exact .val hH h2 (by rw [hu]; exact hr) hv'
    cases mx with
    | none =>
      simp only at h
      split at h
      · rename_i id hq
        rw [hq] at hx
        simp only [Rd.runO] at h
        split at h
        · rename_i fr e' t l hl
          exact ownS hl (own_sub hH hx hl) h none rfl
        · cases h
      · rename_i id off n' hq
        rw [hq] at hx
        simp only [Rd.runO] at h
        split at h
        · rename_i fr e' t l hl
          exact ownS hl hx h none rfl
        · cases h
      · obtain ⟨hok, h⟩ := Rd.cond_some h
        obtain ⟨r, g1, h1, h2⟩ := Rd.bind_some h
        obtain ⟨v, hr, hv⟩ := sliceA_sound (P := P) (T := T) (hρ x) (hlo lo) (hlo hi) (show SliceT P T (ρA x) by
          cases hx : ρA x with
          | ros fr e t l =>
            rw [hx] at hok
            simp only [sliceOk, Bool.and_eq_true, decide_eq_true_eq] at hok
            exact ⟨elemA_some hok.1, hok.2⟩
          | sc v =>
            cases v with
            | string s =>
              rw [hx] at hok
              simp only [sliceOk] at hok
              cases hu : P.underlying T with
              | none => rw [hu] at hok; cases hok
              | some d => rw [hu] at hok; cases d <;> first | exact hu | cases hok
            | _ => trivial
          | _ => trivial) h1
        exact .val hH h2 hr hv
    | some mx =>
      simp only at h
      split at h
      · rename_i id hq
        rw [hq] at hx
        simp only [Rd.runO] at h
        split at h
        · rename_i fr e' t l hl
          obtain ⟨_, _, A, q, hu, hle⟩ := sub_len hH (own_sub hH hx hl) hl
          exact maxS hu hle h
        · cases h
      · rename_i id off n' hq
        rw [hq] at hx
        simp only [Rd.runO] at h
        split at h
        · rename_i fr e' t l hl
          obtain ⟨_, _, A, q, hu, hle⟩ := sub_len hH hx hl
          exact maxS hu hle h
        · cases h
      · rename_i fr e' t l hq
        rw [hq] at hx
        obtain ⟨A, q, hu, hle, _⟩ := hx
        exact maxS hu hle h
      · cases h
  | fieldAddr s x f =>
    simp only [eff] at h
    split at h
    · cases h
    · rename_i k hk
      have hx := hρ x
      split at h
      · rename_i id off hq
        rw [hq] at hx
        obtain ⟨hD, b, hs, hu⟩ := hx
        refine .val hH h (u := .pointer (some ⟨b, off + k, none⟩)) (by rw [hu]; exact run_fieldAt hk b off) ⟨hD, b, hs, rfl⟩
      · rename_i fr t x' off hq
        rw [hq] at hx
        obtain ⟨b, o', cs, T, fz, hb, hu, hw, hsz, hc⟩ := hx
        refine .val hH h (u := .pointer (some ⟨b, o' + off + k, none⟩)) (by rw [hu]; exact run_fieldAt hk b _) ⟨b, o', cs, T, fz, hb, by rw [Nat.add_assoc], hw, hsz, hc⟩
      · rename_i id i off hq
        rw [hq] at hx
        obtain ⟨hD, b, q, hs, hu, hr⟩ := hx
        refine .val hH h (u := .pointer (some ⟨b, q + k, none⟩)) (by rw [hu]; exact run_fieldAt hk b _) ⟨hD, b, q + k, hs, rfl, fun fr T t l hl => by rw [hr fr T t l hl, Nat.add_assoc]⟩
      · cases h
  | field s x f =>
    simp only [eff] at h
    split at h
    · rename_i fs hu
      have hx := hρ x
      split at h
      · rename_i g0 cs hg0 hq
        rw [hq] at hx
        obtain ⟨vs, hv, hr⟩ := hx
        obtain ⟨r, g1, h1, h2⟩ := Rd.bind_some h
        obtain ⟨u, hpr, hvu⟩ := part_rel hr h1
        have hg0' : fs[f]? = some g0 := by simpa using hg0
        exact .val hH h2 (by rw [hv]; simp [Instr.field, run_underlying hu, hg0', asAgg, hpr]) hvu
      · cases h
    · cases h
  | indexAddr T x i =>
    simp only [eff] at h
    have hi := hρ i
    have hx := hρ x
    split at h
    · rename_i k a hia
      rw [hia] at hi
      have e1 : ρV i = .int k a := hi
      split at h
      · rename_i el fr e' t l hT hq
        rw [hq] at hx
        obtain ⟨hs, h⟩ := Rd.cond_some h
        obtain ⟨hb, h⟩ := Rd.chk_some h
        simp only [Bool.and_eq_true, decide_eq_true_eq] at hb
        obtain ⟨p, hr, hv⟩ := index_ros (k := k) hT (of_decide_eq_true hs) hx hb.1 hb.2
        exact .val hH h (by rw [e1]; exact hr) hv
      · rename_i el id hT hq
        rw [hq] at hx
        simp only [Rd.runO] at h
        split at h
        · rename_i fr e' t l hl
          obtain ⟨hs, h⟩ := Rd.cond_some h
          obtain ⟨hb, h⟩ := Rd.chk_some h
          simp only [Bool.and_eq_true, decide_eq_true_eq] at hb
          obtain ⟨p, hr, hv⟩ := index_own (k := k) hH hl hT (of_decide_eq_true hs) hx hb.1 hb.2
          exact .val hH h (by rw [e1]; exact hr) hv
        · cases h
      · rename_i el id off n' hT hq
        rw [hq] at hx
        simp only [Rd.runO] at h
        split at h
        · rename_i fr e' t l hl
          obtain ⟨hs, h⟩ := Rd.cond_some h
          obtain ⟨hb, h⟩ := Rd.chk_some h
          simp only [Bool.and_eq_true, decide_eq_true_eq] at hb
          obtain ⟨p, hr, hv⟩ := index_sub (k := k) hH hl hT (of_decide_eq_true hs) hx hb.1 hb.2
          exact .val hH h (by rw [e1]; exact hr) hv
        · cases h
      · rename_i len el id off hT hq
        rw [hq] at hx
        split at h
        · rename_i sz hs
          obtain ⟨hb, h⟩ := Rd.chk_some h
          simp only [Bool.and_eq_true, decide_eq_true_eq] at hb
          obtain ⟨hD, b, hs', hu⟩ := hx
          exact .val hH h (by rw [e1, hu]; exact index_arr hT hs hb.1 hb.2) ⟨hD, b, hs', rfl⟩
        · cases h
      · rename_i len el fr t x' off hT hq
        rw [hq] at hx
        split at h
        · rename_i sz hs
          obtain ⟨hb, h⟩ := Rd.chk_some h
          simp only [Bool.and_eq_true, decide_eq_true_eq] at hb
          obtain ⟨b, o', cs, T', fz, hb', hu, hw, hsz, hc⟩ := hx
          exact .val hH h (by rw [e1, hu]; exact index_arr hT hs hb.1 hb.2) ⟨b, o', cs, T', fz, hb', by rw [Nat.add_assoc], hw, hsz, hc⟩
        · cases h
      · cases h
    · cases h
  | index T x i =>
    simp only [eff] at h
    have hi := hρ i
    have hx := hρ x
    split at h
    · rename_i k a hia
      rw [hia] at hi
      have e1 : ρV i = .int k a := hi
      split at h
      · rename_i s hT hq
        rw [hq] at hx
        have e2 : ρV x = .string s := hx
        obtain ⟨hb, h⟩ := Rd.chk_some h
        simp only [Bool.and_eq_true, decide_eq_true_eq] at hb
        refine .val hH h (u := .int .u8 (s.data.getD a.toNat 0).toNat) ?_ rfl
        have hlt : a.toNat < s.size := by omega
        have hget : s[a.toNat]? = some (s.data.getD a.toNat 0) := by
          rw [getElem?_pos s a.toNat hlt]
          have h2 : a.toNat < s.data.size := hlt
          show some s.data[a.toNat] = some (s.data.getD a.toNat 0)
          rw [Array.getD, dif_pos h2]
          rfl
        rw [e1, e2]
        simp [Instr.index, run_underlying hT, asIntOf, hb.1, hget]
      · rename_i len el cs hT hq
        rw [hq] at hx
        obtain ⟨vs, hv, hr⟩ := hx
        split at h
        · rename_i sz hs
          obtain ⟨hb, h⟩ := Rd.chk_some h
          simp only [Bool.and_eq_true, decide_eq_true_eq] at hb
          obtain ⟨r, g1, h1, h2⟩ := Rd.bind_some h
          obtain ⟨u, hpr, hvu⟩ := at_rel hr h1
          refine .val hH h2 ?_ hvu
          rw [e1, hv]
          simp [Instr.index, run_underlying hT, asIntOf, hb.1, hb.2, run_sizeOf hs, hpr]
        · cases h
      · cases h
    · cases h
  | makeMap t r =>
    cases r with
    | some _ => simp only [eff] at h; cases h
    | none =>
      simp only [eff] at h
      cases h
      obtain ⟨u, w', hr, hk⟩ := makeMap_sound (P := P) (n := n) hH t
      exact .v hr hk
  | lookup T x i ok =>
    cases ok with
    | true => simp only [eff] at h; cases h
    | false =>
      simp only [eff] at h
      have hx := hρ x
      have hi := hρ i
      split at h
      · rename_i id k q1 q2
        rw [q1] at hx
        rw [q2] at hi
        have hi : ρV i = .string k := hi
        obtain ⟨hok, h2⟩ := Rd.cond_some h
        change (match lookIn hp id with
          | .smap l => Eff.val (AV.sc (.int .i64 ((mfind l k).getD 0)))
          | _ => Rd.fail).runO (lookIn hp) (id :: g) = some (e, g') at h2
        split at h2
        · rename_i l hl
          exact .val hH h2 (u := .int .i64 ((mfind l k).getD 0)) (by rw [hi]; exact lookup_sound hH hok hl hx) rfl
        · cases h2
      · cases h
  | mapUpdate T x i y =>
    simp only [eff] at h
    have hx := hρ x
    have hi := hρ i
    have hy := hρ y
    split at h
    · rename_i id k z q1 q2 q3
      rw [q1] at hx
      rw [q2] at hi
      rw [q3] at hy
      have hi : ρV i = .string k := hi
      have hy : ρV y = .int .i64 z := hy
      obtain ⟨hok, h2⟩ := Rd.cond_some h
      change (match lookIn hp id with
        | .smap l => Rd.ret (Eff.mk .any [] [(id, .smap (mset l k z))])
        | _ => Rd.fail).runO (lookIn hp) (id :: g) = some (e, g') at h2
      split at h2
      · rename_i l hl
        cases h2
        obtain ⟨w', hr, hk⟩ := update_sound (x := z) (n := n) hH hok hl hx undef
        exact .inr ⟨w', by simp [execOp, hi, hy, hr], hk⟩
      · cases h2
    · cases h
  | extract x i =>
    simp only [eff] at h
    have hx := hρ x
    split at h
    · rename_i vs hq
      rw [hq] at hx
      obtain ⟨us, hu, hr⟩ := hx
      split at h
      · rename_i v hv
        obtain ⟨r, hr1, hr2⟩ := hr.get i v hv
        have hr1' : us[i]? = some r := by simpa using hr1
        exact .val hH h (by rw [hu]; simp [Instr.extract, hr1']) hr2
      · cases h
    · cases h
  | call cl =>
    obtain ⟨callee, args, argTypes⟩ := cl
    cases callee with
    | builtin b =>
      simp only [eff] at h
      have hres : (execOp ρV ⟨dst, .call ⟨.builtin b, args, argTypes⟩, type, pos, after, guard⟩) = builtin b argTypes type (args.map fun | .const _ => true | _ => false) (args.map ρV) := by
        rfl
      rw [hres]
      split at h
      · rename_i x t h1 h2
        have ha : ∃ y, args = #[y] := by
          have : args.toList.length = 1 := by simpa using congrArg List.length h1
          match hq : args.toList, this with
          | [y], _ => exact ⟨y, by apply Array.ext'; simpa using hq⟩
        obtain ⟨y, rfl⟩ := ha
        have ht : argTypes = #[t] := by apply Array.ext'; simpa using h2
        subst ht
        have hy : ρA y = x := by simpa using h1
        have hx := hρ y
        rw [hy] at hx
        split at h
        · rename_i e' hT
          obtain ⟨m, g1, h3, h4⟩ := Rd.bind_some h
          obtain ⟨A, k, q, hu, rfl⟩ := lenA_sound hH hx h3
          exact .val hH h4 (u := .int .i64 k) (by simp [Builtin.len_, hu, run_underlying hT, goInt]) rfl
        · rename_i hT
          split at h
          · rename_i s
            have hu : ρV y = .string s := hx
            exact .val hH h (u := .int .i64 s.size) (by simp [Builtin.len_, hu, run_underlying hT, goInt]) rfl
          · cases h
        · rename_i m el hT
          exact .val hH h (u := .int .i64 m) (by simp [Builtin.len_, run_underlying hT, goInt]) rfl
        · rename_i kk ee hT
          split at h
          · rename_i id
            change (match lookIn hp id with
              | .smap l => Eff.val (AV.sc (.int .i64 l.length))
              | _ => Rd.fail).runO (lookIn hp) (id :: g) = some (e, g') at h
            split at h
            · rename_i l hl
              exact .val hH h (u := .int .i64 l.length) (by simpa using maplen_sound (P := P) hH hT hl hx type) rfl
            · cases h
          · cases h
        · cases h
      · rename_i s x T T' h1 h2
        obtain ⟨hTT, h7⟩ := Rd.cond_some h
        clear h
        have hTT' := Nat.eq_of_beq_eq_true hTT
        clear hTT
        subst hTT'
        obtain ⟨y, z, rfl⟩ : ∃ y z, args = #[y, z] := by
          have : args.toList.length = 2 := by simpa using congrArg List.length h1
          match hq : args.toList, this with
          | [y, z], _ => exact ⟨y, z, by apply Array.ext'; simpa using hq⟩
        have ht : argTypes = #[T, T] := by apply Array.ext'; simpa using h2
        subst ht
        simp only [List.map_cons, List.map_nil, List.cons.injEq, and_true] at h1
        obtain ⟨hy, hz⟩ := h1
        have hs := hρ y
        have hx := hρ z
        rw [hy] at hs; rw [hz] at hx
        obtain ⟨r, w', hr, hk⟩ := append_sound hH hs hx h7 type
        exact .v (by simpa using hr) hk
      · rename_i x T h1 h2
        obtain ⟨y, rfl⟩ : ∃ y, args = #[y] := by
          have : args.toList.length = 1 := by simpa using congrArg List.length h1
          match hq : args.toList, this with
          | [y], _ => exact ⟨y, by apply Array.ext'; simpa using hq⟩
        have ht : argTypes = #[T] := by apply Array.ext'; simpa using h2
        subst ht
        have hy : ρA y = x := by simpa using h1
        have hx := hρ y
        rw [hy] at hx
        obtain ⟨r, w', hr, hk⟩ := clear_sound (ty := type) hH hx h
        exact .v (by simpa using hr) hk
      · rename_i at1 k a k' b h1
        obtain ⟨hkk, h7⟩ := Rd.cond_some h
        clear h
        have hk' := of_decide_eq_true hkk
        clear hkk
        subst hk'
        obtain ⟨y, z, rfl⟩ : ∃ y z, args = #[y, z] := by
          have : args.toList.length = 2 := by simpa using congrArg List.length h1
          match hq : args.toList, this with
          | [y, z], _ => exact ⟨y, z, by apply Array.ext'; simpa using hq⟩
        simp only [List.map_cons, List.map_nil, List.cons.injEq, and_true] at h1
        obtain ⟨hy, hz⟩ := h1
        have hs := hρ y
        have hx := hρ z
        rw [hy] at hs; rw [hz] at hx
        have e1 : ρV y = .int k a := hs
        have e2 : ρV z = .int k b := hx
        exact .val hH h7 (u := .int k (if b < a then b else a)) (by simp [Builtin.min_, Builtin.min2, e1, e2]) rfl
      · rename_i at1 k a k' b h1
        obtain ⟨hkk, h7⟩ := Rd.cond_some h
        clear h
        have hk' := of_decide_eq_true hkk
        clear hkk
        subst hk'
        obtain ⟨y, z, rfl⟩ : ∃ y z, args = #[y, z] := by
          have : args.toList.length = 2 := by simpa using congrArg List.length h1
          match hq : args.toList, this with
          | [y, z], _ => exact ⟨y, z, by apply Array.ext'; simpa using hq⟩
        simp only [List.map_cons, List.map_nil, List.cons.injEq, and_true] at h1
        obtain ⟨hy, hz⟩ := h1
        have hs := hρ y
        have hx := hρ z
        rw [hy] at hs; rw [hz] at hx
        have e1 : ρV y = .int k a := hs
        have e2 : ρV z = .int k b := hx
        exact .val hH h7 (u := .int k (if b > a then b else a)) (by simp [Builtin.max_, Builtin.max2, e1, e2]) rfl
      · rename_i at1 k a k' b k2 d h1
        obtain ⟨hkk, h6⟩ := Rd.cond_some h
        obtain ⟨hkk2, h7⟩ := Rd.cond_some h6
        clear h h6
        have hk' := of_decide_eq_true hkk
        have hk2 := of_decide_eq_true hkk2
        clear hkk hkk2
        subst hk'
        subst hk2
        obtain ⟨y, z, z2, rfl⟩ : ∃ y z z2, args = #[y, z, z2] := by
          have : args.toList.length = 3 := by simpa using congrArg List.length h1
          match hq : args.toList, this with
          | [y, z, z2], _ => exact ⟨y, z, z2, by apply Array.ext'; simpa using hq⟩
        simp only [List.map_cons, List.map_nil, List.cons.injEq, and_true] at h1
        obtain ⟨hy, hz, hz2⟩ := h1
        have hs := hρ y
        have hx := hρ z
        have hx2 := hρ z2
        rw [hy] at hs; rw [hz] at hx; rw [hz2] at hx2
        have e1 : ρV y = .int k a := hs
        have e2 : ρV z = .int k b := hx
        have e3 : ρV z2 = .int k d := hx2
        exact .val hH h7 (u := .int k (if d > (if b > a then b else a) then d else (if b > a then b else a))) (by simp [Builtin.max_, Builtin.max2, e1, e2, e3]) rfl
      · cases h
    | _ => simp only [eff] at h; cases h
  | _ => simp only [eff] at h; cases h
end
end Go.Proofs.YtbjanflhagkhlaaDoor.Sk
