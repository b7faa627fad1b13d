/- SK, part 21: what a claim's arguments are, as data. -/
import Derived.Test.YtbjanflhagkhlaaDoorSkSpec
import Derived.OpenShut
import Derived.ChangeSlices
import Derived.Carry
import Derived.SizedLaws
import Derived.WideKeyElems4
set_option linter.unusedVariables false
set_option linter.unusedSimpArgs false
namespace Go.Proofs.YtbjanflhagkhlaaDoor.Sk
open Go Go.RowKit Go.WideShapes Go.ChangeShapes

/-- What is known of a datum that comes from outside. -/
def Wf (P : Program) : (t : Ty) → t.den → Prop
  | .int k, x => (Lit.int k x).wf = true
  | .bool, _ => True
  | .str, s => ByteArray.size s ≤ reachBytes
  | .flt, _ => True
  | .unit, _ => True
  | .pair a b, x => Wf P a x.1 ∧ Wf P b x.2
  | .vec n k, l => List.length l = n ∧ ∀ x : Int, x ∈ (l : List Int) → (Lit.int k x).wf = true
  | .sl e t, l => List.length l * P.bytesOf e ≤ reachBytes ∧ ∀ x : t.den, x ∈ (l : List t.den) → Wf P t x

mutual
def tyB (P : Program) : Ty → TypeId → Bool
  | .int k, t => match P.underlying t with | some (.int k') => decide (k' = k) | _ => false
  | .bool, t => match P.underlying t with | some .bool => true | _ => false
  | .str, t => match P.underlying t with | some .string => true | _ => false
  | .flt, _ => false
  | .unit, t => match P.underlying t with | some (.struct fs) => fs.toList.isEmpty && Nat.beq (P.cellsOf t) 0 | _ => false
  | .pair a b, t => match P.underlying t with
    | some (.struct fs) => Nat.beq (P.cellsOf t) (a.size + b.size) && (match fs.toList with
      | f :: r => Nat.beq f.offset 0 && Nat.beq (P.cellsOf f.type) a.size && tyB P a f.type && (match r with
        | [g] => (Nat.beq g.offset a.size && Nat.beq (P.cellsOf g.type) b.size && tyB P b g.type) || fsB P b r a.size
        | _ => fsB P b r a.size)
      | [] => false)
    | _ => false
  | .vec n k, t => match P.underlying t with
    | some (.array m e) => Nat.beq (P.cellsOf t) n && (match P.underlying e with
      | some (.int k') => Nat.beq m n && Nat.beq (P.cellsOf e) 1 && decide (k' = k)
      | some (.array m2 e2) => Nat.beq (m2 * m) n && Nat.beq (P.cellsOf e) m2 && Nat.beq (P.cellsOf e2) 1 && (match P.underlying e2 with | some (.int k') => decide (k' = k) | _ => false)
      | _ => false)
    | _ => false
  | .sl e T, t => match P.underlying t with
    | some (.slice e') => Nat.beq e' e && Nat.beq (P.cellsOf e) T.size && Nat.blt 0 T.size && tyB P T e
    | _ => false
def fsB (P : Program) : Ty → List Field → Nat → Bool
  | .unit, fs, _ => fs.isEmpty
  | .pair a b, f :: r, off => Nat.beq f.offset off && Nat.beq (P.cellsOf f.type) a.size && tyB P a f.type && (match r with
    | [g] => (Nat.beq g.offset (off + a.size) && Nat.beq (P.cellsOf g.type) b.size && tyB P b g.type) || fsB P b r (off + a.size)
    | _ => fsB P b r (off + a.size))
  | _, _, _ => false
end

section
variable {H : Type} {enc : TypeId × Value → H} {P : Program} {w : World}

theorem weightsAll_mem {e : TypeId} : ∀ {ds : List (DataW H)} {d : DataW H}, d ∈ ds → ∀ n, n ∈ d.weights P e → n ∈ DataW.weightsAll P e ds
  | [], d, h, _, _ => by cases h
  | d0 :: ds, d, h, n, hn => by
    simp only [DataW.weightsAll, List.mem_append]
    rcases List.mem_cons.1 h with rfl | h
    · exact .inl hn
    · exact .inr (weightsAll_mem h n hn)

/-- A field's part, and its weights. -/
def FieldsOk (enc : TypeId × Value → H) (P : Program) (w : World) (cs : List Value) (fs : List Field) : Prop :=
  ∀ (i : Nat) (f : Field), fs[i]? = some f → ∃ m d, DataW.trod enc P w 0 (fun _ => true) true m f.type ((cs.drop f.offset).take (P.cellsOf f.type)) = some d ∧ ∀ n, n ∈ d.1.weights P f.type → n ≤ reachBytes

abbrev oldB (w : World) : Nat → Prop := fun b => b < w.heap.size

theorem cell_old {a : Addr} {v : Value} (h : w.cell? a = some v) : ∃ cs T fz, w.heap[a.block]? = some (.cells cs T fz) ∧ cs[a.off]? = some v ∧ a.block < w.heap.size ∧ a.spot = none := by
  have hs := World.cell?_spot h
  unfold World.cell? at h
  split at h
  · rename_i c T fz hh
    rw [hs] at h
    refine ⟨c, T, fz, hh, by simpa using h, ?_, hs⟩
    rcases Nat.lt_or_ge a.block w.heap.size with h' | h'
    · exact h'
    · rw [Array.getElem?_eq_none h'] at hh; cases hh
  · cases h

def intV : Option Value → Int
  | some (.int _ z) => z
  | _ => 0

theorem vec_open {m : Nat} {k' : IntKind} {cs : List Value} (hl : cs.length = m) (hat : ∀ i, i < m → ∃ z, cs[i]? = some (.int k' z) ∧ (Lit.int k' z).wf = true) :
    ∃ y : (Ty.vec m k').den, CRel w (oldB w) (.vec m k') y cs ∧ Wf P (.vec m k') y := by
  have hcs : cs = (List.range m).map fun i => Value.int k' (intV cs[i]?) := by
    apply List.ext_getElem?
    intro i
    by_cases hi : i < m
    · obtain ⟨z, hz, _⟩ := hat i hi
      rw [List.getElem?_map, List.getElem?_range hi, Option.map_some]
      simp only [hz, intV]
    · rw [List.getElem?_eq_none (by omega), List.getElem?_eq_none (by simp; omega)]
  refine ⟨(List.range m).map fun i => intV cs[i]?, ⟨by simp, ?_⟩, by simp, fun z hz => ?_⟩
  · rw [List.map_map]; exact hcs
  · simp only [List.mem_map, List.mem_range] at hz
    obtain ⟨i, hi, rfl⟩ := hz
    obtain ⟨z, hz, hwf⟩ := hat i hi
    simp only [hz, intV]; exact hwf

mutual
theorem open_ty : ∀ (T : Ty) (t : TypeId) (n : Nat) (cs : List Value) (x : DataW H × List MemPlace), tyB P T t = true → DataW.trod enc P w 0 (fun _ => true) true n t cs = some x → (∀ m, m ∈ x.1.weights P t → m ≤ reachBytes) →
    ∃ y : T.den, CRel w (oldB w) T y cs ∧ Wf P T y
  | .int k, t, n, cs, x, hB, h, hw => by
    unfold tyB at hB
    split at hB
    · rename_i k' hu
      have := of_decide_eq_true hB
      subst this
      obtain ⟨m, rfl, rfl, hwf⟩ := DataW.trod_int hu h
      exact ⟨m, rfl, hwf⟩
    · cases hB
  | .bool, t, n, cs, x, hB, h, hw => by
    unfold tyB at hB
    split at hB
    · rename_i hu
      obtain ⟨b, rfl, rfl⟩ := DataW.trod_bool hu h
      exact ⟨b, rfl, trivial⟩
    · cases hB
  | .flt, t, n, cs, x, hB, h, hw => by unfold tyB at hB; cases hB
  | .str, t, n, cs, x, hB, h, hw => by
    unfold tyB at hB
    split at hB
    · rename_i hu
      obtain ⟨s, rfl, rfl, _⟩ := DataW.trod_string hu h
      refine ⟨s, rfl, ?_⟩
      have := hw s.data.toList.length (by simp [DataW.weights])
      show ByteArray.size s ≤ _
      simpa using this
    · cases hB
  | .unit, t, n, cs, x, hB, h, hw => by
    unfold tyB at hB
    split at hB
    · rename_i fs hu
      obtain ⟨xs, m, _, rfl, hl, _, _⟩ := DataW.trod_struct hu h
      rw [Bool.and_eq_true] at hB
      rw [Nat.eq_of_beq_eq_true hB.2] at hl
      exact ⟨(), List.eq_nil_of_length_eq_zero hl, trivial⟩
    · cases hB
  | .pair a b, t, n, cs, x, hB, h, hw => by
    unfold tyB at hB
    split at hB
    · rename_i fs hu
      obtain ⟨xs, m, _, rfl, hl, hxl, hf⟩ := DataW.trod_struct hu h
      rw [Bool.and_eq_true] at hB
      rw [Nat.eq_of_beq_eq_true hB.1] at hl
      have hF : FieldsOk enc P w cs fs.toList := by
        intro i f hi
        have hi' : fs[i]? = some f := by simpa using hi
        have hlt : i < xs.length := by
          rw [hxl]
          rcases Nat.lt_or_ge i fs.size with h' | h'
          · exact h'
          · rw [Array.getElem?_eq_none h'] at hi'; cases hi'
        refine ⟨m, xs[i], (hf i f hi').trans (List.getElem?_eq_getElem hlt), fun k hk => hw k ?_⟩
        simp only [DataW.weights, hu]
        exact DataW.weights_mem_each (j := i) (t := f.type) (d := xs[i].1) (by simp [hi']) (by simp [hlt]) k hk
      split at hB
      · rename_i f r hfs
        rw [hfs] at hF
        obtain ⟨_, hB⟩ := hB
        rw [Bool.and_eq_true, Bool.and_eq_true, Bool.and_eq_true] at hB
        obtain ⟨⟨⟨hB1, hB2⟩, hB3⟩, hB4⟩ := hB
        have hoff := Nat.eq_of_beq_eq_true hB1
        have hsz := Nat.eq_of_beq_eq_true hB2
        obtain ⟨m0, d0, h0, w0⟩ := hF 0 f rfl
        rw [hoff, hsz, List.drop_zero] at h0
        obtain ⟨y0, c0, f0⟩ := open_ty a f.type m0 _ d0 hB3 h0 w0
        have hF' : FieldsOk enc P w cs r := fun i f' hi => hF (i + 1) f' (by simpa using hi)
        obtain ⟨y1, c1, f1⟩ : ∃ y : b.den, CRel w (oldB w) b y (cs.drop a.size) ∧ Wf P b y := by
          split at hB4
          · rename_i g
            rw [Bool.or_eq_true] at hB4
            rcases hB4 with hB4 | hB4
            · rw [Bool.and_eq_true, Bool.and_eq_true] at hB4
              obtain ⟨⟨g1, g2⟩, g3⟩ := hB4
              obtain ⟨m1, d1, h1, w1⟩ := hF' 0 g rfl
              rw [Nat.eq_of_beq_eq_true g1, Nat.eq_of_beq_eq_true g2, List.take_of_length_le (by rw [List.length_drop, hl]; omega)] at h1
              exact open_ty b g.type m1 _ d1 g3 h1 w1
            · exact open_fs b _ a.size cs hB4 hF' hl
          · exact open_fs b _ a.size cs hB4 hF' hl
        exact ⟨(y0, y1), ⟨_, _, (List.take_append_drop a.size cs).symm, c0, c1⟩, f0, f1⟩
      · exact absurd hB.2 (by simp)
    · cases hB
  | .vec q k, t, n, cs, x, hB, h, hw => by
    unfold tyB at hB
    split at hB
    · rename_i m e hu
      rw [Bool.and_eq_true] at hB
      obtain ⟨h2, hB⟩ := hB
      have e2 := Nat.eq_of_beq_eq_true h2
      obtain ⟨xs, j, _, rfl, hl, hxl, hf⟩ := DataW.trod_array hu h
      rw [e2] at hl
      split at hB
      · rename_i k' he
        rw [Bool.and_eq_true, Bool.and_eq_true] at hB
        obtain ⟨⟨h1, h3⟩, h4⟩ := hB
        have e1 := Nat.eq_of_beq_eq_true h1
        have e3 := Nat.eq_of_beq_eq_true h3
        have := of_decide_eq_true h4
        subst this
        subst e1
        refine vec_open hl fun i hi => ?_
        have := hf i hi
        rw [e3, Nat.mul_one, List.getElem?_eq_getElem (by omega)] at this
        obtain ⟨z, hz, _, hwf⟩ := DataW.trod_int he this
        refine ⟨z, ?_, hwf⟩
        have := congrArg (·[0]?) hz
        simpa using this
      · rename_i m2 f he
        rw [Bool.and_eq_true, Bool.and_eq_true, Bool.and_eq_true] at hB
        obtain ⟨⟨⟨h1, h3⟩, h5⟩, h4⟩ := hB
        have e1 := Nat.eq_of_beq_eq_true h1
        have e3 := Nat.eq_of_beq_eq_true h3
        have e5 := Nat.eq_of_beq_eq_true h5
        split at h4
        · rename_i k' hf2
          have := of_decide_eq_true h4
          subst this
          subst e1
          refine vec_open hl fun i hi => ?_
          have hm2 : 0 < m2 := by
            rcases Nat.eq_zero_or_pos m2 with h' | h'
            · subst h'; simp at hi
            · exact h'
          have hi2 : i / m2 < m := Nat.div_lt_of_lt_mul hi
          have hi3 : i % m2 < m2 := Nat.mod_lt _ hm2
          have hr := hf (i / m2) hi2
          rw [e3, List.getElem?_eq_getElem (by omega)] at hr
          obtain ⟨xs2, j2, _, _, hl2, hxl2, hg⟩ := DataW.trod_array he hr
          have := hg (i % m2) hi3
          rw [e5, Nat.mul_one, List.getElem?_eq_getElem (by omega)] at this
          obtain ⟨z, hz, _, hwf⟩ := DataW.trod_int hf2 this
          refine ⟨z, ?_, hwf⟩
          have := congrArg (·[0]?) hz
          have e6 : i / m2 * m2 + i % m2 = i := by rw [Nat.mul_comm]; exact Nat.div_add_mod i m2
          rw [List.drop_take, List.take_take, List.drop_drop, e6] at this
          rw [List.getElem?_take, if_pos (by omega), List.getElem?_drop] at this
          simpa using this
        · cases h4
      · cases hB
    · cases hB
  | .sl e T, t, n, cs, x, hB, h, hw => by
    unfold tyB at hB
    split at hB
    · rename_i e' hu
      rw [Bool.and_eq_true, Bool.and_eq_true, Bool.and_eq_true] at hB
      obtain ⟨⟨⟨h1, h2⟩, h3⟩, h4⟩ := hB
      have e1 := Nat.eq_of_beq_eq_true h1
      have e2 := Nat.eq_of_beq_eq_true h2
      have h0 : 0 < T.size := by simpa [Nat.blt_eq] using h3
      subst e1
      rcases DataW.trod_slice hu h with ⟨rfl, rfl⟩ | ⟨a, len, cap, elems, rest, k, _, rfl, rfl, hb, hl, hm, hlen, hel, hsp, hns⟩
      · exact ⟨[], ⟨_, rfl, none, 0, rfl, Nat.le_refl _, fun h => absurd rfl h⟩, by simp, fun x hx => by cases hx⟩
      · simp only [DataW.weights, hu] at hw
        have hlb : len * P.bytesOf e' ≤ reachBytes := by
          have := hw _ (List.mem_cons_self ..)
          simp only [List.length_map] at this
          rw [← hlen]
          exact Nat.le_trans (Nat.mul_le_mul_right _ (Nat.le_add_right _ _)) this
        have hat : ∀ i, i < len → ∃ ls y, w.cells? 0 (a.add (i * T.size)) T.size = some ls ∧ CRel w (oldB w) T y ls ∧ Wf P T y := by
          intro i hi
          have h5 := hel i hi
          rw [e2, List.getElem?_eq_getElem (by omega), Option.bind_eq_some_iff] at h5
          obtain ⟨ls, h6, h7⟩ := h5
          obtain ⟨y, h8, h9⟩ := open_ty T e' k ls _ h4 h7 (fun m hm' => hw m (List.mem_cons_of_mem _ (List.mem_append_left _ (weightsAll_mem (d := (elems[i]'(by omega)).1) (List.mem_map.2 ⟨_, List.getElem_mem _, rfl⟩) m hm'))))
          exact ⟨ls, y, h6, h8, h9⟩
        -- the elements, as a list
        have hlist : ∀ (k : Nat), k ≤ len → ∃ l : List T.den, l.length = k ∧ ∀ i y, l[i]? = some y → ∃ ls, w.cells? 0 (a.add (i * T.size)) T.size = some ls ∧ CRel w (oldB w) T y ls ∧ Wf P T y := by
          intro k
          induction k with
          | zero => intro _; exact ⟨[], rfl, fun i y h => by simp at h⟩
          | succ k ih =>
            intro hk
            obtain ⟨l, hl1, hl2⟩ := ih (by omega)
            obtain ⟨ls, y, q1, q2, q3⟩ := hat k (by omega)
            refine ⟨l ++ [y], by simp [hl1], fun i y' hy => ?_⟩
            by_cases hi : i < l.length
            · rw [List.getElem?_append_left hi] at hy; exact hl2 i y' hy
            · rw [List.getElem?_append_right (by omega)] at hy
              have : i - l.length = 0 := by
                rcases Nat.eq_zero_or_pos (i - l.length) with h' | h'
                · exact h'
                · rw [List.getElem?_eq_none (by simp; omega)] at hy; cases hy
              rw [this] at hy
              simp at hy
              subst hy
              have : i = k := by omega
              subst this
              exact ⟨ls, q1, q2, q3⟩
        obtain ⟨l, hl1, hl2⟩ := hlist len (Nat.le_refl _)
        subst hl1
        refine ⟨l, ⟨_, rfl, some a, cap, rfl, hl, fun hne => ?_⟩, hlb, fun y hy => ?_⟩
        · -- the block
          have hpos : 0 < l.length := by cases l with
            | nil => exact absurd rfl hne
            | cons _ _ => simp
          have hcell : ∀ i j, i < l.length → j < T.size → ∃ v, w.cell? ((a.add (i * T.size)).add j) = some v := by
            intro i j hi hj
            obtain ⟨ls, h6, _, _⟩ := hl2 i _ (List.getElem?_eq_getElem hi)
            obtain ⟨_, q1, q2⟩ := World.cells?_some h6
            exact ⟨ls[j]'(by omega), (q2 j hj).trans (List.getElem?_eq_getElem (by omega))⟩
          obtain ⟨v0, hv0⟩ := hcell 0 0 hpos h0
          have ha0 : (a.add (0 * T.size)).add 0 = a := by simp [Addr.add]
          rw [ha0] at hv0
          obtain ⟨vs, TT, fz, hh, hoff, hblt, hspot⟩ := cell_old hv0
          obtain ⟨ab, ao, as⟩ := a
          have hspot : as = none := hspot
          subst hspot
          have hadd : ∀ i j, ((⟨ab, ao, none⟩ : Addr).add i).add j = ⟨ab, ao + (i + j), none⟩ := by
            intro i j
            unfold Addr.add
            by_cases hi : i = 0 <;> by_cases hj : j = 0 <;> simp [hi, hj, Nat.add_assoc]
          have hval : ∀ i j v, w.cell? (((⟨ab, ao, none⟩ : Addr).add i).add j) = some v → vs[ao + (i + j)]? = some v := by
            intro i j v hv
            rw [hadd] at hv
            unfold World.cell? at hv
            simp only [hh] at hv
            simpa using hv
          refine ⟨ab, ao, vs, TT, fz, rfl, hblt, hh, ?_, fun i y hi => ?_⟩
          · obtain ⟨v, hv⟩ := hcell (l.length - 1) (T.size - 1) (by omega) (by omega)
            have := hval _ _ _ hv
            have hlt : ao + ((l.length - 1) * T.size + (T.size - 1)) < vs.size := by
              rcases Nat.lt_or_ge (ao + ((l.length - 1) * T.size + (T.size - 1))) vs.size with h' | h'
              · exact h'
              · rw [Array.getElem?_eq_none h'] at this; cases this
            have : l.length * T.size = (l.length - 1) * T.size + T.size := by
              rw [← Nat.succ_mul]; congr 1; omega
            omega
          · obtain ⟨ls, h6, h7, _⟩ := hl2 i y hi
            obtain ⟨_, q1, q2⟩ := World.cells?_some h6
            have hilt : i < l.length := by
              rcases Nat.lt_or_ge i l.length with h' | h'
              · exact h'
              · rw [List.getElem?_eq_none h'] at hi; cases hi
            have : (vs.toList.drop (ao + i * T.size)).take T.size = ls := by
              apply List.ext_getElem?
              intro j
              rw [List.getElem?_take]
              by_cases hj : j < T.size
              · rw [if_pos hj, List.getElem?_drop]
                have h8 := q2 j hj
                rw [List.getElem?_eq_getElem (by omega)] at h8
                have h9 := hval _ _ _ h8
                rw [show ao + i * T.size + j = ao + (i * T.size + j) by omega, List.getElem?_eq_getElem (show j < ls.length by omega), Array.getElem?_toList]
                exact h9
              · rw [if_neg hj, List.getElem?_eq_none (by omega)]
            rw [this]
            exact h7
        · obtain ⟨i, hi⟩ := List.getElem?_of_mem hy
          obtain ⟨_, _, _, h9⟩ := hl2 i y hi
          exact h9
    · cases hB
theorem open_fs : ∀ (T : Ty) (fs : List Field) (off : Nat) (cs : List Value), fsB P T fs off = true → FieldsOk enc P w cs fs → cs.length = off + T.size → ∃ y : T.den, CRel w (oldB w) T y (cs.drop off) ∧ Wf P T y
  | .unit, fs, off, cs, hB, hF, hl => ⟨(), List.drop_eq_nil_of_le (by rw [hl]; exact Nat.le_refl _), trivial⟩
  | .pair a b, [], off, cs, hB, hF, hl => by cases hB
  | .pair a b, f :: r, off, cs, hB, hF, hl => by
    unfold fsB at hB
    rw [Bool.and_eq_true, Bool.and_eq_true, Bool.and_eq_true] at hB
    obtain ⟨⟨⟨hB1, hB2⟩, hB3⟩, hB4⟩ := hB
    have hoff := Nat.eq_of_beq_eq_true hB1
    have hsz := Nat.eq_of_beq_eq_true hB2
    have hl' : cs.length = off + (a.size + b.size) := hl
    obtain ⟨m0, d0, h0, w0⟩ := hF 0 f rfl
    rw [hoff, hsz] at h0
    obtain ⟨y0, c0, f0⟩ := open_ty a f.type m0 _ d0 hB3 h0 w0
    have hF' : FieldsOk enc P w cs r := fun i f' hi => hF (i + 1) f' (by simpa using hi)
    obtain ⟨y1, c1, f1⟩ : ∃ y : b.den, CRel w (oldB w) b y (cs.drop (off + a.size)) ∧ Wf P b y := by
      split at hB4
      · rename_i g
        rw [Bool.or_eq_true] at hB4
        rcases hB4 with hB4 | hB4
        · rw [Bool.and_eq_true, Bool.and_eq_true] at hB4
          obtain ⟨⟨g1, g2⟩, g3⟩ := hB4
          obtain ⟨m1, d1, h1, w1⟩ := hF' 0 g rfl
          rw [Nat.eq_of_beq_eq_true g1, Nat.eq_of_beq_eq_true g2, List.take_of_length_le (by rw [List.length_drop, hl']; omega)] at h1
          exact open_ty b g.type m1 _ d1 g3 h1 w1
        · exact open_fs b _ _ cs hB4 hF' (by omega)
      · exact open_fs b _ _ cs hB4 hF' (by omega)
    refine ⟨(y0, y1), ⟨(cs.drop off).take a.size, cs.drop (off + a.size), ?_, c0, c1⟩, f0, f1⟩
    rw [← List.drop_drop, List.take_append_drop]
  | .int _, fs, off, cs, hB, hF, hl => by cases hB
  | .bool, fs, off, cs, hB, hF, hl => by cases hB
  | .str, fs, off, cs, hB, hF, hl => by cases hB
  | .flt, fs, off, cs, hB, hF, hl => by cases hB
  | .vec _ _, fs, off, cs, hB, hF, hl => by cases hB
  | .sl _ _, fs, off, cs, hB, hF, hl => by cases hB
end
end
end Go.Proofs.YtbjanflhagkhlaaDoor.Sk
