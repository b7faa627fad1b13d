/- SK: functions told as effects: slices.Insert of one element. -/
import Derived.Test.YtbjanflhagkhlaaDoorSkSpec
import Derived.ChangeVars
set_option linter.unusedVariables false
set_option linter.unusedSimpArgs false
namespace Go.Proofs.YtbjanflhagkhlaaDoor.Sk
open Go Go.RowKit

/-- What a walk of slices.Insert's code shows, of raw cells: k a cell's number in an element. -/
structure InsC (P : Program) (g : FuncId) (T e : TypeId) (k : Nat) : Prop where
  shift : ∀ (b c n i vb vc : Nat) (cur vcur : Array Value) (w : World) (tb tv : TypeId), i < n → n + 1 ≤ c → c ≤ 9223372036854775807 → vb ≠ b → w.heap[b]? = some (.cells cur tb (0, 0)) → w.heap[vb]? = some (.cells vcur tv (0, 0)) →
    cur.size = c * k → k ≤ vcur.size → (∀ v ∈ (cur.toList.take (n * k)), v.oneCell' = true) → (∀ v ∈ vcur.toList.take k, v.oneCell' = true) →
    Calls P g #[.slice (some ⟨b, 0, none⟩) n c, .int .i64 i, .slice (some ⟨vb, 0, none⟩) 1 vc] w fun x w' => x = .returned (.slice (some ⟨b, 0, none⟩) (n + 1) c) ∧ ∃ cur' rest : List Value,
      cur' = cur.toList.take (i * k) ++ vcur.toList.take k ++ (cur.toList.take (n * k)).drop (i * k) ++ rest ∧ cur'.length = cur.size ∧ w'.heap[b]? = some (.cells cur'.toArray tb (0, 0)) ∧ (∀ j, j ≠ b → w'.heap[j]? = w.heap[j]?) ∧ w'.heap.size = w.heap.size ∧ w'.os = w.os ∧ w'.tape = w.tape ∧ OutOk w w'
  atEnd : ∀ (base : Option Addr) (n c vb vc : Nat) (w w1 : World) (r : Value), c ≤ 9223372036854775807 → n ≤ c → (∀ ty, (Builtin.append_ #[T, T] ty #[.slice base n c, .slice (some ⟨vb, 0, none⟩) 1 vc]).run P w = .ok r w1) →
    Calls P g #[.slice base n c, .int .i64 n, .slice (some ⟨vb, 0, none⟩) 1 vc] w fun x w' => x = .returned r ∧ w' = w1
  grow : ∀ (b n i vb vc : Nat) (cur vcur : Array Value) (w : World) (tb tv : TypeId) (inf : TypeInfo) (z : Value), P.info? e = some inf → inf.zero = some z → z.cells.size = k → inf.size = k → i < n → n < 9223372036854775807 → vb ≠ b →
    (n + 1) * inf.bytes ≤ 140737488355328 → w.heap[b]? = some (.cells cur tb (0, 0)) → w.heap[vb]? = some (.cells vcur tv (0, 0)) → cur.size = n * k → k ≤ vcur.size → (∀ v ∈ (cur.toList.take (n * k)), v.oneCell' = true) → (∀ v ∈ vcur.toList.take k, v.oneCell' = true) →
    Calls P g #[.slice (some ⟨b, 0, none⟩) n n, .int .i64 i, .slice (some ⟨vb, 0, none⟩) 1 vc] w fun x w' => ∃ G, x = .returned (.slice (some ⟨w.heap.size, 0, none⟩) (n + 1) G) ∧ n + 1 ≤ G ∧ G ≤ maxLen ∧ ∃ cur' rest : List Value,
      cur' = cur.toList.take (i * k) ++ vcur.toList.take k ++ (cur.toList.take (n * k)).drop (i * k) ++ rest ∧ cur'.length = G * k ∧ w'.heap[w.heap.size]? = some (.cells cur'.toArray e (0, 0)) ∧ (∀ j, j < w.heap.size → w'.heap[j]? = w.heap[j]?) ∧ w'.heap.size = w.heap.size + 1 ∧ w'.os = w.os ∧ w'.tape = w.tape ∧ OutOk w w'

section
variable {P : Program} {w : World}

theorem rows_take {t : Ty} {ok : Nat → Prop} {l : List t.den} {xs : List Value} (hr : ∀ (i : Nat) (x : t.den), l[i]? = some x → CRel w ok t x ((xs.drop (i * t.size)).take t.size)) (i : Nat) (hi : i ≤ l.length) :
    ∀ (j : Nat) (x : t.den), (l.take i)[j]? = some x → CRel w ok t x (((xs.take (i * t.size)).drop (j * t.size)).take t.size) := by
  intro j x hx
  rw [List.getElem?_take] at hx
  split at hx
  · rename_i hj
    have : (j + 1) * t.size ≤ i * t.size := Nat.mul_le_mul_right _ hj
    rw [Nat.add_mul, Nat.one_mul] at this
    rw [List.drop_take, List.take_take, Nat.min_eq_left (by omega)]
    exact hr j x hx
  · cases hx
theorem rows_drop {t : Ty} {ok : Nat → Prop} {l : List t.den} {xs : List Value} (hr : ∀ (i : Nat) (x : t.den), l[i]? = some x → CRel w ok t x ((xs.drop (i * t.size)).take t.size)) (i : Nat) :
    ∀ (j : Nat) (x : t.den), (l.drop i)[j]? = some x → CRel w ok t x ((((xs.take (l.length * t.size)).drop (i * t.size)).drop (j * t.size)).take t.size) := by
  intro j x hx
  rw [List.getElem?_drop] at hx
  have hj : i + j < l.length := by
    rcases Nat.lt_or_ge (i + j) l.length with h | h
    · exact h
    · rw [List.getElem?_eq_none h] at hx; cases hx
  have : (i + j + 1) * t.size ≤ l.length * t.size := Nat.mul_le_mul_right _ hj
  rw [Nat.add_mul, Nat.one_mul] at this
  rw [List.drop_drop, ← Nat.add_mul, List.drop_take, List.take_take, Nat.min_eq_left (by omega)]
  exact hr _ x hx
theorem row_three {t : Ty} {ok : Nat → Prop} {l m : List t.den} {xs ys rest : List Value} (i : Nat) (hi : i ≤ l.length) (hx : l.length * t.size ≤ xs.length) (hy : ys.length = m.length * t.size)
    (hr : ∀ (i : Nat) (x : t.den), l[i]? = some x → CRel w ok t x ((xs.drop (i * t.size)).take t.size)) (hs : ∀ (i : Nat) (x : t.den), m[i]? = some x → CRel w ok t x ((ys.drop (i * t.size)).take t.size)) :
    ∀ (j : Nat) (x : t.den), (l.take i ++ m ++ l.drop i)[j]? = some x → CRel w ok t x (((xs.take (i * t.size) ++ ys ++ (xs.take (l.length * t.size)).drop (i * t.size) ++ rest).drop (j * t.size)).take t.size) := by
  have hil : i * t.size ≤ l.length * t.size := Nat.mul_le_mul_right _ hi
  have l1 : (xs.take (i * t.size)).length = (l.take i).length * t.size := by rw [List.length_take, List.length_take, Nat.min_eq_left hi, Nat.min_eq_left (by omega)]
  have l2 : ((xs.take (l.length * t.size)).drop (i * t.size)).length = (l.drop i).length * t.size := by rw [List.length_drop, List.length_take, List.length_drop, Nat.min_eq_left hx, Nat.sub_mul]
  have s1 := row_append (w1 := w) (ok := ok) l1 hy (rows_take hr i hi) hs
  have l3 : (xs.take (i * t.size) ++ ys).length = (l.take i ++ m).length * t.size := by rw [List.length_append, List.length_append, l1, hy, Nat.add_mul]
  intro j x hj
  have s2 := row_append (w1 := w) (ok := ok) l3 l2 (fun i x hx => by have := s1 [] i x hx; simpa using this) (rows_drop hr i) rest j x hj
  exact s2

theorem decS_own {hp : List ABlk} {e : TypeId} {t : Ty} {id : Nat} {g : List Nat} {d : Dec (List t.den)} {g' : List Nat} (hd : (decS e t (.own id)).runO (lookIn hp) g = some (d, g')) : ∃ fr, lookIn hp id = .rows fr e t d.x := by
  unfold decS at hd
  have hd : (match lookIn hp id with
    | .rows fr e' t' l => cond (decide (e' = e)) (Rd.ofO ((castL t' t l).map fun l => (⟨l, fr, [id]⟩ : Dec (List t.den)))) .fail
    | _ => .fail).runO (lookIn hp) (id :: g) = some (d, g') := hd
  split at hd
  · rename_i fr e' t' l hl
    obtain ⟨he, hd⟩ := Rd.cond_some hd
    have he := of_decide_eq_true he
    obtain ⟨hd, _⟩ := Rd.ofO_some hd
    rw [Option.map_eq_some_iff] at hd
    obtain ⟨l', h1, h2⟩ := hd
    unfold castL at h1
    split at h1
    · rename_i htt
      subst htt
      subst he
      cases h1
      have h2 : _ = d := h2
      subst h2
      exact ⟨fr, hl⟩
    · cases h1
  · cases hd
/-- slices.Insert. -/
theorem ins_sound {g : FuncId} {T e : TypeId} {t : Ty} (hT : P.underlying T = some (.slice e)) (h : InsC P g T e t.size) : MacOk P g (insM P e t) := by
  intro B c hp w args us ef log n hH hv hrun
  unfold insM at hrun
  split at hrun
  · rename_i s i x
    obtain ⟨hc, hrun⟩ := Rd.cond_some hrun
    rw [Bool.and_eq_true] at hc
    obtain ⟨hflat, hrow⟩ := hc
    obtain ⟨inf, z, hinf, hz, hsz, hzs, h0⟩ := rowOk_some hrow
    obtain ⟨dl, g1, hdl, hrun⟩ := Rd.bind_some hrun
    obtain ⟨dm, g2, hdm, hrun⟩ := Rd.bind_some hrun
    obtain ⟨hm1, hrun⟩ := Rd.chk_some hrun
    obtain ⟨hi, hrun⟩ := Rd.chk_some hrun
    obtain ⟨hb, hrun⟩ := Rd.chk_some hrun
    rw [Bool.and_eq_true, decide_eq_true_eq, decide_eq_true_eq] at hi hb
    obtain ⟨hi0, hi1⟩ := hi
    obtain ⟨hbytes, hmax⟩ := hb
    have hm1 : dm.x.length = 1 := Nat.eq_of_beq_eq_true hm1
    have hbe : bytesA P e = inf.bytes := by simp [bytesA, hinf]
    rw [hbe] at hbytes
    obtain ⟨id, id2, rfl, rfl⟩ : ∃ id id2, s = .own id ∧ x = .own id2 := by
      cases s with
      | own id =>
        cases x with
        | own id2 => exact ⟨id, id2, rfl, rfl⟩
        | _ => cases hrun
      | _ => cases hrun
    · simp only at hrun
      cases hne : Nat.beq id id2 with
      | true => rw [hne] at hrun; cases hrun
      | false =>
        rw [hne, cond_false] at hrun
        cases hrun
        have hne : id ≠ id2 := fun e => by rw [e, Nat.beq_refl] at hne; cases hne
        -- the arguments
        obtain ⟨u0, u1, u2, rfl⟩ : ∃ u0 u1 u2, us = [u0, u1, u2] := by
          match us, hv.length with
          | [a, b, c], _ => exact ⟨a, b, c, rfl⟩
        obtain ⟨⟨hd0, hv0⟩, hv1, ⟨hd2, hv2⟩, _⟩ := hv
        have hv1 : u1 = .int .i64 i := hv1
        subst hv1
        -- the blocks
        obtain ⟨fr0, hl0⟩ := decS_own hdl
        obtain ⟨fr2, hl2⟩ := decS_own hdm
        generalize dl.x = l at *
        generalize dm.x = m at *
        have hlive : lookIn hp id ≠ .dead := by rw [hl0]; simp
        have hlive2 : lookIn hp id2 ≠ .dead := by rw [hl2]; simp
        -- the inserted element's cells
        have hb2 := hH.blk id2
        rw [hl2] at hb2
        obtain ⟨_, hb2⟩ := hb2
        unfold OwnV at hv2
        cases hs2 : c.σ id2 with
        | none =>
          rw [hs2] at hb2
          simp only at hb2
          rw [hb2] at hm1; cases hm1
        | some vb =>
          rw [hs2] at hb2 hv2
          obtain ⟨cap2, vcur, hw2, hc2, _, hcs2, hr2⟩ := hb2
          obtain ⟨k2, vc, rfl, hv2⟩ := hv2
          obtain ⟨rfl, hvc, _, _, hw2', _⟩ := hv2 _ _ _ _ hl2
          rw [hm1] at hvc hc2 ⊢
          have hvs : t.size ≤ vcur.size := by rw [hcs2]; exact Nat.le_mul_of_pos_left _ (by omega)
          have hyl : (vcur.toList.take t.size).length = m.length * t.size := by rw [List.length_take, Array.length_toList, hm1]; omega
          have hyr : ∀ (j : Nat) (x : t.den), m[j]? = some x → CRel w (okF B c true) t x (((vcur.toList.take t.size).drop (j * t.size)).take t.size) := by
            intro j x hj
            have hj0 : j = 0 := by
              rcases Nat.lt_or_ge j m.length with h' | h'
              · omega
              · rw [List.getElem?_eq_none h'] at hj; cases hj
            subst hj0
            have := hr2 0 x hj
            rw [Nat.zero_mul, List.drop_zero] at this ⊢
            rw [List.take_take, Nat.min_self]
            exact CRel.flat t x _ hflat this
          have hy1 : ∀ v ∈ vcur.toList.take t.size, v.oneCell' = true := by
            obtain ⟨x, hx⟩ : ∃ x, m[0]? = some x := ⟨m[0], List.getElem?_eq_getElem (by omega)⟩
            have := hyr 0 x hx
            rw [Nat.zero_mul, List.drop_zero, List.take_take, Nat.min_self] at this
            exact CRel.one t x _ this
          -- the slice
          have hb0 := hH.blk id
          rw [hl0] at hb0
          obtain ⟨_, hb0⟩ := hb0
          unfold OwnV at hv0
          cases hs0 : c.σ id with
          | none =>
            rw [hs0] at hb0 hv0
            simp only at hb0 hv0
            subst hb0
            subst hv0
            have hi' : i = ((0 : Nat) : Int) := by simp at hi1; omega
            subst hi'
            have hheld : Held w (c.σ id) e t (okF B c true) w [] (.slice none 0 0) := .inl ⟨hs0, rfl, rfl⟩
            have hrowm : Row w (fun _ => True) (CRel w (okF B c true) t) t.size m (.slice (some ⟨vb, 0, none⟩) 1 vc) :=
              ⟨_, vc, by rw [hm1], by rw [hm1]; exact hvc, fun _ => ⟨vb, 0, vcur, e, (0, 0), rfl, trivial, hw2, by rw [hm1]; omega, fun j x hj => by rw [Nat.zero_add]; exact CRel.flat t x _ hflat (hr2 j x hj)⟩⟩
            obtain ⟨r, w', s', hrn, hh, q1, q2, q3, q4, q5, q6, q7⟩ := append_run (ty := 0) hT hinf hz hsz hzs h0 hheld hrowm (by simpa [hm1] using hbytes) (by simpa [hm1] using hmax)
            have hrn' : ∀ ty, (Builtin.append_ #[T, T] ty #[.slice none 0 0, .slice (some ⟨vb, 0, none⟩) 1 vc]).run P w = .ok r w' := fun ty => hrn
            refine (h.atEnd none 0 0 vb vc w w' r (by omega) (Nat.le_refl _) hrn').mono fun x w1 hx => ?_
            obtain ⟨rfl, rfl⟩ := hx
            refine ⟨r, rfl, ?_⟩
            have := held_eff hH (n := n) h0 hlive hh q1 q2 q3 q4 q5 q6 q7
            simpa using this
          | some b =>
            rw [hs0] at hb0 hv0
            obtain ⟨cap, cur, hw0, hc0, hcm, hcs0, hr0⟩ := hb0
            obtain ⟨k0, cap', rfl, hv0⟩ := hv0
            obtain ⟨rfl, hcap', hcm', cur', hw0', hcs0'⟩ := hv0 _ _ _ _ hl0
            rw [hw0] at hw0'
            cases hw0'
            have hcc : cap' = cap := Nat.eq_of_mul_eq_mul_right h0 (hcs0'.symm.trans hcs0)
            subst hcc
            have hvb : vb ≠ b := fun e => hne (hH.inj id id2 b hlive hlive2 hs0 (by rw [← e]; exact hs2))
            obtain ⟨i, rfl⟩ : ∃ k : Nat, i = (k : Int) := ⟨i.toNat, by omega⟩
            have hil : i ≤ l.length := by omega
            rw [Int.toNat_natCast]
            have hlc0 : cur.toList.length = cur.size := Array.length_toList
            have hlc : l.length * t.size ≤ cur.toList.length := by rw [hlc0, hcs0]; exact Nat.mul_le_mul_right _ hc0
            have hrf : ∀ (j : Nat) (x : t.den), l[j]? = some x → CRel w (okF B c true) t x ((cur.toList.drop (j * t.size)).take t.size) := fun j x hj => CRel.flat t x _ hflat (hr0 j x hj)
            have hc1 : ∀ v ∈ (cur.toList.take (l.length * t.size)), v.oneCell' = true := by
              have hrow : Row w (fun _ => True) (CRel w (okF B c true) t) t.size l (.slice (some ⟨b, 0, none⟩) l.length cap') := ⟨_, cap', rfl, hc0, fun _ => ⟨b, 0, cur, e, (0, 0), rfl, trivial, hw0, by rw [Nat.zero_add, ← hlc0]; exact hlc, fun j x hj => by rw [Nat.zero_add]; exact hrf j x hj⟩⟩
              by_cases hl : l = []
              · subst hl; simp
              · intro v hv
                obtain ⟨q, hq, hvq⟩ := List.getElem_of_mem hv
                have hq' : q < l.length * t.size := by rw [List.length_take] at hq; omega
                have hqd : q / t.size < l.length := (Nat.div_lt_iff_lt_mul h0).2 hq'
                have hx : l[q / t.size]? = some l[q / t.size] := List.getElem?_eq_getElem hqd
                refine CRel.one t _ _ (hrf _ _ hx) v ?_
                have hdm : q = q / t.size * t.size + q % t.size := by rw [Nat.mul_comm]; exact (Nat.div_add_mod q t.size).symm
                have hmod : q % t.size < t.size := Nat.mod_lt _ h0
                refine List.mem_of_getElem? (i := q % t.size) ?_
                rw [List.getElem?_take, if_pos hmod, List.getElem?_drop, ← hdm, ← hvq]
                rw [List.getElem_take, List.getElem?_eq_getElem]
            by_cases hend : i = l.length
            · subst hend
              have hheld : Held w (c.σ id) e t (okF B c true) w l (.slice (some ⟨b, 0, none⟩) l.length cap') := .inr ⟨b, cap', cur, hs0, rfl, hw0, hc0, hcm, hcs0, hrf⟩
              have hrowm : Row w (fun _ => True) (CRel w (okF B c true) t) t.size m (.slice (some ⟨vb, 0, none⟩) 1 vc) :=
                ⟨_, vc, by rw [hm1], by rw [hm1]; exact hvc, fun _ => ⟨vb, 0, vcur, e, (0, 0), rfl, trivial, hw2, by rw [hm1]; omega, fun j x hj => by rw [Nat.zero_add]; exact CRel.flat t x _ hflat (hr2 j x hj)⟩⟩
              obtain ⟨r, w', s', hrn, hh, q1, q2, q3, q4, q5, q6, q7⟩ := append_run (ty := 0) hT hinf hz hsz hzs h0 hheld hrowm (by rw [hm1]; exact hbytes) (by rw [hm1]; exact hmax)
              have hrn' : ∀ ty, (Builtin.append_ #[T, T] ty #[.slice (some ⟨b, 0, none⟩) l.length cap', .slice (some ⟨vb, 0, none⟩) 1 vc]).run P w = .ok r w' := fun ty => hrn
              refine (h.atEnd (some ⟨b, 0, none⟩) l.length cap' vb vc w w' r (by have := hcm; unfold maxLen at this; omega) hc0 hrn').mono fun x w1 hx => ?_
              obtain ⟨rfl, rfl⟩ := hx
              refine ⟨r, rfl, ?_⟩
              have := held_eff hH (n := n) h0 hlive hh q1 q2 q3 q4 q5 q6 q7
              simpa using this
            · have hilt : i < l.length := by omega
              have hLl : (l.take i ++ m ++ l.drop i).length = l.length + 1 := by simp [hm1]; omega
              have hlt : ∀ {b : Nat} {o : Obj}, w.heap[b]? = some o → b < w.heap.size := by
                intro b o hw
                rcases Nat.lt_or_ge b w.heap.size with h' | h'
                · exact h'
                · rw [Array.getElem?_eq_none h'] at hw; cases hw
              by_cases hroom : l.length + 1 ≤ cap'
              · refine (h.shift b cap' l.length i vb vc cur vcur w e e hilt hroom (by have := hcm; unfold maxLen at this; omega) hvb hw0 hw2 hcs0 hvs hc1 hy1).mono fun x w' hx => ?_
                obtain ⟨rfl, cur1, rest, hcur1, hcl, hwb, hko, hsz', hos, htp, hou⟩ := hx
                refine ⟨_, rfl, ?_⟩
                refine held_eff (s' := some b) hH h0 hlive (.inr ⟨b, cap', cur1.toArray, rfl, by rw [hLl], hwb, by rw [hLl]; exact hroom, hcm, by simp [hcl, hcs0], ?_⟩) (fun j hj hne' => hko j fun e => hne' (by rw [e]; exact hs0)) (Nat.le_of_eq hsz'.symm) ?_ hos htp hou (fun j hj => .inl (by cases hj; exact hs0))
                · intro j x hj
                  have := row_three (w := w) (ok := okF B c true) (rest := rest) i hil hlc hyl hrf hyr j x hj
                  rw [← hcur1] at this
                  simpa using this
                · intro j vs T' fz hj hwj
                  rw [hs0] at hj
                  cases hj
                  rw [hw0] at hwj
                  cases hwj
                  exact ⟨_, hwb, by simp [hcl]⟩
              · have hcl' : cap' = l.length := by omega
                subst hcl'
                refine (h.grow b l.length i vb vc cur vcur w e e inf z hinf hz hzs hsz hilt (by have := hmax; unfold maxLen at this; omega) hvb hbytes hw0 hw2 hcs0 hvs hc1 hy1).mono fun x w' hx => ?_
                obtain ⟨G, rfl, hG1, hG2, cur1, rest, hcur1, hcl, hwb, hko, hsz', hos, htp, hou⟩ := hx
                refine ⟨_, rfl, ?_⟩
                refine held_eff (s' := some w.heap.size) hH h0 hlive (.inr ⟨w.heap.size, G, cur1.toArray, rfl, by rw [hLl], hwb, by rw [hLl]; exact hG1, hG2, by simp [hcl], ?_⟩) (fun j hj hne' => hko j hj) (by omega) ?_ hos htp hou (fun j hj => .inr (by cases hj; omega))
                · intro j x hj
                  have := row_three (w := w) (ok := okF B c true) (rest := rest) i hil hlc hyl hrf hyr j x hj
                  rw [← hcur1] at this
                  simpa using this
                · intro j vs T' fz hj hwj
                  exact ⟨vs, (hko j (hlt hwj)).trans hwj, rfl⟩
  · cases hrun
end
end Go.Proofs.YtbjanflhagkhlaaDoor.Sk
