/- SK, part 9: reckoning, slices, appends. -/
import Derived.Test.YtbjanflhagkhlaaDoorSkOpsC
set_option linter.unusedVariables false
set_option linter.unusedSimpArgs false
namespace Go.Proofs.YtbjanflhagkhlaaDoor.Sk
open Go Go.RowKit

section
variable {B : Nat → Prop} {c : Cx} {hp : List ABlk} {w : World} {P : Program}

theorem abin_sound {op : BinOp} {t : TypeId} {u v r : Value} {look : Nat → ABlk} {g g' : List Nat} (h : (abin op u v).runO look g = some (r, g')) (h1 : op ≠ .eql) (h2 : op ≠ .neq) (ox oy : Operand) :
    (eqGuard op t ox oy u v).run P w = .ok () w ∧ (binOp op t u v).run P w = .ok r w := by
  unfold abin at h
  split at h
  · rename_i k a k' b
    refine ⟨guard_plain t op ox oy _ _ (by simp) (by simp), ?_⟩
    split at h
    · obtain ⟨hb, h⟩ := Rd.chk_some h
      have hb' : ¬ b < 0 := by have := of_decide_eq_true hb; omega
      cases h
      simp [binOp, Op.shift, hb', shlI]
    · obtain ⟨hb, h⟩ := Rd.chk_some h
      have hb' : ¬ b < 0 := by have := of_decide_eq_true hb; omega
      cases h
      simp [binOp, Op.shift, hb', shrI]
    rename_i hns1 hns2
    cases hk : decide (k = k') with
    | false => rw [hk] at h; cases h
    | true =>
      have hk' : k = k' := of_decide_eq_true hk
      subst hk'
      rw [hk] at h
      simp only [cond_true] at h
      cases op <;> simp only at h <;> first
        | (cases h; simp [binOp, Op.intArith, Op.intCmp]; done)
        | (cases h; simp [binOp, Op.intBits, bandI, borI, bxorI, bandNotI]; done)
        | (obtain ⟨hb, h⟩ := Rd.chk_some h
           have hb' : ¬ b = 0 := by simpa using hb
           cases h
           simp [binOp, Op.intDiv, hb']; done)
        | (cases h; done)
        | exact absurd rfl h1
        | exact absurd rfl h2
  · rename_i k a k' b
    refine ⟨guard_plain t op ox oy _ _ (by simp) (by simp), ?_⟩
    obtain ⟨hk, h9⟩ := Rd.cond_some h
    have hk' : k = k' := of_decide_eq_true hk
    clear h
    have h := h9
    clear h9
    subst hk'
    cases op <;> simp only at h <;> first
      | (cases h; simp [binOp, Op.floatCmp, flss, fleq, fgtr, fgeq]; done)
      | (obtain ⟨hb, h⟩ := Rd.chk_some h
         obtain ⟨r, hr⟩ := Option.isSome_iff_exists.1 hb
         rw [hr] at h
         cases h
         simp only [fadd, fsub, fmul, fdiv] at hr
         simp [binOp, Op.floatArith, hr]; done)
      | (cases h; done)
      | exact absurd rfl h1
      | exact absurd rfl h2
  · rename_i a b
    refine ⟨guard_plain t op ox oy _ _ (by simp) (by simp), ?_⟩
    cases op <;> simp only at h <;> first
      | (obtain ⟨hb, h⟩ := Rd.chk_some h
         cases h
         have hb' := Nat.le_of_ble_eq_true hb
         have hm : IntKind.i64.max = 9223372036854775807 := by decide
         simp only [binOp, Op.stringOp, hm]
         rw [if_neg (by omega)]
         rfl)
      | (cases h; simp [binOp, Op.stringOp, seq_eq, slt_eq]; done)
      | (cases h; done)
      | exact absurd rfl h1
      | exact absurd rfl h2
  · cases h

theorem lenA_sound {a : AV} {u : Value} {n : Int} {g g' : List Nat} (hH : HRel B c hp w) (hv : VRel B c hp w a u) (h : (lenA a).runO (lookIn hp) g = some (n, g')) :
    ∃ A k q, u = .slice A k q ∧ n = k := by
  cases a with
  | sc v =>
    cases v with
    | slice A k q => cases h; exact ⟨A, k, q, hv, rfl⟩
    | _ => cases h
  | ros fr e t l => cases h; obtain ⟨A, q, rfl, _⟩ := hv; exact ⟨_, _, _, rfl, rfl⟩
  | own id =>
    simp only [lenA, Rd.runO] at h
    split at h
    · rename_i fr T t l hl
      cases h
      have hv := hv.2
      unfold OwnV at hv
      cases hs : c.σ id with
      | none =>
        have hb := hH.blk id
        rw [hl] at hb
        obtain ⟨_, hb⟩ := hb
        rw [hs] at hb hv
        simp only at hb hv
        subst hb; subst hv
        exact ⟨_, _, _, rfl, rfl⟩
      | some bb =>
        rw [hs] at hv
        obtain ⟨k, cap, rfl, hr⟩ := hv
        obtain ⟨rfl, _⟩ := hr _ _ _ _ hl
        exact ⟨_, _, _, rfl, rfl⟩
    · cases h
  | osl id off k =>
    simp only [lenA, Rd.runO] at h
    split at h
    · rename_i fr T t l hl
      cases h
      have hv := hv.2
      unfold SubV at hv
      cases hs : c.σ id with
      | none =>
        rw [hs] at hv
        obtain ⟨rfl, rfl, rfl⟩ := hv
        exact ⟨_, _, _, rfl, rfl⟩
      | some bb =>
        rw [hs] at hv
        obtain ⟨a, q, rfl, hr⟩ := hv
        exact ⟨_, _, _, rfl, rfl⟩
    · cases h
  | _ => cases h

theorem bound_run (k : IntKind) (z : Int) (y : Nat) (code : BoundsCode) (h0 : 0 ≤ z) (h1 : z ≤ y) : (Instr.sliceBound (.int k z) y code).run P w = .ok z.toNat w := by
  simp [Instr.sliceBound, asIntOf, h0, h1]

/-- A part of a row is a row. -/
theorem Row.sub {α : Type} {ok : Nat → Prop} {R : α → List Value → Prop} {size : Nat} {l : List α} {A : Option Addr} {n q : Nat} (h : Row w ok R size l (.slice A n q)) (a b : Nat) (hab : a ≤ b) (hb : b ≤ n) :
    Row w ok R size ((l.take b).drop a) (.slice (if q = a then A else A.map (·.add (a * size))) (b - a) (q - a)) := by
  obtain ⟨A', q', e, hq, hm⟩ := h
  cases e
  have hlen : ((l.take b).drop a).length = b - a := by simp; omega
  refine ⟨_, q - a, by rw [hlen], by rw [hlen]; omega, fun hne => ?_⟩
  have hlt : a < b := by
    rcases Nat.lt_or_ge a b with h' | h'
    · exact h'
    · exfalso; apply hne; apply List.eq_nil_of_length_eq_zero; omega
  have hne' : l ≠ [] := by intro e; subst e; simp at hb; omega
  obtain ⟨bb, o, cs, T, fz, rfl, h1, h2, h3, h4⟩ := hm hne'
  have hle : b * size ≤ l.length * size := Nat.mul_le_mul_right _ hb
  have hsplit : b * size = a * size + (b - a) * size := by rw [← Nat.add_mul]; congr 1; omega
  refine ⟨bb, o + a * size, cs, T, fz, ?_, h1, h2, by rw [hlen]; omega, fun i x hx => ?_⟩
  · rw [if_neg (by omega)]; simp only [Option.map_some, addr_add]
  · have hx' : l[a + i]? = some x := by
      rw [List.getElem?_drop, List.getElem?_take] at hx
      split at hx
      · exact hx
      · cases hx
    have := h4 (a + i) x hx'
    rw [Nat.add_mul] at this
    rw [Nat.add_assoc]
    exact this

theorem sub_slice {T e : TypeId} {t : Ty} {id off n : Nat} {fr : Bool} {l : List t.den} {u : Value} (hT : P.underlying T = some (.slice e)) (hsz : sizeA P e = some t.size) (hv : VRel B c hp w (.osl id off n) u) (hl : lookIn hp id = .rows fr e t l)
    {lo hi : Option AV} {lv hv' : Option Value} {r : AV} {look : Nat → ABlk} {g g' : List Nat}
    (hlo : match lo, lv with | none, none => True | some x, some y => VRel B c hp w x y | _, _ => False) (hhi : match hi, hv' with | none, none => True | some x, some y => VRel B c hp w x y | _, _ => False)
    (hl0 : off + n ≤ l.length) (h0 : c.σ id = none → l = [])
    (h : (sliceOwn id off n l.length lo hi).runO look g = some (r, g')) : ∃ v, (Instr.sliceAt T u lv hv' none).run P w = .ok v w ∧ VRel B c hp w r v := by
  have key : ∀ {x : Option AV} {y : Option Value} {k : IntKind} {z : Int}, (match x, y with | none, none => True | some x, some y => VRel B c hp w x y | _, _ => False) → x = some (.sc (.int k z)) → y = some (.int k z) := by
    intro x y k z hxy hx
    subst hx
    cases y with
    | none => exact hxy.elim
    | some y => have e : y = _ := hxy; rw [e]
  have keyN : ∀ {x : Option AV} {y : Option Value}, (match x, y with | none, none => True | some x, some y => VRel B c hp w x y | _, _ => False) → x = none → y = none := by
    intro x y hxy hx
    subst hx
    cases y with
    | none => rfl
    | some y => exact hxy.elim
  obtain ⟨hD, hv⟩ := hv
  -- the machine's slice, and what a cut of it is
  obtain ⟨A, q, rfl, hqn, cut⟩ : ∃ A q, u = .slice A n q ∧ n ≤ q ∧ (l.length ≤ off + q) ∧ ∀ a b, a ≤ b → off + b ≤ l.length → VRel B c hp w (.osl id (off + a) (b - a)) (.slice (if q = a then A else A.map (·.add (a * t.size))) (b - a) (q - a)) := by
    unfold SubV at hv
    cases hs : c.σ id with
    | none =>
      rw [hs] at hv
      obtain ⟨rfl, rfl, rfl⟩ := hv
      have := h0 hs
      subst this
      refine ⟨none, 0, rfl, Nat.le_refl _, by simp, fun a b hab hb => ⟨hD, ?_⟩⟩
      simp at hb
      subst hb
      have : a = 0 := by omega
      subst this
      unfold SubV
      rw [hs]
      exact ⟨rfl, rfl, rfl⟩
    | some b =>
      rw [hs] at hv
      obtain ⟨a, q, rfl, hr⟩ := hv
      obtain ⟨cap, cur, r1, r2, r3, r4, r5, r6, r7⟩ := hr _ _ _ _ hl
      refine ⟨some a, q, rfl, by omega, by omega, fun x y hxy hy => ⟨hD, ?_⟩⟩
      unfold SubV
      rw [hs]
      by_cases e : q = x
      · rw [if_pos e]
        refine ⟨a, q - x, rfl, fun fr' T' t' l' hl' => ?_⟩
        rw [hl] at hl'
        cases hl'
        refine ⟨cap, cur, by omega, by omega, r3, r4, fun ho => ?_, r6, r7⟩
        rcases ho with ho | ho
        · omega
        · have : off = 0 := by omega
          subst this
          have : x = 0 := by omega
          subst this
          exact r5 (.inr rfl)
      · rw [if_neg e]
        refine ⟨a.add (x * t.size), q - x, rfl, fun fr' T' t' l' hl' => ?_⟩
        rw [hl] at hl'
        cases hl'
        refine ⟨cap, cur, by omega, by omega, r3, r4, fun ho => ?_, r6, r7⟩
        rw [r5 (.inl (by omega)), addr_add, Nat.add_mul]
  obtain ⟨hlq, cut⟩ := cut
  have hsl : ∀ l h', (Instr.sliceAt T (.slice A n q) l h' none).run P w = (Instr.slice T (.slice A n q) l h' none).run P w := by
    intro l h'; simp [Instr.sliceAt, run_underlying hT]
  have run : ∀ (l h' : Option Value) (a b : Nat), (Instr.sliceBounds true n q l h' none).run P w = .ok (a, b, q) w →
      (Instr.slice T (.slice A n q) l h' none).run P w = .ok (.slice (if q = a then A else A.map (·.add (a * t.size))) (b - a) (q - a)) w := by
    intro l h' a b hb
    simp [Instr.slice, run_underlying hT, hb, run_sizeOf hsz]
  unfold sliceOwn at h
  split at h
  · cases h
    obtain rfl := keyN hlo rfl
    obtain rfl := keyN hhi rfl
    refine ⟨_, by rw [hsl, run none none 0 n (by simp [Instr.sliceBounds])], ?_⟩
    have := cut 0 n (by omega) (by omega)
    rwa [Nat.add_zero, Nat.sub_zero] at this
  · rename_i k z
    obtain ⟨hc, h⟩ := Rd.chk_some h
    simp only [Bool.and_eq_true, decide_eq_true_eq] at hc
    cases h
    obtain rfl := key hlo rfl
    obtain rfl := keyN hhi rfl
    exact ⟨_, by rw [hsl, run _ none z.toNat n (by simp [Instr.sliceBounds, bound_run k z _ _ hc.1 hc.2])], cut _ _ (by omega) (by omega)⟩
  · rename_i k z
    obtain ⟨hc, h⟩ := Rd.chk_some h
    simp only [Bool.and_eq_true, decide_eq_true_eq] at hc
    cases h
    obtain rfl := keyN hlo rfl
    obtain rfl := key hhi rfl
    refine ⟨_, by rw [hsl, run none _ 0 z.toNat (by simp [Instr.sliceBounds, bound_run k z q .sliceAcap hc.1 (by omega)])], ?_⟩
    have := cut 0 z.toNat (by omega) (by omega)
    rwa [Nat.add_zero, Nat.sub_zero] at this
  · rename_i k z k' z'
    obtain ⟨hc, h⟩ := Rd.chk_some h
    simp only [Bool.and_eq_true, decide_eq_true_eq] at hc
    cases h
    obtain rfl := key hlo rfl
    obtain rfl := key hhi rfl
    exact ⟨_, by rw [hsl, run _ _ z.toNat z'.toNat (by
      simp [Instr.sliceBounds, bound_run k' z' q .sliceAcap (by omega) (by omega), bound_run k z z'.toNat .sliceB (by omega) (by omega)])], cut _ _ (by omega) (by omega)⟩
  · cases h

/-- The bounds of a slice up to a capacity. -/
theorem max_slice {T e : TypeId} {s : Nat} (hT : P.underlying T = some (.slice e)) (hsz : sizeA P e = some s) {A : Option Addr} {n q N : Nat} (hq : N ≤ q)
    {lo hi : Option AV} {mx : AV} {lv hv : Option Value} {mv : Value} {r : AV} {look : Nat → ABlk} {g g' : List Nat}
    (hlo : match lo, lv with | none, none => True | some x, some y => VRel B c hp w x y | _, _ => False) (hhi : match hi, hv with | none, none => True | some x, some y => VRel B c hp w x y | _, _ => False) (hmx : VRel B c hp w mx mv)
    (h : (sliceMax N lo hi mx).runO look g = some (r, g')) : ∃ v, (Instr.sliceAt T (.slice A n q) lv hv (some mv)).run P w = .ok v w ∧ VRel B c hp w r v := by
  have key : ∀ {x : Option AV} {y : Option Value} {k : IntKind} {z : Int}, (match x, y with | none, none => True | some x, some y => VRel B c hp w x y | _, _ => False) → x = some (.sc (.int k z)) → y = some (.int k z) := by
    intro x y k z hxy hx
    subst hx
    cases y with
    | none => exact hxy.elim
    | some y => have e : y = _ := hxy; rw [e]
  unfold sliceMax at h
  split at h
  · rename_i k a k' b k'' m
    obtain ⟨hc, h⟩ := Rd.chk_some h
    simp only [Bool.and_eq_true, decide_eq_true_eq] at hc
    cases h
    obtain rfl := key hlo rfl
    obtain rfl := key hhi rfl
    have e : mv = .int k'' m := hmx
    subst e
    refine ⟨_, by
      simp [Instr.sliceAt, Instr.slice, run_underlying hT, Instr.sliceBounds, bound_run k'' m q .slice3Acap (by omega) (by omega), bound_run k' b m.toNat .slice3B (by omega) (by omega),
        bound_run k a b.toNat .slice3C (by omega) (by omega), run_sizeOf hsz]
      rfl, trivial⟩
  · cases h

/-- One's own slice, as a part of itself. -/
theorem own_sub {id : Nat} {fr : Bool} {e : TypeId} {t : Ty} {l : List t.den} {u : Value} (hH : HRel B c hp w) (hv : VRel B c hp w (.own id) u) (hl : lookIn hp id = .rows fr e t l) : VRel B c hp w (.osl id 0 l.length) u := by
  obtain ⟨hD, hv⟩ := hv
  refine ⟨hD, ?_⟩
  have hb := hH.blk id
  rw [hl] at hb
  obtain ⟨_, hb⟩ := hb
  unfold OwnV at hv
  unfold SubV
  cases hs : c.σ id with
  | none =>
    rw [hs] at hv hb
    simp only at hb hv
    subst hb
    exact ⟨hv, rfl, rfl⟩
  | some b =>
    rw [hs] at hv
    obtain ⟨n, cap, hu, hr⟩ := hv
    obtain ⟨rfl, r2, r3, cur, r4, r5⟩ := hr _ _ _ _ hl
    refine ⟨_, cap, hu, fun fr' T' t' l' hl' => ?_⟩
    rw [hl] at hl'
    cases hl'
    exact ⟨cap, cur, rfl, by omega, r2, r3, fun _ => by simp, r4, r5⟩
theorem sub_len {id off n : Nat} {fr : Bool} {e : TypeId} {t : Ty} {l : List t.den} {u : Value} (hH : HRel B c hp w) (hv : VRel B c hp w (.osl id off n) u) (hl : lookIn hp id = .rows fr e t l) : off + n ≤ l.length ∧ (c.σ id = none → l = []) ∧ ∃ A q, u = .slice A n q ∧ n ≤ q := by
  obtain ⟨hD, hv⟩ := hv
  have hb := hH.blk id
  rw [hl] at hb
  obtain ⟨_, hb⟩ := hb
  unfold SubV at hv
  cases hs : c.σ id with
  | none =>
    rw [hs] at hv hb
    simp only at hb hv
    obtain ⟨rfl, rfl, rfl⟩ := hv
    exact ⟨by omega, fun _ => hb, _, _, rfl, Nat.le_refl _⟩
  | some b =>
    rw [hs] at hv
    obtain ⟨a, q, rfl, hr⟩ := hv
    obtain ⟨cap, cur, r1, r2, r3, r4, r5, r6, r7⟩ := hr _ _ _ _ hl
    exact ⟨r2, fun h => by simp at h, _, _, rfl, by omega⟩

theorem take_len {α : Type} (l : List α) : l.take l.length = l := List.take_length

def SliceT (P : Program) (T : TypeId) : AV → Prop
  | .ros _ e t _ => P.underlying T = some (.slice e) ∧ sizeA P e = some t.size
  | .sc (.string _) => P.underlying T = some .string
  | _ => True

theorem sliceA_sound {T : TypeId} {a : AV} {u : Value} {lo hi : Option AV} {l h' : Option Value} {r : AV} {look : Nat → ABlk} {g g' : List Nat} (hv : VRel B c hp w a u)
    (hlo : match lo, l with | none, none => True | some x, some y => VRel B c hp w x y | _, _ => False) (hhi : match hi, h' with | none, none => True | some x, some y => VRel B c hp w x y | _, _ => False)
    (hT : SliceT P T a)
    (h : (sliceA a lo hi).runO look g = some (r, g')) : ∃ v, (Instr.sliceAt T u l h' none).run P w = .ok v w ∧ VRel B c hp w r v := by
  have key : ∀ {x : Option AV} {y : Option Value} {k : IntKind} {z : Int}, (match x, y with | none, none => True | some x, some y => VRel B c hp w x y | _, _ => False) → x = some (.sc (.int k z)) → y = some (.int k z) := by
    intro x y k z hxy hx
    subst hx
    cases y with
    | none => exact hxy.elim
    | some y => have e : y = _ := hxy; rw [e]
  have keyN : ∀ {x : Option AV} {y : Option Value}, (match x, y with | none, none => True | some x, some y => VRel B c hp w x y | _, _ => False) → x = none → y = none := by
    intro x y hxy hx
    subst hx
    cases y with
    | none => rfl
    | some y => exact hxy.elim
  cases a with
  | ros fr e t rows =>
    obtain ⟨hu, hsz⟩ := hT
    have hv' := hv
    obtain ⟨A, q, rfl, hq, _⟩ := hv'
    have hsl : ∀ l h', (Instr.sliceAt T (.slice A rows.length q) l h' none).run P w = (Instr.slice T (.slice A rows.length q) l h' none).run P w := by
      intro l h'; simp [Instr.sliceAt, run_underlying hu]
    have run : ∀ (l h' : Option Value) (a b : Nat), (Instr.sliceBounds true rows.length q l h' none).run P w = .ok (a, b, q) w →
        (Instr.slice T (.slice A rows.length q) l h' none).run P w = .ok (.slice (if q = a then A else A.map (·.add (a * t.size))) (b - a) (q - a)) w := by
      intro l h' a b hb
      simp [Instr.slice, run_underlying hu, hb, run_sizeOf hsz]
    simp only [sliceA] at h
    split at h
    · rename_i e1 e2
      cases h
      obtain rfl := keyN hlo rfl
      obtain rfl := keyN hhi rfl
      refine ⟨_, by rw [hsl, run none none 0 rows.length (by simp [Instr.sliceBounds])], ?_⟩
      have := Row.sub hv 0 rows.length (by omega) (by omega)
      simpa [VRel] using this
    · rename_i k z
      obtain ⟨hc, h⟩ := Rd.chk_some h
      simp only [Bool.and_eq_true, decide_eq_true_eq] at hc
      cases h
      obtain rfl := key hlo rfl
      obtain rfl := keyN hhi rfl
      refine ⟨_, by rw [hsl, run _ none z.toNat rows.length (by simp [Instr.sliceBounds, bound_run k z _ _ hc.1 hc.2])], ?_⟩
      have := Row.sub hv z.toNat rows.length (by omega) (by omega)
      simpa [VRel] using this
    · rename_i k z
      obtain ⟨hc, h⟩ := Rd.chk_some h
      simp only [Bool.and_eq_true, decide_eq_true_eq] at hc
      cases h
      obtain rfl := keyN hlo rfl
      obtain rfl := key hhi rfl
      refine ⟨_, by rw [hsl, run none _ 0 z.toNat (by simp [Instr.sliceBounds, bound_run k z q .sliceAcap hc.1 (by omega)])], ?_⟩
      have := Row.sub hv 0 z.toNat (by omega) (by omega)
      simpa [VRel] using this
    · rename_i k z k' z'
      obtain ⟨hc, h⟩ := Rd.chk_some h
      simp only [Bool.and_eq_true, decide_eq_true_eq] at hc
      cases h
      obtain rfl := key hlo rfl
      obtain rfl := key hhi rfl
      refine ⟨_, by rw [hsl, run _ _ z.toNat z'.toNat (by
        simp [Instr.sliceBounds, bound_run k' z' q .sliceAcap (by omega) (by omega), bound_run k z z'.toNat .sliceB (by omega) (by omega)])], ?_⟩
      have := Row.sub hv z.toNat z'.toNat (by omega) (by omega)
      simpa [VRel] using this
    · cases h
  | sc v =>
    cases v with
    | string s =>
      have hu : P.underlying T = some .string := hT
      have e : u = .string s := hv
      subst e
      have run : ∀ (l h' : Option Value) (a b m : Nat), (Instr.sliceBounds false s.size s.size l h' none).run P w = .ok (a, b, m) w →
          (Instr.sliceAt T (.string s) l h' none).run P w = .ok (.string (s.extract a b)) w := by
        intro l h' a b m hb
        simp [Instr.sliceAt, Instr.slice, run_underlying hu, hb]
      simp only [sliceA] at h
      split at h
      · cases h
        obtain rfl := keyN hlo rfl
        obtain rfl := keyN hhi rfl
        refine ⟨_, by rw [run none none 0 s.size s.size (by simp [Instr.sliceBounds])], ?_⟩
        simp [VRel]
      · rename_i k z
        obtain ⟨hc, h⟩ := Rd.chk_some h
        simp only [Bool.and_eq_true, decide_eq_true_eq] at hc
        cases h
        obtain rfl := key hlo rfl
        obtain rfl := keyN hhi rfl
        exact ⟨_, by rw [run _ none z.toNat s.size s.size (by simp [Instr.sliceBounds, bound_run k z _ _ hc.1 hc.2])], rfl⟩
      · rename_i k z
        obtain ⟨hc, h⟩ := Rd.chk_some h
        simp only [Bool.and_eq_true, decide_eq_true_eq] at hc
        cases h
        obtain rfl := keyN hlo rfl
        obtain rfl := key hhi rfl
        exact ⟨_, by rw [run none _ 0 z.toNat s.size (by simp [Instr.sliceBounds, bound_run k z _ _ hc.1 hc.2])], rfl⟩
      · rename_i k z k' z'
        obtain ⟨hc, h⟩ := Rd.chk_some h
        simp only [Bool.and_eq_true, decide_eq_true_eq] at hc
        cases h
        obtain rfl := key hlo rfl
        obtain rfl := key hhi rfl
        exact ⟨_, by rw [run _ _ z.toNat z'.toNat s.size (by
          simp [Instr.sliceBounds, bound_run k' z' s.size .sliceAlen (by omega) (by omega), bound_run k z z'.toNat .sliceB (by omega) (by omega)])], rfl⟩
      · cases h
    | _ => simp only [sliceA] at h; cases h
  | _ => simp only [sliceA] at h; cases h
end
end Go.Proofs.YtbjanflhagkhlaaDoor.Sk
