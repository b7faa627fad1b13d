/- PRINTED by gen.py: what the functions answer. Not trusted: Lean checks it. -/
import Derived.Test.YtcmcacophbbagaaDoorSkAid
set_option linter.unusedVariables false
set_option linter.unusedSimpArgs false
set_option maxRecDepth 100000
namespace Go.Proofs.YtcmcacophbbagaaDoor.Sk
open Go
def tyTab : TypeId → Option Ty := tyOf [(3, .int .i64), (4, .bool), (5, .int .u8), (9, .str), (23, .pair (.str) (.pair (.int .i64) (.pair (.int .i64) (.str)))), (40, .pair (.pair (.str) (.pair (.int .i64) (.pair (.int .i64) (.str)))) (.int .i64)), (68, .pair (.str) (.pair (.bool) (.pair (.bool) (.pair (.int .i64) (.int .i64)))))]
theorem mixed : Tryd.prog.follows .mixedOrders = true := by kernel_rfl
/-! ### law_climbed: skyway/skywaylaw3.climbed -/
def law_climbed.kp : List (Nat × List (Nat × Option (TypeId × Ty))) := []
noncomputable def law_climbed.G (N : Nat) : List (Nat × Spec) := []
noncomputable def law_climbed.E (N : Nat) : Env := mkEnv (law_climbed.G N) N tyTab law_climbed.kp
noncomputable def law_climbed.fn (N : Nat) (x : Int) : Option (ByteArray × Int × Int × ByteArray) := evFn (law_climbed.E N) Tryd.prog 3 Tryd.f31 false [.cell (.int .i64)] [.val (.agg (.pair (.str) (.pair (.int .i64) (.pair (.int .i64) (.str)))))] x
noncomputable def law_climbed.S (N : Nat) : PSpec := ⟨false, [.cell (.int .i64)], [.val (.agg (.pair (.str) (.pair (.int .i64) (.pair (.int .i64) (.str)))))], law_climbed.fn N⟩
theorem f31_enters : Enters Tryd.prog 31 := ⟨Tryd.f31, Tryd.func31, by kernel_rfl, by kernel_rfl⟩
theorem law_climbed.tab (N : Nat) : TabOk Tryd.prog (law_climbed.G N) := trivial
theorem law_climbed.enters : Enters Tryd.prog 31 := f31_enters
theorem law_climbed.sound (N : Nat) : Sound Tryd.prog 31 (law_climbed.S N) := evFn_sound (specs_tab (law_climbed.tab N)) (inls_tab (law_climbed.tab N)) mixed 3 Tryd.func31 _ _ _
theorem law_climbed.eq (N : Nat) (x0 : Int) : law_climbed.fn N x0 =
    some ((⟨#[65, 49]⟩ : ByteArray), (0, (x0, (⟨#[]⟩ : ByteArray)))) := by kernel_rfl

/-! ### chart_Name: skyway/chart.Name -/
def chart_Name.kp : List (Nat × List (Nat × Option (TypeId × Ty))) := [(4, [(0, none), (24, none), (25, none)])]
noncomputable def chart_Name.G (N : Nat) : List (Nat × Spec) := []
noncomputable def chart_Name.E (N : Nat) : Env := mkEnv (chart_Name.G N) N tyTab chart_Name.kp
noncomputable def chart_Name.fn (N : Nat) (x : ByteArray) : Option Bool := evFn (chart_Name.E N) Tryd.prog 3 Tryd.f65 false [.cell (.str)] [.val (.cell (.bool))] x
noncomputable def chart_Name.S (N : Nat) : PSpec := ⟨false, [.cell (.str)], [.val (.cell (.bool))], chart_Name.fn N⟩
theorem f65_enters : Enters Tryd.prog 65 := ⟨Tryd.f65, Tryd.func65, by kernel_rfl, by kernel_rfl⟩
theorem chart_Name.tab (N : Nat) : TabOk Tryd.prog (chart_Name.G N) := trivial
theorem chart_Name.enters : Enters Tryd.prog 65 := f65_enters
theorem chart_Name.sound (N : Nat) : Sound Tryd.prog 65 (chart_Name.S N) := evFn_sound (specs_tab (chart_Name.tab N)) (inls_tab (chart_Name.tab N)) mixed 3 Tryd.func65 _ _ _
noncomputable def chart_Name.cd (N : Nat) (p : List Nat) : St → (Ex → St → Option Bool) → Option Bool := ev (chart_Name.E N) Tryd.prog (callD (chart_Name.E N) Tryd.prog 3) 0 (codeAt (bodyOf Tryd.f65) p)
noncomputable def chart_Name.fin : Ex → St → Option Bool := endK Tryd.prog Tryd.f65 [.val (.cell (.bool))]
noncomputable def chart_Name.l0 (N : Nat) (x0 : ByteArray) (k1 : Nat) (a2 : Int) : Option Bool :=
  loopN (norm ((chart_Name.E N).keep 4) 0) (chart_Name.cd N [1, 1, 0, 1, 0, 0]) k1
  ⟨[.sc (.string x0), .any, .any, .any, .any, .any, .any, .any, .any, .any, .any, .any, .any, .any, .any, .any, .any, .any, .any, .any, .any, .any, .any, .any, .sc (.int .i64 (x0.size : Int)), .sc (.int .i64 a2), .any, .any, .any, .any, .any, .any, .any, .any, .any, .any, .any, .any, .any, .any, .any, .any, .any, .any, .any, .any], []⟩
  (blockK 0 (seqK (chart_Name.cd N [1, 1, 1]) chart_Name.fin))
theorem chart_Name.l0_zero (N : Nat) (x0 : ByteArray) (a2 : Int) : chart_Name.l0 N x0 0 a2 = none := by kernel_rfl
theorem chart_Name.l0_succ (N : Nat) (x0 : ByteArray) (k1 : Nat) (a2 : Int) : chart_Name.l0 N x0 (k1 + 1) a2 =
    bif decide (a2 < (x0.size : Int)) then
      bif (decide (0 ≤ a2)) && (decide (a2 < (x0.size : Int))) then
        bif !(!(decide (((((ByteArray.data x0).getD (Int.toNat a2) 0).toNat : Nat) : Int) < 65))) || (!(decide (((((ByteArray.data x0).getD (Int.toNat a2) 0).toNat : Nat) : Int) < 65))) then
          bif (decide (((((ByteArray.data x0).getD (Int.toNat a2) 0).toNat : Nat) : Int) < 65)) || (!(decide (((((ByteArray.data x0).getD (Int.toNat a2) 0).toNat : Nat) : Int) < 65))) then
            bif !((decide (((((ByteArray.data x0).getD (Int.toNat a2) 0).toNat : Nat) : Int) < 65)) || (decide (((((ByteArray.data x0).getD (Int.toNat a2) 0).toNat : Nat) : Int) > 90))) || ((decide (((((ByteArray.data x0).getD (Int.toNat a2) 0).toNat : Nat) : Int) < 65)) || (decide (((((ByteArray.data x0).getD (Int.toNat a2) 0).toNat : Nat) : Int) > 90))) then
              bif !((decide (((((ByteArray.data x0).getD (Int.toNat a2) 0).toNat : Nat) : Int) < 65)) || (decide (((((ByteArray.data x0).getD (Int.toNat a2) 0).toNat : Nat) : Int) > 90))) || ((decide (((((ByteArray.data x0).getD (Int.toNat a2) 0).toNat : Nat) : Int) < 65)) || (decide (((((ByteArray.data x0).getD (Int.toNat a2) 0).toNat : Nat) : Int) > 90))) then
                bif !(((decide (((((ByteArray.data x0).getD (Int.toNat a2) 0).toNat : Nat) : Int) < 65)) || (decide (((((ByteArray.data x0).getD (Int.toNat a2) 0).toNat : Nat) : Int) > 90))) && (!(decide (((((ByteArray.data x0).getD (Int.toNat a2) 0).toNat : Nat) : Int) < 48)))) || (((decide (((((ByteArray.data x0).getD (Int.toNat a2) 0).toNat : Nat) : Int) < 65)) || (decide (((((ByteArray.data x0).getD (Int.toNat a2) 0).toNat : Nat) : Int) > 90))) && (!(decide (((((ByteArray.data x0).getD (Int.toNat a2) 0).toNat : Nat) : Int) < 48)))) then
                  bif !((decide (((((ByteArray.data x0).getD (Int.toNat a2) 0).toNat : Nat) : Int) < 65)) || (decide (((((ByteArray.data x0).getD (Int.toNat a2) 0).toNat : Nat) : Int) > 90))) || ((decide (((((ByteArray.data x0).getD (Int.toNat a2) 0).toNat : Nat) : Int) < 65)) || (decide (((((ByteArray.data x0).getD (Int.toNat a2) 0).toNat : Nat) : Int) > 90))) then
                    bif !((decide (((((ByteArray.data x0).getD (Int.toNat a2) 0).toNat : Nat) : Int) < 65)) || (decide (((((ByteArray.data x0).getD (Int.toNat a2) 0).toNat : Nat) : Int) > 90))) || ((decide (((((ByteArray.data x0).getD (Int.toNat a2) 0).toNat : Nat) : Int) < 48)) || (((decide (((((ByteArray.data x0).getD (Int.toNat a2) 0).toNat : Nat) : Int) < 65)) || (decide (((((ByteArray.data x0).getD (Int.toNat a2) 0).toNat : Nat) : Int) > 90))) && (!(decide (((((ByteArray.data x0).getD (Int.toNat a2) 0).toNat : Nat) : Int) < 48))))) then
                      bif (!((decide (((((ByteArray.data x0).getD (Int.toNat a2) 0).toNat : Nat) : Int) < 65)) || (decide (((((ByteArray.data x0).getD (Int.toNat a2) 0).toNat : Nat) : Int) > 90)))) || ((decide (((((ByteArray.data x0).getD (Int.toNat a2) 0).toNat : Nat) : Int) < 65)) || (decide (((((ByteArray.data x0).getD (Int.toNat a2) 0).toNat : Nat) : Int) > 90))) then
                        bif ((decide (((((ByteArray.data x0).getD (Int.toNat a2) 0).toNat : Nat) : Int) < 65)) || (decide (((((ByteArray.data x0).getD (Int.toNat a2) 0).toNat : Nat) : Int) > 90))) && ((decide (((((ByteArray.data x0).getD (Int.toNat a2) 0).toNat : Nat) : Int) < 48)) || (decide (((((ByteArray.data x0).getD (Int.toNat a2) 0).toNat : Nat) : Int) > 57))) then
                          some false
                        else
                          chart_Name.l0 N x0 k1 (w (a2 + 1))
                      else
                        none
                    else
                      none
                  else
                    none
                else
                  none
              else
                none
            else
              none
          else
            none
        else
          none
      else
        none
    else
      some true := by kernel_rfl
theorem taut1 : ∀ p0 : Bool, ((!(!(p0)) || (!(p0)))) = true := by decide
theorem taut2 : ∀ p0 p1 p2 : Bool, ((!(((p0) || (p1)) && (!(p2))) || (((p0) || (p1)) && (!(p2))))) = true := by decide
theorem taut3 : ∀ p0 p1 : Bool, ((!((p0) || (p1)) || ((p0) || (p1)))) = true := by decide
theorem taut4 : ∀ p0 p1 p2 : Bool, ((!((p0) || (p1)) || ((p2) || (((p0) || (p1)) && (!(p2)))))) = true := by decide
theorem taut5 : ∀ p0 p1 : Bool, (((!((p0) || (p1))) || ((p0) || (p1)))) = true := by decide
theorem taut6 : ∀ p0 : Bool, (((p0) || (!(p0)))) = true := by decide
theorem chart_Name.l0_clean (N : Nat) (x0 : ByteArray) (k1 : Nat) (a2 : Int) : chart_Name.l0 N x0 (k1 + 1) a2 =
    bif decide (a2 < (x0.size : Int)) then
      bif (decide (0 ≤ a2)) && (decide (a2 < (x0.size : Int))) then
        bif ((decide (((((ByteArray.data x0).getD (Int.toNat a2) 0).toNat : Nat) : Int) < 65)) || (decide (((((ByteArray.data x0).getD (Int.toNat a2) 0).toNat : Nat) : Int) > 90))) && ((decide (((((ByteArray.data x0).getD (Int.toNat a2) 0).toNat : Nat) : Int) < 48)) || (decide (((((ByteArray.data x0).getD (Int.toNat a2) 0).toNat : Nat) : Int) > 57))) then
          some false
        else
          chart_Name.l0 N x0 k1 (w (a2 + 1))
      else
        none
    else
      some true := by
  rw [chart_Name.l0_succ]; simp only [taut1, taut2, taut3, taut4, taut5, taut6, cond_true]
theorem chart_Name.l0_cons (N : Nat) (x0 : ByteArray) (k1 : Nat) {pre r} {x} (hl : x0.data.toList = pre ++ x :: r) (hb : x0.size < 4611686018427387904) : chart_Name.l0 N x0 (k1 + 1) (pre.length : Int) =
    bif ((decide (((x.toNat : Nat) : Int) < 65)) || (decide (((x.toNat : Nat) : Int) > 90))) && ((decide (((x.toNat : Nat) : Int) < 48)) || (decide (((x.toNat : Nat) : Int) > 57))) then
      some false
    else
      chart_Name.l0 N x0 k1 ((pre.length : Int) + 1) := by
  have hlen : x0.size = pre.length + 1 + r.length := by rw [ByteArray.size, ← Array.length_toList, hl]; simp; omega
  have e1 : decide ((pre.length : Int) < (x0.size : Int)) = true := by rw [decide_eq_true_iff]; omega
  have e2 : decide (0 ≤ (pre.length : Int)) = true := by rw [decide_eq_true_iff]; omega
  have e4 : w ((pre.length : Int) + 1) = (pre.length : Int) + 1 := w_next hl (by rw [Array.length_toList]; exact hb)
  have e6 : decide ((pre.length : Int) ≤ (x0.size : Int)) = true := by rw [decide_eq_true_iff]; omega
  have g0 : (ByteArray.data x0).getD pre.length 0 = x := getD_bytes hl
  rw [chart_Name.l0_clean]
  simp -implicitDefEqProofs only [Int.toNat_natCast, e1, e2, e4, e6, g0, Bool.and_true, Bool.true_and, Bool.true_or, cond_true]
theorem chart_Name.l0_nil (N : Nat) (x0 : ByteArray) (k1 : Nat) : chart_Name.l0 N x0 (k1 + 1) (x0.size : Int) =
    some true := by
  have e1 : decide ((x0.size : Int) < (x0.size : Int)) = false := by rw [decide_eq_false_iff_not]; omega
  rw [chart_Name.l0_clean]
  simp -implicitDefEqProofs only [e1, cond_false]
theorem chart_Name.eq (N : Nat) (x0 : ByteArray) : chart_Name.fn N x0 =
    bif !(!((x0.size : Int) == 0)) || (!((x0.size : Int) == 0)) then
      bif !(!((x0.size : Int) == 0)) || (!((x0.size : Int) == 0)) then
        bif ((x0.size : Int) == 0) || (!((x0.size : Int) == 0)) then
          bif !(!(((x0.size : Int) == 0) || (decide ((x0.size : Int) > 8)))) || (!(((x0.size : Int) == 0) || (decide ((x0.size : Int) > 8)))) then
            bif (decide (0 < (x0.size : Int))) || !(!(((x0.size : Int) == 0) || (decide ((x0.size : Int) > 8)))) then
              bif !(!(((x0.size : Int) == 0) || (decide ((x0.size : Int) > 8)))) || (!(((x0.size : Int) == 0) || (decide ((x0.size : Int) > 8)))) then
                bif (((x0.size : Int) == 0) || (decide ((x0.size : Int) > 8))) || (!(((x0.size : Int) == 0) || (decide ((x0.size : Int) > 8)))) then
                  bif !(!((((x0.size : Int) == 0) || (decide ((x0.size : Int) > 8))) || (decide (((((ByteArray.data x0).getD 0 0).toNat : Nat) : Int) < 65)))) || (!((((x0.size : Int) == 0) || (decide ((x0.size : Int) > 8))) || (decide (((((ByteArray.data x0).getD 0 0).toNat : Nat) : Int) < 65)))) then
                    bif (decide (0 < (x0.size : Int))) || !(!((((x0.size : Int) == 0) || (decide ((x0.size : Int) > 8))) || (decide (((((ByteArray.data x0).getD 0 0).toNat : Nat) : Int) < 65)))) then
                      bif !(!((((x0.size : Int) == 0) || (decide ((x0.size : Int) > 8))) || (decide (((((ByteArray.data x0).getD 0 0).toNat : Nat) : Int) < 65)))) || (!((((x0.size : Int) == 0) || (decide ((x0.size : Int) > 8))) || (decide (((((ByteArray.data x0).getD 0 0).toNat : Nat) : Int) < 65)))) then
                        bif ((((x0.size : Int) == 0) || (decide ((x0.size : Int) > 8))) || (decide (((((ByteArray.data x0).getD 0 0).toNat : Nat) : Int) < 65))) || (!((((x0.size : Int) == 0) || (decide ((x0.size : Int) > 8))) || (decide (((((ByteArray.data x0).getD 0 0).toNat : Nat) : Int) < 65)))) then
                          bif ((((x0.size : Int) == 0) || (decide ((x0.size : Int) > 8))) || (decide (((((ByteArray.data x0).getD 0 0).toNat : Nat) : Int) < 65))) || (decide (((((ByteArray.data x0).getD 0 0).toNat : Nat) : Int) > 90)) then
                            some false
                          else
                            chart_Name.l0 N x0 N 0
                        else
                          none
                      else
                        none
                    else
                      none
                  else
                    none
                else
                  none
              else
                none
            else
              none
          else
            none
        else
          none
      else
        none
    else
      none := by kernel_rfl
theorem taut7 : ∀ p0 p1 p2 : Bool, ((!(!(((p0) || (p1)) || (p2))) || (!(((p0) || (p1)) || (p2))))) = true := by decide
theorem taut8 : ∀ p0 p1 : Bool, ((!(!((p0) || (p1))) || (!((p0) || (p1))))) = true := by decide
theorem taut9 : ∀ p0 p1 p2 : Bool, (((((p0) || (p1)) || (p2)) || (!(((p0) || (p1)) || (p2))))) = true := by decide
theorem taut10 : ∀ p0 p1 : Bool, ((((p0) || (p1)) || (!((p0) || (p1))))) = true := by decide
theorem chart_Name.clean (N : Nat) (x0 : ByteArray) : chart_Name.fn N x0 =
    bif (decide (0 < (x0.size : Int))) || !(!(((x0.size : Int) == 0) || (decide ((x0.size : Int) > 8)))) then
      bif (decide (0 < (x0.size : Int))) || !(!((((x0.size : Int) == 0) || (decide ((x0.size : Int) > 8))) || (decide (((((ByteArray.data x0).getD 0 0).toNat : Nat) : Int) < 65)))) then
        bif ((((x0.size : Int) == 0) || (decide ((x0.size : Int) > 8))) || (decide (((((ByteArray.data x0).getD 0 0).toNat : Nat) : Int) < 65))) || (decide (((((ByteArray.data x0).getD 0 0).toNat : Nat) : Int) > 90)) then
          some false
        else
          chart_Name.l0 N x0 N 0
      else
        none
    else
      none := by
  rw [chart_Name.eq]; simp only [taut7, taut8, taut1, taut9, taut10, taut6, cond_true]

/-! ### sector_Name: skyway/sector.Name -/
def sector_Name.kp : List (Nat × List (Nat × Option (TypeId × Ty))) := []
noncomputable def sector_Name.G (N : Nat) : List (Nat × Spec) := [(65, .pure (chart_Name.S N))]
noncomputable def sector_Name.E (N : Nat) : Env := mkEnv (sector_Name.G N) N tyTab sector_Name.kp
noncomputable def sector_Name.fn (N : Nat) (x : ByteArray) : Option Bool := evFn (sector_Name.E N) Tryd.prog 3 Tryd.f58 false [.cell (.str)] [.val (.cell (.bool))] x
noncomputable def sector_Name.S (N : Nat) : PSpec := ⟨false, [.cell (.str)], [.val (.cell (.bool))], sector_Name.fn N⟩
theorem f58_enters : Enters Tryd.prog 58 := ⟨Tryd.f58, Tryd.func58, by kernel_rfl, by kernel_rfl⟩
theorem sector_Name.tab (N : Nat) : TabOk Tryd.prog (sector_Name.G N) := ⟨⟨chart_Name.enters, chart_Name.sound N⟩, trivial⟩
theorem sector_Name.enters : Enters Tryd.prog 58 := f58_enters
theorem sector_Name.sound (N : Nat) : Sound Tryd.prog 58 (sector_Name.S N) := evFn_sound (specs_tab (sector_Name.tab N)) (inls_tab (sector_Name.tab N)) mixed 3 Tryd.func58 _ _ _
theorem sector_Name.eq (N : Nat) (x0 : ByteArray) : sector_Name.fn N x0 =
    (chart_Name.fn N x0).bind fun r1 =>
    some r1 := by kernel_rfl

/-! ### owner_Name: skyway/owner.Name -/
def owner_Name.kp : List (Nat × List (Nat × Option (TypeId × Ty))) := []
noncomputable def owner_Name.G (N : Nat) : List (Nat × Spec) := [(58, .pure (sector_Name.S N))]
noncomputable def owner_Name.E (N : Nat) : Env := mkEnv (owner_Name.G N) N tyTab owner_Name.kp
noncomputable def owner_Name.fn (N : Nat) (x : ByteArray) : Option Bool := evFn (owner_Name.E N) Tryd.prog 3 Tryd.f53 false [.cell (.str)] [.val (.cell (.bool))] x
noncomputable def owner_Name.S (N : Nat) : PSpec := ⟨false, [.cell (.str)], [.val (.cell (.bool))], owner_Name.fn N⟩
theorem f53_enters : Enters Tryd.prog 53 := ⟨Tryd.f53, Tryd.func53, by kernel_rfl, by kernel_rfl⟩
theorem owner_Name.tab (N : Nat) : TabOk Tryd.prog (owner_Name.G N) := ⟨⟨sector_Name.enters, sector_Name.sound N⟩, trivial⟩
theorem owner_Name.enters : Enters Tryd.prog 53 := f53_enters
theorem owner_Name.sound (N : Nat) : Sound Tryd.prog 53 (owner_Name.S N) := evFn_sound (specs_tab (owner_Name.tab N)) (inls_tab (owner_Name.tab N)) mixed 3 Tryd.func53 _ _ _
theorem owner_Name.eq (N : Nat) (x0 : ByteArray) : owner_Name.fn N x0 =
    (sector_Name.fn N x0).bind fun r1 =>
    some r1 := by kernel_rfl

/-! ### phrase_kind: skyway/phrase.kind -/
def phrase_kind.kp : List (Nat × List (Nat × Option (TypeId × Ty))) := [(2, [(0, none), (5, none), (6, none)])]
noncomputable def phrase_kind.G (N : Nat) : List (Nat × Spec) := []
noncomputable def phrase_kind.E (N : Nat) : Env := mkEnv (phrase_kind.G N) N tyTab phrase_kind.kp
noncomputable def phrase_kind.fn (N : Nat) (x : ByteArray) : Option Int := evFn (phrase_kind.E N) Tryd.prog 3 Tryd.f54 false [.cell (.str)] [.val (.cell (.int .i64))] x
noncomputable def phrase_kind.S (N : Nat) : PSpec := ⟨false, [.cell (.str)], [.val (.cell (.int .i64))], phrase_kind.fn N⟩
theorem f54_enters : Enters Tryd.prog 54 := ⟨Tryd.f54, Tryd.func54, by kernel_rfl, by kernel_rfl⟩
theorem phrase_kind.tab (N : Nat) : TabOk Tryd.prog (phrase_kind.G N) := trivial
theorem phrase_kind.enters : Enters Tryd.prog 54 := f54_enters
theorem phrase_kind.sound (N : Nat) : Sound Tryd.prog 54 (phrase_kind.S N) := evFn_sound (specs_tab (phrase_kind.tab N)) (inls_tab (phrase_kind.tab N)) mixed 3 Tryd.func54 _ _ _
noncomputable def phrase_kind.cd (N : Nat) (p : List Nat) : St → (Ex → St → Option Int) → Option Int := ev (phrase_kind.E N) Tryd.prog (callD (phrase_kind.E N) Tryd.prog 3) 0 (codeAt (bodyOf Tryd.f54) p)
noncomputable def phrase_kind.fin : Ex → St → Option Int := endK Tryd.prog Tryd.f54 [.val (.cell (.int .i64))]
noncomputable def phrase_kind.l0 (N : Nat) (x0 : ByteArray) (k1 : Nat) (a2 : Int) : Option Int :=
  loopN (norm ((phrase_kind.E N).keep 2) 0) (phrase_kind.cd N [1, 0, 1, 0, 0]) k1
  ⟨[.sc (.string x0), .any, .any, .any, .any, .agg [.sc (.string (⟨#[72, 69, 73, 71, 72, 84]⟩ : ByteArray)), .sc (.string (⟨#[72, 69, 65, 68, 73, 78, 71]⟩ : ByteArray)), .sc (.string (⟨#[83, 80, 69, 69, 68]⟩ : ByteArray)), .sc (.string (⟨#[68, 73, 82, 69, 67, 84]⟩ : ByteArray)), .sc (.string (⟨#[72, 79, 76, 68]⟩ : ByteArray)), .sc (.string (⟨#[67, 79, 78, 84, 65, 67, 84]⟩ : ByteArray)), .sc (.string (⟨#[76, 65, 78, 68]⟩ : ByteArray))], .sc (.int .i64 a2), .any, .any, .any, .any, .any, .any, .any, .any], []⟩
  (blockK 0 (seqK (phrase_kind.cd N [1, 1]) phrase_kind.fin))
theorem phrase_kind.l0_zero (N : Nat) (x0 : ByteArray) (a2 : Int) : phrase_kind.l0 N x0 0 a2 = none := by kernel_rfl
theorem phrase_kind.l0_succ (N : Nat) (x0 : ByteArray) (k1 : Nat) (a2 : Int) : phrase_kind.l0 N x0 (k1 + 1) a2 =
    bif decide (a2 < 7) then
      bif (decide (0 ≤ a2)) && (decide (a2 < 7)) then
        bif decide (((Int.toNat a2) * 1) < 7) then
          bif seq (List.getD [(⟨#[72, 69, 73, 71, 72, 84]⟩ : ByteArray), (⟨#[72, 69, 65, 68, 73, 78, 71]⟩ : ByteArray), (⟨#[83, 80, 69, 69, 68]⟩ : ByteArray), (⟨#[68, 73, 82, 69, 67, 84]⟩ : ByteArray), (⟨#[72, 79, 76, 68]⟩ : ByteArray), (⟨#[67, 79, 78, 84, 65, 67, 84]⟩ : ByteArray), (⟨#[76, 65, 78, 68]⟩ : ByteArray)] ((Int.toNat a2) * 1) (⟨#[]⟩ : ByteArray)) x0 then
            some a2
          else
            phrase_kind.l0 N x0 k1 (w (a2 + 1))
        else
          none
      else
        none
    else
      some (-1) := by kernel_rfl
theorem phrase_kind.eq (N : Nat) (x0 : ByteArray) : phrase_kind.fn N x0 =
    phrase_kind.l0 N x0 N 0 := by kernel_rfl

/-! ### phrase_plain: skyway/phrase.plain -/
def phrase_plain.kp : List (Nat × List (Nat × Option (TypeId × Ty))) := []
noncomputable def phrase_plain.G (N : Nat) : List (Nat × Spec) := [(53, .pure (owner_Name.S N)), (54, .pure (phrase_kind.S N))]
noncomputable def phrase_plain.E (N : Nat) : Env := mkEnv (phrase_plain.G N) N tyTab phrase_plain.kp
noncomputable def phrase_plain.fn (N : Nat) (x : ByteArray) : Option Bool := evFn (phrase_plain.E N) Tryd.prog 3 Tryd.f40 false [.cell (.str)] [.val (.cell (.bool))] x
noncomputable def phrase_plain.S (N : Nat) : PSpec := ⟨false, [.cell (.str)], [.val (.cell (.bool))], phrase_plain.fn N⟩
theorem f40_enters : Enters Tryd.prog 40 := ⟨Tryd.f40, Tryd.func40, by kernel_rfl, by kernel_rfl⟩
theorem phrase_plain.tab (N : Nat) : TabOk Tryd.prog (phrase_plain.G N) := ⟨⟨owner_Name.enters, owner_Name.sound N⟩, ⟨phrase_kind.enters, phrase_kind.sound N⟩, trivial⟩
theorem phrase_plain.enters : Enters Tryd.prog 40 := f40_enters
theorem phrase_plain.sound (N : Nat) : Sound Tryd.prog 40 (phrase_plain.S N) := evFn_sound (specs_tab (phrase_plain.tab N)) (inls_tab (phrase_plain.tab N)) mixed 3 Tryd.func40 _ _ _
theorem phrase_plain.eq (N : Nat) (x0 : ByteArray) : phrase_plain.fn N x0 =
    (owner_Name.fn N x0).bind fun r1 =>
    bif !r1 || r1 then
      (bif r1 then phrase_kind.fn N x0 else some (0)).bind fun r2 =>
      bif !r1 || r1 then
        bif (!r1) || r1 then
          some (r1 && (decide (r2 < 0)))
        else
          none
      else
        none
    else
      none := by kernel_rfl
theorem taut11 : ∀ p0 : Bool, ((!p0 || p0)) = true := by decide
theorem taut12 : ∀ p0 : Bool, (((!p0) || p0)) = true := by decide
theorem phrase_plain.clean (N : Nat) (x0 : ByteArray) : phrase_plain.fn N x0 =
    (owner_Name.fn N x0).bind fun r1 =>
    (bif r1 then phrase_kind.fn N x0 else some (0)).bind fun r2 =>
    some (r1 && (decide (r2 < 0))) := by
  rw [phrase_plain.eq]; simp only [taut11, taut12, cond_true]

/-! ### phrase_Check: skyway/phrase.Check -/
def phrase_Check.kp : List (Nat × List (Nat × Option (TypeId × Ty))) := []
noncomputable def phrase_Check.G (N : Nat) : List (Nat × Spec) := [(40, .pure (phrase_plain.S N))]
noncomputable def phrase_Check.E (N : Nat) : Env := mkEnv (phrase_Check.G N) N tyTab phrase_Check.kp
noncomputable def phrase_Check.fn (N : Nat) (x : ByteArray × Int × Int × ByteArray) : Option Int := evFn (phrase_Check.E N) Tryd.prog 3 Tryd.f21 false [.agg (.pair (.str) (.pair (.int .i64) (.pair (.int .i64) (.str))))] [.val (.cell (.int .i64))] x
noncomputable def phrase_Check.S (N : Nat) : PSpec := ⟨false, [.agg (.pair (.str) (.pair (.int .i64) (.pair (.int .i64) (.str))))], [.val (.cell (.int .i64))], phrase_Check.fn N⟩
theorem f21_enters : Enters Tryd.prog 21 := ⟨Tryd.f21, Tryd.func21, by kernel_rfl, by kernel_rfl⟩
theorem phrase_Check.tab (N : Nat) : TabOk Tryd.prog (phrase_Check.G N) := ⟨⟨phrase_plain.enters, phrase_plain.sound N⟩, trivial⟩
theorem phrase_Check.enters : Enters Tryd.prog 21 := f21_enters
theorem phrase_Check.sound (N : Nat) : Sound Tryd.prog 21 (phrase_Check.S N) := evFn_sound (specs_tab (phrase_Check.tab N)) (inls_tab (phrase_Check.tab N)) mixed 3 Tryd.func21 _ _ _
theorem phrase_Check.eq (N : Nat) (x0 : ByteArray × Int × Int × ByteArray) : phrase_Check.fn N x0 =
    (phrase_plain.fn N x0.1).bind fun r1 =>
    bif !r1 then
      some 3
    else
    bif !(!(decide (x0.2.1 < 0))) || (!(decide (x0.2.1 < 0))) then
      bif !(!(decide (x0.2.1 < 0))) || (!(decide (x0.2.1 < 0))) then
        bif (decide (x0.2.1 < 0)) || (!(decide (x0.2.1 < 0))) then
          bif (decide (x0.2.1 < 0)) || (decide (x0.2.1 > 6)) then
            some 1
          else
          bif decide (x0.2.1 ≥ 3) then
            bif !(!(!(x0.2.2.1 == 0))) || (!(!(x0.2.2.1 == 0))) then
              bif !(!(!(x0.2.2.1 == 0))) || (!(!(x0.2.2.1 == 0))) then
                (bif (!(!(x0.2.2.1 == 0))) then phrase_plain.fn N x0.2.2.2 else some (false)).bind fun r2 =>
                bif !(!(!(x0.2.2.1 == 0))) || (!(!(x0.2.2.1 == 0))) then
                  bif (!(x0.2.2.1 == 0)) || (!(!(x0.2.2.1 == 0))) then
                    bif (!(x0.2.2.1 == 0)) || (!r2) then
                      some 3
                    else
                      some 0
                  else
                    none
                else
                  none
              else
                none
            else
              none
          else
          bif !(seq x0.2.2.2 (⟨#[]⟩ : ByteArray)) then
            some 3
          else
          bif !(!(decide (x0.2.2.1 < 0))) || (!(decide (x0.2.2.1 < 0))) then
            bif !(!(decide (x0.2.2.1 < 0))) || (!(decide (x0.2.2.1 < 0))) then
              bif !(!(decide (x0.2.2.1 < 0))) || (!(decide (x0.2.2.1 < 0))) then
                bif ((decide (0 ≤ x0.2.1)) && (decide (x0.2.1 < 3))) || !(!(decide (x0.2.2.1 < 0))) then
                  bif !(!(decide (x0.2.2.1 < 0))) || (!(decide (x0.2.2.1 < 0))) then
                    bif (decide ((0 + ((Int.toNat x0.2.1) * 1)) < 3)) || !(!(decide (x0.2.2.1 < 0))) then
                      bif !(!(decide (x0.2.2.1 < 0))) || (!(decide (x0.2.2.1 < 0))) then
                        bif !(!(decide (x0.2.2.1 < 0))) || (!(decide (x0.2.2.1 < 0))) then
                          bif (decide (x0.2.2.1 < 0)) || (!(decide (x0.2.2.1 < 0))) then
                            bif (decide (x0.2.2.1 < 0)) || (decide (x0.2.2.1 > (List.getD [60000, 4095, 400] (0 + ((Int.toNat x0.2.1) * 1)) 0))) then
                              some 4
                            else
                              some 0
                          else
                            none
                        else
                          none
                      else
                        none
                    else
                      none
                  else
                    none
                else
                  none
              else
                none
            else
              none
          else
            none
        else
          none
      else
        none
    else
      none := by kernel_rfl
theorem taut13 : ∀ p0 : Bool, ((!(!(!(p0))) || (!(!(p0))))) = true := by decide
theorem taut14 : ∀ p0 : Bool, (((!(p0)) || (!(!(p0))))) = true := by decide
theorem phrase_Check.clean (N : Nat) (x0 : ByteArray × Int × Int × ByteArray) : phrase_Check.fn N x0 =
    (phrase_plain.fn N x0.1).bind fun r1 =>
    bif !r1 then
      some 3
    else
    bif (decide (x0.2.1 < 0)) || (decide (x0.2.1 > 6)) then
      some 1
    else
    bif decide (x0.2.1 ≥ 3) then
      (bif (!(!(x0.2.2.1 == 0))) then phrase_plain.fn N x0.2.2.2 else some (false)).bind fun r2 =>
      bif (!(x0.2.2.1 == 0)) || (!r2) then
        some 3
      else
        some 0
    else
    bif !(seq x0.2.2.2 (⟨#[]⟩ : ByteArray)) then
      some 3
    else
    bif ((decide (0 ≤ x0.2.1)) && (decide (x0.2.1 < 3))) || !(!(decide (x0.2.2.1 < 0))) then
      bif (decide ((0 + ((Int.toNat x0.2.1) * 1)) < 3)) || !(!(decide (x0.2.2.1 < 0))) then
        bif (decide (x0.2.2.1 < 0)) || (decide (x0.2.2.1 > (List.getD [60000, 4095, 400] (0 + ((Int.toNat x0.2.1) * 1)) 0))) then
          some 4
        else
          some 0
      else
        none
    else
      none := by
  rw [phrase_Check.eq]; simp only [taut13, taut1, taut14, taut6, cond_true]

/-! ### readback_Compare: skyway/readback.Compare -/
def readback_Compare.kp : List (Nat × List (Nat × Option (TypeId × Ty))) := [(1000010, [(2, none), (3, none), (8, none)]), (1000014, [(2, none), (3, none), (8, none)])]
noncomputable def readback_Compare.G (N : Nat) : List (Nat × Spec) := [(21, .pure (phrase_Check.S N))]
noncomputable def readback_Compare.E (N : Nat) : Env := mkEnv (readback_Compare.G N) N tyTab readback_Compare.kp
noncomputable def readback_Compare.fn (N : Nat) (x : (ByteArray × Int × Int × ByteArray) × ByteArray × Int × Int × ByteArray) : Option (Int × Int) := evFn (readback_Compare.E N) Tryd.prog 3 Tryd.f10 false [.agg (.pair (.str) (.pair (.int .i64) (.pair (.int .i64) (.str)))), .agg (.pair (.str) (.pair (.int .i64) (.pair (.int .i64) (.str))))] [.val (.cell (.int .i64)), .val (.cell (.int .i64))] x
noncomputable def readback_Compare.S (N : Nat) : PSpec := ⟨false, [.agg (.pair (.str) (.pair (.int .i64) (.pair (.int .i64) (.str)))), .agg (.pair (.str) (.pair (.int .i64) (.pair (.int .i64) (.str))))], [.val (.cell (.int .i64)), .val (.cell (.int .i64))], readback_Compare.fn N⟩
theorem f10_enters : Enters Tryd.prog 10 := ⟨Tryd.f10, Tryd.func10, by kernel_rfl, by kernel_rfl⟩
theorem readback_Compare.tab (N : Nat) : TabOk Tryd.prog (readback_Compare.G N) := ⟨⟨phrase_Check.enters, phrase_Check.sound N⟩, trivial⟩
theorem readback_Compare.enters : Enters Tryd.prog 10 := f10_enters
theorem readback_Compare.sound (N : Nat) : Sound Tryd.prog 10 (readback_Compare.S N) := evFn_sound (specs_tab (readback_Compare.tab N)) (inls_tab (readback_Compare.tab N)) mixed 3 Tryd.func10 _ _ _
noncomputable def readback_Compare.cd (N : Nat) (p : List Nat) : St → (Ex → St → Option (Int × Int)) → Option (Int × Int) := ev (readback_Compare.E N) Tryd.prog (callD (readback_Compare.E N) Tryd.prog 3) 0 (codeAt (bodyOf Tryd.f10) p)
noncomputable def readback_Compare.fin : Ex → St → Option (Int × Int) := endK Tryd.prog Tryd.f10 [.val (.cell (.int .i64)), .val (.cell (.int .i64))]
noncomputable def readback_Compare.j0 (N : Nat) (x0 : ByteArray × Int × Int × ByteArray) (x1 : ByteArray × Int × Int × ByteArray) (a3 : Int) : Option (Int × Int) :=
  fuelK N (region (readback_Compare.E N) Tryd.prog (callD (readback_Compare.E N) Tryd.prog 3) (opsAt (codeAt (bodyOf Tryd.f10) [1, 1, 1, 1, 1, 0, 0])) false
  ⟨[.any, .any, .ptr 0 0, .ptr 1 0, .any, .any, .any, .any, .sc (.int .i64 a3), .any, .any, .any, .any, .any, .any, .any, .any, .any, .any, .any, .any, .any, .any, .any, .any, .any, .any, .any, .any, .any, .any, .any, .any, .any, .any, .any, .any, .any, .any, .any, .any, .any, .any, .any, .any, .any, .any, .any], [.cells [.sc (.string x0.1), .sc (.int .i64 x0.2.1), .sc (.int .i64 x0.2.2.1), .sc (.string x0.2.2.2)] 23, .cells [.sc (.string x1.1), .sc (.int .i64 x1.2.1), .sc (.int .i64 x1.2.2.1), .sc (.string x1.2.2.2)] 23]⟩
  (fun S => (seqK (readback_Compare.cd N [1, 1, 1, 1, 1, 0, 1]) (seqK (readback_Compare.cd N [1, 1, 1, 1, 1, 1]) readback_Compare.fin)) .normal S))
noncomputable def readback_Compare.j1 (N : Nat) (x0 : ByteArray × Int × Int × ByteArray) (x1 : ByteArray × Int × Int × ByteArray) (a4 : Int) : Option (Int × Int) :=
  fuelK N (region (readback_Compare.E N) Tryd.prog (callD (readback_Compare.E N) Tryd.prog 3) (opsAt (codeAt (bodyOf Tryd.f10) [1, 1, 1, 1, 1, 1, 1, 0, 0])) false
  ⟨[.any, .any, .ptr 0 0, .ptr 1 0, .any, .any, .any, .any, .sc (.int .i64 a4), .any, .any, .any, .any, .any, .any, .any, .any, .any, .any, .any, .any, .any, .any, .any, .any, .any, .any, .any, .any, .any, .any, .any, .any, .any, .any, .any, .any, .any, .any, .any, .any, .any, .any, .any, .any, .any, .any, .any], [.cells [.sc (.string x0.1), .sc (.int .i64 x0.2.1), .sc (.int .i64 x0.2.2.1), .sc (.string x0.2.2.2)] 23, .cells [.sc (.string x1.1), .sc (.int .i64 x1.2.1), .sc (.int .i64 x1.2.2.1), .sc (.string x1.2.2.2)] 23]⟩
  (fun S => (seqK (readback_Compare.cd N [1, 1, 1, 1, 1, 1, 1, 0, 1]) (seqK (readback_Compare.cd N [1, 1, 1, 1, 1, 1, 1, 1]) readback_Compare.fin)) .normal S))
noncomputable def readback_Compare.j2 (N : Nat) (x0 : ByteArray × Int × Int × ByteArray) (x1 : ByteArray × Int × Int × ByteArray) (a5 : Int) : Option (Int × Int) :=
  fuelK N (region (readback_Compare.E N) Tryd.prog (callD (readback_Compare.E N) Tryd.prog 3) (opsAt (codeAt (bodyOf Tryd.f10) [1, 1, 1, 1, 1, 1, 1, 0, 0])) false
  ⟨[.any, .any, .ptr 0 0, .ptr 1 0, .any, .any, .any, .any, .sc (.int .i64 a5), .any, .any, .any, .any, .any, .any, .any, .any, .any, .any, .any, .any, .any, .any, .any, .any, .any, .any, .any, .any, .any, .any, .any, .any, .any, .any, .any, .any, .any, .any, .any, .any, .any, .any, .any, .any, .any, .any, .any], [.cells [.sc (.string x0.1), .sc (.int .i64 x0.2.1), .sc (.int .i64 x0.2.2.1), .sc (.string x0.2.2.2)] 23, .cells [.sc (.string x1.1), .sc (.int .i64 x1.2.1), .sc (.int .i64 x1.2.2.1), .sc (.string x1.2.2.2)] 23]⟩
  (fun S => (seqK (readback_Compare.cd N [1, 1, 1, 1, 1, 1, 1, 0, 1]) (seqK (readback_Compare.cd N [1, 1, 1, 1, 1, 1, 1, 1]) readback_Compare.fin)) .normal S))
theorem readback_Compare.j2_eq (N : Nat) (x0 : ByteArray × Int × Int × ByteArray) (x1 : ByteArray × Int × Int × ByteArray) (a5 : Int) {M : Nat} (hM : N = M + 1) : readback_Compare.j2 N x0 x1 a5 =
    bif !(seq x0.2.2.2 x1.2.2.2) then
      some ((borI .i64 a5 8), 0)
    else
      some (a5, 0) := (fuelK_eq hM _).trans (by kernel_rfl)
theorem readback_Compare.j1_eq (N : Nat) (x0 : ByteArray × Int × Int × ByteArray) (x1 : ByteArray × Int × Int × ByteArray) (a4 : Int) {M : Nat} (hM : N = M + 1) : readback_Compare.j1 N x0 x1 a4 =
    bif !(seq x0.2.2.2 x1.2.2.2) then
      some ((borI .i64 a4 8), 0)
    else
      some (a4, 0) := (fuelK_eq hM _).trans (by kernel_rfl)
theorem readback_Compare.j0_eq (N : Nat) (x0 : ByteArray × Int × Int × ByteArray) (x1 : ByteArray × Int × Int × ByteArray) (a3 : Int) {M : Nat} (hM : N = M + 1) : readback_Compare.j0 N x0 x1 a3 =
    bif !(x0.2.1 == x1.2.1) then
      bif !(x0.2.2.1 == x1.2.2.1) then
        readback_Compare.j1 N x0 x1 (borI .i64 (borI .i64 a3 2) 4)
      else
        readback_Compare.j1 N x0 x1 (borI .i64 a3 2)
    else
    bif !(x0.2.2.1 == x1.2.2.1) then
      readback_Compare.j2 N x0 x1 (borI .i64 a3 4)
    else
      readback_Compare.j2 N x0 x1 a3 := (fuelK_eq hM _).trans (by kernel_rfl)
theorem readback_Compare.eq (N : Nat) (x0 : ByteArray × Int × Int × ByteArray) (x1 : ByteArray × Int × Int × ByteArray) : readback_Compare.fn N (x0, x1) =
    (phrase_Check.fn N x0).bind fun r1 =>
    bif !(r1 == 0) then
      some (0, r1)
    else
      (phrase_Check.fn N x1).bind fun r2 =>
      bif !(r2 == 0) then
        some (0, r2)
      else
      bif !(seq x0.1 x1.1) then
        readback_Compare.j0 N x0 x1 (borI .i64 0 1)
      else
        readback_Compare.j0 N x0 x1 0 := by kernel_rfl

/-! ### readback_find: skyway/readback.find -/
def readback_find.kp : List (Nat × List (Nat × Option (TypeId × Ty))) := [(2, [(0, none), (1, none), (7, none), (8, none)])]
noncomputable def readback_find.G (N : Nat) : List (Nat × Spec) := [(46, .inl Tryd.f46), (47, .inl Tryd.f47)]
noncomputable def readback_find.E (N : Nat) : Env := mkEnv (readback_find.G N) N tyTab readback_find.kp
noncomputable def readback_find.fn (N : Nat) (x : List ((ByteArray × Int × Int × ByteArray) × Int) × ByteArray × Int × Int × ByteArray) : Option Int := evFn (readback_find.E N) Tryd.prog 3 Tryd.f35 false [.cell (.sl 40 (.pair (.pair (.str) (.pair (.int .i64) (.pair (.int .i64) (.str)))) (.int .i64))), .agg (.pair (.str) (.pair (.int .i64) (.pair (.int .i64) (.str))))] [.val (.cell (.int .i64))] x
noncomputable def readback_find.S (N : Nat) : PSpec := ⟨false, [.cell (.sl 40 (.pair (.pair (.str) (.pair (.int .i64) (.pair (.int .i64) (.str)))) (.int .i64))), .agg (.pair (.str) (.pair (.int .i64) (.pair (.int .i64) (.str))))], [.val (.cell (.int .i64))], readback_find.fn N⟩
theorem f46_enters : Enters Tryd.prog 46 := ⟨Tryd.f46, Tryd.func46, by kernel_rfl, by kernel_rfl⟩
theorem f47_enters : Enters Tryd.prog 47 := ⟨Tryd.f47, Tryd.func47, by kernel_rfl, by kernel_rfl⟩
theorem f35_enters : Enters Tryd.prog 35 := ⟨Tryd.f35, Tryd.func35, by kernel_rfl, by kernel_rfl⟩
theorem readback_find.tab (N : Nat) : TabOk Tryd.prog (readback_find.G N) := ⟨⟨f46_enters, Tryd.func46⟩, ⟨f47_enters, Tryd.func47⟩, trivial⟩
theorem readback_find.enters : Enters Tryd.prog 35 := f35_enters
theorem readback_find.sound (N : Nat) : Sound Tryd.prog 35 (readback_find.S N) := evFn_sound (specs_tab (readback_find.tab N)) (inls_tab (readback_find.tab N)) mixed 3 Tryd.func35 _ _ _
noncomputable def readback_find.cd (N : Nat) (p : List Nat) : St → (Ex → St → Option Int) → Option Int := ev (readback_find.E N) Tryd.prog (callD (readback_find.E N) Tryd.prog 3) 0 (codeAt (bodyOf Tryd.f35) p)
noncomputable def readback_find.cd46_2_1 (N : Nat) (p : List Nat) : St → (Ex → St → Option Int) → Option Int := ev (readback_find.E N) Tryd.prog (callD (readback_find.E N) Tryd.prog 2) 1 (codeAt (bodyOf Tryd.f46) p)
noncomputable def readback_find.fin : Ex → St → Option Int := endK Tryd.prog Tryd.f35 [.val (.cell (.int .i64))]
noncomputable def readback_find.l0 (N : Nat) (x0 : List ((ByteArray × Int × Int × ByteArray) × Int)) (x1 : ByteArray × Int × Int × ByteArray) (k1 : Nat) (a2 : Int) : Option Int :=
  loopN (norm ((readback_find.E N).keep 2) 1) (readback_find.cd46_2_1 N [1, 0, 1, 0, 0]) k1
  ⟨[.ros false 40 (.pair (.pair (.str) (.pair (.int .i64) (.pair (.int .i64) (.str)))) (.int .i64)) x0, .clo 47 [.ptr 0 0], .any, .any, .any, .any, .any, .sc (.int .i64 (x0.length : Int)), .sc (.int .i64 a2), .any, .any, .any, .any, .any, .any, .any, .any, .any, .any], [.cells [.sc (.string x1.1), .sc (.int .i64 x1.2.1), .sc (.int .i64 x1.2.2.1), .sc (.string x1.2.2.2)] 23]⟩
  (blockK 0 (seqK (readback_find.cd46_2_1 N [1, 1]) (retK Tryd.prog Tryd.f46 (fun vs hp => (reg (readback_find.E N) Tryd.prog (callD (readback_find.E N) Tryd.prog 3) (opsAt (codeAt (bodyOf Tryd.f35) [1, 0])) [] (List.drop 3 (opsAt (codeAt (bodyOf Tryd.f35) [1, 0]))) (St.put ⟨[.ros false 40 (.pair (.pair (.str) (.pair (.int .i64) (.pair (.int .i64) (.str)))) (.int .i64)) x0, .agg [.sc (.string x1.1), .sc (.int .i64 x1.2.1), .sc (.int .i64 x1.2.2.1), .sc (.string x1.2.2.2)], .any, .ptr 0 0, .sc (.int .i64 0), .ros false 40 (.pair (.pair (.str) (.pair (.int .i64) (.pair (.int .i64) (.str)))) (.int .i64)) x0, .clo 47 [.ptr 0 0], .any], hp⟩ (some 7) (tupOf vs)) (fun S => (seqK (readback_find.cd N [1, 1]) readback_find.fin) .normal S))))))
theorem readback_find.l0_zero (N : Nat) (x0 : List ((ByteArray × Int × Int × ByteArray) × Int)) (x1 : ByteArray × Int × Int × ByteArray) (a2 : Int) : readback_find.l0 N x0 x1 0 a2 = none := by kernel_rfl
theorem readback_find.l0_succ (N : Nat) (x0 : List ((ByteArray × Int × Int × ByteArray) × Int)) (x1 : ByteArray × Int × Int × ByteArray) (k1 : Nat) (a2 : Int) : readback_find.l0 N x0 x1 (k1 + 1) a2 =
    bif decide (a2 < (x0.length : Int)) then
      bif (decide (0 ≤ a2)) && (decide (a2 < (x0.length : Int))) then
        bif !(seq (((List.getD x0 (Int.toNat a2) (((⟨#[]⟩ : ByteArray), (0, (0, (⟨#[]⟩ : ByteArray)))), 0)).1).1) x1.1) || (seq (((List.getD x0 (Int.toNat a2) (((⟨#[]⟩ : ByteArray), (0, (0, (⟨#[]⟩ : ByteArray)))), 0)).1).1) x1.1) then
          bif !(seq (((List.getD x0 (Int.toNat a2) (((⟨#[]⟩ : ByteArray), (0, (0, (⟨#[]⟩ : ByteArray)))), 0)).1).1) x1.1) || (seq (((List.getD x0 (Int.toNat a2) (((⟨#[]⟩ : ByteArray), (0, (0, (⟨#[]⟩ : ByteArray)))), 0)).1).1) x1.1) then
            bif !(seq (((List.getD x0 (Int.toNat a2) (((⟨#[]⟩ : ByteArray), (0, (0, (⟨#[]⟩ : ByteArray)))), 0)).1).1) x1.1) || (seq (((List.getD x0 (Int.toNat a2) (((⟨#[]⟩ : ByteArray), (0, (0, (⟨#[]⟩ : ByteArray)))), 0)).1).1) x1.1) then
              bif !(seq (((List.getD x0 (Int.toNat a2) (((⟨#[]⟩ : ByteArray), (0, (0, (⟨#[]⟩ : ByteArray)))), 0)).1).1) x1.1) || (seq (((List.getD x0 (Int.toNat a2) (((⟨#[]⟩ : ByteArray), (0, (0, (⟨#[]⟩ : ByteArray)))), 0)).1).1) x1.1) then
                bif !(seq (((List.getD x0 (Int.toNat a2) (((⟨#[]⟩ : ByteArray), (0, (0, (⟨#[]⟩ : ByteArray)))), 0)).1).1) x1.1) || (seq (((List.getD x0 (Int.toNat a2) (((⟨#[]⟩ : ByteArray), (0, (0, (⟨#[]⟩ : ByteArray)))), 0)).1).1) x1.1) then
                  bif (!(seq (((List.getD x0 (Int.toNat a2) (((⟨#[]⟩ : ByteArray), (0, (0, (⟨#[]⟩ : ByteArray)))), 0)).1).1) x1.1)) || (seq (((List.getD x0 (Int.toNat a2) (((⟨#[]⟩ : ByteArray), (0, (0, (⟨#[]⟩ : ByteArray)))), 0)).1).1) x1.1) then
                    bif (seq (((List.getD x0 (Int.toNat a2) (((⟨#[]⟩ : ByteArray), (0, (0, (⟨#[]⟩ : ByteArray)))), 0)).1).1) x1.1) && (((((List.getD x0 (Int.toNat a2) (((⟨#[]⟩ : ByteArray), (0, (0, (⟨#[]⟩ : ByteArray)))), 0)).1).2).1) == x1.2.1) then
                      some a2
                    else
                      readback_find.l0 N x0 x1 k1 (w (a2 + 1))
                  else
                    none
                else
                  none
              else
                none
            else
              none
          else
            none
        else
          none
      else
        none
    else
      some (-1) := by kernel_rfl
theorem taut15 : ∀ p0 : Bool, ((!(p0) || (p0))) = true := by decide
theorem taut16 : ∀ p0 : Bool, (((!(p0)) || (p0))) = true := by decide
theorem readback_find.l0_clean (N : Nat) (x0 : List ((ByteArray × Int × Int × ByteArray) × Int)) (x1 : ByteArray × Int × Int × ByteArray) (k1 : Nat) (a2 : Int) : readback_find.l0 N x0 x1 (k1 + 1) a2 =
    bif decide (a2 < (x0.length : Int)) then
      bif (decide (0 ≤ a2)) && (decide (a2 < (x0.length : Int))) then
        bif (seq (((List.getD x0 (Int.toNat a2) (((⟨#[]⟩ : ByteArray), (0, (0, (⟨#[]⟩ : ByteArray)))), 0)).1).1) x1.1) && (((((List.getD x0 (Int.toNat a2) (((⟨#[]⟩ : ByteArray), (0, (0, (⟨#[]⟩ : ByteArray)))), 0)).1).2).1) == x1.2.1) then
          some a2
        else
          readback_find.l0 N x0 x1 k1 (w (a2 + 1))
      else
        none
    else
      some (-1) := by
  rw [readback_find.l0_succ]; simp only [taut15, taut16, cond_true]
theorem readback_find.l0_cons (N : Nat) (x0 : List ((ByteArray × Int × Int × ByteArray) × Int)) (x1 : ByteArray × Int × Int × ByteArray) (k1 : Nat) {pre r} {x} (hl : x0 = pre ++ x :: r) (hb : x0.length < 4611686018427387904) : readback_find.l0 N x0 x1 (k1 + 1) (pre.length : Int) =
    bif (seq ((x.1).1) x1.1) && ((((x.1).2).1) == x1.2.1) then
      some (pre.length : Int)
    else
      readback_find.l0 N x0 x1 k1 ((pre.length : Int) + 1) := by
  have hlen : x0.length = pre.length + 1 + r.length := by rw [hl]; simp; omega
  have e1 : decide ((pre.length : Int) < (x0.length : Int)) = true := by rw [decide_eq_true_iff]; omega
  have e2 : decide (0 ≤ (pre.length : Int)) = true := by rw [decide_eq_true_iff]; omega
  have e4 : w ((pre.length : Int) + 1) = (pre.length : Int) + 1 := w_next hl hb
  have e5 : List.take pre.length x0 = pre := by rw [hl]; simp
  have e6 : decide ((pre.length : Int) ≤ (x0.length : Int)) = true := by rw [decide_eq_true_iff]; omega
  have g0 : List.getD x0 pre.length (((⟨#[]⟩ : ByteArray), (0, (0, (⟨#[]⟩ : ByteArray)))), 0) = x := by rw [hl]; exact getD_mid pre x r _
  rw [readback_find.l0_clean]
  simp -implicitDefEqProofs only [Int.toNat_natCast, e1, e2, e4, e6, g0, e5, Bool.and_true, Bool.true_and, Bool.true_or, cond_true]
theorem readback_find.l0_nil (N : Nat) (x0 : List ((ByteArray × Int × Int × ByteArray) × Int)) (x1 : ByteArray × Int × Int × ByteArray) (k1 : Nat) : readback_find.l0 N x0 x1 (k1 + 1) (x0.length : Int) =
    some (-1) := by
  have e1 : decide ((x0.length : Int) < (x0.length : Int)) = false := by rw [decide_eq_false_iff_not]; omega
  rw [readback_find.l0_clean]
  simp -implicitDefEqProofs only [e1, cond_false]
theorem readback_find.eq (N : Nat) (x0 : List ((ByteArray × Int × Int × ByteArray) × Int)) (x1 : ByteArray × Int × Int × ByteArray) : readback_find.fn N (x0, x1) =
    readback_find.l0 N x0 x1 N 0 := by kernel_rfl

/-! ### readback_Check: skyway/readback.Check -/
def readback_Check.kp : List (Nat × List (Nat × Option (TypeId × Ty))) := [(4, [(0, none), (9, none), (10, none), (11, none)])]
noncomputable def readback_Check.G (N : Nat) : List (Nat × Spec) := [(21, .pure (phrase_Check.S N)), (35, .pure (readback_find.S N))]
noncomputable def readback_Check.E (N : Nat) : Env := mkEnv (readback_Check.G N) N tyTab readback_Check.kp
noncomputable def readback_Check.fn (N : Nat) (x : List ((ByteArray × Int × Int × ByteArray) × Int)) : Option Int := evFn (readback_Check.E N) Tryd.prog 3 Tryd.f14 false [.cell (.sl 40 (.pair (.pair (.str) (.pair (.int .i64) (.pair (.int .i64) (.str)))) (.int .i64)))] [.val (.cell (.int .i64))] x
noncomputable def readback_Check.S (N : Nat) : PSpec := ⟨false, [.cell (.sl 40 (.pair (.pair (.str) (.pair (.int .i64) (.pair (.int .i64) (.str)))) (.int .i64)))], [.val (.cell (.int .i64))], readback_Check.fn N⟩
theorem f14_enters : Enters Tryd.prog 14 := ⟨Tryd.f14, Tryd.func14, by kernel_rfl, by kernel_rfl⟩
theorem readback_Check.tab (N : Nat) : TabOk Tryd.prog (readback_Check.G N) := ⟨⟨phrase_Check.enters, phrase_Check.sound N⟩, ⟨readback_find.enters, readback_find.sound N⟩, trivial⟩
theorem readback_Check.enters : Enters Tryd.prog 14 := f14_enters
theorem readback_Check.sound (N : Nat) : Sound Tryd.prog 14 (readback_Check.S N) := evFn_sound (specs_tab (readback_Check.tab N)) (inls_tab (readback_Check.tab N)) mixed 3 Tryd.func14 _ _ _
noncomputable def readback_Check.cd (N : Nat) (p : List Nat) : St → (Ex → St → Option Int) → Option Int := ev (readback_Check.E N) Tryd.prog (callD (readback_Check.E N) Tryd.prog 3) 0 (codeAt (bodyOf Tryd.f14) p)
noncomputable def readback_Check.fin : Ex → St → Option Int := endK Tryd.prog Tryd.f14 [.val (.cell (.int .i64))]
noncomputable def readback_Check.l0 (N : Nat) (x0 : List ((ByteArray × Int × Int × ByteArray) × Int)) (k1 : Nat) (a2 : Int) : Option Int :=
  loopN (norm ((readback_Check.E N).keep 4) 0) (readback_Check.cd N [1, 1, 0, 1, 0, 0]) k1
  ⟨[.ros false 40 (.pair (.pair (.str) (.pair (.int .i64) (.pair (.int .i64) (.str)))) (.int .i64)) x0, .any, .any, .any, .any, .any, .any, .any, .any, .ros false 40 (.pair (.pair (.str) (.pair (.int .i64) (.pair (.int .i64) (.str)))) (.int .i64)) x0, .sc (.int .i64 (x0.length : Int)), .sc (.int .i64 a2), .any, .any, .any, .any, .any, .any, .any, .any, .any, .any, .any, .any, .any, .any, .any, .any, .any, .any, .any, .any, .any, .any, .any, .any, .any, .any, .any, .any, .any, .any, .any, .any, .any, .any, .any, .any, .any, .any, .any, .any, .any], []⟩
  (blockK 0 (seqK (readback_Check.cd N [1, 1, 1]) readback_Check.fin))
theorem readback_Check.l0_zero (N : Nat) (x0 : List ((ByteArray × Int × Int × ByteArray) × Int)) (a2 : Int) : readback_Check.l0 N x0 0 a2 = none := by kernel_rfl
theorem readback_Check.l0_succ (N : Nat) (x0 : List ((ByteArray × Int × Int × ByteArray) × Int)) (k1 : Nat) (a2 : Int) : readback_Check.l0 N x0 (k1 + 1) a2 =
    bif decide (a2 < (x0.length : Int)) then
      bif (decide (0 ≤ a2)) && (decide (a2 < (x0.length : Int))) then
        (phrase_Check.fn N ((List.getD x0 (Int.toNat a2) (((⟨#[]⟩ : ByteArray), (0, (0, (⟨#[]⟩ : ByteArray)))), 0)).1)).bind fun r3 =>
        bif !(r3 == 0) then
          some r3
        else
        bif !(!(decide (((List.getD x0 (Int.toNat a2) (((⟨#[]⟩ : ByteArray), (0, (0, (⟨#[]⟩ : ByteArray)))), 0)).2) < 0))) || (!(decide (((List.getD x0 (Int.toNat a2) (((⟨#[]⟩ : ByteArray), (0, (0, (⟨#[]⟩ : ByteArray)))), 0)).2) < 0))) then
          bif !(!(decide (((List.getD x0 (Int.toNat a2) (((⟨#[]⟩ : ByteArray), (0, (0, (⟨#[]⟩ : ByteArray)))), 0)).2) < 0))) || (!(decide (((List.getD x0 (Int.toNat a2) (((⟨#[]⟩ : ByteArray), (0, (0, (⟨#[]⟩ : ByteArray)))), 0)).2) < 0))) then
            bif (decide (((List.getD x0 (Int.toNat a2) (((⟨#[]⟩ : ByteArray), (0, (0, (⟨#[]⟩ : ByteArray)))), 0)).2) < 0)) || (!(decide (((List.getD x0 (Int.toNat a2) (((⟨#[]⟩ : ByteArray), (0, (0, (⟨#[]⟩ : ByteArray)))), 0)).2) < 0))) then
              bif !(!((decide (((List.getD x0 (Int.toNat a2) (((⟨#[]⟩ : ByteArray), (0, (0, (⟨#[]⟩ : ByteArray)))), 0)).2) < 0)) || (decide (((List.getD x0 (Int.toNat a2) (((⟨#[]⟩ : ByteArray), (0, (0, (⟨#[]⟩ : ByteArray)))), 0)).2) > 200000)))) || (!((decide (((List.getD x0 (Int.toNat a2) (((⟨#[]⟩ : ByteArray), (0, (0, (⟨#[]⟩ : ByteArray)))), 0)).2) < 0)) || (decide (((List.getD x0 (Int.toNat a2) (((⟨#[]⟩ : ByteArray), (0, (0, (⟨#[]⟩ : ByteArray)))), 0)).2) > 200000)))) then
                bif !(!((decide (((List.getD x0 (Int.toNat a2) (((⟨#[]⟩ : ByteArray), (0, (0, (⟨#[]⟩ : ByteArray)))), 0)).2) < 0)) || (decide (((List.getD x0 (Int.toNat a2) (((⟨#[]⟩ : ByteArray), (0, (0, (⟨#[]⟩ : ByteArray)))), 0)).2) > 200000)))) || (!((decide (((List.getD x0 (Int.toNat a2) (((⟨#[]⟩ : ByteArray), (0, (0, (⟨#[]⟩ : ByteArray)))), 0)).2) < 0)) || (decide (((List.getD x0 (Int.toNat a2) (((⟨#[]⟩ : ByteArray), (0, (0, (⟨#[]⟩ : ByteArray)))), 0)).2) > 200000)))) then
                  bif !((!((decide (((List.getD x0 (Int.toNat a2) (((⟨#[]⟩ : ByteArray), (0, (0, (⟨#[]⟩ : ByteArray)))), 0)).2) < 0)) || (decide (((List.getD x0 (Int.toNat a2) (((⟨#[]⟩ : ByteArray), (0, (0, (⟨#[]⟩ : ByteArray)))), 0)).2) > 200000)))) && (decide (a2 > 0))) || ((!((decide (((List.getD x0 (Int.toNat a2) (((⟨#[]⟩ : ByteArray), (0, (0, (⟨#[]⟩ : ByteArray)))), 0)).2) < 0)) || (decide (((List.getD x0 (Int.toNat a2) (((⟨#[]⟩ : ByteArray), (0, (0, (⟨#[]⟩ : ByteArray)))), 0)).2) > 200000)))) && (decide (a2 > 0))) then
                    bif !((!((decide (((List.getD x0 (Int.toNat a2) (((⟨#[]⟩ : ByteArray), (0, (0, (⟨#[]⟩ : ByteArray)))), 0)).2) < 0)) || (decide (((List.getD x0 (Int.toNat a2) (((⟨#[]⟩ : ByteArray), (0, (0, (⟨#[]⟩ : ByteArray)))), 0)).2) > 200000)))) && (decide (a2 > 0))) || ((!((decide (((List.getD x0 (Int.toNat a2) (((⟨#[]⟩ : ByteArray), (0, (0, (⟨#[]⟩ : ByteArray)))), 0)).2) < 0)) || (decide (((List.getD x0 (Int.toNat a2) (((⟨#[]⟩ : ByteArray), (0, (0, (⟨#[]⟩ : ByteArray)))), 0)).2) > 200000)))) && (decide (a2 > 0))) then
                      bif !((!((decide (((List.getD x0 (Int.toNat a2) (((⟨#[]⟩ : ByteArray), (0, (0, (⟨#[]⟩ : ByteArray)))), 0)).2) < 0)) || (decide (((List.getD x0 (Int.toNat a2) (((⟨#[]⟩ : ByteArray), (0, (0, (⟨#[]⟩ : ByteArray)))), 0)).2) > 200000)))) && (decide (a2 > 0))) || ((!((decide (((List.getD x0 (Int.toNat a2) (((⟨#[]⟩ : ByteArray), (0, (0, (⟨#[]⟩ : ByteArray)))), 0)).2) < 0)) || (decide (((List.getD x0 (Int.toNat a2) (((⟨#[]⟩ : ByteArray), (0, (0, (⟨#[]⟩ : ByteArray)))), 0)).2) > 200000)))) && (decide (a2 > 0))) then
                        bif !((!((decide (((List.getD x0 (Int.toNat a2) (((⟨#[]⟩ : ByteArray), (0, (0, (⟨#[]⟩ : ByteArray)))), 0)).2) < 0)) || (decide (((List.getD x0 (Int.toNat a2) (((⟨#[]⟩ : ByteArray), (0, (0, (⟨#[]⟩ : ByteArray)))), 0)).2) > 200000)))) && (decide (a2 > 0))) || ((!((decide (((List.getD x0 (Int.toNat a2) (((⟨#[]⟩ : ByteArray), (0, (0, (⟨#[]⟩ : ByteArray)))), 0)).2) < 0)) || (decide (((List.getD x0 (Int.toNat a2) (((⟨#[]⟩ : ByteArray), (0, (0, (⟨#[]⟩ : ByteArray)))), 0)).2) > 200000)))) && (decide (a2 > 0))) then
                          bif ((decide (0 ≤ (w (a2 - 1)))) && (decide ((w (a2 - 1)) < (x0.length : Int)))) || !((!((decide (((List.getD x0 (Int.toNat a2) (((⟨#[]⟩ : ByteArray), (0, (0, (⟨#[]⟩ : ByteArray)))), 0)).2) < 0)) || (decide (((List.getD x0 (Int.toNat a2) (((⟨#[]⟩ : ByteArray), (0, (0, (⟨#[]⟩ : ByteArray)))), 0)).2) > 200000)))) && (decide (a2 > 0))) then
                            bif !((!((decide (((List.getD x0 (Int.toNat a2) (((⟨#[]⟩ : ByteArray), (0, (0, (⟨#[]⟩ : ByteArray)))), 0)).2) < 0)) || (decide (((List.getD x0 (Int.toNat a2) (((⟨#[]⟩ : ByteArray), (0, (0, (⟨#[]⟩ : ByteArray)))), 0)).2) > 200000)))) && (decide (a2 > 0))) || ((!((decide (((List.getD x0 (Int.toNat a2) (((⟨#[]⟩ : ByteArray), (0, (0, (⟨#[]⟩ : ByteArray)))), 0)).2) < 0)) || (decide (((List.getD x0 (Int.toNat a2) (((⟨#[]⟩ : ByteArray), (0, (0, (⟨#[]⟩ : ByteArray)))), 0)).2) > 200000)))) && (decide (a2 > 0))) then
                              bif !((!((decide (((List.getD x0 (Int.toNat a2) (((⟨#[]⟩ : ByteArray), (0, (0, (⟨#[]⟩ : ByteArray)))), 0)).2) < 0)) || (decide (((List.getD x0 (Int.toNat a2) (((⟨#[]⟩ : ByteArray), (0, (0, (⟨#[]⟩ : ByteArray)))), 0)).2) > 200000)))) && (decide (a2 > 0))) || ((!((decide (((List.getD x0 (Int.toNat a2) (((⟨#[]⟩ : ByteArray), (0, (0, (⟨#[]⟩ : ByteArray)))), 0)).2) < 0)) || (decide (((List.getD x0 (Int.toNat a2) (((⟨#[]⟩ : ByteArray), (0, (0, (⟨#[]⟩ : ByteArray)))), 0)).2) > 200000)))) && (decide (a2 > 0))) then
                                bif !((!((decide (((List.getD x0 (Int.toNat a2) (((⟨#[]⟩ : ByteArray), (0, (0, (⟨#[]⟩ : ByteArray)))), 0)).2) < 0)) || (decide (((List.getD x0 (Int.toNat a2) (((⟨#[]⟩ : ByteArray), (0, (0, (⟨#[]⟩ : ByteArray)))), 0)).2) > 200000)))) && (decide (a2 > 0))) || ((!((decide (((List.getD x0 (Int.toNat a2) (((⟨#[]⟩ : ByteArray), (0, (0, (⟨#[]⟩ : ByteArray)))), 0)).2) < 0)) || (decide (((List.getD x0 (Int.toNat a2) (((⟨#[]⟩ : ByteArray), (0, (0, (⟨#[]⟩ : ByteArray)))), 0)).2) > 200000)))) && (decide (a2 > 0))) then
                                  bif !((!((decide (((List.getD x0 (Int.toNat a2) (((⟨#[]⟩ : ByteArray), (0, (0, (⟨#[]⟩ : ByteArray)))), 0)).2) < 0)) || (decide (((List.getD x0 (Int.toNat a2) (((⟨#[]⟩ : ByteArray), (0, (0, (⟨#[]⟩ : ByteArray)))), 0)).2) > 200000)))) && (decide (a2 > 0))) || ((!((decide (((List.getD x0 (Int.toNat a2) (((⟨#[]⟩ : ByteArray), (0, (0, (⟨#[]⟩ : ByteArray)))), 0)).2) < 0)) || (decide (((List.getD x0 (Int.toNat a2) (((⟨#[]⟩ : ByteArray), (0, (0, (⟨#[]⟩ : ByteArray)))), 0)).2) > 200000)))) && (decide (a2 > 0))) then
                                    bif !(!((decide (((List.getD x0 (Int.toNat a2) (((⟨#[]⟩ : ByteArray), (0, (0, (⟨#[]⟩ : ByteArray)))), 0)).2) < 0)) || (decide (((List.getD x0 (Int.toNat a2) (((⟨#[]⟩ : ByteArray), (0, (0, (⟨#[]⟩ : ByteArray)))), 0)).2) > 200000)))) || (!((decide (((List.getD x0 (Int.toNat a2) (((⟨#[]⟩ : ByteArray), (0, (0, (⟨#[]⟩ : ByteArray)))), 0)).2) < 0)) || (decide (((List.getD x0 (Int.toNat a2) (((⟨#[]⟩ : ByteArray), (0, (0, (⟨#[]⟩ : ByteArray)))), 0)).2) > 200000)))) then
                                      bif !(!((decide (((List.getD x0 (Int.toNat a2) (((⟨#[]⟩ : ByteArray), (0, (0, (⟨#[]⟩ : ByteArray)))), 0)).2) < 0)) || (decide (((List.getD x0 (Int.toNat a2) (((⟨#[]⟩ : ByteArray), (0, (0, (⟨#[]⟩ : ByteArray)))), 0)).2) > 200000)))) || ((!(decide (a2 > 0))) || ((!((decide (((List.getD x0 (Int.toNat a2) (((⟨#[]⟩ : ByteArray), (0, (0, (⟨#[]⟩ : ByteArray)))), 0)).2) < 0)) || (decide (((List.getD x0 (Int.toNat a2) (((⟨#[]⟩ : ByteArray), (0, (0, (⟨#[]⟩ : ByteArray)))), 0)).2) > 200000)))) && (decide (a2 > 0)))) then
                                        bif ((decide (((List.getD x0 (Int.toNat a2) (((⟨#[]⟩ : ByteArray), (0, (0, (⟨#[]⟩ : ByteArray)))), 0)).2) < 0)) || (decide (((List.getD x0 (Int.toNat a2) (((⟨#[]⟩ : ByteArray), (0, (0, (⟨#[]⟩ : ByteArray)))), 0)).2) > 200000))) || (!((decide (((List.getD x0 (Int.toNat a2) (((⟨#[]⟩ : ByteArray), (0, (0, (⟨#[]⟩ : ByteArray)))), 0)).2) < 0)) || (decide (((List.getD x0 (Int.toNat a2) (((⟨#[]⟩ : ByteArray), (0, (0, (⟨#[]⟩ : ByteArray)))), 0)).2) > 200000)))) then
                                          bif ((decide (((List.getD x0 (Int.toNat a2) (((⟨#[]⟩ : ByteArray), (0, (0, (⟨#[]⟩ : ByteArray)))), 0)).2) < 0)) || (decide (((List.getD x0 (Int.toNat a2) (((⟨#[]⟩ : ByteArray), (0, (0, (⟨#[]⟩ : ByteArray)))), 0)).2) > 200000))) || ((decide (a2 > 0)) && (decide (((List.getD x0 (Int.toNat a2) (((⟨#[]⟩ : ByteArray), (0, (0, (⟨#[]⟩ : ByteArray)))), 0)).2) < ((List.getD x0 (Int.toNat (w (a2 - 1))) (((⟨#[]⟩ : ByteArray), (0, (0, (⟨#[]⟩ : ByteArray)))), 0)).2)))) then
                                            some 12
                                          else
                                          bif (decide (0 ≤ a2)) && (decide (a2 ≤ (x0.length : Int))) then
                                            (readback_find.fn N ((List.take (Int.toNat a2) x0), (List.getD x0 (Int.toNat a2) (((⟨#[]⟩ : ByteArray), (0, (0, (⟨#[]⟩ : ByteArray)))), 0)).1)).bind fun r4 =>
                                            bif decide (r4 ≥ 0) then
                                              some 7
                                            else
                                              readback_Check.l0 N x0 k1 (w (a2 + 1))
                                          else
                                            none
                                        else
                                          none
                                      else
                                        none
                                    else
                                      none
                                  else
                                    none
                                else
                                  none
                              else
                                none
                            else
                              none
                          else
                            none
                        else
                          none
                      else
                        none
                    else
                      none
                  else
                    none
                else
                  none
              else
                none
            else
              none
          else
            none
        else
          none
      else
        none
    else
      some 0 := by kernel_rfl
theorem taut17 : ∀ p0 p1 p2 : Bool, ((!(!((p0) || (p1))) || ((!(p2)) || ((!((p0) || (p1))) && (p2))))) = true := by decide
theorem taut18 : ∀ p0 p1 p2 : Bool, ((!((!((p0) || (p1))) && (p2)) || ((!((p0) || (p1))) && (p2)))) = true := by decide
theorem readback_Check.l0_clean (N : Nat) (x0 : List ((ByteArray × Int × Int × ByteArray) × Int)) (k1 : Nat) (a2 : Int) : readback_Check.l0 N x0 (k1 + 1) a2 =
    bif decide (a2 < (x0.length : Int)) then
      bif (decide (0 ≤ a2)) && (decide (a2 < (x0.length : Int))) then
        (phrase_Check.fn N ((List.getD x0 (Int.toNat a2) (((⟨#[]⟩ : ByteArray), (0, (0, (⟨#[]⟩ : ByteArray)))), 0)).1)).bind fun r3 =>
        bif !(r3 == 0) then
          some r3
        else
        bif ((decide (0 ≤ (w (a2 - 1)))) && (decide ((w (a2 - 1)) < (x0.length : Int)))) || !((!((decide (((List.getD x0 (Int.toNat a2) (((⟨#[]⟩ : ByteArray), (0, (0, (⟨#[]⟩ : ByteArray)))), 0)).2) < 0)) || (decide (((List.getD x0 (Int.toNat a2) (((⟨#[]⟩ : ByteArray), (0, (0, (⟨#[]⟩ : ByteArray)))), 0)).2) > 200000)))) && (decide (a2 > 0))) then
          bif ((decide (((List.getD x0 (Int.toNat a2) (((⟨#[]⟩ : ByteArray), (0, (0, (⟨#[]⟩ : ByteArray)))), 0)).2) < 0)) || (decide (((List.getD x0 (Int.toNat a2) (((⟨#[]⟩ : ByteArray), (0, (0, (⟨#[]⟩ : ByteArray)))), 0)).2) > 200000))) || ((decide (a2 > 0)) && (decide (((List.getD x0 (Int.toNat a2) (((⟨#[]⟩ : ByteArray), (0, (0, (⟨#[]⟩ : ByteArray)))), 0)).2) < ((List.getD x0 (Int.toNat (w (a2 - 1))) (((⟨#[]⟩ : ByteArray), (0, (0, (⟨#[]⟩ : ByteArray)))), 0)).2)))) then
            some 12
          else
          bif (decide (0 ≤ a2)) && (decide (a2 ≤ (x0.length : Int))) then
            (readback_find.fn N ((List.take (Int.toNat a2) x0), (List.getD x0 (Int.toNat a2) (((⟨#[]⟩ : ByteArray), (0, (0, (⟨#[]⟩ : ByteArray)))), 0)).1)).bind fun r4 =>
            bif decide (r4 ≥ 0) then
              some 7
            else
              readback_Check.l0 N x0 k1 (w (a2 + 1))
          else
            none
        else
          none
      else
        none
    else
      some 0 := by
  rw [readback_Check.l0_succ]; simp only [taut8, taut17, taut1, taut18, taut10, taut6, cond_true]
theorem readback_Check.l0_cons (N : Nat) (x0 : List ((ByteArray × Int × Int × ByteArray) × Int)) (k1 : Nat) {pre r} {x} (hl : x0 = pre ++ x :: r) (hb : x0.length < 4611686018427387904) : readback_Check.l0 N x0 (k1 + 1) (pre.length : Int) =
    (phrase_Check.fn N (x.1)).bind fun r3 =>
    bif !(r3 == 0) then
      some r3
    else
    bif ((decide (0 ≤ (w ((pre.length : Int) - 1)))) && (decide ((w ((pre.length : Int) - 1)) < (x0.length : Int)))) || !((!((decide ((x.2) < 0)) || (decide ((x.2) > 200000)))) && (decide ((pre.length : Int) > 0))) then
      bif ((decide ((x.2) < 0)) || (decide ((x.2) > 200000))) || ((decide ((pre.length : Int) > 0)) && (decide ((x.2) < ((List.getD x0 (Int.toNat (w ((pre.length : Int) - 1))) (((⟨#[]⟩ : ByteArray), (0, (0, (⟨#[]⟩ : ByteArray)))), 0)).2)))) then
        some 12
      else
        (readback_find.fn N (pre, x.1)).bind fun r4 =>
        bif decide (r4 ≥ 0) then
          some 7
        else
          readback_Check.l0 N x0 k1 ((pre.length : Int) + 1)
    else
      none := by
  have hlen : x0.length = pre.length + 1 + r.length := by rw [hl]; simp; omega
  have e1 : decide ((pre.length : Int) < (x0.length : Int)) = true := by rw [decide_eq_true_iff]; omega
  have e2 : decide (0 ≤ (pre.length : Int)) = true := by rw [decide_eq_true_iff]; omega
  have e4 : w ((pre.length : Int) + 1) = (pre.length : Int) + 1 := w_next hl hb
  have e5 : List.take pre.length x0 = pre := by rw [hl]; simp
  have e6 : decide ((pre.length : Int) ≤ (x0.length : Int)) = true := by rw [decide_eq_true_iff]; omega
  have g0 : List.getD x0 pre.length (((⟨#[]⟩ : ByteArray), (0, (0, (⟨#[]⟩ : ByteArray)))), 0) = x := by rw [hl]; exact getD_mid pre x r _
  rw [readback_Check.l0_clean]
  simp -implicitDefEqProofs only [Int.toNat_natCast, e1, e2, e4, e6, g0, e5, Bool.and_true, Bool.true_and, Bool.true_or, cond_true]
theorem readback_Check.l0_nil (N : Nat) (x0 : List ((ByteArray × Int × Int × ByteArray) × Int)) (k1 : Nat) : readback_Check.l0 N x0 (k1 + 1) (x0.length : Int) =
    some 0 := by
  have e1 : decide ((x0.length : Int) < (x0.length : Int)) = false := by rw [decide_eq_false_iff_not]; omega
  rw [readback_Check.l0_clean]
  simp -implicitDefEqProofs only [e1, cond_false]
theorem readback_Check.eq (N : Nat) (x0 : List ((ByteArray × Int × Int × ByteArray) × Int)) : readback_Check.fn N x0 =
    bif decide ((x0.length : Int) > 12) then
      some 2
    else
      readback_Check.l0 N x0 N 0 := by kernel_rfl

/-! ### readback_early: skyway/readback.early -/
def readback_early.kp : List (Nat × List (Nat × Option (TypeId × Ty))) := []
noncomputable def readback_early.G (N : Nat) : List (Nat × Spec) := []
noncomputable def readback_early.E (N : Nat) : Env := mkEnv (readback_early.G N) N tyTab readback_early.kp
noncomputable def readback_early.fn (N : Nat) (x : List ((ByteArray × Int × Int × ByteArray) × Int) × Int) : Option Int := evFn (readback_early.E N) Tryd.prog 3 Tryd.f33 false [.cell (.sl 40 (.pair (.pair (.str) (.pair (.int .i64) (.pair (.int .i64) (.str)))) (.int .i64))), .cell (.int .i64)] [.val (.cell (.int .i64))] x
noncomputable def readback_early.S (N : Nat) : PSpec := ⟨false, [.cell (.sl 40 (.pair (.pair (.str) (.pair (.int .i64) (.pair (.int .i64) (.str)))) (.int .i64))), .cell (.int .i64)], [.val (.cell (.int .i64))], readback_early.fn N⟩
theorem f33_enters : Enters Tryd.prog 33 := ⟨Tryd.f33, Tryd.func33, by kernel_rfl, by kernel_rfl⟩
theorem readback_early.tab (N : Nat) : TabOk Tryd.prog (readback_early.G N) := trivial
theorem readback_early.enters : Enters Tryd.prog 33 := f33_enters
theorem readback_early.sound (N : Nat) : Sound Tryd.prog 33 (readback_early.S N) := evFn_sound (specs_tab (readback_early.tab N)) (inls_tab (readback_early.tab N)) mixed 3 Tryd.func33 _ _ _
theorem readback_early.eq (N : Nat) (x0 : List ((ByteArray × Int × Int × ByteArray) × Int)) (x1 : Int) : readback_early.fn N (x0, x1) =
    bif !(!(decide (x1 < 0))) || (!(decide (x1 < 0))) then
      bif (decide (x1 < 0)) || (!(decide (x1 < 0))) then
        bif !(!((decide (x1 < 0)) || (decide (x1 > 200000)))) || (!((decide (x1 < 0)) || (decide (x1 > 200000)))) then
          bif !(!((decide (x1 < 0)) || (decide (x1 > 200000)))) || (!((decide (x1 < 0)) || (decide (x1 > 200000)))) then
            bif !(!((decide (x1 < 0)) || (decide (x1 > 200000)))) || (!((decide (x1 < 0)) || (decide (x1 > 200000)))) then
              bif !((!((decide (x1 < 0)) || (decide (x1 > 200000)))) && (decide ((x0.length : Int) > 0))) || ((!((decide (x1 < 0)) || (decide (x1 > 200000)))) && (decide ((x0.length : Int) > 0))) then
                bif !((!((decide (x1 < 0)) || (decide (x1 > 200000)))) && (decide ((x0.length : Int) > 0))) || ((!((decide (x1 < 0)) || (decide (x1 > 200000)))) && (decide ((x0.length : Int) > 0))) then
                  bif !((!((decide (x1 < 0)) || (decide (x1 > 200000)))) && (decide ((x0.length : Int) > 0))) || ((!((decide (x1 < 0)) || (decide (x1 > 200000)))) && (decide ((x0.length : Int) > 0))) then
                    bif !((!((decide (x1 < 0)) || (decide (x1 > 200000)))) && (decide ((x0.length : Int) > 0))) || ((!((decide (x1 < 0)) || (decide (x1 > 200000)))) && (decide ((x0.length : Int) > 0))) then
                      bif ((decide (0 ≤ (w ((x0.length : Int) - 1)))) && (decide ((w ((x0.length : Int) - 1)) < (x0.length : Int)))) || !((!((decide (x1 < 0)) || (decide (x1 > 200000)))) && (decide ((x0.length : Int) > 0))) then
                        bif !((!((decide (x1 < 0)) || (decide (x1 > 200000)))) && (decide ((x0.length : Int) > 0))) || ((!((decide (x1 < 0)) || (decide (x1 > 200000)))) && (decide ((x0.length : Int) > 0))) then
                          bif !((!((decide (x1 < 0)) || (decide (x1 > 200000)))) && (decide ((x0.length : Int) > 0))) || ((!((decide (x1 < 0)) || (decide (x1 > 200000)))) && (decide ((x0.length : Int) > 0))) then
                            bif !((!((decide (x1 < 0)) || (decide (x1 > 200000)))) && (decide ((x0.length : Int) > 0))) || ((!((decide (x1 < 0)) || (decide (x1 > 200000)))) && (decide ((x0.length : Int) > 0))) then
                              bif !((!((decide (x1 < 0)) || (decide (x1 > 200000)))) && (decide ((x0.length : Int) > 0))) || ((!((decide (x1 < 0)) || (decide (x1 > 200000)))) && (decide ((x0.length : Int) > 0))) then
                                bif !(!((decide (x1 < 0)) || (decide (x1 > 200000)))) || (!((decide (x1 < 0)) || (decide (x1 > 200000)))) then
                                  bif !(!((decide (x1 < 0)) || (decide (x1 > 200000)))) || ((!(decide ((x0.length : Int) > 0))) || ((!((decide (x1 < 0)) || (decide (x1 > 200000)))) && (decide ((x0.length : Int) > 0)))) then
                                    bif ((decide (x1 < 0)) || (decide (x1 > 200000))) || (!((decide (x1 < 0)) || (decide (x1 > 200000)))) then
                                      bif ((decide (x1 < 0)) || (decide (x1 > 200000))) || ((decide ((x0.length : Int) > 0)) && (decide (x1 < ((List.getD x0 (Int.toNat (w ((x0.length : Int) - 1))) (((⟨#[]⟩ : ByteArray), (0, (0, (⟨#[]⟩ : ByteArray)))), 0)).2)))) then
                                        some 12
                                      else
                                        some 0
                                    else
                                      none
                                  else
                                    none
                                else
                                  none
                              else
                                none
                            else
                              none
                          else
                            none
                        else
                          none
                      else
                        none
                    else
                      none
                  else
                    none
                else
                  none
              else
                none
            else
              none
          else
            none
        else
          none
      else
        none
    else
      none := by kernel_rfl
theorem readback_early.clean (N : Nat) (x0 : List ((ByteArray × Int × Int × ByteArray) × Int)) (x1 : Int) : readback_early.fn N (x0, x1) =
    bif ((decide (0 ≤ (w ((x0.length : Int) - 1)))) && (decide ((w ((x0.length : Int) - 1)) < (x0.length : Int)))) || !((!((decide (x1 < 0)) || (decide (x1 > 200000)))) && (decide ((x0.length : Int) > 0))) then
      bif ((decide (x1 < 0)) || (decide (x1 > 200000))) || ((decide ((x0.length : Int) > 0)) && (decide (x1 < ((List.getD x0 (Int.toNat (w ((x0.length : Int) - 1))) (((⟨#[]⟩ : ByteArray), (0, (0, (⟨#[]⟩ : ByteArray)))), 0)).2)))) then
        some 12
      else
        some 0
    else
      none := by
  rw [readback_early.eq]; simp only [taut8, taut17, taut1, taut18, taut10, taut6, cond_true]

/-! ### slices_Clone_ReadbackOpen: slices.Clone[[]skyway/api.ReadbackOpen,skyway/api.ReadbackOpen] -/
def slices_Clone_ReadbackOpen.kp : List (Nat × List (Nat × Option (TypeId × Ty))) := []
noncomputable def slices_Clone_ReadbackOpen.G (N : Nat) : List (Nat × Spec) := []
noncomputable def slices_Clone_ReadbackOpen.E (N : Nat) : Env := mkEnv (slices_Clone_ReadbackOpen.G N) N tyTab slices_Clone_ReadbackOpen.kp
noncomputable def slices_Clone_ReadbackOpen.fn (N : Nat) (x : List ((ByteArray × Int × Int × ByteArray) × Int)) : Option (List ((ByteArray × Int × Int × ByteArray) × Int)) := evFn (slices_Clone_ReadbackOpen.E N) Tryd.prog 3 Tryd.f34 false [.cell (.sl 40 (.pair (.pair (.str) (.pair (.int .i64) (.pair (.int .i64) (.str)))) (.int .i64)))] [.own 40 (.pair (.pair (.str) (.pair (.int .i64) (.pair (.int .i64) (.str)))) (.int .i64))] x
noncomputable def slices_Clone_ReadbackOpen.S (N : Nat) : PSpec := ⟨false, [.cell (.sl 40 (.pair (.pair (.str) (.pair (.int .i64) (.pair (.int .i64) (.str)))) (.int .i64)))], [.own 40 (.pair (.pair (.str) (.pair (.int .i64) (.pair (.int .i64) (.str)))) (.int .i64))], slices_Clone_ReadbackOpen.fn N⟩
theorem f34_enters : Enters Tryd.prog 34 := ⟨Tryd.f34, Tryd.func34, by kernel_rfl, by kernel_rfl⟩
theorem slices_Clone_ReadbackOpen.tab (N : Nat) : TabOk Tryd.prog (slices_Clone_ReadbackOpen.G N) := trivial
theorem slices_Clone_ReadbackOpen.enters : Enters Tryd.prog 34 := f34_enters
theorem slices_Clone_ReadbackOpen.sound (N : Nat) : Sound Tryd.prog 34 (slices_Clone_ReadbackOpen.S N) := evFn_sound (specs_tab (slices_Clone_ReadbackOpen.tab N)) (inls_tab (slices_Clone_ReadbackOpen.tab N)) mixed 3 Tryd.func34 _ _ _
theorem slices_Clone_ReadbackOpen.eq (N : Nat) (x0 : List ((ByteArray × Int × Int × ByteArray) × Int)) : slices_Clone_ReadbackOpen.fn N x0 =
    bif x0.isEmpty then
      agree (
        some []) (
        bif decide ((0 + x0.length) * 56 ≤ 140737488355328) && decide ((0 + x0.length) ≤ maxLen) then
          some x0
        else
          none)
    else
    bif decide ((0 + x0.length) * 56 ≤ 140737488355328) && decide ((0 + x0.length) ≤ maxLen) then
      some x0
    else
      none := by kernel_rfl
theorem slices_Clone_ReadbackOpen.v (N : Nat) (x0 : List ((ByteArray × Int × Int × ByteArray) × Int)) (h : x0.length * 56 ≤ 140737488355328) : slices_Clone_ReadbackOpen.fn N x0 = some x0 := clone_v (B := 56) (slices_Clone_ReadbackOpen.eq N x0) (by omega) h

/-! ### readback_Say: skyway/readback.Say -/
def readback_Say.kp : List (Nat × List (Nat × Option (TypeId × Ty))) := [(1000014, [(2, none), (4, none), (11, none)])]
noncomputable def readback_Say.G (N : Nat) : List (Nat × Spec) := [(14, .pure (readback_Check.S N)), (21, .pure (phrase_Check.S N)), (33, .pure (readback_early.S N)), (34, .pure (slices_Clone_ReadbackOpen.S N)), (35, .pure (readback_find.S N)), (36, .inl Tryd.f36)]
noncomputable def readback_Say.E (N : Nat) : Env := mkEnv (readback_Say.G N) N tyTab readback_Say.kp
noncomputable def readback_Say.fn (N : Nat) (x : List ((ByteArray × Int × Int × ByteArray) × Int) × (ByteArray × Int × Int × ByteArray) × Int) : Option (List ((ByteArray × Int × Int × ByteArray) × Int) × Int) := evFn (readback_Say.E N) Tryd.prog 3 Tryd.f12 false [.cell (.sl 40 (.pair (.pair (.str) (.pair (.int .i64) (.pair (.int .i64) (.str)))) (.int .i64))), .agg (.pair (.str) (.pair (.int .i64) (.pair (.int .i64) (.str)))), .cell (.int .i64)] [.own 40 (.pair (.pair (.str) (.pair (.int .i64) (.pair (.int .i64) (.str)))) (.int .i64)), .val (.cell (.int .i64))] x
noncomputable def readback_Say.S (N : Nat) : PSpec := ⟨false, [.cell (.sl 40 (.pair (.pair (.str) (.pair (.int .i64) (.pair (.int .i64) (.str)))) (.int .i64))), .agg (.pair (.str) (.pair (.int .i64) (.pair (.int .i64) (.str)))), .cell (.int .i64)], [.own 40 (.pair (.pair (.str) (.pair (.int .i64) (.pair (.int .i64) (.str)))) (.int .i64)), .val (.cell (.int .i64))], readback_Say.fn N⟩
theorem f36_enters : Enters Tryd.prog 36 := ⟨Tryd.f36, Tryd.func36, by kernel_rfl, by kernel_rfl⟩
theorem f12_enters : Enters Tryd.prog 12 := ⟨Tryd.f12, Tryd.func12, by kernel_rfl, by kernel_rfl⟩
theorem readback_Say.tab (N : Nat) : TabOk Tryd.prog (readback_Say.G N) := ⟨⟨readback_Check.enters, readback_Check.sound N⟩, ⟨phrase_Check.enters, phrase_Check.sound N⟩, ⟨readback_early.enters, readback_early.sound N⟩, ⟨slices_Clone_ReadbackOpen.enters, slices_Clone_ReadbackOpen.sound N⟩, ⟨readback_find.enters, readback_find.sound N⟩, ⟨f36_enters, Tryd.func36⟩, trivial⟩
theorem readback_Say.enters : Enters Tryd.prog 12 := f12_enters
theorem readback_Say.sound (N : Nat) : Sound Tryd.prog 12 (readback_Say.S N) := evFn_sound (specs_tab (readback_Say.tab N)) (inls_tab (readback_Say.tab N)) mixed 3 Tryd.func12 _ _ _
noncomputable def readback_Say.cd (N : Nat) (p : List Nat) : St → (Ex → St → Option (List ((ByteArray × Int × Int × ByteArray) × Int) × Int)) → Option (List ((ByteArray × Int × Int × ByteArray) × Int) × Int) := ev (readback_Say.E N) Tryd.prog (callD (readback_Say.E N) Tryd.prog 3) 0 (codeAt (bodyOf Tryd.f12) p)
noncomputable def readback_Say.fin : Ex → St → Option (List ((ByteArray × Int × Int × ByteArray) × Int) × Int) := endK Tryd.prog Tryd.f12 [.own 40 (.pair (.pair (.str) (.pair (.int .i64) (.pair (.int .i64) (.str)))) (.int .i64)), .val (.cell (.int .i64))]
noncomputable def readback_Say.j0 (N : Nat) (x1 : ByteArray × Int × Int × ByteArray) (x2 : Int) (a5 : List ((ByteArray × Int × Int × ByteArray) × Int)) : Option (List ((ByteArray × Int × Int × ByteArray) × Int) × Int) :=
  fuelK N (region (readback_Say.E N) Tryd.prog (callD (readback_Say.E N) Tryd.prog 3) (opsAt (codeAt (bodyOf Tryd.f12) [1, 1, 1, 1, 1, 1, 0, 0])) false
  ⟨[.any, .any, .sc (.int .i64 x2), .any, .ptr 0 0, .any, .any, .any, .any, .any, .any, .own 1, .any, .any, .any, .any, .any, .any, .any, .any, .any, .any, .any, .any, .any, .any, .any, .any, .any, .any, .any, .any, .any, .any, .any, .any, .any, .any, .any, .any, .any, .any, .any, .any, .any, .any, .any, .any, .any, .any], [.cells [.sc (.string x1.1), .sc (.int .i64 x1.2.1), .sc (.int .i64 x1.2.2.1), .sc (.string x1.2.2.2)] 23, .rows true 40 (.pair (.pair (.str) (.pair (.int .i64) (.pair (.int .i64) (.str)))) (.int .i64)) a5]⟩
  (fun S => (seqK (readback_Say.cd N [1, 1, 1, 1, 1, 1, 0, 1]) (seqK (readback_Say.cd N [1, 1, 1, 1, 1, 1, 1]) readback_Say.fin)) .normal S))
theorem readback_Say.j0_eq (N : Nat) (x1 : ByteArray × Int × Int × ByteArray) (x2 : Int) (a5 : List ((ByteArray × Int × Int × ByteArray) × Int)) {M : Nat} (hM : N = M + 1) : readback_Say.j0 N x1 x2 a5 =
    bif (a5.length : Int) == 12 then
      some ([], 9)
    else
    bif decide ((a5.length + 1) * 56 ≤ 140737488355328) && decide ((a5.length + 1) ≤ maxLen) then
      some ((a5 ++ [(x1, x2)]), 0)
    else
      none := (fuelK_eq hM _).trans (by kernel_rfl)
theorem readback_Say.eq (N : Nat) (x0 : List ((ByteArray × Int × Int × ByteArray) × Int)) (x1 : ByteArray × Int × Int × ByteArray) (x2 : Int) : readback_Say.fn N (x0, x1, x2) =
    (readback_Check.fn N x0).bind fun r1 =>
    bif !(r1 == 0) then
      some ([], r1)
    else
      (phrase_Check.fn N x1).bind fun r2 =>
      bif !(r2 == 0) then
        some ([], r2)
      else
        (readback_early.fn N (x0, x2)).bind fun r3 =>
        bif !(r3 == 0) then
          some ([], r3)
        else
          (slices_Clone_ReadbackOpen.fn N x0).bind fun r4 =>
          (readback_find.fn N (x0, x1)).bind fun r6 =>
          bif decide (r6 ≥ 0) then
            bif (((decide (0 ≤ r6)) && (decide (r6 ≤ (w (r6 + 1))))) && (decide ((w (r6 + 1)) ≤ (r4.length : Int)))) && (decide ((r4.length : Int) ≤ (r4.length : Int))) then
              bif r6 == (w (r6 + 1)) then
                readback_Say.j0 N x1 x2 r4
              else
              bif (decide (0 ≤ r6)) && (decide (0 + (Int.toNat r6) ≤ r4.length)) then
                bif (decide (0 ≤ (w (r6 + 1)))) && (decide ((w (r6 + 1)) ≤ ((r4.length : Nat) : Int))) then
                  bif decide (((List.take (Int.toNat r6) r4).length + (List.take (r4.length - (Int.toNat (w (r6 + 1)))) (List.drop (0 + (Int.toNat (w (r6 + 1)))) r4)).length) * 56 ≤ 140737488355328) && decide (((List.take (Int.toNat r6) r4).length + (List.take (r4.length - (Int.toNat (w (r6 + 1)))) (List.drop (0 + (Int.toNat (w (r6 + 1)))) r4)).length) ≤ maxLen) then
                    bif decide ((Int.toNat r6) + (List.take (r4.length - (Int.toNat (w (r6 + 1)))) (List.drop (0 + (Int.toNat (w (r6 + 1)))) r4)).length ≤ r4.length) then
                      bif ((decide (0 ≤ (((Int.toNat r6) + (List.take (r4.length - (Int.toNat (w (r6 + 1)))) (List.drop (0 + (Int.toNat (w (r6 + 1)))) r4)).length : Nat) : Int))) && (decide ((((Int.toNat r6) + (List.take (r4.length - (Int.toNat (w (r6 + 1)))) (List.drop (0 + (Int.toNat (w (r6 + 1)))) r4)).length : Nat) : Int) ≤ (r4.length : Int)))) && (decide (0 + (Int.toNat (r4.length : Int)) ≤ ((List.take (Int.toNat r6) r4) ++ (List.take (r4.length - (Int.toNat (w (r6 + 1)))) (List.drop (0 + (Int.toNat (w (r6 + 1)))) r4)) ++ (List.drop ((Int.toNat r6) + (List.take (r4.length - (Int.toNat (w (r6 + 1)))) (List.drop (0 + (Int.toNat (w (r6 + 1)))) r4)).length) r4)).length)) then
                        readback_Say.j0 N x1 x2 (List.take ((Int.toNat r6) + (List.take (r4.length - (Int.toNat (w (r6 + 1)))) (List.drop (0 + (Int.toNat (w (r6 + 1)))) r4)).length) (fillL ((List.take (Int.toNat r6) r4) ++ (List.take (r4.length - (Int.toNat (w (r6 + 1)))) (List.drop (0 + (Int.toNat (w (r6 + 1)))) r4)) ++ (List.drop ((Int.toNat r6) + (List.take (r4.length - (Int.toNat (w (r6 + 1)))) (List.drop (0 + (Int.toNat (w (r6 + 1)))) r4)).length) r4)) (0 + (Int.toNat (((Int.toNat r6) + (List.take (r4.length - (Int.toNat (w (r6 + 1)))) (List.drop (0 + (Int.toNat (w (r6 + 1)))) r4)).length : Nat) : Int))) ((Int.toNat (r4.length : Int)) - (Int.toNat (((Int.toNat r6) + (List.take (r4.length - (Int.toNat (w (r6 + 1)))) (List.drop (0 + (Int.toNat (w (r6 + 1)))) r4)).length : Nat) : Int))) (((⟨#[]⟩ : ByteArray), (0, (0, (⟨#[]⟩ : ByteArray)))), 0)))
                      else
                        none
                    else
                      none
                  else
                    none
                else
                  none
              else
                none
            else
              none
          else
            readback_Say.j0 N x1 x2 r4 := by kernel_rfl

/-! ### readback_Hear: skyway/readback.Hear -/
def readback_Hear.kp : List (Nat × List (Nat × Option (TypeId × Ty))) := []
noncomputable def readback_Hear.G (N : Nat) : List (Nat × Spec) := [(14, .pure (readback_Check.S N)), (21, .pure (phrase_Check.S N)), (33, .pure (readback_early.S N)), (34, .pure (slices_Clone_ReadbackOpen.S N)), (35, .pure (readback_find.S N)), (36, .inl Tryd.f36)]
noncomputable def readback_Hear.E (N : Nat) : Env := mkEnv (readback_Hear.G N) N tyTab readback_Hear.kp
noncomputable def readback_Hear.fn (N : Nat) (x : List ((ByteArray × Int × Int × ByteArray) × Int) × (ByteArray × Int × Int × ByteArray) × Int) : Option (List ((ByteArray × Int × Int × ByteArray) × Int) × Int) := evFn (readback_Hear.E N) Tryd.prog 3 Tryd.f25 false [.cell (.sl 40 (.pair (.pair (.str) (.pair (.int .i64) (.pair (.int .i64) (.str)))) (.int .i64))), .agg (.pair (.str) (.pair (.int .i64) (.pair (.int .i64) (.str)))), .cell (.int .i64)] [.own 40 (.pair (.pair (.str) (.pair (.int .i64) (.pair (.int .i64) (.str)))) (.int .i64)), .val (.cell (.int .i64))] x
noncomputable def readback_Hear.S (N : Nat) : PSpec := ⟨false, [.cell (.sl 40 (.pair (.pair (.str) (.pair (.int .i64) (.pair (.int .i64) (.str)))) (.int .i64))), .agg (.pair (.str) (.pair (.int .i64) (.pair (.int .i64) (.str)))), .cell (.int .i64)], [.own 40 (.pair (.pair (.str) (.pair (.int .i64) (.pair (.int .i64) (.str)))) (.int .i64)), .val (.cell (.int .i64))], readback_Hear.fn N⟩

theorem f25_enters : Enters Tryd.prog 25 := ⟨Tryd.f25, Tryd.func25, by kernel_rfl, by kernel_rfl⟩
theorem readback_Hear.tab (N : Nat) : TabOk Tryd.prog (readback_Hear.G N) := ⟨⟨readback_Check.enters, readback_Check.sound N⟩, ⟨phrase_Check.enters, phrase_Check.sound N⟩, ⟨readback_early.enters, readback_early.sound N⟩, ⟨slices_Clone_ReadbackOpen.enters, slices_Clone_ReadbackOpen.sound N⟩, ⟨readback_find.enters, readback_find.sound N⟩, ⟨f36_enters, Tryd.func36⟩, trivial⟩
theorem readback_Hear.enters : Enters Tryd.prog 25 := f25_enters
theorem readback_Hear.sound (N : Nat) : Sound Tryd.prog 25 (readback_Hear.S N) := evFn_sound (specs_tab (readback_Hear.tab N)) (inls_tab (readback_Hear.tab N)) mixed 3 Tryd.func25 _ _ _
theorem readback_Hear.eq (N : Nat) (x0 : List ((ByteArray × Int × Int × ByteArray) × Int)) (x1 : ByteArray × Int × Int × ByteArray) (x2 : Int) : readback_Hear.fn N (x0, x1, x2) =
    (readback_Check.fn N x0).bind fun r1 =>
    bif !(r1 == 0) then
      some ([], r1)
    else
      (phrase_Check.fn N x1).bind fun r2 =>
      bif !(r2 == 0) then
        some ([], r2)
      else
        (readback_early.fn N (x0, x2)).bind fun r3 =>
        bif !(r3 == 0) then
          some ([], r3)
        else
          (readback_find.fn N (x0, x1)).bind fun r4 =>
          bif decide (r4 < 0) then
            some ([], 8)
          else
          bif (decide (0 ≤ r4)) && (decide (r4 < (x0.length : Int))) then
            bif decide ((w (x2 - ((List.getD x0 (Int.toNat r4) (((⟨#[]⟩ : ByteArray), (0, (0, (⟨#[]⟩ : ByteArray)))), 0)).2))) > 40) then
              some ([], 21)
            else
            bif (decide (0 ≤ r4)) && (decide (r4 < (x0.length : Int))) then
              bif !((seq (((List.getD x0 (Int.toNat r4) (((⟨#[]⟩ : ByteArray), (0, (0, (⟨#[]⟩ : ByteArray)))), 0)).1).1) x1.1) && ((((((List.getD x0 (Int.toNat r4) (((⟨#[]⟩ : ByteArray), (0, (0, (⟨#[]⟩ : ByteArray)))), 0)).1).2).1) == x1.2.1) && (((((((List.getD x0 (Int.toNat r4) (((⟨#[]⟩ : ByteArray), (0, (0, (⟨#[]⟩ : ByteArray)))), 0)).1).2).2).1) == x1.2.2.1) && ((seq (((((List.getD x0 (Int.toNat r4) (((⟨#[]⟩ : ByteArray), (0, (0, (⟨#[]⟩ : ByteArray)))), 0)).1).2).2).2) x1.2.2.2) && true)))) then
                some ([], 17)
              else
                (slices_Clone_ReadbackOpen.fn N x0).bind fun r5 =>
                bif (((decide (0 ≤ r4)) && (decide (r4 ≤ (w (r4 + 1))))) && (decide ((w (r4 + 1)) ≤ (r5.length : Int)))) && (decide ((r5.length : Int) ≤ (r5.length : Int))) then
                  bif r4 == (w (r4 + 1)) then
                    some (r5, 0)
                  else
                  bif (decide (0 ≤ r4)) && (decide (0 + (Int.toNat r4) ≤ r5.length)) then
                    bif (decide (0 ≤ (w (r4 + 1)))) && (decide ((w (r4 + 1)) ≤ ((r5.length : Nat) : Int))) then
                      bif decide (((List.take (Int.toNat r4) r5).length + (List.take (r5.length - (Int.toNat (w (r4 + 1)))) (List.drop (0 + (Int.toNat (w (r4 + 1)))) r5)).length) * 56 ≤ 140737488355328) && decide (((List.take (Int.toNat r4) r5).length + (List.take (r5.length - (Int.toNat (w (r4 + 1)))) (List.drop (0 + (Int.toNat (w (r4 + 1)))) r5)).length) ≤ maxLen) then
                        bif decide ((Int.toNat r4) + (List.take (r5.length - (Int.toNat (w (r4 + 1)))) (List.drop (0 + (Int.toNat (w (r4 + 1)))) r5)).length ≤ r5.length) then
                          bif ((decide (0 ≤ (((Int.toNat r4) + (List.take (r5.length - (Int.toNat (w (r4 + 1)))) (List.drop (0 + (Int.toNat (w (r4 + 1)))) r5)).length : Nat) : Int))) && (decide ((((Int.toNat r4) + (List.take (r5.length - (Int.toNat (w (r4 + 1)))) (List.drop (0 + (Int.toNat (w (r4 + 1)))) r5)).length : Nat) : Int) ≤ (r5.length : Int)))) && (decide (0 + (Int.toNat (r5.length : Int)) ≤ ((List.take (Int.toNat r4) r5) ++ (List.take (r5.length - (Int.toNat (w (r4 + 1)))) (List.drop (0 + (Int.toNat (w (r4 + 1)))) r5)) ++ (List.drop ((Int.toNat r4) + (List.take (r5.length - (Int.toNat (w (r4 + 1)))) (List.drop (0 + (Int.toNat (w (r4 + 1)))) r5)).length) r5)).length)) then
                            some ((List.take ((Int.toNat r4) + (List.take (r5.length - (Int.toNat (w (r4 + 1)))) (List.drop (0 + (Int.toNat (w (r4 + 1)))) r5)).length) (fillL ((List.take (Int.toNat r4) r5) ++ (List.take (r5.length - (Int.toNat (w (r4 + 1)))) (List.drop (0 + (Int.toNat (w (r4 + 1)))) r5)) ++ (List.drop ((Int.toNat r4) + (List.take (r5.length - (Int.toNat (w (r4 + 1)))) (List.drop (0 + (Int.toNat (w (r4 + 1)))) r5)).length) r5)) (0 + (Int.toNat (((Int.toNat r4) + (List.take (r5.length - (Int.toNat (w (r4 + 1)))) (List.drop (0 + (Int.toNat (w (r4 + 1)))) r5)).length : Nat) : Int))) ((Int.toNat (r5.length : Int)) - (Int.toNat (((Int.toNat r4) + (List.take (r5.length - (Int.toNat (w (r4 + 1)))) (List.drop (0 + (Int.toNat (w (r4 + 1)))) r5)).length : Nat) : Int))) (((⟨#[]⟩ : ByteArray), (0, (0, (⟨#[]⟩ : ByteArray)))), 0))), 0)
                          else
                            none
                        else
                          none
                      else
                        none
                    else
                      none
                  else
                    none
                else
                  none
            else
              none
          else
            none := by kernel_rfl

/-! ### readback_Lapse: skyway/readback.Lapse -/
def readback_Lapse.kp : List (Nat × List (Nat × Option (TypeId × Ty))) := [(10, [(1, none), (9, some (40, .pair (.pair (.str) (.pair (.int .i64) (.pair (.int .i64) (.str)))) (.int .i64))), (10, some (23, .pair (.str) (.pair (.int .i64) (.pair (.int .i64) (.str))))), (24, none), (25, none), (26, none)])]
noncomputable def readback_Lapse.G (N : Nat) : List (Nat × Spec) := [(14, .pure (readback_Check.S N)), (33, .pure (readback_early.S N))]
noncomputable def readback_Lapse.E (N : Nat) : Env := mkEnv (readback_Lapse.G N) N tyTab readback_Lapse.kp
noncomputable def readback_Lapse.fn (N : Nat) (x : List ((ByteArray × Int × Int × ByteArray) × Int) × Int) : Option (List ((ByteArray × Int × Int × ByteArray) × Int) × List (ByteArray × Int × Int × ByteArray) × Int) := evFn (readback_Lapse.E N) Tryd.prog 3 Tryd.f26 false [.cell (.sl 40 (.pair (.pair (.str) (.pair (.int .i64) (.pair (.int .i64) (.str)))) (.int .i64))), .cell (.int .i64)] [.own 40 (.pair (.pair (.str) (.pair (.int .i64) (.pair (.int .i64) (.str)))) (.int .i64)), .own 23 (.pair (.str) (.pair (.int .i64) (.pair (.int .i64) (.str)))), .val (.cell (.int .i64))] x
noncomputable def readback_Lapse.S (N : Nat) : PSpec := ⟨false, [.cell (.sl 40 (.pair (.pair (.str) (.pair (.int .i64) (.pair (.int .i64) (.str)))) (.int .i64))), .cell (.int .i64)], [.own 40 (.pair (.pair (.str) (.pair (.int .i64) (.pair (.int .i64) (.str)))) (.int .i64)), .own 23 (.pair (.str) (.pair (.int .i64) (.pair (.int .i64) (.str)))), .val (.cell (.int .i64))], readback_Lapse.fn N⟩
theorem f26_enters : Enters Tryd.prog 26 := ⟨Tryd.f26, Tryd.func26, by kernel_rfl, by kernel_rfl⟩
theorem readback_Lapse.tab (N : Nat) : TabOk Tryd.prog (readback_Lapse.G N) := ⟨⟨readback_Check.enters, readback_Check.sound N⟩, ⟨readback_early.enters, readback_early.sound N⟩, trivial⟩
theorem readback_Lapse.enters : Enters Tryd.prog 26 := f26_enters
theorem readback_Lapse.sound (N : Nat) : Sound Tryd.prog 26 (readback_Lapse.S N) := evFn_sound (specs_tab (readback_Lapse.tab N)) (inls_tab (readback_Lapse.tab N)) mixed 3 Tryd.func26 _ _ _
noncomputable def readback_Lapse.cd (N : Nat) (p : List Nat) : St → (Ex → St → Option (List ((ByteArray × Int × Int × ByteArray) × Int) × List (ByteArray × Int × Int × ByteArray) × Int)) → Option (List ((ByteArray × Int × Int × ByteArray) × Int) × List (ByteArray × Int × Int × ByteArray) × Int) := ev (readback_Lapse.E N) Tryd.prog (callD (readback_Lapse.E N) Tryd.prog 3) 0 (codeAt (bodyOf Tryd.f26) p)
noncomputable def readback_Lapse.fin : Ex → St → Option (List ((ByteArray × Int × Int × ByteArray) × Int) × List (ByteArray × Int × Int × ByteArray) × Int) := endK Tryd.prog Tryd.f26 [.own 40 (.pair (.pair (.str) (.pair (.int .i64) (.pair (.int .i64) (.str)))) (.int .i64)), .own 23 (.pair (.str) (.pair (.int .i64) (.pair (.int .i64) (.str)))), .val (.cell (.int .i64))]
noncomputable def readback_Lapse.l0 (N : Nat) (x0 : List ((ByteArray × Int × Int × ByteArray) × Int)) (x1 : Int) (k3 : Nat) (a4 : Int) (a5 : List ((ByteArray × Int × Int × ByteArray) × Int)) (a6 : List (ByteArray × Int × Int × ByteArray)) : Option (List ((ByteArray × Int × Int × ByteArray) × Int) × List (ByteArray × Int × Int × ByteArray) × Int) :=
  loopN (norm ((readback_Lapse.E N).keep 10) 0) (readback_Lapse.cd N [1, 1, 1, 1, 1, 0, 1, 0, 0]) k3
  ⟨[.any, .sc (.int .i64 x1), .any, .any, .any, .any, .any, .any, .any, .own 0, .own 1, .any, .any, .any, .any, .any, .any, .any, .any, .any, .any, .any, .any, .any, .ros false 40 (.pair (.pair (.str) (.pair (.int .i64) (.pair (.int .i64) (.str)))) (.int .i64)) x0, .sc (.int .i64 (x0.length : Int)), .sc (.int .i64 a4), .any, .any, .any, .any, .any, .any, .any, .any, .any, .any, .any, .any, .any, .any, .any, .any, .any, .any, .any, .any], [.rows true 40 (.pair (.pair (.str) (.pair (.int .i64) (.pair (.int .i64) (.str)))) (.int .i64)) a5, .rows true 23 (.pair (.str) (.pair (.int .i64) (.pair (.int .i64) (.str)))) a6]⟩
  (blockK 0 (seqK (readback_Lapse.cd N [1, 1, 1, 1, 1, 1]) readback_Lapse.fin))
theorem readback_Lapse.l0_zero (N : Nat) (x0 : List ((ByteArray × Int × Int × ByteArray) × Int)) (x1 : Int) (a4 : Int) (a5 : List ((ByteArray × Int × Int × ByteArray) × Int)) (a6 : List (ByteArray × Int × Int × ByteArray)) : readback_Lapse.l0 N x0 x1 0 a4 a5 a6 = none := by kernel_rfl
theorem readback_Lapse.l0_succ (N : Nat) (x0 : List ((ByteArray × Int × Int × ByteArray) × Int)) (x1 : Int) (k3 : Nat) (a4 : Int) (a5 : List ((ByteArray × Int × Int × ByteArray) × Int)) (a6 : List (ByteArray × Int × Int × ByteArray)) : readback_Lapse.l0 N x0 x1 (k3 + 1) a4 a5 a6 =
    bif decide (a4 < (x0.length : Int)) then
      bif (decide (0 ≤ a4)) && (decide (a4 < (x0.length : Int))) then
        bif decide ((w (x1 - ((List.getD x0 (Int.toNat a4) (((⟨#[]⟩ : ByteArray), (0, (0, (⟨#[]⟩ : ByteArray)))), 0)).2))) > 40) then
          bif decide ((a6.length + 1) * 48 ≤ 140737488355328) && decide ((a6.length + 1) ≤ maxLen) then
            readback_Lapse.l0 N x0 x1 k3 (w (a4 + 1)) a5 (a6 ++ [(List.getD x0 (Int.toNat a4) (((⟨#[]⟩ : ByteArray), (0, (0, (⟨#[]⟩ : ByteArray)))), 0)).1])
          else
            none
        else
        bif decide ((a5.length + 1) * 56 ≤ 140737488355328) && decide ((a5.length + 1) ≤ maxLen) then
          readback_Lapse.l0 N x0 x1 k3 (w (a4 + 1)) (a5 ++ [List.getD x0 (Int.toNat a4) (((⟨#[]⟩ : ByteArray), (0, (0, (⟨#[]⟩ : ByteArray)))), 0)]) a6
        else
          none
      else
        none
    else
      some (a5, a6, 0) := by kernel_rfl
theorem readback_Lapse.l0_cons (N : Nat) (x0 : List ((ByteArray × Int × Int × ByteArray) × Int)) (x1 : Int) (k3 : Nat) (a5 : List ((ByteArray × Int × Int × ByteArray) × Int)) (a6 : List (ByteArray × Int × Int × ByteArray)) {pre r} {x} (hl : x0 = pre ++ x :: r) (hb : x0.length < 4611686018427387904) : readback_Lapse.l0 N x0 x1 (k3 + 1) (pre.length : Int) a5 a6 =
    bif decide ((w (x1 - (x.2))) > 40) then
      bif decide ((a6.length + 1) * 48 ≤ 140737488355328) && decide ((a6.length + 1) ≤ maxLen) then
        readback_Lapse.l0 N x0 x1 k3 ((pre.length : Int) + 1) a5 (a6 ++ [x.1])
      else
        none
    else
    bif decide ((a5.length + 1) * 56 ≤ 140737488355328) && decide ((a5.length + 1) ≤ maxLen) then
      readback_Lapse.l0 N x0 x1 k3 ((pre.length : Int) + 1) (a5 ++ [x]) a6
    else
      none := by
  have hlen : x0.length = pre.length + 1 + r.length := by rw [hl]; simp; omega
  have e1 : decide ((pre.length : Int) < (x0.length : Int)) = true := by rw [decide_eq_true_iff]; omega
  have e2 : decide (0 ≤ (pre.length : Int)) = true := by rw [decide_eq_true_iff]; omega
  have e4 : w ((pre.length : Int) + 1) = (pre.length : Int) + 1 := w_next hl hb
  have e5 : List.take pre.length x0 = pre := by rw [hl]; simp
  have e6 : decide ((pre.length : Int) ≤ (x0.length : Int)) = true := by rw [decide_eq_true_iff]; omega
  have g0 : List.getD x0 pre.length (((⟨#[]⟩ : ByteArray), (0, (0, (⟨#[]⟩ : ByteArray)))), 0) = x := by rw [hl]; exact getD_mid pre x r _
  rw [readback_Lapse.l0_succ]
  simp -implicitDefEqProofs only [Int.toNat_natCast, e1, e2, e4, e6, g0, e5, Bool.and_true, Bool.true_and, Bool.true_or, cond_true]
theorem readback_Lapse.l0_nil (N : Nat) (x0 : List ((ByteArray × Int × Int × ByteArray) × Int)) (x1 : Int) (k3 : Nat) (a5 : List ((ByteArray × Int × Int × ByteArray) × Int)) (a6 : List (ByteArray × Int × Int × ByteArray)) : readback_Lapse.l0 N x0 x1 (k3 + 1) (x0.length : Int) a5 a6 =
    some (a5, a6, 0) := by
  have e1 : decide ((x0.length : Int) < (x0.length : Int)) = false := by rw [decide_eq_false_iff_not]; omega
  rw [readback_Lapse.l0_succ]
  simp -implicitDefEqProofs only [e1, cond_false]
theorem readback_Lapse.eq (N : Nat) (x0 : List ((ByteArray × Int × Int × ByteArray) × Int)) (x1 : Int) : readback_Lapse.fn N (x0, x1) =
    (readback_Check.fn N x0).bind fun r1 =>
    bif !(r1 == 0) then
      some ([], [], r1)
    else
      (readback_early.fn N (x0, x1)).bind fun r2 =>
      bif !(r2 == 0) then
        some ([], [], r2)
      else
        readback_Lapse.l0 N x0 x1 N 0 [] [] := by kernel_rfl

/-! ### readback_Of: skyway/readback.Of -/
def readback_Of.kp : List (Nat × List (Nat × Option (TypeId × Ty))) := [(6, [(1, none), (7, some (23, .pair (.str) (.pair (.int .i64) (.pair (.int .i64) (.str))))), (15, none), (16, none), (17, none)])]
noncomputable def readback_Of.G (N : Nat) : List (Nat × Spec) := [(14, .pure (readback_Check.S N))]
noncomputable def readback_Of.E (N : Nat) : Env := mkEnv (readback_Of.G N) N tyTab readback_Of.kp
noncomputable def readback_Of.fn (N : Nat) (x : List ((ByteArray × Int × Int × ByteArray) × Int) × ByteArray) : Option (List (ByteArray × Int × Int × ByteArray) × Int) := evFn (readback_Of.E N) Tryd.prog 3 Tryd.f27 false [.cell (.sl 40 (.pair (.pair (.str) (.pair (.int .i64) (.pair (.int .i64) (.str)))) (.int .i64))), .cell (.str)] [.own 23 (.pair (.str) (.pair (.int .i64) (.pair (.int .i64) (.str)))), .val (.cell (.int .i64))] x
noncomputable def readback_Of.S (N : Nat) : PSpec := ⟨false, [.cell (.sl 40 (.pair (.pair (.str) (.pair (.int .i64) (.pair (.int .i64) (.str)))) (.int .i64))), .cell (.str)], [.own 23 (.pair (.str) (.pair (.int .i64) (.pair (.int .i64) (.str)))), .val (.cell (.int .i64))], readback_Of.fn N⟩
theorem f27_enters : Enters Tryd.prog 27 := ⟨Tryd.f27, Tryd.func27, by kernel_rfl, by kernel_rfl⟩
theorem readback_Of.tab (N : Nat) : TabOk Tryd.prog (readback_Of.G N) := ⟨⟨readback_Check.enters, readback_Check.sound N⟩, trivial⟩
theorem readback_Of.enters : Enters Tryd.prog 27 := f27_enters
theorem readback_Of.sound (N : Nat) : Sound Tryd.prog 27 (readback_Of.S N) := evFn_sound (specs_tab (readback_Of.tab N)) (inls_tab (readback_Of.tab N)) mixed 3 Tryd.func27 _ _ _
noncomputable def readback_Of.cd (N : Nat) (p : List Nat) : St → (Ex → St → Option (List (ByteArray × Int × Int × ByteArray) × Int)) → Option (List (ByteArray × Int × Int × ByteArray) × Int) := ev (readback_Of.E N) Tryd.prog (callD (readback_Of.E N) Tryd.prog 3) 0 (codeAt (bodyOf Tryd.f27) p)
noncomputable def readback_Of.fin : Ex → St → Option (List (ByteArray × Int × Int × ByteArray) × Int) := endK Tryd.prog Tryd.f27 [.own 23 (.pair (.str) (.pair (.int .i64) (.pair (.int .i64) (.str)))), .val (.cell (.int .i64))]
noncomputable def readback_Of.l0 (N : Nat) (x0 : List ((ByteArray × Int × Int × ByteArray) × Int)) (x1 : ByteArray) (k2 : Nat) (a3 : Int) (a4 : List (ByteArray × Int × Int × ByteArray)) : Option (List (ByteArray × Int × Int × ByteArray) × Int) :=
  loopN (norm ((readback_Of.E N).keep 6) 0) (readback_Of.cd N [1, 1, 1, 0, 1, 0, 0]) k2
  ⟨[.any, .sc (.string x1), .any, .any, .any, .any, .any, .own 0, .any, .any, .any, .any, .any, .any, .any, .ros false 40 (.pair (.pair (.str) (.pair (.int .i64) (.pair (.int .i64) (.str)))) (.int .i64)) x0, .sc (.int .i64 (x0.length : Int)), .sc (.int .i64 a3), .any, .any, .any, .any, .any, .any, .any, .any, .any, .any, .any, .any, .any, .any, .any], [.rows true 23 (.pair (.str) (.pair (.int .i64) (.pair (.int .i64) (.str)))) a4]⟩
  (blockK 0 (seqK (readback_Of.cd N [1, 1, 1, 1]) readback_Of.fin))
theorem readback_Of.l0_zero (N : Nat) (x0 : List ((ByteArray × Int × Int × ByteArray) × Int)) (x1 : ByteArray) (a3 : Int) (a4 : List (ByteArray × Int × Int × ByteArray)) : readback_Of.l0 N x0 x1 0 a3 a4 = none := by kernel_rfl
theorem readback_Of.l0_succ (N : Nat) (x0 : List ((ByteArray × Int × Int × ByteArray) × Int)) (x1 : ByteArray) (k2 : Nat) (a3 : Int) (a4 : List (ByteArray × Int × Int × ByteArray)) : readback_Of.l0 N x0 x1 (k2 + 1) a3 a4 =
    bif decide (a3 < (x0.length : Int)) then
      bif (decide (0 ≤ a3)) && (decide (a3 < (x0.length : Int))) then
        bif seq (((List.getD x0 (Int.toNat a3) (((⟨#[]⟩ : ByteArray), (0, (0, (⟨#[]⟩ : ByteArray)))), 0)).1).1) x1 then
          bif decide ((a4.length + 1) * 48 ≤ 140737488355328) && decide ((a4.length + 1) ≤ maxLen) then
            readback_Of.l0 N x0 x1 k2 (w (a3 + 1)) (a4 ++ [(List.getD x0 (Int.toNat a3) (((⟨#[]⟩ : ByteArray), (0, (0, (⟨#[]⟩ : ByteArray)))), 0)).1])
          else
            none
        else
          readback_Of.l0 N x0 x1 k2 (w (a3 + 1)) a4
      else
        none
    else
      some (a4, 0) := by kernel_rfl
theorem readback_Of.l0_cons (N : Nat) (x0 : List ((ByteArray × Int × Int × ByteArray) × Int)) (x1 : ByteArray) (k2 : Nat) (a4 : List (ByteArray × Int × Int × ByteArray)) {pre r} {x} (hl : x0 = pre ++ x :: r) (hb : x0.length < 4611686018427387904) : readback_Of.l0 N x0 x1 (k2 + 1) (pre.length : Int) a4 =
    bif seq ((x.1).1) x1 then
      bif decide ((a4.length + 1) * 48 ≤ 140737488355328) && decide ((a4.length + 1) ≤ maxLen) then
        readback_Of.l0 N x0 x1 k2 ((pre.length : Int) + 1) (a4 ++ [x.1])
      else
        none
    else
      readback_Of.l0 N x0 x1 k2 ((pre.length : Int) + 1) a4 := by
  have hlen : x0.length = pre.length + 1 + r.length := by rw [hl]; simp; omega
  have e1 : decide ((pre.length : Int) < (x0.length : Int)) = true := by rw [decide_eq_true_iff]; omega
  have e2 : decide (0 ≤ (pre.length : Int)) = true := by rw [decide_eq_true_iff]; omega
  have e4 : w ((pre.length : Int) + 1) = (pre.length : Int) + 1 := w_next hl hb
  have e5 : List.take pre.length x0 = pre := by rw [hl]; simp
  have e6 : decide ((pre.length : Int) ≤ (x0.length : Int)) = true := by rw [decide_eq_true_iff]; omega
  have g0 : List.getD x0 pre.length (((⟨#[]⟩ : ByteArray), (0, (0, (⟨#[]⟩ : ByteArray)))), 0) = x := by rw [hl]; exact getD_mid pre x r _
  rw [readback_Of.l0_succ]
  simp -implicitDefEqProofs only [Int.toNat_natCast, e1, e2, e4, e6, g0, e5, Bool.and_true, Bool.true_and, Bool.true_or, cond_true]
theorem readback_Of.l0_nil (N : Nat) (x0 : List ((ByteArray × Int × Int × ByteArray) × Int)) (x1 : ByteArray) (k2 : Nat) (a4 : List (ByteArray × Int × Int × ByteArray)) : readback_Of.l0 N x0 x1 (k2 + 1) (x0.length : Int) a4 =
    some (a4, 0) := by
  have e1 : decide ((x0.length : Int) < (x0.length : Int)) = false := by rw [decide_eq_false_iff_not]; omega
  rw [readback_Of.l0_succ]
  simp -implicitDefEqProofs only [e1, cond_false]
theorem readback_Of.eq (N : Nat) (x0 : List ((ByteArray × Int × Int × ByteArray) × Int)) (x1 : ByteArray) : readback_Of.fn N (x0, x1) =
    (readback_Check.fn N x0).bind fun r1 =>
    bif !(r1 == 0) then
      some ([], r1)
    else
      readback_Of.l0 N x0 x1 N 0 [] := by kernel_rfl

/-! ### slices_Equal_ReadbackOpen: slices.Equal[[]skyway/api.ReadbackOpen,skyway/api.ReadbackOpen] -/
def slices_Equal_ReadbackOpen.kp : List (Nat × List (Nat × Option (TypeId × Ty))) := [(4, [(0, none), (1, none), (12, none), (13, none)])]
noncomputable def slices_Equal_ReadbackOpen.G (N : Nat) : List (Nat × Spec) := []
noncomputable def slices_Equal_ReadbackOpen.E (N : Nat) : Env := mkEnv (slices_Equal_ReadbackOpen.G N) N tyTab slices_Equal_ReadbackOpen.kp
noncomputable def slices_Equal_ReadbackOpen.fn (N : Nat) (x : List ((ByteArray × Int × Int × ByteArray) × Int) × List ((ByteArray × Int × Int × ByteArray) × Int)) : Option Bool := evFn (slices_Equal_ReadbackOpen.E N) Tryd.prog 3 Tryd.f18 false [.cell (.sl 40 (.pair (.pair (.str) (.pair (.int .i64) (.pair (.int .i64) (.str)))) (.int .i64))), .cell (.sl 40 (.pair (.pair (.str) (.pair (.int .i64) (.pair (.int .i64) (.str)))) (.int .i64)))] [.val (.cell (.bool))] x
noncomputable def slices_Equal_ReadbackOpen.S (N : Nat) : PSpec := ⟨false, [.cell (.sl 40 (.pair (.pair (.str) (.pair (.int .i64) (.pair (.int .i64) (.str)))) (.int .i64))), .cell (.sl 40 (.pair (.pair (.str) (.pair (.int .i64) (.pair (.int .i64) (.str)))) (.int .i64)))], [.val (.cell (.bool))], slices_Equal_ReadbackOpen.fn N⟩
theorem f18_enters : Enters Tryd.prog 18 := ⟨Tryd.f18, Tryd.func18, by kernel_rfl, by kernel_rfl⟩
theorem slices_Equal_ReadbackOpen.tab (N : Nat) : TabOk Tryd.prog (slices_Equal_ReadbackOpen.G N) := trivial
theorem slices_Equal_ReadbackOpen.enters : Enters Tryd.prog 18 := f18_enters
theorem slices_Equal_ReadbackOpen.sound (N : Nat) : Sound Tryd.prog 18 (slices_Equal_ReadbackOpen.S N) := evFn_sound (specs_tab (slices_Equal_ReadbackOpen.tab N)) (inls_tab (slices_Equal_ReadbackOpen.tab N)) mixed 3 Tryd.func18 _ _ _
noncomputable def slices_Equal_ReadbackOpen.cd (N : Nat) (p : List Nat) : St → (Ex → St → Option Bool) → Option Bool := ev (slices_Equal_ReadbackOpen.E N) Tryd.prog (callD (slices_Equal_ReadbackOpen.E N) Tryd.prog 3) 0 (codeAt (bodyOf Tryd.f18) p)
noncomputable def slices_Equal_ReadbackOpen.fin : Ex → St → Option Bool := endK Tryd.prog Tryd.f18 [.val (.cell (.bool))]
noncomputable def slices_Equal_ReadbackOpen.l0 (N : Nat) (x0 : List ((ByteArray × Int × Int × ByteArray) × Int)) (x1 : List ((ByteArray × Int × Int × ByteArray) × Int)) (k1 : Nat) (a2 : Int) : Option Bool :=
  loopN (norm ((slices_Equal_ReadbackOpen.E N).keep 4) 0) (slices_Equal_ReadbackOpen.cd N [1, 1, 0, 1, 0, 0]) k1
  ⟨[.ros false 40 (.pair (.pair (.str) (.pair (.int .i64) (.pair (.int .i64) (.str)))) (.int .i64)) x0, .ros false 40 (.pair (.pair (.str) (.pair (.int .i64) (.pair (.int .i64) (.str)))) (.int .i64)) x1, .any, .any, .any, .any, .any, .any, .any, .any, .any, .any, .sc (.int .i64 (x0.length : Int)), .sc (.int .i64 a2), .any, .any, .any, .any, .any, .any, .any, .any, .any, .any, .any, .any], []⟩
  (blockK 0 (seqK (slices_Equal_ReadbackOpen.cd N [1, 1, 1]) slices_Equal_ReadbackOpen.fin))
theorem slices_Equal_ReadbackOpen.l0_zero (N : Nat) (x0 : List ((ByteArray × Int × Int × ByteArray) × Int)) (x1 : List ((ByteArray × Int × Int × ByteArray) × Int)) (a2 : Int) : slices_Equal_ReadbackOpen.l0 N x0 x1 0 a2 = none := by kernel_rfl
theorem slices_Equal_ReadbackOpen.l0_succ (N : Nat) (x0 : List ((ByteArray × Int × Int × ByteArray) × Int)) (x1 : List ((ByteArray × Int × Int × ByteArray) × Int)) (k1 : Nat) (a2 : Int) : slices_Equal_ReadbackOpen.l0 N x0 x1 (k1 + 1) a2 =
    bif decide (a2 < (x0.length : Int)) then
      bif (decide (0 ≤ a2)) && (decide (a2 < (x0.length : Int))) then
        bif (decide (0 ≤ a2)) && (decide (a2 < (x1.length : Int))) then
          bif !(((seq (((List.getD x0 (Int.toNat a2) (((⟨#[]⟩ : ByteArray), (0, (0, (⟨#[]⟩ : ByteArray)))), 0)).1).1) (((List.getD x1 (Int.toNat a2) (((⟨#[]⟩ : ByteArray), (0, (0, (⟨#[]⟩ : ByteArray)))), 0)).1).1)) && ((((((List.getD x0 (Int.toNat a2) (((⟨#[]⟩ : ByteArray), (0, (0, (⟨#[]⟩ : ByteArray)))), 0)).1).2).1) == ((((List.getD x1 (Int.toNat a2) (((⟨#[]⟩ : ByteArray), (0, (0, (⟨#[]⟩ : ByteArray)))), 0)).1).2).1)) && (((((((List.getD x0 (Int.toNat a2) (((⟨#[]⟩ : ByteArray), (0, (0, (⟨#[]⟩ : ByteArray)))), 0)).1).2).2).1) == (((((List.getD x1 (Int.toNat a2) (((⟨#[]⟩ : ByteArray), (0, (0, (⟨#[]⟩ : ByteArray)))), 0)).1).2).2).1)) && ((seq (((((List.getD x0 (Int.toNat a2) (((⟨#[]⟩ : ByteArray), (0, (0, (⟨#[]⟩ : ByteArray)))), 0)).1).2).2).2) (((((List.getD x1 (Int.toNat a2) (((⟨#[]⟩ : ByteArray), (0, (0, (⟨#[]⟩ : ByteArray)))), 0)).1).2).2).2)) && true)))) && ((((List.getD x0 (Int.toNat a2) (((⟨#[]⟩ : ByteArray), (0, (0, (⟨#[]⟩ : ByteArray)))), 0)).2) == ((List.getD x1 (Int.toNat a2) (((⟨#[]⟩ : ByteArray), (0, (0, (⟨#[]⟩ : ByteArray)))), 0)).2)) && true)) then
            some false
          else
            slices_Equal_ReadbackOpen.l0 N x0 x1 k1 (w (a2 + 1))
        else
          none
      else
        none
    else
      some true := by kernel_rfl
theorem slices_Equal_ReadbackOpen.l0_cons (N : Nat) (x0 : List ((ByteArray × Int × Int × ByteArray) × Int)) (x1 : List ((ByteArray × Int × Int × ByteArray) × Int)) (k1 : Nat) {pre r} {x} (hl : x0 = pre ++ x :: r) (hb : x0.length < 4611686018427387904) : slices_Equal_ReadbackOpen.l0 N x0 x1 (k1 + 1) (pre.length : Int) =
    bif decide ((pre.length : Int) < (x1.length : Int)) then
      bif !(((seq ((x.1).1) (((List.getD x1 pre.length (((⟨#[]⟩ : ByteArray), (0, (0, (⟨#[]⟩ : ByteArray)))), 0)).1).1)) && (((((x.1).2).1) == ((((List.getD x1 pre.length (((⟨#[]⟩ : ByteArray), (0, (0, (⟨#[]⟩ : ByteArray)))), 0)).1).2).1)) && ((((((x.1).2).2).1) == (((((List.getD x1 pre.length (((⟨#[]⟩ : ByteArray), (0, (0, (⟨#[]⟩ : ByteArray)))), 0)).1).2).2).1)) && ((seq ((((x.1).2).2).2) (((((List.getD x1 pre.length (((⟨#[]⟩ : ByteArray), (0, (0, (⟨#[]⟩ : ByteArray)))), 0)).1).2).2).2)) && true)))) && (((x.2) == ((List.getD x1 pre.length (((⟨#[]⟩ : ByteArray), (0, (0, (⟨#[]⟩ : ByteArray)))), 0)).2)) && true)) then
        some false
      else
        slices_Equal_ReadbackOpen.l0 N x0 x1 k1 ((pre.length : Int) + 1)
    else
      none := by
  have hlen : x0.length = pre.length + 1 + r.length := by rw [hl]; simp; omega
  have e1 : decide ((pre.length : Int) < (x0.length : Int)) = true := by rw [decide_eq_true_iff]; omega
  have e2 : decide (0 ≤ (pre.length : Int)) = true := by rw [decide_eq_true_iff]; omega
  have e4 : w ((pre.length : Int) + 1) = (pre.length : Int) + 1 := w_next hl hb
  have e5 : List.take pre.length x0 = pre := by rw [hl]; simp
  have e6 : decide ((pre.length : Int) ≤ (x0.length : Int)) = true := by rw [decide_eq_true_iff]; omega
  have g0 : List.getD x0 pre.length (((⟨#[]⟩ : ByteArray), (0, (0, (⟨#[]⟩ : ByteArray)))), 0) = x := by rw [hl]; exact getD_mid pre x r _
  rw [slices_Equal_ReadbackOpen.l0_succ]
  simp -implicitDefEqProofs only [Int.toNat_natCast, e1, e2, e4, e6, g0, e5, Bool.and_true, Bool.true_and, Bool.true_or, cond_true]
theorem slices_Equal_ReadbackOpen.l0_nil (N : Nat) (x0 : List ((ByteArray × Int × Int × ByteArray) × Int)) (x1 : List ((ByteArray × Int × Int × ByteArray) × Int)) (k1 : Nat) : slices_Equal_ReadbackOpen.l0 N x0 x1 (k1 + 1) (x0.length : Int) =
    some true := by
  have e1 : decide ((x0.length : Int) < (x0.length : Int)) = false := by rw [decide_eq_false_iff_not]; omega
  rw [slices_Equal_ReadbackOpen.l0_succ]
  simp -implicitDefEqProofs only [e1, cond_false]
theorem slices_Equal_ReadbackOpen.eq (N : Nat) (x0 : List ((ByteArray × Int × Int × ByteArray) × Int)) (x1 : List ((ByteArray × Int × Int × ByteArray) × Int)) : slices_Equal_ReadbackOpen.fn N (x0, x1) =
    bif !((x0.length : Int) == (x1.length : Int)) then
      some false
    else
      slices_Equal_ReadbackOpen.l0 N x0 x1 N 0 := by kernel_rfl
theorem slices_Equal_ReadbackOpen.v {N : Nat} (hN : 4611686018427387904 ≤ N) (x0 x1 : List ((ByteArray × Int × Int × ByteArray) × Int)) (h : x0.length < 4611686018427387904) : slices_Equal_ReadbackOpen.fn N (x0, x1) = some (eqL (fun p q => (((seq ((p.1).1) ((q.1).1)) && (((((p.1).2).1) == (((q.1).2).1)) && ((((((p.1).2).2).1) == ((((q.1).2).2).1)) && ((seq ((((p.1).2).2).2) ((((q.1).2).2).2)) && true)))) && (((p.2) == (q.2)) && true))) x0 x1) := equal_list hN (fun p q => (((seq ((p.1).1) ((q.1).1)) && (((((p.1).2).1) == (((q.1).2).1)) && ((((((p.1).2).2).1) == ((((q.1).2).2).1)) && ((seq ((((p.1).2).2).2) ((((q.1).2).2).2)) && true)))) && (((p.2) == (q.2)) && true))) (((⟨#[]⟩ : ByteArray), (0, (0, (⟨#[]⟩ : ByteArray)))), 0) h (fun k i => slices_Equal_ReadbackOpen.l0 N x0 x1 k i) (slices_Equal_ReadbackOpen.eq N x0 x1) (fun k i => slices_Equal_ReadbackOpen.l0_succ N x0 x1 k i)
theorem slices_Equal_ReadbackOpen.self {N : Nat} (hN : 4611686018427387904 ≤ N) (x0 : List ((ByteArray × Int × Int × ByteArray) × Int)) (h : x0.length < 4611686018427387904) : slices_Equal_ReadbackOpen.fn N (x0, x0) = some true := by rw [slices_Equal_ReadbackOpen.v hN x0 x0 h]; exact congrArg some (eqL_refl (fun p => by simp [seq_self]) x0)

/-! ### slices_Equal_Clearance: slices.Equal[[]skyway/api.Clearance,skyway/api.Clearance] -/
def slices_Equal_Clearance.kp : List (Nat × List (Nat × Option (TypeId × Ty))) := [(4, [(0, none), (1, none), (12, none), (13, none)])]
noncomputable def slices_Equal_Clearance.G (N : Nat) : List (Nat × Spec) := []
noncomputable def slices_Equal_Clearance.E (N : Nat) : Env := mkEnv (slices_Equal_Clearance.G N) N tyTab slices_Equal_Clearance.kp
noncomputable def slices_Equal_Clearance.fn (N : Nat) (x : List (ByteArray × Int × Int × ByteArray) × List (ByteArray × Int × Int × ByteArray)) : Option Bool := evFn (slices_Equal_Clearance.E N) Tryd.prog 3 Tryd.f28 false [.cell (.sl 23 (.pair (.str) (.pair (.int .i64) (.pair (.int .i64) (.str))))), .cell (.sl 23 (.pair (.str) (.pair (.int .i64) (.pair (.int .i64) (.str)))))] [.val (.cell (.bool))] x
noncomputable def slices_Equal_Clearance.S (N : Nat) : PSpec := ⟨false, [.cell (.sl 23 (.pair (.str) (.pair (.int .i64) (.pair (.int .i64) (.str))))), .cell (.sl 23 (.pair (.str) (.pair (.int .i64) (.pair (.int .i64) (.str)))))], [.val (.cell (.bool))], slices_Equal_Clearance.fn N⟩
theorem f28_enters : Enters Tryd.prog 28 := ⟨Tryd.f28, Tryd.func28, by kernel_rfl, by kernel_rfl⟩
theorem slices_Equal_Clearance.tab (N : Nat) : TabOk Tryd.prog (slices_Equal_Clearance.G N) := trivial
theorem slices_Equal_Clearance.enters : Enters Tryd.prog 28 := f28_enters
theorem slices_Equal_Clearance.sound (N : Nat) : Sound Tryd.prog 28 (slices_Equal_Clearance.S N) := evFn_sound (specs_tab (slices_Equal_Clearance.tab N)) (inls_tab (slices_Equal_Clearance.tab N)) mixed 3 Tryd.func28 _ _ _
noncomputable def slices_Equal_Clearance.cd (N : Nat) (p : List Nat) : St → (Ex → St → Option Bool) → Option Bool := ev (slices_Equal_Clearance.E N) Tryd.prog (callD (slices_Equal_Clearance.E N) Tryd.prog 3) 0 (codeAt (bodyOf Tryd.f28) p)
noncomputable def slices_Equal_Clearance.fin : Ex → St → Option Bool := endK Tryd.prog Tryd.f28 [.val (.cell (.bool))]
noncomputable def slices_Equal_Clearance.l0 (N : Nat) (x0 : List (ByteArray × Int × Int × ByteArray)) (x1 : List (ByteArray × Int × Int × ByteArray)) (k1 : Nat) (a2 : Int) : Option Bool :=
  loopN (norm ((slices_Equal_Clearance.E N).keep 4) 0) (slices_Equal_Clearance.cd N [1, 1, 0, 1, 0, 0]) k1
  ⟨[.ros false 23 (.pair (.str) (.pair (.int .i64) (.pair (.int .i64) (.str)))) x0, .ros false 23 (.pair (.str) (.pair (.int .i64) (.pair (.int .i64) (.str)))) x1, .any, .any, .any, .any, .any, .any, .any, .any, .any, .any, .sc (.int .i64 (x0.length : Int)), .sc (.int .i64 a2), .any, .any, .any, .any, .any, .any, .any, .any, .any, .any, .any, .any], []⟩
  (blockK 0 (seqK (slices_Equal_Clearance.cd N [1, 1, 1]) slices_Equal_Clearance.fin))
theorem slices_Equal_Clearance.l0_zero (N : Nat) (x0 : List (ByteArray × Int × Int × ByteArray)) (x1 : List (ByteArray × Int × Int × ByteArray)) (a2 : Int) : slices_Equal_Clearance.l0 N x0 x1 0 a2 = none := by kernel_rfl
theorem slices_Equal_Clearance.l0_succ (N : Nat) (x0 : List (ByteArray × Int × Int × ByteArray)) (x1 : List (ByteArray × Int × Int × ByteArray)) (k1 : Nat) (a2 : Int) : slices_Equal_Clearance.l0 N x0 x1 (k1 + 1) a2 =
    bif decide (a2 < (x0.length : Int)) then
      bif (decide (0 ≤ a2)) && (decide (a2 < (x0.length : Int))) then
        bif (decide (0 ≤ a2)) && (decide (a2 < (x1.length : Int))) then
          bif !((seq ((List.getD x0 (Int.toNat a2) ((⟨#[]⟩ : ByteArray), (0, (0, (⟨#[]⟩ : ByteArray))))).1) ((List.getD x1 (Int.toNat a2) ((⟨#[]⟩ : ByteArray), (0, (0, (⟨#[]⟩ : ByteArray))))).1)) && (((((List.getD x0 (Int.toNat a2) ((⟨#[]⟩ : ByteArray), (0, (0, (⟨#[]⟩ : ByteArray))))).2).1) == (((List.getD x1 (Int.toNat a2) ((⟨#[]⟩ : ByteArray), (0, (0, (⟨#[]⟩ : ByteArray))))).2).1)) && ((((((List.getD x0 (Int.toNat a2) ((⟨#[]⟩ : ByteArray), (0, (0, (⟨#[]⟩ : ByteArray))))).2).2).1) == ((((List.getD x1 (Int.toNat a2) ((⟨#[]⟩ : ByteArray), (0, (0, (⟨#[]⟩ : ByteArray))))).2).2).1)) && ((seq ((((List.getD x0 (Int.toNat a2) ((⟨#[]⟩ : ByteArray), (0, (0, (⟨#[]⟩ : ByteArray))))).2).2).2) ((((List.getD x1 (Int.toNat a2) ((⟨#[]⟩ : ByteArray), (0, (0, (⟨#[]⟩ : ByteArray))))).2).2).2)) && true)))) then
            some false
          else
            slices_Equal_Clearance.l0 N x0 x1 k1 (w (a2 + 1))
        else
          none
      else
        none
    else
      some true := by kernel_rfl
theorem slices_Equal_Clearance.l0_cons (N : Nat) (x0 : List (ByteArray × Int × Int × ByteArray)) (x1 : List (ByteArray × Int × Int × ByteArray)) (k1 : Nat) {pre r} {x} (hl : x0 = pre ++ x :: r) (hb : x0.length < 4611686018427387904) : slices_Equal_Clearance.l0 N x0 x1 (k1 + 1) (pre.length : Int) =
    bif decide ((pre.length : Int) < (x1.length : Int)) then
      bif !((seq (x.1) ((List.getD x1 pre.length ((⟨#[]⟩ : ByteArray), (0, (0, (⟨#[]⟩ : ByteArray))))).1)) && ((((x.2).1) == (((List.getD x1 pre.length ((⟨#[]⟩ : ByteArray), (0, (0, (⟨#[]⟩ : ByteArray))))).2).1)) && (((((x.2).2).1) == ((((List.getD x1 pre.length ((⟨#[]⟩ : ByteArray), (0, (0, (⟨#[]⟩ : ByteArray))))).2).2).1)) && ((seq (((x.2).2).2) ((((List.getD x1 pre.length ((⟨#[]⟩ : ByteArray), (0, (0, (⟨#[]⟩ : ByteArray))))).2).2).2)) && true)))) then
        some false
      else
        slices_Equal_Clearance.l0 N x0 x1 k1 ((pre.length : Int) + 1)
    else
      none := by
  have hlen : x0.length = pre.length + 1 + r.length := by rw [hl]; simp; omega
  have e1 : decide ((pre.length : Int) < (x0.length : Int)) = true := by rw [decide_eq_true_iff]; omega
  have e2 : decide (0 ≤ (pre.length : Int)) = true := by rw [decide_eq_true_iff]; omega
  have e4 : w ((pre.length : Int) + 1) = (pre.length : Int) + 1 := w_next hl hb
  have e5 : List.take pre.length x0 = pre := by rw [hl]; simp
  have e6 : decide ((pre.length : Int) ≤ (x0.length : Int)) = true := by rw [decide_eq_true_iff]; omega
  have g0 : List.getD x0 pre.length ((⟨#[]⟩ : ByteArray), (0, (0, (⟨#[]⟩ : ByteArray)))) = x := by rw [hl]; exact getD_mid pre x r _
  rw [slices_Equal_Clearance.l0_succ]
  simp -implicitDefEqProofs only [Int.toNat_natCast, e1, e2, e4, e6, g0, e5, Bool.and_true, Bool.true_and, Bool.true_or, cond_true]
theorem slices_Equal_Clearance.l0_nil (N : Nat) (x0 : List (ByteArray × Int × Int × ByteArray)) (x1 : List (ByteArray × Int × Int × ByteArray)) (k1 : Nat) : slices_Equal_Clearance.l0 N x0 x1 (k1 + 1) (x0.length : Int) =
    some true := by
  have e1 : decide ((x0.length : Int) < (x0.length : Int)) = false := by rw [decide_eq_false_iff_not]; omega
  rw [slices_Equal_Clearance.l0_succ]
  simp -implicitDefEqProofs only [e1, cond_false]
theorem slices_Equal_Clearance.eq (N : Nat) (x0 : List (ByteArray × Int × Int × ByteArray)) (x1 : List (ByteArray × Int × Int × ByteArray)) : slices_Equal_Clearance.fn N (x0, x1) =
    bif !((x0.length : Int) == (x1.length : Int)) then
      some false
    else
      slices_Equal_Clearance.l0 N x0 x1 N 0 := by kernel_rfl
theorem slices_Equal_Clearance.v {N : Nat} (hN : 4611686018427387904 ≤ N) (x0 x1 : List (ByteArray × Int × Int × ByteArray)) (h : x0.length < 4611686018427387904) : slices_Equal_Clearance.fn N (x0, x1) = some (eqL (fun p q => ((seq (p.1) (q.1)) && ((((p.2).1) == ((q.2).1)) && (((((p.2).2).1) == (((q.2).2).1)) && ((seq (((p.2).2).2) (((q.2).2).2)) && true))))) x0 x1) := equal_list hN (fun p q => ((seq (p.1) (q.1)) && ((((p.2).1) == ((q.2).1)) && (((((p.2).2).1) == (((q.2).2).1)) && ((seq (((p.2).2).2) (((q.2).2).2)) && true))))) ((⟨#[]⟩ : ByteArray), (0, (0, (⟨#[]⟩ : ByteArray)))) h (fun k i => slices_Equal_Clearance.l0 N x0 x1 k i) (slices_Equal_Clearance.eq N x0 x1) (fun k i => slices_Equal_Clearance.l0_succ N x0 x1 k i)
theorem slices_Equal_Clearance.self {N : Nat} (hN : 4611686018427387904 ≤ N) (x0 : List (ByteArray × Int × Int × ByteArray)) (h : x0.length < 4611686018427387904) : slices_Equal_Clearance.fn N (x0, x0) = some true := by rw [slices_Equal_Clearance.v hN x0 x0 h]; exact congrArg some (eqL_refl (fun p => by simp [seq_self]) x0)

/-! ### law_readbackFact: skyway/skywaylaw3.readbackFact -/
def law_readbackFact.kp : List (Nat × List (Nat × Option (TypeId × Ty))) := [(999999, [(0, none)])]
noncomputable def law_readbackFact.G (N : Nat) : List (Nat × Spec) := [(10, .pure (readback_Compare.S N)), (12, .pure (readback_Say.S N)), (14, .pure (readback_Check.S N)), (18, .pure (slices_Equal_ReadbackOpen.S N)), (25, .pure (readback_Hear.S N)), (26, .pure (readback_Lapse.S N)), (27, .pure (readback_Of.S N)), (28, .pure (slices_Equal_Clearance.S N)), (31, .pure (law_climbed.S N))]
noncomputable def law_readbackFact.E (N : Nat) : Env := mkEnv (law_readbackFact.G N) N tyTab law_readbackFact.kp
noncomputable def law_readbackFact.fn (N : Nat) (x : Unit) : Option Bool := evFn (law_readbackFact.E N) Tryd.prog 3 Tryd.f9 false [] [.val (.cell (.bool))] x
noncomputable def law_readbackFact.S (N : Nat) : PSpec := ⟨false, [], [.val (.cell (.bool))], law_readbackFact.fn N⟩
theorem f9_enters : Enters Tryd.prog 9 := ⟨Tryd.f9, Tryd.func9, by kernel_rfl, by kernel_rfl⟩
theorem law_readbackFact.tab (N : Nat) : TabOk Tryd.prog (law_readbackFact.G N) := ⟨⟨readback_Compare.enters, readback_Compare.sound N⟩, ⟨readback_Say.enters, readback_Say.sound N⟩, ⟨readback_Check.enters, readback_Check.sound N⟩, ⟨slices_Equal_ReadbackOpen.enters, slices_Equal_ReadbackOpen.sound N⟩, ⟨readback_Hear.enters, readback_Hear.sound N⟩, ⟨readback_Lapse.enters, readback_Lapse.sound N⟩, ⟨readback_Of.enters, readback_Of.sound N⟩, ⟨slices_Equal_Clearance.enters, slices_Equal_Clearance.sound N⟩, ⟨law_climbed.enters, law_climbed.sound N⟩, trivial⟩
theorem law_readbackFact.enters : Enters Tryd.prog 9 := f9_enters
theorem law_readbackFact.sound (N : Nat) : Sound Tryd.prog 9 (law_readbackFact.S N) := evFn_sound (specs_tab (law_readbackFact.tab N)) (inls_tab (law_readbackFact.tab N)) mixed 3 Tryd.func9 _ _ _
theorem law_readbackFact.eq (N : Nat) : law_readbackFact.fn N () =
    (law_climbed.fn N 9000).bind fun r1 =>
    (law_climbed.fn N 8000).bind fun r2 =>
    (readback_Compare.fn N (r1, r2)).bind fun r3 =>
    (law_climbed.fn N 9000).bind fun r4 =>
    (readback_Say.fn N ([], r4, 5)).bind fun r5 =>
    (law_climbed.fn N 8000).bind fun r6 =>
    (readback_Hear.fn N (r5.1, r6, 6)).bind fun r7 =>
    (law_climbed.fn N 9000).bind fun r8 =>
    (readback_Hear.fn N (r5.1, r8, 6)).bind fun r9 =>
    (readback_Lapse.fn N (r5.1, 46)).bind fun r10 =>
    (readback_Of.fn N (r5.1, (⟨#[65, 49]⟩ : ByteArray))).bind fun r11 =>
    bif r3.2 == 0 then
      bif r5.2 == 0 then
        bif r7.2 == 17 then
          bif r9.2 == 0 then
            bif r10.2.2 == 0 then
              bif r11.2 == 0 then
                bif r3.1 == 4 then
                  (law_climbed.fn N 9000).bind fun r12 =>
                  (slices_Equal_ReadbackOpen.fn N (r5.1, [(r12, 5)])).bind fun r13 =>
                  bif r13 then
                    bif (w ((r9.1.length : Int) + (r10.1.length : Int))) == 0 then
                      bif (r10.2.1.length : Int) == 1 then
                        bif decide (0 < (r10.2.1.length : Int)) then
                          bif decide (0 < r10.2.1.length) then
                            (law_climbed.fn N 9000).bind fun r14 =>
                            bif (seq ((List.getD r10.2.1 0 ((⟨#[]⟩ : ByteArray), (0, (0, (⟨#[]⟩ : ByteArray))))).1) r14.1) && (((((List.getD r10.2.1 0 ((⟨#[]⟩ : ByteArray), (0, (0, (⟨#[]⟩ : ByteArray))))).2).1) == r14.2.1) && ((((((List.getD r10.2.1 0 ((⟨#[]⟩ : ByteArray), (0, (0, (⟨#[]⟩ : ByteArray))))).2).2).1) == r14.2.2.1) && ((seq ((((List.getD r10.2.1 0 ((⟨#[]⟩ : ByteArray), (0, (0, (⟨#[]⟩ : ByteArray))))).2).2).2) r14.2.2.2) && true))) then
                              (slices_Equal_Clearance.fn N (r11.1, r10.2.1)).bind fun r15 =>
                              bif r15 then
                                bif decide ((r5.1.length + r5.1.length) * 56 ≤ 140737488355328) && decide ((r5.1.length + r5.1.length) ≤ maxLen) then
                                  (readback_Check.fn N (r5.1 ++ r5.1)).bind fun r16 =>
                                  some (r16 == 7)
                                else
                                  none
                              else
                                some false
                            else
                              some false
                          else
                            none
                        else
                          none
                      else
                        some false
                    else
                      some false
                  else
                    some false
                else
                  some false
              else
                some false
            else
              some false
          else
            some false
        else
          some false
      else
        some false
    else
      some false := by kernel_rfl

/-! ### ref_word: skyway/skywayref3.word -/
def ref_word.kp : List (Nat × List (Nat × Option (TypeId × Ty))) := []
noncomputable def ref_word.G (N : Nat) : List (Nat × Spec) := []
noncomputable def ref_word.E (N : Nat) : Env := mkEnv (ref_word.G N) N tyTab ref_word.kp
noncomputable def ref_word.fn (N : Nat) (x : Int) : Option ByteArray := evFn (ref_word.E N) Tryd.prog 3 Tryd.f44 false [.cell (.int .i64)] [.val (.cell (.str))] x
noncomputable def ref_word.S (N : Nat) : PSpec := ⟨false, [.cell (.int .i64)], [.val (.cell (.str))], ref_word.fn N⟩
theorem f44_enters : Enters Tryd.prog 44 := ⟨Tryd.f44, Tryd.func44, by kernel_rfl, by kernel_rfl⟩
theorem ref_word.tab (N : Nat) : TabOk Tryd.prog (ref_word.G N) := trivial
theorem ref_word.enters : Enters Tryd.prog 44 := f44_enters
theorem ref_word.sound (N : Nat) : Sound Tryd.prog 44 (ref_word.S N) := evFn_sound (specs_tab (ref_word.tab N)) (inls_tab (ref_word.tab N)) mixed 3 Tryd.func44 _ _ _
theorem ref_word.eq (N : Nat) (x0 : Int) : ref_word.fn N x0 =
    bif (decide (0 ≤ x0)) && (decide (x0 < 7)) then
      bif decide ((Int.toNat x0) < 7) then
        some (List.getD [(⟨#[72, 69, 73, 71, 72, 84]⟩ : ByteArray), (⟨#[72, 69, 65, 68, 73, 78, 71]⟩ : ByteArray), (⟨#[83, 80, 69, 69, 68]⟩ : ByteArray), (⟨#[68, 73, 82, 69, 67, 84]⟩ : ByteArray), (⟨#[72, 79, 76, 68]⟩ : ByteArray), (⟨#[67, 79, 78, 84, 65, 67, 84]⟩ : ByteArray), (⟨#[76, 65, 78, 68]⟩ : ByteArray)] (Int.toNat x0) (⟨#[]⟩ : ByteArray))
      else
        none
    else
      none := by kernel_rfl

/-! ### ref_IsName: skyway/skywayref3.IsName -/
def ref_IsName.kp : List (Nat × List (Nat × Option (TypeId × Ty))) := [(4, [(0, none), (3, none)])]
noncomputable def ref_IsName.G (N : Nat) : List (Nat × Spec) := []
noncomputable def ref_IsName.E (N : Nat) : Env := mkEnv (ref_IsName.G N) N tyTab ref_IsName.kp
noncomputable def ref_IsName.fn (N : Nat) (x : ByteArray) : Option Bool := evFn (ref_IsName.E N) Tryd.prog 3 Tryd.f45 false [.cell (.str)] [.val (.cell (.bool))] x
noncomputable def ref_IsName.S (N : Nat) : PSpec := ⟨false, [.cell (.str)], [.val (.cell (.bool))], ref_IsName.fn N⟩
theorem f45_enters : Enters Tryd.prog 45 := ⟨Tryd.f45, Tryd.func45, by kernel_rfl, by kernel_rfl⟩
theorem ref_IsName.tab (N : Nat) : TabOk Tryd.prog (ref_IsName.G N) := trivial
theorem ref_IsName.enters : Enters Tryd.prog 45 := f45_enters
theorem ref_IsName.sound (N : Nat) : Sound Tryd.prog 45 (ref_IsName.S N) := evFn_sound (specs_tab (ref_IsName.tab N)) (inls_tab (ref_IsName.tab N)) mixed 3 Tryd.func45 _ _ _
noncomputable def ref_IsName.cd (N : Nat) (p : List Nat) : St → (Ex → St → Option Bool) → Option Bool := ev (ref_IsName.E N) Tryd.prog (callD (ref_IsName.E N) Tryd.prog 3) 0 (codeAt (bodyOf Tryd.f45) p)
noncomputable def ref_IsName.fin : Ex → St → Option Bool := endK Tryd.prog Tryd.f45 [.val (.cell (.bool))]
noncomputable def ref_IsName.l0 (N : Nat) (x0 : ByteArray) (k1 : Nat) (a2 : Int) : Option Bool :=
  loopN (norm ((ref_IsName.E N).keep 4) 0) (ref_IsName.cd N [1, 1, 0, 1, 0, 0]) k1
  ⟨[.sc (.string x0), .any, .any, .sc (.int .i64 a2), .any, .any, .any, .any, .any, .any, .any, .any, .any, .any, .any, .any, .any, .any, .any, .any, .any, .any, .any, .any, .any, .any, .any, .any, .any, .any, .any, .any, .any, .any, .any, .any, .any, .any, .any, .any, .any, .any, .any, .any, .any], []⟩
  (blockK 0 (seqK (ref_IsName.cd N [1, 1, 1]) ref_IsName.fin))
theorem ref_IsName.l0_zero (N : Nat) (x0 : ByteArray) (a2 : Int) : ref_IsName.l0 N x0 0 a2 = none := by kernel_rfl
theorem ref_IsName.l0_succ (N : Nat) (x0 : ByteArray) (k1 : Nat) (a2 : Int) : ref_IsName.l0 N x0 (k1 + 1) a2 =
    bif decide (a2 < (x0.size : Int)) then
      bif (decide (0 ≤ a2)) && (decide (a2 < (x0.size : Int))) then
        bif !(!(decide (((((ByteArray.data x0).getD (Int.toNat a2) 0).toNat : Nat) : Int) < 65))) || (!(decide (((((ByteArray.data x0).getD (Int.toNat a2) 0).toNat : Nat) : Int) < 65))) then
          bif (decide (((((ByteArray.data x0).getD (Int.toNat a2) 0).toNat : Nat) : Int) < 65)) || (!(decide (((((ByteArray.data x0).getD (Int.toNat a2) 0).toNat : Nat) : Int) < 65))) then
            bif !((decide (((((ByteArray.data x0).getD (Int.toNat a2) 0).toNat : Nat) : Int) < 65)) || (decide (((((ByteArray.data x0).getD (Int.toNat a2) 0).toNat : Nat) : Int) > 90))) || ((decide (((((ByteArray.data x0).getD (Int.toNat a2) 0).toNat : Nat) : Int) < 65)) || (decide (((((ByteArray.data x0).getD (Int.toNat a2) 0).toNat : Nat) : Int) > 90))) then
              bif !((decide (((((ByteArray.data x0).getD (Int.toNat a2) 0).toNat : Nat) : Int) < 65)) || (decide (((((ByteArray.data x0).getD (Int.toNat a2) 0).toNat : Nat) : Int) > 90))) || ((decide (((((ByteArray.data x0).getD (Int.toNat a2) 0).toNat : Nat) : Int) < 65)) || (decide (((((ByteArray.data x0).getD (Int.toNat a2) 0).toNat : Nat) : Int) > 90))) then
                bif !(((decide (((((ByteArray.data x0).getD (Int.toNat a2) 0).toNat : Nat) : Int) < 65)) || (decide (((((ByteArray.data x0).getD (Int.toNat a2) 0).toNat : Nat) : Int) > 90))) && (!(decide (((((ByteArray.data x0).getD (Int.toNat a2) 0).toNat : Nat) : Int) < 48)))) || (((decide (((((ByteArray.data x0).getD (Int.toNat a2) 0).toNat : Nat) : Int) < 65)) || (decide (((((ByteArray.data x0).getD (Int.toNat a2) 0).toNat : Nat) : Int) > 90))) && (!(decide (((((ByteArray.data x0).getD (Int.toNat a2) 0).toNat : Nat) : Int) < 48)))) then
                  bif !((decide (((((ByteArray.data x0).getD (Int.toNat a2) 0).toNat : Nat) : Int) < 65)) || (decide (((((ByteArray.data x0).getD (Int.toNat a2) 0).toNat : Nat) : Int) > 90))) || ((decide (((((ByteArray.data x0).getD (Int.toNat a2) 0).toNat : Nat) : Int) < 65)) || (decide (((((ByteArray.data x0).getD (Int.toNat a2) 0).toNat : Nat) : Int) > 90))) then
                    bif !((decide (((((ByteArray.data x0).getD (Int.toNat a2) 0).toNat : Nat) : Int) < 65)) || (decide (((((ByteArray.data x0).getD (Int.toNat a2) 0).toNat : Nat) : Int) > 90))) || ((decide (((((ByteArray.data x0).getD (Int.toNat a2) 0).toNat : Nat) : Int) < 48)) || (((decide (((((ByteArray.data x0).getD (Int.toNat a2) 0).toNat : Nat) : Int) < 65)) || (decide (((((ByteArray.data x0).getD (Int.toNat a2) 0).toNat : Nat) : Int) > 90))) && (!(decide (((((ByteArray.data x0).getD (Int.toNat a2) 0).toNat : Nat) : Int) < 48))))) then
                      bif (!((decide (((((ByteArray.data x0).getD (Int.toNat a2) 0).toNat : Nat) : Int) < 65)) || (decide (((((ByteArray.data x0).getD (Int.toNat a2) 0).toNat : Nat) : Int) > 90)))) || ((decide (((((ByteArray.data x0).getD (Int.toNat a2) 0).toNat : Nat) : Int) < 65)) || (decide (((((ByteArray.data x0).getD (Int.toNat a2) 0).toNat : Nat) : Int) > 90))) then
                        bif ((decide (((((ByteArray.data x0).getD (Int.toNat a2) 0).toNat : Nat) : Int) < 65)) || (decide (((((ByteArray.data x0).getD (Int.toNat a2) 0).toNat : Nat) : Int) > 90))) && ((decide (((((ByteArray.data x0).getD (Int.toNat a2) 0).toNat : Nat) : Int) < 48)) || (decide (((((ByteArray.data x0).getD (Int.toNat a2) 0).toNat : Nat) : Int) > 57))) then
                          some false
                        else
                          ref_IsName.l0 N x0 k1 (w (a2 + 1))
                      else
                        none
                    else
                      none
                  else
                    none
                else
                  none
              else
                none
            else
              none
          else
            none
        else
          none
      else
        none
    else
      some true := by kernel_rfl
theorem ref_IsName.l0_clean (N : Nat) (x0 : ByteArray) (k1 : Nat) (a2 : Int) : ref_IsName.l0 N x0 (k1 + 1) a2 =
    bif decide (a2 < (x0.size : Int)) then
      bif (decide (0 ≤ a2)) && (decide (a2 < (x0.size : Int))) then
        bif ((decide (((((ByteArray.data x0).getD (Int.toNat a2) 0).toNat : Nat) : Int) < 65)) || (decide (((((ByteArray.data x0).getD (Int.toNat a2) 0).toNat : Nat) : Int) > 90))) && ((decide (((((ByteArray.data x0).getD (Int.toNat a2) 0).toNat : Nat) : Int) < 48)) || (decide (((((ByteArray.data x0).getD (Int.toNat a2) 0).toNat : Nat) : Int) > 57))) then
          some false
        else
          ref_IsName.l0 N x0 k1 (w (a2 + 1))
      else
        none
    else
      some true := by
  rw [ref_IsName.l0_succ]; simp only [taut1, taut2, taut3, taut4, taut5, taut6, cond_true]
theorem ref_IsName.l0_cons (N : Nat) (x0 : ByteArray) (k1 : Nat) {pre r} {x} (hl : x0.data.toList = pre ++ x :: r) (hb : x0.size < 4611686018427387904) : ref_IsName.l0 N x0 (k1 + 1) (pre.length : Int) =
    bif ((decide (((x.toNat : Nat) : Int) < 65)) || (decide (((x.toNat : Nat) : Int) > 90))) && ((decide (((x.toNat : Nat) : Int) < 48)) || (decide (((x.toNat : Nat) : Int) > 57))) then
      some false
    else
      ref_IsName.l0 N x0 k1 ((pre.length : Int) + 1) := by
  have hlen : x0.size = pre.length + 1 + r.length := by rw [ByteArray.size, ← Array.length_toList, hl]; simp; omega
  have e1 : decide ((pre.length : Int) < (x0.size : Int)) = true := by rw [decide_eq_true_iff]; omega
  have e2 : decide (0 ≤ (pre.length : Int)) = true := by rw [decide_eq_true_iff]; omega
  have e4 : w ((pre.length : Int) + 1) = (pre.length : Int) + 1 := w_next hl (by rw [Array.length_toList]; exact hb)
  have e6 : decide ((pre.length : Int) ≤ (x0.size : Int)) = true := by rw [decide_eq_true_iff]; omega
  have g0 : (ByteArray.data x0).getD pre.length 0 = x := getD_bytes hl
  rw [ref_IsName.l0_clean]
  simp -implicitDefEqProofs only [Int.toNat_natCast, e1, e2, e4, e6, g0, Bool.and_true, Bool.true_and, Bool.true_or, cond_true]
theorem ref_IsName.l0_nil (N : Nat) (x0 : ByteArray) (k1 : Nat) : ref_IsName.l0 N x0 (k1 + 1) (x0.size : Int) =
    some true := by
  have e1 : decide ((x0.size : Int) < (x0.size : Int)) = false := by rw [decide_eq_false_iff_not]; omega
  rw [ref_IsName.l0_clean]
  simp -implicitDefEqProofs only [e1, cond_false]
theorem ref_IsName.eq (N : Nat) (x0 : ByteArray) : ref_IsName.fn N x0 =
    bif !(!(seq x0 (⟨#[]⟩ : ByteArray))) || (!(seq x0 (⟨#[]⟩ : ByteArray))) then
      bif !(!(seq x0 (⟨#[]⟩ : ByteArray))) || (!(seq x0 (⟨#[]⟩ : ByteArray))) then
        bif (seq x0 (⟨#[]⟩ : ByteArray)) || (!(seq x0 (⟨#[]⟩ : ByteArray))) then
          bif !(!((seq x0 (⟨#[]⟩ : ByteArray)) || (decide ((x0.size : Int) > 8)))) || (!((seq x0 (⟨#[]⟩ : ByteArray)) || (decide ((x0.size : Int) > 8)))) then
            bif (decide (0 < (x0.size : Int))) || !(!((seq x0 (⟨#[]⟩ : ByteArray)) || (decide ((x0.size : Int) > 8)))) then
              bif !(!((seq x0 (⟨#[]⟩ : ByteArray)) || (decide ((x0.size : Int) > 8)))) || (!((seq x0 (⟨#[]⟩ : ByteArray)) || (decide ((x0.size : Int) > 8)))) then
                bif !(!((seq x0 (⟨#[]⟩ : ByteArray)) || (decide ((x0.size : Int) > 8)))) || (!((seq x0 (⟨#[]⟩ : ByteArray)) || (decide ((x0.size : Int) > 8)))) then
                  bif !((!((seq x0 (⟨#[]⟩ : ByteArray)) || (decide ((x0.size : Int) > 8)))) && (decide (((((ByteArray.data x0).getD 0 0).toNat : Nat) : Int) ≥ 48))) || ((!((seq x0 (⟨#[]⟩ : ByteArray)) || (decide ((x0.size : Int) > 8)))) && (decide (((((ByteArray.data x0).getD 0 0).toNat : Nat) : Int) ≥ 48))) then
                    bif (decide (0 < (x0.size : Int))) || !((!((seq x0 (⟨#[]⟩ : ByteArray)) || (decide ((x0.size : Int) > 8)))) && (decide (((((ByteArray.data x0).getD 0 0).toNat : Nat) : Int) ≥ 48))) then
                      bif !((!((seq x0 (⟨#[]⟩ : ByteArray)) || (decide ((x0.size : Int) > 8)))) && (decide (((((ByteArray.data x0).getD 0 0).toNat : Nat) : Int) ≥ 48))) || ((!((seq x0 (⟨#[]⟩ : ByteArray)) || (decide ((x0.size : Int) > 8)))) && (decide (((((ByteArray.data x0).getD 0 0).toNat : Nat) : Int) ≥ 48))) then
                        bif !(!((seq x0 (⟨#[]⟩ : ByteArray)) || (decide ((x0.size : Int) > 8)))) || (!((seq x0 (⟨#[]⟩ : ByteArray)) || (decide ((x0.size : Int) > 8)))) then
                          bif !(!((seq x0 (⟨#[]⟩ : ByteArray)) || (decide ((x0.size : Int) > 8)))) || ((!(decide (((((ByteArray.data x0).getD 0 0).toNat : Nat) : Int) ≥ 48))) || ((!((seq x0 (⟨#[]⟩ : ByteArray)) || (decide ((x0.size : Int) > 8)))) && (decide (((((ByteArray.data x0).getD 0 0).toNat : Nat) : Int) ≥ 48)))) then
                            bif ((seq x0 (⟨#[]⟩ : ByteArray)) || (decide ((x0.size : Int) > 8))) || (!((seq x0 (⟨#[]⟩ : ByteArray)) || (decide ((x0.size : Int) > 8)))) then
                              bif ((seq x0 (⟨#[]⟩ : ByteArray)) || (decide ((x0.size : Int) > 8))) || ((decide (((((ByteArray.data x0).getD 0 0).toNat : Nat) : Int) ≥ 48)) && (decide (((((ByteArray.data x0).getD 0 0).toNat : Nat) : Int) ≤ 57))) then
                                some false
                              else
                                ref_IsName.l0 N x0 N 0
                            else
                              none
                          else
                            none
                        else
                          none
                      else
                        none
                    else
                      none
                  else
                    none
                else
                  none
              else
                none
            else
              none
          else
            none
        else
          none
      else
        none
    else
      none := by kernel_rfl
theorem ref_IsName.clean (N : Nat) (x0 : ByteArray) : ref_IsName.fn N x0 =
    bif (decide (0 < (x0.size : Int))) || !(!((seq x0 (⟨#[]⟩ : ByteArray)) || (decide ((x0.size : Int) > 8)))) then
      bif (decide (0 < (x0.size : Int))) || !((!((seq x0 (⟨#[]⟩ : ByteArray)) || (decide ((x0.size : Int) > 8)))) && (decide (((((ByteArray.data x0).getD 0 0).toNat : Nat) : Int) ≥ 48))) then
        bif ((seq x0 (⟨#[]⟩ : ByteArray)) || (decide ((x0.size : Int) > 8))) || ((decide (((((ByteArray.data x0).getD 0 0).toNat : Nat) : Int) ≥ 48)) && (decide (((((ByteArray.data x0).getD 0 0).toNat : Nat) : Int) ≤ 57))) then
          some false
        else
          ref_IsName.l0 N x0 N 0
      else
        none
    else
      none := by
  rw [ref_IsName.eq]; simp only [taut8, taut17, taut1, taut18, taut10, taut6, cond_true]

/-! ### ref_free: skyway/skywayref3.free -/
def ref_free.kp : List (Nat × List (Nat × Option (TypeId × Ty))) := [(2, [(0, none), (4, none)])]
noncomputable def ref_free.G (N : Nat) : List (Nat × Spec) := [(44, .pure (ref_word.S N)), (45, .pure (ref_IsName.S N))]
noncomputable def ref_free.E (N : Nat) : Env := mkEnv (ref_free.G N) N tyTab ref_free.kp
noncomputable def ref_free.fn (N : Nat) (x : ByteArray) : Option Bool := evFn (ref_free.E N) Tryd.prog 3 Tryd.f32 false [.cell (.str)] [.val (.cell (.bool))] x
noncomputable def ref_free.S (N : Nat) : PSpec := ⟨false, [.cell (.str)], [.val (.cell (.bool))], ref_free.fn N⟩
theorem f32_enters : Enters Tryd.prog 32 := ⟨Tryd.f32, Tryd.func32, by kernel_rfl, by kernel_rfl⟩
theorem ref_free.tab (N : Nat) : TabOk Tryd.prog (ref_free.G N) := ⟨⟨ref_word.enters, ref_word.sound N⟩, ⟨ref_IsName.enters, ref_IsName.sound N⟩, trivial⟩
theorem ref_free.enters : Enters Tryd.prog 32 := f32_enters
theorem ref_free.sound (N : Nat) : Sound Tryd.prog 32 (ref_free.S N) := evFn_sound (specs_tab (ref_free.tab N)) (inls_tab (ref_free.tab N)) mixed 3 Tryd.func32 _ _ _
noncomputable def ref_free.cd (N : Nat) (p : List Nat) : St → (Ex → St → Option Bool) → Option Bool := ev (ref_free.E N) Tryd.prog (callD (ref_free.E N) Tryd.prog 3) 0 (codeAt (bodyOf Tryd.f32) p)
noncomputable def ref_free.fin : Ex → St → Option Bool := endK Tryd.prog Tryd.f32 [.val (.cell (.bool))]
noncomputable def ref_free.l0 (N : Nat) (x0 : ByteArray) (k1 : Nat) (a2 : Int) : Option Bool :=
  loopN (norm ((ref_free.E N).keep 2) 0) (ref_free.cd N [1, 0, 1, 0, 0]) k1
  ⟨[.sc (.string x0), .any, .any, .any, .sc (.int .i64 a2), .any, .any, .any, .any, .any, .any, .any, .any, .any], []⟩
  (blockK 0 (seqK (ref_free.cd N [1, 1]) ref_free.fin))
theorem ref_free.l0_zero (N : Nat) (x0 : ByteArray) (a2 : Int) : ref_free.l0 N x0 0 a2 = none := by kernel_rfl
theorem ref_free.l0_succ (N : Nat) (x0 : ByteArray) (k1 : Nat) (a2 : Int) : ref_free.l0 N x0 (k1 + 1) a2 =
    bif decide (a2 < 7) then
      (ref_word.fn N a2).bind fun r3 =>
      bif seq r3 x0 then
        some false
      else
        ref_free.l0 N x0 k1 (w (a2 + 1))
    else
      (ref_IsName.fn N x0).bind fun r4 =>
      some r4 := by kernel_rfl
theorem ref_free.eq (N : Nat) (x0 : ByteArray) : ref_free.fn N x0 =
    ref_free.l0 N x0 N 0 := by kernel_rfl

/-! ### ref_ClearError: skyway/skywayref3.ClearError -/
def ref_ClearError.kp : List (Nat × List (Nat × Option (TypeId × Ty))) := []
noncomputable def ref_ClearError.G (N : Nat) : List (Nat × Spec) := [(32, .pure (ref_free.S N))]
noncomputable def ref_ClearError.E (N : Nat) : Env := mkEnv (ref_ClearError.G N) N tyTab ref_ClearError.kp
noncomputable def ref_ClearError.fn (N : Nat) (x : ByteArray × Int × Int × ByteArray) : Option Int := evFn (ref_ClearError.E N) Tryd.prog 3 Tryd.f11 false [.agg (.pair (.str) (.pair (.int .i64) (.pair (.int .i64) (.str))))] [.val (.cell (.int .i64))] x
noncomputable def ref_ClearError.S (N : Nat) : PSpec := ⟨false, [.agg (.pair (.str) (.pair (.int .i64) (.pair (.int .i64) (.str))))], [.val (.cell (.int .i64))], ref_ClearError.fn N⟩
theorem f11_enters : Enters Tryd.prog 11 := ⟨Tryd.f11, Tryd.func11, by kernel_rfl, by kernel_rfl⟩
theorem ref_ClearError.tab (N : Nat) : TabOk Tryd.prog (ref_ClearError.G N) := ⟨⟨ref_free.enters, ref_free.sound N⟩, trivial⟩
theorem ref_ClearError.enters : Enters Tryd.prog 11 := f11_enters
theorem ref_ClearError.sound (N : Nat) : Sound Tryd.prog 11 (ref_ClearError.S N) := evFn_sound (specs_tab (ref_ClearError.tab N)) (inls_tab (ref_ClearError.tab N)) mixed 3 Tryd.func11 _ _ _
theorem ref_ClearError.eq (N : Nat) (x0 : ByteArray × Int × Int × ByteArray) : ref_ClearError.fn N x0 =
    (ref_free.fn N x0.1).bind fun r1 =>
    bif !r1 then
      some 3
    else
    bif !(!(decide (x0.2.1 < 0))) || (!(decide (x0.2.1 < 0))) then
      bif !(!(decide (x0.2.1 < 0))) || (!(decide (x0.2.1 < 0))) then
        bif (decide (x0.2.1 < 0)) || (!(decide (x0.2.1 < 0))) then
          bif (decide (x0.2.1 < 0)) || (decide (x0.2.1 > 6)) then
            some 1
          else
          bif (decide (0 ≤ x0.2.1)) && (decide (x0.2.1 < 7)) then
            bif decide ((Int.toNat x0.2.1) < 7) then
              bif !(decide ((List.getD [60000, 4095, 400, (-1), (-1), (-1), (-1)] (Int.toNat x0.2.1) 0) < 0)) || (decide ((List.getD [60000, 4095, 400, (-1), (-1), (-1), (-1)] (Int.toNat x0.2.1) 0) < 0)) then
                bif !(decide ((List.getD [60000, 4095, 400, (-1), (-1), (-1), (-1)] (Int.toNat x0.2.1) 0) < 0)) || (decide ((List.getD [60000, 4095, 400, (-1), (-1), (-1), (-1)] (Int.toNat x0.2.1) 0) < 0)) then
                  bif !(decide ((List.getD [60000, 4095, 400, (-1), (-1), (-1), (-1)] (Int.toNat x0.2.1) 0) < 0)) || (decide ((List.getD [60000, 4095, 400, (-1), (-1), (-1), (-1)] (Int.toNat x0.2.1) 0) < 0)) then
                    bif !((decide ((List.getD [60000, 4095, 400, (-1), (-1), (-1), (-1)] (Int.toNat x0.2.1) 0) < 0)) && (!(!(x0.2.2.1 == 0)))) || ((decide ((List.getD [60000, 4095, 400, (-1), (-1), (-1), (-1)] (Int.toNat x0.2.1) 0) < 0)) && (!(!(x0.2.2.1 == 0)))) then
                      bif !((decide ((List.getD [60000, 4095, 400, (-1), (-1), (-1), (-1)] (Int.toNat x0.2.1) 0) < 0)) && (!(!(x0.2.2.1 == 0)))) || ((decide ((List.getD [60000, 4095, 400, (-1), (-1), (-1), (-1)] (Int.toNat x0.2.1) 0) < 0)) && (!(!(x0.2.2.1 == 0)))) then
                        (bif ((decide ((List.getD [60000, 4095, 400, (-1), (-1), (-1), (-1)] (Int.toNat x0.2.1) 0) < 0)) && (!(!(x0.2.2.1 == 0)))) then ref_free.fn N x0.2.2.2 else some (false)).bind fun r2 =>
                        bif !((decide ((List.getD [60000, 4095, 400, (-1), (-1), (-1), (-1)] (Int.toNat x0.2.1) 0) < 0)) && (!(!(x0.2.2.1 == 0)))) || ((decide ((List.getD [60000, 4095, 400, (-1), (-1), (-1), (-1)] (Int.toNat x0.2.1) 0) < 0)) && (!(!(x0.2.2.1 == 0)))) then
                          bif !(decide ((List.getD [60000, 4095, 400, (-1), (-1), (-1), (-1)] (Int.toNat x0.2.1) 0) < 0)) || (decide ((List.getD [60000, 4095, 400, (-1), (-1), (-1), (-1)] (Int.toNat x0.2.1) 0) < 0)) then
                            bif !(decide ((List.getD [60000, 4095, 400, (-1), (-1), (-1), (-1)] (Int.toNat x0.2.1) 0) < 0)) || ((!(x0.2.2.1 == 0)) || ((decide ((List.getD [60000, 4095, 400, (-1), (-1), (-1), (-1)] (Int.toNat x0.2.1) 0) < 0)) && (!(!(x0.2.2.1 == 0))))) then
                              bif (!(decide ((List.getD [60000, 4095, 400, (-1), (-1), (-1), (-1)] (Int.toNat x0.2.1) 0) < 0))) || (decide ((List.getD [60000, 4095, 400, (-1), (-1), (-1), (-1)] (Int.toNat x0.2.1) 0) < 0)) then
                                bif !(!((decide ((List.getD [60000, 4095, 400, (-1), (-1), (-1), (-1)] (Int.toNat x0.2.1) 0) < 0)) && ((!(x0.2.2.1 == 0)) || (!r2)))) || (!((decide ((List.getD [60000, 4095, 400, (-1), (-1), (-1), (-1)] (Int.toNat x0.2.1) 0) < 0)) && ((!(x0.2.2.1 == 0)) || (!r2)))) then
                                  bif !(!((decide ((List.getD [60000, 4095, 400, (-1), (-1), (-1), (-1)] (Int.toNat x0.2.1) 0) < 0)) && ((!(x0.2.2.1 == 0)) || (!r2)))) || (!((decide ((List.getD [60000, 4095, 400, (-1), (-1), (-1), (-1)] (Int.toNat x0.2.1) 0) < 0)) && ((!(x0.2.2.1 == 0)) || (!r2)))) then
                                    bif !((!((decide ((List.getD [60000, 4095, 400, (-1), (-1), (-1), (-1)] (Int.toNat x0.2.1) 0) < 0)) && ((!(x0.2.2.1 == 0)) || (!r2)))) && (decide ((List.getD [60000, 4095, 400, (-1), (-1), (-1), (-1)] (Int.toNat x0.2.1) 0) ≥ 0))) || ((!((decide ((List.getD [60000, 4095, 400, (-1), (-1), (-1), (-1)] (Int.toNat x0.2.1) 0) < 0)) && ((!(x0.2.2.1 == 0)) || (!r2)))) && (decide ((List.getD [60000, 4095, 400, (-1), (-1), (-1), (-1)] (Int.toNat x0.2.1) 0) ≥ 0))) then
                                      bif !((!((decide ((List.getD [60000, 4095, 400, (-1), (-1), (-1), (-1)] (Int.toNat x0.2.1) 0) < 0)) && ((!(x0.2.2.1 == 0)) || (!r2)))) && (decide ((List.getD [60000, 4095, 400, (-1), (-1), (-1), (-1)] (Int.toNat x0.2.1) 0) ≥ 0))) || ((!((decide ((List.getD [60000, 4095, 400, (-1), (-1), (-1), (-1)] (Int.toNat x0.2.1) 0) < 0)) && ((!(x0.2.2.1 == 0)) || (!r2)))) && (decide ((List.getD [60000, 4095, 400, (-1), (-1), (-1), (-1)] (Int.toNat x0.2.1) 0) ≥ 0))) then
                                        bif !(!((decide ((List.getD [60000, 4095, 400, (-1), (-1), (-1), (-1)] (Int.toNat x0.2.1) 0) < 0)) && ((!(x0.2.2.1 == 0)) || (!r2)))) || (!((decide ((List.getD [60000, 4095, 400, (-1), (-1), (-1), (-1)] (Int.toNat x0.2.1) 0) < 0)) && ((!(x0.2.2.1 == 0)) || (!r2)))) then
                                          bif !(!((decide ((List.getD [60000, 4095, 400, (-1), (-1), (-1), (-1)] (Int.toNat x0.2.1) 0) < 0)) && ((!(x0.2.2.1 == 0)) || (!r2)))) || ((!(decide ((List.getD [60000, 4095, 400, (-1), (-1), (-1), (-1)] (Int.toNat x0.2.1) 0) ≥ 0))) || ((!((decide ((List.getD [60000, 4095, 400, (-1), (-1), (-1), (-1)] (Int.toNat x0.2.1) 0) < 0)) && ((!(x0.2.2.1 == 0)) || (!r2)))) && (decide ((List.getD [60000, 4095, 400, (-1), (-1), (-1), (-1)] (Int.toNat x0.2.1) 0) ≥ 0)))) then
                                            bif ((decide ((List.getD [60000, 4095, 400, (-1), (-1), (-1), (-1)] (Int.toNat x0.2.1) 0) < 0)) && ((!(x0.2.2.1 == 0)) || (!r2))) || (!((decide ((List.getD [60000, 4095, 400, (-1), (-1), (-1), (-1)] (Int.toNat x0.2.1) 0) < 0)) && ((!(x0.2.2.1 == 0)) || (!r2)))) then
                                              bif ((decide ((List.getD [60000, 4095, 400, (-1), (-1), (-1), (-1)] (Int.toNat x0.2.1) 0) < 0)) && ((!(x0.2.2.1 == 0)) || (!r2))) || ((decide ((List.getD [60000, 4095, 400, (-1), (-1), (-1), (-1)] (Int.toNat x0.2.1) 0) ≥ 0)) && (!(seq x0.2.2.2 (⟨#[]⟩ : ByteArray)))) then
                                                some 3
                                              else
                                              bif !(decide ((List.getD [60000, 4095, 400, (-1), (-1), (-1), (-1)] (Int.toNat x0.2.1) 0) ≥ 0)) || (decide ((List.getD [60000, 4095, 400, (-1), (-1), (-1), (-1)] (Int.toNat x0.2.1) 0) ≥ 0)) then
                                                bif !(decide ((List.getD [60000, 4095, 400, (-1), (-1), (-1), (-1)] (Int.toNat x0.2.1) 0) ≥ 0)) || (decide ((List.getD [60000, 4095, 400, (-1), (-1), (-1), (-1)] (Int.toNat x0.2.1) 0) ≥ 0)) then
                                                  bif !(decide ((List.getD [60000, 4095, 400, (-1), (-1), (-1), (-1)] (Int.toNat x0.2.1) 0) ≥ 0)) || (decide ((List.getD [60000, 4095, 400, (-1), (-1), (-1), (-1)] (Int.toNat x0.2.1) 0) ≥ 0)) then
                                                    bif !((decide ((List.getD [60000, 4095, 400, (-1), (-1), (-1), (-1)] (Int.toNat x0.2.1) 0) ≥ 0)) && (!(decide (x0.2.2.1 < 0)))) || ((decide ((List.getD [60000, 4095, 400, (-1), (-1), (-1), (-1)] (Int.toNat x0.2.1) 0) ≥ 0)) && (!(decide (x0.2.2.1 < 0)))) then
                                                      bif !((decide ((List.getD [60000, 4095, 400, (-1), (-1), (-1), (-1)] (Int.toNat x0.2.1) 0) ≥ 0)) && (!(decide (x0.2.2.1 < 0)))) || ((decide ((List.getD [60000, 4095, 400, (-1), (-1), (-1), (-1)] (Int.toNat x0.2.1) 0) ≥ 0)) && (!(decide (x0.2.2.1 < 0)))) then
                                                        bif !((decide ((List.getD [60000, 4095, 400, (-1), (-1), (-1), (-1)] (Int.toNat x0.2.1) 0) ≥ 0)) && (!(decide (x0.2.2.1 < 0)))) || ((decide ((List.getD [60000, 4095, 400, (-1), (-1), (-1), (-1)] (Int.toNat x0.2.1) 0) ≥ 0)) && (!(decide (x0.2.2.1 < 0)))) then
                                                          bif !(decide ((List.getD [60000, 4095, 400, (-1), (-1), (-1), (-1)] (Int.toNat x0.2.1) 0) ≥ 0)) || (decide ((List.getD [60000, 4095, 400, (-1), (-1), (-1), (-1)] (Int.toNat x0.2.1) 0) ≥ 0)) then
                                                            bif !(decide ((List.getD [60000, 4095, 400, (-1), (-1), (-1), (-1)] (Int.toNat x0.2.1) 0) ≥ 0)) || ((decide (x0.2.2.1 < 0)) || ((decide ((List.getD [60000, 4095, 400, (-1), (-1), (-1), (-1)] (Int.toNat x0.2.1) 0) ≥ 0)) && (!(decide (x0.2.2.1 < 0))))) then
                                                              bif (!(decide ((List.getD [60000, 4095, 400, (-1), (-1), (-1), (-1)] (Int.toNat x0.2.1) 0) ≥ 0))) || (decide ((List.getD [60000, 4095, 400, (-1), (-1), (-1), (-1)] (Int.toNat x0.2.1) 0) ≥ 0)) then
                                                                bif (decide ((List.getD [60000, 4095, 400, (-1), (-1), (-1), (-1)] (Int.toNat x0.2.1) 0) ≥ 0)) && ((decide (x0.2.2.1 < 0)) || (decide (x0.2.2.1 > (List.getD [60000, 4095, 400, (-1), (-1), (-1), (-1)] (Int.toNat x0.2.1) 0)))) then
                                                                  some 4
                                                                else
                                                                  some 0
                                                              else
                                                                none
                                                            else
                                                              none
                                                          else
                                                            none
                                                        else
                                                          none
                                                      else
                                                        none
                                                    else
                                                      none
                                                  else
                                                    none
                                                else
                                                  none
                                              else
                                                none
                                            else
                                              none
                                          else
                                            none
                                        else
                                          none
                                      else
                                        none
                                    else
                                      none
                                  else
                                    none
                                else
                                  none
                              else
                                none
                            else
                              none
                          else
                            none
                        else
                          none
                      else
                        none
                    else
                      none
                  else
                    none
                else
                  none
              else
                none
            else
              none
          else
            none
        else
          none
      else
        none
    else
      none := by kernel_rfl
theorem taut19 : ∀ p0 p1 p2 : Bool, ((!(!((p0) && ((!(p1)) || (!p2)))) || (!((p0) && ((!(p1)) || (!p2)))))) = true := by decide
theorem taut20 : ∀ p0 p1 p2 p3 : Bool, ((!(!((p0) && ((!(p1)) || (!p2)))) || ((!(p3)) || ((!((p0) && ((!(p1)) || (!p2)))) && (p3))))) = true := by decide
theorem taut21 : ∀ p0 p1 p2 p3 : Bool, ((!((!((p0) && ((!(p1)) || (!p2)))) && (p3)) || ((!((p0) && ((!(p1)) || (!p2)))) && (p3)))) = true := by decide
theorem taut22 : ∀ p0 p1 : Bool, ((!((p0) && (!(!(p1)))) || ((p0) && (!(!(p1)))))) = true := by decide
theorem taut23 : ∀ p0 p1 : Bool, ((!((p0) && (!(p1))) || ((p0) && (!(p1))))) = true := by decide
theorem taut24 : ∀ p0 p1 : Bool, ((!(p0) || ((!(p1)) || ((p0) && (!(!(p1))))))) = true := by decide
theorem taut25 : ∀ p0 p1 : Bool, ((!(p0) || ((p1) || ((p0) && (!(p1)))))) = true := by decide
theorem taut26 : ∀ p0 p1 p2 : Bool, ((((p0) && ((!(p1)) || (!p2))) || (!((p0) && ((!(p1)) || (!p2)))))) = true := by decide
theorem ref_ClearError.clean (N : Nat) (x0 : ByteArray × Int × Int × ByteArray) : ref_ClearError.fn N x0 =
    (ref_free.fn N x0.1).bind fun r1 =>
    bif !r1 then
      some 3
    else
    bif (decide (x0.2.1 < 0)) || (decide (x0.2.1 > 6)) then
      some 1
    else
    bif (decide (0 ≤ x0.2.1)) && (decide (x0.2.1 < 7)) then
      bif decide ((Int.toNat x0.2.1) < 7) then
        (bif ((decide ((List.getD [60000, 4095, 400, (-1), (-1), (-1), (-1)] (Int.toNat x0.2.1) 0) < 0)) && (!(!(x0.2.2.1 == 0)))) then ref_free.fn N x0.2.2.2 else some (false)).bind fun r2 =>
        bif ((decide ((List.getD [60000, 4095, 400, (-1), (-1), (-1), (-1)] (Int.toNat x0.2.1) 0) < 0)) && ((!(x0.2.2.1 == 0)) || (!r2))) || ((decide ((List.getD [60000, 4095, 400, (-1), (-1), (-1), (-1)] (Int.toNat x0.2.1) 0) ≥ 0)) && (!(seq x0.2.2.2 (⟨#[]⟩ : ByteArray)))) then
          some 3
        else
        bif (decide ((List.getD [60000, 4095, 400, (-1), (-1), (-1), (-1)] (Int.toNat x0.2.1) 0) ≥ 0)) && ((decide (x0.2.2.1 < 0)) || (decide (x0.2.2.1 > (List.getD [60000, 4095, 400, (-1), (-1), (-1), (-1)] (Int.toNat x0.2.1) 0)))) then
          some 4
        else
          some 0
      else
        none
    else
      none := by
  rw [ref_ClearError.eq]; simp only [taut19, taut20, taut1, taut21, taut22, taut23, taut24, taut25, taut15, taut16, taut26, taut6, cond_true]

/-! ### law_ReadbackDiffers: skyway/skywaylaw3.ReadbackDiffers -/
def law_ReadbackDiffers.kp : List (Nat × List (Nat × Option (TypeId × Ty))) := [(11, [(5, none), (6, none), (8, none), (54, none), (55, none), (56, none)]), (1000007, [(2, none), (3, none), (5, none), (6, none), (7, none)])]
noncomputable def law_ReadbackDiffers.G (N : Nat) : List (Nat × Spec) := [(9, .pure (law_readbackFact.S N)), (10, .pure (readback_Compare.S N)), (11, .pure (ref_ClearError.S N))]
noncomputable def law_ReadbackDiffers.E (N : Nat) : Env := mkEnv (law_ReadbackDiffers.G N) N tyTab law_ReadbackDiffers.kp
noncomputable def law_ReadbackDiffers.fn (N : Nat) (x : (ByteArray × Int × Int × ByteArray) × ByteArray × Int × Int × ByteArray) : Option Bool := evFn (law_ReadbackDiffers.E N) Tryd.prog 3 Tryd.f3 false [.agg (.pair (.str) (.pair (.int .i64) (.pair (.int .i64) (.str)))), .agg (.pair (.str) (.pair (.int .i64) (.pair (.int .i64) (.str))))] [.val (.cell (.bool))] x
noncomputable def law_ReadbackDiffers.S (N : Nat) : PSpec := ⟨false, [.agg (.pair (.str) (.pair (.int .i64) (.pair (.int .i64) (.str)))), .agg (.pair (.str) (.pair (.int .i64) (.pair (.int .i64) (.str))))], [.val (.cell (.bool))], law_ReadbackDiffers.fn N⟩
theorem f3_enters : Enters Tryd.prog 3 := ⟨Tryd.f3, Tryd.func3, by kernel_rfl, by kernel_rfl⟩
theorem law_ReadbackDiffers.tab (N : Nat) : TabOk Tryd.prog (law_ReadbackDiffers.G N) := ⟨⟨law_readbackFact.enters, law_readbackFact.sound N⟩, ⟨readback_Compare.enters, readback_Compare.sound N⟩, ⟨ref_ClearError.enters, ref_ClearError.sound N⟩, trivial⟩
theorem law_ReadbackDiffers.enters : Enters Tryd.prog 3 := f3_enters
theorem law_ReadbackDiffers.sound (N : Nat) : Sound Tryd.prog 3 (law_ReadbackDiffers.S N) := evFn_sound (specs_tab (law_ReadbackDiffers.tab N)) (inls_tab (law_ReadbackDiffers.tab N)) mixed 3 Tryd.func3 _ _ _
noncomputable def law_ReadbackDiffers.cd (N : Nat) (p : List Nat) : St → (Ex → St → Option Bool) → Option Bool := ev (law_ReadbackDiffers.E N) Tryd.prog (callD (law_ReadbackDiffers.E N) Tryd.prog 3) 0 (codeAt (bodyOf Tryd.f3) p)
noncomputable def law_ReadbackDiffers.fin : Ex → St → Option Bool := endK Tryd.prog Tryd.f3 [.val (.cell (.bool))]
noncomputable def law_ReadbackDiffers.j0 (N : Nat) (x0 : ByteArray × Int × Int × ByteArray) (x1 : ByteArray × Int × Int × ByteArray) (r2 : Int × Int) (a4 : Int) : Option Bool :=
  fuelK N (region (law_ReadbackDiffers.E N) Tryd.prog (callD (law_ReadbackDiffers.E N) Tryd.prog 3) (opsAt (codeAt (bodyOf Tryd.f3) [1, 1, 1, 1, 1, 0, 0])) false
  ⟨[.any, .any, .ptr 0 0, .ptr 1 0, .any, .sc (.int .i64 r2.1), .sc (.int .i64 r2.2), .sc (.int .i64 a4), .any, .any, .any, .any, .any, .any, .any, .any, .any, .any, .any, .any, .any, .any, .any, .any, .any, .any, .any, .any, .any, .any, .any, .any, .any, .any, .any, .any, .any, .any, .any, .any, .any, .any, .any, .any, .any, .any, .any, .any, .any, .any, .any, .any, .any, .any, .any, .any, .any, .any, .any, .any, .any, .any, .any, .any, .any, .any, .any, .any, .any, .any, .any, .any, .any, .any], [.cells [.sc (.string x0.1), .sc (.int .i64 x0.2.1), .sc (.int .i64 x0.2.2.1), .sc (.string x0.2.2.2)] 23, .cells [.sc (.string x1.1), .sc (.int .i64 x1.2.1), .sc (.int .i64 x1.2.2.1), .sc (.string x1.2.2.2)] 23]⟩
  (fun S => (seqK (law_ReadbackDiffers.cd N [1, 1, 1, 1, 1, 0, 1]) (seqK (law_ReadbackDiffers.cd N [1, 1, 1, 1, 1, 1]) law_ReadbackDiffers.fin)) .normal S))
noncomputable def law_ReadbackDiffers.l1 (N : Nat) (x0 : ByteArray × Int × Int × ByteArray) (x1 : ByteArray × Int × Int × ByteArray) (r2 : Int × Int) (k5 : Nat) (a6 : Int) (a7 : Int) : Option Bool :=
  loopN (norm ((law_ReadbackDiffers.E N).keep 11) 0) (law_ReadbackDiffers.cd N [1, 1, 1, 1, 1, 1, 1, 0, 1, 0, 0]) k5
  ⟨[.any, .any, .any, .any, .any, .sc (.int .i64 r2.1), .sc (.int .i64 r2.2), .any, .sc (.int .i64 a6), .any, .any, .any, .any, .any, .any, .any, .any, .any, .any, .any, .any, .any, .any, .any, .any, .any, .any, .any, .any, .any, .any, .any, .any, .any, .any, .any, .any, .any, .any, .any, .any, .any, .any, .any, .any, .any, .any, .any, .any, .any, .any, .any, .any, .any, .own 0, .sc (.int .i64 4), .sc (.int .i64 a7), .any, .any, .any, .any, .any, .any, .any, .any, .any, .any, .any, .any, .any, .any, .any, .any, .any], [.rows true 4 (.bool) [(!(seq x0.1 x1.1)), (!(x0.2.1 == x1.2.1)), (!(x0.2.2.1 == x1.2.2.1)), (!(seq x0.2.2.2 x1.2.2.2))]]⟩
  (blockK 0 (seqK (law_ReadbackDiffers.cd N [1, 1, 1, 1, 1, 1, 1, 1]) law_ReadbackDiffers.fin))
theorem law_ReadbackDiffers.l1_zero (N : Nat) (x0 : ByteArray × Int × Int × ByteArray) (x1 : ByteArray × Int × Int × ByteArray) (r2 : Int × Int) (a6 : Int) (a7 : Int) : law_ReadbackDiffers.l1 N x0 x1 r2 0 a6 a7 = none := by kernel_rfl
theorem law_ReadbackDiffers.l1_succ (N : Nat) (x0 : ByteArray × Int × Int × ByteArray) (x1 : ByteArray × Int × Int × ByteArray) (r2 : Int × Int) (k5 : Nat) (a6 : Int) (a7 : Int) : law_ReadbackDiffers.l1 N x0 x1 r2 (k5 + 1) a6 a7 =
    bif decide (a7 < 4) then
      bif (decide (0 ≤ a7)) && (decide (a7 < 4)) then
        bif decide ((Int.toNat a7) < 4) then
          bif List.getD [(!(seq x0.1 x1.1)), (!(x0.2.1 == x1.2.1)), (!(x0.2.2.1 == x1.2.2.1)), (!(seq x0.2.2.2 x1.2.2.2))] (Int.toNat a7) false then
            bif decide (0 ≤ a7) then
              law_ReadbackDiffers.l1 N x0 x1 r2 k5 (w (a6 + (shlI .i64 1 a7))) (w (a7 + 1))
            else
              none
          else
            law_ReadbackDiffers.l1 N x0 x1 r2 k5 a6 (w (a7 + 1))
        else
          none
      else
        none
    else
    bif !(r2.2 == 0) || (r2.2 == 0) then
      bif !(r2.2 == 0) || (r2.2 == 0) then
        bif (!(r2.2 == 0)) || (r2.2 == 0) then
          some ((r2.2 == 0) && (r2.1 == a6))
        else
          none
      else
        none
    else
      none := by kernel_rfl
theorem law_ReadbackDiffers.j0_eq (N : Nat) (x0 : ByteArray × Int × Int × ByteArray) (x1 : ByteArray × Int × Int × ByteArray) (r2 : Int × Int) (a4 : Int) {M : Nat} (hM : N = M + 1) : law_ReadbackDiffers.j0 N x0 x1 r2 a4 =
    bif !(a4 == 0) then
      bif !(r2.2 == a4) || (r2.2 == a4) then
        bif (!(r2.2 == a4)) || (r2.2 == a4) then
          some ((r2.2 == a4) && (r2.1 == 0))
        else
          none
      else
        none
    else
      law_ReadbackDiffers.l1 N x0 x1 r2 N 0 0 := (fuelK_eq hM _).trans (by kernel_rfl)
theorem law_ReadbackDiffers.l1_clean (N : Nat) (x0 : ByteArray × Int × Int × ByteArray) (x1 : ByteArray × Int × Int × ByteArray) (r2 : Int × Int) (k5 : Nat) (a6 : Int) (a7 : Int) : law_ReadbackDiffers.l1 N x0 x1 r2 (k5 + 1) a6 a7 =
    bif decide (a7 < 4) then
      bif (decide (0 ≤ a7)) && (decide (a7 < 4)) then
        bif decide ((Int.toNat a7) < 4) then
          bif List.getD [(!(seq x0.1 x1.1)), (!(x0.2.1 == x1.2.1)), (!(x0.2.2.1 == x1.2.2.1)), (!(seq x0.2.2.2 x1.2.2.2))] (Int.toNat a7) false then
            bif decide (0 ≤ a7) then
              law_ReadbackDiffers.l1 N x0 x1 r2 k5 (w (a6 + (shlI .i64 1 a7))) (w (a7 + 1))
            else
              none
          else
            law_ReadbackDiffers.l1 N x0 x1 r2 k5 a6 (w (a7 + 1))
        else
          none
      else
        none
    else
    some ((r2.2 == 0) && (r2.1 == a6)) := by
  rw [law_ReadbackDiffers.l1_succ]; simp only [taut15, taut16, cond_true]
theorem law_ReadbackDiffers.j0_clean (N : Nat) (x0 : ByteArray × Int × Int × ByteArray) (x1 : ByteArray × Int × Int × ByteArray) (r2 : Int × Int) (a4 : Int) {M : Nat} (hM : N = M + 1) : law_ReadbackDiffers.j0 N x0 x1 r2 a4 =
    bif !(a4 == 0) then
      some ((r2.2 == a4) && (r2.1 == 0))
    else
      law_ReadbackDiffers.l1 N x0 x1 r2 N 0 0 := by
  rw [law_ReadbackDiffers.j0_eq (hM := hM)]; simp only [taut15, taut16, cond_true]
theorem law_ReadbackDiffers.eq (N : Nat) (x0 : ByteArray × Int × Int × ByteArray) (x1 : ByteArray × Int × Int × ByteArray) : law_ReadbackDiffers.fn N (x0, x1) =
    (law_readbackFact.fn N ()).bind fun r1 =>
    bif !r1 then
      some false
    else
      (readback_Compare.fn N (x0, x1)).bind fun r2 =>
      (ref_ClearError.fn N x0).bind fun r3 =>
      bif r3 == 0 then
        (ref_ClearError.fn N x1).bind fun r8 =>
        law_ReadbackDiffers.j0 N x0 x1 r2 r8
      else
        law_ReadbackDiffers.j0 N x0 x1 r2 r3 := by kernel_rfl

/-! ### ref_OpenAt: skyway/skywayref3.OpenAt -/
def ref_OpenAt.kp : List (Nat × List (Nat × Option (TypeId × Ty))) := [(2, [(3, none), (7, none), (8, none), (9, none)])]
noncomputable def ref_OpenAt.G (N : Nat) : List (Nat × Spec) := []
noncomputable def ref_OpenAt.E (N : Nat) : Env := mkEnv (ref_OpenAt.G N) N tyTab ref_OpenAt.kp
noncomputable def ref_OpenAt.fn (N : Nat) (x : List ((ByteArray × Int × Int × ByteArray) × Int) × ByteArray × Int × Int × ByteArray) : Option Int := evFn (ref_OpenAt.E N) Tryd.prog 3 Tryd.f17 false [.cell (.sl 40 (.pair (.pair (.str) (.pair (.int .i64) (.pair (.int .i64) (.str)))) (.int .i64))), .agg (.pair (.str) (.pair (.int .i64) (.pair (.int .i64) (.str))))] [.val (.cell (.int .i64))] x
noncomputable def ref_OpenAt.S (N : Nat) : PSpec := ⟨false, [.cell (.sl 40 (.pair (.pair (.str) (.pair (.int .i64) (.pair (.int .i64) (.str)))) (.int .i64))), .agg (.pair (.str) (.pair (.int .i64) (.pair (.int .i64) (.str))))], [.val (.cell (.int .i64))], ref_OpenAt.fn N⟩
theorem f17_enters : Enters Tryd.prog 17 := ⟨Tryd.f17, Tryd.func17, by kernel_rfl, by kernel_rfl⟩
theorem ref_OpenAt.tab (N : Nat) : TabOk Tryd.prog (ref_OpenAt.G N) := trivial
theorem ref_OpenAt.enters : Enters Tryd.prog 17 := f17_enters
theorem ref_OpenAt.sound (N : Nat) : Sound Tryd.prog 17 (ref_OpenAt.S N) := evFn_sound (specs_tab (ref_OpenAt.tab N)) (inls_tab (ref_OpenAt.tab N)) mixed 3 Tryd.func17 _ _ _
noncomputable def ref_OpenAt.cd (N : Nat) (p : List Nat) : St → (Ex → St → Option Int) → Option Int := ev (ref_OpenAt.E N) Tryd.prog (callD (ref_OpenAt.E N) Tryd.prog 3) 0 (codeAt (bodyOf Tryd.f17) p)
noncomputable def ref_OpenAt.fin : Ex → St → Option Int := endK Tryd.prog Tryd.f17 [.val (.cell (.int .i64))]
noncomputable def ref_OpenAt.l0 (N : Nat) (x0 : List ((ByteArray × Int × Int × ByteArray) × Int)) (x1 : ByteArray × Int × Int × ByteArray) (k1 : Nat) (a2 : Int) : Option Int :=
  loopN (norm ((ref_OpenAt.E N).keep 2) 0) (ref_OpenAt.cd N [1, 0, 1, 0, 0]) k1
  ⟨[.any, .any, .any, .ptr 0 0, .any, .any, .any, .ros false 40 (.pair (.pair (.str) (.pair (.int .i64) (.pair (.int .i64) (.str)))) (.int .i64)) x0, .sc (.int .i64 (x0.length : Int)), .sc (.int .i64 a2), .any, .any, .any, .any, .any, .any, .any, .any, .any, .any, .any, .any, .any, .any, .any, .any, .any, .any, .any, .any], [.cells [.sc (.string x1.1), .sc (.int .i64 x1.2.1), .sc (.int .i64 x1.2.2.1), .sc (.string x1.2.2.2)] 23]⟩
  (blockK 0 (seqK (ref_OpenAt.cd N [1, 1]) ref_OpenAt.fin))
theorem ref_OpenAt.l0_zero (N : Nat) (x0 : List ((ByteArray × Int × Int × ByteArray) × Int)) (x1 : ByteArray × Int × Int × ByteArray) (a2 : Int) : ref_OpenAt.l0 N x0 x1 0 a2 = none := by kernel_rfl
theorem ref_OpenAt.l0_succ (N : Nat) (x0 : List ((ByteArray × Int × Int × ByteArray) × Int)) (x1 : ByteArray × Int × Int × ByteArray) (k1 : Nat) (a2 : Int) : ref_OpenAt.l0 N x0 x1 (k1 + 1) a2 =
    bif decide (a2 < (x0.length : Int)) then
      bif (decide (0 ≤ a2)) && (decide (a2 < (x0.length : Int))) then
        bif !(((((List.getD x0 (Int.toNat a2) (((⟨#[]⟩ : ByteArray), (0, (0, (⟨#[]⟩ : ByteArray)))), 0)).1).2).1) == x1.2.1) || (((((List.getD x0 (Int.toNat a2) (((⟨#[]⟩ : ByteArray), (0, (0, (⟨#[]⟩ : ByteArray)))), 0)).1).2).1) == x1.2.1) then
          bif !(((((List.getD x0 (Int.toNat a2) (((⟨#[]⟩ : ByteArray), (0, (0, (⟨#[]⟩ : ByteArray)))), 0)).1).2).1) == x1.2.1) || (((((List.getD x0 (Int.toNat a2) (((⟨#[]⟩ : ByteArray), (0, (0, (⟨#[]⟩ : ByteArray)))), 0)).1).2).1) == x1.2.1) then
            bif !(((((List.getD x0 (Int.toNat a2) (((⟨#[]⟩ : ByteArray), (0, (0, (⟨#[]⟩ : ByteArray)))), 0)).1).2).1) == x1.2.1) || (((((List.getD x0 (Int.toNat a2) (((⟨#[]⟩ : ByteArray), (0, (0, (⟨#[]⟩ : ByteArray)))), 0)).1).2).1) == x1.2.1) then
              bif !(((((List.getD x0 (Int.toNat a2) (((⟨#[]⟩ : ByteArray), (0, (0, (⟨#[]⟩ : ByteArray)))), 0)).1).2).1) == x1.2.1) || (((((List.getD x0 (Int.toNat a2) (((⟨#[]⟩ : ByteArray), (0, (0, (⟨#[]⟩ : ByteArray)))), 0)).1).2).1) == x1.2.1) then
                bif !(((((List.getD x0 (Int.toNat a2) (((⟨#[]⟩ : ByteArray), (0, (0, (⟨#[]⟩ : ByteArray)))), 0)).1).2).1) == x1.2.1) || (((((List.getD x0 (Int.toNat a2) (((⟨#[]⟩ : ByteArray), (0, (0, (⟨#[]⟩ : ByteArray)))), 0)).1).2).1) == x1.2.1) then
                  bif (!(((((List.getD x0 (Int.toNat a2) (((⟨#[]⟩ : ByteArray), (0, (0, (⟨#[]⟩ : ByteArray)))), 0)).1).2).1) == x1.2.1)) || (((((List.getD x0 (Int.toNat a2) (((⟨#[]⟩ : ByteArray), (0, (0, (⟨#[]⟩ : ByteArray)))), 0)).1).2).1) == x1.2.1) then
                    bif (((((List.getD x0 (Int.toNat a2) (((⟨#[]⟩ : ByteArray), (0, (0, (⟨#[]⟩ : ByteArray)))), 0)).1).2).1) == x1.2.1) && (seq (((List.getD x0 (Int.toNat a2) (((⟨#[]⟩ : ByteArray), (0, (0, (⟨#[]⟩ : ByteArray)))), 0)).1).1) x1.1) then
                      some a2
                    else
                      ref_OpenAt.l0 N x0 x1 k1 (w (a2 + 1))
                  else
                    none
                else
                  none
              else
                none
            else
              none
          else
            none
        else
          none
      else
        none
    else
      some (-1) := by kernel_rfl
theorem ref_OpenAt.l0_clean (N : Nat) (x0 : List ((ByteArray × Int × Int × ByteArray) × Int)) (x1 : ByteArray × Int × Int × ByteArray) (k1 : Nat) (a2 : Int) : ref_OpenAt.l0 N x0 x1 (k1 + 1) a2 =
    bif decide (a2 < (x0.length : Int)) then
      bif (decide (0 ≤ a2)) && (decide (a2 < (x0.length : Int))) then
        bif (((((List.getD x0 (Int.toNat a2) (((⟨#[]⟩ : ByteArray), (0, (0, (⟨#[]⟩ : ByteArray)))), 0)).1).2).1) == x1.2.1) && (seq (((List.getD x0 (Int.toNat a2) (((⟨#[]⟩ : ByteArray), (0, (0, (⟨#[]⟩ : ByteArray)))), 0)).1).1) x1.1) then
          some a2
        else
          ref_OpenAt.l0 N x0 x1 k1 (w (a2 + 1))
      else
        none
    else
      some (-1) := by
  rw [ref_OpenAt.l0_succ]; simp only [taut15, taut16, cond_true]
theorem ref_OpenAt.l0_cons (N : Nat) (x0 : List ((ByteArray × Int × Int × ByteArray) × Int)) (x1 : ByteArray × Int × Int × ByteArray) (k1 : Nat) {pre r} {x} (hl : x0 = pre ++ x :: r) (hb : x0.length < 4611686018427387904) : ref_OpenAt.l0 N x0 x1 (k1 + 1) (pre.length : Int) =
    bif ((((x.1).2).1) == x1.2.1) && (seq ((x.1).1) x1.1) then
      some (pre.length : Int)
    else
      ref_OpenAt.l0 N x0 x1 k1 ((pre.length : Int) + 1) := by
  have hlen : x0.length = pre.length + 1 + r.length := by rw [hl]; simp; omega
  have e1 : decide ((pre.length : Int) < (x0.length : Int)) = true := by rw [decide_eq_true_iff]; omega
  have e2 : decide (0 ≤ (pre.length : Int)) = true := by rw [decide_eq_true_iff]; omega
  have e4 : w ((pre.length : Int) + 1) = (pre.length : Int) + 1 := w_next hl hb
  have e5 : List.take pre.length x0 = pre := by rw [hl]; simp
  have e6 : decide ((pre.length : Int) ≤ (x0.length : Int)) = true := by rw [decide_eq_true_iff]; omega
  have g0 : List.getD x0 pre.length (((⟨#[]⟩ : ByteArray), (0, (0, (⟨#[]⟩ : ByteArray)))), 0) = x := by rw [hl]; exact getD_mid pre x r _
  rw [ref_OpenAt.l0_clean]
  simp -implicitDefEqProofs only [Int.toNat_natCast, e1, e2, e4, e6, g0, e5, Bool.and_true, Bool.true_and, Bool.true_or, cond_true]
theorem ref_OpenAt.l0_nil (N : Nat) (x0 : List ((ByteArray × Int × Int × ByteArray) × Int)) (x1 : ByteArray × Int × Int × ByteArray) (k1 : Nat) : ref_OpenAt.l0 N x0 x1 (k1 + 1) (x0.length : Int) =
    some (-1) := by
  have e1 : decide ((x0.length : Int) < (x0.length : Int)) = false := by rw [decide_eq_false_iff_not]; omega
  rw [ref_OpenAt.l0_clean]
  simp -implicitDefEqProofs only [e1, cond_false]
theorem ref_OpenAt.eq (N : Nat) (x0 : List ((ByteArray × Int × Int × ByteArray) × Int)) (x1 : ByteArray × Int × Int × ByteArray) : ref_OpenAt.fn N (x0, x1) =
    ref_OpenAt.l0 N x0 x1 N 0 := by kernel_rfl

/-! ### ref_OpenError: skyway/skywayref3.OpenError -/
def ref_OpenError.kp : List (Nat × List (Nat × Option (TypeId × Ty))) := [(5, [(0, none), (3, none), (10, none), (11, none), (12, none)])]
noncomputable def ref_OpenError.G (N : Nat) : List (Nat × Spec) := [(11, .pure (ref_ClearError.S N)), (17, .pure (ref_OpenAt.S N))]
noncomputable def ref_OpenError.E (N : Nat) : Env := mkEnv (ref_OpenError.G N) N tyTab ref_OpenError.kp
noncomputable def ref_OpenError.fn (N : Nat) (x : List ((ByteArray × Int × Int × ByteArray) × Int)) : Option Int := evFn (ref_OpenError.E N) Tryd.prog 3 Tryd.f13 false [.cell (.sl 40 (.pair (.pair (.str) (.pair (.int .i64) (.pair (.int .i64) (.str)))) (.int .i64)))] [.val (.cell (.int .i64))] x
noncomputable def ref_OpenError.S (N : Nat) : PSpec := ⟨false, [.cell (.sl 40 (.pair (.pair (.str) (.pair (.int .i64) (.pair (.int .i64) (.str)))) (.int .i64)))], [.val (.cell (.int .i64))], ref_OpenError.fn N⟩
theorem f13_enters : Enters Tryd.prog 13 := ⟨Tryd.f13, Tryd.func13, by kernel_rfl, by kernel_rfl⟩
theorem ref_OpenError.tab (N : Nat) : TabOk Tryd.prog (ref_OpenError.G N) := ⟨⟨ref_ClearError.enters, ref_ClearError.sound N⟩, ⟨ref_OpenAt.enters, ref_OpenAt.sound N⟩, trivial⟩
theorem ref_OpenError.enters : Enters Tryd.prog 13 := f13_enters
theorem ref_OpenError.sound (N : Nat) : Sound Tryd.prog 13 (ref_OpenError.S N) := evFn_sound (specs_tab (ref_OpenError.tab N)) (inls_tab (ref_OpenError.tab N)) mixed 3 Tryd.func13 _ _ _
noncomputable def ref_OpenError.cd (N : Nat) (p : List Nat) : St → (Ex → St → Option Int) → Option Int := ev (ref_OpenError.E N) Tryd.prog (callD (ref_OpenError.E N) Tryd.prog 3) 0 (codeAt (bodyOf Tryd.f13) p)
noncomputable def ref_OpenError.fin : Ex → St → Option Int := endK Tryd.prog Tryd.f13 [.val (.cell (.int .i64))]
noncomputable def ref_OpenError.l0 (N : Nat) (x0 : List ((ByteArray × Int × Int × ByteArray) × Int)) (k1 : Nat) (a2 : Int) (a3 : Int) : Option Int :=
  loopN (norm ((ref_OpenError.E N).keep 5) 0) (ref_OpenError.cd N [1, 1, 1, 0, 1, 0, 0]) k1
  ⟨[.ros false 40 (.pair (.pair (.str) (.pair (.int .i64) (.pair (.int .i64) (.str)))) (.int .i64)) x0, .any, .any, .sc (.int .i64 a2), .any, .any, .any, .any, .any, .any, .ros false 40 (.pair (.pair (.str) (.pair (.int .i64) (.pair (.int .i64) (.str)))) (.int .i64)) x0, .sc (.int .i64 (x0.length : Int)), .sc (.int .i64 a3), .any, .any, .any, .any, .any, .any, .any, .any, .any, .any, .any, .any, .any, .any, .any, .any, .any, .any, .any, .any, .any, .any, .any, .any, .any, .any, .any, .any, .any], []⟩
  (blockK 0 (seqK (ref_OpenError.cd N [1, 1, 1, 1]) ref_OpenError.fin))
theorem ref_OpenError.l0_zero (N : Nat) (x0 : List ((ByteArray × Int × Int × ByteArray) × Int)) (a2 : Int) (a3 : Int) : ref_OpenError.l0 N x0 0 a2 a3 = none := by kernel_rfl
theorem ref_OpenError.l0_succ (N : Nat) (x0 : List ((ByteArray × Int × Int × ByteArray) × Int)) (k1 : Nat) (a2 : Int) (a3 : Int) : ref_OpenError.l0 N x0 (k1 + 1) a2 a3 =
    bif decide (a3 < (x0.length : Int)) then
      bif (decide (0 ≤ a3)) && (decide (a3 < (x0.length : Int))) then
        (ref_ClearError.fn N ((List.getD x0 (Int.toNat a3) (((⟨#[]⟩ : ByteArray), (0, (0, (⟨#[]⟩ : ByteArray)))), 0)).1)).bind fun r4 =>
        bif !(r4 == 0) then
          some r4
        else
        bif !(!(decide (((List.getD x0 (Int.toNat a3) (((⟨#[]⟩ : ByteArray), (0, (0, (⟨#[]⟩ : ByteArray)))), 0)).2) < a2))) || (!(decide (((List.getD x0 (Int.toNat a3) (((⟨#[]⟩ : ByteArray), (0, (0, (⟨#[]⟩ : ByteArray)))), 0)).2) < a2))) then
          bif !(!(decide (((List.getD x0 (Int.toNat a3) (((⟨#[]⟩ : ByteArray), (0, (0, (⟨#[]⟩ : ByteArray)))), 0)).2) < a2))) || (!(decide (((List.getD x0 (Int.toNat a3) (((⟨#[]⟩ : ByteArray), (0, (0, (⟨#[]⟩ : ByteArray)))), 0)).2) < a2))) then
            bif (decide (((List.getD x0 (Int.toNat a3) (((⟨#[]⟩ : ByteArray), (0, (0, (⟨#[]⟩ : ByteArray)))), 0)).2) < a2)) || (!(decide (((List.getD x0 (Int.toNat a3) (((⟨#[]⟩ : ByteArray), (0, (0, (⟨#[]⟩ : ByteArray)))), 0)).2) < a2))) then
              bif (decide (((List.getD x0 (Int.toNat a3) (((⟨#[]⟩ : ByteArray), (0, (0, (⟨#[]⟩ : ByteArray)))), 0)).2) < a2)) || (decide (((List.getD x0 (Int.toNat a3) (((⟨#[]⟩ : ByteArray), (0, (0, (⟨#[]⟩ : ByteArray)))), 0)).2) > 200000)) then
                some 12
              else
              bif (decide (0 ≤ a3)) && (decide (a3 ≤ (x0.length : Int))) then
                (ref_OpenAt.fn N ((List.take (Int.toNat a3) x0), (List.getD x0 (Int.toNat a3) (((⟨#[]⟩ : ByteArray), (0, (0, (⟨#[]⟩ : ByteArray)))), 0)).1)).bind fun r5 =>
                bif decide (r5 ≥ 0) then
                  some 7
                else
                  ref_OpenError.l0 N x0 k1 ((List.getD x0 (Int.toNat a3) (((⟨#[]⟩ : ByteArray), (0, (0, (⟨#[]⟩ : ByteArray)))), 0)).2) (w (a3 + 1))
              else
                none
            else
              none
          else
            none
        else
          none
      else
        none
    else
      some 0 := by kernel_rfl
theorem ref_OpenError.l0_clean (N : Nat) (x0 : List ((ByteArray × Int × Int × ByteArray) × Int)) (k1 : Nat) (a2 : Int) (a3 : Int) : ref_OpenError.l0 N x0 (k1 + 1) a2 a3 =
    bif decide (a3 < (x0.length : Int)) then
      bif (decide (0 ≤ a3)) && (decide (a3 < (x0.length : Int))) then
        (ref_ClearError.fn N ((List.getD x0 (Int.toNat a3) (((⟨#[]⟩ : ByteArray), (0, (0, (⟨#[]⟩ : ByteArray)))), 0)).1)).bind fun r4 =>
        bif !(r4 == 0) then
          some r4
        else
        bif (decide (((List.getD x0 (Int.toNat a3) (((⟨#[]⟩ : ByteArray), (0, (0, (⟨#[]⟩ : ByteArray)))), 0)).2) < a2)) || (decide (((List.getD x0 (Int.toNat a3) (((⟨#[]⟩ : ByteArray), (0, (0, (⟨#[]⟩ : ByteArray)))), 0)).2) > 200000)) then
          some 12
        else
        bif (decide (0 ≤ a3)) && (decide (a3 ≤ (x0.length : Int))) then
          (ref_OpenAt.fn N ((List.take (Int.toNat a3) x0), (List.getD x0 (Int.toNat a3) (((⟨#[]⟩ : ByteArray), (0, (0, (⟨#[]⟩ : ByteArray)))), 0)).1)).bind fun r5 =>
          bif decide (r5 ≥ 0) then
            some 7
          else
            ref_OpenError.l0 N x0 k1 ((List.getD x0 (Int.toNat a3) (((⟨#[]⟩ : ByteArray), (0, (0, (⟨#[]⟩ : ByteArray)))), 0)).2) (w (a3 + 1))
        else
          none
      else
        none
    else
      some 0 := by
  rw [ref_OpenError.l0_succ]; simp only [taut1, taut6, cond_true]
theorem ref_OpenError.l0_cons (N : Nat) (x0 : List ((ByteArray × Int × Int × ByteArray) × Int)) (k1 : Nat) (a2 : Int) {pre r} {x} (hl : x0 = pre ++ x :: r) (hb : x0.length < 4611686018427387904) : ref_OpenError.l0 N x0 (k1 + 1) a2 (pre.length : Int) =
    (ref_ClearError.fn N (x.1)).bind fun r4 =>
    bif !(r4 == 0) then
      some r4
    else
    bif (decide ((x.2) < a2)) || (decide ((x.2) > 200000)) then
      some 12
    else
      (ref_OpenAt.fn N (pre, x.1)).bind fun r5 =>
      bif decide (r5 ≥ 0) then
        some 7
      else
        ref_OpenError.l0 N x0 k1 x.2 ((pre.length : Int) + 1) := by
  have hlen : x0.length = pre.length + 1 + r.length := by rw [hl]; simp; omega
  have e1 : decide ((pre.length : Int) < (x0.length : Int)) = true := by rw [decide_eq_true_iff]; omega
  have e2 : decide (0 ≤ (pre.length : Int)) = true := by rw [decide_eq_true_iff]; omega
  have e4 : w ((pre.length : Int) + 1) = (pre.length : Int) + 1 := w_next hl hb
  have e5 : List.take pre.length x0 = pre := by rw [hl]; simp
  have e6 : decide ((pre.length : Int) ≤ (x0.length : Int)) = true := by rw [decide_eq_true_iff]; omega
  have g0 : List.getD x0 pre.length (((⟨#[]⟩ : ByteArray), (0, (0, (⟨#[]⟩ : ByteArray)))), 0) = x := by rw [hl]; exact getD_mid pre x r _
  rw [ref_OpenError.l0_clean]
  simp -implicitDefEqProofs only [Int.toNat_natCast, e1, e2, e4, e6, g0, e5, Bool.and_true, Bool.true_and, Bool.true_or, cond_true]
theorem ref_OpenError.l0_nil (N : Nat) (x0 : List ((ByteArray × Int × Int × ByteArray) × Int)) (k1 : Nat) (a2 : Int) : ref_OpenError.l0 N x0 (k1 + 1) a2 (x0.length : Int) =
    some 0 := by
  have e1 : decide ((x0.length : Int) < (x0.length : Int)) = false := by rw [decide_eq_false_iff_not]; omega
  rw [ref_OpenError.l0_clean]
  simp -implicitDefEqProofs only [e1, cond_false]
theorem ref_OpenError.eq (N : Nat) (x0 : List ((ByteArray × Int × Int × ByteArray) × Int)) : ref_OpenError.fn N x0 =
    bif decide ((x0.length : Int) > 12) then
      some 2
    else
      ref_OpenError.l0 N x0 N 0 0 := by kernel_rfl

/-! ### ref_TimeError: skyway/skywayref3.TimeError -/
def ref_TimeError.kp : List (Nat × List (Nat × Option (TypeId × Ty))) := [(4, [(1, none), (13, none), (14, none), (15, none)])]
noncomputable def ref_TimeError.G (N : Nat) : List (Nat × Spec) := []
noncomputable def ref_TimeError.E (N : Nat) : Env := mkEnv (ref_TimeError.G N) N tyTab ref_TimeError.kp
noncomputable def ref_TimeError.fn (N : Nat) (x : List ((ByteArray × Int × Int × ByteArray) × Int) × Int) : Option Int := evFn (ref_TimeError.E N) Tryd.prog 3 Tryd.f15 false [.cell (.sl 40 (.pair (.pair (.str) (.pair (.int .i64) (.pair (.int .i64) (.str)))) (.int .i64))), .cell (.int .i64)] [.val (.cell (.int .i64))] x
noncomputable def ref_TimeError.S (N : Nat) : PSpec := ⟨false, [.cell (.sl 40 (.pair (.pair (.str) (.pair (.int .i64) (.pair (.int .i64) (.str)))) (.int .i64))), .cell (.int .i64)], [.val (.cell (.int .i64))], ref_TimeError.fn N⟩
theorem f15_enters : Enters Tryd.prog 15 := ⟨Tryd.f15, Tryd.func15, by kernel_rfl, by kernel_rfl⟩
theorem ref_TimeError.tab (N : Nat) : TabOk Tryd.prog (ref_TimeError.G N) := trivial
theorem ref_TimeError.enters : Enters Tryd.prog 15 := f15_enters
theorem ref_TimeError.sound (N : Nat) : Sound Tryd.prog 15 (ref_TimeError.S N) := evFn_sound (specs_tab (ref_TimeError.tab N)) (inls_tab (ref_TimeError.tab N)) mixed 3 Tryd.func15 _ _ _
noncomputable def ref_TimeError.cd (N : Nat) (p : List Nat) : St → (Ex → St → Option Int) → Option Int := ev (ref_TimeError.E N) Tryd.prog (callD (ref_TimeError.E N) Tryd.prog 3) 0 (codeAt (bodyOf Tryd.f15) p)
noncomputable def ref_TimeError.fin : Ex → St → Option Int := endK Tryd.prog Tryd.f15 [.val (.cell (.int .i64))]
noncomputable def ref_TimeError.l0 (N : Nat) (x0 : List ((ByteArray × Int × Int × ByteArray) × Int)) (x1 : Int) (k1 : Nat) (a2 : Int) : Option Int :=
  loopN (norm ((ref_TimeError.E N).keep 4) 0) (ref_TimeError.cd N [1, 1, 0, 1, 0, 0]) k1
  ⟨[.any, .sc (.int .i64 x1), .any, .any, .any, .any, .any, .any, .any, .any, .any, .any, .any, .ros false 40 (.pair (.pair (.str) (.pair (.int .i64) (.pair (.int .i64) (.str)))) (.int .i64)) x0, .sc (.int .i64 (x0.length : Int)), .sc (.int .i64 a2), .any, .any, .any, .any, .any, .any, .any, .any], []⟩
  (blockK 0 (seqK (ref_TimeError.cd N [1, 1, 1]) ref_TimeError.fin))
theorem ref_TimeError.l0_zero (N : Nat) (x0 : List ((ByteArray × Int × Int × ByteArray) × Int)) (x1 : Int) (a2 : Int) : ref_TimeError.l0 N x0 x1 0 a2 = none := by kernel_rfl
theorem ref_TimeError.l0_succ (N : Nat) (x0 : List ((ByteArray × Int × Int × ByteArray) × Int)) (x1 : Int) (k1 : Nat) (a2 : Int) : ref_TimeError.l0 N x0 x1 (k1 + 1) a2 =
    bif decide (a2 < (x0.length : Int)) then
      bif (decide (0 ≤ a2)) && (decide (a2 < (x0.length : Int))) then
        bif decide (x1 < ((List.getD x0 (Int.toNat a2) (((⟨#[]⟩ : ByteArray), (0, (0, (⟨#[]⟩ : ByteArray)))), 0)).2)) then
          some 12
        else
          ref_TimeError.l0 N x0 x1 k1 (w (a2 + 1))
      else
        none
    else
      some 0 := by kernel_rfl
theorem ref_TimeError.l0_cons (N : Nat) (x0 : List ((ByteArray × Int × Int × ByteArray) × Int)) (x1 : Int) (k1 : Nat) {pre r} {x} (hl : x0 = pre ++ x :: r) (hb : x0.length < 4611686018427387904) : ref_TimeError.l0 N x0 x1 (k1 + 1) (pre.length : Int) =
    bif decide (x1 < (x.2)) then
      some 12
    else
      ref_TimeError.l0 N x0 x1 k1 ((pre.length : Int) + 1) := by
  have hlen : x0.length = pre.length + 1 + r.length := by rw [hl]; simp; omega
  have e1 : decide ((pre.length : Int) < (x0.length : Int)) = true := by rw [decide_eq_true_iff]; omega
  have e2 : decide (0 ≤ (pre.length : Int)) = true := by rw [decide_eq_true_iff]; omega
  have e4 : w ((pre.length : Int) + 1) = (pre.length : Int) + 1 := w_next hl hb
  have e5 : List.take pre.length x0 = pre := by rw [hl]; simp
  have e6 : decide ((pre.length : Int) ≤ (x0.length : Int)) = true := by rw [decide_eq_true_iff]; omega
  have g0 : List.getD x0 pre.length (((⟨#[]⟩ : ByteArray), (0, (0, (⟨#[]⟩ : ByteArray)))), 0) = x := by rw [hl]; exact getD_mid pre x r _
  rw [ref_TimeError.l0_succ]
  simp -implicitDefEqProofs only [Int.toNat_natCast, e1, e2, e4, e6, g0, e5, Bool.and_true, Bool.true_and, Bool.true_or, cond_true]
theorem ref_TimeError.l0_nil (N : Nat) (x0 : List ((ByteArray × Int × Int × ByteArray) × Int)) (x1 : Int) (k1 : Nat) : ref_TimeError.l0 N x0 x1 (k1 + 1) (x0.length : Int) =
    some 0 := by
  have e1 : decide ((x0.length : Int) < (x0.length : Int)) = false := by rw [decide_eq_false_iff_not]; omega
  rw [ref_TimeError.l0_succ]
  simp -implicitDefEqProofs only [e1, cond_false]
theorem ref_TimeError.eq (N : Nat) (x0 : List ((ByteArray × Int × Int × ByteArray) × Int)) (x1 : Int) : ref_TimeError.fn N (x0, x1) =
    bif !(!(decide (x1 < 0))) || (!(decide (x1 < 0))) then
      bif (decide (x1 < 0)) || (!(decide (x1 < 0))) then
        bif (decide (x1 < 0)) || (decide (x1 > 200000)) then
          some 12
        else
          ref_TimeError.l0 N x0 x1 N 0
      else
        none
    else
      none := by kernel_rfl
theorem ref_TimeError.clean (N : Nat) (x0 : List ((ByteArray × Int × Int × ByteArray) × Int)) (x1 : Int) : ref_TimeError.fn N (x0, x1) =
    bif (decide (x1 < 0)) || (decide (x1 > 200000)) then
      some 12
    else
      ref_TimeError.l0 N x0 x1 N 0 := by
  rw [ref_TimeError.eq]; simp only [taut1, taut6, cond_true]

/-! ### ref_OpenWithout: skyway/skywayref3.OpenWithout -/
def ref_OpenWithout.kp : List (Nat × List (Nat × Option (TypeId × Ty))) := [(3, [(1, none), (5, some (40, .pair (.pair (.str) (.pair (.int .i64) (.pair (.int .i64) (.str)))) (.int .i64))), (8, none), (9, none), (10, none)])]
noncomputable def ref_OpenWithout.G (N : Nat) : List (Nat × Spec) := []
noncomputable def ref_OpenWithout.E (N : Nat) : Env := mkEnv (ref_OpenWithout.G N) N tyTab ref_OpenWithout.kp
noncomputable def ref_OpenWithout.fn (N : Nat) (x : List ((ByteArray × Int × Int × ByteArray) × Int) × Int) : Option (List ((ByteArray × Int × Int × ByteArray) × Int)) := evFn (ref_OpenWithout.E N) Tryd.prog 3 Tryd.f16 false [.cell (.sl 40 (.pair (.pair (.str) (.pair (.int .i64) (.pair (.int .i64) (.str)))) (.int .i64))), .cell (.int .i64)] [.own 40 (.pair (.pair (.str) (.pair (.int .i64) (.pair (.int .i64) (.str)))) (.int .i64))] x
noncomputable def ref_OpenWithout.S (N : Nat) : PSpec := ⟨false, [.cell (.sl 40 (.pair (.pair (.str) (.pair (.int .i64) (.pair (.int .i64) (.str)))) (.int .i64))), .cell (.int .i64)], [.own 40 (.pair (.pair (.str) (.pair (.int .i64) (.pair (.int .i64) (.str)))) (.int .i64))], ref_OpenWithout.fn N⟩
theorem f16_enters : Enters Tryd.prog 16 := ⟨Tryd.f16, Tryd.func16, by kernel_rfl, by kernel_rfl⟩
theorem ref_OpenWithout.tab (N : Nat) : TabOk Tryd.prog (ref_OpenWithout.G N) := trivial
theorem ref_OpenWithout.enters : Enters Tryd.prog 16 := f16_enters
theorem ref_OpenWithout.sound (N : Nat) : Sound Tryd.prog 16 (ref_OpenWithout.S N) := evFn_sound (specs_tab (ref_OpenWithout.tab N)) (inls_tab (ref_OpenWithout.tab N)) mixed 3 Tryd.func16 _ _ _
noncomputable def ref_OpenWithout.cd (N : Nat) (p : List Nat) : St → (Ex → St → Option (List ((ByteArray × Int × Int × ByteArray) × Int))) → Option (List ((ByteArray × Int × Int × ByteArray) × Int)) := ev (ref_OpenWithout.E N) Tryd.prog (callD (ref_OpenWithout.E N) Tryd.prog 3) 0 (codeAt (bodyOf Tryd.f16) p)
noncomputable def ref_OpenWithout.fin : Ex → St → Option (List ((ByteArray × Int × Int × ByteArray) × Int)) := endK Tryd.prog Tryd.f16 [.own 40 (.pair (.pair (.str) (.pair (.int .i64) (.pair (.int .i64) (.str)))) (.int .i64))]
noncomputable def ref_OpenWithout.l0 (N : Nat) (x0 : List ((ByteArray × Int × Int × ByteArray) × Int)) (x1 : Int) (k1 : Nat) (a2 : Int) (a3 : List ((ByteArray × Int × Int × ByteArray) × Int)) : Option (List ((ByteArray × Int × Int × ByteArray) × Int)) :=
  loopN (norm ((ref_OpenWithout.E N).keep 3) 0) (ref_OpenWithout.cd N [1, 1, 0, 1, 0, 0]) k1
  ⟨[.any, .sc (.int .i64 x1), .any, .any, .any, .own 0, .any, .any, .ros false 40 (.pair (.pair (.str) (.pair (.int .i64) (.pair (.int .i64) (.str)))) (.int .i64)) x0, .sc (.int .i64 (x0.length : Int)), .sc (.int .i64 a2), .any, .any, .any, .any, .any, .any, .any, .any, .any, .any, .any, .any, .any], [.rows true 40 (.pair (.pair (.str) (.pair (.int .i64) (.pair (.int .i64) (.str)))) (.int .i64)) a3]⟩
  (blockK 0 (seqK (ref_OpenWithout.cd N [1, 1, 1]) ref_OpenWithout.fin))
theorem ref_OpenWithout.l0_zero (N : Nat) (x0 : List ((ByteArray × Int × Int × ByteArray) × Int)) (x1 : Int) (a2 : Int) (a3 : List ((ByteArray × Int × Int × ByteArray) × Int)) : ref_OpenWithout.l0 N x0 x1 0 a2 a3 = none := by kernel_rfl
theorem ref_OpenWithout.l0_succ (N : Nat) (x0 : List ((ByteArray × Int × Int × ByteArray) × Int)) (x1 : Int) (k1 : Nat) (a2 : Int) (a3 : List ((ByteArray × Int × Int × ByteArray) × Int)) : ref_OpenWithout.l0 N x0 x1 (k1 + 1) a2 a3 =
    bif decide (a2 < (x0.length : Int)) then
      bif (decide (0 ≤ a2)) && (decide (a2 < (x0.length : Int))) then
        bif !(a2 == x1) then
          bif decide ((a3.length + 1) * 56 ≤ 140737488355328) && decide ((a3.length + 1) ≤ maxLen) then
            ref_OpenWithout.l0 N x0 x1 k1 (w (a2 + 1)) (a3 ++ [List.getD x0 (Int.toNat a2) (((⟨#[]⟩ : ByteArray), (0, (0, (⟨#[]⟩ : ByteArray)))), 0)])
          else
            none
        else
          ref_OpenWithout.l0 N x0 x1 k1 (w (a2 + 1)) a3
      else
        none
    else
      some a3 := by kernel_rfl
theorem ref_OpenWithout.l0_cons (N : Nat) (x0 : List ((ByteArray × Int × Int × ByteArray) × Int)) (x1 : Int) (k1 : Nat) (a3 : List ((ByteArray × Int × Int × ByteArray) × Int)) {pre r} {x} (hl : x0 = pre ++ x :: r) (hb : x0.length < 4611686018427387904) : ref_OpenWithout.l0 N x0 x1 (k1 + 1) (pre.length : Int) a3 =
    bif !((pre.length : Int) == x1) then
      bif decide ((a3.length + 1) * 56 ≤ 140737488355328) && decide ((a3.length + 1) ≤ maxLen) then
        ref_OpenWithout.l0 N x0 x1 k1 ((pre.length : Int) + 1) (a3 ++ [x])
      else
        none
    else
      ref_OpenWithout.l0 N x0 x1 k1 ((pre.length : Int) + 1) a3 := by
  have hlen : x0.length = pre.length + 1 + r.length := by rw [hl]; simp; omega
  have e1 : decide ((pre.length : Int) < (x0.length : Int)) = true := by rw [decide_eq_true_iff]; omega
  have e2 : decide (0 ≤ (pre.length : Int)) = true := by rw [decide_eq_true_iff]; omega
  have e4 : w ((pre.length : Int) + 1) = (pre.length : Int) + 1 := w_next hl hb
  have e5 : List.take pre.length x0 = pre := by rw [hl]; simp
  have e6 : decide ((pre.length : Int) ≤ (x0.length : Int)) = true := by rw [decide_eq_true_iff]; omega
  have g0 : List.getD x0 pre.length (((⟨#[]⟩ : ByteArray), (0, (0, (⟨#[]⟩ : ByteArray)))), 0) = x := by rw [hl]; exact getD_mid pre x r _
  rw [ref_OpenWithout.l0_succ]
  simp -implicitDefEqProofs only [Int.toNat_natCast, e1, e2, e4, e6, g0, e5, Bool.and_true, Bool.true_and, Bool.true_or, cond_true]
theorem ref_OpenWithout.l0_nil (N : Nat) (x0 : List ((ByteArray × Int × Int × ByteArray) × Int)) (x1 : Int) (k1 : Nat) (a3 : List ((ByteArray × Int × Int × ByteArray) × Int)) : ref_OpenWithout.l0 N x0 x1 (k1 + 1) (x0.length : Int) a3 =
    some a3 := by
  have e1 : decide ((x0.length : Int) < (x0.length : Int)) = false := by rw [decide_eq_false_iff_not]; omega
  rw [ref_OpenWithout.l0_succ]
  simp -implicitDefEqProofs only [e1, cond_false]
theorem ref_OpenWithout.eq (N : Nat) (x0 : List ((ByteArray × Int × Int × ByteArray) × Int)) (x1 : Int) : ref_OpenWithout.fn N (x0, x1) =
    ref_OpenWithout.l0 N x0 x1 N 0 [] := by kernel_rfl

/-! ### law_ReadbackSays: skyway/skywaylaw3.ReadbackSays -/
def law_ReadbackSays.kp : List (Nat × List (Nat × Option (TypeId × Ty))) := [(1000009, [(0, none), (2, none), (4, none), (7, none), (8, none), (9, none)]), (1000014, [(2, none), (4, none), (7, none), (8, none), (9, none), (10, none)])]
noncomputable def law_ReadbackSays.G (N : Nat) : List (Nat × Spec) := [(9, .pure (law_readbackFact.S N)), (11, .pure (ref_ClearError.S N)), (12, .pure (readback_Say.S N)), (13, .pure (ref_OpenError.S N)), (14, .pure (readback_Check.S N)), (15, .pure (ref_TimeError.S N)), (16, .pure (ref_OpenWithout.S N)), (17, .pure (ref_OpenAt.S N)), (18, .pure (slices_Equal_ReadbackOpen.S N))]
noncomputable def law_ReadbackSays.E (N : Nat) : Env := mkEnv (law_ReadbackSays.G N) N tyTab law_ReadbackSays.kp
noncomputable def law_ReadbackSays.fn (N : Nat) (x : List ((ByteArray × Int × Int × ByteArray) × Int) × (ByteArray × Int × Int × ByteArray) × Int) : Option Bool := evFn (law_ReadbackSays.E N) Tryd.prog 3 Tryd.f4 false [.cell (.sl 40 (.pair (.pair (.str) (.pair (.int .i64) (.pair (.int .i64) (.str)))) (.int .i64))), .agg (.pair (.str) (.pair (.int .i64) (.pair (.int .i64) (.str)))), .cell (.int .i64)] [.val (.cell (.bool))] x
noncomputable def law_ReadbackSays.S (N : Nat) : PSpec := ⟨false, [.cell (.sl 40 (.pair (.pair (.str) (.pair (.int .i64) (.pair (.int .i64) (.str)))) (.int .i64))), .agg (.pair (.str) (.pair (.int .i64) (.pair (.int .i64) (.str)))), .cell (.int .i64)], [.val (.cell (.bool))], law_ReadbackSays.fn N⟩
theorem f4_enters : Enters Tryd.prog 4 := ⟨Tryd.f4, Tryd.func4, by kernel_rfl, by kernel_rfl⟩
theorem law_ReadbackSays.tab (N : Nat) : TabOk Tryd.prog (law_ReadbackSays.G N) := ⟨⟨law_readbackFact.enters, law_readbackFact.sound N⟩, ⟨ref_ClearError.enters, ref_ClearError.sound N⟩, ⟨readback_Say.enters, readback_Say.sound N⟩, ⟨ref_OpenError.enters, ref_OpenError.sound N⟩, ⟨readback_Check.enters, readback_Check.sound N⟩, ⟨ref_TimeError.enters, ref_TimeError.sound N⟩, ⟨ref_OpenWithout.enters, ref_OpenWithout.sound N⟩, ⟨ref_OpenAt.enters, ref_OpenAt.sound N⟩, ⟨slices_Equal_ReadbackOpen.enters, slices_Equal_ReadbackOpen.sound N⟩, trivial⟩
theorem law_ReadbackSays.enters : Enters Tryd.prog 4 := f4_enters
theorem law_ReadbackSays.sound (N : Nat) : Sound Tryd.prog 4 (law_ReadbackSays.S N) := evFn_sound (specs_tab (law_ReadbackSays.tab N)) (inls_tab (law_ReadbackSays.tab N)) mixed 3 Tryd.func4 _ _ _
noncomputable def law_ReadbackSays.cd (N : Nat) (p : List Nat) : St → (Ex → St → Option Bool) → Option Bool := ev (law_ReadbackSays.E N) Tryd.prog (callD (law_ReadbackSays.E N) Tryd.prog 3) 0 (codeAt (bodyOf Tryd.f4) p)
noncomputable def law_ReadbackSays.fin : Ex → St → Option Bool := endK Tryd.prog Tryd.f4 [.val (.cell (.bool))]
noncomputable def law_ReadbackSays.j0 (N : Nat) (x0 : List ((ByteArray × Int × Int × ByteArray) × Int)) (x1 : ByteArray × Int × Int × ByteArray) (x2 : Int) (r2 : List ((ByteArray × Int × Int × ByteArray) × Int) × Int) (a5 : Int) : Option Bool :=
  fuelK N (region (law_ReadbackSays.E N) Tryd.prog (callD (law_ReadbackSays.E N) Tryd.prog 3) (opsAt (codeAt (bodyOf Tryd.f4) [1, 1, 1, 1, 1, 1, 0, 0])) false
  ⟨[.ros false 40 (.pair (.pair (.str) (.pair (.int .i64) (.pair (.int .i64) (.str)))) (.int .i64)) x0, .any, .sc (.int .i64 x2), .any, .ptr 0 0, .any, .any, .own 1, .sc (.int .i64 r2.2), .sc (.int .i64 a5), .any, .any, .any, .any, .any, .any, .any, .any, .any, .any, .any, .any, .any, .any, .any, .any, .any, .any, .any, .any, .any, .any, .any, .any, .any, .any, .any, .any, .any, .any, .any, .any, .any, .any, .any, .any, .any, .any, .any, .any, .any, .any, .any, .any, .any, .any, .any, .any, .any, .any, .any, .any, .any, .any, .any, .any, .any, .any, .any], [.cells [.sc (.string x1.1), .sc (.int .i64 x1.2.1), .sc (.int .i64 x1.2.2.1), .sc (.string x1.2.2.2)] 23, .rows true 40 (.pair (.pair (.str) (.pair (.int .i64) (.pair (.int .i64) (.str)))) (.int .i64)) r2.1]⟩
  (fun S => (seqK (law_ReadbackSays.cd N [1, 1, 1, 1, 1, 1, 0, 1]) (seqK (law_ReadbackSays.cd N [1, 1, 1, 1, 1, 1, 1]) law_ReadbackSays.fin)) .normal S))
noncomputable def law_ReadbackSays.j1 (N : Nat) (x1 : ByteArray × Int × Int × ByteArray) (x2 : Int) (r2 : List ((ByteArray × Int × Int × ByteArray) × Int) × Int) (r8 : List ((ByteArray × Int × Int × ByteArray) × Int)) (a9 : Int) : Option Bool :=
  fuelK N (region (law_ReadbackSays.E N) Tryd.prog (callD (law_ReadbackSays.E N) Tryd.prog 3) (opsAt (codeAt (bodyOf Tryd.f4) [1, 1, 1, 1, 1, 1, 1, 1, 1, 0, 0])) false
  ⟨[.any, .any, .sc (.int .i64 x2), .any, .ptr 0 0, .any, .any, .own 1, .sc (.int .i64 r2.2), .sc (.int .i64 a9), .own 2, .any, .any, .any, .any, .any, .any, .any, .any, .any, .any, .any, .any, .any, .any, .any, .any, .any, .any, .any, .any, .any, .any, .any, .any, .any, .any, .any, .any, .any, .any, .any, .any, .any, .any, .any, .any, .any, .any, .any, .any, .any, .any, .any, .any, .any, .any, .any, .any, .any, .any, .any, .any, .any, .any, .any, .any, .any, .any], [.cells [.sc (.string x1.1), .sc (.int .i64 x1.2.1), .sc (.int .i64 x1.2.2.1), .sc (.string x1.2.2.2)] 23, .rows true 40 (.pair (.pair (.str) (.pair (.int .i64) (.pair (.int .i64) (.str)))) (.int .i64)) r2.1, .rows true 40 (.pair (.pair (.str) (.pair (.int .i64) (.pair (.int .i64) (.str)))) (.int .i64)) r8]⟩
  (fun S => (seqK (law_ReadbackSays.cd N [1, 1, 1, 1, 1, 1, 1, 1, 1, 0, 1]) (seqK (law_ReadbackSays.cd N [1, 1, 1, 1, 1, 1, 1, 1, 1, 1]) law_ReadbackSays.fin)) .normal S))
noncomputable def law_ReadbackSays.j2 (N : Nat) (x1 : ByteArray × Int × Int × ByteArray) (x2 : Int) (r2 : List ((ByteArray × Int × Int × ByteArray) × Int) × Int) (r12 : List ((ByteArray × Int × Int × ByteArray) × Int)) (a13 : Int) : Option Bool :=
  fuelK N (region (law_ReadbackSays.E N) Tryd.prog (callD (law_ReadbackSays.E N) Tryd.prog 3) (opsAt (codeAt (bodyOf Tryd.f4) [1, 1, 1, 1, 1, 1, 1, 1, 1, 0, 0])) false
  ⟨[.any, .any, .sc (.int .i64 x2), .any, .ptr 0 0, .any, .any, .own 1, .sc (.int .i64 r2.2), .sc (.int .i64 a13), .own 2, .any, .any, .any, .any, .any, .any, .any, .any, .any, .any, .any, .any, .any, .any, .any, .any, .any, .any, .any, .any, .any, .any, .any, .any, .any, .any, .any, .any, .any, .any, .any, .any, .any, .any, .any, .any, .any, .any, .any, .any, .any, .any, .any, .any, .any, .any, .any, .any, .any, .any, .any, .any, .any, .any, .any, .any, .any, .any], [.cells [.sc (.string x1.1), .sc (.int .i64 x1.2.1), .sc (.int .i64 x1.2.2.1), .sc (.string x1.2.2.2)] 23, .rows true 40 (.pair (.pair (.str) (.pair (.int .i64) (.pair (.int .i64) (.str)))) (.int .i64)) r2.1, .rows true 40 (.pair (.pair (.str) (.pair (.int .i64) (.pair (.int .i64) (.str)))) (.int .i64)) r12]⟩
  (fun S => (seqK (law_ReadbackSays.cd N [1, 1, 1, 1, 1, 1, 1, 1, 1, 0, 1]) (seqK (law_ReadbackSays.cd N [1, 1, 1, 1, 1, 1, 1, 1, 1, 1]) law_ReadbackSays.fin)) .normal S))
theorem law_ReadbackSays.j2_eq (N : Nat) (x1 : ByteArray × Int × Int × ByteArray) (x2 : Int) (r2 : List ((ByteArray × Int × Int × ByteArray) × Int) × Int) (r12 : List ((ByteArray × Int × Int × ByteArray) × Int)) (a13 : Int) {M : Nat} (hM : N = M + 1) : law_ReadbackSays.j2 N x1 x2 r2 r12 a13 =
    bif !(a13 == 0) then
      bif !(r2.2 == a13) || (r2.2 == a13) then
        bif !(r2.2 == a13) || (r2.2 == a13) then
          bif (!(r2.2 == a13)) || (r2.2 == a13) then
            some ((r2.2 == a13) && ((r2.1.length : Int) == 0))
          else
            none
        else
          none
      else
        none
    else
    bif !(r2.2 == 0) || (r2.2 == 0) then
      bif !(r2.2 == 0) || (r2.2 == 0) then
        bif r2.2 == 0 then
          bif r2.2 == 0 then
            bif r2.2 == 0 then
              bif decide ((r12.length + 1) * 56 ≤ 140737488355328) && decide ((r12.length + 1) ≤ maxLen) then
                bif r2.2 == 0 then
                  (slices_Equal_ReadbackOpen.fn N (r2.1, (r12 ++ [(x1, x2)]))).bind fun r14 =>
                  some r14
                else
                  none
              else
                none
            else
              none
          else
            none
        else
          some false
      else
        none
    else
      none := (fuelK_eq hM _).trans (by kernel_rfl)
theorem law_ReadbackSays.j1_eq (N : Nat) (x1 : ByteArray × Int × Int × ByteArray) (x2 : Int) (r2 : List ((ByteArray × Int × Int × ByteArray) × Int) × Int) (r8 : List ((ByteArray × Int × Int × ByteArray) × Int)) (a9 : Int) {M : Nat} (hM : N = M + 1) : law_ReadbackSays.j1 N x1 x2 r2 r8 a9 =
    bif !(a9 == 0) then
      bif !(r2.2 == a9) || (r2.2 == a9) then
        bif !(r2.2 == a9) || (r2.2 == a9) then
          bif (!(r2.2 == a9)) || (r2.2 == a9) then
            some ((r2.2 == a9) && ((r2.1.length : Int) == 0))
          else
            none
        else
          none
      else
        none
    else
    bif !(r2.2 == 0) || (r2.2 == 0) then
      bif !(r2.2 == 0) || (r2.2 == 0) then
        bif r2.2 == 0 then
          bif r2.2 == 0 then
            bif r2.2 == 0 then
              bif decide ((r8.length + 1) * 56 ≤ 140737488355328) && decide ((r8.length + 1) ≤ maxLen) then
                bif r2.2 == 0 then
                  (slices_Equal_ReadbackOpen.fn N (r2.1, (r8 ++ [(x1, x2)]))).bind fun r10 =>
                  some r10
                else
                  none
              else
                none
            else
              none
          else
            none
        else
          some false
      else
        none
    else
      none := (fuelK_eq hM _).trans (by kernel_rfl)
theorem law_ReadbackSays.j0_eq (N : Nat) (x0 : List ((ByteArray × Int × Int × ByteArray) × Int)) (x1 : ByteArray × Int × Int × ByteArray) (x2 : Int) (r2 : List ((ByteArray × Int × Int × ByteArray) × Int) × Int) (a5 : Int) {M : Nat} (hM : N = M + 1) : law_ReadbackSays.j0 N x0 x1 x2 r2 a5 =
    bif a5 == 0 then
      (ref_TimeError.fn N (x0, x2)).bind fun r6 =>
      (ref_OpenAt.fn N (x0, x1)).bind fun r7 =>
      (ref_OpenWithout.fn N (x0, r7)).bind fun r8 =>
      bif !(r6 == 0) || (r6 == 0) then
        bif !(r6 == 0) || (r6 == 0) then
          bif (!(r6 == 0)) || (r6 == 0) then
            bif (r6 == 0) && (decide ((r8.length : Int) > 11)) then
              law_ReadbackSays.j1 N x1 x2 r2 r8 9
            else
              law_ReadbackSays.j1 N x1 x2 r2 r8 r6
          else
            none
        else
          none
      else
        none
    else
      (ref_OpenAt.fn N (x0, x1)).bind fun r11 =>
      (ref_OpenWithout.fn N (x0, r11)).bind fun r12 =>
      bif !(a5 == 0) || (a5 == 0) then
        bif !(a5 == 0) || (a5 == 0) then
          bif (!(a5 == 0)) || (a5 == 0) then
            bif (a5 == 0) && (decide ((r12.length : Int) > 11)) then
              law_ReadbackSays.j2 N x1 x2 r2 r12 9
            else
              law_ReadbackSays.j2 N x1 x2 r2 r12 a5
          else
            none
        else
          none
      else
        none := (fuelK_eq hM _).trans (by kernel_rfl)
theorem law_ReadbackSays.j2_clean (N : Nat) (x1 : ByteArray × Int × Int × ByteArray) (x2 : Int) (r2 : List ((ByteArray × Int × Int × ByteArray) × Int) × Int) (r12 : List ((ByteArray × Int × Int × ByteArray) × Int)) (a13 : Int) {M : Nat} (hM : N = M + 1) : law_ReadbackSays.j2 N x1 x2 r2 r12 a13 =
    bif !(a13 == 0) then
      some ((r2.2 == a13) && ((r2.1.length : Int) == 0))
    else
    bif r2.2 == 0 then
      bif r2.2 == 0 then
        bif r2.2 == 0 then
          bif decide ((r12.length + 1) * 56 ≤ 140737488355328) && decide ((r12.length + 1) ≤ maxLen) then
            bif r2.2 == 0 then
              (slices_Equal_ReadbackOpen.fn N (r2.1, (r12 ++ [(x1, x2)]))).bind fun r14 =>
              some r14
            else
              none
          else
            none
        else
          none
      else
        none
    else
      some false := by
  rw [law_ReadbackSays.j2_eq (hM := hM)]; simp only [taut15, taut16, cond_true]
theorem law_ReadbackSays.j1_clean (N : Nat) (x1 : ByteArray × Int × Int × ByteArray) (x2 : Int) (r2 : List ((ByteArray × Int × Int × ByteArray) × Int) × Int) (r8 : List ((ByteArray × Int × Int × ByteArray) × Int)) (a9 : Int) {M : Nat} (hM : N = M + 1) : law_ReadbackSays.j1 N x1 x2 r2 r8 a9 =
    bif !(a9 == 0) then
      some ((r2.2 == a9) && ((r2.1.length : Int) == 0))
    else
    bif r2.2 == 0 then
      bif r2.2 == 0 then
        bif r2.2 == 0 then
          bif decide ((r8.length + 1) * 56 ≤ 140737488355328) && decide ((r8.length + 1) ≤ maxLen) then
            bif r2.2 == 0 then
              (slices_Equal_ReadbackOpen.fn N (r2.1, (r8 ++ [(x1, x2)]))).bind fun r10 =>
              some r10
            else
              none
          else
            none
        else
          none
      else
        none
    else
      some false := by
  rw [law_ReadbackSays.j1_eq (hM := hM)]; simp only [taut15, taut16, cond_true]
theorem law_ReadbackSays.j0_clean (N : Nat) (x0 : List ((ByteArray × Int × Int × ByteArray) × Int)) (x1 : ByteArray × Int × Int × ByteArray) (x2 : Int) (r2 : List ((ByteArray × Int × Int × ByteArray) × Int) × Int) (a5 : Int) {M : Nat} (hM : N = M + 1) : law_ReadbackSays.j0 N x0 x1 x2 r2 a5 =
    bif a5 == 0 then
      (ref_TimeError.fn N (x0, x2)).bind fun r6 =>
      (ref_OpenAt.fn N (x0, x1)).bind fun r7 =>
      (ref_OpenWithout.fn N (x0, r7)).bind fun r8 =>
      bif (r6 == 0) && (decide ((r8.length : Int) > 11)) then
        law_ReadbackSays.j1 N x1 x2 r2 r8 9
      else
        law_ReadbackSays.j1 N x1 x2 r2 r8 r6
    else
      (ref_OpenAt.fn N (x0, x1)).bind fun r11 =>
      (ref_OpenWithout.fn N (x0, r11)).bind fun r12 =>
      bif (a5 == 0) && (decide ((r12.length : Int) > 11)) then
        law_ReadbackSays.j2 N x1 x2 r2 r12 9
      else
        law_ReadbackSays.j2 N x1 x2 r2 r12 a5 := by
  rw [law_ReadbackSays.j0_eq (hM := hM)]; simp only [taut15, taut16, cond_true]
theorem law_ReadbackSays.eq (N : Nat) (x0 : List ((ByteArray × Int × Int × ByteArray) × Int)) (x1 : ByteArray × Int × Int × ByteArray) (x2 : Int) : law_ReadbackSays.fn N (x0, x1, x2) =
    (law_readbackFact.fn N ()).bind fun r1 =>
    bif !r1 then
      some false
    else
      (readback_Say.fn N (x0, x1, x2)).bind fun r2 =>
      (ref_OpenError.fn N x0).bind fun r3 =>
      (readback_Check.fn N x0).bind fun r4 =>
      bif !(r4 == r3) then
        some false
      else
      bif r3 == 0 then
        (ref_ClearError.fn N x1).bind fun r15 =>
        law_ReadbackSays.j0 N x0 x1 x2 r2 r15
      else
        law_ReadbackSays.j0 N x0 x1 x2 r2 r3 := by kernel_rfl

/-! ### law_ReadbackHears: skyway/skywaylaw3.ReadbackHears -/
def law_ReadbackHears.kp : List (Nat × List (Nat × Option (TypeId × Ty))) := [(1000007, [(0, none), (2, none), (4, none), (7, none), (8, none), (9, none)]), (1000017, [(0, none), (7, none), (8, none), (9, none), (10, none)])]
noncomputable def law_ReadbackHears.G (N : Nat) : List (Nat × Spec) := [(9, .pure (law_readbackFact.S N)), (11, .pure (ref_ClearError.S N)), (13, .pure (ref_OpenError.S N)), (15, .pure (ref_TimeError.S N)), (16, .pure (ref_OpenWithout.S N)), (17, .pure (ref_OpenAt.S N)), (18, .pure (slices_Equal_ReadbackOpen.S N)), (25, .pure (readback_Hear.S N))]
noncomputable def law_ReadbackHears.E (N : Nat) : Env := mkEnv (law_ReadbackHears.G N) N tyTab law_ReadbackHears.kp
noncomputable def law_ReadbackHears.fn (N : Nat) (x : List ((ByteArray × Int × Int × ByteArray) × Int) × (ByteArray × Int × Int × ByteArray) × Int) : Option Bool := evFn (law_ReadbackHears.E N) Tryd.prog 3 Tryd.f6 false [.cell (.sl 40 (.pair (.pair (.str) (.pair (.int .i64) (.pair (.int .i64) (.str)))) (.int .i64))), .agg (.pair (.str) (.pair (.int .i64) (.pair (.int .i64) (.str)))), .cell (.int .i64)] [.val (.cell (.bool))] x
noncomputable def law_ReadbackHears.S (N : Nat) : PSpec := ⟨false, [.cell (.sl 40 (.pair (.pair (.str) (.pair (.int .i64) (.pair (.int .i64) (.str)))) (.int .i64))), .agg (.pair (.str) (.pair (.int .i64) (.pair (.int .i64) (.str)))), .cell (.int .i64)], [.val (.cell (.bool))], law_ReadbackHears.fn N⟩
theorem f6_enters : Enters Tryd.prog 6 := ⟨Tryd.f6, Tryd.func6, by kernel_rfl, by kernel_rfl⟩
theorem law_ReadbackHears.tab (N : Nat) : TabOk Tryd.prog (law_ReadbackHears.G N) := ⟨⟨law_readbackFact.enters, law_readbackFact.sound N⟩, ⟨ref_ClearError.enters, ref_ClearError.sound N⟩, ⟨ref_OpenError.enters, ref_OpenError.sound N⟩, ⟨ref_TimeError.enters, ref_TimeError.sound N⟩, ⟨ref_OpenWithout.enters, ref_OpenWithout.sound N⟩, ⟨ref_OpenAt.enters, ref_OpenAt.sound N⟩, ⟨slices_Equal_ReadbackOpen.enters, slices_Equal_ReadbackOpen.sound N⟩, ⟨readback_Hear.enters, readback_Hear.sound N⟩, trivial⟩
theorem law_ReadbackHears.enters : Enters Tryd.prog 6 := f6_enters
theorem law_ReadbackHears.sound (N : Nat) : Sound Tryd.prog 6 (law_ReadbackHears.S N) := evFn_sound (specs_tab (law_ReadbackHears.tab N)) (inls_tab (law_ReadbackHears.tab N)) mixed 3 Tryd.func6 _ _ _
noncomputable def law_ReadbackHears.cd (N : Nat) (p : List Nat) : St → (Ex → St → Option Bool) → Option Bool := ev (law_ReadbackHears.E N) Tryd.prog (callD (law_ReadbackHears.E N) Tryd.prog 3) 0 (codeAt (bodyOf Tryd.f6) p)
noncomputable def law_ReadbackHears.fin : Ex → St → Option Bool := endK Tryd.prog Tryd.f6 [.val (.cell (.bool))]
noncomputable def law_ReadbackHears.j0 (N : Nat) (x0 : List ((ByteArray × Int × Int × ByteArray) × Int)) (x1 : ByteArray × Int × Int × ByteArray) (x2 : Int) (r2 : List ((ByteArray × Int × Int × ByteArray) × Int) × Int) (a4 : Int) : Option Bool :=
  fuelK N (region (law_ReadbackHears.E N) Tryd.prog (callD (law_ReadbackHears.E N) Tryd.prog 3) (opsAt (codeAt (bodyOf Tryd.f6) [1, 1, 1, 1, 1, 0, 0])) false
  ⟨[.ros false 40 (.pair (.pair (.str) (.pair (.int .i64) (.pair (.int .i64) (.str)))) (.int .i64)) x0, .any, .sc (.int .i64 x2), .any, .ptr 0 0, .any, .any, .own 1, .sc (.int .i64 r2.2), .sc (.int .i64 a4), .any, .any, .any, .any, .any, .any, .any, .any, .any, .any, .any, .any, .any, .any, .any, .any, .any, .any, .any, .any, .any, .any, .any, .any, .any, .any, .any, .any, .any, .any, .any, .any, .any, .any, .any, .any, .any, .any, .any, .any, .any, .any, .any, .any, .any, .any, .any, .any, .any, .any, .any, .any, .any, .any, .any, .any, .any, .any, .any, .any, .any, .any, .any, .any, .any], [.cells [.sc (.string x1.1), .sc (.int .i64 x1.2.1), .sc (.int .i64 x1.2.2.1), .sc (.string x1.2.2.2)] 23, .rows true 40 (.pair (.pair (.str) (.pair (.int .i64) (.pair (.int .i64) (.str)))) (.int .i64)) r2.1]⟩
  (fun S => (seqK (law_ReadbackHears.cd N [1, 1, 1, 1, 1, 0, 1]) (seqK (law_ReadbackHears.cd N [1, 1, 1, 1, 1, 1]) law_ReadbackHears.fin)) .normal S))
noncomputable def law_ReadbackHears.j1 (N : Nat) (x0 : List ((ByteArray × Int × Int × ByteArray) × Int)) (r2 : List ((ByteArray × Int × Int × ByteArray) × Int) × Int) (r6 : Int) (a7 : Int) : Option Bool :=
  fuelK N (region (law_ReadbackHears.E N) Tryd.prog (callD (law_ReadbackHears.E N) Tryd.prog 3) (opsAt (codeAt (bodyOf Tryd.f6) [1, 1, 1, 1, 1, 1, 1, 1, 0, 0])) false
  ⟨[.ros false 40 (.pair (.pair (.str) (.pair (.int .i64) (.pair (.int .i64) (.str)))) (.int .i64)) x0, .any, .any, .any, .any, .any, .any, .own 0, .sc (.int .i64 r2.2), .sc (.int .i64 a7), .sc (.int .i64 r6), .any, .any, .any, .any, .any, .any, .any, .any, .any, .any, .any, .any, .any, .any, .any, .any, .any, .any, .any, .any, .any, .any, .any, .any, .any, .any, .any, .any, .any, .any, .any, .any, .any, .any, .any, .any, .any, .any, .any, .any, .any, .any, .any, .any, .any, .any, .any, .any, .any, .any, .any, .any, .any, .any, .any, .any, .any, .any, .any, .any, .any, .any, .any, .any], [.rows true 40 (.pair (.pair (.str) (.pair (.int .i64) (.pair (.int .i64) (.str)))) (.int .i64)) r2.1]⟩
  (fun S => (seqK (law_ReadbackHears.cd N [1, 1, 1, 1, 1, 1, 1, 1, 0, 1]) (seqK (law_ReadbackHears.cd N [1, 1, 1, 1, 1, 1, 1, 1, 1]) law_ReadbackHears.fin)) .normal S))
noncomputable def law_ReadbackHears.j2 (N : Nat) (x0 : List ((ByteArray × Int × Int × ByteArray) × Int)) (r2 : List ((ByteArray × Int × Int × ByteArray) × Int) × Int) (r10 : Int) (a11 : Int) : Option Bool :=
  fuelK N (region (law_ReadbackHears.E N) Tryd.prog (callD (law_ReadbackHears.E N) Tryd.prog 3) (opsAt (codeAt (bodyOf Tryd.f6) [1, 1, 1, 1, 1, 1, 1, 1, 0, 0])) false
  ⟨[.ros false 40 (.pair (.pair (.str) (.pair (.int .i64) (.pair (.int .i64) (.str)))) (.int .i64)) x0, .any, .any, .any, .any, .any, .any, .own 0, .sc (.int .i64 r2.2), .sc (.int .i64 a11), .sc (.int .i64 r10), .any, .any, .any, .any, .any, .any, .any, .any, .any, .any, .any, .any, .any, .any, .any, .any, .any, .any, .any, .any, .any, .any, .any, .any, .any, .any, .any, .any, .any, .any, .any, .any, .any, .any, .any, .any, .any, .any, .any, .any, .any, .any, .any, .any, .any, .any, .any, .any, .any, .any, .any, .any, .any, .any, .any, .any, .any, .any, .any, .any, .any, .any, .any, .any], [.rows true 40 (.pair (.pair (.str) (.pair (.int .i64) (.pair (.int .i64) (.str)))) (.int .i64)) r2.1]⟩
  (fun S => (seqK (law_ReadbackHears.cd N [1, 1, 1, 1, 1, 1, 1, 1, 0, 1]) (seqK (law_ReadbackHears.cd N [1, 1, 1, 1, 1, 1, 1, 1, 1]) law_ReadbackHears.fin)) .normal S))
theorem law_ReadbackHears.j2_eq (N : Nat) (x0 : List ((ByteArray × Int × Int × ByteArray) × Int)) (r2 : List ((ByteArray × Int × Int × ByteArray) × Int) × Int) (r10 : Int) (a11 : Int) {M : Nat} (hM : N = M + 1) : law_ReadbackHears.j2 N x0 r2 r10 a11 =
    bif !(a11 == 0) then
      bif !(r2.2 == a11) || (r2.2 == a11) then
        bif !(r2.2 == a11) || (r2.2 == a11) then
          bif (!(r2.2 == a11)) || (r2.2 == a11) then
            some ((r2.2 == a11) && ((r2.1.length : Int) == 0))
          else
            none
        else
          none
      else
        none
    else
    bif r2.2 == 0 then
      bif r2.2 == 0 then
        bif r2.2 == 0 then
          (ref_OpenWithout.fn N (x0, r10)).bind fun r12 =>
          bif r2.2 == 0 then
            (slices_Equal_ReadbackOpen.fn N (r2.1, r12)).bind fun r13 =>
            some r13
          else
            none
        else
          none
      else
        none
    else
      some false := (fuelK_eq hM _).trans (by kernel_rfl)
theorem law_ReadbackHears.j1_eq (N : Nat) (x0 : List ((ByteArray × Int × Int × ByteArray) × Int)) (r2 : List ((ByteArray × Int × Int × ByteArray) × Int) × Int) (r6 : Int) (a7 : Int) {M : Nat} (hM : N = M + 1) : law_ReadbackHears.j1 N x0 r2 r6 a7 =
    bif !(a7 == 0) then
      bif !(r2.2 == a7) || (r2.2 == a7) then
        bif !(r2.2 == a7) || (r2.2 == a7) then
          bif (!(r2.2 == a7)) || (r2.2 == a7) then
            some ((r2.2 == a7) && ((r2.1.length : Int) == 0))
          else
            none
        else
          none
      else
        none
    else
    bif r2.2 == 0 then
      bif r2.2 == 0 then
        bif r2.2 == 0 then
          (ref_OpenWithout.fn N (x0, r6)).bind fun r8 =>
          bif r2.2 == 0 then
            (slices_Equal_ReadbackOpen.fn N (r2.1, r8)).bind fun r9 =>
            some r9
          else
            none
        else
          none
      else
        none
    else
      some false := (fuelK_eq hM _).trans (by kernel_rfl)
theorem law_ReadbackHears.j0_eq (N : Nat) (x0 : List ((ByteArray × Int × Int × ByteArray) × Int)) (x1 : ByteArray × Int × Int × ByteArray) (x2 : Int) (r2 : List ((ByteArray × Int × Int × ByteArray) × Int) × Int) (a4 : Int) {M : Nat} (hM : N = M + 1) : law_ReadbackHears.j0 N x0 x1 x2 r2 a4 =
    bif a4 == 0 then
      (ref_TimeError.fn N (x0, x2)).bind fun r5 =>
      (ref_OpenAt.fn N (x0, x1)).bind fun r6 =>
      bif r5 == 0 then
        bif decide (r6 < 0) then
          law_ReadbackHears.j1 N x0 r2 r6 8
        else
        bif (decide (0 ≤ r6)) && (decide (r6 < (x0.length : Int))) then
          bif decide (x2 > (w (((List.getD x0 (Int.toNat r6) (((⟨#[]⟩ : ByteArray), (0, (0, (⟨#[]⟩ : ByteArray)))), 0)).2) + 40))) then
            law_ReadbackHears.j1 N x0 r2 r6 21
          else
          bif (decide (0 ≤ r6)) && (decide (r6 < (x0.length : Int))) then
            bif !((seq (((List.getD x0 (Int.toNat r6) (((⟨#[]⟩ : ByteArray), (0, (0, (⟨#[]⟩ : ByteArray)))), 0)).1).1) x1.1) && ((((((List.getD x0 (Int.toNat r6) (((⟨#[]⟩ : ByteArray), (0, (0, (⟨#[]⟩ : ByteArray)))), 0)).1).2).1) == x1.2.1) && (((((((List.getD x0 (Int.toNat r6) (((⟨#[]⟩ : ByteArray), (0, (0, (⟨#[]⟩ : ByteArray)))), 0)).1).2).2).1) == x1.2.2.1) && ((seq (((((List.getD x0 (Int.toNat r6) (((⟨#[]⟩ : ByteArray), (0, (0, (⟨#[]⟩ : ByteArray)))), 0)).1).2).2).2) x1.2.2.2) && true)))) then
              law_ReadbackHears.j1 N x0 r2 r6 17
            else
              law_ReadbackHears.j1 N x0 r2 r6 r5
          else
            none
        else
          none
      else
        law_ReadbackHears.j1 N x0 r2 r6 r5
    else
      (ref_OpenAt.fn N (x0, x1)).bind fun r10 =>
      bif a4 == 0 then
        bif decide (r10 < 0) then
          law_ReadbackHears.j2 N x0 r2 r10 8
        else
        bif (decide (0 ≤ r10)) && (decide (r10 < (x0.length : Int))) then
          bif decide (x2 > (w (((List.getD x0 (Int.toNat r10) (((⟨#[]⟩ : ByteArray), (0, (0, (⟨#[]⟩ : ByteArray)))), 0)).2) + 40))) then
            law_ReadbackHears.j2 N x0 r2 r10 21
          else
          bif (decide (0 ≤ r10)) && (decide (r10 < (x0.length : Int))) then
            bif !((seq (((List.getD x0 (Int.toNat r10) (((⟨#[]⟩ : ByteArray), (0, (0, (⟨#[]⟩ : ByteArray)))), 0)).1).1) x1.1) && ((((((List.getD x0 (Int.toNat r10) (((⟨#[]⟩ : ByteArray), (0, (0, (⟨#[]⟩ : ByteArray)))), 0)).1).2).1) == x1.2.1) && (((((((List.getD x0 (Int.toNat r10) (((⟨#[]⟩ : ByteArray), (0, (0, (⟨#[]⟩ : ByteArray)))), 0)).1).2).2).1) == x1.2.2.1) && ((seq (((((List.getD x0 (Int.toNat r10) (((⟨#[]⟩ : ByteArray), (0, (0, (⟨#[]⟩ : ByteArray)))), 0)).1).2).2).2) x1.2.2.2) && true)))) then
              law_ReadbackHears.j2 N x0 r2 r10 17
            else
              law_ReadbackHears.j2 N x0 r2 r10 a4
          else
            none
        else
          none
      else
        law_ReadbackHears.j2 N x0 r2 r10 a4 := (fuelK_eq hM _).trans (by kernel_rfl)
theorem law_ReadbackHears.j2_clean (N : Nat) (x0 : List ((ByteArray × Int × Int × ByteArray) × Int)) (r2 : List ((ByteArray × Int × Int × ByteArray) × Int) × Int) (r10 : Int) (a11 : Int) {M : Nat} (hM : N = M + 1) : law_ReadbackHears.j2 N x0 r2 r10 a11 =
    bif !(a11 == 0) then
      some ((r2.2 == a11) && ((r2.1.length : Int) == 0))
    else
    bif r2.2 == 0 then
      bif r2.2 == 0 then
        bif r2.2 == 0 then
          (ref_OpenWithout.fn N (x0, r10)).bind fun r12 =>
          bif r2.2 == 0 then
            (slices_Equal_ReadbackOpen.fn N (r2.1, r12)).bind fun r13 =>
            some r13
          else
            none
        else
          none
      else
        none
    else
      some false := by
  rw [law_ReadbackHears.j2_eq (hM := hM)]; simp only [taut15, taut16, cond_true]
theorem law_ReadbackHears.j1_clean (N : Nat) (x0 : List ((ByteArray × Int × Int × ByteArray) × Int)) (r2 : List ((ByteArray × Int × Int × ByteArray) × Int) × Int) (r6 : Int) (a7 : Int) {M : Nat} (hM : N = M + 1) : law_ReadbackHears.j1 N x0 r2 r6 a7 =
    bif !(a7 == 0) then
      some ((r2.2 == a7) && ((r2.1.length : Int) == 0))
    else
    bif r2.2 == 0 then
      bif r2.2 == 0 then
        bif r2.2 == 0 then
          (ref_OpenWithout.fn N (x0, r6)).bind fun r8 =>
          bif r2.2 == 0 then
            (slices_Equal_ReadbackOpen.fn N (r2.1, r8)).bind fun r9 =>
            some r9
          else
            none
        else
          none
      else
        none
    else
      some false := by
  rw [law_ReadbackHears.j1_eq (hM := hM)]; simp only [taut15, taut16, cond_true]
theorem law_ReadbackHears.eq (N : Nat) (x0 : List ((ByteArray × Int × Int × ByteArray) × Int)) (x1 : ByteArray × Int × Int × ByteArray) (x2 : Int) : law_ReadbackHears.fn N (x0, x1, x2) =
    (law_readbackFact.fn N ()).bind fun r1 =>
    bif !r1 then
      some false
    else
      (readback_Hear.fn N (x0, x1, x2)).bind fun r2 =>
      (ref_OpenError.fn N x0).bind fun r3 =>
      bif r3 == 0 then
        (ref_ClearError.fn N x1).bind fun r14 =>
        law_ReadbackHears.j0 N x0 x1 x2 r2 r14
      else
        law_ReadbackHears.j0 N x0 x1 x2 r2 r3 := by kernel_rfl

/-! ### law_ReadbackLapses: skyway/skywaylaw3.ReadbackLapses -/
def law_ReadbackLapses.kp : List (Nat × List (Nat × Option (TypeId × Ty))) := [(12, [(0, none), (1, none), (2, none), (7, none), (8, none), (9, none), (10, none), (13, some (23, .pair (.str) (.pair (.int .i64) (.pair (.int .i64) (.str))))), (56, none), (57, none), (58, none)]), (25, [(1, none), (7, none), (8, none), (9, none), (16, some (40, .pair (.pair (.str) (.pair (.int .i64) (.pair (.int .i64) (.str)))) (.int .i64))), (17, some (23, .pair (.str) (.pair (.int .i64) (.pair (.int .i64) (.str))))), (93, none), (94, none), (95, none)])]
noncomputable def law_ReadbackLapses.G (N : Nat) : List (Nat × Spec) := [(9, .pure (law_readbackFact.S N)), (13, .pure (ref_OpenError.S N)), (15, .pure (ref_TimeError.S N)), (18, .pure (slices_Equal_ReadbackOpen.S N)), (26, .pure (readback_Lapse.S N)), (27, .pure (readback_Of.S N)), (28, .pure (slices_Equal_Clearance.S N))]
noncomputable def law_ReadbackLapses.E (N : Nat) : Env := mkEnv (law_ReadbackLapses.G N) N tyTab law_ReadbackLapses.kp
noncomputable def law_ReadbackLapses.fn (N : Nat) (x : List ((ByteArray × Int × Int × ByteArray) × Int) × Int × ByteArray) : Option Bool := evFn (law_ReadbackLapses.E N) Tryd.prog 3 Tryd.f7 false [.cell (.sl 40 (.pair (.pair (.str) (.pair (.int .i64) (.pair (.int .i64) (.str)))) (.int .i64))), .cell (.int .i64), .cell (.str)] [.val (.cell (.bool))] x
noncomputable def law_ReadbackLapses.S (N : Nat) : PSpec := ⟨false, [.cell (.sl 40 (.pair (.pair (.str) (.pair (.int .i64) (.pair (.int .i64) (.str)))) (.int .i64))), .cell (.int .i64), .cell (.str)], [.val (.cell (.bool))], law_ReadbackLapses.fn N⟩
theorem f7_enters : Enters Tryd.prog 7 := ⟨Tryd.f7, Tryd.func7, by kernel_rfl, by kernel_rfl⟩
theorem law_ReadbackLapses.tab (N : Nat) : TabOk Tryd.prog (law_ReadbackLapses.G N) := ⟨⟨law_readbackFact.enters, law_readbackFact.sound N⟩, ⟨ref_OpenError.enters, ref_OpenError.sound N⟩, ⟨ref_TimeError.enters, ref_TimeError.sound N⟩, ⟨slices_Equal_ReadbackOpen.enters, slices_Equal_ReadbackOpen.sound N⟩, ⟨readback_Lapse.enters, readback_Lapse.sound N⟩, ⟨readback_Of.enters, readback_Of.sound N⟩, ⟨slices_Equal_Clearance.enters, slices_Equal_Clearance.sound N⟩, trivial⟩
theorem law_ReadbackLapses.enters : Enters Tryd.prog 7 := f7_enters
theorem law_ReadbackLapses.sound (N : Nat) : Sound Tryd.prog 7 (law_ReadbackLapses.S N) := evFn_sound (specs_tab (law_ReadbackLapses.tab N)) (inls_tab (law_ReadbackLapses.tab N)) mixed 3 Tryd.func7 _ _ _
noncomputable def law_ReadbackLapses.cd (N : Nat) (p : List Nat) : St → (Ex → St → Option Bool) → Option Bool := ev (law_ReadbackLapses.E N) Tryd.prog (callD (law_ReadbackLapses.E N) Tryd.prog 3) 0 (codeAt (bodyOf Tryd.f7) p)
noncomputable def law_ReadbackLapses.fin : Ex → St → Option Bool := endK Tryd.prog Tryd.f7 [.val (.cell (.bool))]
noncomputable def law_ReadbackLapses.l0 (N : Nat) (x0 : List ((ByteArray × Int × Int × ByteArray) × Int)) (x1 : Int) (x2 : ByteArray) (r2 : List ((ByteArray × Int × Int × ByteArray) × Int) × List (ByteArray × Int × Int × ByteArray) × Int) (r3 : List (ByteArray × Int × Int × ByteArray) × Int) (k5 : Nat) (a6 : Int) (a7 : List (ByteArray × Int × Int × ByteArray)) : Option Bool :=
  loopN (norm ((law_ReadbackLapses.E N).keep 12) 0) (law_ReadbackLapses.cd N [1, 1, 1, 1, 1, 1, 1, 1, 0, 1, 0, 0]) k5
  ⟨[.ros false 40 (.pair (.pair (.str) (.pair (.int .i64) (.pair (.int .i64) (.str)))) (.int .i64)) x0, .sc (.int .i64 x1), .sc (.string x2), .any, .any, .any, .any, .own 0, .own 1, .sc (.int .i64 r2.2.2), .own 2, .any, .any, .own 3, .any, .any, .any, .any, .any, .any, .any, .any, .any, .any, .any, .any, .any, .any, .any, .any, .any, .any, .any, .any, .any, .any, .any, .any, .any, .any, .any, .any, .any, .any, .any, .any, .any, .any, .any, .any, .any, .any, .any, .any, .any, .any, .ros false 40 (.pair (.pair (.str) (.pair (.int .i64) (.pair (.int .i64) (.str)))) (.int .i64)) x0, .sc (.int .i64 (x0.length : Int)), .sc (.int .i64 a6), .any, .any, .any, .any, .any, .any, .any, .any, .any, .any, .any, .any, .any, .any, .any, .any, .any, .any, .any, .any, .any, .any, .any, .any, .any, .any, .any, .any, .any, .any, .any, .any, .any, .any, .any, .any, .any, .any, .any, .any, .any, .any, .any, .any, .any, .any, .any, .any, .any, .any, .any, .any, .any, .any, .any, .any, .any, .any, .any, .any, .any, .any, .any, .any, .any, .any, .any], [.rows true 40 (.pair (.pair (.str) (.pair (.int .i64) (.pair (.int .i64) (.str)))) (.int .i64)) r2.1, .rows true 23 (.pair (.str) (.pair (.int .i64) (.pair (.int .i64) (.str)))) r2.2.1, .rows true 23 (.pair (.str) (.pair (.int .i64) (.pair (.int .i64) (.str)))) r3.1, .rows true 23 (.pair (.str) (.pair (.int .i64) (.pair (.int .i64) (.str)))) a7]⟩
  (blockK 0 (seqK (law_ReadbackLapses.cd N [1, 1, 1, 1, 1, 1, 1, 1, 1]) law_ReadbackLapses.fin))
noncomputable def law_ReadbackLapses.l1 (N : Nat) (x0 : List ((ByteArray × Int × Int × ByteArray) × Int)) (x1 : Int) (r2 : List ((ByteArray × Int × Int × ByteArray) × Int) × List (ByteArray × Int × Int × ByteArray) × Int) (k10 : Nat) (a11 : Int) (a12 : List ((ByteArray × Int × Int × ByteArray) × Int)) (a13 : List (ByteArray × Int × Int × ByteArray)) : Option Bool :=
  loopN (norm ((law_ReadbackLapses.E N).keep 25) 0) (law_ReadbackLapses.cd N [1, 1, 1, 1, 1, 1, 1, 1, 1, 1, 1, 1, 1, 0, 1, 0, 0]) k10
  ⟨[.any, .sc (.int .i64 x1), .any, .any, .any, .any, .any, .own 0, .own 1, .sc (.int .i64 r2.2.2), .any, .any, .any, .any, .any, .any, .own 2, .own 3, .any, .any, .any, .any, .any, .any, .any, .any, .any, .any, .any, .any, .any, .any, .any, .any, .any, .any, .any, .any, .any, .any, .any, .any, .any, .any, .any, .any, .any, .any, .any, .any, .any, .any, .any, .any, .any, .any, .any, .any, .any, .any, .any, .any, .any, .any, .any, .any, .any, .any, .any, .any, .any, .any, .any, .any, .any, .any, .any, .any, .any, .any, .any, .any, .any, .any, .any, .any, .any, .any, .any, .any, .any, .any, .any, .ros false 40 (.pair (.pair (.str) (.pair (.int .i64) (.pair (.int .i64) (.str)))) (.int .i64)) x0, .sc (.int .i64 (x0.length : Int)), .sc (.int .i64 a11), .any, .any, .any, .any, .any, .any, .any, .any, .any, .any, .any, .any, .any, .any, .any, .any, .any, .any, .any, .any, .any, .any, .any, .any, .any, .any, .any, .any, .any, .any], [.rows true 40 (.pair (.pair (.str) (.pair (.int .i64) (.pair (.int .i64) (.str)))) (.int .i64)) r2.1, .rows true 23 (.pair (.str) (.pair (.int .i64) (.pair (.int .i64) (.str)))) r2.2.1, .rows true 40 (.pair (.pair (.str) (.pair (.int .i64) (.pair (.int .i64) (.str)))) (.int .i64)) a12, .rows true 23 (.pair (.str) (.pair (.int .i64) (.pair (.int .i64) (.str)))) a13]⟩
  (blockK 2 (seqK (law_ReadbackLapses.cd N [1, 1, 1, 1, 1, 1, 1, 1, 1, 1, 1, 1, 1, 1]) law_ReadbackLapses.fin))
theorem law_ReadbackLapses.l1_zero (N : Nat) (x0 : List ((ByteArray × Int × Int × ByteArray) × Int)) (x1 : Int) (r2 : List ((ByteArray × Int × Int × ByteArray) × Int) × List (ByteArray × Int × Int × ByteArray) × Int) (a11 : Int) (a12 : List ((ByteArray × Int × Int × ByteArray) × Int)) (a13 : List (ByteArray × Int × Int × ByteArray)) : law_ReadbackLapses.l1 N x0 x1 r2 0 a11 a12 a13 = none := by kernel_rfl
theorem law_ReadbackLapses.l1_succ (N : Nat) (x0 : List ((ByteArray × Int × Int × ByteArray) × Int)) (x1 : Int) (r2 : List ((ByteArray × Int × Int × ByteArray) × Int) × List (ByteArray × Int × Int × ByteArray) × Int) (k10 : Nat) (a11 : Int) (a12 : List ((ByteArray × Int × Int × ByteArray) × Int)) (a13 : List (ByteArray × Int × Int × ByteArray)) : law_ReadbackLapses.l1 N x0 x1 r2 (k10 + 1) a11 a12 a13 =
    bif decide (a11 < (x0.length : Int)) then
      bif (decide (0 ≤ a11)) && (decide (a11 < (x0.length : Int))) then
        bif decide ((w (((List.getD x0 (Int.toNat a11) (((⟨#[]⟩ : ByteArray), (0, (0, (⟨#[]⟩ : ByteArray)))), 0)).2) + 40)) < x1) then
          bif decide ((a13.length + 1) * 48 ≤ 140737488355328) && decide ((a13.length + 1) ≤ maxLen) then
            law_ReadbackLapses.l1 N x0 x1 r2 k10 (w (a11 + 1)) a12 (a13 ++ [(List.getD x0 (Int.toNat a11) (((⟨#[]⟩ : ByteArray), (0, (0, (⟨#[]⟩ : ByteArray)))), 0)).1])
          else
            none
        else
        bif decide ((a12.length + 1) * 56 ≤ 140737488355328) && decide ((a12.length + 1) ≤ maxLen) then
          law_ReadbackLapses.l1 N x0 x1 r2 k10 (w (a11 + 1)) (a12 ++ [List.getD x0 (Int.toNat a11) (((⟨#[]⟩ : ByteArray), (0, (0, (⟨#[]⟩ : ByteArray)))), 0)]) a13
        else
          none
      else
        none
    else
    bif !(r2.2.2 == 0) || (r2.2.2 == 0) then
      bif !(r2.2.2 == 0) || (r2.2.2 == 0) then
        (bif (r2.2.2 == 0) then slices_Equal_ReadbackOpen.fn N (r2.1, a12) else some (false)).bind fun r14 =>
        bif (!(r2.2.2 == 0)) || (r2.2.2 == 0) then
          bif !((r2.2.2 == 0) && r14) || ((r2.2.2 == 0) && r14) then
            bif !((r2.2.2 == 0) && r14) || ((r2.2.2 == 0) && r14) then
              (bif ((r2.2.2 == 0) && r14) then slices_Equal_Clearance.fn N (r2.2.1, a13) else some (false)).bind fun r15 =>
              bif (!((r2.2.2 == 0) && r14)) || ((r2.2.2 == 0) && r14) then
                some (((r2.2.2 == 0) && r14) && r15)
              else
                none
            else
              none
          else
            none
        else
          none
      else
        none
    else
      none := by kernel_rfl
theorem law_ReadbackLapses.l0_zero (N : Nat) (x0 : List ((ByteArray × Int × Int × ByteArray) × Int)) (x1 : Int) (x2 : ByteArray) (r2 : List ((ByteArray × Int × Int × ByteArray) × Int) × List (ByteArray × Int × Int × ByteArray) × Int) (r3 : List (ByteArray × Int × Int × ByteArray) × Int) (a6 : Int) (a7 : List (ByteArray × Int × Int × ByteArray)) : law_ReadbackLapses.l0 N x0 x1 x2 r2 r3 0 a6 a7 = none := by kernel_rfl
theorem law_ReadbackLapses.l0_succ (N : Nat) (x0 : List ((ByteArray × Int × Int × ByteArray) × Int)) (x1 : Int) (x2 : ByteArray) (r2 : List ((ByteArray × Int × Int × ByteArray) × Int) × List (ByteArray × Int × Int × ByteArray) × Int) (r3 : List (ByteArray × Int × Int × ByteArray) × Int) (k5 : Nat) (a6 : Int) (a7 : List (ByteArray × Int × Int × ByteArray)) : law_ReadbackLapses.l0 N x0 x1 x2 r2 r3 (k5 + 1) a6 a7 =
    bif decide (a6 < (x0.length : Int)) then
      bif (decide (0 ≤ a6)) && (decide (a6 < (x0.length : Int))) then
        bif seq (((List.getD x0 (Int.toNat a6) (((⟨#[]⟩ : ByteArray), (0, (0, (⟨#[]⟩ : ByteArray)))), 0)).1).1) x2 then
          bif decide ((a7.length + 1) * 48 ≤ 140737488355328) && decide ((a7.length + 1) ≤ maxLen) then
            law_ReadbackLapses.l0 N x0 x1 x2 r2 r3 k5 (w (a6 + 1)) (a7 ++ [(List.getD x0 (Int.toNat a6) (((⟨#[]⟩ : ByteArray), (0, (0, (⟨#[]⟩ : ByteArray)))), 0)).1])
          else
            none
        else
          law_ReadbackLapses.l0 N x0 x1 x2 r2 r3 k5 (w (a6 + 1)) a7
      else
        none
    else
      (slices_Equal_Clearance.fn N (r3.1, a7)).bind fun r8 =>
      bif !r8 then
        some false
      else
        (ref_TimeError.fn N (x0, x1)).bind fun r9 =>
        bif !(r9 == 0) then
          bif !(r2.2.2 == r9) || (r2.2.2 == r9) then
            bif !(r2.2.2 == r9) || (r2.2.2 == r9) then
              bif !(r2.2.2 == r9) || (r2.2.2 == r9) then
                bif !(r2.2.2 == r9) || (r2.2.2 == r9) then
                  bif !(r2.2.2 == r9) || (r2.2.2 == r9) then
                    bif (!(r2.2.2 == r9)) || (r2.2.2 == r9) then
                      some ((r2.2.2 == r9) && ((w ((r2.1.length : Int) + (r2.2.1.length : Int))) == 0))
                    else
                      none
                  else
                    none
                else
                  none
              else
                none
            else
              none
          else
            none
        else
          law_ReadbackLapses.l1 N x0 x1 r2 N 0 [] [] := by kernel_rfl
theorem taut27 : ∀ p0 p1 : Bool, ((!((p0) && p1) || ((p0) && p1))) = true := by decide
theorem taut28 : ∀ p0 p1 : Bool, (((!((p0) && p1)) || ((p0) && p1))) = true := by decide
theorem law_ReadbackLapses.l1_clean (N : Nat) (x0 : List ((ByteArray × Int × Int × ByteArray) × Int)) (x1 : Int) (r2 : List ((ByteArray × Int × Int × ByteArray) × Int) × List (ByteArray × Int × Int × ByteArray) × Int) (k10 : Nat) (a11 : Int) (a12 : List ((ByteArray × Int × Int × ByteArray) × Int)) (a13 : List (ByteArray × Int × Int × ByteArray)) : law_ReadbackLapses.l1 N x0 x1 r2 (k10 + 1) a11 a12 a13 =
    bif decide (a11 < (x0.length : Int)) then
      bif (decide (0 ≤ a11)) && (decide (a11 < (x0.length : Int))) then
        bif decide ((w (((List.getD x0 (Int.toNat a11) (((⟨#[]⟩ : ByteArray), (0, (0, (⟨#[]⟩ : ByteArray)))), 0)).2) + 40)) < x1) then
          bif decide ((a13.length + 1) * 48 ≤ 140737488355328) && decide ((a13.length + 1) ≤ maxLen) then
            law_ReadbackLapses.l1 N x0 x1 r2 k10 (w (a11 + 1)) a12 (a13 ++ [(List.getD x0 (Int.toNat a11) (((⟨#[]⟩ : ByteArray), (0, (0, (⟨#[]⟩ : ByteArray)))), 0)).1])
          else
            none
        else
        bif decide ((a12.length + 1) * 56 ≤ 140737488355328) && decide ((a12.length + 1) ≤ maxLen) then
          law_ReadbackLapses.l1 N x0 x1 r2 k10 (w (a11 + 1)) (a12 ++ [List.getD x0 (Int.toNat a11) (((⟨#[]⟩ : ByteArray), (0, (0, (⟨#[]⟩ : ByteArray)))), 0)]) a13
        else
          none
      else
        none
    else
    (bif (r2.2.2 == 0) then slices_Equal_ReadbackOpen.fn N (r2.1, a12) else some (false)).bind fun r14 =>
    (bif ((r2.2.2 == 0) && r14) then slices_Equal_Clearance.fn N (r2.2.1, a13) else some (false)).bind fun r15 =>
    some (((r2.2.2 == 0) && r14) && r15) := by
  rw [law_ReadbackLapses.l1_succ]; simp only [taut27, taut15, taut28, taut16, cond_true]
theorem law_ReadbackLapses.l0_clean (N : Nat) (x0 : List ((ByteArray × Int × Int × ByteArray) × Int)) (x1 : Int) (x2 : ByteArray) (r2 : List ((ByteArray × Int × Int × ByteArray) × Int) × List (ByteArray × Int × Int × ByteArray) × Int) (r3 : List (ByteArray × Int × Int × ByteArray) × Int) (k5 : Nat) (a6 : Int) (a7 : List (ByteArray × Int × Int × ByteArray)) : law_ReadbackLapses.l0 N x0 x1 x2 r2 r3 (k5 + 1) a6 a7 =
    bif decide (a6 < (x0.length : Int)) then
      bif (decide (0 ≤ a6)) && (decide (a6 < (x0.length : Int))) then
        bif seq (((List.getD x0 (Int.toNat a6) (((⟨#[]⟩ : ByteArray), (0, (0, (⟨#[]⟩ : ByteArray)))), 0)).1).1) x2 then
          bif decide ((a7.length + 1) * 48 ≤ 140737488355328) && decide ((a7.length + 1) ≤ maxLen) then
            law_ReadbackLapses.l0 N x0 x1 x2 r2 r3 k5 (w (a6 + 1)) (a7 ++ [(List.getD x0 (Int.toNat a6) (((⟨#[]⟩ : ByteArray), (0, (0, (⟨#[]⟩ : ByteArray)))), 0)).1])
          else
            none
        else
          law_ReadbackLapses.l0 N x0 x1 x2 r2 r3 k5 (w (a6 + 1)) a7
      else
        none
    else
      (slices_Equal_Clearance.fn N (r3.1, a7)).bind fun r8 =>
      bif !r8 then
        some false
      else
        (ref_TimeError.fn N (x0, x1)).bind fun r9 =>
        bif !(r9 == 0) then
          some ((r2.2.2 == r9) && ((w ((r2.1.length : Int) + (r2.2.1.length : Int))) == 0))
        else
          law_ReadbackLapses.l1 N x0 x1 r2 N 0 [] [] := by
  rw [law_ReadbackLapses.l0_succ]; simp only [taut15, taut16, cond_true]
theorem law_ReadbackLapses.l1_cons (N : Nat) (x0 : List ((ByteArray × Int × Int × ByteArray) × Int)) (x1 : Int) (r2 : List ((ByteArray × Int × Int × ByteArray) × Int) × List (ByteArray × Int × Int × ByteArray) × Int) (k10 : Nat) (a12 : List ((ByteArray × Int × Int × ByteArray) × Int)) (a13 : List (ByteArray × Int × Int × ByteArray)) {pre r} {x} (hl : x0 = pre ++ x :: r) (hb : x0.length < 4611686018427387904) : law_ReadbackLapses.l1 N x0 x1 r2 (k10 + 1) (pre.length : Int) a12 a13 =
    bif decide ((w ((x.2) + 40)) < x1) then
      bif decide ((a13.length + 1) * 48 ≤ 140737488355328) && decide ((a13.length + 1) ≤ maxLen) then
        law_ReadbackLapses.l1 N x0 x1 r2 k10 ((pre.length : Int) + 1) a12 (a13 ++ [x.1])
      else
        none
    else
    bif decide ((a12.length + 1) * 56 ≤ 140737488355328) && decide ((a12.length + 1) ≤ maxLen) then
      law_ReadbackLapses.l1 N x0 x1 r2 k10 ((pre.length : Int) + 1) (a12 ++ [x]) a13
    else
      none := by
  have hlen : x0.length = pre.length + 1 + r.length := by rw [hl]; simp; omega
  have e1 : decide ((pre.length : Int) < (x0.length : Int)) = true := by rw [decide_eq_true_iff]; omega
  have e2 : decide (0 ≤ (pre.length : Int)) = true := by rw [decide_eq_true_iff]; omega
  have e4 : w ((pre.length : Int) + 1) = (pre.length : Int) + 1 := w_next hl hb
  have e5 : List.take pre.length x0 = pre := by rw [hl]; simp
  have e6 : decide ((pre.length : Int) ≤ (x0.length : Int)) = true := by rw [decide_eq_true_iff]; omega
  have g0 : List.getD x0 pre.length (((⟨#[]⟩ : ByteArray), (0, (0, (⟨#[]⟩ : ByteArray)))), 0) = x := by rw [hl]; exact getD_mid pre x r _
  rw [law_ReadbackLapses.l1_clean]
  simp -implicitDefEqProofs only [Int.toNat_natCast, e1, e2, e4, e6, g0, e5, Bool.and_true, Bool.true_and, Bool.true_or, cond_true]
theorem law_ReadbackLapses.l1_nil (N : Nat) (x0 : List ((ByteArray × Int × Int × ByteArray) × Int)) (x1 : Int) (r2 : List ((ByteArray × Int × Int × ByteArray) × Int) × List (ByteArray × Int × Int × ByteArray) × Int) (k10 : Nat) (a12 : List ((ByteArray × Int × Int × ByteArray) × Int)) (a13 : List (ByteArray × Int × Int × ByteArray)) : law_ReadbackLapses.l1 N x0 x1 r2 (k10 + 1) (x0.length : Int) a12 a13 =
    (bif (r2.2.2 == 0) then slices_Equal_ReadbackOpen.fn N (r2.1, a12) else some (false)).bind fun r14 =>
    (bif ((r2.2.2 == 0) && r14) then slices_Equal_Clearance.fn N (r2.2.1, a13) else some (false)).bind fun r15 =>
    some (((r2.2.2 == 0) && r14) && r15) := by
  have e1 : decide ((x0.length : Int) < (x0.length : Int)) = false := by rw [decide_eq_false_iff_not]; omega
  rw [law_ReadbackLapses.l1_clean]
  simp -implicitDefEqProofs only [e1, cond_false]
theorem law_ReadbackLapses.l0_cons (N : Nat) (x0 : List ((ByteArray × Int × Int × ByteArray) × Int)) (x1 : Int) (x2 : ByteArray) (r2 : List ((ByteArray × Int × Int × ByteArray) × Int) × List (ByteArray × Int × Int × ByteArray) × Int) (r3 : List (ByteArray × Int × Int × ByteArray) × Int) (k5 : Nat) (a7 : List (ByteArray × Int × Int × ByteArray)) {pre r} {x} (hl : x0 = pre ++ x :: r) (hb : x0.length < 4611686018427387904) : law_ReadbackLapses.l0 N x0 x1 x2 r2 r3 (k5 + 1) (pre.length : Int) a7 =
    bif seq ((x.1).1) x2 then
      bif decide ((a7.length + 1) * 48 ≤ 140737488355328) && decide ((a7.length + 1) ≤ maxLen) then
        law_ReadbackLapses.l0 N x0 x1 x2 r2 r3 k5 ((pre.length : Int) + 1) (a7 ++ [x.1])
      else
        none
    else
      law_ReadbackLapses.l0 N x0 x1 x2 r2 r3 k5 ((pre.length : Int) + 1) a7 := by
  have hlen : x0.length = pre.length + 1 + r.length := by rw [hl]; simp; omega
  have e1 : decide ((pre.length : Int) < (x0.length : Int)) = true := by rw [decide_eq_true_iff]; omega
  have e2 : decide (0 ≤ (pre.length : Int)) = true := by rw [decide_eq_true_iff]; omega
  have e4 : w ((pre.length : Int) + 1) = (pre.length : Int) + 1 := w_next hl hb
  have e5 : List.take pre.length x0 = pre := by rw [hl]; simp
  have e6 : decide ((pre.length : Int) ≤ (x0.length : Int)) = true := by rw [decide_eq_true_iff]; omega
  have g0 : List.getD x0 pre.length (((⟨#[]⟩ : ByteArray), (0, (0, (⟨#[]⟩ : ByteArray)))), 0) = x := by rw [hl]; exact getD_mid pre x r _
  rw [law_ReadbackLapses.l0_clean]
  simp -implicitDefEqProofs only [Int.toNat_natCast, e1, e2, e4, e6, g0, e5, Bool.and_true, Bool.true_and, Bool.true_or, cond_true]
theorem law_ReadbackLapses.l0_nil (N : Nat) (x0 : List ((ByteArray × Int × Int × ByteArray) × Int)) (x1 : Int) (x2 : ByteArray) (r2 : List ((ByteArray × Int × Int × ByteArray) × Int) × List (ByteArray × Int × Int × ByteArray) × Int) (r3 : List (ByteArray × Int × Int × ByteArray) × Int) (k5 : Nat) (a7 : List (ByteArray × Int × Int × ByteArray)) : law_ReadbackLapses.l0 N x0 x1 x2 r2 r3 (k5 + 1) (x0.length : Int) a7 =
    (slices_Equal_Clearance.fn N (r3.1, a7)).bind fun r8 =>
    bif !r8 then
      some false
    else
      (ref_TimeError.fn N (x0, x1)).bind fun r9 =>
      bif !(r9 == 0) then
        some ((r2.2.2 == r9) && ((w ((r2.1.length : Int) + (r2.2.1.length : Int))) == 0))
      else
        law_ReadbackLapses.l1 N x0 x1 r2 N 0 [] [] := by
  have e1 : decide ((x0.length : Int) < (x0.length : Int)) = false := by rw [decide_eq_false_iff_not]; omega
  rw [law_ReadbackLapses.l0_clean]
  simp -implicitDefEqProofs only [e1, cond_false]
theorem law_ReadbackLapses.eq (N : Nat) (x0 : List ((ByteArray × Int × Int × ByteArray) × Int)) (x1 : Int) (x2 : ByteArray) : law_ReadbackLapses.fn N (x0, x1, x2) =
    (law_readbackFact.fn N ()).bind fun r1 =>
    bif !r1 then
      some false
    else
      (readback_Lapse.fn N (x0, x1)).bind fun r2 =>
      (readback_Of.fn N (x0, x2)).bind fun r3 =>
      (ref_OpenError.fn N x0).bind fun r4 =>
      bif !(r3.2 == r4) then
        some false
      else
      bif !(r4 == 0) then
        bif !(r2.2.2 == r4) || (r2.2.2 == r4) then
          bif !(r2.2.2 == r4) || (r2.2.2 == r4) then
            bif !(r2.2.2 == r4) || (r2.2.2 == r4) then
              bif !(r2.2.2 == r4) || (r2.2.2 == r4) then
                bif !(r2.2.2 == r4) || (r2.2.2 == r4) then
                  bif !(r2.2.2 == r4) || (r2.2.2 == r4) then
                    bif !(r2.2.2 == r4) || (r2.2.2 == r4) then
                      bif !(r2.2.2 == r4) || (r2.2.2 == r4) then
                        bif (!(r2.2.2 == r4)) || (r2.2.2 == r4) then
                          some ((r2.2.2 == r4) && ((w ((w ((r2.1.length : Int) + (r2.2.1.length : Int))) + (r3.1.length : Int))) == 0))
                        else
                          none
                      else
                        none
                    else
                      none
                  else
                    none
                else
                  none
              else
                none
            else
              none
          else
            none
        else
          none
      else
        law_ReadbackLapses.l0 N x0 x1 x2 r2 r3 N 0 [] := by kernel_rfl
theorem law_ReadbackLapses.clean (N : Nat) (x0 : List ((ByteArray × Int × Int × ByteArray) × Int)) (x1 : Int) (x2 : ByteArray) : law_ReadbackLapses.fn N (x0, x1, x2) =
    (law_readbackFact.fn N ()).bind fun r1 =>
    bif !r1 then
      some false
    else
      (readback_Lapse.fn N (x0, x1)).bind fun r2 =>
      (readback_Of.fn N (x0, x2)).bind fun r3 =>
      (ref_OpenError.fn N x0).bind fun r4 =>
      bif !(r3.2 == r4) then
        some false
      else
      bif !(r4 == 0) then
        some ((r2.2.2 == r4) && ((w ((w ((r2.1.length : Int) + (r2.2.1.length : Int))) + (r3.1.length : Int))) == 0))
      else
        law_ReadbackLapses.l0 N x0 x1 x2 r2 r3 N 0 [] := by
  rw [law_ReadbackLapses.eq]; simp only [taut15, taut16, cond_true]

end Go.Proofs.YtcmcacophbbagaaDoor.Sk
