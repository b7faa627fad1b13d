/- PRINTED by gen.py: what the functions answer. Not trusted: Lean checks it. -/
import Derived.Test.YtmaeakelhjmfeaaSkAid
import Derived.Test.YtmaeakelhjmfeaaSkSort104
set_option linter.unusedVariables false
set_option linter.unusedSimpArgs false
set_option maxRecDepth 100000
namespace Go.Proofs.Ytmaeakelhjmfeaa.Sk
open Go
def tyTab : TypeId → Option Ty := tyOf [(3, .int .i64), (4, .bool), (35, .pair (.int .i64) (.pair (.int .i64) (.pair (.bool) (.int .i64)))), (49, .pair (.int .i64) (.int .i64)), (60, .pair (.int .i64) (.int .i64)), (76, .pair (.str) (.pair (.int .i64) (.pair (.int .i64) (.int .i64)))), (94, .pair (.str) (.pair (.str) (.int .i64))), (106, .pair (.str) (.int .i64)), (133, .pair (.str) (.int .i64)), (135, .pair (.str) (.pair (.str) (.int .i64))), (149, .pair (.pair (.int .i64) (.int .i64)) (.int .i64)), (160, .pair (.str) (.pair (.int .i64) (.pair (.int .i64) (.int .i64))))]
theorem mixed : Try.prog.follows .mixedOrders = true := by kernel_rfl
/-! ### law_caps: skyway/skywaylaw3.caps -/
def law_caps.kp : List (Nat × List (Nat × Option (TypeId × Ty))) := []
noncomputable def law_caps.G (N : Nat) : List (Nat × Spec) := []
noncomputable def law_caps.E (N : Nat) : Env := mkEnv (law_caps.G N) N tyTab law_caps.kp
noncomputable def law_caps.fn (N : Nat) (x : Unit) : Option (List ((Int × Int) × Int)) := evFn (law_caps.E N) Try.prog 3 Try.f100 false [] [.own 149 (.pair (.pair (.int .i64) (.int .i64)) (.int .i64))] x
noncomputable def law_caps.S (N : Nat) : PSpec := ⟨false, [], [.own 149 (.pair (.pair (.int .i64) (.int .i64)) (.int .i64))], law_caps.fn N⟩
theorem f100_enters : Enters Try.prog 100 := ⟨Try.f100, Try.func100, by kernel_rfl, by kernel_rfl⟩
theorem law_caps.tab (N : Nat) : TabOk Try.prog (law_caps.G N) := trivial
theorem law_caps.enters : Enters Try.prog 100 := f100_enters
theorem law_caps.sound (N : Nat) : Sound Try.prog 100 (law_caps.S N) := evFn_sound (specs_tab (law_caps.tab N)) (inls_tab (law_caps.tab N)) mixed 3 Try.func100 _ _ _
theorem law_caps.eq (N : Nat) : law_caps.fn N () =
    some [((0, 10), 1), ((10, 20), 1)] := by kernel_rfl

/-! ### chart_Name: skyway/chart.Name -/
def chart_Name.kp : List (Nat × List (Nat × Option (TypeId × Ty))) := [(4, [(0, none), (24, none), (25, none)])]
noncomputable def chart_Name.G (N : Nat) : List (Nat × Spec) := []
noncomputable def chart_Name.E (N : Nat) : Env := mkEnv (chart_Name.G N) N tyTab chart_Name.kp
noncomputable def chart_Name.fn (N : Nat) (x : ByteArray) : Option Bool := evFn (chart_Name.E N) Try.prog 3 Try.f156 false [.cell (.str)] [.val (.cell (.bool))] x
noncomputable def chart_Name.S (N : Nat) : PSpec := ⟨false, [.cell (.str)], [.val (.cell (.bool))], chart_Name.fn N⟩
theorem f156_enters : Enters Try.prog 156 := ⟨Try.f156, Try.func156, by kernel_rfl, by kernel_rfl⟩
theorem chart_Name.tab (N : Nat) : TabOk Try.prog (chart_Name.G N) := trivial
theorem chart_Name.enters : Enters Try.prog 156 := f156_enters
theorem chart_Name.sound (N : Nat) : Sound Try.prog 156 (chart_Name.S N) := evFn_sound (specs_tab (chart_Name.tab N)) (inls_tab (chart_Name.tab N)) mixed 3 Try.func156 _ _ _
noncomputable def chart_Name.cd (N : Nat) (p : List Nat) : St → (Ex → St → Option Bool) → Option Bool := ev (chart_Name.E N) Try.prog (callD (chart_Name.E N) Try.prog 3) 0 (codeAt (bodyOf Try.f156) p)
noncomputable def chart_Name.fin : Ex → St → Option Bool := endK Try.prog Try.f156 [.val (.cell (.bool))]
noncomputable def chart_Name.l0 (N : Nat) (x0 : ByteArray) (k1 : Nat) (a2 : Int) : Option Bool :=
  loopN (norm ((chart_Name.E N).keep 4) 0) (chart_Name.cd N [1, 1, 0, 1, 0, 0]) k1
  ⟨[.sc (.string x0), .any, .any, .any, .any, .any, .any, .any, .any, .any, .any, .any, .any, .any, .any, .any, .any, .any, .any, .any, .any, .any, .any, .any, .sc (.int .i64 (x0.size : Int)), .sc (.int .i64 a2), .any, .any, .any, .any, .any, .any, .any, .any, .any, .any, .any, .any, .any, .any, .any, .any, .any, .any, .any, .any], []⟩
  (blockK 0 (seqK (chart_Name.cd N [1, 1, 1]) chart_Name.fin))
theorem chart_Name.l0_zero (N : Nat) (x0 : ByteArray) (a2 : Int) : chart_Name.l0 N x0 0 a2 = none := by kernel_rfl
theorem chart_Name.l0_succ (N : Nat) (x0 : ByteArray) (k1 : Nat) (a2 : Int) : chart_Name.l0 N x0 (k1 + 1) a2 =
    bif decide (a2 < (x0.size : Int)) then
      bif (decide (0 ≤ a2)) && (decide (a2 < (x0.size : Int))) then
        bif !(!(decide (((((ByteArray.data x0).getD (Int.toNat a2) 0).toNat : Nat) : Int) < 65))) || (!(decide (((((ByteArray.data x0).getD (Int.toNat a2) 0).toNat : Nat) : Int) < 65))) then
          bif (decide (((((ByteArray.data x0).getD (Int.toNat a2) 0).toNat : Nat) : Int) < 65)) || (!(decide (((((ByteArray.data x0).getD (Int.toNat a2) 0).toNat : Nat) : Int) < 65))) then
            bif !((decide (((((ByteArray.data x0).getD (Int.toNat a2) 0).toNat : Nat) : Int) < 65)) || (decide (((((ByteArray.data x0).getD (Int.toNat a2) 0).toNat : Nat) : Int) > 90))) || ((decide (((((ByteArray.data x0).getD (Int.toNat a2) 0).toNat : Nat) : Int) < 65)) || (decide (((((ByteArray.data x0).getD (Int.toNat a2) 0).toNat : Nat) : Int) > 90))) then
              bif !((decide (((((ByteArray.data x0).getD (Int.toNat a2) 0).toNat : Nat) : Int) < 65)) || (decide (((((ByteArray.data x0).getD (Int.toNat a2) 0).toNat : Nat) : Int) > 90))) || ((decide (((((ByteArray.data x0).getD (Int.toNat a2) 0).toNat : Nat) : Int) < 65)) || (decide (((((ByteArray.data x0).getD (Int.toNat a2) 0).toNat : Nat) : Int) > 90))) then
                bif !(((decide (((((ByteArray.data x0).getD (Int.toNat a2) 0).toNat : Nat) : Int) < 65)) || (decide (((((ByteArray.data x0).getD (Int.toNat a2) 0).toNat : Nat) : Int) > 90))) && (!(decide (((((ByteArray.data x0).getD (Int.toNat a2) 0).toNat : Nat) : Int) < 48)))) || (((decide (((((ByteArray.data x0).getD (Int.toNat a2) 0).toNat : Nat) : Int) < 65)) || (decide (((((ByteArray.data x0).getD (Int.toNat a2) 0).toNat : Nat) : Int) > 90))) && (!(decide (((((ByteArray.data x0).getD (Int.toNat a2) 0).toNat : Nat) : Int) < 48)))) then
                  bif !((decide (((((ByteArray.data x0).getD (Int.toNat a2) 0).toNat : Nat) : Int) < 65)) || (decide (((((ByteArray.data x0).getD (Int.toNat a2) 0).toNat : Nat) : Int) > 90))) || ((decide (((((ByteArray.data x0).getD (Int.toNat a2) 0).toNat : Nat) : Int) < 65)) || (decide (((((ByteArray.data x0).getD (Int.toNat a2) 0).toNat : Nat) : Int) > 90))) then
                    bif !((decide (((((ByteArray.data x0).getD (Int.toNat a2) 0).toNat : Nat) : Int) < 65)) || (decide (((((ByteArray.data x0).getD (Int.toNat a2) 0).toNat : Nat) : Int) > 90))) || ((decide (((((ByteArray.data x0).getD (Int.toNat a2) 0).toNat : Nat) : Int) < 48)) || (((decide (((((ByteArray.data x0).getD (Int.toNat a2) 0).toNat : Nat) : Int) < 65)) || (decide (((((ByteArray.data x0).getD (Int.toNat a2) 0).toNat : Nat) : Int) > 90))) && (!(decide (((((ByteArray.data x0).getD (Int.toNat a2) 0).toNat : Nat) : Int) < 48))))) then
                      bif (!((decide (((((ByteArray.data x0).getD (Int.toNat a2) 0).toNat : Nat) : Int) < 65)) || (decide (((((ByteArray.data x0).getD (Int.toNat a2) 0).toNat : Nat) : Int) > 90)))) || ((decide (((((ByteArray.data x0).getD (Int.toNat a2) 0).toNat : Nat) : Int) < 65)) || (decide (((((ByteArray.data x0).getD (Int.toNat a2) 0).toNat : Nat) : Int) > 90))) then
                        bif ((decide (((((ByteArray.data x0).getD (Int.toNat a2) 0).toNat : Nat) : Int) < 65)) || (decide (((((ByteArray.data x0).getD (Int.toNat a2) 0).toNat : Nat) : Int) > 90))) && ((decide (((((ByteArray.data x0).getD (Int.toNat a2) 0).toNat : Nat) : Int) < 48)) || (decide (((((ByteArray.data x0).getD (Int.toNat a2) 0).toNat : Nat) : Int) > 57))) then
                          some false
                        else
                          chart_Name.l0 N x0 k1 (w (a2 + 1))
                      else
                        none
                    else
                      none
                  else
                    none
                else
                  none
              else
                none
            else
              none
          else
            none
        else
          none
      else
        none
    else
      some true := by kernel_rfl
theorem taut1 : ∀ p0 : Bool, ((!(!(p0)) || (!(p0)))) = true := by decide
theorem taut2 : ∀ p0 p1 p2 : Bool, ((!(((p0) || (p1)) && (!(p2))) || (((p0) || (p1)) && (!(p2))))) = true := by decide
theorem taut3 : ∀ p0 p1 : Bool, ((!((p0) || (p1)) || ((p0) || (p1)))) = true := by decide
theorem taut4 : ∀ p0 p1 p2 : Bool, ((!((p0) || (p1)) || ((p2) || (((p0) || (p1)) && (!(p2)))))) = true := by decide
theorem taut5 : ∀ p0 p1 : Bool, (((!((p0) || (p1))) || ((p0) || (p1)))) = true := by decide
theorem taut6 : ∀ p0 : Bool, (((p0) || (!(p0)))) = true := by decide
theorem chart_Name.l0_clean (N : Nat) (x0 : ByteArray) (k1 : Nat) (a2 : Int) : chart_Name.l0 N x0 (k1 + 1) a2 =
    bif decide (a2 < (x0.size : Int)) then
      bif (decide (0 ≤ a2)) && (decide (a2 < (x0.size : Int))) then
        bif ((decide (((((ByteArray.data x0).getD (Int.toNat a2) 0).toNat : Nat) : Int) < 65)) || (decide (((((ByteArray.data x0).getD (Int.toNat a2) 0).toNat : Nat) : Int) > 90))) && ((decide (((((ByteArray.data x0).getD (Int.toNat a2) 0).toNat : Nat) : Int) < 48)) || (decide (((((ByteArray.data x0).getD (Int.toNat a2) 0).toNat : Nat) : Int) > 57))) then
          some false
        else
          chart_Name.l0 N x0 k1 (w (a2 + 1))
      else
        none
    else
      some true := by
  rw [chart_Name.l0_succ]; simp only [taut1, taut2, taut3, taut4, taut5, taut6, cond_true]
theorem chart_Name.l0_cons (N : Nat) (x0 : ByteArray) (k1 : Nat) {pre r} {x} (hl : x0.data.toList = pre ++ x :: r) (hb : x0.size < 4611686018427387904) : chart_Name.l0 N x0 (k1 + 1) (pre.length : Int) =
    bif ((decide (((x.toNat : Nat) : Int) < 65)) || (decide (((x.toNat : Nat) : Int) > 90))) && ((decide (((x.toNat : Nat) : Int) < 48)) || (decide (((x.toNat : Nat) : Int) > 57))) then
      some false
    else
      chart_Name.l0 N x0 k1 ((pre.length : Int) + 1) := by
  have hlen : x0.size = pre.length + 1 + r.length := by rw [ByteArray.size, ← Array.length_toList, hl]; simp; omega
  have e1 : decide ((pre.length : Int) < (x0.size : Int)) = true := by rw [decide_eq_true_iff]; omega
  have e2 : decide (0 ≤ (pre.length : Int)) = true := by rw [decide_eq_true_iff]; omega
  have e4 : w ((pre.length : Int) + 1) = (pre.length : Int) + 1 := w_next hl (by rw [Array.length_toList]; exact hb)
  have e6 : decide ((pre.length : Int) ≤ (x0.size : Int)) = true := by rw [decide_eq_true_iff]; omega
  have g0 : (ByteArray.data x0).getD pre.length 0 = x := getD_bytes hl
  rw [chart_Name.l0_clean]
  simp -implicitDefEqProofs only [Int.toNat_natCast, e1, e2, e4, e6, g0, Bool.and_true, Bool.true_and, Bool.true_or, cond_true]
theorem chart_Name.l0_nil (N : Nat) (x0 : ByteArray) (k1 : Nat) : chart_Name.l0 N x0 (k1 + 1) (x0.size : Int) =
    some true := by
  have e1 : decide ((x0.size : Int) < (x0.size : Int)) = false := by rw [decide_eq_false_iff_not]; omega
  rw [chart_Name.l0_clean]
  simp -implicitDefEqProofs only [e1, cond_false]
theorem chart_Name.eq (N : Nat) (x0 : ByteArray) : chart_Name.fn N x0 =
    bif !(!((x0.size : Int) == 0)) || (!((x0.size : Int) == 0)) then
      bif !(!((x0.size : Int) == 0)) || (!((x0.size : Int) == 0)) then
        bif ((x0.size : Int) == 0) || (!((x0.size : Int) == 0)) then
          bif !(!(((x0.size : Int) == 0) || (decide ((x0.size : Int) > 8)))) || (!(((x0.size : Int) == 0) || (decide ((x0.size : Int) > 8)))) then
            bif (decide (0 < (x0.size : Int))) || !(!(((x0.size : Int) == 0) || (decide ((x0.size : Int) > 8)))) then
              bif !(!(((x0.size : Int) == 0) || (decide ((x0.size : Int) > 8)))) || (!(((x0.size : Int) == 0) || (decide ((x0.size : Int) > 8)))) then
                bif (((x0.size : Int) == 0) || (decide ((x0.size : Int) > 8))) || (!(((x0.size : Int) == 0) || (decide ((x0.size : Int) > 8)))) then
                  bif !(!((((x0.size : Int) == 0) || (decide ((x0.size : Int) > 8))) || (decide (((((ByteArray.data x0).getD 0 0).toNat : Nat) : Int) < 65)))) || (!((((x0.size : Int) == 0) || (decide ((x0.size : Int) > 8))) || (decide (((((ByteArray.data x0).getD 0 0).toNat : Nat) : Int) < 65)))) then
                    bif (decide (0 < (x0.size : Int))) || !(!((((x0.size : Int) == 0) || (decide ((x0.size : Int) > 8))) || (decide (((((ByteArray.data x0).getD 0 0).toNat : Nat) : Int) < 65)))) then
                      bif !(!((((x0.size : Int) == 0) || (decide ((x0.size : Int) > 8))) || (decide (((((ByteArray.data x0).getD 0 0).toNat : Nat) : Int) < 65)))) || (!((((x0.size : Int) == 0) || (decide ((x0.size : Int) > 8))) || (decide (((((ByteArray.data x0).getD 0 0).toNat : Nat) : Int) < 65)))) then
                        bif ((((x0.size : Int) == 0) || (decide ((x0.size : Int) > 8))) || (decide (((((ByteArray.data x0).getD 0 0).toNat : Nat) : Int) < 65))) || (!((((x0.size : Int) == 0) || (decide ((x0.size : Int) > 8))) || (decide (((((ByteArray.data x0).getD 0 0).toNat : Nat) : Int) < 65)))) then
                          bif ((((x0.size : Int) == 0) || (decide ((x0.size : Int) > 8))) || (decide (((((ByteArray.data x0).getD 0 0).toNat : Nat) : Int) < 65))) || (decide (((((ByteArray.data x0).getD 0 0).toNat : Nat) : Int) > 90)) then
                            some false
                          else
                            chart_Name.l0 N x0 N 0
                        else
                          none
                      else
                        none
                    else
                      none
                  else
                    none
                else
                  none
              else
                none
            else
              none
          else
            none
        else
          none
      else
        none
    else
      none := by kernel_rfl
theorem taut7 : ∀ p0 p1 p2 : Bool, ((!(!(((p0) || (p1)) || (p2))) || (!(((p0) || (p1)) || (p2))))) = true := by decide
theorem taut8 : ∀ p0 p1 : Bool, ((!(!((p0) || (p1))) || (!((p0) || (p1))))) = true := by decide
theorem taut9 : ∀ p0 p1 p2 : Bool, (((((p0) || (p1)) || (p2)) || (!(((p0) || (p1)) || (p2))))) = true := by decide
theorem taut10 : ∀ p0 p1 : Bool, ((((p0) || (p1)) || (!((p0) || (p1))))) = true := by decide
theorem chart_Name.clean (N : Nat) (x0 : ByteArray) : chart_Name.fn N x0 =
    bif (decide (0 < (x0.size : Int))) || !(!(((x0.size : Int) == 0) || (decide ((x0.size : Int) > 8)))) then
      bif (decide (0 < (x0.size : Int))) || !(!((((x0.size : Int) == 0) || (decide ((x0.size : Int) > 8))) || (decide (((((ByteArray.data x0).getD 0 0).toNat : Nat) : Int) < 65)))) then
        bif ((((x0.size : Int) == 0) || (decide ((x0.size : Int) > 8))) || (decide (((((ByteArray.data x0).getD 0 0).toNat : Nat) : Int) < 65))) || (decide (((((ByteArray.data x0).getD 0 0).toNat : Nat) : Int) > 90)) then
          some false
        else
          chart_Name.l0 N x0 N 0
      else
        none
    else
      none := by
  rw [chart_Name.eq]; simp only [taut7, taut8, taut1, taut9, taut10, taut6, cond_true]

/-! ### sector_Name: skyway/sector.Name -/
def sector_Name.kp : List (Nat × List (Nat × Option (TypeId × Ty))) := []
noncomputable def sector_Name.G (N : Nat) : List (Nat × Spec) := [(156, .pure (chart_Name.S N))]
noncomputable def sector_Name.E (N : Nat) : Env := mkEnv (sector_Name.G N) N tyTab sector_Name.kp
noncomputable def sector_Name.fn (N : Nat) (x : ByteArray) : Option Bool := evFn (sector_Name.E N) Try.prog 3 Try.f130 false [.cell (.str)] [.val (.cell (.bool))] x
noncomputable def sector_Name.S (N : Nat) : PSpec := ⟨false, [.cell (.str)], [.val (.cell (.bool))], sector_Name.fn N⟩
theorem f130_enters : Enters Try.prog 130 := ⟨Try.f130, Try.func130, by kernel_rfl, by kernel_rfl⟩
theorem sector_Name.tab (N : Nat) : TabOk Try.prog (sector_Name.G N) := ⟨⟨chart_Name.enters, chart_Name.sound N⟩, trivial⟩
theorem sector_Name.enters : Enters Try.prog 130 := f130_enters
theorem sector_Name.sound (N : Nat) : Sound Try.prog 130 (sector_Name.S N) := evFn_sound (specs_tab (sector_Name.tab N)) (inls_tab (sector_Name.tab N)) mixed 3 Try.func130 _ _ _
theorem sector_Name.eq (N : Nat) (x0 : ByteArray) : sector_Name.fn N x0 =
    (chart_Name.fn N x0).bind fun r1 =>
    some r1 := by kernel_rfl

/-! ### owner_Name: skyway/owner.Name -/
def owner_Name.kp : List (Nat × List (Nat × Option (TypeId × Ty))) := []
noncomputable def owner_Name.G (N : Nat) : List (Nat × Spec) := [(130, .pure (sector_Name.S N))]
noncomputable def owner_Name.E (N : Nat) : Env := mkEnv (owner_Name.G N) N tyTab owner_Name.kp
noncomputable def owner_Name.fn (N : Nat) (x : ByteArray) : Option Bool := evFn (owner_Name.E N) Try.prog 3 Try.f107 false [.cell (.str)] [.val (.cell (.bool))] x
noncomputable def owner_Name.S (N : Nat) : PSpec := ⟨false, [.cell (.str)], [.val (.cell (.bool))], owner_Name.fn N⟩
theorem f107_enters : Enters Try.prog 107 := ⟨Try.f107, Try.func107, by kernel_rfl, by kernel_rfl⟩
theorem owner_Name.tab (N : Nat) : TabOk Try.prog (owner_Name.G N) := ⟨⟨sector_Name.enters, sector_Name.sound N⟩, trivial⟩
theorem owner_Name.enters : Enters Try.prog 107 := f107_enters
theorem owner_Name.sound (N : Nat) : Sound Try.prog 107 (owner_Name.S N) := evFn_sound (specs_tab (owner_Name.tab N)) (inls_tab (owner_Name.tab N)) mixed 3 Try.func107 _ _ _
theorem owner_Name.eq (N : Nat) (x0 : ByteArray) : owner_Name.fn N x0 =
    (sector_Name.fn N x0).bind fun r1 =>
    some r1 := by kernel_rfl

/-! ### slot_Name: skyway/slot.Name -/
def slot_Name.kp : List (Nat × List (Nat × Option (TypeId × Ty))) := []
noncomputable def slot_Name.G (N : Nat) : List (Nat × Spec) := [(107, .pure (owner_Name.S N))]
noncomputable def slot_Name.E (N : Nat) : Env := mkEnv (slot_Name.G N) N tyTab slot_Name.kp
noncomputable def slot_Name.fn (N : Nat) (x : ByteArray) : Option Bool := evFn (slot_Name.E N) Try.prog 3 Try.f54 false [.cell (.str)] [.val (.cell (.bool))] x
noncomputable def slot_Name.S (N : Nat) : PSpec := ⟨false, [.cell (.str)], [.val (.cell (.bool))], slot_Name.fn N⟩
theorem f54_enters : Enters Try.prog 54 := ⟨Try.f54, Try.func54, by kernel_rfl, by kernel_rfl⟩
theorem slot_Name.tab (N : Nat) : TabOk Try.prog (slot_Name.G N) := ⟨⟨owner_Name.enters, owner_Name.sound N⟩, trivial⟩
theorem slot_Name.enters : Enters Try.prog 54 := f54_enters
theorem slot_Name.sound (N : Nat) : Sound Try.prog 54 (slot_Name.S N) := evFn_sound (specs_tab (slot_Name.tab N)) (inls_tab (slot_Name.tab N)) mixed 3 Try.func54 _ _ _
theorem slot_Name.eq (N : Nat) (x0 : ByteArray) : slot_Name.fn N x0 =
    (owner_Name.fn N x0).bind fun r1 =>
    some r1 := by kernel_rfl

/-! ### slot_Check: skyway/slot.Check -/
def slot_Check.kp : List (Nat × List (Nat × Option (TypeId × Ty))) := [(4, [(0, none), (10, none), (11, none), (12, none)]), (11, [(0, none), (4, none), (10, none), (11, none), (12, none), (31, none), (32, none), (33, none)])]
noncomputable def slot_Check.G (N : Nat) : List (Nat × Spec) := [(54, .pure (slot_Name.S N))]
noncomputable def slot_Check.E (N : Nat) : Env := mkEnv (slot_Check.G N) N tyTab slot_Check.kp
noncomputable def slot_Check.fn (N : Nat) (x : List (ByteArray × Int)) : Option Int := evFn (slot_Check.E N) Try.prog 3 Try.f52 false [.cell (.sl 106 (.pair (.str) (.int .i64)))] [.val (.cell (.int .i64))] x
noncomputable def slot_Check.S (N : Nat) : PSpec := ⟨false, [.cell (.sl 106 (.pair (.str) (.int .i64)))], [.val (.cell (.int .i64))], slot_Check.fn N⟩
theorem f52_enters : Enters Try.prog 52 := ⟨Try.f52, Try.func52, by kernel_rfl, by kernel_rfl⟩
theorem slot_Check.tab (N : Nat) : TabOk Try.prog (slot_Check.G N) := ⟨⟨slot_Name.enters, slot_Name.sound N⟩, trivial⟩
theorem slot_Check.enters : Enters Try.prog 52 := f52_enters
theorem slot_Check.sound (N : Nat) : Sound Try.prog 52 (slot_Check.S N) := evFn_sound (specs_tab (slot_Check.tab N)) (inls_tab (slot_Check.tab N)) mixed 3 Try.func52 _ _ _
noncomputable def slot_Check.cd (N : Nat) (p : List Nat) : St → (Ex → St → Option Int) → Option Int := ev (slot_Check.E N) Try.prog (callD (slot_Check.E N) Try.prog 3) 0 (codeAt (bodyOf Try.f52) p)
noncomputable def slot_Check.fin : Ex → St → Option Int := endK Try.prog Try.f52 [.val (.cell (.int .i64))]
noncomputable def slot_Check.l0 (N : Nat) (x0 : List (ByteArray × Int)) (k1 : Nat) (a2 : Int) : Option Int :=
  loopN (norm ((slot_Check.E N).keep 4) 0) (slot_Check.cd N [1, 1, 0, 1, 0, 0]) k1
  ⟨[.ros false 106 (.pair (.str) (.int .i64)) x0, .any, .any, .any, .any, .any, .any, .any, .any, .any, .ros false 106 (.pair (.str) (.int .i64)) x0, .sc (.int .i64 (x0.length : Int)), .sc (.int .i64 a2), .any, .any, .any, .any, .any, .any, .any, .any, .any, .any, .any, .any, .any, .any, .any, .any, .any, .any, .any, .any, .any, .any, .any, .any, .any, .any, .any, .any, .any, .any, .any], []⟩
  (blockK 0 (seqK (slot_Check.cd N [1, 1, 1]) slot_Check.fin))
noncomputable def slot_Check.l1 (N : Nat) (x0 : List (ByteArray × Int)) (k1 : Nat) (a2 : Int) (k4 : Nat) (a5 : Int) : Option Int :=
  loopN (norm ((slot_Check.E N).keep 11) 0) (slot_Check.cd N [1, 1, 0, 1, 0, 0, 1, 1, 0, 0, 1, 1, 1, 1, 0, 0]) k4
  ⟨[.ros false 106 (.pair (.str) (.int .i64)) x0, .any, .any, .any, .ptr 0 0, .any, .any, .any, .any, .any, .ros false 106 (.pair (.str) (.int .i64)) x0, .sc (.int .i64 (x0.length : Int)), .sc (.int .i64 a2), .any, .any, .any, .any, .any, .any, .any, .any, .any, .any, .any, .any, .any, .any, .any, .any, .any, .any, .ros false 106 (.pair (.str) (.int .i64)) (List.take (Int.toNat a2) x0), .sc (.int .i64 ((List.take (Int.toNat a2) x0).length : Int)), .sc (.int .i64 a5), .any, .any, .any, .any, .any, .any, .any, .any, .any, .any], [.cells [.sc (.string ((List.getD x0 (Int.toNat a2) ((⟨#[]⟩ : ByteArray), 0)).1)), .sc (.int .i64 ((List.getD x0 (Int.toNat a2) ((⟨#[]⟩ : ByteArray), 0)).2))] 106]⟩
  (blockK 2 (blockK 1 (seqK (slot_Check.cd N [1, 1, 0, 1, 0, 0, 1, 1, 1]) (loopK (norm ((slot_Check.E N).keep 4) 0) (slot_Check.cd N [1, 1, 0, 1, 0, 0]) k1 (blockK 0 (seqK (slot_Check.cd N [1, 1, 1]) slot_Check.fin))))))
theorem slot_Check.l1_zero (N : Nat) (x0 : List (ByteArray × Int)) (k1 : Nat) (a2 : Int) (a5 : Int) : slot_Check.l1 N x0 k1 a2 0 a5 = none := by kernel_rfl
theorem slot_Check.l1_succ (N : Nat) (x0 : List (ByteArray × Int)) (k1 : Nat) (a2 : Int) (k4 : Nat) (a5 : Int) : slot_Check.l1 N x0 k1 a2 (k4 + 1) a5 =
    bif decide (a5 < ((List.take (Int.toNat a2) x0).length : Int)) then
      bif (decide (0 ≤ a5)) && (decide (a5 < ((List.take (Int.toNat a2) x0).length : Int))) then
        bif seq ((List.getD (List.take (Int.toNat a2) x0) (Int.toNat a5) ((⟨#[]⟩ : ByteArray), 0)).1) ((List.getD x0 (Int.toNat a2) ((⟨#[]⟩ : ByteArray), 0)).1) then
          some 7
        else
          slot_Check.l1 N x0 k1 a2 k4 (w (a5 + 1))
      else
        none
    else
      slot_Check.l0 N x0 k1 (w (a2 + 1)) := by kernel_rfl
theorem slot_Check.l0_zero (N : Nat) (x0 : List (ByteArray × Int)) (a2 : Int) : slot_Check.l0 N x0 0 a2 = none := by kernel_rfl
theorem slot_Check.l0_succ (N : Nat) (x0 : List (ByteArray × Int)) (k1 : Nat) (a2 : Int) : slot_Check.l0 N x0 (k1 + 1) a2 =
    bif decide (a2 < (x0.length : Int)) then
      bif (decide (0 ≤ a2)) && (decide (a2 < (x0.length : Int))) then
        (slot_Name.fn N ((List.getD x0 (Int.toNat a2) ((⟨#[]⟩ : ByteArray), 0)).1)).bind fun r3 =>
        bif !r3 then
          some 3
        else
        bif !(!(decide (((List.getD x0 (Int.toNat a2) ((⟨#[]⟩ : ByteArray), 0)).2) < 0))) || (!(decide (((List.getD x0 (Int.toNat a2) ((⟨#[]⟩ : ByteArray), 0)).2) < 0))) then
          bif !(!(decide (((List.getD x0 (Int.toNat a2) ((⟨#[]⟩ : ByteArray), 0)).2) < 0))) || (!(decide (((List.getD x0 (Int.toNat a2) ((⟨#[]⟩ : ByteArray), 0)).2) < 0))) then
            bif (decide (((List.getD x0 (Int.toNat a2) ((⟨#[]⟩ : ByteArray), 0)).2) < 0)) || (!(decide (((List.getD x0 (Int.toNat a2) ((⟨#[]⟩ : ByteArray), 0)).2) < 0))) then
              bif (decide (((List.getD x0 (Int.toNat a2) ((⟨#[]⟩ : ByteArray), 0)).2) < 0)) || (decide (((List.getD x0 (Int.toNat a2) ((⟨#[]⟩ : ByteArray), 0)).2) > 200000)) then
                some 12
              else
              bif (decide (0 ≤ a2)) && (decide (a2 ≤ (x0.length : Int))) then
                slot_Check.l1 N x0 k1 a2 N 0
              else
                none
            else
              none
          else
            none
        else
          none
      else
        none
    else
      some 0 := by kernel_rfl
theorem slot_Check.l0_clean (N : Nat) (x0 : List (ByteArray × Int)) (k1 : Nat) (a2 : Int) : slot_Check.l0 N x0 (k1 + 1) a2 =
    bif decide (a2 < (x0.length : Int)) then
      bif (decide (0 ≤ a2)) && (decide (a2 < (x0.length : Int))) then
        (slot_Name.fn N ((List.getD x0 (Int.toNat a2) ((⟨#[]⟩ : ByteArray), 0)).1)).bind fun r3 =>
        bif !r3 then
          some 3
        else
        bif (decide (((List.getD x0 (Int.toNat a2) ((⟨#[]⟩ : ByteArray), 0)).2) < 0)) || (decide (((List.getD x0 (Int.toNat a2) ((⟨#[]⟩ : ByteArray), 0)).2) > 200000)) then
          some 12
        else
        bif (decide (0 ≤ a2)) && (decide (a2 ≤ (x0.length : Int))) then
          slot_Check.l1 N x0 k1 a2 N 0
        else
          none
      else
        none
    else
      some 0 := by
  rw [slot_Check.l0_succ]; simp only [taut1, taut6, cond_true]
theorem slot_Check.l1_cons (N : Nat) (x0 : List (ByteArray × Int)) (k1 : Nat) (a2 : Int) (k4 : Nat) {pre r} {x} (hl : (List.take (Int.toNat a2) x0) = pre ++ x :: r) (hb : (List.take (Int.toNat a2) x0).length < 4611686018427387904) : slot_Check.l1 N x0 k1 a2 (k4 + 1) (pre.length : Int) =
    bif seq (x.1) ((List.getD x0 (Int.toNat a2) ((⟨#[]⟩ : ByteArray), 0)).1) then
      some 7
    else
      slot_Check.l1 N x0 k1 a2 k4 ((pre.length : Int) + 1) := by
  have hlen : (List.take (Int.toNat a2) x0).length = pre.length + 1 + r.length := by rw [hl]; simp; omega
  have e1 : decide ((pre.length : Int) < ((List.take (Int.toNat a2) x0).length : Int)) = true := by rw [decide_eq_true_iff]; omega
  have e2 : decide (0 ≤ (pre.length : Int)) = true := by rw [decide_eq_true_iff]; omega
  have e4 : w ((pre.length : Int) + 1) = (pre.length : Int) + 1 := w_next hl hb
  have e5 : List.take pre.length (List.take (Int.toNat a2) x0) = pre := by rw [hl]; simp
  have e6 : decide ((pre.length : Int) ≤ ((List.take (Int.toNat a2) x0).length : Int)) = true := by rw [decide_eq_true_iff]; omega
  have g0 : List.getD (List.take (Int.toNat a2) x0) pre.length ((⟨#[]⟩ : ByteArray), 0) = x := by rw [hl]; exact getD_mid pre x r _
  rw [slot_Check.l1_succ]
  simp -implicitDefEqProofs only [Int.toNat_natCast, e1, e2, e4, e6, g0, e5, Bool.and_true, Bool.true_and, Bool.true_or, cond_true]
theorem slot_Check.l1_nil (N : Nat) (x0 : List (ByteArray × Int)) (k1 : Nat) (a2 : Int) (k4 : Nat) : slot_Check.l1 N x0 k1 a2 (k4 + 1) ((List.take (Int.toNat a2) x0).length : Int) =
    slot_Check.l0 N x0 k1 (w (a2 + 1)) := by
  have e1 : decide (((List.take (Int.toNat a2) x0).length : Int) < ((List.take (Int.toNat a2) x0).length : Int)) = false := by rw [decide_eq_false_iff_not]; omega
  rw [slot_Check.l1_succ]
  simp -implicitDefEqProofs only [e1, cond_false]
theorem slot_Check.l0_cons (N : Nat) (x0 : List (ByteArray × Int)) (k1 : Nat) {pre r} {x} (hl : x0 = pre ++ x :: r) (hb : x0.length < 4611686018427387904) : slot_Check.l0 N x0 (k1 + 1) (pre.length : Int) =
    (slot_Name.fn N (x.1)).bind fun r3 =>
    bif !r3 then
      some 3
    else
    bif (decide ((x.2) < 0)) || (decide ((x.2) > 200000)) then
      some 12
    else
      slot_Check.l1 N x0 k1 (pre.length : Int) N 0 := by
  have hlen : x0.length = pre.length + 1 + r.length := by rw [hl]; simp; omega
  have e1 : decide ((pre.length : Int) < (x0.length : Int)) = true := by rw [decide_eq_true_iff]; omega
  have e2 : decide (0 ≤ (pre.length : Int)) = true := by rw [decide_eq_true_iff]; omega
  have e4 : w ((pre.length : Int) + 1) = (pre.length : Int) + 1 := w_next hl hb
  have e5 : List.take pre.length x0 = pre := by rw [hl]; simp
  have e6 : decide ((pre.length : Int) ≤ (x0.length : Int)) = true := by rw [decide_eq_true_iff]; omega
  have g0 : List.getD x0 pre.length ((⟨#[]⟩ : ByteArray), 0) = x := by rw [hl]; exact getD_mid pre x r _
  rw [slot_Check.l0_clean]
  simp -implicitDefEqProofs only [Int.toNat_natCast, e1, e2, e4, e6, g0, e5, Bool.and_true, Bool.true_and, Bool.true_or, cond_true]
theorem slot_Check.l0_nil (N : Nat) (x0 : List (ByteArray × Int)) (k1 : Nat) : slot_Check.l0 N x0 (k1 + 1) (x0.length : Int) =
    some 0 := by
  have e1 : decide ((x0.length : Int) < (x0.length : Int)) = false := by rw [decide_eq_false_iff_not]; omega
  rw [slot_Check.l0_clean]
  simp -implicitDefEqProofs only [e1, cond_false]
theorem slot_Check.eq (N : Nat) (x0 : List (ByteArray × Int)) : slot_Check.fn N x0 =
    bif decide ((x0.length : Int) > 24) then
      some 2
    else
      slot_Check.l0 N x0 N 0 := by kernel_rfl

/-! ### flow_Check: skyway/flow.Check -/
def flow_Check.kp : List (Nat × List (Nat × Option (TypeId × Ty))) := [(4, [(0, none), (8, none), (9, none), (10, none)])]
noncomputable def flow_Check.G (N : Nat) : List (Nat × Spec) := []
noncomputable def flow_Check.E (N : Nat) : Env := mkEnv (flow_Check.G N) N tyTab flow_Check.kp
noncomputable def flow_Check.fn (N : Nat) (x : List ((Int × Int) × Int)) : Option Int := evFn (flow_Check.E N) Try.prog 3 Try.f101 false [.cell (.sl 149 (.pair (.pair (.int .i64) (.int .i64)) (.int .i64)))] [.val (.cell (.int .i64))] x
noncomputable def flow_Check.S (N : Nat) : PSpec := ⟨false, [.cell (.sl 149 (.pair (.pair (.int .i64) (.int .i64)) (.int .i64)))], [.val (.cell (.int .i64))], flow_Check.fn N⟩
theorem f101_enters : Enters Try.prog 101 := ⟨Try.f101, Try.func101, by kernel_rfl, by kernel_rfl⟩
theorem flow_Check.tab (N : Nat) : TabOk Try.prog (flow_Check.G N) := trivial
theorem flow_Check.enters : Enters Try.prog 101 := f101_enters
theorem flow_Check.sound (N : Nat) : Sound Try.prog 101 (flow_Check.S N) := evFn_sound (specs_tab (flow_Check.tab N)) (inls_tab (flow_Check.tab N)) mixed 3 Try.func101 _ _ _
noncomputable def flow_Check.cd (N : Nat) (p : List Nat) : St → (Ex → St → Option Int) → Option Int := ev (flow_Check.E N) Try.prog (callD (flow_Check.E N) Try.prog 3) 0 (codeAt (bodyOf Try.f101) p)
noncomputable def flow_Check.fin : Ex → St → Option Int := endK Try.prog Try.f101 [.val (.cell (.int .i64))]
noncomputable def flow_Check.l0 (N : Nat) (x0 : List ((Int × Int) × Int)) (k1 : Nat) (a2 : Int) : Option Int :=
  loopN (norm ((flow_Check.E N).keep 4) 0) (flow_Check.cd N [1, 1, 0, 1, 0, 0]) k1
  ⟨[.ros false 149 (.pair (.pair (.int .i64) (.int .i64)) (.int .i64)) x0, .any, .any, .any, .any, .any, .any, .any, .ros false 149 (.pair (.pair (.int .i64) (.int .i64)) (.int .i64)) x0, .sc (.int .i64 (x0.length : Int)), .sc (.int .i64 a2), .any, .any, .any, .any, .any, .any, .any, .any, .any, .any, .any, .any, .any, .any, .any, .any, .any, .any, .any, .any, .any, .any, .any, .any, .any, .any, .any, .any, .any, .any, .any, .any, .any, .any, .any, .any, .any, .any, .any, .any, .any, .any, .any, .any, .any, .any, .any], []⟩
  (blockK 0 (seqK (flow_Check.cd N [1, 1, 1]) flow_Check.fin))
theorem flow_Check.l0_zero (N : Nat) (x0 : List ((Int × Int) × Int)) (a2 : Int) : flow_Check.l0 N x0 0 a2 = none := by kernel_rfl
theorem flow_Check.l0_succ (N : Nat) (x0 : List ((Int × Int) × Int)) (k1 : Nat) (a2 : Int) : flow_Check.l0 N x0 (k1 + 1) a2 =
    bif decide (a2 < (x0.length : Int)) then
      bif (decide (0 ≤ a2)) && (decide (a2 < (x0.length : Int))) then
        bif !(!(decide ((((List.getD x0 (Int.toNat a2) ((0, 0), 0)).1).1) < 0))) || (!(decide ((((List.getD x0 (Int.toNat a2) ((0, 0), 0)).1).1) < 0))) then
          bif !(!(decide ((((List.getD x0 (Int.toNat a2) ((0, 0), 0)).1).1) < 0))) || (!(decide ((((List.getD x0 (Int.toNat a2) ((0, 0), 0)).1).1) < 0))) then
            bif !(!(decide ((((List.getD x0 (Int.toNat a2) ((0, 0), 0)).1).1) < 0))) || (!(decide ((((List.getD x0 (Int.toNat a2) ((0, 0), 0)).1).1) < 0))) then
              bif (decide ((((List.getD x0 (Int.toNat a2) ((0, 0), 0)).1).1) < 0)) || (!(decide ((((List.getD x0 (Int.toNat a2) ((0, 0), 0)).1).1) < 0))) then
                bif !(!((decide ((((List.getD x0 (Int.toNat a2) ((0, 0), 0)).1).1) < 0)) || (decide ((((List.getD x0 (Int.toNat a2) ((0, 0), 0)).1).2) > 200000)))) || (!((decide ((((List.getD x0 (Int.toNat a2) ((0, 0), 0)).1).1) < 0)) || (decide ((((List.getD x0 (Int.toNat a2) ((0, 0), 0)).1).2) > 200000)))) then
                  bif !(!((decide ((((List.getD x0 (Int.toNat a2) ((0, 0), 0)).1).1) < 0)) || (decide ((((List.getD x0 (Int.toNat a2) ((0, 0), 0)).1).2) > 200000)))) || (!((decide ((((List.getD x0 (Int.toNat a2) ((0, 0), 0)).1).1) < 0)) || (decide ((((List.getD x0 (Int.toNat a2) ((0, 0), 0)).1).2) > 200000)))) then
                    bif !(!((decide ((((List.getD x0 (Int.toNat a2) ((0, 0), 0)).1).1) < 0)) || (decide ((((List.getD x0 (Int.toNat a2) ((0, 0), 0)).1).2) > 200000)))) || (!((decide ((((List.getD x0 (Int.toNat a2) ((0, 0), 0)).1).1) < 0)) || (decide ((((List.getD x0 (Int.toNat a2) ((0, 0), 0)).1).2) > 200000)))) then
                      bif !(!((decide ((((List.getD x0 (Int.toNat a2) ((0, 0), 0)).1).1) < 0)) || (decide ((((List.getD x0 (Int.toNat a2) ((0, 0), 0)).1).2) > 200000)))) || (!((decide ((((List.getD x0 (Int.toNat a2) ((0, 0), 0)).1).1) < 0)) || (decide ((((List.getD x0 (Int.toNat a2) ((0, 0), 0)).1).2) > 200000)))) then
                        bif !(!((decide ((((List.getD x0 (Int.toNat a2) ((0, 0), 0)).1).1) < 0)) || (decide ((((List.getD x0 (Int.toNat a2) ((0, 0), 0)).1).2) > 200000)))) || (!((decide ((((List.getD x0 (Int.toNat a2) ((0, 0), 0)).1).1) < 0)) || (decide ((((List.getD x0 (Int.toNat a2) ((0, 0), 0)).1).2) > 200000)))) then
                          bif !(!((decide ((((List.getD x0 (Int.toNat a2) ((0, 0), 0)).1).1) < 0)) || (decide ((((List.getD x0 (Int.toNat a2) ((0, 0), 0)).1).2) > 200000)))) || (!((decide ((((List.getD x0 (Int.toNat a2) ((0, 0), 0)).1).1) < 0)) || (decide ((((List.getD x0 (Int.toNat a2) ((0, 0), 0)).1).2) > 200000)))) then
                            bif ((decide ((((List.getD x0 (Int.toNat a2) ((0, 0), 0)).1).1) < 0)) || (decide ((((List.getD x0 (Int.toNat a2) ((0, 0), 0)).1).2) > 200000))) || (!((decide ((((List.getD x0 (Int.toNat a2) ((0, 0), 0)).1).1) < 0)) || (decide ((((List.getD x0 (Int.toNat a2) ((0, 0), 0)).1).2) > 200000)))) then
                              bif ((decide ((((List.getD x0 (Int.toNat a2) ((0, 0), 0)).1).1) < 0)) || (decide ((((List.getD x0 (Int.toNat a2) ((0, 0), 0)).1).2) > 200000))) || (decide ((((List.getD x0 (Int.toNat a2) ((0, 0), 0)).1).1) ≥ (((List.getD x0 (Int.toNat a2) ((0, 0), 0)).1).2))) then
                                some 4
                              else
                              bif !(!(decide (((List.getD x0 (Int.toNat a2) ((0, 0), 0)).2) < 0))) || (!(decide (((List.getD x0 (Int.toNat a2) ((0, 0), 0)).2) < 0))) then
                                bif !(!(decide (((List.getD x0 (Int.toNat a2) ((0, 0), 0)).2) < 0))) || (!(decide (((List.getD x0 (Int.toNat a2) ((0, 0), 0)).2) < 0))) then
                                  bif (decide (((List.getD x0 (Int.toNat a2) ((0, 0), 0)).2) < 0)) || (!(decide (((List.getD x0 (Int.toNat a2) ((0, 0), 0)).2) < 0))) then
                                    bif (decide (((List.getD x0 (Int.toNat a2) ((0, 0), 0)).2) < 0)) || (decide (((List.getD x0 (Int.toNat a2) ((0, 0), 0)).2) > 24)) then
                                      some 4
                                    else
                                    bif !(decide (a2 > 0)) || (decide (a2 > 0)) then
                                      bif !(decide (a2 > 0)) || (decide (a2 > 0)) then
                                        bif !(decide (a2 > 0)) || (decide (a2 > 0)) then
                                          bif !(decide (a2 > 0)) || (decide (a2 > 0)) then
                                            bif !(decide (a2 > 0)) || (decide (a2 > 0)) then
                                              bif ((decide (0 ≤ (w (a2 - 1)))) && (decide ((w (a2 - 1)) < (x0.length : Int)))) || !(decide (a2 > 0)) then
                                                bif !(decide (a2 > 0)) || (decide (a2 > 0)) then
                                                  bif !(decide (a2 > 0)) || (decide (a2 > 0)) then
                                                    bif !(decide (a2 > 0)) || (decide (a2 > 0)) then
                                                      bif !(decide (a2 > 0)) || (decide (a2 > 0)) then
                                                        bif !(decide (a2 > 0)) || (decide (a2 > 0)) then
                                                          bif (!(decide (a2 > 0))) || (decide (a2 > 0)) then
                                                            bif (decide (a2 > 0)) && (decide ((((List.getD x0 (Int.toNat a2) ((0, 0), 0)).1).1) < (((List.getD x0 (Int.toNat (w (a2 - 1))) ((0, 0), 0)).1).2))) then
                                                              some 12
                                                            else
                                                              flow_Check.l0 N x0 k1 (w (a2 + 1))
                                                          else
                                                            none
                                                        else
                                                          none
                                                      else
                                                        none
                                                    else
                                                      none
                                                  else
                                                    none
                                                else
                                                  none
                                              else
                                                none
                                            else
                                              none
                                          else
                                            none
                                        else
                                          none
                                      else
                                        none
                                    else
                                      none
                                  else
                                    none
                                else
                                  none
                              else
                                none
                            else
                              none
                          else
                            none
                        else
                          none
                      else
                        none
                    else
                      none
                  else
                    none
                else
                  none
              else
                none
            else
              none
          else
            none
        else
          none
      else
        none
    else
      some 0 := by kernel_rfl
theorem taut11 : ∀ p0 : Bool, ((!(p0) || (p0))) = true := by decide
theorem taut12 : ∀ p0 : Bool, (((!(p0)) || (p0))) = true := by decide
theorem flow_Check.l0_clean (N : Nat) (x0 : List ((Int × Int) × Int)) (k1 : Nat) (a2 : Int) : flow_Check.l0 N x0 (k1 + 1) a2 =
    bif decide (a2 < (x0.length : Int)) then
      bif (decide (0 ≤ a2)) && (decide (a2 < (x0.length : Int))) then
        bif ((decide ((((List.getD x0 (Int.toNat a2) ((0, 0), 0)).1).1) < 0)) || (decide ((((List.getD x0 (Int.toNat a2) ((0, 0), 0)).1).2) > 200000))) || (decide ((((List.getD x0 (Int.toNat a2) ((0, 0), 0)).1).1) ≥ (((List.getD x0 (Int.toNat a2) ((0, 0), 0)).1).2))) then
          some 4
        else
        bif (decide (((List.getD x0 (Int.toNat a2) ((0, 0), 0)).2) < 0)) || (decide (((List.getD x0 (Int.toNat a2) ((0, 0), 0)).2) > 24)) then
          some 4
        else
        bif ((decide (0 ≤ (w (a2 - 1)))) && (decide ((w (a2 - 1)) < (x0.length : Int)))) || !(decide (a2 > 0)) then
          bif (decide (a2 > 0)) && (decide ((((List.getD x0 (Int.toNat a2) ((0, 0), 0)).1).1) < (((List.getD x0 (Int.toNat (w (a2 - 1))) ((0, 0), 0)).1).2))) then
            some 12
          else
            flow_Check.l0 N x0 k1 (w (a2 + 1))
        else
          none
      else
        none
    else
      some 0 := by
  rw [flow_Check.l0_succ]; simp only [taut8, taut1, taut11, taut12, taut10, taut6, cond_true]
theorem flow_Check.l0_cons (N : Nat) (x0 : List ((Int × Int) × Int)) (k1 : Nat) {pre r} {x} (hl : x0 = pre ++ x :: r) (hb : x0.length < 4611686018427387904) : flow_Check.l0 N x0 (k1 + 1) (pre.length : Int) =
    bif ((decide (((x.1).1) < 0)) || (decide (((x.1).2) > 200000))) || (decide (((x.1).1) ≥ ((x.1).2))) then
      some 4
    else
    bif (decide ((x.2) < 0)) || (decide ((x.2) > 24)) then
      some 4
    else
    bif ((decide (0 ≤ (w ((pre.length : Int) - 1)))) && (decide ((w ((pre.length : Int) - 1)) < (x0.length : Int)))) || !(decide ((pre.length : Int) > 0)) then
      bif (decide ((pre.length : Int) > 0)) && (decide (((x.1).1) < (((List.getD x0 (Int.toNat (w ((pre.length : Int) - 1))) ((0, 0), 0)).1).2))) then
        some 12
      else
        flow_Check.l0 N x0 k1 ((pre.length : Int) + 1)
    else
      none := by
  have hlen : x0.length = pre.length + 1 + r.length := by rw [hl]; simp; omega
  have e1 : decide ((pre.length : Int) < (x0.length : Int)) = true := by rw [decide_eq_true_iff]; omega
  have e2 : decide (0 ≤ (pre.length : Int)) = true := by rw [decide_eq_true_iff]; omega
  have e4 : w ((pre.length : Int) + 1) = (pre.length : Int) + 1 := w_next hl hb
  have e5 : List.take pre.length x0 = pre := by rw [hl]; simp
  have e6 : decide ((pre.length : Int) ≤ (x0.length : Int)) = true := by rw [decide_eq_true_iff]; omega
  have g0 : List.getD x0 pre.length ((0, 0), 0) = x := by rw [hl]; exact getD_mid pre x r _
  rw [flow_Check.l0_clean]
  simp -implicitDefEqProofs only [Int.toNat_natCast, e1, e2, e4, e6, g0, e5, Bool.and_true, Bool.true_and, Bool.true_or, cond_true]
theorem flow_Check.l0_nil (N : Nat) (x0 : List ((Int × Int) × Int)) (k1 : Nat) : flow_Check.l0 N x0 (k1 + 1) (x0.length : Int) =
    some 0 := by
  have e1 : decide ((x0.length : Int) < (x0.length : Int)) = false := by rw [decide_eq_false_iff_not]; omega
  rw [flow_Check.l0_clean]
  simp -implicitDefEqProofs only [e1, cond_false]
theorem flow_Check.eq (N : Nat) (x0 : List ((Int × Int) × Int)) : flow_Check.fn N x0 =
    bif decide ((x0.length : Int) > 256) then
      some 2
    else
      flow_Check.l0 N x0 N 0 := by kernel_rfl

/-! ### slices_Clone_FlowCap: slices.Clone[[]skyway/api.FlowCap,skyway/api.FlowCap] -/
def slices_Clone_FlowCap.kp : List (Nat × List (Nat × Option (TypeId × Ty))) := []
noncomputable def slices_Clone_FlowCap.G (N : Nat) : List (Nat × Spec) := []
noncomputable def slices_Clone_FlowCap.E (N : Nat) : Env := mkEnv (slices_Clone_FlowCap.G N) N tyTab slices_Clone_FlowCap.kp
noncomputable def slices_Clone_FlowCap.fn (N : Nat) (x : List ((Int × Int) × Int)) : Option (List ((Int × Int) × Int)) := evFn (slices_Clone_FlowCap.E N) Try.prog 3 Try.f102 false [.cell (.sl 149 (.pair (.pair (.int .i64) (.int .i64)) (.int .i64)))] [.own 149 (.pair (.pair (.int .i64) (.int .i64)) (.int .i64))] x
noncomputable def slices_Clone_FlowCap.S (N : Nat) : PSpec := ⟨false, [.cell (.sl 149 (.pair (.pair (.int .i64) (.int .i64)) (.int .i64)))], [.own 149 (.pair (.pair (.int .i64) (.int .i64)) (.int .i64))], slices_Clone_FlowCap.fn N⟩
theorem f102_enters : Enters Try.prog 102 := ⟨Try.f102, Try.func102, by kernel_rfl, by kernel_rfl⟩
theorem slices_Clone_FlowCap.tab (N : Nat) : TabOk Try.prog (slices_Clone_FlowCap.G N) := trivial
theorem slices_Clone_FlowCap.enters : Enters Try.prog 102 := f102_enters
theorem slices_Clone_FlowCap.sound (N : Nat) : Sound Try.prog 102 (slices_Clone_FlowCap.S N) := evFn_sound (specs_tab (slices_Clone_FlowCap.tab N)) (inls_tab (slices_Clone_FlowCap.tab N)) mixed 3 Try.func102 _ _ _
theorem slices_Clone_FlowCap.eq (N : Nat) (x0 : List ((Int × Int) × Int)) : slices_Clone_FlowCap.fn N x0 =
    bif x0.isEmpty then
      agree (
        some []) (
        bif decide ((0 + x0.length) * 24 ≤ 140737488355328) && decide ((0 + x0.length) ≤ maxLen) then
          some x0
        else
          none)
    else
    bif decide ((0 + x0.length) * 24 ≤ 140737488355328) && decide ((0 + x0.length) ≤ maxLen) then
      some x0
    else
      none := by kernel_rfl
theorem slices_Clone_FlowCap.v (N : Nat) (x0 : List ((Int × Int) × Int)) (h : x0.length * 24 ≤ 140737488355328) : slices_Clone_FlowCap.fn N x0 = some x0 := clone_v (B := 24) (slices_Clone_FlowCap.eq N x0) (by omega) h

/-! ### slices_Clone_SlotDemand: slices.Clone[[]skyway/api.SlotDemand,skyway/api.SlotDemand] -/
def slices_Clone_SlotDemand.kp : List (Nat × List (Nat × Option (TypeId × Ty))) := []
noncomputable def slices_Clone_SlotDemand.G (N : Nat) : List (Nat × Spec) := []
noncomputable def slices_Clone_SlotDemand.E (N : Nat) : Env := mkEnv (slices_Clone_SlotDemand.G N) N tyTab slices_Clone_SlotDemand.kp
noncomputable def slices_Clone_SlotDemand.fn (N : Nat) (x : List (ByteArray × Int)) : Option (List (ByteArray × Int)) := evFn (slices_Clone_SlotDemand.E N) Try.prog 3 Try.f103 false [.cell (.sl 106 (.pair (.str) (.int .i64)))] [.own 106 (.pair (.str) (.int .i64))] x
noncomputable def slices_Clone_SlotDemand.S (N : Nat) : PSpec := ⟨false, [.cell (.sl 106 (.pair (.str) (.int .i64)))], [.own 106 (.pair (.str) (.int .i64))], slices_Clone_SlotDemand.fn N⟩
theorem f103_enters : Enters Try.prog 103 := ⟨Try.f103, Try.func103, by kernel_rfl, by kernel_rfl⟩
theorem slices_Clone_SlotDemand.tab (N : Nat) : TabOk Try.prog (slices_Clone_SlotDemand.G N) := trivial
theorem slices_Clone_SlotDemand.enters : Enters Try.prog 103 := f103_enters
theorem slices_Clone_SlotDemand.sound (N : Nat) : Sound Try.prog 103 (slices_Clone_SlotDemand.S N) := evFn_sound (specs_tab (slices_Clone_SlotDemand.tab N)) (inls_tab (slices_Clone_SlotDemand.tab N)) mixed 3 Try.func103 _ _ _
theorem slices_Clone_SlotDemand.eq (N : Nat) (x0 : List (ByteArray × Int)) : slices_Clone_SlotDemand.fn N x0 =
    bif x0.isEmpty then
      agree (
        some []) (
        bif decide ((0 + x0.length) * 24 ≤ 140737488355328) && decide ((0 + x0.length) ≤ maxLen) then
          some x0
        else
          none)
    else
    bif decide ((0 + x0.length) * 24 ≤ 140737488355328) && decide ((0 + x0.length) ≤ maxLen) then
      some x0
    else
      none := by kernel_rfl
theorem slices_Clone_SlotDemand.v (N : Nat) (x0 : List (ByteArray × Int)) (h : x0.length * 24 ≤ 140737488355328) : slices_Clone_SlotDemand.fn N x0 = some x0 := clone_v (B := 24) (slices_Clone_SlotDemand.eq N x0) (by omega) h

/-! ### cmp_isNaN_int: cmp.isNaN[int] -/
def cmp_isNaN_int.kp : List (Nat × List (Nat × Option (TypeId × Ty))) := []
noncomputable def cmp_isNaN_int.G (N : Nat) : List (Nat × Spec) := []
noncomputable def cmp_isNaN_int.E (N : Nat) : Env := mkEnv (cmp_isNaN_int.G N) N tyTab cmp_isNaN_int.kp
noncomputable def cmp_isNaN_int.fn (N : Nat) (x : Int) : Option Bool := evFn (cmp_isNaN_int.E N) Try.prog 3 Try.f127 false [.cell (.int .i64)] [.val (.cell (.bool))] x
noncomputable def cmp_isNaN_int.S (N : Nat) : PSpec := ⟨false, [.cell (.int .i64)], [.val (.cell (.bool))], cmp_isNaN_int.fn N⟩
theorem f127_enters : Enters Try.prog 127 := ⟨Try.f127, Try.func127, by kernel_rfl, by kernel_rfl⟩
theorem cmp_isNaN_int.tab (N : Nat) : TabOk Try.prog (cmp_isNaN_int.G N) := trivial
theorem cmp_isNaN_int.enters : Enters Try.prog 127 := f127_enters
theorem cmp_isNaN_int.sound (N : Nat) : Sound Try.prog 127 (cmp_isNaN_int.S N) := evFn_sound (specs_tab (cmp_isNaN_int.tab N)) (inls_tab (cmp_isNaN_int.tab N)) mixed 3 Try.func127 _ _ _
theorem cmp_isNaN_int.eq (N : Nat) (x0 : Int) : cmp_isNaN_int.fn N x0 =
    some (!(x0 == x0)) := by kernel_rfl

/-! ### cmp_Compare_int: cmp.Compare[int] -/
def cmp_Compare_int.kp : List (Nat × List (Nat × Option (TypeId × Ty))) := []
noncomputable def cmp_Compare_int.G (N : Nat) : List (Nat × Spec) := [(127, .pure (cmp_isNaN_int.S N))]
noncomputable def cmp_Compare_int.E (N : Nat) : Env := mkEnv (cmp_Compare_int.G N) N tyTab cmp_Compare_int.kp
noncomputable def cmp_Compare_int.fn (N : Nat) (x : Int × Int) : Option Int := evFn (cmp_Compare_int.E N) Try.prog 3 Try.f96 false [.cell (.int .i64), .cell (.int .i64)] [.val (.cell (.int .i64))] x
noncomputable def cmp_Compare_int.S (N : Nat) : PSpec := ⟨false, [.cell (.int .i64), .cell (.int .i64)], [.val (.cell (.int .i64))], cmp_Compare_int.fn N⟩
theorem f96_enters : Enters Try.prog 96 := ⟨Try.f96, Try.func96, by kernel_rfl, by kernel_rfl⟩
theorem cmp_Compare_int.tab (N : Nat) : TabOk Try.prog (cmp_Compare_int.G N) := ⟨⟨cmp_isNaN_int.enters, cmp_isNaN_int.sound N⟩, trivial⟩
theorem cmp_Compare_int.enters : Enters Try.prog 96 := f96_enters
theorem cmp_Compare_int.sound (N : Nat) : Sound Try.prog 96 (cmp_Compare_int.S N) := evFn_sound (specs_tab (cmp_Compare_int.tab N)) (inls_tab (cmp_Compare_int.tab N)) mixed 3 Try.func96 _ _ _
theorem cmp_Compare_int.eq (N : Nat) (x0 : Int) (x1 : Int) : cmp_Compare_int.fn N (x0, x1) =
    (cmp_isNaN_int.fn N x0).bind fun r1 =>
    (cmp_isNaN_int.fn N x1).bind fun r2 =>
    bif r1 then
      bif r2 then
        some 0
      else
        some (-1)
    else
    bif r2 then
      some 1
    else
    bif decide (x0 < x1) then
      some (-1)
    else
    bif decide (x0 > x1) then
      some 1
    else
      some 0 := by kernel_rfl

/-! ### cmp_isNaN_string: cmp.isNaN[string] -/
def cmp_isNaN_string.kp : List (Nat × List (Nat × Option (TypeId × Ty))) := []
noncomputable def cmp_isNaN_string.G (N : Nat) : List (Nat × Spec) := []
noncomputable def cmp_isNaN_string.E (N : Nat) : Env := mkEnv (cmp_isNaN_string.G N) N tyTab cmp_isNaN_string.kp
noncomputable def cmp_isNaN_string.fn (N : Nat) (x : ByteArray) : Option Bool := evFn (cmp_isNaN_string.E N) Try.prog 3 Try.f128 false [.cell (.str)] [.val (.cell (.bool))] x
noncomputable def cmp_isNaN_string.S (N : Nat) : PSpec := ⟨false, [.cell (.str)], [.val (.cell (.bool))], cmp_isNaN_string.fn N⟩
theorem f128_enters : Enters Try.prog 128 := ⟨Try.f128, Try.func128, by kernel_rfl, by kernel_rfl⟩
theorem cmp_isNaN_string.tab (N : Nat) : TabOk Try.prog (cmp_isNaN_string.G N) := trivial
theorem cmp_isNaN_string.enters : Enters Try.prog 128 := f128_enters
theorem cmp_isNaN_string.sound (N : Nat) : Sound Try.prog 128 (cmp_isNaN_string.S N) := evFn_sound (specs_tab (cmp_isNaN_string.tab N)) (inls_tab (cmp_isNaN_string.tab N)) mixed 3 Try.func128 _ _ _
theorem cmp_isNaN_string.eq (N : Nat) (x0 : ByteArray) : cmp_isNaN_string.fn N x0 =
    some (!(seq x0 x0)) := by kernel_rfl

/-! ### cmp_Compare_string: cmp.Compare[string] -/
def cmp_Compare_string.kp : List (Nat × List (Nat × Option (TypeId × Ty))) := []
noncomputable def cmp_Compare_string.G (N : Nat) : List (Nat × Spec) := [(128, .pure (cmp_isNaN_string.S N))]
noncomputable def cmp_Compare_string.E (N : Nat) : Env := mkEnv (cmp_Compare_string.G N) N tyTab cmp_Compare_string.kp
noncomputable def cmp_Compare_string.fn (N : Nat) (x : ByteArray × ByteArray) : Option Int := evFn (cmp_Compare_string.E N) Try.prog 3 Try.f97 false [.cell (.str), .cell (.str)] [.val (.cell (.int .i64))] x
noncomputable def cmp_Compare_string.S (N : Nat) : PSpec := ⟨false, [.cell (.str), .cell (.str)], [.val (.cell (.int .i64))], cmp_Compare_string.fn N⟩
theorem f97_enters : Enters Try.prog 97 := ⟨Try.f97, Try.func97, by kernel_rfl, by kernel_rfl⟩
theorem cmp_Compare_string.tab (N : Nat) : TabOk Try.prog (cmp_Compare_string.G N) := ⟨⟨cmp_isNaN_string.enters, cmp_isNaN_string.sound N⟩, trivial⟩
theorem cmp_Compare_string.enters : Enters Try.prog 97 := f97_enters
theorem cmp_Compare_string.sound (N : Nat) : Sound Try.prog 97 (cmp_Compare_string.S N) := evFn_sound (specs_tab (cmp_Compare_string.tab N)) (inls_tab (cmp_Compare_string.tab N)) mixed 3 Try.func97 _ _ _
theorem cmp_Compare_string.eq (N : Nat) (x0 : ByteArray) (x1 : ByteArray) : cmp_Compare_string.fn N (x0, x1) =
    (cmp_isNaN_string.fn N x0).bind fun r1 =>
    (cmp_isNaN_string.fn N x1).bind fun r2 =>
    bif r1 then
      bif r2 then
        some 0
      else
        some (-1)
    else
    bif r2 then
      some 1
    else
    bif slt x0 x1 then
      some (-1)
    else
    bif !((slt x0 x1) || (seq x0 x1)) then
      some 1
    else
      some 0 := by kernel_rfl

/-! ### cmp_Or_int: cmp.Or[int] -/
def cmp_Or_int.kp : List (Nat × List (Nat × Option (TypeId × Ty))) := [(3, [(3, none), (6, none), (7, none), (8, none)])]
noncomputable def cmp_Or_int.G (N : Nat) : List (Nat × Spec) := []
noncomputable def cmp_Or_int.E (N : Nat) : Env := mkEnv (cmp_Or_int.G N) N tyTab cmp_Or_int.kp
noncomputable def cmp_Or_int.fn (N : Nat) (x : List Int) : Option Int := evFn (cmp_Or_int.E N) Try.prog 3 Try.f95 false [.cell (.sl 3 (.int .i64))] [.val (.cell (.int .i64))] x
noncomputable def cmp_Or_int.S (N : Nat) : PSpec := ⟨false, [.cell (.sl 3 (.int .i64))], [.val (.cell (.int .i64))], cmp_Or_int.fn N⟩
theorem f95_enters : Enters Try.prog 95 := ⟨Try.f95, Try.func95, by kernel_rfl, by kernel_rfl⟩
theorem cmp_Or_int.tab (N : Nat) : TabOk Try.prog (cmp_Or_int.G N) := trivial
theorem cmp_Or_int.enters : Enters Try.prog 95 := f95_enters
theorem cmp_Or_int.sound (N : Nat) : Sound Try.prog 95 (cmp_Or_int.S N) := evFn_sound (specs_tab (cmp_Or_int.tab N)) (inls_tab (cmp_Or_int.tab N)) mixed 3 Try.func95 _ _ _
noncomputable def cmp_Or_int.cd (N : Nat) (p : List Nat) : St → (Ex → St → Option Int) → Option Int := ev (cmp_Or_int.E N) Try.prog (callD (cmp_Or_int.E N) Try.prog 3) 0 (codeAt (bodyOf Try.f95) p)
noncomputable def cmp_Or_int.fin : Ex → St → Option Int := endK Try.prog Try.f95 [.val (.cell (.int .i64))]
noncomputable def cmp_Or_int.l0 (N : Nat) (x0 : List Int) (k1 : Nat) (a2 : Int) : Option Int :=
  loopN (norm ((cmp_Or_int.E N).keep 3) 0) (cmp_Or_int.cd N [1, 1, 0, 1, 0, 0]) k1
  ⟨[.any, .any, .any, .sc (.int .i64 0), .any, .any, .ros false 3 (.int .i64) x0, .sc (.int .i64 (x0.length : Int)), .sc (.int .i64 a2), .any, .any, .any, .any, .any, .any, .any, .any, .any], []⟩
  (blockK 0 (seqK (cmp_Or_int.cd N [1, 1, 1]) cmp_Or_int.fin))
theorem cmp_Or_int.l0_zero (N : Nat) (x0 : List Int) (a2 : Int) : cmp_Or_int.l0 N x0 0 a2 = none := by kernel_rfl
theorem cmp_Or_int.l0_succ (N : Nat) (x0 : List Int) (k1 : Nat) (a2 : Int) : cmp_Or_int.l0 N x0 (k1 + 1) a2 =
    bif decide (a2 < (x0.length : Int)) then
      bif (decide (0 ≤ a2)) && (decide (a2 < (x0.length : Int))) then
        bif !((List.getD x0 (Int.toNat a2) 0) == 0) then
          some (List.getD x0 (Int.toNat a2) 0)
        else
          cmp_Or_int.l0 N x0 k1 (w (a2 + 1))
      else
        none
    else
      some 0 := by kernel_rfl
theorem cmp_Or_int.l0_cons (N : Nat) (x0 : List Int) (k1 : Nat) {pre r} {x} (hl : x0 = pre ++ x :: r) (hb : x0.length < 4611686018427387904) : cmp_Or_int.l0 N x0 (k1 + 1) (pre.length : Int) =
    bif !(x == 0) then
      some x
    else
      cmp_Or_int.l0 N x0 k1 ((pre.length : Int) + 1) := by
  have hlen : x0.length = pre.length + 1 + r.length := by rw [hl]; simp; omega
  have e1 : decide ((pre.length : Int) < (x0.length : Int)) = true := by rw [decide_eq_true_iff]; omega
  have e2 : decide (0 ≤ (pre.length : Int)) = true := by rw [decide_eq_true_iff]; omega
  have e4 : w ((pre.length : Int) + 1) = (pre.length : Int) + 1 := w_next hl hb
  have e5 : List.take pre.length x0 = pre := by rw [hl]; simp
  have e6 : decide ((pre.length : Int) ≤ (x0.length : Int)) = true := by rw [decide_eq_true_iff]; omega
  have g0 : List.getD x0 pre.length 0 = x := by rw [hl]; exact getD_mid pre x r _
  rw [cmp_Or_int.l0_succ]
  simp -implicitDefEqProofs only [Int.toNat_natCast, e1, e2, e4, e6, g0, e5, Bool.and_true, Bool.true_and, Bool.true_or, cond_true]
theorem cmp_Or_int.l0_nil (N : Nat) (x0 : List Int) (k1 : Nat) : cmp_Or_int.l0 N x0 (k1 + 1) (x0.length : Int) =
    some 0 := by
  have e1 : decide ((x0.length : Int) < (x0.length : Int)) = false := by rw [decide_eq_false_iff_not]; omega
  rw [cmp_Or_int.l0_succ]
  simp -implicitDefEqProofs only [e1, cond_false]
theorem cmp_Or_int.eq (N : Nat) (x0 : List Int) : cmp_Or_int.fn N x0 =
    cmp_Or_int.l0 N x0 N 0 := by kernel_rfl

/-! ### slot_before: skyway/slot.before -/
def slot_before.kp : List (Nat × List (Nat × Option (TypeId × Ty))) := []
noncomputable def slot_before.G (N : Nat) : List (Nat × Spec) := [(95, .pure (cmp_Or_int.S N)), (96, .pure (cmp_Compare_int.S N)), (97, .pure (cmp_Compare_string.S N))]
noncomputable def slot_before.E (N : Nat) : Env := mkEnv (slot_before.G N) N tyTab slot_before.kp
noncomputable def slot_before.fn (N : Nat) (x : (ByteArray × Int) × ByteArray × Int) : Option Int := evFn (slot_before.E N) Try.prog 3 Try.f105 false [.agg (.pair (.str) (.int .i64)), .agg (.pair (.str) (.int .i64))] [.val (.cell (.int .i64))] x
noncomputable def slot_before.S (N : Nat) : PSpec := ⟨false, [.agg (.pair (.str) (.int .i64)), .agg (.pair (.str) (.int .i64))], [.val (.cell (.int .i64))], slot_before.fn N⟩
theorem f105_enters : Enters Try.prog 105 := ⟨Try.f105, Try.func105, by kernel_rfl, by kernel_rfl⟩
theorem slot_before.tab (N : Nat) : TabOk Try.prog (slot_before.G N) := ⟨⟨cmp_Or_int.enters, cmp_Or_int.sound N⟩, ⟨cmp_Compare_int.enters, cmp_Compare_int.sound N⟩, ⟨cmp_Compare_string.enters, cmp_Compare_string.sound N⟩, trivial⟩
theorem slot_before.enters : Enters Try.prog 105 := f105_enters
theorem slot_before.sound (N : Nat) : Sound Try.prog 105 (slot_before.S N) := evFn_sound (specs_tab (slot_before.tab N)) (inls_tab (slot_before.tab N)) mixed 3 Try.func105 _ _ _
theorem slot_before.reads (N : Nat) : ReadsOk Try.prog 105 [.agg (.pair (.str) (.int .i64)), .agg (.pair (.str) (.int .i64))] (slot_before.fn N) := evFn_reads (specs_tab (slot_before.tab N)) (inls_tab (slot_before.tab N)) mixed 3 Try.func105 _ _
theorem slot_before.eq (N : Nat) (x0 : ByteArray × Int) (x1 : ByteArray × Int) : slot_before.fn N (x0, x1) =
    (cmp_Compare_int.fn N (x0.2, x1.2)).bind fun r1 =>
    (cmp_Compare_string.fn N (x0.1, x1.1)).bind fun r2 =>
    (cmp_Or_int.fn N [r1, r2]).bind fun r3 =>
    some r3 := by kernel_rfl

/-! ### slot_Assign: skyway/slot.Assign -/
theorem f104_enters : Enters Try.prog 104 := ⟨Try.f104, Try.func104, by kernel_rfl, by kernel_rfl⟩
def slot_Assign.kp : List (Nat × List (Nat × Option (TypeId × Ty))) := [(2, [(0, none), (1, none), (7, none), (8, none), (9, none)]), (14, [(0, none), (10, none), (12, some (94, .pair (.str) (.pair (.str) (.int .i64)))), (35, none), (36, none), (37, none)])]
noncomputable def slot_Assign.G (N : Nat) : List (Nat × Spec) := [(52, .pure (slot_Check.S N)), (54, .pure (slot_Name.S N)), (101, .pure (flow_Check.S N)), (102, .pure (slices_Clone_FlowCap.S N)), (103, .pure (slices_Clone_SlotDemand.S N)), (104, .mac (sortM 106 105 (.agg (.pair (.str) (.int .i64))) [] (slot_before.fn N))), (106, .inl Try.f106)]
noncomputable def slot_Assign.E (N : Nat) : Env := mkEnv (slot_Assign.G N) N tyTab slot_Assign.kp
noncomputable def slot_Assign.fn (N : Nat) (x : ByteArray × List (ByteArray × Int) × List ((Int × Int) × Int)) : Option (List (ByteArray × ByteArray × Int) × Int) := evFn (slot_Assign.E N) Try.prog 3 Try.f51 false [.cell (.str), .cell (.sl 106 (.pair (.str) (.int .i64))), .cell (.sl 149 (.pair (.pair (.int .i64) (.int .i64)) (.int .i64)))] [.own 94 (.pair (.str) (.pair (.str) (.int .i64))), .val (.cell (.int .i64))] x
noncomputable def slot_Assign.S (N : Nat) : PSpec := ⟨false, [.cell (.str), .cell (.sl 106 (.pair (.str) (.int .i64))), .cell (.sl 149 (.pair (.pair (.int .i64) (.int .i64)) (.int .i64)))], [.own 94 (.pair (.str) (.pair (.str) (.int .i64))), .val (.cell (.int .i64))], slot_Assign.fn N⟩
theorem f106_enters : Enters Try.prog 106 := ⟨Try.f106, Try.func106, by kernel_rfl, by kernel_rfl⟩
theorem f51_enters : Enters Try.prog 51 := ⟨Try.f51, Try.func51, by kernel_rfl, by kernel_rfl⟩
theorem slot_Assign.tab (N : Nat) : TabOk Try.prog (slot_Assign.G N) := ⟨⟨slot_Check.enters, slot_Check.sound N⟩, ⟨slot_Name.enters, slot_Name.sound N⟩, ⟨flow_Check.enters, flow_Check.sound N⟩, ⟨slices_Clone_FlowCap.enters, slices_Clone_FlowCap.sound N⟩, ⟨slices_Clone_SlotDemand.enters, slices_Clone_SlotDemand.sound N⟩, ⟨f104_enters, sort_sound (v := .agg (.pair (.str) (.int .i64))) (r := []) trivial Sort104.sortC (enters_run f105_enters) (slot_before.reads N)⟩, ⟨f106_enters, Try.func106⟩, trivial⟩
theorem slot_Assign.enters : Enters Try.prog 51 := f51_enters
theorem slot_Assign.sound (N : Nat) : Sound Try.prog 51 (slot_Assign.S N) := evFn_sound (specs_tab (slot_Assign.tab N)) (inls_tab (slot_Assign.tab N)) mixed 3 Try.func51 _ _ _
noncomputable def slot_Assign.cd (N : Nat) (p : List Nat) : St → (Ex → St → Option (List (ByteArray × ByteArray × Int) × Int)) → Option (List (ByteArray × ByteArray × Int) × Int) := ev (slot_Assign.E N) Try.prog (callD (slot_Assign.E N) Try.prog 3) 0 (codeAt (bodyOf Try.f51) p)
noncomputable def slot_Assign.cd106_2_4 (N : Nat) (p : List Nat) : St → (Ex → St → Option (List (ByteArray × ByteArray × Int) × Int)) → Option (List (ByteArray × ByteArray × Int) × Int) := ev (slot_Assign.E N) Try.prog (callD (slot_Assign.E N) Try.prog 2) 4 (codeAt (bodyOf Try.f106) p)
noncomputable def slot_Assign.fin : Ex → St → Option (List (ByteArray × ByteArray × Int) × Int) := endK Try.prog Try.f51 [.own 94 (.pair (.str) (.pair (.str) (.int .i64))), .val (.cell (.int .i64))]
noncomputable def slot_Assign.l0 (N : Nat) (x0 : ByteArray) (r5 : List (ByteArray × Int)) (k6 : Nat) (a7 : Int) (a8 : List ((Int × Int) × Int)) (a9 : List (ByteArray × ByteArray × Int)) : Option (List (ByteArray × ByteArray × Int) × Int) :=
  loopN (norm ((slot_Assign.E N).keep 14) 0) (slot_Assign.cd N [1, 1, 1, 1, 1, 1, 1, 1, 0, 1, 0, 0]) k6
  ⟨[.sc (.string x0), .any, .any, .any, .any, .any, .any, .any, .any, .any, .own 0, .any, .own 1, .any, .any, .any, .any, .any, .any, .any, .any, .any, .any, .any, .any, .any, .any, .any, .any, .any, .any, .any, .any, .any, .any, .own 2, .sc (.int .i64 ((sortL (fun (p q : ByteArray × Int) => slot_before.fn N (p, q)) r5).length : Int)), .sc (.int .i64 a7), .any, .any, .any, .any, .any, .any, .any, .any, .any, .any, .any, .any, .any, .any, .any, .any, .any, .any, .any], [.rows true 149 (.pair (.pair (.int .i64) (.int .i64)) (.int .i64)) a8, .rows true 94 (.pair (.str) (.pair (.str) (.int .i64))) a9, .rows true 106 (.pair (.str) (.int .i64)) (sortL (fun (p q : ByteArray × Int) => slot_before.fn N (p, q)) r5)]⟩
  (blockK 0 (seqK (slot_Assign.cd N [1, 1, 1, 1, 1, 1, 1, 1, 1]) slot_Assign.fin))
noncomputable def slot_Assign.l1 (N : Nat) (x0 : ByteArray) (r5 : List (ByteArray × Int)) (k6 : Nat) (a7 : Int) (a8 : List ((Int × Int) × Int)) (a9 : List (ByteArray × ByteArray × Int)) (k10 : Nat) (a11 : Int) : Option (List (ByteArray × ByteArray × Int) × Int) :=
  loopN (norm ((slot_Assign.E N).keep 2) 4) (slot_Assign.cd106_2_4 N [1, 0, 1, 0, 0]) k10
  ⟨[.own 0, .sc (.int .i64 ((List.getD (sortL (fun (p q : ByteArray × Int) => slot_before.fn N (p, q)) r5) (Int.toNat a7) ((⟨#[]⟩ : ByteArray), 0)).2)), .any, .any, .any, .any, .any, .own 0, .sc (.int .i64 (a8.length : Int)), .sc (.int .i64 a11), .any, .any, .any, .any, .any, .any, .any, .any, .any, .any, .any, .any, .any, .any, .any, .any, .any, .any, .any, .any, .any, .any, .any, .any, .any, .any, .any, .any], [.rows true 149 (.pair (.pair (.int .i64) (.int .i64)) (.int .i64)) a8, .rows true 94 (.pair (.str) (.pair (.str) (.int .i64))) a9, .rows true 106 (.pair (.str) (.int .i64)) (sortL (fun (p q : ByteArray × Int) => slot_before.fn N (p, q)) r5), .cells [.sc (.string ((List.getD (sortL (fun (p q : ByteArray × Int) => slot_before.fn N (p, q)) r5) (Int.toNat a7) ((⟨#[]⟩ : ByteArray), 0)).1)), .sc (.int .i64 ((List.getD (sortL (fun (p q : ByteArray × Int) => slot_before.fn N (p, q)) r5) (Int.toNat a7) ((⟨#[]⟩ : ByteArray), 0)).2))] 106]⟩
  (blockK 0 (seqK (slot_Assign.cd106_2_4 N [1, 1]) (retK Try.prog Try.f106 (fun vs hp => (reg (slot_Assign.E N) Try.prog (callD (slot_Assign.E N) Try.prog 3) (opsAt (codeAt (bodyOf Try.f51) [1, 1, 1, 1, 1, 1, 1, 1, 0, 1, 0, 0, 1, 1, 0, 0, 1, 0])) [] (List.drop 4 (opsAt (codeAt (bodyOf Try.f51) [1, 1, 1, 1, 1, 1, 1, 1, 0, 1, 0, 0, 1, 1, 0, 0, 1, 0]))) (St.put ⟨[.sc (.string x0), .any, .any, .any, .any, .any, .any, .any, .any, .any, .own 0, .any, .own 1, .any, .ptr 3 0, .any, .any, .any, .any, .any, .any, .any, .any, .any, .any, .any, .any, .any, .any, .any, .any, .any, .any, .any, .any, .own 2, .sc (.int .i64 ((sortL (fun (p q : ByteArray × Int) => slot_before.fn N (p, q)) r5).length : Int)), .sc (.int .i64 a7), .sc (.bool (decide (a7 < ((sortL (fun (p q : ByteArray × Int) => slot_before.fn N (p, q)) r5).length : Int)))), .rptr 2 (Int.toNat a7) 0, .agg [.sc (.string ((List.getD (sortL (fun (p q : ByteArray × Int) => slot_before.fn N (p, q)) r5) (Int.toNat a7) ((⟨#[]⟩ : ByteArray), 0)).1)), .sc (.int .i64 ((List.getD (sortL (fun (p q : ByteArray × Int) => slot_before.fn N (p, q)) r5) (Int.toNat a7) ((⟨#[]⟩ : ByteArray), 0)).2))], .own 0, .ptr 3 1, .sc (.int .i64 ((List.getD (sortL (fun (p q : ByteArray × Int) => slot_before.fn N (p, q)) r5) (Int.toNat a7) ((⟨#[]⟩ : ByteArray), 0)).2)), .any, .any, .any, .any, .any, .any, .any, .any, .any, .any, .any, .any, .any], hp⟩ (some 44) (tupOf vs)) (fun S => (seqK (slot_Assign.cd N [1, 1, 1, 1, 1, 1, 1, 1, 0, 1, 0, 0, 1, 1, 0, 0, 1, 1]) (blockK 1 (seqK (slot_Assign.cd N [1, 1, 1, 1, 1, 1, 1, 1, 0, 1, 0, 0, 1, 1, 1]) (loopK (norm ((slot_Assign.E N).keep 14) 0) (slot_Assign.cd N [1, 1, 1, 1, 1, 1, 1, 1, 0, 1, 0, 0]) k6 (blockK 0 (seqK (slot_Assign.cd N [1, 1, 1, 1, 1, 1, 1, 1, 1]) slot_Assign.fin)))))) .normal S))))))
theorem slot_Assign.l1_zero (N : Nat) (x0 : ByteArray) (r5 : List (ByteArray × Int)) (k6 : Nat) (a7 : Int) (a8 : List ((Int × Int) × Int)) (a9 : List (ByteArray × ByteArray × Int)) (a11 : Int) : slot_Assign.l1 N x0 r5 k6 a7 a8 a9 0 a11 = none := by kernel_rfl
theorem slot_Assign.l1_succ (N : Nat) (x0 : ByteArray) (r5 : List (ByteArray × Int)) (k6 : Nat) (a7 : Int) (a8 : List ((Int × Int) × Int)) (a9 : List (ByteArray × ByteArray × Int)) (k10 : Nat) (a11 : Int) : slot_Assign.l1 N x0 r5 k6 a7 a8 a9 (k10 + 1) a11 =
    bif decide (a11 < (a8.length : Int)) then
      bif (decide (0 ≤ a11)) && (decide (a11 < (a8.length : Int))) then
        bif decide ((Int.toNat a11) < a8.length) then
          bif !(decide (((List.getD a8 (Int.toNat a11) ((0, 0), 0)).2) > 0)) || (decide (((List.getD a8 (Int.toNat a11) ((0, 0), 0)).2) > 0)) then
            bif !(decide (((List.getD a8 (Int.toNat a11) ((0, 0), 0)).2) > 0)) || (decide (((List.getD a8 (Int.toNat a11) ((0, 0), 0)).2) > 0)) then
              bif !(decide (((List.getD a8 (Int.toNat a11) ((0, 0), 0)).2) > 0)) || (decide (((List.getD a8 (Int.toNat a11) ((0, 0), 0)).2) > 0)) then
                bif !(decide (((List.getD a8 (Int.toNat a11) ((0, 0), 0)).2) > 0)) || (decide (((List.getD a8 (Int.toNat a11) ((0, 0), 0)).2) > 0)) then
                  bif (!(decide (((List.getD a8 (Int.toNat a11) ((0, 0), 0)).2) > 0))) || (decide (((List.getD a8 (Int.toNat a11) ((0, 0), 0)).2) > 0)) then
                    bif (decide (((List.getD a8 (Int.toNat a11) ((0, 0), 0)).2) > 0)) && (decide ((((List.getD a8 (Int.toNat a11) ((0, 0), 0)).1).2) > ((List.getD (sortL (fun (p q : ByteArray × Int) => slot_before.fn N (p, q)) r5) (Int.toNat a7) ((⟨#[]⟩ : ByteArray), 0)).2))) then
                      bif (decide (0 ≤ a11)) && (decide (a11 < (a8.length : Int))) then
                        bif decide ((Int.toNat a11) < a8.length) then
                          bif (decide (0 ≤ a11)) && (decide (a11 < (a8.length : Int))) then
                            bif decide ((Int.toNat a11) < a8.length) then
                              bif decide ((if ((List.getD a8 (Int.toNat a11) ((0, 0), 0)).1).1 > (List.getD (sortL (fun (p q : ByteArray × Int) => slot_before.fn N (p, q)) r5) (Int.toNat a7) ((⟨#[]⟩ : ByteArray), 0)).2 then ((List.getD a8 (Int.toNat a11) ((0, 0), 0)).1).1 else (List.getD (sortL (fun (p q : ByteArray × Int) => slot_before.fn N (p, q)) r5) (Int.toNat a7) ((⟨#[]⟩ : ByteArray), 0)).2) < 0) then
                                some ([], 18)
                              else
                              bif decide ((a9.length + 1) * 40 ≤ 140737488355328) && decide ((a9.length + 1) ≤ maxLen) then
                                slot_Assign.l0 N x0 r5 k6 (w (a7 + 1)) (List.set a8 (Int.toNat a11) ((List.getD a8 (Int.toNat a11) ((0, 0), 0)).1, (w (((List.getD a8 (Int.toNat a11) ((0, 0), 0)).2) - 1)))) (a9 ++ [((List.getD (sortL (fun (p q : ByteArray × Int) => slot_before.fn N (p, q)) r5) (Int.toNat a7) ((⟨#[]⟩ : ByteArray), 0)).1, (x0, (if ((List.getD a8 (Int.toNat a11) ((0, 0), 0)).1).1 > (List.getD (sortL (fun (p q : ByteArray × Int) => slot_before.fn N (p, q)) r5) (Int.toNat a7) ((⟨#[]⟩ : ByteArray), 0)).2 then ((List.getD a8 (Int.toNat a11) ((0, 0), 0)).1).1 else (List.getD (sortL (fun (p q : ByteArray × Int) => slot_before.fn N (p, q)) r5) (Int.toNat a7) ((⟨#[]⟩ : ByteArray), 0)).2)))])
                              else
                                none
                            else
                              none
                          else
                            none
                        else
                          none
                      else
                        none
                    else
                      slot_Assign.l1 N x0 r5 k6 a7 a8 a9 k10 (w (a11 + 1))
                  else
                    none
                else
                  none
              else
                none
            else
              none
          else
            none
        else
          none
      else
        none
    else
      some ([], 18) := by kernel_rfl
theorem slot_Assign.l0_zero (N : Nat) (x0 : ByteArray) (r5 : List (ByteArray × Int)) (a7 : Int) (a8 : List ((Int × Int) × Int)) (a9 : List (ByteArray × ByteArray × Int)) : slot_Assign.l0 N x0 r5 0 a7 a8 a9 = none := by kernel_rfl
theorem slot_Assign.l0_succ (N : Nat) (x0 : ByteArray) (r5 : List (ByteArray × Int)) (k6 : Nat) (a7 : Int) (a8 : List ((Int × Int) × Int)) (a9 : List (ByteArray × ByteArray × Int)) : slot_Assign.l0 N x0 r5 (k6 + 1) a7 a8 a9 =
    bif decide (a7 < ((sortL (fun (p q : ByteArray × Int) => slot_before.fn N (p, q)) r5).length : Int)) then
      bif (decide (0 ≤ a7)) && (decide (a7 < ((sortL (fun (p q : ByteArray × Int) => slot_before.fn N (p, q)) r5).length : Int))) then
        bif decide ((Int.toNat a7) < (sortL (fun (p q : ByteArray × Int) => slot_before.fn N (p, q)) r5).length) then
          slot_Assign.l1 N x0 r5 k6 a7 a8 a9 N 0
        else
          none
      else
        none
    else
      some (a9, 0) := by kernel_rfl
theorem slot_Assign.l1_clean (N : Nat) (x0 : ByteArray) (r5 : List (ByteArray × Int)) (k6 : Nat) (a7 : Int) (a8 : List ((Int × Int) × Int)) (a9 : List (ByteArray × ByteArray × Int)) (k10 : Nat) (a11 : Int) : slot_Assign.l1 N x0 r5 k6 a7 a8 a9 (k10 + 1) a11 =
    bif decide (a11 < (a8.length : Int)) then
      bif (decide (0 ≤ a11)) && (decide (a11 < (a8.length : Int))) then
        bif decide ((Int.toNat a11) < a8.length) then
          bif (decide (((List.getD a8 (Int.toNat a11) ((0, 0), 0)).2) > 0)) && (decide ((((List.getD a8 (Int.toNat a11) ((0, 0), 0)).1).2) > ((List.getD (sortL (fun (p q : ByteArray × Int) => slot_before.fn N (p, q)) r5) (Int.toNat a7) ((⟨#[]⟩ : ByteArray), 0)).2))) then
            bif (decide (0 ≤ a11)) && (decide (a11 < (a8.length : Int))) then
              bif decide ((Int.toNat a11) < a8.length) then
                bif (decide (0 ≤ a11)) && (decide (a11 < (a8.length : Int))) then
                  bif decide ((Int.toNat a11) < a8.length) then
                    bif decide ((if ((List.getD a8 (Int.toNat a11) ((0, 0), 0)).1).1 > (List.getD (sortL (fun (p q : ByteArray × Int) => slot_before.fn N (p, q)) r5) (Int.toNat a7) ((⟨#[]⟩ : ByteArray), 0)).2 then ((List.getD a8 (Int.toNat a11) ((0, 0), 0)).1).1 else (List.getD (sortL (fun (p q : ByteArray × Int) => slot_before.fn N (p, q)) r5) (Int.toNat a7) ((⟨#[]⟩ : ByteArray), 0)).2) < 0) then
                      some ([], 18)
                    else
                    bif decide ((a9.length + 1) * 40 ≤ 140737488355328) && decide ((a9.length + 1) ≤ maxLen) then
                      slot_Assign.l0 N x0 r5 k6 (w (a7 + 1)) (List.set a8 (Int.toNat a11) ((List.getD a8 (Int.toNat a11) ((0, 0), 0)).1, (w (((List.getD a8 (Int.toNat a11) ((0, 0), 0)).2) - 1)))) (a9 ++ [((List.getD (sortL (fun (p q : ByteArray × Int) => slot_before.fn N (p, q)) r5) (Int.toNat a7) ((⟨#[]⟩ : ByteArray), 0)).1, (x0, (if ((List.getD a8 (Int.toNat a11) ((0, 0), 0)).1).1 > (List.getD (sortL (fun (p q : ByteArray × Int) => slot_before.fn N (p, q)) r5) (Int.toNat a7) ((⟨#[]⟩ : ByteArray), 0)).2 then ((List.getD a8 (Int.toNat a11) ((0, 0), 0)).1).1 else (List.getD (sortL (fun (p q : ByteArray × Int) => slot_before.fn N (p, q)) r5) (Int.toNat a7) ((⟨#[]⟩ : ByteArray), 0)).2)))])
                    else
                      none
                  else
                    none
                else
                  none
              else
                none
            else
              none
          else
            slot_Assign.l1 N x0 r5 k6 a7 a8 a9 k10 (w (a11 + 1))
        else
          none
      else
        none
    else
      some ([], 18) := by
  rw [slot_Assign.l1_succ]; simp only [taut11, taut12, cond_true]
theorem slot_Assign.l1_cons (N : Nat) (x0 : ByteArray) (r5 : List (ByteArray × Int)) (k6 : Nat) (a7 : Int) (a8 : List ((Int × Int) × Int)) (a9 : List (ByteArray × ByteArray × Int)) (k10 : Nat) {pre r} {x} (hl : a8 = pre ++ x :: r) (hb : a8.length < 4611686018427387904) : slot_Assign.l1 N x0 r5 k6 a7 a8 a9 (k10 + 1) (pre.length : Int) =
    bif decide (pre.length < a8.length) then
      bif (decide ((x.2) > 0)) && (decide (((x.1).2) > ((List.getD (sortL (fun (p q : ByteArray × Int) => slot_before.fn N (p, q)) r5) (Int.toNat a7) ((⟨#[]⟩ : ByteArray), 0)).2))) then
        bif decide (pre.length < a8.length) then
          bif decide (pre.length < a8.length) then
            bif decide ((if (x.1).1 > (List.getD (sortL (fun (p q : ByteArray × Int) => slot_before.fn N (p, q)) r5) (Int.toNat a7) ((⟨#[]⟩ : ByteArray), 0)).2 then (x.1).1 else (List.getD (sortL (fun (p q : ByteArray × Int) => slot_before.fn N (p, q)) r5) (Int.toNat a7) ((⟨#[]⟩ : ByteArray), 0)).2) < 0) then
              some ([], 18)
            else
            bif decide ((a9.length + 1) * 40 ≤ 140737488355328) && decide ((a9.length + 1) ≤ maxLen) then
              slot_Assign.l0 N x0 r5 k6 (w (a7 + 1)) (List.set a8 pre.length (x.1, (w ((x.2) - 1)))) (a9 ++ [((List.getD (sortL (fun (p q : ByteArray × Int) => slot_before.fn N (p, q)) r5) (Int.toNat a7) ((⟨#[]⟩ : ByteArray), 0)).1, (x0, (if (x.1).1 > (List.getD (sortL (fun (p q : ByteArray × Int) => slot_before.fn N (p, q)) r5) (Int.toNat a7) ((⟨#[]⟩ : ByteArray), 0)).2 then (x.1).1 else (List.getD (sortL (fun (p q : ByteArray × Int) => slot_before.fn N (p, q)) r5) (Int.toNat a7) ((⟨#[]⟩ : ByteArray), 0)).2)))])
            else
              none
          else
            none
        else
          none
      else
        slot_Assign.l1 N x0 r5 k6 a7 a8 a9 k10 ((pre.length : Int) + 1)
    else
      none := by
  have hlen : a8.length = pre.length + 1 + r.length := by rw [hl]; simp; omega
  have e1 : decide ((pre.length : Int) < (a8.length : Int)) = true := by rw [decide_eq_true_iff]; omega
  have e2 : decide (0 ≤ (pre.length : Int)) = true := by rw [decide_eq_true_iff]; omega
  have e4 : w ((pre.length : Int) + 1) = (pre.length : Int) + 1 := w_next hl hb
  have e5 : List.take pre.length a8 = pre := by rw [hl]; simp
  have e6 : decide ((pre.length : Int) ≤ (a8.length : Int)) = true := by rw [decide_eq_true_iff]; omega
  have g0 : List.getD a8 pre.length ((0, 0), 0) = x := by rw [hl]; exact getD_mid pre x r _
  rw [slot_Assign.l1_clean]
  simp -implicitDefEqProofs only [Int.toNat_natCast, e1, e2, e4, e6, g0, e5, Bool.and_true, Bool.true_and, Bool.true_or, cond_true]
theorem slot_Assign.l1_nil (N : Nat) (x0 : ByteArray) (r5 : List (ByteArray × Int)) (k6 : Nat) (a7 : Int) (a8 : List ((Int × Int) × Int)) (a9 : List (ByteArray × ByteArray × Int)) (k10 : Nat) : slot_Assign.l1 N x0 r5 k6 a7 a8 a9 (k10 + 1) (a8.length : Int) =
    some ([], 18) := by
  have e1 : decide ((a8.length : Int) < (a8.length : Int)) = false := by rw [decide_eq_false_iff_not]; omega
  rw [slot_Assign.l1_clean]
  simp -implicitDefEqProofs only [e1, cond_false]
theorem slot_Assign.l0_cons (N : Nat) (x0 : ByteArray) (r5 : List (ByteArray × Int)) (k6 : Nat) (a8 : List ((Int × Int) × Int)) (a9 : List (ByteArray × ByteArray × Int)) {pre r} {x} (hl : (sortL (fun (p q : ByteArray × Int) => slot_before.fn N (p, q)) r5) = pre ++ x :: r) (hb : (sortL (fun (p q : ByteArray × Int) => slot_before.fn N (p, q)) r5).length < 4611686018427387904) : slot_Assign.l0 N x0 r5 (k6 + 1) (pre.length : Int) a8 a9 =
    bif decide (pre.length < (sortL (fun (p q : ByteArray × Int) => slot_before.fn N (p, q)) r5).length) then
      slot_Assign.l1 N x0 r5 k6 (pre.length : Int) a8 a9 N 0
    else
      none := by
  have hlen : (sortL (fun (p q : ByteArray × Int) => slot_before.fn N (p, q)) r5).length = pre.length + 1 + r.length := by rw [hl]; simp; omega
  have e1 : decide ((pre.length : Int) < ((sortL (fun (p q : ByteArray × Int) => slot_before.fn N (p, q)) r5).length : Int)) = true := by rw [decide_eq_true_iff]; omega
  have e2 : decide (0 ≤ (pre.length : Int)) = true := by rw [decide_eq_true_iff]; omega
  have e4 : w ((pre.length : Int) + 1) = (pre.length : Int) + 1 := w_next hl hb
  have e5 : List.take pre.length (sortL (fun (p q : ByteArray × Int) => slot_before.fn N (p, q)) r5) = pre := by rw [hl]; simp
  have e6 : decide ((pre.length : Int) ≤ ((sortL (fun (p q : ByteArray × Int) => slot_before.fn N (p, q)) r5).length : Int)) = true := by rw [decide_eq_true_iff]; omega
  rw [slot_Assign.l0_succ]
  simp -implicitDefEqProofs only [Int.toNat_natCast, e1, e2, e4, e6, e5, Bool.and_true, Bool.true_and, Bool.true_or, cond_true]
theorem slot_Assign.l0_nil (N : Nat) (x0 : ByteArray) (r5 : List (ByteArray × Int)) (k6 : Nat) (a8 : List ((Int × Int) × Int)) (a9 : List (ByteArray × ByteArray × Int)) : slot_Assign.l0 N x0 r5 (k6 + 1) ((sortL (fun (p q : ByteArray × Int) => slot_before.fn N (p, q)) r5).length : Int) a8 a9 =
    some (a9, 0) := by
  have e1 : decide (((sortL (fun (p q : ByteArray × Int) => slot_before.fn N (p, q)) r5).length : Int) < ((sortL (fun (p q : ByteArray × Int) => slot_before.fn N (p, q)) r5).length : Int)) = false := by rw [decide_eq_false_iff_not]; omega
  rw [slot_Assign.l0_succ]
  simp -implicitDefEqProofs only [e1, cond_false]
theorem slot_Assign.eq (N : Nat) (x0 : ByteArray) (x1 : List (ByteArray × Int)) (x2 : List ((Int × Int) × Int)) : slot_Assign.fn N (x0, x1, x2) =
    (slot_Name.fn N x0).bind fun r1 =>
    bif !r1 then
      some ([], 3)
    else
      (slot_Check.fn N x1).bind fun r2 =>
      bif !(r2 == 0) then
        some ([], r2)
      else
        (flow_Check.fn N x2).bind fun r3 =>
        bif !(r3 == 0) then
          some ([], r3)
        else
          (slices_Clone_FlowCap.fn N x2).bind fun r4 =>
          (slices_Clone_SlotDemand.fn N x1).bind fun r5 =>
          bif sortOk (fun (p q : ByteArray × Int) => slot_before.fn N (p, q)) r5 then
            slot_Assign.l0 N x0 r5 N 0 r4 []
          else
            none := by kernel_rfl

/-! ### slot_find_1: skyway/slot.find$1 -/
def slot_find_1.kp : List (Nat × List (Nat × Option (TypeId × Ty))) := []
noncomputable def slot_find_1.G (N : Nat) : List (Nat × Spec) := []
noncomputable def slot_find_1.E (N : Nat) : Env := mkEnv (slot_find_1.G N) N tyTab slot_find_1.kp
noncomputable def slot_find_1.fn (N : Nat) (x : (ByteArray × ByteArray × Int) × ByteArray) : Option Bool := evFn (slot_find_1.E N) Try.prog 3 Try.f131 false [.agg (.pair (.str) (.pair (.str) (.int .i64))), .box (.str)] [.val (.cell (.bool))] x
noncomputable def slot_find_1.S (N : Nat) : PSpec := ⟨false, [.agg (.pair (.str) (.pair (.str) (.int .i64))), .box (.str)], [.val (.cell (.bool))], slot_find_1.fn N⟩
theorem f131_enters : Enters Try.prog 131 := ⟨Try.f131, Try.func131, by kernel_rfl, by kernel_rfl⟩
theorem slot_find_1.tab (N : Nat) : TabOk Try.prog (slot_find_1.G N) := trivial
theorem slot_find_1.enters : Enters Try.prog 131 := f131_enters
theorem slot_find_1.sound (N : Nat) : Sound Try.prog 131 (slot_find_1.S N) := evFn_sound (specs_tab (slot_find_1.tab N)) (inls_tab (slot_find_1.tab N)) mixed 3 Try.func131 _ _ _
theorem slot_find_1.eq (N : Nat) (x0 : ByteArray × ByteArray × Int) (x1 : ByteArray) : slot_find_1.fn N (x0, x1) =
    some (seq x0.1 x1) := by kernel_rfl

/-! ### slot_find: skyway/slot.find -/
def slot_find.kp : List (Nat × List (Nat × Option (TypeId × Ty))) := [(2, [(0, none), (1, none), (7, none), (8, none)])]
noncomputable def slot_find.G (N : Nat) : List (Nat × Spec) := [(131, .pure (slot_find_1.S N)), (63, .inl Try.f63)]
noncomputable def slot_find.E (N : Nat) : Env := mkEnv (slot_find.G N) N tyTab slot_find.kp
noncomputable def slot_find.fn (N : Nat) (x : List (ByteArray × ByteArray × Int) × ByteArray) : Option Int := evFn (slot_find.E N) Try.prog 3 Try.f111 false [.cell (.sl 94 (.pair (.str) (.pair (.str) (.int .i64)))), .cell (.str)] [.val (.cell (.int .i64))] x
noncomputable def slot_find.S (N : Nat) : PSpec := ⟨false, [.cell (.sl 94 (.pair (.str) (.pair (.str) (.int .i64)))), .cell (.str)], [.val (.cell (.int .i64))], slot_find.fn N⟩
theorem f63_enters : Enters Try.prog 63 := ⟨Try.f63, Try.func63, by kernel_rfl, by kernel_rfl⟩
theorem f111_enters : Enters Try.prog 111 := ⟨Try.f111, Try.func111, by kernel_rfl, by kernel_rfl⟩
theorem slot_find.tab (N : Nat) : TabOk Try.prog (slot_find.G N) := ⟨⟨slot_find_1.enters, slot_find_1.sound N⟩, ⟨f63_enters, Try.func63⟩, trivial⟩
theorem slot_find.enters : Enters Try.prog 111 := f111_enters
theorem slot_find.sound (N : Nat) : Sound Try.prog 111 (slot_find.S N) := evFn_sound (specs_tab (slot_find.tab N)) (inls_tab (slot_find.tab N)) mixed 3 Try.func111 _ _ _
noncomputable def slot_find.cd63_2_1 (N : Nat) (p : List Nat) : St → (Ex → St → Option Int) → Option Int := ev (slot_find.E N) Try.prog (callD (slot_find.E N) Try.prog 2) 1 (codeAt (bodyOf Try.f63) p)
noncomputable def slot_find.cd (N : Nat) (p : List Nat) : St → (Ex → St → Option Int) → Option Int := ev (slot_find.E N) Try.prog (callD (slot_find.E N) Try.prog 3) 0 (codeAt (bodyOf Try.f111) p)
noncomputable def slot_find.fin : Ex → St → Option Int := endK Try.prog Try.f111 [.val (.cell (.int .i64))]
noncomputable def slot_find.l0 (N : Nat) (x0 : List (ByteArray × ByteArray × Int)) (x1 : ByteArray) (k1 : Nat) (a2 : Int) : Option Int :=
  loopN (norm ((slot_find.E N).keep 2) 1) (slot_find.cd63_2_1 N [1, 0, 1, 0, 0]) k1
  ⟨[.ros false 94 (.pair (.str) (.pair (.str) (.int .i64))) x0, .clo 131 [.ptr 0 0], .any, .any, .any, .any, .any, .sc (.int .i64 (x0.length : Int)), .sc (.int .i64 a2), .any, .any, .any, .any, .any, .any, .any, .any, .any, .any], [.cells [.sc (.string x1)] 9]⟩
  (blockK 0 (seqK (slot_find.cd63_2_1 N [1, 1]) (retK Try.prog Try.f63 (fun vs hp => (reg (slot_find.E N) Try.prog (callD (slot_find.E N) Try.prog 3) (opsAt (codeAt (bodyOf Try.f111) [1, 0])) [] (List.drop 3 (opsAt (codeAt (bodyOf Try.f111) [1, 0]))) (St.put ⟨[.ros false 94 (.pair (.str) (.pair (.str) (.int .i64))) x0, .sc (.string x1), .any, .ptr 0 0, .sc (.int .i64 0), .ros false 94 (.pair (.str) (.pair (.str) (.int .i64))) x0, .clo 131 [.ptr 0 0], .any], hp⟩ (some 7) (tupOf vs)) (fun S => (seqK (slot_find.cd N [1, 1]) slot_find.fin) .normal S))))))
theorem slot_find.l0_zero (N : Nat) (x0 : List (ByteArray × ByteArray × Int)) (x1 : ByteArray) (a2 : Int) : slot_find.l0 N x0 x1 0 a2 = none := by kernel_rfl
theorem slot_find.l0_succ (N : Nat) (x0 : List (ByteArray × ByteArray × Int)) (x1 : ByteArray) (k1 : Nat) (a2 : Int) : slot_find.l0 N x0 x1 (k1 + 1) a2 =
    bif decide (a2 < (x0.length : Int)) then
      bif (decide (0 ≤ a2)) && (decide (a2 < (x0.length : Int))) then
        (slot_find_1.fn N (List.getD x0 (Int.toNat a2) ((⟨#[]⟩ : ByteArray), ((⟨#[]⟩ : ByteArray), 0)), x1)).bind fun r3 =>
        bif r3 then
          some a2
        else
          slot_find.l0 N x0 x1 k1 (w (a2 + 1))
      else
        none
    else
      some (-1) := by kernel_rfl
theorem slot_find.l0_cons (N : Nat) (x0 : List (ByteArray × ByteArray × Int)) (x1 : ByteArray) (k1 : Nat) {pre r} {x} (hl : x0 = pre ++ x :: r) (hb : x0.length < 4611686018427387904) : slot_find.l0 N x0 x1 (k1 + 1) (pre.length : Int) =
    (slot_find_1.fn N (x, x1)).bind fun r3 =>
    bif r3 then
      some (pre.length : Int)
    else
      slot_find.l0 N x0 x1 k1 ((pre.length : Int) + 1) := by
  have hlen : x0.length = pre.length + 1 + r.length := by rw [hl]; simp; omega
  have e1 : decide ((pre.length : Int) < (x0.length : Int)) = true := by rw [decide_eq_true_iff]; omega
  have e2 : decide (0 ≤ (pre.length : Int)) = true := by rw [decide_eq_true_iff]; omega
  have e4 : w ((pre.length : Int) + 1) = (pre.length : Int) + 1 := w_next hl hb
  have e5 : List.take pre.length x0 = pre := by rw [hl]; simp
  have e6 : decide ((pre.length : Int) ≤ (x0.length : Int)) = true := by rw [decide_eq_true_iff]; omega
  have g0 : List.getD x0 pre.length ((⟨#[]⟩ : ByteArray), ((⟨#[]⟩ : ByteArray), 0)) = x := by rw [hl]; exact getD_mid pre x r _
  rw [slot_find.l0_succ]
  simp -implicitDefEqProofs only [Int.toNat_natCast, e1, e2, e4, e6, g0, e5, Bool.and_true, Bool.true_and, Bool.true_or, cond_true]
theorem slot_find.l0_nil (N : Nat) (x0 : List (ByteArray × ByteArray × Int)) (x1 : ByteArray) (k1 : Nat) : slot_find.l0 N x0 x1 (k1 + 1) (x0.length : Int) =
    some (-1) := by
  have e1 : decide ((x0.length : Int) < (x0.length : Int)) = false := by rw [decide_eq_false_iff_not]; omega
  rw [slot_find.l0_succ]
  simp -implicitDefEqProofs only [e1, cond_false]
theorem slot_find.eq (N : Nat) (x0 : List (ByteArray × ByteArray × Int)) (x1 : ByteArray) : slot_find.fn N (x0, x1) =
    slot_find.l0 N x0 x1 N 0 := by kernel_rfl

/-! ### slot_Delays: skyway/slot.Delays -/
def slot_Delays.kp : List (Nat × List (Nat × Option (TypeId × Ty))) := [(8, [(1, none), (7, some (3, .int .i64)), (19, none), (20, none), (21, none)])]
noncomputable def slot_Delays.G (N : Nat) : List (Nat × Spec) := [(52, .pure (slot_Check.S N)), (111, .pure (slot_find.S N))]
noncomputable def slot_Delays.E (N : Nat) : Env := mkEnv (slot_Delays.G N) N tyTab slot_Delays.kp
noncomputable def slot_Delays.fn (N : Nat) (x : List (ByteArray × Int) × List (ByteArray × ByteArray × Int)) : Option (List Int × Int) := evFn (slot_Delays.E N) Try.prog 3 Try.f59 false [.cell (.sl 106 (.pair (.str) (.int .i64))), .cell (.sl 94 (.pair (.str) (.pair (.str) (.int .i64))))] [.own 3 (.int .i64), .val (.cell (.int .i64))] x
noncomputable def slot_Delays.S (N : Nat) : PSpec := ⟨false, [.cell (.sl 106 (.pair (.str) (.int .i64))), .cell (.sl 94 (.pair (.str) (.pair (.str) (.int .i64))))], [.own 3 (.int .i64), .val (.cell (.int .i64))], slot_Delays.fn N⟩
theorem f59_enters : Enters Try.prog 59 := ⟨Try.f59, Try.func59, by kernel_rfl, by kernel_rfl⟩
theorem slot_Delays.tab (N : Nat) : TabOk Try.prog (slot_Delays.G N) := ⟨⟨slot_Check.enters, slot_Check.sound N⟩, ⟨slot_find.enters, slot_find.sound N⟩, trivial⟩
theorem slot_Delays.enters : Enters Try.prog 59 := f59_enters
theorem slot_Delays.sound (N : Nat) : Sound Try.prog 59 (slot_Delays.S N) := evFn_sound (specs_tab (slot_Delays.tab N)) (inls_tab (slot_Delays.tab N)) mixed 3 Try.func59 _ _ _
noncomputable def slot_Delays.cd (N : Nat) (p : List Nat) : St → (Ex → St → Option (List Int × Int)) → Option (List Int × Int) := ev (slot_Delays.E N) Try.prog (callD (slot_Delays.E N) Try.prog 3) 0 (codeAt (bodyOf Try.f59) p)
noncomputable def slot_Delays.fin : Ex → St → Option (List Int × Int) := endK Try.prog Try.f59 [.own 3 (.int .i64), .val (.cell (.int .i64))]
noncomputable def slot_Delays.l0 (N : Nat) (x0 : List (ByteArray × Int)) (x1 : List (ByteArray × ByteArray × Int)) (k2 : Nat) (a3 : Int) (a4 : List Int) : Option (List Int × Int) :=
  loopN (norm ((slot_Delays.E N).keep 8) 0) (slot_Delays.cd N [1, 1, 1, 1, 0, 1, 0, 0]) k2
  ⟨[.any, .ros false 94 (.pair (.str) (.pair (.str) (.int .i64))) x1, .any, .any, .any, .any, .any, .own 0, .any, .any, .any, .any, .any, .any, .any, .any, .any, .any, .any, .ros false 106 (.pair (.str) (.int .i64)) x0, .sc (.int .i64 (x0.length : Int)), .sc (.int .i64 a3), .any, .any, .any, .any, .any, .any, .any, .any, .any, .any, .any, .any, .any, .any, .any, .any, .any, .any, .any, .any, .any, .any, .any, .any, .any, .any, .any, .any, .any, .any, .any, .any, .any, .any, .any, .any, .any, .any], [.rows true 3 (.int .i64) a4]⟩
  (blockK 0 (seqK (slot_Delays.cd N [1, 1, 1, 1, 1]) slot_Delays.fin))
theorem slot_Delays.l0_zero (N : Nat) (x0 : List (ByteArray × Int)) (x1 : List (ByteArray × ByteArray × Int)) (a3 : Int) (a4 : List Int) : slot_Delays.l0 N x0 x1 0 a3 a4 = none := by kernel_rfl
theorem slot_Delays.l0_succ (N : Nat) (x0 : List (ByteArray × Int)) (x1 : List (ByteArray × ByteArray × Int)) (k2 : Nat) (a3 : Int) (a4 : List Int) : slot_Delays.l0 N x0 x1 (k2 + 1) a3 a4 =
    bif decide (a3 < (x0.length : Int)) then
      bif (decide (0 ≤ a3)) && (decide (a3 < (x0.length : Int))) then
        (slot_find.fn N (x1, (List.getD x0 (Int.toNat a3) ((⟨#[]⟩ : ByteArray), 0)).1)).bind fun r5 =>
        bif decide (r5 < 0) then
          some ([], 8)
        else
        bif (decide (0 ≤ r5)) && (decide (r5 < (x1.length : Int))) then
          bif !(!(decide ((((List.getD x1 (Int.toNat r5) ((⟨#[]⟩ : ByteArray), ((⟨#[]⟩ : ByteArray), 0))).2).2) < ((List.getD x0 (Int.toNat a3) ((⟨#[]⟩ : ByteArray), 0)).2)))) || (!(decide ((((List.getD x1 (Int.toNat r5) ((⟨#[]⟩ : ByteArray), ((⟨#[]⟩ : ByteArray), 0))).2).2) < ((List.getD x0 (Int.toNat a3) ((⟨#[]⟩ : ByteArray), 0)).2)))) then
            bif !(!(decide ((((List.getD x1 (Int.toNat r5) ((⟨#[]⟩ : ByteArray), ((⟨#[]⟩ : ByteArray), 0))).2).2) < ((List.getD x0 (Int.toNat a3) ((⟨#[]⟩ : ByteArray), 0)).2)))) || (!(decide ((((List.getD x1 (Int.toNat r5) ((⟨#[]⟩ : ByteArray), ((⟨#[]⟩ : ByteArray), 0))).2).2) < ((List.getD x0 (Int.toNat a3) ((⟨#[]⟩ : ByteArray), 0)).2)))) then
              bif ((decide (0 ≤ r5)) && (decide (r5 < (x1.length : Int)))) || !(!(decide ((((List.getD x1 (Int.toNat r5) ((⟨#[]⟩ : ByteArray), ((⟨#[]⟩ : ByteArray), 0))).2).2) < ((List.getD x0 (Int.toNat a3) ((⟨#[]⟩ : ByteArray), 0)).2)))) then
                bif !(!(decide ((((List.getD x1 (Int.toNat r5) ((⟨#[]⟩ : ByteArray), ((⟨#[]⟩ : ByteArray), 0))).2).2) < ((List.getD x0 (Int.toNat a3) ((⟨#[]⟩ : ByteArray), 0)).2)))) || (!(decide ((((List.getD x1 (Int.toNat r5) ((⟨#[]⟩ : ByteArray), ((⟨#[]⟩ : ByteArray), 0))).2).2) < ((List.getD x0 (Int.toNat a3) ((⟨#[]⟩ : ByteArray), 0)).2)))) then
                  bif !(!(decide ((((List.getD x1 (Int.toNat r5) ((⟨#[]⟩ : ByteArray), ((⟨#[]⟩ : ByteArray), 0))).2).2) < ((List.getD x0 (Int.toNat a3) ((⟨#[]⟩ : ByteArray), 0)).2)))) || (!(decide ((((List.getD x1 (Int.toNat r5) ((⟨#[]⟩ : ByteArray), ((⟨#[]⟩ : ByteArray), 0))).2).2) < ((List.getD x0 (Int.toNat a3) ((⟨#[]⟩ : ByteArray), 0)).2)))) then
                    bif !(!(decide ((((List.getD x1 (Int.toNat r5) ((⟨#[]⟩ : ByteArray), ((⟨#[]⟩ : ByteArray), 0))).2).2) < ((List.getD x0 (Int.toNat a3) ((⟨#[]⟩ : ByteArray), 0)).2)))) || (!(decide ((((List.getD x1 (Int.toNat r5) ((⟨#[]⟩ : ByteArray), ((⟨#[]⟩ : ByteArray), 0))).2).2) < ((List.getD x0 (Int.toNat a3) ((⟨#[]⟩ : ByteArray), 0)).2)))) then
                      bif (decide ((((List.getD x1 (Int.toNat r5) ((⟨#[]⟩ : ByteArray), ((⟨#[]⟩ : ByteArray), 0))).2).2) < ((List.getD x0 (Int.toNat a3) ((⟨#[]⟩ : ByteArray), 0)).2))) || (!(decide ((((List.getD x1 (Int.toNat r5) ((⟨#[]⟩ : ByteArray), ((⟨#[]⟩ : ByteArray), 0))).2).2) < ((List.getD x0 (Int.toNat a3) ((⟨#[]⟩ : ByteArray), 0)).2)))) then
                        bif (decide ((((List.getD x1 (Int.toNat r5) ((⟨#[]⟩ : ByteArray), ((⟨#[]⟩ : ByteArray), 0))).2).2) < ((List.getD x0 (Int.toNat a3) ((⟨#[]⟩ : ByteArray), 0)).2))) || (decide ((((List.getD x1 (Int.toNat r5) ((⟨#[]⟩ : ByteArray), ((⟨#[]⟩ : ByteArray), 0))).2).2) > 200000)) then
                          some ([], 12)
                        else
                        bif (decide (0 ≤ r5)) && (decide (r5 < (x1.length : Int))) then
                          bif decide ((a4.length + 1) * 8 ≤ 140737488355328) && decide ((a4.length + 1) ≤ maxLen) then
                            slot_Delays.l0 N x0 x1 k2 (w (a3 + 1)) (a4 ++ [(w ((((List.getD x1 (Int.toNat r5) ((⟨#[]⟩ : ByteArray), ((⟨#[]⟩ : ByteArray), 0))).2).2) - ((List.getD x0 (Int.toNat a3) ((⟨#[]⟩ : ByteArray), 0)).2)))])
                          else
                            none
                        else
                          none
                      else
                        none
                    else
                      none
                  else
                    none
                else
                  none
              else
                none
            else
              none
          else
            none
        else
          none
      else
        none
    else
      some (a4, 0) := by kernel_rfl
theorem slot_Delays.l0_clean (N : Nat) (x0 : List (ByteArray × Int)) (x1 : List (ByteArray × ByteArray × Int)) (k2 : Nat) (a3 : Int) (a4 : List Int) : slot_Delays.l0 N x0 x1 (k2 + 1) a3 a4 =
    bif decide (a3 < (x0.length : Int)) then
      bif (decide (0 ≤ a3)) && (decide (a3 < (x0.length : Int))) then
        (slot_find.fn N (x1, (List.getD x0 (Int.toNat a3) ((⟨#[]⟩ : ByteArray), 0)).1)).bind fun r5 =>
        bif decide (r5 < 0) then
          some ([], 8)
        else
        bif (decide (0 ≤ r5)) && (decide (r5 < (x1.length : Int))) then
          bif ((decide (0 ≤ r5)) && (decide (r5 < (x1.length : Int)))) || !(!(decide ((((List.getD x1 (Int.toNat r5) ((⟨#[]⟩ : ByteArray), ((⟨#[]⟩ : ByteArray), 0))).2).2) < ((List.getD x0 (Int.toNat a3) ((⟨#[]⟩ : ByteArray), 0)).2)))) then
            bif (decide ((((List.getD x1 (Int.toNat r5) ((⟨#[]⟩ : ByteArray), ((⟨#[]⟩ : ByteArray), 0))).2).2) < ((List.getD x0 (Int.toNat a3) ((⟨#[]⟩ : ByteArray), 0)).2))) || (decide ((((List.getD x1 (Int.toNat r5) ((⟨#[]⟩ : ByteArray), ((⟨#[]⟩ : ByteArray), 0))).2).2) > 200000)) then
              some ([], 12)
            else
            bif (decide (0 ≤ r5)) && (decide (r5 < (x1.length : Int))) then
              bif decide ((a4.length + 1) * 8 ≤ 140737488355328) && decide ((a4.length + 1) ≤ maxLen) then
                slot_Delays.l0 N x0 x1 k2 (w (a3 + 1)) (a4 ++ [(w ((((List.getD x1 (Int.toNat r5) ((⟨#[]⟩ : ByteArray), ((⟨#[]⟩ : ByteArray), 0))).2).2) - ((List.getD x0 (Int.toNat a3) ((⟨#[]⟩ : ByteArray), 0)).2)))])
              else
                none
            else
              none
          else
            none
        else
          none
      else
        none
    else
      some (a4, 0) := by
  rw [slot_Delays.l0_succ]; simp only [taut1, taut6, cond_true]
theorem slot_Delays.l0_cons (N : Nat) (x0 : List (ByteArray × Int)) (x1 : List (ByteArray × ByteArray × Int)) (k2 : Nat) (a4 : List Int) {pre r} {x} (hl : x0 = pre ++ x :: r) (hb : x0.length < 4611686018427387904) : slot_Delays.l0 N x0 x1 (k2 + 1) (pre.length : Int) a4 =
    (slot_find.fn N (x1, x.1)).bind fun r5 =>
    bif decide (r5 < 0) then
      some ([], 8)
    else
    bif (decide (0 ≤ r5)) && (decide (r5 < (x1.length : Int))) then
      bif ((decide (0 ≤ r5)) && (decide (r5 < (x1.length : Int)))) || !(!(decide ((((List.getD x1 (Int.toNat r5) ((⟨#[]⟩ : ByteArray), ((⟨#[]⟩ : ByteArray), 0))).2).2) < (x.2)))) then
        bif (decide ((((List.getD x1 (Int.toNat r5) ((⟨#[]⟩ : ByteArray), ((⟨#[]⟩ : ByteArray), 0))).2).2) < (x.2))) || (decide ((((List.getD x1 (Int.toNat r5) ((⟨#[]⟩ : ByteArray), ((⟨#[]⟩ : ByteArray), 0))).2).2) > 200000)) then
          some ([], 12)
        else
        bif (decide (0 ≤ r5)) && (decide (r5 < (x1.length : Int))) then
          bif decide ((a4.length + 1) * 8 ≤ 140737488355328) && decide ((a4.length + 1) ≤ maxLen) then
            slot_Delays.l0 N x0 x1 k2 ((pre.length : Int) + 1) (a4 ++ [(w ((((List.getD x1 (Int.toNat r5) ((⟨#[]⟩ : ByteArray), ((⟨#[]⟩ : ByteArray), 0))).2).2) - (x.2)))])
          else
            none
        else
          none
      else
        none
    else
      none := by
  have hlen : x0.length = pre.length + 1 + r.length := by rw [hl]; simp; omega
  have e1 : decide ((pre.length : Int) < (x0.length : Int)) = true := by rw [decide_eq_true_iff]; omega
  have e2 : decide (0 ≤ (pre.length : Int)) = true := by rw [decide_eq_true_iff]; omega
  have e4 : w ((pre.length : Int) + 1) = (pre.length : Int) + 1 := w_next hl hb
  have e5 : List.take pre.length x0 = pre := by rw [hl]; simp
  have e6 : decide ((pre.length : Int) ≤ (x0.length : Int)) = true := by rw [decide_eq_true_iff]; omega
  have g0 : List.getD x0 pre.length ((⟨#[]⟩ : ByteArray), 0) = x := by rw [hl]; exact getD_mid pre x r _
  rw [slot_Delays.l0_clean]
  simp -implicitDefEqProofs only [Int.toNat_natCast, e1, e2, e4, e6, g0, e5, Bool.and_true, Bool.true_and, Bool.true_or, cond_true]
theorem slot_Delays.l0_nil (N : Nat) (x0 : List (ByteArray × Int)) (x1 : List (ByteArray × ByteArray × Int)) (k2 : Nat) (a4 : List Int) : slot_Delays.l0 N x0 x1 (k2 + 1) (x0.length : Int) a4 =
    some (a4, 0) := by
  have e1 : decide ((x0.length : Int) < (x0.length : Int)) = false := by rw [decide_eq_false_iff_not]; omega
  rw [slot_Delays.l0_clean]
  simp -implicitDefEqProofs only [e1, cond_false]
theorem slot_Delays.eq (N : Nat) (x0 : List (ByteArray × Int)) (x1 : List (ByteArray × ByteArray × Int)) : slot_Delays.fn N (x0, x1) =
    (slot_Check.fn N x0).bind fun r1 =>
    bif !(r1 == 0) then
      some ([], r1)
    else
    bif decide ((x1.length : Int) > 24) then
      some ([], 2)
    else
      slot_Delays.l0 N x0 x1 N 0 [] := by kernel_rfl

/-! ### slot_Release_1: skyway/slot.Release$1 -/
def slot_Release_1.kp : List (Nat × List (Nat × Option (TypeId × Ty))) := []
noncomputable def slot_Release_1.G (N : Nat) : List (Nat × Spec) := []
noncomputable def slot_Release_1.E (N : Nat) : Env := mkEnv (slot_Release_1.G N) N tyTab slot_Release_1.kp
noncomputable def slot_Release_1.fn (N : Nat) (x : (ByteArray × Int) × ByteArray) : Option Bool := evFn (slot_Release_1.E N) Try.prog 3 Try.f113 false [.agg (.pair (.str) (.int .i64)), .box (.str)] [.val (.cell (.bool))] x
noncomputable def slot_Release_1.S (N : Nat) : PSpec := ⟨false, [.agg (.pair (.str) (.int .i64)), .box (.str)], [.val (.cell (.bool))], slot_Release_1.fn N⟩
theorem f113_enters : Enters Try.prog 113 := ⟨Try.f113, Try.func113, by kernel_rfl, by kernel_rfl⟩
theorem slot_Release_1.tab (N : Nat) : TabOk Try.prog (slot_Release_1.G N) := trivial
theorem slot_Release_1.enters : Enters Try.prog 113 := f113_enters
theorem slot_Release_1.sound (N : Nat) : Sound Try.prog 113 (slot_Release_1.S N) := evFn_sound (specs_tab (slot_Release_1.tab N)) (inls_tab (slot_Release_1.tab N)) mixed 3 Try.func113 _ _ _
theorem slot_Release_1.eq (N : Nat) (x0 : ByteArray × Int) (x1 : ByteArray) : slot_Release_1.fn N (x0, x1) =
    some (seq x0.1 x1) := by kernel_rfl

/-! ### slot_Release: skyway/slot.Release -/
def slot_Release.kp : List (Nat × List (Nat × Option (TypeId × Ty))) := [(2, [(0, none), (1, none), (7, none), (8, none)])]
noncomputable def slot_Release.G (N : Nat) : List (Nat × Spec) := [(51, .pure (slot_Assign.S N)), (103, .pure (slices_Clone_SlotDemand.S N)), (113, .pure (slot_Release_1.S N)), (112, .inl Try.f112), (114, .inl Try.f114)]
noncomputable def slot_Release.E (N : Nat) : Env := mkEnv (slot_Release.G N) N tyTab slot_Release.kp
noncomputable def slot_Release.fn (N : Nat) (x : ByteArray × ByteArray × List (ByteArray × Int) × List ((Int × Int) × Int)) : Option (List (ByteArray × ByteArray × Int) × Int) := evFn (slot_Release.E N) Try.prog 3 Try.f67 false [.cell (.str), .cell (.str), .cell (.sl 106 (.pair (.str) (.int .i64))), .cell (.sl 149 (.pair (.pair (.int .i64) (.int .i64)) (.int .i64)))] [.own 94 (.pair (.str) (.pair (.str) (.int .i64))), .val (.cell (.int .i64))] x
noncomputable def slot_Release.S (N : Nat) : PSpec := ⟨false, [.cell (.str), .cell (.str), .cell (.sl 106 (.pair (.str) (.int .i64))), .cell (.sl 149 (.pair (.pair (.int .i64) (.int .i64)) (.int .i64)))], [.own 94 (.pair (.str) (.pair (.str) (.int .i64))), .val (.cell (.int .i64))], slot_Release.fn N⟩
theorem f112_enters : Enters Try.prog 112 := ⟨Try.f112, Try.func112, by kernel_rfl, by kernel_rfl⟩
theorem f114_enters : Enters Try.prog 114 := ⟨Try.f114, Try.func114, by kernel_rfl, by kernel_rfl⟩
theorem f67_enters : Enters Try.prog 67 := ⟨Try.f67, Try.func67, by kernel_rfl, by kernel_rfl⟩
theorem slot_Release.tab (N : Nat) : TabOk Try.prog (slot_Release.G N) := ⟨⟨slot_Assign.enters, slot_Assign.sound N⟩, ⟨slices_Clone_SlotDemand.enters, slices_Clone_SlotDemand.sound N⟩, ⟨slot_Release_1.enters, slot_Release_1.sound N⟩, ⟨f112_enters, Try.func112⟩, ⟨f114_enters, Try.func114⟩, trivial⟩
theorem slot_Release.enters : Enters Try.prog 67 := f67_enters
theorem slot_Release.sound (N : Nat) : Sound Try.prog 67 (slot_Release.S N) := evFn_sound (specs_tab (slot_Release.tab N)) (inls_tab (slot_Release.tab N)) mixed 3 Try.func67 _ _ _
noncomputable def slot_Release.cd (N : Nat) (p : List Nat) : St → (Ex → St → Option (List (ByteArray × ByteArray × Int) × Int)) → Option (List (ByteArray × ByteArray × Int) × Int) := ev (slot_Release.E N) Try.prog (callD (slot_Release.E N) Try.prog 3) 0 (codeAt (bodyOf Try.f67) p)
noncomputable def slot_Release.cd112_2_2 (N : Nat) (p : List Nat) : St → (Ex → St → Option (List (ByteArray × ByteArray × Int) × Int)) → Option (List (ByteArray × ByteArray × Int) × Int) := ev (slot_Release.E N) Try.prog (callD (slot_Release.E N) Try.prog 2) 2 (codeAt (bodyOf Try.f112) p)
noncomputable def slot_Release.fin : Ex → St → Option (List (ByteArray × ByteArray × Int) × Int) := endK Try.prog Try.f67 [.own 94 (.pair (.str) (.pair (.str) (.int .i64))), .val (.cell (.int .i64))]
noncomputable def slot_Release.l0 (N : Nat) (x0 : ByteArray) (x1 : ByteArray) (x2 : List (ByteArray × Int)) (x3 : List ((Int × Int) × Int)) (r1 : List (ByteArray × ByteArray × Int) × Int) (k2 : Nat) (a3 : Int) : Option (List (ByteArray × ByteArray × Int) × Int) :=
  loopN (norm ((slot_Release.E N).keep 2) 2) (slot_Release.cd112_2_2 N [1, 0, 1, 0, 0]) k2
  ⟨[.ros false 106 (.pair (.str) (.int .i64)) x2, .clo 113 [.ptr 0 0], .any, .any, .any, .any, .any, .sc (.int .i64 (x2.length : Int)), .sc (.int .i64 a3), .any, .any, .any, .any, .any, .any, .any, .any, .any, .any], [.cells [.sc (.string x1)] 9, .rows true 94 (.pair (.str) (.pair (.str) (.int .i64))) r1.1]⟩
  (blockK 0 (seqK (slot_Release.cd112_2_2 N [1, 1]) (retK Try.prog Try.f112 (fun vs hp => (reg (slot_Release.E N) Try.prog (callD (slot_Release.E N) Try.prog 3) (opsAt (codeAt (bodyOf Try.f67) [1, 1, 0])) [] (List.drop 3 (opsAt (codeAt (bodyOf Try.f67) [1, 1, 0]))) (St.put ⟨[.sc (.string x0), .sc (.string x1), .ros false 106 (.pair (.str) (.int .i64)) x2, .ros false 149 (.pair (.pair (.int .i64) (.int .i64)) (.int .i64)) x3, .any, .ptr 0 0, .any, .any, .sc (.slice none 0 0), .sc (.int .i64 0), .own 1, .sc (.int .i64 r1.2), .any, .tup [.own 1, .sc (.int .i64 r1.2)], .sc (.string x0), .ros false 106 (.pair (.str) (.int .i64)) x2, .ros false 149 (.pair (.pair (.int .i64) (.int .i64)) (.int .i64)) x3, .tup [.own 1, .sc (.int .i64 r1.2)], .own 1, .sc (.int .i64 r1.2), .sc (.int .i64 r1.2), .sc (.bool (!(r1.2 == 0))), .any, .ros false 106 (.pair (.str) (.int .i64)) x2, .clo 113 [.ptr 0 0], .any, .any, .any, .any, .any, .any, .any, .any, .any, .any, .any, .any, .any, .any], hp⟩ (some 25) (tupOf vs)) (fun S => (seqK (slot_Release.cd N [1, 1, 1]) slot_Release.fin) .normal S))))))
theorem slot_Release.l0_zero (N : Nat) (x0 : ByteArray) (x1 : ByteArray) (x2 : List (ByteArray × Int)) (x3 : List ((Int × Int) × Int)) (r1 : List (ByteArray × ByteArray × Int) × Int) (a3 : Int) : slot_Release.l0 N x0 x1 x2 x3 r1 0 a3 = none := by kernel_rfl
theorem slot_Release.l0_succ (N : Nat) (x0 : ByteArray) (x1 : ByteArray) (x2 : List (ByteArray × Int)) (x3 : List ((Int × Int) × Int)) (r1 : List (ByteArray × ByteArray × Int) × Int) (k2 : Nat) (a3 : Int) : slot_Release.l0 N x0 x1 x2 x3 r1 (k2 + 1) a3 =
    bif decide (a3 < (x2.length : Int)) then
      bif (decide (0 ≤ a3)) && (decide (a3 < (x2.length : Int))) then
        (slot_Release_1.fn N (List.getD x2 (Int.toNat a3) ((⟨#[]⟩ : ByteArray), 0), x1)).bind fun r4 =>
        bif r4 then
          bif decide (a3 < 0) then
            some ([], 8)
          else
            (slices_Clone_SlotDemand.fn N x2).bind fun r5 =>
            bif (((decide (0 ≤ a3)) && (decide (a3 ≤ (w (a3 + 1))))) && (decide ((w (a3 + 1)) ≤ (r5.length : Int)))) && (decide ((r5.length : Int) ≤ (r5.length : Int))) then
              bif a3 == (w (a3 + 1)) then
                (slot_Assign.fn N (x0, r5, x3)).bind fun r6 =>
                some (r6.1, r6.2)
              else
              bif (decide (0 ≤ a3)) && (decide (0 + (Int.toNat a3) ≤ r5.length)) then
                bif (decide (0 ≤ (w (a3 + 1)))) && (decide ((w (a3 + 1)) ≤ ((r5.length : Nat) : Int))) then
                  bif decide (((List.take (Int.toNat a3) r5).length + (List.take (r5.length - (Int.toNat (w (a3 + 1)))) (List.drop (0 + (Int.toNat (w (a3 + 1)))) r5)).length) * 24 ≤ 140737488355328) && decide (((List.take (Int.toNat a3) r5).length + (List.take (r5.length - (Int.toNat (w (a3 + 1)))) (List.drop (0 + (Int.toNat (w (a3 + 1)))) r5)).length) ≤ maxLen) then
                    bif decide ((Int.toNat a3) + (List.take (r5.length - (Int.toNat (w (a3 + 1)))) (List.drop (0 + (Int.toNat (w (a3 + 1)))) r5)).length ≤ r5.length) then
                      bif ((decide (0 ≤ (((Int.toNat a3) + (List.take (r5.length - (Int.toNat (w (a3 + 1)))) (List.drop (0 + (Int.toNat (w (a3 + 1)))) r5)).length : Nat) : Int))) && (decide ((((Int.toNat a3) + (List.take (r5.length - (Int.toNat (w (a3 + 1)))) (List.drop (0 + (Int.toNat (w (a3 + 1)))) r5)).length : Nat) : Int) ≤ (r5.length : Int)))) && (decide (0 + (Int.toNat (r5.length : Int)) ≤ ((List.take (Int.toNat a3) r5) ++ (List.take (r5.length - (Int.toNat (w (a3 + 1)))) (List.drop (0 + (Int.toNat (w (a3 + 1)))) r5)) ++ (List.drop ((Int.toNat a3) + (List.take (r5.length - (Int.toNat (w (a3 + 1)))) (List.drop (0 + (Int.toNat (w (a3 + 1)))) r5)).length) r5)).length)) then
                        (slot_Assign.fn N (x0, (List.take ((Int.toNat a3) + (List.take (r5.length - (Int.toNat (w (a3 + 1)))) (List.drop (0 + (Int.toNat (w (a3 + 1)))) r5)).length) (fillL ((List.take (Int.toNat a3) r5) ++ (List.take (r5.length - (Int.toNat (w (a3 + 1)))) (List.drop (0 + (Int.toNat (w (a3 + 1)))) r5)) ++ (List.drop ((Int.toNat a3) + (List.take (r5.length - (Int.toNat (w (a3 + 1)))) (List.drop (0 + (Int.toNat (w (a3 + 1)))) r5)).length) r5)) (0 + (Int.toNat (((Int.toNat a3) + (List.take (r5.length - (Int.toNat (w (a3 + 1)))) (List.drop (0 + (Int.toNat (w (a3 + 1)))) r5)).length : Nat) : Int))) ((Int.toNat (r5.length : Int)) - (Int.toNat (((Int.toNat a3) + (List.take (r5.length - (Int.toNat (w (a3 + 1)))) (List.drop (0 + (Int.toNat (w (a3 + 1)))) r5)).length : Nat) : Int))) ((⟨#[]⟩ : ByteArray), 0))), x3)).bind fun r7 =>
                        some (r7.1, r7.2)
                      else
                        none
                    else
                      none
                  else
                    none
                else
                  none
              else
                none
            else
              none
        else
          slot_Release.l0 N x0 x1 x2 x3 r1 k2 (w (a3 + 1))
      else
        none
    else
      some ([], 8) := by kernel_rfl
theorem slot_Release.l0_cons (N : Nat) (x0 : ByteArray) (x1 : ByteArray) (x2 : List (ByteArray × Int)) (x3 : List ((Int × Int) × Int)) (r1 : List (ByteArray × ByteArray × Int) × Int) (k2 : Nat) {pre r} {x} (hl : x2 = pre ++ x :: r) (hb : x2.length < 4611686018427387904) : slot_Release.l0 N x0 x1 x2 x3 r1 (k2 + 1) (pre.length : Int) =
    (slot_Release_1.fn N (x, x1)).bind fun r4 =>
    bif r4 then
      bif decide ((pre.length : Int) < 0) then
        some ([], 8)
      else
        (slices_Clone_SlotDemand.fn N x2).bind fun r5 =>
        bif (((decide ((pre.length : Int) ≤ ((pre.length : Int) + 1)))) && (decide (((pre.length : Int) + 1) ≤ (r5.length : Int)))) && (decide ((r5.length : Int) ≤ (r5.length : Int))) then
          bif (pre.length : Int) == ((pre.length : Int) + 1) then
            (slot_Assign.fn N (x0, r5, x3)).bind fun r6 =>
            some (r6.1, r6.2)
          else
          bif decide (0 + pre.length ≤ r5.length) then
            bif (decide (0 ≤ ((pre.length : Int) + 1))) && (decide (((pre.length : Int) + 1) ≤ ((r5.length : Nat) : Int))) then
              bif decide (((List.take pre.length r5).length + (List.take (r5.length - (Int.toNat ((pre.length : Int) + 1))) (List.drop (0 + (Int.toNat ((pre.length : Int) + 1))) r5)).length) * 24 ≤ 140737488355328) && decide (((List.take pre.length r5).length + (List.take (r5.length - (Int.toNat ((pre.length : Int) + 1))) (List.drop (0 + (Int.toNat ((pre.length : Int) + 1))) r5)).length) ≤ maxLen) then
                bif decide (pre.length + (List.take (r5.length - (Int.toNat ((pre.length : Int) + 1))) (List.drop (0 + (Int.toNat ((pre.length : Int) + 1))) r5)).length ≤ r5.length) then
                  bif ((decide (0 ≤ ((pre.length + (List.take (r5.length - (Int.toNat ((pre.length : Int) + 1))) (List.drop (0 + (Int.toNat ((pre.length : Int) + 1))) r5)).length : Nat) : Int))) && (decide (((pre.length + (List.take (r5.length - (Int.toNat ((pre.length : Int) + 1))) (List.drop (0 + (Int.toNat ((pre.length : Int) + 1))) r5)).length : Nat) : Int) ≤ (r5.length : Int)))) && (decide (0 + (Int.toNat (r5.length : Int)) ≤ ((List.take pre.length r5) ++ (List.take (r5.length - (Int.toNat ((pre.length : Int) + 1))) (List.drop (0 + (Int.toNat ((pre.length : Int) + 1))) r5)) ++ (List.drop (pre.length + (List.take (r5.length - (Int.toNat ((pre.length : Int) + 1))) (List.drop (0 + (Int.toNat ((pre.length : Int) + 1))) r5)).length) r5)).length)) then
                    (slot_Assign.fn N (x0, (List.take (pre.length + (List.take (r5.length - (Int.toNat ((pre.length : Int) + 1))) (List.drop (0 + (Int.toNat ((pre.length : Int) + 1))) r5)).length) (fillL ((List.take pre.length r5) ++ (List.take (r5.length - (Int.toNat ((pre.length : Int) + 1))) (List.drop (0 + (Int.toNat ((pre.length : Int) + 1))) r5)) ++ (List.drop (pre.length + (List.take (r5.length - (Int.toNat ((pre.length : Int) + 1))) (List.drop (0 + (Int.toNat ((pre.length : Int) + 1))) r5)).length) r5)) (0 + (Int.toNat ((pre.length + (List.take (r5.length - (Int.toNat ((pre.length : Int) + 1))) (List.drop (0 + (Int.toNat ((pre.length : Int) + 1))) r5)).length : Nat) : Int))) ((Int.toNat (r5.length : Int)) - (Int.toNat ((pre.length + (List.take (r5.length - (Int.toNat ((pre.length : Int) + 1))) (List.drop (0 + (Int.toNat ((pre.length : Int) + 1))) r5)).length : Nat) : Int))) ((⟨#[]⟩ : ByteArray), 0))), x3)).bind fun r7 =>
                    some (r7.1, r7.2)
                  else
                    none
                else
                  none
              else
                none
            else
              none
          else
            none
        else
          none
    else
      slot_Release.l0 N x0 x1 x2 x3 r1 k2 ((pre.length : Int) + 1) := by
  have hlen : x2.length = pre.length + 1 + r.length := by rw [hl]; simp; omega
  have e1 : decide ((pre.length : Int) < (x2.length : Int)) = true := by rw [decide_eq_true_iff]; omega
  have e2 : decide (0 ≤ (pre.length : Int)) = true := by rw [decide_eq_true_iff]; omega
  have e4 : w ((pre.length : Int) + 1) = (pre.length : Int) + 1 := w_next hl hb
  have e5 : List.take pre.length x2 = pre := by rw [hl]; simp
  have e6 : decide ((pre.length : Int) ≤ (x2.length : Int)) = true := by rw [decide_eq_true_iff]; omega
  have g0 : List.getD x2 pre.length ((⟨#[]⟩ : ByteArray), 0) = x := by rw [hl]; exact getD_mid pre x r _
  rw [slot_Release.l0_succ]
  simp -implicitDefEqProofs only [Int.toNat_natCast, e1, e2, e4, e6, g0, e5, Bool.and_true, Bool.true_and, Bool.true_or, cond_true]
theorem slot_Release.l0_nil (N : Nat) (x0 : ByteArray) (x1 : ByteArray) (x2 : List (ByteArray × Int)) (x3 : List ((Int × Int) × Int)) (r1 : List (ByteArray × ByteArray × Int) × Int) (k2 : Nat) : slot_Release.l0 N x0 x1 x2 x3 r1 (k2 + 1) (x2.length : Int) =
    some ([], 8) := by
  have e1 : decide ((x2.length : Int) < (x2.length : Int)) = false := by rw [decide_eq_false_iff_not]; omega
  rw [slot_Release.l0_succ]
  simp -implicitDefEqProofs only [e1, cond_false]
theorem slot_Release.eq (N : Nat) (x0 : ByteArray) (x1 : ByteArray) (x2 : List (ByteArray × Int)) (x3 : List ((Int × Int) × Int)) : slot_Release.fn N (x0, x1, x2, x3) =
    (slot_Assign.fn N (x0, x2, x3)).bind fun r1 =>
    bif !(r1.2 == 0) then
      some ([], r1.2)
    else
      slot_Release.l0 N x0 x1 x2 x3 r1 N 0 := by kernel_rfl

/-! ### slices_Clone_Slot: slices.Clone[[]skyway/api.Slot,skyway/api.Slot] -/
def slices_Clone_Slot.kp : List (Nat × List (Nat × Option (TypeId × Ty))) := []
noncomputable def slices_Clone_Slot.G (N : Nat) : List (Nat × Spec) := []
noncomputable def slices_Clone_Slot.E (N : Nat) : Env := mkEnv (slices_Clone_Slot.G N) N tyTab slices_Clone_Slot.kp
noncomputable def slices_Clone_Slot.fn (N : Nat) (x : List (ByteArray × ByteArray × Int)) : Option (List (ByteArray × ByteArray × Int)) := evFn (slices_Clone_Slot.E N) Try.prog 3 Try.f66 false [.cell (.sl 94 (.pair (.str) (.pair (.str) (.int .i64))))] [.own 94 (.pair (.str) (.pair (.str) (.int .i64)))] x
noncomputable def slices_Clone_Slot.S (N : Nat) : PSpec := ⟨false, [.cell (.sl 94 (.pair (.str) (.pair (.str) (.int .i64))))], [.own 94 (.pair (.str) (.pair (.str) (.int .i64)))], slices_Clone_Slot.fn N⟩
theorem f66_enters : Enters Try.prog 66 := ⟨Try.f66, Try.func66, by kernel_rfl, by kernel_rfl⟩
theorem slices_Clone_Slot.tab (N : Nat) : TabOk Try.prog (slices_Clone_Slot.G N) := trivial
theorem slices_Clone_Slot.enters : Enters Try.prog 66 := f66_enters
theorem slices_Clone_Slot.sound (N : Nat) : Sound Try.prog 66 (slices_Clone_Slot.S N) := evFn_sound (specs_tab (slices_Clone_Slot.tab N)) (inls_tab (slices_Clone_Slot.tab N)) mixed 3 Try.func66 _ _ _
theorem slices_Clone_Slot.eq (N : Nat) (x0 : List (ByteArray × ByteArray × Int)) : slices_Clone_Slot.fn N x0 =
    bif x0.isEmpty then
      agree (
        some []) (
        bif decide ((0 + x0.length) * 40 ≤ 140737488355328) && decide ((0 + x0.length) ≤ maxLen) then
          some x0
        else
          none)
    else
    bif decide ((0 + x0.length) * 40 ≤ 140737488355328) && decide ((0 + x0.length) ≤ maxLen) then
      some x0
    else
      none := by kernel_rfl
theorem slices_Clone_Slot.v (N : Nat) (x0 : List (ByteArray × ByteArray × Int)) (h : x0.length * 40 ≤ 140737488355328) : slices_Clone_Slot.fn N x0 = some x0 := clone_v (B := 40) (slices_Clone_Slot.eq N x0) (by omega) h

/-! ### slot_Swap: skyway/slot.Swap -/
def slot_Swap.kp : List (Nat × List (Nat × Option (TypeId × Ty))) := []
noncomputable def slot_Swap.G (N : Nat) : List (Nat × Spec) := [(59, .pure (slot_Delays.S N)), (66, .pure (slices_Clone_Slot.S N)), (111, .pure (slot_find.S N))]
noncomputable def slot_Swap.E (N : Nat) : Env := mkEnv (slot_Swap.G N) N tyTab slot_Swap.kp
noncomputable def slot_Swap.fn (N : Nat) (x : List (ByteArray × Int) × List (ByteArray × ByteArray × Int) × ByteArray × ByteArray) : Option (List (ByteArray × ByteArray × Int) × Int) := evFn (slot_Swap.E N) Try.prog 3 Try.f60 false [.cell (.sl 106 (.pair (.str) (.int .i64))), .cell (.sl 94 (.pair (.str) (.pair (.str) (.int .i64)))), .cell (.str), .cell (.str)] [.own 94 (.pair (.str) (.pair (.str) (.int .i64))), .val (.cell (.int .i64))] x
noncomputable def slot_Swap.S (N : Nat) : PSpec := ⟨false, [.cell (.sl 106 (.pair (.str) (.int .i64))), .cell (.sl 94 (.pair (.str) (.pair (.str) (.int .i64)))), .cell (.str), .cell (.str)], [.own 94 (.pair (.str) (.pair (.str) (.int .i64))), .val (.cell (.int .i64))], slot_Swap.fn N⟩
theorem f60_enters : Enters Try.prog 60 := ⟨Try.f60, Try.func60, by kernel_rfl, by kernel_rfl⟩
theorem slot_Swap.tab (N : Nat) : TabOk Try.prog (slot_Swap.G N) := ⟨⟨slot_Delays.enters, slot_Delays.sound N⟩, ⟨slices_Clone_Slot.enters, slices_Clone_Slot.sound N⟩, ⟨slot_find.enters, slot_find.sound N⟩, trivial⟩
theorem slot_Swap.enters : Enters Try.prog 60 := f60_enters
theorem slot_Swap.sound (N : Nat) : Sound Try.prog 60 (slot_Swap.S N) := evFn_sound (specs_tab (slot_Swap.tab N)) (inls_tab (slot_Swap.tab N)) mixed 3 Try.func60 _ _ _
theorem slot_Swap.eq (N : Nat) (x0 : List (ByteArray × Int)) (x1 : List (ByteArray × ByteArray × Int)) (x2 : ByteArray) (x3 : ByteArray) : slot_Swap.fn N (x0, x1, x2, x3) =
    (slot_Delays.fn N (x0, x1)).bind fun r1 =>
    bif !(r1.2 == 0) then
      some ([], r1.2)
    else
      (slot_find.fn N (x1, x2)).bind fun r2 =>
      (slot_find.fn N (x1, x3)).bind fun r3 =>
      bif !(!(decide (r2 < 0))) || (!(decide (r2 < 0))) then
        bif (decide (r2 < 0)) || (!(decide (r2 < 0))) then
          bif (decide (r2 < 0)) || (decide (r3 < 0)) then
            some ([], 8)
          else
            (slices_Clone_Slot.fn N x1).bind fun r4 =>
            bif (decide (0 ≤ r3)) && (decide (r3 < (x1.length : Int))) then
              bif (decide (0 ≤ r2)) && (decide (r2 < (x1.length : Int))) then
                bif (decide (0 ≤ r2)) && (decide (r2 < (r4.length : Int))) then
                  bif decide ((Int.toNat r2) < r4.length) then
                    bif (decide (0 ≤ r3)) && (decide (r3 < ((List.set r4 (Int.toNat r2) ((List.getD r4 (Int.toNat r2) ((⟨#[]⟩ : ByteArray), ((⟨#[]⟩ : ByteArray), 0))).1, (((List.getD r4 (Int.toNat r2) ((⟨#[]⟩ : ByteArray), ((⟨#[]⟩ : ByteArray), 0))).2).1, ((List.getD x1 (Int.toNat r3) ((⟨#[]⟩ : ByteArray), ((⟨#[]⟩ : ByteArray), 0))).2).2))).length : Int))) then
                      bif decide ((Int.toNat r3) < (List.set r4 (Int.toNat r2) ((List.getD r4 (Int.toNat r2) ((⟨#[]⟩ : ByteArray), ((⟨#[]⟩ : ByteArray), 0))).1, (((List.getD r4 (Int.toNat r2) ((⟨#[]⟩ : ByteArray), ((⟨#[]⟩ : ByteArray), 0))).2).1, ((List.getD x1 (Int.toNat r3) ((⟨#[]⟩ : ByteArray), ((⟨#[]⟩ : ByteArray), 0))).2).2))).length) then
                        (slot_Delays.fn N (x0, (List.set (List.set r4 (Int.toNat r2) ((List.getD r4 (Int.toNat r2) ((⟨#[]⟩ : ByteArray), ((⟨#[]⟩ : ByteArray), 0))).1, (((List.getD r4 (Int.toNat r2) ((⟨#[]⟩ : ByteArray), ((⟨#[]⟩ : ByteArray), 0))).2).1, ((List.getD x1 (Int.toNat r3) ((⟨#[]⟩ : ByteArray), ((⟨#[]⟩ : ByteArray), 0))).2).2))) (Int.toNat r3) ((List.getD (List.set r4 (Int.toNat r2) ((List.getD r4 (Int.toNat r2) ((⟨#[]⟩ : ByteArray), ((⟨#[]⟩ : ByteArray), 0))).1, (((List.getD r4 (Int.toNat r2) ((⟨#[]⟩ : ByteArray), ((⟨#[]⟩ : ByteArray), 0))).2).1, ((List.getD x1 (Int.toNat r3) ((⟨#[]⟩ : ByteArray), ((⟨#[]⟩ : ByteArray), 0))).2).2))) (Int.toNat r3) ((⟨#[]⟩ : ByteArray), ((⟨#[]⟩ : ByteArray), 0))).1, (((List.getD (List.set r4 (Int.toNat r2) ((List.getD r4 (Int.toNat r2) ((⟨#[]⟩ : ByteArray), ((⟨#[]⟩ : ByteArray), 0))).1, (((List.getD r4 (Int.toNat r2) ((⟨#[]⟩ : ByteArray), ((⟨#[]⟩ : ByteArray), 0))).2).1, ((List.getD x1 (Int.toNat r3) ((⟨#[]⟩ : ByteArray), ((⟨#[]⟩ : ByteArray), 0))).2).2))) (Int.toNat r3) ((⟨#[]⟩ : ByteArray), ((⟨#[]⟩ : ByteArray), 0))).2).1, ((List.getD x1 (Int.toNat r2) ((⟨#[]⟩ : ByteArray), ((⟨#[]⟩ : ByteArray), 0))).2).2))))).bind fun r5 =>
                        bif !(r5.2 == 0) then
                          some ([], 12)
                        else
                          some ((List.set (List.set r4 (Int.toNat r2) ((List.getD r4 (Int.toNat r2) ((⟨#[]⟩ : ByteArray), ((⟨#[]⟩ : ByteArray), 0))).1, (((List.getD r4 (Int.toNat r2) ((⟨#[]⟩ : ByteArray), ((⟨#[]⟩ : ByteArray), 0))).2).1, ((List.getD x1 (Int.toNat r3) ((⟨#[]⟩ : ByteArray), ((⟨#[]⟩ : ByteArray), 0))).2).2))) (Int.toNat r3) ((List.getD (List.set r4 (Int.toNat r2) ((List.getD r4 (Int.toNat r2) ((⟨#[]⟩ : ByteArray), ((⟨#[]⟩ : ByteArray), 0))).1, (((List.getD r4 (Int.toNat r2) ((⟨#[]⟩ : ByteArray), ((⟨#[]⟩ : ByteArray), 0))).2).1, ((List.getD x1 (Int.toNat r3) ((⟨#[]⟩ : ByteArray), ((⟨#[]⟩ : ByteArray), 0))).2).2))) (Int.toNat r3) ((⟨#[]⟩ : ByteArray), ((⟨#[]⟩ : ByteArray), 0))).1, (((List.getD (List.set r4 (Int.toNat r2) ((List.getD r4 (Int.toNat r2) ((⟨#[]⟩ : ByteArray), ((⟨#[]⟩ : ByteArray), 0))).1, (((List.getD r4 (Int.toNat r2) ((⟨#[]⟩ : ByteArray), ((⟨#[]⟩ : ByteArray), 0))).2).1, ((List.getD x1 (Int.toNat r3) ((⟨#[]⟩ : ByteArray), ((⟨#[]⟩ : ByteArray), 0))).2).2))) (Int.toNat r3) ((⟨#[]⟩ : ByteArray), ((⟨#[]⟩ : ByteArray), 0))).2).1, ((List.getD x1 (Int.toNat r2) ((⟨#[]⟩ : ByteArray), ((⟨#[]⟩ : ByteArray), 0))).2).2))), 0)
                      else
                        none
                    else
                      none
                  else
                    none
                else
                  none
              else
                none
            else
              none
        else
          none
      else
        none := by kernel_rfl
theorem slot_Swap.clean (N : Nat) (x0 : List (ByteArray × Int)) (x1 : List (ByteArray × ByteArray × Int)) (x2 : ByteArray) (x3 : ByteArray) : slot_Swap.fn N (x0, x1, x2, x3) =
    (slot_Delays.fn N (x0, x1)).bind fun r1 =>
    bif !(r1.2 == 0) then
      some ([], r1.2)
    else
      (slot_find.fn N (x1, x2)).bind fun r2 =>
      (slot_find.fn N (x1, x3)).bind fun r3 =>
      bif (decide (r2 < 0)) || (decide (r3 < 0)) then
        some ([], 8)
      else
        (slices_Clone_Slot.fn N x1).bind fun r4 =>
        bif (decide (0 ≤ r3)) && (decide (r3 < (x1.length : Int))) then
          bif (decide (0 ≤ r2)) && (decide (r2 < (x1.length : Int))) then
            bif (decide (0 ≤ r2)) && (decide (r2 < (r4.length : Int))) then
              bif decide ((Int.toNat r2) < r4.length) then
                bif (decide (0 ≤ r3)) && (decide (r3 < ((List.set r4 (Int.toNat r2) ((List.getD r4 (Int.toNat r2) ((⟨#[]⟩ : ByteArray), ((⟨#[]⟩ : ByteArray), 0))).1, (((List.getD r4 (Int.toNat r2) ((⟨#[]⟩ : ByteArray), ((⟨#[]⟩ : ByteArray), 0))).2).1, ((List.getD x1 (Int.toNat r3) ((⟨#[]⟩ : ByteArray), ((⟨#[]⟩ : ByteArray), 0))).2).2))).length : Int))) then
                  bif decide ((Int.toNat r3) < (List.set r4 (Int.toNat r2) ((List.getD r4 (Int.toNat r2) ((⟨#[]⟩ : ByteArray), ((⟨#[]⟩ : ByteArray), 0))).1, (((List.getD r4 (Int.toNat r2) ((⟨#[]⟩ : ByteArray), ((⟨#[]⟩ : ByteArray), 0))).2).1, ((List.getD x1 (Int.toNat r3) ((⟨#[]⟩ : ByteArray), ((⟨#[]⟩ : ByteArray), 0))).2).2))).length) then
                    (slot_Delays.fn N (x0, (List.set (List.set r4 (Int.toNat r2) ((List.getD r4 (Int.toNat r2) ((⟨#[]⟩ : ByteArray), ((⟨#[]⟩ : ByteArray), 0))).1, (((List.getD r4 (Int.toNat r2) ((⟨#[]⟩ : ByteArray), ((⟨#[]⟩ : ByteArray), 0))).2).1, ((List.getD x1 (Int.toNat r3) ((⟨#[]⟩ : ByteArray), ((⟨#[]⟩ : ByteArray), 0))).2).2))) (Int.toNat r3) ((List.getD (List.set r4 (Int.toNat r2) ((List.getD r4 (Int.toNat r2) ((⟨#[]⟩ : ByteArray), ((⟨#[]⟩ : ByteArray), 0))).1, (((List.getD r4 (Int.toNat r2) ((⟨#[]⟩ : ByteArray), ((⟨#[]⟩ : ByteArray), 0))).2).1, ((List.getD x1 (Int.toNat r3) ((⟨#[]⟩ : ByteArray), ((⟨#[]⟩ : ByteArray), 0))).2).2))) (Int.toNat r3) ((⟨#[]⟩ : ByteArray), ((⟨#[]⟩ : ByteArray), 0))).1, (((List.getD (List.set r4 (Int.toNat r2) ((List.getD r4 (Int.toNat r2) ((⟨#[]⟩ : ByteArray), ((⟨#[]⟩ : ByteArray), 0))).1, (((List.getD r4 (Int.toNat r2) ((⟨#[]⟩ : ByteArray), ((⟨#[]⟩ : ByteArray), 0))).2).1, ((List.getD x1 (Int.toNat r3) ((⟨#[]⟩ : ByteArray), ((⟨#[]⟩ : ByteArray), 0))).2).2))) (Int.toNat r3) ((⟨#[]⟩ : ByteArray), ((⟨#[]⟩ : ByteArray), 0))).2).1, ((List.getD x1 (Int.toNat r2) ((⟨#[]⟩ : ByteArray), ((⟨#[]⟩ : ByteArray), 0))).2).2))))).bind fun r5 =>
                    bif !(r5.2 == 0) then
                      some ([], 12)
                    else
                      some ((List.set (List.set r4 (Int.toNat r2) ((List.getD r4 (Int.toNat r2) ((⟨#[]⟩ : ByteArray), ((⟨#[]⟩ : ByteArray), 0))).1, (((List.getD r4 (Int.toNat r2) ((⟨#[]⟩ : ByteArray), ((⟨#[]⟩ : ByteArray), 0))).2).1, ((List.getD x1 (Int.toNat r3) ((⟨#[]⟩ : ByteArray), ((⟨#[]⟩ : ByteArray), 0))).2).2))) (Int.toNat r3) ((List.getD (List.set r4 (Int.toNat r2) ((List.getD r4 (Int.toNat r2) ((⟨#[]⟩ : ByteArray), ((⟨#[]⟩ : ByteArray), 0))).1, (((List.getD r4 (Int.toNat r2) ((⟨#[]⟩ : ByteArray), ((⟨#[]⟩ : ByteArray), 0))).2).1, ((List.getD x1 (Int.toNat r3) ((⟨#[]⟩ : ByteArray), ((⟨#[]⟩ : ByteArray), 0))).2).2))) (Int.toNat r3) ((⟨#[]⟩ : ByteArray), ((⟨#[]⟩ : ByteArray), 0))).1, (((List.getD (List.set r4 (Int.toNat r2) ((List.getD r4 (Int.toNat r2) ((⟨#[]⟩ : ByteArray), ((⟨#[]⟩ : ByteArray), 0))).1, (((List.getD r4 (Int.toNat r2) ((⟨#[]⟩ : ByteArray), ((⟨#[]⟩ : ByteArray), 0))).2).1, ((List.getD x1 (Int.toNat r3) ((⟨#[]⟩ : ByteArray), ((⟨#[]⟩ : ByteArray), 0))).2).2))) (Int.toNat r3) ((⟨#[]⟩ : ByteArray), ((⟨#[]⟩ : ByteArray), 0))).2).1, ((List.getD x1 (Int.toNat r2) ((⟨#[]⟩ : ByteArray), ((⟨#[]⟩ : ByteArray), 0))).2).2))), 0)
                  else
                    none
                else
                  none
              else
                none
            else
              none
          else
            none
        else
          none := by
  rw [slot_Swap.eq]; simp only [taut1, taut6, cond_true]

/-! ### slices_Equal_Slot: slices.Equal[[]skyway/api.Slot,skyway/api.Slot] -/
def slices_Equal_Slot.kp : List (Nat × List (Nat × Option (TypeId × Ty))) := [(4, [(0, none), (1, none), (12, none), (13, none)])]
noncomputable def slices_Equal_Slot.G (N : Nat) : List (Nat × Spec) := []
noncomputable def slices_Equal_Slot.E (N : Nat) : Env := mkEnv (slices_Equal_Slot.G N) N tyTab slices_Equal_Slot.kp
noncomputable def slices_Equal_Slot.fn (N : Nat) (x : List (ByteArray × ByteArray × Int) × List (ByteArray × ByteArray × Int)) : Option Bool := evFn (slices_Equal_Slot.E N) Try.prog 3 Try.f58 false [.cell (.sl 94 (.pair (.str) (.pair (.str) (.int .i64)))), .cell (.sl 94 (.pair (.str) (.pair (.str) (.int .i64))))] [.val (.cell (.bool))] x
noncomputable def slices_Equal_Slot.S (N : Nat) : PSpec := ⟨false, [.cell (.sl 94 (.pair (.str) (.pair (.str) (.int .i64)))), .cell (.sl 94 (.pair (.str) (.pair (.str) (.int .i64))))], [.val (.cell (.bool))], slices_Equal_Slot.fn N⟩
theorem f58_enters : Enters Try.prog 58 := ⟨Try.f58, Try.func58, by kernel_rfl, by kernel_rfl⟩
theorem slices_Equal_Slot.tab (N : Nat) : TabOk Try.prog (slices_Equal_Slot.G N) := trivial
theorem slices_Equal_Slot.enters : Enters Try.prog 58 := f58_enters
theorem slices_Equal_Slot.sound (N : Nat) : Sound Try.prog 58 (slices_Equal_Slot.S N) := evFn_sound (specs_tab (slices_Equal_Slot.tab N)) (inls_tab (slices_Equal_Slot.tab N)) mixed 3 Try.func58 _ _ _
noncomputable def slices_Equal_Slot.cd (N : Nat) (p : List Nat) : St → (Ex → St → Option Bool) → Option Bool := ev (slices_Equal_Slot.E N) Try.prog (callD (slices_Equal_Slot.E N) Try.prog 3) 0 (codeAt (bodyOf Try.f58) p)
noncomputable def slices_Equal_Slot.fin : Ex → St → Option Bool := endK Try.prog Try.f58 [.val (.cell (.bool))]
noncomputable def slices_Equal_Slot.l0 (N : Nat) (x0 : List (ByteArray × ByteArray × Int)) (x1 : List (ByteArray × ByteArray × Int)) (k1 : Nat) (a2 : Int) : Option Bool :=
  loopN (norm ((slices_Equal_Slot.E N).keep 4) 0) (slices_Equal_Slot.cd N [1, 1, 0, 1, 0, 0]) k1
  ⟨[.ros false 94 (.pair (.str) (.pair (.str) (.int .i64))) x0, .ros false 94 (.pair (.str) (.pair (.str) (.int .i64))) x1, .any, .any, .any, .any, .any, .any, .any, .any, .any, .any, .sc (.int .i64 (x0.length : Int)), .sc (.int .i64 a2), .any, .any, .any, .any, .any, .any, .any, .any, .any, .any, .any, .any], []⟩
  (blockK 0 (seqK (slices_Equal_Slot.cd N [1, 1, 1]) slices_Equal_Slot.fin))
theorem slices_Equal_Slot.l0_zero (N : Nat) (x0 : List (ByteArray × ByteArray × Int)) (x1 : List (ByteArray × ByteArray × Int)) (a2 : Int) : slices_Equal_Slot.l0 N x0 x1 0 a2 = none := by kernel_rfl
theorem slices_Equal_Slot.l0_succ (N : Nat) (x0 : List (ByteArray × ByteArray × Int)) (x1 : List (ByteArray × ByteArray × Int)) (k1 : Nat) (a2 : Int) : slices_Equal_Slot.l0 N x0 x1 (k1 + 1) a2 =
    bif decide (a2 < (x0.length : Int)) then
      bif (decide (0 ≤ a2)) && (decide (a2 < (x0.length : Int))) then
        bif (decide (0 ≤ a2)) && (decide (a2 < (x1.length : Int))) then
          bif !((seq ((List.getD x0 (Int.toNat a2) ((⟨#[]⟩ : ByteArray), ((⟨#[]⟩ : ByteArray), 0))).1) ((List.getD x1 (Int.toNat a2) ((⟨#[]⟩ : ByteArray), ((⟨#[]⟩ : ByteArray), 0))).1)) && ((seq (((List.getD x0 (Int.toNat a2) ((⟨#[]⟩ : ByteArray), ((⟨#[]⟩ : ByteArray), 0))).2).1) (((List.getD x1 (Int.toNat a2) ((⟨#[]⟩ : ByteArray), ((⟨#[]⟩ : ByteArray), 0))).2).1)) && (((((List.getD x0 (Int.toNat a2) ((⟨#[]⟩ : ByteArray), ((⟨#[]⟩ : ByteArray), 0))).2).2) == (((List.getD x1 (Int.toNat a2) ((⟨#[]⟩ : ByteArray), ((⟨#[]⟩ : ByteArray), 0))).2).2)) && true))) then
            some false
          else
            slices_Equal_Slot.l0 N x0 x1 k1 (w (a2 + 1))
        else
          none
      else
        none
    else
      some true := by kernel_rfl
theorem slices_Equal_Slot.l0_cons (N : Nat) (x0 : List (ByteArray × ByteArray × Int)) (x1 : List (ByteArray × ByteArray × Int)) (k1 : Nat) {pre r} {x} (hl : x0 = pre ++ x :: r) (hb : x0.length < 4611686018427387904) : slices_Equal_Slot.l0 N x0 x1 (k1 + 1) (pre.length : Int) =
    bif decide ((pre.length : Int) < (x1.length : Int)) then
      bif !((seq (x.1) ((List.getD x1 pre.length ((⟨#[]⟩ : ByteArray), ((⟨#[]⟩ : ByteArray), 0))).1)) && ((seq ((x.2).1) (((List.getD x1 pre.length ((⟨#[]⟩ : ByteArray), ((⟨#[]⟩ : ByteArray), 0))).2).1)) && ((((x.2).2) == (((List.getD x1 pre.length ((⟨#[]⟩ : ByteArray), ((⟨#[]⟩ : ByteArray), 0))).2).2)) && true))) then
        some false
      else
        slices_Equal_Slot.l0 N x0 x1 k1 ((pre.length : Int) + 1)
    else
      none := by
  have hlen : x0.length = pre.length + 1 + r.length := by rw [hl]; simp; omega
  have e1 : decide ((pre.length : Int) < (x0.length : Int)) = true := by rw [decide_eq_true_iff]; omega
  have e2 : decide (0 ≤ (pre.length : Int)) = true := by rw [decide_eq_true_iff]; omega
  have e4 : w ((pre.length : Int) + 1) = (pre.length : Int) + 1 := w_next hl hb
  have e5 : List.take pre.length x0 = pre := by rw [hl]; simp
  have e6 : decide ((pre.length : Int) ≤ (x0.length : Int)) = true := by rw [decide_eq_true_iff]; omega
  have g0 : List.getD x0 pre.length ((⟨#[]⟩ : ByteArray), ((⟨#[]⟩ : ByteArray), 0)) = x := by rw [hl]; exact getD_mid pre x r _
  rw [slices_Equal_Slot.l0_succ]
  simp -implicitDefEqProofs only [Int.toNat_natCast, e1, e2, e4, e6, g0, e5, Bool.and_true, Bool.true_and, Bool.true_or, cond_true]
theorem slices_Equal_Slot.l0_nil (N : Nat) (x0 : List (ByteArray × ByteArray × Int)) (x1 : List (ByteArray × ByteArray × Int)) (k1 : Nat) : slices_Equal_Slot.l0 N x0 x1 (k1 + 1) (x0.length : Int) =
    some true := by
  have e1 : decide ((x0.length : Int) < (x0.length : Int)) = false := by rw [decide_eq_false_iff_not]; omega
  rw [slices_Equal_Slot.l0_succ]
  simp -implicitDefEqProofs only [e1, cond_false]
theorem slices_Equal_Slot.eq (N : Nat) (x0 : List (ByteArray × ByteArray × Int)) (x1 : List (ByteArray × ByteArray × Int)) : slices_Equal_Slot.fn N (x0, x1) =
    bif !((x0.length : Int) == (x1.length : Int)) then
      some false
    else
      slices_Equal_Slot.l0 N x0 x1 N 0 := by kernel_rfl
theorem slices_Equal_Slot.v {N : Nat} (hN : 4611686018427387904 ≤ N) (x0 x1 : List (ByteArray × ByteArray × Int)) (h : x0.length < 4611686018427387904) : slices_Equal_Slot.fn N (x0, x1) = some (eqL (fun p q => ((seq (p.1) (q.1)) && ((seq ((p.2).1) ((q.2).1)) && ((((p.2).2) == ((q.2).2)) && true)))) x0 x1) := equal_list hN (fun p q => ((seq (p.1) (q.1)) && ((seq ((p.2).1) ((q.2).1)) && ((((p.2).2) == ((q.2).2)) && true)))) ((⟨#[]⟩ : ByteArray), ((⟨#[]⟩ : ByteArray), 0)) h (fun k i => slices_Equal_Slot.l0 N x0 x1 k i) (slices_Equal_Slot.eq N x0 x1) (fun k i => slices_Equal_Slot.l0_succ N x0 x1 k i)
theorem slices_Equal_Slot.self {N : Nat} (hN : 4611686018427387904 ≤ N) (x0 : List (ByteArray × ByteArray × Int)) (h : x0.length < 4611686018427387904) : slices_Equal_Slot.fn N (x0, x0) = some true := by rw [slices_Equal_Slot.v hN x0 x0 h]; exact congrArg some (eqL_refl (fun p => by simp [seq_self]) x0)

/-! ### slices_Equal_int: slices.Equal[[]int,int] -/
def slices_Equal_int.kp : List (Nat × List (Nat × Option (TypeId × Ty))) := [(4, [(0, none), (1, none), (12, none), (13, none)])]
noncomputable def slices_Equal_int.G (N : Nat) : List (Nat × Spec) := []
noncomputable def slices_Equal_int.E (N : Nat) : Env := mkEnv (slices_Equal_int.G N) N tyTab slices_Equal_int.kp
noncomputable def slices_Equal_int.fn (N : Nat) (x : List Int × List Int) : Option Bool := evFn (slices_Equal_int.E N) Try.prog 3 Try.f62 false [.cell (.sl 3 (.int .i64)), .cell (.sl 3 (.int .i64))] [.val (.cell (.bool))] x
noncomputable def slices_Equal_int.S (N : Nat) : PSpec := ⟨false, [.cell (.sl 3 (.int .i64)), .cell (.sl 3 (.int .i64))], [.val (.cell (.bool))], slices_Equal_int.fn N⟩
theorem f62_enters : Enters Try.prog 62 := ⟨Try.f62, Try.func62, by kernel_rfl, by kernel_rfl⟩
theorem slices_Equal_int.tab (N : Nat) : TabOk Try.prog (slices_Equal_int.G N) := trivial
theorem slices_Equal_int.enters : Enters Try.prog 62 := f62_enters
theorem slices_Equal_int.sound (N : Nat) : Sound Try.prog 62 (slices_Equal_int.S N) := evFn_sound (specs_tab (slices_Equal_int.tab N)) (inls_tab (slices_Equal_int.tab N)) mixed 3 Try.func62 _ _ _
noncomputable def slices_Equal_int.cd (N : Nat) (p : List Nat) : St → (Ex → St → Option Bool) → Option Bool := ev (slices_Equal_int.E N) Try.prog (callD (slices_Equal_int.E N) Try.prog 3) 0 (codeAt (bodyOf Try.f62) p)
noncomputable def slices_Equal_int.fin : Ex → St → Option Bool := endK Try.prog Try.f62 [.val (.cell (.bool))]
noncomputable def slices_Equal_int.l0 (N : Nat) (x0 : List Int) (x1 : List Int) (k1 : Nat) (a2 : Int) : Option Bool :=
  loopN (norm ((slices_Equal_int.E N).keep 4) 0) (slices_Equal_int.cd N [1, 1, 0, 1, 0, 0]) k1
  ⟨[.ros false 3 (.int .i64) x0, .ros false 3 (.int .i64) x1, .any, .any, .any, .any, .any, .any, .any, .any, .any, .any, .sc (.int .i64 (x0.length : Int)), .sc (.int .i64 a2), .any, .any, .any, .any, .any, .any, .any, .any, .any, .any, .any, .any], []⟩
  (blockK 0 (seqK (slices_Equal_int.cd N [1, 1, 1]) slices_Equal_int.fin))
theorem slices_Equal_int.l0_zero (N : Nat) (x0 : List Int) (x1 : List Int) (a2 : Int) : slices_Equal_int.l0 N x0 x1 0 a2 = none := by kernel_rfl
theorem slices_Equal_int.l0_succ (N : Nat) (x0 : List Int) (x1 : List Int) (k1 : Nat) (a2 : Int) : slices_Equal_int.l0 N x0 x1 (k1 + 1) a2 =
    bif decide (a2 < (x0.length : Int)) then
      bif (decide (0 ≤ a2)) && (decide (a2 < (x0.length : Int))) then
        bif (decide (0 ≤ a2)) && (decide (a2 < (x1.length : Int))) then
          bif !((List.getD x0 (Int.toNat a2) 0) == (List.getD x1 (Int.toNat a2) 0)) then
            some false
          else
            slices_Equal_int.l0 N x0 x1 k1 (w (a2 + 1))
        else
          none
      else
        none
    else
      some true := by kernel_rfl
theorem slices_Equal_int.l0_cons (N : Nat) (x0 : List Int) (x1 : List Int) (k1 : Nat) {pre r} {x} (hl : x0 = pre ++ x :: r) (hb : x0.length < 4611686018427387904) : slices_Equal_int.l0 N x0 x1 (k1 + 1) (pre.length : Int) =
    bif decide ((pre.length : Int) < (x1.length : Int)) then
      bif !(x == (List.getD x1 pre.length 0)) then
        some false
      else
        slices_Equal_int.l0 N x0 x1 k1 ((pre.length : Int) + 1)
    else
      none := by
  have hlen : x0.length = pre.length + 1 + r.length := by rw [hl]; simp; omega
  have e1 : decide ((pre.length : Int) < (x0.length : Int)) = true := by rw [decide_eq_true_iff]; omega
  have e2 : decide (0 ≤ (pre.length : Int)) = true := by rw [decide_eq_true_iff]; omega
  have e4 : w ((pre.length : Int) + 1) = (pre.length : Int) + 1 := w_next hl hb
  have e5 : List.take pre.length x0 = pre := by rw [hl]; simp
  have e6 : decide ((pre.length : Int) ≤ (x0.length : Int)) = true := by rw [decide_eq_true_iff]; omega
  have g0 : List.getD x0 pre.length 0 = x := by rw [hl]; exact getD_mid pre x r _
  rw [slices_Equal_int.l0_succ]
  simp -implicitDefEqProofs only [Int.toNat_natCast, e1, e2, e4, e6, g0, e5, Bool.and_true, Bool.true_and, Bool.true_or, cond_true]
theorem slices_Equal_int.l0_nil (N : Nat) (x0 : List Int) (x1 : List Int) (k1 : Nat) : slices_Equal_int.l0 N x0 x1 (k1 + 1) (x0.length : Int) =
    some true := by
  have e1 : decide ((x0.length : Int) < (x0.length : Int)) = false := by rw [decide_eq_false_iff_not]; omega
  rw [slices_Equal_int.l0_succ]
  simp -implicitDefEqProofs only [e1, cond_false]
theorem slices_Equal_int.eq (N : Nat) (x0 : List Int) (x1 : List Int) : slices_Equal_int.fn N (x0, x1) =
    bif !((x0.length : Int) == (x1.length : Int)) then
      some false
    else
      slices_Equal_int.l0 N x0 x1 N 0 := by kernel_rfl
theorem slices_Equal_int.v {N : Nat} (hN : 4611686018427387904 ≤ N) (x0 x1 : List Int) (h : x0.length < 4611686018427387904) : slices_Equal_int.fn N (x0, x1) = some (eqL (fun p q => (p == q)) x0 x1) := equal_list hN (fun p q => (p == q)) 0 h (fun k i => slices_Equal_int.l0 N x0 x1 k i) (slices_Equal_int.eq N x0 x1) (fun k i => slices_Equal_int.l0_succ N x0 x1 k i)
theorem slices_Equal_int.self {N : Nat} (hN : 4611686018427387904 ≤ N) (x0 : List Int) (h : x0.length < 4611686018427387904) : slices_Equal_int.fn N (x0, x0) = some true := by rw [slices_Equal_int.v hN x0 x0 h]; exact congrArg some (eqL_refl (fun p => by simp [seq_self]) x0)

/-! ### law_slotFact: skyway/skywaylaw3.slotFact -/
def law_slotFact.kp : List (Nat × List (Nat × Option (TypeId × Ty))) := [(999999, [(0, none)])]
noncomputable def law_slotFact.G (N : Nat) : List (Nat × Spec) := [(51, .pure (slot_Assign.S N)), (52, .pure (slot_Check.S N)), (54, .pure (slot_Name.S N)), (58, .pure (slices_Equal_Slot.S N)), (59, .pure (slot_Delays.S N)), (60, .pure (slot_Swap.S N)), (62, .pure (slices_Equal_int.S N)), (67, .pure (slot_Release.S N)), (100, .pure (law_caps.S N))]
noncomputable def law_slotFact.E (N : Nat) : Env := mkEnv (law_slotFact.G N) N tyTab law_slotFact.kp
noncomputable def law_slotFact.fn (N : Nat) (x : Unit) : Option Bool := evFn (law_slotFact.E N) Try.prog 3 Try.f50 false [] [.val (.cell (.bool))] x
noncomputable def law_slotFact.S (N : Nat) : PSpec := ⟨false, [], [.val (.cell (.bool))], law_slotFact.fn N⟩
theorem f50_enters : Enters Try.prog 50 := ⟨Try.f50, Try.func50, by kernel_rfl, by kernel_rfl⟩
theorem law_slotFact.tab (N : Nat) : TabOk Try.prog (law_slotFact.G N) := ⟨⟨slot_Assign.enters, slot_Assign.sound N⟩, ⟨slot_Check.enters, slot_Check.sound N⟩, ⟨slot_Name.enters, slot_Name.sound N⟩, ⟨slices_Equal_Slot.enters, slices_Equal_Slot.sound N⟩, ⟨slot_Delays.enters, slot_Delays.sound N⟩, ⟨slot_Swap.enters, slot_Swap.sound N⟩, ⟨slices_Equal_int.enters, slices_Equal_int.sound N⟩, ⟨slot_Release.enters, slot_Release.sound N⟩, ⟨law_caps.enters, law_caps.sound N⟩, trivial⟩
theorem law_slotFact.enters : Enters Try.prog 50 := f50_enters
theorem law_slotFact.sound (N : Nat) : Sound Try.prog 50 (law_slotFact.S N) := evFn_sound (specs_tab (law_slotFact.tab N)) (inls_tab (law_slotFact.tab N)) mixed 3 Try.func50 _ _ _
theorem law_slotFact.eq (N : Nat) : law_slotFact.fn N () =
    (law_caps.fn N ()).bind fun r1 =>
    (slot_Assign.fn N ((⟨#[82, 87, 89]⟩ : ByteArray), [((⟨#[66, 50]⟩ : ByteArray), 4), ((⟨#[65, 49]⟩ : ByteArray), 3)], r1)).bind fun r2 =>
    (slot_Delays.fn N ([((⟨#[66, 50]⟩ : ByteArray), 4), ((⟨#[65, 49]⟩ : ByteArray), 3)], r2.1)).bind fun r3 =>
    (law_caps.fn N ()).bind fun r4 =>
    (slot_Release.fn N ((⟨#[82, 87, 89]⟩ : ByteArray), (⟨#[65, 49]⟩ : ByteArray), [((⟨#[66, 50]⟩ : ByteArray), 4), ((⟨#[65, 49]⟩ : ByteArray), 3)], r4)).bind fun r5 =>
    (slot_Swap.fn N ([((⟨#[66, 50]⟩ : ByteArray), 4), ((⟨#[65, 49]⟩ : ByteArray), 3)], r2.1, (⟨#[65, 49]⟩ : ByteArray), (⟨#[66, 50]⟩ : ByteArray))).bind fun r6 =>
    bif r2.2 == 0 then
      bif r3.2 == 0 then
        bif r5.2 == 0 then
          bif r6.2 == 12 then
            (slices_Equal_Slot.fn N (r2.1, [((⟨#[65, 49]⟩ : ByteArray), ((⟨#[82, 87, 89]⟩ : ByteArray), 3)), ((⟨#[66, 50]⟩ : ByteArray), ((⟨#[82, 87, 89]⟩ : ByteArray), 10))])).bind fun r7 =>
            bif r7 then
              (slices_Equal_int.fn N (r3.1, [6, 0])).bind fun r8 =>
              bif r8 then
                (slices_Equal_Slot.fn N (r5.1, [((⟨#[66, 50]⟩ : ByteArray), ((⟨#[82, 87, 89]⟩ : ByteArray), 4))])).bind fun r9 =>
                bif r9 then
                  (slot_Name.fn N (⟨#[65, 49]⟩ : ByteArray)).bind fun r10 =>
                  bif r10 then
                    (slot_Check.fn N [((⟨#[66, 50]⟩ : ByteArray), 4), ((⟨#[65, 49]⟩ : ByteArray), 3), ((⟨#[66, 50]⟩ : ByteArray), 4), ((⟨#[65, 49]⟩ : ByteArray), 3)]).bind fun r11 =>
                    some (r11 == 7)
                  else
                    some false
                else
                  some false
              else
                some false
            else
              some false
          else
            some false
        else
          some false
      else
        some false
    else
      some false := by kernel_rfl

/-! ### ref_IsName: skyway/skywayref3.IsName -/
def ref_IsName.kp : List (Nat × List (Nat × Option (TypeId × Ty))) := [(4, [(0, none), (3, none)])]
noncomputable def ref_IsName.G (N : Nat) : List (Nat × Spec) := []
noncomputable def ref_IsName.E (N : Nat) : Env := mkEnv (ref_IsName.G N) N tyTab ref_IsName.kp
noncomputable def ref_IsName.fn (N : Nat) (x : ByteArray) : Option Bool := evFn (ref_IsName.E N) Try.prog 3 Try.f55 false [.cell (.str)] [.val (.cell (.bool))] x
noncomputable def ref_IsName.S (N : Nat) : PSpec := ⟨false, [.cell (.str)], [.val (.cell (.bool))], ref_IsName.fn N⟩
theorem f55_enters : Enters Try.prog 55 := ⟨Try.f55, Try.func55, by kernel_rfl, by kernel_rfl⟩
theorem ref_IsName.tab (N : Nat) : TabOk Try.prog (ref_IsName.G N) := trivial
theorem ref_IsName.enters : Enters Try.prog 55 := f55_enters
theorem ref_IsName.sound (N : Nat) : Sound Try.prog 55 (ref_IsName.S N) := evFn_sound (specs_tab (ref_IsName.tab N)) (inls_tab (ref_IsName.tab N)) mixed 3 Try.func55 _ _ _
noncomputable def ref_IsName.cd (N : Nat) (p : List Nat) : St → (Ex → St → Option Bool) → Option Bool := ev (ref_IsName.E N) Try.prog (callD (ref_IsName.E N) Try.prog 3) 0 (codeAt (bodyOf Try.f55) p)
noncomputable def ref_IsName.fin : Ex → St → Option Bool := endK Try.prog Try.f55 [.val (.cell (.bool))]
noncomputable def ref_IsName.l0 (N : Nat) (x0 : ByteArray) (k1 : Nat) (a2 : Int) : Option Bool :=
  loopN (norm ((ref_IsName.E N).keep 4) 0) (ref_IsName.cd N [1, 1, 0, 1, 0, 0]) k1
  ⟨[.sc (.string x0), .any, .any, .sc (.int .i64 a2), .any, .any, .any, .any, .any, .any, .any, .any, .any, .any, .any, .any, .any, .any, .any, .any, .any, .any, .any, .any, .any, .any, .any, .any, .any, .any, .any, .any, .any, .any, .any, .any, .any, .any, .any, .any, .any, .any, .any, .any, .any], []⟩
  (blockK 0 (seqK (ref_IsName.cd N [1, 1, 1]) ref_IsName.fin))
theorem ref_IsName.l0_zero (N : Nat) (x0 : ByteArray) (a2 : Int) : ref_IsName.l0 N x0 0 a2 = none := by kernel_rfl
theorem ref_IsName.l0_succ (N : Nat) (x0 : ByteArray) (k1 : Nat) (a2 : Int) : ref_IsName.l0 N x0 (k1 + 1) a2 =
    bif decide (a2 < (x0.size : Int)) then
      bif (decide (0 ≤ a2)) && (decide (a2 < (x0.size : Int))) then
        bif !(!(decide (((((ByteArray.data x0).getD (Int.toNat a2) 0).toNat : Nat) : Int) < 65))) || (!(decide (((((ByteArray.data x0).getD (Int.toNat a2) 0).toNat : Nat) : Int) < 65))) then
          bif (decide (((((ByteArray.data x0).getD (Int.toNat a2) 0).toNat : Nat) : Int) < 65)) || (!(decide (((((ByteArray.data x0).getD (Int.toNat a2) 0).toNat : Nat) : Int) < 65))) then
            bif !((decide (((((ByteArray.data x0).getD (Int.toNat a2) 0).toNat : Nat) : Int) < 65)) || (decide (((((ByteArray.data x0).getD (Int.toNat a2) 0).toNat : Nat) : Int) > 90))) || ((decide (((((ByteArray.data x0).getD (Int.toNat a2) 0).toNat : Nat) : Int) < 65)) || (decide (((((ByteArray.data x0).getD (Int.toNat a2) 0).toNat : Nat) : Int) > 90))) then
              bif !((decide (((((ByteArray.data x0).getD (Int.toNat a2) 0).toNat : Nat) : Int) < 65)) || (decide (((((ByteArray.data x0).getD (Int.toNat a2) 0).toNat : Nat) : Int) > 90))) || ((decide (((((ByteArray.data x0).getD (Int.toNat a2) 0).toNat : Nat) : Int) < 65)) || (decide (((((ByteArray.data x0).getD (Int.toNat a2) 0).toNat : Nat) : Int) > 90))) then
                bif !(((decide (((((ByteArray.data x0).getD (Int.toNat a2) 0).toNat : Nat) : Int) < 65)) || (decide (((((ByteArray.data x0).getD (Int.toNat a2) 0).toNat : Nat) : Int) > 90))) && (!(decide (((((ByteArray.data x0).getD (Int.toNat a2) 0).toNat : Nat) : Int) < 48)))) || (((decide (((((ByteArray.data x0).getD (Int.toNat a2) 0).toNat : Nat) : Int) < 65)) || (decide (((((ByteArray.data x0).getD (Int.toNat a2) 0).toNat : Nat) : Int) > 90))) && (!(decide (((((ByteArray.data x0).getD (Int.toNat a2) 0).toNat : Nat) : Int) < 48)))) then
                  bif !((decide (((((ByteArray.data x0).getD (Int.toNat a2) 0).toNat : Nat) : Int) < 65)) || (decide (((((ByteArray.data x0).getD (Int.toNat a2) 0).toNat : Nat) : Int) > 90))) || ((decide (((((ByteArray.data x0).getD (Int.toNat a2) 0).toNat : Nat) : Int) < 65)) || (decide (((((ByteArray.data x0).getD (Int.toNat a2) 0).toNat : Nat) : Int) > 90))) then
                    bif !((decide (((((ByteArray.data x0).getD (Int.toNat a2) 0).toNat : Nat) : Int) < 65)) || (decide (((((ByteArray.data x0).getD (Int.toNat a2) 0).toNat : Nat) : Int) > 90))) || ((decide (((((ByteArray.data x0).getD (Int.toNat a2) 0).toNat : Nat) : Int) < 48)) || (((decide (((((ByteArray.data x0).getD (Int.toNat a2) 0).toNat : Nat) : Int) < 65)) || (decide (((((ByteArray.data x0).getD (Int.toNat a2) 0).toNat : Nat) : Int) > 90))) && (!(decide (((((ByteArray.data x0).getD (Int.toNat a2) 0).toNat : Nat) : Int) < 48))))) then
                      bif (!((decide (((((ByteArray.data x0).getD (Int.toNat a2) 0).toNat : Nat) : Int) < 65)) || (decide (((((ByteArray.data x0).getD (Int.toNat a2) 0).toNat : Nat) : Int) > 90)))) || ((decide (((((ByteArray.data x0).getD (Int.toNat a2) 0).toNat : Nat) : Int) < 65)) || (decide (((((ByteArray.data x0).getD (Int.toNat a2) 0).toNat : Nat) : Int) > 90))) then
                        bif ((decide (((((ByteArray.data x0).getD (Int.toNat a2) 0).toNat : Nat) : Int) < 65)) || (decide (((((ByteArray.data x0).getD (Int.toNat a2) 0).toNat : Nat) : Int) > 90))) && ((decide (((((ByteArray.data x0).getD (Int.toNat a2) 0).toNat : Nat) : Int) < 48)) || (decide (((((ByteArray.data x0).getD (Int.toNat a2) 0).toNat : Nat) : Int) > 57))) then
                          some false
                        else
                          ref_IsName.l0 N x0 k1 (w (a2 + 1))
                      else
                        none
                    else
                      none
                  else
                    none
                else
                  none
              else
                none
            else
              none
          else
            none
        else
          none
      else
        none
    else
      some true := by kernel_rfl
theorem ref_IsName.l0_clean (N : Nat) (x0 : ByteArray) (k1 : Nat) (a2 : Int) : ref_IsName.l0 N x0 (k1 + 1) a2 =
    bif decide (a2 < (x0.size : Int)) then
      bif (decide (0 ≤ a2)) && (decide (a2 < (x0.size : Int))) then
        bif ((decide (((((ByteArray.data x0).getD (Int.toNat a2) 0).toNat : Nat) : Int) < 65)) || (decide (((((ByteArray.data x0).getD (Int.toNat a2) 0).toNat : Nat) : Int) > 90))) && ((decide (((((ByteArray.data x0).getD (Int.toNat a2) 0).toNat : Nat) : Int) < 48)) || (decide (((((ByteArray.data x0).getD (Int.toNat a2) 0).toNat : Nat) : Int) > 57))) then
          some false
        else
          ref_IsName.l0 N x0 k1 (w (a2 + 1))
      else
        none
    else
      some true := by
  rw [ref_IsName.l0_succ]; simp only [taut1, taut2, taut3, taut4, taut5, taut6, cond_true]
theorem ref_IsName.l0_cons (N : Nat) (x0 : ByteArray) (k1 : Nat) {pre r} {x} (hl : x0.data.toList = pre ++ x :: r) (hb : x0.size < 4611686018427387904) : ref_IsName.l0 N x0 (k1 + 1) (pre.length : Int) =
    bif ((decide (((x.toNat : Nat) : Int) < 65)) || (decide (((x.toNat : Nat) : Int) > 90))) && ((decide (((x.toNat : Nat) : Int) < 48)) || (decide (((x.toNat : Nat) : Int) > 57))) then
      some false
    else
      ref_IsName.l0 N x0 k1 ((pre.length : Int) + 1) := by
  have hlen : x0.size = pre.length + 1 + r.length := by rw [ByteArray.size, ← Array.length_toList, hl]; simp; omega
  have e1 : decide ((pre.length : Int) < (x0.size : Int)) = true := by rw [decide_eq_true_iff]; omega
  have e2 : decide (0 ≤ (pre.length : Int)) = true := by rw [decide_eq_true_iff]; omega
  have e4 : w ((pre.length : Int) + 1) = (pre.length : Int) + 1 := w_next hl (by rw [Array.length_toList]; exact hb)
  have e6 : decide ((pre.length : Int) ≤ (x0.size : Int)) = true := by rw [decide_eq_true_iff]; omega
  have g0 : (ByteArray.data x0).getD pre.length 0 = x := getD_bytes hl
  rw [ref_IsName.l0_clean]
  simp -implicitDefEqProofs only [Int.toNat_natCast, e1, e2, e4, e6, g0, Bool.and_true, Bool.true_and, Bool.true_or, cond_true]
theorem ref_IsName.l0_nil (N : Nat) (x0 : ByteArray) (k1 : Nat) : ref_IsName.l0 N x0 (k1 + 1) (x0.size : Int) =
    some true := by
  have e1 : decide ((x0.size : Int) < (x0.size : Int)) = false := by rw [decide_eq_false_iff_not]; omega
  rw [ref_IsName.l0_clean]
  simp -implicitDefEqProofs only [e1, cond_false]
theorem ref_IsName.eq (N : Nat) (x0 : ByteArray) : ref_IsName.fn N x0 =
    bif !(!(seq x0 (⟨#[]⟩ : ByteArray))) || (!(seq x0 (⟨#[]⟩ : ByteArray))) then
      bif !(!(seq x0 (⟨#[]⟩ : ByteArray))) || (!(seq x0 (⟨#[]⟩ : ByteArray))) then
        bif (seq x0 (⟨#[]⟩ : ByteArray)) || (!(seq x0 (⟨#[]⟩ : ByteArray))) then
          bif !(!((seq x0 (⟨#[]⟩ : ByteArray)) || (decide ((x0.size : Int) > 8)))) || (!((seq x0 (⟨#[]⟩ : ByteArray)) || (decide ((x0.size : Int) > 8)))) then
            bif (decide (0 < (x0.size : Int))) || !(!((seq x0 (⟨#[]⟩ : ByteArray)) || (decide ((x0.size : Int) > 8)))) then
              bif !(!((seq x0 (⟨#[]⟩ : ByteArray)) || (decide ((x0.size : Int) > 8)))) || (!((seq x0 (⟨#[]⟩ : ByteArray)) || (decide ((x0.size : Int) > 8)))) then
                bif !(!((seq x0 (⟨#[]⟩ : ByteArray)) || (decide ((x0.size : Int) > 8)))) || (!((seq x0 (⟨#[]⟩ : ByteArray)) || (decide ((x0.size : Int) > 8)))) then
                  bif !((!((seq x0 (⟨#[]⟩ : ByteArray)) || (decide ((x0.size : Int) > 8)))) && (decide (((((ByteArray.data x0).getD 0 0).toNat : Nat) : Int) ≥ 48))) || ((!((seq x0 (⟨#[]⟩ : ByteArray)) || (decide ((x0.size : Int) > 8)))) && (decide (((((ByteArray.data x0).getD 0 0).toNat : Nat) : Int) ≥ 48))) then
                    bif (decide (0 < (x0.size : Int))) || !((!((seq x0 (⟨#[]⟩ : ByteArray)) || (decide ((x0.size : Int) > 8)))) && (decide (((((ByteArray.data x0).getD 0 0).toNat : Nat) : Int) ≥ 48))) then
                      bif !((!((seq x0 (⟨#[]⟩ : ByteArray)) || (decide ((x0.size : Int) > 8)))) && (decide (((((ByteArray.data x0).getD 0 0).toNat : Nat) : Int) ≥ 48))) || ((!((seq x0 (⟨#[]⟩ : ByteArray)) || (decide ((x0.size : Int) > 8)))) && (decide (((((ByteArray.data x0).getD 0 0).toNat : Nat) : Int) ≥ 48))) then
                        bif !(!((seq x0 (⟨#[]⟩ : ByteArray)) || (decide ((x0.size : Int) > 8)))) || (!((seq x0 (⟨#[]⟩ : ByteArray)) || (decide ((x0.size : Int) > 8)))) then
                          bif !(!((seq x0 (⟨#[]⟩ : ByteArray)) || (decide ((x0.size : Int) > 8)))) || ((!(decide (((((ByteArray.data x0).getD 0 0).toNat : Nat) : Int) ≥ 48))) || ((!((seq x0 (⟨#[]⟩ : ByteArray)) || (decide ((x0.size : Int) > 8)))) && (decide (((((ByteArray.data x0).getD 0 0).toNat : Nat) : Int) ≥ 48)))) then
                            bif ((seq x0 (⟨#[]⟩ : ByteArray)) || (decide ((x0.size : Int) > 8))) || (!((seq x0 (⟨#[]⟩ : ByteArray)) || (decide ((x0.size : Int) > 8)))) then
                              bif ((seq x0 (⟨#[]⟩ : ByteArray)) || (decide ((x0.size : Int) > 8))) || ((decide (((((ByteArray.data x0).getD 0 0).toNat : Nat) : Int) ≥ 48)) && (decide (((((ByteArray.data x0).getD 0 0).toNat : Nat) : Int) ≤ 57))) then
                                some false
                              else
                                ref_IsName.l0 N x0 N 0
                            else
                              none
                          else
                            none
                        else
                          none
                      else
                        none
                    else
                      none
                  else
                    none
                else
                  none
              else
                none
            else
              none
          else
            none
        else
          none
      else
        none
    else
      none := by kernel_rfl
theorem taut13 : ∀ p0 p1 p2 : Bool, ((!(!((p0) || (p1))) || ((!(p2)) || ((!((p0) || (p1))) && (p2))))) = true := by decide
theorem taut14 : ∀ p0 p1 p2 : Bool, ((!((!((p0) || (p1))) && (p2)) || ((!((p0) || (p1))) && (p2)))) = true := by decide
theorem ref_IsName.clean (N : Nat) (x0 : ByteArray) : ref_IsName.fn N x0 =
    bif (decide (0 < (x0.size : Int))) || !(!((seq x0 (⟨#[]⟩ : ByteArray)) || (decide ((x0.size : Int) > 8)))) then
      bif (decide (0 < (x0.size : Int))) || !((!((seq x0 (⟨#[]⟩ : ByteArray)) || (decide ((x0.size : Int) > 8)))) && (decide (((((ByteArray.data x0).getD 0 0).toNat : Nat) : Int) ≥ 48))) then
        bif ((seq x0 (⟨#[]⟩ : ByteArray)) || (decide ((x0.size : Int) > 8))) || ((decide (((((ByteArray.data x0).getD 0 0).toNat : Nat) : Int) ≥ 48)) && (decide (((((ByteArray.data x0).getD 0 0).toNat : Nat) : Int) ≤ 57))) then
          some false
        else
          ref_IsName.l0 N x0 N 0
      else
        none
    else
      none := by
  rw [ref_IsName.eq]; simp only [taut8, taut13, taut1, taut14, taut10, taut6, cond_true]

/-! ### ref_DemandsError: skyway/skywayref3.DemandsError -/
def ref_DemandsError.kp : List (Nat × List (Nat × Option (TypeId × Ty))) := [(4, [(0, none), (9, none), (10, none), (11, none)]), (11, [(0, none), (3, none), (4, none), (5, none), (9, none), (10, none), (11, none)])]
noncomputable def ref_DemandsError.G (N : Nat) : List (Nat × Spec) := [(55, .pure (ref_IsName.S N))]
noncomputable def ref_DemandsError.E (N : Nat) : Env := mkEnv (ref_DemandsError.G N) N tyTab ref_DemandsError.kp
noncomputable def ref_DemandsError.fn (N : Nat) (x : List (ByteArray × Int)) : Option Int := evFn (ref_DemandsError.E N) Try.prog 3 Try.f53 false [.cell (.sl 106 (.pair (.str) (.int .i64)))] [.val (.cell (.int .i64))] x
noncomputable def ref_DemandsError.S (N : Nat) : PSpec := ⟨false, [.cell (.sl 106 (.pair (.str) (.int .i64)))], [.val (.cell (.int .i64))], ref_DemandsError.fn N⟩
theorem f53_enters : Enters Try.prog 53 := ⟨Try.f53, Try.func53, by kernel_rfl, by kernel_rfl⟩
theorem ref_DemandsError.tab (N : Nat) : TabOk Try.prog (ref_DemandsError.G N) := ⟨⟨ref_IsName.enters, ref_IsName.sound N⟩, trivial⟩
theorem ref_DemandsError.enters : Enters Try.prog 53 := f53_enters
theorem ref_DemandsError.sound (N : Nat) : Sound Try.prog 53 (ref_DemandsError.S N) := evFn_sound (specs_tab (ref_DemandsError.tab N)) (inls_tab (ref_DemandsError.tab N)) mixed 3 Try.func53 _ _ _
noncomputable def ref_DemandsError.cd (N : Nat) (p : List Nat) : St → (Ex → St → Option Int) → Option Int := ev (ref_DemandsError.E N) Try.prog (callD (ref_DemandsError.E N) Try.prog 3) 0 (codeAt (bodyOf Try.f53) p)
noncomputable def ref_DemandsError.fin : Ex → St → Option Int := endK Try.prog Try.f53 [.val (.cell (.int .i64))]
noncomputable def ref_DemandsError.l0 (N : Nat) (x0 : List (ByteArray × Int)) (k1 : Nat) (a2 : Int) : Option Int :=
  loopN (norm ((ref_DemandsError.E N).keep 4) 0) (ref_DemandsError.cd N [1, 1, 0, 1, 0, 0]) k1
  ⟨[.ros false 106 (.pair (.str) (.int .i64)) x0, .any, .any, .any, .any, .any, .any, .any, .any, .ros false 106 (.pair (.str) (.int .i64)) x0, .sc (.int .i64 (x0.length : Int)), .sc (.int .i64 a2), .any, .any, .any, .any, .any, .any, .any, .any, .any, .any, .any, .any, .any, .any, .any, .any, .any, .any, .any, .any, .any, .any, .any, .any, .any, .any, .any, .any, .any, .any], []⟩
  (blockK 0 (seqK (ref_DemandsError.cd N [1, 1, 1]) ref_DemandsError.fin))
noncomputable def ref_DemandsError.l1 (N : Nat) (x0 : List (ByteArray × Int)) (k1 : Nat) (a2 : Int) (k4 : Nat) (a5 : Int) : Option Int :=
  loopN (norm ((ref_DemandsError.E N).keep 11) 0) (ref_DemandsError.cd N [1, 1, 0, 1, 0, 0, 1, 1, 0, 0, 1, 1, 1, 1, 0, 0]) k4
  ⟨[.ros false 106 (.pair (.str) (.int .i64)) x0, .any, .any, .sc (.int .i64 a2), .ptr 0 0, .sc (.int .i64 a5), .any, .any, .any, .ros false 106 (.pair (.str) (.int .i64)) x0, .sc (.int .i64 (x0.length : Int)), .sc (.int .i64 a2), .any, .any, .any, .any, .any, .any, .any, .any, .any, .any, .any, .any, .any, .any, .any, .any, .any, .any, .any, .any, .any, .any, .any, .any, .any, .any, .any, .any, .any, .any], [.cells [.sc (.string ((List.getD x0 (Int.toNat a2) ((⟨#[]⟩ : ByteArray), 0)).1)), .sc (.int .i64 ((List.getD x0 (Int.toNat a2) ((⟨#[]⟩ : ByteArray), 0)).2))] 106]⟩
  (blockK 2 (blockK 1 (seqK (ref_DemandsError.cd N [1, 1, 0, 1, 0, 0, 1, 1, 1]) (loopK (norm ((ref_DemandsError.E N).keep 4) 0) (ref_DemandsError.cd N [1, 1, 0, 1, 0, 0]) k1 (blockK 0 (seqK (ref_DemandsError.cd N [1, 1, 1]) ref_DemandsError.fin))))))
theorem ref_DemandsError.l1_zero (N : Nat) (x0 : List (ByteArray × Int)) (k1 : Nat) (a2 : Int) (a5 : Int) : ref_DemandsError.l1 N x0 k1 a2 0 a5 = none := by kernel_rfl
theorem ref_DemandsError.l1_succ (N : Nat) (x0 : List (ByteArray × Int)) (k1 : Nat) (a2 : Int) (k4 : Nat) (a5 : Int) : ref_DemandsError.l1 N x0 k1 a2 (k4 + 1) a5 =
    bif decide (a5 < a2) then
      bif (decide (0 ≤ a5)) && (decide (a5 < (x0.length : Int))) then
        bif seq ((List.getD x0 (Int.toNat a5) ((⟨#[]⟩ : ByteArray), 0)).1) ((List.getD x0 (Int.toNat a2) ((⟨#[]⟩ : ByteArray), 0)).1) then
          some 7
        else
          ref_DemandsError.l1 N x0 k1 a2 k4 (w (a5 + 1))
      else
        none
    else
      ref_DemandsError.l0 N x0 k1 (w (a2 + 1)) := by kernel_rfl
theorem ref_DemandsError.l0_zero (N : Nat) (x0 : List (ByteArray × Int)) (a2 : Int) : ref_DemandsError.l0 N x0 0 a2 = none := by kernel_rfl
theorem ref_DemandsError.l0_succ (N : Nat) (x0 : List (ByteArray × Int)) (k1 : Nat) (a2 : Int) : ref_DemandsError.l0 N x0 (k1 + 1) a2 =
    bif decide (a2 < (x0.length : Int)) then
      bif (decide (0 ≤ a2)) && (decide (a2 < (x0.length : Int))) then
        (ref_IsName.fn N ((List.getD x0 (Int.toNat a2) ((⟨#[]⟩ : ByteArray), 0)).1)).bind fun r3 =>
        bif !r3 then
          some 3
        else
        bif !(!(decide (((List.getD x0 (Int.toNat a2) ((⟨#[]⟩ : ByteArray), 0)).2) < 0))) || (!(decide (((List.getD x0 (Int.toNat a2) ((⟨#[]⟩ : ByteArray), 0)).2) < 0))) then
          bif !(!(decide (((List.getD x0 (Int.toNat a2) ((⟨#[]⟩ : ByteArray), 0)).2) < 0))) || (!(decide (((List.getD x0 (Int.toNat a2) ((⟨#[]⟩ : ByteArray), 0)).2) < 0))) then
            bif (decide (((List.getD x0 (Int.toNat a2) ((⟨#[]⟩ : ByteArray), 0)).2) < 0)) || (!(decide (((List.getD x0 (Int.toNat a2) ((⟨#[]⟩ : ByteArray), 0)).2) < 0))) then
              bif (decide (((List.getD x0 (Int.toNat a2) ((⟨#[]⟩ : ByteArray), 0)).2) < 0)) || (decide (((List.getD x0 (Int.toNat a2) ((⟨#[]⟩ : ByteArray), 0)).2) > 200000)) then
                some 12
              else
                ref_DemandsError.l1 N x0 k1 a2 N 0
            else
              none
          else
            none
        else
          none
      else
        none
    else
      some 0 := by kernel_rfl
theorem ref_DemandsError.l0_clean (N : Nat) (x0 : List (ByteArray × Int)) (k1 : Nat) (a2 : Int) : ref_DemandsError.l0 N x0 (k1 + 1) a2 =
    bif decide (a2 < (x0.length : Int)) then
      bif (decide (0 ≤ a2)) && (decide (a2 < (x0.length : Int))) then
        (ref_IsName.fn N ((List.getD x0 (Int.toNat a2) ((⟨#[]⟩ : ByteArray), 0)).1)).bind fun r3 =>
        bif !r3 then
          some 3
        else
        bif (decide (((List.getD x0 (Int.toNat a2) ((⟨#[]⟩ : ByteArray), 0)).2) < 0)) || (decide (((List.getD x0 (Int.toNat a2) ((⟨#[]⟩ : ByteArray), 0)).2) > 200000)) then
          some 12
        else
          ref_DemandsError.l1 N x0 k1 a2 N 0
      else
        none
    else
      some 0 := by
  rw [ref_DemandsError.l0_succ]; simp only [taut1, taut6, cond_true]
theorem ref_DemandsError.l0_cons (N : Nat) (x0 : List (ByteArray × Int)) (k1 : Nat) {pre r} {x} (hl : x0 = pre ++ x :: r) (hb : x0.length < 4611686018427387904) : ref_DemandsError.l0 N x0 (k1 + 1) (pre.length : Int) =
    (ref_IsName.fn N (x.1)).bind fun r3 =>
    bif !r3 then
      some 3
    else
    bif (decide ((x.2) < 0)) || (decide ((x.2) > 200000)) then
      some 12
    else
      ref_DemandsError.l1 N x0 k1 (pre.length : Int) N 0 := by
  have hlen : x0.length = pre.length + 1 + r.length := by rw [hl]; simp; omega
  have e1 : decide ((pre.length : Int) < (x0.length : Int)) = true := by rw [decide_eq_true_iff]; omega
  have e2 : decide (0 ≤ (pre.length : Int)) = true := by rw [decide_eq_true_iff]; omega
  have e4 : w ((pre.length : Int) + 1) = (pre.length : Int) + 1 := w_next hl hb
  have e5 : List.take pre.length x0 = pre := by rw [hl]; simp
  have e6 : decide ((pre.length : Int) ≤ (x0.length : Int)) = true := by rw [decide_eq_true_iff]; omega
  have g0 : List.getD x0 pre.length ((⟨#[]⟩ : ByteArray), 0) = x := by rw [hl]; exact getD_mid pre x r _
  rw [ref_DemandsError.l0_clean]
  simp -implicitDefEqProofs only [Int.toNat_natCast, e1, e2, e4, e6, g0, e5, Bool.and_true, Bool.true_and, Bool.true_or, cond_true]
theorem ref_DemandsError.l0_nil (N : Nat) (x0 : List (ByteArray × Int)) (k1 : Nat) : ref_DemandsError.l0 N x0 (k1 + 1) (x0.length : Int) =
    some 0 := by
  have e1 : decide ((x0.length : Int) < (x0.length : Int)) = false := by rw [decide_eq_false_iff_not]; omega
  rw [ref_DemandsError.l0_clean]
  simp -implicitDefEqProofs only [e1, cond_false]
theorem ref_DemandsError.eq (N : Nat) (x0 : List (ByteArray × Int)) : ref_DemandsError.fn N x0 =
    bif decide ((x0.length : Int) > 24) then
      some 2
    else
      ref_DemandsError.l0 N x0 N 0 := by kernel_rfl

/-! ### ref_CapsError: skyway/skywayref3.CapsError -/
def ref_CapsError.kp : List (Nat × List (Nat × Option (TypeId × Ty))) := [(5, [(3, none), (9, none), (10, none), (11, none)])]
noncomputable def ref_CapsError.G (N : Nat) : List (Nat × Spec) := []
noncomputable def ref_CapsError.E (N : Nat) : Env := mkEnv (ref_CapsError.G N) N tyTab ref_CapsError.kp
noncomputable def ref_CapsError.fn (N : Nat) (x : List ((Int × Int) × Int)) : Option Int := evFn (ref_CapsError.E N) Try.prog 3 Try.f108 false [.cell (.sl 149 (.pair (.pair (.int .i64) (.int .i64)) (.int .i64)))] [.val (.cell (.int .i64))] x
noncomputable def ref_CapsError.S (N : Nat) : PSpec := ⟨false, [.cell (.sl 149 (.pair (.pair (.int .i64) (.int .i64)) (.int .i64)))], [.val (.cell (.int .i64))], ref_CapsError.fn N⟩
theorem f108_enters : Enters Try.prog 108 := ⟨Try.f108, Try.func108, by kernel_rfl, by kernel_rfl⟩
theorem ref_CapsError.tab (N : Nat) : TabOk Try.prog (ref_CapsError.G N) := trivial
theorem ref_CapsError.enters : Enters Try.prog 108 := f108_enters
theorem ref_CapsError.sound (N : Nat) : Sound Try.prog 108 (ref_CapsError.S N) := evFn_sound (specs_tab (ref_CapsError.tab N)) (inls_tab (ref_CapsError.tab N)) mixed 3 Try.func108 _ _ _
noncomputable def ref_CapsError.cd (N : Nat) (p : List Nat) : St → (Ex → St → Option Int) → Option Int := ev (ref_CapsError.E N) Try.prog (callD (ref_CapsError.E N) Try.prog 3) 0 (codeAt (bodyOf Try.f108) p)
noncomputable def ref_CapsError.fin : Ex → St → Option Int := endK Try.prog Try.f108 [.val (.cell (.int .i64))]
noncomputable def ref_CapsError.l0 (N : Nat) (x0 : List ((Int × Int) × Int)) (k1 : Nat) (a2 : Int) (a3 : Int) : Option Int :=
  loopN (norm ((ref_CapsError.E N).keep 5) 0) (ref_CapsError.cd N [1, 1, 1, 0, 1, 0, 0]) k1
  ⟨[.any, .any, .any, .sc (.int .i64 a2), .any, .any, .any, .any, .any, .ros false 149 (.pair (.pair (.int .i64) (.int .i64)) (.int .i64)) x0, .sc (.int .i64 (x0.length : Int)), .sc (.int .i64 a3), .any, .any, .any, .any, .any, .any, .any, .any, .any, .any, .any, .any, .any, .any, .any, .any, .any, .any, .any, .any, .any, .any, .any, .any, .any, .any, .any, .any, .any, .any, .any, .any, .any, .any, .any, .any, .any, .any, .any, .any, .any], []⟩
  (blockK 0 (seqK (ref_CapsError.cd N [1, 1, 1, 1]) ref_CapsError.fin))
theorem ref_CapsError.l0_zero (N : Nat) (x0 : List ((Int × Int) × Int)) (a2 : Int) (a3 : Int) : ref_CapsError.l0 N x0 0 a2 a3 = none := by kernel_rfl
theorem ref_CapsError.l0_succ (N : Nat) (x0 : List ((Int × Int) × Int)) (k1 : Nat) (a2 : Int) (a3 : Int) : ref_CapsError.l0 N x0 (k1 + 1) a2 a3 =
    bif decide (a3 < (x0.length : Int)) then
      bif (decide (0 ≤ a3)) && (decide (a3 < (x0.length : Int))) then
        bif !(!(decide ((((List.getD x0 (Int.toNat a3) ((0, 0), 0)).1).1) < 0))) || (!(decide ((((List.getD x0 (Int.toNat a3) ((0, 0), 0)).1).1) < 0))) then
          bif !(!(decide ((((List.getD x0 (Int.toNat a3) ((0, 0), 0)).1).1) < 0))) || (!(decide ((((List.getD x0 (Int.toNat a3) ((0, 0), 0)).1).1) < 0))) then
            bif !(!(decide ((((List.getD x0 (Int.toNat a3) ((0, 0), 0)).1).1) < 0))) || (!(decide ((((List.getD x0 (Int.toNat a3) ((0, 0), 0)).1).1) < 0))) then
              bif (decide ((((List.getD x0 (Int.toNat a3) ((0, 0), 0)).1).1) < 0)) || (!(decide ((((List.getD x0 (Int.toNat a3) ((0, 0), 0)).1).1) < 0))) then
                bif !(!((decide ((((List.getD x0 (Int.toNat a3) ((0, 0), 0)).1).1) < 0)) || (decide ((((List.getD x0 (Int.toNat a3) ((0, 0), 0)).1).2) > 200000)))) || (!((decide ((((List.getD x0 (Int.toNat a3) ((0, 0), 0)).1).1) < 0)) || (decide ((((List.getD x0 (Int.toNat a3) ((0, 0), 0)).1).2) > 200000)))) then
                  bif !(!((decide ((((List.getD x0 (Int.toNat a3) ((0, 0), 0)).1).1) < 0)) || (decide ((((List.getD x0 (Int.toNat a3) ((0, 0), 0)).1).2) > 200000)))) || (!((decide ((((List.getD x0 (Int.toNat a3) ((0, 0), 0)).1).1) < 0)) || (decide ((((List.getD x0 (Int.toNat a3) ((0, 0), 0)).1).2) > 200000)))) then
                    bif !(!((decide ((((List.getD x0 (Int.toNat a3) ((0, 0), 0)).1).1) < 0)) || (decide ((((List.getD x0 (Int.toNat a3) ((0, 0), 0)).1).2) > 200000)))) || (!((decide ((((List.getD x0 (Int.toNat a3) ((0, 0), 0)).1).1) < 0)) || (decide ((((List.getD x0 (Int.toNat a3) ((0, 0), 0)).1).2) > 200000)))) then
                      bif !(!((decide ((((List.getD x0 (Int.toNat a3) ((0, 0), 0)).1).1) < 0)) || (decide ((((List.getD x0 (Int.toNat a3) ((0, 0), 0)).1).2) > 200000)))) || (!((decide ((((List.getD x0 (Int.toNat a3) ((0, 0), 0)).1).1) < 0)) || (decide ((((List.getD x0 (Int.toNat a3) ((0, 0), 0)).1).2) > 200000)))) then
                        bif !(!((decide ((((List.getD x0 (Int.toNat a3) ((0, 0), 0)).1).1) < 0)) || (decide ((((List.getD x0 (Int.toNat a3) ((0, 0), 0)).1).2) > 200000)))) || (!((decide ((((List.getD x0 (Int.toNat a3) ((0, 0), 0)).1).1) < 0)) || (decide ((((List.getD x0 (Int.toNat a3) ((0, 0), 0)).1).2) > 200000)))) then
                          bif !(!((decide ((((List.getD x0 (Int.toNat a3) ((0, 0), 0)).1).1) < 0)) || (decide ((((List.getD x0 (Int.toNat a3) ((0, 0), 0)).1).2) > 200000)))) || (!((decide ((((List.getD x0 (Int.toNat a3) ((0, 0), 0)).1).1) < 0)) || (decide ((((List.getD x0 (Int.toNat a3) ((0, 0), 0)).1).2) > 200000)))) then
                            bif ((decide ((((List.getD x0 (Int.toNat a3) ((0, 0), 0)).1).1) < 0)) || (decide ((((List.getD x0 (Int.toNat a3) ((0, 0), 0)).1).2) > 200000))) || (!((decide ((((List.getD x0 (Int.toNat a3) ((0, 0), 0)).1).1) < 0)) || (decide ((((List.getD x0 (Int.toNat a3) ((0, 0), 0)).1).2) > 200000)))) then
                              bif !(!(((decide ((((List.getD x0 (Int.toNat a3) ((0, 0), 0)).1).1) < 0)) || (decide ((((List.getD x0 (Int.toNat a3) ((0, 0), 0)).1).2) > 200000))) || (decide ((((List.getD x0 (Int.toNat a3) ((0, 0), 0)).1).2) ≤ (((List.getD x0 (Int.toNat a3) ((0, 0), 0)).1).1))))) || (!(((decide ((((List.getD x0 (Int.toNat a3) ((0, 0), 0)).1).1) < 0)) || (decide ((((List.getD x0 (Int.toNat a3) ((0, 0), 0)).1).2) > 200000))) || (decide ((((List.getD x0 (Int.toNat a3) ((0, 0), 0)).1).2) ≤ (((List.getD x0 (Int.toNat a3) ((0, 0), 0)).1).1))))) then
                                bif !(!(((decide ((((List.getD x0 (Int.toNat a3) ((0, 0), 0)).1).1) < 0)) || (decide ((((List.getD x0 (Int.toNat a3) ((0, 0), 0)).1).2) > 200000))) || (decide ((((List.getD x0 (Int.toNat a3) ((0, 0), 0)).1).2) ≤ (((List.getD x0 (Int.toNat a3) ((0, 0), 0)).1).1))))) || (!(((decide ((((List.getD x0 (Int.toNat a3) ((0, 0), 0)).1).1) < 0)) || (decide ((((List.getD x0 (Int.toNat a3) ((0, 0), 0)).1).2) > 200000))) || (decide ((((List.getD x0 (Int.toNat a3) ((0, 0), 0)).1).2) ≤ (((List.getD x0 (Int.toNat a3) ((0, 0), 0)).1).1))))) then
                                  bif (((decide ((((List.getD x0 (Int.toNat a3) ((0, 0), 0)).1).1) < 0)) || (decide ((((List.getD x0 (Int.toNat a3) ((0, 0), 0)).1).2) > 200000))) || (decide ((((List.getD x0 (Int.toNat a3) ((0, 0), 0)).1).2) ≤ (((List.getD x0 (Int.toNat a3) ((0, 0), 0)).1).1)))) || (!(((decide ((((List.getD x0 (Int.toNat a3) ((0, 0), 0)).1).1) < 0)) || (decide ((((List.getD x0 (Int.toNat a3) ((0, 0), 0)).1).2) > 200000))) || (decide ((((List.getD x0 (Int.toNat a3) ((0, 0), 0)).1).2) ≤ (((List.getD x0 (Int.toNat a3) ((0, 0), 0)).1).1))))) then
                                    bif !(!((((decide ((((List.getD x0 (Int.toNat a3) ((0, 0), 0)).1).1) < 0)) || (decide ((((List.getD x0 (Int.toNat a3) ((0, 0), 0)).1).2) > 200000))) || (decide ((((List.getD x0 (Int.toNat a3) ((0, 0), 0)).1).2) ≤ (((List.getD x0 (Int.toNat a3) ((0, 0), 0)).1).1)))) || (decide (((List.getD x0 (Int.toNat a3) ((0, 0), 0)).2) < 0)))) || (!((((decide ((((List.getD x0 (Int.toNat a3) ((0, 0), 0)).1).1) < 0)) || (decide ((((List.getD x0 (Int.toNat a3) ((0, 0), 0)).1).2) > 200000))) || (decide ((((List.getD x0 (Int.toNat a3) ((0, 0), 0)).1).2) ≤ (((List.getD x0 (Int.toNat a3) ((0, 0), 0)).1).1)))) || (decide (((List.getD x0 (Int.toNat a3) ((0, 0), 0)).2) < 0)))) then
                                      bif !(!((((decide ((((List.getD x0 (Int.toNat a3) ((0, 0), 0)).1).1) < 0)) || (decide ((((List.getD x0 (Int.toNat a3) ((0, 0), 0)).1).2) > 200000))) || (decide ((((List.getD x0 (Int.toNat a3) ((0, 0), 0)).1).2) ≤ (((List.getD x0 (Int.toNat a3) ((0, 0), 0)).1).1)))) || (decide (((List.getD x0 (Int.toNat a3) ((0, 0), 0)).2) < 0)))) || (!((((decide ((((List.getD x0 (Int.toNat a3) ((0, 0), 0)).1).1) < 0)) || (decide ((((List.getD x0 (Int.toNat a3) ((0, 0), 0)).1).2) > 200000))) || (decide ((((List.getD x0 (Int.toNat a3) ((0, 0), 0)).1).2) ≤ (((List.getD x0 (Int.toNat a3) ((0, 0), 0)).1).1)))) || (decide (((List.getD x0 (Int.toNat a3) ((0, 0), 0)).2) < 0)))) then
                                        bif ((((decide ((((List.getD x0 (Int.toNat a3) ((0, 0), 0)).1).1) < 0)) || (decide ((((List.getD x0 (Int.toNat a3) ((0, 0), 0)).1).2) > 200000))) || (decide ((((List.getD x0 (Int.toNat a3) ((0, 0), 0)).1).2) ≤ (((List.getD x0 (Int.toNat a3) ((0, 0), 0)).1).1)))) || (decide (((List.getD x0 (Int.toNat a3) ((0, 0), 0)).2) < 0))) || (!((((decide ((((List.getD x0 (Int.toNat a3) ((0, 0), 0)).1).1) < 0)) || (decide ((((List.getD x0 (Int.toNat a3) ((0, 0), 0)).1).2) > 200000))) || (decide ((((List.getD x0 (Int.toNat a3) ((0, 0), 0)).1).2) ≤ (((List.getD x0 (Int.toNat a3) ((0, 0), 0)).1).1)))) || (decide (((List.getD x0 (Int.toNat a3) ((0, 0), 0)).2) < 0)))) then
                                          bif ((((decide ((((List.getD x0 (Int.toNat a3) ((0, 0), 0)).1).1) < 0)) || (decide ((((List.getD x0 (Int.toNat a3) ((0, 0), 0)).1).2) > 200000))) || (decide ((((List.getD x0 (Int.toNat a3) ((0, 0), 0)).1).2) ≤ (((List.getD x0 (Int.toNat a3) ((0, 0), 0)).1).1)))) || (decide (((List.getD x0 (Int.toNat a3) ((0, 0), 0)).2) < 0))) || (decide (((List.getD x0 (Int.toNat a3) ((0, 0), 0)).2) > 24)) then
                                            some 4
                                          else
                                          bif decide ((((List.getD x0 (Int.toNat a3) ((0, 0), 0)).1).1) < a2) then
                                            some 12
                                          else
                                            ref_CapsError.l0 N x0 k1 (((List.getD x0 (Int.toNat a3) ((0, 0), 0)).1).2) (w (a3 + 1))
                                        else
                                          none
                                      else
                                        none
                                    else
                                      none
                                  else
                                    none
                                else
                                  none
                              else
                                none
                            else
                              none
                          else
                            none
                        else
                          none
                      else
                        none
                    else
                      none
                  else
                    none
                else
                  none
              else
                none
            else
              none
          else
            none
        else
          none
      else
        none
    else
      some 0 := by kernel_rfl
theorem taut15 : ∀ p0 p1 p2 p3 : Bool, ((!(!((((p0) || (p1)) || (p2)) || (p3))) || (!((((p0) || (p1)) || (p2)) || (p3))))) = true := by decide
theorem taut16 : ∀ p0 p1 p2 p3 : Bool, ((((((p0) || (p1)) || (p2)) || (p3)) || (!((((p0) || (p1)) || (p2)) || (p3))))) = true := by decide
theorem ref_CapsError.l0_clean (N : Nat) (x0 : List ((Int × Int) × Int)) (k1 : Nat) (a2 : Int) (a3 : Int) : ref_CapsError.l0 N x0 (k1 + 1) a2 a3 =
    bif decide (a3 < (x0.length : Int)) then
      bif (decide (0 ≤ a3)) && (decide (a3 < (x0.length : Int))) then
        bif ((((decide ((((List.getD x0 (Int.toNat a3) ((0, 0), 0)).1).1) < 0)) || (decide ((((List.getD x0 (Int.toNat a3) ((0, 0), 0)).1).2) > 200000))) || (decide ((((List.getD x0 (Int.toNat a3) ((0, 0), 0)).1).2) ≤ (((List.getD x0 (Int.toNat a3) ((0, 0), 0)).1).1)))) || (decide (((List.getD x0 (Int.toNat a3) ((0, 0), 0)).2) < 0))) || (decide (((List.getD x0 (Int.toNat a3) ((0, 0), 0)).2) > 24)) then
          some 4
        else
        bif decide ((((List.getD x0 (Int.toNat a3) ((0, 0), 0)).1).1) < a2) then
          some 12
        else
          ref_CapsError.l0 N x0 k1 (((List.getD x0 (Int.toNat a3) ((0, 0), 0)).1).2) (w (a3 + 1))
      else
        none
    else
      some 0 := by
  rw [ref_CapsError.l0_succ]; simp only [taut15, taut7, taut8, taut1, taut16, taut9, taut10, taut6, cond_true]
theorem ref_CapsError.l0_cons (N : Nat) (x0 : List ((Int × Int) × Int)) (k1 : Nat) (a2 : Int) {pre r} {x} (hl : x0 = pre ++ x :: r) (hb : x0.length < 4611686018427387904) : ref_CapsError.l0 N x0 (k1 + 1) a2 (pre.length : Int) =
    bif ((((decide (((x.1).1) < 0)) || (decide (((x.1).2) > 200000))) || (decide (((x.1).2) ≤ ((x.1).1)))) || (decide ((x.2) < 0))) || (decide ((x.2) > 24)) then
      some 4
    else
    bif decide (((x.1).1) < a2) then
      some 12
    else
      ref_CapsError.l0 N x0 k1 ((x.1).2) ((pre.length : Int) + 1) := by
  have hlen : x0.length = pre.length + 1 + r.length := by rw [hl]; simp; omega
  have e1 : decide ((pre.length : Int) < (x0.length : Int)) = true := by rw [decide_eq_true_iff]; omega
  have e2 : decide (0 ≤ (pre.length : Int)) = true := by rw [decide_eq_true_iff]; omega
  have e4 : w ((pre.length : Int) + 1) = (pre.length : Int) + 1 := w_next hl hb
  have e5 : List.take pre.length x0 = pre := by rw [hl]; simp
  have e6 : decide ((pre.length : Int) ≤ (x0.length : Int)) = true := by rw [decide_eq_true_iff]; omega
  have g0 : List.getD x0 pre.length ((0, 0), 0) = x := by rw [hl]; exact getD_mid pre x r _
  rw [ref_CapsError.l0_clean]
  simp -implicitDefEqProofs only [Int.toNat_natCast, e1, e2, e4, e6, g0, e5, Bool.and_true, Bool.true_and, Bool.true_or, cond_true]
theorem ref_CapsError.l0_nil (N : Nat) (x0 : List ((Int × Int) × Int)) (k1 : Nat) (a2 : Int) : ref_CapsError.l0 N x0 (k1 + 1) a2 (x0.length : Int) =
    some 0 := by
  have e1 : decide ((x0.length : Int) < (x0.length : Int)) = false := by rw [decide_eq_false_iff_not]; omega
  rw [ref_CapsError.l0_clean]
  simp -implicitDefEqProofs only [e1, cond_false]
theorem ref_CapsError.eq (N : Nat) (x0 : List ((Int × Int) × Int)) : ref_CapsError.fn N x0 =
    bif decide ((x0.length : Int) > 256) then
      some 2
    else
      ref_CapsError.l0 N x0 N 0 0 := by kernel_rfl

/-! ### law_slotsError: skyway/skywaylaw3.slotsError -/
def law_slotsError.kp : List (Nat × List (Nat × Option (TypeId × Ty))) := []
noncomputable def law_slotsError.G (N : Nat) : List (Nat × Spec) := [(53, .pure (ref_DemandsError.S N)), (55, .pure (ref_IsName.S N)), (108, .pure (ref_CapsError.S N))]
noncomputable def law_slotsError.E (N : Nat) : Env := mkEnv (law_slotsError.G N) N tyTab law_slotsError.kp
noncomputable def law_slotsError.fn (N : Nat) (x : ByteArray × List (ByteArray × Int) × List ((Int × Int) × Int)) : Option Int := evFn (law_slotsError.E N) Try.prog 3 Try.f56 false [.cell (.str), .cell (.sl 106 (.pair (.str) (.int .i64))), .cell (.sl 149 (.pair (.pair (.int .i64) (.int .i64)) (.int .i64)))] [.val (.cell (.int .i64))] x
noncomputable def law_slotsError.S (N : Nat) : PSpec := ⟨false, [.cell (.str), .cell (.sl 106 (.pair (.str) (.int .i64))), .cell (.sl 149 (.pair (.pair (.int .i64) (.int .i64)) (.int .i64)))], [.val (.cell (.int .i64))], law_slotsError.fn N⟩
theorem f56_enters : Enters Try.prog 56 := ⟨Try.f56, Try.func56, by kernel_rfl, by kernel_rfl⟩
theorem law_slotsError.tab (N : Nat) : TabOk Try.prog (law_slotsError.G N) := ⟨⟨ref_DemandsError.enters, ref_DemandsError.sound N⟩, ⟨ref_IsName.enters, ref_IsName.sound N⟩, ⟨ref_CapsError.enters, ref_CapsError.sound N⟩, trivial⟩
theorem law_slotsError.enters : Enters Try.prog 56 := f56_enters
theorem law_slotsError.sound (N : Nat) : Sound Try.prog 56 (law_slotsError.S N) := evFn_sound (specs_tab (law_slotsError.tab N)) (inls_tab (law_slotsError.tab N)) mixed 3 Try.func56 _ _ _
theorem law_slotsError.eq (N : Nat) (x0 : ByteArray) (x1 : List (ByteArray × Int)) (x2 : List ((Int × Int) × Int)) : law_slotsError.fn N (x0, x1, x2) =
    (ref_IsName.fn N x0).bind fun r1 =>
    bif !r1 then
      some 3
    else
      (ref_DemandsError.fn N x1).bind fun r2 =>
      bif !(r2 == 0) then
        some r2
      else
        (ref_CapsError.fn N x2).bind fun r3 =>
        some r3 := by kernel_rfl

/-! ### ref_served: skyway/skywayref3.served -/
def ref_served.kp : List (Nat × List (Nat × Option (TypeId × Ty))) := [(3, [(0, none), (3, none), (7, none), (8, none), (9, none)])]
noncomputable def ref_served.G (N : Nat) : List (Nat × Spec) := []
noncomputable def ref_served.E (N : Nat) : Env := mkEnv (ref_served.G N) N tyTab ref_served.kp
noncomputable def ref_served.fn (N : Nat) (x : List (ByteArray × Int)) : Option Int := evFn (ref_served.E N) Try.prog 3 Try.f109 false [.cell (.sl 106 (.pair (.str) (.int .i64)))] [.val (.cell (.int .i64))] x
noncomputable def ref_served.S (N : Nat) : PSpec := ⟨false, [.cell (.sl 106 (.pair (.str) (.int .i64)))], [.val (.cell (.int .i64))], ref_served.fn N⟩
theorem f109_enters : Enters Try.prog 109 := ⟨Try.f109, Try.func109, by kernel_rfl, by kernel_rfl⟩
theorem ref_served.tab (N : Nat) : TabOk Try.prog (ref_served.G N) := trivial
theorem ref_served.enters : Enters Try.prog 109 := f109_enters
theorem ref_served.sound (N : Nat) : Sound Try.prog 109 (ref_served.S N) := evFn_sound (specs_tab (ref_served.tab N)) (inls_tab (ref_served.tab N)) mixed 3 Try.func109 _ _ _
noncomputable def ref_served.cd (N : Nat) (p : List Nat) : St → (Ex → St → Option Int) → Option Int := ev (ref_served.E N) Try.prog (callD (ref_served.E N) Try.prog 3) 0 (codeAt (bodyOf Try.f109) p)
noncomputable def ref_served.fin : Ex → St → Option Int := endK Try.prog Try.f109 [.val (.cell (.int .i64))]
noncomputable def ref_served.l0 (N : Nat) (x0 : List (ByteArray × Int)) (k1 : Nat) (a2 : Int) (a3 : Int) : Option Int :=
  loopN (norm ((ref_served.E N).keep 3) 0) (ref_served.cd N [1, 1, 0, 1, 0, 0]) k1
  ⟨[.ros false 106 (.pair (.str) (.int .i64)) x0, .any, .any, .sc (.int .i64 a2), .any, .any, .any, .ros false 106 (.pair (.str) (.int .i64)) x0, .sc (.int .i64 (x0.length : Int)), .sc (.int .i64 a3), .any, .any, .any, .any, .any, .any, .any, .any, .any, .any, .any, .any, .any, .any, .any, .any, .any, .any, .any, .any, .any, .any, .any, .any, .any, .any, .any, .any, .any, .any], []⟩
  (blockK 0 (seqK (ref_served.cd N [1, 1, 1]) ref_served.fin))
theorem ref_served.l0_zero (N : Nat) (x0 : List (ByteArray × Int)) (a2 : Int) (a3 : Int) : ref_served.l0 N x0 0 a2 a3 = none := by kernel_rfl
theorem ref_served.l0_succ (N : Nat) (x0 : List (ByteArray × Int)) (k1 : Nat) (a2 : Int) (a3 : Int) : ref_served.l0 N x0 (k1 + 1) a2 a3 =
    bif decide (a3 < (x0.length : Int)) then
      bif (decide (0 ≤ a3)) && (decide (a3 < (x0.length : Int))) then
        bif (decide (0 ≤ a2)) && (decide (a2 < (x0.length : Int))) then
          bif !(!(decide (((List.getD x0 (Int.toNat a3) ((⟨#[]⟩ : ByteArray), 0)).2) < ((List.getD x0 (Int.toNat a2) ((⟨#[]⟩ : ByteArray), 0)).2)))) || (!(decide (((List.getD x0 (Int.toNat a3) ((⟨#[]⟩ : ByteArray), 0)).2) < ((List.getD x0 (Int.toNat a2) ((⟨#[]⟩ : ByteArray), 0)).2)))) then
            bif !(!(decide (((List.getD x0 (Int.toNat a3) ((⟨#[]⟩ : ByteArray), 0)).2) < ((List.getD x0 (Int.toNat a2) ((⟨#[]⟩ : ByteArray), 0)).2)))) || (!(decide (((List.getD x0 (Int.toNat a3) ((⟨#[]⟩ : ByteArray), 0)).2) < ((List.getD x0 (Int.toNat a2) ((⟨#[]⟩ : ByteArray), 0)).2)))) then
              bif !(!(decide (((List.getD x0 (Int.toNat a3) ((⟨#[]⟩ : ByteArray), 0)).2) < ((List.getD x0 (Int.toNat a2) ((⟨#[]⟩ : ByteArray), 0)).2)))) || (!(decide (((List.getD x0 (Int.toNat a3) ((⟨#[]⟩ : ByteArray), 0)).2) < ((List.getD x0 (Int.toNat a2) ((⟨#[]⟩ : ByteArray), 0)).2)))) then
                bif !(!(decide (((List.getD x0 (Int.toNat a3) ((⟨#[]⟩ : ByteArray), 0)).2) < ((List.getD x0 (Int.toNat a2) ((⟨#[]⟩ : ByteArray), 0)).2)))) || (!(decide (((List.getD x0 (Int.toNat a3) ((⟨#[]⟩ : ByteArray), 0)).2) < ((List.getD x0 (Int.toNat a2) ((⟨#[]⟩ : ByteArray), 0)).2)))) then
                  bif !(!(decide (((List.getD x0 (Int.toNat a3) ((⟨#[]⟩ : ByteArray), 0)).2) < ((List.getD x0 (Int.toNat a2) ((⟨#[]⟩ : ByteArray), 0)).2)))) || (!(decide (((List.getD x0 (Int.toNat a3) ((⟨#[]⟩ : ByteArray), 0)).2) < ((List.getD x0 (Int.toNat a2) ((⟨#[]⟩ : ByteArray), 0)).2)))) then
                    bif !((!(decide (((List.getD x0 (Int.toNat a3) ((⟨#[]⟩ : ByteArray), 0)).2) < ((List.getD x0 (Int.toNat a2) ((⟨#[]⟩ : ByteArray), 0)).2)))) && (((List.getD x0 (Int.toNat a3) ((⟨#[]⟩ : ByteArray), 0)).2) == ((List.getD x0 (Int.toNat a2) ((⟨#[]⟩ : ByteArray), 0)).2))) || ((!(decide (((List.getD x0 (Int.toNat a3) ((⟨#[]⟩ : ByteArray), 0)).2) < ((List.getD x0 (Int.toNat a2) ((⟨#[]⟩ : ByteArray), 0)).2)))) && (((List.getD x0 (Int.toNat a3) ((⟨#[]⟩ : ByteArray), 0)).2) == ((List.getD x0 (Int.toNat a2) ((⟨#[]⟩ : ByteArray), 0)).2))) then
                      bif !((!(decide (((List.getD x0 (Int.toNat a3) ((⟨#[]⟩ : ByteArray), 0)).2) < ((List.getD x0 (Int.toNat a2) ((⟨#[]⟩ : ByteArray), 0)).2)))) && (((List.getD x0 (Int.toNat a3) ((⟨#[]⟩ : ByteArray), 0)).2) == ((List.getD x0 (Int.toNat a2) ((⟨#[]⟩ : ByteArray), 0)).2))) || ((!(decide (((List.getD x0 (Int.toNat a3) ((⟨#[]⟩ : ByteArray), 0)).2) < ((List.getD x0 (Int.toNat a2) ((⟨#[]⟩ : ByteArray), 0)).2)))) && (((List.getD x0 (Int.toNat a3) ((⟨#[]⟩ : ByteArray), 0)).2) == ((List.getD x0 (Int.toNat a2) ((⟨#[]⟩ : ByteArray), 0)).2))) then
                        bif !((!(decide (((List.getD x0 (Int.toNat a3) ((⟨#[]⟩ : ByteArray), 0)).2) < ((List.getD x0 (Int.toNat a2) ((⟨#[]⟩ : ByteArray), 0)).2)))) && (((List.getD x0 (Int.toNat a3) ((⟨#[]⟩ : ByteArray), 0)).2) == ((List.getD x0 (Int.toNat a2) ((⟨#[]⟩ : ByteArray), 0)).2))) || ((!(decide (((List.getD x0 (Int.toNat a3) ((⟨#[]⟩ : ByteArray), 0)).2) < ((List.getD x0 (Int.toNat a2) ((⟨#[]⟩ : ByteArray), 0)).2)))) && (((List.getD x0 (Int.toNat a3) ((⟨#[]⟩ : ByteArray), 0)).2) == ((List.getD x0 (Int.toNat a2) ((⟨#[]⟩ : ByteArray), 0)).2))) then
                          bif !((!(decide (((List.getD x0 (Int.toNat a3) ((⟨#[]⟩ : ByteArray), 0)).2) < ((List.getD x0 (Int.toNat a2) ((⟨#[]⟩ : ByteArray), 0)).2)))) && (((List.getD x0 (Int.toNat a3) ((⟨#[]⟩ : ByteArray), 0)).2) == ((List.getD x0 (Int.toNat a2) ((⟨#[]⟩ : ByteArray), 0)).2))) || ((!(decide (((List.getD x0 (Int.toNat a3) ((⟨#[]⟩ : ByteArray), 0)).2) < ((List.getD x0 (Int.toNat a2) ((⟨#[]⟩ : ByteArray), 0)).2)))) && (((List.getD x0 (Int.toNat a3) ((⟨#[]⟩ : ByteArray), 0)).2) == ((List.getD x0 (Int.toNat a2) ((⟨#[]⟩ : ByteArray), 0)).2))) then
                            bif !(!(decide (((List.getD x0 (Int.toNat a3) ((⟨#[]⟩ : ByteArray), 0)).2) < ((List.getD x0 (Int.toNat a2) ((⟨#[]⟩ : ByteArray), 0)).2)))) || (!(decide (((List.getD x0 (Int.toNat a3) ((⟨#[]⟩ : ByteArray), 0)).2) < ((List.getD x0 (Int.toNat a2) ((⟨#[]⟩ : ByteArray), 0)).2)))) then
                              bif !(!(decide (((List.getD x0 (Int.toNat a3) ((⟨#[]⟩ : ByteArray), 0)).2) < ((List.getD x0 (Int.toNat a2) ((⟨#[]⟩ : ByteArray), 0)).2)))) || ((!(((List.getD x0 (Int.toNat a3) ((⟨#[]⟩ : ByteArray), 0)).2) == ((List.getD x0 (Int.toNat a2) ((⟨#[]⟩ : ByteArray), 0)).2))) || ((!(decide (((List.getD x0 (Int.toNat a3) ((⟨#[]⟩ : ByteArray), 0)).2) < ((List.getD x0 (Int.toNat a2) ((⟨#[]⟩ : ByteArray), 0)).2)))) && (((List.getD x0 (Int.toNat a3) ((⟨#[]⟩ : ByteArray), 0)).2) == ((List.getD x0 (Int.toNat a2) ((⟨#[]⟩ : ByteArray), 0)).2)))) then
                                bif (decide (((List.getD x0 (Int.toNat a3) ((⟨#[]⟩ : ByteArray), 0)).2) < ((List.getD x0 (Int.toNat a2) ((⟨#[]⟩ : ByteArray), 0)).2))) || (!(decide (((List.getD x0 (Int.toNat a3) ((⟨#[]⟩ : ByteArray), 0)).2) < ((List.getD x0 (Int.toNat a2) ((⟨#[]⟩ : ByteArray), 0)).2)))) then
                                  bif (decide (((List.getD x0 (Int.toNat a3) ((⟨#[]⟩ : ByteArray), 0)).2) < ((List.getD x0 (Int.toNat a2) ((⟨#[]⟩ : ByteArray), 0)).2))) || ((((List.getD x0 (Int.toNat a3) ((⟨#[]⟩ : ByteArray), 0)).2) == ((List.getD x0 (Int.toNat a2) ((⟨#[]⟩ : ByteArray), 0)).2)) && (slt ((List.getD x0 (Int.toNat a3) ((⟨#[]⟩ : ByteArray), 0)).1) ((List.getD x0 (Int.toNat a2) ((⟨#[]⟩ : ByteArray), 0)).1))) then
                                    ref_served.l0 N x0 k1 a3 (w (a3 + 1))
                                  else
                                    ref_served.l0 N x0 k1 a2 (w (a3 + 1))
                                else
                                  none
                              else
                                none
                            else
                              none
                          else
                            none
                        else
                          none
                      else
                        none
                    else
                      none
                  else
                    none
                else
                  none
              else
                none
            else
              none
          else
            none
        else
          none
      else
        none
    else
      some a2 := by kernel_rfl
theorem taut17 : ∀ p0 p1 : Bool, ((!(!(p0)) || ((!(p1)) || ((!(p0)) && (p1))))) = true := by decide
theorem taut18 : ∀ p0 p1 : Bool, ((!((!(p0)) && (p1)) || ((!(p0)) && (p1)))) = true := by decide
theorem ref_served.l0_clean (N : Nat) (x0 : List (ByteArray × Int)) (k1 : Nat) (a2 : Int) (a3 : Int) : ref_served.l0 N x0 (k1 + 1) a2 a3 =
    bif decide (a3 < (x0.length : Int)) then
      bif (decide (0 ≤ a3)) && (decide (a3 < (x0.length : Int))) then
        bif (decide (0 ≤ a2)) && (decide (a2 < (x0.length : Int))) then
          bif (decide (((List.getD x0 (Int.toNat a3) ((⟨#[]⟩ : ByteArray), 0)).2) < ((List.getD x0 (Int.toNat a2) ((⟨#[]⟩ : ByteArray), 0)).2))) || ((((List.getD x0 (Int.toNat a3) ((⟨#[]⟩ : ByteArray), 0)).2) == ((List.getD x0 (Int.toNat a2) ((⟨#[]⟩ : ByteArray), 0)).2)) && (slt ((List.getD x0 (Int.toNat a3) ((⟨#[]⟩ : ByteArray), 0)).1) ((List.getD x0 (Int.toNat a2) ((⟨#[]⟩ : ByteArray), 0)).1))) then
            ref_served.l0 N x0 k1 a3 (w (a3 + 1))
          else
            ref_served.l0 N x0 k1 a2 (w (a3 + 1))
        else
          none
      else
        none
    else
      some a2 := by
  rw [ref_served.l0_succ]; simp only [taut1, taut17, taut18, taut6, cond_true]
theorem ref_served.l0_cons (N : Nat) (x0 : List (ByteArray × Int)) (k1 : Nat) (a2 : Int) {pre r} {x} (hl : x0 = pre ++ x :: r) (hb : x0.length < 4611686018427387904) : ref_served.l0 N x0 (k1 + 1) a2 (pre.length : Int) =
    bif (decide (0 ≤ a2)) && (decide (a2 < (x0.length : Int))) then
      bif (decide ((x.2) < ((List.getD x0 (Int.toNat a2) ((⟨#[]⟩ : ByteArray), 0)).2))) || (((x.2) == ((List.getD x0 (Int.toNat a2) ((⟨#[]⟩ : ByteArray), 0)).2)) && (slt (x.1) ((List.getD x0 (Int.toNat a2) ((⟨#[]⟩ : ByteArray), 0)).1))) then
        ref_served.l0 N x0 k1 (pre.length : Int) ((pre.length : Int) + 1)
      else
        ref_served.l0 N x0 k1 a2 ((pre.length : Int) + 1)
    else
      none := by
  have hlen : x0.length = pre.length + 1 + r.length := by rw [hl]; simp; omega
  have e1 : decide ((pre.length : Int) < (x0.length : Int)) = true := by rw [decide_eq_true_iff]; omega
  have e2 : decide (0 ≤ (pre.length : Int)) = true := by rw [decide_eq_true_iff]; omega
  have e4 : w ((pre.length : Int) + 1) = (pre.length : Int) + 1 := w_next hl hb
  have e5 : List.take pre.length x0 = pre := by rw [hl]; simp
  have e6 : decide ((pre.length : Int) ≤ (x0.length : Int)) = true := by rw [decide_eq_true_iff]; omega
  have g0 : List.getD x0 pre.length ((⟨#[]⟩ : ByteArray), 0) = x := by rw [hl]; exact getD_mid pre x r _
  rw [ref_served.l0_clean]
  simp -implicitDefEqProofs only [Int.toNat_natCast, e1, e2, e4, e6, g0, e5, Bool.and_true, Bool.true_and, Bool.true_or, cond_true]
theorem ref_served.l0_nil (N : Nat) (x0 : List (ByteArray × Int)) (k1 : Nat) (a2 : Int) : ref_served.l0 N x0 (k1 + 1) a2 (x0.length : Int) =
    some a2 := by
  have e1 : decide ((x0.length : Int) < (x0.length : Int)) = false := by rw [decide_eq_false_iff_not]; omega
  rw [ref_served.l0_clean]
  simp -implicitDefEqProofs only [e1, cond_false]
theorem ref_served.eq (N : Nat) (x0 : List (ByteArray × Int)) : ref_served.fn N x0 =
    ref_served.l0 N x0 N 0 0 := by kernel_rfl

/-! ### ref_CapAt: skyway/skywayref3.CapAt -/
def ref_CapAt.kp : List (Nat × List (Nat × Option (TypeId × Ty))) := [(3, [(1, none), (5, none), (8, none), (9, none), (10, none)])]
noncomputable def ref_CapAt.G (N : Nat) : List (Nat × Spec) := []
noncomputable def ref_CapAt.E (N : Nat) : Env := mkEnv (ref_CapAt.G N) N tyTab ref_CapAt.kp
noncomputable def ref_CapAt.fn (N : Nat) (x : List ((Int × Int) × Int) × Int) : Option Int := evFn (ref_CapAt.E N) Try.prog 3 Try.f110 false [.cell (.sl 149 (.pair (.pair (.int .i64) (.int .i64)) (.int .i64))), .cell (.int .i64)] [.val (.cell (.int .i64))] x
noncomputable def ref_CapAt.S (N : Nat) : PSpec := ⟨false, [.cell (.sl 149 (.pair (.pair (.int .i64) (.int .i64)) (.int .i64))), .cell (.int .i64)], [.val (.cell (.int .i64))], ref_CapAt.fn N⟩
theorem f110_enters : Enters Try.prog 110 := ⟨Try.f110, Try.func110, by kernel_rfl, by kernel_rfl⟩
theorem ref_CapAt.tab (N : Nat) : TabOk Try.prog (ref_CapAt.G N) := trivial
theorem ref_CapAt.enters : Enters Try.prog 110 := f110_enters
theorem ref_CapAt.sound (N : Nat) : Sound Try.prog 110 (ref_CapAt.S N) := evFn_sound (specs_tab (ref_CapAt.tab N)) (inls_tab (ref_CapAt.tab N)) mixed 3 Try.func110 _ _ _
noncomputable def ref_CapAt.cd (N : Nat) (p : List Nat) : St → (Ex → St → Option Int) → Option Int := ev (ref_CapAt.E N) Try.prog (callD (ref_CapAt.E N) Try.prog 3) 0 (codeAt (bodyOf Try.f110) p)
noncomputable def ref_CapAt.fin : Ex → St → Option Int := endK Try.prog Try.f110 [.val (.cell (.int .i64))]
noncomputable def ref_CapAt.l0 (N : Nat) (x0 : List ((Int × Int) × Int)) (x1 : Int) (k1 : Nat) (a2 : Int) (a3 : Int) : Option Int :=
  loopN (norm ((ref_CapAt.E N).keep 3) 0) (ref_CapAt.cd N [1, 1, 0, 1, 0, 0]) k1
  ⟨[.any, .sc (.int .i64 x1), .any, .any, .any, .sc (.int .i64 a2), .any, .any, .ros false 149 (.pair (.pair (.int .i64) (.int .i64)) (.int .i64)) x0, .sc (.int .i64 (x0.length : Int)), .sc (.int .i64 a3), .any, .any, .any, .any, .any, .any, .any, .any, .any, .any, .any, .any, .any, .any, .any, .any, .any, .any, .any, .any], []⟩
  (blockK 0 (seqK (ref_CapAt.cd N [1, 1, 1]) ref_CapAt.fin))
theorem ref_CapAt.l0_zero (N : Nat) (x0 : List ((Int × Int) × Int)) (x1 : Int) (a2 : Int) (a3 : Int) : ref_CapAt.l0 N x0 x1 0 a2 a3 = none := by kernel_rfl
theorem ref_CapAt.l0_succ (N : Nat) (x0 : List ((Int × Int) × Int)) (x1 : Int) (k1 : Nat) (a2 : Int) (a3 : Int) : ref_CapAt.l0 N x0 x1 (k1 + 1) a2 a3 =
    bif decide (a3 < (x0.length : Int)) then
      bif (decide (0 ≤ a3)) && (decide (a3 < (x0.length : Int))) then
        bif !(!(decide (x1 < (((List.getD x0 (Int.toNat a3) ((0, 0), 0)).1).1)))) || (!(decide (x1 < (((List.getD x0 (Int.toNat a3) ((0, 0), 0)).1).1)))) then
          bif !(!(decide (x1 < (((List.getD x0 (Int.toNat a3) ((0, 0), 0)).1).1)))) || (!(decide (x1 < (((List.getD x0 (Int.toNat a3) ((0, 0), 0)).1).1)))) then
            bif !(!(decide (x1 < (((List.getD x0 (Int.toNat a3) ((0, 0), 0)).1).1)))) || (!(decide (x1 < (((List.getD x0 (Int.toNat a3) ((0, 0), 0)).1).1)))) then
              bif !(!(decide (x1 < (((List.getD x0 (Int.toNat a3) ((0, 0), 0)).1).1)))) || (!(decide (x1 < (((List.getD x0 (Int.toNat a3) ((0, 0), 0)).1).1)))) then
                bif (decide (x1 < (((List.getD x0 (Int.toNat a3) ((0, 0), 0)).1).1))) || (!(decide (x1 < (((List.getD x0 (Int.toNat a3) ((0, 0), 0)).1).1)))) then
                  bif !((decide (x1 < (((List.getD x0 (Int.toNat a3) ((0, 0), 0)).1).1))) || (decide (x1 ≥ (((List.getD x0 (Int.toNat a3) ((0, 0), 0)).1).2)))) then
                    ref_CapAt.l0 N x0 x1 k1 a3 (w (a3 + 1))
                  else
                    ref_CapAt.l0 N x0 x1 k1 a2 (w (a3 + 1))
                else
                  none
              else
                none
            else
              none
          else
            none
        else
          none
      else
        none
    else
      some a2 := by kernel_rfl
theorem ref_CapAt.l0_clean (N : Nat) (x0 : List ((Int × Int) × Int)) (x1 : Int) (k1 : Nat) (a2 : Int) (a3 : Int) : ref_CapAt.l0 N x0 x1 (k1 + 1) a2 a3 =
    bif decide (a3 < (x0.length : Int)) then
      bif (decide (0 ≤ a3)) && (decide (a3 < (x0.length : Int))) then
        bif !((decide (x1 < (((List.getD x0 (Int.toNat a3) ((0, 0), 0)).1).1))) || (decide (x1 ≥ (((List.getD x0 (Int.toNat a3) ((0, 0), 0)).1).2)))) then
          ref_CapAt.l0 N x0 x1 k1 a3 (w (a3 + 1))
        else
          ref_CapAt.l0 N x0 x1 k1 a2 (w (a3 + 1))
      else
        none
    else
      some a2 := by
  rw [ref_CapAt.l0_succ]; simp only [taut1, taut6, cond_true]
theorem ref_CapAt.l0_cons (N : Nat) (x0 : List ((Int × Int) × Int)) (x1 : Int) (k1 : Nat) (a2 : Int) {pre r} {x} (hl : x0 = pre ++ x :: r) (hb : x0.length < 4611686018427387904) : ref_CapAt.l0 N x0 x1 (k1 + 1) a2 (pre.length : Int) =
    bif !((decide (x1 < ((x.1).1))) || (decide (x1 ≥ ((x.1).2)))) then
      ref_CapAt.l0 N x0 x1 k1 (pre.length : Int) ((pre.length : Int) + 1)
    else
      ref_CapAt.l0 N x0 x1 k1 a2 ((pre.length : Int) + 1) := by
  have hlen : x0.length = pre.length + 1 + r.length := by rw [hl]; simp; omega
  have e1 : decide ((pre.length : Int) < (x0.length : Int)) = true := by rw [decide_eq_true_iff]; omega
  have e2 : decide (0 ≤ (pre.length : Int)) = true := by rw [decide_eq_true_iff]; omega
  have e4 : w ((pre.length : Int) + 1) = (pre.length : Int) + 1 := w_next hl hb
  have e5 : List.take pre.length x0 = pre := by rw [hl]; simp
  have e6 : decide ((pre.length : Int) ≤ (x0.length : Int)) = true := by rw [decide_eq_true_iff]; omega
  have g0 : List.getD x0 pre.length ((0, 0), 0) = x := by rw [hl]; exact getD_mid pre x r _
  rw [ref_CapAt.l0_clean]
  simp -implicitDefEqProofs only [Int.toNat_natCast, e1, e2, e4, e6, g0, e5, Bool.and_true, Bool.true_and, Bool.true_or, cond_true]
theorem ref_CapAt.l0_nil (N : Nat) (x0 : List ((Int × Int) × Int)) (x1 : Int) (k1 : Nat) (a2 : Int) : ref_CapAt.l0 N x0 x1 (k1 + 1) a2 (x0.length : Int) =
    some a2 := by
  have e1 : decide ((x0.length : Int) < (x0.length : Int)) = false := by rw [decide_eq_false_iff_not]; omega
  rw [ref_CapAt.l0_clean]
  simp -implicitDefEqProofs only [e1, cond_false]
theorem ref_CapAt.eq (N : Nat) (x0 : List ((Int × Int) × Int)) (x1 : Int) : ref_CapAt.fn N (x0, x1) =
    ref_CapAt.l0 N x0 x1 N (-1) 0 := by kernel_rfl

/-! ### ref_Slots: skyway/skywayref3.Slots -/
def ref_Slots.kp : List (Nat × List (Nat × Option (TypeId × Ty))) := [(3, [(0, none), (2, none), (8, none), (9, some (94, .pair (.str) (.pair (.str) (.int .i64))))]), (9, [(0, none), (2, none), (8, none), (9, none), (11, none), (12, none), (38, none), (39, none), (40, none)]), (13, [(0, none), (2, none), (8, none), (9, none), (11, none), (12, none), (13, none), (14, none), (15, none), (38, none), (39, none), (40, none), (45, none), (46, none), (47, none)])]
noncomputable def ref_Slots.G (N : Nat) : List (Nat × Spec) := [(109, .pure (ref_served.S N)), (110, .pure (ref_CapAt.S N))]
noncomputable def ref_Slots.E (N : Nat) : Env := mkEnv (ref_Slots.G N) N tyTab ref_Slots.kp
noncomputable def ref_Slots.fn (N : Nat) (x : ByteArray × List (ByteArray × Int) × List ((Int × Int) × Int)) : Option (List (ByteArray × ByteArray × Int) × Int) := evFn (ref_Slots.E N) Try.prog 3 Try.f57 false [.cell (.str), .cell (.sl 106 (.pair (.str) (.int .i64))), .cell (.sl 149 (.pair (.pair (.int .i64) (.int .i64)) (.int .i64)))] [.own 94 (.pair (.str) (.pair (.str) (.int .i64))), .val (.cell (.int .i64))] x
noncomputable def ref_Slots.S (N : Nat) : PSpec := ⟨false, [.cell (.str), .cell (.sl 106 (.pair (.str) (.int .i64))), .cell (.sl 149 (.pair (.pair (.int .i64) (.int .i64)) (.int .i64)))], [.own 94 (.pair (.str) (.pair (.str) (.int .i64))), .val (.cell (.int .i64))], ref_Slots.fn N⟩
theorem f57_enters : Enters Try.prog 57 := ⟨Try.f57, Try.func57, by kernel_rfl, by kernel_rfl⟩
theorem ref_Slots.tab (N : Nat) : TabOk Try.prog (ref_Slots.G N) := ⟨⟨ref_served.enters, ref_served.sound N⟩, ⟨ref_CapAt.enters, ref_CapAt.sound N⟩, trivial⟩
theorem ref_Slots.enters : Enters Try.prog 57 := f57_enters
theorem ref_Slots.sound (N : Nat) : Sound Try.prog 57 (ref_Slots.S N) := evFn_sound (specs_tab (ref_Slots.tab N)) (inls_tab (ref_Slots.tab N)) mixed 3 Try.func57 _ _ _
noncomputable def ref_Slots.cd (N : Nat) (p : List Nat) : St → (Ex → St → Option (List (ByteArray × ByteArray × Int) × Int)) → Option (List (ByteArray × ByteArray × Int) × Int) := ev (ref_Slots.E N) Try.prog (callD (ref_Slots.E N) Try.prog 3) 0 (codeAt (bodyOf Try.f57) p)
noncomputable def ref_Slots.fin : Ex → St → Option (List (ByteArray × ByteArray × Int) × Int) := endK Try.prog Try.f57 [.own 94 (.pair (.str) (.pair (.str) (.int .i64))), .val (.cell (.int .i64))]
noncomputable def ref_Slots.l0 (N : Nat) (x0 : ByteArray) (x2 : List ((Int × Int) × Int)) (k1 : Nat) (a2 : List (ByteArray × Int)) (a3 : List (ByteArray × ByteArray × Int)) : Option (List (ByteArray × ByteArray × Int) × Int) :=
  loopN (norm ((ref_Slots.E N).keep 3) 0) (ref_Slots.cd N [1, 1, 1, 0, 0, 0]) k1
  ⟨[.sc (.string x0), .any, .ros false 149 (.pair (.pair (.int .i64) (.int .i64)) (.int .i64)) x2, .any, .any, .any, .any, .any, .own 0, .own 1, .any, .any, .any, .any, .any, .any, .any, .any, .any, .any, .any, .any, .any, .any, .any, .any, .any, .any, .any, .any, .any, .any, .any, .any, .any, .any, .any, .any, .any, .any, .any, .any, .any, .any, .any, .any, .any, .any, .any, .any, .any, .any, .any, .any, .any, .any, .any, .any, .any, .any, .any, .any, .any, .any, .any, .any, .any, .any, .any, .any, .any, .any, .any, .any, .any, .any, .any, .any, .any, .any, .any, .any, .any, .any, .any, .any, .any, .any, .any, .any, .any, .any, .any, .any, .any, .any, .any, .any], [.rows true 106 (.pair (.str) (.int .i64)) a2, .rows true 94 (.pair (.str) (.pair (.str) (.int .i64))) a3]⟩
  (blockK 0 (seqK (ref_Slots.cd N [1, 1, 1, 1]) ref_Slots.fin))
noncomputable def ref_Slots.l1 (N : Nat) (x0 : ByteArray) (x2 : List ((Int × Int) × Int)) (k1 : Nat) (a2 : List (ByteArray × Int)) (a3 : List (ByteArray × ByteArray × Int)) (r4 : Int) (k5 : Nat) (a6 : Int) (a7 : Int) : Option (List (ByteArray × ByteArray × Int) × Int) :=
  loopN (norm ((ref_Slots.E N).keep 9) 0) (ref_Slots.cd N [1, 1, 1, 0, 0, 0, 1, 0, 1, 1, 1, 1, 0, 1, 0, 0]) k5
  ⟨[.sc (.string x0), .any, .ros false 149 (.pair (.pair (.int .i64) (.int .i64)) (.int .i64)) x2, .any, .any, .any, .any, .any, .own 0, .own 1, .any, .ptr 2 0, .sc (.int .i64 a6), .any, .any, .any, .any, .any, .any, .any, .any, .any, .any, .any, .any, .any, .any, .any, .any, .any, .any, .any, .any, .any, .any, .any, .any, .any, .ros false 149 (.pair (.pair (.int .i64) (.int .i64)) (.int .i64)) x2, .sc (.int .i64 (x2.length : Int)), .sc (.int .i64 a7), .any, .any, .any, .any, .any, .any, .any, .any, .any, .any, .any, .any, .any, .any, .any, .any, .any, .any, .any, .any, .any, .any, .any, .any, .any, .any, .any, .any, .any, .any, .any, .any, .any, .any, .any, .any, .any, .any, .any, .any, .any, .any, .any, .any, .any, .any, .any, .any, .any, .any, .any, .any, .any, .any, .any, .any, .any], [.rows true 106 (.pair (.str) (.int .i64)) ((List.take (Int.toNat r4) a2) ++ (List.take (a2.length - (Int.toNat (w (r4 + 1)))) (List.drop (0 + (Int.toNat (w (r4 + 1)))) a2))), .rows true 94 (.pair (.str) (.pair (.str) (.int .i64))) a3, .cells [.sc (.string ((List.getD a2 (Int.toNat r4) ((⟨#[]⟩ : ByteArray), 0)).1)), .sc (.int .i64 ((List.getD a2 (Int.toNat r4) ((⟨#[]⟩ : ByteArray), 0)).2))] 106]⟩
  (blockK 2 (seqK (ref_Slots.cd N [1, 1, 1, 0, 0, 0, 1, 0, 1, 1, 1, 1, 1]) (blockK 1 (loopK (norm ((ref_Slots.E N).keep 3) 0) (ref_Slots.cd N [1, 1, 1, 0, 0, 0]) k1 (blockK 0 (seqK (ref_Slots.cd N [1, 1, 1, 1]) ref_Slots.fin))))))
noncomputable def ref_Slots.l2 (N : Nat) (x0 : ByteArray) (x2 : List ((Int × Int) × Int)) (k1 : Nat) (a2 : List (ByteArray × Int)) (a3 : List (ByteArray × ByteArray × Int)) (r4 : Int) (k5 : Nat) (a6 : Int) (a7 : Int) (k8 : Nat) (a9 : Int) (a10 : Int) : Option (List (ByteArray × ByteArray × Int) × Int) :=
  loopN (norm ((ref_Slots.E N).keep 13) 0) (ref_Slots.cd N [1, 1, 1, 0, 0, 0, 1, 0, 1, 1, 1, 1, 0, 1, 0, 0, 1, 1, 0, 0, 1, 1, 0, 1, 0, 0]) k8
  ⟨[.sc (.string x0), .any, .ros false 149 (.pair (.pair (.int .i64) (.int .i64)) (.int .i64)) x2, .any, .any, .any, .any, .any, .own 0, .own 1, .any, .ptr 2 0, .sc (.int .i64 a6), .sc (.int .i64 a7), .ptr 3 0, .sc (.int .i64 a9), .any, .any, .any, .any, .any, .any, .any, .any, .any, .any, .any, .any, .any, .any, .any, .any, .any, .any, .any, .any, .any, .any, .ros false 149 (.pair (.pair (.int .i64) (.int .i64)) (.int .i64)) x2, .sc (.int .i64 (x2.length : Int)), .sc (.int .i64 a7), .any, .any, .any, .any, .own 1, .sc (.int .i64 (a3.length : Int)), .sc (.int .i64 a10), .any, .any, .any, .any, .any, .any, .any, .any, .any, .any, .any, .any, .any, .any, .any, .any, .any, .any, .any, .any, .any, .any, .any, .any, .any, .any, .any, .any, .any, .any, .any, .any, .any, .any, .any, .any, .any, .any, .any, .any, .any, .any, .any, .any, .any, .any, .any, .any, .any, .any], [.rows true 106 (.pair (.str) (.int .i64)) ((List.take (Int.toNat r4) a2) ++ (List.take (a2.length - (Int.toNat (w (r4 + 1)))) (List.drop (0 + (Int.toNat (w (r4 + 1)))) a2))), .rows true 94 (.pair (.str) (.pair (.str) (.int .i64))) a3, .cells [.sc (.string ((List.getD a2 (Int.toNat r4) ((⟨#[]⟩ : ByteArray), 0)).1)), .sc (.int .i64 ((List.getD a2 (Int.toNat r4) ((⟨#[]⟩ : ByteArray), 0)).2))] 106, .cells [.sc (.int .i64 (((List.getD x2 (Int.toNat a7) ((0, 0), 0)).1).1)), .sc (.int .i64 (((List.getD x2 (Int.toNat a7) ((0, 0), 0)).1).2)), .sc (.int .i64 ((List.getD x2 (Int.toNat a7) ((0, 0), 0)).2))] 149]⟩
  (blockK 4 (seqK (ref_Slots.cd N [1, 1, 1, 0, 0, 0, 1, 0, 1, 1, 1, 1, 0, 1, 0, 0, 1, 1, 0, 0, 1, 1, 1]) (blockK 3 (seqK (ref_Slots.cd N [1, 1, 1, 0, 0, 0, 1, 0, 1, 1, 1, 1, 0, 1, 0, 0, 1, 1, 1]) (loopK (norm ((ref_Slots.E N).keep 9) 0) (ref_Slots.cd N [1, 1, 1, 0, 0, 0, 1, 0, 1, 1, 1, 1, 0, 1, 0, 0]) k5 (blockK 2 (seqK (ref_Slots.cd N [1, 1, 1, 0, 0, 0, 1, 0, 1, 1, 1, 1, 1]) (blockK 1 (loopK (norm ((ref_Slots.E N).keep 3) 0) (ref_Slots.cd N [1, 1, 1, 0, 0, 0]) k1 (blockK 0 (seqK (ref_Slots.cd N [1, 1, 1, 1]) ref_Slots.fin)))))))))))
theorem ref_Slots.l2_zero (N : Nat) (x0 : ByteArray) (x2 : List ((Int × Int) × Int)) (k1 : Nat) (a2 : List (ByteArray × Int)) (a3 : List (ByteArray × ByteArray × Int)) (r4 : Int) (k5 : Nat) (a6 : Int) (a7 : Int) (a9 : Int) (a10 : Int) : ref_Slots.l2 N x0 x2 k1 a2 a3 r4 k5 a6 a7 0 a9 a10 = none := by kernel_rfl
theorem ref_Slots.l2_succ (N : Nat) (x0 : ByteArray) (x2 : List ((Int × Int) × Int)) (k1 : Nat) (a2 : List (ByteArray × Int)) (a3 : List (ByteArray × ByteArray × Int)) (r4 : Int) (k5 : Nat) (a6 : Int) (a7 : Int) (k8 : Nat) (a9 : Int) (a10 : Int) : ref_Slots.l2 N x0 x2 k1 a2 a3 r4 k5 a6 a7 (k8 + 1) a9 a10 =
    bif decide (a10 < (a3.length : Int)) then
      bif (decide (0 ≤ a10)) && (decide (a10 < (a3.length : Int))) then
        bif decide ((Int.toNat a10) < a3.length) then
          (ref_CapAt.fn N (x2, ((List.getD a3 (Int.toNat a10) ((⟨#[]⟩ : ByteArray), ((⟨#[]⟩ : ByteArray), 0))).2).2)).bind fun r11 =>
          bif r11 == a7 then
            ref_Slots.l2 N x0 x2 k1 a2 a3 r4 k5 a6 a7 k8 (w (a9 + 1)) (w (a10 + 1))
          else
            ref_Slots.l2 N x0 x2 k1 a2 a3 r4 k5 a6 a7 k8 a9 (w (a10 + 1))
        else
          none
      else
        none
    else
    bif !(decide (a6 < 0)) || (decide (a6 < 0)) then
      bif !(decide (a6 < 0)) || (decide (a6 < 0)) then
        bif !(decide (a6 < 0)) || (decide (a6 < 0)) then
          bif (!(decide (a6 < 0))) || (decide (a6 < 0)) then
            bif !((decide (a6 < 0)) && (decide (a9 < ((List.getD x2 (Int.toNat a7) ((0, 0), 0)).2)))) || ((decide (a6 < 0)) && (decide (a9 < ((List.getD x2 (Int.toNat a7) ((0, 0), 0)).2)))) then
              bif !((decide (a6 < 0)) && (decide (a9 < ((List.getD x2 (Int.toNat a7) ((0, 0), 0)).2)))) || ((decide (a6 < 0)) && (decide (a9 < ((List.getD x2 (Int.toNat a7) ((0, 0), 0)).2)))) then
                bif !((decide (a6 < 0)) && (decide (a9 < ((List.getD x2 (Int.toNat a7) ((0, 0), 0)).2)))) || ((decide (a6 < 0)) && (decide (a9 < ((List.getD x2 (Int.toNat a7) ((0, 0), 0)).2)))) then
                  bif !((decide (a6 < 0)) && (decide (a9 < ((List.getD x2 (Int.toNat a7) ((0, 0), 0)).2)))) || ((decide (a6 < 0)) && (decide (a9 < ((List.getD x2 (Int.toNat a7) ((0, 0), 0)).2)))) then
                    bif !((decide (a6 < 0)) && (decide (a9 < ((List.getD x2 (Int.toNat a7) ((0, 0), 0)).2)))) || ((decide (a6 < 0)) && (decide (a9 < ((List.getD x2 (Int.toNat a7) ((0, 0), 0)).2)))) then
                      bif (!((decide (a6 < 0)) && (decide (a9 < ((List.getD x2 (Int.toNat a7) ((0, 0), 0)).2))))) || ((decide (a6 < 0)) && (decide (a9 < ((List.getD x2 (Int.toNat a7) ((0, 0), 0)).2)))) then
                        bif ((decide (a6 < 0)) && (decide (a9 < ((List.getD x2 (Int.toNat a7) ((0, 0), 0)).2)))) && (decide (((List.getD a2 (Int.toNat r4) ((⟨#[]⟩ : ByteArray), 0)).2) < (((List.getD x2 (Int.toNat a7) ((0, 0), 0)).1).2))) then
                          bif decide (((List.getD a2 (Int.toNat r4) ((⟨#[]⟩ : ByteArray), 0)).2) < (((List.getD x2 (Int.toNat a7) ((0, 0), 0)).1).1)) then
                            ref_Slots.l1 N x0 x2 k1 a2 a3 r4 k5 (((List.getD x2 (Int.toNat a7) ((0, 0), 0)).1).1) (w (a7 + 1))
                          else
                            ref_Slots.l1 N x0 x2 k1 a2 a3 r4 k5 ((List.getD a2 (Int.toNat r4) ((⟨#[]⟩ : ByteArray), 0)).2) (w (a7 + 1))
                        else
                          ref_Slots.l1 N x0 x2 k1 a2 a3 r4 k5 a6 (w (a7 + 1))
                      else
                        none
                    else
                      none
                  else
                    none
                else
                  none
              else
                none
            else
              none
          else
            none
        else
          none
      else
        none
    else
      none := by kernel_rfl
theorem ref_Slots.l1_zero (N : Nat) (x0 : ByteArray) (x2 : List ((Int × Int) × Int)) (k1 : Nat) (a2 : List (ByteArray × Int)) (a3 : List (ByteArray × ByteArray × Int)) (r4 : Int) (a6 : Int) (a7 : Int) : ref_Slots.l1 N x0 x2 k1 a2 a3 r4 0 a6 a7 = none := by kernel_rfl
theorem ref_Slots.l1_succ (N : Nat) (x0 : ByteArray) (x2 : List ((Int × Int) × Int)) (k1 : Nat) (a2 : List (ByteArray × Int)) (a3 : List (ByteArray × ByteArray × Int)) (r4 : Int) (k5 : Nat) (a6 : Int) (a7 : Int) : ref_Slots.l1 N x0 x2 k1 a2 a3 r4 (k5 + 1) a6 a7 =
    bif decide (a7 < (x2.length : Int)) then
      bif (decide (0 ≤ a7)) && (decide (a7 < (x2.length : Int))) then
        ref_Slots.l2 N x0 x2 k1 a2 a3 r4 k5 a6 a7 N 0 0
      else
        none
    else
    bif decide (a6 < 0) then
      some ([], 18)
    else
    bif decide ((a3.length + 1) * 40 ≤ 140737488355328) && decide ((a3.length + 1) ≤ maxLen) then
      ref_Slots.l0 N x0 x2 k1 ((List.take (Int.toNat r4) a2) ++ (List.take (a2.length - (Int.toNat (w (r4 + 1)))) (List.drop (0 + (Int.toNat (w (r4 + 1)))) a2))) (a3 ++ [((List.getD a2 (Int.toNat r4) ((⟨#[]⟩ : ByteArray), 0)).1, (x0, a6))])
    else
      none := by kernel_rfl
theorem ref_Slots.l0_zero (N : Nat) (x0 : ByteArray) (x2 : List ((Int × Int) × Int)) (a2 : List (ByteArray × Int)) (a3 : List (ByteArray × ByteArray × Int)) : ref_Slots.l0 N x0 x2 0 a2 a3 = none := by kernel_rfl
theorem ref_Slots.l0_succ (N : Nat) (x0 : ByteArray) (x2 : List ((Int × Int) × Int)) (k1 : Nat) (a2 : List (ByteArray × Int)) (a3 : List (ByteArray × ByteArray × Int)) : ref_Slots.l0 N x0 x2 (k1 + 1) a2 a3 =
    bif decide ((a2.length : Int) > 0) then
      (ref_served.fn N a2).bind fun r4 =>
      bif (decide (0 ≤ r4)) && (decide (r4 < (a2.length : Int))) then
        bif decide ((Int.toNat r4) < a2.length) then
          bif (decide (0 ≤ r4)) && (decide (0 + (Int.toNat r4) ≤ a2.length)) then
            bif decide ((0 + (List.take (Int.toNat r4) a2).length) * 24 ≤ 140737488355328) && decide ((0 + (List.take (Int.toNat r4) a2).length) ≤ maxLen) then
              bif (decide (0 ≤ (w (r4 + 1)))) && (decide ((w (r4 + 1)) ≤ ((a2.length : Nat) : Int))) then
                bif decide (((List.take (Int.toNat r4) a2).length + (List.take (a2.length - (Int.toNat (w (r4 + 1)))) (List.drop (0 + (Int.toNat (w (r4 + 1)))) a2)).length) * 24 ≤ 140737488355328) && decide (((List.take (Int.toNat r4) a2).length + (List.take (a2.length - (Int.toNat (w (r4 + 1)))) (List.drop (0 + (Int.toNat (w (r4 + 1)))) a2)).length) ≤ maxLen) then
                  ref_Slots.l1 N x0 x2 k1 a2 a3 r4 N (-1) 0
                else
                  none
              else
                none
            else
              none
          else
            none
        else
          none
      else
        none
    else
      some (a3, 0) := by kernel_rfl
theorem taut19 : ∀ p0 p1 : Bool, ((!((p0) && (p1)) || ((p0) && (p1)))) = true := by decide
theorem taut20 : ∀ p0 p1 : Bool, (((!((p0) && (p1))) || ((p0) && (p1)))) = true := by decide
theorem ref_Slots.l2_clean (N : Nat) (x0 : ByteArray) (x2 : List ((Int × Int) × Int)) (k1 : Nat) (a2 : List (ByteArray × Int)) (a3 : List (ByteArray × ByteArray × Int)) (r4 : Int) (k5 : Nat) (a6 : Int) (a7 : Int) (k8 : Nat) (a9 : Int) (a10 : Int) : ref_Slots.l2 N x0 x2 k1 a2 a3 r4 k5 a6 a7 (k8 + 1) a9 a10 =
    bif decide (a10 < (a3.length : Int)) then
      bif (decide (0 ≤ a10)) && (decide (a10 < (a3.length : Int))) then
        bif decide ((Int.toNat a10) < a3.length) then
          (ref_CapAt.fn N (x2, ((List.getD a3 (Int.toNat a10) ((⟨#[]⟩ : ByteArray), ((⟨#[]⟩ : ByteArray), 0))).2).2)).bind fun r11 =>
          bif r11 == a7 then
            ref_Slots.l2 N x0 x2 k1 a2 a3 r4 k5 a6 a7 k8 (w (a9 + 1)) (w (a10 + 1))
          else
            ref_Slots.l2 N x0 x2 k1 a2 a3 r4 k5 a6 a7 k8 a9 (w (a10 + 1))
        else
          none
      else
        none
    else
    bif ((decide (a6 < 0)) && (decide (a9 < ((List.getD x2 (Int.toNat a7) ((0, 0), 0)).2)))) && (decide (((List.getD a2 (Int.toNat r4) ((⟨#[]⟩ : ByteArray), 0)).2) < (((List.getD x2 (Int.toNat a7) ((0, 0), 0)).1).2))) then
      bif decide (((List.getD a2 (Int.toNat r4) ((⟨#[]⟩ : ByteArray), 0)).2) < (((List.getD x2 (Int.toNat a7) ((0, 0), 0)).1).1)) then
        ref_Slots.l1 N x0 x2 k1 a2 a3 r4 k5 (((List.getD x2 (Int.toNat a7) ((0, 0), 0)).1).1) (w (a7 + 1))
      else
        ref_Slots.l1 N x0 x2 k1 a2 a3 r4 k5 ((List.getD a2 (Int.toNat r4) ((⟨#[]⟩ : ByteArray), 0)).2) (w (a7 + 1))
    else
      ref_Slots.l1 N x0 x2 k1 a2 a3 r4 k5 a6 (w (a7 + 1)) := by
  rw [ref_Slots.l2_succ]; simp only [taut19, taut11, taut20, taut12, cond_true]
theorem ref_Slots.l2_cons (N : Nat) (x0 : ByteArray) (x2 : List ((Int × Int) × Int)) (k1 : Nat) (a2 : List (ByteArray × Int)) (a3 : List (ByteArray × ByteArray × Int)) (r4 : Int) (k5 : Nat) (a6 : Int) (a7 : Int) (k8 : Nat) (a9 : Int) {pre r} {x} (hl : a3 = pre ++ x :: r) (hb : a3.length < 4611686018427387904) : ref_Slots.l2 N x0 x2 k1 a2 a3 r4 k5 a6 a7 (k8 + 1) a9 (pre.length : Int) =
    bif decide (pre.length < a3.length) then
      (ref_CapAt.fn N (x2, (x.2).2)).bind fun r11 =>
      bif r11 == a7 then
        ref_Slots.l2 N x0 x2 k1 a2 a3 r4 k5 a6 a7 k8 (w (a9 + 1)) ((pre.length : Int) + 1)
      else
        ref_Slots.l2 N x0 x2 k1 a2 a3 r4 k5 a6 a7 k8 a9 ((pre.length : Int) + 1)
    else
      none := by
  have hlen : a3.length = pre.length + 1 + r.length := by rw [hl]; simp; omega
  have e1 : decide ((pre.length : Int) < (a3.length : Int)) = true := by rw [decide_eq_true_iff]; omega
  have e2 : decide (0 ≤ (pre.length : Int)) = true := by rw [decide_eq_true_iff]; omega
  have e4 : w ((pre.length : Int) + 1) = (pre.length : Int) + 1 := w_next hl hb
  have e5 : List.take pre.length a3 = pre := by rw [hl]; simp
  have e6 : decide ((pre.length : Int) ≤ (a3.length : Int)) = true := by rw [decide_eq_true_iff]; omega
  have g0 : List.getD a3 pre.length ((⟨#[]⟩ : ByteArray), ((⟨#[]⟩ : ByteArray), 0)) = x := by rw [hl]; exact getD_mid pre x r _
  rw [ref_Slots.l2_clean]
  simp -implicitDefEqProofs only [Int.toNat_natCast, e1, e2, e4, e6, g0, e5, Bool.and_true, Bool.true_and, Bool.true_or, cond_true]
theorem ref_Slots.l2_nil (N : Nat) (x0 : ByteArray) (x2 : List ((Int × Int) × Int)) (k1 : Nat) (a2 : List (ByteArray × Int)) (a3 : List (ByteArray × ByteArray × Int)) (r4 : Int) (k5 : Nat) (a6 : Int) (a7 : Int) (k8 : Nat) (a9 : Int) : ref_Slots.l2 N x0 x2 k1 a2 a3 r4 k5 a6 a7 (k8 + 1) a9 (a3.length : Int) =
    bif ((decide (a6 < 0)) && (decide (a9 < ((List.getD x2 (Int.toNat a7) ((0, 0), 0)).2)))) && (decide (((List.getD a2 (Int.toNat r4) ((⟨#[]⟩ : ByteArray), 0)).2) < (((List.getD x2 (Int.toNat a7) ((0, 0), 0)).1).2))) then
      bif decide (((List.getD a2 (Int.toNat r4) ((⟨#[]⟩ : ByteArray), 0)).2) < (((List.getD x2 (Int.toNat a7) ((0, 0), 0)).1).1)) then
        ref_Slots.l1 N x0 x2 k1 a2 a3 r4 k5 (((List.getD x2 (Int.toNat a7) ((0, 0), 0)).1).1) (w (a7 + 1))
      else
        ref_Slots.l1 N x0 x2 k1 a2 a3 r4 k5 ((List.getD a2 (Int.toNat r4) ((⟨#[]⟩ : ByteArray), 0)).2) (w (a7 + 1))
    else
      ref_Slots.l1 N x0 x2 k1 a2 a3 r4 k5 a6 (w (a7 + 1)) := by
  have e1 : decide ((a3.length : Int) < (a3.length : Int)) = false := by rw [decide_eq_false_iff_not]; omega
  rw [ref_Slots.l2_clean]
  simp -implicitDefEqProofs only [e1, cond_false]
theorem ref_Slots.l1_cons (N : Nat) (x0 : ByteArray) (x2 : List ((Int × Int) × Int)) (k1 : Nat) (a2 : List (ByteArray × Int)) (a3 : List (ByteArray × ByteArray × Int)) (r4 : Int) (k5 : Nat) (a6 : Int) {pre r} {x} (hl : x2 = pre ++ x :: r) (hb : x2.length < 4611686018427387904) : ref_Slots.l1 N x0 x2 k1 a2 a3 r4 (k5 + 1) a6 (pre.length : Int) =
    ref_Slots.l2 N x0 x2 k1 a2 a3 r4 k5 a6 (pre.length : Int) N 0 0 := by
  have hlen : x2.length = pre.length + 1 + r.length := by rw [hl]; simp; omega
  have e1 : decide ((pre.length : Int) < (x2.length : Int)) = true := by rw [decide_eq_true_iff]; omega
  have e2 : decide (0 ≤ (pre.length : Int)) = true := by rw [decide_eq_true_iff]; omega
  have e4 : w ((pre.length : Int) + 1) = (pre.length : Int) + 1 := w_next hl hb
  have e5 : List.take pre.length x2 = pre := by rw [hl]; simp
  have e6 : decide ((pre.length : Int) ≤ (x2.length : Int)) = true := by rw [decide_eq_true_iff]; omega
  rw [ref_Slots.l1_succ]
  simp -implicitDefEqProofs only [Int.toNat_natCast, e1, e2, e4, e6, e5, Bool.and_true, Bool.true_and, Bool.true_or, cond_true]
theorem ref_Slots.l1_nil (N : Nat) (x0 : ByteArray) (x2 : List ((Int × Int) × Int)) (k1 : Nat) (a2 : List (ByteArray × Int)) (a3 : List (ByteArray × ByteArray × Int)) (r4 : Int) (k5 : Nat) (a6 : Int) : ref_Slots.l1 N x0 x2 k1 a2 a3 r4 (k5 + 1) a6 (x2.length : Int) =
    bif decide (a6 < 0) then
      some ([], 18)
    else
    bif decide ((a3.length + 1) * 40 ≤ 140737488355328) && decide ((a3.length + 1) ≤ maxLen) then
      ref_Slots.l0 N x0 x2 k1 ((List.take (Int.toNat r4) a2) ++ (List.take (a2.length - (Int.toNat (w (r4 + 1)))) (List.drop (0 + (Int.toNat (w (r4 + 1)))) a2))) (a3 ++ [((List.getD a2 (Int.toNat r4) ((⟨#[]⟩ : ByteArray), 0)).1, (x0, a6))])
    else
      none := by
  have e1 : decide ((x2.length : Int) < (x2.length : Int)) = false := by rw [decide_eq_false_iff_not]; omega
  rw [ref_Slots.l1_succ]
  simp -implicitDefEqProofs only [e1, cond_false]
theorem ref_Slots.eq (N : Nat) (x0 : ByteArray) (x1 : List (ByteArray × Int)) (x2 : List ((Int × Int) × Int)) : ref_Slots.fn N (x0, x1, x2) =
    bif decide ((0 + x1.length) * 24 ≤ 140737488355328) && decide ((0 + x1.length) ≤ maxLen) then
      ref_Slots.l0 N x0 x2 N x1 []
    else
      none := by kernel_rfl

/-! ### law_SlotAssigns: skyway/skywaylaw3.SlotAssigns -/
def law_SlotAssigns.kp : List (Nat × List (Nat × Option (TypeId × Ty))) := []
noncomputable def law_SlotAssigns.G (N : Nat) : List (Nat × Spec) := [(50, .pure (law_slotFact.S N)), (51, .pure (slot_Assign.S N)), (52, .pure (slot_Check.S N)), (53, .pure (ref_DemandsError.S N)), (54, .pure (slot_Name.S N)), (55, .pure (ref_IsName.S N)), (56, .pure (law_slotsError.S N)), (57, .pure (ref_Slots.S N)), (58, .pure (slices_Equal_Slot.S N))]
noncomputable def law_SlotAssigns.E (N : Nat) : Env := mkEnv (law_SlotAssigns.G N) N tyTab law_SlotAssigns.kp
noncomputable def law_SlotAssigns.fn (N : Nat) (x : ByteArray × List (ByteArray × Int) × List ((Int × Int) × Int)) : Option Bool := evFn (law_SlotAssigns.E N) Try.prog 3 Try.f9 false [.cell (.str), .cell (.sl 106 (.pair (.str) (.int .i64))), .cell (.sl 149 (.pair (.pair (.int .i64) (.int .i64)) (.int .i64)))] [.val (.cell (.bool))] x
noncomputable def law_SlotAssigns.S (N : Nat) : PSpec := ⟨false, [.cell (.str), .cell (.sl 106 (.pair (.str) (.int .i64))), .cell (.sl 149 (.pair (.pair (.int .i64) (.int .i64)) (.int .i64)))], [.val (.cell (.bool))], law_SlotAssigns.fn N⟩
theorem f9_enters : Enters Try.prog 9 := ⟨Try.f9, Try.func9, by kernel_rfl, by kernel_rfl⟩
theorem law_SlotAssigns.tab (N : Nat) : TabOk Try.prog (law_SlotAssigns.G N) := ⟨⟨law_slotFact.enters, law_slotFact.sound N⟩, ⟨slot_Assign.enters, slot_Assign.sound N⟩, ⟨slot_Check.enters, slot_Check.sound N⟩, ⟨ref_DemandsError.enters, ref_DemandsError.sound N⟩, ⟨slot_Name.enters, slot_Name.sound N⟩, ⟨ref_IsName.enters, ref_IsName.sound N⟩, ⟨law_slotsError.enters, law_slotsError.sound N⟩, ⟨ref_Slots.enters, ref_Slots.sound N⟩, ⟨slices_Equal_Slot.enters, slices_Equal_Slot.sound N⟩, trivial⟩
theorem law_SlotAssigns.enters : Enters Try.prog 9 := f9_enters
theorem law_SlotAssigns.sound (N : Nat) : Sound Try.prog 9 (law_SlotAssigns.S N) := evFn_sound (specs_tab (law_SlotAssigns.tab N)) (inls_tab (law_SlotAssigns.tab N)) mixed 3 Try.func9 _ _ _
theorem law_SlotAssigns.eq (N : Nat) (x0 : ByteArray) (x1 : List (ByteArray × Int)) (x2 : List ((Int × Int) × Int)) : law_SlotAssigns.fn N (x0, x1, x2) =
    (law_slotFact.fn N ()).bind fun r1 =>
    bif !r1 then
      some false
    else
      (slot_Assign.fn N (x0, x1, x2)).bind fun r2 =>
      (slot_Check.fn N x1).bind fun r3 =>
      (ref_DemandsError.fn N x1).bind fun r4 =>
      bif !(!(!(r3 == r4))) || (!(!(r3 == r4))) then
        (bif (!(!(r3 == r4))) then slot_Name.fn N x0 else some (false)).bind fun r5 =>
        bif !(!(!(r3 == r4))) || (!(!(r3 == r4))) then
          (bif (!(!(r3 == r4))) then ref_IsName.fn N x0 else some (false)).bind fun r6 =>
          bif !(!(!(r3 == r4))) || (!(!(r3 == r4))) then
            bif !(!(!(r3 == r4))) || (!(!(r3 == r4))) then
              bif (!(r3 == r4)) || (!(!(r3 == r4))) then
                bif (!(r3 == r4)) || (!(r5 == r6)) then
                  some false
                else
                  (law_slotsError.fn N (x0, x1, x2)).bind fun r7 =>
                  bif r7 == 0 then
                    (ref_Slots.fn N (x0, x1, x2)).bind fun r8 =>
                    bif !(r2.2 == r8.2) || (r2.2 == r8.2) then
                      bif !(r2.2 == r8.2) || (r2.2 == r8.2) then
                        (bif (r2.2 == r8.2) then slices_Equal_Slot.fn N (r2.1, r8.1) else some (false)).bind fun r9 =>
                        bif (!(r2.2 == r8.2)) || (r2.2 == r8.2) then
                          some ((r2.2 == r8.2) && r9)
                        else
                          none
                      else
                        none
                    else
                      none
                  else
                  bif !(r2.2 == r7) || (r2.2 == r7) then
                    bif !(r2.2 == r7) || (r2.2 == r7) then
                      (bif (r2.2 == r7) then slices_Equal_Slot.fn N (r2.1, []) else some (false)).bind fun r10 =>
                      bif (!(r2.2 == r7)) || (r2.2 == r7) then
                        some ((r2.2 == r7) && r10)
                      else
                        none
                    else
                      none
                  else
                    none
              else
                none
            else
              none
          else
            none
        else
          none
      else
        none := by kernel_rfl
theorem taut21 : ∀ p0 : Bool, ((!(!(!(p0))) || (!(!(p0))))) = true := by decide
theorem taut22 : ∀ p0 : Bool, (((!(p0)) || (!(!(p0))))) = true := by decide
theorem law_SlotAssigns.clean (N : Nat) (x0 : ByteArray) (x1 : List (ByteArray × Int)) (x2 : List ((Int × Int) × Int)) : law_SlotAssigns.fn N (x0, x1, x2) =
    (law_slotFact.fn N ()).bind fun r1 =>
    bif !r1 then
      some false
    else
      (slot_Assign.fn N (x0, x1, x2)).bind fun r2 =>
      (slot_Check.fn N x1).bind fun r3 =>
      (ref_DemandsError.fn N x1).bind fun r4 =>
      (bif (!(!(r3 == r4))) then slot_Name.fn N x0 else some (false)).bind fun r5 =>
      (bif (!(!(r3 == r4))) then ref_IsName.fn N x0 else some (false)).bind fun r6 =>
      bif (!(r3 == r4)) || (!(r5 == r6)) then
        some false
      else
        (law_slotsError.fn N (x0, x1, x2)).bind fun r7 =>
        bif r7 == 0 then
          (ref_Slots.fn N (x0, x1, x2)).bind fun r8 =>
          (bif (r2.2 == r8.2) then slices_Equal_Slot.fn N (r2.1, r8.1) else some (false)).bind fun r9 =>
          some ((r2.2 == r8.2) && r9)
        else
        (bif (r2.2 == r7) then slices_Equal_Slot.fn N (r2.1, []) else some (false)).bind fun r10 =>
        some ((r2.2 == r7) && r10) := by
  rw [law_SlotAssigns.eq]; simp only [taut21, taut11, taut22, taut12, cond_true]

end Go.Proofs.Ytmaeakelhjmfeaa.Sk
