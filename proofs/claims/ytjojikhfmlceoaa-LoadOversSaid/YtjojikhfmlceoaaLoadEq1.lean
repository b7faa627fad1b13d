/- PRINTED by gen.py: what the functions answer. Not trusted: Lean checks it. -/
import Derived.Test.YtjojikhfmlceoaaSkAid
set_option linter.unusedVariables false
set_option linter.unusedSimpArgs false
set_option maxRecDepth 100000
namespace Go.Proofs.Ytjojikhfmlceoaa.Sk
open Go
def tyTab : TypeId → Option Ty := tyOf [(3, .int .i64), (4, .bool), (9, .str), (29, .pair (.int .i64) (.int .i64)), (40, .sl 44 (.pair (.pair (.int .i64) (.pair (.pair (.int .i64) (.int .i64)) (.int .i64))) (.pair (.int .i64) (.int .i64)))), (44, .pair (.pair (.int .i64) (.pair (.pair (.int .i64) (.int .i64)) (.int .i64))) (.pair (.int .i64) (.int .i64))), (52, .pair (.int .i64) (.pair (.int .i64) (.int .i64))), (73, .pair (.int .i64) (.pair (.int .i64) (.int .i64))), (106, .pair (.str) (.sl 113 (.pair (.sl 29 (.pair (.int .i64) (.int .i64))) (.pair (.int .i64) (.int .i64))))), (113, .pair (.sl 29 (.pair (.int .i64) (.int .i64))) (.pair (.int .i64) (.int .i64))), (132, .pair (.str) (.sl 9 (.str))), (135, .pair (.str) (.pair (.str) (.str)))]
theorem mixed : Try.prog.follows .mixedOrders = true := by kernel_rfl
/-! ### law_square: skyway/skywaylaw3.square -/
def law_square.kp : List (Nat × List (Nat × Option (TypeId × Ty))) := []
noncomputable def law_square.G (N : Nat) : List (Nat × Spec) := []
noncomputable def law_square.E (N : Nat) : Env := mkEnv (law_square.G N) N tyTab law_square.kp
noncomputable def law_square.fn (N : Nat) (x : Int) : Option (List (Int × Int) × Int × Int) := evFn (law_square.E N) Try.prog 3 Try.f85 false [.cell (.int .i64)] [.val (.agg (.pair (.sl 29 (.pair (.int .i64) (.int .i64))) (.pair (.int .i64) (.int .i64))))] x
noncomputable def law_square.S (N : Nat) : PSpec := ⟨false, [.cell (.int .i64)], [.val (.agg (.pair (.sl 29 (.pair (.int .i64) (.int .i64))) (.pair (.int .i64) (.int .i64))))], law_square.fn N⟩
theorem f85_enters : Enters Try.prog 85 := ⟨Try.f85, Try.func85, by kernel_rfl, by kernel_rfl⟩
theorem law_square.tab (N : Nat) : TabOk Try.prog (law_square.G N) := trivial
theorem law_square.enters : Enters Try.prog 85 := f85_enters
theorem law_square.sound (N : Nat) : Sound Try.prog 85 (law_square.S N) := evFn_sound (specs_tab (law_square.tab N)) (inls_tab (law_square.tab N)) mixed 3 Try.func85 _ _ _
theorem law_square.eq (N : Nat) (x0 : Int) : law_square.fn N x0 =
    some ([(x0, 0), ((w (x0 + 10)), 0), ((w (x0 + 10)), 10), (x0, 10)], (0, 100)) := by kernel_rfl

/-! ### law_two: skyway/skywaylaw3.two -/
def law_two.kp : List (Nat × List (Nat × Option (TypeId × Ty))) := []
noncomputable def law_two.G (N : Nat) : List (Nat × Spec) := [(85, .pure (law_square.S N))]
noncomputable def law_two.E (N : Nat) : Env := mkEnv (law_two.G N) N tyTab law_two.kp
noncomputable def law_two.fn (N : Nat) (x : Unit) : Option (List (ByteArray × List (List (Int × Int) × Int × Int))) := evFn (law_two.E N) Try.prog 3 Try.f57 false [] [.own 106 (.pair (.str) (.sl 113 (.pair (.sl 29 (.pair (.int .i64) (.int .i64))) (.pair (.int .i64) (.int .i64)))))] x
noncomputable def law_two.S (N : Nat) : PSpec := ⟨false, [], [.own 106 (.pair (.str) (.sl 113 (.pair (.sl 29 (.pair (.int .i64) (.int .i64))) (.pair (.int .i64) (.int .i64)))))], law_two.fn N⟩
theorem f57_enters : Enters Try.prog 57 := ⟨Try.f57, Try.func57, by kernel_rfl, by kernel_rfl⟩
theorem law_two.tab (N : Nat) : TabOk Try.prog (law_two.G N) := ⟨⟨law_square.enters, law_square.sound N⟩, trivial⟩
theorem law_two.enters : Enters Try.prog 57 := f57_enters
theorem law_two.sound (N : Nat) : Sound Try.prog 57 (law_two.S N) := evFn_sound (specs_tab (law_two.tab N)) (inls_tab (law_two.tab N)) mixed 3 Try.func57 _ _ _
theorem law_two.eq (N : Nat) : law_two.fn N () =
    (law_square.fn N 0).bind fun r1 =>
    (law_square.fn N 10).bind fun r2 =>
    some [((⟨#[65]⟩ : ByteArray), [r1]), ((⟨#[66]⟩ : ByteArray), [r2])] := by kernel_rfl

/-! ### law_straight: skyway/skywaylaw3.straight -/
def law_straight.kp : List (Nat × List (Nat × Option (TypeId × Ty))) := []
noncomputable def law_straight.G (N : Nat) : List (Nat × Spec) := []
noncomputable def law_straight.E (N : Nat) : Env := mkEnv (law_straight.G N) N tyTab law_straight.kp
noncomputable def law_straight.fn (N : Nat) (x : Int × Int) : Option (List ((Int × (Int × Int) × Int) × Int × Int)) := evFn (law_straight.E N) Try.prog 3 Try.f59 false [.cell (.int .i64), .cell (.int .i64)] [.own 44 (.pair (.pair (.int .i64) (.pair (.pair (.int .i64) (.int .i64)) (.int .i64))) (.pair (.int .i64) (.int .i64)))] x
noncomputable def law_straight.S (N : Nat) : PSpec := ⟨false, [.cell (.int .i64), .cell (.int .i64)], [.own 44 (.pair (.pair (.int .i64) (.pair (.pair (.int .i64) (.int .i64)) (.int .i64))) (.pair (.int .i64) (.int .i64)))], law_straight.fn N⟩
theorem f59_enters : Enters Try.prog 59 := ⟨Try.f59, Try.func59, by kernel_rfl, by kernel_rfl⟩
theorem law_straight.tab (N : Nat) : TabOk Try.prog (law_straight.G N) := trivial
theorem law_straight.enters : Enters Try.prog 59 := f59_enters
theorem law_straight.sound (N : Nat) : Sound Try.prog 59 (law_straight.S N) := evFn_sound (specs_tab (law_straight.tab N)) (inls_tab (law_straight.tab N)) mixed 3 Try.func59 _ _ _
theorem law_straight.eq (N : Nat) (x0 : Int) (x1 : Int) : law_straight.fn N (x0, x1) =
    some [((0, ((x0, 5), 50)), (0, 0)), ((10, ((x1, 5), 50)), (0, 0))] := by kernel_rfl

/-! ### chart_Name: skyway/chart.Name -/
def chart_Name.kp : List (Nat × List (Nat × Option (TypeId × Ty))) := [(4, [(0, none), (24, none), (25, none)])]
noncomputable def chart_Name.G (N : Nat) : List (Nat × Spec) := []
noncomputable def chart_Name.E (N : Nat) : Env := mkEnv (chart_Name.G N) N tyTab chart_Name.kp
noncomputable def chart_Name.fn (N : Nat) (x : ByteArray) : Option Bool := evFn (chart_Name.E N) Try.prog 3 Try.f65 false [.cell (.str)] [.val (.cell (.bool))] x
noncomputable def chart_Name.S (N : Nat) : PSpec := ⟨false, [.cell (.str)], [.val (.cell (.bool))], chart_Name.fn N⟩
theorem f65_enters : Enters Try.prog 65 := ⟨Try.f65, Try.func65, by kernel_rfl, by kernel_rfl⟩
theorem chart_Name.tab (N : Nat) : TabOk Try.prog (chart_Name.G N) := trivial
theorem chart_Name.enters : Enters Try.prog 65 := f65_enters
theorem chart_Name.sound (N : Nat) : Sound Try.prog 65 (chart_Name.S N) := evFn_sound (specs_tab (chart_Name.tab N)) (inls_tab (chart_Name.tab N)) mixed 3 Try.func65 _ _ _
noncomputable def chart_Name.cd (N : Nat) (p : List Nat) : St → (Ex → St → Option Bool) → Option Bool := ev (chart_Name.E N) Try.prog (callD (chart_Name.E N) Try.prog 3) 0 (codeAt (bodyOf Try.f65) p)
noncomputable def chart_Name.fin : Ex → St → Option Bool := endK Try.prog Try.f65 [.val (.cell (.bool))]
noncomputable def chart_Name.l0 (N : Nat) (x0 : ByteArray) (k1 : Nat) (a2 : Int) : Option Bool :=
  loopN (norm ((chart_Name.E N).keep 4) 0) (chart_Name.cd N [1, 1, 0, 1, 0, 0]) k1
  ⟨[.sc (.string x0), .any, .any, .any, .any, .any, .any, .any, .any, .any, .any, .any, .any, .any, .any, .any, .any, .any, .any, .any, .any, .any, .any, .any, .sc (.int .i64 (x0.size : Int)), .sc (.int .i64 a2), .any, .any, .any, .any, .any, .any, .any, .any, .any, .any, .any, .any, .any, .any, .any, .any, .any, .any, .any, .any], []⟩
  (blockK 0 (seqK (chart_Name.cd N [1, 1, 1]) chart_Name.fin))
theorem chart_Name.l0_zero (N : Nat) (x0 : ByteArray) (a2 : Int) : chart_Name.l0 N x0 0 a2 = none := by kernel_rfl
theorem chart_Name.l0_succ (N : Nat) (x0 : ByteArray) (k1 : Nat) (a2 : Int) : chart_Name.l0 N x0 (k1 + 1) a2 =
    bif decide (a2 < (x0.size : Int)) then
      bif (decide (0 ≤ a2)) && (decide (a2 < (x0.size : Int))) then
        bif !(!(decide (((((ByteArray.data x0).getD (Int.toNat a2) 0).toNat : Nat) : Int) < 65))) || (!(decide (((((ByteArray.data x0).getD (Int.toNat a2) 0).toNat : Nat) : Int) < 65))) then
          bif (decide (((((ByteArray.data x0).getD (Int.toNat a2) 0).toNat : Nat) : Int) < 65)) || (!(decide (((((ByteArray.data x0).getD (Int.toNat a2) 0).toNat : Nat) : Int) < 65))) then
            bif !((decide (((((ByteArray.data x0).getD (Int.toNat a2) 0).toNat : Nat) : Int) < 65)) || (decide (((((ByteArray.data x0).getD (Int.toNat a2) 0).toNat : Nat) : Int) > 90))) || ((decide (((((ByteArray.data x0).getD (Int.toNat a2) 0).toNat : Nat) : Int) < 65)) || (decide (((((ByteArray.data x0).getD (Int.toNat a2) 0).toNat : Nat) : Int) > 90))) then
              bif !((decide (((((ByteArray.data x0).getD (Int.toNat a2) 0).toNat : Nat) : Int) < 65)) || (decide (((((ByteArray.data x0).getD (Int.toNat a2) 0).toNat : Nat) : Int) > 90))) || ((decide (((((ByteArray.data x0).getD (Int.toNat a2) 0).toNat : Nat) : Int) < 65)) || (decide (((((ByteArray.data x0).getD (Int.toNat a2) 0).toNat : Nat) : Int) > 90))) then
                bif !(((decide (((((ByteArray.data x0).getD (Int.toNat a2) 0).toNat : Nat) : Int) < 65)) || (decide (((((ByteArray.data x0).getD (Int.toNat a2) 0).toNat : Nat) : Int) > 90))) && (!(decide (((((ByteArray.data x0).getD (Int.toNat a2) 0).toNat : Nat) : Int) < 48)))) || (((decide (((((ByteArray.data x0).getD (Int.toNat a2) 0).toNat : Nat) : Int) < 65)) || (decide (((((ByteArray.data x0).getD (Int.toNat a2) 0).toNat : Nat) : Int) > 90))) && (!(decide (((((ByteArray.data x0).getD (Int.toNat a2) 0).toNat : Nat) : Int) < 48)))) then
                  bif !((decide (((((ByteArray.data x0).getD (Int.toNat a2) 0).toNat : Nat) : Int) < 65)) || (decide (((((ByteArray.data x0).getD (Int.toNat a2) 0).toNat : Nat) : Int) > 90))) || ((decide (((((ByteArray.data x0).getD (Int.toNat a2) 0).toNat : Nat) : Int) < 65)) || (decide (((((ByteArray.data x0).getD (Int.toNat a2) 0).toNat : Nat) : Int) > 90))) then
                    bif !((decide (((((ByteArray.data x0).getD (Int.toNat a2) 0).toNat : Nat) : Int) < 65)) || (decide (((((ByteArray.data x0).getD (Int.toNat a2) 0).toNat : Nat) : Int) > 90))) || ((decide (((((ByteArray.data x0).getD (Int.toNat a2) 0).toNat : Nat) : Int) < 48)) || (((decide (((((ByteArray.data x0).getD (Int.toNat a2) 0).toNat : Nat) : Int) < 65)) || (decide (((((ByteArray.data x0).getD (Int.toNat a2) 0).toNat : Nat) : Int) > 90))) && (!(decide (((((ByteArray.data x0).getD (Int.toNat a2) 0).toNat : Nat) : Int) < 48))))) then
                      bif (!((decide (((((ByteArray.data x0).getD (Int.toNat a2) 0).toNat : Nat) : Int) < 65)) || (decide (((((ByteArray.data x0).getD (Int.toNat a2) 0).toNat : Nat) : Int) > 90)))) || ((decide (((((ByteArray.data x0).getD (Int.toNat a2) 0).toNat : Nat) : Int) < 65)) || (decide (((((ByteArray.data x0).getD (Int.toNat a2) 0).toNat : Nat) : Int) > 90))) then
                        bif ((decide (((((ByteArray.data x0).getD (Int.toNat a2) 0).toNat : Nat) : Int) < 65)) || (decide (((((ByteArray.data x0).getD (Int.toNat a2) 0).toNat : Nat) : Int) > 90))) && ((decide (((((ByteArray.data x0).getD (Int.toNat a2) 0).toNat : Nat) : Int) < 48)) || (decide (((((ByteArray.data x0).getD (Int.toNat a2) 0).toNat : Nat) : Int) > 57))) then
                          some false
                        else
                          chart_Name.l0 N x0 k1 (w (a2 + 1))
                      else
                        none
                    else
                      none
                  else
                    none
                else
                  none
              else
                none
            else
              none
          else
            none
        else
          none
      else
        none
    else
      some true := by kernel_rfl
theorem taut1 : ∀ p0 : Bool, ((!(!(p0)) || (!(p0)))) = true := by decide
theorem taut2 : ∀ p0 p1 p2 : Bool, ((!(((p0) || (p1)) && (!(p2))) || (((p0) || (p1)) && (!(p2))))) = true := by decide
theorem taut3 : ∀ p0 p1 : Bool, ((!((p0) || (p1)) || ((p0) || (p1)))) = true := by decide
theorem taut4 : ∀ p0 p1 p2 : Bool, ((!((p0) || (p1)) || ((p2) || (((p0) || (p1)) && (!(p2)))))) = true := by decide
theorem taut5 : ∀ p0 p1 : Bool, (((!((p0) || (p1))) || ((p0) || (p1)))) = true := by decide
theorem taut6 : ∀ p0 : Bool, (((p0) || (!(p0)))) = true := by decide
theorem chart_Name.l0_clean (N : Nat) (x0 : ByteArray) (k1 : Nat) (a2 : Int) : chart_Name.l0 N x0 (k1 + 1) a2 =
    bif decide (a2 < (x0.size : Int)) then
      bif (decide (0 ≤ a2)) && (decide (a2 < (x0.size : Int))) then
        bif ((decide (((((ByteArray.data x0).getD (Int.toNat a2) 0).toNat : Nat) : Int) < 65)) || (decide (((((ByteArray.data x0).getD (Int.toNat a2) 0).toNat : Nat) : Int) > 90))) && ((decide (((((ByteArray.data x0).getD (Int.toNat a2) 0).toNat : Nat) : Int) < 48)) || (decide (((((ByteArray.data x0).getD (Int.toNat a2) 0).toNat : Nat) : Int) > 57))) then
          some false
        else
          chart_Name.l0 N x0 k1 (w (a2 + 1))
      else
        none
    else
      some true := by
  rw [chart_Name.l0_succ]; simp only [taut1, taut2, taut3, taut4, taut5, taut6, cond_true]
theorem chart_Name.l0_cons (N : Nat) (x0 : ByteArray) (k1 : Nat) {pre r} {x} (hl : x0.data.toList = pre ++ x :: r) (hb : x0.size < 4611686018427387904) : chart_Name.l0 N x0 (k1 + 1) (pre.length : Int) =
    bif ((decide (((x.toNat : Nat) : Int) < 65)) || (decide (((x.toNat : Nat) : Int) > 90))) && ((decide (((x.toNat : Nat) : Int) < 48)) || (decide (((x.toNat : Nat) : Int) > 57))) then
      some false
    else
      chart_Name.l0 N x0 k1 ((pre.length : Int) + 1) := by
  have hlen : x0.size = pre.length + 1 + r.length := by rw [ByteArray.size, ← Array.length_toList, hl]; simp; omega
  have e1 : decide ((pre.length : Int) < (x0.size : Int)) = true := by rw [decide_eq_true_iff]; omega
  have e2 : decide (0 ≤ (pre.length : Int)) = true := by rw [decide_eq_true_iff]; omega
  have e4 : w ((pre.length : Int) + 1) = (pre.length : Int) + 1 := w_next hl (by rw [Array.length_toList]; exact hb)
  have e6 : decide ((pre.length : Int) ≤ (x0.size : Int)) = true := by rw [decide_eq_true_iff]; omega
  have g0 : (ByteArray.data x0).getD pre.length 0 = x := getD_bytes hl
  rw [chart_Name.l0_clean]
  simp -implicitDefEqProofs only [Int.toNat_natCast, e1, e2, e4, e6, g0, Bool.and_true, Bool.true_and, Bool.true_or, cond_true]
theorem chart_Name.l0_nil (N : Nat) (x0 : ByteArray) (k1 : Nat) : chart_Name.l0 N x0 (k1 + 1) (x0.size : Int) =
    some true := by
  have e1 : decide ((x0.size : Int) < (x0.size : Int)) = false := by rw [decide_eq_false_iff_not]; omega
  rw [chart_Name.l0_clean]
  simp -implicitDefEqProofs only [e1, cond_false]
theorem chart_Name.eq (N : Nat) (x0 : ByteArray) : chart_Name.fn N x0 =
    bif !(!((x0.size : Int) == 0)) || (!((x0.size : Int) == 0)) then
      bif !(!((x0.size : Int) == 0)) || (!((x0.size : Int) == 0)) then
        bif ((x0.size : Int) == 0) || (!((x0.size : Int) == 0)) then
          bif !(!(((x0.size : Int) == 0) || (decide ((x0.size : Int) > 8)))) || (!(((x0.size : Int) == 0) || (decide ((x0.size : Int) > 8)))) then
            bif (decide (0 < (x0.size : Int))) || !(!(((x0.size : Int) == 0) || (decide ((x0.size : Int) > 8)))) then
              bif !(!(((x0.size : Int) == 0) || (decide ((x0.size : Int) > 8)))) || (!(((x0.size : Int) == 0) || (decide ((x0.size : Int) > 8)))) then
                bif (((x0.size : Int) == 0) || (decide ((x0.size : Int) > 8))) || (!(((x0.size : Int) == 0) || (decide ((x0.size : Int) > 8)))) then
                  bif !(!((((x0.size : Int) == 0) || (decide ((x0.size : Int) > 8))) || (decide (((((ByteArray.data x0).getD 0 0).toNat : Nat) : Int) < 65)))) || (!((((x0.size : Int) == 0) || (decide ((x0.size : Int) > 8))) || (decide (((((ByteArray.data x0).getD 0 0).toNat : Nat) : Int) < 65)))) then
                    bif (decide (0 < (x0.size : Int))) || !(!((((x0.size : Int) == 0) || (decide ((x0.size : Int) > 8))) || (decide (((((ByteArray.data x0).getD 0 0).toNat : Nat) : Int) < 65)))) then
                      bif !(!((((x0.size : Int) == 0) || (decide ((x0.size : Int) > 8))) || (decide (((((ByteArray.data x0).getD 0 0).toNat : Nat) : Int) < 65)))) || (!((((x0.size : Int) == 0) || (decide ((x0.size : Int) > 8))) || (decide (((((ByteArray.data x0).getD 0 0).toNat : Nat) : Int) < 65)))) then
                        bif ((((x0.size : Int) == 0) || (decide ((x0.size : Int) > 8))) || (decide (((((ByteArray.data x0).getD 0 0).toNat : Nat) : Int) < 65))) || (!((((x0.size : Int) == 0) || (decide ((x0.size : Int) > 8))) || (decide (((((ByteArray.data x0).getD 0 0).toNat : Nat) : Int) < 65)))) then
                          bif ((((x0.size : Int) == 0) || (decide ((x0.size : Int) > 8))) || (decide (((((ByteArray.data x0).getD 0 0).toNat : Nat) : Int) < 65))) || (decide (((((ByteArray.data x0).getD 0 0).toNat : Nat) : Int) > 90)) then
                            some false
                          else
                            chart_Name.l0 N x0 N 0
                        else
                          none
                      else
                        none
                    else
                      none
                  else
                    none
                else
                  none
              else
                none
            else
              none
          else
            none
        else
          none
      else
        none
    else
      none := by kernel_rfl
theorem taut7 : ∀ p0 p1 p2 : Bool, ((!(!(((p0) || (p1)) || (p2))) || (!(((p0) || (p1)) || (p2))))) = true := by decide
theorem taut8 : ∀ p0 p1 : Bool, ((!(!((p0) || (p1))) || (!((p0) || (p1))))) = true := by decide
theorem taut9 : ∀ p0 p1 p2 : Bool, (((((p0) || (p1)) || (p2)) || (!(((p0) || (p1)) || (p2))))) = true := by decide
theorem taut10 : ∀ p0 p1 : Bool, ((((p0) || (p1)) || (!((p0) || (p1))))) = true := by decide
theorem chart_Name.clean (N : Nat) (x0 : ByteArray) : chart_Name.fn N x0 =
    bif (decide (0 < (x0.size : Int))) || !(!(((x0.size : Int) == 0) || (decide ((x0.size : Int) > 8)))) then
      bif (decide (0 < (x0.size : Int))) || !(!((((x0.size : Int) == 0) || (decide ((x0.size : Int) > 8))) || (decide (((((ByteArray.data x0).getD 0 0).toNat : Nat) : Int) < 65)))) then
        bif ((((x0.size : Int) == 0) || (decide ((x0.size : Int) > 8))) || (decide (((((ByteArray.data x0).getD 0 0).toNat : Nat) : Int) < 65))) || (decide (((((ByteArray.data x0).getD 0 0).toNat : Nat) : Int) > 90)) then
          some false
        else
          chart_Name.l0 N x0 N 0
      else
        none
    else
      none := by
  rw [chart_Name.eq]; simp only [taut7, taut8, taut1, taut9, taut10, taut6, cond_true]

/-! ### sector_Name: skyway/sector.Name -/
def sector_Name.kp : List (Nat × List (Nat × Option (TypeId × Ty))) := []
noncomputable def sector_Name.G (N : Nat) : List (Nat × Spec) := [(65, .pure (chart_Name.S N))]
noncomputable def sector_Name.E (N : Nat) : Env := mkEnv (sector_Name.G N) N tyTab sector_Name.kp
noncomputable def sector_Name.fn (N : Nat) (x : ByteArray) : Option Bool := evFn (sector_Name.E N) Try.prog 3 Try.f18 false [.cell (.str)] [.val (.cell (.bool))] x
noncomputable def sector_Name.S (N : Nat) : PSpec := ⟨false, [.cell (.str)], [.val (.cell (.bool))], sector_Name.fn N⟩
theorem f18_enters : Enters Try.prog 18 := ⟨Try.f18, Try.func18, by kernel_rfl, by kernel_rfl⟩
theorem sector_Name.tab (N : Nat) : TabOk Try.prog (sector_Name.G N) := ⟨⟨chart_Name.enters, chart_Name.sound N⟩, trivial⟩
theorem sector_Name.enters : Enters Try.prog 18 := f18_enters
theorem sector_Name.sound (N : Nat) : Sound Try.prog 18 (sector_Name.S N) := evFn_sound (specs_tab (sector_Name.tab N)) (inls_tab (sector_Name.tab N)) mixed 3 Try.func18 _ _ _
theorem sector_Name.eq (N : Nat) (x0 : ByteArray) : sector_Name.fn N x0 =
    (chart_Name.fn N x0).bind fun r1 =>
    some r1 := by kernel_rfl

/-! ### plane_Check: skyway/plane.Check -/
def plane_Check.kp : List (Nat × List (Nat × Option (TypeId × Ty))) := []
noncomputable def plane_Check.G (N : Nat) : List (Nat × Spec) := []
noncomputable def plane_Check.E (N : Nat) : Env := mkEnv (plane_Check.G N) N tyTab plane_Check.kp
noncomputable def plane_Check.fn (N : Nat) (x : Int × Int) : Option Int := evFn (plane_Check.E N) Try.prog 3 Try.f21 false [.agg (.pair (.int .i64) (.int .i64))] [.val (.cell (.int .i64))] x
noncomputable def plane_Check.S (N : Nat) : PSpec := ⟨false, [.agg (.pair (.int .i64) (.int .i64))], [.val (.cell (.int .i64))], plane_Check.fn N⟩
theorem f21_enters : Enters Try.prog 21 := ⟨Try.f21, Try.func21, by kernel_rfl, by kernel_rfl⟩
theorem plane_Check.tab (N : Nat) : TabOk Try.prog (plane_Check.G N) := trivial
theorem plane_Check.enters : Enters Try.prog 21 := f21_enters
theorem plane_Check.sound (N : Nat) : Sound Try.prog 21 (plane_Check.S N) := evFn_sound (specs_tab (plane_Check.tab N)) (inls_tab (plane_Check.tab N)) mixed 3 Try.func21 _ _ _
theorem plane_Check.eq (N : Nat) (x0 : Int × Int) : plane_Check.fn N x0 =
    bif !(!(decide (x0.1 < (-1000000)))) || (!(decide (x0.1 < (-1000000)))) then
      bif !(!(decide (x0.1 < (-1000000)))) || (!(decide (x0.1 < (-1000000)))) then
        bif (decide (x0.1 < (-1000000))) || (!(decide (x0.1 < (-1000000)))) then
          bif !(!((decide (x0.1 < (-1000000))) || (decide (x0.1 > 1000000)))) || (!((decide (x0.1 < (-1000000))) || (decide (x0.1 > 1000000)))) then
            bif !(!((decide (x0.1 < (-1000000))) || (decide (x0.1 > 1000000)))) || (!((decide (x0.1 < (-1000000))) || (decide (x0.1 > 1000000)))) then
              bif ((decide (x0.1 < (-1000000))) || (decide (x0.1 > 1000000))) || (!((decide (x0.1 < (-1000000))) || (decide (x0.1 > 1000000)))) then
                bif !(!(((decide (x0.1 < (-1000000))) || (decide (x0.1 > 1000000))) || (decide (x0.2 < (-1000000))))) || (!(((decide (x0.1 < (-1000000))) || (decide (x0.1 > 1000000))) || (decide (x0.2 < (-1000000))))) then
                  bif !(!(((decide (x0.1 < (-1000000))) || (decide (x0.1 > 1000000))) || (decide (x0.2 < (-1000000))))) || (!(((decide (x0.1 < (-1000000))) || (decide (x0.1 > 1000000))) || (decide (x0.2 < (-1000000))))) then
                    bif (((decide (x0.1 < (-1000000))) || (decide (x0.1 > 1000000))) || (decide (x0.2 < (-1000000)))) || (!(((decide (x0.1 < (-1000000))) || (decide (x0.1 > 1000000))) || (decide (x0.2 < (-1000000))))) then
                      bif (((decide (x0.1 < (-1000000))) || (decide (x0.1 > 1000000))) || (decide (x0.2 < (-1000000)))) || (decide (x0.2 > 1000000)) then
                        some 4
                      else
                        some 0
                    else
                      none
                  else
                    none
                else
                  none
              else
                none
            else
              none
          else
            none
        else
          none
      else
        none
    else
      none := by kernel_rfl
theorem plane_Check.clean (N : Nat) (x0 : Int × Int) : plane_Check.fn N x0 =
    bif (((decide (x0.1 < (-1000000))) || (decide (x0.1 > 1000000))) || (decide (x0.2 < (-1000000)))) || (decide (x0.2 > 1000000)) then
      some 4
    else
      some 0 := by
  rw [plane_Check.eq]; simp only [taut7, taut8, taut1, taut9, taut10, taut6, cond_true]

/-! ### plane_Sub: skyway/plane.Sub -/
def plane_Sub.kp : List (Nat × List (Nat × Option (TypeId × Ty))) := []
noncomputable def plane_Sub.G (N : Nat) : List (Nat × Spec) := []
noncomputable def plane_Sub.E (N : Nat) : Env := mkEnv (plane_Sub.G N) N tyTab plane_Sub.kp
noncomputable def plane_Sub.fn (N : Nat) (x : (Int × Int) × Int × Int) : Option (Int × Int) := evFn (plane_Sub.E N) Try.prog 3 Try.f128 false [.agg (.pair (.int .i64) (.int .i64)), .agg (.pair (.int .i64) (.int .i64))] [.val (.agg (.pair (.int .i64) (.int .i64)))] x
noncomputable def plane_Sub.S (N : Nat) : PSpec := ⟨false, [.agg (.pair (.int .i64) (.int .i64)), .agg (.pair (.int .i64) (.int .i64))], [.val (.agg (.pair (.int .i64) (.int .i64)))], plane_Sub.fn N⟩
theorem f128_enters : Enters Try.prog 128 := ⟨Try.f128, Try.func128, by kernel_rfl, by kernel_rfl⟩
theorem plane_Sub.tab (N : Nat) : TabOk Try.prog (plane_Sub.G N) := trivial
theorem plane_Sub.enters : Enters Try.prog 128 := f128_enters
theorem plane_Sub.sound (N : Nat) : Sound Try.prog 128 (plane_Sub.S N) := evFn_sound (specs_tab (plane_Sub.tab N)) (inls_tab (plane_Sub.tab N)) mixed 3 Try.func128 _ _ _
theorem plane_Sub.eq (N : Nat) (x0 : Int × Int) (x1 : Int × Int) : plane_Sub.fn N (x0, x1) =
    some ((w (x0.1 - x1.1)), (w (x0.2 - x1.2))) := by kernel_rfl

/-! ### plane_Cross: skyway/plane.Cross -/
def plane_Cross.kp : List (Nat × List (Nat × Option (TypeId × Ty))) := []
noncomputable def plane_Cross.G (N : Nat) : List (Nat × Spec) := []
noncomputable def plane_Cross.E (N : Nat) : Env := mkEnv (plane_Cross.G N) N tyTab plane_Cross.kp
noncomputable def plane_Cross.fn (N : Nat) (x : (Int × Int) × Int × Int) : Option Int := evFn (plane_Cross.E N) Try.prog 3 Try.f127 false [.agg (.pair (.int .i64) (.int .i64)), .agg (.pair (.int .i64) (.int .i64))] [.val (.cell (.int .i64))] x
noncomputable def plane_Cross.S (N : Nat) : PSpec := ⟨false, [.agg (.pair (.int .i64) (.int .i64)), .agg (.pair (.int .i64) (.int .i64))], [.val (.cell (.int .i64))], plane_Cross.fn N⟩
theorem f127_enters : Enters Try.prog 127 := ⟨Try.f127, Try.func127, by kernel_rfl, by kernel_rfl⟩
theorem plane_Cross.tab (N : Nat) : TabOk Try.prog (plane_Cross.G N) := trivial
theorem plane_Cross.enters : Enters Try.prog 127 := f127_enters
theorem plane_Cross.sound (N : Nat) : Sound Try.prog 127 (plane_Cross.S N) := evFn_sound (specs_tab (plane_Cross.tab N)) (inls_tab (plane_Cross.tab N)) mixed 3 Try.func127 _ _ _
theorem plane_Cross.eq (N : Nat) (x0 : Int × Int) (x1 : Int × Int) : plane_Cross.fn N (x0, x1) =
    some (w ((w (x0.1 * x1.2)) - (w (x0.2 * x1.1)))) := by kernel_rfl

/-! ### plane_Turn: skyway/plane.Turn -/
def plane_Turn.kp : List (Nat × List (Nat × Option (TypeId × Ty))) := []
noncomputable def plane_Turn.G (N : Nat) : List (Nat × Spec) := [(127, .pure (plane_Cross.S N)), (128, .pure (plane_Sub.S N))]
noncomputable def plane_Turn.E (N : Nat) : Env := mkEnv (plane_Turn.G N) N tyTab plane_Turn.kp
noncomputable def plane_Turn.fn (N : Nat) (x : (Int × Int) × (Int × Int) × Int × Int) : Option Int := evFn (plane_Turn.E N) Try.prog 3 Try.f106 false [.agg (.pair (.int .i64) (.int .i64)), .agg (.pair (.int .i64) (.int .i64)), .agg (.pair (.int .i64) (.int .i64))] [.val (.cell (.int .i64))] x
noncomputable def plane_Turn.S (N : Nat) : PSpec := ⟨false, [.agg (.pair (.int .i64) (.int .i64)), .agg (.pair (.int .i64) (.int .i64)), .agg (.pair (.int .i64) (.int .i64))], [.val (.cell (.int .i64))], plane_Turn.fn N⟩
theorem f106_enters : Enters Try.prog 106 := ⟨Try.f106, Try.func106, by kernel_rfl, by kernel_rfl⟩
theorem plane_Turn.tab (N : Nat) : TabOk Try.prog (plane_Turn.G N) := ⟨⟨plane_Cross.enters, plane_Cross.sound N⟩, ⟨plane_Sub.enters, plane_Sub.sound N⟩, trivial⟩
theorem plane_Turn.enters : Enters Try.prog 106 := f106_enters
theorem plane_Turn.sound (N : Nat) : Sound Try.prog 106 (plane_Turn.S N) := evFn_sound (specs_tab (plane_Turn.tab N)) (inls_tab (plane_Turn.tab N)) mixed 3 Try.func106 _ _ _
theorem plane_Turn.eq (N : Nat) (x0 : Int × Int) (x1 : Int × Int) (x2 : Int × Int) : plane_Turn.fn N (x0, x1, x2) =
    (plane_Sub.fn N (x1, x0)).bind fun r1 =>
    (plane_Sub.fn N (x2, x0)).bind fun r2 =>
    (plane_Cross.fn N (r1, r2)).bind fun r3 =>
    bif decide (r3 > 0) then
      some 1
    else
    bif decide (r3 < 0) then
      some (-1)
    else
      some 0 := by kernel_rfl

/-! ### plane_Dot: skyway/plane.Dot -/
def plane_Dot.kp : List (Nat × List (Nat × Option (TypeId × Ty))) := []
noncomputable def plane_Dot.G (N : Nat) : List (Nat × Spec) := []
noncomputable def plane_Dot.E (N : Nat) : Env := mkEnv (plane_Dot.G N) N tyTab plane_Dot.kp
noncomputable def plane_Dot.fn (N : Nat) (x : (Int × Int) × Int × Int) : Option Int := evFn (plane_Dot.E N) Try.prog 3 Try.f147 false [.agg (.pair (.int .i64) (.int .i64)), .agg (.pair (.int .i64) (.int .i64))] [.val (.cell (.int .i64))] x
noncomputable def plane_Dot.S (N : Nat) : PSpec := ⟨false, [.agg (.pair (.int .i64) (.int .i64)), .agg (.pair (.int .i64) (.int .i64))], [.val (.cell (.int .i64))], plane_Dot.fn N⟩
theorem f147_enters : Enters Try.prog 147 := ⟨Try.f147, Try.func147, by kernel_rfl, by kernel_rfl⟩
theorem plane_Dot.tab (N : Nat) : TabOk Try.prog (plane_Dot.G N) := trivial
theorem plane_Dot.enters : Enters Try.prog 147 := f147_enters
theorem plane_Dot.sound (N : Nat) : Sound Try.prog 147 (plane_Dot.S N) := evFn_sound (specs_tab (plane_Dot.tab N)) (inls_tab (plane_Dot.tab N)) mixed 3 Try.func147 _ _ _
theorem plane_Dot.eq (N : Nat) (x0 : Int × Int) (x1 : Int × Int) : plane_Dot.fn N (x0, x1) =
    some (w ((w (x0.1 * x1.1)) + (w (x0.2 * x1.2)))) := by kernel_rfl

/-! ### polygon_on: skyway/polygon.on -/
def polygon_on.kp : List (Nat × List (Nat × Option (TypeId × Ty))) := []
noncomputable def polygon_on.G (N : Nat) : List (Nat × Spec) := [(128, .pure (plane_Sub.S N)), (147, .pure (plane_Dot.S N))]
noncomputable def polygon_on.E (N : Nat) : Env := mkEnv (polygon_on.G N) N tyTab polygon_on.kp
noncomputable def polygon_on.fn (N : Nat) (x : (Int × Int) × (Int × Int) × Int × Int) : Option Bool := evFn (polygon_on.E N) Try.prog 3 Try.f129 false [.agg (.pair (.int .i64) (.int .i64)), .agg (.pair (.int .i64) (.int .i64)), .agg (.pair (.int .i64) (.int .i64))] [.val (.cell (.bool))] x
noncomputable def polygon_on.S (N : Nat) : PSpec := ⟨false, [.agg (.pair (.int .i64) (.int .i64)), .agg (.pair (.int .i64) (.int .i64)), .agg (.pair (.int .i64) (.int .i64))], [.val (.cell (.bool))], polygon_on.fn N⟩
theorem f129_enters : Enters Try.prog 129 := ⟨Try.f129, Try.func129, by kernel_rfl, by kernel_rfl⟩
theorem polygon_on.tab (N : Nat) : TabOk Try.prog (polygon_on.G N) := ⟨⟨plane_Sub.enters, plane_Sub.sound N⟩, ⟨plane_Dot.enters, plane_Dot.sound N⟩, trivial⟩
theorem polygon_on.enters : Enters Try.prog 129 := f129_enters
theorem polygon_on.sound (N : Nat) : Sound Try.prog 129 (polygon_on.S N) := evFn_sound (specs_tab (polygon_on.tab N)) (inls_tab (polygon_on.tab N)) mixed 3 Try.func129 _ _ _
theorem polygon_on.eq (N : Nat) (x0 : Int × Int) (x1 : Int × Int) (x2 : Int × Int) : polygon_on.fn N (x0, x1, x2) =
    (plane_Sub.fn N (x0, x2)).bind fun r1 =>
    (plane_Sub.fn N (x1, x2)).bind fun r2 =>
    (plane_Dot.fn N (r1, r2)).bind fun r3 =>
    some (decide (r3 ≤ 0)) := by kernel_rfl

/-! ### polygon_Common: skyway/polygon.Common -/
def polygon_Common.kp : List (Nat × List (Nat × Option (TypeId × Ty))) := []
noncomputable def polygon_Common.G (N : Nat) : List (Nat × Spec) := [(106, .pure (plane_Turn.S N)), (129, .pure (polygon_on.S N))]
noncomputable def polygon_Common.E (N : Nat) : Env := mkEnv (polygon_Common.G N) N tyTab polygon_Common.kp
noncomputable def polygon_Common.fn (N : Nat) (x : (Int × Int) × (Int × Int) × (Int × Int) × Int × Int) : Option Bool := evFn (polygon_Common.E N) Try.prog 3 Try.f107 false [.agg (.pair (.int .i64) (.int .i64)), .agg (.pair (.int .i64) (.int .i64)), .agg (.pair (.int .i64) (.int .i64)), .agg (.pair (.int .i64) (.int .i64))] [.val (.cell (.bool))] x
noncomputable def polygon_Common.S (N : Nat) : PSpec := ⟨false, [.agg (.pair (.int .i64) (.int .i64)), .agg (.pair (.int .i64) (.int .i64)), .agg (.pair (.int .i64) (.int .i64)), .agg (.pair (.int .i64) (.int .i64))], [.val (.cell (.bool))], polygon_Common.fn N⟩
theorem f107_enters : Enters Try.prog 107 := ⟨Try.f107, Try.func107, by kernel_rfl, by kernel_rfl⟩
theorem polygon_Common.tab (N : Nat) : TabOk Try.prog (polygon_Common.G N) := ⟨⟨plane_Turn.enters, plane_Turn.sound N⟩, ⟨polygon_on.enters, polygon_on.sound N⟩, trivial⟩
theorem polygon_Common.enters : Enters Try.prog 107 := f107_enters
theorem polygon_Common.sound (N : Nat) : Sound Try.prog 107 (polygon_Common.S N) := evFn_sound (specs_tab (polygon_Common.tab N)) (inls_tab (polygon_Common.tab N)) mixed 3 Try.func107 _ _ _
theorem polygon_Common.eq (N : Nat) (x0 : Int × Int) (x1 : Int × Int) (x2 : Int × Int) (x3 : Int × Int) : polygon_Common.fn N (x0, x1, x2, x3) =
    (plane_Turn.fn N (x0, x1, x2)).bind fun r1 =>
    (plane_Turn.fn N (x0, x1, x3)).bind fun r2 =>
    (plane_Turn.fn N (x2, x3, x0)).bind fun r3 =>
    (plane_Turn.fn N (x2, x3, x1)).bind fun r4 =>
    bif !(decide ((w (r1 * r2)) < 0)) || (decide ((w (r1 * r2)) < 0)) then
      bif !(decide ((w (r1 * r2)) < 0)) || (decide ((w (r1 * r2)) < 0)) then
        bif !(decide ((w (r1 * r2)) < 0)) || (decide ((w (r1 * r2)) < 0)) then
          bif (!(decide ((w (r1 * r2)) < 0))) || (decide ((w (r1 * r2)) < 0)) then
            bif (decide ((w (r1 * r2)) < 0)) && (decide ((w (r3 * r4)) < 0)) then
              some true
            else
            bif !(r1 == 0) || (r1 == 0) then
              bif !(r1 == 0) || (r1 == 0) then
                bif !(r1 == 0) || (r1 == 0) then
                  (bif (r1 == 0) then polygon_on.fn N (x0, x1, x2) else some (false)).bind fun r5 =>
                  bif (!(r1 == 0)) || (r1 == 0) then
                    bif !(!((r1 == 0) && r5)) || (!((r1 == 0) && r5)) then
                      bif !(!((r1 == 0) && r5)) || (!((r1 == 0) && r5)) then
                        bif !((!((r1 == 0) && r5)) && (r2 == 0)) || ((!((r1 == 0) && r5)) && (r2 == 0)) then
                          bif !((!((r1 == 0) && r5)) && (r2 == 0)) || ((!((r1 == 0) && r5)) && (r2 == 0)) then
                            bif !((!((r1 == 0) && r5)) && (r2 == 0)) || ((!((r1 == 0) && r5)) && (r2 == 0)) then
                              (bif ((!((r1 == 0) && r5)) && (r2 == 0)) then polygon_on.fn N (x0, x1, x3) else some (false)).bind fun r6 =>
                              bif !(!((r1 == 0) && r5)) || (!((r1 == 0) && r5)) then
                                bif !(!((r1 == 0) && r5)) || ((!(r2 == 0)) || ((!((r1 == 0) && r5)) && (r2 == 0))) then
                                  bif ((r1 == 0) && r5) || (!((r1 == 0) && r5)) then
                                    bif !(!(((r1 == 0) && r5) || ((r2 == 0) && r6))) || (!(((r1 == 0) && r5) || ((r2 == 0) && r6))) then
                                      bif !(!(((r1 == 0) && r5) || ((r2 == 0) && r6))) || (!(((r1 == 0) && r5) || ((r2 == 0) && r6))) then
                                        bif !((!(((r1 == 0) && r5) || ((r2 == 0) && r6))) && (r3 == 0)) || ((!(((r1 == 0) && r5) || ((r2 == 0) && r6))) && (r3 == 0)) then
                                          bif !((!(((r1 == 0) && r5) || ((r2 == 0) && r6))) && (r3 == 0)) || ((!(((r1 == 0) && r5) || ((r2 == 0) && r6))) && (r3 == 0)) then
                                            bif !((!(((r1 == 0) && r5) || ((r2 == 0) && r6))) && (r3 == 0)) || ((!(((r1 == 0) && r5) || ((r2 == 0) && r6))) && (r3 == 0)) then
                                              (bif ((!(((r1 == 0) && r5) || ((r2 == 0) && r6))) && (r3 == 0)) then polygon_on.fn N (x2, x3, x0) else some (false)).bind fun r7 =>
                                              bif !(!(((r1 == 0) && r5) || ((r2 == 0) && r6))) || (!(((r1 == 0) && r5) || ((r2 == 0) && r6))) then
                                                bif !(!(((r1 == 0) && r5) || ((r2 == 0) && r6))) || ((!(r3 == 0)) || ((!(((r1 == 0) && r5) || ((r2 == 0) && r6))) && (r3 == 0))) then
                                                  bif (((r1 == 0) && r5) || ((r2 == 0) && r6)) || (!(((r1 == 0) && r5) || ((r2 == 0) && r6))) then
                                                    bif !(!((((r1 == 0) && r5) || ((r2 == 0) && r6)) || ((r3 == 0) && r7))) || (!((((r1 == 0) && r5) || ((r2 == 0) && r6)) || ((r3 == 0) && r7))) then
                                                      bif !(!((((r1 == 0) && r5) || ((r2 == 0) && r6)) || ((r3 == 0) && r7))) || (!((((r1 == 0) && r5) || ((r2 == 0) && r6)) || ((r3 == 0) && r7))) then
                                                        bif !((!((((r1 == 0) && r5) || ((r2 == 0) && r6)) || ((r3 == 0) && r7))) && (r4 == 0)) || ((!((((r1 == 0) && r5) || ((r2 == 0) && r6)) || ((r3 == 0) && r7))) && (r4 == 0)) then
                                                          bif !((!((((r1 == 0) && r5) || ((r2 == 0) && r6)) || ((r3 == 0) && r7))) && (r4 == 0)) || ((!((((r1 == 0) && r5) || ((r2 == 0) && r6)) || ((r3 == 0) && r7))) && (r4 == 0)) then
                                                            bif !((!((((r1 == 0) && r5) || ((r2 == 0) && r6)) || ((r3 == 0) && r7))) && (r4 == 0)) || ((!((((r1 == 0) && r5) || ((r2 == 0) && r6)) || ((r3 == 0) && r7))) && (r4 == 0)) then
                                                              (bif ((!((((r1 == 0) && r5) || ((r2 == 0) && r6)) || ((r3 == 0) && r7))) && (r4 == 0)) then polygon_on.fn N (x2, x3, x1) else some (false)).bind fun r8 =>
                                                              bif !(!((((r1 == 0) && r5) || ((r2 == 0) && r6)) || ((r3 == 0) && r7))) || (!((((r1 == 0) && r5) || ((r2 == 0) && r6)) || ((r3 == 0) && r7))) then
                                                                bif !(!((((r1 == 0) && r5) || ((r2 == 0) && r6)) || ((r3 == 0) && r7))) || ((!(r4 == 0)) || ((!((((r1 == 0) && r5) || ((r2 == 0) && r6)) || ((r3 == 0) && r7))) && (r4 == 0))) then
                                                                  bif ((((r1 == 0) && r5) || ((r2 == 0) && r6)) || ((r3 == 0) && r7)) || (!((((r1 == 0) && r5) || ((r2 == 0) && r6)) || ((r3 == 0) && r7))) then
                                                                    some (((((r1 == 0) && r5) || ((r2 == 0) && r6)) || ((r3 == 0) && r7)) || ((r4 == 0) && r8))
                                                                  else
                                                                    none
                                                                else
                                                                  none
                                                              else
                                                                none
                                                            else
                                                              none
                                                          else
                                                            none
                                                        else
                                                          none
                                                      else
                                                        none
                                                    else
                                                      none
                                                  else
                                                    none
                                                else
                                                  none
                                              else
                                                none
                                            else
                                              none
                                          else
                                            none
                                        else
                                          none
                                      else
                                        none
                                    else
                                      none
                                  else
                                    none
                                else
                                  none
                              else
                                none
                            else
                              none
                          else
                            none
                        else
                          none
                      else
                        none
                    else
                      none
                  else
                    none
                else
                  none
              else
                none
            else
              none
          else
            none
        else
          none
      else
        none
    else
      none := by kernel_rfl
theorem taut11 : ∀ p0 p1 p2 p3 p4 p5 : Bool, ((!(!((((p0) && p1) || ((p2) && p3)) || ((p4) && p5))) || (!((((p0) && p1) || ((p2) && p3)) || ((p4) && p5))))) = true := by decide
theorem taut12 : ∀ p0 p1 p2 p3 p4 p5 p6 : Bool, ((!(!((((p0) && p1) || ((p2) && p3)) || ((p4) && p5))) || ((!(p6)) || ((!((((p0) && p1) || ((p2) && p3)) || ((p4) && p5))) && (p6))))) = true := by decide
theorem taut13 : ∀ p0 p1 p2 p3 : Bool, ((!(!(((p0) && p1) || ((p2) && p3))) || (!(((p0) && p1) || ((p2) && p3))))) = true := by decide
theorem taut14 : ∀ p0 p1 p2 p3 p4 : Bool, ((!(!(((p0) && p1) || ((p2) && p3))) || ((!(p4)) || ((!(((p0) && p1) || ((p2) && p3))) && (p4))))) = true := by decide
theorem taut15 : ∀ p0 p1 : Bool, ((!(!((p0) && p1)) || (!((p0) && p1)))) = true := by decide
theorem taut16 : ∀ p0 p1 p2 : Bool, ((!(!((p0) && p1)) || ((!(p2)) || ((!((p0) && p1)) && (p2))))) = true := by decide
theorem taut17 : ∀ p0 p1 p2 p3 p4 p5 p6 : Bool, ((!((!((((p0) && p1) || ((p2) && p3)) || ((p4) && p5))) && (p6)) || ((!((((p0) && p1) || ((p2) && p3)) || ((p4) && p5))) && (p6)))) = true := by decide
theorem taut18 : ∀ p0 p1 p2 p3 p4 : Bool, ((!((!(((p0) && p1) || ((p2) && p3))) && (p4)) || ((!(((p0) && p1) || ((p2) && p3))) && (p4)))) = true := by decide
theorem taut19 : ∀ p0 p1 p2 : Bool, ((!((!((p0) && p1)) && (p2)) || ((!((p0) && p1)) && (p2)))) = true := by decide
theorem taut20 : ∀ p0 : Bool, ((!(p0) || (p0))) = true := by decide
theorem taut21 : ∀ p0 : Bool, (((!(p0)) || (p0))) = true := by decide
theorem taut22 : ∀ p0 p1 p2 p3 p4 p5 : Bool, ((((((p0) && p1) || ((p2) && p3)) || ((p4) && p5)) || (!((((p0) && p1) || ((p2) && p3)) || ((p4) && p5))))) = true := by decide
theorem taut23 : ∀ p0 p1 p2 p3 : Bool, (((((p0) && p1) || ((p2) && p3)) || (!(((p0) && p1) || ((p2) && p3))))) = true := by decide
theorem taut24 : ∀ p0 p1 : Bool, ((((p0) && p1) || (!((p0) && p1)))) = true := by decide
theorem polygon_Common.clean (N : Nat) (x0 : Int × Int) (x1 : Int × Int) (x2 : Int × Int) (x3 : Int × Int) : polygon_Common.fn N (x0, x1, x2, x3) =
    (plane_Turn.fn N (x0, x1, x2)).bind fun r1 =>
    (plane_Turn.fn N (x0, x1, x3)).bind fun r2 =>
    (plane_Turn.fn N (x2, x3, x0)).bind fun r3 =>
    (plane_Turn.fn N (x2, x3, x1)).bind fun r4 =>
    bif (decide ((w (r1 * r2)) < 0)) && (decide ((w (r3 * r4)) < 0)) then
      some true
    else
    (bif (r1 == 0) then polygon_on.fn N (x0, x1, x2) else some (false)).bind fun r5 =>
    (bif ((!((r1 == 0) && r5)) && (r2 == 0)) then polygon_on.fn N (x0, x1, x3) else some (false)).bind fun r6 =>
    (bif ((!(((r1 == 0) && r5) || ((r2 == 0) && r6))) && (r3 == 0)) then polygon_on.fn N (x2, x3, x0) else some (false)).bind fun r7 =>
    (bif ((!((((r1 == 0) && r5) || ((r2 == 0) && r6)) || ((r3 == 0) && r7))) && (r4 == 0)) then polygon_on.fn N (x2, x3, x1) else some (false)).bind fun r8 =>
    some (((((r1 == 0) && r5) || ((r2 == 0) && r6)) || ((r3 == 0) && r7)) || ((r4 == 0) && r8)) := by
  rw [polygon_Common.eq]; simp only [taut11, taut12, taut13, taut14, taut15, taut16, taut17, taut18, taut19, taut20, taut21, taut22, taut23, taut24, cond_true]

/-! ### polygon_double: skyway/polygon.double -/
def polygon_double.kp : List (Nat × List (Nat × Option (TypeId × Ty))) := [(3, [(0, none), (3, none), (6, none), (7, none), (8, none)])]
noncomputable def polygon_double.G (N : Nat) : List (Nat × Spec) := [(127, .pure (plane_Cross.S N))]
noncomputable def polygon_double.E (N : Nat) : Env := mkEnv (polygon_double.G N) N tyTab polygon_double.kp
noncomputable def polygon_double.fn (N : Nat) (x : List (Int × Int)) : Option Int := evFn (polygon_double.E N) Try.prog 3 Try.f105 false [.cell (.sl 29 (.pair (.int .i64) (.int .i64)))] [.val (.cell (.int .i64))] x
noncomputable def polygon_double.S (N : Nat) : PSpec := ⟨false, [.cell (.sl 29 (.pair (.int .i64) (.int .i64)))], [.val (.cell (.int .i64))], polygon_double.fn N⟩
theorem f105_enters : Enters Try.prog 105 := ⟨Try.f105, Try.func105, by kernel_rfl, by kernel_rfl⟩
theorem polygon_double.tab (N : Nat) : TabOk Try.prog (polygon_double.G N) := ⟨⟨plane_Cross.enters, plane_Cross.sound N⟩, trivial⟩
theorem polygon_double.enters : Enters Try.prog 105 := f105_enters
theorem polygon_double.sound (N : Nat) : Sound Try.prog 105 (polygon_double.S N) := evFn_sound (specs_tab (polygon_double.tab N)) (inls_tab (polygon_double.tab N)) mixed 3 Try.func105 _ _ _
noncomputable def polygon_double.cd (N : Nat) (p : List Nat) : St → (Ex → St → Option Int) → Option Int := ev (polygon_double.E N) Try.prog (callD (polygon_double.E N) Try.prog 3) 0 (codeAt (bodyOf Try.f105) p)
noncomputable def polygon_double.fin : Ex → St → Option Int := endK Try.prog Try.f105 [.val (.cell (.int .i64))]
noncomputable def polygon_double.l0 (N : Nat) (x0 : List (Int × Int)) (k1 : Nat) (a2 : Int) (a3 : Int) : Option Int :=
  loopN (norm ((polygon_double.E N).keep 3) 0) (polygon_double.cd N [1, 1, 0, 1, 0, 0]) k1
  ⟨[.ros false 29 (.pair (.int .i64) (.int .i64)) x0, .any, .any, .sc (.int .i64 a2), .any, .any, .ros false 29 (.pair (.int .i64) (.int .i64)) x0, .sc (.int .i64 (x0.length : Int)), .sc (.int .i64 a3), .any, .any, .any, .any, .any, .any, .any, .any, .any, .any, .any, .any, .any, .any, .any, .any, .any, .any], []⟩
  (blockK 0 (seqK (polygon_double.cd N [1, 1, 1]) polygon_double.fin))
theorem polygon_double.l0_zero (N : Nat) (x0 : List (Int × Int)) (a2 : Int) (a3 : Int) : polygon_double.l0 N x0 0 a2 a3 = none := by kernel_rfl
theorem polygon_double.l0_succ (N : Nat) (x0 : List (Int × Int)) (k1 : Nat) (a2 : Int) (a3 : Int) : polygon_double.l0 N x0 (k1 + 1) a2 a3 =
    bif decide (a3 < (x0.length : Int)) then
      bif (decide (0 ≤ a3)) && (decide (a3 < (x0.length : Int))) then
        bif (x0.length : Int) != 0 then
          bif (decide (0 ≤ (Int.tmod (w (a3 + 1)) (x0.length : Int)))) && (decide ((Int.tmod (w (a3 + 1)) (x0.length : Int)) < (x0.length : Int))) then
            (plane_Cross.fn N (List.getD x0 (Int.toNat a3) (0, 0), List.getD x0 (Int.toNat (Int.tmod (w (a3 + 1)) (x0.length : Int))) (0, 0))).bind fun r4 =>
            polygon_double.l0 N x0 k1 (w (a2 + r4)) (w (a3 + 1))
          else
            none
        else
          none
      else
        none
    else
      some a2 := by kernel_rfl
theorem polygon_double.l0_cons (N : Nat) (x0 : List (Int × Int)) (k1 : Nat) (a2 : Int) {pre r} {x} (hl : x0 = pre ++ x :: r) (hb : x0.length < 4611686018427387904) : polygon_double.l0 N x0 (k1 + 1) a2 (pre.length : Int) =
    bif (x0.length : Int) != 0 then
      bif (decide (0 ≤ (Int.tmod ((pre.length : Int) + 1) (x0.length : Int)))) && (decide ((Int.tmod ((pre.length : Int) + 1) (x0.length : Int)) < (x0.length : Int))) then
        (plane_Cross.fn N (x, List.getD x0 (Int.toNat (Int.tmod ((pre.length : Int) + 1) (x0.length : Int))) (0, 0))).bind fun r4 =>
        polygon_double.l0 N x0 k1 (w (a2 + r4)) ((pre.length : Int) + 1)
      else
        none
    else
      none := by
  have hlen : x0.length = pre.length + 1 + r.length := by rw [hl]; simp; omega
  have e1 : decide ((pre.length : Int) < (x0.length : Int)) = true := by rw [decide_eq_true_iff]; omega
  have e2 : decide (0 ≤ (pre.length : Int)) = true := by rw [decide_eq_true_iff]; omega
  have e4 : w ((pre.length : Int) + 1) = (pre.length : Int) + 1 := w_next hl hb
  have e5 : List.take pre.length x0 = pre := by rw [hl]; simp
  have e6 : decide ((pre.length : Int) ≤ (x0.length : Int)) = true := by rw [decide_eq_true_iff]; omega
  have g0 : List.getD x0 pre.length (0, 0) = x := by rw [hl]; exact getD_mid pre x r _
  rw [polygon_double.l0_succ]
  simp -implicitDefEqProofs only [Int.toNat_natCast, e1, e2, e4, e6, g0, e5, Bool.and_true, Bool.true_and, Bool.true_or, cond_true]
theorem polygon_double.l0_nil (N : Nat) (x0 : List (Int × Int)) (k1 : Nat) (a2 : Int) : polygon_double.l0 N x0 (k1 + 1) a2 (x0.length : Int) =
    some a2 := by
  have e1 : decide ((x0.length : Int) < (x0.length : Int)) = false := by rw [decide_eq_false_iff_not]; omega
  rw [polygon_double.l0_succ]
  simp -implicitDefEqProofs only [e1, cond_false]
theorem polygon_double.eq (N : Nat) (x0 : List (Int × Int)) : polygon_double.fn N x0 =
    polygon_double.l0 N x0 N 0 0 := by kernel_rfl

/-! ### polygon_Check: skyway/polygon.Check -/
def polygon_Check.kp : List (Nat × List (Nat × Option (TypeId × Ty))) := [(6, [(0, none), (17, none), (18, none), (19, none)]), (14, [(0, none), (6, none), (32, none), (33, none)]), (19, [(0, none), (6, none), (7, none), (8, none), (32, none), (33, none)])]
noncomputable def polygon_Check.G (N : Nat) : List (Nat × Spec) := [(21, .pure (plane_Check.S N)), (105, .pure (polygon_double.S N)), (106, .pure (plane_Turn.S N)), (107, .pure (polygon_Common.S N))]
noncomputable def polygon_Check.E (N : Nat) : Env := mkEnv (polygon_Check.G N) N tyTab polygon_Check.kp
noncomputable def polygon_Check.fn (N : Nat) (x : List (Int × Int)) : Option Int := evFn (polygon_Check.E N) Try.prog 3 Try.f88 false [.cell (.sl 29 (.pair (.int .i64) (.int .i64)))] [.val (.cell (.int .i64))] x
noncomputable def polygon_Check.S (N : Nat) : PSpec := ⟨false, [.cell (.sl 29 (.pair (.int .i64) (.int .i64)))], [.val (.cell (.int .i64))], polygon_Check.fn N⟩
theorem f88_enters : Enters Try.prog 88 := ⟨Try.f88, Try.func88, by kernel_rfl, by kernel_rfl⟩
theorem polygon_Check.tab (N : Nat) : TabOk Try.prog (polygon_Check.G N) := ⟨⟨plane_Check.enters, plane_Check.sound N⟩, ⟨polygon_double.enters, polygon_double.sound N⟩, ⟨plane_Turn.enters, plane_Turn.sound N⟩, ⟨polygon_Common.enters, polygon_Common.sound N⟩, trivial⟩
theorem polygon_Check.enters : Enters Try.prog 88 := f88_enters
theorem polygon_Check.sound (N : Nat) : Sound Try.prog 88 (polygon_Check.S N) := evFn_sound (specs_tab (polygon_Check.tab N)) (inls_tab (polygon_Check.tab N)) mixed 3 Try.func88 _ _ _
noncomputable def polygon_Check.cd (N : Nat) (p : List Nat) : St → (Ex → St → Option Int) → Option Int := ev (polygon_Check.E N) Try.prog (callD (polygon_Check.E N) Try.prog 3) 0 (codeAt (bodyOf Try.f88) p)
noncomputable def polygon_Check.fin : Ex → St → Option Int := endK Try.prog Try.f88 [.val (.cell (.int .i64))]
noncomputable def polygon_Check.l0 (N : Nat) (x0 : List (Int × Int)) (k1 : Nat) (a2 : Int) : Option Int :=
  loopN (norm ((polygon_Check.E N).keep 6) 0) (polygon_Check.cd N [1, 1, 0, 1, 0, 0]) k1
  ⟨[.ros false 29 (.pair (.int .i64) (.int .i64)) x0, .any, .any, .any, .any, .any, .any, .any, .any, .any, .any, .any, .any, .any, .any, .any, .any, .ros false 29 (.pair (.int .i64) (.int .i64)) x0, .sc (.int .i64 (x0.length : Int)), .sc (.int .i64 a2), .any, .any, .any, .any, .any, .any, .any, .any, .any, .any, .any, .any, .any, .any, .any, .any, .any, .any, .any, .any, .any, .any, .any, .any, .any, .any, .any, .any, .any, .any, .any, .any, .any, .any, .any, .any, .any, .any, .any, .any, .any, .any, .any, .any, .any, .any, .any, .any, .any, .any, .any, .any, .any, .any, .any, .any, .any, .any, .any, .any, .any, .any, .any, .any, .any, .any, .any, .any, .any, .any, .any, .any, .any, .any, .any, .any], []⟩
  (blockK 1 (seqK (polygon_Check.cd N [1, 1, 1]) polygon_Check.fin))
noncomputable def polygon_Check.l1 (N : Nat) (x0 : List (Int × Int)) (k4 : Nat) (a5 : Int) : Option Int :=
  loopN (norm ((polygon_Check.E N).keep 14) 0) (polygon_Check.cd N [1, 1, 1, 1, 0, 1, 0, 0]) k4
  ⟨[.ros false 29 (.pair (.int .i64) (.int .i64)) x0, .any, .any, .any, .any, .any, .sc (.int .i64 (x0.length : Int)), .any, .any, .any, .any, .any, .any, .any, .any, .any, .any, .any, .any, .any, .any, .any, .any, .any, .any, .any, .any, .any, .any, .any, .any, .any, .sc (.int .i64 (x0.length : Int)), .sc (.int .i64 a5), .any, .any, .any, .any, .any, .any, .any, .any, .any, .any, .any, .any, .any, .any, .any, .any, .any, .any, .any, .any, .any, .any, .any, .any, .any, .any, .any, .any, .any, .any, .any, .any, .any, .any, .any, .any, .any, .any, .any, .any, .any, .any, .any, .any, .any, .any, .any, .any, .any, .any, .any, .any, .any, .any, .any, .any, .any, .any, .any, .any, .any, .any], []⟩
  (blockK 3 (seqK (polygon_Check.cd N [1, 1, 1, 1, 1]) polygon_Check.fin))
noncomputable def polygon_Check.l2 (N : Nat) (x0 : List (Int × Int)) (k4 : Nat) (a5 : Int) (k7 : Nat) (a8 : Int) : Option Int :=
  loopN (norm ((polygon_Check.E N).keep 19) 0) (polygon_Check.cd N [1, 1, 1, 1, 0, 1, 0, 0, 1, 1, 0, 0, 1, 1, 1, 0, 0]) k7
  ⟨[.ros false 29 (.pair (.int .i64) (.int .i64)) x0, .any, .any, .any, .any, .any, .sc (.int .i64 (x0.length : Int)), .sc (.int .i64 a5), .sc (.int .i64 a8), .any, .any, .any, .any, .any, .any, .any, .any, .any, .any, .any, .any, .any, .any, .any, .any, .any, .any, .any, .any, .any, .any, .any, .sc (.int .i64 (x0.length : Int)), .sc (.int .i64 a5), .any, .any, .any, .any, .any, .any, .any, .any, .any, .any, .any, .any, .any, .any, .any, .any, .any, .any, .any, .any, .any, .any, .any, .any, .any, .any, .any, .any, .any, .any, .any, .any, .any, .any, .any, .any, .any, .any, .any, .any, .any, .any, .any, .any, .any, .any, .any, .any, .any, .any, .any, .any, .any, .any, .any, .any, .any, .any, .any, .any, .any, .any], []⟩
  (blockK 5 (blockK 4 (seqK (polygon_Check.cd N [1, 1, 1, 1, 0, 1, 0, 0, 1, 1, 1]) (loopK (norm ((polygon_Check.E N).keep 14) 0) (polygon_Check.cd N [1, 1, 1, 1, 0, 1, 0, 0]) k4 (blockK 3 (seqK (polygon_Check.cd N [1, 1, 1, 1, 1]) polygon_Check.fin))))))
theorem polygon_Check.l2_zero (N : Nat) (x0 : List (Int × Int)) (k4 : Nat) (a5 : Int) (a8 : Int) : polygon_Check.l2 N x0 k4 a5 0 a8 = none := by kernel_rfl
theorem polygon_Check.l2_succ (N : Nat) (x0 : List (Int × Int)) (k4 : Nat) (a5 : Int) (k7 : Nat) (a8 : Int) : polygon_Check.l2 N x0 k4 a5 (k7 + 1) a8 =
    bif decide (a8 < (x0.length : Int)) then
      bif (x0.length : Int) != 0 then
        bif !(!((Int.tmod (w (a8 + 1)) (x0.length : Int)) == a5)) || (!((Int.tmod (w (a8 + 1)) (x0.length : Int)) == a5)) then
          bif !(!((Int.tmod (w (a8 + 1)) (x0.length : Int)) == a5)) || (!((Int.tmod (w (a8 + 1)) (x0.length : Int)) == a5)) then
            bif ((decide (0 ≤ a5)) && (decide (a5 < (x0.length : Int)))) || !(!((Int.tmod (w (a8 + 1)) (x0.length : Int)) == a5)) then
              bif !(!((Int.tmod (w (a8 + 1)) (x0.length : Int)) == a5)) || (!((Int.tmod (w (a8 + 1)) (x0.length : Int)) == a5)) then
                bif !(!((Int.tmod (w (a8 + 1)) (x0.length : Int)) == a5)) || (!((Int.tmod (w (a8 + 1)) (x0.length : Int)) == a5)) then
                  bif !(!((Int.tmod (w (a8 + 1)) (x0.length : Int)) == a5)) || (!((Int.tmod (w (a8 + 1)) (x0.length : Int)) == a5)) then
                    bif !(!((Int.tmod (w (a8 + 1)) (x0.length : Int)) == a5)) || (!((Int.tmod (w (a8 + 1)) (x0.length : Int)) == a5)) then
                      bif ((decide (0 ≤ (w (a5 + 1)))) && (decide ((w (a5 + 1)) < (x0.length : Int)))) || !(!((Int.tmod (w (a8 + 1)) (x0.length : Int)) == a5)) then
                        bif !(!((Int.tmod (w (a8 + 1)) (x0.length : Int)) == a5)) || (!((Int.tmod (w (a8 + 1)) (x0.length : Int)) == a5)) then
                          bif !(!((Int.tmod (w (a8 + 1)) (x0.length : Int)) == a5)) || (!((Int.tmod (w (a8 + 1)) (x0.length : Int)) == a5)) then
                            bif !(!((Int.tmod (w (a8 + 1)) (x0.length : Int)) == a5)) || (!((Int.tmod (w (a8 + 1)) (x0.length : Int)) == a5)) then
                              bif ((decide (0 ≤ a8)) && (decide (a8 < (x0.length : Int)))) || !(!((Int.tmod (w (a8 + 1)) (x0.length : Int)) == a5)) then
                                bif !(!((Int.tmod (w (a8 + 1)) (x0.length : Int)) == a5)) || (!((Int.tmod (w (a8 + 1)) (x0.length : Int)) == a5)) then
                                  bif !(!((Int.tmod (w (a8 + 1)) (x0.length : Int)) == a5)) || (!((Int.tmod (w (a8 + 1)) (x0.length : Int)) == a5)) then
                                    bif !(!((Int.tmod (w (a8 + 1)) (x0.length : Int)) == a5)) || (!((Int.tmod (w (a8 + 1)) (x0.length : Int)) == a5)) then
                                      bif !(!((Int.tmod (w (a8 + 1)) (x0.length : Int)) == a5)) || (!((Int.tmod (w (a8 + 1)) (x0.length : Int)) == a5)) then
                                        bif ((x0.length : Int) != 0) || !(!((Int.tmod (w (a8 + 1)) (x0.length : Int)) == a5)) then
                                          bif !(!((Int.tmod (w (a8 + 1)) (x0.length : Int)) == a5)) || (!((Int.tmod (w (a8 + 1)) (x0.length : Int)) == a5)) then
                                            bif !(!((Int.tmod (w (a8 + 1)) (x0.length : Int)) == a5)) || (!((Int.tmod (w (a8 + 1)) (x0.length : Int)) == a5)) then
                                              bif ((decide (0 ≤ (Int.tmod (w (a8 + 1)) (x0.length : Int)))) && (decide ((Int.tmod (w (a8 + 1)) (x0.length : Int)) < (x0.length : Int)))) || !(!((Int.tmod (w (a8 + 1)) (x0.length : Int)) == a5)) then
                                                bif !(!((Int.tmod (w (a8 + 1)) (x0.length : Int)) == a5)) || (!((Int.tmod (w (a8 + 1)) (x0.length : Int)) == a5)) then
                                                  bif !(!((Int.tmod (w (a8 + 1)) (x0.length : Int)) == a5)) || (!((Int.tmod (w (a8 + 1)) (x0.length : Int)) == a5)) then
                                                    bif !(!((Int.tmod (w (a8 + 1)) (x0.length : Int)) == a5)) || (!((Int.tmod (w (a8 + 1)) (x0.length : Int)) == a5)) then
                                                      bif !(!((Int.tmod (w (a8 + 1)) (x0.length : Int)) == a5)) || (!((Int.tmod (w (a8 + 1)) (x0.length : Int)) == a5)) then
                                                        bif !(!((Int.tmod (w (a8 + 1)) (x0.length : Int)) == a5)) || (!((Int.tmod (w (a8 + 1)) (x0.length : Int)) == a5)) then
                                                          (bif (!((Int.tmod (w (a8 + 1)) (x0.length : Int)) == a5)) then polygon_Common.fn N (List.getD x0 (Int.toNat a5) (0, 0), List.getD x0 (Int.toNat (w (a5 + 1))) (0, 0), List.getD x0 (Int.toNat a8) (0, 0), List.getD x0 (Int.toNat (Int.tmod (w (a8 + 1)) (x0.length : Int))) (0, 0)) else some (false)).bind fun r9 =>
                                                          bif (!(!((Int.tmod (w (a8 + 1)) (x0.length : Int)) == a5))) || (!((Int.tmod (w (a8 + 1)) (x0.length : Int)) == a5)) then
                                                            bif (!((Int.tmod (w (a8 + 1)) (x0.length : Int)) == a5)) && r9 then
                                                              some 3
                                                            else
                                                              polygon_Check.l2 N x0 k4 a5 k7 (w (a8 + 1))
                                                          else
                                                            none
                                                        else
                                                          none
                                                      else
                                                        none
                                                    else
                                                      none
                                                  else
                                                    none
                                                else
                                                  none
                                              else
                                                none
                                            else
                                              none
                                          else
                                            none
                                        else
                                          none
                                      else
                                        none
                                    else
                                      none
                                  else
                                    none
                                else
                                  none
                              else
                                none
                            else
                              none
                          else
                            none
                        else
                          none
                      else
                        none
                    else
                      none
                  else
                    none
                else
                  none
              else
                none
            else
              none
          else
            none
        else
          none
      else
        none
    else
      polygon_Check.l1 N x0 k4 (w (a5 + 1)) := by kernel_rfl
theorem polygon_Check.l1_zero (N : Nat) (x0 : List (Int × Int)) (a5 : Int) : polygon_Check.l1 N x0 0 a5 = none := by kernel_rfl
theorem polygon_Check.l1_succ (N : Nat) (x0 : List (Int × Int)) (k4 : Nat) (a5 : Int) : polygon_Check.l1 N x0 (k4 + 1) a5 =
    bif decide (a5 < (x0.length : Int)) then
      bif (decide (0 ≤ a5)) && (decide (a5 < (x0.length : Int))) then
        bif (x0.length : Int) != 0 then
          bif (decide (0 ≤ (Int.tmod (w (a5 + 1)) (x0.length : Int)))) && (decide ((Int.tmod (w (a5 + 1)) (x0.length : Int)) < (x0.length : Int))) then
            bif (x0.length : Int) != 0 then
              bif (decide (0 ≤ (Int.tmod (w (a5 + 2)) (x0.length : Int)))) && (decide ((Int.tmod (w (a5 + 2)) (x0.length : Int)) < (x0.length : Int))) then
                (plane_Turn.fn N (List.getD x0 (Int.toNat a5) (0, 0), List.getD x0 (Int.toNat (Int.tmod (w (a5 + 1)) (x0.length : Int))) (0, 0), List.getD x0 (Int.toNat (Int.tmod (w (a5 + 2)) (x0.length : Int))) (0, 0))).bind fun r6 =>
                bif r6 == 0 then
                  some 3
                else
                  polygon_Check.l2 N x0 k4 a5 N (w (a5 + 2))
              else
                none
            else
              none
          else
            none
        else
          none
      else
        none
    else
      (polygon_double.fn N x0).bind fun r10 =>
      bif decide (r10 ≤ 0) then
        some 3
      else
        some 0 := by kernel_rfl
theorem polygon_Check.l0_zero (N : Nat) (x0 : List (Int × Int)) (a2 : Int) : polygon_Check.l0 N x0 0 a2 = none := by kernel_rfl
theorem polygon_Check.l0_succ (N : Nat) (x0 : List (Int × Int)) (k1 : Nat) (a2 : Int) : polygon_Check.l0 N x0 (k1 + 1) a2 =
    bif decide (a2 < (x0.length : Int)) then
      bif (decide (0 ≤ a2)) && (decide (a2 < (x0.length : Int))) then
        (plane_Check.fn N (List.getD x0 (Int.toNat a2) (0, 0))).bind fun r3 =>
        bif !(r3 == 0) then
          some r3
        else
          polygon_Check.l0 N x0 k1 (w (a2 + 1))
      else
        none
    else
      polygon_Check.l1 N x0 N 0 := by kernel_rfl
theorem taut25 : ∀ p0 : Bool, (((!(!(p0))) || (!(p0)))) = true := by decide
theorem polygon_Check.l2_clean (N : Nat) (x0 : List (Int × Int)) (k4 : Nat) (a5 : Int) (k7 : Nat) (a8 : Int) : polygon_Check.l2 N x0 k4 a5 (k7 + 1) a8 =
    bif decide (a8 < (x0.length : Int)) then
      bif (x0.length : Int) != 0 then
        bif ((decide (0 ≤ a5)) && (decide (a5 < (x0.length : Int)))) || !(!((Int.tmod (w (a8 + 1)) (x0.length : Int)) == a5)) then
          bif ((decide (0 ≤ (w (a5 + 1)))) && (decide ((w (a5 + 1)) < (x0.length : Int)))) || !(!((Int.tmod (w (a8 + 1)) (x0.length : Int)) == a5)) then
            bif ((decide (0 ≤ a8)) && (decide (a8 < (x0.length : Int)))) || !(!((Int.tmod (w (a8 + 1)) (x0.length : Int)) == a5)) then
              bif ((x0.length : Int) != 0) || !(!((Int.tmod (w (a8 + 1)) (x0.length : Int)) == a5)) then
                bif ((decide (0 ≤ (Int.tmod (w (a8 + 1)) (x0.length : Int)))) && (decide ((Int.tmod (w (a8 + 1)) (x0.length : Int)) < (x0.length : Int)))) || !(!((Int.tmod (w (a8 + 1)) (x0.length : Int)) == a5)) then
                  (bif (!((Int.tmod (w (a8 + 1)) (x0.length : Int)) == a5)) then polygon_Common.fn N (List.getD x0 (Int.toNat a5) (0, 0), List.getD x0 (Int.toNat (w (a5 + 1))) (0, 0), List.getD x0 (Int.toNat a8) (0, 0), List.getD x0 (Int.toNat (Int.tmod (w (a8 + 1)) (x0.length : Int))) (0, 0)) else some (false)).bind fun r9 =>
                  bif (!((Int.tmod (w (a8 + 1)) (x0.length : Int)) == a5)) && r9 then
                    some 3
                  else
                    polygon_Check.l2 N x0 k4 a5 k7 (w (a8 + 1))
                else
                  none
              else
                none
            else
              none
          else
            none
        else
          none
      else
        none
    else
      polygon_Check.l1 N x0 k4 (w (a5 + 1)) := by
  rw [polygon_Check.l2_succ]; simp only [taut1, taut25, cond_true]
theorem polygon_Check.l2_cons (N : Nat) (x0 : List (Int × Int)) (k4 : Nat) (a5 : Int) (k7 : Nat) {pre r} {x} (hl : x0 = pre ++ x :: r) (hb : x0.length < 4611686018427387904) : polygon_Check.l2 N x0 k4 a5 (k7 + 1) (pre.length : Int) =
    bif (x0.length : Int) != 0 then
      bif ((decide (0 ≤ a5)) && (decide (a5 < (x0.length : Int)))) || !(!((Int.tmod ((pre.length : Int) + 1) (x0.length : Int)) == a5)) then
        bif ((decide (0 ≤ (w (a5 + 1)))) && (decide ((w (a5 + 1)) < (x0.length : Int)))) || !(!((Int.tmod ((pre.length : Int) + 1) (x0.length : Int)) == a5)) then
          bif ((x0.length : Int) != 0) || !(!((Int.tmod ((pre.length : Int) + 1) (x0.length : Int)) == a5)) then
            bif ((decide (0 ≤ (Int.tmod ((pre.length : Int) + 1) (x0.length : Int)))) && (decide ((Int.tmod ((pre.length : Int) + 1) (x0.length : Int)) < (x0.length : Int)))) || !(!((Int.tmod ((pre.length : Int) + 1) (x0.length : Int)) == a5)) then
              (bif (!((Int.tmod ((pre.length : Int) + 1) (x0.length : Int)) == a5)) then polygon_Common.fn N (List.getD x0 (Int.toNat a5) (0, 0), List.getD x0 (Int.toNat (w (a5 + 1))) (0, 0), x, List.getD x0 (Int.toNat (Int.tmod ((pre.length : Int) + 1) (x0.length : Int))) (0, 0)) else some (false)).bind fun r9 =>
              bif (!((Int.tmod ((pre.length : Int) + 1) (x0.length : Int)) == a5)) && r9 then
                some 3
              else
                polygon_Check.l2 N x0 k4 a5 k7 ((pre.length : Int) + 1)
            else
              none
          else
            none
        else
          none
      else
        none
    else
      none := by
  have hlen : x0.length = pre.length + 1 + r.length := by rw [hl]; simp; omega
  have e1 : decide ((pre.length : Int) < (x0.length : Int)) = true := by rw [decide_eq_true_iff]; omega
  have e2 : decide (0 ≤ (pre.length : Int)) = true := by rw [decide_eq_true_iff]; omega
  have e4 : w ((pre.length : Int) + 1) = (pre.length : Int) + 1 := w_next hl hb
  have e5 : List.take pre.length x0 = pre := by rw [hl]; simp
  have e6 : decide ((pre.length : Int) ≤ (x0.length : Int)) = true := by rw [decide_eq_true_iff]; omega
  have g0 : List.getD x0 pre.length (0, 0) = x := by rw [hl]; exact getD_mid pre x r _
  rw [polygon_Check.l2_clean]
  simp -implicitDefEqProofs only [Int.toNat_natCast, e1, e2, e4, e6, g0, e5, Bool.and_true, Bool.true_and, Bool.true_or, cond_true]
theorem polygon_Check.l2_nil (N : Nat) (x0 : List (Int × Int)) (k4 : Nat) (a5 : Int) (k7 : Nat) : polygon_Check.l2 N x0 k4 a5 (k7 + 1) (x0.length : Int) =
    polygon_Check.l1 N x0 k4 (w (a5 + 1)) := by
  have e1 : decide ((x0.length : Int) < (x0.length : Int)) = false := by rw [decide_eq_false_iff_not]; omega
  rw [polygon_Check.l2_clean]
  simp -implicitDefEqProofs only [e1, cond_false]
theorem polygon_Check.l1_cons (N : Nat) (x0 : List (Int × Int)) (k4 : Nat) {pre r} {x} (hl : x0 = pre ++ x :: r) (hb : x0.length < 4611686018427387904) : polygon_Check.l1 N x0 (k4 + 1) (pre.length : Int) =
    bif (x0.length : Int) != 0 then
      bif (decide (0 ≤ (Int.tmod ((pre.length : Int) + 1) (x0.length : Int)))) && (decide ((Int.tmod ((pre.length : Int) + 1) (x0.length : Int)) < (x0.length : Int))) then
        bif (x0.length : Int) != 0 then
          bif (decide (0 ≤ (Int.tmod (w ((pre.length : Int) + 2)) (x0.length : Int)))) && (decide ((Int.tmod (w ((pre.length : Int) + 2)) (x0.length : Int)) < (x0.length : Int))) then
            (plane_Turn.fn N (x, List.getD x0 (Int.toNat (Int.tmod ((pre.length : Int) + 1) (x0.length : Int))) (0, 0), List.getD x0 (Int.toNat (Int.tmod (w ((pre.length : Int) + 2)) (x0.length : Int))) (0, 0))).bind fun r6 =>
            bif r6 == 0 then
              some 3
            else
              polygon_Check.l2 N x0 k4 (pre.length : Int) N (w ((pre.length : Int) + 2))
          else
            none
        else
          none
      else
        none
    else
      none := by
  have hlen : x0.length = pre.length + 1 + r.length := by rw [hl]; simp; omega
  have e1 : decide ((pre.length : Int) < (x0.length : Int)) = true := by rw [decide_eq_true_iff]; omega
  have e2 : decide (0 ≤ (pre.length : Int)) = true := by rw [decide_eq_true_iff]; omega
  have e4 : w ((pre.length : Int) + 1) = (pre.length : Int) + 1 := w_next hl hb
  have e5 : List.take pre.length x0 = pre := by rw [hl]; simp
  have e6 : decide ((pre.length : Int) ≤ (x0.length : Int)) = true := by rw [decide_eq_true_iff]; omega
  have g0 : List.getD x0 pre.length (0, 0) = x := by rw [hl]; exact getD_mid pre x r _
  rw [polygon_Check.l1_succ]
  simp -implicitDefEqProofs only [Int.toNat_natCast, e1, e2, e4, e6, g0, e5, Bool.and_true, Bool.true_and, Bool.true_or, cond_true]
theorem polygon_Check.l1_nil (N : Nat) (x0 : List (Int × Int)) (k4 : Nat) : polygon_Check.l1 N x0 (k4 + 1) (x0.length : Int) =
    (polygon_double.fn N x0).bind fun r10 =>
    bif decide (r10 ≤ 0) then
      some 3
    else
      some 0 := by
  have e1 : decide ((x0.length : Int) < (x0.length : Int)) = false := by rw [decide_eq_false_iff_not]; omega
  rw [polygon_Check.l1_succ]
  simp -implicitDefEqProofs only [e1, cond_false]
theorem polygon_Check.l0_cons (N : Nat) (x0 : List (Int × Int)) (k1 : Nat) {pre r} {x} (hl : x0 = pre ++ x :: r) (hb : x0.length < 4611686018427387904) : polygon_Check.l0 N x0 (k1 + 1) (pre.length : Int) =
    (plane_Check.fn N x).bind fun r3 =>
    bif !(r3 == 0) then
      some r3
    else
      polygon_Check.l0 N x0 k1 ((pre.length : Int) + 1) := by
  have hlen : x0.length = pre.length + 1 + r.length := by rw [hl]; simp; omega
  have e1 : decide ((pre.length : Int) < (x0.length : Int)) = true := by rw [decide_eq_true_iff]; omega
  have e2 : decide (0 ≤ (pre.length : Int)) = true := by rw [decide_eq_true_iff]; omega
  have e4 : w ((pre.length : Int) + 1) = (pre.length : Int) + 1 := w_next hl hb
  have e5 : List.take pre.length x0 = pre := by rw [hl]; simp
  have e6 : decide ((pre.length : Int) ≤ (x0.length : Int)) = true := by rw [decide_eq_true_iff]; omega
  have g0 : List.getD x0 pre.length (0, 0) = x := by rw [hl]; exact getD_mid pre x r _
  rw [polygon_Check.l0_succ]
  simp -implicitDefEqProofs only [Int.toNat_natCast, e1, e2, e4, e6, g0, e5, Bool.and_true, Bool.true_and, Bool.true_or, cond_true]
theorem polygon_Check.l0_nil (N : Nat) (x0 : List (Int × Int)) (k1 : Nat) : polygon_Check.l0 N x0 (k1 + 1) (x0.length : Int) =
    polygon_Check.l1 N x0 N 0 := by
  have e1 : decide ((x0.length : Int) < (x0.length : Int)) = false := by rw [decide_eq_false_iff_not]; omega
  rw [polygon_Check.l0_succ]
  simp -implicitDefEqProofs only [e1, cond_false]
theorem polygon_Check.eq (N : Nat) (x0 : List (Int × Int)) : polygon_Check.fn N x0 =
    bif decide ((x0.length : Int) > 16) then
      some 2
    else
    bif decide ((x0.length : Int) < 3) then
      some 3
    else
      polygon_Check.l0 N x0 N 0 := by kernel_rfl

/-! ### volume_Check: skyway/volume.Check -/
def volume_Check.kp : List (Nat × List (Nat × Option (TypeId × Ty))) := []
noncomputable def volume_Check.G (N : Nat) : List (Nat × Spec) := [(88, .pure (polygon_Check.S N))]
noncomputable def volume_Check.E (N : Nat) : Env := mkEnv (volume_Check.G N) N tyTab volume_Check.kp
noncomputable def volume_Check.fn (N : Nat) (x : List (Int × Int) × Int × Int) : Option Int := evFn (volume_Check.E N) Try.prog 3 Try.f63 false [.agg (.pair (.sl 29 (.pair (.int .i64) (.int .i64))) (.pair (.int .i64) (.int .i64)))] [.val (.cell (.int .i64))] x
noncomputable def volume_Check.S (N : Nat) : PSpec := ⟨false, [.agg (.pair (.sl 29 (.pair (.int .i64) (.int .i64))) (.pair (.int .i64) (.int .i64)))], [.val (.cell (.int .i64))], volume_Check.fn N⟩
theorem f63_enters : Enters Try.prog 63 := ⟨Try.f63, Try.func63, by kernel_rfl, by kernel_rfl⟩
theorem volume_Check.tab (N : Nat) : TabOk Try.prog (volume_Check.G N) := ⟨⟨polygon_Check.enters, polygon_Check.sound N⟩, trivial⟩
theorem volume_Check.enters : Enters Try.prog 63 := f63_enters
theorem volume_Check.sound (N : Nat) : Sound Try.prog 63 (volume_Check.S N) := evFn_sound (specs_tab (volume_Check.tab N)) (inls_tab (volume_Check.tab N)) mixed 3 Try.func63 _ _ _
theorem volume_Check.eq (N : Nat) (x0 : List (Int × Int) × Int × Int) : volume_Check.fn N x0 =
    (polygon_Check.fn N x0.1).bind fun r1 =>
    bif !(r1 == 0) then
      some r1
    else
    bif !(!(decide (x0.2.1 < 0))) || (!(decide (x0.2.1 < 0))) then
      bif !(!(decide (x0.2.1 < 0))) || (!(decide (x0.2.1 < 0))) then
        bif (decide (x0.2.1 < 0)) || (!(decide (x0.2.1 < 0))) then
          bif !(!((decide (x0.2.1 < 0)) || (decide (x0.2.2 > 60001)))) || (!((decide (x0.2.1 < 0)) || (decide (x0.2.2 > 60001)))) then
            bif !(!((decide (x0.2.1 < 0)) || (decide (x0.2.2 > 60001)))) || (!((decide (x0.2.1 < 0)) || (decide (x0.2.2 > 60001)))) then
              bif !(!((decide (x0.2.1 < 0)) || (decide (x0.2.2 > 60001)))) || (!((decide (x0.2.1 < 0)) || (decide (x0.2.2 > 60001)))) then
                bif !(!((decide (x0.2.1 < 0)) || (decide (x0.2.2 > 60001)))) || (!((decide (x0.2.1 < 0)) || (decide (x0.2.2 > 60001)))) then
                  bif ((decide (x0.2.1 < 0)) || (decide (x0.2.2 > 60001))) || (!((decide (x0.2.1 < 0)) || (decide (x0.2.2 > 60001)))) then
                    bif ((decide (x0.2.1 < 0)) || (decide (x0.2.2 > 60001))) || (decide (x0.2.1 ≥ x0.2.2)) then
                      some 4
                    else
                      some 0
                  else
                    none
                else
                  none
              else
                none
            else
              none
          else
            none
        else
          none
      else
        none
    else
      none := by kernel_rfl
theorem volume_Check.clean (N : Nat) (x0 : List (Int × Int) × Int × Int) : volume_Check.fn N x0 =
    (polygon_Check.fn N x0.1).bind fun r1 =>
    bif !(r1 == 0) then
      some r1
    else
    bif ((decide (x0.2.1 < 0)) || (decide (x0.2.2 > 60001))) || (decide (x0.2.1 ≥ x0.2.2)) then
      some 4
    else
      some 0 := by
  rw [volume_Check.eq]; simp only [taut8, taut1, taut10, taut6, cond_true]

/-! ### sector_one: skyway/sector.one -/
def sector_one.kp : List (Nat × List (Nat × Option (TypeId × Ty))) := [(8, [(19, none), (20, none), (21, none)])]
noncomputable def sector_one.G (N : Nat) : List (Nat × Spec) := [(18, .pure (sector_Name.S N)), (63, .pure (volume_Check.S N))]
noncomputable def sector_one.E (N : Nat) : Env := mkEnv (sector_one.G N) N tyTab sector_one.kp
noncomputable def sector_one.fn (N : Nat) (x : ByteArray × List (List (Int × Int) × Int × Int)) : Option Int := evFn (sector_one.E N) Try.prog 3 Try.f60 false [.agg (.pair (.str) (.sl 113 (.pair (.sl 29 (.pair (.int .i64) (.int .i64))) (.pair (.int .i64) (.int .i64)))))] [.val (.cell (.int .i64))] x
noncomputable def sector_one.S (N : Nat) : PSpec := ⟨false, [.agg (.pair (.str) (.sl 113 (.pair (.sl 29 (.pair (.int .i64) (.int .i64))) (.pair (.int .i64) (.int .i64)))))], [.val (.cell (.int .i64))], sector_one.fn N⟩
theorem f60_enters : Enters Try.prog 60 := ⟨Try.f60, Try.func60, by kernel_rfl, by kernel_rfl⟩
theorem sector_one.tab (N : Nat) : TabOk Try.prog (sector_one.G N) := ⟨⟨sector_Name.enters, sector_Name.sound N⟩, ⟨volume_Check.enters, volume_Check.sound N⟩, trivial⟩
theorem sector_one.enters : Enters Try.prog 60 := f60_enters
theorem sector_one.sound (N : Nat) : Sound Try.prog 60 (sector_one.S N) := evFn_sound (specs_tab (sector_one.tab N)) (inls_tab (sector_one.tab N)) mixed 3 Try.func60 _ _ _
noncomputable def sector_one.cd (N : Nat) (p : List Nat) : St → (Ex → St → Option Int) → Option Int := ev (sector_one.E N) Try.prog (callD (sector_one.E N) Try.prog 3) 0 (codeAt (bodyOf Try.f60) p)
noncomputable def sector_one.fin : Ex → St → Option Int := endK Try.prog Try.f60 [.val (.cell (.int .i64))]
noncomputable def sector_one.l0 (N : Nat) (x0 : ByteArray × List (List (Int × Int) × Int × Int)) (k2 : Nat) (a3 : Int) : Option Int :=
  loopN (norm ((sector_one.E N).keep 8) 0) (sector_one.cd N [1, 1, 1, 1, 0, 1, 0, 0]) k2
  ⟨[.any, .any, .any, .any, .any, .any, .any, .any, .any, .any, .any, .any, .any, .any, .any, .any, .any, .any, .any, .ros false 113 (.pair (.sl 29 (.pair (.int .i64) (.int .i64))) (.pair (.int .i64) (.int .i64))) x0.2, .sc (.int .i64 (x0.2.length : Int)), .sc (.int .i64 a3), .any, .any, .any, .any, .any, .any, .any, .any, .any], []⟩
  (blockK 0 (seqK (sector_one.cd N [1, 1, 1, 1, 1]) sector_one.fin))
theorem sector_one.l0_zero (N : Nat) (x0 : ByteArray × List (List (Int × Int) × Int × Int)) (a3 : Int) : sector_one.l0 N x0 0 a3 = none := by kernel_rfl
theorem sector_one.l0_succ (N : Nat) (x0 : ByteArray × List (List (Int × Int) × Int × Int)) (k2 : Nat) (a3 : Int) : sector_one.l0 N x0 (k2 + 1) a3 =
    bif decide (a3 < (x0.2.length : Int)) then
      bif (decide (0 ≤ a3)) && (decide (a3 < (x0.2.length : Int))) then
        (volume_Check.fn N (List.getD x0.2 (Int.toNat a3) ([], (0, 0)))).bind fun r4 =>
        bif !(r4 == 0) then
          some r4
        else
          sector_one.l0 N x0 k2 (w (a3 + 1))
      else
        none
    else
      some 0 := by kernel_rfl
theorem sector_one.l0_cons (N : Nat) (x0 : ByteArray × List (List (Int × Int) × Int × Int)) (k2 : Nat) {pre r} {x} (hl : x0.2 = pre ++ x :: r) (hb : x0.2.length < 4611686018427387904) : sector_one.l0 N x0 (k2 + 1) (pre.length : Int) =
    (volume_Check.fn N x).bind fun r4 =>
    bif !(r4 == 0) then
      some r4
    else
      sector_one.l0 N x0 k2 ((pre.length : Int) + 1) := by
  have hlen : x0.2.length = pre.length + 1 + r.length := by rw [hl]; simp; omega
  have e1 : decide ((pre.length : Int) < (x0.2.length : Int)) = true := by rw [decide_eq_true_iff]; omega
  have e2 : decide (0 ≤ (pre.length : Int)) = true := by rw [decide_eq_true_iff]; omega
  have e4 : w ((pre.length : Int) + 1) = (pre.length : Int) + 1 := w_next hl hb
  have e5 : List.take pre.length x0.2 = pre := by rw [hl]; simp
  have e6 : decide ((pre.length : Int) ≤ (x0.2.length : Int)) = true := by rw [decide_eq_true_iff]; omega
  have g0 : List.getD x0.2 pre.length ([], (0, 0)) = x := by rw [hl]; exact getD_mid pre x r _
  rw [sector_one.l0_succ]
  simp -implicitDefEqProofs only [Int.toNat_natCast, e1, e2, e4, e6, g0, e5, Bool.and_true, Bool.true_and, Bool.true_or, cond_true]
theorem sector_one.l0_nil (N : Nat) (x0 : ByteArray × List (List (Int × Int) × Int × Int)) (k2 : Nat) : sector_one.l0 N x0 (k2 + 1) (x0.2.length : Int) =
    some 0 := by
  have e1 : decide ((x0.2.length : Int) < (x0.2.length : Int)) = false := by rw [decide_eq_false_iff_not]; omega
  rw [sector_one.l0_succ]
  simp -implicitDefEqProofs only [e1, cond_false]
theorem sector_one.eq (N : Nat) (x0 : ByteArray × List (List (Int × Int) × Int × Int)) : sector_one.fn N x0 =
    (sector_Name.fn N x0.1).bind fun r1 =>
    bif !r1 then
      some 3
    else
    bif (x0.2.length : Int) == 0 then
      some 8
    else
    bif decide ((x0.2.length : Int) > 4) then
      some 2
    else
      sector_one.l0 N x0 N 0 := by kernel_rfl

/-! ### sector_rooms: skyway/sector.rooms -/
def sector_rooms.kp : List (Nat × List (Nat × Option (TypeId × Ty))) := [(3, [(3, some (113, .pair (.sl 29 (.pair (.int .i64) (.int .i64))) (.pair (.int .i64) (.int .i64)))), (6, none), (7, none), (8, none)])]
noncomputable def sector_rooms.G (N : Nat) : List (Nat × Spec) := []
noncomputable def sector_rooms.E (N : Nat) : Env := mkEnv (sector_rooms.G N) N tyTab sector_rooms.kp
noncomputable def sector_rooms.fn (N : Nat) (x : List (ByteArray × List (List (Int × Int) × Int × Int))) : Option (List (List (Int × Int) × Int × Int)) := evFn (sector_rooms.E N) Try.prog 3 Try.f62 true [.cell (.sl 106 (.pair (.str) (.sl 113 (.pair (.sl 29 (.pair (.int .i64) (.int .i64))) (.pair (.int .i64) (.int .i64))))))] [.own 113 (.pair (.sl 29 (.pair (.int .i64) (.int .i64))) (.pair (.int .i64) (.int .i64)))] x
noncomputable def sector_rooms.S (N : Nat) : PSpec := ⟨true, [.cell (.sl 106 (.pair (.str) (.sl 113 (.pair (.sl 29 (.pair (.int .i64) (.int .i64))) (.pair (.int .i64) (.int .i64))))))], [.own 113 (.pair (.sl 29 (.pair (.int .i64) (.int .i64))) (.pair (.int .i64) (.int .i64)))], sector_rooms.fn N⟩
theorem f62_enters : Enters Try.prog 62 := ⟨Try.f62, Try.func62, by kernel_rfl, by kernel_rfl⟩
theorem sector_rooms.tab (N : Nat) : TabOk Try.prog (sector_rooms.G N) := trivial
theorem sector_rooms.enters : Enters Try.prog 62 := f62_enters
theorem sector_rooms.sound (N : Nat) : Sound Try.prog 62 (sector_rooms.S N) := evFn_sound (specs_tab (sector_rooms.tab N)) (inls_tab (sector_rooms.tab N)) mixed 3 Try.func62 _ _ _
noncomputable def sector_rooms.cd (N : Nat) (p : List Nat) : St → (Ex → St → Option (List (List (Int × Int) × Int × Int))) → Option (List (List (Int × Int) × Int × Int)) := ev (sector_rooms.E N) Try.prog (callD (sector_rooms.E N) Try.prog 3) 0 (codeAt (bodyOf Try.f62) p)
noncomputable def sector_rooms.fin : Ex → St → Option (List (List (Int × Int) × Int × Int)) := endK Try.prog Try.f62 [.own 113 (.pair (.sl 29 (.pair (.int .i64) (.int .i64))) (.pair (.int .i64) (.int .i64)))]
noncomputable def sector_rooms.l0 (N : Nat) (x0 : List (ByteArray × List (List (Int × Int) × Int × Int))) (k1 : Nat) (a2 : Int) (a3 : List (List (Int × Int) × Int × Int)) : Option (List (List (Int × Int) × Int × Int)) :=
  loopN (norm ((sector_rooms.E N).keep 3) 0) (sector_rooms.cd N [1, 1, 0, 1, 0, 0]) k1
  ⟨[.any, .any, .any, .own 0, .any, .any, .ros true 106 (.pair (.str) (.sl 113 (.pair (.sl 29 (.pair (.int .i64) (.int .i64))) (.pair (.int .i64) (.int .i64))))) x0, .sc (.int .i64 (x0.length : Int)), .sc (.int .i64 a2), .any, .any, .any, .any, .any, .any, .any, .any, .any], [.rows true 113 (.pair (.sl 29 (.pair (.int .i64) (.int .i64))) (.pair (.int .i64) (.int .i64))) a3]⟩
  (blockK 0 (seqK (sector_rooms.cd N [1, 1, 1]) sector_rooms.fin))
theorem sector_rooms.l0_zero (N : Nat) (x0 : List (ByteArray × List (List (Int × Int) × Int × Int))) (a2 : Int) (a3 : List (List (Int × Int) × Int × Int)) : sector_rooms.l0 N x0 0 a2 a3 = none := by kernel_rfl
theorem sector_rooms.l0_succ (N : Nat) (x0 : List (ByteArray × List (List (Int × Int) × Int × Int))) (k1 : Nat) (a2 : Int) (a3 : List (List (Int × Int) × Int × Int)) : sector_rooms.l0 N x0 (k1 + 1) a2 a3 =
    bif decide (a2 < (x0.length : Int)) then
      bif (decide (0 ≤ a2)) && (decide (a2 < (x0.length : Int))) then
        bif decide ((a3.length + ((List.getD x0 (Int.toNat a2) ((⟨#[]⟩ : ByteArray), [])).2).length) * 40 ≤ 140737488355328) && decide ((a3.length + ((List.getD x0 (Int.toNat a2) ((⟨#[]⟩ : ByteArray), [])).2).length) ≤ maxLen) then
          sector_rooms.l0 N x0 k1 (w (a2 + 1)) (a3 ++ (List.getD x0 (Int.toNat a2) ((⟨#[]⟩ : ByteArray), [])).2)
        else
          none
      else
        none
    else
      some a3 := by kernel_rfl
theorem sector_rooms.l0_cons (N : Nat) (x0 : List (ByteArray × List (List (Int × Int) × Int × Int))) (k1 : Nat) (a3 : List (List (Int × Int) × Int × Int)) {pre r} {x} (hl : x0 = pre ++ x :: r) (hb : x0.length < 4611686018427387904) : sector_rooms.l0 N x0 (k1 + 1) (pre.length : Int) a3 =
    bif decide ((a3.length + (x.2).length) * 40 ≤ 140737488355328) && decide ((a3.length + (x.2).length) ≤ maxLen) then
      sector_rooms.l0 N x0 k1 ((pre.length : Int) + 1) (a3 ++ x.2)
    else
      none := by
  have hlen : x0.length = pre.length + 1 + r.length := by rw [hl]; simp; omega
  have e1 : decide ((pre.length : Int) < (x0.length : Int)) = true := by rw [decide_eq_true_iff]; omega
  have e2 : decide (0 ≤ (pre.length : Int)) = true := by rw [decide_eq_true_iff]; omega
  have e4 : w ((pre.length : Int) + 1) = (pre.length : Int) + 1 := w_next hl hb
  have e5 : List.take pre.length x0 = pre := by rw [hl]; simp
  have e6 : decide ((pre.length : Int) ≤ (x0.length : Int)) = true := by rw [decide_eq_true_iff]; omega
  have g0 : List.getD x0 pre.length ((⟨#[]⟩ : ByteArray), []) = x := by rw [hl]; exact getD_mid pre x r _
  rw [sector_rooms.l0_succ]
  simp -implicitDefEqProofs only [Int.toNat_natCast, e1, e2, e4, e6, g0, e5, Bool.and_true, Bool.true_and, Bool.true_or, cond_true]
theorem sector_rooms.l0_nil (N : Nat) (x0 : List (ByteArray × List (List (Int × Int) × Int × Int))) (k1 : Nat) (a3 : List (List (Int × Int) × Int × Int)) : sector_rooms.l0 N x0 (k1 + 1) (x0.length : Int) a3 =
    some a3 := by
  have e1 : decide ((x0.length : Int) < (x0.length : Int)) = false := by rw [decide_eq_false_iff_not]; omega
  rw [sector_rooms.l0_succ]
  simp -implicitDefEqProofs only [e1, cond_false]
theorem sector_rooms.eq (N : Nat) (x0 : List (ByteArray × List (List (Int × Int) × Int × Int))) : sector_rooms.fn N x0 =
    sector_rooms.l0 N x0 N 0 [] := by kernel_rfl

/-! ### polygon_crosses: skyway/polygon.crosses -/
def polygon_crosses.kp : List (Nat × List (Nat × Option (TypeId × Ty))) := []
noncomputable def polygon_crosses.G (N : Nat) : List (Nat × Spec) := [(106, .pure (plane_Turn.S N))]
noncomputable def polygon_crosses.E (N : Nat) : Env := mkEnv (polygon_crosses.G N) N tyTab polygon_crosses.kp
noncomputable def polygon_crosses.fn (N : Nat) (x : (Int × Int) × (Int × Int) × (Int × Int) × Int × Int) : Option Bool := evFn (polygon_crosses.E N) Try.prog 3 Try.f108 false [.agg (.pair (.int .i64) (.int .i64)), .agg (.pair (.int .i64) (.int .i64)), .agg (.pair (.int .i64) (.int .i64)), .agg (.pair (.int .i64) (.int .i64))] [.val (.cell (.bool))] x
noncomputable def polygon_crosses.S (N : Nat) : PSpec := ⟨false, [.agg (.pair (.int .i64) (.int .i64)), .agg (.pair (.int .i64) (.int .i64)), .agg (.pair (.int .i64) (.int .i64)), .agg (.pair (.int .i64) (.int .i64))], [.val (.cell (.bool))], polygon_crosses.fn N⟩
theorem f108_enters : Enters Try.prog 108 := ⟨Try.f108, Try.func108, by kernel_rfl, by kernel_rfl⟩
theorem polygon_crosses.tab (N : Nat) : TabOk Try.prog (polygon_crosses.G N) := ⟨⟨plane_Turn.enters, plane_Turn.sound N⟩, trivial⟩
theorem polygon_crosses.enters : Enters Try.prog 108 := f108_enters
theorem polygon_crosses.sound (N : Nat) : Sound Try.prog 108 (polygon_crosses.S N) := evFn_sound (specs_tab (polygon_crosses.tab N)) (inls_tab (polygon_crosses.tab N)) mixed 3 Try.func108 _ _ _
theorem polygon_crosses.eq (N : Nat) (x0 : Int × Int) (x1 : Int × Int) (x2 : Int × Int) (x3 : Int × Int) : polygon_crosses.fn N (x0, x1, x2, x3) =
    (plane_Turn.fn N (x0, x1, x2)).bind fun r1 =>
    (plane_Turn.fn N (x0, x1, x3)).bind fun r2 =>
    bif !(decide ((w (r1 * r2)) < 0)) || (decide ((w (r1 * r2)) < 0)) then
      bif !(decide ((w (r1 * r2)) < 0)) || (decide ((w (r1 * r2)) < 0)) then
        bif !(decide ((w (r1 * r2)) < 0)) || (decide ((w (r1 * r2)) < 0)) then
          (bif (decide ((w (r1 * r2)) < 0)) then plane_Turn.fn N (x2, x3, x0) else some (0)).bind fun r3 =>
          bif !(decide ((w (r1 * r2)) < 0)) || (decide ((w (r1 * r2)) < 0)) then
            bif !(decide ((w (r1 * r2)) < 0)) || (decide ((w (r1 * r2)) < 0)) then
              bif !(decide ((w (r1 * r2)) < 0)) || (decide ((w (r1 * r2)) < 0)) then
                (bif (decide ((w (r1 * r2)) < 0)) then plane_Turn.fn N (x2, x3, x1) else some (0)).bind fun r4 =>
                bif !(decide ((w (r1 * r2)) < 0)) || (decide ((w (r1 * r2)) < 0)) then
                  bif !(decide ((w (r1 * r2)) < 0)) || (decide ((w (r1 * r2)) < 0)) then
                    bif !(decide ((w (r1 * r2)) < 0)) || (decide ((w (r1 * r2)) < 0)) then
                      bif (!(decide ((w (r1 * r2)) < 0))) || (decide ((w (r1 * r2)) < 0)) then
                        some ((decide ((w (r1 * r2)) < 0)) && (decide ((w (r3 * r4)) < 0)))
                      else
                        none
                    else
                      none
                  else
                    none
                else
                  none
              else
                none
            else
              none
          else
            none
        else
          none
      else
        none
    else
      none := by kernel_rfl
theorem polygon_crosses.clean (N : Nat) (x0 : Int × Int) (x1 : Int × Int) (x2 : Int × Int) (x3 : Int × Int) : polygon_crosses.fn N (x0, x1, x2, x3) =
    (plane_Turn.fn N (x0, x1, x2)).bind fun r1 =>
    (plane_Turn.fn N (x0, x1, x3)).bind fun r2 =>
    (bif (decide ((w (r1 * r2)) < 0)) then plane_Turn.fn N (x2, x3, x0) else some (0)).bind fun r3 =>
    (bif (decide ((w (r1 * r2)) < 0)) then plane_Turn.fn N (x2, x3, x1) else some (0)).bind fun r4 =>
    some ((decide ((w (r1 * r2)) < 0)) && (decide ((w (r3 * r4)) < 0))) := by
  rw [polygon_crosses.eq]; simp only [taut20, taut21, cond_true]

/-! ### polygon_locate: skyway/polygon.locate -/
def polygon_locate.kp : List (Nat × List (Nat × Option (TypeId × Ty))) := [(3, [(0, none), (3, none), (5, none), (10, none), (11, none), (12, none)])]
noncomputable def polygon_locate.G (N : Nat) : List (Nat × Spec) := [(106, .pure (plane_Turn.S N)), (129, .pure (polygon_on.S N))]
noncomputable def polygon_locate.E (N : Nat) : Env := mkEnv (polygon_locate.G N) N tyTab polygon_locate.kp
noncomputable def polygon_locate.fn (N : Nat) (x : List (Int × Int) × Int × Int) : Option Int := evFn (polygon_locate.E N) Try.prog 3 Try.f111 false [.cell (.sl 29 (.pair (.int .i64) (.int .i64))), .agg (.pair (.int .i64) (.int .i64))] [.val (.cell (.int .i64))] x
noncomputable def polygon_locate.S (N : Nat) : PSpec := ⟨false, [.cell (.sl 29 (.pair (.int .i64) (.int .i64))), .agg (.pair (.int .i64) (.int .i64))], [.val (.cell (.int .i64))], polygon_locate.fn N⟩
theorem f111_enters : Enters Try.prog 111 := ⟨Try.f111, Try.func111, by kernel_rfl, by kernel_rfl⟩
theorem polygon_locate.tab (N : Nat) : TabOk Try.prog (polygon_locate.G N) := ⟨⟨plane_Turn.enters, plane_Turn.sound N⟩, ⟨polygon_on.enters, polygon_on.sound N⟩, trivial⟩
theorem polygon_locate.enters : Enters Try.prog 111 := f111_enters
theorem polygon_locate.sound (N : Nat) : Sound Try.prog 111 (polygon_locate.S N) := evFn_sound (specs_tab (polygon_locate.tab N)) (inls_tab (polygon_locate.tab N)) mixed 3 Try.func111 _ _ _
noncomputable def polygon_locate.cd (N : Nat) (p : List Nat) : St → (Ex → St → Option Int) → Option Int := ev (polygon_locate.E N) Try.prog (callD (polygon_locate.E N) Try.prog 3) 0 (codeAt (bodyOf Try.f111) p)
noncomputable def polygon_locate.fin : Ex → St → Option Int := endK Try.prog Try.f111 [.val (.cell (.int .i64))]
noncomputable def polygon_locate.l0 (N : Nat) (x0 : List (Int × Int)) (x1 : Int × Int) (k1 : Nat) (a2 : Int) (a3 : Int) : Option Int :=
  loopN (norm ((polygon_locate.E N).keep 3) 0) (polygon_locate.cd N [1, 1, 0, 1, 0, 0]) k1
  ⟨[.ros false 29 (.pair (.int .i64) (.int .i64)) x0, .any, .any, .ptr 0 0, .any, .sc (.int .i64 a2), .any, .any, .any, .any, .ros false 29 (.pair (.int .i64) (.int .i64)) x0, .sc (.int .i64 (x0.length : Int)), .sc (.int .i64 a3), .any, .any, .any, .any, .any, .any, .any, .any, .any, .any, .any, .any, .any, .any, .any, .any, .any, .any, .any, .any, .any, .any, .any, .any, .any, .any, .any, .any, .any, .any, .any, .any, .any, .any, .any, .any, .any, .any, .any, .any, .any, .any, .any, .any, .any, .any, .any, .any, .any, .any, .any, .any, .any, .any, .any, .any, .any, .any, .any, .any, .any, .any, .any, .any, .any], [.cells [.sc (.int .i64 x1.1), .sc (.int .i64 x1.2)] 29]⟩
  (blockK 0 (seqK (polygon_locate.cd N [1, 1, 1]) polygon_locate.fin))
theorem polygon_locate.l0_zero (N : Nat) (x0 : List (Int × Int)) (x1 : Int × Int) (a2 : Int) (a3 : Int) : polygon_locate.l0 N x0 x1 0 a2 a3 = none := by kernel_rfl
theorem polygon_locate.l0_succ (N : Nat) (x0 : List (Int × Int)) (x1 : Int × Int) (k1 : Nat) (a2 : Int) (a3 : Int) : polygon_locate.l0 N x0 x1 (k1 + 1) a2 a3 =
    bif decide (a3 < (x0.length : Int)) then
      bif (decide (0 ≤ a3)) && (decide (a3 < (x0.length : Int))) then
        bif (x0.length : Int) != 0 then
          bif (decide (0 ≤ (Int.tmod (w ((w (a3 + (x0.length : Int))) - 1)) (x0.length : Int)))) && (decide ((Int.tmod (w ((w (a3 + (x0.length : Int))) - 1)) (x0.length : Int)) < (x0.length : Int))) then
            (plane_Turn.fn N (List.getD x0 (Int.toNat (Int.tmod (w ((w (a3 + (x0.length : Int))) - 1)) (x0.length : Int))) (0, 0), List.getD x0 (Int.toNat a3) (0, 0), x1)).bind fun r4 =>
            bif !(r4 == 0) || (r4 == 0) then
              bif !(r4 == 0) || (r4 == 0) then
                bif !(r4 == 0) || (r4 == 0) then
                  (bif (r4 == 0) then polygon_on.fn N (List.getD x0 (Int.toNat (Int.tmod (w ((w (a3 + (x0.length : Int))) - 1)) (x0.length : Int))) (0, 0), List.getD x0 (Int.toNat a3) (0, 0), x1) else some (false)).bind fun r5 =>
                  bif (!(r4 == 0)) || (r4 == 0) then
                    bif (r4 == 0) && r5 then
                      some 0
                    else
                    bif !(decide (((List.getD x0 (Int.toNat (Int.tmod (w ((w (a3 + (x0.length : Int))) - 1)) (x0.length : Int))) (0, 0)).2) ≤ x1.2)) || (decide (((List.getD x0 (Int.toNat (Int.tmod (w ((w (a3 + (x0.length : Int))) - 1)) (x0.length : Int))) (0, 0)).2) ≤ x1.2)) then
                      bif !(decide (((List.getD x0 (Int.toNat (Int.tmod (w ((w (a3 + (x0.length : Int))) - 1)) (x0.length : Int))) (0, 0)).2) ≤ x1.2)) || (decide (((List.getD x0 (Int.toNat (Int.tmod (w ((w (a3 + (x0.length : Int))) - 1)) (x0.length : Int))) (0, 0)).2) ≤ x1.2)) then
                        bif !(decide (((List.getD x0 (Int.toNat (Int.tmod (w ((w (a3 + (x0.length : Int))) - 1)) (x0.length : Int))) (0, 0)).2) ≤ x1.2)) || (decide (((List.getD x0 (Int.toNat (Int.tmod (w ((w (a3 + (x0.length : Int))) - 1)) (x0.length : Int))) (0, 0)).2) ≤ x1.2)) then
                          bif !(decide (((List.getD x0 (Int.toNat (Int.tmod (w ((w (a3 + (x0.length : Int))) - 1)) (x0.length : Int))) (0, 0)).2) ≤ x1.2)) || (decide (((List.getD x0 (Int.toNat (Int.tmod (w ((w (a3 + (x0.length : Int))) - 1)) (x0.length : Int))) (0, 0)).2) ≤ x1.2)) then
                            bif (!(decide (((List.getD x0 (Int.toNat (Int.tmod (w ((w (a3 + (x0.length : Int))) - 1)) (x0.length : Int))) (0, 0)).2) ≤ x1.2))) || (decide (((List.getD x0 (Int.toNat (Int.tmod (w ((w (a3 + (x0.length : Int))) - 1)) (x0.length : Int))) (0, 0)).2) ≤ x1.2)) then
                              bif !((decide (((List.getD x0 (Int.toNat (Int.tmod (w ((w (a3 + (x0.length : Int))) - 1)) (x0.length : Int))) (0, 0)).2) ≤ x1.2)) && (decide (x1.2 < ((List.getD x0 (Int.toNat a3) (0, 0)).2)))) || ((decide (((List.getD x0 (Int.toNat (Int.tmod (w ((w (a3 + (x0.length : Int))) - 1)) (x0.length : Int))) (0, 0)).2) ≤ x1.2)) && (decide (x1.2 < ((List.getD x0 (Int.toNat a3) (0, 0)).2)))) then
                                bif (!((decide (((List.getD x0 (Int.toNat (Int.tmod (w ((w (a3 + (x0.length : Int))) - 1)) (x0.length : Int))) (0, 0)).2) ≤ x1.2)) && (decide (x1.2 < ((List.getD x0 (Int.toNat a3) (0, 0)).2))))) || ((decide (((List.getD x0 (Int.toNat (Int.tmod (w ((w (a3 + (x0.length : Int))) - 1)) (x0.length : Int))) (0, 0)).2) ≤ x1.2)) && (decide (x1.2 < ((List.getD x0 (Int.toNat a3) (0, 0)).2)))) then
                                  bif !(!(((decide (((List.getD x0 (Int.toNat (Int.tmod (w ((w (a3 + (x0.length : Int))) - 1)) (x0.length : Int))) (0, 0)).2) ≤ x1.2)) && (decide (x1.2 < ((List.getD x0 (Int.toNat a3) (0, 0)).2)))) && (decide (r4 > 0)))) || (!(((decide (((List.getD x0 (Int.toNat (Int.tmod (w ((w (a3 + (x0.length : Int))) - 1)) (x0.length : Int))) (0, 0)).2) ≤ x1.2)) && (decide (x1.2 < ((List.getD x0 (Int.toNat a3) (0, 0)).2)))) && (decide (r4 > 0)))) then
                                    bif !(!(((decide (((List.getD x0 (Int.toNat (Int.tmod (w ((w (a3 + (x0.length : Int))) - 1)) (x0.length : Int))) (0, 0)).2) ≤ x1.2)) && (decide (x1.2 < ((List.getD x0 (Int.toNat a3) (0, 0)).2)))) && (decide (r4 > 0)))) || (!(((decide (((List.getD x0 (Int.toNat (Int.tmod (w ((w (a3 + (x0.length : Int))) - 1)) (x0.length : Int))) (0, 0)).2) ≤ x1.2)) && (decide (x1.2 < ((List.getD x0 (Int.toNat a3) (0, 0)).2)))) && (decide (r4 > 0)))) then
                                      bif !(!(((decide (((List.getD x0 (Int.toNat (Int.tmod (w ((w (a3 + (x0.length : Int))) - 1)) (x0.length : Int))) (0, 0)).2) ≤ x1.2)) && (decide (x1.2 < ((List.getD x0 (Int.toNat a3) (0, 0)).2)))) && (decide (r4 > 0)))) || (!(((decide (((List.getD x0 (Int.toNat (Int.tmod (w ((w (a3 + (x0.length : Int))) - 1)) (x0.length : Int))) (0, 0)).2) ≤ x1.2)) && (decide (x1.2 < ((List.getD x0 (Int.toNat a3) (0, 0)).2)))) && (decide (r4 > 0)))) then
                                        bif !(!(((decide (((List.getD x0 (Int.toNat (Int.tmod (w ((w (a3 + (x0.length : Int))) - 1)) (x0.length : Int))) (0, 0)).2) ≤ x1.2)) && (decide (x1.2 < ((List.getD x0 (Int.toNat a3) (0, 0)).2)))) && (decide (r4 > 0)))) || (!(((decide (((List.getD x0 (Int.toNat (Int.tmod (w ((w (a3 + (x0.length : Int))) - 1)) (x0.length : Int))) (0, 0)).2) ≤ x1.2)) && (decide (x1.2 < ((List.getD x0 (Int.toNat a3) (0, 0)).2)))) && (decide (r4 > 0)))) then
                                          bif !(!(((decide (((List.getD x0 (Int.toNat (Int.tmod (w ((w (a3 + (x0.length : Int))) - 1)) (x0.length : Int))) (0, 0)).2) ≤ x1.2)) && (decide (x1.2 < ((List.getD x0 (Int.toNat a3) (0, 0)).2)))) && (decide (r4 > 0)))) || (!(((decide (((List.getD x0 (Int.toNat (Int.tmod (w ((w (a3 + (x0.length : Int))) - 1)) (x0.length : Int))) (0, 0)).2) ≤ x1.2)) && (decide (x1.2 < ((List.getD x0 (Int.toNat a3) (0, 0)).2)))) && (decide (r4 > 0)))) then
                                            bif !((!(((decide (((List.getD x0 (Int.toNat (Int.tmod (w ((w (a3 + (x0.length : Int))) - 1)) (x0.length : Int))) (0, 0)).2) ≤ x1.2)) && (decide (x1.2 < ((List.getD x0 (Int.toNat a3) (0, 0)).2)))) && (decide (r4 > 0)))) && (decide (((List.getD x0 (Int.toNat a3) (0, 0)).2) ≤ x1.2))) || ((!(((decide (((List.getD x0 (Int.toNat (Int.tmod (w ((w (a3 + (x0.length : Int))) - 1)) (x0.length : Int))) (0, 0)).2) ≤ x1.2)) && (decide (x1.2 < ((List.getD x0 (Int.toNat a3) (0, 0)).2)))) && (decide (r4 > 0)))) && (decide (((List.getD x0 (Int.toNat a3) (0, 0)).2) ≤ x1.2))) then
                                              bif !((!(((decide (((List.getD x0 (Int.toNat (Int.tmod (w ((w (a3 + (x0.length : Int))) - 1)) (x0.length : Int))) (0, 0)).2) ≤ x1.2)) && (decide (x1.2 < ((List.getD x0 (Int.toNat a3) (0, 0)).2)))) && (decide (r4 > 0)))) && (decide (((List.getD x0 (Int.toNat a3) (0, 0)).2) ≤ x1.2))) || ((!(((decide (((List.getD x0 (Int.toNat (Int.tmod (w ((w (a3 + (x0.length : Int))) - 1)) (x0.length : Int))) (0, 0)).2) ≤ x1.2)) && (decide (x1.2 < ((List.getD x0 (Int.toNat a3) (0, 0)).2)))) && (decide (r4 > 0)))) && (decide (((List.getD x0 (Int.toNat a3) (0, 0)).2) ≤ x1.2))) then
                                                bif !((!(((decide (((List.getD x0 (Int.toNat (Int.tmod (w ((w (a3 + (x0.length : Int))) - 1)) (x0.length : Int))) (0, 0)).2) ≤ x1.2)) && (decide (x1.2 < ((List.getD x0 (Int.toNat a3) (0, 0)).2)))) && (decide (r4 > 0)))) && (decide (((List.getD x0 (Int.toNat a3) (0, 0)).2) ≤ x1.2))) || ((!(((decide (((List.getD x0 (Int.toNat (Int.tmod (w ((w (a3 + (x0.length : Int))) - 1)) (x0.length : Int))) (0, 0)).2) ≤ x1.2)) && (decide (x1.2 < ((List.getD x0 (Int.toNat a3) (0, 0)).2)))) && (decide (r4 > 0)))) && (decide (((List.getD x0 (Int.toNat a3) (0, 0)).2) ≤ x1.2))) then
                                                  bif !((!(((decide (((List.getD x0 (Int.toNat (Int.tmod (w ((w (a3 + (x0.length : Int))) - 1)) (x0.length : Int))) (0, 0)).2) ≤ x1.2)) && (decide (x1.2 < ((List.getD x0 (Int.toNat a3) (0, 0)).2)))) && (decide (r4 > 0)))) && (decide (((List.getD x0 (Int.toNat a3) (0, 0)).2) ≤ x1.2))) || ((!(((decide (((List.getD x0 (Int.toNat (Int.tmod (w ((w (a3 + (x0.length : Int))) - 1)) (x0.length : Int))) (0, 0)).2) ≤ x1.2)) && (decide (x1.2 < ((List.getD x0 (Int.toNat a3) (0, 0)).2)))) && (decide (r4 > 0)))) && (decide (((List.getD x0 (Int.toNat a3) (0, 0)).2) ≤ x1.2))) then
                                                    bif !(!(((decide (((List.getD x0 (Int.toNat (Int.tmod (w ((w (a3 + (x0.length : Int))) - 1)) (x0.length : Int))) (0, 0)).2) ≤ x1.2)) && (decide (x1.2 < ((List.getD x0 (Int.toNat a3) (0, 0)).2)))) && (decide (r4 > 0)))) || (!(((decide (((List.getD x0 (Int.toNat (Int.tmod (w ((w (a3 + (x0.length : Int))) - 1)) (x0.length : Int))) (0, 0)).2) ≤ x1.2)) && (decide (x1.2 < ((List.getD x0 (Int.toNat a3) (0, 0)).2)))) && (decide (r4 > 0)))) then
                                                      bif !(!(((decide (((List.getD x0 (Int.toNat (Int.tmod (w ((w (a3 + (x0.length : Int))) - 1)) (x0.length : Int))) (0, 0)).2) ≤ x1.2)) && (decide (x1.2 < ((List.getD x0 (Int.toNat a3) (0, 0)).2)))) && (decide (r4 > 0)))) || ((!(decide (((List.getD x0 (Int.toNat a3) (0, 0)).2) ≤ x1.2))) || ((!(((decide (((List.getD x0 (Int.toNat (Int.tmod (w ((w (a3 + (x0.length : Int))) - 1)) (x0.length : Int))) (0, 0)).2) ≤ x1.2)) && (decide (x1.2 < ((List.getD x0 (Int.toNat a3) (0, 0)).2)))) && (decide (r4 > 0)))) && (decide (((List.getD x0 (Int.toNat a3) (0, 0)).2) ≤ x1.2)))) then
                                                        bif !(!(((decide (((List.getD x0 (Int.toNat (Int.tmod (w ((w (a3 + (x0.length : Int))) - 1)) (x0.length : Int))) (0, 0)).2) ≤ x1.2)) && (decide (x1.2 < ((List.getD x0 (Int.toNat a3) (0, 0)).2)))) && (decide (r4 > 0)))) || (!(((decide (((List.getD x0 (Int.toNat (Int.tmod (w ((w (a3 + (x0.length : Int))) - 1)) (x0.length : Int))) (0, 0)).2) ≤ x1.2)) && (decide (x1.2 < ((List.getD x0 (Int.toNat a3) (0, 0)).2)))) && (decide (r4 > 0)))) then
                                                          bif !((!(((decide (((List.getD x0 (Int.toNat (Int.tmod (w ((w (a3 + (x0.length : Int))) - 1)) (x0.length : Int))) (0, 0)).2) ≤ x1.2)) && (decide (x1.2 < ((List.getD x0 (Int.toNat a3) (0, 0)).2)))) && (decide (r4 > 0)))) && ((decide (((List.getD x0 (Int.toNat a3) (0, 0)).2) ≤ x1.2)) && (decide (x1.2 < ((List.getD x0 (Int.toNat (Int.tmod (w ((w (a3 + (x0.length : Int))) - 1)) (x0.length : Int))) (0, 0)).2))))) || ((!(((decide (((List.getD x0 (Int.toNat (Int.tmod (w ((w (a3 + (x0.length : Int))) - 1)) (x0.length : Int))) (0, 0)).2) ≤ x1.2)) && (decide (x1.2 < ((List.getD x0 (Int.toNat a3) (0, 0)).2)))) && (decide (r4 > 0)))) && ((decide (((List.getD x0 (Int.toNat a3) (0, 0)).2) ≤ x1.2)) && (decide (x1.2 < ((List.getD x0 (Int.toNat (Int.tmod (w ((w (a3 + (x0.length : Int))) - 1)) (x0.length : Int))) (0, 0)).2))))) then
                                                            bif !(!(((decide (((List.getD x0 (Int.toNat (Int.tmod (w ((w (a3 + (x0.length : Int))) - 1)) (x0.length : Int))) (0, 0)).2) ≤ x1.2)) && (decide (x1.2 < ((List.getD x0 (Int.toNat a3) (0, 0)).2)))) && (decide (r4 > 0)))) || (!(((decide (((List.getD x0 (Int.toNat (Int.tmod (w ((w (a3 + (x0.length : Int))) - 1)) (x0.length : Int))) (0, 0)).2) ≤ x1.2)) && (decide (x1.2 < ((List.getD x0 (Int.toNat a3) (0, 0)).2)))) && (decide (r4 > 0)))) then
                                                              bif !(!(((decide (((List.getD x0 (Int.toNat (Int.tmod (w ((w (a3 + (x0.length : Int))) - 1)) (x0.length : Int))) (0, 0)).2) ≤ x1.2)) && (decide (x1.2 < ((List.getD x0 (Int.toNat a3) (0, 0)).2)))) && (decide (r4 > 0)))) || ((!((decide (((List.getD x0 (Int.toNat a3) (0, 0)).2) ≤ x1.2)) && (decide (x1.2 < ((List.getD x0 (Int.toNat (Int.tmod (w ((w (a3 + (x0.length : Int))) - 1)) (x0.length : Int))) (0, 0)).2))))) || ((!(((decide (((List.getD x0 (Int.toNat (Int.tmod (w ((w (a3 + (x0.length : Int))) - 1)) (x0.length : Int))) (0, 0)).2) ≤ x1.2)) && (decide (x1.2 < ((List.getD x0 (Int.toNat a3) (0, 0)).2)))) && (decide (r4 > 0)))) && ((decide (((List.getD x0 (Int.toNat a3) (0, 0)).2) ≤ x1.2)) && (decide (x1.2 < ((List.getD x0 (Int.toNat (Int.tmod (w ((w (a3 + (x0.length : Int))) - 1)) (x0.length : Int))) (0, 0)).2)))))) then
                                                                bif (((decide (((List.getD x0 (Int.toNat (Int.tmod (w ((w (a3 + (x0.length : Int))) - 1)) (x0.length : Int))) (0, 0)).2) ≤ x1.2)) && (decide (x1.2 < ((List.getD x0 (Int.toNat a3) (0, 0)).2)))) && (decide (r4 > 0))) || (!(((decide (((List.getD x0 (Int.toNat (Int.tmod (w ((w (a3 + (x0.length : Int))) - 1)) (x0.length : Int))) (0, 0)).2) ≤ x1.2)) && (decide (x1.2 < ((List.getD x0 (Int.toNat a3) (0, 0)).2)))) && (decide (r4 > 0)))) then
                                                                  bif (((decide (((List.getD x0 (Int.toNat (Int.tmod (w ((w (a3 + (x0.length : Int))) - 1)) (x0.length : Int))) (0, 0)).2) ≤ x1.2)) && (decide (x1.2 < ((List.getD x0 (Int.toNat a3) (0, 0)).2)))) && (decide (r4 > 0))) || (((decide (((List.getD x0 (Int.toNat a3) (0, 0)).2) ≤ x1.2)) && (decide (x1.2 < ((List.getD x0 (Int.toNat (Int.tmod (w ((w (a3 + (x0.length : Int))) - 1)) (x0.length : Int))) (0, 0)).2)))) && (decide (r4 < 0))) then
                                                                    polygon_locate.l0 N x0 x1 k1 (w (-a2)) (w (a3 + 1))
                                                                  else
                                                                    polygon_locate.l0 N x0 x1 k1 a2 (w (a3 + 1))
                                                                else
                                                                  none
                                                              else
                                                                none
                                                            else
                                                              none
                                                          else
                                                            none
                                                        else
                                                          none
                                                      else
                                                        none
                                                    else
                                                      none
                                                  else
                                                    none
                                                else
                                                  none
                                              else
                                                none
                                            else
                                              none
                                          else
                                            none
                                        else
                                          none
                                      else
                                        none
                                    else
                                      none
                                  else
                                    none
                                else
                                  none
                              else
                                none
                            else
                              none
                          else
                            none
                        else
                          none
                      else
                        none
                    else
                      none
                  else
                    none
                else
                  none
              else
                none
            else
              none
          else
            none
        else
          none
      else
        none
    else
      some a2 := by kernel_rfl
theorem taut26 : ∀ p0 p1 p2 : Bool, ((!(!(((p0) && (p1)) && (p2))) || (!(((p0) && (p1)) && (p2))))) = true := by decide
theorem taut27 : ∀ p0 p1 p2 p3 p4 : Bool, ((!(!(((p0) && (p1)) && (p2))) || ((!((p3) && (p4))) || ((!(((p0) && (p1)) && (p2))) && ((p3) && (p4)))))) = true := by decide
theorem taut28 : ∀ p0 p1 p2 p3 : Bool, ((!(!(((p0) && (p1)) && (p2))) || ((!(p3)) || ((!(((p0) && (p1)) && (p2))) && (p3))))) = true := by decide
theorem taut29 : ∀ p0 p1 p2 p3 p4 : Bool, ((!((!(((p0) && (p1)) && (p2))) && ((p3) && (p4))) || ((!(((p0) && (p1)) && (p2))) && ((p3) && (p4))))) = true := by decide
theorem taut30 : ∀ p0 p1 p2 p3 : Bool, ((!((!(((p0) && (p1)) && (p2))) && (p3)) || ((!(((p0) && (p1)) && (p2))) && (p3)))) = true := by decide
theorem taut31 : ∀ p0 p1 : Bool, ((!((p0) && (p1)) || ((p0) && (p1)))) = true := by decide
theorem taut32 : ∀ p0 p1 : Bool, (((!((p0) && (p1))) || ((p0) && (p1)))) = true := by decide
theorem taut33 : ∀ p0 p1 p2 : Bool, (((((p0) && (p1)) && (p2)) || (!(((p0) && (p1)) && (p2))))) = true := by decide
theorem polygon_locate.l0_clean (N : Nat) (x0 : List (Int × Int)) (x1 : Int × Int) (k1 : Nat) (a2 : Int) (a3 : Int) : polygon_locate.l0 N x0 x1 (k1 + 1) a2 a3 =
    bif decide (a3 < (x0.length : Int)) then
      bif (decide (0 ≤ a3)) && (decide (a3 < (x0.length : Int))) then
        bif (x0.length : Int) != 0 then
          bif (decide (0 ≤ (Int.tmod (w ((w (a3 + (x0.length : Int))) - 1)) (x0.length : Int)))) && (decide ((Int.tmod (w ((w (a3 + (x0.length : Int))) - 1)) (x0.length : Int)) < (x0.length : Int))) then
            (plane_Turn.fn N (List.getD x0 (Int.toNat (Int.tmod (w ((w (a3 + (x0.length : Int))) - 1)) (x0.length : Int))) (0, 0), List.getD x0 (Int.toNat a3) (0, 0), x1)).bind fun r4 =>
            (bif (r4 == 0) then polygon_on.fn N (List.getD x0 (Int.toNat (Int.tmod (w ((w (a3 + (x0.length : Int))) - 1)) (x0.length : Int))) (0, 0), List.getD x0 (Int.toNat a3) (0, 0), x1) else some (false)).bind fun r5 =>
            bif (r4 == 0) && r5 then
              some 0
            else
            bif (((decide (((List.getD x0 (Int.toNat (Int.tmod (w ((w (a3 + (x0.length : Int))) - 1)) (x0.length : Int))) (0, 0)).2) ≤ x1.2)) && (decide (x1.2 < ((List.getD x0 (Int.toNat a3) (0, 0)).2)))) && (decide (r4 > 0))) || (((decide (((List.getD x0 (Int.toNat a3) (0, 0)).2) ≤ x1.2)) && (decide (x1.2 < ((List.getD x0 (Int.toNat (Int.tmod (w ((w (a3 + (x0.length : Int))) - 1)) (x0.length : Int))) (0, 0)).2)))) && (decide (r4 < 0))) then
              polygon_locate.l0 N x0 x1 k1 (w (-a2)) (w (a3 + 1))
            else
              polygon_locate.l0 N x0 x1 k1 a2 (w (a3 + 1))
          else
            none
        else
          none
      else
        none
    else
      some a2 := by
  rw [polygon_locate.l0_succ]; simp only [taut26, taut27, taut28, taut29, taut30, taut31, taut20, taut32, taut21, taut33, cond_true]
theorem polygon_locate.l0_cons (N : Nat) (x0 : List (Int × Int)) (x1 : Int × Int) (k1 : Nat) (a2 : Int) {pre r} {x} (hl : x0 = pre ++ x :: r) (hb : x0.length < 4611686018427387904) : polygon_locate.l0 N x0 x1 (k1 + 1) a2 (pre.length : Int) =
    bif (x0.length : Int) != 0 then
      bif (decide (0 ≤ (Int.tmod (w ((w ((pre.length : Int) + (x0.length : Int))) - 1)) (x0.length : Int)))) && (decide ((Int.tmod (w ((w ((pre.length : Int) + (x0.length : Int))) - 1)) (x0.length : Int)) < (x0.length : Int))) then
        (plane_Turn.fn N (List.getD x0 (Int.toNat (Int.tmod (w ((w ((pre.length : Int) + (x0.length : Int))) - 1)) (x0.length : Int))) (0, 0), x, x1)).bind fun r4 =>
        (bif (r4 == 0) then polygon_on.fn N (List.getD x0 (Int.toNat (Int.tmod (w ((w ((pre.length : Int) + (x0.length : Int))) - 1)) (x0.length : Int))) (0, 0), x, x1) else some (false)).bind fun r5 =>
        bif (r4 == 0) && r5 then
          some 0
        else
        bif (((decide (((List.getD x0 (Int.toNat (Int.tmod (w ((w ((pre.length : Int) + (x0.length : Int))) - 1)) (x0.length : Int))) (0, 0)).2) ≤ x1.2)) && (decide (x1.2 < (x.2)))) && (decide (r4 > 0))) || (((decide ((x.2) ≤ x1.2)) && (decide (x1.2 < ((List.getD x0 (Int.toNat (Int.tmod (w ((w ((pre.length : Int) + (x0.length : Int))) - 1)) (x0.length : Int))) (0, 0)).2)))) && (decide (r4 < 0))) then
          polygon_locate.l0 N x0 x1 k1 (w (-a2)) ((pre.length : Int) + 1)
        else
          polygon_locate.l0 N x0 x1 k1 a2 ((pre.length : Int) + 1)
      else
        none
    else
      none := by
  have hlen : x0.length = pre.length + 1 + r.length := by rw [hl]; simp; omega
  have e1 : decide ((pre.length : Int) < (x0.length : Int)) = true := by rw [decide_eq_true_iff]; omega
  have e2 : decide (0 ≤ (pre.length : Int)) = true := by rw [decide_eq_true_iff]; omega
  have e4 : w ((pre.length : Int) + 1) = (pre.length : Int) + 1 := w_next hl hb
  have e5 : List.take pre.length x0 = pre := by rw [hl]; simp
  have e6 : decide ((pre.length : Int) ≤ (x0.length : Int)) = true := by rw [decide_eq_true_iff]; omega
  have g0 : List.getD x0 pre.length (0, 0) = x := by rw [hl]; exact getD_mid pre x r _
  rw [polygon_locate.l0_clean]
  simp -implicitDefEqProofs only [Int.toNat_natCast, e1, e2, e4, e6, g0, e5, Bool.and_true, Bool.true_and, Bool.true_or, cond_true]
theorem polygon_locate.l0_nil (N : Nat) (x0 : List (Int × Int)) (x1 : Int × Int) (k1 : Nat) (a2 : Int) : polygon_locate.l0 N x0 x1 (k1 + 1) a2 (x0.length : Int) =
    some a2 := by
  have e1 : decide ((x0.length : Int) < (x0.length : Int)) = false := by rw [decide_eq_false_iff_not]; omega
  rw [polygon_locate.l0_clean]
  simp -implicitDefEqProofs only [e1, cond_false]
theorem polygon_locate.eq (N : Nat) (x0 : List (Int × Int)) (x1 : Int × Int) : polygon_locate.fn N (x0, x1) =
    polygon_locate.l0 N x0 x1 N (-1) 0 := by kernel_rfl

/-! ### polygon_scaled: skyway/polygon.scaled -/
def polygon_scaled.kp : List (Nat × List (Nat × Option (TypeId × Ty))) := [(3, [(1, none), (5, some (29, .pair (.int .i64) (.int .i64))), (8, none), (9, none), (10, none)])]
noncomputable def polygon_scaled.G (N : Nat) : List (Nat × Spec) := []
noncomputable def polygon_scaled.E (N : Nat) : Env := mkEnv (polygon_scaled.G N) N tyTab polygon_scaled.kp
noncomputable def polygon_scaled.fn (N : Nat) (x : List (Int × Int) × Int) : Option (List (Int × Int)) := evFn (polygon_scaled.E N) Try.prog 3 Try.f130 false [.cell (.sl 29 (.pair (.int .i64) (.int .i64))), .cell (.int .i64)] [.own 29 (.pair (.int .i64) (.int .i64))] x
noncomputable def polygon_scaled.S (N : Nat) : PSpec := ⟨false, [.cell (.sl 29 (.pair (.int .i64) (.int .i64))), .cell (.int .i64)], [.own 29 (.pair (.int .i64) (.int .i64))], polygon_scaled.fn N⟩
theorem f130_enters : Enters Try.prog 130 := ⟨Try.f130, Try.func130, by kernel_rfl, by kernel_rfl⟩
theorem polygon_scaled.tab (N : Nat) : TabOk Try.prog (polygon_scaled.G N) := trivial
theorem polygon_scaled.enters : Enters Try.prog 130 := f130_enters
theorem polygon_scaled.sound (N : Nat) : Sound Try.prog 130 (polygon_scaled.S N) := evFn_sound (specs_tab (polygon_scaled.tab N)) (inls_tab (polygon_scaled.tab N)) mixed 3 Try.func130 _ _ _
noncomputable def polygon_scaled.cd (N : Nat) (p : List Nat) : St → (Ex → St → Option (List (Int × Int))) → Option (List (Int × Int)) := ev (polygon_scaled.E N) Try.prog (callD (polygon_scaled.E N) Try.prog 3) 0 (codeAt (bodyOf Try.f130) p)
noncomputable def polygon_scaled.fin : Ex → St → Option (List (Int × Int)) := endK Try.prog Try.f130 [.own 29 (.pair (.int .i64) (.int .i64))]
noncomputable def polygon_scaled.l0 (N : Nat) (x0 : List (Int × Int)) (x1 : Int) (k1 : Nat) (a2 : Int) (a3 : List (Int × Int)) : Option (List (Int × Int)) :=
  loopN (norm ((polygon_scaled.E N).keep 3) 0) (polygon_scaled.cd N [1, 1, 0, 1, 0, 0]) k1
  ⟨[.any, .sc (.int .i64 x1), .any, .any, .any, .own 0, .any, .any, .ros false 29 (.pair (.int .i64) (.int .i64)) x0, .sc (.int .i64 (x0.length : Int)), .sc (.int .i64 a2), .any, .any, .any, .any, .any, .any, .any, .any, .any, .any, .any, .any, .any, .any, .any, .any, .any], [.rows true 29 (.pair (.int .i64) (.int .i64)) a3]⟩
  (blockK 0 (seqK (polygon_scaled.cd N [1, 1, 1]) polygon_scaled.fin))
theorem polygon_scaled.l0_zero (N : Nat) (x0 : List (Int × Int)) (x1 : Int) (a2 : Int) (a3 : List (Int × Int)) : polygon_scaled.l0 N x0 x1 0 a2 a3 = none := by kernel_rfl
theorem polygon_scaled.l0_succ (N : Nat) (x0 : List (Int × Int)) (x1 : Int) (k1 : Nat) (a2 : Int) (a3 : List (Int × Int)) : polygon_scaled.l0 N x0 x1 (k1 + 1) a2 a3 =
    bif decide (a2 < (x0.length : Int)) then
      bif (decide (0 ≤ a2)) && (decide (a2 < (x0.length : Int))) then
        bif decide ((a3.length + 1) * 16 ≤ 140737488355328) && decide ((a3.length + 1) ≤ maxLen) then
          polygon_scaled.l0 N x0 x1 k1 (w (a2 + 1)) (a3 ++ [((w (x1 * ((List.getD x0 (Int.toNat a2) (0, 0)).1))), (w (x1 * ((List.getD x0 (Int.toNat a2) (0, 0)).2))))])
        else
          none
      else
        none
    else
      some a3 := by kernel_rfl
theorem polygon_scaled.l0_cons (N : Nat) (x0 : List (Int × Int)) (x1 : Int) (k1 : Nat) (a3 : List (Int × Int)) {pre r} {x} (hl : x0 = pre ++ x :: r) (hb : x0.length < 4611686018427387904) : polygon_scaled.l0 N x0 x1 (k1 + 1) (pre.length : Int) a3 =
    bif decide ((a3.length + 1) * 16 ≤ 140737488355328) && decide ((a3.length + 1) ≤ maxLen) then
      polygon_scaled.l0 N x0 x1 k1 ((pre.length : Int) + 1) (a3 ++ [((w (x1 * (x.1))), (w (x1 * (x.2))))])
    else
      none := by
  have hlen : x0.length = pre.length + 1 + r.length := by rw [hl]; simp; omega
  have e1 : decide ((pre.length : Int) < (x0.length : Int)) = true := by rw [decide_eq_true_iff]; omega
  have e2 : decide (0 ≤ (pre.length : Int)) = true := by rw [decide_eq_true_iff]; omega
  have e4 : w ((pre.length : Int) + 1) = (pre.length : Int) + 1 := w_next hl hb
  have e5 : List.take pre.length x0 = pre := by rw [hl]; simp
  have e6 : decide ((pre.length : Int) ≤ (x0.length : Int)) = true := by rw [decide_eq_true_iff]; omega
  have g0 : List.getD x0 pre.length (0, 0) = x := by rw [hl]; exact getD_mid pre x r _
  rw [polygon_scaled.l0_succ]
  simp -implicitDefEqProofs only [Int.toNat_natCast, e1, e2, e4, e6, g0, e5, Bool.and_true, Bool.true_and, Bool.true_or, cond_true]
theorem polygon_scaled.l0_nil (N : Nat) (x0 : List (Int × Int)) (x1 : Int) (k1 : Nat) (a3 : List (Int × Int)) : polygon_scaled.l0 N x0 x1 (k1 + 1) (x0.length : Int) a3 =
    some a3 := by
  have e1 : decide ((x0.length : Int) < (x0.length : Int)) = false := by rw [decide_eq_false_iff_not]; omega
  rw [polygon_scaled.l0_succ]
  simp -implicitDefEqProofs only [e1, cond_false]
theorem polygon_scaled.eq (N : Nat) (x0 : List (Int × Int)) (x1 : Int) : polygon_scaled.fn N (x0, x1) =
    polygon_scaled.l0 N x0 x1 N 0 [] := by kernel_rfl

/-! ### plane_Add: skyway/plane.Add -/
def plane_Add.kp : List (Nat × List (Nat × Option (TypeId × Ty))) := []
noncomputable def plane_Add.G (N : Nat) : List (Nat × Spec) := []
noncomputable def plane_Add.E (N : Nat) : Env := mkEnv (plane_Add.G N) N tyTab plane_Add.kp
noncomputable def plane_Add.fn (N : Nat) (x : (Int × Int) × Int × Int) : Option (Int × Int) := evFn (plane_Add.E N) Try.prog 3 Try.f131 false [.agg (.pair (.int .i64) (.int .i64)), .agg (.pair (.int .i64) (.int .i64))] [.val (.agg (.pair (.int .i64) (.int .i64)))] x
noncomputable def plane_Add.S (N : Nat) : PSpec := ⟨false, [.agg (.pair (.int .i64) (.int .i64)), .agg (.pair (.int .i64) (.int .i64))], [.val (.agg (.pair (.int .i64) (.int .i64)))], plane_Add.fn N⟩
theorem f131_enters : Enters Try.prog 131 := ⟨Try.f131, Try.func131, by kernel_rfl, by kernel_rfl⟩
theorem plane_Add.tab (N : Nat) : TabOk Try.prog (plane_Add.G N) := trivial
theorem plane_Add.enters : Enters Try.prog 131 := f131_enters
theorem plane_Add.sound (N : Nat) : Sound Try.prog 131 (plane_Add.S N) := evFn_sound (specs_tab (plane_Add.tab N)) (inls_tab (plane_Add.tab N)) mixed 3 Try.func131 _ _ _
theorem plane_Add.eq (N : Nat) (x0 : Int × Int) (x1 : Int × Int) : plane_Add.fn N (x0, x1) =
    some ((w (x0.1 + x1.1)), (w (x0.2 + x1.2))) := by kernel_rfl

/-! ### polygon_pieceInside: skyway/polygon.pieceInside -/
def polygon_pieceInside.kp : List (Nat × List (Nat × Option (TypeId × Ty))) := [(5, [(2, none), (3, none), (4, none), (7, none), (28, none), (29, none), (30, none)]), (12, [(7, none), (10, none), (52, none), (53, none), (54, none)]), (15, [(7, none), (10, none), (12, none), (52, none), (53, none), (54, none), (61, none), (62, none), (63, none)])]
noncomputable def polygon_pieceInside.G (N : Nat) : List (Nat × Spec) := [(106, .pure (plane_Turn.S N)), (111, .pure (polygon_locate.S N)), (129, .pure (polygon_on.S N)), (130, .pure (polygon_scaled.S N)), (131, .pure (plane_Add.S N))]
noncomputable def polygon_pieceInside.E (N : Nat) : Env := mkEnv (polygon_pieceInside.G N) N tyTab polygon_pieceInside.kp
noncomputable def polygon_pieceInside.fn (N : Nat) (x : (Int × Int) × (Int × Int) × List (Int × Int)) : Option Bool := evFn (polygon_pieceInside.E N) Try.prog 3 Try.f109 false [.agg (.pair (.int .i64) (.int .i64)), .agg (.pair (.int .i64) (.int .i64)), .cell (.sl 29 (.pair (.int .i64) (.int .i64)))] [.val (.cell (.bool))] x
noncomputable def polygon_pieceInside.S (N : Nat) : PSpec := ⟨false, [.agg (.pair (.int .i64) (.int .i64)), .agg (.pair (.int .i64) (.int .i64)), .cell (.sl 29 (.pair (.int .i64) (.int .i64)))], [.val (.cell (.bool))], polygon_pieceInside.fn N⟩
theorem f109_enters : Enters Try.prog 109 := ⟨Try.f109, Try.func109, by kernel_rfl, by kernel_rfl⟩
theorem polygon_pieceInside.tab (N : Nat) : TabOk Try.prog (polygon_pieceInside.G N) := ⟨⟨plane_Turn.enters, plane_Turn.sound N⟩, ⟨polygon_locate.enters, polygon_locate.sound N⟩, ⟨polygon_on.enters, polygon_on.sound N⟩, ⟨polygon_scaled.enters, polygon_scaled.sound N⟩, ⟨plane_Add.enters, plane_Add.sound N⟩, trivial⟩
theorem polygon_pieceInside.enters : Enters Try.prog 109 := f109_enters
theorem polygon_pieceInside.sound (N : Nat) : Sound Try.prog 109 (polygon_pieceInside.S N) := evFn_sound (specs_tab (polygon_pieceInside.tab N)) (inls_tab (polygon_pieceInside.tab N)) mixed 3 Try.func109 _ _ _
noncomputable def polygon_pieceInside.cd (N : Nat) (p : List Nat) : St → (Ex → St → Option Bool) → Option Bool := ev (polygon_pieceInside.E N) Try.prog (callD (polygon_pieceInside.E N) Try.prog 3) 0 (codeAt (bodyOf Try.f109) p)
noncomputable def polygon_pieceInside.fin : Ex → St → Option Bool := endK Try.prog Try.f109 [.val (.cell (.bool))]
noncomputable def polygon_pieceInside.l0 (N : Nat) (x0 : Int × Int) (x1 : Int × Int) (x2 : List (Int × Int)) (k3 : Nat) (a4 : Int) (a5 : List (Int × Int)) : Option Bool :=
  loopN (norm ((polygon_pieceInside.E N).keep 5) 0) (polygon_pieceInside.cd N [1, 1, 1, 0, 1, 0, 0]) k3
  ⟨[.any, .any, .ros false 29 (.pair (.int .i64) (.int .i64)) x2, .ptr 0 0, .ptr 1 0, .any, .any, .own 2, .any, .any, .any, .any, .any, .any, .any, .any, .any, .any, .any, .any, .any, .any, .any, .any, .any, .any, .any, .any, .ros false 29 (.pair (.int .i64) (.int .i64)) x2, .sc (.int .i64 (x2.length : Int)), .sc (.int .i64 a4), .any, .any, .any, .any, .any, .any, .any, .any, .any, .any, .any, .any, .any, .any, .any, .any, .any, .any, .any, .any, .any, .any, .any, .any, .any, .any, .any, .any, .any, .any, .any, .any, .any, .any, .any, .any, .any, .any, .any, .any, .any, .any, .any, .any, .any, .any, .any, .any, .any], [.cells [.sc (.int .i64 x0.1), .sc (.int .i64 x0.2)] 29, .cells [.sc (.int .i64 x1.1), .sc (.int .i64 x1.2)] 29, .rows true 29 (.pair (.int .i64) (.int .i64)) a5]⟩
  (blockK 0 (seqK (polygon_pieceInside.cd N [1, 1, 1, 1]) polygon_pieceInside.fin))
noncomputable def polygon_pieceInside.l1 (N : Nat) (a5 : List (Int × Int)) (r8 : List (Int × Int)) (k9 : Nat) (a10 : Int) : Option Bool :=
  loopN (norm ((polygon_pieceInside.E N).keep 12) 0) (polygon_pieceInside.cd N [1, 1, 1, 1, 1, 0, 1, 0, 0]) k9
  ⟨[.any, .any, .any, .any, .any, .any, .any, .own 0, .any, .any, .own 1, .any, .any, .any, .any, .any, .any, .any, .any, .any, .any, .any, .any, .any, .any, .any, .any, .any, .any, .any, .any, .any, .any, .any, .any, .any, .any, .any, .any, .any, .any, .any, .any, .any, .any, .any, .any, .any, .any, .any, .any, .any, .own 0, .sc (.int .i64 (a5.length : Int)), .sc (.int .i64 a10), .any, .any, .any, .any, .any, .any, .any, .any, .any, .any, .any, .any, .any, .any, .any, .any, .any, .any, .any, .any, .any, .any, .any, .any, .any], [.rows true 29 (.pair (.int .i64) (.int .i64)) a5, .rows true 29 (.pair (.int .i64) (.int .i64)) r8]⟩
  (blockK 2 (seqK (polygon_pieceInside.cd N [1, 1, 1, 1, 1, 1]) polygon_pieceInside.fin))
noncomputable def polygon_pieceInside.l2 (N : Nat) (a5 : List (Int × Int)) (r8 : List (Int × Int)) (k9 : Nat) (a10 : Int) (k11 : Nat) (a12 : Int) : Option Bool :=
  loopN (norm ((polygon_pieceInside.E N).keep 15) 0) (polygon_pieceInside.cd N [1, 1, 1, 1, 1, 0, 1, 0, 0, 1, 1, 0, 0, 1, 1, 0, 0]) k11
  ⟨[.any, .any, .any, .any, .any, .any, .any, .own 0, .any, .any, .own 1, .any, .ptr 2 0, .any, .any, .any, .any, .any, .any, .any, .any, .any, .any, .any, .any, .any, .any, .any, .any, .any, .any, .any, .any, .any, .any, .any, .any, .any, .any, .any, .any, .any, .any, .any, .any, .any, .any, .any, .any, .any, .any, .any, .own 0, .sc (.int .i64 (a5.length : Int)), .sc (.int .i64 a10), .any, .any, .any, .any, .any, .any, .osl 0 0 (Int.toNat a10), .sc (.int .i64 ((Int.toNat a10 : Nat) : Int)), .sc (.int .i64 a12), .any, .any, .any, .any, .any, .any, .any, .any, .any, .any, .any, .any, .any, .any, .any, .any], [.rows true 29 (.pair (.int .i64) (.int .i64)) a5, .rows true 29 (.pair (.int .i64) (.int .i64)) r8, .cells [.sc (.int .i64 ((List.getD a5 (Int.toNat a10) (0, 0)).1)), .sc (.int .i64 ((List.getD a5 (Int.toNat a10) (0, 0)).2))] 29]⟩
  (blockK 4 (blockK 3 (seqK (polygon_pieceInside.cd N [1, 1, 1, 1, 1, 0, 1, 0, 0, 1, 1, 1]) (loopK (norm ((polygon_pieceInside.E N).keep 12) 0) (polygon_pieceInside.cd N [1, 1, 1, 1, 1, 0, 1, 0, 0]) k9 (blockK 2 (seqK (polygon_pieceInside.cd N [1, 1, 1, 1, 1, 1]) polygon_pieceInside.fin))))))
theorem polygon_pieceInside.l2_zero (N : Nat) (a5 : List (Int × Int)) (r8 : List (Int × Int)) (k9 : Nat) (a10 : Int) (a12 : Int) : polygon_pieceInside.l2 N a5 r8 k9 a10 0 a12 = none := by kernel_rfl
theorem polygon_pieceInside.l2_succ (N : Nat) (a5 : List (Int × Int)) (r8 : List (Int × Int)) (k9 : Nat) (a10 : Int) (k11 : Nat) (a12 : Int) : polygon_pieceInside.l2 N a5 r8 k9 a10 (k11 + 1) a12 =
    bif decide (a12 < ((Int.toNat a10 : Nat) : Int)) then
      bif (decide (0 ≤ a12)) && (decide (a12 < ((Int.toNat a10 : Nat) : Int))) then
        bif decide ((0 + (Int.toNat a12)) < a5.length) then
          bif !(!((((List.getD a5 (Int.toNat a10) (0, 0)).1) == ((List.getD a5 (0 + (Int.toNat a12)) (0, 0)).1)) && ((((List.getD a5 (Int.toNat a10) (0, 0)).2) == ((List.getD a5 (0 + (Int.toNat a12)) (0, 0)).2)) && true))) || (!((((List.getD a5 (Int.toNat a10) (0, 0)).1) == ((List.getD a5 (0 + (Int.toNat a12)) (0, 0)).1)) && ((((List.getD a5 (Int.toNat a10) (0, 0)).2) == ((List.getD a5 (0 + (Int.toNat a12)) (0, 0)).2)) && true))) then
            bif !(!((((List.getD a5 (Int.toNat a10) (0, 0)).1) == ((List.getD a5 (0 + (Int.toNat a12)) (0, 0)).1)) && ((((List.getD a5 (Int.toNat a10) (0, 0)).2) == ((List.getD a5 (0 + (Int.toNat a12)) (0, 0)).2)) && true))) || (!((((List.getD a5 (Int.toNat a10) (0, 0)).1) == ((List.getD a5 (0 + (Int.toNat a12)) (0, 0)).1)) && ((((List.getD a5 (Int.toNat a10) (0, 0)).2) == ((List.getD a5 (0 + (Int.toNat a12)) (0, 0)).2)) && true))) then
              (bif (!((((List.getD a5 (Int.toNat a10) (0, 0)).1) == ((List.getD a5 (0 + (Int.toNat a12)) (0, 0)).1)) && ((((List.getD a5 (Int.toNat a10) (0, 0)).2) == ((List.getD a5 (0 + (Int.toNat a12)) (0, 0)).2)) && true))) then plane_Add.fn N (List.getD a5 (Int.toNat a10) (0, 0), List.getD a5 (0 + (Int.toNat a12)) (0, 0)) else some ((0, 0))).bind fun r13 =>
              bif !(!((((List.getD a5 (Int.toNat a10) (0, 0)).1) == ((List.getD a5 (0 + (Int.toNat a12)) (0, 0)).1)) && ((((List.getD a5 (Int.toNat a10) (0, 0)).2) == ((List.getD a5 (0 + (Int.toNat a12)) (0, 0)).2)) && true))) || (!((((List.getD a5 (Int.toNat a10) (0, 0)).1) == ((List.getD a5 (0 + (Int.toNat a12)) (0, 0)).1)) && ((((List.getD a5 (Int.toNat a10) (0, 0)).2) == ((List.getD a5 (0 + (Int.toNat a12)) (0, 0)).2)) && true))) then
                bif !(!((((List.getD a5 (Int.toNat a10) (0, 0)).1) == ((List.getD a5 (0 + (Int.toNat a12)) (0, 0)).1)) && ((((List.getD a5 (Int.toNat a10) (0, 0)).2) == ((List.getD a5 (0 + (Int.toNat a12)) (0, 0)).2)) && true))) || (!((((List.getD a5 (Int.toNat a10) (0, 0)).1) == ((List.getD a5 (0 + (Int.toNat a12)) (0, 0)).1)) && ((((List.getD a5 (Int.toNat a10) (0, 0)).2) == ((List.getD a5 (0 + (Int.toNat a12)) (0, 0)).2)) && true))) then
                  (bif (!((((List.getD a5 (Int.toNat a10) (0, 0)).1) == ((List.getD a5 (0 + (Int.toNat a12)) (0, 0)).1)) && ((((List.getD a5 (Int.toNat a10) (0, 0)).2) == ((List.getD a5 (0 + (Int.toNat a12)) (0, 0)).2)) && true))) then polygon_locate.fn N (r8, r13) else some (0)).bind fun r14 =>
                  bif !(!((((List.getD a5 (Int.toNat a10) (0, 0)).1) == ((List.getD a5 (0 + (Int.toNat a12)) (0, 0)).1)) && ((((List.getD a5 (Int.toNat a10) (0, 0)).2) == ((List.getD a5 (0 + (Int.toNat a12)) (0, 0)).2)) && true))) || (!((((List.getD a5 (Int.toNat a10) (0, 0)).1) == ((List.getD a5 (0 + (Int.toNat a12)) (0, 0)).1)) && ((((List.getD a5 (Int.toNat a10) (0, 0)).2) == ((List.getD a5 (0 + (Int.toNat a12)) (0, 0)).2)) && true))) then
                    bif (!(!((((List.getD a5 (Int.toNat a10) (0, 0)).1) == ((List.getD a5 (0 + (Int.toNat a12)) (0, 0)).1)) && ((((List.getD a5 (Int.toNat a10) (0, 0)).2) == ((List.getD a5 (0 + (Int.toNat a12)) (0, 0)).2)) && true)))) || (!((((List.getD a5 (Int.toNat a10) (0, 0)).1) == ((List.getD a5 (0 + (Int.toNat a12)) (0, 0)).1)) && ((((List.getD a5 (Int.toNat a10) (0, 0)).2) == ((List.getD a5 (0 + (Int.toNat a12)) (0, 0)).2)) && true))) then
                      bif (!((((List.getD a5 (Int.toNat a10) (0, 0)).1) == ((List.getD a5 (0 + (Int.toNat a12)) (0, 0)).1)) && ((((List.getD a5 (Int.toNat a10) (0, 0)).2) == ((List.getD a5 (0 + (Int.toNat a12)) (0, 0)).2)) && true))) && (decide (r14 > 0)) then
                        some true
                      else
                        polygon_pieceInside.l2 N a5 r8 k9 a10 k11 (w (a12 + 1))
                    else
                      none
                  else
                    none
                else
                  none
              else
                none
            else
              none
          else
            none
        else
          none
      else
        none
    else
      polygon_pieceInside.l1 N a5 r8 k9 (w (a10 + 1)) := by kernel_rfl
theorem polygon_pieceInside.l1_zero (N : Nat) (a5 : List (Int × Int)) (r8 : List (Int × Int)) (a10 : Int) : polygon_pieceInside.l1 N a5 r8 0 a10 = none := by kernel_rfl
theorem polygon_pieceInside.l1_succ (N : Nat) (a5 : List (Int × Int)) (r8 : List (Int × Int)) (k9 : Nat) (a10 : Int) : polygon_pieceInside.l1 N a5 r8 (k9 + 1) a10 =
    bif decide (a10 < (a5.length : Int)) then
      bif (decide (0 ≤ a10)) && (decide (a10 < (a5.length : Int))) then
        bif decide ((Int.toNat a10) < a5.length) then
          bif (decide (0 ≤ a10)) && (decide (0 + (Int.toNat a10) ≤ a5.length)) then
            polygon_pieceInside.l2 N a5 r8 k9 a10 N 0
          else
            none
        else
          none
      else
        none
    else
      some false := by kernel_rfl
theorem polygon_pieceInside.l0_zero (N : Nat) (x0 : Int × Int) (x1 : Int × Int) (x2 : List (Int × Int)) (a4 : Int) (a5 : List (Int × Int)) : polygon_pieceInside.l0 N x0 x1 x2 0 a4 a5 = none := by kernel_rfl
theorem polygon_pieceInside.l0_succ (N : Nat) (x0 : Int × Int) (x1 : Int × Int) (x2 : List (Int × Int)) (k3 : Nat) (a4 : Int) (a5 : List (Int × Int)) : polygon_pieceInside.l0 N x0 x1 x2 (k3 + 1) a4 a5 =
    bif decide (a4 < (x2.length : Int)) then
      bif (decide (0 ≤ a4)) && (decide (a4 < (x2.length : Int))) then
        (plane_Turn.fn N (x0, x1, List.getD x2 (Int.toNat a4) (0, 0))).bind fun r6 =>
        bif !(r6 == 0) || (r6 == 0) then
          bif !(r6 == 0) || (r6 == 0) then
            bif !(r6 == 0) || (r6 == 0) then
              (bif (r6 == 0) then polygon_on.fn N (x0, x1, List.getD x2 (Int.toNat a4) (0, 0)) else some (false)).bind fun r7 =>
              bif (!(r6 == 0)) || (r6 == 0) then
                bif (r6 == 0) && r7 then
                  bif decide ((a5.length + 1) * 16 ≤ 140737488355328) && decide ((a5.length + 1) ≤ maxLen) then
                    polygon_pieceInside.l0 N x0 x1 x2 k3 (w (a4 + 1)) (a5 ++ [List.getD x2 (Int.toNat a4) (0, 0)])
                  else
                    none
                else
                  polygon_pieceInside.l0 N x0 x1 x2 k3 (w (a4 + 1)) a5
              else
                none
            else
              none
          else
            none
        else
          none
      else
        none
    else
      (polygon_scaled.fn N (x2, 2)).bind fun r8 =>
      polygon_pieceInside.l1 N a5 r8 N 0 := by kernel_rfl
theorem taut34 : ∀ p0 p1 : Bool, ((!(!((p0) && ((p1) && true))) || (!((p0) && ((p1) && true))))) = true := by decide
theorem taut35 : ∀ p0 p1 : Bool, (((!(!((p0) && ((p1) && true)))) || (!((p0) && ((p1) && true))))) = true := by decide
theorem polygon_pieceInside.l2_clean (N : Nat) (a5 : List (Int × Int)) (r8 : List (Int × Int)) (k9 : Nat) (a10 : Int) (k11 : Nat) (a12 : Int) : polygon_pieceInside.l2 N a5 r8 k9 a10 (k11 + 1) a12 =
    bif decide (a12 < ((Int.toNat a10 : Nat) : Int)) then
      bif (decide (0 ≤ a12)) && (decide (a12 < ((Int.toNat a10 : Nat) : Int))) then
        bif decide ((0 + (Int.toNat a12)) < a5.length) then
          (bif (!((((List.getD a5 (Int.toNat a10) (0, 0)).1) == ((List.getD a5 (0 + (Int.toNat a12)) (0, 0)).1)) && ((((List.getD a5 (Int.toNat a10) (0, 0)).2) == ((List.getD a5 (0 + (Int.toNat a12)) (0, 0)).2)) && true))) then plane_Add.fn N (List.getD a5 (Int.toNat a10) (0, 0), List.getD a5 (0 + (Int.toNat a12)) (0, 0)) else some ((0, 0))).bind fun r13 =>
          (bif (!((((List.getD a5 (Int.toNat a10) (0, 0)).1) == ((List.getD a5 (0 + (Int.toNat a12)) (0, 0)).1)) && ((((List.getD a5 (Int.toNat a10) (0, 0)).2) == ((List.getD a5 (0 + (Int.toNat a12)) (0, 0)).2)) && true))) then polygon_locate.fn N (r8, r13) else some (0)).bind fun r14 =>
          bif (!((((List.getD a5 (Int.toNat a10) (0, 0)).1) == ((List.getD a5 (0 + (Int.toNat a12)) (0, 0)).1)) && ((((List.getD a5 (Int.toNat a10) (0, 0)).2) == ((List.getD a5 (0 + (Int.toNat a12)) (0, 0)).2)) && true))) && (decide (r14 > 0)) then
            some true
          else
            polygon_pieceInside.l2 N a5 r8 k9 a10 k11 (w (a12 + 1))
        else
          none
      else
        none
    else
      polygon_pieceInside.l1 N a5 r8 k9 (w (a10 + 1)) := by
  rw [polygon_pieceInside.l2_succ]; simp only [taut34, taut35, cond_true]
theorem polygon_pieceInside.l0_clean (N : Nat) (x0 : Int × Int) (x1 : Int × Int) (x2 : List (Int × Int)) (k3 : Nat) (a4 : Int) (a5 : List (Int × Int)) : polygon_pieceInside.l0 N x0 x1 x2 (k3 + 1) a4 a5 =
    bif decide (a4 < (x2.length : Int)) then
      bif (decide (0 ≤ a4)) && (decide (a4 < (x2.length : Int))) then
        (plane_Turn.fn N (x0, x1, List.getD x2 (Int.toNat a4) (0, 0))).bind fun r6 =>
        (bif (r6 == 0) then polygon_on.fn N (x0, x1, List.getD x2 (Int.toNat a4) (0, 0)) else some (false)).bind fun r7 =>
        bif (r6 == 0) && r7 then
          bif decide ((a5.length + 1) * 16 ≤ 140737488355328) && decide ((a5.length + 1) ≤ maxLen) then
            polygon_pieceInside.l0 N x0 x1 x2 k3 (w (a4 + 1)) (a5 ++ [List.getD x2 (Int.toNat a4) (0, 0)])
          else
            none
        else
          polygon_pieceInside.l0 N x0 x1 x2 k3 (w (a4 + 1)) a5
      else
        none
    else
      (polygon_scaled.fn N (x2, 2)).bind fun r8 =>
      polygon_pieceInside.l1 N a5 r8 N 0 := by
  rw [polygon_pieceInside.l0_succ]; simp only [taut20, taut21, cond_true]
theorem polygon_pieceInside.l1_cons (N : Nat) (a5 : List (Int × Int)) (r8 : List (Int × Int)) (k9 : Nat) {pre r} {x} (hl : a5 = pre ++ x :: r) (hb : a5.length < 4611686018427387904) : polygon_pieceInside.l1 N a5 r8 (k9 + 1) (pre.length : Int) =
    bif decide (pre.length < a5.length) then
      bif decide (0 + pre.length ≤ a5.length) then
        polygon_pieceInside.l2 N a5 r8 k9 (pre.length : Int) N 0
      else
        none
    else
      none := by
  have hlen : a5.length = pre.length + 1 + r.length := by rw [hl]; simp; omega
  have e1 : decide ((pre.length : Int) < (a5.length : Int)) = true := by rw [decide_eq_true_iff]; omega
  have e2 : decide (0 ≤ (pre.length : Int)) = true := by rw [decide_eq_true_iff]; omega
  have e4 : w ((pre.length : Int) + 1) = (pre.length : Int) + 1 := w_next hl hb
  have e5 : List.take pre.length a5 = pre := by rw [hl]; simp
  have e6 : decide ((pre.length : Int) ≤ (a5.length : Int)) = true := by rw [decide_eq_true_iff]; omega
  rw [polygon_pieceInside.l1_succ]
  simp -implicitDefEqProofs only [Int.toNat_natCast, e1, e2, e4, e6, e5, Bool.and_true, Bool.true_and, Bool.true_or, cond_true]
theorem polygon_pieceInside.l1_nil (N : Nat) (a5 : List (Int × Int)) (r8 : List (Int × Int)) (k9 : Nat) : polygon_pieceInside.l1 N a5 r8 (k9 + 1) (a5.length : Int) =
    some false := by
  have e1 : decide ((a5.length : Int) < (a5.length : Int)) = false := by rw [decide_eq_false_iff_not]; omega
  rw [polygon_pieceInside.l1_succ]
  simp -implicitDefEqProofs only [e1, cond_false]
theorem polygon_pieceInside.l0_cons (N : Nat) (x0 : Int × Int) (x1 : Int × Int) (x2 : List (Int × Int)) (k3 : Nat) (a5 : List (Int × Int)) {pre r} {x} (hl : x2 = pre ++ x :: r) (hb : x2.length < 4611686018427387904) : polygon_pieceInside.l0 N x0 x1 x2 (k3 + 1) (pre.length : Int) a5 =
    (plane_Turn.fn N (x0, x1, x)).bind fun r6 =>
    (bif (r6 == 0) then polygon_on.fn N (x0, x1, x) else some (false)).bind fun r7 =>
    bif (r6 == 0) && r7 then
      bif decide ((a5.length + 1) * 16 ≤ 140737488355328) && decide ((a5.length + 1) ≤ maxLen) then
        polygon_pieceInside.l0 N x0 x1 x2 k3 ((pre.length : Int) + 1) (a5 ++ [x])
      else
        none
    else
      polygon_pieceInside.l0 N x0 x1 x2 k3 ((pre.length : Int) + 1) a5 := by
  have hlen : x2.length = pre.length + 1 + r.length := by rw [hl]; simp; omega
  have e1 : decide ((pre.length : Int) < (x2.length : Int)) = true := by rw [decide_eq_true_iff]; omega
  have e2 : decide (0 ≤ (pre.length : Int)) = true := by rw [decide_eq_true_iff]; omega
  have e4 : w ((pre.length : Int) + 1) = (pre.length : Int) + 1 := w_next hl hb
  have e5 : List.take pre.length x2 = pre := by rw [hl]; simp
  have e6 : decide ((pre.length : Int) ≤ (x2.length : Int)) = true := by rw [decide_eq_true_iff]; omega
  have g0 : List.getD x2 pre.length (0, 0) = x := by rw [hl]; exact getD_mid pre x r _
  rw [polygon_pieceInside.l0_clean]
  simp -implicitDefEqProofs only [Int.toNat_natCast, e1, e2, e4, e6, g0, e5, Bool.and_true, Bool.true_and, Bool.true_or, cond_true]
theorem polygon_pieceInside.l0_nil (N : Nat) (x0 : Int × Int) (x1 : Int × Int) (x2 : List (Int × Int)) (k3 : Nat) (a5 : List (Int × Int)) : polygon_pieceInside.l0 N x0 x1 x2 (k3 + 1) (x2.length : Int) a5 =
    (polygon_scaled.fn N (x2, 2)).bind fun r8 =>
    polygon_pieceInside.l1 N a5 r8 N 0 := by
  have e1 : decide ((x2.length : Int) < (x2.length : Int)) = false := by rw [decide_eq_false_iff_not]; omega
  rw [polygon_pieceInside.l0_clean]
  simp -implicitDefEqProofs only [e1, cond_false]
theorem polygon_pieceInside.eq (N : Nat) (x0 : Int × Int) (x1 : Int × Int) (x2 : List (Int × Int)) : polygon_pieceInside.fn N (x0, x1, x2) =
    (polygon_locate.fn N (x2, x0)).bind fun r1 =>
    bif !(!(decide (r1 > 0))) || (!(decide (r1 > 0))) then
      bif !(!(decide (r1 > 0))) || (!(decide (r1 > 0))) then
        (bif (!(decide (r1 > 0))) then polygon_locate.fn N (x2, x1) else some (0)).bind fun r2 =>
        bif !(!(decide (r1 > 0))) || (!(decide (r1 > 0))) then
          bif (decide (r1 > 0)) || (!(decide (r1 > 0))) then
            bif (decide (r1 > 0)) || (decide (r2 > 0)) then
              some true
            else
              polygon_pieceInside.l0 N x0 x1 x2 N 0 [x0, x1]
          else
            none
        else
          none
      else
        none
    else
      none := by kernel_rfl
theorem polygon_pieceInside.clean (N : Nat) (x0 : Int × Int) (x1 : Int × Int) (x2 : List (Int × Int)) : polygon_pieceInside.fn N (x0, x1, x2) =
    (polygon_locate.fn N (x2, x0)).bind fun r1 =>
    (bif (!(decide (r1 > 0))) then polygon_locate.fn N (x2, x1) else some (0)).bind fun r2 =>
    bif (decide (r1 > 0)) || (decide (r2 > 0)) then
      some true
    else
      polygon_pieceInside.l0 N x0 x1 x2 N 0 [x0, x1] := by
  rw [polygon_pieceInside.eq]; simp only [taut1, taut6, cond_true]

/-! ### polygon_same: skyway/polygon.same -/
def polygon_same.kp : List (Nat × List (Nat × Option (TypeId × Ty))) := [(4, [(0, none), (1, none), (13, none), (14, none), (15, none)]), (8, [(0, none), (1, none), (5, none), (26, none), (27, none)])]
noncomputable def polygon_same.G (N : Nat) : List (Nat × Spec) := []
noncomputable def polygon_same.E (N : Nat) : Env := mkEnv (polygon_same.G N) N tyTab polygon_same.kp
noncomputable def polygon_same.fn (N : Nat) (x : List (Int × Int) × List (Int × Int)) : Option Bool := evFn (polygon_same.E N) Try.prog 3 Try.f110 false [.cell (.sl 29 (.pair (.int .i64) (.int .i64))), .cell (.sl 29 (.pair (.int .i64) (.int .i64)))] [.val (.cell (.bool))] x
noncomputable def polygon_same.S (N : Nat) : PSpec := ⟨false, [.cell (.sl 29 (.pair (.int .i64) (.int .i64))), .cell (.sl 29 (.pair (.int .i64) (.int .i64)))], [.val (.cell (.bool))], polygon_same.fn N⟩
theorem f110_enters : Enters Try.prog 110 := ⟨Try.f110, Try.func110, by kernel_rfl, by kernel_rfl⟩
theorem polygon_same.tab (N : Nat) : TabOk Try.prog (polygon_same.G N) := trivial
theorem polygon_same.enters : Enters Try.prog 110 := f110_enters
theorem polygon_same.sound (N : Nat) : Sound Try.prog 110 (polygon_same.S N) := evFn_sound (specs_tab (polygon_same.tab N)) (inls_tab (polygon_same.tab N)) mixed 3 Try.func110 _ _ _
noncomputable def polygon_same.cd (N : Nat) (p : List Nat) : St → (Ex → St → Option Bool) → Option Bool := ev (polygon_same.E N) Try.prog (callD (polygon_same.E N) Try.prog 3) 0 (codeAt (bodyOf Try.f110) p)
noncomputable def polygon_same.fin : Ex → St → Option Bool := endK Try.prog Try.f110 [.val (.cell (.bool))]
noncomputable def polygon_same.l0 (N : Nat) (x0 : List (Int × Int)) (x1 : List (Int × Int)) (k1 : Nat) (a2 : Int) : Option Bool :=
  loopN (norm ((polygon_same.E N).keep 4) 0) (polygon_same.cd N [1, 1, 0, 1, 0, 0]) k1
  ⟨[.ros false 29 (.pair (.int .i64) (.int .i64)) x0, .ros false 29 (.pair (.int .i64) (.int .i64)) x1, .any, .any, .any, .any, .any, .any, .any, .any, .any, .any, .any, .ros false 29 (.pair (.int .i64) (.int .i64)) x1, .sc (.int .i64 (x1.length : Int)), .sc (.int .i64 a2), .any, .any, .any, .any, .any, .any, .any, .any, .any, .any, .any, .any, .any, .any, .any, .any, .any, .any, .any, .any, .any, .any, .any, .any, .any, .any, .any, .any, .any, .any], []⟩
  (blockK 0 (seqK (polygon_same.cd N [1, 1, 1]) polygon_same.fin))
noncomputable def polygon_same.l1 (N : Nat) (x0 : List (Int × Int)) (x1 : List (Int × Int)) (k1 : Nat) (a2 : Int) (k3 : Nat) (a4 : Int) : Option Bool :=
  loopN (norm ((polygon_same.E N).keep 8) 0) (polygon_same.cd N [1, 1, 0, 1, 0, 0, 1, 1, 0, 0, 1, 1, 0, 0, 1, 0, 0]) k3
  ⟨[.ros false 29 (.pair (.int .i64) (.int .i64)) x0, .ros false 29 (.pair (.int .i64) (.int .i64)) x1, .any, .any, .any, .sc (.int .i64 a2), .any, .any, .any, .any, .any, .any, .any, .any, .any, .any, .any, .any, .any, .any, .any, .any, .any, .any, .any, .any, .sc (.int .i64 (x0.length : Int)), .sc (.int .i64 a4), .any, .any, .any, .any, .any, .any, .any, .any, .any, .any, .any, .any, .any, .any, .any, .any, .any, .any], []⟩
  (blockK 2 (seqK (polygon_same.cd N [1, 1, 0, 1, 0, 0, 1, 1, 0, 0, 1, 1, 0, 1]) (blockK 1 (seqK (polygon_same.cd N [1, 1, 0, 1, 0, 0, 1, 1, 1]) (loopK (norm ((polygon_same.E N).keep 4) 0) (polygon_same.cd N [1, 1, 0, 1, 0, 0]) k1 (blockK 0 (seqK (polygon_same.cd N [1, 1, 1]) polygon_same.fin)))))))
theorem polygon_same.l1_zero (N : Nat) (x0 : List (Int × Int)) (x1 : List (Int × Int)) (k1 : Nat) (a2 : Int) (a4 : Int) : polygon_same.l1 N x0 x1 k1 a2 0 a4 = none := by kernel_rfl
theorem polygon_same.l1_succ (N : Nat) (x0 : List (Int × Int)) (x1 : List (Int × Int)) (k1 : Nat) (a2 : Int) (k3 : Nat) (a4 : Int) : polygon_same.l1 N x0 x1 k1 a2 (k3 + 1) a4 =
    bif decide (a4 < (x0.length : Int)) then
      bif (decide (0 ≤ a4)) && (decide (a4 < (x0.length : Int))) then
        bif (x1.length : Int) != 0 then
          bif (decide (0 ≤ (Int.tmod (w (a2 + a4)) (x1.length : Int)))) && (decide ((Int.tmod (w (a2 + a4)) (x1.length : Int)) < (x1.length : Int))) then
            bif !((((List.getD x0 (Int.toNat a4) (0, 0)).1) == ((List.getD x1 (Int.toNat (Int.tmod (w (a2 + a4)) (x1.length : Int))) (0, 0)).1)) && ((((List.getD x0 (Int.toNat a4) (0, 0)).2) == ((List.getD x1 (Int.toNat (Int.tmod (w (a2 + a4)) (x1.length : Int))) (0, 0)).2)) && true)) then
              some false
            else
              polygon_same.l1 N x0 x1 k1 a2 k3 (w (a4 + 1))
          else
            none
        else
          none
      else
        none
    else
      some true := by kernel_rfl
theorem polygon_same.l0_zero (N : Nat) (x0 : List (Int × Int)) (x1 : List (Int × Int)) (a2 : Int) : polygon_same.l0 N x0 x1 0 a2 = none := by kernel_rfl
theorem polygon_same.l0_succ (N : Nat) (x0 : List (Int × Int)) (x1 : List (Int × Int)) (k1 : Nat) (a2 : Int) : polygon_same.l0 N x0 x1 (k1 + 1) a2 =
    bif decide (a2 < (x1.length : Int)) then
      bif (decide (0 ≤ a2)) && (decide (a2 < (x1.length : Int))) then
        bif decide (0 < (x0.length : Int)) then
          bif (((List.getD x1 (Int.toNat a2) (0, 0)).1) == ((List.getD x0 0 (0, 0)).1)) && ((((List.getD x1 (Int.toNat a2) (0, 0)).2) == ((List.getD x0 0 (0, 0)).2)) && true) then
            polygon_same.l1 N x0 x1 k1 a2 N 0
          else
            polygon_same.l0 N x0 x1 k1 (w (a2 + 1))
        else
          none
      else
        none
    else
      some false := by kernel_rfl
theorem polygon_same.l1_cons (N : Nat) (x0 : List (Int × Int)) (x1 : List (Int × Int)) (k1 : Nat) (a2 : Int) (k3 : Nat) {pre r} {x} (hl : x0 = pre ++ x :: r) (hb : x0.length < 4611686018427387904) : polygon_same.l1 N x0 x1 k1 a2 (k3 + 1) (pre.length : Int) =
    bif (x1.length : Int) != 0 then
      bif (decide (0 ≤ (Int.tmod (w (a2 + (pre.length : Int))) (x1.length : Int)))) && (decide ((Int.tmod (w (a2 + (pre.length : Int))) (x1.length : Int)) < (x1.length : Int))) then
        bif !(((x.1) == ((List.getD x1 (Int.toNat (Int.tmod (w (a2 + (pre.length : Int))) (x1.length : Int))) (0, 0)).1)) && (((x.2) == ((List.getD x1 (Int.toNat (Int.tmod (w (a2 + (pre.length : Int))) (x1.length : Int))) (0, 0)).2)) && true)) then
          some false
        else
          polygon_same.l1 N x0 x1 k1 a2 k3 ((pre.length : Int) + 1)
      else
        none
    else
      none := by
  have hlen : x0.length = pre.length + 1 + r.length := by rw [hl]; simp; omega
  have e1 : decide ((pre.length : Int) < (x0.length : Int)) = true := by rw [decide_eq_true_iff]; omega
  have e2 : decide (0 ≤ (pre.length : Int)) = true := by rw [decide_eq_true_iff]; omega
  have e4 : w ((pre.length : Int) + 1) = (pre.length : Int) + 1 := w_next hl hb
  have e5 : List.take pre.length x0 = pre := by rw [hl]; simp
  have e6 : decide ((pre.length : Int) ≤ (x0.length : Int)) = true := by rw [decide_eq_true_iff]; omega
  have g0 : List.getD x0 pre.length (0, 0) = x := by rw [hl]; exact getD_mid pre x r _
  rw [polygon_same.l1_succ]
  simp -implicitDefEqProofs only [Int.toNat_natCast, e1, e2, e4, e6, g0, e5, Bool.and_true, Bool.true_and, Bool.true_or, cond_true]
theorem polygon_same.l1_nil (N : Nat) (x0 : List (Int × Int)) (x1 : List (Int × Int)) (k1 : Nat) (a2 : Int) (k3 : Nat) : polygon_same.l1 N x0 x1 k1 a2 (k3 + 1) (x0.length : Int) =
    some true := by
  have e1 : decide ((x0.length : Int) < (x0.length : Int)) = false := by rw [decide_eq_false_iff_not]; omega
  rw [polygon_same.l1_succ]
  simp -implicitDefEqProofs only [e1, cond_false]
theorem polygon_same.l0_cons (N : Nat) (x0 : List (Int × Int)) (x1 : List (Int × Int)) (k1 : Nat) {pre r} {x} (hl : x1 = pre ++ x :: r) (hb : x1.length < 4611686018427387904) : polygon_same.l0 N x0 x1 (k1 + 1) (pre.length : Int) =
    bif decide (0 < (x0.length : Int)) then
      bif ((x.1) == ((List.getD x0 0 (0, 0)).1)) && (((x.2) == ((List.getD x0 0 (0, 0)).2)) && true) then
        polygon_same.l1 N x0 x1 k1 (pre.length : Int) N 0
      else
        polygon_same.l0 N x0 x1 k1 ((pre.length : Int) + 1)
    else
      none := by
  have hlen : x1.length = pre.length + 1 + r.length := by rw [hl]; simp; omega
  have e1 : decide ((pre.length : Int) < (x1.length : Int)) = true := by rw [decide_eq_true_iff]; omega
  have e2 : decide (0 ≤ (pre.length : Int)) = true := by rw [decide_eq_true_iff]; omega
  have e4 : w ((pre.length : Int) + 1) = (pre.length : Int) + 1 := w_next hl hb
  have e5 : List.take pre.length x1 = pre := by rw [hl]; simp
  have e6 : decide ((pre.length : Int) ≤ (x1.length : Int)) = true := by rw [decide_eq_true_iff]; omega
  have g0 : List.getD x1 pre.length (0, 0) = x := by rw [hl]; exact getD_mid pre x r _
  rw [polygon_same.l0_succ]
  simp -implicitDefEqProofs only [Int.toNat_natCast, e1, e2, e4, e6, g0, e5, Bool.and_true, Bool.true_and, Bool.true_or, cond_true]
theorem polygon_same.l0_nil (N : Nat) (x0 : List (Int × Int)) (x1 : List (Int × Int)) (k1 : Nat) : polygon_same.l0 N x0 x1 (k1 + 1) (x1.length : Int) =
    some false := by
  have e1 : decide ((x1.length : Int) < (x1.length : Int)) = false := by rw [decide_eq_false_iff_not]; omega
  rw [polygon_same.l0_succ]
  simp -implicitDefEqProofs only [e1, cond_false]
theorem polygon_same.eq (N : Nat) (x0 : List (Int × Int)) (x1 : List (Int × Int)) : polygon_same.fn N (x0, x1) =
    bif !((x0.length : Int) == (x1.length : Int)) then
      some false
    else
      polygon_same.l0 N x0 x1 N 0 := by kernel_rfl

/-! ### polygon_Overlap: skyway/polygon.Overlap -/
def polygon_Overlap.kp : List (Nat × List (Nat × Option (TypeId × Ty))) := [(8, [(0, none), (1, none), (31, none), (32, none)]), (11, [(0, none), (1, none), (9, none), (31, none), (32, none), (36, none), (37, none), (38, none)]), (15, [(0, none), (1, none), (9, none), (11, none), (12, none), (31, none), (32, none), (36, none), (37, none), (38, none), (58, none), (59, none), (60, none)])]
noncomputable def polygon_Overlap.G (N : Nat) : List (Nat × Spec) := [(88, .pure (polygon_Check.S N)), (108, .pure (polygon_crosses.S N)), (109, .pure (polygon_pieceInside.S N)), (110, .pure (polygon_same.S N))]
noncomputable def polygon_Overlap.E (N : Nat) : Env := mkEnv (polygon_Overlap.G N) N tyTab polygon_Overlap.kp
noncomputable def polygon_Overlap.fn (N : Nat) (x : List (Int × Int) × List (Int × Int)) : Option (Bool × Int) := evFn (polygon_Overlap.E N) Try.prog 3 Try.f89 false [.cell (.sl 29 (.pair (.int .i64) (.int .i64))), .cell (.sl 29 (.pair (.int .i64) (.int .i64)))] [.val (.cell (.bool)), .val (.cell (.int .i64))] x
noncomputable def polygon_Overlap.S (N : Nat) : PSpec := ⟨false, [.cell (.sl 29 (.pair (.int .i64) (.int .i64))), .cell (.sl 29 (.pair (.int .i64) (.int .i64)))], [.val (.cell (.bool)), .val (.cell (.int .i64))], polygon_Overlap.fn N⟩
theorem f89_enters : Enters Try.prog 89 := ⟨Try.f89, Try.func89, by kernel_rfl, by kernel_rfl⟩
theorem polygon_Overlap.tab (N : Nat) : TabOk Try.prog (polygon_Overlap.G N) := ⟨⟨polygon_Check.enters, polygon_Check.sound N⟩, ⟨polygon_crosses.enters, polygon_crosses.sound N⟩, ⟨polygon_pieceInside.enters, polygon_pieceInside.sound N⟩, ⟨polygon_same.enters, polygon_same.sound N⟩, trivial⟩
theorem polygon_Overlap.enters : Enters Try.prog 89 := f89_enters
theorem polygon_Overlap.sound (N : Nat) : Sound Try.prog 89 (polygon_Overlap.S N) := evFn_sound (specs_tab (polygon_Overlap.tab N)) (inls_tab (polygon_Overlap.tab N)) mixed 3 Try.func89 _ _ _
noncomputable def polygon_Overlap.cd (N : Nat) (p : List Nat) : St → (Ex → St → Option (Bool × Int)) → Option (Bool × Int) := ev (polygon_Overlap.E N) Try.prog (callD (polygon_Overlap.E N) Try.prog 3) 0 (codeAt (bodyOf Try.f89) p)
noncomputable def polygon_Overlap.fin : Ex → St → Option (Bool × Int) := endK Try.prog Try.f89 [.val (.cell (.bool)), .val (.cell (.int .i64))]
noncomputable def polygon_Overlap.l0 (N : Nat) (x0 : List (Int × Int)) (x1 : List (Int × Int)) (k3 : Nat) (a4 : Int) : Option (Bool × Int) :=
  loopN (norm ((polygon_Overlap.E N).keep 11) 0) (polygon_Overlap.cd N [1, 1, 1, 0, 1, 0, 0, 1, 1, 0, 0, 1, 1, 0, 0]) k3
  ⟨[.ros false 29 (.pair (.int .i64) (.int .i64)) x0, .ros false 29 (.pair (.int .i64) (.int .i64)) x1, .any, .any, .any, .any, .any, .any, .any, .ptr 0 0, .any, .any, .any, .any, .any, .any, .any, .any, .any, .any, .any, .any, .any, .any, .any, .any, .any, .any, .any, .any, .any, .agg [.ros false 29 (.pair (.int .i64) (.int .i64)) x0, .ros false 29 (.pair (.int .i64) (.int .i64)) x1, .ros false 29 (.pair (.int .i64) (.int .i64)) x1, .ros false 29 (.pair (.int .i64) (.int .i64)) x0], .sc (.int .i64 0), .any, .any, .any, .ros false 29 (.pair (.int .i64) (.int .i64)) x0, .sc (.int .i64 (x0.length : Int)), .sc (.int .i64 a4), .any, .any, .any, .any, .any, .any, .any, .any, .any, .any, .any, .any, .any, .any, .any, .any, .any, .any, .any, .any, .any, .any, .any, .any, .any, .any, .any, .any, .any, .any, .any, .any, .any, .any, .any, .any, .any, .any, .any, .any, .any, .any, .any, .any, .any, .any, .any, .any, .any, .any, .any, .any, .any, .any, .any], [.cells [.ros false 29 (.pair (.int .i64) (.int .i64)) x0, .ros false 29 (.pair (.int .i64) (.int .i64)) x1] 165]⟩
  (blockK 2 (blockK 1 (seqK (polygon_Overlap.cd N [1, 1, 1, 0, 1, 0, 0, 1, 1, 1]) (loopK (norm ((polygon_Overlap.E N).keep 8) 0) (polygon_Overlap.cd N [1, 1, 1, 0, 1, 0, 0]) (N - 1) (blockK 0 (seqK (polygon_Overlap.cd N [1, 1, 1, 1]) polygon_Overlap.fin))))))
noncomputable def polygon_Overlap.l1 (N : Nat) (x0 : List (Int × Int)) (x1 : List (Int × Int)) (k3 : Nat) (a4 : Int) (k5 : Nat) (a6 : Int) : Option (Bool × Int) :=
  loopN (norm ((polygon_Overlap.E N).keep 15) 0) (polygon_Overlap.cd N [1, 1, 1, 0, 1, 0, 0, 1, 1, 0, 0, 1, 1, 0, 0, 1, 1, 0, 0, 1, 1, 0, 1, 0, 0]) k5
  ⟨[.ros false 29 (.pair (.int .i64) (.int .i64)) x0, .ros false 29 (.pair (.int .i64) (.int .i64)) x1, .any, .any, .any, .any, .any, .any, .any, .ptr 0 0, .any, .ptr 1 0, .ptr 2 0, .any, .any, .any, .any, .any, .any, .any, .any, .any, .any, .any, .any, .any, .any, .any, .any, .any, .any, .agg [.ros false 29 (.pair (.int .i64) (.int .i64)) x0, .ros false 29 (.pair (.int .i64) (.int .i64)) x1, .ros false 29 (.pair (.int .i64) (.int .i64)) x1, .ros false 29 (.pair (.int .i64) (.int .i64)) x0], .sc (.int .i64 0), .any, .any, .any, .ros false 29 (.pair (.int .i64) (.int .i64)) x0, .sc (.int .i64 (x0.length : Int)), .sc (.int .i64 a4), .any, .any, .any, .any, .any, .any, .any, .any, .any, .any, .any, .any, .any, .any, .any, .any, .any, .any, .any, .ros false 29 (.pair (.int .i64) (.int .i64)) x1, .sc (.int .i64 (x1.length : Int)), .sc (.int .i64 a6), .any, .any, .any, .any, .any, .any, .any, .any, .any, .any, .any, .any, .any, .any, .any, .any, .any, .any, .any, .any, .any, .any, .any, .any, .any, .any, .any, .any, .any, .any, .any, .any, .any], [.cells [.ros false 29 (.pair (.int .i64) (.int .i64)) x0, .ros false 29 (.pair (.int .i64) (.int .i64)) x1] 165, .cells [.sc (.int .i64 ((List.getD x0 (Int.toNat a4) (0, 0)).1)), .sc (.int .i64 ((List.getD x0 (Int.toNat a4) (0, 0)).2))] 29, .cells [.sc (.int .i64 ((List.getD x0 (Int.toNat (Int.tmod (w ((w (a4 + (x0.length : Int))) - 1)) (x0.length : Int))) (0, 0)).1)), .sc (.int .i64 ((List.getD x0 (Int.toNat (Int.tmod (w ((w (a4 + (x0.length : Int))) - 1)) (x0.length : Int))) (0, 0)).2))] 29]⟩
  (blockK 4 (seqK (polygon_Overlap.cd N [1, 1, 1, 0, 1, 0, 0, 1, 1, 0, 0, 1, 1, 0, 0, 1, 1, 0, 0, 1, 1, 1]) (blockK 3 (seqK (polygon_Overlap.cd N [1, 1, 1, 0, 1, 0, 0, 1, 1, 0, 0, 1, 1, 0, 0, 1, 1, 1]) (loopK (norm ((polygon_Overlap.E N).keep 11) 0) (polygon_Overlap.cd N [1, 1, 1, 0, 1, 0, 0, 1, 1, 0, 0, 1, 1, 0, 0]) k3 (blockK 2 (blockK 1 (seqK (polygon_Overlap.cd N [1, 1, 1, 0, 1, 0, 0, 1, 1, 1]) (loopK (norm ((polygon_Overlap.E N).keep 8) 0) (polygon_Overlap.cd N [1, 1, 1, 0, 1, 0, 0]) (N - 1) (blockK 0 (seqK (polygon_Overlap.cd N [1, 1, 1, 1]) polygon_Overlap.fin)))))))))))
noncomputable def polygon_Overlap.l2 (N : Nat) (x0 : List (Int × Int)) (x1 : List (Int × Int)) (k9 : Nat) (a10 : Int) : Option (Bool × Int) :=
  loopN (norm ((polygon_Overlap.E N).keep 11) 0) (polygon_Overlap.cd N [1, 1, 1, 0, 1, 0, 0, 1, 1, 0, 0, 1, 1, 0, 0]) k9
  ⟨[.ros false 29 (.pair (.int .i64) (.int .i64)) x0, .ros false 29 (.pair (.int .i64) (.int .i64)) x1, .any, .any, .any, .any, .any, .any, .any, .ptr 0 0, .any, .any, .any, .any, .any, .any, .any, .any, .any, .any, .any, .any, .any, .any, .any, .any, .any, .any, .any, .any, .any, .agg [.ros false 29 (.pair (.int .i64) (.int .i64)) x0, .ros false 29 (.pair (.int .i64) (.int .i64)) x1, .ros false 29 (.pair (.int .i64) (.int .i64)) x1, .ros false 29 (.pair (.int .i64) (.int .i64)) x0], .sc (.int .i64 1), .any, .any, .any, .ros false 29 (.pair (.int .i64) (.int .i64)) x1, .sc (.int .i64 (x1.length : Int)), .sc (.int .i64 a10), .any, .any, .any, .any, .any, .any, .any, .any, .any, .any, .any, .any, .any, .any, .any, .any, .any, .any, .any, .any, .any, .any, .any, .any, .any, .any, .any, .any, .any, .any, .any, .any, .any, .any, .any, .any, .any, .any, .any, .any, .any, .any, .any, .any, .any, .any, .any, .any, .any, .any, .any, .any, .any, .any, .any], [.cells [.ros false 29 (.pair (.int .i64) (.int .i64)) x1, .ros false 29 (.pair (.int .i64) (.int .i64)) x0] 165]⟩
  (blockK 2 (blockK 1 (seqK (polygon_Overlap.cd N [1, 1, 1, 0, 1, 0, 0, 1, 1, 1]) (loopK (norm ((polygon_Overlap.E N).keep 8) 0) (polygon_Overlap.cd N [1, 1, 1, 0, 1, 0, 0]) (N - 2) (blockK 0 (seqK (polygon_Overlap.cd N [1, 1, 1, 1]) polygon_Overlap.fin))))))
noncomputable def polygon_Overlap.l3 (N : Nat) (x0 : List (Int × Int)) (x1 : List (Int × Int)) (k9 : Nat) (a10 : Int) (k11 : Nat) (a12 : Int) : Option (Bool × Int) :=
  loopN (norm ((polygon_Overlap.E N).keep 15) 0) (polygon_Overlap.cd N [1, 1, 1, 0, 1, 0, 0, 1, 1, 0, 0, 1, 1, 0, 0, 1, 1, 0, 0, 1, 1, 0, 1, 0, 0]) k11
  ⟨[.ros false 29 (.pair (.int .i64) (.int .i64)) x0, .ros false 29 (.pair (.int .i64) (.int .i64)) x1, .any, .any, .any, .any, .any, .any, .any, .ptr 0 0, .any, .ptr 1 0, .ptr 2 0, .any, .any, .any, .any, .any, .any, .any, .any, .any, .any, .any, .any, .any, .any, .any, .any, .any, .any, .agg [.ros false 29 (.pair (.int .i64) (.int .i64)) x0, .ros false 29 (.pair (.int .i64) (.int .i64)) x1, .ros false 29 (.pair (.int .i64) (.int .i64)) x1, .ros false 29 (.pair (.int .i64) (.int .i64)) x0], .sc (.int .i64 1), .any, .any, .any, .ros false 29 (.pair (.int .i64) (.int .i64)) x1, .sc (.int .i64 (x1.length : Int)), .sc (.int .i64 a10), .any, .any, .any, .any, .any, .any, .any, .any, .any, .any, .any, .any, .any, .any, .any, .any, .any, .any, .any, .ros false 29 (.pair (.int .i64) (.int .i64)) x0, .sc (.int .i64 (x0.length : Int)), .sc (.int .i64 a12), .any, .any, .any, .any, .any, .any, .any, .any, .any, .any, .any, .any, .any, .any, .any, .any, .any, .any, .any, .any, .any, .any, .any, .any, .any, .any, .any, .any, .any, .any, .any, .any, .any], [.cells [.ros false 29 (.pair (.int .i64) (.int .i64)) x1, .ros false 29 (.pair (.int .i64) (.int .i64)) x0] 165, .cells [.sc (.int .i64 ((List.getD x1 (Int.toNat a10) (0, 0)).1)), .sc (.int .i64 ((List.getD x1 (Int.toNat a10) (0, 0)).2))] 29, .cells [.sc (.int .i64 ((List.getD x1 (Int.toNat (Int.tmod (w ((w (a10 + (x1.length : Int))) - 1)) (x1.length : Int))) (0, 0)).1)), .sc (.int .i64 ((List.getD x1 (Int.toNat (Int.tmod (w ((w (a10 + (x1.length : Int))) - 1)) (x1.length : Int))) (0, 0)).2))] 29]⟩
  (blockK 4 (seqK (polygon_Overlap.cd N [1, 1, 1, 0, 1, 0, 0, 1, 1, 0, 0, 1, 1, 0, 0, 1, 1, 0, 0, 1, 1, 1]) (blockK 3 (seqK (polygon_Overlap.cd N [1, 1, 1, 0, 1, 0, 0, 1, 1, 0, 0, 1, 1, 0, 0, 1, 1, 1]) (loopK (norm ((polygon_Overlap.E N).keep 11) 0) (polygon_Overlap.cd N [1, 1, 1, 0, 1, 0, 0, 1, 1, 0, 0, 1, 1, 0, 0]) k9 (blockK 2 (blockK 1 (seqK (polygon_Overlap.cd N [1, 1, 1, 0, 1, 0, 0, 1, 1, 1]) (loopK (norm ((polygon_Overlap.E N).keep 8) 0) (polygon_Overlap.cd N [1, 1, 1, 0, 1, 0, 0]) (N - 2) (blockK 0 (seqK (polygon_Overlap.cd N [1, 1, 1, 1]) polygon_Overlap.fin)))))))))))
theorem polygon_Overlap.l3_zero (N : Nat) (x0 : List (Int × Int)) (x1 : List (Int × Int)) (k9 : Nat) (a10 : Int) (a12 : Int) : polygon_Overlap.l3 N x0 x1 k9 a10 0 a12 = none := by kernel_rfl
theorem polygon_Overlap.l3_succ (N : Nat) (x0 : List (Int × Int)) (x1 : List (Int × Int)) (k9 : Nat) (a10 : Int) (k11 : Nat) (a12 : Int) {M : Nat} (hM : N = M + 8) : polygon_Overlap.l3 N x0 x1 k9 a10 (k11 + 1) a12 =
    bif decide (a12 < (x0.length : Int)) then
      bif (decide (0 ≤ a12)) && (decide (a12 < (x0.length : Int))) then
        bif (x0.length : Int) != 0 then
          bif (decide (0 ≤ (Int.tmod (w ((w (a12 + (x0.length : Int))) - 1)) (x0.length : Int)))) && (decide ((Int.tmod (w ((w (a12 + (x0.length : Int))) - 1)) (x0.length : Int)) < (x0.length : Int))) then
            (polygon_crosses.fn N (List.getD x1 (Int.toNat (Int.tmod (w ((w (a10 + (x1.length : Int))) - 1)) (x1.length : Int))) (0, 0), List.getD x1 (Int.toNat a10) (0, 0), List.getD x0 (Int.toNat (Int.tmod (w ((w (a12 + (x0.length : Int))) - 1)) (x0.length : Int))) (0, 0), List.getD x0 (Int.toNat a12) (0, 0))).bind fun r13 =>
            bif r13 then
              some (true, 0)
            else
              polygon_Overlap.l3 N x0 x1 k9 a10 k11 (w (a12 + 1))
          else
            none
        else
          none
      else
        none
    else
      (polygon_pieceInside.fn N (List.getD x1 (Int.toNat (Int.tmod (w ((w (a10 + (x1.length : Int))) - 1)) (x1.length : Int))) (0, 0), List.getD x1 (Int.toNat a10) (0, 0), x0)).bind fun r14 =>
      bif r14 then
        some (true, 0)
      else
        polygon_Overlap.l2 N x0 x1 k9 (w (a10 + 1)) := by subst hM; kernel_rfl
theorem polygon_Overlap.l2_zero (N : Nat) (x0 : List (Int × Int)) (x1 : List (Int × Int)) (a10 : Int) : polygon_Overlap.l2 N x0 x1 0 a10 = none := by kernel_rfl
theorem polygon_Overlap.l2_succ (N : Nat) (x0 : List (Int × Int)) (x1 : List (Int × Int)) (k9 : Nat) (a10 : Int) {M : Nat} (hM : N = M + 8) : polygon_Overlap.l2 N x0 x1 (k9 + 1) a10 =
    bif decide (a10 < (x1.length : Int)) then
      bif (decide (0 ≤ a10)) && (decide (a10 < (x1.length : Int))) then
        bif (x1.length : Int) != 0 then
          bif (decide (0 ≤ (Int.tmod (w ((w (a10 + (x1.length : Int))) - 1)) (x1.length : Int)))) && (decide ((Int.tmod (w ((w (a10 + (x1.length : Int))) - 1)) (x1.length : Int)) < (x1.length : Int))) then
            polygon_Overlap.l3 N x0 x1 k9 a10 N 0
          else
            none
        else
          none
      else
        none
    else
      (polygon_same.fn N (x0, x1)).bind fun r15 =>
      some (r15, 0) := by subst hM; kernel_rfl
theorem polygon_Overlap.l1_zero (N : Nat) (x0 : List (Int × Int)) (x1 : List (Int × Int)) (k3 : Nat) (a4 : Int) (a6 : Int) : polygon_Overlap.l1 N x0 x1 k3 a4 0 a6 = none := by kernel_rfl
theorem polygon_Overlap.l1_succ (N : Nat) (x0 : List (Int × Int)) (x1 : List (Int × Int)) (k3 : Nat) (a4 : Int) (k5 : Nat) (a6 : Int) {M : Nat} (hM : N = M + 8) : polygon_Overlap.l1 N x0 x1 k3 a4 (k5 + 1) a6 =
    bif decide (a6 < (x1.length : Int)) then
      bif (decide (0 ≤ a6)) && (decide (a6 < (x1.length : Int))) then
        bif (x1.length : Int) != 0 then
          bif (decide (0 ≤ (Int.tmod (w ((w (a6 + (x1.length : Int))) - 1)) (x1.length : Int)))) && (decide ((Int.tmod (w ((w (a6 + (x1.length : Int))) - 1)) (x1.length : Int)) < (x1.length : Int))) then
            (polygon_crosses.fn N (List.getD x0 (Int.toNat (Int.tmod (w ((w (a4 + (x0.length : Int))) - 1)) (x0.length : Int))) (0, 0), List.getD x0 (Int.toNat a4) (0, 0), List.getD x1 (Int.toNat (Int.tmod (w ((w (a6 + (x1.length : Int))) - 1)) (x1.length : Int))) (0, 0), List.getD x1 (Int.toNat a6) (0, 0))).bind fun r7 =>
            bif r7 then
              some (true, 0)
            else
              polygon_Overlap.l1 N x0 x1 k3 a4 k5 (w (a6 + 1))
          else
            none
        else
          none
      else
        none
    else
      (polygon_pieceInside.fn N (List.getD x0 (Int.toNat (Int.tmod (w ((w (a4 + (x0.length : Int))) - 1)) (x0.length : Int))) (0, 0), List.getD x0 (Int.toNat a4) (0, 0), x1)).bind fun r8 =>
      bif r8 then
        some (true, 0)
      else
        polygon_Overlap.l0 N x0 x1 k3 (w (a4 + 1)) := by subst hM; kernel_rfl
theorem polygon_Overlap.l0_zero (N : Nat) (x0 : List (Int × Int)) (x1 : List (Int × Int)) (a4 : Int) : polygon_Overlap.l0 N x0 x1 0 a4 = none := by kernel_rfl
theorem polygon_Overlap.l0_succ (N : Nat) (x0 : List (Int × Int)) (x1 : List (Int × Int)) (k3 : Nat) (a4 : Int) {M : Nat} (hM : N = M + 8) : polygon_Overlap.l0 N x0 x1 (k3 + 1) a4 =
    bif decide (a4 < (x0.length : Int)) then
      bif (decide (0 ≤ a4)) && (decide (a4 < (x0.length : Int))) then
        bif (x0.length : Int) != 0 then
          bif (decide (0 ≤ (Int.tmod (w ((w (a4 + (x0.length : Int))) - 1)) (x0.length : Int)))) && (decide ((Int.tmod (w ((w (a4 + (x0.length : Int))) - 1)) (x0.length : Int)) < (x0.length : Int))) then
            polygon_Overlap.l1 N x0 x1 k3 a4 N 0
          else
            none
        else
          none
      else
        none
    else
      polygon_Overlap.l2 N x0 x1 N 0 := by subst hM; kernel_rfl
theorem polygon_Overlap.l3_cons (N : Nat) (x0 : List (Int × Int)) (x1 : List (Int × Int)) (k9 : Nat) (a10 : Int) (k11 : Nat) {pre r} {x} (hl : x0 = pre ++ x :: r) (hb : x0.length < 4611686018427387904) {M : Nat} (hM : N = M + 8) : polygon_Overlap.l3 N x0 x1 k9 a10 (k11 + 1) (pre.length : Int) =
    bif (x0.length : Int) != 0 then
      bif (decide (0 ≤ (Int.tmod (w ((w ((pre.length : Int) + (x0.length : Int))) - 1)) (x0.length : Int)))) && (decide ((Int.tmod (w ((w ((pre.length : Int) + (x0.length : Int))) - 1)) (x0.length : Int)) < (x0.length : Int))) then
        (polygon_crosses.fn N (List.getD x1 (Int.toNat (Int.tmod (w ((w (a10 + (x1.length : Int))) - 1)) (x1.length : Int))) (0, 0), List.getD x1 (Int.toNat a10) (0, 0), List.getD x0 (Int.toNat (Int.tmod (w ((w ((pre.length : Int) + (x0.length : Int))) - 1)) (x0.length : Int))) (0, 0), x)).bind fun r13 =>
        bif r13 then
          some (true, 0)
        else
          polygon_Overlap.l3 N x0 x1 k9 a10 k11 ((pre.length : Int) + 1)
      else
        none
    else
      none := by
  have hlen : x0.length = pre.length + 1 + r.length := by rw [hl]; simp; omega
  have e1 : decide ((pre.length : Int) < (x0.length : Int)) = true := by rw [decide_eq_true_iff]; omega
  have e2 : decide (0 ≤ (pre.length : Int)) = true := by rw [decide_eq_true_iff]; omega
  have e4 : w ((pre.length : Int) + 1) = (pre.length : Int) + 1 := w_next hl hb
  have e5 : List.take pre.length x0 = pre := by rw [hl]; simp
  have e6 : decide ((pre.length : Int) ≤ (x0.length : Int)) = true := by rw [decide_eq_true_iff]; omega
  have g0 : List.getD x0 pre.length (0, 0) = x := by rw [hl]; exact getD_mid pre x r _
  rw [polygon_Overlap.l3_succ (hM := hM)]
  simp -implicitDefEqProofs only [Int.toNat_natCast, e1, e2, e4, e6, g0, e5, Bool.and_true, Bool.true_and, Bool.true_or, cond_true]
theorem polygon_Overlap.l3_nil (N : Nat) (x0 : List (Int × Int)) (x1 : List (Int × Int)) (k9 : Nat) (a10 : Int) (k11 : Nat) {M : Nat} (hM : N = M + 8) : polygon_Overlap.l3 N x0 x1 k9 a10 (k11 + 1) (x0.length : Int) =
    (polygon_pieceInside.fn N (List.getD x1 (Int.toNat (Int.tmod (w ((w (a10 + (x1.length : Int))) - 1)) (x1.length : Int))) (0, 0), List.getD x1 (Int.toNat a10) (0, 0), x0)).bind fun r14 =>
    bif r14 then
      some (true, 0)
    else
      polygon_Overlap.l2 N x0 x1 k9 (w (a10 + 1)) := by
  have e1 : decide ((x0.length : Int) < (x0.length : Int)) = false := by rw [decide_eq_false_iff_not]; omega
  rw [polygon_Overlap.l3_succ (hM := hM)]
  simp -implicitDefEqProofs only [e1, cond_false]
theorem polygon_Overlap.l2_cons (N : Nat) (x0 : List (Int × Int)) (x1 : List (Int × Int)) (k9 : Nat) {pre r} {x} (hl : x1 = pre ++ x :: r) (hb : x1.length < 4611686018427387904) {M : Nat} (hM : N = M + 8) : polygon_Overlap.l2 N x0 x1 (k9 + 1) (pre.length : Int) =
    bif (x1.length : Int) != 0 then
      bif (decide (0 ≤ (Int.tmod (w ((w ((pre.length : Int) + (x1.length : Int))) - 1)) (x1.length : Int)))) && (decide ((Int.tmod (w ((w ((pre.length : Int) + (x1.length : Int))) - 1)) (x1.length : Int)) < (x1.length : Int))) then
        polygon_Overlap.l3 N x0 x1 k9 (pre.length : Int) N 0
      else
        none
    else
      none := by
  have hlen : x1.length = pre.length + 1 + r.length := by rw [hl]; simp; omega
  have e1 : decide ((pre.length : Int) < (x1.length : Int)) = true := by rw [decide_eq_true_iff]; omega
  have e2 : decide (0 ≤ (pre.length : Int)) = true := by rw [decide_eq_true_iff]; omega
  have e4 : w ((pre.length : Int) + 1) = (pre.length : Int) + 1 := w_next hl hb
  have e5 : List.take pre.length x1 = pre := by rw [hl]; simp
  have e6 : decide ((pre.length : Int) ≤ (x1.length : Int)) = true := by rw [decide_eq_true_iff]; omega
  rw [polygon_Overlap.l2_succ (hM := hM)]
  simp -implicitDefEqProofs only [Int.toNat_natCast, e1, e2, e4, e6, e5, Bool.and_true, Bool.true_and, Bool.true_or, cond_true]
theorem polygon_Overlap.l2_nil (N : Nat) (x0 : List (Int × Int)) (x1 : List (Int × Int)) (k9 : Nat) {M : Nat} (hM : N = M + 8) : polygon_Overlap.l2 N x0 x1 (k9 + 1) (x1.length : Int) =
    (polygon_same.fn N (x0, x1)).bind fun r15 =>
    some (r15, 0) := by
  have e1 : decide ((x1.length : Int) < (x1.length : Int)) = false := by rw [decide_eq_false_iff_not]; omega
  rw [polygon_Overlap.l2_succ (hM := hM)]
  simp -implicitDefEqProofs only [e1, cond_false]
theorem polygon_Overlap.l1_cons (N : Nat) (x0 : List (Int × Int)) (x1 : List (Int × Int)) (k3 : Nat) (a4 : Int) (k5 : Nat) {pre r} {x} (hl : x1 = pre ++ x :: r) (hb : x1.length < 4611686018427387904) {M : Nat} (hM : N = M + 8) : polygon_Overlap.l1 N x0 x1 k3 a4 (k5 + 1) (pre.length : Int) =
    bif (x1.length : Int) != 0 then
      bif (decide (0 ≤ (Int.tmod (w ((w ((pre.length : Int) + (x1.length : Int))) - 1)) (x1.length : Int)))) && (decide ((Int.tmod (w ((w ((pre.length : Int) + (x1.length : Int))) - 1)) (x1.length : Int)) < (x1.length : Int))) then
        (polygon_crosses.fn N (List.getD x0 (Int.toNat (Int.tmod (w ((w (a4 + (x0.length : Int))) - 1)) (x0.length : Int))) (0, 0), List.getD x0 (Int.toNat a4) (0, 0), List.getD x1 (Int.toNat (Int.tmod (w ((w ((pre.length : Int) + (x1.length : Int))) - 1)) (x1.length : Int))) (0, 0), x)).bind fun r7 =>
        bif r7 then
          some (true, 0)
        else
          polygon_Overlap.l1 N x0 x1 k3 a4 k5 ((pre.length : Int) + 1)
      else
        none
    else
      none := by
  have hlen : x1.length = pre.length + 1 + r.length := by rw [hl]; simp; omega
  have e1 : decide ((pre.length : Int) < (x1.length : Int)) = true := by rw [decide_eq_true_iff]; omega
  have e2 : decide (0 ≤ (pre.length : Int)) = true := by rw [decide_eq_true_iff]; omega
  have e4 : w ((pre.length : Int) + 1) = (pre.length : Int) + 1 := w_next hl hb
  have e5 : List.take pre.length x1 = pre := by rw [hl]; simp
  have e6 : decide ((pre.length : Int) ≤ (x1.length : Int)) = true := by rw [decide_eq_true_iff]; omega
  have g0 : List.getD x1 pre.length (0, 0) = x := by rw [hl]; exact getD_mid pre x r _
  rw [polygon_Overlap.l1_succ (hM := hM)]
  simp -implicitDefEqProofs only [Int.toNat_natCast, e1, e2, e4, e6, g0, e5, Bool.and_true, Bool.true_and, Bool.true_or, cond_true]
theorem polygon_Overlap.l1_nil (N : Nat) (x0 : List (Int × Int)) (x1 : List (Int × Int)) (k3 : Nat) (a4 : Int) (k5 : Nat) {M : Nat} (hM : N = M + 8) : polygon_Overlap.l1 N x0 x1 k3 a4 (k5 + 1) (x1.length : Int) =
    (polygon_pieceInside.fn N (List.getD x0 (Int.toNat (Int.tmod (w ((w (a4 + (x0.length : Int))) - 1)) (x0.length : Int))) (0, 0), List.getD x0 (Int.toNat a4) (0, 0), x1)).bind fun r8 =>
    bif r8 then
      some (true, 0)
    else
      polygon_Overlap.l0 N x0 x1 k3 (w (a4 + 1)) := by
  have e1 : decide ((x1.length : Int) < (x1.length : Int)) = false := by rw [decide_eq_false_iff_not]; omega
  rw [polygon_Overlap.l1_succ (hM := hM)]
  simp -implicitDefEqProofs only [e1, cond_false]
theorem polygon_Overlap.l0_cons (N : Nat) (x0 : List (Int × Int)) (x1 : List (Int × Int)) (k3 : Nat) {pre r} {x} (hl : x0 = pre ++ x :: r) (hb : x0.length < 4611686018427387904) {M : Nat} (hM : N = M + 8) : polygon_Overlap.l0 N x0 x1 (k3 + 1) (pre.length : Int) =
    bif (x0.length : Int) != 0 then
      bif (decide (0 ≤ (Int.tmod (w ((w ((pre.length : Int) + (x0.length : Int))) - 1)) (x0.length : Int)))) && (decide ((Int.tmod (w ((w ((pre.length : Int) + (x0.length : Int))) - 1)) (x0.length : Int)) < (x0.length : Int))) then
        polygon_Overlap.l1 N x0 x1 k3 (pre.length : Int) N 0
      else
        none
    else
      none := by
  have hlen : x0.length = pre.length + 1 + r.length := by rw [hl]; simp; omega
  have e1 : decide ((pre.length : Int) < (x0.length : Int)) = true := by rw [decide_eq_true_iff]; omega
  have e2 : decide (0 ≤ (pre.length : Int)) = true := by rw [decide_eq_true_iff]; omega
  have e4 : w ((pre.length : Int) + 1) = (pre.length : Int) + 1 := w_next hl hb
  have e5 : List.take pre.length x0 = pre := by rw [hl]; simp
  have e6 : decide ((pre.length : Int) ≤ (x0.length : Int)) = true := by rw [decide_eq_true_iff]; omega
  rw [polygon_Overlap.l0_succ (hM := hM)]
  simp -implicitDefEqProofs only [Int.toNat_natCast, e1, e2, e4, e6, e5, Bool.and_true, Bool.true_and, Bool.true_or, cond_true]
theorem polygon_Overlap.l0_nil (N : Nat) (x0 : List (Int × Int)) (x1 : List (Int × Int)) (k3 : Nat) {M : Nat} (hM : N = M + 8) : polygon_Overlap.l0 N x0 x1 (k3 + 1) (x0.length : Int) =
    polygon_Overlap.l2 N x0 x1 N 0 := by
  have e1 : decide ((x0.length : Int) < (x0.length : Int)) = false := by rw [decide_eq_false_iff_not]; omega
  rw [polygon_Overlap.l0_succ (hM := hM)]
  simp -implicitDefEqProofs only [e1, cond_false]
theorem polygon_Overlap.eq (N : Nat) (x0 : List (Int × Int)) (x1 : List (Int × Int)) {M : Nat} (hM : N = M + 8) : polygon_Overlap.fn N (x0, x1) =
    (polygon_Check.fn N x0).bind fun r1 =>
    bif !(r1 == 0) then
      some (false, r1)
    else
      (polygon_Check.fn N x1).bind fun r2 =>
      bif !(r2 == 0) then
        some (false, r2)
      else
        polygon_Overlap.l0 N x0 x1 N 0 := by subst hM; kernel_rfl

/-! ### volume_Overlap: skyway/volume.Overlap -/
def volume_Overlap.kp : List (Nat × List (Nat × Option (TypeId × Ty))) := []
noncomputable def volume_Overlap.G (N : Nat) : List (Nat × Spec) := [(63, .pure (volume_Check.S N)), (89, .pure (polygon_Overlap.S N))]
noncomputable def volume_Overlap.E (N : Nat) : Env := mkEnv (volume_Overlap.G N) N tyTab volume_Overlap.kp
noncomputable def volume_Overlap.fn (N : Nat) (x : (List (Int × Int) × Int × Int) × List (Int × Int) × Int × Int) : Option (Bool × Int) := evFn (volume_Overlap.E N) Try.prog 3 Try.f64 false [.agg (.pair (.sl 29 (.pair (.int .i64) (.int .i64))) (.pair (.int .i64) (.int .i64))), .agg (.pair (.sl 29 (.pair (.int .i64) (.int .i64))) (.pair (.int .i64) (.int .i64)))] [.val (.cell (.bool)), .val (.cell (.int .i64))] x
noncomputable def volume_Overlap.S (N : Nat) : PSpec := ⟨false, [.agg (.pair (.sl 29 (.pair (.int .i64) (.int .i64))) (.pair (.int .i64) (.int .i64))), .agg (.pair (.sl 29 (.pair (.int .i64) (.int .i64))) (.pair (.int .i64) (.int .i64)))], [.val (.cell (.bool)), .val (.cell (.int .i64))], volume_Overlap.fn N⟩
theorem f64_enters : Enters Try.prog 64 := ⟨Try.f64, Try.func64, by kernel_rfl, by kernel_rfl⟩
theorem volume_Overlap.tab (N : Nat) : TabOk Try.prog (volume_Overlap.G N) := ⟨⟨volume_Check.enters, volume_Check.sound N⟩, ⟨polygon_Overlap.enters, polygon_Overlap.sound N⟩, trivial⟩
theorem volume_Overlap.enters : Enters Try.prog 64 := f64_enters
theorem volume_Overlap.sound (N : Nat) : Sound Try.prog 64 (volume_Overlap.S N) := evFn_sound (specs_tab (volume_Overlap.tab N)) (inls_tab (volume_Overlap.tab N)) mixed 3 Try.func64 _ _ _
theorem volume_Overlap.eq (N : Nat) (x0 : List (Int × Int) × Int × Int) (x1 : List (Int × Int) × Int × Int) : volume_Overlap.fn N (x0, x1) =
    (volume_Check.fn N x0).bind fun r1 =>
    bif !(r1 == 0) then
      some (false, r1)
    else
      (volume_Check.fn N x1).bind fun r2 =>
      bif !(r2 == 0) then
        some (false, r2)
      else
      bif !(!(decide (x0.2.1 ≥ x1.2.2))) || (!(decide (x0.2.1 ≥ x1.2.2))) then
        bif !(!(decide (x0.2.1 ≥ x1.2.2))) || (!(decide (x0.2.1 ≥ x1.2.2))) then
          bif !(!(decide (x0.2.1 ≥ x1.2.2))) || (!(decide (x0.2.1 ≥ x1.2.2))) then
            bif !(!(decide (x0.2.1 ≥ x1.2.2))) || (!(decide (x0.2.1 ≥ x1.2.2))) then
              bif (decide (x0.2.1 ≥ x1.2.2)) || (!(decide (x0.2.1 ≥ x1.2.2))) then
                bif (decide (x0.2.1 ≥ x1.2.2)) || (decide (x1.2.1 ≥ x0.2.2)) then
                  some (false, 0)
                else
                  (polygon_Overlap.fn N (x0.1, x1.1)).bind fun r3 =>
                  some (r3.1, r3.2)
              else
                none
            else
              none
          else
            none
        else
          none
      else
        none := by kernel_rfl
theorem volume_Overlap.clean (N : Nat) (x0 : List (Int × Int) × Int × Int) (x1 : List (Int × Int) × Int × Int) : volume_Overlap.fn N (x0, x1) =
    (volume_Check.fn N x0).bind fun r1 =>
    bif !(r1 == 0) then
      some (false, r1)
    else
      (volume_Check.fn N x1).bind fun r2 =>
      bif !(r2 == 0) then
        some (false, r2)
      else
      bif (decide (x0.2.1 ≥ x1.2.2)) || (decide (x1.2.1 ≥ x0.2.2)) then
        some (false, 0)
      else
        (polygon_Overlap.fn N (x0.1, x1.1)).bind fun r3 =>
        some (r3.1, r3.2) := by
  rw [volume_Overlap.eq]; simp only [taut1, taut6, cond_true]

/-! ### sector_apart: skyway/sector.apart -/
def sector_apart.kp : List (Nat × List (Nat × Option (TypeId × Ty))) := [(2, [(0, none), (9, none), (10, none), (11, none)]), (5, [(0, none), (4, none), (9, none), (10, none), (11, none), (18, none), (19, none), (20, none)])]
noncomputable def sector_apart.G (N : Nat) : List (Nat × Spec) := [(64, .pure (volume_Overlap.S N))]
noncomputable def sector_apart.E (N : Nat) : Env := mkEnv (sector_apart.G N) N tyTab sector_apart.kp
noncomputable def sector_apart.fn (N : Nat) (x : List (List (Int × Int) × Int × Int)) : Option Int := evFn (sector_apart.E N) Try.prog 3 Try.f61 false [.cell (.sl 113 (.pair (.sl 29 (.pair (.int .i64) (.int .i64))) (.pair (.int .i64) (.int .i64))))] [.val (.cell (.int .i64))] x
noncomputable def sector_apart.S (N : Nat) : PSpec := ⟨false, [.cell (.sl 113 (.pair (.sl 29 (.pair (.int .i64) (.int .i64))) (.pair (.int .i64) (.int .i64))))], [.val (.cell (.int .i64))], sector_apart.fn N⟩
theorem f61_enters : Enters Try.prog 61 := ⟨Try.f61, Try.func61, by kernel_rfl, by kernel_rfl⟩
theorem sector_apart.tab (N : Nat) : TabOk Try.prog (sector_apart.G N) := ⟨⟨volume_Overlap.enters, volume_Overlap.sound N⟩, trivial⟩
theorem sector_apart.enters : Enters Try.prog 61 := f61_enters
theorem sector_apart.sound (N : Nat) : Sound Try.prog 61 (sector_apart.S N) := evFn_sound (specs_tab (sector_apart.tab N)) (inls_tab (sector_apart.tab N)) mixed 3 Try.func61 _ _ _
noncomputable def sector_apart.cd (N : Nat) (p : List Nat) : St → (Ex → St → Option Int) → Option Int := ev (sector_apart.E N) Try.prog (callD (sector_apart.E N) Try.prog 3) 0 (codeAt (bodyOf Try.f61) p)
noncomputable def sector_apart.fin : Ex → St → Option Int := endK Try.prog Try.f61 [.val (.cell (.int .i64))]
noncomputable def sector_apart.l0 (N : Nat) (x0 : List (List (Int × Int) × Int × Int)) (k1 : Nat) (a2 : Int) : Option Int :=
  loopN (norm ((sector_apart.E N).keep 2) 0) (sector_apart.cd N [1, 0, 1, 0, 0]) k1
  ⟨[.ros false 113 (.pair (.sl 29 (.pair (.int .i64) (.int .i64))) (.pair (.int .i64) (.int .i64))) x0, .any, .any, .any, .any, .any, .any, .any, .any, .ros false 113 (.pair (.sl 29 (.pair (.int .i64) (.int .i64))) (.pair (.int .i64) (.int .i64))) x0, .sc (.int .i64 (x0.length : Int)), .sc (.int .i64 a2), .any, .any, .any, .any, .any, .any, .any, .any, .any, .any, .any, .any, .any, .any, .any, .any, .any, .any, .any, .any, .any, .any, .any, .any], []⟩
  (blockK 0 (seqK (sector_apart.cd N [1, 1]) sector_apart.fin))
noncomputable def sector_apart.l1 (N : Nat) (x0 : List (List (Int × Int) × Int × Int)) (k1 : Nat) (a2 : Int) (k3 : Nat) (a4 : Int) : Option Int :=
  loopN (norm ((sector_apart.E N).keep 5) 0) (sector_apart.cd N [1, 0, 1, 0, 0, 1, 1, 0, 0, 1, 1, 0, 0]) k3
  ⟨[.ros false 113 (.pair (.sl 29 (.pair (.int .i64) (.int .i64))) (.pair (.int .i64) (.int .i64))) x0, .any, .any, .any, .ptr 0 0, .any, .any, .any, .any, .ros false 113 (.pair (.sl 29 (.pair (.int .i64) (.int .i64))) (.pair (.int .i64) (.int .i64))) x0, .sc (.int .i64 (x0.length : Int)), .sc (.int .i64 a2), .any, .any, .any, .any, .any, .any, .ros false 113 (.pair (.sl 29 (.pair (.int .i64) (.int .i64))) (.pair (.int .i64) (.int .i64))) (List.take (Int.toNat a2) x0), .sc (.int .i64 ((List.take (Int.toNat a2) x0).length : Int)), .sc (.int .i64 a4), .any, .any, .any, .any, .any, .any, .any, .any, .any, .any, .any, .any, .any, .any, .any], [.cells [.ros false 29 (.pair (.int .i64) (.int .i64)) ((List.getD x0 (Int.toNat a2) ([], (0, 0))).1), .sc (.int .i64 (((List.getD x0 (Int.toNat a2) ([], (0, 0))).2).1)), .sc (.int .i64 (((List.getD x0 (Int.toNat a2) ([], (0, 0))).2).2))] 113]⟩
  (blockK 2 (blockK 1 (seqK (sector_apart.cd N [1, 0, 1, 0, 0, 1, 1, 1]) (loopK (norm ((sector_apart.E N).keep 2) 0) (sector_apart.cd N [1, 0, 1, 0, 0]) k1 (blockK 0 (seqK (sector_apart.cd N [1, 1]) sector_apart.fin))))))
theorem sector_apart.l1_zero (N : Nat) (x0 : List (List (Int × Int) × Int × Int)) (k1 : Nat) (a2 : Int) (a4 : Int) : sector_apart.l1 N x0 k1 a2 0 a4 = none := by kernel_rfl
theorem sector_apart.l1_succ (N : Nat) (x0 : List (List (Int × Int) × Int × Int)) (k1 : Nat) (a2 : Int) (k3 : Nat) (a4 : Int) : sector_apart.l1 N x0 k1 a2 (k3 + 1) a4 =
    bif decide (a4 < ((List.take (Int.toNat a2) x0).length : Int)) then
      bif (decide (0 ≤ a4)) && (decide (a4 < ((List.take (Int.toNat a2) x0).length : Int))) then
        (volume_Overlap.fn N (List.getD x0 (Int.toNat a2) ([], (0, 0)), List.getD (List.take (Int.toNat a2) x0) (Int.toNat a4) ([], (0, 0)))).bind fun r5 =>
        bif !(r5.2 == 0) then
          some r5.2
        else
        bif r5.1 then
          some 19
        else
          sector_apart.l1 N x0 k1 a2 k3 (w (a4 + 1))
      else
        none
    else
      sector_apart.l0 N x0 k1 (w (a2 + 1)) := by kernel_rfl
theorem sector_apart.l0_zero (N : Nat) (x0 : List (List (Int × Int) × Int × Int)) (a2 : Int) : sector_apart.l0 N x0 0 a2 = none := by kernel_rfl
theorem sector_apart.l0_succ (N : Nat) (x0 : List (List (Int × Int) × Int × Int)) (k1 : Nat) (a2 : Int) : sector_apart.l0 N x0 (k1 + 1) a2 =
    bif decide (a2 < (x0.length : Int)) then
      bif (decide (0 ≤ a2)) && (decide (a2 < (x0.length : Int))) then
        bif (decide (0 ≤ a2)) && (decide (a2 ≤ (x0.length : Int))) then
          sector_apart.l1 N x0 k1 a2 N 0
        else
          none
      else
        none
    else
      some 0 := by kernel_rfl
theorem sector_apart.l1_cons (N : Nat) (x0 : List (List (Int × Int) × Int × Int)) (k1 : Nat) (a2 : Int) (k3 : Nat) {pre r} {x} (hl : (List.take (Int.toNat a2) x0) = pre ++ x :: r) (hb : (List.take (Int.toNat a2) x0).length < 4611686018427387904) : sector_apart.l1 N x0 k1 a2 (k3 + 1) (pre.length : Int) =
    (volume_Overlap.fn N (List.getD x0 (Int.toNat a2) ([], (0, 0)), x)).bind fun r5 =>
    bif !(r5.2 == 0) then
      some r5.2
    else
    bif r5.1 then
      some 19
    else
      sector_apart.l1 N x0 k1 a2 k3 ((pre.length : Int) + 1) := by
  have hlen : (List.take (Int.toNat a2) x0).length = pre.length + 1 + r.length := by rw [hl]; simp; omega
  have e1 : decide ((pre.length : Int) < ((List.take (Int.toNat a2) x0).length : Int)) = true := by rw [decide_eq_true_iff]; omega
  have e2 : decide (0 ≤ (pre.length : Int)) = true := by rw [decide_eq_true_iff]; omega
  have e4 : w ((pre.length : Int) + 1) = (pre.length : Int) + 1 := w_next hl hb
  have e5 : List.take pre.length (List.take (Int.toNat a2) x0) = pre := by rw [hl]; simp
  have e6 : decide ((pre.length : Int) ≤ ((List.take (Int.toNat a2) x0).length : Int)) = true := by rw [decide_eq_true_iff]; omega
  have g0 : List.getD (List.take (Int.toNat a2) x0) pre.length ([], (0, 0)) = x := by rw [hl]; exact getD_mid pre x r _
  rw [sector_apart.l1_succ]
  simp -implicitDefEqProofs only [Int.toNat_natCast, e1, e2, e4, e6, g0, e5, Bool.and_true, Bool.true_and, Bool.true_or, cond_true]
theorem sector_apart.l1_nil (N : Nat) (x0 : List (List (Int × Int) × Int × Int)) (k1 : Nat) (a2 : Int) (k3 : Nat) : sector_apart.l1 N x0 k1 a2 (k3 + 1) ((List.take (Int.toNat a2) x0).length : Int) =
    sector_apart.l0 N x0 k1 (w (a2 + 1)) := by
  have e1 : decide (((List.take (Int.toNat a2) x0).length : Int) < ((List.take (Int.toNat a2) x0).length : Int)) = false := by rw [decide_eq_false_iff_not]; omega
  rw [sector_apart.l1_succ]
  simp -implicitDefEqProofs only [e1, cond_false]
theorem sector_apart.l0_cons (N : Nat) (x0 : List (List (Int × Int) × Int × Int)) (k1 : Nat) {pre r} {x} (hl : x0 = pre ++ x :: r) (hb : x0.length < 4611686018427387904) : sector_apart.l0 N x0 (k1 + 1) (pre.length : Int) =
    sector_apart.l1 N x0 k1 (pre.length : Int) N 0 := by
  have hlen : x0.length = pre.length + 1 + r.length := by rw [hl]; simp; omega
  have e1 : decide ((pre.length : Int) < (x0.length : Int)) = true := by rw [decide_eq_true_iff]; omega
  have e2 : decide (0 ≤ (pre.length : Int)) = true := by rw [decide_eq_true_iff]; omega
  have e4 : w ((pre.length : Int) + 1) = (pre.length : Int) + 1 := w_next hl hb
  have e5 : List.take pre.length x0 = pre := by rw [hl]; simp
  have e6 : decide ((pre.length : Int) ≤ (x0.length : Int)) = true := by rw [decide_eq_true_iff]; omega
  rw [sector_apart.l0_succ]
  simp -implicitDefEqProofs only [Int.toNat_natCast, e1, e2, e4, e6, e5, Bool.and_true, Bool.true_and, Bool.true_or, cond_true]
theorem sector_apart.l0_nil (N : Nat) (x0 : List (List (Int × Int) × Int × Int)) (k1 : Nat) : sector_apart.l0 N x0 (k1 + 1) (x0.length : Int) =
    some 0 := by
  have e1 : decide ((x0.length : Int) < (x0.length : Int)) = false := by rw [decide_eq_false_iff_not]; omega
  rw [sector_apart.l0_succ]
  simp -implicitDefEqProofs only [e1, cond_false]
theorem sector_apart.eq (N : Nat) (x0 : List (List (Int × Int) × Int × Int)) : sector_apart.fn N x0 =
    sector_apart.l0 N x0 N 0 := by kernel_rfl

/-! ### sector_Check: skyway/sector.Check -/
def sector_Check.kp : List (Nat × List (Nat × Option (TypeId × Ty))) := [(4, [(0, none), (11, none), (12, none), (13, none)]), (10, [(0, none), (4, none), (11, none), (12, none), (13, none), (25, none), (26, none), (27, none)])]
noncomputable def sector_Check.G (N : Nat) : List (Nat × Spec) := [(60, .pure (sector_one.S N)), (61, .pure (sector_apart.S N)), (62, .pure (sector_rooms.S N))]
noncomputable def sector_Check.E (N : Nat) : Env := mkEnv (sector_Check.G N) N tyTab sector_Check.kp
noncomputable def sector_Check.fn (N : Nat) (x : List (ByteArray × List (List (Int × Int) × Int × Int))) : Option Int := evFn (sector_Check.E N) Try.prog 3 Try.f16 false [.cell (.sl 106 (.pair (.str) (.sl 113 (.pair (.sl 29 (.pair (.int .i64) (.int .i64))) (.pair (.int .i64) (.int .i64))))))] [.val (.cell (.int .i64))] x
noncomputable def sector_Check.S (N : Nat) : PSpec := ⟨false, [.cell (.sl 106 (.pair (.str) (.sl 113 (.pair (.sl 29 (.pair (.int .i64) (.int .i64))) (.pair (.int .i64) (.int .i64))))))], [.val (.cell (.int .i64))], sector_Check.fn N⟩
theorem f16_enters : Enters Try.prog 16 := ⟨Try.f16, Try.func16, by kernel_rfl, by kernel_rfl⟩
theorem sector_Check.tab (N : Nat) : TabOk Try.prog (sector_Check.G N) := ⟨⟨sector_one.enters, sector_one.sound N⟩, ⟨sector_apart.enters, sector_apart.sound N⟩, ⟨sector_rooms.enters, sector_rooms.sound N⟩, trivial⟩
theorem sector_Check.enters : Enters Try.prog 16 := f16_enters
theorem sector_Check.sound (N : Nat) : Sound Try.prog 16 (sector_Check.S N) := evFn_sound (specs_tab (sector_Check.tab N)) (inls_tab (sector_Check.tab N)) mixed 3 Try.func16 _ _ _
noncomputable def sector_Check.cd (N : Nat) (p : List Nat) : St → (Ex → St → Option Int) → Option Int := ev (sector_Check.E N) Try.prog (callD (sector_Check.E N) Try.prog 3) 0 (codeAt (bodyOf Try.f16) p)
noncomputable def sector_Check.fin : Ex → St → Option Int := endK Try.prog Try.f16 [.val (.cell (.int .i64))]
noncomputable def sector_Check.l0 (N : Nat) (x0 : List (ByteArray × List (List (Int × Int) × Int × Int))) (k1 : Nat) (a2 : Int) : Option Int :=
  loopN (norm ((sector_Check.E N).keep 4) 0) (sector_Check.cd N [1, 1, 0, 1, 0, 0]) k1
  ⟨[.ros false 106 (.pair (.str) (.sl 113 (.pair (.sl 29 (.pair (.int .i64) (.int .i64))) (.pair (.int .i64) (.int .i64))))) x0, .any, .any, .any, .any, .any, .any, .any, .any, .any, .any, .ros false 106 (.pair (.str) (.sl 113 (.pair (.sl 29 (.pair (.int .i64) (.int .i64))) (.pair (.int .i64) (.int .i64))))) x0, .sc (.int .i64 (x0.length : Int)), .sc (.int .i64 a2), .any, .any, .any, .any, .any, .any, .any, .any, .any, .any, .any, .any, .any, .any, .any, .any, .any, .any, .any, .any, .any, .any, .any, .any, .any, .any, .any], []⟩
  (blockK 0 (seqK (sector_Check.cd N [1, 1, 1]) sector_Check.fin))
noncomputable def sector_Check.l1 (N : Nat) (x0 : List (ByteArray × List (List (Int × Int) × Int × Int))) (k1 : Nat) (a2 : Int) (k4 : Nat) (a5 : Int) : Option Int :=
  loopN (norm ((sector_Check.E N).keep 10) 0) (sector_Check.cd N [1, 1, 0, 1, 0, 0, 1, 1, 0, 0, 1, 1, 1, 0, 0]) k4
  ⟨[.ros false 106 (.pair (.str) (.sl 113 (.pair (.sl 29 (.pair (.int .i64) (.int .i64))) (.pair (.int .i64) (.int .i64))))) x0, .any, .any, .any, .ptr 0 0, .any, .any, .any, .any, .any, .any, .ros false 106 (.pair (.str) (.sl 113 (.pair (.sl 29 (.pair (.int .i64) (.int .i64))) (.pair (.int .i64) (.int .i64))))) x0, .sc (.int .i64 (x0.length : Int)), .sc (.int .i64 a2), .any, .any, .any, .any, .any, .any, .any, .any, .any, .any, .any, .ros false 106 (.pair (.str) (.sl 113 (.pair (.sl 29 (.pair (.int .i64) (.int .i64))) (.pair (.int .i64) (.int .i64))))) (List.take (Int.toNat a2) x0), .sc (.int .i64 ((List.take (Int.toNat a2) x0).length : Int)), .sc (.int .i64 a5), .any, .any, .any, .any, .any, .any, .any, .any, .any, .any, .any, .any, .any], [.cells [.sc (.string ((List.getD x0 (Int.toNat a2) ((⟨#[]⟩ : ByteArray), [])).1)), .ros false 113 (.pair (.sl 29 (.pair (.int .i64) (.int .i64))) (.pair (.int .i64) (.int .i64))) ((List.getD x0 (Int.toNat a2) ((⟨#[]⟩ : ByteArray), [])).2)] 106]⟩
  (blockK 2 (blockK 1 (seqK (sector_Check.cd N [1, 1, 0, 1, 0, 0, 1, 1, 1]) (loopK (norm ((sector_Check.E N).keep 4) 0) (sector_Check.cd N [1, 1, 0, 1, 0, 0]) k1 (blockK 0 (seqK (sector_Check.cd N [1, 1, 1]) sector_Check.fin))))))
theorem sector_Check.l1_zero (N : Nat) (x0 : List (ByteArray × List (List (Int × Int) × Int × Int))) (k1 : Nat) (a2 : Int) (a5 : Int) : sector_Check.l1 N x0 k1 a2 0 a5 = none := by kernel_rfl
theorem sector_Check.l1_succ (N : Nat) (x0 : List (ByteArray × List (List (Int × Int) × Int × Int))) (k1 : Nat) (a2 : Int) (k4 : Nat) (a5 : Int) : sector_Check.l1 N x0 k1 a2 (k4 + 1) a5 =
    bif decide (a5 < ((List.take (Int.toNat a2) x0).length : Int)) then
      bif (decide (0 ≤ a5)) && (decide (a5 < ((List.take (Int.toNat a2) x0).length : Int))) then
        bif seq ((List.getD (List.take (Int.toNat a2) x0) (Int.toNat a5) ((⟨#[]⟩ : ByteArray), [])).1) ((List.getD x0 (Int.toNat a2) ((⟨#[]⟩ : ByteArray), [])).1) then
          some 7
        else
          sector_Check.l1 N x0 k1 a2 k4 (w (a5 + 1))
      else
        none
    else
      sector_Check.l0 N x0 k1 (w (a2 + 1)) := by kernel_rfl
theorem sector_Check.l0_zero (N : Nat) (x0 : List (ByteArray × List (List (Int × Int) × Int × Int))) (a2 : Int) : sector_Check.l0 N x0 0 a2 = none := by kernel_rfl
theorem sector_Check.l0_succ (N : Nat) (x0 : List (ByteArray × List (List (Int × Int) × Int × Int))) (k1 : Nat) (a2 : Int) : sector_Check.l0 N x0 (k1 + 1) a2 =
    bif decide (a2 < (x0.length : Int)) then
      bif (decide (0 ≤ a2)) && (decide (a2 < (x0.length : Int))) then
        (sector_one.fn N (List.getD x0 (Int.toNat a2) ((⟨#[]⟩ : ByteArray), []))).bind fun r3 =>
        bif !(r3 == 0) then
          some r3
        else
        bif (decide (0 ≤ a2)) && (decide (a2 ≤ (x0.length : Int))) then
          sector_Check.l1 N x0 k1 a2 N 0
        else
          none
      else
        none
    else
      (sector_rooms.fn N x0).bind fun r6 =>
      (sector_apart.fn N r6).bind fun r7 =>
      some r7 := by kernel_rfl
theorem sector_Check.l1_cons (N : Nat) (x0 : List (ByteArray × List (List (Int × Int) × Int × Int))) (k1 : Nat) (a2 : Int) (k4 : Nat) {pre r} {x} (hl : (List.take (Int.toNat a2) x0) = pre ++ x :: r) (hb : (List.take (Int.toNat a2) x0).length < 4611686018427387904) : sector_Check.l1 N x0 k1 a2 (k4 + 1) (pre.length : Int) =
    bif seq (x.1) ((List.getD x0 (Int.toNat a2) ((⟨#[]⟩ : ByteArray), [])).1) then
      some 7
    else
      sector_Check.l1 N x0 k1 a2 k4 ((pre.length : Int) + 1) := by
  have hlen : (List.take (Int.toNat a2) x0).length = pre.length + 1 + r.length := by rw [hl]; simp; omega
  have e1 : decide ((pre.length : Int) < ((List.take (Int.toNat a2) x0).length : Int)) = true := by rw [decide_eq_true_iff]; omega
  have e2 : decide (0 ≤ (pre.length : Int)) = true := by rw [decide_eq_true_iff]; omega
  have e4 : w ((pre.length : Int) + 1) = (pre.length : Int) + 1 := w_next hl hb
  have e5 : List.take pre.length (List.take (Int.toNat a2) x0) = pre := by rw [hl]; simp
  have e6 : decide ((pre.length : Int) ≤ ((List.take (Int.toNat a2) x0).length : Int)) = true := by rw [decide_eq_true_iff]; omega
  have g0 : List.getD (List.take (Int.toNat a2) x0) pre.length ((⟨#[]⟩ : ByteArray), []) = x := by rw [hl]; exact getD_mid pre x r _
  rw [sector_Check.l1_succ]
  simp -implicitDefEqProofs only [Int.toNat_natCast, e1, e2, e4, e6, g0, e5, Bool.and_true, Bool.true_and, Bool.true_or, cond_true]
theorem sector_Check.l1_nil (N : Nat) (x0 : List (ByteArray × List (List (Int × Int) × Int × Int))) (k1 : Nat) (a2 : Int) (k4 : Nat) : sector_Check.l1 N x0 k1 a2 (k4 + 1) ((List.take (Int.toNat a2) x0).length : Int) =
    sector_Check.l0 N x0 k1 (w (a2 + 1)) := by
  have e1 : decide (((List.take (Int.toNat a2) x0).length : Int) < ((List.take (Int.toNat a2) x0).length : Int)) = false := by rw [decide_eq_false_iff_not]; omega
  rw [sector_Check.l1_succ]
  simp -implicitDefEqProofs only [e1, cond_false]
theorem sector_Check.l0_cons (N : Nat) (x0 : List (ByteArray × List (List (Int × Int) × Int × Int))) (k1 : Nat) {pre r} {x} (hl : x0 = pre ++ x :: r) (hb : x0.length < 4611686018427387904) : sector_Check.l0 N x0 (k1 + 1) (pre.length : Int) =
    (sector_one.fn N x).bind fun r3 =>
    bif !(r3 == 0) then
      some r3
    else
      sector_Check.l1 N x0 k1 (pre.length : Int) N 0 := by
  have hlen : x0.length = pre.length + 1 + r.length := by rw [hl]; simp; omega
  have e1 : decide ((pre.length : Int) < (x0.length : Int)) = true := by rw [decide_eq_true_iff]; omega
  have e2 : decide (0 ≤ (pre.length : Int)) = true := by rw [decide_eq_true_iff]; omega
  have e4 : w ((pre.length : Int) + 1) = (pre.length : Int) + 1 := w_next hl hb
  have e5 : List.take pre.length x0 = pre := by rw [hl]; simp
  have e6 : decide ((pre.length : Int) ≤ (x0.length : Int)) = true := by rw [decide_eq_true_iff]; omega
  have g0 : List.getD x0 pre.length ((⟨#[]⟩ : ByteArray), []) = x := by rw [hl]; exact getD_mid pre x r _
  rw [sector_Check.l0_succ]
  simp -implicitDefEqProofs only [Int.toNat_natCast, e1, e2, e4, e6, g0, e5, Bool.and_true, Bool.true_and, Bool.true_or, cond_true]
theorem sector_Check.l0_nil (N : Nat) (x0 : List (ByteArray × List (List (Int × Int) × Int × Int))) (k1 : Nat) : sector_Check.l0 N x0 (k1 + 1) (x0.length : Int) =
    (sector_rooms.fn N x0).bind fun r6 =>
    (sector_apart.fn N r6).bind fun r7 =>
    some r7 := by
  have e1 : decide ((x0.length : Int) < (x0.length : Int)) = false := by rw [decide_eq_false_iff_not]; omega
  rw [sector_Check.l0_succ]
  simp -implicitDefEqProofs only [e1, cond_false]
theorem sector_Check.eq (N : Nat) (x0 : List (ByteArray × List (List (Int × Int) × Int × Int))) : sector_Check.fn N x0 =
    bif decide ((x0.length : Int) > 12) then
      some 2
    else
      sector_Check.l0 N x0 N 0 := by kernel_rfl

/-! ### tube_Check: skyway/tube.Check -/
def tube_Check.kp : List (Nat × List (Nat × Option (TypeId × Ty))) := [(6, [(0, none), (14, none), (15, none), (16, none)])]
noncomputable def tube_Check.G (N : Nat) : List (Nat × Spec) := [(21, .pure (plane_Check.S N))]
noncomputable def tube_Check.E (N : Nat) : Env := mkEnv (tube_Check.G N) N tyTab tube_Check.kp
noncomputable def tube_Check.fn (N : Nat) (x : List ((Int × (Int × Int) × Int) × Int × Int)) : Option Int := evFn (tube_Check.E N) Try.prog 3 Try.f25 false [.cell (.sl 44 (.pair (.pair (.int .i64) (.pair (.pair (.int .i64) (.int .i64)) (.int .i64))) (.pair (.int .i64) (.int .i64))))] [.val (.cell (.int .i64))] x
noncomputable def tube_Check.S (N : Nat) : PSpec := ⟨false, [.cell (.sl 44 (.pair (.pair (.int .i64) (.pair (.pair (.int .i64) (.int .i64)) (.int .i64))) (.pair (.int .i64) (.int .i64))))], [.val (.cell (.int .i64))], tube_Check.fn N⟩
theorem f25_enters : Enters Try.prog 25 := ⟨Try.f25, Try.func25, by kernel_rfl, by kernel_rfl⟩
theorem tube_Check.tab (N : Nat) : TabOk Try.prog (tube_Check.G N) := ⟨⟨plane_Check.enters, plane_Check.sound N⟩, trivial⟩
theorem tube_Check.enters : Enters Try.prog 25 := f25_enters
theorem tube_Check.sound (N : Nat) : Sound Try.prog 25 (tube_Check.S N) := evFn_sound (specs_tab (tube_Check.tab N)) (inls_tab (tube_Check.tab N)) mixed 3 Try.func25 _ _ _
noncomputable def tube_Check.cd (N : Nat) (p : List Nat) : St → (Ex → St → Option Int) → Option Int := ev (tube_Check.E N) Try.prog (callD (tube_Check.E N) Try.prog 3) 0 (codeAt (bodyOf Try.f25) p)
noncomputable def tube_Check.fin : Ex → St → Option Int := endK Try.prog Try.f25 [.val (.cell (.int .i64))]
noncomputable def tube_Check.l0 (N : Nat) (x0 : List ((Int × (Int × Int) × Int) × Int × Int)) (k1 : Nat) (a2 : Int) : Option Int :=
  loopN (norm ((tube_Check.E N).keep 6) 0) (tube_Check.cd N [1, 1, 0, 1, 0, 0]) k1
  ⟨[.ros false 44 (.pair (.pair (.int .i64) (.pair (.pair (.int .i64) (.int .i64)) (.int .i64))) (.pair (.int .i64) (.int .i64))) x0, .any, .any, .any, .any, .any, .any, .any, .any, .any, .any, .any, .any, .any, .ros false 44 (.pair (.pair (.int .i64) (.pair (.pair (.int .i64) (.int .i64)) (.int .i64))) (.pair (.int .i64) (.int .i64))) x0, .sc (.int .i64 (x0.length : Int)), .sc (.int .i64 a2), .any, .any, .any, .any, .any, .any, .any, .any, .any, .any, .any, .any, .any, .any, .any, .any, .any, .any, .any, .any, .any, .any, .any, .any, .any, .any, .any, .any, .any, .any, .any, .any, .any, .any, .any, .any, .any, .any, .any, .any, .any, .any, .any, .any, .any, .any, .any, .any, .any, .any, .any, .any, .any, .any, .any, .any, .any, .any, .any, .any, .any, .any, .any, .any, .any, .any, .any, .any, .any], []⟩
  (blockK 1 (seqK (tube_Check.cd N [1, 1, 1]) tube_Check.fin))
theorem tube_Check.l0_zero (N : Nat) (x0 : List ((Int × (Int × Int) × Int) × Int × Int)) (a2 : Int) : tube_Check.l0 N x0 0 a2 = none := by kernel_rfl
theorem tube_Check.l0_succ (N : Nat) (x0 : List ((Int × (Int × Int) × Int) × Int × Int)) (k1 : Nat) (a2 : Int) : tube_Check.l0 N x0 (k1 + 1) a2 =
    bif decide (a2 < (x0.length : Int)) then
      bif (decide (0 ≤ a2)) && (decide (a2 < (x0.length : Int))) then
        bif !(!(decide ((((List.getD x0 (Int.toNat a2) ((0, ((0, 0), 0)), (0, 0))).1).1) < 0))) || (!(decide ((((List.getD x0 (Int.toNat a2) ((0, ((0, 0), 0)), (0, 0))).1).1) < 0))) then
          bif !(!(decide ((((List.getD x0 (Int.toNat a2) ((0, ((0, 0), 0)), (0, 0))).1).1) < 0))) || (!(decide ((((List.getD x0 (Int.toNat a2) ((0, ((0, 0), 0)), (0, 0))).1).1) < 0))) then
            bif !(!(decide ((((List.getD x0 (Int.toNat a2) ((0, ((0, 0), 0)), (0, 0))).1).1) < 0))) || (!(decide ((((List.getD x0 (Int.toNat a2) ((0, ((0, 0), 0)), (0, 0))).1).1) < 0))) then
              bif (decide ((((List.getD x0 (Int.toNat a2) ((0, ((0, 0), 0)), (0, 0))).1).1) < 0)) || (!(decide ((((List.getD x0 (Int.toNat a2) ((0, ((0, 0), 0)), (0, 0))).1).1) < 0))) then
                bif !(!((decide ((((List.getD x0 (Int.toNat a2) ((0, ((0, 0), 0)), (0, 0))).1).1) < 0)) || (decide ((((List.getD x0 (Int.toNat a2) ((0, ((0, 0), 0)), (0, 0))).1).1) > 200000)))) || (!((decide ((((List.getD x0 (Int.toNat a2) ((0, ((0, 0), 0)), (0, 0))).1).1) < 0)) || (decide ((((List.getD x0 (Int.toNat a2) ((0, ((0, 0), 0)), (0, 0))).1).1) > 200000)))) then
                  bif !(!((decide ((((List.getD x0 (Int.toNat a2) ((0, ((0, 0), 0)), (0, 0))).1).1) < 0)) || (decide ((((List.getD x0 (Int.toNat a2) ((0, ((0, 0), 0)), (0, 0))).1).1) > 200000)))) || (!((decide ((((List.getD x0 (Int.toNat a2) ((0, ((0, 0), 0)), (0, 0))).1).1) < 0)) || (decide ((((List.getD x0 (Int.toNat a2) ((0, ((0, 0), 0)), (0, 0))).1).1) > 200000)))) then
                    bif !((!((decide ((((List.getD x0 (Int.toNat a2) ((0, ((0, 0), 0)), (0, 0))).1).1) < 0)) || (decide ((((List.getD x0 (Int.toNat a2) ((0, ((0, 0), 0)), (0, 0))).1).1) > 200000)))) && (decide (a2 > 0))) || ((!((decide ((((List.getD x0 (Int.toNat a2) ((0, ((0, 0), 0)), (0, 0))).1).1) < 0)) || (decide ((((List.getD x0 (Int.toNat a2) ((0, ((0, 0), 0)), (0, 0))).1).1) > 200000)))) && (decide (a2 > 0))) then
                      bif !((!((decide ((((List.getD x0 (Int.toNat a2) ((0, ((0, 0), 0)), (0, 0))).1).1) < 0)) || (decide ((((List.getD x0 (Int.toNat a2) ((0, ((0, 0), 0)), (0, 0))).1).1) > 200000)))) && (decide (a2 > 0))) || ((!((decide ((((List.getD x0 (Int.toNat a2) ((0, ((0, 0), 0)), (0, 0))).1).1) < 0)) || (decide ((((List.getD x0 (Int.toNat a2) ((0, ((0, 0), 0)), (0, 0))).1).1) > 200000)))) && (decide (a2 > 0))) then
                        bif !((!((decide ((((List.getD x0 (Int.toNat a2) ((0, ((0, 0), 0)), (0, 0))).1).1) < 0)) || (decide ((((List.getD x0 (Int.toNat a2) ((0, ((0, 0), 0)), (0, 0))).1).1) > 200000)))) && (decide (a2 > 0))) || ((!((decide ((((List.getD x0 (Int.toNat a2) ((0, ((0, 0), 0)), (0, 0))).1).1) < 0)) || (decide ((((List.getD x0 (Int.toNat a2) ((0, ((0, 0), 0)), (0, 0))).1).1) > 200000)))) && (decide (a2 > 0))) then
                          bif !((!((decide ((((List.getD x0 (Int.toNat a2) ((0, ((0, 0), 0)), (0, 0))).1).1) < 0)) || (decide ((((List.getD x0 (Int.toNat a2) ((0, ((0, 0), 0)), (0, 0))).1).1) > 200000)))) && (decide (a2 > 0))) || ((!((decide ((((List.getD x0 (Int.toNat a2) ((0, ((0, 0), 0)), (0, 0))).1).1) < 0)) || (decide ((((List.getD x0 (Int.toNat a2) ((0, ((0, 0), 0)), (0, 0))).1).1) > 200000)))) && (decide (a2 > 0))) then
                            bif !((!((decide ((((List.getD x0 (Int.toNat a2) ((0, ((0, 0), 0)), (0, 0))).1).1) < 0)) || (decide ((((List.getD x0 (Int.toNat a2) ((0, ((0, 0), 0)), (0, 0))).1).1) > 200000)))) && (decide (a2 > 0))) || ((!((decide ((((List.getD x0 (Int.toNat a2) ((0, ((0, 0), 0)), (0, 0))).1).1) < 0)) || (decide ((((List.getD x0 (Int.toNat a2) ((0, ((0, 0), 0)), (0, 0))).1).1) > 200000)))) && (decide (a2 > 0))) then
                              bif ((decide (0 ≤ (w (a2 - 1)))) && (decide ((w (a2 - 1)) < (x0.length : Int)))) || !((!((decide ((((List.getD x0 (Int.toNat a2) ((0, ((0, 0), 0)), (0, 0))).1).1) < 0)) || (decide ((((List.getD x0 (Int.toNat a2) ((0, ((0, 0), 0)), (0, 0))).1).1) > 200000)))) && (decide (a2 > 0))) then
                                bif !((!((decide ((((List.getD x0 (Int.toNat a2) ((0, ((0, 0), 0)), (0, 0))).1).1) < 0)) || (decide ((((List.getD x0 (Int.toNat a2) ((0, ((0, 0), 0)), (0, 0))).1).1) > 200000)))) && (decide (a2 > 0))) || ((!((decide ((((List.getD x0 (Int.toNat a2) ((0, ((0, 0), 0)), (0, 0))).1).1) < 0)) || (decide ((((List.getD x0 (Int.toNat a2) ((0, ((0, 0), 0)), (0, 0))).1).1) > 200000)))) && (decide (a2 > 0))) then
                                  bif !((!((decide ((((List.getD x0 (Int.toNat a2) ((0, ((0, 0), 0)), (0, 0))).1).1) < 0)) || (decide ((((List.getD x0 (Int.toNat a2) ((0, ((0, 0), 0)), (0, 0))).1).1) > 200000)))) && (decide (a2 > 0))) || ((!((decide ((((List.getD x0 (Int.toNat a2) ((0, ((0, 0), 0)), (0, 0))).1).1) < 0)) || (decide ((((List.getD x0 (Int.toNat a2) ((0, ((0, 0), 0)), (0, 0))).1).1) > 200000)))) && (decide (a2 > 0))) then
                                    bif !((!((decide ((((List.getD x0 (Int.toNat a2) ((0, ((0, 0), 0)), (0, 0))).1).1) < 0)) || (decide ((((List.getD x0 (Int.toNat a2) ((0, ((0, 0), 0)), (0, 0))).1).1) > 200000)))) && (decide (a2 > 0))) || ((!((decide ((((List.getD x0 (Int.toNat a2) ((0, ((0, 0), 0)), (0, 0))).1).1) < 0)) || (decide ((((List.getD x0 (Int.toNat a2) ((0, ((0, 0), 0)), (0, 0))).1).1) > 200000)))) && (decide (a2 > 0))) then
                                      bif !((!((decide ((((List.getD x0 (Int.toNat a2) ((0, ((0, 0), 0)), (0, 0))).1).1) < 0)) || (decide ((((List.getD x0 (Int.toNat a2) ((0, ((0, 0), 0)), (0, 0))).1).1) > 200000)))) && (decide (a2 > 0))) || ((!((decide ((((List.getD x0 (Int.toNat a2) ((0, ((0, 0), 0)), (0, 0))).1).1) < 0)) || (decide ((((List.getD x0 (Int.toNat a2) ((0, ((0, 0), 0)), (0, 0))).1).1) > 200000)))) && (decide (a2 > 0))) then
                                        bif !((!((decide ((((List.getD x0 (Int.toNat a2) ((0, ((0, 0), 0)), (0, 0))).1).1) < 0)) || (decide ((((List.getD x0 (Int.toNat a2) ((0, ((0, 0), 0)), (0, 0))).1).1) > 200000)))) && (decide (a2 > 0))) || ((!((decide ((((List.getD x0 (Int.toNat a2) ((0, ((0, 0), 0)), (0, 0))).1).1) < 0)) || (decide ((((List.getD x0 (Int.toNat a2) ((0, ((0, 0), 0)), (0, 0))).1).1) > 200000)))) && (decide (a2 > 0))) then
                                          bif !(!((decide ((((List.getD x0 (Int.toNat a2) ((0, ((0, 0), 0)), (0, 0))).1).1) < 0)) || (decide ((((List.getD x0 (Int.toNat a2) ((0, ((0, 0), 0)), (0, 0))).1).1) > 200000)))) || (!((decide ((((List.getD x0 (Int.toNat a2) ((0, ((0, 0), 0)), (0, 0))).1).1) < 0)) || (decide ((((List.getD x0 (Int.toNat a2) ((0, ((0, 0), 0)), (0, 0))).1).1) > 200000)))) then
                                            bif !(!((decide ((((List.getD x0 (Int.toNat a2) ((0, ((0, 0), 0)), (0, 0))).1).1) < 0)) || (decide ((((List.getD x0 (Int.toNat a2) ((0, ((0, 0), 0)), (0, 0))).1).1) > 200000)))) || ((!(decide (a2 > 0))) || ((!((decide ((((List.getD x0 (Int.toNat a2) ((0, ((0, 0), 0)), (0, 0))).1).1) < 0)) || (decide ((((List.getD x0 (Int.toNat a2) ((0, ((0, 0), 0)), (0, 0))).1).1) > 200000)))) && (decide (a2 > 0)))) then
                                              bif ((decide ((((List.getD x0 (Int.toNat a2) ((0, ((0, 0), 0)), (0, 0))).1).1) < 0)) || (decide ((((List.getD x0 (Int.toNat a2) ((0, ((0, 0), 0)), (0, 0))).1).1) > 200000))) || (!((decide ((((List.getD x0 (Int.toNat a2) ((0, ((0, 0), 0)), (0, 0))).1).1) < 0)) || (decide ((((List.getD x0 (Int.toNat a2) ((0, ((0, 0), 0)), (0, 0))).1).1) > 200000)))) then
                                                bif ((decide ((((List.getD x0 (Int.toNat a2) ((0, ((0, 0), 0)), (0, 0))).1).1) < 0)) || (decide ((((List.getD x0 (Int.toNat a2) ((0, ((0, 0), 0)), (0, 0))).1).1) > 200000))) || ((decide (a2 > 0)) && (decide ((((List.getD x0 (Int.toNat a2) ((0, ((0, 0), 0)), (0, 0))).1).1) ≤ (((List.getD x0 (Int.toNat (w (a2 - 1))) ((0, ((0, 0), 0)), (0, 0))).1).1)))) then
                                                  some 12
                                                else
                                                  (plane_Check.fn N ((((List.getD x0 (Int.toNat a2) ((0, ((0, 0), 0)), (0, 0))).1).2).1)).bind fun r3 =>
                                                  bif !(r3 == 0) then
                                                    some r3
                                                  else
                                                  bif !(!(decide (((((List.getD x0 (Int.toNat a2) ((0, ((0, 0), 0)), (0, 0))).1).2).2) < 0))) || (!(decide (((((List.getD x0 (Int.toNat a2) ((0, ((0, 0), 0)), (0, 0))).1).2).2) < 0))) then
                                                    bif !(!(decide (((((List.getD x0 (Int.toNat a2) ((0, ((0, 0), 0)), (0, 0))).1).2).2) < 0))) || (!(decide (((((List.getD x0 (Int.toNat a2) ((0, ((0, 0), 0)), (0, 0))).1).2).2) < 0))) then
                                                      bif !(!(decide (((((List.getD x0 (Int.toNat a2) ((0, ((0, 0), 0)), (0, 0))).1).2).2) < 0))) || (!(decide (((((List.getD x0 (Int.toNat a2) ((0, ((0, 0), 0)), (0, 0))).1).2).2) < 0))) then
                                                        bif (decide (((((List.getD x0 (Int.toNat a2) ((0, ((0, 0), 0)), (0, 0))).1).2).2) < 0)) || (!(decide (((((List.getD x0 (Int.toNat a2) ((0, ((0, 0), 0)), (0, 0))).1).2).2) < 0))) then
                                                          bif !(!((decide (((((List.getD x0 (Int.toNat a2) ((0, ((0, 0), 0)), (0, 0))).1).2).2) < 0)) || (decide (((((List.getD x0 (Int.toNat a2) ((0, ((0, 0), 0)), (0, 0))).1).2).2) > 60000)))) || (!((decide (((((List.getD x0 (Int.toNat a2) ((0, ((0, 0), 0)), (0, 0))).1).2).2) < 0)) || (decide (((((List.getD x0 (Int.toNat a2) ((0, ((0, 0), 0)), (0, 0))).1).2).2) > 60000)))) then
                                                            bif !(!((decide (((((List.getD x0 (Int.toNat a2) ((0, ((0, 0), 0)), (0, 0))).1).2).2) < 0)) || (decide (((((List.getD x0 (Int.toNat a2) ((0, ((0, 0), 0)), (0, 0))).1).2).2) > 60000)))) || (!((decide (((((List.getD x0 (Int.toNat a2) ((0, ((0, 0), 0)), (0, 0))).1).2).2) < 0)) || (decide (((((List.getD x0 (Int.toNat a2) ((0, ((0, 0), 0)), (0, 0))).1).2).2) > 60000)))) then
                                                              bif ((decide (((((List.getD x0 (Int.toNat a2) ((0, ((0, 0), 0)), (0, 0))).1).2).2) < 0)) || (decide (((((List.getD x0 (Int.toNat a2) ((0, ((0, 0), 0)), (0, 0))).1).2).2) > 60000))) || (!((decide (((((List.getD x0 (Int.toNat a2) ((0, ((0, 0), 0)), (0, 0))).1).2).2) < 0)) || (decide (((((List.getD x0 (Int.toNat a2) ((0, ((0, 0), 0)), (0, 0))).1).2).2) > 60000)))) then
                                                                bif !(!(((decide (((((List.getD x0 (Int.toNat a2) ((0, ((0, 0), 0)), (0, 0))).1).2).2) < 0)) || (decide (((((List.getD x0 (Int.toNat a2) ((0, ((0, 0), 0)), (0, 0))).1).2).2) > 60000))) || (decide ((((List.getD x0 (Int.toNat a2) ((0, ((0, 0), 0)), (0, 0))).2).1) < 0)))) || (!(((decide (((((List.getD x0 (Int.toNat a2) ((0, ((0, 0), 0)), (0, 0))).1).2).2) < 0)) || (decide (((((List.getD x0 (Int.toNat a2) ((0, ((0, 0), 0)), (0, 0))).1).2).2) > 60000))) || (decide ((((List.getD x0 (Int.toNat a2) ((0, ((0, 0), 0)), (0, 0))).2).1) < 0)))) then
                                                                  bif !(!(((decide (((((List.getD x0 (Int.toNat a2) ((0, ((0, 0), 0)), (0, 0))).1).2).2) < 0)) || (decide (((((List.getD x0 (Int.toNat a2) ((0, ((0, 0), 0)), (0, 0))).1).2).2) > 60000))) || (decide ((((List.getD x0 (Int.toNat a2) ((0, ((0, 0), 0)), (0, 0))).2).1) < 0)))) || (!(((decide (((((List.getD x0 (Int.toNat a2) ((0, ((0, 0), 0)), (0, 0))).1).2).2) < 0)) || (decide (((((List.getD x0 (Int.toNat a2) ((0, ((0, 0), 0)), (0, 0))).1).2).2) > 60000))) || (decide ((((List.getD x0 (Int.toNat a2) ((0, ((0, 0), 0)), (0, 0))).2).1) < 0)))) then
                                                                    bif (((decide (((((List.getD x0 (Int.toNat a2) ((0, ((0, 0), 0)), (0, 0))).1).2).2) < 0)) || (decide (((((List.getD x0 (Int.toNat a2) ((0, ((0, 0), 0)), (0, 0))).1).2).2) > 60000))) || (decide ((((List.getD x0 (Int.toNat a2) ((0, ((0, 0), 0)), (0, 0))).2).1) < 0))) || (!(((decide (((((List.getD x0 (Int.toNat a2) ((0, ((0, 0), 0)), (0, 0))).1).2).2) < 0)) || (decide (((((List.getD x0 (Int.toNat a2) ((0, ((0, 0), 0)), (0, 0))).1).2).2) > 60000))) || (decide ((((List.getD x0 (Int.toNat a2) ((0, ((0, 0), 0)), (0, 0))).2).1) < 0)))) then
                                                                      bif !(!((((decide (((((List.getD x0 (Int.toNat a2) ((0, ((0, 0), 0)), (0, 0))).1).2).2) < 0)) || (decide (((((List.getD x0 (Int.toNat a2) ((0, ((0, 0), 0)), (0, 0))).1).2).2) > 60000))) || (decide ((((List.getD x0 (Int.toNat a2) ((0, ((0, 0), 0)), (0, 0))).2).1) < 0))) || (decide ((((List.getD x0 (Int.toNat a2) ((0, ((0, 0), 0)), (0, 0))).2).1) > 1000000)))) || (!((((decide (((((List.getD x0 (Int.toNat a2) ((0, ((0, 0), 0)), (0, 0))).1).2).2) < 0)) || (decide (((((List.getD x0 (Int.toNat a2) ((0, ((0, 0), 0)), (0, 0))).1).2).2) > 60000))) || (decide ((((List.getD x0 (Int.toNat a2) ((0, ((0, 0), 0)), (0, 0))).2).1) < 0))) || (decide ((((List.getD x0 (Int.toNat a2) ((0, ((0, 0), 0)), (0, 0))).2).1) > 1000000)))) then
                                                                        bif !(!((((decide (((((List.getD x0 (Int.toNat a2) ((0, ((0, 0), 0)), (0, 0))).1).2).2) < 0)) || (decide (((((List.getD x0 (Int.toNat a2) ((0, ((0, 0), 0)), (0, 0))).1).2).2) > 60000))) || (decide ((((List.getD x0 (Int.toNat a2) ((0, ((0, 0), 0)), (0, 0))).2).1) < 0))) || (decide ((((List.getD x0 (Int.toNat a2) ((0, ((0, 0), 0)), (0, 0))).2).1) > 1000000)))) || (!((((decide (((((List.getD x0 (Int.toNat a2) ((0, ((0, 0), 0)), (0, 0))).1).2).2) < 0)) || (decide (((((List.getD x0 (Int.toNat a2) ((0, ((0, 0), 0)), (0, 0))).1).2).2) > 60000))) || (decide ((((List.getD x0 (Int.toNat a2) ((0, ((0, 0), 0)), (0, 0))).2).1) < 0))) || (decide ((((List.getD x0 (Int.toNat a2) ((0, ((0, 0), 0)), (0, 0))).2).1) > 1000000)))) then
                                                                          bif ((((decide (((((List.getD x0 (Int.toNat a2) ((0, ((0, 0), 0)), (0, 0))).1).2).2) < 0)) || (decide (((((List.getD x0 (Int.toNat a2) ((0, ((0, 0), 0)), (0, 0))).1).2).2) > 60000))) || (decide ((((List.getD x0 (Int.toNat a2) ((0, ((0, 0), 0)), (0, 0))).2).1) < 0))) || (decide ((((List.getD x0 (Int.toNat a2) ((0, ((0, 0), 0)), (0, 0))).2).1) > 1000000))) || (!((((decide (((((List.getD x0 (Int.toNat a2) ((0, ((0, 0), 0)), (0, 0))).1).2).2) < 0)) || (decide (((((List.getD x0 (Int.toNat a2) ((0, ((0, 0), 0)), (0, 0))).1).2).2) > 60000))) || (decide ((((List.getD x0 (Int.toNat a2) ((0, ((0, 0), 0)), (0, 0))).2).1) < 0))) || (decide ((((List.getD x0 (Int.toNat a2) ((0, ((0, 0), 0)), (0, 0))).2).1) > 1000000)))) then
                                                                            bif !(!(((((decide (((((List.getD x0 (Int.toNat a2) ((0, ((0, 0), 0)), (0, 0))).1).2).2) < 0)) || (decide (((((List.getD x0 (Int.toNat a2) ((0, ((0, 0), 0)), (0, 0))).1).2).2) > 60000))) || (decide ((((List.getD x0 (Int.toNat a2) ((0, ((0, 0), 0)), (0, 0))).2).1) < 0))) || (decide ((((List.getD x0 (Int.toNat a2) ((0, ((0, 0), 0)), (0, 0))).2).1) > 1000000))) || (decide ((((List.getD x0 (Int.toNat a2) ((0, ((0, 0), 0)), (0, 0))).2).2) < 0)))) || (!(((((decide (((((List.getD x0 (Int.toNat a2) ((0, ((0, 0), 0)), (0, 0))).1).2).2) < 0)) || (decide (((((List.getD x0 (Int.toNat a2) ((0, ((0, 0), 0)), (0, 0))).1).2).2) > 60000))) || (decide ((((List.getD x0 (Int.toNat a2) ((0, ((0, 0), 0)), (0, 0))).2).1) < 0))) || (decide ((((List.getD x0 (Int.toNat a2) ((0, ((0, 0), 0)), (0, 0))).2).1) > 1000000))) || (decide ((((List.getD x0 (Int.toNat a2) ((0, ((0, 0), 0)), (0, 0))).2).2) < 0)))) then
                                                                              bif !(!(((((decide (((((List.getD x0 (Int.toNat a2) ((0, ((0, 0), 0)), (0, 0))).1).2).2) < 0)) || (decide (((((List.getD x0 (Int.toNat a2) ((0, ((0, 0), 0)), (0, 0))).1).2).2) > 60000))) || (decide ((((List.getD x0 (Int.toNat a2) ((0, ((0, 0), 0)), (0, 0))).2).1) < 0))) || (decide ((((List.getD x0 (Int.toNat a2) ((0, ((0, 0), 0)), (0, 0))).2).1) > 1000000))) || (decide ((((List.getD x0 (Int.toNat a2) ((0, ((0, 0), 0)), (0, 0))).2).2) < 0)))) || (!(((((decide (((((List.getD x0 (Int.toNat a2) ((0, ((0, 0), 0)), (0, 0))).1).2).2) < 0)) || (decide (((((List.getD x0 (Int.toNat a2) ((0, ((0, 0), 0)), (0, 0))).1).2).2) > 60000))) || (decide ((((List.getD x0 (Int.toNat a2) ((0, ((0, 0), 0)), (0, 0))).2).1) < 0))) || (decide ((((List.getD x0 (Int.toNat a2) ((0, ((0, 0), 0)), (0, 0))).2).1) > 1000000))) || (decide ((((List.getD x0 (Int.toNat a2) ((0, ((0, 0), 0)), (0, 0))).2).2) < 0)))) then
                                                                                bif (((((decide (((((List.getD x0 (Int.toNat a2) ((0, ((0, 0), 0)), (0, 0))).1).2).2) < 0)) || (decide (((((List.getD x0 (Int.toNat a2) ((0, ((0, 0), 0)), (0, 0))).1).2).2) > 60000))) || (decide ((((List.getD x0 (Int.toNat a2) ((0, ((0, 0), 0)), (0, 0))).2).1) < 0))) || (decide ((((List.getD x0 (Int.toNat a2) ((0, ((0, 0), 0)), (0, 0))).2).1) > 1000000))) || (decide ((((List.getD x0 (Int.toNat a2) ((0, ((0, 0), 0)), (0, 0))).2).2) < 0))) || (!(((((decide (((((List.getD x0 (Int.toNat a2) ((0, ((0, 0), 0)), (0, 0))).1).2).2) < 0)) || (decide (((((List.getD x0 (Int.toNat a2) ((0, ((0, 0), 0)), (0, 0))).1).2).2) > 60000))) || (decide ((((List.getD x0 (Int.toNat a2) ((0, ((0, 0), 0)), (0, 0))).2).1) < 0))) || (decide ((((List.getD x0 (Int.toNat a2) ((0, ((0, 0), 0)), (0, 0))).2).1) > 1000000))) || (decide ((((List.getD x0 (Int.toNat a2) ((0, ((0, 0), 0)), (0, 0))).2).2) < 0)))) then
                                                                                  bif (((((decide (((((List.getD x0 (Int.toNat a2) ((0, ((0, 0), 0)), (0, 0))).1).2).2) < 0)) || (decide (((((List.getD x0 (Int.toNat a2) ((0, ((0, 0), 0)), (0, 0))).1).2).2) > 60000))) || (decide ((((List.getD x0 (Int.toNat a2) ((0, ((0, 0), 0)), (0, 0))).2).1) < 0))) || (decide ((((List.getD x0 (Int.toNat a2) ((0, ((0, 0), 0)), (0, 0))).2).1) > 1000000))) || (decide ((((List.getD x0 (Int.toNat a2) ((0, ((0, 0), 0)), (0, 0))).2).2) < 0))) || (decide ((((List.getD x0 (Int.toNat a2) ((0, ((0, 0), 0)), (0, 0))).2).2) > 60000)) then
                                                                                    some 4
                                                                                  else
                                                                                    tube_Check.l0 N x0 k1 (w (a2 + 1))
                                                                                else
                                                                                  none
                                                                              else
                                                                                none
                                                                            else
                                                                              none
                                                                          else
                                                                            none
                                                                        else
                                                                          none
                                                                      else
                                                                        none
                                                                    else
                                                                      none
                                                                  else
                                                                    none
                                                                else
                                                                  none
                                                              else
                                                                none
                                                            else
                                                              none
                                                          else
                                                            none
                                                        else
                                                          none
                                                      else
                                                        none
                                                    else
                                                      none
                                                  else
                                                    none
                                              else
                                                none
                                            else
                                              none
                                          else
                                            none
                                        else
                                          none
                                      else
                                        none
                                    else
                                      none
                                  else
                                    none
                                else
                                  none
                              else
                                none
                            else
                              none
                          else
                            none
                        else
                          none
                      else
                        none
                    else
                      none
                  else
                    none
                else
                  none
              else
                none
            else
              none
          else
            none
        else
          none
      else
        none
    else
      some 0 := by kernel_rfl
theorem taut36 : ∀ p0 p1 p2 p3 p4 : Bool, ((!(!(((((p0) || (p1)) || (p2)) || (p3)) || (p4))) || (!(((((p0) || (p1)) || (p2)) || (p3)) || (p4))))) = true := by decide
theorem taut37 : ∀ p0 p1 p2 p3 : Bool, ((!(!((((p0) || (p1)) || (p2)) || (p3))) || (!((((p0) || (p1)) || (p2)) || (p3))))) = true := by decide
theorem taut38 : ∀ p0 p1 p2 : Bool, ((!(!((p0) || (p1))) || ((!(p2)) || ((!((p0) || (p1))) && (p2))))) = true := by decide
theorem taut39 : ∀ p0 p1 p2 : Bool, ((!((!((p0) || (p1))) && (p2)) || ((!((p0) || (p1))) && (p2)))) = true := by decide
theorem taut40 : ∀ p0 p1 p2 p3 p4 : Bool, (((((((p0) || (p1)) || (p2)) || (p3)) || (p4)) || (!(((((p0) || (p1)) || (p2)) || (p3)) || (p4))))) = true := by decide
theorem taut41 : ∀ p0 p1 p2 p3 : Bool, ((((((p0) || (p1)) || (p2)) || (p3)) || (!((((p0) || (p1)) || (p2)) || (p3))))) = true := by decide
theorem tube_Check.l0_clean (N : Nat) (x0 : List ((Int × (Int × Int) × Int) × Int × Int)) (k1 : Nat) (a2 : Int) : tube_Check.l0 N x0 (k1 + 1) a2 =
    bif decide (a2 < (x0.length : Int)) then
      bif (decide (0 ≤ a2)) && (decide (a2 < (x0.length : Int))) then
        bif ((decide (0 ≤ (w (a2 - 1)))) && (decide ((w (a2 - 1)) < (x0.length : Int)))) || !((!((decide ((((List.getD x0 (Int.toNat a2) ((0, ((0, 0), 0)), (0, 0))).1).1) < 0)) || (decide ((((List.getD x0 (Int.toNat a2) ((0, ((0, 0), 0)), (0, 0))).1).1) > 200000)))) && (decide (a2 > 0))) then
          bif ((decide ((((List.getD x0 (Int.toNat a2) ((0, ((0, 0), 0)), (0, 0))).1).1) < 0)) || (decide ((((List.getD x0 (Int.toNat a2) ((0, ((0, 0), 0)), (0, 0))).1).1) > 200000))) || ((decide (a2 > 0)) && (decide ((((List.getD x0 (Int.toNat a2) ((0, ((0, 0), 0)), (0, 0))).1).1) ≤ (((List.getD x0 (Int.toNat (w (a2 - 1))) ((0, ((0, 0), 0)), (0, 0))).1).1)))) then
            some 12
          else
            (plane_Check.fn N ((((List.getD x0 (Int.toNat a2) ((0, ((0, 0), 0)), (0, 0))).1).2).1)).bind fun r3 =>
            bif !(r3 == 0) then
              some r3
            else
            bif (((((decide (((((List.getD x0 (Int.toNat a2) ((0, ((0, 0), 0)), (0, 0))).1).2).2) < 0)) || (decide (((((List.getD x0 (Int.toNat a2) ((0, ((0, 0), 0)), (0, 0))).1).2).2) > 60000))) || (decide ((((List.getD x0 (Int.toNat a2) ((0, ((0, 0), 0)), (0, 0))).2).1) < 0))) || (decide ((((List.getD x0 (Int.toNat a2) ((0, ((0, 0), 0)), (0, 0))).2).1) > 1000000))) || (decide ((((List.getD x0 (Int.toNat a2) ((0, ((0, 0), 0)), (0, 0))).2).2) < 0))) || (decide ((((List.getD x0 (Int.toNat a2) ((0, ((0, 0), 0)), (0, 0))).2).2) > 60000)) then
              some 4
            else
              tube_Check.l0 N x0 k1 (w (a2 + 1))
        else
          none
      else
        none
    else
      some 0 := by
  rw [tube_Check.l0_succ]; simp only [taut36, taut37, taut7, taut8, taut38, taut1, taut39, taut40, taut41, taut9, taut10, taut6, cond_true]
theorem tube_Check.l0_cons (N : Nat) (x0 : List ((Int × (Int × Int) × Int) × Int × Int)) (k1 : Nat) {pre r} {x} (hl : x0 = pre ++ x :: r) (hb : x0.length < 4611686018427387904) : tube_Check.l0 N x0 (k1 + 1) (pre.length : Int) =
    bif ((decide (0 ≤ (w ((pre.length : Int) - 1)))) && (decide ((w ((pre.length : Int) - 1)) < (x0.length : Int)))) || !((!((decide (((x.1).1) < 0)) || (decide (((x.1).1) > 200000)))) && (decide ((pre.length : Int) > 0))) then
      bif ((decide (((x.1).1) < 0)) || (decide (((x.1).1) > 200000))) || ((decide ((pre.length : Int) > 0)) && (decide (((x.1).1) ≤ (((List.getD x0 (Int.toNat (w ((pre.length : Int) - 1))) ((0, ((0, 0), 0)), (0, 0))).1).1)))) then
        some 12
      else
        (plane_Check.fn N (((x.1).2).1)).bind fun r3 =>
        bif !(r3 == 0) then
          some r3
        else
        bif (((((decide ((((x.1).2).2) < 0)) || (decide ((((x.1).2).2) > 60000))) || (decide (((x.2).1) < 0))) || (decide (((x.2).1) > 1000000))) || (decide (((x.2).2) < 0))) || (decide (((x.2).2) > 60000)) then
          some 4
        else
          tube_Check.l0 N x0 k1 ((pre.length : Int) + 1)
    else
      none := by
  have hlen : x0.length = pre.length + 1 + r.length := by rw [hl]; simp; omega
  have e1 : decide ((pre.length : Int) < (x0.length : Int)) = true := by rw [decide_eq_true_iff]; omega
  have e2 : decide (0 ≤ (pre.length : Int)) = true := by rw [decide_eq_true_iff]; omega
  have e4 : w ((pre.length : Int) + 1) = (pre.length : Int) + 1 := w_next hl hb
  have e5 : List.take pre.length x0 = pre := by rw [hl]; simp
  have e6 : decide ((pre.length : Int) ≤ (x0.length : Int)) = true := by rw [decide_eq_true_iff]; omega
  have g0 : List.getD x0 pre.length ((0, ((0, 0), 0)), (0, 0)) = x := by rw [hl]; exact getD_mid pre x r _
  rw [tube_Check.l0_clean]
  simp -implicitDefEqProofs only [Int.toNat_natCast, e1, e2, e4, e6, g0, e5, Bool.and_true, Bool.true_and, Bool.true_or, cond_true]
theorem tube_Check.l0_nil (N : Nat) (x0 : List ((Int × (Int × Int) × Int) × Int × Int)) (k1 : Nat) : tube_Check.l0 N x0 (k1 + 1) (x0.length : Int) =
    some 0 := by
  have e1 : decide ((x0.length : Int) < (x0.length : Int)) = false := by rw [decide_eq_false_iff_not]; omega
  rw [tube_Check.l0_clean]
  simp -implicitDefEqProofs only [e1, cond_false]
theorem tube_Check.eq (N : Nat) (x0 : List ((Int × (Int × Int) × Int) × Int × Int)) : tube_Check.fn N x0 =
    bif decide ((x0.length : Int) > 64) then
      some 2
    else
    bif (x0.length : Int) == 0 then
      some 3
    else
      tube_Check.l0 N x0 N 0 := by kernel_rfl

/-! ### load_check: skyway/load.check -/
def load_check.kp : List (Nat × List (Nat × Option (TypeId × Ty))) := [(7, [(17, none), (18, none), (19, none)])]
noncomputable def load_check.G (N : Nat) : List (Nat × Spec) := [(16, .pure (sector_Check.S N)), (25, .pure (tube_Check.S N))]
noncomputable def load_check.E (N : Nat) : Env := mkEnv (load_check.G N) N tyTab load_check.kp
noncomputable def load_check.fn (N : Nat) (x : List (ByteArray × List (List (Int × Int) × Int × Int)) × List (List ((Int × (Int × Int) × Int) × Int × Int))) : Option Int := evFn (load_check.E N) Try.prog 3 Try.f72 false [.cell (.sl 106 (.pair (.str) (.sl 113 (.pair (.sl 29 (.pair (.int .i64) (.int .i64))) (.pair (.int .i64) (.int .i64)))))), .cell (.sl 40 (.sl 44 (.pair (.pair (.int .i64) (.pair (.pair (.int .i64) (.int .i64)) (.int .i64))) (.pair (.int .i64) (.int .i64)))))] [.val (.cell (.int .i64))] x
noncomputable def load_check.S (N : Nat) : PSpec := ⟨false, [.cell (.sl 106 (.pair (.str) (.sl 113 (.pair (.sl 29 (.pair (.int .i64) (.int .i64))) (.pair (.int .i64) (.int .i64)))))), .cell (.sl 40 (.sl 44 (.pair (.pair (.int .i64) (.pair (.pair (.int .i64) (.int .i64)) (.int .i64))) (.pair (.int .i64) (.int .i64)))))], [.val (.cell (.int .i64))], load_check.fn N⟩
theorem f72_enters : Enters Try.prog 72 := ⟨Try.f72, Try.func72, by kernel_rfl, by kernel_rfl⟩
theorem load_check.tab (N : Nat) : TabOk Try.prog (load_check.G N) := ⟨⟨sector_Check.enters, sector_Check.sound N⟩, ⟨tube_Check.enters, tube_Check.sound N⟩, trivial⟩
theorem load_check.enters : Enters Try.prog 72 := f72_enters
theorem load_check.sound (N : Nat) : Sound Try.prog 72 (load_check.S N) := evFn_sound (specs_tab (load_check.tab N)) (inls_tab (load_check.tab N)) mixed 3 Try.func72 _ _ _
noncomputable def load_check.cd (N : Nat) (p : List Nat) : St → (Ex → St → Option Int) → Option Int := ev (load_check.E N) Try.prog (callD (load_check.E N) Try.prog 3) 0 (codeAt (bodyOf Try.f72) p)
noncomputable def load_check.fin : Ex → St → Option Int := endK Try.prog Try.f72 [.val (.cell (.int .i64))]
noncomputable def load_check.l0 (N : Nat) (x1 : List (List ((Int × (Int × Int) × Int) × Int × Int))) (k2 : Nat) (a3 : Int) : Option Int :=
  loopN (norm ((load_check.E N).keep 7) 0) (load_check.cd N [1, 1, 1, 0, 1, 0, 0]) k2
  ⟨[.any, .any, .any, .any, .any, .any, .any, .any, .any, .any, .any, .any, .any, .any, .any, .any, .any, .ros false 40 (.sl 44 (.pair (.pair (.int .i64) (.pair (.pair (.int .i64) (.int .i64)) (.int .i64))) (.pair (.int .i64) (.int .i64)))) x1, .sc (.int .i64 (x1.length : Int)), .sc (.int .i64 a3), .any, .any, .any, .any, .any, .any, .any, .any, .any], []⟩
  (blockK 0 (seqK (load_check.cd N [1, 1, 1, 1]) load_check.fin))
theorem load_check.l0_zero (N : Nat) (x1 : List (List ((Int × (Int × Int) × Int) × Int × Int))) (a3 : Int) : load_check.l0 N x1 0 a3 = none := by kernel_rfl
theorem load_check.l0_succ (N : Nat) (x1 : List (List ((Int × (Int × Int) × Int) × Int × Int))) (k2 : Nat) (a3 : Int) : load_check.l0 N x1 (k2 + 1) a3 =
    bif decide (a3 < (x1.length : Int)) then
      bif (decide (0 ≤ a3)) && (decide (a3 < (x1.length : Int))) then
        (tube_Check.fn N (List.getD x1 (Int.toNat a3) [])).bind fun r4 =>
        bif !(r4 == 0) then
          some r4
        else
          load_check.l0 N x1 k2 (w (a3 + 1))
      else
        none
    else
      some 0 := by kernel_rfl
theorem load_check.l0_cons (N : Nat) (x1 : List (List ((Int × (Int × Int) × Int) × Int × Int))) (k2 : Nat) {pre r} {x} (hl : x1 = pre ++ x :: r) (hb : x1.length < 4611686018427387904) : load_check.l0 N x1 (k2 + 1) (pre.length : Int) =
    (tube_Check.fn N x).bind fun r4 =>
    bif !(r4 == 0) then
      some r4
    else
      load_check.l0 N x1 k2 ((pre.length : Int) + 1) := by
  have hlen : x1.length = pre.length + 1 + r.length := by rw [hl]; simp; omega
  have e1 : decide ((pre.length : Int) < (x1.length : Int)) = true := by rw [decide_eq_true_iff]; omega
  have e2 : decide (0 ≤ (pre.length : Int)) = true := by rw [decide_eq_true_iff]; omega
  have e4 : w ((pre.length : Int) + 1) = (pre.length : Int) + 1 := w_next hl hb
  have e5 : List.take pre.length x1 = pre := by rw [hl]; simp
  have e6 : decide ((pre.length : Int) ≤ (x1.length : Int)) = true := by rw [decide_eq_true_iff]; omega
  have g0 : List.getD x1 pre.length [] = x := by rw [hl]; exact getD_mid pre x r _
  rw [load_check.l0_succ]
  simp -implicitDefEqProofs only [Int.toNat_natCast, e1, e2, e4, e6, g0, e5, Bool.and_true, Bool.true_and, Bool.true_or, cond_true]
theorem load_check.l0_nil (N : Nat) (x1 : List (List ((Int × (Int × Int) × Int) × Int × Int))) (k2 : Nat) : load_check.l0 N x1 (k2 + 1) (x1.length : Int) =
    some 0 := by
  have e1 : decide ((x1.length : Int) < (x1.length : Int)) = false := by rw [decide_eq_false_iff_not]; omega
  rw [load_check.l0_succ]
  simp -implicitDefEqProofs only [e1, cond_false]
theorem load_check.eq (N : Nat) (x0 : List (ByteArray × List (List (Int × Int) × Int × Int))) (x1 : List (List ((Int × (Int × Int) × Int) × Int × Int))) : load_check.fn N (x0, x1) =
    (sector_Check.fn N x0).bind fun r1 =>
    bif !(r1 == 0) then
      some r1
    else
    bif decide ((x1.length : Int) > 24) then
      some 2
    else
      load_check.l0 N x1 N 0 := by kernel_rfl

/-! ### num_DivDown: skyway/num.DivDown -/
def num_DivDown.kp : List (Nat × List (Nat × Option (TypeId × Ty))) := []
noncomputable def num_DivDown.G (N : Nat) : List (Nat × Spec) := []
noncomputable def num_DivDown.E (N : Nat) : Env := mkEnv (num_DivDown.G N) N tyTab num_DivDown.kp
noncomputable def num_DivDown.fn (N : Nat) (x : Int × Int) : Option (Int × Int) := evFn (num_DivDown.E N) Try.prog 3 Try.f112 false [.cell (.int .i64), .cell (.int .i64)] [.val (.cell (.int .i64)), .val (.cell (.int .i64))] x
noncomputable def num_DivDown.S (N : Nat) : PSpec := ⟨false, [.cell (.int .i64), .cell (.int .i64)], [.val (.cell (.int .i64)), .val (.cell (.int .i64))], num_DivDown.fn N⟩
theorem f112_enters : Enters Try.prog 112 := ⟨Try.f112, Try.func112, by kernel_rfl, by kernel_rfl⟩
theorem num_DivDown.tab (N : Nat) : TabOk Try.prog (num_DivDown.G N) := trivial
theorem num_DivDown.enters : Enters Try.prog 112 := f112_enters
theorem num_DivDown.sound (N : Nat) : Sound Try.prog 112 (num_DivDown.S N) := evFn_sound (specs_tab (num_DivDown.tab N)) (inls_tab (num_DivDown.tab N)) mixed 3 Try.func112 _ _ _
theorem num_DivDown.eq (N : Nat) (x0 : Int) (x1 : Int) : num_DivDown.fn N (x0, x1) =
    bif x1 == 0 then
      some (0, 10)
    else
    bif !(x0 == (-9223372036854775808)) || (x0 == (-9223372036854775808)) then
      bif (!(x0 == (-9223372036854775808))) || (x0 == (-9223372036854775808)) then
        bif (x0 == (-9223372036854775808)) && (x1 == (-1)) then
          some (0, 2)
        else
        bif x1 != 0 then
          bif x1 != 0 then
            bif !(!((Int.tmod x0 x1) == 0)) || (!((Int.tmod x0 x1) == 0)) then
              bif !(!((Int.tmod x0 x1) == 0)) || (!((Int.tmod x0 x1) == 0)) then
                bif !(!((Int.tmod x0 x1) == 0)) || (!((Int.tmod x0 x1) == 0)) then
                  bif !(!((Int.tmod x0 x1) == 0)) || (!((Int.tmod x0 x1) == 0)) then
                    bif (!(!((Int.tmod x0 x1) == 0))) || (!((Int.tmod x0 x1) == 0)) then
                      bif (!((Int.tmod x0 x1) == 0)) && (!((decide (x0 < 0)) == (decide (x1 < 0)))) then
                        some ((w ((w (Int.tdiv x0 x1)) - 1)), 0)
                      else
                        some ((w (Int.tdiv x0 x1)), 0)
                    else
                      none
                  else
                    none
                else
                  none
              else
                none
            else
              none
          else
            none
        else
          none
      else
        none
    else
      none := by kernel_rfl
theorem num_DivDown.clean (N : Nat) (x0 : Int) (x1 : Int) : num_DivDown.fn N (x0, x1) =
    bif x1 == 0 then
      some (0, 10)
    else
    bif (x0 == (-9223372036854775808)) && (x1 == (-1)) then
      some (0, 2)
    else
    bif x1 != 0 then
      bif x1 != 0 then
        bif (!((Int.tmod x0 x1) == 0)) && (!((decide (x0 < 0)) == (decide (x1 < 0)))) then
          some ((w ((w (Int.tdiv x0 x1)) - 1)), 0)
        else
          some ((w (Int.tdiv x0 x1)), 0)
      else
        none
    else
      none := by
  rw [num_DivDown.eq]; simp only [taut1, taut20, taut25, taut21, cond_true]

end Go.Proofs.Ytjojikhfmlceoaa.Sk
