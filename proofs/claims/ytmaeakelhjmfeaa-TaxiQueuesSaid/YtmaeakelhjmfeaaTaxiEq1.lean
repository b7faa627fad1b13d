/- PRINTED by gen.py: what the functions answer. Not trusted: Lean checks it. -/
import Derived.Test.YtmaeakelhjmfeaaSkAid
import Derived.Test.YtmaeakelhjmfeaaSkSort93
set_option linter.unusedVariables false
set_option linter.unusedSimpArgs false
set_option maxRecDepth 100000
namespace Go.Proofs.Ytmaeakelhjmfeaa.Sk
open Go
def tyTab : TypeId → Option Ty := tyOf [(3, .int .i64), (4, .bool), (35, .pair (.int .i64) (.pair (.int .i64) (.pair (.bool) (.int .i64)))), (49, .pair (.int .i64) (.int .i64)), (60, .pair (.int .i64) (.int .i64)), (76, .pair (.str) (.pair (.int .i64) (.pair (.int .i64) (.int .i64)))), (94, .pair (.str) (.pair (.str) (.int .i64))), (106, .pair (.str) (.int .i64)), (133, .pair (.str) (.int .i64)), (135, .pair (.str) (.pair (.str) (.int .i64))), (149, .pair (.pair (.int .i64) (.int .i64)) (.int .i64)), (160, .pair (.str) (.pair (.int .i64) (.pair (.int .i64) (.int .i64))))]
theorem mixed : Try.prog.follows .mixedOrders = true := by kernel_rfl
/-! ### chart_Name: skyway/chart.Name -/
def chart_Name.kp : List (Nat × List (Nat × Option (TypeId × Ty))) := [(4, [(0, none), (24, none), (25, none)])]
noncomputable def chart_Name.G (N : Nat) : List (Nat × Spec) := []
noncomputable def chart_Name.E (N : Nat) : Env := mkEnv (chart_Name.G N) N tyTab chart_Name.kp
noncomputable def chart_Name.fn (N : Nat) (x : ByteArray) : Option Bool := evFn (chart_Name.E N) Try.prog 3 Try.f156 false [.cell (.str)] [.val (.cell (.bool))] x
noncomputable def chart_Name.S (N : Nat) : PSpec := ⟨false, [.cell (.str)], [.val (.cell (.bool))], chart_Name.fn N⟩
theorem f156_enters : Enters Try.prog 156 := ⟨Try.f156, Try.func156, by kernel_rfl, by kernel_rfl⟩
theorem chart_Name.tab (N : Nat) : TabOk Try.prog (chart_Name.G N) := trivial
theorem chart_Name.enters : Enters Try.prog 156 := f156_enters
theorem chart_Name.sound (N : Nat) : Sound Try.prog 156 (chart_Name.S N) := evFn_sound (specs_tab (chart_Name.tab N)) (inls_tab (chart_Name.tab N)) mixed 3 Try.func156 _ _ _
noncomputable def chart_Name.cd (N : Nat) (p : List Nat) : St → (Ex → St → Option Bool) → Option Bool := ev (chart_Name.E N) Try.prog (callD (chart_Name.E N) Try.prog 3) 0 (codeAt (bodyOf Try.f156) p)
noncomputable def chart_Name.fin : Ex → St → Option Bool := endK Try.prog Try.f156 [.val (.cell (.bool))]
noncomputable def chart_Name.l0 (N : Nat) (x0 : ByteArray) (k1 : Nat) (a2 : Int) : Option Bool :=
  loopN (norm ((chart_Name.E N).keep 4) 0) (chart_Name.cd N [1, 1, 0, 1, 0, 0]) k1
  ⟨[.sc (.string x0), .any, .any, .any, .any, .any, .any, .any, .any, .any, .any, .any, .any, .any, .any, .any, .any, .any, .any, .any, .any, .any, .any, .any, .sc (.int .i64 (x0.size : Int)), .sc (.int .i64 a2), .any, .any, .any, .any, .any, .any, .any, .any, .any, .any, .any, .any, .any, .any, .any, .any, .any, .any, .any, .any], []⟩
  (blockK 0 (seqK (chart_Name.cd N [1, 1, 1]) chart_Name.fin))
theorem chart_Name.l0_zero (N : Nat) (x0 : ByteArray) (a2 : Int) : chart_Name.l0 N x0 0 a2 = none := by kernel_rfl
theorem chart_Name.l0_succ (N : Nat) (x0 : ByteArray) (k1 : Nat) (a2 : Int) : chart_Name.l0 N x0 (k1 + 1) a2 =
    bif decide (a2 < (x0.size : Int)) then
      bif (decide (0 ≤ a2)) && (decide (a2 < (x0.size : Int))) then
        bif !(!(decide (((((ByteArray.data x0).getD (Int.toNat a2) 0).toNat : Nat) : Int) < 65))) || (!(decide (((((ByteArray.data x0).getD (Int.toNat a2) 0).toNat : Nat) : Int) < 65))) then
          bif (decide (((((ByteArray.data x0).getD (Int.toNat a2) 0).toNat : Nat) : Int) < 65)) || (!(decide (((((ByteArray.data x0).getD (Int.toNat a2) 0).toNat : Nat) : Int) < 65))) then
            bif !((decide (((((ByteArray.data x0).getD (Int.toNat a2) 0).toNat : Nat) : Int) < 65)) || (decide (((((ByteArray.data x0).getD (Int.toNat a2) 0).toNat : Nat) : Int) > 90))) || ((decide (((((ByteArray.data x0).getD (Int.toNat a2) 0).toNat : Nat) : Int) < 65)) || (decide (((((ByteArray.data x0).getD (Int.toNat a2) 0).toNat : Nat) : Int) > 90))) then
              bif !((decide (((((ByteArray.data x0).getD (Int.toNat a2) 0).toNat : Nat) : Int) < 65)) || (decide (((((ByteArray.data x0).getD (Int.toNat a2) 0).toNat : Nat) : Int) > 90))) || ((decide (((((ByteArray.data x0).getD (Int.toNat a2) 0).toNat : Nat) : Int) < 65)) || (decide (((((ByteArray.data x0).getD (Int.toNat a2) 0).toNat : Nat) : Int) > 90))) then
                bif !(((decide (((((ByteArray.data x0).getD (Int.toNat a2) 0).toNat : Nat) : Int) < 65)) || (decide (((((ByteArray.data x0).getD (Int.toNat a2) 0).toNat : Nat) : Int) > 90))) && (!(decide (((((ByteArray.data x0).getD (Int.toNat a2) 0).toNat : Nat) : Int) < 48)))) || (((decide (((((ByteArray.data x0).getD (Int.toNat a2) 0).toNat : Nat) : Int) < 65)) || (decide (((((ByteArray.data x0).getD (Int.toNat a2) 0).toNat : Nat) : Int) > 90))) && (!(decide (((((ByteArray.data x0).getD (Int.toNat a2) 0).toNat : Nat) : Int) < 48)))) then
                  bif !((decide (((((ByteArray.data x0).getD (Int.toNat a2) 0).toNat : Nat) : Int) < 65)) || (decide (((((ByteArray.data x0).getD (Int.toNat a2) 0).toNat : Nat) : Int) > 90))) || ((decide (((((ByteArray.data x0).getD (Int.toNat a2) 0).toNat : Nat) : Int) < 65)) || (decide (((((ByteArray.data x0).getD (Int.toNat a2) 0).toNat : Nat) : Int) > 90))) then
                    bif !((decide (((((ByteArray.data x0).getD (Int.toNat a2) 0).toNat : Nat) : Int) < 65)) || (decide (((((ByteArray.data x0).getD (Int.toNat a2) 0).toNat : Nat) : Int) > 90))) || ((decide (((((ByteArray.data x0).getD (Int.toNat a2) 0).toNat : Nat) : Int) < 48)) || (((decide (((((ByteArray.data x0).getD (Int.toNat a2) 0).toNat : Nat) : Int) < 65)) || (decide (((((ByteArray.data x0).getD (Int.toNat a2) 0).toNat : Nat) : Int) > 90))) && (!(decide (((((ByteArray.data x0).getD (Int.toNat a2) 0).toNat : Nat) : Int) < 48))))) then
                      bif (!((decide (((((ByteArray.data x0).getD (Int.toNat a2) 0).toNat : Nat) : Int) < 65)) || (decide (((((ByteArray.data x0).getD (Int.toNat a2) 0).toNat : Nat) : Int) > 90)))) || ((decide (((((ByteArray.data x0).getD (Int.toNat a2) 0).toNat : Nat) : Int) < 65)) || (decide (((((ByteArray.data x0).getD (Int.toNat a2) 0).toNat : Nat) : Int) > 90))) then
                        bif ((decide (((((ByteArray.data x0).getD (Int.toNat a2) 0).toNat : Nat) : Int) < 65)) || (decide (((((ByteArray.data x0).getD (Int.toNat a2) 0).toNat : Nat) : Int) > 90))) && ((decide (((((ByteArray.data x0).getD (Int.toNat a2) 0).toNat : Nat) : Int) < 48)) || (decide (((((ByteArray.data x0).getD (Int.toNat a2) 0).toNat : Nat) : Int) > 57))) then
                          some false
                        else
                          chart_Name.l0 N x0 k1 (w (a2 + 1))
                      else
                        none
                    else
                      none
                  else
                    none
                else
                  none
              else
                none
            else
              none
          else
            none
        else
          none
      else
        none
    else
      some true := by kernel_rfl
theorem taut1 : ∀ p0 : Bool, ((!(!(p0)) || (!(p0)))) = true := by decide
theorem taut2 : ∀ p0 p1 p2 : Bool, ((!(((p0) || (p1)) && (!(p2))) || (((p0) || (p1)) && (!(p2))))) = true := by decide
theorem taut3 : ∀ p0 p1 : Bool, ((!((p0) || (p1)) || ((p0) || (p1)))) = true := by decide
theorem taut4 : ∀ p0 p1 p2 : Bool, ((!((p0) || (p1)) || ((p2) || (((p0) || (p1)) && (!(p2)))))) = true := by decide
theorem taut5 : ∀ p0 p1 : Bool, (((!((p0) || (p1))) || ((p0) || (p1)))) = true := by decide
theorem taut6 : ∀ p0 : Bool, (((p0) || (!(p0)))) = true := by decide
theorem chart_Name.l0_clean (N : Nat) (x0 : ByteArray) (k1 : Nat) (a2 : Int) : chart_Name.l0 N x0 (k1 + 1) a2 =
    bif decide (a2 < (x0.size : Int)) then
      bif (decide (0 ≤ a2)) && (decide (a2 < (x0.size : Int))) then
        bif ((decide (((((ByteArray.data x0).getD (Int.toNat a2) 0).toNat : Nat) : Int) < 65)) || (decide (((((ByteArray.data x0).getD (Int.toNat a2) 0).toNat : Nat) : Int) > 90))) && ((decide (((((ByteArray.data x0).getD (Int.toNat a2) 0).toNat : Nat) : Int) < 48)) || (decide (((((ByteArray.data x0).getD (Int.toNat a2) 0).toNat : Nat) : Int) > 57))) then
          some false
        else
          chart_Name.l0 N x0 k1 (w (a2 + 1))
      else
        none
    else
      some true := by
  rw [chart_Name.l0_succ]; simp only [taut1, taut2, taut3, taut4, taut5, taut6, cond_true]
theorem chart_Name.l0_cons (N : Nat) (x0 : ByteArray) (k1 : Nat) {pre r} {x} (hl : x0.data.toList = pre ++ x :: r) (hb : x0.size < 4611686018427387904) : chart_Name.l0 N x0 (k1 + 1) (pre.length : Int) =
    bif ((decide (((x.toNat : Nat) : Int) < 65)) || (decide (((x.toNat : Nat) : Int) > 90))) && ((decide (((x.toNat : Nat) : Int) < 48)) || (decide (((x.toNat : Nat) : Int) > 57))) then
      some false
    else
      chart_Name.l0 N x0 k1 ((pre.length : Int) + 1) := by
  have hlen : x0.size = pre.length + 1 + r.length := by rw [ByteArray.size, ← Array.length_toList, hl]; simp; omega
  have e1 : decide ((pre.length : Int) < (x0.size : Int)) = true := by rw [decide_eq_true_iff]; omega
  have e2 : decide (0 ≤ (pre.length : Int)) = true := by rw [decide_eq_true_iff]; omega
  have e4 : w ((pre.length : Int) + 1) = (pre.length : Int) + 1 := w_next hl (by rw [Array.length_toList]; exact hb)
  have e6 : decide ((pre.length : Int) ≤ (x0.size : Int)) = true := by rw [decide_eq_true_iff]; omega
  have g0 : (ByteArray.data x0).getD pre.length 0 = x := getD_bytes hl
  rw [chart_Name.l0_clean]
  simp -implicitDefEqProofs only [Int.toNat_natCast, e1, e2, e4, e6, g0, Bool.and_true, Bool.true_and, Bool.true_or, cond_true]
theorem chart_Name.l0_nil (N : Nat) (x0 : ByteArray) (k1 : Nat) : chart_Name.l0 N x0 (k1 + 1) (x0.size : Int) =
    some true := by
  have e1 : decide ((x0.size : Int) < (x0.size : Int)) = false := by rw [decide_eq_false_iff_not]; omega
  rw [chart_Name.l0_clean]
  simp -implicitDefEqProofs only [e1, cond_false]
theorem chart_Name.eq (N : Nat) (x0 : ByteArray) : chart_Name.fn N x0 =
    bif !(!((x0.size : Int) == 0)) || (!((x0.size : Int) == 0)) then
      bif !(!((x0.size : Int) == 0)) || (!((x0.size : Int) == 0)) then
        bif ((x0.size : Int) == 0) || (!((x0.size : Int) == 0)) then
          bif !(!(((x0.size : Int) == 0) || (decide ((x0.size : Int) > 8)))) || (!(((x0.size : Int) == 0) || (decide ((x0.size : Int) > 8)))) then
            bif (decide (0 < (x0.size : Int))) || !(!(((x0.size : Int) == 0) || (decide ((x0.size : Int) > 8)))) then
              bif !(!(((x0.size : Int) == 0) || (decide ((x0.size : Int) > 8)))) || (!(((x0.size : Int) == 0) || (decide ((x0.size : Int) > 8)))) then
                bif (((x0.size : Int) == 0) || (decide ((x0.size : Int) > 8))) || (!(((x0.size : Int) == 0) || (decide ((x0.size : Int) > 8)))) then
                  bif !(!((((x0.size : Int) == 0) || (decide ((x0.size : Int) > 8))) || (decide (((((ByteArray.data x0).getD 0 0).toNat : Nat) : Int) < 65)))) || (!((((x0.size : Int) == 0) || (decide ((x0.size : Int) > 8))) || (decide (((((ByteArray.data x0).getD 0 0).toNat : Nat) : Int) < 65)))) then
                    bif (decide (0 < (x0.size : Int))) || !(!((((x0.size : Int) == 0) || (decide ((x0.size : Int) > 8))) || (decide (((((ByteArray.data x0).getD 0 0).toNat : Nat) : Int) < 65)))) then
                      bif !(!((((x0.size : Int) == 0) || (decide ((x0.size : Int) > 8))) || (decide (((((ByteArray.data x0).getD 0 0).toNat : Nat) : Int) < 65)))) || (!((((x0.size : Int) == 0) || (decide ((x0.size : Int) > 8))) || (decide (((((ByteArray.data x0).getD 0 0).toNat : Nat) : Int) < 65)))) then
                        bif ((((x0.size : Int) == 0) || (decide ((x0.size : Int) > 8))) || (decide (((((ByteArray.data x0).getD 0 0).toNat : Nat) : Int) < 65))) || (!((((x0.size : Int) == 0) || (decide ((x0.size : Int) > 8))) || (decide (((((ByteArray.data x0).getD 0 0).toNat : Nat) : Int) < 65)))) then
                          bif ((((x0.size : Int) == 0) || (decide ((x0.size : Int) > 8))) || (decide (((((ByteArray.data x0).getD 0 0).toNat : Nat) : Int) < 65))) || (decide (((((ByteArray.data x0).getD 0 0).toNat : Nat) : Int) > 90)) then
                            some false
                          else
                            chart_Name.l0 N x0 N 0
                        else
                          none
                      else
                        none
                    else
                      none
                  else
                    none
                else
                  none
              else
                none
            else
              none
          else
            none
        else
          none
      else
        none
    else
      none := by kernel_rfl
theorem taut7 : ∀ p0 p1 p2 : Bool, ((!(!(((p0) || (p1)) || (p2))) || (!(((p0) || (p1)) || (p2))))) = true := by decide
theorem taut8 : ∀ p0 p1 : Bool, ((!(!((p0) || (p1))) || (!((p0) || (p1))))) = true := by decide
theorem taut9 : ∀ p0 p1 p2 : Bool, (((((p0) || (p1)) || (p2)) || (!(((p0) || (p1)) || (p2))))) = true := by decide
theorem taut10 : ∀ p0 p1 : Bool, ((((p0) || (p1)) || (!((p0) || (p1))))) = true := by decide
theorem chart_Name.clean (N : Nat) (x0 : ByteArray) : chart_Name.fn N x0 =
    bif (decide (0 < (x0.size : Int))) || !(!(((x0.size : Int) == 0) || (decide ((x0.size : Int) > 8)))) then
      bif (decide (0 < (x0.size : Int))) || !(!((((x0.size : Int) == 0) || (decide ((x0.size : Int) > 8))) || (decide (((((ByteArray.data x0).getD 0 0).toNat : Nat) : Int) < 65)))) then
        bif ((((x0.size : Int) == 0) || (decide ((x0.size : Int) > 8))) || (decide (((((ByteArray.data x0).getD 0 0).toNat : Nat) : Int) < 65))) || (decide (((((ByteArray.data x0).getD 0 0).toNat : Nat) : Int) > 90)) then
          some false
        else
          chart_Name.l0 N x0 N 0
      else
        none
    else
      none := by
  rw [chart_Name.eq]; simp only [taut7, taut8, taut1, taut9, taut10, taut6, cond_true]

/-! ### sector_Name: skyway/sector.Name -/
def sector_Name.kp : List (Nat × List (Nat × Option (TypeId × Ty))) := []
noncomputable def sector_Name.G (N : Nat) : List (Nat × Spec) := [(156, .pure (chart_Name.S N))]
noncomputable def sector_Name.E (N : Nat) : Env := mkEnv (sector_Name.G N) N tyTab sector_Name.kp
noncomputable def sector_Name.fn (N : Nat) (x : ByteArray) : Option Bool := evFn (sector_Name.E N) Try.prog 3 Try.f130 false [.cell (.str)] [.val (.cell (.bool))] x
noncomputable def sector_Name.S (N : Nat) : PSpec := ⟨false, [.cell (.str)], [.val (.cell (.bool))], sector_Name.fn N⟩
theorem f130_enters : Enters Try.prog 130 := ⟨Try.f130, Try.func130, by kernel_rfl, by kernel_rfl⟩
theorem sector_Name.tab (N : Nat) : TabOk Try.prog (sector_Name.G N) := ⟨⟨chart_Name.enters, chart_Name.sound N⟩, trivial⟩
theorem sector_Name.enters : Enters Try.prog 130 := f130_enters
theorem sector_Name.sound (N : Nat) : Sound Try.prog 130 (sector_Name.S N) := evFn_sound (specs_tab (sector_Name.tab N)) (inls_tab (sector_Name.tab N)) mixed 3 Try.func130 _ _ _
theorem sector_Name.eq (N : Nat) (x0 : ByteArray) : sector_Name.fn N x0 =
    (chart_Name.fn N x0).bind fun r1 =>
    some r1 := by kernel_rfl

/-! ### owner_Name: skyway/owner.Name -/
def owner_Name.kp : List (Nat × List (Nat × Option (TypeId × Ty))) := []
noncomputable def owner_Name.G (N : Nat) : List (Nat × Spec) := [(130, .pure (sector_Name.S N))]
noncomputable def owner_Name.E (N : Nat) : Env := mkEnv (owner_Name.G N) N tyTab owner_Name.kp
noncomputable def owner_Name.fn (N : Nat) (x : ByteArray) : Option Bool := evFn (owner_Name.E N) Try.prog 3 Try.f107 false [.cell (.str)] [.val (.cell (.bool))] x
noncomputable def owner_Name.S (N : Nat) : PSpec := ⟨false, [.cell (.str)], [.val (.cell (.bool))], owner_Name.fn N⟩
theorem f107_enters : Enters Try.prog 107 := ⟨Try.f107, Try.func107, by kernel_rfl, by kernel_rfl⟩
theorem owner_Name.tab (N : Nat) : TabOk Try.prog (owner_Name.G N) := ⟨⟨sector_Name.enters, sector_Name.sound N⟩, trivial⟩
theorem owner_Name.enters : Enters Try.prog 107 := f107_enters
theorem owner_Name.sound (N : Nat) : Sound Try.prog 107 (owner_Name.S N) := evFn_sound (specs_tab (owner_Name.tab N)) (inls_tab (owner_Name.tab N)) mixed 3 Try.func107 _ _ _
theorem owner_Name.eq (N : Nat) (x0 : ByteArray) : owner_Name.fn N x0 =
    (sector_Name.fn N x0).bind fun r1 =>
    some r1 := by kernel_rfl

/-! ### slot_Name: skyway/slot.Name -/
def slot_Name.kp : List (Nat × List (Nat × Option (TypeId × Ty))) := []
noncomputable def slot_Name.G (N : Nat) : List (Nat × Spec) := [(107, .pure (owner_Name.S N))]
noncomputable def slot_Name.E (N : Nat) : Env := mkEnv (slot_Name.G N) N tyTab slot_Name.kp
noncomputable def slot_Name.fn (N : Nat) (x : ByteArray) : Option Bool := evFn (slot_Name.E N) Try.prog 3 Try.f54 false [.cell (.str)] [.val (.cell (.bool))] x
noncomputable def slot_Name.S (N : Nat) : PSpec := ⟨false, [.cell (.str)], [.val (.cell (.bool))], slot_Name.fn N⟩
theorem f54_enters : Enters Try.prog 54 := ⟨Try.f54, Try.func54, by kernel_rfl, by kernel_rfl⟩
theorem slot_Name.tab (N : Nat) : TabOk Try.prog (slot_Name.G N) := ⟨⟨owner_Name.enters, owner_Name.sound N⟩, trivial⟩
theorem slot_Name.enters : Enters Try.prog 54 := f54_enters
theorem slot_Name.sound (N : Nat) : Sound Try.prog 54 (slot_Name.S N) := evFn_sound (specs_tab (slot_Name.tab N)) (inls_tab (slot_Name.tab N)) mixed 3 Try.func54 _ _ _
theorem slot_Name.eq (N : Nat) (x0 : ByteArray) : slot_Name.fn N x0 =
    (owner_Name.fn N x0).bind fun r1 =>
    some r1 := by kernel_rfl

/-! ### taxi_Stands: skyway/taxi.Stands -/
def taxi_Stands.kp : List (Nat × List (Nat × Option (TypeId × Ty))) := [(4, [(0, none), (10, none), (11, none), (12, none)]), (11, [(0, none), (4, none), (10, none), (11, none), (12, none), (31, none), (32, none), (33, none)])]
noncomputable def taxi_Stands.G (N : Nat) : List (Nat × Spec) := [(54, .pure (slot_Name.S N))]
noncomputable def taxi_Stands.E (N : Nat) : Env := mkEnv (taxi_Stands.G N) N tyTab taxi_Stands.kp
noncomputable def taxi_Stands.fn (N : Nat) (x : List (ByteArray × Int)) : Option Int := evFn (taxi_Stands.E N) Try.prog 3 Try.f42 false [.cell (.sl 133 (.pair (.str) (.int .i64)))] [.val (.cell (.int .i64))] x
noncomputable def taxi_Stands.S (N : Nat) : PSpec := ⟨false, [.cell (.sl 133 (.pair (.str) (.int .i64)))], [.val (.cell (.int .i64))], taxi_Stands.fn N⟩
theorem f42_enters : Enters Try.prog 42 := ⟨Try.f42, Try.func42, by kernel_rfl, by kernel_rfl⟩
theorem taxi_Stands.tab (N : Nat) : TabOk Try.prog (taxi_Stands.G N) := ⟨⟨slot_Name.enters, slot_Name.sound N⟩, trivial⟩
theorem taxi_Stands.enters : Enters Try.prog 42 := f42_enters
theorem taxi_Stands.sound (N : Nat) : Sound Try.prog 42 (taxi_Stands.S N) := evFn_sound (specs_tab (taxi_Stands.tab N)) (inls_tab (taxi_Stands.tab N)) mixed 3 Try.func42 _ _ _
noncomputable def taxi_Stands.cd (N : Nat) (p : List Nat) : St → (Ex → St → Option Int) → Option Int := ev (taxi_Stands.E N) Try.prog (callD (taxi_Stands.E N) Try.prog 3) 0 (codeAt (bodyOf Try.f42) p)
noncomputable def taxi_Stands.fin : Ex → St → Option Int := endK Try.prog Try.f42 [.val (.cell (.int .i64))]
noncomputable def taxi_Stands.l0 (N : Nat) (x0 : List (ByteArray × Int)) (k1 : Nat) (a2 : Int) : Option Int :=
  loopN (norm ((taxi_Stands.E N).keep 4) 0) (taxi_Stands.cd N [1, 1, 0, 1, 0, 0]) k1
  ⟨[.ros false 133 (.pair (.str) (.int .i64)) x0, .any, .any, .any, .any, .any, .any, .any, .any, .any, .ros false 133 (.pair (.str) (.int .i64)) x0, .sc (.int .i64 (x0.length : Int)), .sc (.int .i64 a2), .any, .any, .any, .any, .any, .any, .any, .any, .any, .any, .any, .any, .any, .any, .any, .any, .any, .any, .any, .any, .any, .any, .any, .any, .any, .any, .any, .any, .any, .any, .any], []⟩
  (blockK 0 (seqK (taxi_Stands.cd N [1, 1, 1]) taxi_Stands.fin))
noncomputable def taxi_Stands.l1 (N : Nat) (x0 : List (ByteArray × Int)) (k1 : Nat) (a2 : Int) (k4 : Nat) (a5 : Int) : Option Int :=
  loopN (norm ((taxi_Stands.E N).keep 11) 0) (taxi_Stands.cd N [1, 1, 0, 1, 0, 0, 1, 1, 0, 0, 1, 1, 1, 1, 0, 0]) k4
  ⟨[.ros false 133 (.pair (.str) (.int .i64)) x0, .any, .any, .any, .ptr 0 0, .any, .any, .any, .any, .any, .ros false 133 (.pair (.str) (.int .i64)) x0, .sc (.int .i64 (x0.length : Int)), .sc (.int .i64 a2), .any, .any, .any, .any, .any, .any, .any, .any, .any, .any, .any, .any, .any, .any, .any, .any, .any, .any, .ros false 133 (.pair (.str) (.int .i64)) (List.take (Int.toNat a2) x0), .sc (.int .i64 ((List.take (Int.toNat a2) x0).length : Int)), .sc (.int .i64 a5), .any, .any, .any, .any, .any, .any, .any, .any, .any, .any], [.cells [.sc (.string ((List.getD x0 (Int.toNat a2) ((⟨#[]⟩ : ByteArray), 0)).1)), .sc (.int .i64 ((List.getD x0 (Int.toNat a2) ((⟨#[]⟩ : ByteArray), 0)).2))] 133]⟩
  (blockK 2 (blockK 1 (seqK (taxi_Stands.cd N [1, 1, 0, 1, 0, 0, 1, 1, 1]) (loopK (norm ((taxi_Stands.E N).keep 4) 0) (taxi_Stands.cd N [1, 1, 0, 1, 0, 0]) k1 (blockK 0 (seqK (taxi_Stands.cd N [1, 1, 1]) taxi_Stands.fin))))))
theorem taxi_Stands.l1_zero (N : Nat) (x0 : List (ByteArray × Int)) (k1 : Nat) (a2 : Int) (a5 : Int) : taxi_Stands.l1 N x0 k1 a2 0 a5 = none := by kernel_rfl
theorem taxi_Stands.l1_succ (N : Nat) (x0 : List (ByteArray × Int)) (k1 : Nat) (a2 : Int) (k4 : Nat) (a5 : Int) : taxi_Stands.l1 N x0 k1 a2 (k4 + 1) a5 =
    bif decide (a5 < ((List.take (Int.toNat a2) x0).length : Int)) then
      bif (decide (0 ≤ a5)) && (decide (a5 < ((List.take (Int.toNat a2) x0).length : Int))) then
        bif seq ((List.getD (List.take (Int.toNat a2) x0) (Int.toNat a5) ((⟨#[]⟩ : ByteArray), 0)).1) ((List.getD x0 (Int.toNat a2) ((⟨#[]⟩ : ByteArray), 0)).1) then
          some 7
        else
          taxi_Stands.l1 N x0 k1 a2 k4 (w (a5 + 1))
      else
        none
    else
      taxi_Stands.l0 N x0 k1 (w (a2 + 1)) := by kernel_rfl
theorem taxi_Stands.l0_zero (N : Nat) (x0 : List (ByteArray × Int)) (a2 : Int) : taxi_Stands.l0 N x0 0 a2 = none := by kernel_rfl
theorem taxi_Stands.l0_succ (N : Nat) (x0 : List (ByteArray × Int)) (k1 : Nat) (a2 : Int) : taxi_Stands.l0 N x0 (k1 + 1) a2 =
    bif decide (a2 < (x0.length : Int)) then
      bif (decide (0 ≤ a2)) && (decide (a2 < (x0.length : Int))) then
        (slot_Name.fn N ((List.getD x0 (Int.toNat a2) ((⟨#[]⟩ : ByteArray), 0)).1)).bind fun r3 =>
        bif !r3 then
          some 3
        else
        bif !(!(decide (((List.getD x0 (Int.toNat a2) ((⟨#[]⟩ : ByteArray), 0)).2) < 0))) || (!(decide (((List.getD x0 (Int.toNat a2) ((⟨#[]⟩ : ByteArray), 0)).2) < 0))) then
          bif !(!(decide (((List.getD x0 (Int.toNat a2) ((⟨#[]⟩ : ByteArray), 0)).2) < 0))) || (!(decide (((List.getD x0 (Int.toNat a2) ((⟨#[]⟩ : ByteArray), 0)).2) < 0))) then
            bif (decide (((List.getD x0 (Int.toNat a2) ((⟨#[]⟩ : ByteArray), 0)).2) < 0)) || (!(decide (((List.getD x0 (Int.toNat a2) ((⟨#[]⟩ : ByteArray), 0)).2) < 0))) then
              bif (decide (((List.getD x0 (Int.toNat a2) ((⟨#[]⟩ : ByteArray), 0)).2) < 0)) || (decide (((List.getD x0 (Int.toNat a2) ((⟨#[]⟩ : ByteArray), 0)).2) > 1800)) then
                some 4
              else
              bif (decide (0 ≤ a2)) && (decide (a2 ≤ (x0.length : Int))) then
                taxi_Stands.l1 N x0 k1 a2 N 0
              else
                none
            else
              none
          else
            none
        else
          none
      else
        none
    else
      some 0 := by kernel_rfl
theorem taxi_Stands.l0_clean (N : Nat) (x0 : List (ByteArray × Int)) (k1 : Nat) (a2 : Int) : taxi_Stands.l0 N x0 (k1 + 1) a2 =
    bif decide (a2 < (x0.length : Int)) then
      bif (decide (0 ≤ a2)) && (decide (a2 < (x0.length : Int))) then
        (slot_Name.fn N ((List.getD x0 (Int.toNat a2) ((⟨#[]⟩ : ByteArray), 0)).1)).bind fun r3 =>
        bif !r3 then
          some 3
        else
        bif (decide (((List.getD x0 (Int.toNat a2) ((⟨#[]⟩ : ByteArray), 0)).2) < 0)) || (decide (((List.getD x0 (Int.toNat a2) ((⟨#[]⟩ : ByteArray), 0)).2) > 1800)) then
          some 4
        else
        bif (decide (0 ≤ a2)) && (decide (a2 ≤ (x0.length : Int))) then
          taxi_Stands.l1 N x0 k1 a2 N 0
        else
          none
      else
        none
    else
      some 0 := by
  rw [taxi_Stands.l0_succ]; simp only [taut1, taut6, cond_true]
theorem taxi_Stands.l1_cons (N : Nat) (x0 : List (ByteArray × Int)) (k1 : Nat) (a2 : Int) (k4 : Nat) {pre r} {x} (hl : (List.take (Int.toNat a2) x0) = pre ++ x :: r) (hb : (List.take (Int.toNat a2) x0).length < 4611686018427387904) : taxi_Stands.l1 N x0 k1 a2 (k4 + 1) (pre.length : Int) =
    bif seq (x.1) ((List.getD x0 (Int.toNat a2) ((⟨#[]⟩ : ByteArray), 0)).1) then
      some 7
    else
      taxi_Stands.l1 N x0 k1 a2 k4 ((pre.length : Int) + 1) := by
  have hlen : (List.take (Int.toNat a2) x0).length = pre.length + 1 + r.length := by rw [hl]; simp; omega
  have e1 : decide ((pre.length : Int) < ((List.take (Int.toNat a2) x0).length : Int)) = true := by rw [decide_eq_true_iff]; omega
  have e2 : decide (0 ≤ (pre.length : Int)) = true := by rw [decide_eq_true_iff]; omega
  have e4 : w ((pre.length : Int) + 1) = (pre.length : Int) + 1 := w_next hl hb
  have e5 : List.take pre.length (List.take (Int.toNat a2) x0) = pre := by rw [hl]; simp
  have e6 : decide ((pre.length : Int) ≤ ((List.take (Int.toNat a2) x0).length : Int)) = true := by rw [decide_eq_true_iff]; omega
  have g0 : List.getD (List.take (Int.toNat a2) x0) pre.length ((⟨#[]⟩ : ByteArray), 0) = x := by rw [hl]; exact getD_mid pre x r _
  rw [taxi_Stands.l1_succ]
  simp -implicitDefEqProofs only [Int.toNat_natCast, e1, e2, e4, e6, g0, e5, Bool.and_true, Bool.true_and, Bool.true_or, cond_true]
theorem taxi_Stands.l1_nil (N : Nat) (x0 : List (ByteArray × Int)) (k1 : Nat) (a2 : Int) (k4 : Nat) : taxi_Stands.l1 N x0 k1 a2 (k4 + 1) ((List.take (Int.toNat a2) x0).length : Int) =
    taxi_Stands.l0 N x0 k1 (w (a2 + 1)) := by
  have e1 : decide (((List.take (Int.toNat a2) x0).length : Int) < ((List.take (Int.toNat a2) x0).length : Int)) = false := by rw [decide_eq_false_iff_not]; omega
  rw [taxi_Stands.l1_succ]
  simp -implicitDefEqProofs only [e1, cond_false]
theorem taxi_Stands.l0_cons (N : Nat) (x0 : List (ByteArray × Int)) (k1 : Nat) {pre r} {x} (hl : x0 = pre ++ x :: r) (hb : x0.length < 4611686018427387904) : taxi_Stands.l0 N x0 (k1 + 1) (pre.length : Int) =
    (slot_Name.fn N (x.1)).bind fun r3 =>
    bif !r3 then
      some 3
    else
    bif (decide ((x.2) < 0)) || (decide ((x.2) > 1800)) then
      some 4
    else
      taxi_Stands.l1 N x0 k1 (pre.length : Int) N 0 := by
  have hlen : x0.length = pre.length + 1 + r.length := by rw [hl]; simp; omega
  have e1 : decide ((pre.length : Int) < (x0.length : Int)) = true := by rw [decide_eq_true_iff]; omega
  have e2 : decide (0 ≤ (pre.length : Int)) = true := by rw [decide_eq_true_iff]; omega
  have e4 : w ((pre.length : Int) + 1) = (pre.length : Int) + 1 := w_next hl hb
  have e5 : List.take pre.length x0 = pre := by rw [hl]; simp
  have e6 : decide ((pre.length : Int) ≤ (x0.length : Int)) = true := by rw [decide_eq_true_iff]; omega
  have g0 : List.getD x0 pre.length ((⟨#[]⟩ : ByteArray), 0) = x := by rw [hl]; exact getD_mid pre x r _
  rw [taxi_Stands.l0_clean]
  simp -implicitDefEqProofs only [Int.toNat_natCast, e1, e2, e4, e6, g0, e5, Bool.and_true, Bool.true_and, Bool.true_or, cond_true]
theorem taxi_Stands.l0_nil (N : Nat) (x0 : List (ByteArray × Int)) (k1 : Nat) : taxi_Stands.l0 N x0 (k1 + 1) (x0.length : Int) =
    some 0 := by
  have e1 : decide ((x0.length : Int) < (x0.length : Int)) = false := by rw [decide_eq_false_iff_not]; omega
  rw [taxi_Stands.l0_clean]
  simp -implicitDefEqProofs only [e1, cond_false]
theorem taxi_Stands.eq (N : Nat) (x0 : List (ByteArray × Int)) : taxi_Stands.fn N x0 =
    bif decide ((x0.length : Int) > 16) then
      some 2
    else
      taxi_Stands.l0 N x0 N 0 := by kernel_rfl

/-! ### taxi_stand: skyway/taxi.stand -/
def taxi_stand.kp : List (Nat × List (Nat × Option (TypeId × Ty))) := [(2, [(1, none), (7, none), (8, none), (9, none)])]
noncomputable def taxi_stand.G (N : Nat) : List (Nat × Spec) := []
noncomputable def taxi_stand.E (N : Nat) : Env := mkEnv (taxi_stand.G N) N tyTab taxi_stand.kp
noncomputable def taxi_stand.fn (N : Nat) (x : List (ByteArray × Int) × ByteArray) : Option Int := evFn (taxi_stand.E N) Try.prog 3 Try.f92 false [.cell (.sl 133 (.pair (.str) (.int .i64))), .cell (.str)] [.val (.cell (.int .i64))] x
noncomputable def taxi_stand.S (N : Nat) : PSpec := ⟨false, [.cell (.sl 133 (.pair (.str) (.int .i64))), .cell (.str)], [.val (.cell (.int .i64))], taxi_stand.fn N⟩
theorem f92_enters : Enters Try.prog 92 := ⟨Try.f92, Try.func92, by kernel_rfl, by kernel_rfl⟩
theorem taxi_stand.tab (N : Nat) : TabOk Try.prog (taxi_stand.G N) := trivial
theorem taxi_stand.enters : Enters Try.prog 92 := f92_enters
theorem taxi_stand.sound (N : Nat) : Sound Try.prog 92 (taxi_stand.S N) := evFn_sound (specs_tab (taxi_stand.tab N)) (inls_tab (taxi_stand.tab N)) mixed 3 Try.func92 _ _ _
noncomputable def taxi_stand.cd (N : Nat) (p : List Nat) : St → (Ex → St → Option Int) → Option Int := ev (taxi_stand.E N) Try.prog (callD (taxi_stand.E N) Try.prog 3) 0 (codeAt (bodyOf Try.f92) p)
noncomputable def taxi_stand.fin : Ex → St → Option Int := endK Try.prog Try.f92 [.val (.cell (.int .i64))]
noncomputable def taxi_stand.l0 (N : Nat) (x0 : List (ByteArray × Int)) (x1 : ByteArray) (k1 : Nat) (a2 : Int) : Option Int :=
  loopN (norm ((taxi_stand.E N).keep 2) 0) (taxi_stand.cd N [1, 0, 1, 0, 0]) k1
  ⟨[.any, .sc (.string x1), .any, .any, .any, .any, .any, .ros false 133 (.pair (.str) (.int .i64)) x0, .sc (.int .i64 (x0.length : Int)), .sc (.int .i64 a2), .any, .any, .any, .any, .any, .any, .any, .any, .any, .any], []⟩
  (blockK 0 (seqK (taxi_stand.cd N [1, 1]) taxi_stand.fin))
theorem taxi_stand.l0_zero (N : Nat) (x0 : List (ByteArray × Int)) (x1 : ByteArray) (a2 : Int) : taxi_stand.l0 N x0 x1 0 a2 = none := by kernel_rfl
theorem taxi_stand.l0_succ (N : Nat) (x0 : List (ByteArray × Int)) (x1 : ByteArray) (k1 : Nat) (a2 : Int) : taxi_stand.l0 N x0 x1 (k1 + 1) a2 =
    bif decide (a2 < (x0.length : Int)) then
      bif (decide (0 ≤ a2)) && (decide (a2 < (x0.length : Int))) then
        bif seq ((List.getD x0 (Int.toNat a2) ((⟨#[]⟩ : ByteArray), 0)).1) x1 then
          some ((List.getD x0 (Int.toNat a2) ((⟨#[]⟩ : ByteArray), 0)).2)
        else
          taxi_stand.l0 N x0 x1 k1 (w (a2 + 1))
      else
        none
    else
      some (-1) := by kernel_rfl
theorem taxi_stand.l0_cons (N : Nat) (x0 : List (ByteArray × Int)) (x1 : ByteArray) (k1 : Nat) {pre r} {x} (hl : x0 = pre ++ x :: r) (hb : x0.length < 4611686018427387904) : taxi_stand.l0 N x0 x1 (k1 + 1) (pre.length : Int) =
    bif seq (x.1) x1 then
      some x.2
    else
      taxi_stand.l0 N x0 x1 k1 ((pre.length : Int) + 1) := by
  have hlen : x0.length = pre.length + 1 + r.length := by rw [hl]; simp; omega
  have e1 : decide ((pre.length : Int) < (x0.length : Int)) = true := by rw [decide_eq_true_iff]; omega
  have e2 : decide (0 ≤ (pre.length : Int)) = true := by rw [decide_eq_true_iff]; omega
  have e4 : w ((pre.length : Int) + 1) = (pre.length : Int) + 1 := w_next hl hb
  have e5 : List.take pre.length x0 = pre := by rw [hl]; simp
  have e6 : decide ((pre.length : Int) ≤ (x0.length : Int)) = true := by rw [decide_eq_true_iff]; omega
  have g0 : List.getD x0 pre.length ((⟨#[]⟩ : ByteArray), 0) = x := by rw [hl]; exact getD_mid pre x r _
  rw [taxi_stand.l0_succ]
  simp -implicitDefEqProofs only [Int.toNat_natCast, e1, e2, e4, e6, g0, e5, Bool.and_true, Bool.true_and, Bool.true_or, cond_true]
theorem taxi_stand.l0_nil (N : Nat) (x0 : List (ByteArray × Int)) (x1 : ByteArray) (k1 : Nat) : taxi_stand.l0 N x0 x1 (k1 + 1) (x0.length : Int) =
    some (-1) := by
  have e1 : decide ((x0.length : Int) < (x0.length : Int)) = false := by rw [decide_eq_false_iff_not]; omega
  rw [taxi_stand.l0_succ]
  simp -implicitDefEqProofs only [e1, cond_false]
theorem taxi_stand.eq (N : Nat) (x0 : List (ByteArray × Int)) (x1 : ByteArray) : taxi_stand.fn N (x0, x1) =
    taxi_stand.l0 N x0 x1 N 0 := by kernel_rfl

/-! ### taxi_Check: skyway/taxi.Check -/
def taxi_Check.kp : List (Nat × List (Nat × Option (TypeId × Ty))) := [(7, [(0, none), (1, none), (18, none), (19, none), (20, none)]), (16, [(0, none), (1, none), (7, none), (18, none), (19, none), (20, none), (44, none), (45, none), (46, none)])]
noncomputable def taxi_Check.G (N : Nat) : List (Nat × Spec) := [(42, .pure (taxi_Stands.S N)), (54, .pure (slot_Name.S N)), (92, .pure (taxi_stand.S N))]
noncomputable def taxi_Check.E (N : Nat) : Env := mkEnv (taxi_Check.G N) N tyTab taxi_Check.kp
noncomputable def taxi_Check.fn (N : Nat) (x : List (ByteArray × Int) × List (ByteArray × ByteArray × Int)) : Option Int := evFn (taxi_Check.E N) Try.prog 3 Try.f44 false [.cell (.sl 133 (.pair (.str) (.int .i64))), .cell (.sl 135 (.pair (.str) (.pair (.str) (.int .i64))))] [.val (.cell (.int .i64))] x
noncomputable def taxi_Check.S (N : Nat) : PSpec := ⟨false, [.cell (.sl 133 (.pair (.str) (.int .i64))), .cell (.sl 135 (.pair (.str) (.pair (.str) (.int .i64))))], [.val (.cell (.int .i64))], taxi_Check.fn N⟩
theorem f44_enters : Enters Try.prog 44 := ⟨Try.f44, Try.func44, by kernel_rfl, by kernel_rfl⟩
theorem taxi_Check.tab (N : Nat) : TabOk Try.prog (taxi_Check.G N) := ⟨⟨taxi_Stands.enters, taxi_Stands.sound N⟩, ⟨slot_Name.enters, slot_Name.sound N⟩, ⟨taxi_stand.enters, taxi_stand.sound N⟩, trivial⟩
theorem taxi_Check.enters : Enters Try.prog 44 := f44_enters
theorem taxi_Check.sound (N : Nat) : Sound Try.prog 44 (taxi_Check.S N) := evFn_sound (specs_tab (taxi_Check.tab N)) (inls_tab (taxi_Check.tab N)) mixed 3 Try.func44 _ _ _
noncomputable def taxi_Check.cd (N : Nat) (p : List Nat) : St → (Ex → St → Option Int) → Option Int := ev (taxi_Check.E N) Try.prog (callD (taxi_Check.E N) Try.prog 3) 0 (codeAt (bodyOf Try.f44) p)
noncomputable def taxi_Check.fin : Ex → St → Option Int := endK Try.prog Try.f44 [.val (.cell (.int .i64))]
noncomputable def taxi_Check.l0 (N : Nat) (x0 : List (ByteArray × Int)) (x1 : List (ByteArray × ByteArray × Int)) (k2 : Nat) (a3 : Int) : Option Int :=
  loopN (norm ((taxi_Check.E N).keep 7) 0) (taxi_Check.cd N [1, 1, 1, 0, 1, 0, 0]) k2
  ⟨[.ros false 133 (.pair (.str) (.int .i64)) x0, .ros false 135 (.pair (.str) (.pair (.str) (.int .i64))) x1, .any, .any, .any, .any, .any, .any, .any, .any, .any, .any, .any, .any, .any, .any, .any, .any, .ros false 135 (.pair (.str) (.pair (.str) (.int .i64))) x1, .sc (.int .i64 (x1.length : Int)), .sc (.int .i64 a3), .any, .any, .any, .any, .any, .any, .any, .any, .any, .any, .any, .any, .any, .any, .any, .any, .any, .any, .any, .any, .any, .any, .any, .any, .any, .any, .any, .any, .any, .any, .any, .any, .any, .any, .any, .any], []⟩
  (blockK 0 (seqK (taxi_Check.cd N [1, 1, 1, 1]) taxi_Check.fin))
noncomputable def taxi_Check.l1 (N : Nat) (x0 : List (ByteArray × Int)) (x1 : List (ByteArray × ByteArray × Int)) (k2 : Nat) (a3 : Int) (k6 : Nat) (a7 : Int) : Option Int :=
  loopN (norm ((taxi_Check.E N).keep 16) 0) (taxi_Check.cd N [1, 1, 1, 0, 1, 0, 0, 1, 1, 0, 0, 1, 1, 1, 1, 1, 0, 0]) k6
  ⟨[.ros false 133 (.pair (.str) (.int .i64)) x0, .ros false 135 (.pair (.str) (.pair (.str) (.int .i64))) x1, .any, .any, .any, .any, .any, .ptr 0 0, .any, .any, .any, .any, .any, .any, .any, .any, .any, .any, .ros false 135 (.pair (.str) (.pair (.str) (.int .i64))) x1, .sc (.int .i64 (x1.length : Int)), .sc (.int .i64 a3), .any, .any, .any, .any, .any, .any, .any, .any, .any, .any, .any, .any, .any, .any, .any, .any, .any, .any, .any, .any, .any, .any, .any, .ros false 135 (.pair (.str) (.pair (.str) (.int .i64))) (List.take (Int.toNat a3) x1), .sc (.int .i64 ((List.take (Int.toNat a3) x1).length : Int)), .sc (.int .i64 a7), .any, .any, .any, .any, .any, .any, .any, .any, .any, .any], [.cells [.sc (.string ((List.getD x1 (Int.toNat a3) ((⟨#[]⟩ : ByteArray), ((⟨#[]⟩ : ByteArray), 0))).1)), .sc (.string (((List.getD x1 (Int.toNat a3) ((⟨#[]⟩ : ByteArray), ((⟨#[]⟩ : ByteArray), 0))).2).1)), .sc (.int .i64 (((List.getD x1 (Int.toNat a3) ((⟨#[]⟩ : ByteArray), ((⟨#[]⟩ : ByteArray), 0))).2).2))] 135]⟩
  (blockK 2 (blockK 1 (seqK (taxi_Check.cd N [1, 1, 1, 0, 1, 0, 0, 1, 1, 1]) (loopK (norm ((taxi_Check.E N).keep 7) 0) (taxi_Check.cd N [1, 1, 1, 0, 1, 0, 0]) k2 (blockK 0 (seqK (taxi_Check.cd N [1, 1, 1, 1]) taxi_Check.fin))))))
theorem taxi_Check.l1_zero (N : Nat) (x0 : List (ByteArray × Int)) (x1 : List (ByteArray × ByteArray × Int)) (k2 : Nat) (a3 : Int) (a7 : Int) : taxi_Check.l1 N x0 x1 k2 a3 0 a7 = none := by kernel_rfl
theorem taxi_Check.l1_succ (N : Nat) (x0 : List (ByteArray × Int)) (x1 : List (ByteArray × ByteArray × Int)) (k2 : Nat) (a3 : Int) (k6 : Nat) (a7 : Int) : taxi_Check.l1 N x0 x1 k2 a3 (k6 + 1) a7 =
    bif decide (a7 < ((List.take (Int.toNat a3) x1).length : Int)) then
      bif (decide (0 ≤ a7)) && (decide (a7 < ((List.take (Int.toNat a3) x1).length : Int))) then
        bif seq ((List.getD (List.take (Int.toNat a3) x1) (Int.toNat a7) ((⟨#[]⟩ : ByteArray), ((⟨#[]⟩ : ByteArray), 0))).1) ((List.getD x1 (Int.toNat a3) ((⟨#[]⟩ : ByteArray), ((⟨#[]⟩ : ByteArray), 0))).1) then
          some 7
        else
          taxi_Check.l1 N x0 x1 k2 a3 k6 (w (a7 + 1))
      else
        none
    else
      taxi_Check.l0 N x0 x1 k2 (w (a3 + 1)) := by kernel_rfl
theorem taxi_Check.l0_zero (N : Nat) (x0 : List (ByteArray × Int)) (x1 : List (ByteArray × ByteArray × Int)) (a3 : Int) : taxi_Check.l0 N x0 x1 0 a3 = none := by kernel_rfl
theorem taxi_Check.l0_succ (N : Nat) (x0 : List (ByteArray × Int)) (x1 : List (ByteArray × ByteArray × Int)) (k2 : Nat) (a3 : Int) : taxi_Check.l0 N x0 x1 (k2 + 1) a3 =
    bif decide (a3 < (x1.length : Int)) then
      bif (decide (0 ≤ a3)) && (decide (a3 < (x1.length : Int))) then
        (slot_Name.fn N ((List.getD x1 (Int.toNat a3) ((⟨#[]⟩ : ByteArray), ((⟨#[]⟩ : ByteArray), 0))).1)).bind fun r4 =>
        bif !r4 then
          some 3
        else
          (taxi_stand.fn N (x0, ((List.getD x1 (Int.toNat a3) ((⟨#[]⟩ : ByteArray), ((⟨#[]⟩ : ByteArray), 0))).2).1)).bind fun r5 =>
          bif decide (r5 < 0) then
            some 6
          else
          bif !(!(decide ((((List.getD x1 (Int.toNat a3) ((⟨#[]⟩ : ByteArray), ((⟨#[]⟩ : ByteArray), 0))).2).2) < 0))) || (!(decide ((((List.getD x1 (Int.toNat a3) ((⟨#[]⟩ : ByteArray), ((⟨#[]⟩ : ByteArray), 0))).2).2) < 0))) then
            bif !(!(decide ((((List.getD x1 (Int.toNat a3) ((⟨#[]⟩ : ByteArray), ((⟨#[]⟩ : ByteArray), 0))).2).2) < 0))) || (!(decide ((((List.getD x1 (Int.toNat a3) ((⟨#[]⟩ : ByteArray), ((⟨#[]⟩ : ByteArray), 0))).2).2) < 0))) then
              bif (decide ((((List.getD x1 (Int.toNat a3) ((⟨#[]⟩ : ByteArray), ((⟨#[]⟩ : ByteArray), 0))).2).2) < 0)) || (!(decide ((((List.getD x1 (Int.toNat a3) ((⟨#[]⟩ : ByteArray), ((⟨#[]⟩ : ByteArray), 0))).2).2) < 0))) then
                bif (decide ((((List.getD x1 (Int.toNat a3) ((⟨#[]⟩ : ByteArray), ((⟨#[]⟩ : ByteArray), 0))).2).2) < 0)) || (decide ((((List.getD x1 (Int.toNat a3) ((⟨#[]⟩ : ByteArray), ((⟨#[]⟩ : ByteArray), 0))).2).2) > 200000)) then
                  some 12
                else
                bif (decide (0 ≤ a3)) && (decide (a3 ≤ (x1.length : Int))) then
                  taxi_Check.l1 N x0 x1 k2 a3 N 0
                else
                  none
              else
                none
            else
              none
          else
            none
      else
        none
    else
      some 0 := by kernel_rfl
theorem taxi_Check.l0_clean (N : Nat) (x0 : List (ByteArray × Int)) (x1 : List (ByteArray × ByteArray × Int)) (k2 : Nat) (a3 : Int) : taxi_Check.l0 N x0 x1 (k2 + 1) a3 =
    bif decide (a3 < (x1.length : Int)) then
      bif (decide (0 ≤ a3)) && (decide (a3 < (x1.length : Int))) then
        (slot_Name.fn N ((List.getD x1 (Int.toNat a3) ((⟨#[]⟩ : ByteArray), ((⟨#[]⟩ : ByteArray), 0))).1)).bind fun r4 =>
        bif !r4 then
          some 3
        else
          (taxi_stand.fn N (x0, ((List.getD x1 (Int.toNat a3) ((⟨#[]⟩ : ByteArray), ((⟨#[]⟩ : ByteArray), 0))).2).1)).bind fun r5 =>
          bif decide (r5 < 0) then
            some 6
          else
          bif (decide ((((List.getD x1 (Int.toNat a3) ((⟨#[]⟩ : ByteArray), ((⟨#[]⟩ : ByteArray), 0))).2).2) < 0)) || (decide ((((List.getD x1 (Int.toNat a3) ((⟨#[]⟩ : ByteArray), ((⟨#[]⟩ : ByteArray), 0))).2).2) > 200000)) then
            some 12
          else
          bif (decide (0 ≤ a3)) && (decide (a3 ≤ (x1.length : Int))) then
            taxi_Check.l1 N x0 x1 k2 a3 N 0
          else
            none
      else
        none
    else
      some 0 := by
  rw [taxi_Check.l0_succ]; simp only [taut1, taut6, cond_true]
theorem taxi_Check.l1_cons (N : Nat) (x0 : List (ByteArray × Int)) (x1 : List (ByteArray × ByteArray × Int)) (k2 : Nat) (a3 : Int) (k6 : Nat) {pre r} {x} (hl : (List.take (Int.toNat a3) x1) = pre ++ x :: r) (hb : (List.take (Int.toNat a3) x1).length < 4611686018427387904) : taxi_Check.l1 N x0 x1 k2 a3 (k6 + 1) (pre.length : Int) =
    bif seq (x.1) ((List.getD x1 (Int.toNat a3) ((⟨#[]⟩ : ByteArray), ((⟨#[]⟩ : ByteArray), 0))).1) then
      some 7
    else
      taxi_Check.l1 N x0 x1 k2 a3 k6 ((pre.length : Int) + 1) := by
  have hlen : (List.take (Int.toNat a3) x1).length = pre.length + 1 + r.length := by rw [hl]; simp; omega
  have e1 : decide ((pre.length : Int) < ((List.take (Int.toNat a3) x1).length : Int)) = true := by rw [decide_eq_true_iff]; omega
  have e2 : decide (0 ≤ (pre.length : Int)) = true := by rw [decide_eq_true_iff]; omega
  have e4 : w ((pre.length : Int) + 1) = (pre.length : Int) + 1 := w_next hl hb
  have e5 : List.take pre.length (List.take (Int.toNat a3) x1) = pre := by rw [hl]; simp
  have e6 : decide ((pre.length : Int) ≤ ((List.take (Int.toNat a3) x1).length : Int)) = true := by rw [decide_eq_true_iff]; omega
  have g0 : List.getD (List.take (Int.toNat a3) x1) pre.length ((⟨#[]⟩ : ByteArray), ((⟨#[]⟩ : ByteArray), 0)) = x := by rw [hl]; exact getD_mid pre x r _
  rw [taxi_Check.l1_succ]
  simp -implicitDefEqProofs only [Int.toNat_natCast, e1, e2, e4, e6, g0, e5, Bool.and_true, Bool.true_and, Bool.true_or, cond_true]
theorem taxi_Check.l1_nil (N : Nat) (x0 : List (ByteArray × Int)) (x1 : List (ByteArray × ByteArray × Int)) (k2 : Nat) (a3 : Int) (k6 : Nat) : taxi_Check.l1 N x0 x1 k2 a3 (k6 + 1) ((List.take (Int.toNat a3) x1).length : Int) =
    taxi_Check.l0 N x0 x1 k2 (w (a3 + 1)) := by
  have e1 : decide (((List.take (Int.toNat a3) x1).length : Int) < ((List.take (Int.toNat a3) x1).length : Int)) = false := by rw [decide_eq_false_iff_not]; omega
  rw [taxi_Check.l1_succ]
  simp -implicitDefEqProofs only [e1, cond_false]
theorem taxi_Check.l0_cons (N : Nat) (x0 : List (ByteArray × Int)) (x1 : List (ByteArray × ByteArray × Int)) (k2 : Nat) {pre r} {x} (hl : x1 = pre ++ x :: r) (hb : x1.length < 4611686018427387904) : taxi_Check.l0 N x0 x1 (k2 + 1) (pre.length : Int) =
    (slot_Name.fn N (x.1)).bind fun r4 =>
    bif !r4 then
      some 3
    else
      (taxi_stand.fn N (x0, (x.2).1)).bind fun r5 =>
      bif decide (r5 < 0) then
        some 6
      else
      bif (decide (((x.2).2) < 0)) || (decide (((x.2).2) > 200000)) then
        some 12
      else
        taxi_Check.l1 N x0 x1 k2 (pre.length : Int) N 0 := by
  have hlen : x1.length = pre.length + 1 + r.length := by rw [hl]; simp; omega
  have e1 : decide ((pre.length : Int) < (x1.length : Int)) = true := by rw [decide_eq_true_iff]; omega
  have e2 : decide (0 ≤ (pre.length : Int)) = true := by rw [decide_eq_true_iff]; omega
  have e4 : w ((pre.length : Int) + 1) = (pre.length : Int) + 1 := w_next hl hb
  have e5 : List.take pre.length x1 = pre := by rw [hl]; simp
  have e6 : decide ((pre.length : Int) ≤ (x1.length : Int)) = true := by rw [decide_eq_true_iff]; omega
  have g0 : List.getD x1 pre.length ((⟨#[]⟩ : ByteArray), ((⟨#[]⟩ : ByteArray), 0)) = x := by rw [hl]; exact getD_mid pre x r _
  rw [taxi_Check.l0_clean]
  simp -implicitDefEqProofs only [Int.toNat_natCast, e1, e2, e4, e6, g0, e5, Bool.and_true, Bool.true_and, Bool.true_or, cond_true]
theorem taxi_Check.l0_nil (N : Nat) (x0 : List (ByteArray × Int)) (x1 : List (ByteArray × ByteArray × Int)) (k2 : Nat) : taxi_Check.l0 N x0 x1 (k2 + 1) (x1.length : Int) =
    some 0 := by
  have e1 : decide ((x1.length : Int) < (x1.length : Int)) = false := by rw [decide_eq_false_iff_not]; omega
  rw [taxi_Check.l0_clean]
  simp -implicitDefEqProofs only [e1, cond_false]
theorem taxi_Check.eq (N : Nat) (x0 : List (ByteArray × Int)) (x1 : List (ByteArray × ByteArray × Int)) : taxi_Check.fn N (x0, x1) =
    (taxi_Stands.fn N x0).bind fun r1 =>
    bif !(r1 == 0) then
      some r1
    else
    bif decide ((x1.length : Int) > 16) then
      some 2
    else
      taxi_Check.l0 N x0 x1 N 0 := by kernel_rfl

/-! ### cmp_isNaN_int: cmp.isNaN[int] -/
def cmp_isNaN_int.kp : List (Nat × List (Nat × Option (TypeId × Ty))) := []
noncomputable def cmp_isNaN_int.G (N : Nat) : List (Nat × Spec) := []
noncomputable def cmp_isNaN_int.E (N : Nat) : Env := mkEnv (cmp_isNaN_int.G N) N tyTab cmp_isNaN_int.kp
noncomputable def cmp_isNaN_int.fn (N : Nat) (x : Int) : Option Bool := evFn (cmp_isNaN_int.E N) Try.prog 3 Try.f127 false [.cell (.int .i64)] [.val (.cell (.bool))] x
noncomputable def cmp_isNaN_int.S (N : Nat) : PSpec := ⟨false, [.cell (.int .i64)], [.val (.cell (.bool))], cmp_isNaN_int.fn N⟩
theorem f127_enters : Enters Try.prog 127 := ⟨Try.f127, Try.func127, by kernel_rfl, by kernel_rfl⟩
theorem cmp_isNaN_int.tab (N : Nat) : TabOk Try.prog (cmp_isNaN_int.G N) := trivial
theorem cmp_isNaN_int.enters : Enters Try.prog 127 := f127_enters
theorem cmp_isNaN_int.sound (N : Nat) : Sound Try.prog 127 (cmp_isNaN_int.S N) := evFn_sound (specs_tab (cmp_isNaN_int.tab N)) (inls_tab (cmp_isNaN_int.tab N)) mixed 3 Try.func127 _ _ _
theorem cmp_isNaN_int.eq (N : Nat) (x0 : Int) : cmp_isNaN_int.fn N x0 =
    some (!(x0 == x0)) := by kernel_rfl

/-! ### cmp_Compare_int: cmp.Compare[int] -/
def cmp_Compare_int.kp : List (Nat × List (Nat × Option (TypeId × Ty))) := []
noncomputable def cmp_Compare_int.G (N : Nat) : List (Nat × Spec) := [(127, .pure (cmp_isNaN_int.S N))]
noncomputable def cmp_Compare_int.E (N : Nat) : Env := mkEnv (cmp_Compare_int.G N) N tyTab cmp_Compare_int.kp
noncomputable def cmp_Compare_int.fn (N : Nat) (x : Int × Int) : Option Int := evFn (cmp_Compare_int.E N) Try.prog 3 Try.f96 false [.cell (.int .i64), .cell (.int .i64)] [.val (.cell (.int .i64))] x
noncomputable def cmp_Compare_int.S (N : Nat) : PSpec := ⟨false, [.cell (.int .i64), .cell (.int .i64)], [.val (.cell (.int .i64))], cmp_Compare_int.fn N⟩
theorem f96_enters : Enters Try.prog 96 := ⟨Try.f96, Try.func96, by kernel_rfl, by kernel_rfl⟩
theorem cmp_Compare_int.tab (N : Nat) : TabOk Try.prog (cmp_Compare_int.G N) := ⟨⟨cmp_isNaN_int.enters, cmp_isNaN_int.sound N⟩, trivial⟩
theorem cmp_Compare_int.enters : Enters Try.prog 96 := f96_enters
theorem cmp_Compare_int.sound (N : Nat) : Sound Try.prog 96 (cmp_Compare_int.S N) := evFn_sound (specs_tab (cmp_Compare_int.tab N)) (inls_tab (cmp_Compare_int.tab N)) mixed 3 Try.func96 _ _ _
theorem cmp_Compare_int.eq (N : Nat) (x0 : Int) (x1 : Int) : cmp_Compare_int.fn N (x0, x1) =
    (cmp_isNaN_int.fn N x0).bind fun r1 =>
    (cmp_isNaN_int.fn N x1).bind fun r2 =>
    bif r1 then
      bif r2 then
        some 0
      else
        some (-1)
    else
    bif r2 then
      some 1
    else
    bif decide (x0 < x1) then
      some (-1)
    else
    bif decide (x0 > x1) then
      some 1
    else
      some 0 := by kernel_rfl

/-! ### cmp_isNaN_string: cmp.isNaN[string] -/
def cmp_isNaN_string.kp : List (Nat × List (Nat × Option (TypeId × Ty))) := []
noncomputable def cmp_isNaN_string.G (N : Nat) : List (Nat × Spec) := []
noncomputable def cmp_isNaN_string.E (N : Nat) : Env := mkEnv (cmp_isNaN_string.G N) N tyTab cmp_isNaN_string.kp
noncomputable def cmp_isNaN_string.fn (N : Nat) (x : ByteArray) : Option Bool := evFn (cmp_isNaN_string.E N) Try.prog 3 Try.f128 false [.cell (.str)] [.val (.cell (.bool))] x
noncomputable def cmp_isNaN_string.S (N : Nat) : PSpec := ⟨false, [.cell (.str)], [.val (.cell (.bool))], cmp_isNaN_string.fn N⟩
theorem f128_enters : Enters Try.prog 128 := ⟨Try.f128, Try.func128, by kernel_rfl, by kernel_rfl⟩
theorem cmp_isNaN_string.tab (N : Nat) : TabOk Try.prog (cmp_isNaN_string.G N) := trivial
theorem cmp_isNaN_string.enters : Enters Try.prog 128 := f128_enters
theorem cmp_isNaN_string.sound (N : Nat) : Sound Try.prog 128 (cmp_isNaN_string.S N) := evFn_sound (specs_tab (cmp_isNaN_string.tab N)) (inls_tab (cmp_isNaN_string.tab N)) mixed 3 Try.func128 _ _ _
theorem cmp_isNaN_string.eq (N : Nat) (x0 : ByteArray) : cmp_isNaN_string.fn N x0 =
    some (!(seq x0 x0)) := by kernel_rfl

/-! ### cmp_Compare_string: cmp.Compare[string] -/
def cmp_Compare_string.kp : List (Nat × List (Nat × Option (TypeId × Ty))) := []
noncomputable def cmp_Compare_string.G (N : Nat) : List (Nat × Spec) := [(128, .pure (cmp_isNaN_string.S N))]
noncomputable def cmp_Compare_string.E (N : Nat) : Env := mkEnv (cmp_Compare_string.G N) N tyTab cmp_Compare_string.kp
noncomputable def cmp_Compare_string.fn (N : Nat) (x : ByteArray × ByteArray) : Option Int := evFn (cmp_Compare_string.E N) Try.prog 3 Try.f97 false [.cell (.str), .cell (.str)] [.val (.cell (.int .i64))] x
noncomputable def cmp_Compare_string.S (N : Nat) : PSpec := ⟨false, [.cell (.str), .cell (.str)], [.val (.cell (.int .i64))], cmp_Compare_string.fn N⟩
theorem f97_enters : Enters Try.prog 97 := ⟨Try.f97, Try.func97, by kernel_rfl, by kernel_rfl⟩
theorem cmp_Compare_string.tab (N : Nat) : TabOk Try.prog (cmp_Compare_string.G N) := ⟨⟨cmp_isNaN_string.enters, cmp_isNaN_string.sound N⟩, trivial⟩
theorem cmp_Compare_string.enters : Enters Try.prog 97 := f97_enters
theorem cmp_Compare_string.sound (N : Nat) : Sound Try.prog 97 (cmp_Compare_string.S N) := evFn_sound (specs_tab (cmp_Compare_string.tab N)) (inls_tab (cmp_Compare_string.tab N)) mixed 3 Try.func97 _ _ _
theorem cmp_Compare_string.eq (N : Nat) (x0 : ByteArray) (x1 : ByteArray) : cmp_Compare_string.fn N (x0, x1) =
    (cmp_isNaN_string.fn N x0).bind fun r1 =>
    (cmp_isNaN_string.fn N x1).bind fun r2 =>
    bif r1 then
      bif r2 then
        some 0
      else
        some (-1)
    else
    bif r2 then
      some 1
    else
    bif slt x0 x1 then
      some (-1)
    else
    bif !((slt x0 x1) || (seq x0 x1)) then
      some 1
    else
      some 0 := by kernel_rfl

/-! ### cmp_Or_int: cmp.Or[int] -/
def cmp_Or_int.kp : List (Nat × List (Nat × Option (TypeId × Ty))) := [(3, [(3, none), (6, none), (7, none), (8, none)])]
noncomputable def cmp_Or_int.G (N : Nat) : List (Nat × Spec) := []
noncomputable def cmp_Or_int.E (N : Nat) : Env := mkEnv (cmp_Or_int.G N) N tyTab cmp_Or_int.kp
noncomputable def cmp_Or_int.fn (N : Nat) (x : List Int) : Option Int := evFn (cmp_Or_int.E N) Try.prog 3 Try.f95 false [.cell (.sl 3 (.int .i64))] [.val (.cell (.int .i64))] x
noncomputable def cmp_Or_int.S (N : Nat) : PSpec := ⟨false, [.cell (.sl 3 (.int .i64))], [.val (.cell (.int .i64))], cmp_Or_int.fn N⟩
theorem f95_enters : Enters Try.prog 95 := ⟨Try.f95, Try.func95, by kernel_rfl, by kernel_rfl⟩
theorem cmp_Or_int.tab (N : Nat) : TabOk Try.prog (cmp_Or_int.G N) := trivial
theorem cmp_Or_int.enters : Enters Try.prog 95 := f95_enters
theorem cmp_Or_int.sound (N : Nat) : Sound Try.prog 95 (cmp_Or_int.S N) := evFn_sound (specs_tab (cmp_Or_int.tab N)) (inls_tab (cmp_Or_int.tab N)) mixed 3 Try.func95 _ _ _
noncomputable def cmp_Or_int.cd (N : Nat) (p : List Nat) : St → (Ex → St → Option Int) → Option Int := ev (cmp_Or_int.E N) Try.prog (callD (cmp_Or_int.E N) Try.prog 3) 0 (codeAt (bodyOf Try.f95) p)
noncomputable def cmp_Or_int.fin : Ex → St → Option Int := endK Try.prog Try.f95 [.val (.cell (.int .i64))]
noncomputable def cmp_Or_int.l0 (N : Nat) (x0 : List Int) (k1 : Nat) (a2 : Int) : Option Int :=
  loopN (norm ((cmp_Or_int.E N).keep 3) 0) (cmp_Or_int.cd N [1, 1, 0, 1, 0, 0]) k1
  ⟨[.any, .any, .any, .sc (.int .i64 0), .any, .any, .ros false 3 (.int .i64) x0, .sc (.int .i64 (x0.length : Int)), .sc (.int .i64 a2), .any, .any, .any, .any, .any, .any, .any, .any, .any], []⟩
  (blockK 0 (seqK (cmp_Or_int.cd N [1, 1, 1]) cmp_Or_int.fin))
theorem cmp_Or_int.l0_zero (N : Nat) (x0 : List Int) (a2 : Int) : cmp_Or_int.l0 N x0 0 a2 = none := by kernel_rfl
theorem cmp_Or_int.l0_succ (N : Nat) (x0 : List Int) (k1 : Nat) (a2 : Int) : cmp_Or_int.l0 N x0 (k1 + 1) a2 =
    bif decide (a2 < (x0.length : Int)) then
      bif (decide (0 ≤ a2)) && (decide (a2 < (x0.length : Int))) then
        bif !((List.getD x0 (Int.toNat a2) 0) == 0) then
          some (List.getD x0 (Int.toNat a2) 0)
        else
          cmp_Or_int.l0 N x0 k1 (w (a2 + 1))
      else
        none
    else
      some 0 := by kernel_rfl
theorem cmp_Or_int.l0_cons (N : Nat) (x0 : List Int) (k1 : Nat) {pre r} {x} (hl : x0 = pre ++ x :: r) (hb : x0.length < 4611686018427387904) : cmp_Or_int.l0 N x0 (k1 + 1) (pre.length : Int) =
    bif !(x == 0) then
      some x
    else
      cmp_Or_int.l0 N x0 k1 ((pre.length : Int) + 1) := by
  have hlen : x0.length = pre.length + 1 + r.length := by rw [hl]; simp; omega
  have e1 : decide ((pre.length : Int) < (x0.length : Int)) = true := by rw [decide_eq_true_iff]; omega
  have e2 : decide (0 ≤ (pre.length : Int)) = true := by rw [decide_eq_true_iff]; omega
  have e4 : w ((pre.length : Int) + 1) = (pre.length : Int) + 1 := w_next hl hb
  have e5 : List.take pre.length x0 = pre := by rw [hl]; simp
  have e6 : decide ((pre.length : Int) ≤ (x0.length : Int)) = true := by rw [decide_eq_true_iff]; omega
  have g0 : List.getD x0 pre.length 0 = x := by rw [hl]; exact getD_mid pre x r _
  rw [cmp_Or_int.l0_succ]
  simp -implicitDefEqProofs only [Int.toNat_natCast, e1, e2, e4, e6, g0, e5, Bool.and_true, Bool.true_and, Bool.true_or, cond_true]
theorem cmp_Or_int.l0_nil (N : Nat) (x0 : List Int) (k1 : Nat) : cmp_Or_int.l0 N x0 (k1 + 1) (x0.length : Int) =
    some 0 := by
  have e1 : decide ((x0.length : Int) < (x0.length : Int)) = false := by rw [decide_eq_false_iff_not]; omega
  rw [cmp_Or_int.l0_succ]
  simp -implicitDefEqProofs only [e1, cond_false]
theorem cmp_Or_int.eq (N : Nat) (x0 : List Int) : cmp_Or_int.fn N x0 =
    cmp_Or_int.l0 N x0 N 0 := by kernel_rfl

/-! ### taxi_Queue_1: skyway/taxi.Queue$1 -/
def taxi_Queue_1.kp : List (Nat × List (Nat × Option (TypeId × Ty))) := []
noncomputable def taxi_Queue_1.G (N : Nat) : List (Nat × Spec) := [(95, .pure (cmp_Or_int.S N)), (96, .pure (cmp_Compare_int.S N)), (97, .pure (cmp_Compare_string.S N))]
noncomputable def taxi_Queue_1.E (N : Nat) : Env := mkEnv (taxi_Queue_1.G N) N tyTab taxi_Queue_1.kp
noncomputable def taxi_Queue_1.fn (N : Nat) (x : (ByteArray × Int × Int × Int) × ByteArray × Int × Int × Int) : Option Int := evFn (taxi_Queue_1.E N) Try.prog 3 Try.f94 false [.agg (.pair (.str) (.pair (.int .i64) (.pair (.int .i64) (.int .i64)))), .agg (.pair (.str) (.pair (.int .i64) (.pair (.int .i64) (.int .i64))))] [.val (.cell (.int .i64))] x
noncomputable def taxi_Queue_1.S (N : Nat) : PSpec := ⟨false, [.agg (.pair (.str) (.pair (.int .i64) (.pair (.int .i64) (.int .i64)))), .agg (.pair (.str) (.pair (.int .i64) (.pair (.int .i64) (.int .i64))))], [.val (.cell (.int .i64))], taxi_Queue_1.fn N⟩
theorem f94_enters : Enters Try.prog 94 := ⟨Try.f94, Try.func94, by kernel_rfl, by kernel_rfl⟩
theorem taxi_Queue_1.tab (N : Nat) : TabOk Try.prog (taxi_Queue_1.G N) := ⟨⟨cmp_Or_int.enters, cmp_Or_int.sound N⟩, ⟨cmp_Compare_int.enters, cmp_Compare_int.sound N⟩, ⟨cmp_Compare_string.enters, cmp_Compare_string.sound N⟩, trivial⟩
theorem taxi_Queue_1.enters : Enters Try.prog 94 := f94_enters
theorem taxi_Queue_1.sound (N : Nat) : Sound Try.prog 94 (taxi_Queue_1.S N) := evFn_sound (specs_tab (taxi_Queue_1.tab N)) (inls_tab (taxi_Queue_1.tab N)) mixed 3 Try.func94 _ _ _
theorem taxi_Queue_1.reads (N : Nat) : ReadsOk Try.prog 94 [.agg (.pair (.str) (.pair (.int .i64) (.pair (.int .i64) (.int .i64)))), .agg (.pair (.str) (.pair (.int .i64) (.pair (.int .i64) (.int .i64))))] (taxi_Queue_1.fn N) := evFn_reads (specs_tab (taxi_Queue_1.tab N)) (inls_tab (taxi_Queue_1.tab N)) mixed 3 Try.func94 _ _
theorem taxi_Queue_1.eq (N : Nat) (x0 : ByteArray × Int × Int × Int) (x1 : ByteArray × Int × Int × Int) : taxi_Queue_1.fn N (x0, x1) =
    (cmp_Compare_int.fn N (x0.2.2.1, x1.2.2.1)).bind fun r1 =>
    (cmp_Compare_string.fn N (x0.1, x1.1)).bind fun r2 =>
    (cmp_Or_int.fn N [r1, r2]).bind fun r3 =>
    some r3 := by kernel_rfl

/-! ### taxi_Queue: skyway/taxi.Queue -/
theorem f93_enters : Enters Try.prog 93 := ⟨Try.f93, Try.func93, by kernel_rfl, by kernel_rfl⟩
def taxi_Queue.kp : List (Nat × List (Nat × Option (TypeId × Ty))) := [(8, [(0, none), (2, none), (9, some (76, .pair (.str) (.pair (.int .i64) (.pair (.int .i64) (.int .i64))))), (25, none), (26, none), (27, none)]), (14, [(2, none), (9, none), (50, none), (51, none)]), (1000019, [(2, none), (9, none), (12, none), (50, none), (51, none)])]
noncomputable def taxi_Queue.G (N : Nat) : List (Nat × Spec) := [(44, .pure (taxi_Check.S N)), (92, .pure (taxi_stand.S N)), (93, .mac (sortM 76 94 (.agg (.pair (.str) (.pair (.int .i64) (.pair (.int .i64) (.int .i64))))) [] (taxi_Queue_1.fn N)))]
noncomputable def taxi_Queue.E (N : Nat) : Env := mkEnv (taxi_Queue.G N) N tyTab taxi_Queue.kp
noncomputable def taxi_Queue.fn (N : Nat) (x : List (ByteArray × Int) × List (ByteArray × ByteArray × Int) × Int) : Option (List (ByteArray × Int × Int × Int) × Int) := evFn (taxi_Queue.E N) Try.prog 3 Try.f39 false [.cell (.sl 133 (.pair (.str) (.int .i64))), .cell (.sl 135 (.pair (.str) (.pair (.str) (.int .i64)))), .cell (.int .i64)] [.own 76 (.pair (.str) (.pair (.int .i64) (.pair (.int .i64) (.int .i64)))), .val (.cell (.int .i64))] x
noncomputable def taxi_Queue.S (N : Nat) : PSpec := ⟨false, [.cell (.sl 133 (.pair (.str) (.int .i64))), .cell (.sl 135 (.pair (.str) (.pair (.str) (.int .i64)))), .cell (.int .i64)], [.own 76 (.pair (.str) (.pair (.int .i64) (.pair (.int .i64) (.int .i64)))), .val (.cell (.int .i64))], taxi_Queue.fn N⟩
theorem f39_enters : Enters Try.prog 39 := ⟨Try.f39, Try.func39, by kernel_rfl, by kernel_rfl⟩
theorem taxi_Queue.tab (N : Nat) : TabOk Try.prog (taxi_Queue.G N) := ⟨⟨taxi_Check.enters, taxi_Check.sound N⟩, ⟨taxi_stand.enters, taxi_stand.sound N⟩, ⟨f93_enters, sort_sound (v := .agg (.pair (.str) (.pair (.int .i64) (.pair (.int .i64) (.int .i64))))) (r := []) trivial Sort93.sortC (enters_run f94_enters) (taxi_Queue_1.reads N)⟩, trivial⟩
theorem taxi_Queue.enters : Enters Try.prog 39 := f39_enters
theorem taxi_Queue.sound (N : Nat) : Sound Try.prog 39 (taxi_Queue.S N) := evFn_sound (specs_tab (taxi_Queue.tab N)) (inls_tab (taxi_Queue.tab N)) mixed 3 Try.func39 _ _ _
noncomputable def taxi_Queue.cd (N : Nat) (p : List Nat) : St → (Ex → St → Option (List (ByteArray × Int × Int × Int) × Int)) → Option (List (ByteArray × Int × Int × Int) × Int) := ev (taxi_Queue.E N) Try.prog (callD (taxi_Queue.E N) Try.prog 3) 0 (codeAt (bodyOf Try.f39) p)
noncomputable def taxi_Queue.fin : Ex → St → Option (List (ByteArray × Int × Int × Int) × Int) := endK Try.prog Try.f39 [.own 76 (.pair (.str) (.pair (.int .i64) (.pair (.int .i64) (.int .i64)))), .val (.cell (.int .i64))]
noncomputable def taxi_Queue.l0 (N : Nat) (x0 : List (ByteArray × Int)) (x1 : List (ByteArray × ByteArray × Int)) (x2 : Int) (k2 : Nat) (a3 : Int) (a4 : List (ByteArray × Int × Int × Int)) : Option (List (ByteArray × Int × Int × Int) × Int) :=
  loopN (norm ((taxi_Queue.E N).keep 8) 0) (taxi_Queue.cd N [1, 1, 1, 1, 0, 1, 0, 0]) k2
  ⟨[.ros false 133 (.pair (.str) (.int .i64)) x0, .any, .sc (.int .i64 x2), .any, .any, .any, .any, .any, .any, .own 0, .any, .any, .any, .any, .any, .any, .any, .any, .any, .any, .any, .any, .any, .any, .any, .ros false 135 (.pair (.str) (.pair (.str) (.int .i64))) x1, .sc (.int .i64 (x1.length : Int)), .sc (.int .i64 a3), .any, .any, .any, .any, .any, .any, .any, .any, .any, .any, .any, .any, .any, .any, .any, .any, .any, .any, .any, .any, .any, .any, .any, .any, .any, .any, .any, .any, .any, .any, .any, .any, .any, .any, .any, .any, .any, .any, .any, .any, .any, .any, .any, .any, .any, .any, .any, .any, .any, .any, .any, .any, .any, .any, .any, .any, .any, .any, .any, .any, .any, .any, .any], [.rows true 76 (.pair (.str) (.pair (.int .i64) (.pair (.int .i64) (.int .i64)))) a4]⟩
  (blockK 0 (seqK (taxi_Queue.cd N [1, 1, 1, 1, 1]) taxi_Queue.fin))
noncomputable def taxi_Queue.l1 (N : Nat) (x2 : Int) (a4 : List (ByteArray × Int × Int × Int)) (k6 : Nat) (a7 : Int) (a8 : List (ByteArray × Int × Int × Int)) : Option (List (ByteArray × Int × Int × Int) × Int) :=
  loopN (norm ((taxi_Queue.E N).keep 14) 0) (taxi_Queue.cd N [1, 1, 1, 1, 1, 1, 0, 1, 0, 0]) k6
  ⟨[.any, .any, .sc (.int .i64 x2), .any, .any, .any, .any, .any, .any, .own 0, .any, .any, .any, .any, .any, .any, .any, .any, .any, .any, .any, .any, .any, .any, .any, .any, .any, .any, .any, .any, .any, .any, .any, .any, .any, .any, .any, .any, .any, .any, .any, .any, .any, .any, .any, .any, .any, .any, .any, .any, .sc (.int .i64 ((sortL (fun (p q : ByteArray × Int × Int × Int) => taxi_Queue_1.fn N (p, q)) a4).length : Int)), .sc (.int .i64 a7), .any, .any, .any, .any, .any, .any, .any, .any, .any, .any, .any, .any, .any, .any, .any, .any, .any, .any, .any, .any, .any, .any, .any, .any, .any, .any, .any, .any, .any, .any, .any, .any, .any, .any, .any, .any, .any, .any, .any], [.rows true 76 (.pair (.str) (.pair (.int .i64) (.pair (.int .i64) (.int .i64)))) a8]⟩
  (blockK 2 (seqK (taxi_Queue.cd N [1, 1, 1, 1, 1, 1, 1]) taxi_Queue.fin))
noncomputable def taxi_Queue.j2 (N : Nat) (x2 : Int) (a4 : List (ByteArray × Int × Int × Int)) (k6 : Nat) (a7 : Int) (a9 : List (ByteArray × Int × Int × Int)) : Option (List (ByteArray × Int × Int × Int) × Int) :=
  fuelK N (region (taxi_Queue.E N) Try.prog (callD (taxi_Queue.E N) Try.prog 3) (opsAt (codeAt (bodyOf Try.f39) [1, 1, 1, 1, 1, 1, 0, 1, 0, 0, 1, 1, 0, 0, 1, 1, 1, 0])) false
  ⟨[.any, .any, .sc (.int .i64 x2), .any, .any, .any, .any, .any, .any, .own 0, .any, .any, .sc (.int .i64 a7), .any, .any, .any, .any, .any, .any, .any, .any, .any, .any, .any, .any, .any, .any, .any, .any, .any, .any, .any, .any, .any, .any, .any, .any, .any, .any, .any, .any, .any, .any, .any, .any, .any, .any, .any, .any, .any, .sc (.int .i64 ((sortL (fun (p q : ByteArray × Int × Int × Int) => taxi_Queue_1.fn N (p, q)) a4).length : Int)), .sc (.int .i64 a7), .any, .any, .any, .any, .any, .any, .any, .any, .any, .any, .any, .any, .any, .any, .any, .any, .any, .any, .any, .any, .any, .any, .any, .any, .any, .any, .any, .any, .any, .any, .any, .any, .any, .any, .any, .any, .any, .any, .any], [.rows true 76 (.pair (.str) (.pair (.int .i64) (.pair (.int .i64) (.int .i64)))) a9]⟩
  (fun S => (seqK (taxi_Queue.cd N [1, 1, 1, 1, 1, 1, 0, 1, 0, 0, 1, 1, 0, 0, 1, 1, 1, 1]) (blockK 3 (seqK (taxi_Queue.cd N [1, 1, 1, 1, 1, 1, 0, 1, 0, 0, 1, 1, 1]) (loopK (norm ((taxi_Queue.E N).keep 14) 0) (taxi_Queue.cd N [1, 1, 1, 1, 1, 1, 0, 1, 0, 0]) k6 (blockK 2 (seqK (taxi_Queue.cd N [1, 1, 1, 1, 1, 1, 1]) taxi_Queue.fin)))))) .normal S))
theorem taxi_Queue.j2_eq (N : Nat) (x2 : Int) (a4 : List (ByteArray × Int × Int × Int)) (k6 : Nat) (a7 : Int) (a9 : List (ByteArray × Int × Int × Int)) {M : Nat} (hM : N = M + 1) : taxi_Queue.j2 N x2 a4 k6 a7 a9 =
    bif (decide (0 ≤ a7)) && (decide (a7 < (a9.length : Int))) then
      bif decide ((Int.toNat a7) < a9.length) then
        bif decide (((((List.getD a9 (Int.toNat a7) ((⟨#[]⟩ : ByteArray), (0, (0, 0)))).2).2).2) > 200000) then
          some ([], 12)
        else
          taxi_Queue.l1 N x2 a4 k6 (w (a7 + 1)) a9
      else
        none
    else
      none := (fuelK_eq hM _).trans (by kernel_rfl)
theorem taxi_Queue.l1_zero (N : Nat) (x2 : Int) (a4 : List (ByteArray × Int × Int × Int)) (a7 : Int) (a8 : List (ByteArray × Int × Int × Int)) : taxi_Queue.l1 N x2 a4 0 a7 a8 = none := by kernel_rfl
theorem taxi_Queue.l1_succ (N : Nat) (x2 : Int) (a4 : List (ByteArray × Int × Int × Int)) (k6 : Nat) (a7 : Int) (a8 : List (ByteArray × Int × Int × Int)) : taxi_Queue.l1 N x2 a4 (k6 + 1) a7 a8 =
    bif decide (a7 < ((sortL (fun (p q : ByteArray × Int × Int × Int) => taxi_Queue_1.fn N (p, q)) a4).length : Int)) then
      bif (decide (0 ≤ a7)) && (decide (a7 < (a8.length : Int))) then
        bif decide ((Int.toNat a7) < a8.length) then
          bif (decide (0 ≤ a7)) && (decide (a7 < (a8.length : Int))) then
            bif decide ((Int.toNat a7) < a8.length) then
              bif decide (a7 > 0) then
                bif (decide (0 ≤ a7)) && (decide (a7 < ((List.set a8 (Int.toNat a7) ((List.getD a8 (Int.toNat a7) ((⟨#[]⟩ : ByteArray), (0, (0, 0)))).1, (((List.getD a8 (Int.toNat a7) ((⟨#[]⟩ : ByteArray), (0, (0, 0)))).2).1, ((((List.getD a8 (Int.toNat a7) ((⟨#[]⟩ : ByteArray), (0, (0, 0)))).2).2).1, (((List.getD a8 (Int.toNat a7) ((⟨#[]⟩ : ByteArray), (0, (0, 0)))).2).2).1)))).length : Int))) then
                  bif decide ((Int.toNat a7) < (List.set a8 (Int.toNat a7) ((List.getD a8 (Int.toNat a7) ((⟨#[]⟩ : ByteArray), (0, (0, 0)))).1, (((List.getD a8 (Int.toNat a7) ((⟨#[]⟩ : ByteArray), (0, (0, 0)))).2).1, ((((List.getD a8 (Int.toNat a7) ((⟨#[]⟩ : ByteArray), (0, (0, 0)))).2).2).1, (((List.getD a8 (Int.toNat a7) ((⟨#[]⟩ : ByteArray), (0, (0, 0)))).2).2).1)))).length) then
                    bif (decide (0 ≤ (w (a7 - 1)))) && (decide ((w (a7 - 1)) < ((List.set a8 (Int.toNat a7) ((List.getD a8 (Int.toNat a7) ((⟨#[]⟩ : ByteArray), (0, (0, 0)))).1, (((List.getD a8 (Int.toNat a7) ((⟨#[]⟩ : ByteArray), (0, (0, 0)))).2).1, ((((List.getD a8 (Int.toNat a7) ((⟨#[]⟩ : ByteArray), (0, (0, 0)))).2).2).1, (((List.getD a8 (Int.toNat a7) ((⟨#[]⟩ : ByteArray), (0, (0, 0)))).2).2).1)))).length : Int))) then
                      bif decide ((Int.toNat (w (a7 - 1))) < (List.set a8 (Int.toNat a7) ((List.getD a8 (Int.toNat a7) ((⟨#[]⟩ : ByteArray), (0, (0, 0)))).1, (((List.getD a8 (Int.toNat a7) ((⟨#[]⟩ : ByteArray), (0, (0, 0)))).2).1, ((((List.getD a8 (Int.toNat a7) ((⟨#[]⟩ : ByteArray), (0, (0, 0)))).2).2).1, (((List.getD a8 (Int.toNat a7) ((⟨#[]⟩ : ByteArray), (0, (0, 0)))).2).2).1)))).length) then
                        bif (decide (0 ≤ a7)) && (decide (a7 < ((List.set a8 (Int.toNat a7) ((List.getD a8 (Int.toNat a7) ((⟨#[]⟩ : ByteArray), (0, (0, 0)))).1, (((List.getD a8 (Int.toNat a7) ((⟨#[]⟩ : ByteArray), (0, (0, 0)))).2).1, ((((List.getD a8 (Int.toNat a7) ((⟨#[]⟩ : ByteArray), (0, (0, 0)))).2).2).1, (((List.getD a8 (Int.toNat a7) ((⟨#[]⟩ : ByteArray), (0, (0, 0)))).2).2).1)))).length : Int))) then
                          bif decide ((Int.toNat a7) < (List.set a8 (Int.toNat a7) ((List.getD a8 (Int.toNat a7) ((⟨#[]⟩ : ByteArray), (0, (0, 0)))).1, (((List.getD a8 (Int.toNat a7) ((⟨#[]⟩ : ByteArray), (0, (0, 0)))).2).1, ((((List.getD a8 (Int.toNat a7) ((⟨#[]⟩ : ByteArray), (0, (0, 0)))).2).2).1, (((List.getD a8 (Int.toNat a7) ((⟨#[]⟩ : ByteArray), (0, (0, 0)))).2).2).1)))).length) then
                            taxi_Queue.j2 N x2 a4 k6 a7 (List.set (List.set a8 (Int.toNat a7) ((List.getD a8 (Int.toNat a7) ((⟨#[]⟩ : ByteArray), (0, (0, 0)))).1, (((List.getD a8 (Int.toNat a7) ((⟨#[]⟩ : ByteArray), (0, (0, 0)))).2).1, ((((List.getD a8 (Int.toNat a7) ((⟨#[]⟩ : ByteArray), (0, (0, 0)))).2).2).1, (((List.getD a8 (Int.toNat a7) ((⟨#[]⟩ : ByteArray), (0, (0, 0)))).2).2).1)))) (Int.toNat a7) ((List.getD (List.set a8 (Int.toNat a7) ((List.getD a8 (Int.toNat a7) ((⟨#[]⟩ : ByteArray), (0, (0, 0)))).1, (((List.getD a8 (Int.toNat a7) ((⟨#[]⟩ : ByteArray), (0, (0, 0)))).2).1, ((((List.getD a8 (Int.toNat a7) ((⟨#[]⟩ : ByteArray), (0, (0, 0)))).2).2).1, (((List.getD a8 (Int.toNat a7) ((⟨#[]⟩ : ByteArray), (0, (0, 0)))).2).2).1)))) (Int.toNat a7) ((⟨#[]⟩ : ByteArray), (0, (0, 0)))).1, (((List.getD (List.set a8 (Int.toNat a7) ((List.getD a8 (Int.toNat a7) ((⟨#[]⟩ : ByteArray), (0, (0, 0)))).1, (((List.getD a8 (Int.toNat a7) ((⟨#[]⟩ : ByteArray), (0, (0, 0)))).2).1, ((((List.getD a8 (Int.toNat a7) ((⟨#[]⟩ : ByteArray), (0, (0, 0)))).2).2).1, (((List.getD a8 (Int.toNat a7) ((⟨#[]⟩ : ByteArray), (0, (0, 0)))).2).2).1)))) (Int.toNat a7) ((⟨#[]⟩ : ByteArray), (0, (0, 0)))).2).1, ((((List.getD (List.set a8 (Int.toNat a7) ((List.getD a8 (Int.toNat a7) ((⟨#[]⟩ : ByteArray), (0, (0, 0)))).1, (((List.getD a8 (Int.toNat a7) ((⟨#[]⟩ : ByteArray), (0, (0, 0)))).2).1, ((((List.getD a8 (Int.toNat a7) ((⟨#[]⟩ : ByteArray), (0, (0, 0)))).2).2).1, (((List.getD a8 (Int.toNat a7) ((⟨#[]⟩ : ByteArray), (0, (0, 0)))).2).2).1)))) (Int.toNat a7) ((⟨#[]⟩ : ByteArray), (0, (0, 0)))).2).2).1, (if (w (((((List.getD (List.set a8 (Int.toNat a7) ((List.getD a8 (Int.toNat a7) ((⟨#[]⟩ : ByteArray), (0, (0, 0)))).1, (((List.getD a8 (Int.toNat a7) ((⟨#[]⟩ : ByteArray), (0, (0, 0)))).2).1, ((((List.getD a8 (Int.toNat a7) ((⟨#[]⟩ : ByteArray), (0, (0, 0)))).2).2).1, (((List.getD a8 (Int.toNat a7) ((⟨#[]⟩ : ByteArray), (0, (0, 0)))).2).2).1)))) (Int.toNat (w (a7 - 1))) ((⟨#[]⟩ : ByteArray), (0, (0, 0)))).2).2).2) + x2)) > (((List.getD (List.set a8 (Int.toNat a7) ((List.getD a8 (Int.toNat a7) ((⟨#[]⟩ : ByteArray), (0, (0, 0)))).1, (((List.getD a8 (Int.toNat a7) ((⟨#[]⟩ : ByteArray), (0, (0, 0)))).2).1, ((((List.getD a8 (Int.toNat a7) ((⟨#[]⟩ : ByteArray), (0, (0, 0)))).2).2).1, (((List.getD a8 (Int.toNat a7) ((⟨#[]⟩ : ByteArray), (0, (0, 0)))).2).2).1)))) (Int.toNat a7) ((⟨#[]⟩ : ByteArray), (0, (0, 0)))).2).2).1 then (w (((((List.getD (List.set a8 (Int.toNat a7) ((List.getD a8 (Int.toNat a7) ((⟨#[]⟩ : ByteArray), (0, (0, 0)))).1, (((List.getD a8 (Int.toNat a7) ((⟨#[]⟩ : ByteArray), (0, (0, 0)))).2).1, ((((List.getD a8 (Int.toNat a7) ((⟨#[]⟩ : ByteArray), (0, (0, 0)))).2).2).1, (((List.getD a8 (Int.toNat a7) ((⟨#[]⟩ : ByteArray), (0, (0, 0)))).2).2).1)))) (Int.toNat (w (a7 - 1))) ((⟨#[]⟩ : ByteArray), (0, (0, 0)))).2).2).2) + x2)) else (((List.getD (List.set a8 (Int.toNat a7) ((List.getD a8 (Int.toNat a7) ((⟨#[]⟩ : ByteArray), (0, (0, 0)))).1, (((List.getD a8 (Int.toNat a7) ((⟨#[]⟩ : ByteArray), (0, (0, 0)))).2).1, ((((List.getD a8 (Int.toNat a7) ((⟨#[]⟩ : ByteArray), (0, (0, 0)))).2).2).1, (((List.getD a8 (Int.toNat a7) ((⟨#[]⟩ : ByteArray), (0, (0, 0)))).2).2).1)))) (Int.toNat a7) ((⟨#[]⟩ : ByteArray), (0, (0, 0)))).2).2).1)))))
                          else
                            none
                        else
                          none
                      else
                        none
                    else
                      none
                  else
                    none
                else
                  none
              else
                taxi_Queue.j2 N x2 a4 k6 a7 (List.set a8 (Int.toNat a7) ((List.getD a8 (Int.toNat a7) ((⟨#[]⟩ : ByteArray), (0, (0, 0)))).1, (((List.getD a8 (Int.toNat a7) ((⟨#[]⟩ : ByteArray), (0, (0, 0)))).2).1, ((((List.getD a8 (Int.toNat a7) ((⟨#[]⟩ : ByteArray), (0, (0, 0)))).2).2).1, (((List.getD a8 (Int.toNat a7) ((⟨#[]⟩ : ByteArray), (0, (0, 0)))).2).2).1))))
            else
              none
          else
            none
        else
          none
      else
        none
    else
      some (a8, 0) := by kernel_rfl
theorem taxi_Queue.l0_zero (N : Nat) (x0 : List (ByteArray × Int)) (x1 : List (ByteArray × ByteArray × Int)) (x2 : Int) (a3 : Int) (a4 : List (ByteArray × Int × Int × Int)) : taxi_Queue.l0 N x0 x1 x2 0 a3 a4 = none := by kernel_rfl
theorem taxi_Queue.l0_succ (N : Nat) (x0 : List (ByteArray × Int)) (x1 : List (ByteArray × ByteArray × Int)) (x2 : Int) (k2 : Nat) (a3 : Int) (a4 : List (ByteArray × Int × Int × Int)) : taxi_Queue.l0 N x0 x1 x2 (k2 + 1) a3 a4 =
    bif decide (a3 < (x1.length : Int)) then
      bif (decide (0 ≤ a3)) && (decide (a3 < (x1.length : Int))) then
        (taxi_stand.fn N (x0, ((List.getD x1 (Int.toNat a3) ((⟨#[]⟩ : ByteArray), ((⟨#[]⟩ : ByteArray), 0))).2).1)).bind fun r5 =>
        bif decide ((a4.length + 1) * 40 ≤ 140737488355328) && decide ((a4.length + 1) ≤ maxLen) then
          taxi_Queue.l0 N x0 x1 x2 k2 (w (a3 + 1)) (a4 ++ [((List.getD x1 (Int.toNat a3) ((⟨#[]⟩ : ByteArray), ((⟨#[]⟩ : ByteArray), 0))).1, (((List.getD x1 (Int.toNat a3) ((⟨#[]⟩ : ByteArray), ((⟨#[]⟩ : ByteArray), 0))).2).2, ((w ((((List.getD x1 (Int.toNat a3) ((⟨#[]⟩ : ByteArray), ((⟨#[]⟩ : ByteArray), 0))).2).2) + r5)), 0)))])
        else
          none
      else
        none
    else
    bif sortOk (fun (p q : ByteArray × Int × Int × Int) => taxi_Queue_1.fn N (p, q)) a4 then
      taxi_Queue.l1 N x2 a4 N 0 (sortL (fun (p q : ByteArray × Int × Int × Int) => taxi_Queue_1.fn N (p, q)) a4)
    else
      none := by kernel_rfl
theorem taxi_Queue.l1_cons (N : Nat) (x2 : Int) (a4 : List (ByteArray × Int × Int × Int)) (k6 : Nat) (a8 : List (ByteArray × Int × Int × Int)) {pre r} {x} (hl : (sortL (fun (p q : ByteArray × Int × Int × Int) => taxi_Queue_1.fn N (p, q)) a4) = pre ++ x :: r) (hb : (sortL (fun (p q : ByteArray × Int × Int × Int) => taxi_Queue_1.fn N (p, q)) a4).length < 4611686018427387904) : taxi_Queue.l1 N x2 a4 (k6 + 1) (pre.length : Int) a8 =
    bif decide ((pre.length : Int) < (a8.length : Int)) then
      bif decide (pre.length < a8.length) then
        bif decide ((pre.length : Int) < (a8.length : Int)) then
          bif decide (pre.length < a8.length) then
            bif decide ((pre.length : Int) > 0) then
              bif decide ((pre.length : Int) < ((List.set a8 pre.length ((List.getD a8 pre.length ((⟨#[]⟩ : ByteArray), (0, (0, 0)))).1, (((List.getD a8 pre.length ((⟨#[]⟩ : ByteArray), (0, (0, 0)))).2).1, ((((List.getD a8 pre.length ((⟨#[]⟩ : ByteArray), (0, (0, 0)))).2).2).1, (((List.getD a8 pre.length ((⟨#[]⟩ : ByteArray), (0, (0, 0)))).2).2).1)))).length : Int)) then
                bif decide (pre.length < (List.set a8 pre.length ((List.getD a8 pre.length ((⟨#[]⟩ : ByteArray), (0, (0, 0)))).1, (((List.getD a8 pre.length ((⟨#[]⟩ : ByteArray), (0, (0, 0)))).2).1, ((((List.getD a8 pre.length ((⟨#[]⟩ : ByteArray), (0, (0, 0)))).2).2).1, (((List.getD a8 pre.length ((⟨#[]⟩ : ByteArray), (0, (0, 0)))).2).2).1)))).length) then
                  bif (decide (0 ≤ (w ((pre.length : Int) - 1)))) && (decide ((w ((pre.length : Int) - 1)) < ((List.set a8 pre.length ((List.getD a8 pre.length ((⟨#[]⟩ : ByteArray), (0, (0, 0)))).1, (((List.getD a8 pre.length ((⟨#[]⟩ : ByteArray), (0, (0, 0)))).2).1, ((((List.getD a8 pre.length ((⟨#[]⟩ : ByteArray), (0, (0, 0)))).2).2).1, (((List.getD a8 pre.length ((⟨#[]⟩ : ByteArray), (0, (0, 0)))).2).2).1)))).length : Int))) then
                    bif decide ((Int.toNat (w ((pre.length : Int) - 1))) < (List.set a8 pre.length ((List.getD a8 pre.length ((⟨#[]⟩ : ByteArray), (0, (0, 0)))).1, (((List.getD a8 pre.length ((⟨#[]⟩ : ByteArray), (0, (0, 0)))).2).1, ((((List.getD a8 pre.length ((⟨#[]⟩ : ByteArray), (0, (0, 0)))).2).2).1, (((List.getD a8 pre.length ((⟨#[]⟩ : ByteArray), (0, (0, 0)))).2).2).1)))).length) then
                      bif decide ((pre.length : Int) < ((List.set a8 pre.length ((List.getD a8 pre.length ((⟨#[]⟩ : ByteArray), (0, (0, 0)))).1, (((List.getD a8 pre.length ((⟨#[]⟩ : ByteArray), (0, (0, 0)))).2).1, ((((List.getD a8 pre.length ((⟨#[]⟩ : ByteArray), (0, (0, 0)))).2).2).1, (((List.getD a8 pre.length ((⟨#[]⟩ : ByteArray), (0, (0, 0)))).2).2).1)))).length : Int)) then
                        bif decide (pre.length < (List.set a8 pre.length ((List.getD a8 pre.length ((⟨#[]⟩ : ByteArray), (0, (0, 0)))).1, (((List.getD a8 pre.length ((⟨#[]⟩ : ByteArray), (0, (0, 0)))).2).1, ((((List.getD a8 pre.length ((⟨#[]⟩ : ByteArray), (0, (0, 0)))).2).2).1, (((List.getD a8 pre.length ((⟨#[]⟩ : ByteArray), (0, (0, 0)))).2).2).1)))).length) then
                          taxi_Queue.j2 N x2 a4 k6 (pre.length : Int) (List.set (List.set a8 pre.length ((List.getD a8 pre.length ((⟨#[]⟩ : ByteArray), (0, (0, 0)))).1, (((List.getD a8 pre.length ((⟨#[]⟩ : ByteArray), (0, (0, 0)))).2).1, ((((List.getD a8 pre.length ((⟨#[]⟩ : ByteArray), (0, (0, 0)))).2).2).1, (((List.getD a8 pre.length ((⟨#[]⟩ : ByteArray), (0, (0, 0)))).2).2).1)))) pre.length ((List.getD (List.set a8 pre.length ((List.getD a8 pre.length ((⟨#[]⟩ : ByteArray), (0, (0, 0)))).1, (((List.getD a8 pre.length ((⟨#[]⟩ : ByteArray), (0, (0, 0)))).2).1, ((((List.getD a8 pre.length ((⟨#[]⟩ : ByteArray), (0, (0, 0)))).2).2).1, (((List.getD a8 pre.length ((⟨#[]⟩ : ByteArray), (0, (0, 0)))).2).2).1)))) pre.length ((⟨#[]⟩ : ByteArray), (0, (0, 0)))).1, (((List.getD (List.set a8 pre.length ((List.getD a8 pre.length ((⟨#[]⟩ : ByteArray), (0, (0, 0)))).1, (((List.getD a8 pre.length ((⟨#[]⟩ : ByteArray), (0, (0, 0)))).2).1, ((((List.getD a8 pre.length ((⟨#[]⟩ : ByteArray), (0, (0, 0)))).2).2).1, (((List.getD a8 pre.length ((⟨#[]⟩ : ByteArray), (0, (0, 0)))).2).2).1)))) pre.length ((⟨#[]⟩ : ByteArray), (0, (0, 0)))).2).1, ((((List.getD (List.set a8 pre.length ((List.getD a8 pre.length ((⟨#[]⟩ : ByteArray), (0, (0, 0)))).1, (((List.getD a8 pre.length ((⟨#[]⟩ : ByteArray), (0, (0, 0)))).2).1, ((((List.getD a8 pre.length ((⟨#[]⟩ : ByteArray), (0, (0, 0)))).2).2).1, (((List.getD a8 pre.length ((⟨#[]⟩ : ByteArray), (0, (0, 0)))).2).2).1)))) pre.length ((⟨#[]⟩ : ByteArray), (0, (0, 0)))).2).2).1, (if (w (((((List.getD (List.set a8 pre.length ((List.getD a8 pre.length ((⟨#[]⟩ : ByteArray), (0, (0, 0)))).1, (((List.getD a8 pre.length ((⟨#[]⟩ : ByteArray), (0, (0, 0)))).2).1, ((((List.getD a8 pre.length ((⟨#[]⟩ : ByteArray), (0, (0, 0)))).2).2).1, (((List.getD a8 pre.length ((⟨#[]⟩ : ByteArray), (0, (0, 0)))).2).2).1)))) (Int.toNat (w ((pre.length : Int) - 1))) ((⟨#[]⟩ : ByteArray), (0, (0, 0)))).2).2).2) + x2)) > (((List.getD (List.set a8 pre.length ((List.getD a8 pre.length ((⟨#[]⟩ : ByteArray), (0, (0, 0)))).1, (((List.getD a8 pre.length ((⟨#[]⟩ : ByteArray), (0, (0, 0)))).2).1, ((((List.getD a8 pre.length ((⟨#[]⟩ : ByteArray), (0, (0, 0)))).2).2).1, (((List.getD a8 pre.length ((⟨#[]⟩ : ByteArray), (0, (0, 0)))).2).2).1)))) pre.length ((⟨#[]⟩ : ByteArray), (0, (0, 0)))).2).2).1 then (w (((((List.getD (List.set a8 pre.length ((List.getD a8 pre.length ((⟨#[]⟩ : ByteArray), (0, (0, 0)))).1, (((List.getD a8 pre.length ((⟨#[]⟩ : ByteArray), (0, (0, 0)))).2).1, ((((List.getD a8 pre.length ((⟨#[]⟩ : ByteArray), (0, (0, 0)))).2).2).1, (((List.getD a8 pre.length ((⟨#[]⟩ : ByteArray), (0, (0, 0)))).2).2).1)))) (Int.toNat (w ((pre.length : Int) - 1))) ((⟨#[]⟩ : ByteArray), (0, (0, 0)))).2).2).2) + x2)) else (((List.getD (List.set a8 pre.length ((List.getD a8 pre.length ((⟨#[]⟩ : ByteArray), (0, (0, 0)))).1, (((List.getD a8 pre.length ((⟨#[]⟩ : ByteArray), (0, (0, 0)))).2).1, ((((List.getD a8 pre.length ((⟨#[]⟩ : ByteArray), (0, (0, 0)))).2).2).1, (((List.getD a8 pre.length ((⟨#[]⟩ : ByteArray), (0, (0, 0)))).2).2).1)))) pre.length ((⟨#[]⟩ : ByteArray), (0, (0, 0)))).2).2).1)))))
                        else
                          none
                      else
                        none
                    else
                      none
                  else
                    none
                else
                  none
              else
                none
            else
              taxi_Queue.j2 N x2 a4 k6 (pre.length : Int) (List.set a8 pre.length ((List.getD a8 pre.length ((⟨#[]⟩ : ByteArray), (0, (0, 0)))).1, (((List.getD a8 pre.length ((⟨#[]⟩ : ByteArray), (0, (0, 0)))).2).1, ((((List.getD a8 pre.length ((⟨#[]⟩ : ByteArray), (0, (0, 0)))).2).2).1, (((List.getD a8 pre.length ((⟨#[]⟩ : ByteArray), (0, (0, 0)))).2).2).1))))
          else
            none
        else
          none
      else
        none
    else
      none := by
  have hlen : (sortL (fun (p q : ByteArray × Int × Int × Int) => taxi_Queue_1.fn N (p, q)) a4).length = pre.length + 1 + r.length := by rw [hl]; simp; omega
  have e1 : decide ((pre.length : Int) < ((sortL (fun (p q : ByteArray × Int × Int × Int) => taxi_Queue_1.fn N (p, q)) a4).length : Int)) = true := by rw [decide_eq_true_iff]; omega
  have e2 : decide (0 ≤ (pre.length : Int)) = true := by rw [decide_eq_true_iff]; omega
  have e4 : w ((pre.length : Int) + 1) = (pre.length : Int) + 1 := w_next hl hb
  have e5 : List.take pre.length (sortL (fun (p q : ByteArray × Int × Int × Int) => taxi_Queue_1.fn N (p, q)) a4) = pre := by rw [hl]; simp
  have e6 : decide ((pre.length : Int) ≤ ((sortL (fun (p q : ByteArray × Int × Int × Int) => taxi_Queue_1.fn N (p, q)) a4).length : Int)) = true := by rw [decide_eq_true_iff]; omega
  rw [taxi_Queue.l1_succ]
  simp -implicitDefEqProofs only [Int.toNat_natCast, e1, e2, e4, e6, e5, Bool.and_true, Bool.true_and, Bool.true_or, cond_true]
theorem taxi_Queue.l1_nil (N : Nat) (x2 : Int) (a4 : List (ByteArray × Int × Int × Int)) (k6 : Nat) (a8 : List (ByteArray × Int × Int × Int)) : taxi_Queue.l1 N x2 a4 (k6 + 1) ((sortL (fun (p q : ByteArray × Int × Int × Int) => taxi_Queue_1.fn N (p, q)) a4).length : Int) a8 =
    some (a8, 0) := by
  have e1 : decide (((sortL (fun (p q : ByteArray × Int × Int × Int) => taxi_Queue_1.fn N (p, q)) a4).length : Int) < ((sortL (fun (p q : ByteArray × Int × Int × Int) => taxi_Queue_1.fn N (p, q)) a4).length : Int)) = false := by rw [decide_eq_false_iff_not]; omega
  rw [taxi_Queue.l1_succ]
  simp -implicitDefEqProofs only [e1, cond_false]
theorem taxi_Queue.l0_cons (N : Nat) (x0 : List (ByteArray × Int)) (x1 : List (ByteArray × ByteArray × Int)) (x2 : Int) (k2 : Nat) (a4 : List (ByteArray × Int × Int × Int)) {pre r} {x} (hl : x1 = pre ++ x :: r) (hb : x1.length < 4611686018427387904) : taxi_Queue.l0 N x0 x1 x2 (k2 + 1) (pre.length : Int) a4 =
    (taxi_stand.fn N (x0, (x.2).1)).bind fun r5 =>
    bif decide ((a4.length + 1) * 40 ≤ 140737488355328) && decide ((a4.length + 1) ≤ maxLen) then
      taxi_Queue.l0 N x0 x1 x2 k2 ((pre.length : Int) + 1) (a4 ++ [(x.1, ((x.2).2, ((w (((x.2).2) + r5)), 0)))])
    else
      none := by
  have hlen : x1.length = pre.length + 1 + r.length := by rw [hl]; simp; omega
  have e1 : decide ((pre.length : Int) < (x1.length : Int)) = true := by rw [decide_eq_true_iff]; omega
  have e2 : decide (0 ≤ (pre.length : Int)) = true := by rw [decide_eq_true_iff]; omega
  have e4 : w ((pre.length : Int) + 1) = (pre.length : Int) + 1 := w_next hl hb
  have e5 : List.take pre.length x1 = pre := by rw [hl]; simp
  have e6 : decide ((pre.length : Int) ≤ (x1.length : Int)) = true := by rw [decide_eq_true_iff]; omega
  have g0 : List.getD x1 pre.length ((⟨#[]⟩ : ByteArray), ((⟨#[]⟩ : ByteArray), 0)) = x := by rw [hl]; exact getD_mid pre x r _
  rw [taxi_Queue.l0_succ]
  simp -implicitDefEqProofs only [Int.toNat_natCast, e1, e2, e4, e6, g0, e5, Bool.and_true, Bool.true_and, Bool.true_or, cond_true]
theorem taxi_Queue.l0_nil (N : Nat) (x0 : List (ByteArray × Int)) (x1 : List (ByteArray × ByteArray × Int)) (x2 : Int) (k2 : Nat) (a4 : List (ByteArray × Int × Int × Int)) : taxi_Queue.l0 N x0 x1 x2 (k2 + 1) (x1.length : Int) a4 =
    bif sortOk (fun (p q : ByteArray × Int × Int × Int) => taxi_Queue_1.fn N (p, q)) a4 then
      taxi_Queue.l1 N x2 a4 N 0 (sortL (fun (p q : ByteArray × Int × Int × Int) => taxi_Queue_1.fn N (p, q)) a4)
    else
      none := by
  have e1 : decide ((x1.length : Int) < (x1.length : Int)) = false := by rw [decide_eq_false_iff_not]; omega
  rw [taxi_Queue.l0_succ]
  simp -implicitDefEqProofs only [e1, cond_false]
theorem taxi_Queue.eq (N : Nat) (x0 : List (ByteArray × Int)) (x1 : List (ByteArray × ByteArray × Int)) (x2 : Int) : taxi_Queue.fn N (x0, x1, x2) =
    (taxi_Check.fn N (x0, x1)).bind fun r1 =>
    bif !(r1 == 0) then
      some ([], r1)
    else
    bif !(!(decide (x2 < 0))) || (!(decide (x2 < 0))) then
      bif (decide (x2 < 0)) || (!(decide (x2 < 0))) then
        bif (decide (x2 < 0)) || (decide (x2 > 1800)) then
          some ([], 4)
        else
          taxi_Queue.l0 N x0 x1 x2 N 0 []
      else
        none
    else
      none := by kernel_rfl
theorem taxi_Queue.clean (N : Nat) (x0 : List (ByteArray × Int)) (x1 : List (ByteArray × ByteArray × Int)) (x2 : Int) : taxi_Queue.fn N (x0, x1, x2) =
    (taxi_Check.fn N (x0, x1)).bind fun r1 =>
    bif !(r1 == 0) then
      some ([], r1)
    else
    bif (decide (x2 < 0)) || (decide (x2 > 1800)) then
      some ([], 4)
    else
      taxi_Queue.l0 N x0 x1 x2 N 0 [] := by
  rw [taxi_Queue.eq]; simp only [taut1, taut6, cond_true]

/-! ### taxi_Late: skyway/taxi.Late -/
def taxi_Late.kp : List (Nat × List (Nat × Option (TypeId × Ty))) := [(7, [(3, none), (10, none), (31, none), (32, none), (33, none)])]
noncomputable def taxi_Late.G (N : Nat) : List (Nat × Spec) := [(39, .pure (taxi_Queue.S N))]
noncomputable def taxi_Late.E (N : Nat) : Env := mkEnv (taxi_Late.G N) N tyTab taxi_Late.kp
noncomputable def taxi_Late.fn (N : Nat) (x : List (ByteArray × Int) × List (ByteArray × ByteArray × Int) × Int × Int) : Option (List (ByteArray × Int × Int × Int) × Int) := evFn (taxi_Late.E N) Try.prog 3 Try.f40 false [.cell (.sl 133 (.pair (.str) (.int .i64))), .cell (.sl 135 (.pair (.str) (.pair (.str) (.int .i64)))), .cell (.int .i64), .cell (.int .i64)] [.own 76 (.pair (.str) (.pair (.int .i64) (.pair (.int .i64) (.int .i64)))), .val (.cell (.int .i64))] x
noncomputable def taxi_Late.S (N : Nat) : PSpec := ⟨false, [.cell (.sl 133 (.pair (.str) (.int .i64))), .cell (.sl 135 (.pair (.str) (.pair (.str) (.int .i64)))), .cell (.int .i64), .cell (.int .i64)], [.own 76 (.pair (.str) (.pair (.int .i64) (.pair (.int .i64) (.int .i64)))), .val (.cell (.int .i64))], taxi_Late.fn N⟩
theorem f40_enters : Enters Try.prog 40 := ⟨Try.f40, Try.func40, by kernel_rfl, by kernel_rfl⟩
theorem taxi_Late.tab (N : Nat) : TabOk Try.prog (taxi_Late.G N) := ⟨⟨taxi_Queue.enters, taxi_Queue.sound N⟩, trivial⟩
theorem taxi_Late.enters : Enters Try.prog 40 := f40_enters
theorem taxi_Late.sound (N : Nat) : Sound Try.prog 40 (taxi_Late.S N) := evFn_sound (specs_tab (taxi_Late.tab N)) (inls_tab (taxi_Late.tab N)) mixed 3 Try.func40 _ _ _
noncomputable def taxi_Late.cd (N : Nat) (p : List Nat) : St → (Ex → St → Option (List (ByteArray × Int × Int × Int) × Int)) → Option (List (ByteArray × Int × Int × Int) × Int) := ev (taxi_Late.E N) Try.prog (callD (taxi_Late.E N) Try.prog 3) 0 (codeAt (bodyOf Try.f40) p)
noncomputable def taxi_Late.fin : Ex → St → Option (List (ByteArray × Int × Int × Int) × Int) := endK Try.prog Try.f40 [.own 76 (.pair (.str) (.pair (.int .i64) (.pair (.int .i64) (.int .i64)))), .val (.cell (.int .i64))]
noncomputable def taxi_Late.l0 (N : Nat) (x3 : Int) (r1 : List (ByteArray × Int × Int × Int) × Int) (k2 : Nat) (a3 : Int) (a4 : List (ByteArray × Int × Int × Int)) : Option (List (ByteArray × Int × Int × Int) × Int) :=
  loopN (norm ((taxi_Late.E N).keep 7) 0) (taxi_Late.cd N [1, 1, 1, 1, 0, 1, 0, 0]) k2
  ⟨[.any, .any, .any, .sc (.int .i64 x3), .any, .any, .any, .any, .any, .any, .own 0, .any, .any, .any, .any, .any, .any, .any, .any, .any, .any, .any, .any, .any, .any, .any, .any, .any, .any, .any, .any, .own 0, .sc (.int .i64 (r1.1.length : Int)), .sc (.int .i64 a3), .any, .any, .any, .any, .any, .any, .any, .any, .any, .any, .any, .any, .any, .any, .any, .any, .any, .any, .any, .any, .any, .any, .any, .any, .any, .any, .any, .any, .any, .any, .any, .any, .any], [.rows true 76 (.pair (.str) (.pair (.int .i64) (.pair (.int .i64) (.int .i64)))) a4]⟩
  (blockK 0 (seqK (taxi_Late.cd N [1, 1, 1, 1, 1]) taxi_Late.fin))
theorem taxi_Late.l0_zero (N : Nat) (x3 : Int) (r1 : List (ByteArray × Int × Int × Int) × Int) (a3 : Int) (a4 : List (ByteArray × Int × Int × Int)) : taxi_Late.l0 N x3 r1 0 a3 a4 = none := by kernel_rfl
theorem taxi_Late.l0_succ (N : Nat) (x3 : Int) (r1 : List (ByteArray × Int × Int × Int) × Int) (k2 : Nat) (a3 : Int) (a4 : List (ByteArray × Int × Int × Int)) : taxi_Late.l0 N x3 r1 (k2 + 1) a3 a4 =
    bif decide (a3 < (r1.1.length : Int)) then
      bif (decide (0 ≤ a3)) && (decide (a3 < (a4.length : Int))) then
        bif decide ((Int.toNat a3) < a4.length) then
          bif decide ((w ((w (((((List.getD a4 (Int.toNat a3) ((⟨#[]⟩ : ByteArray), (0, (0, 0)))).2).2).2) - ((((List.getD a4 (Int.toNat a3) ((⟨#[]⟩ : ByteArray), (0, (0, 0)))).2).2).1))) - x3)) > 0) then
            bif (decide (0 ≤ a3)) && (decide (a3 < (a4.length : Int))) then
              bif decide ((Int.toNat a3) < a4.length) then
                bif (decide (0 ≤ a3)) && (decide (a3 < (a4.length : Int))) then
                  bif decide ((Int.toNat a3) < a4.length) then
                    bif (decide (0 ≤ a3)) && (decide (a3 < ((List.set a4 (Int.toNat a3) ((List.getD a4 (Int.toNat a3) ((⟨#[]⟩ : ByteArray), (0, (0, 0)))).1, ((w ((((List.getD a4 (Int.toNat a3) ((⟨#[]⟩ : ByteArray), (0, (0, 0)))).2).1) + (w ((w (((((List.getD a4 (Int.toNat a3) ((⟨#[]⟩ : ByteArray), (0, (0, 0)))).2).2).2) - ((((List.getD a4 (Int.toNat a3) ((⟨#[]⟩ : ByteArray), (0, (0, 0)))).2).2).1))) - x3)))), ((List.getD a4 (Int.toNat a3) ((⟨#[]⟩ : ByteArray), (0, (0, 0)))).2).2))).length : Int))) then
                      bif decide ((Int.toNat a3) < (List.set a4 (Int.toNat a3) ((List.getD a4 (Int.toNat a3) ((⟨#[]⟩ : ByteArray), (0, (0, 0)))).1, ((w ((((List.getD a4 (Int.toNat a3) ((⟨#[]⟩ : ByteArray), (0, (0, 0)))).2).1) + (w ((w (((((List.getD a4 (Int.toNat a3) ((⟨#[]⟩ : ByteArray), (0, (0, 0)))).2).2).2) - ((((List.getD a4 (Int.toNat a3) ((⟨#[]⟩ : ByteArray), (0, (0, 0)))).2).2).1))) - x3)))), ((List.getD a4 (Int.toNat a3) ((⟨#[]⟩ : ByteArray), (0, (0, 0)))).2).2))).length) then
                        bif (decide (0 ≤ a3)) && (decide (a3 < ((List.set a4 (Int.toNat a3) ((List.getD a4 (Int.toNat a3) ((⟨#[]⟩ : ByteArray), (0, (0, 0)))).1, ((w ((((List.getD a4 (Int.toNat a3) ((⟨#[]⟩ : ByteArray), (0, (0, 0)))).2).1) + (w ((w (((((List.getD a4 (Int.toNat a3) ((⟨#[]⟩ : ByteArray), (0, (0, 0)))).2).2).2) - ((((List.getD a4 (Int.toNat a3) ((⟨#[]⟩ : ByteArray), (0, (0, 0)))).2).2).1))) - x3)))), ((List.getD a4 (Int.toNat a3) ((⟨#[]⟩ : ByteArray), (0, (0, 0)))).2).2))).length : Int))) then
                          bif decide ((Int.toNat a3) < (List.set a4 (Int.toNat a3) ((List.getD a4 (Int.toNat a3) ((⟨#[]⟩ : ByteArray), (0, (0, 0)))).1, ((w ((((List.getD a4 (Int.toNat a3) ((⟨#[]⟩ : ByteArray), (0, (0, 0)))).2).1) + (w ((w (((((List.getD a4 (Int.toNat a3) ((⟨#[]⟩ : ByteArray), (0, (0, 0)))).2).2).2) - ((((List.getD a4 (Int.toNat a3) ((⟨#[]⟩ : ByteArray), (0, (0, 0)))).2).2).1))) - x3)))), ((List.getD a4 (Int.toNat a3) ((⟨#[]⟩ : ByteArray), (0, (0, 0)))).2).2))).length) then
                            taxi_Late.l0 N x3 r1 k2 (w (a3 + 1)) (List.set (List.set a4 (Int.toNat a3) ((List.getD a4 (Int.toNat a3) ((⟨#[]⟩ : ByteArray), (0, (0, 0)))).1, ((w ((((List.getD a4 (Int.toNat a3) ((⟨#[]⟩ : ByteArray), (0, (0, 0)))).2).1) + (w ((w (((((List.getD a4 (Int.toNat a3) ((⟨#[]⟩ : ByteArray), (0, (0, 0)))).2).2).2) - ((((List.getD a4 (Int.toNat a3) ((⟨#[]⟩ : ByteArray), (0, (0, 0)))).2).2).1))) - x3)))), ((List.getD a4 (Int.toNat a3) ((⟨#[]⟩ : ByteArray), (0, (0, 0)))).2).2))) (Int.toNat a3) ((List.getD (List.set a4 (Int.toNat a3) ((List.getD a4 (Int.toNat a3) ((⟨#[]⟩ : ByteArray), (0, (0, 0)))).1, ((w ((((List.getD a4 (Int.toNat a3) ((⟨#[]⟩ : ByteArray), (0, (0, 0)))).2).1) + (w ((w (((((List.getD a4 (Int.toNat a3) ((⟨#[]⟩ : ByteArray), (0, (0, 0)))).2).2).2) - ((((List.getD a4 (Int.toNat a3) ((⟨#[]⟩ : ByteArray), (0, (0, 0)))).2).2).1))) - x3)))), ((List.getD a4 (Int.toNat a3) ((⟨#[]⟩ : ByteArray), (0, (0, 0)))).2).2))) (Int.toNat a3) ((⟨#[]⟩ : ByteArray), (0, (0, 0)))).1, (((List.getD (List.set a4 (Int.toNat a3) ((List.getD a4 (Int.toNat a3) ((⟨#[]⟩ : ByteArray), (0, (0, 0)))).1, ((w ((((List.getD a4 (Int.toNat a3) ((⟨#[]⟩ : ByteArray), (0, (0, 0)))).2).1) + (w ((w (((((List.getD a4 (Int.toNat a3) ((⟨#[]⟩ : ByteArray), (0, (0, 0)))).2).2).2) - ((((List.getD a4 (Int.toNat a3) ((⟨#[]⟩ : ByteArray), (0, (0, 0)))).2).2).1))) - x3)))), ((List.getD a4 (Int.toNat a3) ((⟨#[]⟩ : ByteArray), (0, (0, 0)))).2).2))) (Int.toNat a3) ((⟨#[]⟩ : ByteArray), (0, (0, 0)))).2).1, ((w (((((List.getD (List.set a4 (Int.toNat a3) ((List.getD a4 (Int.toNat a3) ((⟨#[]⟩ : ByteArray), (0, (0, 0)))).1, ((w ((((List.getD a4 (Int.toNat a3) ((⟨#[]⟩ : ByteArray), (0, (0, 0)))).2).1) + (w ((w (((((List.getD a4 (Int.toNat a3) ((⟨#[]⟩ : ByteArray), (0, (0, 0)))).2).2).2) - ((((List.getD a4 (Int.toNat a3) ((⟨#[]⟩ : ByteArray), (0, (0, 0)))).2).2).1))) - x3)))), ((List.getD a4 (Int.toNat a3) ((⟨#[]⟩ : ByteArray), (0, (0, 0)))).2).2))) (Int.toNat a3) ((⟨#[]⟩ : ByteArray), (0, (0, 0)))).2).2).1) + (w ((w (((((List.getD a4 (Int.toNat a3) ((⟨#[]⟩ : ByteArray), (0, (0, 0)))).2).2).2) - ((((List.getD a4 (Int.toNat a3) ((⟨#[]⟩ : ByteArray), (0, (0, 0)))).2).2).1))) - x3)))), (((List.getD (List.set a4 (Int.toNat a3) ((List.getD a4 (Int.toNat a3) ((⟨#[]⟩ : ByteArray), (0, (0, 0)))).1, ((w ((((List.getD a4 (Int.toNat a3) ((⟨#[]⟩ : ByteArray), (0, (0, 0)))).2).1) + (w ((w (((((List.getD a4 (Int.toNat a3) ((⟨#[]⟩ : ByteArray), (0, (0, 0)))).2).2).2) - ((((List.getD a4 (Int.toNat a3) ((⟨#[]⟩ : ByteArray), (0, (0, 0)))).2).2).1))) - x3)))), ((List.getD a4 (Int.toNat a3) ((⟨#[]⟩ : ByteArray), (0, (0, 0)))).2).2))) (Int.toNat a3) ((⟨#[]⟩ : ByteArray), (0, (0, 0)))).2).2).2))))
                          else
                            none
                        else
                          none
                      else
                        none
                    else
                      none
                  else
                    none
                else
                  none
              else
                none
            else
              none
          else
            taxi_Late.l0 N x3 r1 k2 (w (a3 + 1)) a4
        else
          none
      else
        none
    else
      some (a4, 0) := by kernel_rfl
theorem taxi_Late.l0_cons (N : Nat) (x3 : Int) (r1 : List (ByteArray × Int × Int × Int) × Int) (k2 : Nat) (a4 : List (ByteArray × Int × Int × Int)) {pre r} {x} (hl : r1.1 = pre ++ x :: r) (hb : r1.1.length < 4611686018427387904) : taxi_Late.l0 N x3 r1 (k2 + 1) (pre.length : Int) a4 =
    bif decide ((pre.length : Int) < (a4.length : Int)) then
      bif decide (pre.length < a4.length) then
        bif decide ((w ((w (((((List.getD a4 pre.length ((⟨#[]⟩ : ByteArray), (0, (0, 0)))).2).2).2) - ((((List.getD a4 pre.length ((⟨#[]⟩ : ByteArray), (0, (0, 0)))).2).2).1))) - x3)) > 0) then
          bif decide ((pre.length : Int) < (a4.length : Int)) then
            bif decide (pre.length < a4.length) then
              bif decide ((pre.length : Int) < (a4.length : Int)) then
                bif decide (pre.length < a4.length) then
                  bif decide ((pre.length : Int) < ((List.set a4 pre.length ((List.getD a4 pre.length ((⟨#[]⟩ : ByteArray), (0, (0, 0)))).1, ((w ((((List.getD a4 pre.length ((⟨#[]⟩ : ByteArray), (0, (0, 0)))).2).1) + (w ((w (((((List.getD a4 pre.length ((⟨#[]⟩ : ByteArray), (0, (0, 0)))).2).2).2) - ((((List.getD a4 pre.length ((⟨#[]⟩ : ByteArray), (0, (0, 0)))).2).2).1))) - x3)))), ((List.getD a4 pre.length ((⟨#[]⟩ : ByteArray), (0, (0, 0)))).2).2))).length : Int)) then
                    bif decide (pre.length < (List.set a4 pre.length ((List.getD a4 pre.length ((⟨#[]⟩ : ByteArray), (0, (0, 0)))).1, ((w ((((List.getD a4 pre.length ((⟨#[]⟩ : ByteArray), (0, (0, 0)))).2).1) + (w ((w (((((List.getD a4 pre.length ((⟨#[]⟩ : ByteArray), (0, (0, 0)))).2).2).2) - ((((List.getD a4 pre.length ((⟨#[]⟩ : ByteArray), (0, (0, 0)))).2).2).1))) - x3)))), ((List.getD a4 pre.length ((⟨#[]⟩ : ByteArray), (0, (0, 0)))).2).2))).length) then
                      bif decide ((pre.length : Int) < ((List.set a4 pre.length ((List.getD a4 pre.length ((⟨#[]⟩ : ByteArray), (0, (0, 0)))).1, ((w ((((List.getD a4 pre.length ((⟨#[]⟩ : ByteArray), (0, (0, 0)))).2).1) + (w ((w (((((List.getD a4 pre.length ((⟨#[]⟩ : ByteArray), (0, (0, 0)))).2).2).2) - ((((List.getD a4 pre.length ((⟨#[]⟩ : ByteArray), (0, (0, 0)))).2).2).1))) - x3)))), ((List.getD a4 pre.length ((⟨#[]⟩ : ByteArray), (0, (0, 0)))).2).2))).length : Int)) then
                        bif decide (pre.length < (List.set a4 pre.length ((List.getD a4 pre.length ((⟨#[]⟩ : ByteArray), (0, (0, 0)))).1, ((w ((((List.getD a4 pre.length ((⟨#[]⟩ : ByteArray), (0, (0, 0)))).2).1) + (w ((w (((((List.getD a4 pre.length ((⟨#[]⟩ : ByteArray), (0, (0, 0)))).2).2).2) - ((((List.getD a4 pre.length ((⟨#[]⟩ : ByteArray), (0, (0, 0)))).2).2).1))) - x3)))), ((List.getD a4 pre.length ((⟨#[]⟩ : ByteArray), (0, (0, 0)))).2).2))).length) then
                          taxi_Late.l0 N x3 r1 k2 ((pre.length : Int) + 1) (List.set (List.set a4 pre.length ((List.getD a4 pre.length ((⟨#[]⟩ : ByteArray), (0, (0, 0)))).1, ((w ((((List.getD a4 pre.length ((⟨#[]⟩ : ByteArray), (0, (0, 0)))).2).1) + (w ((w (((((List.getD a4 pre.length ((⟨#[]⟩ : ByteArray), (0, (0, 0)))).2).2).2) - ((((List.getD a4 pre.length ((⟨#[]⟩ : ByteArray), (0, (0, 0)))).2).2).1))) - x3)))), ((List.getD a4 pre.length ((⟨#[]⟩ : ByteArray), (0, (0, 0)))).2).2))) pre.length ((List.getD (List.set a4 pre.length ((List.getD a4 pre.length ((⟨#[]⟩ : ByteArray), (0, (0, 0)))).1, ((w ((((List.getD a4 pre.length ((⟨#[]⟩ : ByteArray), (0, (0, 0)))).2).1) + (w ((w (((((List.getD a4 pre.length ((⟨#[]⟩ : ByteArray), (0, (0, 0)))).2).2).2) - ((((List.getD a4 pre.length ((⟨#[]⟩ : ByteArray), (0, (0, 0)))).2).2).1))) - x3)))), ((List.getD a4 pre.length ((⟨#[]⟩ : ByteArray), (0, (0, 0)))).2).2))) pre.length ((⟨#[]⟩ : ByteArray), (0, (0, 0)))).1, (((List.getD (List.set a4 pre.length ((List.getD a4 pre.length ((⟨#[]⟩ : ByteArray), (0, (0, 0)))).1, ((w ((((List.getD a4 pre.length ((⟨#[]⟩ : ByteArray), (0, (0, 0)))).2).1) + (w ((w (((((List.getD a4 pre.length ((⟨#[]⟩ : ByteArray), (0, (0, 0)))).2).2).2) - ((((List.getD a4 pre.length ((⟨#[]⟩ : ByteArray), (0, (0, 0)))).2).2).1))) - x3)))), ((List.getD a4 pre.length ((⟨#[]⟩ : ByteArray), (0, (0, 0)))).2).2))) pre.length ((⟨#[]⟩ : ByteArray), (0, (0, 0)))).2).1, ((w (((((List.getD (List.set a4 pre.length ((List.getD a4 pre.length ((⟨#[]⟩ : ByteArray), (0, (0, 0)))).1, ((w ((((List.getD a4 pre.length ((⟨#[]⟩ : ByteArray), (0, (0, 0)))).2).1) + (w ((w (((((List.getD a4 pre.length ((⟨#[]⟩ : ByteArray), (0, (0, 0)))).2).2).2) - ((((List.getD a4 pre.length ((⟨#[]⟩ : ByteArray), (0, (0, 0)))).2).2).1))) - x3)))), ((List.getD a4 pre.length ((⟨#[]⟩ : ByteArray), (0, (0, 0)))).2).2))) pre.length ((⟨#[]⟩ : ByteArray), (0, (0, 0)))).2).2).1) + (w ((w (((((List.getD a4 pre.length ((⟨#[]⟩ : ByteArray), (0, (0, 0)))).2).2).2) - ((((List.getD a4 pre.length ((⟨#[]⟩ : ByteArray), (0, (0, 0)))).2).2).1))) - x3)))), (((List.getD (List.set a4 pre.length ((List.getD a4 pre.length ((⟨#[]⟩ : ByteArray), (0, (0, 0)))).1, ((w ((((List.getD a4 pre.length ((⟨#[]⟩ : ByteArray), (0, (0, 0)))).2).1) + (w ((w (((((List.getD a4 pre.length ((⟨#[]⟩ : ByteArray), (0, (0, 0)))).2).2).2) - ((((List.getD a4 pre.length ((⟨#[]⟩ : ByteArray), (0, (0, 0)))).2).2).1))) - x3)))), ((List.getD a4 pre.length ((⟨#[]⟩ : ByteArray), (0, (0, 0)))).2).2))) pre.length ((⟨#[]⟩ : ByteArray), (0, (0, 0)))).2).2).2))))
                        else
                          none
                      else
                        none
                    else
                      none
                  else
                    none
                else
                  none
              else
                none
            else
              none
          else
            none
        else
          taxi_Late.l0 N x3 r1 k2 ((pre.length : Int) + 1) a4
      else
        none
    else
      none := by
  have hlen : r1.1.length = pre.length + 1 + r.length := by rw [hl]; simp; omega
  have e1 : decide ((pre.length : Int) < (r1.1.length : Int)) = true := by rw [decide_eq_true_iff]; omega
  have e2 : decide (0 ≤ (pre.length : Int)) = true := by rw [decide_eq_true_iff]; omega
  have e4 : w ((pre.length : Int) + 1) = (pre.length : Int) + 1 := w_next hl hb
  have e5 : List.take pre.length r1.1 = pre := by rw [hl]; simp
  have e6 : decide ((pre.length : Int) ≤ (r1.1.length : Int)) = true := by rw [decide_eq_true_iff]; omega
  rw [taxi_Late.l0_succ]
  simp -implicitDefEqProofs only [Int.toNat_natCast, e1, e2, e4, e6, e5, Bool.and_true, Bool.true_and, Bool.true_or, cond_true]
theorem taxi_Late.l0_nil (N : Nat) (x3 : Int) (r1 : List (ByteArray × Int × Int × Int) × Int) (k2 : Nat) (a4 : List (ByteArray × Int × Int × Int)) : taxi_Late.l0 N x3 r1 (k2 + 1) (r1.1.length : Int) a4 =
    some (a4, 0) := by
  have e1 : decide ((r1.1.length : Int) < (r1.1.length : Int)) = false := by rw [decide_eq_false_iff_not]; omega
  rw [taxi_Late.l0_succ]
  simp -implicitDefEqProofs only [e1, cond_false]
theorem taxi_Late.eq (N : Nat) (x0 : List (ByteArray × Int)) (x1 : List (ByteArray × ByteArray × Int)) (x2 : Int) (x3 : Int) : taxi_Late.fn N (x0, x1, x2, x3) =
    (taxi_Queue.fn N (x0, x1, x2)).bind fun r1 =>
    bif !(r1.2 == 0) then
      some ([], r1.2)
    else
    bif !(!(decide (x3 < 0))) || (!(decide (x3 < 0))) then
      bif (decide (x3 < 0)) || (!(decide (x3 < 0))) then
        bif (decide (x3 < 0)) || (decide (x3 > 1800)) then
          some ([], 4)
        else
          taxi_Late.l0 N x3 r1 N 0 r1.1
      else
        none
    else
      none := by kernel_rfl
theorem taxi_Late.clean (N : Nat) (x0 : List (ByteArray × Int)) (x1 : List (ByteArray × ByteArray × Int)) (x2 : Int) (x3 : Int) : taxi_Late.fn N (x0, x1, x2, x3) =
    (taxi_Queue.fn N (x0, x1, x2)).bind fun r1 =>
    bif !(r1.2 == 0) then
      some ([], r1.2)
    else
    bif (decide (x3 < 0)) || (decide (x3 > 1800)) then
      some ([], 4)
    else
      taxi_Late.l0 N x3 r1 N 0 r1.1 := by
  rw [taxi_Late.eq]; simp only [taut1, taut6, cond_true]

/-! ### taxi_Waiting: skyway/taxi.Waiting -/
def taxi_Waiting.kp : List (Nat × List (Nat × Option (TypeId × Ty))) := [(3, [(1, none), (5, none), (8, none), (9, none), (10, none)])]
noncomputable def taxi_Waiting.G (N : Nat) : List (Nat × Spec) := []
noncomputable def taxi_Waiting.E (N : Nat) : Env := mkEnv (taxi_Waiting.G N) N tyTab taxi_Waiting.kp
noncomputable def taxi_Waiting.fn (N : Nat) (x : List (ByteArray × Int × Int × Int) × Int) : Option Int := evFn (taxi_Waiting.E N) Try.prog 3 Try.f49 false [.cell (.sl 76 (.pair (.str) (.pair (.int .i64) (.pair (.int .i64) (.int .i64))))), .cell (.int .i64)] [.val (.cell (.int .i64))] x
noncomputable def taxi_Waiting.S (N : Nat) : PSpec := ⟨false, [.cell (.sl 76 (.pair (.str) (.pair (.int .i64) (.pair (.int .i64) (.int .i64))))), .cell (.int .i64)], [.val (.cell (.int .i64))], taxi_Waiting.fn N⟩
theorem f49_enters : Enters Try.prog 49 := ⟨Try.f49, Try.func49, by kernel_rfl, by kernel_rfl⟩
theorem taxi_Waiting.tab (N : Nat) : TabOk Try.prog (taxi_Waiting.G N) := trivial
theorem taxi_Waiting.enters : Enters Try.prog 49 := f49_enters
theorem taxi_Waiting.sound (N : Nat) : Sound Try.prog 49 (taxi_Waiting.S N) := evFn_sound (specs_tab (taxi_Waiting.tab N)) (inls_tab (taxi_Waiting.tab N)) mixed 3 Try.func49 _ _ _
noncomputable def taxi_Waiting.cd (N : Nat) (p : List Nat) : St → (Ex → St → Option Int) → Option Int := ev (taxi_Waiting.E N) Try.prog (callD (taxi_Waiting.E N) Try.prog 3) 0 (codeAt (bodyOf Try.f49) p)
noncomputable def taxi_Waiting.fin : Ex → St → Option Int := endK Try.prog Try.f49 [.val (.cell (.int .i64))]
noncomputable def taxi_Waiting.l0 (N : Nat) (x0 : List (ByteArray × Int × Int × Int)) (x1 : Int) (k1 : Nat) (a2 : Int) (a3 : Int) : Option Int :=
  loopN (norm ((taxi_Waiting.E N).keep 3) 0) (taxi_Waiting.cd N [1, 1, 0, 1, 0, 0]) k1
  ⟨[.any, .sc (.int .i64 x1), .any, .any, .any, .sc (.int .i64 a2), .any, .any, .ros false 76 (.pair (.str) (.pair (.int .i64) (.pair (.int .i64) (.int .i64)))) x0, .sc (.int .i64 (x0.length : Int)), .sc (.int .i64 a3), .any, .any, .any, .any, .any, .any, .any, .any, .any, .any, .any, .any, .any, .any, .any, .any, .any], []⟩
  (blockK 0 (seqK (taxi_Waiting.cd N [1, 1, 1]) taxi_Waiting.fin))
theorem taxi_Waiting.l0_zero (N : Nat) (x0 : List (ByteArray × Int × Int × Int)) (x1 : Int) (a2 : Int) (a3 : Int) : taxi_Waiting.l0 N x0 x1 0 a2 a3 = none := by kernel_rfl
theorem taxi_Waiting.l0_succ (N : Nat) (x0 : List (ByteArray × Int × Int × Int)) (x1 : Int) (k1 : Nat) (a2 : Int) (a3 : Int) : taxi_Waiting.l0 N x0 x1 (k1 + 1) a2 a3 =
    bif decide (a3 < (x0.length : Int)) then
      bif (decide (0 ≤ a3)) && (decide (a3 < (x0.length : Int))) then
        bif !(decide (((((List.getD x0 (Int.toNat a3) ((⟨#[]⟩ : ByteArray), (0, (0, 0)))).2).2).1) ≤ x1)) || (decide (((((List.getD x0 (Int.toNat a3) ((⟨#[]⟩ : ByteArray), (0, (0, 0)))).2).2).1) ≤ x1)) then
          bif !(decide (((((List.getD x0 (Int.toNat a3) ((⟨#[]⟩ : ByteArray), (0, (0, 0)))).2).2).1) ≤ x1)) || (decide (((((List.getD x0 (Int.toNat a3) ((⟨#[]⟩ : ByteArray), (0, (0, 0)))).2).2).1) ≤ x1)) then
            bif !(decide (((((List.getD x0 (Int.toNat a3) ((⟨#[]⟩ : ByteArray), (0, (0, 0)))).2).2).1) ≤ x1)) || (decide (((((List.getD x0 (Int.toNat a3) ((⟨#[]⟩ : ByteArray), (0, (0, 0)))).2).2).1) ≤ x1)) then
              bif (!(decide (((((List.getD x0 (Int.toNat a3) ((⟨#[]⟩ : ByteArray), (0, (0, 0)))).2).2).1) ≤ x1))) || (decide (((((List.getD x0 (Int.toNat a3) ((⟨#[]⟩ : ByteArray), (0, (0, 0)))).2).2).1) ≤ x1)) then
                bif (decide (((((List.getD x0 (Int.toNat a3) ((⟨#[]⟩ : ByteArray), (0, (0, 0)))).2).2).1) ≤ x1)) && (decide (x1 < ((((List.getD x0 (Int.toNat a3) ((⟨#[]⟩ : ByteArray), (0, (0, 0)))).2).2).2))) then
                  taxi_Waiting.l0 N x0 x1 k1 (w (a2 + 1)) (w (a3 + 1))
                else
                  taxi_Waiting.l0 N x0 x1 k1 a2 (w (a3 + 1))
              else
                none
            else
              none
          else
            none
        else
          none
      else
        none
    else
      some a2 := by kernel_rfl
theorem taut11 : ∀ p0 : Bool, ((!(p0) || (p0))) = true := by decide
theorem taut12 : ∀ p0 : Bool, (((!(p0)) || (p0))) = true := by decide
theorem taxi_Waiting.l0_clean (N : Nat) (x0 : List (ByteArray × Int × Int × Int)) (x1 : Int) (k1 : Nat) (a2 : Int) (a3 : Int) : taxi_Waiting.l0 N x0 x1 (k1 + 1) a2 a3 =
    bif decide (a3 < (x0.length : Int)) then
      bif (decide (0 ≤ a3)) && (decide (a3 < (x0.length : Int))) then
        bif (decide (((((List.getD x0 (Int.toNat a3) ((⟨#[]⟩ : ByteArray), (0, (0, 0)))).2).2).1) ≤ x1)) && (decide (x1 < ((((List.getD x0 (Int.toNat a3) ((⟨#[]⟩ : ByteArray), (0, (0, 0)))).2).2).2))) then
          taxi_Waiting.l0 N x0 x1 k1 (w (a2 + 1)) (w (a3 + 1))
        else
          taxi_Waiting.l0 N x0 x1 k1 a2 (w (a3 + 1))
      else
        none
    else
      some a2 := by
  rw [taxi_Waiting.l0_succ]; simp only [taut11, taut12, cond_true]
theorem taxi_Waiting.l0_cons (N : Nat) (x0 : List (ByteArray × Int × Int × Int)) (x1 : Int) (k1 : Nat) (a2 : Int) {pre r} {x} (hl : x0 = pre ++ x :: r) (hb : x0.length < 4611686018427387904) : taxi_Waiting.l0 N x0 x1 (k1 + 1) a2 (pre.length : Int) =
    bif (decide ((((x.2).2).1) ≤ x1)) && (decide (x1 < (((x.2).2).2))) then
      taxi_Waiting.l0 N x0 x1 k1 (w (a2 + 1)) ((pre.length : Int) + 1)
    else
      taxi_Waiting.l0 N x0 x1 k1 a2 ((pre.length : Int) + 1) := by
  have hlen : x0.length = pre.length + 1 + r.length := by rw [hl]; simp; omega
  have e1 : decide ((pre.length : Int) < (x0.length : Int)) = true := by rw [decide_eq_true_iff]; omega
  have e2 : decide (0 ≤ (pre.length : Int)) = true := by rw [decide_eq_true_iff]; omega
  have e4 : w ((pre.length : Int) + 1) = (pre.length : Int) + 1 := w_next hl hb
  have e5 : List.take pre.length x0 = pre := by rw [hl]; simp
  have e6 : decide ((pre.length : Int) ≤ (x0.length : Int)) = true := by rw [decide_eq_true_iff]; omega
  have g0 : List.getD x0 pre.length ((⟨#[]⟩ : ByteArray), (0, (0, 0))) = x := by rw [hl]; exact getD_mid pre x r _
  rw [taxi_Waiting.l0_clean]
  simp -implicitDefEqProofs only [Int.toNat_natCast, e1, e2, e4, e6, g0, e5, Bool.and_true, Bool.true_and, Bool.true_or, cond_true]
theorem taxi_Waiting.l0_nil (N : Nat) (x0 : List (ByteArray × Int × Int × Int)) (x1 : Int) (k1 : Nat) (a2 : Int) : taxi_Waiting.l0 N x0 x1 (k1 + 1) a2 (x0.length : Int) =
    some a2 := by
  have e1 : decide ((x0.length : Int) < (x0.length : Int)) = false := by rw [decide_eq_false_iff_not]; omega
  rw [taxi_Waiting.l0_clean]
  simp -implicitDefEqProofs only [e1, cond_false]
theorem taxi_Waiting.eq (N : Nat) (x0 : List (ByteArray × Int × Int × Int)) (x1 : Int) : taxi_Waiting.fn N (x0, x1) =
    taxi_Waiting.l0 N x0 x1 N 0 0 := by kernel_rfl

/-! ### taxi_Most: skyway/taxi.Most -/
def taxi_Most.kp : List (Nat × List (Nat × Option (TypeId × Ty))) := [(3, [(0, none), (4, none), (5, none), (9, none), (10, none), (11, none)])]
noncomputable def taxi_Most.G (N : Nat) : List (Nat × Spec) := [(49, .pure (taxi_Waiting.S N))]
noncomputable def taxi_Most.E (N : Nat) : Env := mkEnv (taxi_Most.G N) N tyTab taxi_Most.kp
noncomputable def taxi_Most.fn (N : Nat) (x : List (ByteArray × Int × Int × Int)) : Option (Int × Int) := evFn (taxi_Most.E N) Try.prog 3 Try.f48 false [.cell (.sl 76 (.pair (.str) (.pair (.int .i64) (.pair (.int .i64) (.int .i64)))))] [.val (.cell (.int .i64)), .val (.cell (.int .i64))] x
noncomputable def taxi_Most.S (N : Nat) : PSpec := ⟨false, [.cell (.sl 76 (.pair (.str) (.pair (.int .i64) (.pair (.int .i64) (.int .i64)))))], [.val (.cell (.int .i64)), .val (.cell (.int .i64))], taxi_Most.fn N⟩
theorem f48_enters : Enters Try.prog 48 := ⟨Try.f48, Try.func48, by kernel_rfl, by kernel_rfl⟩
theorem taxi_Most.tab (N : Nat) : TabOk Try.prog (taxi_Most.G N) := ⟨⟨taxi_Waiting.enters, taxi_Waiting.sound N⟩, trivial⟩
theorem taxi_Most.enters : Enters Try.prog 48 := f48_enters
theorem taxi_Most.sound (N : Nat) : Sound Try.prog 48 (taxi_Most.S N) := evFn_sound (specs_tab (taxi_Most.tab N)) (inls_tab (taxi_Most.tab N)) mixed 3 Try.func48 _ _ _
noncomputable def taxi_Most.cd (N : Nat) (p : List Nat) : St → (Ex → St → Option (Int × Int)) → Option (Int × Int) := ev (taxi_Most.E N) Try.prog (callD (taxi_Most.E N) Try.prog 3) 0 (codeAt (bodyOf Try.f48) p)
noncomputable def taxi_Most.fin : Ex → St → Option (Int × Int) := endK Try.prog Try.f48 [.val (.cell (.int .i64)), .val (.cell (.int .i64))]
noncomputable def taxi_Most.l0 (N : Nat) (x0 : List (ByteArray × Int × Int × Int)) (k1 : Nat) (a2 : Int) (a3 : Int) (a4 : Int) : Option (Int × Int) :=
  loopN (norm ((taxi_Most.E N).keep 3) 0) (taxi_Most.cd N [1, 1, 0, 1, 0, 0]) k1
  ⟨[.ros false 76 (.pair (.str) (.pair (.int .i64) (.pair (.int .i64) (.int .i64)))) x0, .any, .any, .any, .sc (.int .i64 a2), .sc (.int .i64 a3), .any, .any, .any, .ros false 76 (.pair (.str) (.pair (.int .i64) (.pair (.int .i64) (.int .i64)))) x0, .sc (.int .i64 (x0.length : Int)), .sc (.int .i64 a4), .any, .any, .any, .any, .any, .any, .any, .any, .any, .any, .any, .any, .any, .any, .any, .any, .any, .any, .any, .any, .any, .any, .any, .any, .any, .any, .any, .any, .any, .any, .any], []⟩
  (blockK 0 (seqK (taxi_Most.cd N [1, 1, 1]) taxi_Most.fin))
theorem taxi_Most.l0_zero (N : Nat) (x0 : List (ByteArray × Int × Int × Int)) (a2 : Int) (a3 : Int) (a4 : Int) : taxi_Most.l0 N x0 0 a2 a3 a4 = none := by kernel_rfl
theorem taxi_Most.l0_succ (N : Nat) (x0 : List (ByteArray × Int × Int × Int)) (k1 : Nat) (a2 : Int) (a3 : Int) (a4 : Int) : taxi_Most.l0 N x0 (k1 + 1) a2 a3 a4 =
    bif decide (a4 < (x0.length : Int)) then
      bif (decide (0 ≤ a4)) && (decide (a4 < (x0.length : Int))) then
        (taxi_Waiting.fn N (x0, (((List.getD x0 (Int.toNat a4) ((⟨#[]⟩ : ByteArray), (0, (0, 0)))).2).2).1)).bind fun r5 =>
        bif !(!(decide (r5 > a2))) || (!(decide (r5 > a2))) then
          bif !(!(decide (r5 > a2))) || (!(decide (r5 > a2))) then
            bif !(!(decide (r5 > a2))) || (!(decide (r5 > a2))) then
              bif !((!(decide (r5 > a2))) && (r5 == a2)) || ((!(decide (r5 > a2))) && (r5 == a2)) then
                bif !(!(decide (r5 > a2))) || (!(decide (r5 > a2))) then
                  bif !(!(decide (r5 > a2))) || ((!(r5 == a2)) || ((!(decide (r5 > a2))) && (r5 == a2))) then
                    bif !(!(decide (r5 > a2))) || (!(decide (r5 > a2))) then
                      bif !((!(decide (r5 > a2))) && ((r5 == a2) && (decide (r5 > 0)))) || ((!(decide (r5 > a2))) && ((r5 == a2) && (decide (r5 > 0)))) then
                        bif !((!(decide (r5 > a2))) && ((r5 == a2) && (decide (r5 > 0)))) || ((!(decide (r5 > a2))) && ((r5 == a2) && (decide (r5 > 0)))) then
                          bif !((!(decide (r5 > a2))) && ((r5 == a2) && (decide (r5 > 0)))) || ((!(decide (r5 > a2))) && ((r5 == a2) && (decide (r5 > 0)))) then
                            bif !(!(decide (r5 > a2))) || (!(decide (r5 > a2))) then
                              bif !(!(decide (r5 > a2))) || ((!((r5 == a2) && (decide (r5 > 0)))) || ((!(decide (r5 > a2))) && ((r5 == a2) && (decide (r5 > 0))))) then
                                bif (decide (r5 > a2)) || (!(decide (r5 > a2))) then
                                  bif (decide (r5 > a2)) || (((r5 == a2) && (decide (r5 > 0))) && (decide (((((List.getD x0 (Int.toNat a4) ((⟨#[]⟩ : ByteArray), (0, (0, 0)))).2).2).1) < a3))) then
                                    taxi_Most.l0 N x0 k1 r5 ((((List.getD x0 (Int.toNat a4) ((⟨#[]⟩ : ByteArray), (0, (0, 0)))).2).2).1) (w (a4 + 1))
                                  else
                                    taxi_Most.l0 N x0 k1 a2 a3 (w (a4 + 1))
                                else
                                  none
                              else
                                none
                            else
                              none
                          else
                            none
                        else
                          none
                      else
                        none
                    else
                      none
                  else
                    none
                else
                  none
              else
                none
            else
              none
          else
            none
        else
          none
      else
        none
    else
      some (a2, a3) := by kernel_rfl
theorem taut13 : ∀ p0 p1 p2 : Bool, ((!(!(p0)) || ((!((p1) && (p2))) || ((!(p0)) && ((p1) && (p2)))))) = true := by decide
theorem taut14 : ∀ p0 p1 : Bool, ((!(!(p0)) || ((!(p1)) || ((!(p0)) && (p1))))) = true := by decide
theorem taut15 : ∀ p0 p1 p2 : Bool, ((!((!(p0)) && ((p1) && (p2))) || ((!(p0)) && ((p1) && (p2))))) = true := by decide
theorem taut16 : ∀ p0 p1 : Bool, ((!((!(p0)) && (p1)) || ((!(p0)) && (p1)))) = true := by decide
theorem taxi_Most.l0_clean (N : Nat) (x0 : List (ByteArray × Int × Int × Int)) (k1 : Nat) (a2 : Int) (a3 : Int) (a4 : Int) : taxi_Most.l0 N x0 (k1 + 1) a2 a3 a4 =
    bif decide (a4 < (x0.length : Int)) then
      bif (decide (0 ≤ a4)) && (decide (a4 < (x0.length : Int))) then
        (taxi_Waiting.fn N (x0, (((List.getD x0 (Int.toNat a4) ((⟨#[]⟩ : ByteArray), (0, (0, 0)))).2).2).1)).bind fun r5 =>
        bif (decide (r5 > a2)) || (((r5 == a2) && (decide (r5 > 0))) && (decide (((((List.getD x0 (Int.toNat a4) ((⟨#[]⟩ : ByteArray), (0, (0, 0)))).2).2).1) < a3))) then
          taxi_Most.l0 N x0 k1 r5 ((((List.getD x0 (Int.toNat a4) ((⟨#[]⟩ : ByteArray), (0, (0, 0)))).2).2).1) (w (a4 + 1))
        else
          taxi_Most.l0 N x0 k1 a2 a3 (w (a4 + 1))
      else
        none
    else
      some (a2, a3) := by
  rw [taxi_Most.l0_succ]; simp only [taut1, taut13, taut14, taut15, taut16, taut6, cond_true]
theorem taxi_Most.l0_cons (N : Nat) (x0 : List (ByteArray × Int × Int × Int)) (k1 : Nat) (a2 : Int) (a3 : Int) {pre r} {x} (hl : x0 = pre ++ x :: r) (hb : x0.length < 4611686018427387904) : taxi_Most.l0 N x0 (k1 + 1) a2 a3 (pre.length : Int) =
    (taxi_Waiting.fn N (x0, ((x.2).2).1)).bind fun r5 =>
    bif (decide (r5 > a2)) || (((r5 == a2) && (decide (r5 > 0))) && (decide ((((x.2).2).1) < a3))) then
      taxi_Most.l0 N x0 k1 r5 (((x.2).2).1) ((pre.length : Int) + 1)
    else
      taxi_Most.l0 N x0 k1 a2 a3 ((pre.length : Int) + 1) := by
  have hlen : x0.length = pre.length + 1 + r.length := by rw [hl]; simp; omega
  have e1 : decide ((pre.length : Int) < (x0.length : Int)) = true := by rw [decide_eq_true_iff]; omega
  have e2 : decide (0 ≤ (pre.length : Int)) = true := by rw [decide_eq_true_iff]; omega
  have e4 : w ((pre.length : Int) + 1) = (pre.length : Int) + 1 := w_next hl hb
  have e5 : List.take pre.length x0 = pre := by rw [hl]; simp
  have e6 : decide ((pre.length : Int) ≤ (x0.length : Int)) = true := by rw [decide_eq_true_iff]; omega
  have g0 : List.getD x0 pre.length ((⟨#[]⟩ : ByteArray), (0, (0, 0))) = x := by rw [hl]; exact getD_mid pre x r _
  rw [taxi_Most.l0_clean]
  simp -implicitDefEqProofs only [Int.toNat_natCast, e1, e2, e4, e6, g0, e5, Bool.and_true, Bool.true_and, Bool.true_or, cond_true]
theorem taxi_Most.l0_nil (N : Nat) (x0 : List (ByteArray × Int × Int × Int)) (k1 : Nat) (a2 : Int) (a3 : Int) : taxi_Most.l0 N x0 (k1 + 1) a2 a3 (x0.length : Int) =
    some (a2, a3) := by
  have e1 : decide ((x0.length : Int) < (x0.length : Int)) = false := by rw [decide_eq_false_iff_not]; omega
  rw [taxi_Most.l0_clean]
  simp -implicitDefEqProofs only [e1, cond_false]
theorem taxi_Most.eq (N : Nat) (x0 : List (ByteArray × Int × Int × Int)) : taxi_Most.fn N x0 =
    taxi_Most.l0 N x0 N 0 0 0 := by kernel_rfl

/-! ### slices_Equal_TaxiMove: slices.Equal[[]skyway/api.TaxiMove,skyway/api.TaxiMove] -/
def slices_Equal_TaxiMove.kp : List (Nat × List (Nat × Option (TypeId × Ty))) := [(4, [(0, none), (1, none), (12, none), (13, none)])]
noncomputable def slices_Equal_TaxiMove.G (N : Nat) : List (Nat × Spec) := []
noncomputable def slices_Equal_TaxiMove.E (N : Nat) : Env := mkEnv (slices_Equal_TaxiMove.G N) N tyTab slices_Equal_TaxiMove.kp
noncomputable def slices_Equal_TaxiMove.fn (N : Nat) (x : List (ByteArray × Int × Int × Int) × List (ByteArray × Int × Int × Int)) : Option Bool := evFn (slices_Equal_TaxiMove.E N) Try.prog 3 Try.f46 false [.cell (.sl 76 (.pair (.str) (.pair (.int .i64) (.pair (.int .i64) (.int .i64))))), .cell (.sl 76 (.pair (.str) (.pair (.int .i64) (.pair (.int .i64) (.int .i64)))))] [.val (.cell (.bool))] x
noncomputable def slices_Equal_TaxiMove.S (N : Nat) : PSpec := ⟨false, [.cell (.sl 76 (.pair (.str) (.pair (.int .i64) (.pair (.int .i64) (.int .i64))))), .cell (.sl 76 (.pair (.str) (.pair (.int .i64) (.pair (.int .i64) (.int .i64)))))], [.val (.cell (.bool))], slices_Equal_TaxiMove.fn N⟩
theorem f46_enters : Enters Try.prog 46 := ⟨Try.f46, Try.func46, by kernel_rfl, by kernel_rfl⟩
theorem slices_Equal_TaxiMove.tab (N : Nat) : TabOk Try.prog (slices_Equal_TaxiMove.G N) := trivial
theorem slices_Equal_TaxiMove.enters : Enters Try.prog 46 := f46_enters
theorem slices_Equal_TaxiMove.sound (N : Nat) : Sound Try.prog 46 (slices_Equal_TaxiMove.S N) := evFn_sound (specs_tab (slices_Equal_TaxiMove.tab N)) (inls_tab (slices_Equal_TaxiMove.tab N)) mixed 3 Try.func46 _ _ _
noncomputable def slices_Equal_TaxiMove.cd (N : Nat) (p : List Nat) : St → (Ex → St → Option Bool) → Option Bool := ev (slices_Equal_TaxiMove.E N) Try.prog (callD (slices_Equal_TaxiMove.E N) Try.prog 3) 0 (codeAt (bodyOf Try.f46) p)
noncomputable def slices_Equal_TaxiMove.fin : Ex → St → Option Bool := endK Try.prog Try.f46 [.val (.cell (.bool))]
noncomputable def slices_Equal_TaxiMove.l0 (N : Nat) (x0 : List (ByteArray × Int × Int × Int)) (x1 : List (ByteArray × Int × Int × Int)) (k1 : Nat) (a2 : Int) : Option Bool :=
  loopN (norm ((slices_Equal_TaxiMove.E N).keep 4) 0) (slices_Equal_TaxiMove.cd N [1, 1, 0, 1, 0, 0]) k1
  ⟨[.ros false 76 (.pair (.str) (.pair (.int .i64) (.pair (.int .i64) (.int .i64)))) x0, .ros false 76 (.pair (.str) (.pair (.int .i64) (.pair (.int .i64) (.int .i64)))) x1, .any, .any, .any, .any, .any, .any, .any, .any, .any, .any, .sc (.int .i64 (x0.length : Int)), .sc (.int .i64 a2), .any, .any, .any, .any, .any, .any, .any, .any, .any, .any, .any, .any], []⟩
  (blockK 0 (seqK (slices_Equal_TaxiMove.cd N [1, 1, 1]) slices_Equal_TaxiMove.fin))
theorem slices_Equal_TaxiMove.l0_zero (N : Nat) (x0 : List (ByteArray × Int × Int × Int)) (x1 : List (ByteArray × Int × Int × Int)) (a2 : Int) : slices_Equal_TaxiMove.l0 N x0 x1 0 a2 = none := by kernel_rfl
theorem slices_Equal_TaxiMove.l0_succ (N : Nat) (x0 : List (ByteArray × Int × Int × Int)) (x1 : List (ByteArray × Int × Int × Int)) (k1 : Nat) (a2 : Int) : slices_Equal_TaxiMove.l0 N x0 x1 (k1 + 1) a2 =
    bif decide (a2 < (x0.length : Int)) then
      bif (decide (0 ≤ a2)) && (decide (a2 < (x0.length : Int))) then
        bif (decide (0 ≤ a2)) && (decide (a2 < (x1.length : Int))) then
          bif !((seq ((List.getD x0 (Int.toNat a2) ((⟨#[]⟩ : ByteArray), (0, (0, 0)))).1) ((List.getD x1 (Int.toNat a2) ((⟨#[]⟩ : ByteArray), (0, (0, 0)))).1)) && (((((List.getD x0 (Int.toNat a2) ((⟨#[]⟩ : ByteArray), (0, (0, 0)))).2).1) == (((List.getD x1 (Int.toNat a2) ((⟨#[]⟩ : ByteArray), (0, (0, 0)))).2).1)) && ((((((List.getD x0 (Int.toNat a2) ((⟨#[]⟩ : ByteArray), (0, (0, 0)))).2).2).1) == ((((List.getD x1 (Int.toNat a2) ((⟨#[]⟩ : ByteArray), (0, (0, 0)))).2).2).1)) && ((((((List.getD x0 (Int.toNat a2) ((⟨#[]⟩ : ByteArray), (0, (0, 0)))).2).2).2) == ((((List.getD x1 (Int.toNat a2) ((⟨#[]⟩ : ByteArray), (0, (0, 0)))).2).2).2)) && true)))) then
            some false
          else
            slices_Equal_TaxiMove.l0 N x0 x1 k1 (w (a2 + 1))
        else
          none
      else
        none
    else
      some true := by kernel_rfl
theorem slices_Equal_TaxiMove.l0_cons (N : Nat) (x0 : List (ByteArray × Int × Int × Int)) (x1 : List (ByteArray × Int × Int × Int)) (k1 : Nat) {pre r} {x} (hl : x0 = pre ++ x :: r) (hb : x0.length < 4611686018427387904) : slices_Equal_TaxiMove.l0 N x0 x1 (k1 + 1) (pre.length : Int) =
    bif decide ((pre.length : Int) < (x1.length : Int)) then
      bif !((seq (x.1) ((List.getD x1 pre.length ((⟨#[]⟩ : ByteArray), (0, (0, 0)))).1)) && ((((x.2).1) == (((List.getD x1 pre.length ((⟨#[]⟩ : ByteArray), (0, (0, 0)))).2).1)) && (((((x.2).2).1) == ((((List.getD x1 pre.length ((⟨#[]⟩ : ByteArray), (0, (0, 0)))).2).2).1)) && (((((x.2).2).2) == ((((List.getD x1 pre.length ((⟨#[]⟩ : ByteArray), (0, (0, 0)))).2).2).2)) && true)))) then
        some false
      else
        slices_Equal_TaxiMove.l0 N x0 x1 k1 ((pre.length : Int) + 1)
    else
      none := by
  have hlen : x0.length = pre.length + 1 + r.length := by rw [hl]; simp; omega
  have e1 : decide ((pre.length : Int) < (x0.length : Int)) = true := by rw [decide_eq_true_iff]; omega
  have e2 : decide (0 ≤ (pre.length : Int)) = true := by rw [decide_eq_true_iff]; omega
  have e4 : w ((pre.length : Int) + 1) = (pre.length : Int) + 1 := w_next hl hb
  have e5 : List.take pre.length x0 = pre := by rw [hl]; simp
  have e6 : decide ((pre.length : Int) ≤ (x0.length : Int)) = true := by rw [decide_eq_true_iff]; omega
  have g0 : List.getD x0 pre.length ((⟨#[]⟩ : ByteArray), (0, (0, 0))) = x := by rw [hl]; exact getD_mid pre x r _
  rw [slices_Equal_TaxiMove.l0_succ]
  simp -implicitDefEqProofs only [Int.toNat_natCast, e1, e2, e4, e6, g0, e5, Bool.and_true, Bool.true_and, Bool.true_or, cond_true]
theorem slices_Equal_TaxiMove.l0_nil (N : Nat) (x0 : List (ByteArray × Int × Int × Int)) (x1 : List (ByteArray × Int × Int × Int)) (k1 : Nat) : slices_Equal_TaxiMove.l0 N x0 x1 (k1 + 1) (x0.length : Int) =
    some true := by
  have e1 : decide ((x0.length : Int) < (x0.length : Int)) = false := by rw [decide_eq_false_iff_not]; omega
  rw [slices_Equal_TaxiMove.l0_succ]
  simp -implicitDefEqProofs only [e1, cond_false]
theorem slices_Equal_TaxiMove.eq (N : Nat) (x0 : List (ByteArray × Int × Int × Int)) (x1 : List (ByteArray × Int × Int × Int)) : slices_Equal_TaxiMove.fn N (x0, x1) =
    bif !((x0.length : Int) == (x1.length : Int)) then
      some false
    else
      slices_Equal_TaxiMove.l0 N x0 x1 N 0 := by kernel_rfl
theorem slices_Equal_TaxiMove.v {N : Nat} (hN : 4611686018427387904 ≤ N) (x0 x1 : List (ByteArray × Int × Int × Int)) (h : x0.length < 4611686018427387904) : slices_Equal_TaxiMove.fn N (x0, x1) = some (eqL (fun p q => ((seq (p.1) (q.1)) && ((((p.2).1) == ((q.2).1)) && (((((p.2).2).1) == (((q.2).2).1)) && (((((p.2).2).2) == (((q.2).2).2)) && true))))) x0 x1) := equal_list hN (fun p q => ((seq (p.1) (q.1)) && ((((p.2).1) == ((q.2).1)) && (((((p.2).2).1) == (((q.2).2).1)) && (((((p.2).2).2) == (((q.2).2).2)) && true))))) ((⟨#[]⟩ : ByteArray), (0, (0, 0))) h (fun k i => slices_Equal_TaxiMove.l0 N x0 x1 k i) (slices_Equal_TaxiMove.eq N x0 x1) (fun k i => slices_Equal_TaxiMove.l0_succ N x0 x1 k i)
theorem slices_Equal_TaxiMove.self {N : Nat} (hN : 4611686018427387904 ≤ N) (x0 : List (ByteArray × Int × Int × Int)) (h : x0.length < 4611686018427387904) : slices_Equal_TaxiMove.fn N (x0, x0) = some true := by rw [slices_Equal_TaxiMove.v hN x0 x0 h]; exact congrArg some (eqL_refl (fun p => by simp [seq_self]) x0)

/-! ### law_taxiFact: skyway/skywaylaw3.taxiFact -/
def law_taxiFact.kp : List (Nat × List (Nat × Option (TypeId × Ty))) := [(999999, [(0, none)])]
noncomputable def law_taxiFact.G (N : Nat) : List (Nat × Spec) := [(39, .pure (taxi_Queue.S N)), (40, .pure (taxi_Late.S N)), (42, .pure (taxi_Stands.S N)), (44, .pure (taxi_Check.S N)), (46, .pure (slices_Equal_TaxiMove.S N)), (48, .pure (taxi_Most.S N)), (49, .pure (taxi_Waiting.S N))]
noncomputable def law_taxiFact.E (N : Nat) : Env := mkEnv (law_taxiFact.G N) N tyTab law_taxiFact.kp true
noncomputable def law_taxiFact.fn (N : Nat) (x : Unit) : Option Bool := evFn (law_taxiFact.E N) Try.prog 3 Try.f38 false [] [.val (.cell (.bool))] x
noncomputable def law_taxiFact.S (N : Nat) : PSpec := ⟨false, [], [.val (.cell (.bool))], law_taxiFact.fn N⟩
theorem f38_enters : Enters Try.prog 38 := ⟨Try.f38, Try.func38, by kernel_rfl, by kernel_rfl⟩
theorem law_taxiFact.tab (N : Nat) : TabOk Try.prog (law_taxiFact.G N) := ⟨⟨taxi_Queue.enters, taxi_Queue.sound N⟩, ⟨taxi_Late.enters, taxi_Late.sound N⟩, ⟨taxi_Stands.enters, taxi_Stands.sound N⟩, ⟨taxi_Check.enters, taxi_Check.sound N⟩, ⟨slices_Equal_TaxiMove.enters, slices_Equal_TaxiMove.sound N⟩, ⟨taxi_Most.enters, taxi_Most.sound N⟩, ⟨taxi_Waiting.enters, taxi_Waiting.sound N⟩, trivial⟩
theorem law_taxiFact.enters : Enters Try.prog 38 := f38_enters
theorem law_taxiFact.sound (N : Nat) : Sound Try.prog 38 (law_taxiFact.S N) := evFn_sound (specs_tab (law_taxiFact.tab N)) (inls_tab (law_taxiFact.tab N)) mixed 3 Try.func38 _ _ _
theorem law_taxiFact.eq (N : Nat) : law_taxiFact.fn N () =
    (taxi_Queue.fn N ([((⟨#[83]⟩ : ByteArray), 50)], [((⟨#[66]⟩ : ByteArray), ((⟨#[83]⟩ : ByteArray), 50)), ((⟨#[65]⟩ : ByteArray), ((⟨#[83]⟩ : ByteArray), 50))], 60)).bind fun r1 =>
    (taxi_Late.fn N ([((⟨#[83]⟩ : ByteArray), 50)], [((⟨#[66]⟩ : ByteArray), ((⟨#[83]⟩ : ByteArray), 50)), ((⟨#[65]⟩ : ByteArray), ((⟨#[83]⟩ : ByteArray), 50))], 60, 20)).bind fun r2 =>
    (taxi_Most.fn N r1.1).bind fun r3 =>
    bif r1.2 == 0 then
      bif r2.2 == 0 then
        (slices_Equal_TaxiMove.fn N (r1.1, [((⟨#[65]⟩ : ByteArray), (50, (100, 100))), ((⟨#[66]⟩ : ByteArray), (50, (100, 160)))])).bind fun r4 =>
        bif r4 then
          bif (r2.1.length : Int) == 2 then
            bif decide (1 < (r2.1.length : Int)) then
              bif decide (1 < r2.1.length) then
                bif (seq ((List.getD r2.1 1 ((⟨#[]⟩ : ByteArray), (0, (0, 0)))).1) (⟨#[66]⟩ : ByteArray)) && (((((List.getD r2.1 1 ((⟨#[]⟩ : ByteArray), (0, (0, 0)))).2).1) == 90) && ((((((List.getD r2.1 1 ((⟨#[]⟩ : ByteArray), (0, (0, 0)))).2).2).1) == 140) && ((((((List.getD r2.1 1 ((⟨#[]⟩ : ByteArray), (0, (0, 0)))).2).2).2) == 160) && true))) then
                  bif r3.1 == 1 then
                    bif r3.2 == 100 then
                      (taxi_Waiting.fn N (r1.1, 120)).bind fun r5 =>
                      bif r5 == 1 then
                        (taxi_Stands.fn N [((⟨#[83]⟩ : ByteArray), 50), ((⟨#[83]⟩ : ByteArray), 50)]).bind fun r6 =>
                        bif r6 == 7 then
                          (taxi_Check.fn N ([((⟨#[83]⟩ : ByteArray), 50)], [((⟨#[66]⟩ : ByteArray), ((⟨#[83]⟩ : ByteArray), 50)), ((⟨#[65]⟩ : ByteArray), ((⟨#[83]⟩ : ByteArray), 50)), ((⟨#[66]⟩ : ByteArray), ((⟨#[83]⟩ : ByteArray), 50)), ((⟨#[65]⟩ : ByteArray), ((⟨#[83]⟩ : ByteArray), 50))])).bind fun r7 =>
                          some (r7 == 7)
                        else
                          some false
                      else
                        some false
                    else
                      some false
                  else
                    some false
                else
                  some false
              else
                none
            else
              none
          else
            some false
        else
          some false
      else
        some false
    else
      some false := by kernel_rfl

/-! ### ref_IsName: skyway/skywayref3.IsName -/
def ref_IsName.kp : List (Nat × List (Nat × Option (TypeId × Ty))) := [(4, [(0, none), (3, none)])]
noncomputable def ref_IsName.G (N : Nat) : List (Nat × Spec) := []
noncomputable def ref_IsName.E (N : Nat) : Env := mkEnv (ref_IsName.G N) N tyTab ref_IsName.kp
noncomputable def ref_IsName.fn (N : Nat) (x : ByteArray) : Option Bool := evFn (ref_IsName.E N) Try.prog 3 Try.f55 false [.cell (.str)] [.val (.cell (.bool))] x
noncomputable def ref_IsName.S (N : Nat) : PSpec := ⟨false, [.cell (.str)], [.val (.cell (.bool))], ref_IsName.fn N⟩
theorem f55_enters : Enters Try.prog 55 := ⟨Try.f55, Try.func55, by kernel_rfl, by kernel_rfl⟩
theorem ref_IsName.tab (N : Nat) : TabOk Try.prog (ref_IsName.G N) := trivial
theorem ref_IsName.enters : Enters Try.prog 55 := f55_enters
theorem ref_IsName.sound (N : Nat) : Sound Try.prog 55 (ref_IsName.S N) := evFn_sound (specs_tab (ref_IsName.tab N)) (inls_tab (ref_IsName.tab N)) mixed 3 Try.func55 _ _ _
noncomputable def ref_IsName.cd (N : Nat) (p : List Nat) : St → (Ex → St → Option Bool) → Option Bool := ev (ref_IsName.E N) Try.prog (callD (ref_IsName.E N) Try.prog 3) 0 (codeAt (bodyOf Try.f55) p)
noncomputable def ref_IsName.fin : Ex → St → Option Bool := endK Try.prog Try.f55 [.val (.cell (.bool))]
noncomputable def ref_IsName.l0 (N : Nat) (x0 : ByteArray) (k1 : Nat) (a2 : Int) : Option Bool :=
  loopN (norm ((ref_IsName.E N).keep 4) 0) (ref_IsName.cd N [1, 1, 0, 1, 0, 0]) k1
  ⟨[.sc (.string x0), .any, .any, .sc (.int .i64 a2), .any, .any, .any, .any, .any, .any, .any, .any, .any, .any, .any, .any, .any, .any, .any, .any, .any, .any, .any, .any, .any, .any, .any, .any, .any, .any, .any, .any, .any, .any, .any, .any, .any, .any, .any, .any, .any, .any, .any, .any, .any], []⟩
  (blockK 0 (seqK (ref_IsName.cd N [1, 1, 1]) ref_IsName.fin))
theorem ref_IsName.l0_zero (N : Nat) (x0 : ByteArray) (a2 : Int) : ref_IsName.l0 N x0 0 a2 = none := by kernel_rfl
theorem ref_IsName.l0_succ (N : Nat) (x0 : ByteArray) (k1 : Nat) (a2 : Int) : ref_IsName.l0 N x0 (k1 + 1) a2 =
    bif decide (a2 < (x0.size : Int)) then
      bif (decide (0 ≤ a2)) && (decide (a2 < (x0.size : Int))) then
        bif !(!(decide (((((ByteArray.data x0).getD (Int.toNat a2) 0).toNat : Nat) : Int) < 65))) || (!(decide (((((ByteArray.data x0).getD (Int.toNat a2) 0).toNat : Nat) : Int) < 65))) then
          bif (decide (((((ByteArray.data x0).getD (Int.toNat a2) 0).toNat : Nat) : Int) < 65)) || (!(decide (((((ByteArray.data x0).getD (Int.toNat a2) 0).toNat : Nat) : Int) < 65))) then
            bif !((decide (((((ByteArray.data x0).getD (Int.toNat a2) 0).toNat : Nat) : Int) < 65)) || (decide (((((ByteArray.data x0).getD (Int.toNat a2) 0).toNat : Nat) : Int) > 90))) || ((decide (((((ByteArray.data x0).getD (Int.toNat a2) 0).toNat : Nat) : Int) < 65)) || (decide (((((ByteArray.data x0).getD (Int.toNat a2) 0).toNat : Nat) : Int) > 90))) then
              bif !((decide (((((ByteArray.data x0).getD (Int.toNat a2) 0).toNat : Nat) : Int) < 65)) || (decide (((((ByteArray.data x0).getD (Int.toNat a2) 0).toNat : Nat) : Int) > 90))) || ((decide (((((ByteArray.data x0).getD (Int.toNat a2) 0).toNat : Nat) : Int) < 65)) || (decide (((((ByteArray.data x0).getD (Int.toNat a2) 0).toNat : Nat) : Int) > 90))) then
                bif !(((decide (((((ByteArray.data x0).getD (Int.toNat a2) 0).toNat : Nat) : Int) < 65)) || (decide (((((ByteArray.data x0).getD (Int.toNat a2) 0).toNat : Nat) : Int) > 90))) && (!(decide (((((ByteArray.data x0).getD (Int.toNat a2) 0).toNat : Nat) : Int) < 48)))) || (((decide (((((ByteArray.data x0).getD (Int.toNat a2) 0).toNat : Nat) : Int) < 65)) || (decide (((((ByteArray.data x0).getD (Int.toNat a2) 0).toNat : Nat) : Int) > 90))) && (!(decide (((((ByteArray.data x0).getD (Int.toNat a2) 0).toNat : Nat) : Int) < 48)))) then
                  bif !((decide (((((ByteArray.data x0).getD (Int.toNat a2) 0).toNat : Nat) : Int) < 65)) || (decide (((((ByteArray.data x0).getD (Int.toNat a2) 0).toNat : Nat) : Int) > 90))) || ((decide (((((ByteArray.data x0).getD (Int.toNat a2) 0).toNat : Nat) : Int) < 65)) || (decide (((((ByteArray.data x0).getD (Int.toNat a2) 0).toNat : Nat) : Int) > 90))) then
                    bif !((decide (((((ByteArray.data x0).getD (Int.toNat a2) 0).toNat : Nat) : Int) < 65)) || (decide (((((ByteArray.data x0).getD (Int.toNat a2) 0).toNat : Nat) : Int) > 90))) || ((decide (((((ByteArray.data x0).getD (Int.toNat a2) 0).toNat : Nat) : Int) < 48)) || (((decide (((((ByteArray.data x0).getD (Int.toNat a2) 0).toNat : Nat) : Int) < 65)) || (decide (((((ByteArray.data x0).getD (Int.toNat a2) 0).toNat : Nat) : Int) > 90))) && (!(decide (((((ByteArray.data x0).getD (Int.toNat a2) 0).toNat : Nat) : Int) < 48))))) then
                      bif (!((decide (((((ByteArray.data x0).getD (Int.toNat a2) 0).toNat : Nat) : Int) < 65)) || (decide (((((ByteArray.data x0).getD (Int.toNat a2) 0).toNat : Nat) : Int) > 90)))) || ((decide (((((ByteArray.data x0).getD (Int.toNat a2) 0).toNat : Nat) : Int) < 65)) || (decide (((((ByteArray.data x0).getD (Int.toNat a2) 0).toNat : Nat) : Int) > 90))) then
                        bif ((decide (((((ByteArray.data x0).getD (Int.toNat a2) 0).toNat : Nat) : Int) < 65)) || (decide (((((ByteArray.data x0).getD (Int.toNat a2) 0).toNat : Nat) : Int) > 90))) && ((decide (((((ByteArray.data x0).getD (Int.toNat a2) 0).toNat : Nat) : Int) < 48)) || (decide (((((ByteArray.data x0).getD (Int.toNat a2) 0).toNat : Nat) : Int) > 57))) then
                          some false
                        else
                          ref_IsName.l0 N x0 k1 (w (a2 + 1))
                      else
                        none
                    else
                      none
                  else
                    none
                else
                  none
              else
                none
            else
              none
          else
            none
        else
          none
      else
        none
    else
      some true := by kernel_rfl
theorem ref_IsName.l0_clean (N : Nat) (x0 : ByteArray) (k1 : Nat) (a2 : Int) : ref_IsName.l0 N x0 (k1 + 1) a2 =
    bif decide (a2 < (x0.size : Int)) then
      bif (decide (0 ≤ a2)) && (decide (a2 < (x0.size : Int))) then
        bif ((decide (((((ByteArray.data x0).getD (Int.toNat a2) 0).toNat : Nat) : Int) < 65)) || (decide (((((ByteArray.data x0).getD (Int.toNat a2) 0).toNat : Nat) : Int) > 90))) && ((decide (((((ByteArray.data x0).getD (Int.toNat a2) 0).toNat : Nat) : Int) < 48)) || (decide (((((ByteArray.data x0).getD (Int.toNat a2) 0).toNat : Nat) : Int) > 57))) then
          some false
        else
          ref_IsName.l0 N x0 k1 (w (a2 + 1))
      else
        none
    else
      some true := by
  rw [ref_IsName.l0_succ]; simp only [taut1, taut2, taut3, taut4, taut5, taut6, cond_true]
theorem ref_IsName.l0_cons (N : Nat) (x0 : ByteArray) (k1 : Nat) {pre r} {x} (hl : x0.data.toList = pre ++ x :: r) (hb : x0.size < 4611686018427387904) : ref_IsName.l0 N x0 (k1 + 1) (pre.length : Int) =
    bif ((decide (((x.toNat : Nat) : Int) < 65)) || (decide (((x.toNat : Nat) : Int) > 90))) && ((decide (((x.toNat : Nat) : Int) < 48)) || (decide (((x.toNat : Nat) : Int) > 57))) then
      some false
    else
      ref_IsName.l0 N x0 k1 ((pre.length : Int) + 1) := by
  have hlen : x0.size = pre.length + 1 + r.length := by rw [ByteArray.size, ← Array.length_toList, hl]; simp; omega
  have e1 : decide ((pre.length : Int) < (x0.size : Int)) = true := by rw [decide_eq_true_iff]; omega
  have e2 : decide (0 ≤ (pre.length : Int)) = true := by rw [decide_eq_true_iff]; omega
  have e4 : w ((pre.length : Int) + 1) = (pre.length : Int) + 1 := w_next hl (by rw [Array.length_toList]; exact hb)
  have e6 : decide ((pre.length : Int) ≤ (x0.size : Int)) = true := by rw [decide_eq_true_iff]; omega
  have g0 : (ByteArray.data x0).getD pre.length 0 = x := getD_bytes hl
  rw [ref_IsName.l0_clean]
  simp -implicitDefEqProofs only [Int.toNat_natCast, e1, e2, e4, e6, g0, Bool.and_true, Bool.true_and, Bool.true_or, cond_true]
theorem ref_IsName.l0_nil (N : Nat) (x0 : ByteArray) (k1 : Nat) : ref_IsName.l0 N x0 (k1 + 1) (x0.size : Int) =
    some true := by
  have e1 : decide ((x0.size : Int) < (x0.size : Int)) = false := by rw [decide_eq_false_iff_not]; omega
  rw [ref_IsName.l0_clean]
  simp -implicitDefEqProofs only [e1, cond_false]
theorem ref_IsName.eq (N : Nat) (x0 : ByteArray) : ref_IsName.fn N x0 =
    bif !(!(seq x0 (⟨#[]⟩ : ByteArray))) || (!(seq x0 (⟨#[]⟩ : ByteArray))) then
      bif !(!(seq x0 (⟨#[]⟩ : ByteArray))) || (!(seq x0 (⟨#[]⟩ : ByteArray))) then
        bif (seq x0 (⟨#[]⟩ : ByteArray)) || (!(seq x0 (⟨#[]⟩ : ByteArray))) then
          bif !(!((seq x0 (⟨#[]⟩ : ByteArray)) || (decide ((x0.size : Int) > 8)))) || (!((seq x0 (⟨#[]⟩ : ByteArray)) || (decide ((x0.size : Int) > 8)))) then
            bif (decide (0 < (x0.size : Int))) || !(!((seq x0 (⟨#[]⟩ : ByteArray)) || (decide ((x0.size : Int) > 8)))) then
              bif !(!((seq x0 (⟨#[]⟩ : ByteArray)) || (decide ((x0.size : Int) > 8)))) || (!((seq x0 (⟨#[]⟩ : ByteArray)) || (decide ((x0.size : Int) > 8)))) then
                bif !(!((seq x0 (⟨#[]⟩ : ByteArray)) || (decide ((x0.size : Int) > 8)))) || (!((seq x0 (⟨#[]⟩ : ByteArray)) || (decide ((x0.size : Int) > 8)))) then
                  bif !((!((seq x0 (⟨#[]⟩ : ByteArray)) || (decide ((x0.size : Int) > 8)))) && (decide (((((ByteArray.data x0).getD 0 0).toNat : Nat) : Int) ≥ 48))) || ((!((seq x0 (⟨#[]⟩ : ByteArray)) || (decide ((x0.size : Int) > 8)))) && (decide (((((ByteArray.data x0).getD 0 0).toNat : Nat) : Int) ≥ 48))) then
                    bif (decide (0 < (x0.size : Int))) || !((!((seq x0 (⟨#[]⟩ : ByteArray)) || (decide ((x0.size : Int) > 8)))) && (decide (((((ByteArray.data x0).getD 0 0).toNat : Nat) : Int) ≥ 48))) then
                      bif !((!((seq x0 (⟨#[]⟩ : ByteArray)) || (decide ((x0.size : Int) > 8)))) && (decide (((((ByteArray.data x0).getD 0 0).toNat : Nat) : Int) ≥ 48))) || ((!((seq x0 (⟨#[]⟩ : ByteArray)) || (decide ((x0.size : Int) > 8)))) && (decide (((((ByteArray.data x0).getD 0 0).toNat : Nat) : Int) ≥ 48))) then
                        bif !(!((seq x0 (⟨#[]⟩ : ByteArray)) || (decide ((x0.size : Int) > 8)))) || (!((seq x0 (⟨#[]⟩ : ByteArray)) || (decide ((x0.size : Int) > 8)))) then
                          bif !(!((seq x0 (⟨#[]⟩ : ByteArray)) || (decide ((x0.size : Int) > 8)))) || ((!(decide (((((ByteArray.data x0).getD 0 0).toNat : Nat) : Int) ≥ 48))) || ((!((seq x0 (⟨#[]⟩ : ByteArray)) || (decide ((x0.size : Int) > 8)))) && (decide (((((ByteArray.data x0).getD 0 0).toNat : Nat) : Int) ≥ 48)))) then
                            bif ((seq x0 (⟨#[]⟩ : ByteArray)) || (decide ((x0.size : Int) > 8))) || (!((seq x0 (⟨#[]⟩ : ByteArray)) || (decide ((x0.size : Int) > 8)))) then
                              bif ((seq x0 (⟨#[]⟩ : ByteArray)) || (decide ((x0.size : Int) > 8))) || ((decide (((((ByteArray.data x0).getD 0 0).toNat : Nat) : Int) ≥ 48)) && (decide (((((ByteArray.data x0).getD 0 0).toNat : Nat) : Int) ≤ 57))) then
                                some false
                              else
                                ref_IsName.l0 N x0 N 0
                            else
                              none
                          else
                            none
                        else
                          none
                      else
                        none
                    else
                      none
                  else
                    none
                else
                  none
              else
                none
            else
              none
          else
            none
        else
          none
      else
        none
    else
      none := by kernel_rfl
theorem taut17 : ∀ p0 p1 p2 : Bool, ((!(!((p0) || (p1))) || ((!(p2)) || ((!((p0) || (p1))) && (p2))))) = true := by decide
theorem taut18 : ∀ p0 p1 p2 : Bool, ((!((!((p0) || (p1))) && (p2)) || ((!((p0) || (p1))) && (p2)))) = true := by decide
theorem ref_IsName.clean (N : Nat) (x0 : ByteArray) : ref_IsName.fn N x0 =
    bif (decide (0 < (x0.size : Int))) || !(!((seq x0 (⟨#[]⟩ : ByteArray)) || (decide ((x0.size : Int) > 8)))) then
      bif (decide (0 < (x0.size : Int))) || !((!((seq x0 (⟨#[]⟩ : ByteArray)) || (decide ((x0.size : Int) > 8)))) && (decide (((((ByteArray.data x0).getD 0 0).toNat : Nat) : Int) ≥ 48))) then
        bif ((seq x0 (⟨#[]⟩ : ByteArray)) || (decide ((x0.size : Int) > 8))) || ((decide (((((ByteArray.data x0).getD 0 0).toNat : Nat) : Int) ≥ 48)) && (decide (((((ByteArray.data x0).getD 0 0).toNat : Nat) : Int) ≤ 57))) then
          some false
        else
          ref_IsName.l0 N x0 N 0
      else
        none
    else
      none := by
  rw [ref_IsName.eq]; simp only [taut8, taut17, taut1, taut18, taut10, taut6, cond_true]

/-! ### ref_StandAt: skyway/skywayref3.StandAt -/
def ref_StandAt.kp : List (Nat × List (Nat × Option (TypeId × Ty))) := [(2, [(1, none), (7, none), (8, none), (9, none)])]
noncomputable def ref_StandAt.G (N : Nat) : List (Nat × Spec) := []
noncomputable def ref_StandAt.E (N : Nat) : Env := mkEnv (ref_StandAt.G N) N tyTab ref_StandAt.kp
noncomputable def ref_StandAt.fn (N : Nat) (x : List (ByteArray × Int) × ByteArray) : Option Int := evFn (ref_StandAt.E N) Try.prog 3 Try.f98 false [.cell (.sl 133 (.pair (.str) (.int .i64))), .cell (.str)] [.val (.cell (.int .i64))] x
noncomputable def ref_StandAt.S (N : Nat) : PSpec := ⟨false, [.cell (.sl 133 (.pair (.str) (.int .i64))), .cell (.str)], [.val (.cell (.int .i64))], ref_StandAt.fn N⟩
theorem f98_enters : Enters Try.prog 98 := ⟨Try.f98, Try.func98, by kernel_rfl, by kernel_rfl⟩
theorem ref_StandAt.tab (N : Nat) : TabOk Try.prog (ref_StandAt.G N) := trivial
theorem ref_StandAt.enters : Enters Try.prog 98 := f98_enters
theorem ref_StandAt.sound (N : Nat) : Sound Try.prog 98 (ref_StandAt.S N) := evFn_sound (specs_tab (ref_StandAt.tab N)) (inls_tab (ref_StandAt.tab N)) mixed 3 Try.func98 _ _ _
noncomputable def ref_StandAt.cd (N : Nat) (p : List Nat) : St → (Ex → St → Option Int) → Option Int := ev (ref_StandAt.E N) Try.prog (callD (ref_StandAt.E N) Try.prog 3) 0 (codeAt (bodyOf Try.f98) p)
noncomputable def ref_StandAt.fin : Ex → St → Option Int := endK Try.prog Try.f98 [.val (.cell (.int .i64))]
noncomputable def ref_StandAt.l0 (N : Nat) (x0 : List (ByteArray × Int)) (x1 : ByteArray) (k1 : Nat) (a2 : Int) : Option Int :=
  loopN (norm ((ref_StandAt.E N).keep 2) 0) (ref_StandAt.cd N [1, 0, 1, 0, 0]) k1
  ⟨[.any, .sc (.string x1), .any, .any, .any, .any, .any, .ros false 133 (.pair (.str) (.int .i64)) x0, .sc (.int .i64 (x0.length : Int)), .sc (.int .i64 a2), .any, .any, .any, .any, .any, .any, .any, .any, .any, .any], []⟩
  (blockK 0 (seqK (ref_StandAt.cd N [1, 1]) ref_StandAt.fin))
theorem ref_StandAt.l0_zero (N : Nat) (x0 : List (ByteArray × Int)) (x1 : ByteArray) (a2 : Int) : ref_StandAt.l0 N x0 x1 0 a2 = none := by kernel_rfl
theorem ref_StandAt.l0_succ (N : Nat) (x0 : List (ByteArray × Int)) (x1 : ByteArray) (k1 : Nat) (a2 : Int) : ref_StandAt.l0 N x0 x1 (k1 + 1) a2 =
    bif decide (a2 < (x0.length : Int)) then
      bif (decide (0 ≤ a2)) && (decide (a2 < (x0.length : Int))) then
        bif seq ((List.getD x0 (Int.toNat a2) ((⟨#[]⟩ : ByteArray), 0)).1) x1 then
          some a2
        else
          ref_StandAt.l0 N x0 x1 k1 (w (a2 + 1))
      else
        none
    else
      some (-1) := by kernel_rfl
theorem ref_StandAt.l0_cons (N : Nat) (x0 : List (ByteArray × Int)) (x1 : ByteArray) (k1 : Nat) {pre r} {x} (hl : x0 = pre ++ x :: r) (hb : x0.length < 4611686018427387904) : ref_StandAt.l0 N x0 x1 (k1 + 1) (pre.length : Int) =
    bif seq (x.1) x1 then
      some (pre.length : Int)
    else
      ref_StandAt.l0 N x0 x1 k1 ((pre.length : Int) + 1) := by
  have hlen : x0.length = pre.length + 1 + r.length := by rw [hl]; simp; omega
  have e1 : decide ((pre.length : Int) < (x0.length : Int)) = true := by rw [decide_eq_true_iff]; omega
  have e2 : decide (0 ≤ (pre.length : Int)) = true := by rw [decide_eq_true_iff]; omega
  have e4 : w ((pre.length : Int) + 1) = (pre.length : Int) + 1 := w_next hl hb
  have e5 : List.take pre.length x0 = pre := by rw [hl]; simp
  have e6 : decide ((pre.length : Int) ≤ (x0.length : Int)) = true := by rw [decide_eq_true_iff]; omega
  have g0 : List.getD x0 pre.length ((⟨#[]⟩ : ByteArray), 0) = x := by rw [hl]; exact getD_mid pre x r _
  rw [ref_StandAt.l0_succ]
  simp -implicitDefEqProofs only [Int.toNat_natCast, e1, e2, e4, e6, g0, e5, Bool.and_true, Bool.true_and, Bool.true_or, cond_true]
theorem ref_StandAt.l0_nil (N : Nat) (x0 : List (ByteArray × Int)) (x1 : ByteArray) (k1 : Nat) : ref_StandAt.l0 N x0 x1 (k1 + 1) (x0.length : Int) =
    some (-1) := by
  have e1 : decide ((x0.length : Int) < (x0.length : Int)) = false := by rw [decide_eq_false_iff_not]; omega
  rw [ref_StandAt.l0_succ]
  simp -implicitDefEqProofs only [e1, cond_false]
theorem ref_StandAt.eq (N : Nat) (x0 : List (ByteArray × Int)) (x1 : ByteArray) : ref_StandAt.fn N (x0, x1) =
    ref_StandAt.l0 N x0 x1 N 0 := by kernel_rfl

/-! ### ref_StandsError: skyway/skywayref3.StandsError -/
def ref_StandsError.kp : List (Nat × List (Nat × Option (TypeId × Ty))) := [(4, [(0, none), (8, none), (9, none), (10, none)])]
noncomputable def ref_StandsError.G (N : Nat) : List (Nat × Spec) := [(55, .pure (ref_IsName.S N)), (98, .pure (ref_StandAt.S N))]
noncomputable def ref_StandsError.E (N : Nat) : Env := mkEnv (ref_StandsError.G N) N tyTab ref_StandsError.kp
noncomputable def ref_StandsError.fn (N : Nat) (x : List (ByteArray × Int)) : Option Int := evFn (ref_StandsError.E N) Try.prog 3 Try.f43 false [.cell (.sl 133 (.pair (.str) (.int .i64)))] [.val (.cell (.int .i64))] x
noncomputable def ref_StandsError.S (N : Nat) : PSpec := ⟨false, [.cell (.sl 133 (.pair (.str) (.int .i64)))], [.val (.cell (.int .i64))], ref_StandsError.fn N⟩
theorem f43_enters : Enters Try.prog 43 := ⟨Try.f43, Try.func43, by kernel_rfl, by kernel_rfl⟩
theorem ref_StandsError.tab (N : Nat) : TabOk Try.prog (ref_StandsError.G N) := ⟨⟨ref_IsName.enters, ref_IsName.sound N⟩, ⟨ref_StandAt.enters, ref_StandAt.sound N⟩, trivial⟩
theorem ref_StandsError.enters : Enters Try.prog 43 := f43_enters
theorem ref_StandsError.sound (N : Nat) : Sound Try.prog 43 (ref_StandsError.S N) := evFn_sound (specs_tab (ref_StandsError.tab N)) (inls_tab (ref_StandsError.tab N)) mixed 3 Try.func43 _ _ _
noncomputable def ref_StandsError.cd (N : Nat) (p : List Nat) : St → (Ex → St → Option Int) → Option Int := ev (ref_StandsError.E N) Try.prog (callD (ref_StandsError.E N) Try.prog 3) 0 (codeAt (bodyOf Try.f43) p)
noncomputable def ref_StandsError.fin : Ex → St → Option Int := endK Try.prog Try.f43 [.val (.cell (.int .i64))]
noncomputable def ref_StandsError.l0 (N : Nat) (x0 : List (ByteArray × Int)) (k1 : Nat) (a2 : Int) : Option Int :=
  loopN (norm ((ref_StandsError.E N).keep 4) 0) (ref_StandsError.cd N [1, 1, 0, 1, 0, 0]) k1
  ⟨[.ros false 133 (.pair (.str) (.int .i64)) x0, .any, .any, .any, .any, .any, .any, .any, .ros false 133 (.pair (.str) (.int .i64)) x0, .sc (.int .i64 (x0.length : Int)), .sc (.int .i64 a2), .any, .any, .any, .any, .any, .any, .any, .any, .any, .any, .any, .any, .any, .any, .any, .any, .any, .any, .any, .any, .any, .any, .any, .any], []⟩
  (blockK 0 (seqK (ref_StandsError.cd N [1, 1, 1]) ref_StandsError.fin))
theorem ref_StandsError.l0_zero (N : Nat) (x0 : List (ByteArray × Int)) (a2 : Int) : ref_StandsError.l0 N x0 0 a2 = none := by kernel_rfl
theorem ref_StandsError.l0_succ (N : Nat) (x0 : List (ByteArray × Int)) (k1 : Nat) (a2 : Int) : ref_StandsError.l0 N x0 (k1 + 1) a2 =
    bif decide (a2 < (x0.length : Int)) then
      bif (decide (0 ≤ a2)) && (decide (a2 < (x0.length : Int))) then
        (ref_IsName.fn N ((List.getD x0 (Int.toNat a2) ((⟨#[]⟩ : ByteArray), 0)).1)).bind fun r3 =>
        bif !r3 then
          some 3
        else
        bif !(!(decide (((List.getD x0 (Int.toNat a2) ((⟨#[]⟩ : ByteArray), 0)).2) < 0))) || (!(decide (((List.getD x0 (Int.toNat a2) ((⟨#[]⟩ : ByteArray), 0)).2) < 0))) then
          bif !(!(decide (((List.getD x0 (Int.toNat a2) ((⟨#[]⟩ : ByteArray), 0)).2) < 0))) || (!(decide (((List.getD x0 (Int.toNat a2) ((⟨#[]⟩ : ByteArray), 0)).2) < 0))) then
            bif (decide (((List.getD x0 (Int.toNat a2) ((⟨#[]⟩ : ByteArray), 0)).2) < 0)) || (!(decide (((List.getD x0 (Int.toNat a2) ((⟨#[]⟩ : ByteArray), 0)).2) < 0))) then
              bif (decide (((List.getD x0 (Int.toNat a2) ((⟨#[]⟩ : ByteArray), 0)).2) < 0)) || (decide (((List.getD x0 (Int.toNat a2) ((⟨#[]⟩ : ByteArray), 0)).2) > 1800)) then
                some 4
              else
              bif (decide (0 ≤ a2)) && (decide (a2 ≤ (x0.length : Int))) then
                (ref_StandAt.fn N ((List.take (Int.toNat a2) x0), (List.getD x0 (Int.toNat a2) ((⟨#[]⟩ : ByteArray), 0)).1)).bind fun r4 =>
                bif decide (r4 ≥ 0) then
                  some 7
                else
                  ref_StandsError.l0 N x0 k1 (w (a2 + 1))
              else
                none
            else
              none
          else
            none
        else
          none
      else
        none
    else
      some 0 := by kernel_rfl
theorem ref_StandsError.l0_clean (N : Nat) (x0 : List (ByteArray × Int)) (k1 : Nat) (a2 : Int) : ref_StandsError.l0 N x0 (k1 + 1) a2 =
    bif decide (a2 < (x0.length : Int)) then
      bif (decide (0 ≤ a2)) && (decide (a2 < (x0.length : Int))) then
        (ref_IsName.fn N ((List.getD x0 (Int.toNat a2) ((⟨#[]⟩ : ByteArray), 0)).1)).bind fun r3 =>
        bif !r3 then
          some 3
        else
        bif (decide (((List.getD x0 (Int.toNat a2) ((⟨#[]⟩ : ByteArray), 0)).2) < 0)) || (decide (((List.getD x0 (Int.toNat a2) ((⟨#[]⟩ : ByteArray), 0)).2) > 1800)) then
          some 4
        else
        bif (decide (0 ≤ a2)) && (decide (a2 ≤ (x0.length : Int))) then
          (ref_StandAt.fn N ((List.take (Int.toNat a2) x0), (List.getD x0 (Int.toNat a2) ((⟨#[]⟩ : ByteArray), 0)).1)).bind fun r4 =>
          bif decide (r4 ≥ 0) then
            some 7
          else
            ref_StandsError.l0 N x0 k1 (w (a2 + 1))
        else
          none
      else
        none
    else
      some 0 := by
  rw [ref_StandsError.l0_succ]; simp only [taut1, taut6, cond_true]
theorem ref_StandsError.l0_cons (N : Nat) (x0 : List (ByteArray × Int)) (k1 : Nat) {pre r} {x} (hl : x0 = pre ++ x :: r) (hb : x0.length < 4611686018427387904) : ref_StandsError.l0 N x0 (k1 + 1) (pre.length : Int) =
    (ref_IsName.fn N (x.1)).bind fun r3 =>
    bif !r3 then
      some 3
    else
    bif (decide ((x.2) < 0)) || (decide ((x.2) > 1800)) then
      some 4
    else
      (ref_StandAt.fn N (pre, x.1)).bind fun r4 =>
      bif decide (r4 ≥ 0) then
        some 7
      else
        ref_StandsError.l0 N x0 k1 ((pre.length : Int) + 1) := by
  have hlen : x0.length = pre.length + 1 + r.length := by rw [hl]; simp; omega
  have e1 : decide ((pre.length : Int) < (x0.length : Int)) = true := by rw [decide_eq_true_iff]; omega
  have e2 : decide (0 ≤ (pre.length : Int)) = true := by rw [decide_eq_true_iff]; omega
  have e4 : w ((pre.length : Int) + 1) = (pre.length : Int) + 1 := w_next hl hb
  have e5 : List.take pre.length x0 = pre := by rw [hl]; simp
  have e6 : decide ((pre.length : Int) ≤ (x0.length : Int)) = true := by rw [decide_eq_true_iff]; omega
  have g0 : List.getD x0 pre.length ((⟨#[]⟩ : ByteArray), 0) = x := by rw [hl]; exact getD_mid pre x r _
  rw [ref_StandsError.l0_clean]
  simp -implicitDefEqProofs only [Int.toNat_natCast, e1, e2, e4, e6, g0, e5, Bool.and_true, Bool.true_and, Bool.true_or, cond_true]
theorem ref_StandsError.l0_nil (N : Nat) (x0 : List (ByteArray × Int)) (k1 : Nat) : ref_StandsError.l0 N x0 (k1 + 1) (x0.length : Int) =
    some 0 := by
  have e1 : decide ((x0.length : Int) < (x0.length : Int)) = false := by rw [decide_eq_false_iff_not]; omega
  rw [ref_StandsError.l0_clean]
  simp -implicitDefEqProofs only [e1, cond_false]
theorem ref_StandsError.eq (N : Nat) (x0 : List (ByteArray × Int)) : ref_StandsError.fn N x0 =
    bif decide ((x0.length : Int) > 16) then
      some 2
    else
      ref_StandsError.l0 N x0 N 0 := by kernel_rfl

/-! ### ref_AsksError: skyway/skywayref3.AsksError -/
def ref_AsksError.kp : List (Nat × List (Nat × Option (TypeId × Ty))) := [(7, [(0, none), (1, none), (17, none), (18, none), (19, none)]), (16, [(0, none), (1, none), (6, none), (7, none), (8, none), (17, none), (18, none), (19, none)])]
noncomputable def ref_AsksError.G (N : Nat) : List (Nat × Spec) := [(43, .pure (ref_StandsError.S N)), (55, .pure (ref_IsName.S N)), (98, .pure (ref_StandAt.S N))]
noncomputable def ref_AsksError.E (N : Nat) : Env := mkEnv (ref_AsksError.G N) N tyTab ref_AsksError.kp
noncomputable def ref_AsksError.fn (N : Nat) (x : List (ByteArray × Int) × List (ByteArray × ByteArray × Int)) : Option Int := evFn (ref_AsksError.E N) Try.prog 3 Try.f41 false [.cell (.sl 133 (.pair (.str) (.int .i64))), .cell (.sl 135 (.pair (.str) (.pair (.str) (.int .i64))))] [.val (.cell (.int .i64))] x
noncomputable def ref_AsksError.S (N : Nat) : PSpec := ⟨false, [.cell (.sl 133 (.pair (.str) (.int .i64))), .cell (.sl 135 (.pair (.str) (.pair (.str) (.int .i64))))], [.val (.cell (.int .i64))], ref_AsksError.fn N⟩
theorem f41_enters : Enters Try.prog 41 := ⟨Try.f41, Try.func41, by kernel_rfl, by kernel_rfl⟩
theorem ref_AsksError.tab (N : Nat) : TabOk Try.prog (ref_AsksError.G N) := ⟨⟨ref_StandsError.enters, ref_StandsError.sound N⟩, ⟨ref_IsName.enters, ref_IsName.sound N⟩, ⟨ref_StandAt.enters, ref_StandAt.sound N⟩, trivial⟩
theorem ref_AsksError.enters : Enters Try.prog 41 := f41_enters
theorem ref_AsksError.sound (N : Nat) : Sound Try.prog 41 (ref_AsksError.S N) := evFn_sound (specs_tab (ref_AsksError.tab N)) (inls_tab (ref_AsksError.tab N)) mixed 3 Try.func41 _ _ _
noncomputable def ref_AsksError.cd (N : Nat) (p : List Nat) : St → (Ex → St → Option Int) → Option Int := ev (ref_AsksError.E N) Try.prog (callD (ref_AsksError.E N) Try.prog 3) 0 (codeAt (bodyOf Try.f41) p)
noncomputable def ref_AsksError.fin : Ex → St → Option Int := endK Try.prog Try.f41 [.val (.cell (.int .i64))]
noncomputable def ref_AsksError.l0 (N : Nat) (x0 : List (ByteArray × Int)) (x1 : List (ByteArray × ByteArray × Int)) (k2 : Nat) (a3 : Int) : Option Int :=
  loopN (norm ((ref_AsksError.E N).keep 7) 0) (ref_AsksError.cd N [1, 1, 1, 0, 1, 0, 0]) k2
  ⟨[.ros false 133 (.pair (.str) (.int .i64)) x0, .ros false 135 (.pair (.str) (.pair (.str) (.int .i64))) x1, .any, .any, .any, .any, .any, .any, .any, .any, .any, .any, .any, .any, .any, .any, .any, .ros false 135 (.pair (.str) (.pair (.str) (.int .i64))) x1, .sc (.int .i64 (x1.length : Int)), .sc (.int .i64 a3), .any, .any, .any, .any, .any, .any, .any, .any, .any, .any, .any, .any, .any, .any, .any, .any, .any, .any, .any, .any, .any, .any, .any, .any, .any, .any, .any, .any, .any, .any, .any, .any, .any, .any, .any], []⟩
  (blockK 0 (seqK (ref_AsksError.cd N [1, 1, 1, 1]) ref_AsksError.fin))
noncomputable def ref_AsksError.l1 (N : Nat) (x0 : List (ByteArray × Int)) (x1 : List (ByteArray × ByteArray × Int)) (k2 : Nat) (a3 : Int) (k6 : Nat) (a7 : Int) : Option Int :=
  loopN (norm ((ref_AsksError.E N).keep 16) 0) (ref_AsksError.cd N [1, 1, 1, 0, 1, 0, 0, 1, 1, 0, 0, 1, 1, 1, 1, 1, 0, 0]) k6
  ⟨[.ros false 133 (.pair (.str) (.int .i64)) x0, .ros false 135 (.pair (.str) (.pair (.str) (.int .i64))) x1, .any, .any, .any, .any, .sc (.int .i64 a3), .ptr 0 0, .sc (.int .i64 a7), .any, .any, .any, .any, .any, .any, .any, .any, .ros false 135 (.pair (.str) (.pair (.str) (.int .i64))) x1, .sc (.int .i64 (x1.length : Int)), .sc (.int .i64 a3), .any, .any, .any, .any, .any, .any, .any, .any, .any, .any, .any, .any, .any, .any, .any, .any, .any, .any, .any, .any, .any, .any, .any, .any, .any, .any, .any, .any, .any, .any, .any, .any, .any, .any, .any], [.cells [.sc (.string ((List.getD x1 (Int.toNat a3) ((⟨#[]⟩ : ByteArray), ((⟨#[]⟩ : ByteArray), 0))).1)), .sc (.string (((List.getD x1 (Int.toNat a3) ((⟨#[]⟩ : ByteArray), ((⟨#[]⟩ : ByteArray), 0))).2).1)), .sc (.int .i64 (((List.getD x1 (Int.toNat a3) ((⟨#[]⟩ : ByteArray), ((⟨#[]⟩ : ByteArray), 0))).2).2))] 135]⟩
  (blockK 2 (blockK 1 (seqK (ref_AsksError.cd N [1, 1, 1, 0, 1, 0, 0, 1, 1, 1]) (loopK (norm ((ref_AsksError.E N).keep 7) 0) (ref_AsksError.cd N [1, 1, 1, 0, 1, 0, 0]) k2 (blockK 0 (seqK (ref_AsksError.cd N [1, 1, 1, 1]) ref_AsksError.fin))))))
theorem ref_AsksError.l1_zero (N : Nat) (x0 : List (ByteArray × Int)) (x1 : List (ByteArray × ByteArray × Int)) (k2 : Nat) (a3 : Int) (a7 : Int) : ref_AsksError.l1 N x0 x1 k2 a3 0 a7 = none := by kernel_rfl
theorem ref_AsksError.l1_succ (N : Nat) (x0 : List (ByteArray × Int)) (x1 : List (ByteArray × ByteArray × Int)) (k2 : Nat) (a3 : Int) (k6 : Nat) (a7 : Int) : ref_AsksError.l1 N x0 x1 k2 a3 (k6 + 1) a7 =
    bif decide (a7 < a3) then
      bif (decide (0 ≤ a7)) && (decide (a7 < (x1.length : Int))) then
        bif seq ((List.getD x1 (Int.toNat a7) ((⟨#[]⟩ : ByteArray), ((⟨#[]⟩ : ByteArray), 0))).1) ((List.getD x1 (Int.toNat a3) ((⟨#[]⟩ : ByteArray), ((⟨#[]⟩ : ByteArray), 0))).1) then
          some 7
        else
          ref_AsksError.l1 N x0 x1 k2 a3 k6 (w (a7 + 1))
      else
        none
    else
      ref_AsksError.l0 N x0 x1 k2 (w (a3 + 1)) := by kernel_rfl
theorem ref_AsksError.l0_zero (N : Nat) (x0 : List (ByteArray × Int)) (x1 : List (ByteArray × ByteArray × Int)) (a3 : Int) : ref_AsksError.l0 N x0 x1 0 a3 = none := by kernel_rfl
theorem ref_AsksError.l0_succ (N : Nat) (x0 : List (ByteArray × Int)) (x1 : List (ByteArray × ByteArray × Int)) (k2 : Nat) (a3 : Int) : ref_AsksError.l0 N x0 x1 (k2 + 1) a3 =
    bif decide (a3 < (x1.length : Int)) then
      bif (decide (0 ≤ a3)) && (decide (a3 < (x1.length : Int))) then
        (ref_IsName.fn N ((List.getD x1 (Int.toNat a3) ((⟨#[]⟩ : ByteArray), ((⟨#[]⟩ : ByteArray), 0))).1)).bind fun r4 =>
        bif !r4 then
          some 3
        else
          (ref_StandAt.fn N (x0, ((List.getD x1 (Int.toNat a3) ((⟨#[]⟩ : ByteArray), ((⟨#[]⟩ : ByteArray), 0))).2).1)).bind fun r5 =>
          bif decide (r5 < 0) then
            some 6
          else
          bif !(!(decide ((((List.getD x1 (Int.toNat a3) ((⟨#[]⟩ : ByteArray), ((⟨#[]⟩ : ByteArray), 0))).2).2) < 0))) || (!(decide ((((List.getD x1 (Int.toNat a3) ((⟨#[]⟩ : ByteArray), ((⟨#[]⟩ : ByteArray), 0))).2).2) < 0))) then
            bif !(!(decide ((((List.getD x1 (Int.toNat a3) ((⟨#[]⟩ : ByteArray), ((⟨#[]⟩ : ByteArray), 0))).2).2) < 0))) || (!(decide ((((List.getD x1 (Int.toNat a3) ((⟨#[]⟩ : ByteArray), ((⟨#[]⟩ : ByteArray), 0))).2).2) < 0))) then
              bif (decide ((((List.getD x1 (Int.toNat a3) ((⟨#[]⟩ : ByteArray), ((⟨#[]⟩ : ByteArray), 0))).2).2) < 0)) || (!(decide ((((List.getD x1 (Int.toNat a3) ((⟨#[]⟩ : ByteArray), ((⟨#[]⟩ : ByteArray), 0))).2).2) < 0))) then
                bif (decide ((((List.getD x1 (Int.toNat a3) ((⟨#[]⟩ : ByteArray), ((⟨#[]⟩ : ByteArray), 0))).2).2) < 0)) || (decide ((((List.getD x1 (Int.toNat a3) ((⟨#[]⟩ : ByteArray), ((⟨#[]⟩ : ByteArray), 0))).2).2) > 200000)) then
                  some 12
                else
                  ref_AsksError.l1 N x0 x1 k2 a3 N 0
              else
                none
            else
              none
          else
            none
      else
        none
    else
      some 0 := by kernel_rfl
theorem ref_AsksError.l0_clean (N : Nat) (x0 : List (ByteArray × Int)) (x1 : List (ByteArray × ByteArray × Int)) (k2 : Nat) (a3 : Int) : ref_AsksError.l0 N x0 x1 (k2 + 1) a3 =
    bif decide (a3 < (x1.length : Int)) then
      bif (decide (0 ≤ a3)) && (decide (a3 < (x1.length : Int))) then
        (ref_IsName.fn N ((List.getD x1 (Int.toNat a3) ((⟨#[]⟩ : ByteArray), ((⟨#[]⟩ : ByteArray), 0))).1)).bind fun r4 =>
        bif !r4 then
          some 3
        else
          (ref_StandAt.fn N (x0, ((List.getD x1 (Int.toNat a3) ((⟨#[]⟩ : ByteArray), ((⟨#[]⟩ : ByteArray), 0))).2).1)).bind fun r5 =>
          bif decide (r5 < 0) then
            some 6
          else
          bif (decide ((((List.getD x1 (Int.toNat a3) ((⟨#[]⟩ : ByteArray), ((⟨#[]⟩ : ByteArray), 0))).2).2) < 0)) || (decide ((((List.getD x1 (Int.toNat a3) ((⟨#[]⟩ : ByteArray), ((⟨#[]⟩ : ByteArray), 0))).2).2) > 200000)) then
            some 12
          else
            ref_AsksError.l1 N x0 x1 k2 a3 N 0
      else
        none
    else
      some 0 := by
  rw [ref_AsksError.l0_succ]; simp only [taut1, taut6, cond_true]
theorem ref_AsksError.l0_cons (N : Nat) (x0 : List (ByteArray × Int)) (x1 : List (ByteArray × ByteArray × Int)) (k2 : Nat) {pre r} {x} (hl : x1 = pre ++ x :: r) (hb : x1.length < 4611686018427387904) : ref_AsksError.l0 N x0 x1 (k2 + 1) (pre.length : Int) =
    (ref_IsName.fn N (x.1)).bind fun r4 =>
    bif !r4 then
      some 3
    else
      (ref_StandAt.fn N (x0, (x.2).1)).bind fun r5 =>
      bif decide (r5 < 0) then
        some 6
      else
      bif (decide (((x.2).2) < 0)) || (decide (((x.2).2) > 200000)) then
        some 12
      else
        ref_AsksError.l1 N x0 x1 k2 (pre.length : Int) N 0 := by
  have hlen : x1.length = pre.length + 1 + r.length := by rw [hl]; simp; omega
  have e1 : decide ((pre.length : Int) < (x1.length : Int)) = true := by rw [decide_eq_true_iff]; omega
  have e2 : decide (0 ≤ (pre.length : Int)) = true := by rw [decide_eq_true_iff]; omega
  have e4 : w ((pre.length : Int) + 1) = (pre.length : Int) + 1 := w_next hl hb
  have e5 : List.take pre.length x1 = pre := by rw [hl]; simp
  have e6 : decide ((pre.length : Int) ≤ (x1.length : Int)) = true := by rw [decide_eq_true_iff]; omega
  have g0 : List.getD x1 pre.length ((⟨#[]⟩ : ByteArray), ((⟨#[]⟩ : ByteArray), 0)) = x := by rw [hl]; exact getD_mid pre x r _
  rw [ref_AsksError.l0_clean]
  simp -implicitDefEqProofs only [Int.toNat_natCast, e1, e2, e4, e6, g0, e5, Bool.and_true, Bool.true_and, Bool.true_or, cond_true]
theorem ref_AsksError.l0_nil (N : Nat) (x0 : List (ByteArray × Int)) (x1 : List (ByteArray × ByteArray × Int)) (k2 : Nat) : ref_AsksError.l0 N x0 x1 (k2 + 1) (x1.length : Int) =
    some 0 := by
  have e1 : decide ((x1.length : Int) < (x1.length : Int)) = false := by rw [decide_eq_false_iff_not]; omega
  rw [ref_AsksError.l0_clean]
  simp -implicitDefEqProofs only [e1, cond_false]
theorem ref_AsksError.eq (N : Nat) (x0 : List (ByteArray × Int)) (x1 : List (ByteArray × ByteArray × Int)) : ref_AsksError.fn N (x0, x1) =
    (ref_StandsError.fn N x0).bind fun r1 =>
    bif !(r1 == 0) then
      some r1
    else
    bif decide ((x1.length : Int) > 16) then
      some 2
    else
      ref_AsksError.l0 N x0 x1 N 0 := by kernel_rfl

/-! ### ref_Queued_1: skyway/skywayref3.Queued$1 -/
def ref_Queued_1.kp : List (Nat × List (Nat × Option (TypeId × Ty))) := []
noncomputable def ref_Queued_1.G (N : Nat) : List (Nat × Spec) := [(98, .pure (ref_StandAt.S N))]
noncomputable def ref_Queued_1.E (N : Nat) : Env := mkEnv (ref_Queued_1.G N) N tyTab ref_Queued_1.kp
noncomputable def ref_Queued_1.fn (N : Nat) (x : (ByteArray × ByteArray × Int) × List (ByteArray × Int)) : Option Int := evFn (ref_Queued_1.E N) Try.prog 3 Try.f99 false [.agg (.pair (.str) (.pair (.str) (.int .i64))), .box (.sl 133 (.pair (.str) (.int .i64)))] [.val (.cell (.int .i64))] x
noncomputable def ref_Queued_1.S (N : Nat) : PSpec := ⟨false, [.agg (.pair (.str) (.pair (.str) (.int .i64))), .box (.sl 133 (.pair (.str) (.int .i64)))], [.val (.cell (.int .i64))], ref_Queued_1.fn N⟩
theorem f99_enters : Enters Try.prog 99 := ⟨Try.f99, Try.func99, by kernel_rfl, by kernel_rfl⟩
theorem ref_Queued_1.tab (N : Nat) : TabOk Try.prog (ref_Queued_1.G N) := ⟨⟨ref_StandAt.enters, ref_StandAt.sound N⟩, trivial⟩
theorem ref_Queued_1.enters : Enters Try.prog 99 := f99_enters
theorem ref_Queued_1.sound (N : Nat) : Sound Try.prog 99 (ref_Queued_1.S N) := evFn_sound (specs_tab (ref_Queued_1.tab N)) (inls_tab (ref_Queued_1.tab N)) mixed 3 Try.func99 _ _ _
theorem ref_Queued_1.eq (N : Nat) (x0 : ByteArray × ByteArray × Int) (x1 : List (ByteArray × Int)) : ref_Queued_1.fn N (x0, x1) =
    (ref_StandAt.fn N (x1, x0.2.1)).bind fun r1 =>
    bif (decide (0 ≤ r1)) && (decide (r1 < (x1.length : Int))) then
      some (w (x0.2.2 + ((List.getD x1 (Int.toNat r1) ((⟨#[]⟩ : ByteArray), 0)).2)))
    else
      none := by kernel_rfl

/-! ### ref_Queued: skyway/skywayref3.Queued -/
def ref_Queued.kp : List (Nat × List (Nat × Option (TypeId × Ty))) := [(4, [(2, none), (3, none), (7, none), (8, some (76, .pair (.str) (.pair (.int .i64) (.pair (.int .i64) (.int .i64))))), (9, none)]), (8, [(2, none), (3, none), (7, none), (8, none), (9, none), (10, none), (11, none), (22, none), (23, none), (24, none)]), (1000018, [(2, none), (3, none), (7, none), (8, none), (15, none)])]
noncomputable def ref_Queued.G (N : Nat) : List (Nat × Spec) := [(99, .pure (ref_Queued_1.S N))]
noncomputable def ref_Queued.E (N : Nat) : Env := mkEnv (ref_Queued.G N) N tyTab ref_Queued.kp
noncomputable def ref_Queued.fn (N : Nat) (x : List (ByteArray × Int) × List (ByteArray × ByteArray × Int) × Int) : Option (List (ByteArray × Int × Int × Int)) := evFn (ref_Queued.E N) Try.prog 3 Try.f45 false [.cell (.sl 133 (.pair (.str) (.int .i64))), .cell (.sl 135 (.pair (.str) (.pair (.str) (.int .i64)))), .cell (.int .i64)] [.own 76 (.pair (.str) (.pair (.int .i64) (.pair (.int .i64) (.int .i64))))] x
noncomputable def ref_Queued.S (N : Nat) : PSpec := ⟨false, [.cell (.sl 133 (.pair (.str) (.int .i64))), .cell (.sl 135 (.pair (.str) (.pair (.str) (.int .i64)))), .cell (.int .i64)], [.own 76 (.pair (.str) (.pair (.int .i64) (.pair (.int .i64) (.int .i64))))], ref_Queued.fn N⟩
theorem f45_enters : Enters Try.prog 45 := ⟨Try.f45, Try.func45, by kernel_rfl, by kernel_rfl⟩
theorem ref_Queued.tab (N : Nat) : TabOk Try.prog (ref_Queued.G N) := ⟨⟨ref_Queued_1.enters, ref_Queued_1.sound N⟩, trivial⟩
theorem ref_Queued.enters : Enters Try.prog 45 := f45_enters
theorem ref_Queued.sound (N : Nat) : Sound Try.prog 45 (ref_Queued.S N) := evFn_sound (specs_tab (ref_Queued.tab N)) (inls_tab (ref_Queued.tab N)) mixed 3 Try.func45 _ _ _
noncomputable def ref_Queued.cd (N : Nat) (p : List Nat) : St → (Ex → St → Option (List (ByteArray × Int × Int × Int))) → Option (List (ByteArray × Int × Int × Int)) := ev (ref_Queued.E N) Try.prog (callD (ref_Queued.E N) Try.prog 3) 0 (codeAt (bodyOf Try.f45) p)
noncomputable def ref_Queued.fin : Ex → St → Option (List (ByteArray × Int × Int × Int)) := endK Try.prog Try.f45 [.own 76 (.pair (.str) (.pair (.int .i64) (.pair (.int .i64) (.int .i64))))]
noncomputable def ref_Queued.l0 (N : Nat) (x0 : List (ByteArray × Int)) (x2 : Int) (k1 : Nat) (a2 : Int) (a3 : List (ByteArray × ByteArray × Int)) (a4 : List (ByteArray × Int × Int × Int)) : Option (List (ByteArray × Int × Int × Int)) :=
  loopN (norm ((ref_Queued.E N).keep 4) 0) (ref_Queued.cd N [1, 1, 1, 1, 0, 0, 0]) k1
  ⟨[.any, .any, .sc (.int .i64 x2), .ptr 0 0, .any, .any, .any, .own 1, .own 2, .sc (.int .i64 a2), .any, .any, .any, .any, .any, .any, .any, .any, .any, .any, .any, .any, .any, .any, .any, .any, .any, .any, .any, .any, .any, .any, .any, .any, .any, .any, .any, .any, .any, .any, .any, .any, .any, .any, .any, .any, .any, .any, .any, .any, .any, .any, .any, .any, .any, .any, .any, .any, .any, .any, .any, .any, .any, .any, .any, .any, .any, .any, .any, .any, .any, .any, .any, .any, .any, .any, .any, .any, .any, .any, .any, .any, .any, .any, .any, .any, .any, .any, .any, .any, .any, .any, .any, .any, .any, .any, .any, .any, .any, .any, .any, .any], [.cells [.ros false 133 (.pair (.str) (.int .i64)) x0] 66, .rows true 135 (.pair (.str) (.pair (.str) (.int .i64))) a3, .rows true 76 (.pair (.str) (.pair (.int .i64) (.pair (.int .i64) (.int .i64)))) a4]⟩
  (blockK 0 (seqK (ref_Queued.cd N [1, 1, 1, 1, 1]) ref_Queued.fin))
noncomputable def ref_Queued.l1 (N : Nat) (x0 : List (ByteArray × Int)) (x2 : Int) (k1 : Nat) (a2 : Int) (a3 : List (ByteArray × ByteArray × Int)) (a4 : List (ByteArray × Int × Int × Int)) (k5 : Nat) (a6 : Int) (a7 : Int) : Option (List (ByteArray × Int × Int × Int)) :=
  loopN (norm ((ref_Queued.E N).keep 8) 0) (ref_Queued.cd N [1, 1, 1, 1, 0, 0, 0, 1, 0, 1, 1, 0, 1, 0, 0]) k5
  ⟨[.any, .any, .sc (.int .i64 x2), .ptr 0 0, .any, .any, .any, .own 1, .own 2, .sc (.int .i64 a2), .sc (.int .i64 a6), .clo 99 [.ptr 0 0], .any, .any, .any, .any, .any, .any, .any, .any, .any, .any, .own 1, .sc (.int .i64 (a3.length : Int)), .sc (.int .i64 a7), .any, .any, .any, .any, .any, .any, .any, .any, .any, .any, .any, .any, .any, .any, .any, .any, .any, .any, .any, .any, .any, .any, .any, .any, .any, .any, .any, .any, .any, .any, .any, .any, .any, .any, .any, .any, .any, .any, .any, .any, .any, .any, .any, .any, .any, .any, .any, .any, .any, .any, .any, .any, .any, .any, .any, .any, .any, .any, .any, .any, .any, .any, .any, .any, .any, .any, .any, .any, .any, .any, .any, .any, .any, .any, .any, .any, .any], [.cells [.ros false 133 (.pair (.str) (.int .i64)) x0] 66, .rows true 135 (.pair (.str) (.pair (.str) (.int .i64))) a3, .rows true 76 (.pair (.str) (.pair (.int .i64) (.pair (.int .i64) (.int .i64)))) a4]⟩
  (blockK 2 (seqK (ref_Queued.cd N [1, 1, 1, 1, 0, 0, 0, 1, 0, 1, 1, 1]) (blockK 1 (loopK (norm ((ref_Queued.E N).keep 4) 0) (ref_Queued.cd N [1, 1, 1, 1, 0, 0, 0]) k1 (blockK 0 (seqK (ref_Queued.cd N [1, 1, 1, 1, 1]) ref_Queued.fin))))))
noncomputable def ref_Queued.j2 (N : Nat) (x0 : List (ByteArray × Int)) (x2 : Int) (k1 : Nat) (a3 : List (ByteArray × ByteArray × Int)) (a4 : List (ByteArray × Int × Int × Int)) (a6 : Int) (r12 : Int) (a14 : Int) : Option (List (ByteArray × Int × Int × Int)) :=
  fuelK N (region (ref_Queued.E N) Try.prog (callD (ref_Queued.E N) Try.prog 3) (opsAt (codeAt (bodyOf Try.f45) [1, 1, 1, 1, 0, 0, 0, 1, 0, 1, 1, 1, 1, 1, 1, 1, 0])) false
  ⟨[.any, .any, .sc (.int .i64 x2), .ptr 0 0, .any, .any, .any, .own 1, .own 2, .any, .any, .any, .any, .any, .any, .ptr 3 0, .any, .any, .any, .any, .any, .any, .any, .any, .any, .any, .any, .any, .any, .any, .any, .any, .any, .any, .any, .any, .any, .any, .any, .any, .any, .any, .any, .any, .any, .any, .any, .any, .any, .any, .any, .any, .any, .any, .any, .any, .any, .any, .any, .any, .any, .any, .any, .any, .any, .any, .any, .any, .any, .any, .any, .any, .any, .any, .any, .any, .any, .any, .any, .any, .any, .any, .any, .any, .any, .any, .any, .any, .any, .any, .any, .any, .any, .any, .any, .any, .any, .any, .any, .any, .any, .any], [.cells [.ros false 133 (.pair (.str) (.int .i64)) x0] 66, .rows true 135 (.pair (.str) (.pair (.str) (.int .i64))) ((List.take (Int.toNat a6) a3) ++ (List.take (a3.length - (Int.toNat (w (a6 + 1)))) (List.drop (0 + (Int.toNat (w (a6 + 1)))) a3))), .rows true 76 (.pair (.str) (.pair (.int .i64) (.pair (.int .i64) (.int .i64)))) a4, .cells [.sc (.string ((List.getD a3 (Int.toNat a6) ((⟨#[]⟩ : ByteArray), ((⟨#[]⟩ : ByteArray), 0))).1)), .sc (.int .i64 (((List.getD a3 (Int.toNat a6) ((⟨#[]⟩ : ByteArray), ((⟨#[]⟩ : ByteArray), 0))).2).2)), .sc (.int .i64 r12), .sc (.int .i64 a14)] 76]⟩
  (fun S => (seqK (ref_Queued.cd N [1, 1, 1, 1, 0, 0, 0, 1, 0, 1, 1, 1, 1, 1, 1, 1, 1]) (blockK 1 (loopK (norm ((ref_Queued.E N).keep 4) 0) (ref_Queued.cd N [1, 1, 1, 1, 0, 0, 0]) k1 (blockK 0 (seqK (ref_Queued.cd N [1, 1, 1, 1, 1]) ref_Queued.fin))))) .normal S))
theorem ref_Queued.j2_eq (N : Nat) (x0 : List (ByteArray × Int)) (x2 : Int) (k1 : Nat) (a3 : List (ByteArray × ByteArray × Int)) (a4 : List (ByteArray × Int × Int × Int)) (a6 : Int) (r12 : Int) (a14 : Int) {M : Nat} (hM : N = M + 1) : ref_Queued.j2 N x0 x2 k1 a3 a4 a6 r12 a14 =
    bif decide ((a4.length + 1) * 40 ≤ 140737488355328) && decide ((a4.length + 1) ≤ maxLen) then
      ref_Queued.l0 N x0 x2 k1 (w (a14 + x2)) ((List.take (Int.toNat a6) a3) ++ (List.take (a3.length - (Int.toNat (w (a6 + 1)))) (List.drop (0 + (Int.toNat (w (a6 + 1)))) a3))) (a4 ++ [((List.getD a3 (Int.toNat a6) ((⟨#[]⟩ : ByteArray), ((⟨#[]⟩ : ByteArray), 0))).1, (((List.getD a3 (Int.toNat a6) ((⟨#[]⟩ : ByteArray), ((⟨#[]⟩ : ByteArray), 0))).2).2, (r12, a14)))])
    else
      none := (fuelK_eq hM _).trans (by kernel_rfl)
theorem ref_Queued.l1_zero (N : Nat) (x0 : List (ByteArray × Int)) (x2 : Int) (k1 : Nat) (a2 : Int) (a3 : List (ByteArray × ByteArray × Int)) (a4 : List (ByteArray × Int × Int × Int)) (a6 : Int) (a7 : Int) : ref_Queued.l1 N x0 x2 k1 a2 a3 a4 0 a6 a7 = none := by kernel_rfl
theorem ref_Queued.l1_succ (N : Nat) (x0 : List (ByteArray × Int)) (x2 : Int) (k1 : Nat) (a2 : Int) (a3 : List (ByteArray × ByteArray × Int)) (a4 : List (ByteArray × Int × Int × Int)) (k5 : Nat) (a6 : Int) (a7 : Int) : ref_Queued.l1 N x0 x2 k1 a2 a3 a4 (k5 + 1) a6 a7 =
    bif decide (a7 < (a3.length : Int)) then
      bif (decide (0 ≤ a7)) && (decide (a7 < (a3.length : Int))) then
        bif decide ((Int.toNat a7) < a3.length) then
          (ref_Queued_1.fn N (List.getD a3 (Int.toNat a7) ((⟨#[]⟩ : ByteArray), ((⟨#[]⟩ : ByteArray), 0)), x0)).bind fun r8 =>
          bif (decide (0 ≤ a6)) && (decide (a6 < (a3.length : Int))) then
            bif decide ((Int.toNat a6) < a3.length) then
              (ref_Queued_1.fn N (List.getD a3 (Int.toNat a6) ((⟨#[]⟩ : ByteArray), ((⟨#[]⟩ : ByteArray), 0)), x0)).bind fun r9 =>
              bif !(!(decide (r8 < r9))) || (!(decide (r8 < r9))) then
                bif !(!(decide (r8 < r9))) || (!(decide (r8 < r9))) then
                  (bif (!(decide (r8 < r9))) then ref_Queued_1.fn N (List.getD a3 (Int.toNat a7) ((⟨#[]⟩ : ByteArray), ((⟨#[]⟩ : ByteArray), 0)), x0) else some (0)).bind fun r10 =>
                  bif !(!(decide (r8 < r9))) || (!(decide (r8 < r9))) then
                    bif !(!(decide (r8 < r9))) || (!(decide (r8 < r9))) then
                      bif ((decide (0 ≤ a6)) && (decide (a6 < (a3.length : Int)))) || !(!(decide (r8 < r9))) then
                        bif !(!(decide (r8 < r9))) || (!(decide (r8 < r9))) then
                          bif (decide ((Int.toNat a6) < a3.length)) || !(!(decide (r8 < r9))) then
                            bif !(!(decide (r8 < r9))) || (!(decide (r8 < r9))) then
                              bif !(!(decide (r8 < r9))) || (!(decide (r8 < r9))) then
                                (bif (!(decide (r8 < r9))) then ref_Queued_1.fn N (List.getD a3 (Int.toNat a6) ((⟨#[]⟩ : ByteArray), ((⟨#[]⟩ : ByteArray), 0)), x0) else some (0)).bind fun r11 =>
                                bif !(!(decide (r8 < r9))) || (!(decide (r8 < r9))) then
                                  bif !(!(decide (r8 < r9))) || (!(decide (r8 < r9))) then
                                    bif !(!(decide (r8 < r9))) || (!(decide (r8 < r9))) then
                                      bif !((!(decide (r8 < r9))) && (r10 == r11)) || ((!(decide (r8 < r9))) && (r10 == r11)) then
                                        bif !((!(decide (r8 < r9))) && (r10 == r11)) || ((!(decide (r8 < r9))) && (r10 == r11)) then
                                          bif !((!(decide (r8 < r9))) && (r10 == r11)) || ((!(decide (r8 < r9))) && (r10 == r11)) then
                                            bif ((decide (0 ≤ a6)) && (decide (a6 < (a3.length : Int)))) || !((!(decide (r8 < r9))) && (r10 == r11)) then
                                              bif !((!(decide (r8 < r9))) && (r10 == r11)) || ((!(decide (r8 < r9))) && (r10 == r11)) then
                                                bif !((!(decide (r8 < r9))) && (r10 == r11)) || ((!(decide (r8 < r9))) && (r10 == r11)) then
                                                  bif (decide ((Int.toNat a6) < a3.length)) || !((!(decide (r8 < r9))) && (r10 == r11)) then
                                                    bif !((!(decide (r8 < r9))) && (r10 == r11)) || ((!(decide (r8 < r9))) && (r10 == r11)) then
                                                      bif !((!(decide (r8 < r9))) && (r10 == r11)) || ((!(decide (r8 < r9))) && (r10 == r11)) then
                                                        bif !(!(decide (r8 < r9))) || (!(decide (r8 < r9))) then
                                                          bif !(!(decide (r8 < r9))) || ((!(r10 == r11)) || ((!(decide (r8 < r9))) && (r10 == r11))) then
                                                            bif (decide (r8 < r9)) || (!(decide (r8 < r9))) then
                                                              bif (decide (r8 < r9)) || ((r10 == r11) && (slt ((List.getD a3 (Int.toNat a7) ((⟨#[]⟩ : ByteArray), ((⟨#[]⟩ : ByteArray), 0))).1) ((List.getD a3 (Int.toNat a6) ((⟨#[]⟩ : ByteArray), ((⟨#[]⟩ : ByteArray), 0))).1))) then
                                                                ref_Queued.l1 N x0 x2 k1 a2 a3 a4 k5 a7 (w (a7 + 1))
                                                              else
                                                                ref_Queued.l1 N x0 x2 k1 a2 a3 a4 k5 a6 (w (a7 + 1))
                                                            else
                                                              none
                                                          else
                                                            none
                                                        else
                                                          none
                                                      else
                                                        none
                                                    else
                                                      none
                                                  else
                                                    none
                                                else
                                                  none
                                              else
                                                none
                                            else
                                              none
                                          else
                                            none
                                        else
                                          none
                                      else
                                        none
                                    else
                                      none
                                  else
                                    none
                                else
                                  none
                              else
                                none
                            else
                              none
                          else
                            none
                        else
                          none
                      else
                        none
                    else
                      none
                  else
                    none
                else
                  none
              else
                none
            else
              none
          else
            none
        else
          none
      else
        none
    else
    bif (decide (0 ≤ a6)) && (decide (a6 < (a3.length : Int))) then
      bif decide ((Int.toNat a6) < a3.length) then
        bif (decide (0 ≤ a6)) && (decide (0 + (Int.toNat a6) ≤ a3.length)) then
          bif decide ((0 + (List.take (Int.toNat a6) a3).length) * 40 ≤ 140737488355328) && decide ((0 + (List.take (Int.toNat a6) a3).length) ≤ maxLen) then
            bif (decide (0 ≤ (w (a6 + 1)))) && (decide ((w (a6 + 1)) ≤ ((a3.length : Nat) : Int))) then
              bif decide (((List.take (Int.toNat a6) a3).length + (List.take (a3.length - (Int.toNat (w (a6 + 1)))) (List.drop (0 + (Int.toNat (w (a6 + 1)))) a3)).length) * 40 ≤ 140737488355328) && decide (((List.take (Int.toNat a6) a3).length + (List.take (a3.length - (Int.toNat (w (a6 + 1)))) (List.drop (0 + (Int.toNat (w (a6 + 1)))) a3)).length) ≤ maxLen) then
                (ref_Queued_1.fn N (List.getD a3 (Int.toNat a6) ((⟨#[]⟩ : ByteArray), ((⟨#[]⟩ : ByteArray), 0)), x0)).bind fun r12 =>
                (ref_Queued_1.fn N (List.getD a3 (Int.toNat a6) ((⟨#[]⟩ : ByteArray), ((⟨#[]⟩ : ByteArray), 0)), x0)).bind fun r13 =>
                bif decide (r13 < a2) then
                  ref_Queued.j2 N x0 x2 k1 a3 a4 a6 r12 a2
                else
                  ref_Queued.j2 N x0 x2 k1 a3 a4 a6 r12 r13
              else
                none
            else
              none
          else
            none
        else
          none
      else
        none
    else
      none := by kernel_rfl
theorem ref_Queued.l0_zero (N : Nat) (x0 : List (ByteArray × Int)) (x2 : Int) (a2 : Int) (a3 : List (ByteArray × ByteArray × Int)) (a4 : List (ByteArray × Int × Int × Int)) : ref_Queued.l0 N x0 x2 0 a2 a3 a4 = none := by kernel_rfl
theorem ref_Queued.l0_succ (N : Nat) (x0 : List (ByteArray × Int)) (x2 : Int) (k1 : Nat) (a2 : Int) (a3 : List (ByteArray × ByteArray × Int)) (a4 : List (ByteArray × Int × Int × Int)) : ref_Queued.l0 N x0 x2 (k1 + 1) a2 a3 a4 =
    bif decide ((a3.length : Int) > 0) then
      ref_Queued.l1 N x0 x2 k1 a2 a3 a4 N 0 0
    else
      some a4 := by kernel_rfl
theorem ref_Queued.l1_clean (N : Nat) (x0 : List (ByteArray × Int)) (x2 : Int) (k1 : Nat) (a2 : Int) (a3 : List (ByteArray × ByteArray × Int)) (a4 : List (ByteArray × Int × Int × Int)) (k5 : Nat) (a6 : Int) (a7 : Int) : ref_Queued.l1 N x0 x2 k1 a2 a3 a4 (k5 + 1) a6 a7 =
    bif decide (a7 < (a3.length : Int)) then
      bif (decide (0 ≤ a7)) && (decide (a7 < (a3.length : Int))) then
        bif decide ((Int.toNat a7) < a3.length) then
          (ref_Queued_1.fn N (List.getD a3 (Int.toNat a7) ((⟨#[]⟩ : ByteArray), ((⟨#[]⟩ : ByteArray), 0)), x0)).bind fun r8 =>
          bif (decide (0 ≤ a6)) && (decide (a6 < (a3.length : Int))) then
            bif decide ((Int.toNat a6) < a3.length) then
              (ref_Queued_1.fn N (List.getD a3 (Int.toNat a6) ((⟨#[]⟩ : ByteArray), ((⟨#[]⟩ : ByteArray), 0)), x0)).bind fun r9 =>
              (bif (!(decide (r8 < r9))) then ref_Queued_1.fn N (List.getD a3 (Int.toNat a7) ((⟨#[]⟩ : ByteArray), ((⟨#[]⟩ : ByteArray), 0)), x0) else some (0)).bind fun r10 =>
              bif ((decide (0 ≤ a6)) && (decide (a6 < (a3.length : Int)))) || !(!(decide (r8 < r9))) then
                bif (decide ((Int.toNat a6) < a3.length)) || !(!(decide (r8 < r9))) then
                  (bif (!(decide (r8 < r9))) then ref_Queued_1.fn N (List.getD a3 (Int.toNat a6) ((⟨#[]⟩ : ByteArray), ((⟨#[]⟩ : ByteArray), 0)), x0) else some (0)).bind fun r11 =>
                  bif ((decide (0 ≤ a6)) && (decide (a6 < (a3.length : Int)))) || !((!(decide (r8 < r9))) && (r10 == r11)) then
                    bif (decide ((Int.toNat a6) < a3.length)) || !((!(decide (r8 < r9))) && (r10 == r11)) then
                      bif (decide (r8 < r9)) || ((r10 == r11) && (slt ((List.getD a3 (Int.toNat a7) ((⟨#[]⟩ : ByteArray), ((⟨#[]⟩ : ByteArray), 0))).1) ((List.getD a3 (Int.toNat a6) ((⟨#[]⟩ : ByteArray), ((⟨#[]⟩ : ByteArray), 0))).1))) then
                        ref_Queued.l1 N x0 x2 k1 a2 a3 a4 k5 a7 (w (a7 + 1))
                      else
                        ref_Queued.l1 N x0 x2 k1 a2 a3 a4 k5 a6 (w (a7 + 1))
                    else
                      none
                  else
                    none
                else
                  none
              else
                none
            else
              none
          else
            none
        else
          none
      else
        none
    else
    bif (decide (0 ≤ a6)) && (decide (a6 < (a3.length : Int))) then
      bif decide ((Int.toNat a6) < a3.length) then
        bif (decide (0 ≤ a6)) && (decide (0 + (Int.toNat a6) ≤ a3.length)) then
          bif decide ((0 + (List.take (Int.toNat a6) a3).length) * 40 ≤ 140737488355328) && decide ((0 + (List.take (Int.toNat a6) a3).length) ≤ maxLen) then
            bif (decide (0 ≤ (w (a6 + 1)))) && (decide ((w (a6 + 1)) ≤ ((a3.length : Nat) : Int))) then
              bif decide (((List.take (Int.toNat a6) a3).length + (List.take (a3.length - (Int.toNat (w (a6 + 1)))) (List.drop (0 + (Int.toNat (w (a6 + 1)))) a3)).length) * 40 ≤ 140737488355328) && decide (((List.take (Int.toNat a6) a3).length + (List.take (a3.length - (Int.toNat (w (a6 + 1)))) (List.drop (0 + (Int.toNat (w (a6 + 1)))) a3)).length) ≤ maxLen) then
                (ref_Queued_1.fn N (List.getD a3 (Int.toNat a6) ((⟨#[]⟩ : ByteArray), ((⟨#[]⟩ : ByteArray), 0)), x0)).bind fun r12 =>
                (ref_Queued_1.fn N (List.getD a3 (Int.toNat a6) ((⟨#[]⟩ : ByteArray), ((⟨#[]⟩ : ByteArray), 0)), x0)).bind fun r13 =>
                bif decide (r13 < a2) then
                  ref_Queued.j2 N x0 x2 k1 a3 a4 a6 r12 a2
                else
                  ref_Queued.j2 N x0 x2 k1 a3 a4 a6 r12 r13
              else
                none
            else
              none
          else
            none
        else
          none
      else
        none
    else
      none := by
  rw [ref_Queued.l1_succ]; simp only [taut1, taut14, taut16, taut6, cond_true]
theorem ref_Queued.l1_cons (N : Nat) (x0 : List (ByteArray × Int)) (x2 : Int) (k1 : Nat) (a2 : Int) (a3 : List (ByteArray × ByteArray × Int)) (a4 : List (ByteArray × Int × Int × Int)) (k5 : Nat) (a6 : Int) {pre r} {x} (hl : a3 = pre ++ x :: r) (hb : a3.length < 4611686018427387904) : ref_Queued.l1 N x0 x2 k1 a2 a3 a4 (k5 + 1) a6 (pre.length : Int) =
    bif decide (pre.length < a3.length) then
      (ref_Queued_1.fn N (x, x0)).bind fun r8 =>
      bif (decide (0 ≤ a6)) && (decide (a6 < (a3.length : Int))) then
        bif decide ((Int.toNat a6) < a3.length) then
          (ref_Queued_1.fn N (List.getD a3 (Int.toNat a6) ((⟨#[]⟩ : ByteArray), ((⟨#[]⟩ : ByteArray), 0)), x0)).bind fun r9 =>
          (bif (!(decide (r8 < r9))) then ref_Queued_1.fn N (x, x0) else some (0)).bind fun r10 =>
          bif ((decide (0 ≤ a6)) && (decide (a6 < (a3.length : Int)))) || !(!(decide (r8 < r9))) then
            bif (decide ((Int.toNat a6) < a3.length)) || !(!(decide (r8 < r9))) then
              (bif (!(decide (r8 < r9))) then ref_Queued_1.fn N (List.getD a3 (Int.toNat a6) ((⟨#[]⟩ : ByteArray), ((⟨#[]⟩ : ByteArray), 0)), x0) else some (0)).bind fun r11 =>
              bif ((decide (0 ≤ a6)) && (decide (a6 < (a3.length : Int)))) || !((!(decide (r8 < r9))) && (r10 == r11)) then
                bif (decide ((Int.toNat a6) < a3.length)) || !((!(decide (r8 < r9))) && (r10 == r11)) then
                  bif (decide (r8 < r9)) || ((r10 == r11) && (slt (x.1) ((List.getD a3 (Int.toNat a6) ((⟨#[]⟩ : ByteArray), ((⟨#[]⟩ : ByteArray), 0))).1))) then
                    ref_Queued.l1 N x0 x2 k1 a2 a3 a4 k5 (pre.length : Int) ((pre.length : Int) + 1)
                  else
                    ref_Queued.l1 N x0 x2 k1 a2 a3 a4 k5 a6 ((pre.length : Int) + 1)
                else
                  none
              else
                none
            else
              none
          else
            none
        else
          none
      else
        none
    else
      none := by
  have hlen : a3.length = pre.length + 1 + r.length := by rw [hl]; simp; omega
  have e1 : decide ((pre.length : Int) < (a3.length : Int)) = true := by rw [decide_eq_true_iff]; omega
  have e2 : decide (0 ≤ (pre.length : Int)) = true := by rw [decide_eq_true_iff]; omega
  have e4 : w ((pre.length : Int) + 1) = (pre.length : Int) + 1 := w_next hl hb
  have e5 : List.take pre.length a3 = pre := by rw [hl]; simp
  have e6 : decide ((pre.length : Int) ≤ (a3.length : Int)) = true := by rw [decide_eq_true_iff]; omega
  have g0 : List.getD a3 pre.length ((⟨#[]⟩ : ByteArray), ((⟨#[]⟩ : ByteArray), 0)) = x := by rw [hl]; exact getD_mid pre x r _
  rw [ref_Queued.l1_clean]
  simp -implicitDefEqProofs only [Int.toNat_natCast, e1, e2, e4, e6, g0, e5, Bool.and_true, Bool.true_and, Bool.true_or, cond_true]
theorem ref_Queued.l1_nil (N : Nat) (x0 : List (ByteArray × Int)) (x2 : Int) (k1 : Nat) (a2 : Int) (a3 : List (ByteArray × ByteArray × Int)) (a4 : List (ByteArray × Int × Int × Int)) (k5 : Nat) (a6 : Int) : ref_Queued.l1 N x0 x2 k1 a2 a3 a4 (k5 + 1) a6 (a3.length : Int) =
    bif (decide (0 ≤ a6)) && (decide (a6 < (a3.length : Int))) then
      bif decide ((Int.toNat a6) < a3.length) then
        bif (decide (0 ≤ a6)) && (decide (0 + (Int.toNat a6) ≤ a3.length)) then
          bif decide ((0 + (List.take (Int.toNat a6) a3).length) * 40 ≤ 140737488355328) && decide ((0 + (List.take (Int.toNat a6) a3).length) ≤ maxLen) then
            bif (decide (0 ≤ (w (a6 + 1)))) && (decide ((w (a6 + 1)) ≤ ((a3.length : Nat) : Int))) then
              bif decide (((List.take (Int.toNat a6) a3).length + (List.take (a3.length - (Int.toNat (w (a6 + 1)))) (List.drop (0 + (Int.toNat (w (a6 + 1)))) a3)).length) * 40 ≤ 140737488355328) && decide (((List.take (Int.toNat a6) a3).length + (List.take (a3.length - (Int.toNat (w (a6 + 1)))) (List.drop (0 + (Int.toNat (w (a6 + 1)))) a3)).length) ≤ maxLen) then
                (ref_Queued_1.fn N (List.getD a3 (Int.toNat a6) ((⟨#[]⟩ : ByteArray), ((⟨#[]⟩ : ByteArray), 0)), x0)).bind fun r12 =>
                (ref_Queued_1.fn N (List.getD a3 (Int.toNat a6) ((⟨#[]⟩ : ByteArray), ((⟨#[]⟩ : ByteArray), 0)), x0)).bind fun r13 =>
                bif decide (r13 < a2) then
                  ref_Queued.j2 N x0 x2 k1 a3 a4 a6 r12 a2
                else
                  ref_Queued.j2 N x0 x2 k1 a3 a4 a6 r12 r13
              else
                none
            else
              none
          else
            none
        else
          none
      else
        none
    else
      none := by
  have e1 : decide ((a3.length : Int) < (a3.length : Int)) = false := by rw [decide_eq_false_iff_not]; omega
  rw [ref_Queued.l1_clean]
  simp -implicitDefEqProofs only [e1, cond_false]
theorem ref_Queued.eq (N : Nat) (x0 : List (ByteArray × Int)) (x1 : List (ByteArray × ByteArray × Int)) (x2 : Int) : ref_Queued.fn N (x0, x1, x2) =
    bif decide ((0 + x1.length) * 40 ≤ 140737488355328) && decide ((0 + x1.length) ≤ maxLen) then
      ref_Queued.l0 N x0 x2 N 0 x1 []
    else
      none := by kernel_rfl

/-! ### law_TaxiQueues: skyway/skywaylaw3.TaxiQueues -/
def law_TaxiQueues.kp : List (Nat × List (Nat × Option (TypeId × Ty))) := [(22, [(3, none), (11, none), (12, none), (14, none), (107, none), (108, none)]), (24, [(3, none), (11, none), (12, none), (14, none), (15, none), (107, none), (108, none)]), (1000010, [(0, none), (1, none), (2, none), (3, none), (9, none), (10, none), (11, none), (12, none), (13, none)]), (1000015, [(3, none), (9, none), (10, none), (11, none), (12, none), (13, none), (14, some (76, .pair (.str) (.pair (.int .i64) (.pair (.int .i64) (.int .i64)))))]), (1000019, [(3, none), (11, none), (12, none), (13, none), (14, none)])]
noncomputable def law_TaxiQueues.G (N : Nat) : List (Nat × Spec) := [(38, .pure (law_taxiFact.S N)), (39, .pure (taxi_Queue.S N)), (40, .pure (taxi_Late.S N)), (41, .pure (ref_AsksError.S N)), (42, .pure (taxi_Stands.S N)), (43, .pure (ref_StandsError.S N)), (44, .pure (taxi_Check.S N)), (45, .pure (ref_Queued.S N)), (46, .pure (slices_Equal_TaxiMove.S N))]
noncomputable def law_TaxiQueues.E (N : Nat) : Env := mkEnv (law_TaxiQueues.G N) N tyTab law_TaxiQueues.kp
noncomputable def law_TaxiQueues.fn (N : Nat) (x : List (ByteArray × Int) × List (ByteArray × ByteArray × Int) × Int × Int) : Option Bool := evFn (law_TaxiQueues.E N) Try.prog 3 Try.f7 false [.cell (.sl 133 (.pair (.str) (.int .i64))), .cell (.sl 135 (.pair (.str) (.pair (.str) (.int .i64)))), .cell (.int .i64), .cell (.int .i64)] [.val (.cell (.bool))] x
noncomputable def law_TaxiQueues.S (N : Nat) : PSpec := ⟨false, [.cell (.sl 133 (.pair (.str) (.int .i64))), .cell (.sl 135 (.pair (.str) (.pair (.str) (.int .i64)))), .cell (.int .i64), .cell (.int .i64)], [.val (.cell (.bool))], law_TaxiQueues.fn N⟩
theorem f7_enters : Enters Try.prog 7 := ⟨Try.f7, Try.func7, by kernel_rfl, by kernel_rfl⟩
theorem law_TaxiQueues.tab (N : Nat) : TabOk Try.prog (law_TaxiQueues.G N) := ⟨⟨law_taxiFact.enters, law_taxiFact.sound N⟩, ⟨taxi_Queue.enters, taxi_Queue.sound N⟩, ⟨taxi_Late.enters, taxi_Late.sound N⟩, ⟨ref_AsksError.enters, ref_AsksError.sound N⟩, ⟨taxi_Stands.enters, taxi_Stands.sound N⟩, ⟨ref_StandsError.enters, ref_StandsError.sound N⟩, ⟨taxi_Check.enters, taxi_Check.sound N⟩, ⟨ref_Queued.enters, ref_Queued.sound N⟩, ⟨slices_Equal_TaxiMove.enters, slices_Equal_TaxiMove.sound N⟩, trivial⟩
theorem law_TaxiQueues.enters : Enters Try.prog 7 := f7_enters
theorem law_TaxiQueues.sound (N : Nat) : Sound Try.prog 7 (law_TaxiQueues.S N) := evFn_sound (specs_tab (law_TaxiQueues.tab N)) (inls_tab (law_TaxiQueues.tab N)) mixed 3 Try.func7 _ _ _
noncomputable def law_TaxiQueues.cd (N : Nat) (p : List Nat) : St → (Ex → St → Option Bool) → Option Bool := ev (law_TaxiQueues.E N) Try.prog (callD (law_TaxiQueues.E N) Try.prog 3) 0 (codeAt (bodyOf Try.f7) p)
noncomputable def law_TaxiQueues.fin : Ex → St → Option Bool := endK Try.prog Try.f7 [.val (.cell (.bool))]
noncomputable def law_TaxiQueues.j0 (N : Nat) (x0 : List (ByteArray × Int)) (x1 : List (ByteArray × ByteArray × Int)) (x2 : Int) (x3 : Int) (r2 : List (ByteArray × Int × Int × Int) × Int) (r3 : List (ByteArray × Int × Int × Int) × Int) (a8 : Int) : Option Bool :=
  fuelK N (region (law_TaxiQueues.E N) Try.prog (callD (law_TaxiQueues.E N) Try.prog 3) (opsAt (codeAt (bodyOf Try.f7) [1, 1, 1, 1, 1, 1, 1, 0])) false
  ⟨[.ros false 133 (.pair (.str) (.int .i64)) x0, .ros false 135 (.pair (.str) (.pair (.str) (.int .i64))) x1, .sc (.int .i64 x2), .sc (.int .i64 x3), .any, .any, .any, .any, .any, .own 0, .sc (.int .i64 r2.2), .own 1, .sc (.int .i64 r3.2), .sc (.int .i64 a8), .any, .any, .any, .any, .any, .any, .any, .any, .any, .any, .any, .any, .any, .any, .any, .any, .any, .any, .any, .any, .any, .any, .any, .any, .any, .any, .any, .any, .any, .any, .any, .any, .any, .any, .any, .any, .any, .any, .any, .any, .any, .any, .any, .any, .any, .any, .any, .any, .any, .any, .any, .any, .any, .any, .any, .any, .any, .any, .any, .any, .any, .any, .any, .any, .any, .any, .any, .any, .any, .any, .any, .any, .any, .any, .any, .any, .any, .any, .any, .any, .any, .any, .any, .any, .any, .any, .any, .any, .any, .any, .any, .any, .any, .any, .any, .any, .any, .any, .any, .any, .any, .any, .any, .any, .any, .any, .any, .any, .any, .any, .any, .any, .any, .any, .any, .any, .any, .any, .any, .any, .any, .any, .any, .any, .any, .any, .any, .any, .any, .any, .any, .any, .any, .any], [.rows true 76 (.pair (.str) (.pair (.int .i64) (.pair (.int .i64) (.int .i64)))) r2.1, .rows true 76 (.pair (.str) (.pair (.int .i64) (.pair (.int .i64) (.int .i64)))) r3.1]⟩
  (fun S => (seqK (law_TaxiQueues.cd N [1, 1, 1, 1, 1, 1, 1, 1]) law_TaxiQueues.fin) .normal S))
noncomputable def law_TaxiQueues.j1 (N : Nat) (x3 : Int) (r2 : List (ByteArray × Int × Int × Int) × Int) (r3 : List (ByteArray × Int × Int × Int) × Int) (a9 : Int) (a10 : List (ByteArray × Int × Int × Int)) : Option Bool :=
  fuelK N (region (law_TaxiQueues.E N) Try.prog (callD (law_TaxiQueues.E N) Try.prog 3) (opsAt (codeAt (bodyOf Try.f7) [1, 1, 1, 1, 1, 1, 1, 1, 1, 0, 0])) false
  ⟨[.any, .any, .any, .sc (.int .i64 x3), .any, .any, .any, .any, .any, .own 0, .sc (.int .i64 r2.2), .own 1, .sc (.int .i64 r3.2), .sc (.int .i64 a9), .own 2, .any, .any, .any, .any, .any, .any, .any, .any, .any, .any, .any, .any, .any, .any, .any, .any, .any, .any, .any, .any, .any, .any, .any, .any, .any, .any, .any, .any, .any, .any, .any, .any, .any, .any, .any, .any, .any, .any, .any, .any, .any, .any, .any, .any, .any, .any, .any, .any, .any, .any, .any, .any, .any, .any, .any, .any, .any, .any, .any, .any, .any, .any, .any, .any, .any, .any, .any, .any, .any, .any, .any, .any, .any, .any, .any, .any, .any, .any, .any, .any, .any, .any, .any, .any, .any, .any, .any, .any, .any, .any, .any, .any, .any, .any, .any, .any, .any, .any, .any, .any, .any, .any, .any, .any, .any, .any, .any, .any, .any, .any, .any, .any, .any, .any, .any, .any, .any, .any, .any, .any, .any, .any, .any, .any, .any, .any, .any, .any, .any, .any, .any, .any, .any], [.rows true 76 (.pair (.str) (.pair (.int .i64) (.pair (.int .i64) (.int .i64)))) r2.1, .rows true 76 (.pair (.str) (.pair (.int .i64) (.pair (.int .i64) (.int .i64)))) r3.1, .rows true 76 (.pair (.str) (.pair (.int .i64) (.pair (.int .i64) (.int .i64)))) a10]⟩
  (fun S => (seqK (law_TaxiQueues.cd N [1, 1, 1, 1, 1, 1, 1, 1, 1, 0, 1]) (seqK (law_TaxiQueues.cd N [1, 1, 1, 1, 1, 1, 1, 1, 1, 1]) law_TaxiQueues.fin)) .normal S))
noncomputable def law_TaxiQueues.j2 (N : Nat) (x3 : Int) (r3 : List (ByteArray × Int × Int × Int) × Int) (a10 : List (ByteArray × Int × Int × Int)) (a12 : Int) : Option Bool :=
  fuelK N (region (law_TaxiQueues.E N) Try.prog (callD (law_TaxiQueues.E N) Try.prog 3) (opsAt (codeAt (bodyOf Try.f7) [1, 1, 1, 1, 1, 1, 1, 1, 1, 1, 1, 0, 0])) false
  ⟨[.any, .any, .any, .sc (.int .i64 x3), .any, .any, .any, .any, .any, .any, .any, .own 0, .sc (.int .i64 r3.2), .sc (.int .i64 a12), .own 1, .any, .any, .any, .any, .any, .any, .any, .any, .any, .any, .any, .any, .any, .any, .any, .any, .any, .any, .any, .any, .any, .any, .any, .any, .any, .any, .any, .any, .any, .any, .any, .any, .any, .any, .any, .any, .any, .any, .any, .any, .any, .any, .any, .any, .any, .any, .any, .any, .any, .any, .any, .any, .any, .any, .any, .any, .any, .any, .any, .any, .any, .any, .any, .any, .any, .any, .any, .any, .any, .any, .any, .any, .any, .any, .any, .any, .any, .any, .any, .any, .any, .any, .any, .any, .any, .any, .any, .any, .any, .any, .any, .any, .any, .any, .any, .any, .any, .any, .any, .any, .any, .any, .any, .any, .any, .any, .any, .any, .any, .any, .any, .any, .any, .any, .any, .any, .any, .any, .any, .any, .any, .any, .any, .any, .any, .any, .any, .any, .any, .any, .any, .any, .any], [.rows true 76 (.pair (.str) (.pair (.int .i64) (.pair (.int .i64) (.int .i64)))) r3.1, .rows true 76 (.pair (.str) (.pair (.int .i64) (.pair (.int .i64) (.int .i64)))) a10]⟩
  (fun S => (seqK (law_TaxiQueues.cd N [1, 1, 1, 1, 1, 1, 1, 1, 1, 1, 1, 0, 1]) (seqK (law_TaxiQueues.cd N [1, 1, 1, 1, 1, 1, 1, 1, 1, 1, 1, 1]) law_TaxiQueues.fin)) .normal S))
noncomputable def law_TaxiQueues.l3 (N : Nat) (x3 : Int) (r3 : List (ByteArray × Int × Int × Int) × Int) (a10 : List (ByteArray × Int × Int × Int)) (k13 : Nat) (a14 : Int) (a15 : List (ByteArray × Int × Int × Int)) : Option Bool :=
  loopN (norm ((law_TaxiQueues.E N).keep 22) 0) (law_TaxiQueues.cd N [1, 1, 1, 1, 1, 1, 1, 1, 1, 1, 1, 1, 0, 1, 0, 0]) k13
  ⟨[.any, .any, .any, .sc (.int .i64 x3), .any, .any, .any, .any, .any, .any, .any, .own 0, .sc (.int .i64 r3.2), .any, .own 1, .any, .any, .any, .any, .any, .any, .any, .any, .any, .any, .any, .any, .any, .any, .any, .any, .any, .any, .any, .any, .any, .any, .any, .any, .any, .any, .any, .any, .any, .any, .any, .any, .any, .any, .any, .any, .any, .any, .any, .any, .any, .any, .any, .any, .any, .any, .any, .any, .any, .any, .any, .any, .any, .any, .any, .any, .any, .any, .any, .any, .any, .any, .any, .any, .any, .any, .any, .any, .any, .any, .any, .any, .any, .any, .any, .any, .any, .any, .any, .any, .any, .any, .any, .any, .any, .any, .any, .any, .any, .any, .any, .any, .sc (.int .i64 (a10.length : Int)), .sc (.int .i64 a14), .any, .any, .any, .any, .any, .any, .any, .any, .any, .any, .any, .any, .any, .any, .any, .any, .any, .any, .any, .any, .any, .any, .any, .any, .any, .any, .any, .any, .any, .any, .any, .any, .any, .any, .any, .any, .any, .any, .any], [.rows true 76 (.pair (.str) (.pair (.int .i64) (.pair (.int .i64) (.int .i64)))) r3.1, .rows true 76 (.pair (.str) (.pair (.int .i64) (.pair (.int .i64) (.int .i64)))) a15]⟩
  (blockK 0 (seqK (law_TaxiQueues.cd N [1, 1, 1, 1, 1, 1, 1, 1, 1, 1, 1, 1, 1]) law_TaxiQueues.fin))
noncomputable def law_TaxiQueues.l4 (N : Nat) (x3 : Int) (r3 : List (ByteArray × Int × Int × Int) × Int) (a10 : List (ByteArray × Int × Int × Int)) (k13 : Nat) (a14 : Int) (k16 : Nat) (a17 : List (ByteArray × Int × Int × Int)) : Option Bool :=
  loopN (norm ((law_TaxiQueues.E N).keep 24) 0) (law_TaxiQueues.cd N [1, 1, 1, 1, 1, 1, 1, 1, 1, 1, 1, 1, 0, 1, 0, 0, 1, 1, 0, 0, 1, 0, 0]) k16
  ⟨[.any, .any, .any, .sc (.int .i64 x3), .any, .any, .any, .any, .any, .any, .any, .own 0, .sc (.int .i64 r3.2), .any, .own 1, .sc (.int .i64 a14), .any, .any, .any, .any, .any, .any, .any, .any, .any, .any, .any, .any, .any, .any, .any, .any, .any, .any, .any, .any, .any, .any, .any, .any, .any, .any, .any, .any, .any, .any, .any, .any, .any, .any, .any, .any, .any, .any, .any, .any, .any, .any, .any, .any, .any, .any, .any, .any, .any, .any, .any, .any, .any, .any, .any, .any, .any, .any, .any, .any, .any, .any, .any, .any, .any, .any, .any, .any, .any, .any, .any, .any, .any, .any, .any, .any, .any, .any, .any, .any, .any, .any, .any, .any, .any, .any, .any, .any, .any, .any, .any, .sc (.int .i64 (a10.length : Int)), .sc (.int .i64 a14), .any, .any, .any, .any, .any, .any, .any, .any, .any, .any, .any, .any, .any, .any, .any, .any, .any, .any, .any, .any, .any, .any, .any, .any, .any, .any, .any, .any, .any, .any, .any, .any, .any, .any, .any, .any, .any, .any, .any], [.rows true 76 (.pair (.str) (.pair (.int .i64) (.pair (.int .i64) (.int .i64)))) r3.1, .rows true 76 (.pair (.str) (.pair (.int .i64) (.pair (.int .i64) (.int .i64)))) a17]⟩
  (blockK 2 (blockK 1 (seqK (law_TaxiQueues.cd N [1, 1, 1, 1, 1, 1, 1, 1, 1, 1, 1, 1, 0, 1, 0, 0, 1, 1, 1]) (loopK (norm ((law_TaxiQueues.E N).keep 22) 0) (law_TaxiQueues.cd N [1, 1, 1, 1, 1, 1, 1, 1, 1, 1, 1, 1, 0, 1, 0, 0]) k13 (blockK 0 (seqK (law_TaxiQueues.cd N [1, 1, 1, 1, 1, 1, 1, 1, 1, 1, 1, 1, 1]) law_TaxiQueues.fin))))))
theorem law_TaxiQueues.l4_zero (N : Nat) (x3 : Int) (r3 : List (ByteArray × Int × Int × Int) × Int) (a10 : List (ByteArray × Int × Int × Int)) (k13 : Nat) (a14 : Int) (a17 : List (ByteArray × Int × Int × Int)) : law_TaxiQueues.l4 N x3 r3 a10 k13 a14 0 a17 = none := by kernel_rfl
theorem law_TaxiQueues.l4_succ (N : Nat) (x3 : Int) (r3 : List (ByteArray × Int × Int × Int) × Int) (a10 : List (ByteArray × Int × Int × Int)) (k13 : Nat) (a14 : Int) (k16 : Nat) (a17 : List (ByteArray × Int × Int × Int)) : law_TaxiQueues.l4 N x3 r3 a10 k13 a14 (k16 + 1) a17 =
    bif (decide (0 ≤ a14)) && (decide (a14 < (a17.length : Int))) then
      bif decide ((Int.toNat a14) < a17.length) then
        bif (decide (0 ≤ a14)) && (decide (a14 < (a17.length : Int))) then
          bif decide ((Int.toNat a14) < a17.length) then
            bif decide ((w (((((List.getD a17 (Int.toNat a14) ((⟨#[]⟩ : ByteArray), (0, (0, 0)))).2).2).2) - ((((List.getD a17 (Int.toNat a14) ((⟨#[]⟩ : ByteArray), (0, (0, 0)))).2).2).1))) > x3) then
              bif (decide (0 ≤ a14)) && (decide (a14 < (a17.length : Int))) then
                bif decide ((Int.toNat a14) < a17.length) then
                  bif (decide (0 ≤ a14)) && (decide (a14 < (a17.length : Int))) then
                    bif decide ((Int.toNat a14) < a17.length) then
                      bif (decide (0 ≤ a14)) && (decide (a14 < ((List.set a17 (Int.toNat a14) ((List.getD a17 (Int.toNat a14) ((⟨#[]⟩ : ByteArray), (0, (0, 0)))).1, ((w ((((List.getD a17 (Int.toNat a14) ((⟨#[]⟩ : ByteArray), (0, (0, 0)))).2).1) + 1)), ((List.getD a17 (Int.toNat a14) ((⟨#[]⟩ : ByteArray), (0, (0, 0)))).2).2))).length : Int))) then
                        bif decide ((Int.toNat a14) < (List.set a17 (Int.toNat a14) ((List.getD a17 (Int.toNat a14) ((⟨#[]⟩ : ByteArray), (0, (0, 0)))).1, ((w ((((List.getD a17 (Int.toNat a14) ((⟨#[]⟩ : ByteArray), (0, (0, 0)))).2).1) + 1)), ((List.getD a17 (Int.toNat a14) ((⟨#[]⟩ : ByteArray), (0, (0, 0)))).2).2))).length) then
                          bif (decide (0 ≤ a14)) && (decide (a14 < ((List.set a17 (Int.toNat a14) ((List.getD a17 (Int.toNat a14) ((⟨#[]⟩ : ByteArray), (0, (0, 0)))).1, ((w ((((List.getD a17 (Int.toNat a14) ((⟨#[]⟩ : ByteArray), (0, (0, 0)))).2).1) + 1)), ((List.getD a17 (Int.toNat a14) ((⟨#[]⟩ : ByteArray), (0, (0, 0)))).2).2))).length : Int))) then
                            bif decide ((Int.toNat a14) < (List.set a17 (Int.toNat a14) ((List.getD a17 (Int.toNat a14) ((⟨#[]⟩ : ByteArray), (0, (0, 0)))).1, ((w ((((List.getD a17 (Int.toNat a14) ((⟨#[]⟩ : ByteArray), (0, (0, 0)))).2).1) + 1)), ((List.getD a17 (Int.toNat a14) ((⟨#[]⟩ : ByteArray), (0, (0, 0)))).2).2))).length) then
                              law_TaxiQueues.l4 N x3 r3 a10 k13 a14 k16 (List.set (List.set a17 (Int.toNat a14) ((List.getD a17 (Int.toNat a14) ((⟨#[]⟩ : ByteArray), (0, (0, 0)))).1, ((w ((((List.getD a17 (Int.toNat a14) ((⟨#[]⟩ : ByteArray), (0, (0, 0)))).2).1) + 1)), ((List.getD a17 (Int.toNat a14) ((⟨#[]⟩ : ByteArray), (0, (0, 0)))).2).2))) (Int.toNat a14) ((List.getD (List.set a17 (Int.toNat a14) ((List.getD a17 (Int.toNat a14) ((⟨#[]⟩ : ByteArray), (0, (0, 0)))).1, ((w ((((List.getD a17 (Int.toNat a14) ((⟨#[]⟩ : ByteArray), (0, (0, 0)))).2).1) + 1)), ((List.getD a17 (Int.toNat a14) ((⟨#[]⟩ : ByteArray), (0, (0, 0)))).2).2))) (Int.toNat a14) ((⟨#[]⟩ : ByteArray), (0, (0, 0)))).1, (((List.getD (List.set a17 (Int.toNat a14) ((List.getD a17 (Int.toNat a14) ((⟨#[]⟩ : ByteArray), (0, (0, 0)))).1, ((w ((((List.getD a17 (Int.toNat a14) ((⟨#[]⟩ : ByteArray), (0, (0, 0)))).2).1) + 1)), ((List.getD a17 (Int.toNat a14) ((⟨#[]⟩ : ByteArray), (0, (0, 0)))).2).2))) (Int.toNat a14) ((⟨#[]⟩ : ByteArray), (0, (0, 0)))).2).1, ((w (((((List.getD (List.set a17 (Int.toNat a14) ((List.getD a17 (Int.toNat a14) ((⟨#[]⟩ : ByteArray), (0, (0, 0)))).1, ((w ((((List.getD a17 (Int.toNat a14) ((⟨#[]⟩ : ByteArray), (0, (0, 0)))).2).1) + 1)), ((List.getD a17 (Int.toNat a14) ((⟨#[]⟩ : ByteArray), (0, (0, 0)))).2).2))) (Int.toNat a14) ((⟨#[]⟩ : ByteArray), (0, (0, 0)))).2).2).1) + 1)), (((List.getD (List.set a17 (Int.toNat a14) ((List.getD a17 (Int.toNat a14) ((⟨#[]⟩ : ByteArray), (0, (0, 0)))).1, ((w ((((List.getD a17 (Int.toNat a14) ((⟨#[]⟩ : ByteArray), (0, (0, 0)))).2).1) + 1)), ((List.getD a17 (Int.toNat a14) ((⟨#[]⟩ : ByteArray), (0, (0, 0)))).2).2))) (Int.toNat a14) ((⟨#[]⟩ : ByteArray), (0, (0, 0)))).2).2).2))))
                            else
                              none
                          else
                            none
                        else
                          none
                      else
                        none
                    else
                      none
                  else
                    none
                else
                  none
              else
                none
            else
              law_TaxiQueues.l3 N x3 r3 a10 k13 (w (a14 + 1)) a17
          else
            none
        else
          none
      else
        none
    else
      none := by kernel_rfl
theorem law_TaxiQueues.l3_zero (N : Nat) (x3 : Int) (r3 : List (ByteArray × Int × Int × Int) × Int) (a10 : List (ByteArray × Int × Int × Int)) (a14 : Int) (a15 : List (ByteArray × Int × Int × Int)) : law_TaxiQueues.l3 N x3 r3 a10 0 a14 a15 = none := by kernel_rfl
theorem law_TaxiQueues.l3_succ (N : Nat) (x3 : Int) (r3 : List (ByteArray × Int × Int × Int) × Int) (a10 : List (ByteArray × Int × Int × Int)) (k13 : Nat) (a14 : Int) (a15 : List (ByteArray × Int × Int × Int)) : law_TaxiQueues.l3 N x3 r3 a10 (k13 + 1) a14 a15 =
    bif decide (a14 < (a10.length : Int)) then
      law_TaxiQueues.l4 N x3 r3 a10 k13 a14 N a15
    else
    bif !(r3.2 == 0) || (r3.2 == 0) then
      bif !(r3.2 == 0) || (r3.2 == 0) then
        (bif (r3.2 == 0) then slices_Equal_TaxiMove.fn N (r3.1, a15) else some (false)).bind fun r18 =>
        bif (!(r3.2 == 0)) || (r3.2 == 0) then
          some ((r3.2 == 0) && r18)
        else
          none
      else
        none
    else
      none := by kernel_rfl
theorem law_TaxiQueues.j2_eq (N : Nat) (x3 : Int) (r3 : List (ByteArray × Int × Int × Int) × Int) (a10 : List (ByteArray × Int × Int × Int)) (a12 : Int) {M : Nat} (hM : N = M + 1) : law_TaxiQueues.j2 N x3 r3 a10 a12 =
    bif !(a12 == 0) then
      bif !(r3.2 == a12) || (r3.2 == a12) then
        bif !(r3.2 == a12) || (r3.2 == a12) then
          bif (!(r3.2 == a12)) || (r3.2 == a12) then
            some ((r3.2 == a12) && ((r3.1.length : Int) == 0))
          else
            none
        else
          none
      else
        none
    else
      law_TaxiQueues.l3 N x3 r3 a10 N 0 a10 := (fuelK_eq hM _).trans (by kernel_rfl)
theorem law_TaxiQueues.j1_eq (N : Nat) (x3 : Int) (r2 : List (ByteArray × Int × Int × Int) × Int) (r3 : List (ByteArray × Int × Int × Int) × Int) (a9 : Int) (a10 : List (ByteArray × Int × Int × Int)) {M : Nat} (hM : N = M + 1) : law_TaxiQueues.j1 N x3 r2 r3 a9 a10 =
    bif !(!(!(r2.2 == a9))) || (!(!(r2.2 == a9))) then
      bif !(!(!(r2.2 == a9))) || (!(!(r2.2 == a9))) then
        (bif (!(!(r2.2 == a9))) then slices_Equal_TaxiMove.fn N (r2.1, a10) else some (false)).bind fun r11 =>
        bif !(!(!(r2.2 == a9))) || (!(!(r2.2 == a9))) then
          bif (!(r2.2 == a9)) || (!(!(r2.2 == a9))) then
            bif (!(r2.2 == a9)) || (!r11) then
              some false
            else
            bif !(a9 == 0) || (a9 == 0) then
              bif !(a9 == 0) || (a9 == 0) then
                bif !((a9 == 0) && (!(decide (x3 < 0)))) || ((a9 == 0) && (!(decide (x3 < 0)))) then
                  bif !(a9 == 0) || (a9 == 0) then
                    bif !(a9 == 0) || ((decide (x3 < 0)) || ((a9 == 0) && (!(decide (x3 < 0))))) then
                      bif (!(a9 == 0)) || (a9 == 0) then
                        bif (a9 == 0) && ((decide (x3 < 0)) || (decide (x3 > 1800))) then
                          law_TaxiQueues.j2 N x3 r3 a10 4
                        else
                          law_TaxiQueues.j2 N x3 r3 a10 a9
                      else
                        none
                    else
                      none
                  else
                    none
                else
                  none
              else
                none
            else
              none
          else
            none
        else
          none
      else
        none
    else
      none := (fuelK_eq hM _).trans (by kernel_rfl)
theorem law_TaxiQueues.j0_eq (N : Nat) (x0 : List (ByteArray × Int)) (x1 : List (ByteArray × ByteArray × Int)) (x2 : Int) (x3 : Int) (r2 : List (ByteArray × Int × Int × Int) × Int) (r3 : List (ByteArray × Int × Int × Int) × Int) (a8 : Int) {M : Nat} (hM : N = M + 1) : law_TaxiQueues.j0 N x0 x1 x2 x3 r2 r3 a8 =
    bif a8 == 0 then
      (ref_Queued.fn N (x0, x1, x2)).bind fun r19 =>
      bif !(decide ((r19.length : Int) > 0)) || (decide ((r19.length : Int) > 0)) then
        bif !(decide ((r19.length : Int) > 0)) || (decide ((r19.length : Int) > 0)) then
          bif !(decide ((r19.length : Int) > 0)) || (decide ((r19.length : Int) > 0)) then
            bif !(decide ((r19.length : Int) > 0)) || (decide ((r19.length : Int) > 0)) then
              bif ((decide (0 ≤ (w ((r19.length : Int) - 1)))) && (decide ((w ((r19.length : Int) - 1)) < (r19.length : Int)))) || !(decide ((r19.length : Int) > 0)) then
                bif !(decide ((r19.length : Int) > 0)) || (decide ((r19.length : Int) > 0)) then
                  bif !(decide ((r19.length : Int) > 0)) || (decide ((r19.length : Int) > 0)) then
                    bif (decide ((Int.toNat (w ((r19.length : Int) - 1))) < r19.length)) || !(decide ((r19.length : Int) > 0)) then
                      bif !(decide ((r19.length : Int) > 0)) || (decide ((r19.length : Int) > 0)) then
                        bif (!(decide ((r19.length : Int) > 0))) || (decide ((r19.length : Int) > 0)) then
                          bif (decide ((r19.length : Int) > 0)) && (decide (((((List.getD r19 (Int.toNat (w ((r19.length : Int) - 1))) ((⟨#[]⟩ : ByteArray), (0, (0, 0)))).2).2).2) > 200000)) then
                            law_TaxiQueues.j1 N x3 r2 r3 12 []
                          else
                            law_TaxiQueues.j1 N x3 r2 r3 a8 r19
                        else
                          none
                      else
                        none
                    else
                      none
                  else
                    none
                else
                  none
              else
                none
            else
              none
          else
            none
        else
          none
      else
        none
    else
      law_TaxiQueues.j1 N x3 r2 r3 a8 [] := (fuelK_eq hM _).trans (by kernel_rfl)
theorem law_TaxiQueues.l3_clean (N : Nat) (x3 : Int) (r3 : List (ByteArray × Int × Int × Int) × Int) (a10 : List (ByteArray × Int × Int × Int)) (k13 : Nat) (a14 : Int) (a15 : List (ByteArray × Int × Int × Int)) : law_TaxiQueues.l3 N x3 r3 a10 (k13 + 1) a14 a15 =
    bif decide (a14 < (a10.length : Int)) then
      law_TaxiQueues.l4 N x3 r3 a10 k13 a14 N a15
    else
    (bif (r3.2 == 0) then slices_Equal_TaxiMove.fn N (r3.1, a15) else some (false)).bind fun r18 =>
    some ((r3.2 == 0) && r18) := by
  rw [law_TaxiQueues.l3_succ]; simp only [taut11, taut12, cond_true]
theorem law_TaxiQueues.j2_clean (N : Nat) (x3 : Int) (r3 : List (ByteArray × Int × Int × Int) × Int) (a10 : List (ByteArray × Int × Int × Int)) (a12 : Int) {M : Nat} (hM : N = M + 1) : law_TaxiQueues.j2 N x3 r3 a10 a12 =
    bif !(a12 == 0) then
      some ((r3.2 == a12) && ((r3.1.length : Int) == 0))
    else
      law_TaxiQueues.l3 N x3 r3 a10 N 0 a10 := by
  rw [law_TaxiQueues.j2_eq (hM := hM)]; simp only [taut11, taut12, cond_true]
theorem taut19 : ∀ p0 : Bool, ((!(!(!(p0))) || (!(!(p0))))) = true := by decide
theorem taut20 : ∀ p0 p1 : Bool, ((!((p0) && (!(p1))) || ((p0) && (!(p1))))) = true := by decide
theorem taut21 : ∀ p0 p1 : Bool, ((!(p0) || ((p1) || ((p0) && (!(p1)))))) = true := by decide
theorem taut22 : ∀ p0 : Bool, (((!(p0)) || (!(!(p0))))) = true := by decide
theorem law_TaxiQueues.j1_clean (N : Nat) (x3 : Int) (r2 : List (ByteArray × Int × Int × Int) × Int) (r3 : List (ByteArray × Int × Int × Int) × Int) (a9 : Int) (a10 : List (ByteArray × Int × Int × Int)) {M : Nat} (hM : N = M + 1) : law_TaxiQueues.j1 N x3 r2 r3 a9 a10 =
    (bif (!(!(r2.2 == a9))) then slices_Equal_TaxiMove.fn N (r2.1, a10) else some (false)).bind fun r11 =>
    bif (!(r2.2 == a9)) || (!r11) then
      some false
    else
    bif (a9 == 0) && ((decide (x3 < 0)) || (decide (x3 > 1800))) then
      law_TaxiQueues.j2 N x3 r3 a10 4
    else
      law_TaxiQueues.j2 N x3 r3 a10 a9 := by
  rw [law_TaxiQueues.j1_eq (hM := hM)]; simp only [taut19, taut20, taut21, taut11, taut22, taut12, cond_true]
theorem law_TaxiQueues.j0_clean (N : Nat) (x0 : List (ByteArray × Int)) (x1 : List (ByteArray × ByteArray × Int)) (x2 : Int) (x3 : Int) (r2 : List (ByteArray × Int × Int × Int) × Int) (r3 : List (ByteArray × Int × Int × Int) × Int) (a8 : Int) {M : Nat} (hM : N = M + 1) : law_TaxiQueues.j0 N x0 x1 x2 x3 r2 r3 a8 =
    bif a8 == 0 then
      (ref_Queued.fn N (x0, x1, x2)).bind fun r19 =>
      bif ((decide (0 ≤ (w ((r19.length : Int) - 1)))) && (decide ((w ((r19.length : Int) - 1)) < (r19.length : Int)))) || !(decide ((r19.length : Int) > 0)) then
        bif (decide ((Int.toNat (w ((r19.length : Int) - 1))) < r19.length)) || !(decide ((r19.length : Int) > 0)) then
          bif (decide ((r19.length : Int) > 0)) && (decide (((((List.getD r19 (Int.toNat (w ((r19.length : Int) - 1))) ((⟨#[]⟩ : ByteArray), (0, (0, 0)))).2).2).2) > 200000)) then
            law_TaxiQueues.j1 N x3 r2 r3 12 []
          else
            law_TaxiQueues.j1 N x3 r2 r3 a8 r19
        else
          none
      else
        none
    else
      law_TaxiQueues.j1 N x3 r2 r3 a8 [] := by
  rw [law_TaxiQueues.j0_eq (hM := hM)]; simp only [taut11, taut12, cond_true]
theorem law_TaxiQueues.l3_cons (N : Nat) (x3 : Int) (r3 : List (ByteArray × Int × Int × Int) × Int) (a10 : List (ByteArray × Int × Int × Int)) (k13 : Nat) (a15 : List (ByteArray × Int × Int × Int)) {pre r} {x} (hl : a10 = pre ++ x :: r) (hb : a10.length < 4611686018427387904) : law_TaxiQueues.l3 N x3 r3 a10 (k13 + 1) (pre.length : Int) a15 =
    law_TaxiQueues.l4 N x3 r3 a10 k13 (pre.length : Int) N a15 := by
  have hlen : a10.length = pre.length + 1 + r.length := by rw [hl]; simp; omega
  have e1 : decide ((pre.length : Int) < (a10.length : Int)) = true := by rw [decide_eq_true_iff]; omega
  have e2 : decide (0 ≤ (pre.length : Int)) = true := by rw [decide_eq_true_iff]; omega
  have e4 : w ((pre.length : Int) + 1) = (pre.length : Int) + 1 := w_next hl hb
  have e5 : List.take pre.length a10 = pre := by rw [hl]; simp
  have e6 : decide ((pre.length : Int) ≤ (a10.length : Int)) = true := by rw [decide_eq_true_iff]; omega
  rw [law_TaxiQueues.l3_clean]
  simp -implicitDefEqProofs only [Int.toNat_natCast, e1, e2, e4, e6, e5, Bool.and_true, Bool.true_and, Bool.true_or, cond_true]
theorem law_TaxiQueues.l3_nil (N : Nat) (x3 : Int) (r3 : List (ByteArray × Int × Int × Int) × Int) (a10 : List (ByteArray × Int × Int × Int)) (k13 : Nat) (a15 : List (ByteArray × Int × Int × Int)) : law_TaxiQueues.l3 N x3 r3 a10 (k13 + 1) (a10.length : Int) a15 =
    (bif (r3.2 == 0) then slices_Equal_TaxiMove.fn N (r3.1, a15) else some (false)).bind fun r18 =>
    some ((r3.2 == 0) && r18) := by
  have e1 : decide ((a10.length : Int) < (a10.length : Int)) = false := by rw [decide_eq_false_iff_not]; omega
  rw [law_TaxiQueues.l3_clean]
  simp -implicitDefEqProofs only [e1, cond_false]
theorem law_TaxiQueues.eq (N : Nat) (x0 : List (ByteArray × Int)) (x1 : List (ByteArray × ByteArray × Int)) (x2 : Int) (x3 : Int) : law_TaxiQueues.fn N (x0, x1, x2, x3) =
    (law_taxiFact.fn N ()).bind fun r1 =>
    bif !r1 then
      some false
    else
      (taxi_Queue.fn N (x0, x1, x2)).bind fun r2 =>
      (taxi_Late.fn N (x0, x1, x2, x3)).bind fun r3 =>
      (ref_AsksError.fn N (x0, x1)).bind fun r4 =>
      (taxi_Stands.fn N x0).bind fun r5 =>
      (ref_StandsError.fn N x0).bind fun r6 =>
      bif !(!(!(r5 == r6))) || (!(!(r5 == r6))) then
        bif !(!(!(r5 == r6))) || (!(!(r5 == r6))) then
          (bif (!(!(r5 == r6))) then taxi_Check.fn N (x0, x1) else some (0)).bind fun r7 =>
          bif !(!(!(r5 == r6))) || (!(!(r5 == r6))) then
            bif !(!(!(r5 == r6))) || (!(!(r5 == r6))) then
              bif (!(r5 == r6)) || (!(!(r5 == r6))) then
                bif (!(r5 == r6)) || (!(r7 == r4)) then
                  some false
                else
                bif !(r4 == 0) || (r4 == 0) then
                  bif !(r4 == 0) || (r4 == 0) then
                    bif !((r4 == 0) && (!(decide (x2 < 0)))) || ((r4 == 0) && (!(decide (x2 < 0)))) then
                      bif !(r4 == 0) || (r4 == 0) then
                        bif !(r4 == 0) || ((decide (x2 < 0)) || ((r4 == 0) && (!(decide (x2 < 0))))) then
                          bif (!(r4 == 0)) || (r4 == 0) then
                            bif (r4 == 0) && ((decide (x2 < 0)) || (decide (x2 > 1800))) then
                              law_TaxiQueues.j0 N x0 x1 x2 x3 r2 r3 4
                            else
                              law_TaxiQueues.j0 N x0 x1 x2 x3 r2 r3 r4
                          else
                            none
                        else
                          none
                      else
                        none
                    else
                      none
                  else
                    none
                else
                  none
              else
                none
            else
              none
          else
            none
        else
          none
      else
        none := by kernel_rfl
theorem law_TaxiQueues.clean (N : Nat) (x0 : List (ByteArray × Int)) (x1 : List (ByteArray × ByteArray × Int)) (x2 : Int) (x3 : Int) : law_TaxiQueues.fn N (x0, x1, x2, x3) =
    (law_taxiFact.fn N ()).bind fun r1 =>
    bif !r1 then
      some false
    else
      (taxi_Queue.fn N (x0, x1, x2)).bind fun r2 =>
      (taxi_Late.fn N (x0, x1, x2, x3)).bind fun r3 =>
      (ref_AsksError.fn N (x0, x1)).bind fun r4 =>
      (taxi_Stands.fn N x0).bind fun r5 =>
      (ref_StandsError.fn N x0).bind fun r6 =>
      (bif (!(!(r5 == r6))) then taxi_Check.fn N (x0, x1) else some (0)).bind fun r7 =>
      bif (!(r5 == r6)) || (!(r7 == r4)) then
        some false
      else
      bif (r4 == 0) && ((decide (x2 < 0)) || (decide (x2 > 1800))) then
        law_TaxiQueues.j0 N x0 x1 x2 x3 r2 r3 4
      else
        law_TaxiQueues.j0 N x0 x1 x2 x3 r2 r3 r4 := by
  rw [law_TaxiQueues.eq]; simp only [taut19, taut20, taut21, taut11, taut22, taut12, cond_true]

/-! ### law_TaxiWaits_1: skyway/skywaylaw3.TaxiWaits$1 -/
def law_TaxiWaits_1.kp : List (Nat × List (Nat × Option (TypeId × Ty))) := [(3, [(0, none), (4, none), (7, none), (8, none), (9, none)])]
noncomputable def law_TaxiWaits_1.G (N : Nat) : List (Nat × Spec) := []
noncomputable def law_TaxiWaits_1.E (N : Nat) : Env := mkEnv (law_TaxiWaits_1.G N) N tyTab law_TaxiWaits_1.kp
noncomputable def law_TaxiWaits_1.fn (N : Nat) (x : Int × List (ByteArray × Int × Int × Int)) : Option Int := evFn (law_TaxiWaits_1.E N) Try.prog 3 Try.f47 false [.cell (.int .i64), .box (.sl 76 (.pair (.str) (.pair (.int .i64) (.pair (.int .i64) (.int .i64)))))] [.val (.cell (.int .i64))] x
noncomputable def law_TaxiWaits_1.S (N : Nat) : PSpec := ⟨false, [.cell (.int .i64), .box (.sl 76 (.pair (.str) (.pair (.int .i64) (.pair (.int .i64) (.int .i64)))))], [.val (.cell (.int .i64))], law_TaxiWaits_1.fn N⟩
theorem f47_enters : Enters Try.prog 47 := ⟨Try.f47, Try.func47, by kernel_rfl, by kernel_rfl⟩
theorem law_TaxiWaits_1.tab (N : Nat) : TabOk Try.prog (law_TaxiWaits_1.G N) := trivial
theorem law_TaxiWaits_1.enters : Enters Try.prog 47 := f47_enters
theorem law_TaxiWaits_1.sound (N : Nat) : Sound Try.prog 47 (law_TaxiWaits_1.S N) := evFn_sound (specs_tab (law_TaxiWaits_1.tab N)) (inls_tab (law_TaxiWaits_1.tab N)) mixed 3 Try.func47 _ _ _
noncomputable def law_TaxiWaits_1.cd (N : Nat) (p : List Nat) : St → (Ex → St → Option Int) → Option Int := ev (law_TaxiWaits_1.E N) Try.prog (callD (law_TaxiWaits_1.E N) Try.prog 3) 0 (codeAt (bodyOf Try.f47) p)
noncomputable def law_TaxiWaits_1.fin : Ex → St → Option Int := endK Try.prog Try.f47 [.val (.cell (.int .i64))]
noncomputable def law_TaxiWaits_1.l0 (N : Nat) (x0 : Int) (x1 : List (ByteArray × Int × Int × Int)) (k1 : Nat) (a2 : Int) (a3 : Int) : Option Int :=
  loopN (norm ((law_TaxiWaits_1.E N).keep 3) 0) (law_TaxiWaits_1.cd N [1, 1, 0, 1, 0, 0]) k1
  ⟨[.sc (.int .i64 x0), .any, .any, .any, .sc (.int .i64 a2), .any, .any, .ros false 76 (.pair (.str) (.pair (.int .i64) (.pair (.int .i64) (.int .i64)))) x1, .sc (.int .i64 (x1.length : Int)), .sc (.int .i64 a3), .any, .any, .any, .any, .any, .any, .any, .any, .any, .any, .any, .any, .any, .any, .any, .any, .any], []⟩
  (blockK 0 (seqK (law_TaxiWaits_1.cd N [1, 1, 1]) law_TaxiWaits_1.fin))
theorem law_TaxiWaits_1.l0_zero (N : Nat) (x0 : Int) (x1 : List (ByteArray × Int × Int × Int)) (a2 : Int) (a3 : Int) : law_TaxiWaits_1.l0 N x0 x1 0 a2 a3 = none := by kernel_rfl
theorem law_TaxiWaits_1.l0_succ (N : Nat) (x0 : Int) (x1 : List (ByteArray × Int × Int × Int)) (k1 : Nat) (a2 : Int) (a3 : Int) : law_TaxiWaits_1.l0 N x0 x1 (k1 + 1) a2 a3 =
    bif decide (a3 < (x1.length : Int)) then
      bif (decide (0 ≤ a3)) && (decide (a3 < (x1.length : Int))) then
        bif !(decide (x0 ≥ ((((List.getD x1 (Int.toNat a3) ((⟨#[]⟩ : ByteArray), (0, (0, 0)))).2).2).1))) || (decide (x0 ≥ ((((List.getD x1 (Int.toNat a3) ((⟨#[]⟩ : ByteArray), (0, (0, 0)))).2).2).1))) then
          bif !(decide (x0 ≥ ((((List.getD x1 (Int.toNat a3) ((⟨#[]⟩ : ByteArray), (0, (0, 0)))).2).2).1))) || (decide (x0 ≥ ((((List.getD x1 (Int.toNat a3) ((⟨#[]⟩ : ByteArray), (0, (0, 0)))).2).2).1))) then
            bif !(decide (x0 ≥ ((((List.getD x1 (Int.toNat a3) ((⟨#[]⟩ : ByteArray), (0, (0, 0)))).2).2).1))) || (decide (x0 ≥ ((((List.getD x1 (Int.toNat a3) ((⟨#[]⟩ : ByteArray), (0, (0, 0)))).2).2).1))) then
              bif (!(decide (x0 ≥ ((((List.getD x1 (Int.toNat a3) ((⟨#[]⟩ : ByteArray), (0, (0, 0)))).2).2).1)))) || (decide (x0 ≥ ((((List.getD x1 (Int.toNat a3) ((⟨#[]⟩ : ByteArray), (0, (0, 0)))).2).2).1))) then
                bif (decide (x0 ≥ ((((List.getD x1 (Int.toNat a3) ((⟨#[]⟩ : ByteArray), (0, (0, 0)))).2).2).1))) && (decide (x0 < ((((List.getD x1 (Int.toNat a3) ((⟨#[]⟩ : ByteArray), (0, (0, 0)))).2).2).2))) then
                  law_TaxiWaits_1.l0 N x0 x1 k1 (w (a2 + 1)) (w (a3 + 1))
                else
                  law_TaxiWaits_1.l0 N x0 x1 k1 a2 (w (a3 + 1))
              else
                none
            else
              none
          else
            none
        else
          none
      else
        none
    else
      some a2 := by kernel_rfl
theorem law_TaxiWaits_1.l0_clean (N : Nat) (x0 : Int) (x1 : List (ByteArray × Int × Int × Int)) (k1 : Nat) (a2 : Int) (a3 : Int) : law_TaxiWaits_1.l0 N x0 x1 (k1 + 1) a2 a3 =
    bif decide (a3 < (x1.length : Int)) then
      bif (decide (0 ≤ a3)) && (decide (a3 < (x1.length : Int))) then
        bif (decide (x0 ≥ ((((List.getD x1 (Int.toNat a3) ((⟨#[]⟩ : ByteArray), (0, (0, 0)))).2).2).1))) && (decide (x0 < ((((List.getD x1 (Int.toNat a3) ((⟨#[]⟩ : ByteArray), (0, (0, 0)))).2).2).2))) then
          law_TaxiWaits_1.l0 N x0 x1 k1 (w (a2 + 1)) (w (a3 + 1))
        else
          law_TaxiWaits_1.l0 N x0 x1 k1 a2 (w (a3 + 1))
      else
        none
    else
      some a2 := by
  rw [law_TaxiWaits_1.l0_succ]; simp only [taut11, taut12, cond_true]
theorem law_TaxiWaits_1.l0_cons (N : Nat) (x0 : Int) (x1 : List (ByteArray × Int × Int × Int)) (k1 : Nat) (a2 : Int) {pre r} {x} (hl : x1 = pre ++ x :: r) (hb : x1.length < 4611686018427387904) : law_TaxiWaits_1.l0 N x0 x1 (k1 + 1) a2 (pre.length : Int) =
    bif (decide (x0 ≥ (((x.2).2).1))) && (decide (x0 < (((x.2).2).2))) then
      law_TaxiWaits_1.l0 N x0 x1 k1 (w (a2 + 1)) ((pre.length : Int) + 1)
    else
      law_TaxiWaits_1.l0 N x0 x1 k1 a2 ((pre.length : Int) + 1) := by
  have hlen : x1.length = pre.length + 1 + r.length := by rw [hl]; simp; omega
  have e1 : decide ((pre.length : Int) < (x1.length : Int)) = true := by rw [decide_eq_true_iff]; omega
  have e2 : decide (0 ≤ (pre.length : Int)) = true := by rw [decide_eq_true_iff]; omega
  have e4 : w ((pre.length : Int) + 1) = (pre.length : Int) + 1 := w_next hl hb
  have e5 : List.take pre.length x1 = pre := by rw [hl]; simp
  have e6 : decide ((pre.length : Int) ≤ (x1.length : Int)) = true := by rw [decide_eq_true_iff]; omega
  have g0 : List.getD x1 pre.length ((⟨#[]⟩ : ByteArray), (0, (0, 0))) = x := by rw [hl]; exact getD_mid pre x r _
  rw [law_TaxiWaits_1.l0_clean]
  simp -implicitDefEqProofs only [Int.toNat_natCast, e1, e2, e4, e6, g0, e5, Bool.and_true, Bool.true_and, Bool.true_or, cond_true]
theorem law_TaxiWaits_1.l0_nil (N : Nat) (x0 : Int) (x1 : List (ByteArray × Int × Int × Int)) (k1 : Nat) (a2 : Int) : law_TaxiWaits_1.l0 N x0 x1 (k1 + 1) a2 (x1.length : Int) =
    some a2 := by
  have e1 : decide ((x1.length : Int) < (x1.length : Int)) = false := by rw [decide_eq_false_iff_not]; omega
  rw [law_TaxiWaits_1.l0_clean]
  simp -implicitDefEqProofs only [e1, cond_false]
theorem law_TaxiWaits_1.eq (N : Nat) (x0 : Int) (x1 : List (ByteArray × Int × Int × Int)) : law_TaxiWaits_1.fn N (x0, x1) =
    law_TaxiWaits_1.l0 N x0 x1 N 0 0 := by kernel_rfl

end Go.Proofs.Ytmaeakelhjmfeaa.Sk
