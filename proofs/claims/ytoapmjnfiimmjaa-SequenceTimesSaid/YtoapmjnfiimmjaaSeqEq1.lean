/- PRINTED by gen.py: what the functions answer. Not trusted: Lean checks it. -/
import Derived.Test.YtoapmjnfiimmjaaSkAid
import Derived.Test.YtoapmjnfiimmjaaSkSort31
set_option linter.unusedVariables false
set_option linter.unusedSimpArgs false
set_option maxRecDepth 100000
namespace Go.Proofs.Ytoapmjnfiimmjaa.Sk
open Go
def tyTab : TypeId → Option Ty := tyOf [(3, .int .i64), (4, .bool), (48, .pair (.str) (.pair (.int .i64) (.pair (.int .i64) (.int .i64))))]
theorem mixed : Try.prog.follows .mixedOrders = true := by kernel_rfl
/-! ### chart_Name: skyway/chart.Name -/
def chart_Name.kp : List (Nat × List (Nat × Option (TypeId × Ty))) := [(4, [(0, none), (24, none), (25, none)])]
noncomputable def chart_Name.G (N : Nat) : List (Nat × Spec) := []
noncomputable def chart_Name.E (N : Nat) : Env := mkEnv (chart_Name.G N) N tyTab chart_Name.kp
noncomputable def chart_Name.fn (N : Nat) (x : ByteArray) : Option Bool := evFn (chart_Name.E N) Try.prog 3 Try.f57 false [.cell (.str)] [.val (.cell (.bool))] x
noncomputable def chart_Name.S (N : Nat) : PSpec := ⟨false, [.cell (.str)], [.val (.cell (.bool))], chart_Name.fn N⟩
theorem f57_enters : Enters Try.prog 57 := ⟨Try.f57, Try.func57, by kernel_rfl, by kernel_rfl⟩
theorem chart_Name.tab (N : Nat) : TabOk Try.prog (chart_Name.G N) := trivial
theorem chart_Name.enters : Enters Try.prog 57 := f57_enters
theorem chart_Name.sound (N : Nat) : Sound Try.prog 57 (chart_Name.S N) := evFn_sound (specs_tab (chart_Name.tab N)) (inls_tab (chart_Name.tab N)) mixed 3 Try.func57 _ _ _
noncomputable def chart_Name.cd (N : Nat) (p : List Nat) : St → (Ex → St → Option Bool) → Option Bool := ev (chart_Name.E N) Try.prog (callD (chart_Name.E N) Try.prog 3) 0 (codeAt (bodyOf Try.f57) p)
noncomputable def chart_Name.fin : Ex → St → Option Bool := endK Try.prog Try.f57 [.val (.cell (.bool))]
noncomputable def chart_Name.l0 (N : Nat) (x0 : ByteArray) (k1 : Nat) (a2 : Int) : Option Bool :=
  loopN (norm ((chart_Name.E N).keep 4) 0) (chart_Name.cd N [1, 1, 0, 1, 0, 0]) k1
  ⟨[.sc (.string x0), .any, .any, .any, .any, .any, .any, .any, .any, .any, .any, .any, .any, .any, .any, .any, .any, .any, .any, .any, .any, .any, .any, .any, .sc (.int .i64 (x0.size : Int)), .sc (.int .i64 a2), .any, .any, .any, .any, .any, .any, .any, .any, .any, .any, .any, .any, .any, .any, .any, .any, .any, .any, .any, .any], []⟩
  (blockK 0 (seqK (chart_Name.cd N [1, 1, 1]) chart_Name.fin))
theorem chart_Name.l0_zero (N : Nat) (x0 : ByteArray) (a2 : Int) : chart_Name.l0 N x0 0 a2 = none := by kernel_rfl
theorem chart_Name.l0_succ (N : Nat) (x0 : ByteArray) (k1 : Nat) (a2 : Int) : chart_Name.l0 N x0 (k1 + 1) a2 =
    bif decide (a2 < (x0.size : Int)) then
      bif (decide (0 ≤ a2)) && (decide (a2 < (x0.size : Int))) then
        bif !(!(decide (((((ByteArray.data x0).getD (Int.toNat a2) 0).toNat : Nat) : Int) < 65))) || (!(decide (((((ByteArray.data x0).getD (Int.toNat a2) 0).toNat : Nat) : Int) < 65))) then
          bif (decide (((((ByteArray.data x0).getD (Int.toNat a2) 0).toNat : Nat) : Int) < 65)) || (!(decide (((((ByteArray.data x0).getD (Int.toNat a2) 0).toNat : Nat) : Int) < 65))) then
            bif !((decide (((((ByteArray.data x0).getD (Int.toNat a2) 0).toNat : Nat) : Int) < 65)) || (decide (((((ByteArray.data x0).getD (Int.toNat a2) 0).toNat : Nat) : Int) > 90))) || ((decide (((((ByteArray.data x0).getD (Int.toNat a2) 0).toNat : Nat) : Int) < 65)) || (decide (((((ByteArray.data x0).getD (Int.toNat a2) 0).toNat : Nat) : Int) > 90))) then
              bif !((decide (((((ByteArray.data x0).getD (Int.toNat a2) 0).toNat : Nat) : Int) < 65)) || (decide (((((ByteArray.data x0).getD (Int.toNat a2) 0).toNat : Nat) : Int) > 90))) || ((decide (((((ByteArray.data x0).getD (Int.toNat a2) 0).toNat : Nat) : Int) < 65)) || (decide (((((ByteArray.data x0).getD (Int.toNat a2) 0).toNat : Nat) : Int) > 90))) then
                bif !(((decide (((((ByteArray.data x0).getD (Int.toNat a2) 0).toNat : Nat) : Int) < 65)) || (decide (((((ByteArray.data x0).getD (Int.toNat a2) 0).toNat : Nat) : Int) > 90))) && (!(decide (((((ByteArray.data x0).getD (Int.toNat a2) 0).toNat : Nat) : Int) < 48)))) || (((decide (((((ByteArray.data x0).getD (Int.toNat a2) 0).toNat : Nat) : Int) < 65)) || (decide (((((ByteArray.data x0).getD (Int.toNat a2) 0).toNat : Nat) : Int) > 90))) && (!(decide (((((ByteArray.data x0).getD (Int.toNat a2) 0).toNat : Nat) : Int) < 48)))) then
                  bif !((decide (((((ByteArray.data x0).getD (Int.toNat a2) 0).toNat : Nat) : Int) < 65)) || (decide (((((ByteArray.data x0).getD (Int.toNat a2) 0).toNat : Nat) : Int) > 90))) || ((decide (((((ByteArray.data x0).getD (Int.toNat a2) 0).toNat : Nat) : Int) < 65)) || (decide (((((ByteArray.data x0).getD (Int.toNat a2) 0).toNat : Nat) : Int) > 90))) then
                    bif !((decide (((((ByteArray.data x0).getD (Int.toNat a2) 0).toNat : Nat) : Int) < 65)) || (decide (((((ByteArray.data x0).getD (Int.toNat a2) 0).toNat : Nat) : Int) > 90))) || ((decide (((((ByteArray.data x0).getD (Int.toNat a2) 0).toNat : Nat) : Int) < 48)) || (((decide (((((ByteArray.data x0).getD (Int.toNat a2) 0).toNat : Nat) : Int) < 65)) || (decide (((((ByteArray.data x0).getD (Int.toNat a2) 0).toNat : Nat) : Int) > 90))) && (!(decide (((((ByteArray.data x0).getD (Int.toNat a2) 0).toNat : Nat) : Int) < 48))))) then
                      bif (!((decide (((((ByteArray.data x0).getD (Int.toNat a2) 0).toNat : Nat) : Int) < 65)) || (decide (((((ByteArray.data x0).getD (Int.toNat a2) 0).toNat : Nat) : Int) > 90)))) || ((decide (((((ByteArray.data x0).getD (Int.toNat a2) 0).toNat : Nat) : Int) < 65)) || (decide (((((ByteArray.data x0).getD (Int.toNat a2) 0).toNat : Nat) : Int) > 90))) then
                        bif ((decide (((((ByteArray.data x0).getD (Int.toNat a2) 0).toNat : Nat) : Int) < 65)) || (decide (((((ByteArray.data x0).getD (Int.toNat a2) 0).toNat : Nat) : Int) > 90))) && ((decide (((((ByteArray.data x0).getD (Int.toNat a2) 0).toNat : Nat) : Int) < 48)) || (decide (((((ByteArray.data x0).getD (Int.toNat a2) 0).toNat : Nat) : Int) > 57))) then
                          some false
                        else
                          chart_Name.l0 N x0 k1 (w (a2 + 1))
                      else
                        none
                    else
                      none
                  else
                    none
                else
                  none
              else
                none
            else
              none
          else
            none
        else
          none
      else
        none
    else
      some true := by kernel_rfl
theorem taut1 : ∀ p0 : Bool, ((!(!(p0)) || (!(p0)))) = true := by decide
theorem taut2 : ∀ p0 p1 p2 : Bool, ((!(((p0) || (p1)) && (!(p2))) || (((p0) || (p1)) && (!(p2))))) = true := by decide
theorem taut3 : ∀ p0 p1 : Bool, ((!((p0) || (p1)) || ((p0) || (p1)))) = true := by decide
theorem taut4 : ∀ p0 p1 p2 : Bool, ((!((p0) || (p1)) || ((p2) || (((p0) || (p1)) && (!(p2)))))) = true := by decide
theorem taut5 : ∀ p0 p1 : Bool, (((!((p0) || (p1))) || ((p0) || (p1)))) = true := by decide
theorem taut6 : ∀ p0 : Bool, (((p0) || (!(p0)))) = true := by decide
theorem chart_Name.l0_clean (N : Nat) (x0 : ByteArray) (k1 : Nat) (a2 : Int) : chart_Name.l0 N x0 (k1 + 1) a2 =
    bif decide (a2 < (x0.size : Int)) then
      bif (decide (0 ≤ a2)) && (decide (a2 < (x0.size : Int))) then
        bif ((decide (((((ByteArray.data x0).getD (Int.toNat a2) 0).toNat : Nat) : Int) < 65)) || (decide (((((ByteArray.data x0).getD (Int.toNat a2) 0).toNat : Nat) : Int) > 90))) && ((decide (((((ByteArray.data x0).getD (Int.toNat a2) 0).toNat : Nat) : Int) < 48)) || (decide (((((ByteArray.data x0).getD (Int.toNat a2) 0).toNat : Nat) : Int) > 57))) then
          some false
        else
          chart_Name.l0 N x0 k1 (w (a2 + 1))
      else
        none
    else
      some true := by
  rw [chart_Name.l0_succ]; simp only [taut1, taut2, taut3, taut4, taut5, taut6, cond_true]
theorem chart_Name.l0_cons (N : Nat) (x0 : ByteArray) (k1 : Nat) {pre r} {x} (hl : x0.data.toList = pre ++ x :: r) (hb : x0.size < 4611686018427387904) : chart_Name.l0 N x0 (k1 + 1) (pre.length : Int) =
    bif ((decide (((x.toNat : Nat) : Int) < 65)) || (decide (((x.toNat : Nat) : Int) > 90))) && ((decide (((x.toNat : Nat) : Int) < 48)) || (decide (((x.toNat : Nat) : Int) > 57))) then
      some false
    else
      chart_Name.l0 N x0 k1 ((pre.length : Int) + 1) := by
  have hlen : x0.size = pre.length + 1 + r.length := by rw [ByteArray.size, ← Array.length_toList, hl]; simp; omega
  have e1 : decide ((pre.length : Int) < (x0.size : Int)) = true := by rw [decide_eq_true_iff]; omega
  have e2 : decide (0 ≤ (pre.length : Int)) = true := by rw [decide_eq_true_iff]; omega
  have e4 : w ((pre.length : Int) + 1) = (pre.length : Int) + 1 := w_next hl (by rw [Array.length_toList]; exact hb)
  have e6 : decide ((pre.length : Int) ≤ (x0.size : Int)) = true := by rw [decide_eq_true_iff]; omega
  have g0 : (ByteArray.data x0).getD pre.length 0 = x := getD_bytes hl
  rw [chart_Name.l0_clean]
  simp -implicitDefEqProofs only [Int.toNat_natCast, e1, e2, e4, e6, g0, Bool.and_true, Bool.true_and, Bool.true_or, cond_true]
theorem chart_Name.l0_nil (N : Nat) (x0 : ByteArray) (k1 : Nat) : chart_Name.l0 N x0 (k1 + 1) (x0.size : Int) =
    some true := by
  have e1 : decide ((x0.size : Int) < (x0.size : Int)) = false := by rw [decide_eq_false_iff_not]; omega
  rw [chart_Name.l0_clean]
  simp -implicitDefEqProofs only [e1, cond_false]
theorem chart_Name.eq (N : Nat) (x0 : ByteArray) : chart_Name.fn N x0 =
    bif !(!((x0.size : Int) == 0)) || (!((x0.size : Int) == 0)) then
      bif !(!((x0.size : Int) == 0)) || (!((x0.size : Int) == 0)) then
        bif ((x0.size : Int) == 0) || (!((x0.size : Int) == 0)) then
          bif !(!(((x0.size : Int) == 0) || (decide ((x0.size : Int) > 8)))) || (!(((x0.size : Int) == 0) || (decide ((x0.size : Int) > 8)))) then
            bif (decide (0 < (x0.size : Int))) || !(!(((x0.size : Int) == 0) || (decide ((x0.size : Int) > 8)))) then
              bif !(!(((x0.size : Int) == 0) || (decide ((x0.size : Int) > 8)))) || (!(((x0.size : Int) == 0) || (decide ((x0.size : Int) > 8)))) then
                bif (((x0.size : Int) == 0) || (decide ((x0.size : Int) > 8))) || (!(((x0.size : Int) == 0) || (decide ((x0.size : Int) > 8)))) then
                  bif !(!((((x0.size : Int) == 0) || (decide ((x0.size : Int) > 8))) || (decide (((((ByteArray.data x0).getD 0 0).toNat : Nat) : Int) < 65)))) || (!((((x0.size : Int) == 0) || (decide ((x0.size : Int) > 8))) || (decide (((((ByteArray.data x0).getD 0 0).toNat : Nat) : Int) < 65)))) then
                    bif (decide (0 < (x0.size : Int))) || !(!((((x0.size : Int) == 0) || (decide ((x0.size : Int) > 8))) || (decide (((((ByteArray.data x0).getD 0 0).toNat : Nat) : Int) < 65)))) then
                      bif !(!((((x0.size : Int) == 0) || (decide ((x0.size : Int) > 8))) || (decide (((((ByteArray.data x0).getD 0 0).toNat : Nat) : Int) < 65)))) || (!((((x0.size : Int) == 0) || (decide ((x0.size : Int) > 8))) || (decide (((((ByteArray.data x0).getD 0 0).toNat : Nat) : Int) < 65)))) then
                        bif ((((x0.size : Int) == 0) || (decide ((x0.size : Int) > 8))) || (decide (((((ByteArray.data x0).getD 0 0).toNat : Nat) : Int) < 65))) || (!((((x0.size : Int) == 0) || (decide ((x0.size : Int) > 8))) || (decide (((((ByteArray.data x0).getD 0 0).toNat : Nat) : Int) < 65)))) then
                          bif ((((x0.size : Int) == 0) || (decide ((x0.size : Int) > 8))) || (decide (((((ByteArray.data x0).getD 0 0).toNat : Nat) : Int) < 65))) || (decide (((((ByteArray.data x0).getD 0 0).toNat : Nat) : Int) > 90)) then
                            some false
                          else
                            chart_Name.l0 N x0 N 0
                        else
                          none
                      else
                        none
                    else
                      none
                  else
                    none
                else
                  none
              else
                none
            else
              none
          else
            none
        else
          none
      else
        none
    else
      none := by kernel_rfl
theorem taut7 : ∀ p0 p1 p2 : Bool, ((!(!(((p0) || (p1)) || (p2))) || (!(((p0) || (p1)) || (p2))))) = true := by decide
theorem taut8 : ∀ p0 p1 : Bool, ((!(!((p0) || (p1))) || (!((p0) || (p1))))) = true := by decide
theorem taut9 : ∀ p0 p1 p2 : Bool, (((((p0) || (p1)) || (p2)) || (!(((p0) || (p1)) || (p2))))) = true := by decide
theorem taut10 : ∀ p0 p1 : Bool, ((((p0) || (p1)) || (!((p0) || (p1))))) = true := by decide
theorem chart_Name.clean (N : Nat) (x0 : ByteArray) : chart_Name.fn N x0 =
    bif (decide (0 < (x0.size : Int))) || !(!(((x0.size : Int) == 0) || (decide ((x0.size : Int) > 8)))) then
      bif (decide (0 < (x0.size : Int))) || !(!((((x0.size : Int) == 0) || (decide ((x0.size : Int) > 8))) || (decide (((((ByteArray.data x0).getD 0 0).toNat : Nat) : Int) < 65)))) then
        bif ((((x0.size : Int) == 0) || (decide ((x0.size : Int) > 8))) || (decide (((((ByteArray.data x0).getD 0 0).toNat : Nat) : Int) < 65))) || (decide (((((ByteArray.data x0).getD 0 0).toNat : Nat) : Int) > 90)) then
          some false
        else
          chart_Name.l0 N x0 N 0
      else
        none
    else
      none := by
  rw [chart_Name.eq]; simp only [taut7, taut8, taut1, taut9, taut10, taut6, cond_true]

/-! ### sector_Name: skyway/sector.Name -/
def sector_Name.kp : List (Nat × List (Nat × Option (TypeId × Ty))) := []
noncomputable def sector_Name.G (N : Nat) : List (Nat × Spec) := [(57, .pure (chart_Name.S N))]
noncomputable def sector_Name.E (N : Nat) : Env := mkEnv (sector_Name.G N) N tyTab sector_Name.kp
noncomputable def sector_Name.fn (N : Nat) (x : ByteArray) : Option Bool := evFn (sector_Name.E N) Try.prog 3 Try.f45 false [.cell (.str)] [.val (.cell (.bool))] x
noncomputable def sector_Name.S (N : Nat) : PSpec := ⟨false, [.cell (.str)], [.val (.cell (.bool))], sector_Name.fn N⟩
theorem f45_enters : Enters Try.prog 45 := ⟨Try.f45, Try.func45, by kernel_rfl, by kernel_rfl⟩
theorem sector_Name.tab (N : Nat) : TabOk Try.prog (sector_Name.G N) := ⟨⟨chart_Name.enters, chart_Name.sound N⟩, trivial⟩
theorem sector_Name.enters : Enters Try.prog 45 := f45_enters
theorem sector_Name.sound (N : Nat) : Sound Try.prog 45 (sector_Name.S N) := evFn_sound (specs_tab (sector_Name.tab N)) (inls_tab (sector_Name.tab N)) mixed 3 Try.func45 _ _ _
theorem sector_Name.eq (N : Nat) (x0 : ByteArray) : sector_Name.fn N x0 =
    (chart_Name.fn N x0).bind fun r1 =>
    some r1 := by kernel_rfl

/-! ### owner_Name: skyway/owner.Name -/
def owner_Name.kp : List (Nat × List (Nat × Option (TypeId × Ty))) := []
noncomputable def owner_Name.G (N : Nat) : List (Nat × Spec) := [(45, .pure (sector_Name.S N))]
noncomputable def owner_Name.E (N : Nat) : Env := mkEnv (owner_Name.G N) N tyTab owner_Name.kp
noncomputable def owner_Name.fn (N : Nat) (x : ByteArray) : Option Bool := evFn (owner_Name.E N) Try.prog 3 Try.f38 false [.cell (.str)] [.val (.cell (.bool))] x
noncomputable def owner_Name.S (N : Nat) : PSpec := ⟨false, [.cell (.str)], [.val (.cell (.bool))], owner_Name.fn N⟩
theorem f38_enters : Enters Try.prog 38 := ⟨Try.f38, Try.func38, by kernel_rfl, by kernel_rfl⟩
theorem owner_Name.tab (N : Nat) : TabOk Try.prog (owner_Name.G N) := ⟨⟨sector_Name.enters, sector_Name.sound N⟩, trivial⟩
theorem owner_Name.enters : Enters Try.prog 38 := f38_enters
theorem owner_Name.sound (N : Nat) : Sound Try.prog 38 (owner_Name.S N) := evFn_sound (specs_tab (owner_Name.tab N)) (inls_tab (owner_Name.tab N)) mixed 3 Try.func38 _ _ _
theorem owner_Name.eq (N : Nat) (x0 : ByteArray) : owner_Name.fn N x0 =
    (sector_Name.fn N x0).bind fun r1 =>
    some r1 := by kernel_rfl

/-! ### slot_Name: skyway/slot.Name -/
def slot_Name.kp : List (Nat × List (Nat × Option (TypeId × Ty))) := []
noncomputable def slot_Name.G (N : Nat) : List (Nat × Spec) := [(38, .pure (owner_Name.S N))]
noncomputable def slot_Name.E (N : Nat) : Env := mkEnv (slot_Name.G N) N tyTab slot_Name.kp
noncomputable def slot_Name.fn (N : Nat) (x : ByteArray) : Option Bool := evFn (slot_Name.E N) Try.prog 3 Try.f26 false [.cell (.str)] [.val (.cell (.bool))] x
noncomputable def slot_Name.S (N : Nat) : PSpec := ⟨false, [.cell (.str)], [.val (.cell (.bool))], slot_Name.fn N⟩
theorem f26_enters : Enters Try.prog 26 := ⟨Try.f26, Try.func26, by kernel_rfl, by kernel_rfl⟩
theorem slot_Name.tab (N : Nat) : TabOk Try.prog (slot_Name.G N) := ⟨⟨owner_Name.enters, owner_Name.sound N⟩, trivial⟩
theorem slot_Name.enters : Enters Try.prog 26 := f26_enters
theorem slot_Name.sound (N : Nat) : Sound Try.prog 26 (slot_Name.S N) := evFn_sound (specs_tab (slot_Name.tab N)) (inls_tab (slot_Name.tab N)) mixed 3 Try.func26 _ _ _
theorem slot_Name.eq (N : Nat) (x0 : ByteArray) : slot_Name.fn N x0 =
    (owner_Name.fn N x0).bind fun r1 =>
    some r1 := by kernel_rfl

/-! ### wake_Class: skyway/wake.Class -/
def wake_Class.kp : List (Nat × List (Nat × Option (TypeId × Ty))) := []
noncomputable def wake_Class.G (N : Nat) : List (Nat × Spec) := []
noncomputable def wake_Class.E (N : Nat) : Env := mkEnv (wake_Class.G N) N tyTab wake_Class.kp
noncomputable def wake_Class.fn (N : Nat) (x : Int) : Option Int := evFn (wake_Class.E N) Try.prog 3 Try.f27 false [.cell (.int .i64)] [.val (.cell (.int .i64))] x
noncomputable def wake_Class.S (N : Nat) : PSpec := ⟨false, [.cell (.int .i64)], [.val (.cell (.int .i64))], wake_Class.fn N⟩
theorem f27_enters : Enters Try.prog 27 := ⟨Try.f27, Try.func27, by kernel_rfl, by kernel_rfl⟩
theorem wake_Class.tab (N : Nat) : TabOk Try.prog (wake_Class.G N) := trivial
theorem wake_Class.enters : Enters Try.prog 27 := f27_enters
theorem wake_Class.sound (N : Nat) : Sound Try.prog 27 (wake_Class.S N) := evFn_sound (specs_tab (wake_Class.tab N)) (inls_tab (wake_Class.tab N)) mixed 3 Try.func27 _ _ _
theorem wake_Class.eq (N : Nat) (x0 : Int) : wake_Class.fn N x0 =
    bif !(!(decide (x0 < 0))) || (!(decide (x0 < 0))) then
      bif (decide (x0 < 0)) || (!(decide (x0 < 0))) then
        bif (decide (x0 < 0)) || (decide (x0 > 3)) then
          some 1
        else
          some 0
      else
        none
    else
      none := by kernel_rfl
theorem wake_Class.clean (N : Nat) (x0 : Int) : wake_Class.fn N x0 =
    bif (decide (x0 < 0)) || (decide (x0 > 3)) then
      some 1
    else
      some 0 := by
  rw [wake_Class.eq]; simp only [taut1, taut6, cond_true]

/-! ### sequence_Check: skyway/sequence.Check -/
def sequence_Check.kp : List (Nat × List (Nat × Option (TypeId × Ty))) := [(4, [(0, none), (11, none), (12, none), (13, none)]), (14, [(0, none), (4, none), (11, none), (12, none), (13, none), (45, none), (46, none), (47, none)])]
noncomputable def sequence_Check.G (N : Nat) : List (Nat × Spec) := [(26, .pure (slot_Name.S N)), (27, .pure (wake_Class.S N))]
noncomputable def sequence_Check.E (N : Nat) : Env := mkEnv (sequence_Check.G N) N tyTab sequence_Check.kp
noncomputable def sequence_Check.fn (N : Nat) (x : List (ByteArray × Int × Int × Int)) : Option Int := evFn (sequence_Check.E N) Try.prog 3 Try.f10 false [.cell (.sl 48 (.pair (.str) (.pair (.int .i64) (.pair (.int .i64) (.int .i64)))))] [.val (.cell (.int .i64))] x
noncomputable def sequence_Check.S (N : Nat) : PSpec := ⟨false, [.cell (.sl 48 (.pair (.str) (.pair (.int .i64) (.pair (.int .i64) (.int .i64)))))], [.val (.cell (.int .i64))], sequence_Check.fn N⟩
theorem f10_enters : Enters Try.prog 10 := ⟨Try.f10, Try.func10, by kernel_rfl, by kernel_rfl⟩
theorem sequence_Check.tab (N : Nat) : TabOk Try.prog (sequence_Check.G N) := ⟨⟨slot_Name.enters, slot_Name.sound N⟩, ⟨wake_Class.enters, wake_Class.sound N⟩, trivial⟩
theorem sequence_Check.enters : Enters Try.prog 10 := f10_enters
theorem sequence_Check.sound (N : Nat) : Sound Try.prog 10 (sequence_Check.S N) := evFn_sound (specs_tab (sequence_Check.tab N)) (inls_tab (sequence_Check.tab N)) mixed 3 Try.func10 _ _ _
noncomputable def sequence_Check.cd (N : Nat) (p : List Nat) : St → (Ex → St → Option Int) → Option Int := ev (sequence_Check.E N) Try.prog (callD (sequence_Check.E N) Try.prog 3) 0 (codeAt (bodyOf Try.f10) p)
noncomputable def sequence_Check.fin : Ex → St → Option Int := endK Try.prog Try.f10 [.val (.cell (.int .i64))]
noncomputable def sequence_Check.l0 (N : Nat) (x0 : List (ByteArray × Int × Int × Int)) (k1 : Nat) (a2 : Int) : Option Int :=
  loopN (norm ((sequence_Check.E N).keep 4) 0) (sequence_Check.cd N [1, 1, 0, 1, 0, 0]) k1
  ⟨[.ros false 48 (.pair (.str) (.pair (.int .i64) (.pair (.int .i64) (.int .i64)))) x0, .any, .any, .any, .any, .any, .any, .any, .any, .any, .any, .ros false 48 (.pair (.str) (.pair (.int .i64) (.pair (.int .i64) (.int .i64)))) x0, .sc (.int .i64 (x0.length : Int)), .sc (.int .i64 a2), .any, .any, .any, .any, .any, .any, .any, .any, .any, .any, .any, .any, .any, .any, .any, .any, .any, .any, .any, .any, .any, .any, .any, .any, .any, .any, .any, .any, .any, .any, .any, .any, .any, .any, .any, .any, .any, .any, .any, .any, .any, .any, .any, .any], []⟩
  (blockK 0 (seqK (sequence_Check.cd N [1, 1, 1]) sequence_Check.fin))
noncomputable def sequence_Check.l1 (N : Nat) (x0 : List (ByteArray × Int × Int × Int)) (k1 : Nat) (a2 : Int) (k5 : Nat) (a6 : Int) : Option Int :=
  loopN (norm ((sequence_Check.E N).keep 14) 0) (sequence_Check.cd N [1, 1, 0, 1, 0, 0, 1, 1, 0, 0, 1, 1, 1, 1, 1, 0, 0]) k5
  ⟨[.ros false 48 (.pair (.str) (.pair (.int .i64) (.pair (.int .i64) (.int .i64)))) x0, .any, .any, .any, .ptr 0 0, .any, .any, .any, .any, .any, .any, .ros false 48 (.pair (.str) (.pair (.int .i64) (.pair (.int .i64) (.int .i64)))) x0, .sc (.int .i64 (x0.length : Int)), .sc (.int .i64 a2), .any, .any, .any, .any, .any, .any, .any, .any, .any, .any, .any, .any, .any, .any, .any, .any, .any, .any, .any, .any, .any, .any, .any, .any, .any, .any, .any, .any, .any, .any, .any, .ros false 48 (.pair (.str) (.pair (.int .i64) (.pair (.int .i64) (.int .i64)))) (List.take (Int.toNat a2) x0), .sc (.int .i64 ((List.take (Int.toNat a2) x0).length : Int)), .sc (.int .i64 a6), .any, .any, .any, .any, .any, .any, .any, .any, .any, .any], [.cells [.sc (.string ((List.getD x0 (Int.toNat a2) ((⟨#[]⟩ : ByteArray), (0, (0, 0)))).1)), .sc (.int .i64 (((List.getD x0 (Int.toNat a2) ((⟨#[]⟩ : ByteArray), (0, (0, 0)))).2).1)), .sc (.int .i64 ((((List.getD x0 (Int.toNat a2) ((⟨#[]⟩ : ByteArray), (0, (0, 0)))).2).2).1)), .sc (.int .i64 ((((List.getD x0 (Int.toNat a2) ((⟨#[]⟩ : ByteArray), (0, (0, 0)))).2).2).2))] 48]⟩
  (blockK 2 (blockK 1 (seqK (sequence_Check.cd N [1, 1, 0, 1, 0, 0, 1, 1, 1]) (loopK (norm ((sequence_Check.E N).keep 4) 0) (sequence_Check.cd N [1, 1, 0, 1, 0, 0]) k1 (blockK 0 (seqK (sequence_Check.cd N [1, 1, 1]) sequence_Check.fin))))))
theorem sequence_Check.l1_zero (N : Nat) (x0 : List (ByteArray × Int × Int × Int)) (k1 : Nat) (a2 : Int) (a6 : Int) : sequence_Check.l1 N x0 k1 a2 0 a6 = none := by kernel_rfl
theorem sequence_Check.l1_succ (N : Nat) (x0 : List (ByteArray × Int × Int × Int)) (k1 : Nat) (a2 : Int) (k5 : Nat) (a6 : Int) : sequence_Check.l1 N x0 k1 a2 (k5 + 1) a6 =
    bif decide (a6 < ((List.take (Int.toNat a2) x0).length : Int)) then
      bif (decide (0 ≤ a6)) && (decide (a6 < ((List.take (Int.toNat a2) x0).length : Int))) then
        bif seq ((List.getD (List.take (Int.toNat a2) x0) (Int.toNat a6) ((⟨#[]⟩ : ByteArray), (0, (0, 0)))).1) ((List.getD x0 (Int.toNat a2) ((⟨#[]⟩ : ByteArray), (0, (0, 0)))).1) then
          some 7
        else
          sequence_Check.l1 N x0 k1 a2 k5 (w (a6 + 1))
      else
        none
    else
      sequence_Check.l0 N x0 k1 (w (a2 + 1)) := by kernel_rfl
theorem sequence_Check.l0_zero (N : Nat) (x0 : List (ByteArray × Int × Int × Int)) (a2 : Int) : sequence_Check.l0 N x0 0 a2 = none := by kernel_rfl
theorem sequence_Check.l0_succ (N : Nat) (x0 : List (ByteArray × Int × Int × Int)) (k1 : Nat) (a2 : Int) : sequence_Check.l0 N x0 (k1 + 1) a2 =
    bif decide (a2 < (x0.length : Int)) then
      bif (decide (0 ≤ a2)) && (decide (a2 < (x0.length : Int))) then
        (slot_Name.fn N ((List.getD x0 (Int.toNat a2) ((⟨#[]⟩ : ByteArray), (0, (0, 0)))).1)).bind fun r3 =>
        bif !r3 then
          some 3
        else
          (wake_Class.fn N (((List.getD x0 (Int.toNat a2) ((⟨#[]⟩ : ByteArray), (0, (0, 0)))).2).1)).bind fun r4 =>
          bif !(r4 == 0) then
            some r4
          else
          bif !(!(decide (((((List.getD x0 (Int.toNat a2) ((⟨#[]⟩ : ByteArray), (0, (0, 0)))).2).2).1) < 0))) || (!(decide (((((List.getD x0 (Int.toNat a2) ((⟨#[]⟩ : ByteArray), (0, (0, 0)))).2).2).1) < 0))) then
            bif !(!(decide (((((List.getD x0 (Int.toNat a2) ((⟨#[]⟩ : ByteArray), (0, (0, 0)))).2).2).1) < 0))) || (!(decide (((((List.getD x0 (Int.toNat a2) ((⟨#[]⟩ : ByteArray), (0, (0, 0)))).2).2).1) < 0))) then
              bif !(!(decide (((((List.getD x0 (Int.toNat a2) ((⟨#[]⟩ : ByteArray), (0, (0, 0)))).2).2).1) < 0))) || (!(decide (((((List.getD x0 (Int.toNat a2) ((⟨#[]⟩ : ByteArray), (0, (0, 0)))).2).2).1) < 0))) then
                bif !(!(decide (((((List.getD x0 (Int.toNat a2) ((⟨#[]⟩ : ByteArray), (0, (0, 0)))).2).2).1) < 0))) || (!(decide (((((List.getD x0 (Int.toNat a2) ((⟨#[]⟩ : ByteArray), (0, (0, 0)))).2).2).1) < 0))) then
                  bif (decide (((((List.getD x0 (Int.toNat a2) ((⟨#[]⟩ : ByteArray), (0, (0, 0)))).2).2).1) < 0)) || (!(decide (((((List.getD x0 (Int.toNat a2) ((⟨#[]⟩ : ByteArray), (0, (0, 0)))).2).2).1) < 0))) then
                    bif !(!((decide (((((List.getD x0 (Int.toNat a2) ((⟨#[]⟩ : ByteArray), (0, (0, 0)))).2).2).1) < 0)) || (decide (((((List.getD x0 (Int.toNat a2) ((⟨#[]⟩ : ByteArray), (0, (0, 0)))).2).2).1) > ((((List.getD x0 (Int.toNat a2) ((⟨#[]⟩ : ByteArray), (0, (0, 0)))).2).2).2))))) || (!((decide (((((List.getD x0 (Int.toNat a2) ((⟨#[]⟩ : ByteArray), (0, (0, 0)))).2).2).1) < 0)) || (decide (((((List.getD x0 (Int.toNat a2) ((⟨#[]⟩ : ByteArray), (0, (0, 0)))).2).2).1) > ((((List.getD x0 (Int.toNat a2) ((⟨#[]⟩ : ByteArray), (0, (0, 0)))).2).2).2))))) then
                      bif !(!((decide (((((List.getD x0 (Int.toNat a2) ((⟨#[]⟩ : ByteArray), (0, (0, 0)))).2).2).1) < 0)) || (decide (((((List.getD x0 (Int.toNat a2) ((⟨#[]⟩ : ByteArray), (0, (0, 0)))).2).2).1) > ((((List.getD x0 (Int.toNat a2) ((⟨#[]⟩ : ByteArray), (0, (0, 0)))).2).2).2))))) || (!((decide (((((List.getD x0 (Int.toNat a2) ((⟨#[]⟩ : ByteArray), (0, (0, 0)))).2).2).1) < 0)) || (decide (((((List.getD x0 (Int.toNat a2) ((⟨#[]⟩ : ByteArray), (0, (0, 0)))).2).2).1) > ((((List.getD x0 (Int.toNat a2) ((⟨#[]⟩ : ByteArray), (0, (0, 0)))).2).2).2))))) then
                        bif ((decide (((((List.getD x0 (Int.toNat a2) ((⟨#[]⟩ : ByteArray), (0, (0, 0)))).2).2).1) < 0)) || (decide (((((List.getD x0 (Int.toNat a2) ((⟨#[]⟩ : ByteArray), (0, (0, 0)))).2).2).1) > ((((List.getD x0 (Int.toNat a2) ((⟨#[]⟩ : ByteArray), (0, (0, 0)))).2).2).2)))) || (!((decide (((((List.getD x0 (Int.toNat a2) ((⟨#[]⟩ : ByteArray), (0, (0, 0)))).2).2).1) < 0)) || (decide (((((List.getD x0 (Int.toNat a2) ((⟨#[]⟩ : ByteArray), (0, (0, 0)))).2).2).1) > ((((List.getD x0 (Int.toNat a2) ((⟨#[]⟩ : ByteArray), (0, (0, 0)))).2).2).2))))) then
                          bif ((decide (((((List.getD x0 (Int.toNat a2) ((⟨#[]⟩ : ByteArray), (0, (0, 0)))).2).2).1) < 0)) || (decide (((((List.getD x0 (Int.toNat a2) ((⟨#[]⟩ : ByteArray), (0, (0, 0)))).2).2).1) > ((((List.getD x0 (Int.toNat a2) ((⟨#[]⟩ : ByteArray), (0, (0, 0)))).2).2).2)))) || (decide (((((List.getD x0 (Int.toNat a2) ((⟨#[]⟩ : ByteArray), (0, (0, 0)))).2).2).2) > 200000)) then
                            some 12
                          else
                          bif (decide (0 ≤ a2)) && (decide (a2 ≤ (x0.length : Int))) then
                            sequence_Check.l1 N x0 k1 a2 N 0
                          else
                            none
                        else
                          none
                      else
                        none
                    else
                      none
                  else
                    none
                else
                  none
              else
                none
            else
              none
          else
            none
      else
        none
    else
      some 0 := by kernel_rfl
theorem sequence_Check.l0_clean (N : Nat) (x0 : List (ByteArray × Int × Int × Int)) (k1 : Nat) (a2 : Int) : sequence_Check.l0 N x0 (k1 + 1) a2 =
    bif decide (a2 < (x0.length : Int)) then
      bif (decide (0 ≤ a2)) && (decide (a2 < (x0.length : Int))) then
        (slot_Name.fn N ((List.getD x0 (Int.toNat a2) ((⟨#[]⟩ : ByteArray), (0, (0, 0)))).1)).bind fun r3 =>
        bif !r3 then
          some 3
        else
          (wake_Class.fn N (((List.getD x0 (Int.toNat a2) ((⟨#[]⟩ : ByteArray), (0, (0, 0)))).2).1)).bind fun r4 =>
          bif !(r4 == 0) then
            some r4
          else
          bif ((decide (((((List.getD x0 (Int.toNat a2) ((⟨#[]⟩ : ByteArray), (0, (0, 0)))).2).2).1) < 0)) || (decide (((((List.getD x0 (Int.toNat a2) ((⟨#[]⟩ : ByteArray), (0, (0, 0)))).2).2).1) > ((((List.getD x0 (Int.toNat a2) ((⟨#[]⟩ : ByteArray), (0, (0, 0)))).2).2).2)))) || (decide (((((List.getD x0 (Int.toNat a2) ((⟨#[]⟩ : ByteArray), (0, (0, 0)))).2).2).2) > 200000)) then
            some 12
          else
          bif (decide (0 ≤ a2)) && (decide (a2 ≤ (x0.length : Int))) then
            sequence_Check.l1 N x0 k1 a2 N 0
          else
            none
      else
        none
    else
      some 0 := by
  rw [sequence_Check.l0_succ]; simp only [taut8, taut1, taut10, taut6, cond_true]
theorem sequence_Check.l1_cons (N : Nat) (x0 : List (ByteArray × Int × Int × Int)) (k1 : Nat) (a2 : Int) (k5 : Nat) {pre r} {x} (hl : (List.take (Int.toNat a2) x0) = pre ++ x :: r) (hb : (List.take (Int.toNat a2) x0).length < 4611686018427387904) : sequence_Check.l1 N x0 k1 a2 (k5 + 1) (pre.length : Int) =
    bif seq (x.1) ((List.getD x0 (Int.toNat a2) ((⟨#[]⟩ : ByteArray), (0, (0, 0)))).1) then
      some 7
    else
      sequence_Check.l1 N x0 k1 a2 k5 ((pre.length : Int) + 1) := by
  have hlen : (List.take (Int.toNat a2) x0).length = pre.length + 1 + r.length := by rw [hl]; simp; omega
  have e1 : decide ((pre.length : Int) < ((List.take (Int.toNat a2) x0).length : Int)) = true := by rw [decide_eq_true_iff]; omega
  have e2 : decide (0 ≤ (pre.length : Int)) = true := by rw [decide_eq_true_iff]; omega
  have e4 : w ((pre.length : Int) + 1) = (pre.length : Int) + 1 := w_next hl hb
  have e5 : List.take pre.length (List.take (Int.toNat a2) x0) = pre := by rw [hl]; simp
  have e6 : decide ((pre.length : Int) ≤ ((List.take (Int.toNat a2) x0).length : Int)) = true := by rw [decide_eq_true_iff]; omega
  have g0 : List.getD (List.take (Int.toNat a2) x0) pre.length ((⟨#[]⟩ : ByteArray), (0, (0, 0))) = x := by rw [hl]; exact getD_mid pre x r _
  rw [sequence_Check.l1_succ]
  simp -implicitDefEqProofs only [Int.toNat_natCast, e1, e2, e4, e6, g0, e5, Bool.and_true, Bool.true_and, Bool.true_or, cond_true]
theorem sequence_Check.l1_nil (N : Nat) (x0 : List (ByteArray × Int × Int × Int)) (k1 : Nat) (a2 : Int) (k5 : Nat) : sequence_Check.l1 N x0 k1 a2 (k5 + 1) ((List.take (Int.toNat a2) x0).length : Int) =
    sequence_Check.l0 N x0 k1 (w (a2 + 1)) := by
  have e1 : decide (((List.take (Int.toNat a2) x0).length : Int) < ((List.take (Int.toNat a2) x0).length : Int)) = false := by rw [decide_eq_false_iff_not]; omega
  rw [sequence_Check.l1_succ]
  simp -implicitDefEqProofs only [e1, cond_false]
theorem sequence_Check.l0_cons (N : Nat) (x0 : List (ByteArray × Int × Int × Int)) (k1 : Nat) {pre r} {x} (hl : x0 = pre ++ x :: r) (hb : x0.length < 4611686018427387904) : sequence_Check.l0 N x0 (k1 + 1) (pre.length : Int) =
    (slot_Name.fn N (x.1)).bind fun r3 =>
    bif !r3 then
      some 3
    else
      (wake_Class.fn N ((x.2).1)).bind fun r4 =>
      bif !(r4 == 0) then
        some r4
      else
      bif ((decide ((((x.2).2).1) < 0)) || (decide ((((x.2).2).1) > (((x.2).2).2)))) || (decide ((((x.2).2).2) > 200000)) then
        some 12
      else
        sequence_Check.l1 N x0 k1 (pre.length : Int) N 0 := by
  have hlen : x0.length = pre.length + 1 + r.length := by rw [hl]; simp; omega
  have e1 : decide ((pre.length : Int) < (x0.length : Int)) = true := by rw [decide_eq_true_iff]; omega
  have e2 : decide (0 ≤ (pre.length : Int)) = true := by rw [decide_eq_true_iff]; omega
  have e4 : w ((pre.length : Int) + 1) = (pre.length : Int) + 1 := w_next hl hb
  have e5 : List.take pre.length x0 = pre := by rw [hl]; simp
  have e6 : decide ((pre.length : Int) ≤ (x0.length : Int)) = true := by rw [decide_eq_true_iff]; omega
  have g0 : List.getD x0 pre.length ((⟨#[]⟩ : ByteArray), (0, (0, 0))) = x := by rw [hl]; exact getD_mid pre x r _
  rw [sequence_Check.l0_clean]
  simp -implicitDefEqProofs only [Int.toNat_natCast, e1, e2, e4, e6, g0, e5, Bool.and_true, Bool.true_and, Bool.true_or, cond_true]
theorem sequence_Check.l0_nil (N : Nat) (x0 : List (ByteArray × Int × Int × Int)) (k1 : Nat) : sequence_Check.l0 N x0 (k1 + 1) (x0.length : Int) =
    some 0 := by
  have e1 : decide ((x0.length : Int) < (x0.length : Int)) = false := by rw [decide_eq_false_iff_not]; omega
  rw [sequence_Check.l0_clean]
  simp -implicitDefEqProofs only [e1, cond_false]
theorem sequence_Check.eq (N : Nat) (x0 : List (ByteArray × Int × Int × Int)) : sequence_Check.fn N x0 =
    bif decide ((x0.length : Int) > 8) then
      some 2
    else
      sequence_Check.l0 N x0 N 0 := by kernel_rfl

/-! ### cmp_isNaN_int: cmp.isNaN[int] -/
def cmp_isNaN_int.kp : List (Nat × List (Nat × Option (TypeId × Ty))) := []
noncomputable def cmp_isNaN_int.G (N : Nat) : List (Nat × Spec) := []
noncomputable def cmp_isNaN_int.E (N : Nat) : Env := mkEnv (cmp_isNaN_int.G N) N tyTab cmp_isNaN_int.kp
noncomputable def cmp_isNaN_int.fn (N : Nat) (x : Int) : Option Bool := evFn (cmp_isNaN_int.E N) Try.prog 3 Try.f43 false [.cell (.int .i64)] [.val (.cell (.bool))] x
noncomputable def cmp_isNaN_int.S (N : Nat) : PSpec := ⟨false, [.cell (.int .i64)], [.val (.cell (.bool))], cmp_isNaN_int.fn N⟩
theorem f43_enters : Enters Try.prog 43 := ⟨Try.f43, Try.func43, by kernel_rfl, by kernel_rfl⟩
theorem cmp_isNaN_int.tab (N : Nat) : TabOk Try.prog (cmp_isNaN_int.G N) := trivial
theorem cmp_isNaN_int.enters : Enters Try.prog 43 := f43_enters
theorem cmp_isNaN_int.sound (N : Nat) : Sound Try.prog 43 (cmp_isNaN_int.S N) := evFn_sound (specs_tab (cmp_isNaN_int.tab N)) (inls_tab (cmp_isNaN_int.tab N)) mixed 3 Try.func43 _ _ _
theorem cmp_isNaN_int.eq (N : Nat) (x0 : Int) : cmp_isNaN_int.fn N x0 =
    some (!(x0 == x0)) := by kernel_rfl

/-! ### cmp_Compare_int: cmp.Compare[int] -/
def cmp_Compare_int.kp : List (Nat × List (Nat × Option (TypeId × Ty))) := []
noncomputable def cmp_Compare_int.G (N : Nat) : List (Nat × Spec) := [(43, .pure (cmp_isNaN_int.S N))]
noncomputable def cmp_Compare_int.E (N : Nat) : Env := mkEnv (cmp_Compare_int.G N) N tyTab cmp_Compare_int.kp
noncomputable def cmp_Compare_int.fn (N : Nat) (x : Int × Int) : Option Int := evFn (cmp_Compare_int.E N) Try.prog 3 Try.f34 false [.cell (.int .i64), .cell (.int .i64)] [.val (.cell (.int .i64))] x
noncomputable def cmp_Compare_int.S (N : Nat) : PSpec := ⟨false, [.cell (.int .i64), .cell (.int .i64)], [.val (.cell (.int .i64))], cmp_Compare_int.fn N⟩
theorem f34_enters : Enters Try.prog 34 := ⟨Try.f34, Try.func34, by kernel_rfl, by kernel_rfl⟩
theorem cmp_Compare_int.tab (N : Nat) : TabOk Try.prog (cmp_Compare_int.G N) := ⟨⟨cmp_isNaN_int.enters, cmp_isNaN_int.sound N⟩, trivial⟩
theorem cmp_Compare_int.enters : Enters Try.prog 34 := f34_enters
theorem cmp_Compare_int.sound (N : Nat) : Sound Try.prog 34 (cmp_Compare_int.S N) := evFn_sound (specs_tab (cmp_Compare_int.tab N)) (inls_tab (cmp_Compare_int.tab N)) mixed 3 Try.func34 _ _ _
theorem cmp_Compare_int.eq (N : Nat) (x0 : Int) (x1 : Int) : cmp_Compare_int.fn N (x0, x1) =
    (cmp_isNaN_int.fn N x0).bind fun r1 =>
    (cmp_isNaN_int.fn N x1).bind fun r2 =>
    bif r1 then
      bif r2 then
        some 0
      else
        some (-1)
    else
    bif r2 then
      some 1
    else
    bif decide (x0 < x1) then
      some (-1)
    else
    bif decide (x0 > x1) then
      some 1
    else
      some 0 := by kernel_rfl

/-! ### cmp_isNaN_string: cmp.isNaN[string] -/
def cmp_isNaN_string.kp : List (Nat × List (Nat × Option (TypeId × Ty))) := []
noncomputable def cmp_isNaN_string.G (N : Nat) : List (Nat × Spec) := []
noncomputable def cmp_isNaN_string.E (N : Nat) : Env := mkEnv (cmp_isNaN_string.G N) N tyTab cmp_isNaN_string.kp
noncomputable def cmp_isNaN_string.fn (N : Nat) (x : ByteArray) : Option Bool := evFn (cmp_isNaN_string.E N) Try.prog 3 Try.f44 false [.cell (.str)] [.val (.cell (.bool))] x
noncomputable def cmp_isNaN_string.S (N : Nat) : PSpec := ⟨false, [.cell (.str)], [.val (.cell (.bool))], cmp_isNaN_string.fn N⟩
theorem f44_enters : Enters Try.prog 44 := ⟨Try.f44, Try.func44, by kernel_rfl, by kernel_rfl⟩
theorem cmp_isNaN_string.tab (N : Nat) : TabOk Try.prog (cmp_isNaN_string.G N) := trivial
theorem cmp_isNaN_string.enters : Enters Try.prog 44 := f44_enters
theorem cmp_isNaN_string.sound (N : Nat) : Sound Try.prog 44 (cmp_isNaN_string.S N) := evFn_sound (specs_tab (cmp_isNaN_string.tab N)) (inls_tab (cmp_isNaN_string.tab N)) mixed 3 Try.func44 _ _ _
theorem cmp_isNaN_string.eq (N : Nat) (x0 : ByteArray) : cmp_isNaN_string.fn N x0 =
    some (!(seq x0 x0)) := by kernel_rfl

/-! ### cmp_Compare_string: cmp.Compare[string] -/
def cmp_Compare_string.kp : List (Nat × List (Nat × Option (TypeId × Ty))) := []
noncomputable def cmp_Compare_string.G (N : Nat) : List (Nat × Spec) := [(44, .pure (cmp_isNaN_string.S N))]
noncomputable def cmp_Compare_string.E (N : Nat) : Env := mkEnv (cmp_Compare_string.G N) N tyTab cmp_Compare_string.kp
noncomputable def cmp_Compare_string.fn (N : Nat) (x : ByteArray × ByteArray) : Option Int := evFn (cmp_Compare_string.E N) Try.prog 3 Try.f35 false [.cell (.str), .cell (.str)] [.val (.cell (.int .i64))] x
noncomputable def cmp_Compare_string.S (N : Nat) : PSpec := ⟨false, [.cell (.str), .cell (.str)], [.val (.cell (.int .i64))], cmp_Compare_string.fn N⟩
theorem f35_enters : Enters Try.prog 35 := ⟨Try.f35, Try.func35, by kernel_rfl, by kernel_rfl⟩
theorem cmp_Compare_string.tab (N : Nat) : TabOk Try.prog (cmp_Compare_string.G N) := ⟨⟨cmp_isNaN_string.enters, cmp_isNaN_string.sound N⟩, trivial⟩
theorem cmp_Compare_string.enters : Enters Try.prog 35 := f35_enters
theorem cmp_Compare_string.sound (N : Nat) : Sound Try.prog 35 (cmp_Compare_string.S N) := evFn_sound (specs_tab (cmp_Compare_string.tab N)) (inls_tab (cmp_Compare_string.tab N)) mixed 3 Try.func35 _ _ _
theorem cmp_Compare_string.eq (N : Nat) (x0 : ByteArray) (x1 : ByteArray) : cmp_Compare_string.fn N (x0, x1) =
    (cmp_isNaN_string.fn N x0).bind fun r1 =>
    (cmp_isNaN_string.fn N x1).bind fun r2 =>
    bif r1 then
      bif r2 then
        some 0
      else
        some (-1)
    else
    bif r2 then
      some 1
    else
    bif slt x0 x1 then
      some (-1)
    else
    bif !((slt x0 x1) || (seq x0 x1)) then
      some 1
    else
      some 0 := by kernel_rfl

/-! ### cmp_Or_int: cmp.Or[int] -/
def cmp_Or_int.kp : List (Nat × List (Nat × Option (TypeId × Ty))) := [(3, [(3, none), (6, none), (7, none), (8, none)])]
noncomputable def cmp_Or_int.G (N : Nat) : List (Nat × Spec) := []
noncomputable def cmp_Or_int.E (N : Nat) : Env := mkEnv (cmp_Or_int.G N) N tyTab cmp_Or_int.kp
noncomputable def cmp_Or_int.fn (N : Nat) (x : List Int) : Option Int := evFn (cmp_Or_int.E N) Try.prog 3 Try.f33 false [.cell (.sl 3 (.int .i64))] [.val (.cell (.int .i64))] x
noncomputable def cmp_Or_int.S (N : Nat) : PSpec := ⟨false, [.cell (.sl 3 (.int .i64))], [.val (.cell (.int .i64))], cmp_Or_int.fn N⟩
theorem f33_enters : Enters Try.prog 33 := ⟨Try.f33, Try.func33, by kernel_rfl, by kernel_rfl⟩
theorem cmp_Or_int.tab (N : Nat) : TabOk Try.prog (cmp_Or_int.G N) := trivial
theorem cmp_Or_int.enters : Enters Try.prog 33 := f33_enters
theorem cmp_Or_int.sound (N : Nat) : Sound Try.prog 33 (cmp_Or_int.S N) := evFn_sound (specs_tab (cmp_Or_int.tab N)) (inls_tab (cmp_Or_int.tab N)) mixed 3 Try.func33 _ _ _
noncomputable def cmp_Or_int.cd (N : Nat) (p : List Nat) : St → (Ex → St → Option Int) → Option Int := ev (cmp_Or_int.E N) Try.prog (callD (cmp_Or_int.E N) Try.prog 3) 0 (codeAt (bodyOf Try.f33) p)
noncomputable def cmp_Or_int.fin : Ex → St → Option Int := endK Try.prog Try.f33 [.val (.cell (.int .i64))]
noncomputable def cmp_Or_int.l0 (N : Nat) (x0 : List Int) (k1 : Nat) (a2 : Int) : Option Int :=
  loopN (norm ((cmp_Or_int.E N).keep 3) 0) (cmp_Or_int.cd N [1, 1, 0, 1, 0, 0]) k1
  ⟨[.any, .any, .any, .sc (.int .i64 0), .any, .any, .ros false 3 (.int .i64) x0, .sc (.int .i64 (x0.length : Int)), .sc (.int .i64 a2), .any, .any, .any, .any, .any, .any, .any, .any, .any], []⟩
  (blockK 0 (seqK (cmp_Or_int.cd N [1, 1, 1]) cmp_Or_int.fin))
theorem cmp_Or_int.l0_zero (N : Nat) (x0 : List Int) (a2 : Int) : cmp_Or_int.l0 N x0 0 a2 = none := by kernel_rfl
theorem cmp_Or_int.l0_succ (N : Nat) (x0 : List Int) (k1 : Nat) (a2 : Int) : cmp_Or_int.l0 N x0 (k1 + 1) a2 =
    bif decide (a2 < (x0.length : Int)) then
      bif (decide (0 ≤ a2)) && (decide (a2 < (x0.length : Int))) then
        bif !((List.getD x0 (Int.toNat a2) 0) == 0) then
          some (List.getD x0 (Int.toNat a2) 0)
        else
          cmp_Or_int.l0 N x0 k1 (w (a2 + 1))
      else
        none
    else
      some 0 := by kernel_rfl
theorem cmp_Or_int.l0_cons (N : Nat) (x0 : List Int) (k1 : Nat) {pre r} {x} (hl : x0 = pre ++ x :: r) (hb : x0.length < 4611686018427387904) : cmp_Or_int.l0 N x0 (k1 + 1) (pre.length : Int) =
    bif !(x == 0) then
      some x
    else
      cmp_Or_int.l0 N x0 k1 ((pre.length : Int) + 1) := by
  have hlen : x0.length = pre.length + 1 + r.length := by rw [hl]; simp; omega
  have e1 : decide ((pre.length : Int) < (x0.length : Int)) = true := by rw [decide_eq_true_iff]; omega
  have e2 : decide (0 ≤ (pre.length : Int)) = true := by rw [decide_eq_true_iff]; omega
  have e4 : w ((pre.length : Int) + 1) = (pre.length : Int) + 1 := w_next hl hb
  have e5 : List.take pre.length x0 = pre := by rw [hl]; simp
  have e6 : decide ((pre.length : Int) ≤ (x0.length : Int)) = true := by rw [decide_eq_true_iff]; omega
  have g0 : List.getD x0 pre.length 0 = x := by rw [hl]; exact getD_mid pre x r _
  rw [cmp_Or_int.l0_succ]
  simp -implicitDefEqProofs only [Int.toNat_natCast, e1, e2, e4, e6, g0, e5, Bool.and_true, Bool.true_and, Bool.true_or, cond_true]
theorem cmp_Or_int.l0_nil (N : Nat) (x0 : List Int) (k1 : Nat) : cmp_Or_int.l0 N x0 (k1 + 1) (x0.length : Int) =
    some 0 := by
  have e1 : decide ((x0.length : Int) < (x0.length : Int)) = false := by rw [decide_eq_false_iff_not]; omega
  rw [cmp_Or_int.l0_succ]
  simp -implicitDefEqProofs only [e1, cond_false]
theorem cmp_Or_int.eq (N : Nat) (x0 : List Int) : cmp_Or_int.fn N x0 =
    cmp_Or_int.l0 N x0 N 0 := by kernel_rfl

/-! ### sequence_natural_1: skyway/sequence.natural$1 -/
def sequence_natural_1.kp : List (Nat × List (Nat × Option (TypeId × Ty))) := []
noncomputable def sequence_natural_1.G (N : Nat) : List (Nat × Spec) := [(33, .pure (cmp_Or_int.S N)), (34, .pure (cmp_Compare_int.S N)), (35, .pure (cmp_Compare_string.S N))]
noncomputable def sequence_natural_1.E (N : Nat) : Env := mkEnv (sequence_natural_1.G N) N tyTab sequence_natural_1.kp
noncomputable def sequence_natural_1.fn (N : Nat) (x : Int × Int × List (ByteArray × Int × Int × Int)) : Option Int := evFn (sequence_natural_1.E N) Try.prog 3 Try.f32 false [.cell (.int .i64), .cell (.int .i64), .box (.sl 48 (.pair (.str) (.pair (.int .i64) (.pair (.int .i64) (.int .i64)))))] [.val (.cell (.int .i64))] x
noncomputable def sequence_natural_1.S (N : Nat) : PSpec := ⟨false, [.cell (.int .i64), .cell (.int .i64), .box (.sl 48 (.pair (.str) (.pair (.int .i64) (.pair (.int .i64) (.int .i64)))))], [.val (.cell (.int .i64))], sequence_natural_1.fn N⟩
theorem f32_enters : Enters Try.prog 32 := ⟨Try.f32, Try.func32, by kernel_rfl, by kernel_rfl⟩
theorem sequence_natural_1.tab (N : Nat) : TabOk Try.prog (sequence_natural_1.G N) := ⟨⟨cmp_Or_int.enters, cmp_Or_int.sound N⟩, ⟨cmp_Compare_int.enters, cmp_Compare_int.sound N⟩, ⟨cmp_Compare_string.enters, cmp_Compare_string.sound N⟩, trivial⟩
theorem sequence_natural_1.enters : Enters Try.prog 32 := f32_enters
theorem sequence_natural_1.sound (N : Nat) : Sound Try.prog 32 (sequence_natural_1.S N) := evFn_sound (specs_tab (sequence_natural_1.tab N)) (inls_tab (sequence_natural_1.tab N)) mixed 3 Try.func32 _ _ _
theorem sequence_natural_1.reads (N : Nat) : ReadsOk Try.prog 32 [.cell (.int .i64), .cell (.int .i64), .box (.sl 48 (.pair (.str) (.pair (.int .i64) (.pair (.int .i64) (.int .i64)))))] (sequence_natural_1.fn N) := evFn_reads (specs_tab (sequence_natural_1.tab N)) (inls_tab (sequence_natural_1.tab N)) mixed 3 Try.func32 _ _
theorem sequence_natural_1.eq (N : Nat) (x0 : Int) (x1 : Int) (x2 : List (ByteArray × Int × Int × Int)) : sequence_natural_1.fn N (x0, x1, x2) =
    bif (decide (0 ≤ x0)) && (decide (x0 < (x2.length : Int))) then
      bif (decide (0 ≤ x1)) && (decide (x1 < (x2.length : Int))) then
        (cmp_Compare_int.fn N ((((List.getD x2 (Int.toNat x0) ((⟨#[]⟩ : ByteArray), (0, (0, 0)))).2).2).1, (((List.getD x2 (Int.toNat x1) ((⟨#[]⟩ : ByteArray), (0, (0, 0)))).2).2).1)).bind fun r1 =>
        bif (decide (0 ≤ x0)) && (decide (x0 < (x2.length : Int))) then
          bif (decide (0 ≤ x1)) && (decide (x1 < (x2.length : Int))) then
            (cmp_Compare_string.fn N ((List.getD x2 (Int.toNat x0) ((⟨#[]⟩ : ByteArray), (0, (0, 0)))).1, (List.getD x2 (Int.toNat x1) ((⟨#[]⟩ : ByteArray), (0, (0, 0)))).1)).bind fun r2 =>
            (cmp_Or_int.fn N [r1, r2]).bind fun r3 =>
            some r3
          else
            none
        else
          none
      else
        none
    else
      none := by kernel_rfl

/-! ### sequence_natural: skyway/sequence.natural -/
theorem f31_enters : Enters Try.prog 31 := ⟨Try.f31, Try.func31, by kernel_rfl, by kernel_rfl⟩
def sequence_natural.kp : List (Nat × List (Nat × Option (TypeId × Ty))) := [(3, [(1, none), (3, some (3, .int .i64)), (6, none), (7, none)])]
noncomputable def sequence_natural.G (N : Nat) : List (Nat × Spec) := [(31, .mac (sortM 3 32 (.cell (.int .i64)) [.box (.sl 48 (.pair (.str) (.pair (.int .i64) (.pair (.int .i64) (.int .i64)))))] (sequence_natural_1.fn N)))]
noncomputable def sequence_natural.E (N : Nat) : Env := mkEnv (sequence_natural.G N) N tyTab sequence_natural.kp
noncomputable def sequence_natural.fn (N : Nat) (x : List (ByteArray × Int × Int × Int)) : Option (List Int) := evFn (sequence_natural.E N) Try.prog 3 Try.f20 false [.cell (.sl 48 (.pair (.str) (.pair (.int .i64) (.pair (.int .i64) (.int .i64)))))] [.own 3 (.int .i64)] x
noncomputable def sequence_natural.S (N : Nat) : PSpec := ⟨false, [.cell (.sl 48 (.pair (.str) (.pair (.int .i64) (.pair (.int .i64) (.int .i64)))))], [.own 3 (.int .i64)], sequence_natural.fn N⟩
theorem f20_enters : Enters Try.prog 20 := ⟨Try.f20, Try.func20, by kernel_rfl, by kernel_rfl⟩
theorem sequence_natural.tab (N : Nat) : TabOk Try.prog (sequence_natural.G N) := ⟨.inl ⟨f31_enters, sort_sound (v := .cell (.int .i64)) (r := [.box (.sl 48 (.pair (.str) (.pair (.int .i64) (.pair (.int .i64) (.int .i64)))))]) rfl Sort31.sortC (enters_run f32_enters) (sequence_natural_1.reads N)⟩, trivial⟩
theorem sequence_natural.enters : Enters Try.prog 20 := f20_enters
theorem sequence_natural.sound (N : Nat) : Sound Try.prog 20 (sequence_natural.S N) := evFn_sound (specs_tab (sequence_natural.tab N)) (inls_tab (sequence_natural.tab N)) mixed 3 Try.func20 _ _ _
noncomputable def sequence_natural.cd (N : Nat) (p : List Nat) : St → (Ex → St → Option (List Int)) → Option (List Int) := ev (sequence_natural.E N) Try.prog (callD (sequence_natural.E N) Try.prog 3) 0 (codeAt (bodyOf Try.f20) p)
noncomputable def sequence_natural.fin : Ex → St → Option (List Int) := endK Try.prog Try.f20 [.own 3 (.int .i64)]
noncomputable def sequence_natural.l0 (N : Nat) (x0 : List (ByteArray × Int × Int × Int)) (k1 : Nat) (a2 : Int) (a3 : List Int) : Option (List Int) :=
  loopN (norm ((sequence_natural.E N).keep 3) 0) (sequence_natural.cd N [1, 1, 0, 1, 0, 0]) k1
  ⟨[.any, .ptr 0 0, .any, .own 1, .any, .any, .sc (.int .i64 (x0.length : Int)), .sc (.int .i64 a2), .any, .any, .any, .any, .any, .any, .any, .any, .any, .any, .any], [.cells [.ros false 48 (.pair (.str) (.pair (.int .i64) (.pair (.int .i64) (.int .i64)))) x0] 22, .rows true 3 (.int .i64) a3]⟩
  (blockK 0 (seqK (sequence_natural.cd N [1, 1, 1]) sequence_natural.fin))
theorem sequence_natural.l0_zero (N : Nat) (x0 : List (ByteArray × Int × Int × Int)) (a2 : Int) (a3 : List Int) : sequence_natural.l0 N x0 0 a2 a3 = none := by kernel_rfl
theorem sequence_natural.l0_succ (N : Nat) (x0 : List (ByteArray × Int × Int × Int)) (k1 : Nat) (a2 : Int) (a3 : List Int) : sequence_natural.l0 N x0 (k1 + 1) a2 a3 =
    bif decide (a2 < (x0.length : Int)) then
      bif decide ((a3.length + 1) * 8 ≤ 140737488355328) && decide ((a3.length + 1) ≤ maxLen) then
        sequence_natural.l0 N x0 k1 (w (a2 + 1)) (a3 ++ [a2])
      else
        none
    else
    bif sortOk (fun (p q : Int) => sequence_natural_1.fn N (p, q, x0)) a3 then
      some (sortL (fun (p q : Int) => sequence_natural_1.fn N (p, q, x0)) a3)
    else
      none := by kernel_rfl
theorem sequence_natural.l0_cons (N : Nat) (x0 : List (ByteArray × Int × Int × Int)) (k1 : Nat) (a3 : List Int) {pre r} {x} (hl : x0 = pre ++ x :: r) (hb : x0.length < 4611686018427387904) : sequence_natural.l0 N x0 (k1 + 1) (pre.length : Int) a3 =
    bif decide ((a3.length + 1) * 8 ≤ 140737488355328) && decide ((a3.length + 1) ≤ maxLen) then
      sequence_natural.l0 N x0 k1 ((pre.length : Int) + 1) (a3 ++ [(pre.length : Int)])
    else
      none := by
  have hlen : x0.length = pre.length + 1 + r.length := by rw [hl]; simp; omega
  have e1 : decide ((pre.length : Int) < (x0.length : Int)) = true := by rw [decide_eq_true_iff]; omega
  have e2 : decide (0 ≤ (pre.length : Int)) = true := by rw [decide_eq_true_iff]; omega
  have e4 : w ((pre.length : Int) + 1) = (pre.length : Int) + 1 := w_next hl hb
  have e5 : List.take pre.length x0 = pre := by rw [hl]; simp
  have e6 : decide ((pre.length : Int) ≤ (x0.length : Int)) = true := by rw [decide_eq_true_iff]; omega
  rw [sequence_natural.l0_succ]
  simp -implicitDefEqProofs only [Int.toNat_natCast, e1, e2, e4, e6, e5, Bool.and_true, Bool.true_and, Bool.true_or, cond_true]
theorem sequence_natural.l0_nil (N : Nat) (x0 : List (ByteArray × Int × Int × Int)) (k1 : Nat) (a3 : List Int) : sequence_natural.l0 N x0 (k1 + 1) (x0.length : Int) a3 =
    bif sortOk (fun (p q : Int) => sequence_natural_1.fn N (p, q, x0)) a3 then
      some (sortL (fun (p q : Int) => sequence_natural_1.fn N (p, q, x0)) a3)
    else
      none := by
  have e1 : decide ((x0.length : Int) < (x0.length : Int)) = false := by rw [decide_eq_false_iff_not]; omega
  rw [sequence_natural.l0_succ]
  simp -implicitDefEqProofs only [e1, cond_false]
theorem sequence_natural.eq (N : Nat) (x0 : List (ByteArray × Int × Int × Int)) : sequence_natural.fn N x0 =
    sequence_natural.l0 N x0 N 0 [] := by kernel_rfl

/-! ### sequence_Natural: skyway/sequence.Natural -/
def sequence_Natural.kp : List (Nat × List (Nat × Option (TypeId × Ty))) := []
noncomputable def sequence_Natural.G (N : Nat) : List (Nat × Spec) := [(10, .pure (sequence_Check.S N)), (20, .pure (sequence_natural.S N))]
noncomputable def sequence_Natural.E (N : Nat) : Env := mkEnv (sequence_Natural.G N) N tyTab sequence_Natural.kp
noncomputable def sequence_Natural.fn (N : Nat) (x : List (ByteArray × Int × Int × Int)) : Option (List Int × Int) := evFn (sequence_Natural.E N) Try.prog 3 Try.f6 false [.cell (.sl 48 (.pair (.str) (.pair (.int .i64) (.pair (.int .i64) (.int .i64)))))] [.own 3 (.int .i64), .val (.cell (.int .i64))] x
noncomputable def sequence_Natural.S (N : Nat) : PSpec := ⟨false, [.cell (.sl 48 (.pair (.str) (.pair (.int .i64) (.pair (.int .i64) (.int .i64)))))], [.own 3 (.int .i64), .val (.cell (.int .i64))], sequence_Natural.fn N⟩
theorem f6_enters : Enters Try.prog 6 := ⟨Try.f6, Try.func6, by kernel_rfl, by kernel_rfl⟩
theorem sequence_Natural.tab (N : Nat) : TabOk Try.prog (sequence_Natural.G N) := ⟨⟨sequence_Check.enters, sequence_Check.sound N⟩, ⟨sequence_natural.enters, sequence_natural.sound N⟩, trivial⟩
theorem sequence_Natural.enters : Enters Try.prog 6 := f6_enters
theorem sequence_Natural.sound (N : Nat) : Sound Try.prog 6 (sequence_Natural.S N) := evFn_sound (specs_tab (sequence_Natural.tab N)) (inls_tab (sequence_Natural.tab N)) mixed 3 Try.func6 _ _ _
theorem sequence_Natural.eq (N : Nat) (x0 : List (ByteArray × Int × Int × Int)) : sequence_Natural.fn N x0 =
    (sequence_Check.fn N x0).bind fun r1 =>
    bif !(r1 == 0) then
      some ([], r1)
    else
      (sequence_natural.fn N x0).bind fun r2 =>
      some (r2, 0) := by kernel_rfl

/-! ### wake_Standard: skyway/wake.Standard -/
def wake_Standard.kp : List (Nat × List (Nat × Option (TypeId × Ty))) := []
noncomputable def wake_Standard.G (N : Nat) : List (Nat × Spec) := []
noncomputable def wake_Standard.E (N : Nat) : Env := mkEnv (wake_Standard.G N) N tyTab wake_Standard.kp
noncomputable def wake_Standard.fn (N : Nat) (x : Unit) : Option (List Int) := evFn (wake_Standard.E N) Try.prog 3 Try.f19 false [] [.val (.agg (.vec 16 .i64))] x
noncomputable def wake_Standard.S (N : Nat) : PSpec := ⟨false, [], [.val (.agg (.vec 16 .i64))], wake_Standard.fn N⟩
theorem f19_enters : Enters Try.prog 19 := ⟨Try.f19, Try.func19, by kernel_rfl, by kernel_rfl⟩
theorem wake_Standard.tab (N : Nat) : TabOk Try.prog (wake_Standard.G N) := trivial
theorem wake_Standard.enters : Enters Try.prog 19 := f19_enters
theorem wake_Standard.sound (N : Nat) : Sound Try.prog 19 (wake_Standard.S N) := evFn_sound (specs_tab (wake_Standard.tab N)) (inls_tab (wake_Standard.tab N)) mixed 3 Try.func19 _ _ _
theorem wake_Standard.eq (N : Nat) : wake_Standard.fn N () =
    some [60, 60, 60, 60, 120, 60, 60, 60, 180, 120, 90, 60, 240, 180, 120, 120] := by kernel_rfl

/-! ### wake_Check: skyway/wake.Check -/
def wake_Check.kp : List (Nat × List (Nat × Option (TypeId × Ty))) := [(2, [(1, none), (10, none), (11, none)]), (5, [(1, none), (10, none), (11, none), (14, none), (15, none)]), (12, [(1, none), (26, none)]), (15, [(1, none), (7, none), (26, none), (29, none)]), (18, [(1, none), (7, none), (8, none), (26, none), (29, none), (32, none)])]
noncomputable def wake_Check.G (N : Nat) : List (Nat × Spec) := []
noncomputable def wake_Check.E (N : Nat) : Env := mkEnv (wake_Check.G N) N tyTab wake_Check.kp
noncomputable def wake_Check.fn (N : Nat) (x : List Int) : Option Int := evFn (wake_Check.E N) Try.prog 3 Try.f36 false [.agg (.vec 16 .i64)] [.val (.cell (.int .i64))] x
noncomputable def wake_Check.S (N : Nat) : PSpec := ⟨false, [.agg (.vec 16 .i64)], [.val (.cell (.int .i64))], wake_Check.fn N⟩
theorem f36_enters : Enters Try.prog 36 := ⟨Try.f36, Try.func36, by kernel_rfl, by kernel_rfl⟩
theorem wake_Check.tab (N : Nat) : TabOk Try.prog (wake_Check.G N) := trivial
theorem wake_Check.enters : Enters Try.prog 36 := f36_enters
theorem wake_Check.sound (N : Nat) : Sound Try.prog 36 (wake_Check.S N) := evFn_sound (specs_tab (wake_Check.tab N)) (inls_tab (wake_Check.tab N)) mixed 3 Try.func36 _ _ _
noncomputable def wake_Check.cd (N : Nat) (p : List Nat) : St → (Ex → St → Option Int) → Option Int := ev (wake_Check.E N) Try.prog (callD (wake_Check.E N) Try.prog 3) 0 (codeAt (bodyOf Try.f36) p)
noncomputable def wake_Check.fin : Ex → St → Option Int := endK Try.prog Try.f36 [.val (.cell (.int .i64))]
noncomputable def wake_Check.l0 (N : Nat) (x0 : List Int) (k1 : Nat) (a2 : Int) : Option Int :=
  loopN (norm ((wake_Check.E N).keep 2) 0) (wake_Check.cd N [1, 0, 1, 0, 0]) k1
  ⟨[.any, .ptr 0 0, .any, .any, .any, .any, .any, .any, .any, .any, .agg [.sc (.int .i64 (List.getD x0 0 0)), .sc (.int .i64 (List.getD x0 1 0)), .sc (.int .i64 (List.getD x0 2 0)), .sc (.int .i64 (List.getD x0 3 0)), .sc (.int .i64 (List.getD x0 4 0)), .sc (.int .i64 (List.getD x0 5 0)), .sc (.int .i64 (List.getD x0 6 0)), .sc (.int .i64 (List.getD x0 7 0)), .sc (.int .i64 (List.getD x0 8 0)), .sc (.int .i64 (List.getD x0 9 0)), .sc (.int .i64 (List.getD x0 10 0)), .sc (.int .i64 (List.getD x0 11 0)), .sc (.int .i64 (List.getD x0 12 0)), .sc (.int .i64 (List.getD x0 13 0)), .sc (.int .i64 (List.getD x0 14 0)), .sc (.int .i64 (List.getD x0 15 0))], .sc (.int .i64 a2), .any, .any, .any, .any, .any, .any, .any, .any, .any, .any, .any, .any, .any, .any, .any, .any, .any, .any, .any, .any, .any, .any, .any, .any, .any, .any, .any, .any, .any, .any, .any, .any, .any, .any, .any, .any, .any, .any, .any, .any, .any, .any, .any], [.cells [.sc (.int .i64 (List.getD x0 0 0)), .sc (.int .i64 (List.getD x0 1 0)), .sc (.int .i64 (List.getD x0 2 0)), .sc (.int .i64 (List.getD x0 3 0)), .sc (.int .i64 (List.getD x0 4 0)), .sc (.int .i64 (List.getD x0 5 0)), .sc (.int .i64 (List.getD x0 6 0)), .sc (.int .i64 (List.getD x0 7 0)), .sc (.int .i64 (List.getD x0 8 0)), .sc (.int .i64 (List.getD x0 9 0)), .sc (.int .i64 (List.getD x0 10 0)), .sc (.int .i64 (List.getD x0 11 0)), .sc (.int .i64 (List.getD x0 12 0)), .sc (.int .i64 (List.getD x0 13 0)), .sc (.int .i64 (List.getD x0 14 0)), .sc (.int .i64 (List.getD x0 15 0))] 26]⟩
  (blockK 0 (seqK (wake_Check.cd N [1, 1]) wake_Check.fin))
noncomputable def wake_Check.l1 (N : Nat) (x0 : List Int) (k1 : Nat) (a2 : Int) (k3 : Nat) (a4 : Int) : Option Int :=
  loopN (norm ((wake_Check.E N).keep 5) 0) (wake_Check.cd N [1, 0, 1, 0, 0, 1, 1, 0, 0, 1, 1, 0, 0]) k3
  ⟨[.any, .ptr 0 0, .any, .any, .any, .any, .any, .any, .any, .any, .agg [.sc (.int .i64 (List.getD x0 0 0)), .sc (.int .i64 (List.getD x0 1 0)), .sc (.int .i64 (List.getD x0 2 0)), .sc (.int .i64 (List.getD x0 3 0)), .sc (.int .i64 (List.getD x0 4 0)), .sc (.int .i64 (List.getD x0 5 0)), .sc (.int .i64 (List.getD x0 6 0)), .sc (.int .i64 (List.getD x0 7 0)), .sc (.int .i64 (List.getD x0 8 0)), .sc (.int .i64 (List.getD x0 9 0)), .sc (.int .i64 (List.getD x0 10 0)), .sc (.int .i64 (List.getD x0 11 0)), .sc (.int .i64 (List.getD x0 12 0)), .sc (.int .i64 (List.getD x0 13 0)), .sc (.int .i64 (List.getD x0 14 0)), .sc (.int .i64 (List.getD x0 15 0))], .sc (.int .i64 a2), .any, .any, .agg [.sc (.int .i64 (List.getD (vl 16 x0) (((Int.toNat a2) * 4) + 0) 0)), .sc (.int .i64 (List.getD (vl 16 x0) (((Int.toNat a2) * 4) + 1) 0)), .sc (.int .i64 (List.getD (vl 16 x0) (((Int.toNat a2) * 4) + 2) 0)), .sc (.int .i64 (List.getD (vl 16 x0) (((Int.toNat a2) * 4) + 3) 0))], .sc (.int .i64 a4), .any, .any, .any, .any, .any, .any, .any, .any, .any, .any, .any, .any, .any, .any, .any, .any, .any, .any, .any, .any, .any, .any, .any, .any, .any, .any, .any, .any, .any, .any, .any, .any, .any, .any, .any, .any, .any, .any, .any], [.cells [.sc (.int .i64 (List.getD x0 0 0)), .sc (.int .i64 (List.getD x0 1 0)), .sc (.int .i64 (List.getD x0 2 0)), .sc (.int .i64 (List.getD x0 3 0)), .sc (.int .i64 (List.getD x0 4 0)), .sc (.int .i64 (List.getD x0 5 0)), .sc (.int .i64 (List.getD x0 6 0)), .sc (.int .i64 (List.getD x0 7 0)), .sc (.int .i64 (List.getD x0 8 0)), .sc (.int .i64 (List.getD x0 9 0)), .sc (.int .i64 (List.getD x0 10 0)), .sc (.int .i64 (List.getD x0 11 0)), .sc (.int .i64 (List.getD x0 12 0)), .sc (.int .i64 (List.getD x0 13 0)), .sc (.int .i64 (List.getD x0 14 0)), .sc (.int .i64 (List.getD x0 15 0))] 26]⟩
  (blockK 2 (blockK 1 (seqK (wake_Check.cd N [1, 0, 1, 0, 0, 1, 1, 1]) (loopK (norm ((wake_Check.E N).keep 2) 0) (wake_Check.cd N [1, 0, 1, 0, 0]) k1 (blockK 0 (seqK (wake_Check.cd N [1, 1]) wake_Check.fin))))))
noncomputable def wake_Check.l2 (N : Nat) (x0 : List Int) (k5 : Nat) (a6 : Int) : Option Int :=
  loopN (norm ((wake_Check.E N).keep 12) 0) (wake_Check.cd N [1, 1, 0, 1, 0, 0]) k5
  ⟨[.any, .ptr 0 0, .any, .any, .any, .any, .any, .any, .any, .any, .any, .any, .any, .any, .any, .any, .any, .any, .any, .any, .any, .any, .any, .any, .any, .any, .sc (.int .i64 a6), .any, .any, .any, .any, .any, .any, .any, .any, .any, .any, .any, .any, .any, .any, .any, .any, .any, .any, .any, .any, .any, .any, .any, .any, .any, .any, .any, .any], [.cells [.sc (.int .i64 (List.getD x0 0 0)), .sc (.int .i64 (List.getD x0 1 0)), .sc (.int .i64 (List.getD x0 2 0)), .sc (.int .i64 (List.getD x0 3 0)), .sc (.int .i64 (List.getD x0 4 0)), .sc (.int .i64 (List.getD x0 5 0)), .sc (.int .i64 (List.getD x0 6 0)), .sc (.int .i64 (List.getD x0 7 0)), .sc (.int .i64 (List.getD x0 8 0)), .sc (.int .i64 (List.getD x0 9 0)), .sc (.int .i64 (List.getD x0 10 0)), .sc (.int .i64 (List.getD x0 11 0)), .sc (.int .i64 (List.getD x0 12 0)), .sc (.int .i64 (List.getD x0 13 0)), .sc (.int .i64 (List.getD x0 14 0)), .sc (.int .i64 (List.getD x0 15 0))] 26]⟩
  (blockK 4 (seqK (wake_Check.cd N [1, 1, 1]) wake_Check.fin))
noncomputable def wake_Check.l3 (N : Nat) (x0 : List Int) (k5 : Nat) (a6 : Int) (k7 : Nat) (a8 : Int) : Option Int :=
  loopN (norm ((wake_Check.E N).keep 15) 0) (wake_Check.cd N [1, 1, 0, 1, 0, 0, 1, 1, 0, 0, 1, 1, 0, 0]) k7
  ⟨[.any, .ptr 0 0, .any, .any, .any, .any, .any, .sc (.int .i64 a6), .any, .any, .any, .any, .any, .any, .any, .any, .any, .any, .any, .any, .any, .any, .any, .any, .any, .any, .sc (.int .i64 a6), .any, .any, .sc (.int .i64 a8), .any, .any, .any, .any, .any, .any, .any, .any, .any, .any, .any, .any, .any, .any, .any, .any, .any, .any, .any, .any, .any, .any, .any, .any, .any], [.cells [.sc (.int .i64 (List.getD x0 0 0)), .sc (.int .i64 (List.getD x0 1 0)), .sc (.int .i64 (List.getD x0 2 0)), .sc (.int .i64 (List.getD x0 3 0)), .sc (.int .i64 (List.getD x0 4 0)), .sc (.int .i64 (List.getD x0 5 0)), .sc (.int .i64 (List.getD x0 6 0)), .sc (.int .i64 (List.getD x0 7 0)), .sc (.int .i64 (List.getD x0 8 0)), .sc (.int .i64 (List.getD x0 9 0)), .sc (.int .i64 (List.getD x0 10 0)), .sc (.int .i64 (List.getD x0 11 0)), .sc (.int .i64 (List.getD x0 12 0)), .sc (.int .i64 (List.getD x0 13 0)), .sc (.int .i64 (List.getD x0 14 0)), .sc (.int .i64 (List.getD x0 15 0))] 26]⟩
  (blockK 6 (blockK 5 (seqK (wake_Check.cd N [1, 1, 0, 1, 0, 0, 1, 1, 1]) (loopK (norm ((wake_Check.E N).keep 12) 0) (wake_Check.cd N [1, 1, 0, 1, 0, 0]) k5 (blockK 4 (seqK (wake_Check.cd N [1, 1, 1]) wake_Check.fin))))))
noncomputable def wake_Check.l4 (N : Nat) (x0 : List Int) (k5 : Nat) (a6 : Int) (k7 : Nat) (a8 : Int) (k9 : Nat) (a10 : Int) : Option Int :=
  loopN (norm ((wake_Check.E N).keep 18) 0) (wake_Check.cd N [1, 1, 0, 1, 0, 0, 1, 1, 0, 0, 1, 1, 0, 0, 1, 1, 0, 0, 1, 1, 0, 0]) k9
  ⟨[.any, .ptr 0 0, .any, .any, .any, .any, .any, .sc (.int .i64 a6), .sc (.int .i64 a8), .any, .any, .any, .any, .any, .any, .any, .any, .any, .any, .any, .any, .any, .any, .any, .any, .any, .sc (.int .i64 a6), .any, .any, .sc (.int .i64 a8), .any, .any, .sc (.int .i64 a10), .any, .any, .any, .any, .any, .any, .any, .any, .any, .any, .any, .any, .any, .any, .any, .any, .any, .any, .any, .any, .any, .any], [.cells [.sc (.int .i64 (List.getD x0 0 0)), .sc (.int .i64 (List.getD x0 1 0)), .sc (.int .i64 (List.getD x0 2 0)), .sc (.int .i64 (List.getD x0 3 0)), .sc (.int .i64 (List.getD x0 4 0)), .sc (.int .i64 (List.getD x0 5 0)), .sc (.int .i64 (List.getD x0 6 0)), .sc (.int .i64 (List.getD x0 7 0)), .sc (.int .i64 (List.getD x0 8 0)), .sc (.int .i64 (List.getD x0 9 0)), .sc (.int .i64 (List.getD x0 10 0)), .sc (.int .i64 (List.getD x0 11 0)), .sc (.int .i64 (List.getD x0 12 0)), .sc (.int .i64 (List.getD x0 13 0)), .sc (.int .i64 (List.getD x0 14 0)), .sc (.int .i64 (List.getD x0 15 0))] 26]⟩
  (blockK 8 (blockK 7 (seqK (wake_Check.cd N [1, 1, 0, 1, 0, 0, 1, 1, 0, 0, 1, 1, 0, 0, 1, 1, 1]) (loopK (norm ((wake_Check.E N).keep 15) 0) (wake_Check.cd N [1, 1, 0, 1, 0, 0, 1, 1, 0, 0, 1, 1, 0, 0]) k7 (blockK 6 (blockK 5 (seqK (wake_Check.cd N [1, 1, 0, 1, 0, 0, 1, 1, 1]) (loopK (norm ((wake_Check.E N).keep 12) 0) (wake_Check.cd N [1, 1, 0, 1, 0, 0]) k5 (blockK 4 (seqK (wake_Check.cd N [1, 1, 1]) wake_Check.fin))))))))))
theorem wake_Check.l4_zero (N : Nat) (x0 : List Int) (k5 : Nat) (a6 : Int) (k7 : Nat) (a8 : Int) (a10 : Int) : wake_Check.l4 N x0 k5 a6 k7 a8 0 a10 = none := by kernel_rfl
theorem wake_Check.l4_succ (N : Nat) (x0 : List Int) (k5 : Nat) (a6 : Int) (k7 : Nat) (a8 : Int) (k9 : Nat) (a10 : Int) : wake_Check.l4 N x0 k5 a6 k7 a8 (k9 + 1) a10 =
    bif decide (a10 < 4) then
      bif (decide (0 ≤ a6)) && (decide (a6 < 4)) then
        bif (decide (0 ≤ a10)) && (decide (a10 < 4)) then
          bif decide (((0 + ((Int.toNat a6) * 4)) + ((Int.toNat a10) * 1)) < 16) then
            bif (decide (0 ≤ a6)) && (decide (a6 < 4)) then
              bif (decide (0 ≤ a8)) && (decide (a8 < 4)) then
                bif decide (((0 + ((Int.toNat a6) * 4)) + ((Int.toNat a8) * 1)) < 16) then
                  bif (decide (0 ≤ a8)) && (decide (a8 < 4)) then
                    bif (decide (0 ≤ a10)) && (decide (a10 < 4)) then
                      bif decide (((0 + ((Int.toNat a8) * 4)) + ((Int.toNat a10) * 1)) < 16) then
                        bif decide ((List.getD (vl 16 x0) ((0 + ((Int.toNat a6) * 4)) + ((Int.toNat a10) * 1)) 0) > (w ((List.getD (vl 16 x0) ((0 + ((Int.toNat a6) * 4)) + ((Int.toNat a8) * 1)) 0) + (List.getD (vl 16 x0) ((0 + ((Int.toNat a8) * 4)) + ((Int.toNat a10) * 1)) 0)))) then
                          some 3
                        else
                          wake_Check.l4 N x0 k5 a6 k7 a8 k9 (w (a10 + 1))
                      else
                        none
                    else
                      none
                  else
                    none
                else
                  none
              else
                none
            else
              none
          else
            none
        else
          none
      else
        none
    else
      wake_Check.l3 N x0 k5 a6 k7 (w (a8 + 1)) := by kernel_rfl
theorem wake_Check.l3_zero (N : Nat) (x0 : List Int) (k5 : Nat) (a6 : Int) (a8 : Int) : wake_Check.l3 N x0 k5 a6 0 a8 = none := by kernel_rfl
theorem wake_Check.l3_succ (N : Nat) (x0 : List Int) (k5 : Nat) (a6 : Int) (k7 : Nat) (a8 : Int) : wake_Check.l3 N x0 k5 a6 (k7 + 1) a8 =
    bif decide (a8 < 4) then
      wake_Check.l4 N x0 k5 a6 k7 a8 N 0
    else
      wake_Check.l2 N x0 k5 (w (a6 + 1)) := by kernel_rfl
theorem wake_Check.l2_zero (N : Nat) (x0 : List Int) (a6 : Int) : wake_Check.l2 N x0 0 a6 = none := by kernel_rfl
theorem wake_Check.l2_succ (N : Nat) (x0 : List Int) (k5 : Nat) (a6 : Int) : wake_Check.l2 N x0 (k5 + 1) a6 =
    bif decide (a6 < 4) then
      wake_Check.l3 N x0 k5 a6 N 0
    else
      some 0 := by kernel_rfl
theorem wake_Check.l1_zero (N : Nat) (x0 : List Int) (k1 : Nat) (a2 : Int) (a4 : Int) : wake_Check.l1 N x0 k1 a2 0 a4 = none := by kernel_rfl
theorem wake_Check.l1_succ (N : Nat) (x0 : List Int) (k1 : Nat) (a2 : Int) (k3 : Nat) (a4 : Int) : wake_Check.l1 N x0 k1 a2 (k3 + 1) a4 =
    bif decide (a4 < 4) then
      bif (decide (0 ≤ a4)) && (decide (a4 < 4)) then
        bif decide (((Int.toNat a4) * 1) < 4) then
          bif !(!(decide ((List.getD [(List.getD (vl 16 x0) (((Int.toNat a2) * 4) + 0) 0), (List.getD (vl 16 x0) (((Int.toNat a2) * 4) + 1) 0), (List.getD (vl 16 x0) (((Int.toNat a2) * 4) + 2) 0), (List.getD (vl 16 x0) (((Int.toNat a2) * 4) + 3) 0)] ((Int.toNat a4) * 1) 0) < 30))) || (!(decide ((List.getD [(List.getD (vl 16 x0) (((Int.toNat a2) * 4) + 0) 0), (List.getD (vl 16 x0) (((Int.toNat a2) * 4) + 1) 0), (List.getD (vl 16 x0) (((Int.toNat a2) * 4) + 2) 0), (List.getD (vl 16 x0) (((Int.toNat a2) * 4) + 3) 0)] ((Int.toNat a4) * 1) 0) < 30))) then
            bif (decide ((List.getD [(List.getD (vl 16 x0) (((Int.toNat a2) * 4) + 0) 0), (List.getD (vl 16 x0) (((Int.toNat a2) * 4) + 1) 0), (List.getD (vl 16 x0) (((Int.toNat a2) * 4) + 2) 0), (List.getD (vl 16 x0) (((Int.toNat a2) * 4) + 3) 0)] ((Int.toNat a4) * 1) 0) < 30)) || (!(decide ((List.getD [(List.getD (vl 16 x0) (((Int.toNat a2) * 4) + 0) 0), (List.getD (vl 16 x0) (((Int.toNat a2) * 4) + 1) 0), (List.getD (vl 16 x0) (((Int.toNat a2) * 4) + 2) 0), (List.getD (vl 16 x0) (((Int.toNat a2) * 4) + 3) 0)] ((Int.toNat a4) * 1) 0) < 30))) then
              bif (decide ((List.getD [(List.getD (vl 16 x0) (((Int.toNat a2) * 4) + 0) 0), (List.getD (vl 16 x0) (((Int.toNat a2) * 4) + 1) 0), (List.getD (vl 16 x0) (((Int.toNat a2) * 4) + 2) 0), (List.getD (vl 16 x0) (((Int.toNat a2) * 4) + 3) 0)] ((Int.toNat a4) * 1) 0) < 30)) || (decide ((List.getD [(List.getD (vl 16 x0) (((Int.toNat a2) * 4) + 0) 0), (List.getD (vl 16 x0) (((Int.toNat a2) * 4) + 1) 0), (List.getD (vl 16 x0) (((Int.toNat a2) * 4) + 2) 0), (List.getD (vl 16 x0) (((Int.toNat a2) * 4) + 3) 0)] ((Int.toNat a4) * 1) 0) > 600)) then
                some 4
              else
                wake_Check.l1 N x0 k1 a2 k3 (w (a4 + 1))
            else
              none
          else
            none
        else
          none
      else
        none
    else
      wake_Check.l0 N x0 k1 (w (a2 + 1)) := by kernel_rfl
theorem wake_Check.l0_zero (N : Nat) (x0 : List Int) (a2 : Int) : wake_Check.l0 N x0 0 a2 = none := by kernel_rfl
theorem wake_Check.l0_succ (N : Nat) (x0 : List Int) (k1 : Nat) (a2 : Int) : wake_Check.l0 N x0 (k1 + 1) a2 =
    bif decide (a2 < 4) then
      bif (decide (0 ≤ a2)) && (decide (a2 < 4)) then
        bif decide (((Int.toNat a2) * 4) + 4 ≤ 16) then
          wake_Check.l1 N x0 k1 a2 N 0
        else
          none
      else
        none
    else
      wake_Check.l2 N x0 N 0 := by kernel_rfl
theorem wake_Check.l1_clean (N : Nat) (x0 : List Int) (k1 : Nat) (a2 : Int) (k3 : Nat) (a4 : Int) : wake_Check.l1 N x0 k1 a2 (k3 + 1) a4 =
    bif decide (a4 < 4) then
      bif (decide (0 ≤ a4)) && (decide (a4 < 4)) then
        bif decide (((Int.toNat a4) * 1) < 4) then
          bif (decide ((List.getD [(List.getD (vl 16 x0) (((Int.toNat a2) * 4) + 0) 0), (List.getD (vl 16 x0) (((Int.toNat a2) * 4) + 1) 0), (List.getD (vl 16 x0) (((Int.toNat a2) * 4) + 2) 0), (List.getD (vl 16 x0) (((Int.toNat a2) * 4) + 3) 0)] ((Int.toNat a4) * 1) 0) < 30)) || (decide ((List.getD [(List.getD (vl 16 x0) (((Int.toNat a2) * 4) + 0) 0), (List.getD (vl 16 x0) (((Int.toNat a2) * 4) + 1) 0), (List.getD (vl 16 x0) (((Int.toNat a2) * 4) + 2) 0), (List.getD (vl 16 x0) (((Int.toNat a2) * 4) + 3) 0)] ((Int.toNat a4) * 1) 0) > 600)) then
            some 4
          else
            wake_Check.l1 N x0 k1 a2 k3 (w (a4 + 1))
        else
          none
      else
        none
    else
      wake_Check.l0 N x0 k1 (w (a2 + 1)) := by
  rw [wake_Check.l1_succ]; simp only [taut1, taut6, cond_true]
theorem wake_Check.eq (N : Nat) (x0 : List Int) : wake_Check.fn N x0 =
    wake_Check.l0 N x0 N 0 := by kernel_rfl

/-! ### sequence_both: skyway/sequence.both -/
def sequence_both.kp : List (Nat × List (Nat × Option (TypeId × Ty))) := []
noncomputable def sequence_both.G (N : Nat) : List (Nat × Spec) := [(10, .pure (sequence_Check.S N)), (36, .pure (wake_Check.S N))]
noncomputable def sequence_both.E (N : Nat) : Env := mkEnv (sequence_both.G N) N tyTab sequence_both.kp
noncomputable def sequence_both.fn (N : Nat) (x : List (ByteArray × Int × Int × Int) × List Int) : Option Int := evFn (sequence_both.E N) Try.prog 3 Try.f21 false [.cell (.sl 48 (.pair (.str) (.pair (.int .i64) (.pair (.int .i64) (.int .i64))))), .agg (.vec 16 .i64)] [.val (.cell (.int .i64))] x
noncomputable def sequence_both.S (N : Nat) : PSpec := ⟨false, [.cell (.sl 48 (.pair (.str) (.pair (.int .i64) (.pair (.int .i64) (.int .i64))))), .agg (.vec 16 .i64)], [.val (.cell (.int .i64))], sequence_both.fn N⟩
theorem f21_enters : Enters Try.prog 21 := ⟨Try.f21, Try.func21, by kernel_rfl, by kernel_rfl⟩
theorem sequence_both.tab (N : Nat) : TabOk Try.prog (sequence_both.G N) := ⟨⟨sequence_Check.enters, sequence_Check.sound N⟩, ⟨wake_Check.enters, wake_Check.sound N⟩, trivial⟩
theorem sequence_both.enters : Enters Try.prog 21 := f21_enters
theorem sequence_both.sound (N : Nat) : Sound Try.prog 21 (sequence_both.S N) := evFn_sound (specs_tab (sequence_both.tab N)) (inls_tab (sequence_both.tab N)) mixed 3 Try.func21 _ _ _
theorem sequence_both.eq (N : Nat) (x0 : List (ByteArray × Int × Int × Int)) (x1 : List Int) : sequence_both.fn N (x0, x1) =
    (sequence_Check.fn N x0).bind fun r1 =>
    bif !(r1 == 0) then
      some r1
    else
      (wake_Check.fn N (vl 16 x1)).bind fun r2 =>
      some r2 := by kernel_rfl

/-! ### slices_Index_int: slices.Index[[]int,int] -/
def slices_Index_int.kp : List (Nat × List (Nat × Option (TypeId × Ty))) := [(2, [(0, none), (1, none), (7, none), (8, none)])]
noncomputable def slices_Index_int.G (N : Nat) : List (Nat × Spec) := []
noncomputable def slices_Index_int.E (N : Nat) : Env := mkEnv (slices_Index_int.G N) N tyTab slices_Index_int.kp
noncomputable def slices_Index_int.fn (N : Nat) (x : List Int × Int) : Option Int := evFn (slices_Index_int.E N) Try.prog 3 Try.f24 false [.cell (.sl 3 (.int .i64)), .cell (.int .i64)] [.val (.cell (.int .i64))] x
noncomputable def slices_Index_int.S (N : Nat) : PSpec := ⟨false, [.cell (.sl 3 (.int .i64)), .cell (.int .i64)], [.val (.cell (.int .i64))], slices_Index_int.fn N⟩
theorem f24_enters : Enters Try.prog 24 := ⟨Try.f24, Try.func24, by kernel_rfl, by kernel_rfl⟩
theorem slices_Index_int.tab (N : Nat) : TabOk Try.prog (slices_Index_int.G N) := trivial
theorem slices_Index_int.enters : Enters Try.prog 24 := f24_enters
theorem slices_Index_int.sound (N : Nat) : Sound Try.prog 24 (slices_Index_int.S N) := evFn_sound (specs_tab (slices_Index_int.tab N)) (inls_tab (slices_Index_int.tab N)) mixed 3 Try.func24 _ _ _
noncomputable def slices_Index_int.cd (N : Nat) (p : List Nat) : St → (Ex → St → Option Int) → Option Int := ev (slices_Index_int.E N) Try.prog (callD (slices_Index_int.E N) Try.prog 3) 0 (codeAt (bodyOf Try.f24) p)
noncomputable def slices_Index_int.fin : Ex → St → Option Int := endK Try.prog Try.f24 [.val (.cell (.int .i64))]
noncomputable def slices_Index_int.l0 (N : Nat) (x0 : List Int) (x1 : Int) (k1 : Nat) (a2 : Int) : Option Int :=
  loopN (norm ((slices_Index_int.E N).keep 2) 0) (slices_Index_int.cd N [1, 0, 1, 0, 0]) k1
  ⟨[.ros false 3 (.int .i64) x0, .sc (.int .i64 x1), .any, .any, .any, .any, .any, .sc (.int .i64 (x0.length : Int)), .sc (.int .i64 a2), .any, .any, .any, .any, .any, .any, .any, .any, .any, .any], []⟩
  (blockK 0 (seqK (slices_Index_int.cd N [1, 1]) slices_Index_int.fin))
theorem slices_Index_int.l0_zero (N : Nat) (x0 : List Int) (x1 : Int) (a2 : Int) : slices_Index_int.l0 N x0 x1 0 a2 = none := by kernel_rfl
theorem slices_Index_int.l0_succ (N : Nat) (x0 : List Int) (x1 : Int) (k1 : Nat) (a2 : Int) : slices_Index_int.l0 N x0 x1 (k1 + 1) a2 =
    bif decide (a2 < (x0.length : Int)) then
      bif (decide (0 ≤ a2)) && (decide (a2 < (x0.length : Int))) then
        bif x1 == (List.getD x0 (Int.toNat a2) 0) then
          some a2
        else
          slices_Index_int.l0 N x0 x1 k1 (w (a2 + 1))
      else
        none
    else
      some (-1) := by kernel_rfl
theorem slices_Index_int.l0_cons (N : Nat) (x0 : List Int) (x1 : Int) (k1 : Nat) {pre r} {x} (hl : x0 = pre ++ x :: r) (hb : x0.length < 4611686018427387904) : slices_Index_int.l0 N x0 x1 (k1 + 1) (pre.length : Int) =
    bif x1 == x then
      some (pre.length : Int)
    else
      slices_Index_int.l0 N x0 x1 k1 ((pre.length : Int) + 1) := by
  have hlen : x0.length = pre.length + 1 + r.length := by rw [hl]; simp; omega
  have e1 : decide ((pre.length : Int) < (x0.length : Int)) = true := by rw [decide_eq_true_iff]; omega
  have e2 : decide (0 ≤ (pre.length : Int)) = true := by rw [decide_eq_true_iff]; omega
  have e4 : w ((pre.length : Int) + 1) = (pre.length : Int) + 1 := w_next hl hb
  have e5 : List.take pre.length x0 = pre := by rw [hl]; simp
  have e6 : decide ((pre.length : Int) ≤ (x0.length : Int)) = true := by rw [decide_eq_true_iff]; omega
  have g0 : List.getD x0 pre.length 0 = x := by rw [hl]; exact getD_mid pre x r _
  rw [slices_Index_int.l0_succ]
  simp -implicitDefEqProofs only [Int.toNat_natCast, e1, e2, e4, e6, g0, e5, Bool.and_true, Bool.true_and, Bool.true_or, cond_true]
theorem slices_Index_int.l0_nil (N : Nat) (x0 : List Int) (x1 : Int) (k1 : Nat) : slices_Index_int.l0 N x0 x1 (k1 + 1) (x0.length : Int) =
    some (-1) := by
  have e1 : decide ((x0.length : Int) < (x0.length : Int)) = false := by rw [decide_eq_false_iff_not]; omega
  rw [slices_Index_int.l0_succ]
  simp -implicitDefEqProofs only [e1, cond_false]
theorem slices_Index_int.eq (N : Nat) (x0 : List Int) (x1 : Int) : slices_Index_int.fn N (x0, x1) =
    slices_Index_int.l0 N x0 x1 N 0 := by kernel_rfl

/-! ### slices_Contains_int: slices.Contains[[]int,int] -/
def slices_Contains_int.kp : List (Nat × List (Nat × Option (TypeId × Ty))) := []
noncomputable def slices_Contains_int.G (N : Nat) : List (Nat × Spec) := [(24, .pure (slices_Index_int.S N))]
noncomputable def slices_Contains_int.E (N : Nat) : Env := mkEnv (slices_Contains_int.G N) N tyTab slices_Contains_int.kp
noncomputable def slices_Contains_int.fn (N : Nat) (x : List Int × Int) : Option Bool := evFn (slices_Contains_int.E N) Try.prog 3 Try.f37 false [.cell (.sl 3 (.int .i64)), .cell (.int .i64)] [.val (.cell (.bool))] x
noncomputable def slices_Contains_int.S (N : Nat) : PSpec := ⟨false, [.cell (.sl 3 (.int .i64)), .cell (.int .i64)], [.val (.cell (.bool))], slices_Contains_int.fn N⟩
theorem f37_enters : Enters Try.prog 37 := ⟨Try.f37, Try.func37, by kernel_rfl, by kernel_rfl⟩
theorem slices_Contains_int.tab (N : Nat) : TabOk Try.prog (slices_Contains_int.G N) := ⟨⟨slices_Index_int.enters, slices_Index_int.sound N⟩, trivial⟩
theorem slices_Contains_int.enters : Enters Try.prog 37 := f37_enters
theorem slices_Contains_int.sound (N : Nat) : Sound Try.prog 37 (slices_Contains_int.S N) := evFn_sound (specs_tab (slices_Contains_int.tab N)) (inls_tab (slices_Contains_int.tab N)) mixed 3 Try.func37 _ _ _
theorem slices_Contains_int.eq (N : Nat) (x0 : List Int) (x1 : Int) : slices_Contains_int.fn N (x0, x1) =
    (slices_Index_int.fn N (x0, x1)).bind fun r1 =>
    some (decide (r1 ≥ 0)) := by kernel_rfl

/-! ### sequence_permutation: skyway/sequence.permutation -/
def sequence_permutation.kp : List (Nat × List (Nat × Option (TypeId × Ty))) := [(4, [(0, none), (1, none), (11, none), (12, none), (13, none)])]
noncomputable def sequence_permutation.G (N : Nat) : List (Nat × Spec) := [(37, .pure (slices_Contains_int.S N))]
noncomputable def sequence_permutation.E (N : Nat) : Env := mkEnv (sequence_permutation.G N) N tyTab sequence_permutation.kp
noncomputable def sequence_permutation.fn (N : Nat) (x : List Int × Int) : Option Bool := evFn (sequence_permutation.E N) Try.prog 3 Try.f22 false [.cell (.sl 3 (.int .i64)), .cell (.int .i64)] [.val (.cell (.bool))] x
noncomputable def sequence_permutation.S (N : Nat) : PSpec := ⟨false, [.cell (.sl 3 (.int .i64)), .cell (.int .i64)], [.val (.cell (.bool))], sequence_permutation.fn N⟩
theorem f22_enters : Enters Try.prog 22 := ⟨Try.f22, Try.func22, by kernel_rfl, by kernel_rfl⟩
theorem sequence_permutation.tab (N : Nat) : TabOk Try.prog (sequence_permutation.G N) := ⟨⟨slices_Contains_int.enters, slices_Contains_int.sound N⟩, trivial⟩
theorem sequence_permutation.enters : Enters Try.prog 22 := f22_enters
theorem sequence_permutation.sound (N : Nat) : Sound Try.prog 22 (sequence_permutation.S N) := evFn_sound (specs_tab (sequence_permutation.tab N)) (inls_tab (sequence_permutation.tab N)) mixed 3 Try.func22 _ _ _
noncomputable def sequence_permutation.cd (N : Nat) (p : List Nat) : St → (Ex → St → Option Bool) → Option Bool := ev (sequence_permutation.E N) Try.prog (callD (sequence_permutation.E N) Try.prog 3) 0 (codeAt (bodyOf Try.f22) p)
noncomputable def sequence_permutation.fin : Ex → St → Option Bool := endK Try.prog Try.f22 [.val (.cell (.bool))]
noncomputable def sequence_permutation.l0 (N : Nat) (x0 : List Int) (x1 : Int) (k1 : Nat) (a2 : Int) : Option Bool :=
  loopN (norm ((sequence_permutation.E N).keep 4) 0) (sequence_permutation.cd N [1, 1, 0, 1, 0, 0]) k1
  ⟨[.ros false 3 (.int .i64) x0, .sc (.int .i64 x1), .any, .any, .any, .any, .any, .any, .any, .any, .any, .ros false 3 (.int .i64) x0, .sc (.int .i64 (x0.length : Int)), .sc (.int .i64 a2), .any, .any, .any, .any, .any, .any, .any, .any, .any, .any, .any, .any, .any, .any, .any, .any, .any, .any, .any], []⟩
  (blockK 0 (seqK (sequence_permutation.cd N [1, 1, 1]) sequence_permutation.fin))
theorem sequence_permutation.l0_zero (N : Nat) (x0 : List Int) (x1 : Int) (a2 : Int) : sequence_permutation.l0 N x0 x1 0 a2 = none := by kernel_rfl
theorem sequence_permutation.l0_succ (N : Nat) (x0 : List Int) (x1 : Int) (k1 : Nat) (a2 : Int) : sequence_permutation.l0 N x0 x1 (k1 + 1) a2 =
    bif decide (a2 < (x0.length : Int)) then
      bif (decide (0 ≤ a2)) && (decide (a2 < (x0.length : Int))) then
        bif !(!(decide ((List.getD x0 (Int.toNat a2) 0) < 0))) || (!(decide ((List.getD x0 (Int.toNat a2) 0) < 0))) then
          bif !(!(decide ((List.getD x0 (Int.toNat a2) 0) < 0))) || (!(decide ((List.getD x0 (Int.toNat a2) 0) < 0))) then
            bif (decide ((List.getD x0 (Int.toNat a2) 0) < 0)) || (!(decide ((List.getD x0 (Int.toNat a2) 0) < 0))) then
              bif !(!((decide ((List.getD x0 (Int.toNat a2) 0) < 0)) || (decide ((List.getD x0 (Int.toNat a2) 0) ≥ x1)))) || (!((decide ((List.getD x0 (Int.toNat a2) 0) < 0)) || (decide ((List.getD x0 (Int.toNat a2) 0) ≥ x1)))) then
                bif !(!((decide ((List.getD x0 (Int.toNat a2) 0) < 0)) || (decide ((List.getD x0 (Int.toNat a2) 0) ≥ x1)))) || (!((decide ((List.getD x0 (Int.toNat a2) 0) < 0)) || (decide ((List.getD x0 (Int.toNat a2) 0) ≥ x1)))) then
                  bif ((decide (0 ≤ a2)) && (decide (a2 ≤ (x0.length : Int)))) || !(!((decide ((List.getD x0 (Int.toNat a2) 0) < 0)) || (decide ((List.getD x0 (Int.toNat a2) 0) ≥ x1)))) then
                    bif !(!((decide ((List.getD x0 (Int.toNat a2) 0) < 0)) || (decide ((List.getD x0 (Int.toNat a2) 0) ≥ x1)))) || (!((decide ((List.getD x0 (Int.toNat a2) 0) < 0)) || (decide ((List.getD x0 (Int.toNat a2) 0) ≥ x1)))) then
                      bif !(!((decide ((List.getD x0 (Int.toNat a2) 0) < 0)) || (decide ((List.getD x0 (Int.toNat a2) 0) ≥ x1)))) || (!((decide ((List.getD x0 (Int.toNat a2) 0) < 0)) || (decide ((List.getD x0 (Int.toNat a2) 0) ≥ x1)))) then
                        (bif (!((decide ((List.getD x0 (Int.toNat a2) 0) < 0)) || (decide ((List.getD x0 (Int.toNat a2) 0) ≥ x1)))) then slices_Contains_int.fn N ((List.take (Int.toNat a2) x0), (List.getD x0 (Int.toNat a2) 0)) else some (false)).bind fun r3 =>
                        bif ((decide ((List.getD x0 (Int.toNat a2) 0) < 0)) || (decide ((List.getD x0 (Int.toNat a2) 0) ≥ x1))) || (!((decide ((List.getD x0 (Int.toNat a2) 0) < 0)) || (decide ((List.getD x0 (Int.toNat a2) 0) ≥ x1)))) then
                          bif ((decide ((List.getD x0 (Int.toNat a2) 0) < 0)) || (decide ((List.getD x0 (Int.toNat a2) 0) ≥ x1))) || r3 then
                            some false
                          else
                            sequence_permutation.l0 N x0 x1 k1 (w (a2 + 1))
                        else
                          none
                      else
                        none
                    else
                      none
                  else
                    none
                else
                  none
              else
                none
            else
              none
          else
            none
        else
          none
      else
        none
    else
      some true := by kernel_rfl
theorem sequence_permutation.l0_clean (N : Nat) (x0 : List Int) (x1 : Int) (k1 : Nat) (a2 : Int) : sequence_permutation.l0 N x0 x1 (k1 + 1) a2 =
    bif decide (a2 < (x0.length : Int)) then
      bif (decide (0 ≤ a2)) && (decide (a2 < (x0.length : Int))) then
        bif ((decide (0 ≤ a2)) && (decide (a2 ≤ (x0.length : Int)))) || !(!((decide ((List.getD x0 (Int.toNat a2) 0) < 0)) || (decide ((List.getD x0 (Int.toNat a2) 0) ≥ x1)))) then
          (bif (!((decide ((List.getD x0 (Int.toNat a2) 0) < 0)) || (decide ((List.getD x0 (Int.toNat a2) 0) ≥ x1)))) then slices_Contains_int.fn N ((List.take (Int.toNat a2) x0), (List.getD x0 (Int.toNat a2) 0)) else some (false)).bind fun r3 =>
          bif ((decide ((List.getD x0 (Int.toNat a2) 0) < 0)) || (decide ((List.getD x0 (Int.toNat a2) 0) ≥ x1))) || r3 then
            some false
          else
            sequence_permutation.l0 N x0 x1 k1 (w (a2 + 1))
        else
          none
      else
        none
    else
      some true := by
  rw [sequence_permutation.l0_succ]; simp only [taut8, taut1, taut10, taut6, cond_true]
theorem sequence_permutation.l0_cons (N : Nat) (x0 : List Int) (x1 : Int) (k1 : Nat) {pre r} {x} (hl : x0 = pre ++ x :: r) (hb : x0.length < 4611686018427387904) : sequence_permutation.l0 N x0 x1 (k1 + 1) (pre.length : Int) =
    (bif (!((decide (x < 0)) || (decide (x ≥ x1)))) then slices_Contains_int.fn N (pre, x) else some (false)).bind fun r3 =>
    bif ((decide (x < 0)) || (decide (x ≥ x1))) || r3 then
      some false
    else
      sequence_permutation.l0 N x0 x1 k1 ((pre.length : Int) + 1) := by
  have hlen : x0.length = pre.length + 1 + r.length := by rw [hl]; simp; omega
  have e1 : decide ((pre.length : Int) < (x0.length : Int)) = true := by rw [decide_eq_true_iff]; omega
  have e2 : decide (0 ≤ (pre.length : Int)) = true := by rw [decide_eq_true_iff]; omega
  have e4 : w ((pre.length : Int) + 1) = (pre.length : Int) + 1 := w_next hl hb
  have e5 : List.take pre.length x0 = pre := by rw [hl]; simp
  have e6 : decide ((pre.length : Int) ≤ (x0.length : Int)) = true := by rw [decide_eq_true_iff]; omega
  have g0 : List.getD x0 pre.length 0 = x := by rw [hl]; exact getD_mid pre x r _
  rw [sequence_permutation.l0_clean]
  simp -implicitDefEqProofs only [Int.toNat_natCast, e1, e2, e4, e6, g0, e5, Bool.and_true, Bool.true_and, Bool.true_or, cond_true]
theorem sequence_permutation.l0_nil (N : Nat) (x0 : List Int) (x1 : Int) (k1 : Nat) : sequence_permutation.l0 N x0 x1 (k1 + 1) (x0.length : Int) =
    some true := by
  have e1 : decide ((x0.length : Int) < (x0.length : Int)) = false := by rw [decide_eq_false_iff_not]; omega
  rw [sequence_permutation.l0_clean]
  simp -implicitDefEqProofs only [e1, cond_false]
theorem sequence_permutation.eq (N : Nat) (x0 : List Int) (x1 : Int) : sequence_permutation.fn N (x0, x1) =
    bif !((x0.length : Int) == x1) then
      some false
    else
      sequence_permutation.l0 N x0 x1 N 0 := by kernel_rfl

/-! ### sequence_next: skyway/sequence.next -/
def sequence_next.kp : List (Nat × List (Nat × Option (TypeId × Ty))) := []
noncomputable def sequence_next.G (N : Nat) : List (Nat × Spec) := []
noncomputable def sequence_next.E (N : Nat) : Env := mkEnv (sequence_next.G N) N tyTab sequence_next.kp
noncomputable def sequence_next.fn (N : Nat) (x : List (ByteArray × Int × Int × Int) × List Int × Int × Int × Int) : Option Int := evFn (sequence_next.E N) Try.prog 3 Try.f23 false [.cell (.sl 48 (.pair (.str) (.pair (.int .i64) (.pair (.int .i64) (.int .i64))))), .agg (.vec 16 .i64), .cell (.int .i64), .cell (.int .i64), .cell (.int .i64)] [.val (.cell (.int .i64))] x
noncomputable def sequence_next.S (N : Nat) : PSpec := ⟨false, [.cell (.sl 48 (.pair (.str) (.pair (.int .i64) (.pair (.int .i64) (.int .i64))))), .agg (.vec 16 .i64), .cell (.int .i64), .cell (.int .i64), .cell (.int .i64)], [.val (.cell (.int .i64))], sequence_next.fn N⟩
theorem f23_enters : Enters Try.prog 23 := ⟨Try.f23, Try.func23, by kernel_rfl, by kernel_rfl⟩
theorem sequence_next.tab (N : Nat) : TabOk Try.prog (sequence_next.G N) := trivial
theorem sequence_next.enters : Enters Try.prog 23 := f23_enters
theorem sequence_next.sound (N : Nat) : Sound Try.prog 23 (sequence_next.S N) := evFn_sound (specs_tab (sequence_next.tab N)) (inls_tab (sequence_next.tab N)) mixed 3 Try.func23 _ _ _
theorem sequence_next.eq (N : Nat) (x0 : List (ByteArray × Int × Int × Int)) (x1 : List Int) (x2 : Int) (x3 : Int) (x4 : Int) : sequence_next.fn N (x0, x1, x2, x3, x4) =
    bif decide (x2 < 0) then
      bif (decide (0 ≤ x3)) && (decide (x3 < (x0.length : Int))) then
        some ((((List.getD x0 (Int.toNat x3) ((⟨#[]⟩ : ByteArray), (0, (0, 0)))).2).2).1)
      else
        none
    else
    bif (decide (0 ≤ x3)) && (decide (x3 < (x0.length : Int))) then
      bif (decide (0 ≤ x2)) && (decide (x2 < (x0.length : Int))) then
        bif (decide (0 ≤ x3)) && (decide (x3 < (x0.length : Int))) then
          bif (decide (0 ≤ (((List.getD x0 (Int.toNat x2) ((⟨#[]⟩ : ByteArray), (0, (0, 0)))).2).1))) && (decide ((((List.getD x0 (Int.toNat x2) ((⟨#[]⟩ : ByteArray), (0, (0, 0)))).2).1) < 4)) then
            bif (decide (0 ≤ (((List.getD x0 (Int.toNat x3) ((⟨#[]⟩ : ByteArray), (0, (0, 0)))).2).1))) && (decide ((((List.getD x0 (Int.toNat x3) ((⟨#[]⟩ : ByteArray), (0, (0, 0)))).2).1) < 4)) then
              bif decide (((0 + ((Int.toNat (((List.getD x0 (Int.toNat x2) ((⟨#[]⟩ : ByteArray), (0, (0, 0)))).2).1)) * 4)) + ((Int.toNat (((List.getD x0 (Int.toNat x3) ((⟨#[]⟩ : ByteArray), (0, (0, 0)))).2).1)) * 1)) < 16) then
                some (if (w (x4 + (List.getD (vl 16 x1) ((0 + ((Int.toNat (((List.getD x0 (Int.toNat x2) ((⟨#[]⟩ : ByteArray), (0, (0, 0)))).2).1)) * 4)) + ((Int.toNat (((List.getD x0 (Int.toNat x3) ((⟨#[]⟩ : ByteArray), (0, (0, 0)))).2).1)) * 1)) 0))) > (((List.getD x0 (Int.toNat x3) ((⟨#[]⟩ : ByteArray), (0, (0, 0)))).2).2).1 then (w (x4 + (List.getD (vl 16 x1) ((0 + ((Int.toNat (((List.getD x0 (Int.toNat x2) ((⟨#[]⟩ : ByteArray), (0, (0, 0)))).2).1)) * 4)) + ((Int.toNat (((List.getD x0 (Int.toNat x3) ((⟨#[]⟩ : ByteArray), (0, (0, 0)))).2).1)) * 1)) 0))) else (((List.getD x0 (Int.toNat x3) ((⟨#[]⟩ : ByteArray), (0, (0, 0)))).2).2).1)
              else
                none
            else
              none
          else
            none
        else
          none
      else
        none
    else
      none := by kernel_rfl

/-! ### sequence_Times: skyway/sequence.Times -/
def sequence_Times.kp : List (Nat × List (Nat × Option (TypeId × Ty))) := [(9, [(0, none), (5, none), (9, some (3, .int .i64)), (10, none), (11, none), (25, none), (26, none), (27, none)])]
noncomputable def sequence_Times.G (N : Nat) : List (Nat × Spec) := [(21, .pure (sequence_both.S N)), (22, .pure (sequence_permutation.S N)), (23, .pure (sequence_next.S N))]
noncomputable def sequence_Times.E (N : Nat) : Env := mkEnv (sequence_Times.G N) N tyTab sequence_Times.kp
noncomputable def sequence_Times.fn (N : Nat) (x : List (ByteArray × Int × Int × Int) × List Int × List Int) : Option (List Int × Int) := evFn (sequence_Times.E N) Try.prog 3 Try.f7 false [.cell (.sl 48 (.pair (.str) (.pair (.int .i64) (.pair (.int .i64) (.int .i64))))), .cell (.sl 3 (.int .i64)), .agg (.vec 16 .i64)] [.own 3 (.int .i64), .val (.cell (.int .i64))] x
noncomputable def sequence_Times.S (N : Nat) : PSpec := ⟨false, [.cell (.sl 48 (.pair (.str) (.pair (.int .i64) (.pair (.int .i64) (.int .i64))))), .cell (.sl 3 (.int .i64)), .agg (.vec 16 .i64)], [.own 3 (.int .i64), .val (.cell (.int .i64))], sequence_Times.fn N⟩
theorem f7_enters : Enters Try.prog 7 := ⟨Try.f7, Try.func7, by kernel_rfl, by kernel_rfl⟩
theorem sequence_Times.tab (N : Nat) : TabOk Try.prog (sequence_Times.G N) := ⟨⟨sequence_both.enters, sequence_both.sound N⟩, ⟨sequence_permutation.enters, sequence_permutation.sound N⟩, ⟨sequence_next.enters, sequence_next.sound N⟩, trivial⟩
theorem sequence_Times.enters : Enters Try.prog 7 := f7_enters
theorem sequence_Times.sound (N : Nat) : Sound Try.prog 7 (sequence_Times.S N) := evFn_sound (specs_tab (sequence_Times.tab N)) (inls_tab (sequence_Times.tab N)) mixed 3 Try.func7 _ _ _
noncomputable def sequence_Times.cd (N : Nat) (p : List Nat) : St → (Ex → St → Option (List Int × Int)) → Option (List Int × Int) := ev (sequence_Times.E N) Try.prog (callD (sequence_Times.E N) Try.prog 3) 0 (codeAt (bodyOf Try.f7) p)
noncomputable def sequence_Times.fin : Ex → St → Option (List Int × Int) := endK Try.prog Try.f7 [.own 3 (.int .i64), .val (.cell (.int .i64))]
noncomputable def sequence_Times.l0 (N : Nat) (x0 : List (ByteArray × Int × Int × Int)) (x1 : List Int) (x2 : List Int) (k3 : Nat) (a4 : Int) (a5 : Int) (a6 : Int) (a7 : List Int) : Option (List Int × Int) :=
  loopN (norm ((sequence_Times.E N).keep 9) 0) (sequence_Times.cd N [1, 1, 1, 1, 1, 0, 1, 0, 0]) k3
  ⟨[.ros false 48 (.pair (.str) (.pair (.int .i64) (.pair (.int .i64) (.int .i64)))) x0, .any, .any, .any, .any, .ptr 0 0, .any, .any, .any, .own 1, .sc (.int .i64 a4), .sc (.int .i64 a5), .any, .any, .any, .any, .any, .any, .any, .any, .any, .any, .any, .any, .any, .ros false 3 (.int .i64) x1, .sc (.int .i64 (x1.length : Int)), .sc (.int .i64 a6), .any, .any, .any, .any, .any, .any, .any, .any, .any, .any, .any, .any, .any, .any, .any, .any, .any, .any, .any, .any, .any, .any, .any], [.cells [.sc (.int .i64 (List.getD x2 0 0)), .sc (.int .i64 (List.getD x2 1 0)), .sc (.int .i64 (List.getD x2 2 0)), .sc (.int .i64 (List.getD x2 3 0)), .sc (.int .i64 (List.getD x2 4 0)), .sc (.int .i64 (List.getD x2 5 0)), .sc (.int .i64 (List.getD x2 6 0)), .sc (.int .i64 (List.getD x2 7 0)), .sc (.int .i64 (List.getD x2 8 0)), .sc (.int .i64 (List.getD x2 9 0)), .sc (.int .i64 (List.getD x2 10 0)), .sc (.int .i64 (List.getD x2 11 0)), .sc (.int .i64 (List.getD x2 12 0)), .sc (.int .i64 (List.getD x2 13 0)), .sc (.int .i64 (List.getD x2 14 0)), .sc (.int .i64 (List.getD x2 15 0))] 26, .rows true 3 (.int .i64) a7]⟩
  (blockK 0 (seqK (sequence_Times.cd N [1, 1, 1, 1, 1, 1]) sequence_Times.fin))
theorem sequence_Times.l0_zero (N : Nat) (x0 : List (ByteArray × Int × Int × Int)) (x1 : List Int) (x2 : List Int) (a4 : Int) (a5 : Int) (a6 : Int) (a7 : List Int) : sequence_Times.l0 N x0 x1 x2 0 a4 a5 a6 a7 = none := by kernel_rfl
theorem sequence_Times.l0_succ (N : Nat) (x0 : List (ByteArray × Int × Int × Int)) (x1 : List Int) (x2 : List Int) (k3 : Nat) (a4 : Int) (a5 : Int) (a6 : Int) (a7 : List Int) : sequence_Times.l0 N x0 x1 x2 (k3 + 1) a4 a5 a6 a7 =
    bif decide (a6 < (x1.length : Int)) then
      bif (decide (0 ≤ a6)) && (decide (a6 < (x1.length : Int))) then
        (sequence_next.fn N (x0, (vl 16 x2), a4, (List.getD x1 (Int.toNat a6) 0), a5)).bind fun r8 =>
        bif (decide (0 ≤ (List.getD x1 (Int.toNat a6) 0))) && (decide ((List.getD x1 (Int.toNat a6) 0) < (x0.length : Int))) then
          bif decide (r8 > ((((List.getD x0 (Int.toNat (List.getD x1 (Int.toNat a6) 0)) ((⟨#[]⟩ : ByteArray), (0, (0, 0)))).2).2).2)) then
            some ([], 8)
          else
          bif decide ((a7.length + 1) * 8 ≤ 140737488355328) && decide ((a7.length + 1) ≤ maxLen) then
            sequence_Times.l0 N x0 x1 x2 k3 (List.getD x1 (Int.toNat a6) 0) r8 (w (a6 + 1)) (a7 ++ [r8])
          else
            none
        else
          none
      else
        none
    else
      some (a7, 0) := by kernel_rfl
theorem sequence_Times.l0_cons (N : Nat) (x0 : List (ByteArray × Int × Int × Int)) (x1 : List Int) (x2 : List Int) (k3 : Nat) (a4 : Int) (a5 : Int) (a7 : List Int) {pre r} {x} (hl : x1 = pre ++ x :: r) (hb : x1.length < 4611686018427387904) : sequence_Times.l0 N x0 x1 x2 (k3 + 1) a4 a5 (pre.length : Int) a7 =
    (sequence_next.fn N (x0, (vl 16 x2), a4, x, a5)).bind fun r8 =>
    bif (decide (0 ≤ x)) && (decide (x < (x0.length : Int))) then
      bif decide (r8 > ((((List.getD x0 (Int.toNat x) ((⟨#[]⟩ : ByteArray), (0, (0, 0)))).2).2).2)) then
        some ([], 8)
      else
      bif decide ((a7.length + 1) * 8 ≤ 140737488355328) && decide ((a7.length + 1) ≤ maxLen) then
        sequence_Times.l0 N x0 x1 x2 k3 x r8 ((pre.length : Int) + 1) (a7 ++ [r8])
      else
        none
    else
      none := by
  have hlen : x1.length = pre.length + 1 + r.length := by rw [hl]; simp; omega
  have e1 : decide ((pre.length : Int) < (x1.length : Int)) = true := by rw [decide_eq_true_iff]; omega
  have e2 : decide (0 ≤ (pre.length : Int)) = true := by rw [decide_eq_true_iff]; omega
  have e4 : w ((pre.length : Int) + 1) = (pre.length : Int) + 1 := w_next hl hb
  have e5 : List.take pre.length x1 = pre := by rw [hl]; simp
  have e6 : decide ((pre.length : Int) ≤ (x1.length : Int)) = true := by rw [decide_eq_true_iff]; omega
  have g0 : List.getD x1 pre.length 0 = x := by rw [hl]; exact getD_mid pre x r _
  rw [sequence_Times.l0_succ]
  simp -implicitDefEqProofs only [Int.toNat_natCast, e1, e2, e4, e6, g0, e5, Bool.and_true, Bool.true_and, Bool.true_or, cond_true]
theorem sequence_Times.l0_nil (N : Nat) (x0 : List (ByteArray × Int × Int × Int)) (x1 : List Int) (x2 : List Int) (k3 : Nat) (a4 : Int) (a5 : Int) (a7 : List Int) : sequence_Times.l0 N x0 x1 x2 (k3 + 1) a4 a5 (x1.length : Int) a7 =
    some (a7, 0) := by
  have e1 : decide ((x1.length : Int) < (x1.length : Int)) = false := by rw [decide_eq_false_iff_not]; omega
  rw [sequence_Times.l0_succ]
  simp -implicitDefEqProofs only [e1, cond_false]
theorem sequence_Times.eq (N : Nat) (x0 : List (ByteArray × Int × Int × Int)) (x1 : List Int) (x2 : List Int) : sequence_Times.fn N (x0, x1, x2) =
    (sequence_both.fn N (x0, (vl 16 x2))).bind fun r1 =>
    bif !(r1 == 0) then
      some ([], r1)
    else
      (sequence_permutation.fn N (x1, (x0.length : Int))).bind fun r2 =>
      bif !r2 then
        some ([], 3)
      else
        sequence_Times.l0 N x0 x1 x2 N (-1) 0 0 [] := by kernel_rfl

/-! ### sequence_Shift: skyway/sequence.Shift -/
def sequence_Shift.kp : List (Nat × List (Nat × Option (TypeId × Ty))) := [(8, [(1, none), (7, none), (22, none), (23, none), (24, none)])]
noncomputable def sequence_Shift.G (N : Nat) : List (Nat × Spec) := [(10, .pure (sequence_Check.S N)), (20, .pure (sequence_natural.S N)), (22, .pure (sequence_permutation.S N)), (24, .pure (slices_Index_int.S N))]
noncomputable def sequence_Shift.E (N : Nat) : Env := mkEnv (sequence_Shift.G N) N tyTab sequence_Shift.kp
noncomputable def sequence_Shift.fn (N : Nat) (x : List (ByteArray × Int × Int × Int) × List Int) : Option (Int × Int) := evFn (sequence_Shift.E N) Try.prog 3 Try.f8 false [.cell (.sl 48 (.pair (.str) (.pair (.int .i64) (.pair (.int .i64) (.int .i64))))), .cell (.sl 3 (.int .i64))] [.val (.cell (.int .i64)), .val (.cell (.int .i64))] x
noncomputable def sequence_Shift.S (N : Nat) : PSpec := ⟨false, [.cell (.sl 48 (.pair (.str) (.pair (.int .i64) (.pair (.int .i64) (.int .i64))))), .cell (.sl 3 (.int .i64))], [.val (.cell (.int .i64)), .val (.cell (.int .i64))], sequence_Shift.fn N⟩
theorem f8_enters : Enters Try.prog 8 := ⟨Try.f8, Try.func8, by kernel_rfl, by kernel_rfl⟩
theorem sequence_Shift.tab (N : Nat) : TabOk Try.prog (sequence_Shift.G N) := ⟨⟨sequence_Check.enters, sequence_Check.sound N⟩, ⟨sequence_natural.enters, sequence_natural.sound N⟩, ⟨sequence_permutation.enters, sequence_permutation.sound N⟩, ⟨slices_Index_int.enters, slices_Index_int.sound N⟩, trivial⟩
theorem sequence_Shift.enters : Enters Try.prog 8 := f8_enters
theorem sequence_Shift.sound (N : Nat) : Sound Try.prog 8 (sequence_Shift.S N) := evFn_sound (specs_tab (sequence_Shift.tab N)) (inls_tab (sequence_Shift.tab N)) mixed 3 Try.func8 _ _ _
noncomputable def sequence_Shift.cd (N : Nat) (p : List Nat) : St → (Ex → St → Option (Int × Int)) → Option (Int × Int) := ev (sequence_Shift.E N) Try.prog (callD (sequence_Shift.E N) Try.prog 3) 0 (codeAt (bodyOf Try.f8) p)
noncomputable def sequence_Shift.fin : Ex → St → Option (Int × Int) := endK Try.prog Try.f8 [.val (.cell (.int .i64)), .val (.cell (.int .i64))]
noncomputable def sequence_Shift.l0 (N : Nat) (x1 : List Int) (r3 : List Int) (k4 : Nat) (a5 : Int) (a6 : Int) : Option (Int × Int) :=
  loopN (norm ((sequence_Shift.E N).keep 8) 0) (sequence_Shift.cd N [1, 1, 1, 1, 0, 1, 0, 0]) k4
  ⟨[.any, .ros false 3 (.int .i64) x1, .any, .any, .any, .any, .any, .sc (.int .i64 a5), .any, .any, .any, .any, .any, .any, .any, .any, .any, .any, .any, .any, .any, .any, .own 0, .sc (.int .i64 (r3.length : Int)), .sc (.int .i64 a6), .any, .any, .any, .any, .any, .any, .any, .any, .any, .any, .any, .any, .any, .any, .any, .any, .any], [.rows true 3 (.int .i64) r3]⟩
  (blockK 0 (seqK (sequence_Shift.cd N [1, 1, 1, 1, 1]) sequence_Shift.fin))
theorem sequence_Shift.l0_zero (N : Nat) (x1 : List Int) (r3 : List Int) (a5 : Int) (a6 : Int) : sequence_Shift.l0 N x1 r3 0 a5 a6 = none := by kernel_rfl
theorem sequence_Shift.l0_succ (N : Nat) (x1 : List Int) (r3 : List Int) (k4 : Nat) (a5 : Int) (a6 : Int) : sequence_Shift.l0 N x1 r3 (k4 + 1) a5 a6 =
    bif decide (a6 < (r3.length : Int)) then
      bif (decide (0 ≤ a6)) && (decide (a6 < (r3.length : Int))) then
        bif decide ((Int.toNat a6) < r3.length) then
          (slices_Index_int.fn N (x1, (List.getD r3 (Int.toNat a6) 0))).bind fun r7 =>
          sequence_Shift.l0 N x1 r3 k4 (if (w (a6 - r7)) > (if (w (r7 - a6)) > a5 then (w (r7 - a6)) else a5) then (w (a6 - r7)) else (if (w (r7 - a6)) > a5 then (w (r7 - a6)) else a5)) (w (a6 + 1))
        else
          none
      else
        none
    else
      some (a5, 0) := by kernel_rfl
theorem sequence_Shift.l0_cons (N : Nat) (x1 : List Int) (r3 : List Int) (k4 : Nat) (a5 : Int) {pre r} {x} (hl : r3 = pre ++ x :: r) (hb : r3.length < 4611686018427387904) : sequence_Shift.l0 N x1 r3 (k4 + 1) a5 (pre.length : Int) =
    bif decide (pre.length < r3.length) then
      (slices_Index_int.fn N (x1, x)).bind fun r7 =>
      sequence_Shift.l0 N x1 r3 k4 (if (w ((pre.length : Int) - r7)) > (if (w (r7 - (pre.length : Int))) > a5 then (w (r7 - (pre.length : Int))) else a5) then (w ((pre.length : Int) - r7)) else (if (w (r7 - (pre.length : Int))) > a5 then (w (r7 - (pre.length : Int))) else a5)) ((pre.length : Int) + 1)
    else
      none := by
  have hlen : r3.length = pre.length + 1 + r.length := by rw [hl]; simp; omega
  have e1 : decide ((pre.length : Int) < (r3.length : Int)) = true := by rw [decide_eq_true_iff]; omega
  have e2 : decide (0 ≤ (pre.length : Int)) = true := by rw [decide_eq_true_iff]; omega
  have e4 : w ((pre.length : Int) + 1) = (pre.length : Int) + 1 := w_next hl hb
  have e5 : List.take pre.length r3 = pre := by rw [hl]; simp
  have e6 : decide ((pre.length : Int) ≤ (r3.length : Int)) = true := by rw [decide_eq_true_iff]; omega
  have g0 : List.getD r3 pre.length 0 = x := by rw [hl]; exact getD_mid pre x r _
  rw [sequence_Shift.l0_succ]
  simp -implicitDefEqProofs only [Int.toNat_natCast, e1, e2, e4, e6, g0, e5, Bool.and_true, Bool.true_and, Bool.true_or, cond_true]
theorem sequence_Shift.l0_nil (N : Nat) (x1 : List Int) (r3 : List Int) (k4 : Nat) (a5 : Int) : sequence_Shift.l0 N x1 r3 (k4 + 1) a5 (r3.length : Int) =
    some (a5, 0) := by
  have e1 : decide ((r3.length : Int) < (r3.length : Int)) = false := by rw [decide_eq_false_iff_not]; omega
  rw [sequence_Shift.l0_succ]
  simp -implicitDefEqProofs only [e1, cond_false]
theorem sequence_Shift.eq (N : Nat) (x0 : List (ByteArray × Int × Int × Int)) (x1 : List Int) : sequence_Shift.fn N (x0, x1) =
    (sequence_Check.fn N x0).bind fun r1 =>
    bif !(r1 == 0) then
      some (0, r1)
    else
      (sequence_permutation.fn N (x1, (x0.length : Int))).bind fun r2 =>
      bif !r2 then
        some (0, 3)
      else
        (sequence_natural.fn N x0).bind fun r3 =>
        sequence_Shift.l0 N x1 r3 N 0 0 := by kernel_rfl

/-! ### slices_Compare_int: slices.Compare[[]int,int] -/
def slices_Compare_int.kp : List (Nat × List (Nat × Option (TypeId × Ty))) := [(2, [(0, none), (1, none), (9, none), (10, none), (11, none)])]
noncomputable def slices_Compare_int.G (N : Nat) : List (Nat × Spec) := [(34, .pure (cmp_Compare_int.S N))]
noncomputable def slices_Compare_int.E (N : Nat) : Env := mkEnv (slices_Compare_int.G N) N tyTab slices_Compare_int.kp
noncomputable def slices_Compare_int.fn (N : Nat) (x : List Int × List Int) : Option Int := evFn (slices_Compare_int.E N) Try.prog 3 Try.f46 false [.cell (.sl 3 (.int .i64)), .cell (.sl 3 (.int .i64))] [.val (.cell (.int .i64))] x
noncomputable def slices_Compare_int.S (N : Nat) : PSpec := ⟨false, [.cell (.sl 3 (.int .i64)), .cell (.sl 3 (.int .i64))], [.val (.cell (.int .i64))], slices_Compare_int.fn N⟩
theorem f46_enters : Enters Try.prog 46 := ⟨Try.f46, Try.func46, by kernel_rfl, by kernel_rfl⟩
theorem slices_Compare_int.tab (N : Nat) : TabOk Try.prog (slices_Compare_int.G N) := ⟨⟨cmp_Compare_int.enters, cmp_Compare_int.sound N⟩, trivial⟩
theorem slices_Compare_int.enters : Enters Try.prog 46 := f46_enters
theorem slices_Compare_int.sound (N : Nat) : Sound Try.prog 46 (slices_Compare_int.S N) := evFn_sound (specs_tab (slices_Compare_int.tab N)) (inls_tab (slices_Compare_int.tab N)) mixed 3 Try.func46 _ _ _
noncomputable def slices_Compare_int.cd (N : Nat) (p : List Nat) : St → (Ex → St → Option Int) → Option Int := ev (slices_Compare_int.E N) Try.prog (callD (slices_Compare_int.E N) Try.prog 3) 0 (codeAt (bodyOf Try.f46) p)
noncomputable def slices_Compare_int.fin : Ex → St → Option Int := endK Try.prog Try.f46 [.val (.cell (.int .i64))]
noncomputable def slices_Compare_int.l0 (N : Nat) (x0 : List Int) (x1 : List Int) (k1 : Nat) (a2 : Int) : Option Int :=
  loopN (norm ((slices_Compare_int.E N).keep 2) 0) (slices_Compare_int.cd N [1, 0, 1, 0, 0]) k1
  ⟨[.ros false 3 (.int .i64) x0, .ros false 3 (.int .i64) x1, .any, .any, .any, .any, .any, .any, .any, .ros false 3 (.int .i64) x0, .sc (.int .i64 (x0.length : Int)), .sc (.int .i64 a2), .any, .any, .any, .any, .any, .any, .any, .any, .any, .any, .any, .any, .any, .any, .any, .any, .any, .any, .any, .any, .any, .any, .any, .any], []⟩
  (blockK 0 (seqK (slices_Compare_int.cd N [1, 1]) slices_Compare_int.fin))
theorem slices_Compare_int.l0_zero (N : Nat) (x0 : List Int) (x1 : List Int) (a2 : Int) : slices_Compare_int.l0 N x0 x1 0 a2 = none := by kernel_rfl
theorem slices_Compare_int.l0_succ (N : Nat) (x0 : List Int) (x1 : List Int) (k1 : Nat) (a2 : Int) : slices_Compare_int.l0 N x0 x1 (k1 + 1) a2 =
    bif decide (a2 < (x0.length : Int)) then
      bif (decide (0 ≤ a2)) && (decide (a2 < (x0.length : Int))) then
        bif decide (a2 ≥ (x1.length : Int)) then
          some 1
        else
        bif (decide (0 ≤ a2)) && (decide (a2 < (x1.length : Int))) then
          (cmp_Compare_int.fn N ((List.getD x0 (Int.toNat a2) 0), (List.getD x1 (Int.toNat a2) 0))).bind fun r3 =>
          bif !(r3 == 0) then
            some r3
          else
            slices_Compare_int.l0 N x0 x1 k1 (w (a2 + 1))
        else
          none
      else
        none
    else
    bif decide ((x0.length : Int) < (x1.length : Int)) then
      some (-1)
    else
      some 0 := by kernel_rfl
theorem slices_Compare_int.l0_cons (N : Nat) (x0 : List Int) (x1 : List Int) (k1 : Nat) {pre r} {x} (hl : x0 = pre ++ x :: r) (hb : x0.length < 4611686018427387904) : slices_Compare_int.l0 N x0 x1 (k1 + 1) (pre.length : Int) =
    bif decide ((pre.length : Int) ≥ (x1.length : Int)) then
      some 1
    else
    bif decide ((pre.length : Int) < (x1.length : Int)) then
      (cmp_Compare_int.fn N (x, (List.getD x1 pre.length 0))).bind fun r3 =>
      bif !(r3 == 0) then
        some r3
      else
        slices_Compare_int.l0 N x0 x1 k1 ((pre.length : Int) + 1)
    else
      none := by
  have hlen : x0.length = pre.length + 1 + r.length := by rw [hl]; simp; omega
  have e1 : decide ((pre.length : Int) < (x0.length : Int)) = true := by rw [decide_eq_true_iff]; omega
  have e2 : decide (0 ≤ (pre.length : Int)) = true := by rw [decide_eq_true_iff]; omega
  have e4 : w ((pre.length : Int) + 1) = (pre.length : Int) + 1 := w_next hl hb
  have e5 : List.take pre.length x0 = pre := by rw [hl]; simp
  have e6 : decide ((pre.length : Int) ≤ (x0.length : Int)) = true := by rw [decide_eq_true_iff]; omega
  have g0 : List.getD x0 pre.length 0 = x := by rw [hl]; exact getD_mid pre x r _
  rw [slices_Compare_int.l0_succ]
  simp -implicitDefEqProofs only [Int.toNat_natCast, e1, e2, e4, e6, g0, e5, Bool.and_true, Bool.true_and, Bool.true_or, cond_true]
theorem slices_Compare_int.l0_nil (N : Nat) (x0 : List Int) (x1 : List Int) (k1 : Nat) : slices_Compare_int.l0 N x0 x1 (k1 + 1) (x0.length : Int) =
    bif decide ((x0.length : Int) < (x1.length : Int)) then
      some (-1)
    else
      some 0 := by
  have e1 : decide ((x0.length : Int) < (x0.length : Int)) = false := by rw [decide_eq_false_iff_not]; omega
  rw [slices_Compare_int.l0_succ]
  simp -implicitDefEqProofs only [e1, cond_false]
theorem slices_Compare_int.eq (N : Nat) (x0 : List Int) (x1 : List Int) : slices_Compare_int.fn N (x0, x1) =
    slices_Compare_int.l0 N x0 x1 N 0 := by kernel_rfl

/-! ### slices_Clone_int: slices.Clone[[]int,int] -/
def slices_Clone_int.kp : List (Nat × List (Nat × Option (TypeId × Ty))) := []
noncomputable def slices_Clone_int.G (N : Nat) : List (Nat × Spec) := []
noncomputable def slices_Clone_int.E (N : Nat) : Env := mkEnv (slices_Clone_int.G N) N tyTab slices_Clone_int.kp
noncomputable def slices_Clone_int.fn (N : Nat) (x : List Int) : Option (List Int) := evFn (slices_Clone_int.E N) Try.prog 3 Try.f40 false [.cell (.sl 3 (.int .i64))] [.own 3 (.int .i64)] x
noncomputable def slices_Clone_int.S (N : Nat) : PSpec := ⟨false, [.cell (.sl 3 (.int .i64))], [.own 3 (.int .i64)], slices_Clone_int.fn N⟩
theorem f40_enters : Enters Try.prog 40 := ⟨Try.f40, Try.func40, by kernel_rfl, by kernel_rfl⟩
theorem slices_Clone_int.tab (N : Nat) : TabOk Try.prog (slices_Clone_int.G N) := trivial
theorem slices_Clone_int.enters : Enters Try.prog 40 := f40_enters
theorem slices_Clone_int.sound (N : Nat) : Sound Try.prog 40 (slices_Clone_int.S N) := evFn_sound (specs_tab (slices_Clone_int.tab N)) (inls_tab (slices_Clone_int.tab N)) mixed 3 Try.func40 _ _ _
theorem slices_Clone_int.eq (N : Nat) (x0 : List Int) : slices_Clone_int.fn N x0 =
    bif x0.isEmpty then
      agree (
        some []) (
        bif decide ((0 + x0.length) * 8 ≤ 140737488355328) && decide ((0 + x0.length) ≤ maxLen) then
          some x0
        else
          none)
    else
    bif decide ((0 + x0.length) * 8 ≤ 140737488355328) && decide ((0 + x0.length) ≤ maxLen) then
      some x0
    else
      none := by kernel_rfl
theorem slices_Clone_int.v (N : Nat) (x0 : List Int) (h : x0.length * 8 ≤ 140737488355328) : slices_Clone_int.fn N x0 = some x0 := clone_v (B := 8) (slices_Clone_int.eq N x0) (by omega) h

/-! ### slices_Equal_int: slices.Equal[[]int,int] -/
def slices_Equal_int.kp : List (Nat × List (Nat × Option (TypeId × Ty))) := [(4, [(0, none), (1, none), (12, none), (13, none)])]
noncomputable def slices_Equal_int.G (N : Nat) : List (Nat × Spec) := []
noncomputable def slices_Equal_int.E (N : Nat) : Env := mkEnv (slices_Equal_int.G N) N tyTab slices_Equal_int.kp
noncomputable def slices_Equal_int.fn (N : Nat) (x : List Int × List Int) : Option Bool := evFn (slices_Equal_int.E N) Try.prog 3 Try.f16 false [.cell (.sl 3 (.int .i64)), .cell (.sl 3 (.int .i64))] [.val (.cell (.bool))] x
noncomputable def slices_Equal_int.S (N : Nat) : PSpec := ⟨false, [.cell (.sl 3 (.int .i64)), .cell (.sl 3 (.int .i64))], [.val (.cell (.bool))], slices_Equal_int.fn N⟩
theorem f16_enters : Enters Try.prog 16 := ⟨Try.f16, Try.func16, by kernel_rfl, by kernel_rfl⟩
theorem slices_Equal_int.tab (N : Nat) : TabOk Try.prog (slices_Equal_int.G N) := trivial
theorem slices_Equal_int.enters : Enters Try.prog 16 := f16_enters
theorem slices_Equal_int.sound (N : Nat) : Sound Try.prog 16 (slices_Equal_int.S N) := evFn_sound (specs_tab (slices_Equal_int.tab N)) (inls_tab (slices_Equal_int.tab N)) mixed 3 Try.func16 _ _ _
noncomputable def slices_Equal_int.cd (N : Nat) (p : List Nat) : St → (Ex → St → Option Bool) → Option Bool := ev (slices_Equal_int.E N) Try.prog (callD (slices_Equal_int.E N) Try.prog 3) 0 (codeAt (bodyOf Try.f16) p)
noncomputable def slices_Equal_int.fin : Ex → St → Option Bool := endK Try.prog Try.f16 [.val (.cell (.bool))]
noncomputable def slices_Equal_int.l0 (N : Nat) (x0 : List Int) (x1 : List Int) (k1 : Nat) (a2 : Int) : Option Bool :=
  loopN (norm ((slices_Equal_int.E N).keep 4) 0) (slices_Equal_int.cd N [1, 1, 0, 1, 0, 0]) k1
  ⟨[.ros false 3 (.int .i64) x0, .ros false 3 (.int .i64) x1, .any, .any, .any, .any, .any, .any, .any, .any, .any, .any, .sc (.int .i64 (x0.length : Int)), .sc (.int .i64 a2), .any, .any, .any, .any, .any, .any, .any, .any, .any, .any, .any, .any], []⟩
  (blockK 0 (seqK (slices_Equal_int.cd N [1, 1, 1]) slices_Equal_int.fin))
theorem slices_Equal_int.l0_zero (N : Nat) (x0 : List Int) (x1 : List Int) (a2 : Int) : slices_Equal_int.l0 N x0 x1 0 a2 = none := by kernel_rfl
theorem slices_Equal_int.l0_succ (N : Nat) (x0 : List Int) (x1 : List Int) (k1 : Nat) (a2 : Int) : slices_Equal_int.l0 N x0 x1 (k1 + 1) a2 =
    bif decide (a2 < (x0.length : Int)) then
      bif (decide (0 ≤ a2)) && (decide (a2 < (x0.length : Int))) then
        bif (decide (0 ≤ a2)) && (decide (a2 < (x1.length : Int))) then
          bif !((List.getD x0 (Int.toNat a2) 0) == (List.getD x1 (Int.toNat a2) 0)) then
            some false
          else
            slices_Equal_int.l0 N x0 x1 k1 (w (a2 + 1))
        else
          none
      else
        none
    else
      some true := by kernel_rfl
theorem slices_Equal_int.l0_cons (N : Nat) (x0 : List Int) (x1 : List Int) (k1 : Nat) {pre r} {x} (hl : x0 = pre ++ x :: r) (hb : x0.length < 4611686018427387904) : slices_Equal_int.l0 N x0 x1 (k1 + 1) (pre.length : Int) =
    bif decide ((pre.length : Int) < (x1.length : Int)) then
      bif !(x == (List.getD x1 pre.length 0)) then
        some false
      else
        slices_Equal_int.l0 N x0 x1 k1 ((pre.length : Int) + 1)
    else
      none := by
  have hlen : x0.length = pre.length + 1 + r.length := by rw [hl]; simp; omega
  have e1 : decide ((pre.length : Int) < (x0.length : Int)) = true := by rw [decide_eq_true_iff]; omega
  have e2 : decide (0 ≤ (pre.length : Int)) = true := by rw [decide_eq_true_iff]; omega
  have e4 : w ((pre.length : Int) + 1) = (pre.length : Int) + 1 := w_next hl hb
  have e5 : List.take pre.length x0 = pre := by rw [hl]; simp
  have e6 : decide ((pre.length : Int) ≤ (x0.length : Int)) = true := by rw [decide_eq_true_iff]; omega
  have g0 : List.getD x0 pre.length 0 = x := by rw [hl]; exact getD_mid pre x r _
  rw [slices_Equal_int.l0_succ]
  simp -implicitDefEqProofs only [Int.toNat_natCast, e1, e2, e4, e6, g0, e5, Bool.and_true, Bool.true_and, Bool.true_or, cond_true]
theorem slices_Equal_int.l0_nil (N : Nat) (x0 : List Int) (x1 : List Int) (k1 : Nat) : slices_Equal_int.l0 N x0 x1 (k1 + 1) (x0.length : Int) =
    some true := by
  have e1 : decide ((x0.length : Int) < (x0.length : Int)) = false := by rw [decide_eq_false_iff_not]; omega
  rw [slices_Equal_int.l0_succ]
  simp -implicitDefEqProofs only [e1, cond_false]
theorem slices_Equal_int.eq (N : Nat) (x0 : List Int) (x1 : List Int) : slices_Equal_int.fn N (x0, x1) =
    bif !((x0.length : Int) == (x1.length : Int)) then
      some false
    else
      slices_Equal_int.l0 N x0 x1 N 0 := by kernel_rfl
theorem slices_Equal_int.v {N : Nat} (hN : 4611686018427387904 ≤ N) (x0 x1 : List Int) (h : x0.length < 4611686018427387904) : slices_Equal_int.fn N (x0, x1) = some (eqL (fun p q => (p == q)) x0 x1) := equal_list hN (fun p q => (p == q)) 0 h (fun k i => slices_Equal_int.l0 N x0 x1 k i) (slices_Equal_int.eq N x0 x1) (fun k i => slices_Equal_int.l0_succ N x0 x1 k i)
theorem slices_Equal_int.self {N : Nat} (hN : 4611686018427387904 ≤ N) (x0 : List Int) (h : x0.length < 4611686018427387904) : slices_Equal_int.fn N (x0, x0) = some true := by rw [slices_Equal_int.v hN x0 x0 h]; exact congrArg some (eqL_refl (fun p => by simp [seq_self]) x0)

end Go.Proofs.Ytoapmjnfiimmjaa.Sk
