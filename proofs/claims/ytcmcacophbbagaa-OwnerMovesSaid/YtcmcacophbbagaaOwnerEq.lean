/- PRINTED by gen.py: what the functions answer. Not trusted: Lean checks it. -/
import Derived.Test.YtcmcacophbbagaaSkAid
import Derived.Test.YtcmcacophbbagaaSkCmp
import Derived.Test.YtcmcacophbbagaaSkIns27
set_option linter.unusedVariables false
set_option linter.unusedSimpArgs false
set_option maxRecDepth 100000
namespace Go.Proofs.Ytcmcacophbbagaa.Sk
open Go
def tyTab : TypeId → Option Ty := tyOf [(9, .str), (34, .pair (.str) (.pair (.str) (.str)))]
theorem mixed : Try.prog.follows .mixedOrders = true := by kernel_rfl
/-! ### chart_Name: skyway/chart.Name -/
def chart_Name.kp : List (Nat × List (Nat × Option (TypeId × Ty))) := [(4, [(0, none), (24, none), (25, none)])]
noncomputable def chart_Name.G (N : Nat) : List (Nat × Spec) := []
noncomputable def chart_Name.E (N : Nat) : Env := mkEnv (chart_Name.G N) N tyTab chart_Name.kp
noncomputable def chart_Name.fn (N : Nat) (x : ByteArray) : Option Bool := evFn (chart_Name.E N) Try.prog 3 Try.f33 false [.cell (.str)] [.val (.cell (.bool))] x
noncomputable def chart_Name.S (N : Nat) : PSpec := ⟨false, [.cell (.str)], [.val (.cell (.bool))], chart_Name.fn N⟩
theorem f33_enters : Enters Try.prog 33 := ⟨Try.f33, Try.func33, by kernel_rfl, by kernel_rfl⟩
theorem chart_Name.tab (N : Nat) : TabOk Try.prog (chart_Name.G N) := trivial
theorem chart_Name.enters : Enters Try.prog 33 := f33_enters
theorem chart_Name.sound (N : Nat) : Sound Try.prog 33 (chart_Name.S N) := evFn_sound (specs_tab (chart_Name.tab N)) (inls_tab (chart_Name.tab N)) mixed 3 Try.func33 _ _ _
noncomputable def chart_Name.cd (N : Nat) (p : List Nat) : St → (Ex → St → Option Bool) → Option Bool := ev (chart_Name.E N) Try.prog (callD (chart_Name.E N) Try.prog 3) 0 (codeAt (bodyOf Try.f33) p)
noncomputable def chart_Name.fin : Ex → St → Option Bool := endK Try.prog Try.f33 [.val (.cell (.bool))]
noncomputable def chart_Name.l0 (N : Nat) (x0 : ByteArray) (k1 : Nat) (a2 : Int) : Option Bool :=
  loopN (norm ((chart_Name.E N).keep 4) 0) (chart_Name.cd N [1, 1, 0, 1, 0, 0]) k1
  ⟨[.sc (.string x0), .any, .any, .any, .any, .any, .any, .any, .any, .any, .any, .any, .any, .any, .any, .any, .any, .any, .any, .any, .any, .any, .any, .any, .sc (.int .i64 (x0.size : Int)), .sc (.int .i64 a2), .any, .any, .any, .any, .any, .any, .any, .any, .any, .any, .any, .any, .any, .any, .any, .any, .any, .any, .any, .any], []⟩
  (blockK 0 (seqK (chart_Name.cd N [1, 1, 1]) chart_Name.fin))
theorem chart_Name.l0_zero (N : Nat) (x0 : ByteArray) (a2 : Int) : chart_Name.l0 N x0 0 a2 = none := by kernel_rfl
theorem chart_Name.l0_succ (N : Nat) (x0 : ByteArray) (k1 : Nat) (a2 : Int) : chart_Name.l0 N x0 (k1 + 1) a2 =
    bif decide (a2 < (x0.size : Int)) then
      bif (decide (0 ≤ a2)) && (decide (a2 < (x0.size : Int))) then
        bif !(!(decide (((((ByteArray.data x0).getD (Int.toNat a2) 0).toNat : Nat) : Int) < 65))) || (!(decide (((((ByteArray.data x0).getD (Int.toNat a2) 0).toNat : Nat) : Int) < 65))) then
          bif (decide (((((ByteArray.data x0).getD (Int.toNat a2) 0).toNat : Nat) : Int) < 65)) || (!(decide (((((ByteArray.data x0).getD (Int.toNat a2) 0).toNat : Nat) : Int) < 65))) then
            bif !((decide (((((ByteArray.data x0).getD (Int.toNat a2) 0).toNat : Nat) : Int) < 65)) || (decide (((((ByteArray.data x0).getD (Int.toNat a2) 0).toNat : Nat) : Int) > 90))) || ((decide (((((ByteArray.data x0).getD (Int.toNat a2) 0).toNat : Nat) : Int) < 65)) || (decide (((((ByteArray.data x0).getD (Int.toNat a2) 0).toNat : Nat) : Int) > 90))) then
              bif !((decide (((((ByteArray.data x0).getD (Int.toNat a2) 0).toNat : Nat) : Int) < 65)) || (decide (((((ByteArray.data x0).getD (Int.toNat a2) 0).toNat : Nat) : Int) > 90))) || ((decide (((((ByteArray.data x0).getD (Int.toNat a2) 0).toNat : Nat) : Int) < 65)) || (decide (((((ByteArray.data x0).getD (Int.toNat a2) 0).toNat : Nat) : Int) > 90))) then
                bif !(((decide (((((ByteArray.data x0).getD (Int.toNat a2) 0).toNat : Nat) : Int) < 65)) || (decide (((((ByteArray.data x0).getD (Int.toNat a2) 0).toNat : Nat) : Int) > 90))) && (!(decide (((((ByteArray.data x0).getD (Int.toNat a2) 0).toNat : Nat) : Int) < 48)))) || (((decide (((((ByteArray.data x0).getD (Int.toNat a2) 0).toNat : Nat) : Int) < 65)) || (decide (((((ByteArray.data x0).getD (Int.toNat a2) 0).toNat : Nat) : Int) > 90))) && (!(decide (((((ByteArray.data x0).getD (Int.toNat a2) 0).toNat : Nat) : Int) < 48)))) then
                  bif !((decide (((((ByteArray.data x0).getD (Int.toNat a2) 0).toNat : Nat) : Int) < 65)) || (decide (((((ByteArray.data x0).getD (Int.toNat a2) 0).toNat : Nat) : Int) > 90))) || ((decide (((((ByteArray.data x0).getD (Int.toNat a2) 0).toNat : Nat) : Int) < 65)) || (decide (((((ByteArray.data x0).getD (Int.toNat a2) 0).toNat : Nat) : Int) > 90))) then
                    bif !((decide (((((ByteArray.data x0).getD (Int.toNat a2) 0).toNat : Nat) : Int) < 65)) || (decide (((((ByteArray.data x0).getD (Int.toNat a2) 0).toNat : Nat) : Int) > 90))) || ((decide (((((ByteArray.data x0).getD (Int.toNat a2) 0).toNat : Nat) : Int) < 48)) || (((decide (((((ByteArray.data x0).getD (Int.toNat a2) 0).toNat : Nat) : Int) < 65)) || (decide (((((ByteArray.data x0).getD (Int.toNat a2) 0).toNat : Nat) : Int) > 90))) && (!(decide (((((ByteArray.data x0).getD (Int.toNat a2) 0).toNat : Nat) : Int) < 48))))) then
                      bif (!((decide (((((ByteArray.data x0).getD (Int.toNat a2) 0).toNat : Nat) : Int) < 65)) || (decide (((((ByteArray.data x0).getD (Int.toNat a2) 0).toNat : Nat) : Int) > 90)))) || ((decide (((((ByteArray.data x0).getD (Int.toNat a2) 0).toNat : Nat) : Int) < 65)) || (decide (((((ByteArray.data x0).getD (Int.toNat a2) 0).toNat : Nat) : Int) > 90))) then
                        bif ((decide (((((ByteArray.data x0).getD (Int.toNat a2) 0).toNat : Nat) : Int) < 65)) || (decide (((((ByteArray.data x0).getD (Int.toNat a2) 0).toNat : Nat) : Int) > 90))) && ((decide (((((ByteArray.data x0).getD (Int.toNat a2) 0).toNat : Nat) : Int) < 48)) || (decide (((((ByteArray.data x0).getD (Int.toNat a2) 0).toNat : Nat) : Int) > 57))) then
                          some false
                        else
                          chart_Name.l0 N x0 k1 (w (a2 + 1))
                      else
                        none
                    else
                      none
                  else
                    none
                else
                  none
              else
                none
            else
              none
          else
            none
        else
          none
      else
        none
    else
      some true := by kernel_rfl
theorem taut1 : ∀ p0 : Bool, ((!(!(p0)) || (!(p0)))) = true := by decide
theorem taut2 : ∀ p0 p1 p2 : Bool, ((!(((p0) || (p1)) && (!(p2))) || (((p0) || (p1)) && (!(p2))))) = true := by decide
theorem taut3 : ∀ p0 p1 : Bool, ((!((p0) || (p1)) || ((p0) || (p1)))) = true := by decide
theorem taut4 : ∀ p0 p1 p2 : Bool, ((!((p0) || (p1)) || ((p2) || (((p0) || (p1)) && (!(p2)))))) = true := by decide
theorem taut5 : ∀ p0 p1 : Bool, (((!((p0) || (p1))) || ((p0) || (p1)))) = true := by decide
theorem taut6 : ∀ p0 : Bool, (((p0) || (!(p0)))) = true := by decide
theorem chart_Name.l0_clean (N : Nat) (x0 : ByteArray) (k1 : Nat) (a2 : Int) : chart_Name.l0 N x0 (k1 + 1) a2 =
    bif decide (a2 < (x0.size : Int)) then
      bif (decide (0 ≤ a2)) && (decide (a2 < (x0.size : Int))) then
        bif ((decide (((((ByteArray.data x0).getD (Int.toNat a2) 0).toNat : Nat) : Int) < 65)) || (decide (((((ByteArray.data x0).getD (Int.toNat a2) 0).toNat : Nat) : Int) > 90))) && ((decide (((((ByteArray.data x0).getD (Int.toNat a2) 0).toNat : Nat) : Int) < 48)) || (decide (((((ByteArray.data x0).getD (Int.toNat a2) 0).toNat : Nat) : Int) > 57))) then
          some false
        else
          chart_Name.l0 N x0 k1 (w (a2 + 1))
      else
        none
    else
      some true := by
  rw [chart_Name.l0_succ]; simp only [taut1, taut2, taut3, taut4, taut5, taut6, cond_true]
theorem chart_Name.l0_cons (N : Nat) (x0 : ByteArray) (k1 : Nat) {pre r} {x} (hl : x0.data.toList = pre ++ x :: r) (hb : x0.size < 4611686018427387904) : chart_Name.l0 N x0 (k1 + 1) (pre.length : Int) =
    bif ((decide (((x.toNat : Nat) : Int) < 65)) || (decide (((x.toNat : Nat) : Int) > 90))) && ((decide (((x.toNat : Nat) : Int) < 48)) || (decide (((x.toNat : Nat) : Int) > 57))) then
      some false
    else
      chart_Name.l0 N x0 k1 ((pre.length : Int) + 1) := by
  have hlen : x0.size = pre.length + 1 + r.length := by rw [ByteArray.size, ← Array.length_toList, hl]; simp; omega
  have e1 : decide ((pre.length : Int) < (x0.size : Int)) = true := by rw [decide_eq_true_iff]; omega
  have e2 : decide (0 ≤ (pre.length : Int)) = true := by rw [decide_eq_true_iff]; omega
  have e4 : w ((pre.length : Int) + 1) = (pre.length : Int) + 1 := w_next hl (by rw [Array.length_toList]; exact hb)
  have e6 : decide ((pre.length : Int) ≤ (x0.size : Int)) = true := by rw [decide_eq_true_iff]; omega
  have g0 : (ByteArray.data x0).getD pre.length 0 = x := getD_bytes hl
  rw [chart_Name.l0_clean]
  simp -implicitDefEqProofs only [Int.toNat_natCast, e1, e2, e4, e6, g0, Bool.and_true, Bool.true_and, Bool.true_or, cond_true]
theorem chart_Name.l0_nil (N : Nat) (x0 : ByteArray) (k1 : Nat) : chart_Name.l0 N x0 (k1 + 1) (x0.size : Int) =
    some true := by
  have e1 : decide ((x0.size : Int) < (x0.size : Int)) = false := by rw [decide_eq_false_iff_not]; omega
  rw [chart_Name.l0_clean]
  simp -implicitDefEqProofs only [e1, cond_false]
theorem chart_Name.eq (N : Nat) (x0 : ByteArray) : chart_Name.fn N x0 =
    bif !(!((x0.size : Int) == 0)) || (!((x0.size : Int) == 0)) then
      bif !(!((x0.size : Int) == 0)) || (!((x0.size : Int) == 0)) then
        bif ((x0.size : Int) == 0) || (!((x0.size : Int) == 0)) then
          bif !(!(((x0.size : Int) == 0) || (decide ((x0.size : Int) > 8)))) || (!(((x0.size : Int) == 0) || (decide ((x0.size : Int) > 8)))) then
            bif (decide (0 < (x0.size : Int))) || !(!(((x0.size : Int) == 0) || (decide ((x0.size : Int) > 8)))) then
              bif !(!(((x0.size : Int) == 0) || (decide ((x0.size : Int) > 8)))) || (!(((x0.size : Int) == 0) || (decide ((x0.size : Int) > 8)))) then
                bif (((x0.size : Int) == 0) || (decide ((x0.size : Int) > 8))) || (!(((x0.size : Int) == 0) || (decide ((x0.size : Int) > 8)))) then
                  bif !(!((((x0.size : Int) == 0) || (decide ((x0.size : Int) > 8))) || (decide (((((ByteArray.data x0).getD 0 0).toNat : Nat) : Int) < 65)))) || (!((((x0.size : Int) == 0) || (decide ((x0.size : Int) > 8))) || (decide (((((ByteArray.data x0).getD 0 0).toNat : Nat) : Int) < 65)))) then
                    bif (decide (0 < (x0.size : Int))) || !(!((((x0.size : Int) == 0) || (decide ((x0.size : Int) > 8))) || (decide (((((ByteArray.data x0).getD 0 0).toNat : Nat) : Int) < 65)))) then
                      bif !(!((((x0.size : Int) == 0) || (decide ((x0.size : Int) > 8))) || (decide (((((ByteArray.data x0).getD 0 0).toNat : Nat) : Int) < 65)))) || (!((((x0.size : Int) == 0) || (decide ((x0.size : Int) > 8))) || (decide (((((ByteArray.data x0).getD 0 0).toNat : Nat) : Int) < 65)))) then
                        bif ((((x0.size : Int) == 0) || (decide ((x0.size : Int) > 8))) || (decide (((((ByteArray.data x0).getD 0 0).toNat : Nat) : Int) < 65))) || (!((((x0.size : Int) == 0) || (decide ((x0.size : Int) > 8))) || (decide (((((ByteArray.data x0).getD 0 0).toNat : Nat) : Int) < 65)))) then
                          bif ((((x0.size : Int) == 0) || (decide ((x0.size : Int) > 8))) || (decide (((((ByteArray.data x0).getD 0 0).toNat : Nat) : Int) < 65))) || (decide (((((ByteArray.data x0).getD 0 0).toNat : Nat) : Int) > 90)) then
                            some false
                          else
                            chart_Name.l0 N x0 N 0
                        else
                          none
                      else
                        none
                    else
                      none
                  else
                    none
                else
                  none
              else
                none
            else
              none
          else
            none
        else
          none
      else
        none
    else
      none := by kernel_rfl
theorem taut7 : ∀ p0 p1 p2 : Bool, ((!(!(((p0) || (p1)) || (p2))) || (!(((p0) || (p1)) || (p2))))) = true := by decide
theorem taut8 : ∀ p0 p1 : Bool, ((!(!((p0) || (p1))) || (!((p0) || (p1))))) = true := by decide
theorem taut9 : ∀ p0 p1 p2 : Bool, (((((p0) || (p1)) || (p2)) || (!(((p0) || (p1)) || (p2))))) = true := by decide
theorem taut10 : ∀ p0 p1 : Bool, ((((p0) || (p1)) || (!((p0) || (p1))))) = true := by decide
theorem chart_Name.clean (N : Nat) (x0 : ByteArray) : chart_Name.fn N x0 =
    bif (decide (0 < (x0.size : Int))) || !(!(((x0.size : Int) == 0) || (decide ((x0.size : Int) > 8)))) then
      bif (decide (0 < (x0.size : Int))) || !(!((((x0.size : Int) == 0) || (decide ((x0.size : Int) > 8))) || (decide (((((ByteArray.data x0).getD 0 0).toNat : Nat) : Int) < 65)))) then
        bif ((((x0.size : Int) == 0) || (decide ((x0.size : Int) > 8))) || (decide (((((ByteArray.data x0).getD 0 0).toNat : Nat) : Int) < 65))) || (decide (((((ByteArray.data x0).getD 0 0).toNat : Nat) : Int) > 90)) then
          some false
        else
          chart_Name.l0 N x0 N 0
      else
        none
    else
      none := by
  rw [chart_Name.eq]; simp only [taut7, taut8, taut1, taut9, taut10, taut6, cond_true]

/-! ### sector_Name: skyway/sector.Name -/
def sector_Name.kp : List (Nat × List (Nat × Option (TypeId × Ty))) := []
noncomputable def sector_Name.G (N : Nat) : List (Nat × Spec) := [(33, .pure (chart_Name.S N))]
noncomputable def sector_Name.E (N : Nat) : Env := mkEnv (sector_Name.G N) N tyTab sector_Name.kp
noncomputable def sector_Name.fn (N : Nat) (x : ByteArray) : Option Bool := evFn (sector_Name.E N) Try.prog 3 Try.f25 false [.cell (.str)] [.val (.cell (.bool))] x
noncomputable def sector_Name.S (N : Nat) : PSpec := ⟨false, [.cell (.str)], [.val (.cell (.bool))], sector_Name.fn N⟩
theorem f25_enters : Enters Try.prog 25 := ⟨Try.f25, Try.func25, by kernel_rfl, by kernel_rfl⟩
theorem sector_Name.tab (N : Nat) : TabOk Try.prog (sector_Name.G N) := ⟨⟨chart_Name.enters, chart_Name.sound N⟩, trivial⟩
theorem sector_Name.enters : Enters Try.prog 25 := f25_enters
theorem sector_Name.sound (N : Nat) : Sound Try.prog 25 (sector_Name.S N) := evFn_sound (specs_tab (sector_Name.tab N)) (inls_tab (sector_Name.tab N)) mixed 3 Try.func25 _ _ _
theorem sector_Name.eq (N : Nat) (x0 : ByteArray) : sector_Name.fn N x0 =
    (chart_Name.fn N x0).bind fun r1 =>
    some r1 := by kernel_rfl

/-! ### owner_Name: skyway/owner.Name -/
def owner_Name.kp : List (Nat × List (Nat × Option (TypeId × Ty))) := []
noncomputable def owner_Name.G (N : Nat) : List (Nat × Spec) := [(25, .pure (sector_Name.S N))]
noncomputable def owner_Name.E (N : Nat) : Env := mkEnv (owner_Name.G N) N tyTab owner_Name.kp
noncomputable def owner_Name.fn (N : Nat) (x : ByteArray) : Option Bool := evFn (owner_Name.E N) Try.prog 3 Try.f10 false [.cell (.str)] [.val (.cell (.bool))] x
noncomputable def owner_Name.S (N : Nat) : PSpec := ⟨false, [.cell (.str)], [.val (.cell (.bool))], owner_Name.fn N⟩
theorem f10_enters : Enters Try.prog 10 := ⟨Try.f10, Try.func10, by kernel_rfl, by kernel_rfl⟩
theorem owner_Name.tab (N : Nat) : TabOk Try.prog (owner_Name.G N) := ⟨⟨sector_Name.enters, sector_Name.sound N⟩, trivial⟩
theorem owner_Name.enters : Enters Try.prog 10 := f10_enters
theorem owner_Name.sound (N : Nat) : Sound Try.prog 10 (owner_Name.S N) := evFn_sound (specs_tab (owner_Name.tab N)) (inls_tab (owner_Name.tab N)) mixed 3 Try.func10 _ _ _
theorem owner_Name.eq (N : Nat) (x0 : ByteArray) : owner_Name.fn N x0 =
    (sector_Name.fn N x0).bind fun r1 =>
    some r1 := by kernel_rfl

/-! ### owner_Check: skyway/owner.Check -/
def owner_Check.kp : List (Nat × List (Nat × Option (TypeId × Ty))) := [(4, [(0, none), (8, none), (9, none), (10, none)])]
noncomputable def owner_Check.G (N : Nat) : List (Nat × Spec) := [(10, .pure (owner_Name.S N))]
noncomputable def owner_Check.E (N : Nat) : Env := mkEnv (owner_Check.G N) N tyTab owner_Check.kp
noncomputable def owner_Check.fn (N : Nat) (x : List (ByteArray × ByteArray × ByteArray)) : Option Int := evFn (owner_Check.E N) Try.prog 3 Try.f8 false [.cell (.sl 34 (.pair (.str) (.pair (.str) (.str))))] [.val (.cell (.int .i64))] x
noncomputable def owner_Check.S (N : Nat) : PSpec := ⟨false, [.cell (.sl 34 (.pair (.str) (.pair (.str) (.str))))], [.val (.cell (.int .i64))], owner_Check.fn N⟩
theorem f8_enters : Enters Try.prog 8 := ⟨Try.f8, Try.func8, by kernel_rfl, by kernel_rfl⟩
theorem owner_Check.tab (N : Nat) : TabOk Try.prog (owner_Check.G N) := ⟨⟨owner_Name.enters, owner_Name.sound N⟩, trivial⟩
theorem owner_Check.enters : Enters Try.prog 8 := f8_enters
theorem owner_Check.sound (N : Nat) : Sound Try.prog 8 (owner_Check.S N) := evFn_sound (specs_tab (owner_Check.tab N)) (inls_tab (owner_Check.tab N)) mixed 3 Try.func8 _ _ _
noncomputable def owner_Check.cd (N : Nat) (p : List Nat) : St → (Ex → St → Option Int) → Option Int := ev (owner_Check.E N) Try.prog (callD (owner_Check.E N) Try.prog 3) 0 (codeAt (bodyOf Try.f8) p)
noncomputable def owner_Check.fin : Ex → St → Option Int := endK Try.prog Try.f8 [.val (.cell (.int .i64))]
noncomputable def owner_Check.l0 (N : Nat) (x0 : List (ByteArray × ByteArray × ByteArray)) (k1 : Nat) (a2 : Int) : Option Int :=
  loopN (norm ((owner_Check.E N).keep 4) 0) (owner_Check.cd N [1, 1, 0, 1, 0, 0]) k1
  ⟨[.ros false 34 (.pair (.str) (.pair (.str) (.str))) x0, .any, .any, .any, .any, .any, .any, .any, .ros false 34 (.pair (.str) (.pair (.str) (.str))) x0, .sc (.int .i64 (x0.length : Int)), .sc (.int .i64 a2), .any, .any, .any, .any, .any, .any, .any, .any, .any, .any, .any, .any, .any, .any, .any, .any, .any, .any, .any, .any, .any, .any, .any, .any, .any, .any, .any, .any, .any, .any, .any, .any, .any, .any, .any, .any, .any, .any, .any, .any, .any, .any, .any, .any], []⟩
  (blockK 0 (seqK (owner_Check.cd N [1, 1, 1]) owner_Check.fin))
theorem owner_Check.l0_zero (N : Nat) (x0 : List (ByteArray × ByteArray × ByteArray)) (a2 : Int) : owner_Check.l0 N x0 0 a2 = none := by kernel_rfl
theorem owner_Check.l0_succ (N : Nat) (x0 : List (ByteArray × ByteArray × ByteArray)) (k1 : Nat) (a2 : Int) : owner_Check.l0 N x0 (k1 + 1) a2 =
    bif decide (a2 < (x0.length : Int)) then
      bif (decide (0 ≤ a2)) && (decide (a2 < (x0.length : Int))) then
        (owner_Name.fn N ((List.getD x0 (Int.toNat a2) ((⟨#[]⟩ : ByteArray), ((⟨#[]⟩ : ByteArray), (⟨#[]⟩ : ByteArray)))).1)).bind fun r3 =>
        bif !(!(!r3)) || (!(!r3)) then
          bif !(!(!r3)) || (!(!r3)) then
            (bif (!(!r3)) then owner_Name.fn N (((List.getD x0 (Int.toNat a2) ((⟨#[]⟩ : ByteArray), ((⟨#[]⟩ : ByteArray), (⟨#[]⟩ : ByteArray)))).2).1) else some (false)).bind fun r4 =>
            bif !(!(!r3)) || (!(!r3)) then
              bif (!r3) || (!(!r3)) then
                bif !(!((!r3) || (!r4))) || (!((!r3) || (!r4))) then
                  bif !(!((!r3) || (!r4))) || (!((!r3) || (!r4))) then
                    bif !(!((!r3) || (!r4))) || (!((!r3) || (!r4))) then
                      bif !((!((!r3) || (!r4))) && (!(seq (((List.getD x0 (Int.toNat a2) ((⟨#[]⟩ : ByteArray), ((⟨#[]⟩ : ByteArray), (⟨#[]⟩ : ByteArray)))).2).2) (⟨#[]⟩ : ByteArray)))) || ((!((!r3) || (!r4))) && (!(seq (((List.getD x0 (Int.toNat a2) ((⟨#[]⟩ : ByteArray), ((⟨#[]⟩ : ByteArray), (⟨#[]⟩ : ByteArray)))).2).2) (⟨#[]⟩ : ByteArray)))) then
                        bif !((!((!r3) || (!r4))) && (!(seq (((List.getD x0 (Int.toNat a2) ((⟨#[]⟩ : ByteArray), ((⟨#[]⟩ : ByteArray), (⟨#[]⟩ : ByteArray)))).2).2) (⟨#[]⟩ : ByteArray)))) || ((!((!r3) || (!r4))) && (!(seq (((List.getD x0 (Int.toNat a2) ((⟨#[]⟩ : ByteArray), ((⟨#[]⟩ : ByteArray), (⟨#[]⟩ : ByteArray)))).2).2) (⟨#[]⟩ : ByteArray)))) then
                          (bif ((!((!r3) || (!r4))) && (!(seq (((List.getD x0 (Int.toNat a2) ((⟨#[]⟩ : ByteArray), ((⟨#[]⟩ : ByteArray), (⟨#[]⟩ : ByteArray)))).2).2) (⟨#[]⟩ : ByteArray)))) then owner_Name.fn N (((List.getD x0 (Int.toNat a2) ((⟨#[]⟩ : ByteArray), ((⟨#[]⟩ : ByteArray), (⟨#[]⟩ : ByteArray)))).2).2) else some (false)).bind fun r5 =>
                          bif !((!((!r3) || (!r4))) && (!(seq (((List.getD x0 (Int.toNat a2) ((⟨#[]⟩ : ByteArray), ((⟨#[]⟩ : ByteArray), (⟨#[]⟩ : ByteArray)))).2).2) (⟨#[]⟩ : ByteArray)))) || ((!((!r3) || (!r4))) && (!(seq (((List.getD x0 (Int.toNat a2) ((⟨#[]⟩ : ByteArray), ((⟨#[]⟩ : ByteArray), (⟨#[]⟩ : ByteArray)))).2).2) (⟨#[]⟩ : ByteArray)))) then
                            bif !(!((!r3) || (!r4))) || (!((!r3) || (!r4))) then
                              bif !(!((!r3) || (!r4))) || ((!(!(seq (((List.getD x0 (Int.toNat a2) ((⟨#[]⟩ : ByteArray), ((⟨#[]⟩ : ByteArray), (⟨#[]⟩ : ByteArray)))).2).2) (⟨#[]⟩ : ByteArray)))) || ((!((!r3) || (!r4))) && (!(seq (((List.getD x0 (Int.toNat a2) ((⟨#[]⟩ : ByteArray), ((⟨#[]⟩ : ByteArray), (⟨#[]⟩ : ByteArray)))).2).2) (⟨#[]⟩ : ByteArray))))) then
                                bif ((!r3) || (!r4)) || (!((!r3) || (!r4))) then
                                  bif ((!r3) || (!r4)) || ((!(seq (((List.getD x0 (Int.toNat a2) ((⟨#[]⟩ : ByteArray), ((⟨#[]⟩ : ByteArray), (⟨#[]⟩ : ByteArray)))).2).2) (⟨#[]⟩ : ByteArray))) && (!r5)) then
                                    some 3
                                  else
                                  bif seq (((List.getD x0 (Int.toNat a2) ((⟨#[]⟩ : ByteArray), ((⟨#[]⟩ : ByteArray), (⟨#[]⟩ : ByteArray)))).2).2) (((List.getD x0 (Int.toNat a2) ((⟨#[]⟩ : ByteArray), ((⟨#[]⟩ : ByteArray), (⟨#[]⟩ : ByteArray)))).2).1) then
                                    some 11
                                  else
                                  bif !(decide (a2 > 0)) || (decide (a2 > 0)) then
                                    bif !(decide (a2 > 0)) || (decide (a2 > 0)) then
                                      bif !(decide (a2 > 0)) || (decide (a2 > 0)) then
                                        bif !(decide (a2 > 0)) || (decide (a2 > 0)) then
                                          bif ((decide (0 ≤ (w (a2 - 1)))) && (decide ((w (a2 - 1)) < (x0.length : Int)))) || !(decide (a2 > 0)) then
                                            bif !(decide (a2 > 0)) || (decide (a2 > 0)) then
                                              bif !(decide (a2 > 0)) || (decide (a2 > 0)) then
                                                bif !(decide (a2 > 0)) || (decide (a2 > 0)) then
                                                  bif !(decide (a2 > 0)) || (decide (a2 > 0)) then
                                                    bif (!(decide (a2 > 0))) || (decide (a2 > 0)) then
                                                      bif (decide (a2 > 0)) && ((slt ((List.getD x0 (Int.toNat a2) ((⟨#[]⟩ : ByteArray), ((⟨#[]⟩ : ByteArray), (⟨#[]⟩ : ByteArray)))).1) ((List.getD x0 (Int.toNat (w (a2 - 1))) ((⟨#[]⟩ : ByteArray), ((⟨#[]⟩ : ByteArray), (⟨#[]⟩ : ByteArray)))).1)) || (seq ((List.getD x0 (Int.toNat a2) ((⟨#[]⟩ : ByteArray), ((⟨#[]⟩ : ByteArray), (⟨#[]⟩ : ByteArray)))).1) ((List.getD x0 (Int.toNat (w (a2 - 1))) ((⟨#[]⟩ : ByteArray), ((⟨#[]⟩ : ByteArray), (⟨#[]⟩ : ByteArray)))).1))) then
                                                        some 7
                                                      else
                                                        owner_Check.l0 N x0 k1 (w (a2 + 1))
                                                    else
                                                      none
                                                  else
                                                    none
                                                else
                                                  none
                                              else
                                                none
                                            else
                                              none
                                          else
                                            none
                                        else
                                          none
                                      else
                                        none
                                    else
                                      none
                                  else
                                    none
                                else
                                  none
                              else
                                none
                            else
                              none
                          else
                            none
                        else
                          none
                      else
                        none
                    else
                      none
                  else
                    none
                else
                  none
              else
                none
            else
              none
          else
            none
        else
          none
      else
        none
    else
      some 0 := by kernel_rfl
theorem taut11 : ∀ p0 : Bool, ((!(!(!p0)) || (!(!p0)))) = true := by decide
theorem taut12 : ∀ p0 p1 : Bool, ((!(!((!p0) || (!p1))) || (!((!p0) || (!p1))))) = true := by decide
theorem taut13 : ∀ p0 p1 p2 : Bool, ((!(!((!p0) || (!p1))) || ((!(!(p2))) || ((!((!p0) || (!p1))) && (!(p2)))))) = true := by decide
theorem taut14 : ∀ p0 p1 p2 : Bool, ((!((!((!p0) || (!p1))) && (!(p2))) || ((!((!p0) || (!p1))) && (!(p2))))) = true := by decide
theorem taut15 : ∀ p0 : Bool, ((!(p0) || (p0))) = true := by decide
theorem taut16 : ∀ p0 : Bool, (((!(p0)) || (p0))) = true := by decide
theorem taut17 : ∀ p0 : Bool, (((!p0) || (!(!p0)))) = true := by decide
theorem taut18 : ∀ p0 p1 : Bool, ((((!p0) || (!p1)) || (!((!p0) || (!p1))))) = true := by decide
theorem owner_Check.l0_clean (N : Nat) (x0 : List (ByteArray × ByteArray × ByteArray)) (k1 : Nat) (a2 : Int) : owner_Check.l0 N x0 (k1 + 1) a2 =
    bif decide (a2 < (x0.length : Int)) then
      bif (decide (0 ≤ a2)) && (decide (a2 < (x0.length : Int))) then
        (owner_Name.fn N ((List.getD x0 (Int.toNat a2) ((⟨#[]⟩ : ByteArray), ((⟨#[]⟩ : ByteArray), (⟨#[]⟩ : ByteArray)))).1)).bind fun r3 =>
        (bif (!(!r3)) then owner_Name.fn N (((List.getD x0 (Int.toNat a2) ((⟨#[]⟩ : ByteArray), ((⟨#[]⟩ : ByteArray), (⟨#[]⟩ : ByteArray)))).2).1) else some (false)).bind fun r4 =>
        (bif ((!((!r3) || (!r4))) && (!(seq (((List.getD x0 (Int.toNat a2) ((⟨#[]⟩ : ByteArray), ((⟨#[]⟩ : ByteArray), (⟨#[]⟩ : ByteArray)))).2).2) (⟨#[]⟩ : ByteArray)))) then owner_Name.fn N (((List.getD x0 (Int.toNat a2) ((⟨#[]⟩ : ByteArray), ((⟨#[]⟩ : ByteArray), (⟨#[]⟩ : ByteArray)))).2).2) else some (false)).bind fun r5 =>
        bif ((!r3) || (!r4)) || ((!(seq (((List.getD x0 (Int.toNat a2) ((⟨#[]⟩ : ByteArray), ((⟨#[]⟩ : ByteArray), (⟨#[]⟩ : ByteArray)))).2).2) (⟨#[]⟩ : ByteArray))) && (!r5)) then
          some 3
        else
        bif seq (((List.getD x0 (Int.toNat a2) ((⟨#[]⟩ : ByteArray), ((⟨#[]⟩ : ByteArray), (⟨#[]⟩ : ByteArray)))).2).2) (((List.getD x0 (Int.toNat a2) ((⟨#[]⟩ : ByteArray), ((⟨#[]⟩ : ByteArray), (⟨#[]⟩ : ByteArray)))).2).1) then
          some 11
        else
        bif ((decide (0 ≤ (w (a2 - 1)))) && (decide ((w (a2 - 1)) < (x0.length : Int)))) || !(decide (a2 > 0)) then
          bif (decide (a2 > 0)) && ((slt ((List.getD x0 (Int.toNat a2) ((⟨#[]⟩ : ByteArray), ((⟨#[]⟩ : ByteArray), (⟨#[]⟩ : ByteArray)))).1) ((List.getD x0 (Int.toNat (w (a2 - 1))) ((⟨#[]⟩ : ByteArray), ((⟨#[]⟩ : ByteArray), (⟨#[]⟩ : ByteArray)))).1)) || (seq ((List.getD x0 (Int.toNat a2) ((⟨#[]⟩ : ByteArray), ((⟨#[]⟩ : ByteArray), (⟨#[]⟩ : ByteArray)))).1) ((List.getD x0 (Int.toNat (w (a2 - 1))) ((⟨#[]⟩ : ByteArray), ((⟨#[]⟩ : ByteArray), (⟨#[]⟩ : ByteArray)))).1))) then
            some 7
          else
            owner_Check.l0 N x0 k1 (w (a2 + 1))
        else
          none
      else
        none
    else
      some 0 := by
  rw [owner_Check.l0_succ]; simp only [taut11, taut12, taut13, taut14, taut15, taut16, taut17, taut18, cond_true]
theorem owner_Check.l0_cons (N : Nat) (x0 : List (ByteArray × ByteArray × ByteArray)) (k1 : Nat) {pre r} {x} (hl : x0 = pre ++ x :: r) (hb : x0.length < 4611686018427387904) : owner_Check.l0 N x0 (k1 + 1) (pre.length : Int) =
    (owner_Name.fn N (x.1)).bind fun r3 =>
    (bif (!(!r3)) then owner_Name.fn N ((x.2).1) else some (false)).bind fun r4 =>
    (bif ((!((!r3) || (!r4))) && (!(seq ((x.2).2) (⟨#[]⟩ : ByteArray)))) then owner_Name.fn N ((x.2).2) else some (false)).bind fun r5 =>
    bif ((!r3) || (!r4)) || ((!(seq ((x.2).2) (⟨#[]⟩ : ByteArray))) && (!r5)) then
      some 3
    else
    bif seq ((x.2).2) ((x.2).1) then
      some 11
    else
    bif ((decide (0 ≤ (w ((pre.length : Int) - 1)))) && (decide ((w ((pre.length : Int) - 1)) < (x0.length : Int)))) || !(decide ((pre.length : Int) > 0)) then
      bif (decide ((pre.length : Int) > 0)) && ((slt (x.1) ((List.getD x0 (Int.toNat (w ((pre.length : Int) - 1))) ((⟨#[]⟩ : ByteArray), ((⟨#[]⟩ : ByteArray), (⟨#[]⟩ : ByteArray)))).1)) || (seq (x.1) ((List.getD x0 (Int.toNat (w ((pre.length : Int) - 1))) ((⟨#[]⟩ : ByteArray), ((⟨#[]⟩ : ByteArray), (⟨#[]⟩ : ByteArray)))).1))) then
        some 7
      else
        owner_Check.l0 N x0 k1 ((pre.length : Int) + 1)
    else
      none := by
  have hlen : x0.length = pre.length + 1 + r.length := by rw [hl]; simp; omega
  have e1 : decide ((pre.length : Int) < (x0.length : Int)) = true := by rw [decide_eq_true_iff]; omega
  have e2 : decide (0 ≤ (pre.length : Int)) = true := by rw [decide_eq_true_iff]; omega
  have e4 : w ((pre.length : Int) + 1) = (pre.length : Int) + 1 := w_next hl hb
  have e5 : List.take pre.length x0 = pre := by rw [hl]; simp
  have e6 : decide ((pre.length : Int) ≤ (x0.length : Int)) = true := by rw [decide_eq_true_iff]; omega
  have g0 : List.getD x0 pre.length ((⟨#[]⟩ : ByteArray), ((⟨#[]⟩ : ByteArray), (⟨#[]⟩ : ByteArray))) = x := by rw [hl]; exact getD_mid pre x r _
  rw [owner_Check.l0_clean]
  simp -implicitDefEqProofs only [Int.toNat_natCast, e1, e2, e4, e6, g0, e5, Bool.and_true, Bool.true_and, Bool.true_or, cond_true]
theorem owner_Check.l0_nil (N : Nat) (x0 : List (ByteArray × ByteArray × ByteArray)) (k1 : Nat) : owner_Check.l0 N x0 (k1 + 1) (x0.length : Int) =
    some 0 := by
  have e1 : decide ((x0.length : Int) < (x0.length : Int)) = false := by rw [decide_eq_false_iff_not]; omega
  rw [owner_Check.l0_clean]
  simp -implicitDefEqProofs only [e1, cond_false]
theorem owner_Check.eq (N : Nat) (x0 : List (ByteArray × ByteArray × ByteArray)) : owner_Check.fn N x0 =
    bif decide ((x0.length : Int) > 24) then
      some 2
    else
      owner_Check.l0 N x0 N 0 := by kernel_rfl

/-! ### strings_Compare: strings.Compare -/
def strings_Compare.kp : List (Nat × List (Nat × Option (TypeId × Ty))) := []
noncomputable def strings_Compare.G (N : Nat) : List (Nat × Spec) := [(39, .pure cmpSpec)]
noncomputable def strings_Compare.E (N : Nat) : Env := mkEnv (strings_Compare.G N) N tyTab strings_Compare.kp
noncomputable def strings_Compare.fn (N : Nat) (x : ByteArray × ByteArray) : Option Int := evFn (strings_Compare.E N) Try.prog 3 Try.f36 false [.cell (.str), .cell (.str)] [.val (.cell (.int .i64))] x
noncomputable def strings_Compare.S (N : Nat) : PSpec := ⟨false, [.cell (.str), .cell (.str)], [.val (.cell (.int .i64))], strings_Compare.fn N⟩
theorem f36_enters : Enters Try.prog 36 := ⟨Try.f36, Try.func36, by kernel_rfl, by kernel_rfl⟩
theorem strings_Compare.tab (N : Nat) : TabOk Try.prog (strings_Compare.G N) := ⟨⟨cmp_enters, cmp_sound⟩, trivial⟩
theorem strings_Compare.enters : Enters Try.prog 36 := f36_enters
theorem strings_Compare.sound (N : Nat) : Sound Try.prog 36 (strings_Compare.S N) := evFn_sound (specs_tab (strings_Compare.tab N)) (inls_tab (strings_Compare.tab N)) mixed 3 Try.func36 _ _ _
theorem strings_Compare.eq (N : Nat) (x0 : ByteArray) (x1 : ByteArray) : strings_Compare.fn N (x0, x1) =
    some (cmpS x0 x1) := by kernel_rfl

/-! ### owner_find_1: skyway/owner.find$1 -/
def owner_find_1.kp : List (Nat × List (Nat × Option (TypeId × Ty))) := []
noncomputable def owner_find_1.G (N : Nat) : List (Nat × Spec) := [(36, .pure (strings_Compare.S N))]
noncomputable def owner_find_1.E (N : Nat) : Env := mkEnv (owner_find_1.G N) N tyTab owner_find_1.kp
noncomputable def owner_find_1.fn (N : Nat) (x : (ByteArray × ByteArray × ByteArray) × ByteArray) : Option Int := evFn (owner_find_1.E N) Try.prog 3 Try.f35 false [.agg (.pair (.str) (.pair (.str) (.str))), .cell (.str)] [.val (.cell (.int .i64))] x
noncomputable def owner_find_1.S (N : Nat) : PSpec := ⟨false, [.agg (.pair (.str) (.pair (.str) (.str))), .cell (.str)], [.val (.cell (.int .i64))], owner_find_1.fn N⟩
theorem f35_enters : Enters Try.prog 35 := ⟨Try.f35, Try.func35, by kernel_rfl, by kernel_rfl⟩
theorem owner_find_1.tab (N : Nat) : TabOk Try.prog (owner_find_1.G N) := ⟨⟨strings_Compare.enters, strings_Compare.sound N⟩, trivial⟩
theorem owner_find_1.enters : Enters Try.prog 35 := f35_enters
theorem owner_find_1.sound (N : Nat) : Sound Try.prog 35 (owner_find_1.S N) := evFn_sound (specs_tab (owner_find_1.tab N)) (inls_tab (owner_find_1.tab N)) mixed 3 Try.func35 _ _ _
theorem owner_find_1.eq (N : Nat) (x0 : ByteArray × ByteArray × ByteArray) (x1 : ByteArray) : owner_find_1.fn N (x0, x1) =
    (strings_Compare.fn N (x0.1, x1)).bind fun r1 =>
    some r1 := by kernel_rfl

/-! ### owner_find: skyway/owner.find -/
def owner_find.kp : List (Nat × List (Nat × Option (TypeId × Ty))) := [(3, [(0, none), (1, none), (2, none), (8, none), (9, none), (10, none)])]
noncomputable def owner_find.G (N : Nat) : List (Nat × Spec) := [(35, .pure (owner_find_1.S N)), (34, .inl Try.f34)]
noncomputable def owner_find.E (N : Nat) : Env := mkEnv (owner_find.G N) N tyTab owner_find.kp
noncomputable def owner_find.fn (N : Nat) (x : List (ByteArray × ByteArray × ByteArray) × ByteArray) : Option (Int × Bool) := evFn (owner_find.E N) Try.prog 3 Try.f26 false [.cell (.sl 34 (.pair (.str) (.pair (.str) (.str)))), .cell (.str)] [.val (.cell (.int .i64)), .val (.cell (.bool))] x
noncomputable def owner_find.S (N : Nat) : PSpec := ⟨false, [.cell (.sl 34 (.pair (.str) (.pair (.str) (.str)))), .cell (.str)], [.val (.cell (.int .i64)), .val (.cell (.bool))], owner_find.fn N⟩
theorem f34_enters : Enters Try.prog 34 := ⟨Try.f34, Try.func34, by kernel_rfl, by kernel_rfl⟩
theorem f26_enters : Enters Try.prog 26 := ⟨Try.f26, Try.func26, by kernel_rfl, by kernel_rfl⟩
theorem owner_find.tab (N : Nat) : TabOk Try.prog (owner_find.G N) := ⟨⟨owner_find_1.enters, owner_find_1.sound N⟩, ⟨f34_enters, Try.func34⟩, trivial⟩
theorem owner_find.enters : Enters Try.prog 26 := f26_enters
theorem owner_find.sound (N : Nat) : Sound Try.prog 26 (owner_find.S N) := evFn_sound (specs_tab (owner_find.tab N)) (inls_tab (owner_find.tab N)) mixed 3 Try.func26 _ _ _
noncomputable def owner_find.cd (N : Nat) (p : List Nat) : St → (Ex → St → Option (Int × Bool)) → Option (Int × Bool) := ev (owner_find.E N) Try.prog (callD (owner_find.E N) Try.prog 3) 0 (codeAt (bodyOf Try.f26) p)
noncomputable def owner_find.cd34_2_0 (N : Nat) (p : List Nat) : St → (Ex → St → Option (Int × Bool)) → Option (Int × Bool) := ev (owner_find.E N) Try.prog (callD (owner_find.E N) Try.prog 2) 0 (codeAt (bodyOf Try.f34) p)
noncomputable def owner_find.fin : Ex → St → Option (Int × Bool) := endK Try.prog Try.f26 [.val (.cell (.int .i64)), .val (.cell (.bool))]
noncomputable def owner_find.l0 (N : Nat) (x0 : List (ByteArray × ByteArray × ByteArray)) (x1 : ByteArray) (k1 : Nat) (a2 : Int) (a3 : Int) : Option (Int × Bool) :=
  loopN (norm ((owner_find.E N).keep 3) 0) (owner_find.cd34_2_0 N [1, 1, 1, 0, 0, 0]) k1
  ⟨[.ros false 34 (.pair (.str) (.pair (.str) (.str))) x0, .sc (.string x1), .clo 35 [], .any, .any, .any, .any, .any, .sc (.int .i64 (x0.length : Int)), .sc (.int .i64 a2), .sc (.int .i64 a3), .any, .any, .any, .any, .any, .any, .any, .any, .any, .any, .any, .any, .any, .any, .any, .any, .any, .any, .any, .any, .any, .any, .any, .any, .any, .any, .any, .any, .any, .any, .any, .any, .any, .any, .any, .any, .any, .any], []⟩
  (blockK 0 (seqK (owner_find.cd34_2_0 N [1, 1, 1, 1]) (retK Try.prog Try.f34 (fun vs hp => (reg (owner_find.E N) Try.prog (callD (owner_find.E N) Try.prog 3) (opsAt (codeAt (bodyOf Try.f26) [1, 0])) [] (List.drop 3 (opsAt (codeAt (bodyOf Try.f26) [1, 0]))) (St.put ⟨[.ros false 34 (.pair (.str) (.pair (.str) (.str))) x0, .sc (.string x1), .any, .any, .sc (.int .i64 0), .sc (.bool false), .ros false 34 (.pair (.str) (.pair (.str) (.str))) x0, .sc (.string x1), .any, .any, .any], hp⟩ (some 8) (tupOf vs)) (fun S => (seqK (owner_find.cd N [1, 1]) owner_find.fin) .normal S))))))
theorem owner_find.l0_zero (N : Nat) (x0 : List (ByteArray × ByteArray × ByteArray)) (x1 : ByteArray) (a2 : Int) (a3 : Int) : owner_find.l0 N x0 x1 0 a2 a3 = none := by kernel_rfl
theorem owner_find.l0_succ (N : Nat) (x0 : List (ByteArray × ByteArray × ByteArray)) (x1 : ByteArray) (k1 : Nat) (a2 : Int) (a3 : Int) : owner_find.l0 N x0 x1 (k1 + 1) a2 a3 =
    bif decide (a2 < a3) then
      bif (decide (0 ≤ (w (shrI .u64 (IntKind.wrap .u64 (w (a2 + a3))) 1)))) && (decide ((w (shrI .u64 (IntKind.wrap .u64 (w (a2 + a3))) 1)) < (x0.length : Int))) then
        (owner_find_1.fn N (List.getD x0 (Int.toNat (w (shrI .u64 (IntKind.wrap .u64 (w (a2 + a3))) 1))) ((⟨#[]⟩ : ByteArray), ((⟨#[]⟩ : ByteArray), (⟨#[]⟩ : ByteArray))), x1)).bind fun r4 =>
        bif decide (r4 < 0) then
          owner_find.l0 N x0 x1 k1 (w ((w (shrI .u64 (IntKind.wrap .u64 (w (a2 + a3))) 1)) + 1)) a3
        else
          owner_find.l0 N x0 x1 k1 a2 (w (shrI .u64 (IntKind.wrap .u64 (w (a2 + a3))) 1))
      else
        none
    else
    bif !(decide (a2 < (x0.length : Int))) || (decide (a2 < (x0.length : Int))) then
      bif !(decide (a2 < (x0.length : Int))) || (decide (a2 < (x0.length : Int))) then
        bif ((decide (0 ≤ a2)) && (decide (a2 < (x0.length : Int)))) || !(decide (a2 < (x0.length : Int))) then
          bif !(decide (a2 < (x0.length : Int))) || (decide (a2 < (x0.length : Int))) then
            bif !(decide (a2 < (x0.length : Int))) || (decide (a2 < (x0.length : Int))) then
              bif !(decide (a2 < (x0.length : Int))) || (decide (a2 < (x0.length : Int))) then
                bif !(decide (a2 < (x0.length : Int))) || (decide (a2 < (x0.length : Int))) then
                  (bif (decide (a2 < (x0.length : Int))) then owner_find_1.fn N (List.getD x0 (Int.toNat a2) ((⟨#[]⟩ : ByteArray), ((⟨#[]⟩ : ByteArray), (⟨#[]⟩ : ByteArray))), x1) else some (0)).bind fun r5 =>
                  bif !(decide (a2 < (x0.length : Int))) || (decide (a2 < (x0.length : Int))) then
                    bif (!(decide (a2 < (x0.length : Int)))) || (decide (a2 < (x0.length : Int))) then
                      some (a2, ((decide (a2 < (x0.length : Int))) && (r5 == 0)))
                    else
                      none
                  else
                    none
                else
                  none
              else
                none
            else
              none
          else
            none
        else
          none
      else
        none
    else
      none := by kernel_rfl
theorem owner_find.l0_clean (N : Nat) (x0 : List (ByteArray × ByteArray × ByteArray)) (x1 : ByteArray) (k1 : Nat) (a2 : Int) (a3 : Int) : owner_find.l0 N x0 x1 (k1 + 1) a2 a3 =
    bif decide (a2 < a3) then
      bif (decide (0 ≤ (w (shrI .u64 (IntKind.wrap .u64 (w (a2 + a3))) 1)))) && (decide ((w (shrI .u64 (IntKind.wrap .u64 (w (a2 + a3))) 1)) < (x0.length : Int))) then
        (owner_find_1.fn N (List.getD x0 (Int.toNat (w (shrI .u64 (IntKind.wrap .u64 (w (a2 + a3))) 1))) ((⟨#[]⟩ : ByteArray), ((⟨#[]⟩ : ByteArray), (⟨#[]⟩ : ByteArray))), x1)).bind fun r4 =>
        bif decide (r4 < 0) then
          owner_find.l0 N x0 x1 k1 (w ((w (shrI .u64 (IntKind.wrap .u64 (w (a2 + a3))) 1)) + 1)) a3
        else
          owner_find.l0 N x0 x1 k1 a2 (w (shrI .u64 (IntKind.wrap .u64 (w (a2 + a3))) 1))
      else
        none
    else
    bif ((decide (0 ≤ a2)) && (decide (a2 < (x0.length : Int)))) || !(decide (a2 < (x0.length : Int))) then
      (bif (decide (a2 < (x0.length : Int))) then owner_find_1.fn N (List.getD x0 (Int.toNat a2) ((⟨#[]⟩ : ByteArray), ((⟨#[]⟩ : ByteArray), (⟨#[]⟩ : ByteArray))), x1) else some (0)).bind fun r5 =>
      some (a2, ((decide (a2 < (x0.length : Int))) && (r5 == 0)))
    else
      none := by
  rw [owner_find.l0_succ]; simp only [taut15, taut16, cond_true]
theorem owner_find.eq (N : Nat) (x0 : List (ByteArray × ByteArray × ByteArray)) (x1 : ByteArray) : owner_find.fn N (x0, x1) =
    owner_find.l0 N x0 x1 N 0 (x0.length : Int) := by kernel_rfl

/-! ### slices_Clone_OwnerEntry: slices.Clone[[]skyway/api.OwnerEntry,skyway/api.OwnerEntry] -/
def slices_Clone_OwnerEntry.kp : List (Nat × List (Nat × Option (TypeId × Ty))) := []
noncomputable def slices_Clone_OwnerEntry.G (N : Nat) : List (Nat × Spec) := []
noncomputable def slices_Clone_OwnerEntry.E (N : Nat) : Env := mkEnv (slices_Clone_OwnerEntry.G N) N tyTab slices_Clone_OwnerEntry.kp
noncomputable def slices_Clone_OwnerEntry.fn (N : Nat) (x : List (ByteArray × ByteArray × ByteArray)) : Option (List (ByteArray × ByteArray × ByteArray)) := evFn (slices_Clone_OwnerEntry.E N) Try.prog 3 Try.f28 false [.cell (.sl 34 (.pair (.str) (.pair (.str) (.str))))] [.own 34 (.pair (.str) (.pair (.str) (.str)))] x
noncomputable def slices_Clone_OwnerEntry.S (N : Nat) : PSpec := ⟨false, [.cell (.sl 34 (.pair (.str) (.pair (.str) (.str))))], [.own 34 (.pair (.str) (.pair (.str) (.str)))], slices_Clone_OwnerEntry.fn N⟩
theorem f28_enters : Enters Try.prog 28 := ⟨Try.f28, Try.func28, by kernel_rfl, by kernel_rfl⟩
theorem slices_Clone_OwnerEntry.tab (N : Nat) : TabOk Try.prog (slices_Clone_OwnerEntry.G N) := trivial
theorem slices_Clone_OwnerEntry.enters : Enters Try.prog 28 := f28_enters
theorem slices_Clone_OwnerEntry.sound (N : Nat) : Sound Try.prog 28 (slices_Clone_OwnerEntry.S N) := evFn_sound (specs_tab (slices_Clone_OwnerEntry.tab N)) (inls_tab (slices_Clone_OwnerEntry.tab N)) mixed 3 Try.func28 _ _ _
theorem slices_Clone_OwnerEntry.eq (N : Nat) (x0 : List (ByteArray × ByteArray × ByteArray)) : slices_Clone_OwnerEntry.fn N x0 =
    bif x0.isEmpty then
      agree (
        some []) (
        bif decide ((0 + x0.length) * 48 ≤ 140737488355328) && decide ((0 + x0.length) ≤ maxLen) then
          some x0
        else
          none)
    else
    bif decide ((0 + x0.length) * 48 ≤ 140737488355328) && decide ((0 + x0.length) ≤ maxLen) then
      some x0
    else
      none := by kernel_rfl
theorem slices_Clone_OwnerEntry.v (N : Nat) (x0 : List (ByteArray × ByteArray × ByteArray)) (h : x0.length * 48 ≤ 140737488355328) : slices_Clone_OwnerEntry.fn N x0 = some x0 := clone_v (B := 48) (slices_Clone_OwnerEntry.eq N x0) (by omega) h

/-! ### owner_Begin: skyway/owner.Begin -/
theorem f27_enters : Enters Try.prog 27 := ⟨Try.f27, Try.func27, by kernel_rfl, by kernel_rfl⟩
def owner_Begin.kp : List (Nat × List (Nat × Option (TypeId × Ty))) := []
noncomputable def owner_Begin.G (N : Nat) : List (Nat × Spec) := [(8, .pure (owner_Check.S N)), (10, .pure (owner_Name.S N)), (26, .pure (owner_find.S N)), (27, .mac (insM Try.prog 34 (.pair (.str) (.pair (.str) (.str))))), (28, .pure (slices_Clone_OwnerEntry.S N))]
noncomputable def owner_Begin.E (N : Nat) : Env := mkEnv (owner_Begin.G N) N tyTab owner_Begin.kp
noncomputable def owner_Begin.fn (N : Nat) (x : List (ByteArray × ByteArray × ByteArray) × ByteArray × ByteArray) : Option (List (ByteArray × ByteArray × ByteArray) × Int) := evFn (owner_Begin.E N) Try.prog 3 Try.f12 false [.cell (.sl 34 (.pair (.str) (.pair (.str) (.str)))), .cell (.str), .cell (.str)] [.own 34 (.pair (.str) (.pair (.str) (.str))), .val (.cell (.int .i64))] x
noncomputable def owner_Begin.S (N : Nat) : PSpec := ⟨false, [.cell (.sl 34 (.pair (.str) (.pair (.str) (.str)))), .cell (.str), .cell (.str)], [.own 34 (.pair (.str) (.pair (.str) (.str))), .val (.cell (.int .i64))], owner_Begin.fn N⟩
theorem f12_enters : Enters Try.prog 12 := ⟨Try.f12, Try.func12, by kernel_rfl, by kernel_rfl⟩
theorem owner_Begin.tab (N : Nat) : TabOk Try.prog (owner_Begin.G N) := ⟨⟨owner_Check.enters, owner_Check.sound N⟩, ⟨owner_Name.enters, owner_Name.sound N⟩, ⟨owner_find.enters, owner_find.sound N⟩, ⟨f27_enters, ins_sound (T := 22) (by kernel_rfl) Ins27.insC⟩, ⟨slices_Clone_OwnerEntry.enters, slices_Clone_OwnerEntry.sound N⟩, trivial⟩
theorem owner_Begin.enters : Enters Try.prog 12 := f12_enters
theorem owner_Begin.sound (N : Nat) : Sound Try.prog 12 (owner_Begin.S N) := evFn_sound (specs_tab (owner_Begin.tab N)) (inls_tab (owner_Begin.tab N)) mixed 3 Try.func12 _ _ _
theorem owner_Begin.eq (N : Nat) (x0 : List (ByteArray × ByteArray × ByteArray)) (x1 : ByteArray) (x2 : ByteArray) : owner_Begin.fn N (x0, x1, x2) =
    (owner_Check.fn N x0).bind fun r1 =>
    bif !(r1 == 0) then
      some ([], r1)
    else
      (owner_Name.fn N x1).bind fun r2 =>
      bif !(!(!r2)) || (!(!r2)) then
        (bif (!(!r2)) then owner_Name.fn N x2 else some (false)).bind fun r3 =>
        bif !(!(!r2)) || (!(!r2)) then
          bif (!r2) || (!(!r2)) then
            bif (!r2) || (!r3) then
              some ([], 3)
            else
              (owner_find.fn N (x0, x1)).bind fun r4 =>
              bif r4.2 then
                some ([], 7)
              else
              bif (x0.length : Int) == 24 then
                some ([], 9)
              else
                (slices_Clone_OwnerEntry.fn N x0).bind fun r5 =>
                bif (decide (0 ≤ r4.1)) && (decide (r4.1 ≤ (r5.length : Int))) then
                  bif decide ((r5.length + 1) * 48 ≤ 140737488355328) && decide (r5.length + 1 ≤ maxLen) then
                    some (((List.take (Int.toNat r4.1) r5) ++ [(x1, (x2, (⟨#[]⟩ : ByteArray)))] ++ (List.drop (Int.toNat r4.1) r5)), 0)
                  else
                    none
                else
                  none
          else
            none
        else
          none
      else
        none := by kernel_rfl
theorem owner_Begin.clean (N : Nat) (x0 : List (ByteArray × ByteArray × ByteArray)) (x1 : ByteArray) (x2 : ByteArray) : owner_Begin.fn N (x0, x1, x2) =
    (owner_Check.fn N x0).bind fun r1 =>
    bif !(r1 == 0) then
      some ([], r1)
    else
      (owner_Name.fn N x1).bind fun r2 =>
      (bif (!(!r2)) then owner_Name.fn N x2 else some (false)).bind fun r3 =>
      bif (!r2) || (!r3) then
        some ([], 3)
      else
        (owner_find.fn N (x0, x1)).bind fun r4 =>
        bif r4.2 then
          some ([], 7)
        else
        bif (x0.length : Int) == 24 then
          some ([], 9)
        else
          (slices_Clone_OwnerEntry.fn N x0).bind fun r5 =>
          bif (decide (0 ≤ r4.1)) && (decide (r4.1 ≤ (r5.length : Int))) then
            bif decide ((r5.length + 1) * 48 ≤ 140737488355328) && decide (r5.length + 1 ≤ maxLen) then
              some (((List.take (Int.toNat r4.1) r5) ++ [(x1, (x2, (⟨#[]⟩ : ByteArray)))] ++ (List.drop (Int.toNat r4.1) r5)), 0)
            else
              none
          else
            none := by
  rw [owner_Begin.eq]; simp only [taut11, taut17, cond_true]

/-! ### owner_at: skyway/owner.at -/
def owner_at.kp : List (Nat × List (Nat × Option (TypeId × Ty))) := []
noncomputable def owner_at.G (N : Nat) : List (Nat × Spec) := [(8, .pure (owner_Check.S N)), (26, .pure (owner_find.S N))]
noncomputable def owner_at.E (N : Nat) : Env := mkEnv (owner_at.G N) N tyTab owner_at.kp
noncomputable def owner_at.fn (N : Nat) (x : List (ByteArray × ByteArray × ByteArray) × ByteArray) : Option (Int × Int) := evFn (owner_at.E N) Try.prog 3 Try.f29 false [.cell (.sl 34 (.pair (.str) (.pair (.str) (.str)))), .cell (.str)] [.val (.cell (.int .i64)), .val (.cell (.int .i64))] x
noncomputable def owner_at.S (N : Nat) : PSpec := ⟨false, [.cell (.sl 34 (.pair (.str) (.pair (.str) (.str)))), .cell (.str)], [.val (.cell (.int .i64)), .val (.cell (.int .i64))], owner_at.fn N⟩
theorem f29_enters : Enters Try.prog 29 := ⟨Try.f29, Try.func29, by kernel_rfl, by kernel_rfl⟩
theorem owner_at.tab (N : Nat) : TabOk Try.prog (owner_at.G N) := ⟨⟨owner_Check.enters, owner_Check.sound N⟩, ⟨owner_find.enters, owner_find.sound N⟩, trivial⟩
theorem owner_at.enters : Enters Try.prog 29 := f29_enters
theorem owner_at.sound (N : Nat) : Sound Try.prog 29 (owner_at.S N) := evFn_sound (specs_tab (owner_at.tab N)) (inls_tab (owner_at.tab N)) mixed 3 Try.func29 _ _ _
theorem owner_at.eq (N : Nat) (x0 : List (ByteArray × ByteArray × ByteArray)) (x1 : ByteArray) : owner_at.fn N (x0, x1) =
    (owner_Check.fn N x0).bind fun r1 =>
    bif !(r1 == 0) then
      some (0, r1)
    else
      (owner_find.fn N (x0, x1)).bind fun r2 =>
      bif !r2.2 then
        some (0, 8)
      else
        some (r2.1, 0) := by kernel_rfl

/-! ### owner_changed: skyway/owner.changed -/
def owner_changed.kp : List (Nat × List (Nat × Option (TypeId × Ty))) := []
noncomputable def owner_changed.G (N : Nat) : List (Nat × Spec) := [(28, .pure (slices_Clone_OwnerEntry.S N))]
noncomputable def owner_changed.E (N : Nat) : Env := mkEnv (owner_changed.G N) N tyTab owner_changed.kp
noncomputable def owner_changed.fn (N : Nat) (x : List (ByteArray × ByteArray × ByteArray) × Int × ByteArray × ByteArray × ByteArray) : Option (List (ByteArray × ByteArray × ByteArray)) := evFn (owner_changed.E N) Try.prog 3 Try.f31 false [.cell (.sl 34 (.pair (.str) (.pair (.str) (.str)))), .cell (.int .i64), .agg (.pair (.str) (.pair (.str) (.str)))] [.own 34 (.pair (.str) (.pair (.str) (.str)))] x
noncomputable def owner_changed.S (N : Nat) : PSpec := ⟨false, [.cell (.sl 34 (.pair (.str) (.pair (.str) (.str)))), .cell (.int .i64), .agg (.pair (.str) (.pair (.str) (.str)))], [.own 34 (.pair (.str) (.pair (.str) (.str)))], owner_changed.fn N⟩
theorem f31_enters : Enters Try.prog 31 := ⟨Try.f31, Try.func31, by kernel_rfl, by kernel_rfl⟩
theorem owner_changed.tab (N : Nat) : TabOk Try.prog (owner_changed.G N) := ⟨⟨slices_Clone_OwnerEntry.enters, slices_Clone_OwnerEntry.sound N⟩, trivial⟩
theorem owner_changed.enters : Enters Try.prog 31 := f31_enters
theorem owner_changed.sound (N : Nat) : Sound Try.prog 31 (owner_changed.S N) := evFn_sound (specs_tab (owner_changed.tab N)) (inls_tab (owner_changed.tab N)) mixed 3 Try.func31 _ _ _
theorem owner_changed.eq (N : Nat) (x0 : List (ByteArray × ByteArray × ByteArray)) (x1 : Int) (x2 : ByteArray × ByteArray × ByteArray) : owner_changed.fn N (x0, x1, x2) =
    (slices_Clone_OwnerEntry.fn N x0).bind fun r1 =>
    bif (decide (0 ≤ x1)) && (decide (x1 < (r1.length : Int))) then
      bif decide ((Int.toNat x1) < r1.length) then
        some (List.set r1 (Int.toNat x1) x2)
      else
        none
    else
      none := by kernel_rfl

/-! ### owner_Offer: skyway/owner.Offer -/
def owner_Offer.kp : List (Nat × List (Nat × Option (TypeId × Ty))) := []
noncomputable def owner_Offer.G (N : Nat) : List (Nat × Spec) := [(10, .pure (owner_Name.S N)), (29, .pure (owner_at.S N)), (31, .pure (owner_changed.S N))]
noncomputable def owner_Offer.E (N : Nat) : Env := mkEnv (owner_Offer.G N) N tyTab owner_Offer.kp
noncomputable def owner_Offer.fn (N : Nat) (x : List (ByteArray × ByteArray × ByteArray) × ByteArray × ByteArray × ByteArray) : Option (List (ByteArray × ByteArray × ByteArray) × Int) := evFn (owner_Offer.E N) Try.prog 3 Try.f14 false [.cell (.sl 34 (.pair (.str) (.pair (.str) (.str)))), .cell (.str), .cell (.str), .cell (.str)] [.own 34 (.pair (.str) (.pair (.str) (.str))), .val (.cell (.int .i64))] x
noncomputable def owner_Offer.S (N : Nat) : PSpec := ⟨false, [.cell (.sl 34 (.pair (.str) (.pair (.str) (.str)))), .cell (.str), .cell (.str), .cell (.str)], [.own 34 (.pair (.str) (.pair (.str) (.str))), .val (.cell (.int .i64))], owner_Offer.fn N⟩
theorem f14_enters : Enters Try.prog 14 := ⟨Try.f14, Try.func14, by kernel_rfl, by kernel_rfl⟩
theorem owner_Offer.tab (N : Nat) : TabOk Try.prog (owner_Offer.G N) := ⟨⟨owner_Name.enters, owner_Name.sound N⟩, ⟨owner_at.enters, owner_at.sound N⟩, ⟨owner_changed.enters, owner_changed.sound N⟩, trivial⟩
theorem owner_Offer.enters : Enters Try.prog 14 := f14_enters
theorem owner_Offer.sound (N : Nat) : Sound Try.prog 14 (owner_Offer.S N) := evFn_sound (specs_tab (owner_Offer.tab N)) (inls_tab (owner_Offer.tab N)) mixed 3 Try.func14 _ _ _
theorem owner_Offer.eq (N : Nat) (x0 : List (ByteArray × ByteArray × ByteArray)) (x1 : ByteArray) (x2 : ByteArray) (x3 : ByteArray) : owner_Offer.fn N (x0, x1, x2, x3) =
    (owner_at.fn N (x0, x1)).bind fun r1 =>
    bif !(r1.2 == 0) then
      some ([], r1.2)
    else
    bif (decide (0 ≤ r1.1)) && (decide (r1.1 < (x0.length : Int))) then
      bif !(seq (((List.getD x0 (Int.toNat r1.1) ((⟨#[]⟩ : ByteArray), ((⟨#[]⟩ : ByteArray), (⟨#[]⟩ : ByteArray)))).2).1) x2) then
        some ([], 16)
      else
      bif !(seq (((List.getD x0 (Int.toNat r1.1) ((⟨#[]⟩ : ByteArray), ((⟨#[]⟩ : ByteArray), (⟨#[]⟩ : ByteArray)))).2).2) (⟨#[]⟩ : ByteArray)) then
        some ([], 11)
      else
        (owner_Name.fn N x3).bind fun r2 =>
        bif !r2 then
          some ([], 3)
        else
        bif seq x3 x2 then
          some ([], 1)
        else
          (owner_changed.fn N (x0, r1.1, ((List.getD x0 (Int.toNat r1.1) ((⟨#[]⟩ : ByteArray), ((⟨#[]⟩ : ByteArray), (⟨#[]⟩ : ByteArray)))).1, (((List.getD x0 (Int.toNat r1.1) ((⟨#[]⟩ : ByteArray), ((⟨#[]⟩ : ByteArray), (⟨#[]⟩ : ByteArray)))).2).1, x3)))).bind fun r3 =>
          some (r3, 0)
    else
      none := by kernel_rfl

/-! ### owner_Accept: skyway/owner.Accept -/
def owner_Accept.kp : List (Nat × List (Nat × Option (TypeId × Ty))) := []
noncomputable def owner_Accept.G (N : Nat) : List (Nat × Spec) := [(29, .pure (owner_at.S N)), (31, .pure (owner_changed.S N))]
noncomputable def owner_Accept.E (N : Nat) : Env := mkEnv (owner_Accept.G N) N tyTab owner_Accept.kp
noncomputable def owner_Accept.fn (N : Nat) (x : List (ByteArray × ByteArray × ByteArray) × ByteArray × ByteArray) : Option (List (ByteArray × ByteArray × ByteArray) × Int) := evFn (owner_Accept.E N) Try.prog 3 Try.f15 false [.cell (.sl 34 (.pair (.str) (.pair (.str) (.str)))), .cell (.str), .cell (.str)] [.own 34 (.pair (.str) (.pair (.str) (.str))), .val (.cell (.int .i64))] x
noncomputable def owner_Accept.S (N : Nat) : PSpec := ⟨false, [.cell (.sl 34 (.pair (.str) (.pair (.str) (.str)))), .cell (.str), .cell (.str)], [.own 34 (.pair (.str) (.pair (.str) (.str))), .val (.cell (.int .i64))], owner_Accept.fn N⟩
theorem f15_enters : Enters Try.prog 15 := ⟨Try.f15, Try.func15, by kernel_rfl, by kernel_rfl⟩
theorem owner_Accept.tab (N : Nat) : TabOk Try.prog (owner_Accept.G N) := ⟨⟨owner_at.enters, owner_at.sound N⟩, ⟨owner_changed.enters, owner_changed.sound N⟩, trivial⟩
theorem owner_Accept.enters : Enters Try.prog 15 := f15_enters
theorem owner_Accept.sound (N : Nat) : Sound Try.prog 15 (owner_Accept.S N) := evFn_sound (specs_tab (owner_Accept.tab N)) (inls_tab (owner_Accept.tab N)) mixed 3 Try.func15 _ _ _
theorem owner_Accept.eq (N : Nat) (x0 : List (ByteArray × ByteArray × ByteArray)) (x1 : ByteArray) (x2 : ByteArray) : owner_Accept.fn N (x0, x1, x2) =
    (owner_at.fn N (x0, x1)).bind fun r1 =>
    bif !(r1.2 == 0) then
      some ([], r1.2)
    else
    bif (decide (0 ≤ r1.1)) && (decide (r1.1 < (x0.length : Int))) then
      bif seq (((List.getD x0 (Int.toNat r1.1) ((⟨#[]⟩ : ByteArray), ((⟨#[]⟩ : ByteArray), (⟨#[]⟩ : ByteArray)))).2).2) (⟨#[]⟩ : ByteArray) then
        some ([], 11)
      else
      bif !(seq (((List.getD x0 (Int.toNat r1.1) ((⟨#[]⟩ : ByteArray), ((⟨#[]⟩ : ByteArray), (⟨#[]⟩ : ByteArray)))).2).2) x2) then
        some ([], 16)
      else
        (owner_changed.fn N (x0, r1.1, (x1, (x2, (⟨#[]⟩ : ByteArray))))).bind fun r2 =>
        some (r2, 0)
    else
      none := by kernel_rfl

/-! ### owner_Cancel: skyway/owner.Cancel -/
def owner_Cancel.kp : List (Nat × List (Nat × Option (TypeId × Ty))) := []
noncomputable def owner_Cancel.G (N : Nat) : List (Nat × Spec) := [(29, .pure (owner_at.S N)), (31, .pure (owner_changed.S N))]
noncomputable def owner_Cancel.E (N : Nat) : Env := mkEnv (owner_Cancel.G N) N tyTab owner_Cancel.kp
noncomputable def owner_Cancel.fn (N : Nat) (x : List (ByteArray × ByteArray × ByteArray) × ByteArray × ByteArray) : Option (List (ByteArray × ByteArray × ByteArray) × Int) := evFn (owner_Cancel.E N) Try.prog 3 Try.f16 false [.cell (.sl 34 (.pair (.str) (.pair (.str) (.str)))), .cell (.str), .cell (.str)] [.own 34 (.pair (.str) (.pair (.str) (.str))), .val (.cell (.int .i64))] x
noncomputable def owner_Cancel.S (N : Nat) : PSpec := ⟨false, [.cell (.sl 34 (.pair (.str) (.pair (.str) (.str)))), .cell (.str), .cell (.str)], [.own 34 (.pair (.str) (.pair (.str) (.str))), .val (.cell (.int .i64))], owner_Cancel.fn N⟩
theorem f16_enters : Enters Try.prog 16 := ⟨Try.f16, Try.func16, by kernel_rfl, by kernel_rfl⟩
theorem owner_Cancel.tab (N : Nat) : TabOk Try.prog (owner_Cancel.G N) := ⟨⟨owner_at.enters, owner_at.sound N⟩, ⟨owner_changed.enters, owner_changed.sound N⟩, trivial⟩
theorem owner_Cancel.enters : Enters Try.prog 16 := f16_enters
theorem owner_Cancel.sound (N : Nat) : Sound Try.prog 16 (owner_Cancel.S N) := evFn_sound (specs_tab (owner_Cancel.tab N)) (inls_tab (owner_Cancel.tab N)) mixed 3 Try.func16 _ _ _
theorem owner_Cancel.eq (N : Nat) (x0 : List (ByteArray × ByteArray × ByteArray)) (x1 : ByteArray) (x2 : ByteArray) : owner_Cancel.fn N (x0, x1, x2) =
    (owner_at.fn N (x0, x1)).bind fun r1 =>
    bif !(r1.2 == 0) then
      some ([], r1.2)
    else
    bif (decide (0 ≤ r1.1)) && (decide (r1.1 < (x0.length : Int))) then
      bif seq (((List.getD x0 (Int.toNat r1.1) ((⟨#[]⟩ : ByteArray), ((⟨#[]⟩ : ByteArray), (⟨#[]⟩ : ByteArray)))).2).2) (⟨#[]⟩ : ByteArray) then
        some ([], 11)
      else
      bif !(!(seq (((List.getD x0 (Int.toNat r1.1) ((⟨#[]⟩ : ByteArray), ((⟨#[]⟩ : ByteArray), (⟨#[]⟩ : ByteArray)))).2).1) x2)) || (!(seq (((List.getD x0 (Int.toNat r1.1) ((⟨#[]⟩ : ByteArray), ((⟨#[]⟩ : ByteArray), (⟨#[]⟩ : ByteArray)))).2).1) x2)) then
        bif !(!(seq (((List.getD x0 (Int.toNat r1.1) ((⟨#[]⟩ : ByteArray), ((⟨#[]⟩ : ByteArray), (⟨#[]⟩ : ByteArray)))).2).1) x2)) || (!(seq (((List.getD x0 (Int.toNat r1.1) ((⟨#[]⟩ : ByteArray), ((⟨#[]⟩ : ByteArray), (⟨#[]⟩ : ByteArray)))).2).1) x2)) then
          bif !(!(seq (((List.getD x0 (Int.toNat r1.1) ((⟨#[]⟩ : ByteArray), ((⟨#[]⟩ : ByteArray), (⟨#[]⟩ : ByteArray)))).2).1) x2)) || (!(seq (((List.getD x0 (Int.toNat r1.1) ((⟨#[]⟩ : ByteArray), ((⟨#[]⟩ : ByteArray), (⟨#[]⟩ : ByteArray)))).2).1) x2)) then
            bif (!(!(seq (((List.getD x0 (Int.toNat r1.1) ((⟨#[]⟩ : ByteArray), ((⟨#[]⟩ : ByteArray), (⟨#[]⟩ : ByteArray)))).2).1) x2))) || (!(seq (((List.getD x0 (Int.toNat r1.1) ((⟨#[]⟩ : ByteArray), ((⟨#[]⟩ : ByteArray), (⟨#[]⟩ : ByteArray)))).2).1) x2)) then
              bif (!(seq (((List.getD x0 (Int.toNat r1.1) ((⟨#[]⟩ : ByteArray), ((⟨#[]⟩ : ByteArray), (⟨#[]⟩ : ByteArray)))).2).1) x2)) && (!(seq (((List.getD x0 (Int.toNat r1.1) ((⟨#[]⟩ : ByteArray), ((⟨#[]⟩ : ByteArray), (⟨#[]⟩ : ByteArray)))).2).2) x2)) then
                some ([], 16)
              else
                (owner_changed.fn N (x0, r1.1, ((List.getD x0 (Int.toNat r1.1) ((⟨#[]⟩ : ByteArray), ((⟨#[]⟩ : ByteArray), (⟨#[]⟩ : ByteArray)))).1, (((List.getD x0 (Int.toNat r1.1) ((⟨#[]⟩ : ByteArray), ((⟨#[]⟩ : ByteArray), (⟨#[]⟩ : ByteArray)))).2).1, (⟨#[]⟩ : ByteArray))))).bind fun r2 =>
                some (r2, 0)
            else
              none
          else
            none
        else
          none
      else
        none
    else
      none := by kernel_rfl
theorem taut19 : ∀ p0 : Bool, (((!(!(p0))) || (!(p0)))) = true := by decide
theorem owner_Cancel.clean (N : Nat) (x0 : List (ByteArray × ByteArray × ByteArray)) (x1 : ByteArray) (x2 : ByteArray) : owner_Cancel.fn N (x0, x1, x2) =
    (owner_at.fn N (x0, x1)).bind fun r1 =>
    bif !(r1.2 == 0) then
      some ([], r1.2)
    else
    bif (decide (0 ≤ r1.1)) && (decide (r1.1 < (x0.length : Int))) then
      bif seq (((List.getD x0 (Int.toNat r1.1) ((⟨#[]⟩ : ByteArray), ((⟨#[]⟩ : ByteArray), (⟨#[]⟩ : ByteArray)))).2).2) (⟨#[]⟩ : ByteArray) then
        some ([], 11)
      else
      bif (!(seq (((List.getD x0 (Int.toNat r1.1) ((⟨#[]⟩ : ByteArray), ((⟨#[]⟩ : ByteArray), (⟨#[]⟩ : ByteArray)))).2).1) x2)) && (!(seq (((List.getD x0 (Int.toNat r1.1) ((⟨#[]⟩ : ByteArray), ((⟨#[]⟩ : ByteArray), (⟨#[]⟩ : ByteArray)))).2).2) x2)) then
        some ([], 16)
      else
        (owner_changed.fn N (x0, r1.1, ((List.getD x0 (Int.toNat r1.1) ((⟨#[]⟩ : ByteArray), ((⟨#[]⟩ : ByteArray), (⟨#[]⟩ : ByteArray)))).1, (((List.getD x0 (Int.toNat r1.1) ((⟨#[]⟩ : ByteArray), ((⟨#[]⟩ : ByteArray), (⟨#[]⟩ : ByteArray)))).2).1, (⟨#[]⟩ : ByteArray))))).bind fun r2 =>
        some (r2, 0)
    else
      none := by
  rw [owner_Cancel.eq]; simp only [taut1, taut19, cond_true]

/-! ### owner_Of: skyway/owner.Of -/
def owner_Of.kp : List (Nat × List (Nat × Option (TypeId × Ty))) := []
noncomputable def owner_Of.G (N : Nat) : List (Nat × Spec) := [(29, .pure (owner_at.S N))]
noncomputable def owner_Of.E (N : Nat) : Env := mkEnv (owner_Of.G N) N tyTab owner_Of.kp
noncomputable def owner_Of.fn (N : Nat) (x : List (ByteArray × ByteArray × ByteArray) × ByteArray) : Option (ByteArray × Int) := evFn (owner_Of.E N) Try.prog 3 Try.f19 false [.cell (.sl 34 (.pair (.str) (.pair (.str) (.str)))), .cell (.str)] [.val (.cell (.str)), .val (.cell (.int .i64))] x
noncomputable def owner_Of.S (N : Nat) : PSpec := ⟨false, [.cell (.sl 34 (.pair (.str) (.pair (.str) (.str)))), .cell (.str)], [.val (.cell (.str)), .val (.cell (.int .i64))], owner_Of.fn N⟩
theorem f19_enters : Enters Try.prog 19 := ⟨Try.f19, Try.func19, by kernel_rfl, by kernel_rfl⟩
theorem owner_Of.tab (N : Nat) : TabOk Try.prog (owner_Of.G N) := ⟨⟨owner_at.enters, owner_at.sound N⟩, trivial⟩
theorem owner_Of.enters : Enters Try.prog 19 := f19_enters
theorem owner_Of.sound (N : Nat) : Sound Try.prog 19 (owner_Of.S N) := evFn_sound (specs_tab (owner_Of.tab N)) (inls_tab (owner_Of.tab N)) mixed 3 Try.func19 _ _ _
theorem owner_Of.eq (N : Nat) (x0 : List (ByteArray × ByteArray × ByteArray)) (x1 : ByteArray) : owner_Of.fn N (x0, x1) =
    (owner_at.fn N (x0, x1)).bind fun r1 =>
    bif !(r1.2 == 0) then
      some ((⟨#[]⟩ : ByteArray), r1.2)
    else
    bif (decide (0 ≤ r1.1)) && (decide (r1.1 < (x0.length : Int))) then
      some (((List.getD x0 (Int.toNat r1.1) ((⟨#[]⟩ : ByteArray), ((⟨#[]⟩ : ByteArray), (⟨#[]⟩ : ByteArray)))).2).1, 0)
    else
      none := by kernel_rfl

/-! ### owner_Flights: skyway/owner.Flights -/
def owner_Flights.kp : List (Nat × List (Nat × Option (TypeId × Ty))) := [(6, [(1, none), (7, some (9, .str)), (15, none), (16, none), (17, none)])]
noncomputable def owner_Flights.G (N : Nat) : List (Nat × Spec) := [(8, .pure (owner_Check.S N))]
noncomputable def owner_Flights.E (N : Nat) : Env := mkEnv (owner_Flights.G N) N tyTab owner_Flights.kp
noncomputable def owner_Flights.fn (N : Nat) (x : List (ByteArray × ByteArray × ByteArray) × ByteArray) : Option (List ByteArray × Int) := evFn (owner_Flights.E N) Try.prog 3 Try.f20 false [.cell (.sl 34 (.pair (.str) (.pair (.str) (.str)))), .cell (.str)] [.own 9 (.str), .val (.cell (.int .i64))] x
noncomputable def owner_Flights.S (N : Nat) : PSpec := ⟨false, [.cell (.sl 34 (.pair (.str) (.pair (.str) (.str)))), .cell (.str)], [.own 9 (.str), .val (.cell (.int .i64))], owner_Flights.fn N⟩
theorem f20_enters : Enters Try.prog 20 := ⟨Try.f20, Try.func20, by kernel_rfl, by kernel_rfl⟩
theorem owner_Flights.tab (N : Nat) : TabOk Try.prog (owner_Flights.G N) := ⟨⟨owner_Check.enters, owner_Check.sound N⟩, trivial⟩
theorem owner_Flights.enters : Enters Try.prog 20 := f20_enters
theorem owner_Flights.sound (N : Nat) : Sound Try.prog 20 (owner_Flights.S N) := evFn_sound (specs_tab (owner_Flights.tab N)) (inls_tab (owner_Flights.tab N)) mixed 3 Try.func20 _ _ _
noncomputable def owner_Flights.cd (N : Nat) (p : List Nat) : St → (Ex → St → Option (List ByteArray × Int)) → Option (List ByteArray × Int) := ev (owner_Flights.E N) Try.prog (callD (owner_Flights.E N) Try.prog 3) 0 (codeAt (bodyOf Try.f20) p)
noncomputable def owner_Flights.fin : Ex → St → Option (List ByteArray × Int) := endK Try.prog Try.f20 [.own 9 (.str), .val (.cell (.int .i64))]
noncomputable def owner_Flights.l0 (N : Nat) (x0 : List (ByteArray × ByteArray × ByteArray)) (x1 : ByteArray) (k2 : Nat) (a3 : Int) (a4 : List ByteArray) : Option (List ByteArray × Int) :=
  loopN (norm ((owner_Flights.E N).keep 6) 0) (owner_Flights.cd N [1, 1, 1, 0, 1, 0, 0]) k2
  ⟨[.any, .sc (.string x1), .any, .any, .any, .any, .any, .own 0, .any, .any, .any, .any, .any, .any, .any, .ros false 34 (.pair (.str) (.pair (.str) (.str))) x0, .sc (.int .i64 (x0.length : Int)), .sc (.int .i64 a3), .any, .any, .any, .any, .any, .any, .any, .any, .any, .any, .any, .any, .any, .any], [.rows true 9 (.str) a4]⟩
  (blockK 0 (seqK (owner_Flights.cd N [1, 1, 1, 1]) owner_Flights.fin))
theorem owner_Flights.l0_zero (N : Nat) (x0 : List (ByteArray × ByteArray × ByteArray)) (x1 : ByteArray) (a3 : Int) (a4 : List ByteArray) : owner_Flights.l0 N x0 x1 0 a3 a4 = none := by kernel_rfl
theorem owner_Flights.l0_succ (N : Nat) (x0 : List (ByteArray × ByteArray × ByteArray)) (x1 : ByteArray) (k2 : Nat) (a3 : Int) (a4 : List ByteArray) : owner_Flights.l0 N x0 x1 (k2 + 1) a3 a4 =
    bif decide (a3 < (x0.length : Int)) then
      bif (decide (0 ≤ a3)) && (decide (a3 < (x0.length : Int))) then
        bif seq (((List.getD x0 (Int.toNat a3) ((⟨#[]⟩ : ByteArray), ((⟨#[]⟩ : ByteArray), (⟨#[]⟩ : ByteArray)))).2).1) x1 then
          bif decide ((a4.length + 1) * 16 ≤ 140737488355328) && decide ((a4.length + 1) ≤ maxLen) then
            owner_Flights.l0 N x0 x1 k2 (w (a3 + 1)) (a4 ++ [(List.getD x0 (Int.toNat a3) ((⟨#[]⟩ : ByteArray), ((⟨#[]⟩ : ByteArray), (⟨#[]⟩ : ByteArray)))).1])
          else
            none
        else
          owner_Flights.l0 N x0 x1 k2 (w (a3 + 1)) a4
      else
        none
    else
      some (a4, 0) := by kernel_rfl
theorem owner_Flights.l0_cons (N : Nat) (x0 : List (ByteArray × ByteArray × ByteArray)) (x1 : ByteArray) (k2 : Nat) (a4 : List ByteArray) {pre r} {x} (hl : x0 = pre ++ x :: r) (hb : x0.length < 4611686018427387904) : owner_Flights.l0 N x0 x1 (k2 + 1) (pre.length : Int) a4 =
    bif seq ((x.2).1) x1 then
      bif decide ((a4.length + 1) * 16 ≤ 140737488355328) && decide ((a4.length + 1) ≤ maxLen) then
        owner_Flights.l0 N x0 x1 k2 ((pre.length : Int) + 1) (a4 ++ [x.1])
      else
        none
    else
      owner_Flights.l0 N x0 x1 k2 ((pre.length : Int) + 1) a4 := by
  have hlen : x0.length = pre.length + 1 + r.length := by rw [hl]; simp; omega
  have e1 : decide ((pre.length : Int) < (x0.length : Int)) = true := by rw [decide_eq_true_iff]; omega
  have e2 : decide (0 ≤ (pre.length : Int)) = true := by rw [decide_eq_true_iff]; omega
  have e4 : w ((pre.length : Int) + 1) = (pre.length : Int) + 1 := w_next hl hb
  have e5 : List.take pre.length x0 = pre := by rw [hl]; simp
  have e6 : decide ((pre.length : Int) ≤ (x0.length : Int)) = true := by rw [decide_eq_true_iff]; omega
  have g0 : List.getD x0 pre.length ((⟨#[]⟩ : ByteArray), ((⟨#[]⟩ : ByteArray), (⟨#[]⟩ : ByteArray))) = x := by rw [hl]; exact getD_mid pre x r _
  rw [owner_Flights.l0_succ]
  simp -implicitDefEqProofs only [Int.toNat_natCast, e1, e2, e4, e6, g0, e5, Bool.and_true, Bool.true_and, Bool.true_or, cond_true]
theorem owner_Flights.l0_nil (N : Nat) (x0 : List (ByteArray × ByteArray × ByteArray)) (x1 : ByteArray) (k2 : Nat) (a4 : List ByteArray) : owner_Flights.l0 N x0 x1 (k2 + 1) (x0.length : Int) a4 =
    some (a4, 0) := by
  have e1 : decide ((x0.length : Int) < (x0.length : Int)) = false := by rw [decide_eq_false_iff_not]; omega
  rw [owner_Flights.l0_succ]
  simp -implicitDefEqProofs only [e1, cond_false]
theorem owner_Flights.eq (N : Nat) (x0 : List (ByteArray × ByteArray × ByteArray)) (x1 : ByteArray) : owner_Flights.fn N (x0, x1) =
    (owner_Check.fn N x0).bind fun r1 =>
    bif !(r1 == 0) then
      some ([], r1)
    else
      owner_Flights.l0 N x0 x1 N 0 [] := by kernel_rfl

/-! ### owner_Move: skyway/owner.Move -/
def owner_Move.kp : List (Nat × List (Nat × Option (TypeId × Ty))) := [(8, [(1, none), (2, none), (9, none), (28, none), (29, none)]), (1000013, [(1, none), (2, none), (9, none), (11, none), (28, none), (29, none)])]
noncomputable def owner_Move.G (N : Nat) : List (Nat × Spec) := [(8, .pure (owner_Check.S N)), (10, .pure (owner_Name.S N)), (28, .pure (slices_Clone_OwnerEntry.S N))]
noncomputable def owner_Move.E (N : Nat) : Env := mkEnv (owner_Move.G N) N tyTab owner_Move.kp
noncomputable def owner_Move.fn (N : Nat) (x : List (ByteArray × ByteArray × ByteArray) × ByteArray × ByteArray) : Option (List (ByteArray × ByteArray × ByteArray) × Int) := evFn (owner_Move.E N) Try.prog 3 Try.f23 false [.cell (.sl 34 (.pair (.str) (.pair (.str) (.str)))), .cell (.str), .cell (.str)] [.own 34 (.pair (.str) (.pair (.str) (.str))), .val (.cell (.int .i64))] x
noncomputable def owner_Move.S (N : Nat) : PSpec := ⟨false, [.cell (.sl 34 (.pair (.str) (.pair (.str) (.str)))), .cell (.str), .cell (.str)], [.own 34 (.pair (.str) (.pair (.str) (.str))), .val (.cell (.int .i64))], owner_Move.fn N⟩
theorem f23_enters : Enters Try.prog 23 := ⟨Try.f23, Try.func23, by kernel_rfl, by kernel_rfl⟩
theorem owner_Move.tab (N : Nat) : TabOk Try.prog (owner_Move.G N) := ⟨⟨owner_Check.enters, owner_Check.sound N⟩, ⟨owner_Name.enters, owner_Name.sound N⟩, ⟨slices_Clone_OwnerEntry.enters, slices_Clone_OwnerEntry.sound N⟩, trivial⟩
theorem owner_Move.enters : Enters Try.prog 23 := f23_enters
theorem owner_Move.sound (N : Nat) : Sound Try.prog 23 (owner_Move.S N) := evFn_sound (specs_tab (owner_Move.tab N)) (inls_tab (owner_Move.tab N)) mixed 3 Try.func23 _ _ _
noncomputable def owner_Move.cd (N : Nat) (p : List Nat) : St → (Ex → St → Option (List (ByteArray × ByteArray × ByteArray) × Int)) → Option (List (ByteArray × ByteArray × ByteArray) × Int) := ev (owner_Move.E N) Try.prog (callD (owner_Move.E N) Try.prog 3) 0 (codeAt (bodyOf Try.f23) p)
noncomputable def owner_Move.fin : Ex → St → Option (List (ByteArray × ByteArray × ByteArray) × Int) := endK Try.prog Try.f23 [.own 34 (.pair (.str) (.pair (.str) (.str))), .val (.cell (.int .i64))]
noncomputable def owner_Move.l0 (N : Nat) (x1 : ByteArray) (x2 : ByteArray) (r4 : List (ByteArray × ByteArray × ByteArray)) (k5 : Nat) (a6 : Int) (a7 : List (ByteArray × ByteArray × ByteArray)) : Option (List (ByteArray × ByteArray × ByteArray) × Int) :=
  loopN (norm ((owner_Move.E N).keep 8) 0) (owner_Move.cd N [1, 1, 1, 1, 0, 1, 0, 0]) k5
  ⟨[.any, .sc (.string x1), .sc (.string x2), .any, .any, .any, .any, .any, .any, .own 0, .any, .any, .any, .any, .any, .any, .any, .any, .any, .any, .any, .any, .any, .any, .any, .any, .any, .any, .sc (.int .i64 (r4.length : Int)), .sc (.int .i64 a6), .any, .any, .any, .any, .any, .any, .any, .any, .any, .any, .any, .any, .any, .any, .any, .any, .any, .any, .any, .any, .any, .any, .any, .any, .any, .any, .any, .any, .any, .any, .any, .any, .any, .any, .any, .any, .any, .any, .any], [.rows true 34 (.pair (.str) (.pair (.str) (.str))) a7]⟩
  (blockK 0 (seqK (owner_Move.cd N [1, 1, 1, 1, 1]) owner_Move.fin))
noncomputable def owner_Move.j1 (N : Nat) (x1 : ByteArray) (x2 : ByteArray) (r4 : List (ByteArray × ByteArray × ByteArray)) (k5 : Nat) (a6 : Int) (a8 : List (ByteArray × ByteArray × ByteArray)) : Option (List (ByteArray × ByteArray × ByteArray) × Int) :=
  fuelK N (region (owner_Move.E N) Try.prog (callD (owner_Move.E N) Try.prog 3) (opsAt (codeAt (bodyOf Try.f23) [1, 1, 1, 1, 0, 1, 0, 0, 1, 1, 0, 0, 1, 1, 1, 0, 0])) false
  ⟨[.any, .sc (.string x1), .sc (.string x2), .any, .any, .any, .any, .any, .any, .own 0, .any, .rptr 0 (Int.toNat a6) 0, .any, .any, .any, .any, .any, .any, .any, .any, .any, .any, .any, .any, .any, .any, .any, .any, .sc (.int .i64 (r4.length : Int)), .sc (.int .i64 a6), .any, .any, .any, .any, .any, .any, .any, .any, .any, .any, .any, .any, .any, .any, .any, .any, .any, .any, .any, .any, .any, .any, .any, .any, .any, .any, .any, .any, .any, .any, .any, .any, .any, .any, .any, .any, .any, .any, .any], [.rows true 34 (.pair (.str) (.pair (.str) (.str))) a8]⟩
  (fun S => (seqK (owner_Move.cd N [1, 1, 1, 1, 0, 1, 0, 0, 1, 1, 0, 0, 1, 1, 1, 0, 1]) (seqK (owner_Move.cd N [1, 1, 1, 1, 0, 1, 0, 0, 1, 1, 0, 0, 1, 1, 1, 1]) (blockK 1 (seqK (owner_Move.cd N [1, 1, 1, 1, 0, 1, 0, 0, 1, 1, 1]) (loopK (norm ((owner_Move.E N).keep 8) 0) (owner_Move.cd N [1, 1, 1, 1, 0, 1, 0, 0]) k5 (blockK 0 (seqK (owner_Move.cd N [1, 1, 1, 1, 1]) owner_Move.fin))))))) .normal S))
theorem owner_Move.j1_eq (N : Nat) (x1 : ByteArray) (x2 : ByteArray) (r4 : List (ByteArray × ByteArray × ByteArray)) (k5 : Nat) (a6 : Int) (a8 : List (ByteArray × ByteArray × ByteArray)) {M : Nat} (hM : N = M + 1) : owner_Move.j1 N x1 x2 r4 k5 a6 a8 =
    bif decide ((Int.toNat a6) < a8.length) then
      bif seq (((List.getD a8 (Int.toNat a6) ((⟨#[]⟩ : ByteArray), ((⟨#[]⟩ : ByteArray), (⟨#[]⟩ : ByteArray)))).2).2) x1 then
        bif decide ((Int.toNat a6) < a8.length) then
          bif decide ((Int.toNat a6) < (List.set a8 (Int.toNat a6) ((List.getD a8 (Int.toNat a6) ((⟨#[]⟩ : ByteArray), ((⟨#[]⟩ : ByteArray), (⟨#[]⟩ : ByteArray)))).1, (((List.getD a8 (Int.toNat a6) ((⟨#[]⟩ : ByteArray), ((⟨#[]⟩ : ByteArray), (⟨#[]⟩ : ByteArray)))).2).1, x2))).length) then
            bif decide ((Int.toNat a6) < (List.set a8 (Int.toNat a6) ((List.getD a8 (Int.toNat a6) ((⟨#[]⟩ : ByteArray), ((⟨#[]⟩ : ByteArray), (⟨#[]⟩ : ByteArray)))).1, (((List.getD a8 (Int.toNat a6) ((⟨#[]⟩ : ByteArray), ((⟨#[]⟩ : ByteArray), (⟨#[]⟩ : ByteArray)))).2).1, x2))).length) then
              bif seq (((List.getD (List.set a8 (Int.toNat a6) ((List.getD a8 (Int.toNat a6) ((⟨#[]⟩ : ByteArray), ((⟨#[]⟩ : ByteArray), (⟨#[]⟩ : ByteArray)))).1, (((List.getD a8 (Int.toNat a6) ((⟨#[]⟩ : ByteArray), ((⟨#[]⟩ : ByteArray), (⟨#[]⟩ : ByteArray)))).2).1, x2))) (Int.toNat a6) ((⟨#[]⟩ : ByteArray), ((⟨#[]⟩ : ByteArray), (⟨#[]⟩ : ByteArray)))).2).2) (((List.getD (List.set a8 (Int.toNat a6) ((List.getD a8 (Int.toNat a6) ((⟨#[]⟩ : ByteArray), ((⟨#[]⟩ : ByteArray), (⟨#[]⟩ : ByteArray)))).1, (((List.getD a8 (Int.toNat a6) ((⟨#[]⟩ : ByteArray), ((⟨#[]⟩ : ByteArray), (⟨#[]⟩ : ByteArray)))).2).1, x2))) (Int.toNat a6) ((⟨#[]⟩ : ByteArray), ((⟨#[]⟩ : ByteArray), (⟨#[]⟩ : ByteArray)))).2).1) then
                bif decide ((Int.toNat a6) < (List.set a8 (Int.toNat a6) ((List.getD a8 (Int.toNat a6) ((⟨#[]⟩ : ByteArray), ((⟨#[]⟩ : ByteArray), (⟨#[]⟩ : ByteArray)))).1, (((List.getD a8 (Int.toNat a6) ((⟨#[]⟩ : ByteArray), ((⟨#[]⟩ : ByteArray), (⟨#[]⟩ : ByteArray)))).2).1, x2))).length) then
                  owner_Move.l0 N x1 x2 r4 k5 (w (a6 + 1)) (List.set (List.set a8 (Int.toNat a6) ((List.getD a8 (Int.toNat a6) ((⟨#[]⟩ : ByteArray), ((⟨#[]⟩ : ByteArray), (⟨#[]⟩ : ByteArray)))).1, (((List.getD a8 (Int.toNat a6) ((⟨#[]⟩ : ByteArray), ((⟨#[]⟩ : ByteArray), (⟨#[]⟩ : ByteArray)))).2).1, x2))) (Int.toNat a6) ((List.getD (List.set a8 (Int.toNat a6) ((List.getD a8 (Int.toNat a6) ((⟨#[]⟩ : ByteArray), ((⟨#[]⟩ : ByteArray), (⟨#[]⟩ : ByteArray)))).1, (((List.getD a8 (Int.toNat a6) ((⟨#[]⟩ : ByteArray), ((⟨#[]⟩ : ByteArray), (⟨#[]⟩ : ByteArray)))).2).1, x2))) (Int.toNat a6) ((⟨#[]⟩ : ByteArray), ((⟨#[]⟩ : ByteArray), (⟨#[]⟩ : ByteArray)))).1, (((List.getD (List.set a8 (Int.toNat a6) ((List.getD a8 (Int.toNat a6) ((⟨#[]⟩ : ByteArray), ((⟨#[]⟩ : ByteArray), (⟨#[]⟩ : ByteArray)))).1, (((List.getD a8 (Int.toNat a6) ((⟨#[]⟩ : ByteArray), ((⟨#[]⟩ : ByteArray), (⟨#[]⟩ : ByteArray)))).2).1, x2))) (Int.toNat a6) ((⟨#[]⟩ : ByteArray), ((⟨#[]⟩ : ByteArray), (⟨#[]⟩ : ByteArray)))).2).1, (⟨#[]⟩ : ByteArray))))
                else
                  none
              else
                owner_Move.l0 N x1 x2 r4 k5 (w (a6 + 1)) (List.set a8 (Int.toNat a6) ((List.getD a8 (Int.toNat a6) ((⟨#[]⟩ : ByteArray), ((⟨#[]⟩ : ByteArray), (⟨#[]⟩ : ByteArray)))).1, (((List.getD a8 (Int.toNat a6) ((⟨#[]⟩ : ByteArray), ((⟨#[]⟩ : ByteArray), (⟨#[]⟩ : ByteArray)))).2).1, x2)))
            else
              none
          else
            none
        else
          none
      else
      bif decide ((Int.toNat a6) < a8.length) then
        bif decide ((Int.toNat a6) < a8.length) then
          bif seq (((List.getD a8 (Int.toNat a6) ((⟨#[]⟩ : ByteArray), ((⟨#[]⟩ : ByteArray), (⟨#[]⟩ : ByteArray)))).2).2) (((List.getD a8 (Int.toNat a6) ((⟨#[]⟩ : ByteArray), ((⟨#[]⟩ : ByteArray), (⟨#[]⟩ : ByteArray)))).2).1) then
            bif decide ((Int.toNat a6) < a8.length) then
              owner_Move.l0 N x1 x2 r4 k5 (w (a6 + 1)) (List.set a8 (Int.toNat a6) ((List.getD a8 (Int.toNat a6) ((⟨#[]⟩ : ByteArray), ((⟨#[]⟩ : ByteArray), (⟨#[]⟩ : ByteArray)))).1, (((List.getD a8 (Int.toNat a6) ((⟨#[]⟩ : ByteArray), ((⟨#[]⟩ : ByteArray), (⟨#[]⟩ : ByteArray)))).2).1, (⟨#[]⟩ : ByteArray))))
            else
              none
          else
            owner_Move.l0 N x1 x2 r4 k5 (w (a6 + 1)) a8
        else
          none
      else
        none
    else
      none := (fuelK_eq hM _).trans (by kernel_rfl)
theorem owner_Move.l0_zero (N : Nat) (x1 : ByteArray) (x2 : ByteArray) (r4 : List (ByteArray × ByteArray × ByteArray)) (a6 : Int) (a7 : List (ByteArray × ByteArray × ByteArray)) : owner_Move.l0 N x1 x2 r4 0 a6 a7 = none := by kernel_rfl
theorem owner_Move.l0_succ (N : Nat) (x1 : ByteArray) (x2 : ByteArray) (r4 : List (ByteArray × ByteArray × ByteArray)) (k5 : Nat) (a6 : Int) (a7 : List (ByteArray × ByteArray × ByteArray)) : owner_Move.l0 N x1 x2 r4 (k5 + 1) a6 a7 =
    bif decide (a6 < (r4.length : Int)) then
      bif (decide (0 ≤ a6)) && (decide (a6 < (a7.length : Int))) then
        bif decide ((Int.toNat a6) < a7.length) then
          bif seq (((List.getD a7 (Int.toNat a6) ((⟨#[]⟩ : ByteArray), ((⟨#[]⟩ : ByteArray), (⟨#[]⟩ : ByteArray)))).2).1) x1 then
            bif decide ((Int.toNat a6) < a7.length) then
              owner_Move.j1 N x1 x2 r4 k5 a6 (List.set a7 (Int.toNat a6) ((List.getD a7 (Int.toNat a6) ((⟨#[]⟩ : ByteArray), ((⟨#[]⟩ : ByteArray), (⟨#[]⟩ : ByteArray)))).1, (x2, ((List.getD a7 (Int.toNat a6) ((⟨#[]⟩ : ByteArray), ((⟨#[]⟩ : ByteArray), (⟨#[]⟩ : ByteArray)))).2).2)))
            else
              none
          else
            owner_Move.j1 N x1 x2 r4 k5 a6 a7
        else
          none
      else
        none
    else
      some (a7, 0) := by kernel_rfl
theorem owner_Move.l0_cons (N : Nat) (x1 : ByteArray) (x2 : ByteArray) (r4 : List (ByteArray × ByteArray × ByteArray)) (k5 : Nat) (a7 : List (ByteArray × ByteArray × ByteArray)) {pre r} {x} (hl : r4 = pre ++ x :: r) (hb : r4.length < 4611686018427387904) : owner_Move.l0 N x1 x2 r4 (k5 + 1) (pre.length : Int) a7 =
    bif decide ((pre.length : Int) < (a7.length : Int)) then
      bif decide (pre.length < a7.length) then
        bif seq (((List.getD a7 pre.length ((⟨#[]⟩ : ByteArray), ((⟨#[]⟩ : ByteArray), (⟨#[]⟩ : ByteArray)))).2).1) x1 then
          bif decide (pre.length < a7.length) then
            owner_Move.j1 N x1 x2 r4 k5 (pre.length : Int) (List.set a7 pre.length ((List.getD a7 pre.length ((⟨#[]⟩ : ByteArray), ((⟨#[]⟩ : ByteArray), (⟨#[]⟩ : ByteArray)))).1, (x2, ((List.getD a7 pre.length ((⟨#[]⟩ : ByteArray), ((⟨#[]⟩ : ByteArray), (⟨#[]⟩ : ByteArray)))).2).2)))
          else
            none
        else
          owner_Move.j1 N x1 x2 r4 k5 (pre.length : Int) a7
      else
        none
    else
      none := by
  have hlen : r4.length = pre.length + 1 + r.length := by rw [hl]; simp; omega
  have e1 : decide ((pre.length : Int) < (r4.length : Int)) = true := by rw [decide_eq_true_iff]; omega
  have e2 : decide (0 ≤ (pre.length : Int)) = true := by rw [decide_eq_true_iff]; omega
  have e4 : w ((pre.length : Int) + 1) = (pre.length : Int) + 1 := w_next hl hb
  have e5 : List.take pre.length r4 = pre := by rw [hl]; simp
  have e6 : decide ((pre.length : Int) ≤ (r4.length : Int)) = true := by rw [decide_eq_true_iff]; omega
  rw [owner_Move.l0_succ]
  simp -implicitDefEqProofs only [Int.toNat_natCast, e1, e2, e4, e6, e5, Bool.and_true, Bool.true_and, Bool.true_or, cond_true]
theorem owner_Move.l0_nil (N : Nat) (x1 : ByteArray) (x2 : ByteArray) (r4 : List (ByteArray × ByteArray × ByteArray)) (k5 : Nat) (a7 : List (ByteArray × ByteArray × ByteArray)) : owner_Move.l0 N x1 x2 r4 (k5 + 1) (r4.length : Int) a7 =
    some (a7, 0) := by
  have e1 : decide ((r4.length : Int) < (r4.length : Int)) = false := by rw [decide_eq_false_iff_not]; omega
  rw [owner_Move.l0_succ]
  simp -implicitDefEqProofs only [e1, cond_false]
theorem owner_Move.eq (N : Nat) (x0 : List (ByteArray × ByteArray × ByteArray)) (x1 : ByteArray) (x2 : ByteArray) : owner_Move.fn N (x0, x1, x2) =
    (owner_Check.fn N x0).bind fun r1 =>
    bif !(r1 == 0) then
      some ([], r1)
    else
      (owner_Name.fn N x1).bind fun r2 =>
      bif !(!(!r2)) || (!(!r2)) then
        (bif (!(!r2)) then owner_Name.fn N x2 else some (false)).bind fun r3 =>
        bif !(!(!r2)) || (!(!r2)) then
          bif (!r2) || (!(!r2)) then
            bif (!r2) || (!r3) then
              some ([], 3)
            else
              (slices_Clone_OwnerEntry.fn N x0).bind fun r4 =>
              owner_Move.l0 N x1 x2 r4 N 0 r4
          else
            none
        else
          none
      else
        none := by kernel_rfl
theorem owner_Move.clean (N : Nat) (x0 : List (ByteArray × ByteArray × ByteArray)) (x1 : ByteArray) (x2 : ByteArray) : owner_Move.fn N (x0, x1, x2) =
    (owner_Check.fn N x0).bind fun r1 =>
    bif !(r1 == 0) then
      some ([], r1)
    else
      (owner_Name.fn N x1).bind fun r2 =>
      (bif (!(!r2)) then owner_Name.fn N x2 else some (false)).bind fun r3 =>
      bif (!r2) || (!r3) then
        some ([], 3)
      else
        (slices_Clone_OwnerEntry.fn N x0).bind fun r4 =>
        owner_Move.l0 N x1 x2 r4 N 0 r4 := by
  rw [owner_Move.eq]; simp only [taut11, taut17, cond_true]

/-! ### owner_End: skyway/owner.End -/
def owner_End.kp : List (Nat × List (Nat × Option (TypeId × Ty))) := []
noncomputable def owner_End.G (N : Nat) : List (Nat × Spec) := [(28, .pure (slices_Clone_OwnerEntry.S N)), (29, .pure (owner_at.S N)), (30, .inl Try.f30)]
noncomputable def owner_End.E (N : Nat) : Env := mkEnv (owner_End.G N) N tyTab owner_End.kp
noncomputable def owner_End.fn (N : Nat) (x : List (ByteArray × ByteArray × ByteArray) × ByteArray × ByteArray) : Option (List (ByteArray × ByteArray × ByteArray) × Int) := evFn (owner_End.E N) Try.prog 3 Try.f13 false [.cell (.sl 34 (.pair (.str) (.pair (.str) (.str)))), .cell (.str), .cell (.str)] [.own 34 (.pair (.str) (.pair (.str) (.str))), .val (.cell (.int .i64))] x
noncomputable def owner_End.S (N : Nat) : PSpec := ⟨false, [.cell (.sl 34 (.pair (.str) (.pair (.str) (.str)))), .cell (.str), .cell (.str)], [.own 34 (.pair (.str) (.pair (.str) (.str))), .val (.cell (.int .i64))], owner_End.fn N⟩
theorem f30_enters : Enters Try.prog 30 := ⟨Try.f30, Try.func30, by kernel_rfl, by kernel_rfl⟩
theorem f13_enters : Enters Try.prog 13 := ⟨Try.f13, Try.func13, by kernel_rfl, by kernel_rfl⟩
theorem owner_End.tab (N : Nat) : TabOk Try.prog (owner_End.G N) := ⟨⟨slices_Clone_OwnerEntry.enters, slices_Clone_OwnerEntry.sound N⟩, ⟨owner_at.enters, owner_at.sound N⟩, ⟨f30_enters, Try.func30⟩, trivial⟩
theorem owner_End.enters : Enters Try.prog 13 := f13_enters
theorem owner_End.sound (N : Nat) : Sound Try.prog 13 (owner_End.S N) := evFn_sound (specs_tab (owner_End.tab N)) (inls_tab (owner_End.tab N)) mixed 3 Try.func13 _ _ _
theorem owner_End.eq (N : Nat) (x0 : List (ByteArray × ByteArray × ByteArray)) (x1 : ByteArray) (x2 : ByteArray) : owner_End.fn N (x0, x1, x2) =
    (owner_at.fn N (x0, x1)).bind fun r1 =>
    bif !(r1.2 == 0) then
      some ([], r1.2)
    else
    bif (decide (0 ≤ r1.1)) && (decide (r1.1 < (x0.length : Int))) then
      bif !(seq (((List.getD x0 (Int.toNat r1.1) ((⟨#[]⟩ : ByteArray), ((⟨#[]⟩ : ByteArray), (⟨#[]⟩ : ByteArray)))).2).1) x2) then
        some ([], 16)
      else
        (slices_Clone_OwnerEntry.fn N x0).bind fun r2 =>
        bif (((decide (0 ≤ r1.1)) && (decide (r1.1 ≤ (w (r1.1 + 1))))) && (decide ((w (r1.1 + 1)) ≤ (r2.length : Int)))) && (decide ((r2.length : Int) ≤ (r2.length : Int))) then
          bif r1.1 == (w (r1.1 + 1)) then
            some (r2, 0)
          else
          bif (decide (0 ≤ r1.1)) && (decide (0 + (Int.toNat r1.1) ≤ r2.length)) then
            bif (decide (0 ≤ (w (r1.1 + 1)))) && (decide ((w (r1.1 + 1)) ≤ ((r2.length : Nat) : Int))) then
              bif decide (((List.take (Int.toNat r1.1) r2).length + (List.take (r2.length - (Int.toNat (w (r1.1 + 1)))) (List.drop (0 + (Int.toNat (w (r1.1 + 1)))) r2)).length) * 48 ≤ 140737488355328) && decide (((List.take (Int.toNat r1.1) r2).length + (List.take (r2.length - (Int.toNat (w (r1.1 + 1)))) (List.drop (0 + (Int.toNat (w (r1.1 + 1)))) r2)).length) ≤ maxLen) then
                bif decide ((Int.toNat r1.1) + (List.take (r2.length - (Int.toNat (w (r1.1 + 1)))) (List.drop (0 + (Int.toNat (w (r1.1 + 1)))) r2)).length ≤ r2.length) then
                  bif ((decide (0 ≤ (((Int.toNat r1.1) + (List.take (r2.length - (Int.toNat (w (r1.1 + 1)))) (List.drop (0 + (Int.toNat (w (r1.1 + 1)))) r2)).length : Nat) : Int))) && (decide ((((Int.toNat r1.1) + (List.take (r2.length - (Int.toNat (w (r1.1 + 1)))) (List.drop (0 + (Int.toNat (w (r1.1 + 1)))) r2)).length : Nat) : Int) ≤ (r2.length : Int)))) && (decide (0 + (Int.toNat (r2.length : Int)) ≤ ((List.take (Int.toNat r1.1) r2) ++ (List.take (r2.length - (Int.toNat (w (r1.1 + 1)))) (List.drop (0 + (Int.toNat (w (r1.1 + 1)))) r2)) ++ (List.drop ((Int.toNat r1.1) + (List.take (r2.length - (Int.toNat (w (r1.1 + 1)))) (List.drop (0 + (Int.toNat (w (r1.1 + 1)))) r2)).length) r2)).length)) then
                    some ((List.take ((Int.toNat r1.1) + (List.take (r2.length - (Int.toNat (w (r1.1 + 1)))) (List.drop (0 + (Int.toNat (w (r1.1 + 1)))) r2)).length) (fillL ((List.take (Int.toNat r1.1) r2) ++ (List.take (r2.length - (Int.toNat (w (r1.1 + 1)))) (List.drop (0 + (Int.toNat (w (r1.1 + 1)))) r2)) ++ (List.drop ((Int.toNat r1.1) + (List.take (r2.length - (Int.toNat (w (r1.1 + 1)))) (List.drop (0 + (Int.toNat (w (r1.1 + 1)))) r2)).length) r2)) (0 + (Int.toNat (((Int.toNat r1.1) + (List.take (r2.length - (Int.toNat (w (r1.1 + 1)))) (List.drop (0 + (Int.toNat (w (r1.1 + 1)))) r2)).length : Nat) : Int))) ((Int.toNat (r2.length : Int)) - (Int.toNat (((Int.toNat r1.1) + (List.take (r2.length - (Int.toNat (w (r1.1 + 1)))) (List.drop (0 + (Int.toNat (w (r1.1 + 1)))) r2)).length : Nat) : Int))) ((⟨#[]⟩ : ByteArray), ((⟨#[]⟩ : ByteArray), (⟨#[]⟩ : ByteArray))))), 0)
                  else
                    none
                else
                  none
              else
                none
            else
              none
          else
            none
        else
          none
    else
      none := by kernel_rfl

/-! ### slices_Equal_string: slices.Equal[[]string,string] -/
def slices_Equal_string.kp : List (Nat × List (Nat × Option (TypeId × Ty))) := [(4, [(0, none), (1, none), (12, none), (13, none)])]
noncomputable def slices_Equal_string.G (N : Nat) : List (Nat × Spec) := []
noncomputable def slices_Equal_string.E (N : Nat) : Env := mkEnv (slices_Equal_string.G N) N tyTab slices_Equal_string.kp
noncomputable def slices_Equal_string.fn (N : Nat) (x : List ByteArray × List ByteArray) : Option Bool := evFn (slices_Equal_string.E N) Try.prog 3 Try.f22 false [.cell (.sl 9 (.str)), .cell (.sl 9 (.str))] [.val (.cell (.bool))] x
noncomputable def slices_Equal_string.S (N : Nat) : PSpec := ⟨false, [.cell (.sl 9 (.str)), .cell (.sl 9 (.str))], [.val (.cell (.bool))], slices_Equal_string.fn N⟩
theorem f22_enters : Enters Try.prog 22 := ⟨Try.f22, Try.func22, by kernel_rfl, by kernel_rfl⟩
theorem slices_Equal_string.tab (N : Nat) : TabOk Try.prog (slices_Equal_string.G N) := trivial
theorem slices_Equal_string.enters : Enters Try.prog 22 := f22_enters
theorem slices_Equal_string.sound (N : Nat) : Sound Try.prog 22 (slices_Equal_string.S N) := evFn_sound (specs_tab (slices_Equal_string.tab N)) (inls_tab (slices_Equal_string.tab N)) mixed 3 Try.func22 _ _ _
noncomputable def slices_Equal_string.cd (N : Nat) (p : List Nat) : St → (Ex → St → Option Bool) → Option Bool := ev (slices_Equal_string.E N) Try.prog (callD (slices_Equal_string.E N) Try.prog 3) 0 (codeAt (bodyOf Try.f22) p)
noncomputable def slices_Equal_string.fin : Ex → St → Option Bool := endK Try.prog Try.f22 [.val (.cell (.bool))]
noncomputable def slices_Equal_string.l0 (N : Nat) (x0 : List ByteArray) (x1 : List ByteArray) (k1 : Nat) (a2 : Int) : Option Bool :=
  loopN (norm ((slices_Equal_string.E N).keep 4) 0) (slices_Equal_string.cd N [1, 1, 0, 1, 0, 0]) k1
  ⟨[.ros false 9 (.str) x0, .ros false 9 (.str) x1, .any, .any, .any, .any, .any, .any, .any, .any, .any, .any, .sc (.int .i64 (x0.length : Int)), .sc (.int .i64 a2), .any, .any, .any, .any, .any, .any, .any, .any, .any, .any, .any, .any], []⟩
  (blockK 0 (seqK (slices_Equal_string.cd N [1, 1, 1]) slices_Equal_string.fin))
theorem slices_Equal_string.l0_zero (N : Nat) (x0 : List ByteArray) (x1 : List ByteArray) (a2 : Int) : slices_Equal_string.l0 N x0 x1 0 a2 = none := by kernel_rfl
theorem slices_Equal_string.l0_succ (N : Nat) (x0 : List ByteArray) (x1 : List ByteArray) (k1 : Nat) (a2 : Int) : slices_Equal_string.l0 N x0 x1 (k1 + 1) a2 =
    bif decide (a2 < (x0.length : Int)) then
      bif (decide (0 ≤ a2)) && (decide (a2 < (x0.length : Int))) then
        bif (decide (0 ≤ a2)) && (decide (a2 < (x1.length : Int))) then
          bif !(seq (List.getD x0 (Int.toNat a2) (⟨#[]⟩ : ByteArray)) (List.getD x1 (Int.toNat a2) (⟨#[]⟩ : ByteArray))) then
            some false
          else
            slices_Equal_string.l0 N x0 x1 k1 (w (a2 + 1))
        else
          none
      else
        none
    else
      some true := by kernel_rfl
theorem slices_Equal_string.l0_cons (N : Nat) (x0 : List ByteArray) (x1 : List ByteArray) (k1 : Nat) {pre r} {x} (hl : x0 = pre ++ x :: r) (hb : x0.length < 4611686018427387904) : slices_Equal_string.l0 N x0 x1 (k1 + 1) (pre.length : Int) =
    bif decide ((pre.length : Int) < (x1.length : Int)) then
      bif !(seq x (List.getD x1 pre.length (⟨#[]⟩ : ByteArray))) then
        some false
      else
        slices_Equal_string.l0 N x0 x1 k1 ((pre.length : Int) + 1)
    else
      none := by
  have hlen : x0.length = pre.length + 1 + r.length := by rw [hl]; simp; omega
  have e1 : decide ((pre.length : Int) < (x0.length : Int)) = true := by rw [decide_eq_true_iff]; omega
  have e2 : decide (0 ≤ (pre.length : Int)) = true := by rw [decide_eq_true_iff]; omega
  have e4 : w ((pre.length : Int) + 1) = (pre.length : Int) + 1 := w_next hl hb
  have e5 : List.take pre.length x0 = pre := by rw [hl]; simp
  have e6 : decide ((pre.length : Int) ≤ (x0.length : Int)) = true := by rw [decide_eq_true_iff]; omega
  have g0 : List.getD x0 pre.length (⟨#[]⟩ : ByteArray) = x := by rw [hl]; exact getD_mid pre x r _
  rw [slices_Equal_string.l0_succ]
  simp -implicitDefEqProofs only [Int.toNat_natCast, e1, e2, e4, e6, g0, e5, Bool.and_true, Bool.true_and, Bool.true_or, cond_true]
theorem slices_Equal_string.l0_nil (N : Nat) (x0 : List ByteArray) (x1 : List ByteArray) (k1 : Nat) : slices_Equal_string.l0 N x0 x1 (k1 + 1) (x0.length : Int) =
    some true := by
  have e1 : decide ((x0.length : Int) < (x0.length : Int)) = false := by rw [decide_eq_false_iff_not]; omega
  rw [slices_Equal_string.l0_succ]
  simp -implicitDefEqProofs only [e1, cond_false]
theorem slices_Equal_string.eq (N : Nat) (x0 : List ByteArray) (x1 : List ByteArray) : slices_Equal_string.fn N (x0, x1) =
    bif !((x0.length : Int) == (x1.length : Int)) then
      some false
    else
      slices_Equal_string.l0 N x0 x1 N 0 := by kernel_rfl
theorem slices_Equal_string.v {N : Nat} (hN : 4611686018427387904 ≤ N) (x0 x1 : List ByteArray) (h : x0.length < 4611686018427387904) : slices_Equal_string.fn N (x0, x1) = some (eqL (fun p q => (seq p q)) x0 x1) := equal_list hN (fun p q => (seq p q)) (⟨#[]⟩ : ByteArray) h (fun k i => slices_Equal_string.l0 N x0 x1 k i) (slices_Equal_string.eq N x0 x1) (fun k i => slices_Equal_string.l0_succ N x0 x1 k i)
theorem slices_Equal_string.self {N : Nat} (hN : 4611686018427387904 ≤ N) (x0 : List ByteArray) (h : x0.length < 4611686018427387904) : slices_Equal_string.fn N (x0, x0) = some true := by rw [slices_Equal_string.v hN x0 x0 h]; exact congrArg some (eqL_refl (fun p => by simp [seq_self]) x0)

/-! ### slices_Equal_OwnerEntry: slices.Equal[[]skyway/api.OwnerEntry,skyway/api.OwnerEntry] -/
def slices_Equal_OwnerEntry.kp : List (Nat × List (Nat × Option (TypeId × Ty))) := [(4, [(0, none), (1, none), (12, none), (13, none)])]
noncomputable def slices_Equal_OwnerEntry.G (N : Nat) : List (Nat × Spec) := []
noncomputable def slices_Equal_OwnerEntry.E (N : Nat) : Env := mkEnv (slices_Equal_OwnerEntry.G N) N tyTab slices_Equal_OwnerEntry.kp
noncomputable def slices_Equal_OwnerEntry.fn (N : Nat) (x : List (ByteArray × ByteArray × ByteArray) × List (ByteArray × ByteArray × ByteArray)) : Option Bool := evFn (slices_Equal_OwnerEntry.E N) Try.prog 3 Try.f18 false [.cell (.sl 34 (.pair (.str) (.pair (.str) (.str)))), .cell (.sl 34 (.pair (.str) (.pair (.str) (.str))))] [.val (.cell (.bool))] x
noncomputable def slices_Equal_OwnerEntry.S (N : Nat) : PSpec := ⟨false, [.cell (.sl 34 (.pair (.str) (.pair (.str) (.str)))), .cell (.sl 34 (.pair (.str) (.pair (.str) (.str))))], [.val (.cell (.bool))], slices_Equal_OwnerEntry.fn N⟩
theorem f18_enters : Enters Try.prog 18 := ⟨Try.f18, Try.func18, by kernel_rfl, by kernel_rfl⟩
theorem slices_Equal_OwnerEntry.tab (N : Nat) : TabOk Try.prog (slices_Equal_OwnerEntry.G N) := trivial
theorem slices_Equal_OwnerEntry.enters : Enters Try.prog 18 := f18_enters
theorem slices_Equal_OwnerEntry.sound (N : Nat) : Sound Try.prog 18 (slices_Equal_OwnerEntry.S N) := evFn_sound (specs_tab (slices_Equal_OwnerEntry.tab N)) (inls_tab (slices_Equal_OwnerEntry.tab N)) mixed 3 Try.func18 _ _ _
noncomputable def slices_Equal_OwnerEntry.cd (N : Nat) (p : List Nat) : St → (Ex → St → Option Bool) → Option Bool := ev (slices_Equal_OwnerEntry.E N) Try.prog (callD (slices_Equal_OwnerEntry.E N) Try.prog 3) 0 (codeAt (bodyOf Try.f18) p)
noncomputable def slices_Equal_OwnerEntry.fin : Ex → St → Option Bool := endK Try.prog Try.f18 [.val (.cell (.bool))]
noncomputable def slices_Equal_OwnerEntry.l0 (N : Nat) (x0 : List (ByteArray × ByteArray × ByteArray)) (x1 : List (ByteArray × ByteArray × ByteArray)) (k1 : Nat) (a2 : Int) : Option Bool :=
  loopN (norm ((slices_Equal_OwnerEntry.E N).keep 4) 0) (slices_Equal_OwnerEntry.cd N [1, 1, 0, 1, 0, 0]) k1
  ⟨[.ros false 34 (.pair (.str) (.pair (.str) (.str))) x0, .ros false 34 (.pair (.str) (.pair (.str) (.str))) x1, .any, .any, .any, .any, .any, .any, .any, .any, .any, .any, .sc (.int .i64 (x0.length : Int)), .sc (.int .i64 a2), .any, .any, .any, .any, .any, .any, .any, .any, .any, .any, .any, .any], []⟩
  (blockK 0 (seqK (slices_Equal_OwnerEntry.cd N [1, 1, 1]) slices_Equal_OwnerEntry.fin))
theorem slices_Equal_OwnerEntry.l0_zero (N : Nat) (x0 : List (ByteArray × ByteArray × ByteArray)) (x1 : List (ByteArray × ByteArray × ByteArray)) (a2 : Int) : slices_Equal_OwnerEntry.l0 N x0 x1 0 a2 = none := by kernel_rfl
theorem slices_Equal_OwnerEntry.l0_succ (N : Nat) (x0 : List (ByteArray × ByteArray × ByteArray)) (x1 : List (ByteArray × ByteArray × ByteArray)) (k1 : Nat) (a2 : Int) : slices_Equal_OwnerEntry.l0 N x0 x1 (k1 + 1) a2 =
    bif decide (a2 < (x0.length : Int)) then
      bif (decide (0 ≤ a2)) && (decide (a2 < (x0.length : Int))) then
        bif (decide (0 ≤ a2)) && (decide (a2 < (x1.length : Int))) then
          bif !((seq ((List.getD x0 (Int.toNat a2) ((⟨#[]⟩ : ByteArray), ((⟨#[]⟩ : ByteArray), (⟨#[]⟩ : ByteArray)))).1) ((List.getD x1 (Int.toNat a2) ((⟨#[]⟩ : ByteArray), ((⟨#[]⟩ : ByteArray), (⟨#[]⟩ : ByteArray)))).1)) && ((seq (((List.getD x0 (Int.toNat a2) ((⟨#[]⟩ : ByteArray), ((⟨#[]⟩ : ByteArray), (⟨#[]⟩ : ByteArray)))).2).1) (((List.getD x1 (Int.toNat a2) ((⟨#[]⟩ : ByteArray), ((⟨#[]⟩ : ByteArray), (⟨#[]⟩ : ByteArray)))).2).1)) && ((seq (((List.getD x0 (Int.toNat a2) ((⟨#[]⟩ : ByteArray), ((⟨#[]⟩ : ByteArray), (⟨#[]⟩ : ByteArray)))).2).2) (((List.getD x1 (Int.toNat a2) ((⟨#[]⟩ : ByteArray), ((⟨#[]⟩ : ByteArray), (⟨#[]⟩ : ByteArray)))).2).2)) && true))) then
            some false
          else
            slices_Equal_OwnerEntry.l0 N x0 x1 k1 (w (a2 + 1))
        else
          none
      else
        none
    else
      some true := by kernel_rfl
theorem slices_Equal_OwnerEntry.l0_cons (N : Nat) (x0 : List (ByteArray × ByteArray × ByteArray)) (x1 : List (ByteArray × ByteArray × ByteArray)) (k1 : Nat) {pre r} {x} (hl : x0 = pre ++ x :: r) (hb : x0.length < 4611686018427387904) : slices_Equal_OwnerEntry.l0 N x0 x1 (k1 + 1) (pre.length : Int) =
    bif decide ((pre.length : Int) < (x1.length : Int)) then
      bif !((seq (x.1) ((List.getD x1 pre.length ((⟨#[]⟩ : ByteArray), ((⟨#[]⟩ : ByteArray), (⟨#[]⟩ : ByteArray)))).1)) && ((seq ((x.2).1) (((List.getD x1 pre.length ((⟨#[]⟩ : ByteArray), ((⟨#[]⟩ : ByteArray), (⟨#[]⟩ : ByteArray)))).2).1)) && ((seq ((x.2).2) (((List.getD x1 pre.length ((⟨#[]⟩ : ByteArray), ((⟨#[]⟩ : ByteArray), (⟨#[]⟩ : ByteArray)))).2).2)) && true))) then
        some false
      else
        slices_Equal_OwnerEntry.l0 N x0 x1 k1 ((pre.length : Int) + 1)
    else
      none := by
  have hlen : x0.length = pre.length + 1 + r.length := by rw [hl]; simp; omega
  have e1 : decide ((pre.length : Int) < (x0.length : Int)) = true := by rw [decide_eq_true_iff]; omega
  have e2 : decide (0 ≤ (pre.length : Int)) = true := by rw [decide_eq_true_iff]; omega
  have e4 : w ((pre.length : Int) + 1) = (pre.length : Int) + 1 := w_next hl hb
  have e5 : List.take pre.length x0 = pre := by rw [hl]; simp
  have e6 : decide ((pre.length : Int) ≤ (x0.length : Int)) = true := by rw [decide_eq_true_iff]; omega
  have g0 : List.getD x0 pre.length ((⟨#[]⟩ : ByteArray), ((⟨#[]⟩ : ByteArray), (⟨#[]⟩ : ByteArray))) = x := by rw [hl]; exact getD_mid pre x r _
  rw [slices_Equal_OwnerEntry.l0_succ]
  simp -implicitDefEqProofs only [Int.toNat_natCast, e1, e2, e4, e6, g0, e5, Bool.and_true, Bool.true_and, Bool.true_or, cond_true]
theorem slices_Equal_OwnerEntry.l0_nil (N : Nat) (x0 : List (ByteArray × ByteArray × ByteArray)) (x1 : List (ByteArray × ByteArray × ByteArray)) (k1 : Nat) : slices_Equal_OwnerEntry.l0 N x0 x1 (k1 + 1) (x0.length : Int) =
    some true := by
  have e1 : decide ((x0.length : Int) < (x0.length : Int)) = false := by rw [decide_eq_false_iff_not]; omega
  rw [slices_Equal_OwnerEntry.l0_succ]
  simp -implicitDefEqProofs only [e1, cond_false]
theorem slices_Equal_OwnerEntry.eq (N : Nat) (x0 : List (ByteArray × ByteArray × ByteArray)) (x1 : List (ByteArray × ByteArray × ByteArray)) : slices_Equal_OwnerEntry.fn N (x0, x1) =
    bif !((x0.length : Int) == (x1.length : Int)) then
      some false
    else
      slices_Equal_OwnerEntry.l0 N x0 x1 N 0 := by kernel_rfl
theorem slices_Equal_OwnerEntry.v {N : Nat} (hN : 4611686018427387904 ≤ N) (x0 x1 : List (ByteArray × ByteArray × ByteArray)) (h : x0.length < 4611686018427387904) : slices_Equal_OwnerEntry.fn N (x0, x1) = some (eqL (fun p q => ((seq (p.1) (q.1)) && ((seq ((p.2).1) ((q.2).1)) && ((seq ((p.2).2) ((q.2).2)) && true)))) x0 x1) := equal_list hN (fun p q => ((seq (p.1) (q.1)) && ((seq ((p.2).1) ((q.2).1)) && ((seq ((p.2).2) ((q.2).2)) && true)))) ((⟨#[]⟩ : ByteArray), ((⟨#[]⟩ : ByteArray), (⟨#[]⟩ : ByteArray))) h (fun k i => slices_Equal_OwnerEntry.l0 N x0 x1 k i) (slices_Equal_OwnerEntry.eq N x0 x1) (fun k i => slices_Equal_OwnerEntry.l0_succ N x0 x1 k i)
theorem slices_Equal_OwnerEntry.self {N : Nat} (hN : 4611686018427387904 ≤ N) (x0 : List (ByteArray × ByteArray × ByteArray)) (h : x0.length < 4611686018427387904) : slices_Equal_OwnerEntry.fn N (x0, x0) = some true := by rw [slices_Equal_OwnerEntry.v hN x0 x0 h]; exact congrArg some (eqL_refl (fun p => by simp [seq_self]) x0)

/-! ### law_ownerFact: skyway/skywaylaw3.ownerFact -/
def law_ownerFact.kp : List (Nat × List (Nat × Option (TypeId × Ty))) := [(999999, [(0, none)])]
noncomputable def law_ownerFact.G (N : Nat) : List (Nat × Spec) := [(8, .pure (owner_Check.S N)), (10, .pure (owner_Name.S N)), (12, .pure (owner_Begin.S N)), (13, .pure (owner_End.S N)), (14, .pure (owner_Offer.S N)), (15, .pure (owner_Accept.S N)), (16, .pure (owner_Cancel.S N)), (18, .pure (slices_Equal_OwnerEntry.S N)), (19, .pure (owner_Of.S N)), (20, .pure (owner_Flights.S N)), (22, .pure (slices_Equal_string.S N)), (23, .pure (owner_Move.S N))]
noncomputable def law_ownerFact.E (N : Nat) : Env := mkEnv (law_ownerFact.G N) N tyTab law_ownerFact.kp
noncomputable def law_ownerFact.fn (N : Nat) (x : Unit) : Option Bool := evFn (law_ownerFact.E N) Try.prog 3 Try.f7 false [] [.val (.cell (.bool))] x
noncomputable def law_ownerFact.S (N : Nat) : PSpec := ⟨false, [], [.val (.cell (.bool))], law_ownerFact.fn N⟩
theorem f7_enters : Enters Try.prog 7 := ⟨Try.f7, Try.func7, by kernel_rfl, by kernel_rfl⟩
theorem law_ownerFact.tab (N : Nat) : TabOk Try.prog (law_ownerFact.G N) := ⟨⟨owner_Check.enters, owner_Check.sound N⟩, ⟨owner_Name.enters, owner_Name.sound N⟩, ⟨owner_Begin.enters, owner_Begin.sound N⟩, ⟨owner_End.enters, owner_End.sound N⟩, ⟨owner_Offer.enters, owner_Offer.sound N⟩, ⟨owner_Accept.enters, owner_Accept.sound N⟩, ⟨owner_Cancel.enters, owner_Cancel.sound N⟩, ⟨slices_Equal_OwnerEntry.enters, slices_Equal_OwnerEntry.sound N⟩, ⟨owner_Of.enters, owner_Of.sound N⟩, ⟨owner_Flights.enters, owner_Flights.sound N⟩, ⟨slices_Equal_string.enters, slices_Equal_string.sound N⟩, ⟨owner_Move.enters, owner_Move.sound N⟩, trivial⟩
theorem law_ownerFact.enters : Enters Try.prog 7 := f7_enters
theorem law_ownerFact.sound (N : Nat) : Sound Try.prog 7 (law_ownerFact.S N) := evFn_sound (specs_tab (law_ownerFact.tab N)) (inls_tab (law_ownerFact.tab N)) mixed 3 Try.func7 _ _ _
theorem law_ownerFact.eq (N : Nat) : law_ownerFact.fn N () =
    (owner_Begin.fn N ([], (⟨#[65, 49]⟩ : ByteArray), (⟨#[69, 65, 83, 84]⟩ : ByteArray))).bind fun r1 =>
    (owner_Offer.fn N (r1.1, (⟨#[65, 49]⟩ : ByteArray), (⟨#[69, 65, 83, 84]⟩ : ByteArray), (⟨#[87, 69, 83, 84]⟩ : ByteArray))).bind fun r2 =>
    (owner_Accept.fn N (r2.1, (⟨#[65, 49]⟩ : ByteArray), (⟨#[87, 69, 83, 84]⟩ : ByteArray))).bind fun r3 =>
    (owner_Cancel.fn N (r2.1, (⟨#[65, 49]⟩ : ByteArray), (⟨#[87, 69, 83, 84]⟩ : ByteArray))).bind fun r4 =>
    (owner_Of.fn N (r3.1, (⟨#[65, 49]⟩ : ByteArray))).bind fun r5 =>
    (owner_Flights.fn N (r3.1, (⟨#[87, 69, 83, 84]⟩ : ByteArray))).bind fun r6 =>
    (owner_Move.fn N (r2.1, (⟨#[87, 69, 83, 84]⟩ : ByteArray), (⟨#[69, 65, 83, 84]⟩ : ByteArray))).bind fun r7 =>
    (owner_End.fn N (r3.1, (⟨#[65, 49]⟩ : ByteArray), (⟨#[87, 69, 83, 84]⟩ : ByteArray))).bind fun r8 =>
    (owner_End.fn N (r3.1, (⟨#[65, 49]⟩ : ByteArray), (⟨#[69, 65, 83, 84]⟩ : ByteArray))).bind fun r9 =>
    bif r1.2 == 0 then
      bif r2.2 == 0 then
        bif r3.2 == 0 then
          bif r4.2 == 0 then
            bif r5.2 == 0 then
              bif r6.2 == 0 then
                bif r7.2 == 0 then
                  bif r8.2 == 0 then
                    bif r9.2 == 16 then
                      bif seq r5.1 (⟨#[87, 69, 83, 84]⟩ : ByteArray) then
                        (slices_Equal_string.fn N (r6.1, [(⟨#[65, 49]⟩ : ByteArray)])).bind fun r10 =>
                        bif r10 then
                          (slices_Equal_OwnerEntry.fn N (r1.1, r4.1)).bind fun r11 =>
                          bif r11 then
                            (slices_Equal_OwnerEntry.fn N (r1.1, r7.1)).bind fun r12 =>
                            bif r12 then
                              bif (r1.1.length : Int) == 1 then
                                bif (r8.1.length : Int) == 0 then
                                  (owner_Name.fn N (⟨#[65, 49]⟩ : ByteArray)).bind fun r13 =>
                                  bif r13 then
                                    bif decide ((r1.1.length + r1.1.length) * 48 ≤ 140737488355328) && decide ((r1.1.length + r1.1.length) ≤ maxLen) then
                                      (owner_Check.fn N (r1.1 ++ r1.1)).bind fun r14 =>
                                      some (r14 == 7)
                                    else
                                      none
                                  else
                                    some false
                                else
                                  some false
                              else
                                some false
                            else
                              some false
                          else
                            some false
                        else
                          some false
                      else
                        some false
                    else
                      some false
                  else
                    some false
                else
                  some false
              else
                some false
            else
              some false
          else
            some false
        else
          some false
      else
        some false
    else
      some false := by kernel_rfl

/-! ### ref_IsName: skyway/skywayref3.IsName -/
def ref_IsName.kp : List (Nat × List (Nat × Option (TypeId × Ty))) := [(4, [(0, none), (3, none)])]
noncomputable def ref_IsName.G (N : Nat) : List (Nat × Spec) := []
noncomputable def ref_IsName.E (N : Nat) : Env := mkEnv (ref_IsName.G N) N tyTab ref_IsName.kp
noncomputable def ref_IsName.fn (N : Nat) (x : ByteArray) : Option Bool := evFn (ref_IsName.E N) Try.prog 3 Try.f11 false [.cell (.str)] [.val (.cell (.bool))] x
noncomputable def ref_IsName.S (N : Nat) : PSpec := ⟨false, [.cell (.str)], [.val (.cell (.bool))], ref_IsName.fn N⟩
theorem f11_enters : Enters Try.prog 11 := ⟨Try.f11, Try.func11, by kernel_rfl, by kernel_rfl⟩
theorem ref_IsName.tab (N : Nat) : TabOk Try.prog (ref_IsName.G N) := trivial
theorem ref_IsName.enters : Enters Try.prog 11 := f11_enters
theorem ref_IsName.sound (N : Nat) : Sound Try.prog 11 (ref_IsName.S N) := evFn_sound (specs_tab (ref_IsName.tab N)) (inls_tab (ref_IsName.tab N)) mixed 3 Try.func11 _ _ _
noncomputable def ref_IsName.cd (N : Nat) (p : List Nat) : St → (Ex → St → Option Bool) → Option Bool := ev (ref_IsName.E N) Try.prog (callD (ref_IsName.E N) Try.prog 3) 0 (codeAt (bodyOf Try.f11) p)
noncomputable def ref_IsName.fin : Ex → St → Option Bool := endK Try.prog Try.f11 [.val (.cell (.bool))]
noncomputable def ref_IsName.l0 (N : Nat) (x0 : ByteArray) (k1 : Nat) (a2 : Int) : Option Bool :=
  loopN (norm ((ref_IsName.E N).keep 4) 0) (ref_IsName.cd N [1, 1, 0, 1, 0, 0]) k1
  ⟨[.sc (.string x0), .any, .any, .sc (.int .i64 a2), .any, .any, .any, .any, .any, .any, .any, .any, .any, .any, .any, .any, .any, .any, .any, .any, .any, .any, .any, .any, .any, .any, .any, .any, .any, .any, .any, .any, .any, .any, .any, .any, .any, .any, .any, .any, .any, .any, .any, .any, .any], []⟩
  (blockK 0 (seqK (ref_IsName.cd N [1, 1, 1]) ref_IsName.fin))
theorem ref_IsName.l0_zero (N : Nat) (x0 : ByteArray) (a2 : Int) : ref_IsName.l0 N x0 0 a2 = none := by kernel_rfl
theorem ref_IsName.l0_succ (N : Nat) (x0 : ByteArray) (k1 : Nat) (a2 : Int) : ref_IsName.l0 N x0 (k1 + 1) a2 =
    bif decide (a2 < (x0.size : Int)) then
      bif (decide (0 ≤ a2)) && (decide (a2 < (x0.size : Int))) then
        bif !(!(decide (((((ByteArray.data x0).getD (Int.toNat a2) 0).toNat : Nat) : Int) < 65))) || (!(decide (((((ByteArray.data x0).getD (Int.toNat a2) 0).toNat : Nat) : Int) < 65))) then
          bif (decide (((((ByteArray.data x0).getD (Int.toNat a2) 0).toNat : Nat) : Int) < 65)) || (!(decide (((((ByteArray.data x0).getD (Int.toNat a2) 0).toNat : Nat) : Int) < 65))) then
            bif !((decide (((((ByteArray.data x0).getD (Int.toNat a2) 0).toNat : Nat) : Int) < 65)) || (decide (((((ByteArray.data x0).getD (Int.toNat a2) 0).toNat : Nat) : Int) > 90))) || ((decide (((((ByteArray.data x0).getD (Int.toNat a2) 0).toNat : Nat) : Int) < 65)) || (decide (((((ByteArray.data x0).getD (Int.toNat a2) 0).toNat : Nat) : Int) > 90))) then
              bif !((decide (((((ByteArray.data x0).getD (Int.toNat a2) 0).toNat : Nat) : Int) < 65)) || (decide (((((ByteArray.data x0).getD (Int.toNat a2) 0).toNat : Nat) : Int) > 90))) || ((decide (((((ByteArray.data x0).getD (Int.toNat a2) 0).toNat : Nat) : Int) < 65)) || (decide (((((ByteArray.data x0).getD (Int.toNat a2) 0).toNat : Nat) : Int) > 90))) then
                bif !(((decide (((((ByteArray.data x0).getD (Int.toNat a2) 0).toNat : Nat) : Int) < 65)) || (decide (((((ByteArray.data x0).getD (Int.toNat a2) 0).toNat : Nat) : Int) > 90))) && (!(decide (((((ByteArray.data x0).getD (Int.toNat a2) 0).toNat : Nat) : Int) < 48)))) || (((decide (((((ByteArray.data x0).getD (Int.toNat a2) 0).toNat : Nat) : Int) < 65)) || (decide (((((ByteArray.data x0).getD (Int.toNat a2) 0).toNat : Nat) : Int) > 90))) && (!(decide (((((ByteArray.data x0).getD (Int.toNat a2) 0).toNat : Nat) : Int) < 48)))) then
                  bif !((decide (((((ByteArray.data x0).getD (Int.toNat a2) 0).toNat : Nat) : Int) < 65)) || (decide (((((ByteArray.data x0).getD (Int.toNat a2) 0).toNat : Nat) : Int) > 90))) || ((decide (((((ByteArray.data x0).getD (Int.toNat a2) 0).toNat : Nat) : Int) < 65)) || (decide (((((ByteArray.data x0).getD (Int.toNat a2) 0).toNat : Nat) : Int) > 90))) then
                    bif !((decide (((((ByteArray.data x0).getD (Int.toNat a2) 0).toNat : Nat) : Int) < 65)) || (decide (((((ByteArray.data x0).getD (Int.toNat a2) 0).toNat : Nat) : Int) > 90))) || ((decide (((((ByteArray.data x0).getD (Int.toNat a2) 0).toNat : Nat) : Int) < 48)) || (((decide (((((ByteArray.data x0).getD (Int.toNat a2) 0).toNat : Nat) : Int) < 65)) || (decide (((((ByteArray.data x0).getD (Int.toNat a2) 0).toNat : Nat) : Int) > 90))) && (!(decide (((((ByteArray.data x0).getD (Int.toNat a2) 0).toNat : Nat) : Int) < 48))))) then
                      bif (!((decide (((((ByteArray.data x0).getD (Int.toNat a2) 0).toNat : Nat) : Int) < 65)) || (decide (((((ByteArray.data x0).getD (Int.toNat a2) 0).toNat : Nat) : Int) > 90)))) || ((decide (((((ByteArray.data x0).getD (Int.toNat a2) 0).toNat : Nat) : Int) < 65)) || (decide (((((ByteArray.data x0).getD (Int.toNat a2) 0).toNat : Nat) : Int) > 90))) then
                        bif ((decide (((((ByteArray.data x0).getD (Int.toNat a2) 0).toNat : Nat) : Int) < 65)) || (decide (((((ByteArray.data x0).getD (Int.toNat a2) 0).toNat : Nat) : Int) > 90))) && ((decide (((((ByteArray.data x0).getD (Int.toNat a2) 0).toNat : Nat) : Int) < 48)) || (decide (((((ByteArray.data x0).getD (Int.toNat a2) 0).toNat : Nat) : Int) > 57))) then
                          some false
                        else
                          ref_IsName.l0 N x0 k1 (w (a2 + 1))
                      else
                        none
                    else
                      none
                  else
                    none
                else
                  none
              else
                none
            else
              none
          else
            none
        else
          none
      else
        none
    else
      some true := by kernel_rfl
theorem ref_IsName.l0_clean (N : Nat) (x0 : ByteArray) (k1 : Nat) (a2 : Int) : ref_IsName.l0 N x0 (k1 + 1) a2 =
    bif decide (a2 < (x0.size : Int)) then
      bif (decide (0 ≤ a2)) && (decide (a2 < (x0.size : Int))) then
        bif ((decide (((((ByteArray.data x0).getD (Int.toNat a2) 0).toNat : Nat) : Int) < 65)) || (decide (((((ByteArray.data x0).getD (Int.toNat a2) 0).toNat : Nat) : Int) > 90))) && ((decide (((((ByteArray.data x0).getD (Int.toNat a2) 0).toNat : Nat) : Int) < 48)) || (decide (((((ByteArray.data x0).getD (Int.toNat a2) 0).toNat : Nat) : Int) > 57))) then
          some false
        else
          ref_IsName.l0 N x0 k1 (w (a2 + 1))
      else
        none
    else
      some true := by
  rw [ref_IsName.l0_succ]; simp only [taut1, taut2, taut3, taut4, taut5, taut6, cond_true]
theorem ref_IsName.l0_cons (N : Nat) (x0 : ByteArray) (k1 : Nat) {pre r} {x} (hl : x0.data.toList = pre ++ x :: r) (hb : x0.size < 4611686018427387904) : ref_IsName.l0 N x0 (k1 + 1) (pre.length : Int) =
    bif ((decide (((x.toNat : Nat) : Int) < 65)) || (decide (((x.toNat : Nat) : Int) > 90))) && ((decide (((x.toNat : Nat) : Int) < 48)) || (decide (((x.toNat : Nat) : Int) > 57))) then
      some false
    else
      ref_IsName.l0 N x0 k1 ((pre.length : Int) + 1) := by
  have hlen : x0.size = pre.length + 1 + r.length := by rw [ByteArray.size, ← Array.length_toList, hl]; simp; omega
  have e1 : decide ((pre.length : Int) < (x0.size : Int)) = true := by rw [decide_eq_true_iff]; omega
  have e2 : decide (0 ≤ (pre.length : Int)) = true := by rw [decide_eq_true_iff]; omega
  have e4 : w ((pre.length : Int) + 1) = (pre.length : Int) + 1 := w_next hl (by rw [Array.length_toList]; exact hb)
  have e6 : decide ((pre.length : Int) ≤ (x0.size : Int)) = true := by rw [decide_eq_true_iff]; omega
  have g0 : (ByteArray.data x0).getD pre.length 0 = x := getD_bytes hl
  rw [ref_IsName.l0_clean]
  simp -implicitDefEqProofs only [Int.toNat_natCast, e1, e2, e4, e6, g0, Bool.and_true, Bool.true_and, Bool.true_or, cond_true]
theorem ref_IsName.l0_nil (N : Nat) (x0 : ByteArray) (k1 : Nat) : ref_IsName.l0 N x0 (k1 + 1) (x0.size : Int) =
    some true := by
  have e1 : decide ((x0.size : Int) < (x0.size : Int)) = false := by rw [decide_eq_false_iff_not]; omega
  rw [ref_IsName.l0_clean]
  simp -implicitDefEqProofs only [e1, cond_false]
theorem ref_IsName.eq (N : Nat) (x0 : ByteArray) : ref_IsName.fn N x0 =
    bif !(!(seq x0 (⟨#[]⟩ : ByteArray))) || (!(seq x0 (⟨#[]⟩ : ByteArray))) then
      bif !(!(seq x0 (⟨#[]⟩ : ByteArray))) || (!(seq x0 (⟨#[]⟩ : ByteArray))) then
        bif (seq x0 (⟨#[]⟩ : ByteArray)) || (!(seq x0 (⟨#[]⟩ : ByteArray))) then
          bif !(!((seq x0 (⟨#[]⟩ : ByteArray)) || (decide ((x0.size : Int) > 8)))) || (!((seq x0 (⟨#[]⟩ : ByteArray)) || (decide ((x0.size : Int) > 8)))) then
            bif (decide (0 < (x0.size : Int))) || !(!((seq x0 (⟨#[]⟩ : ByteArray)) || (decide ((x0.size : Int) > 8)))) then
              bif !(!((seq x0 (⟨#[]⟩ : ByteArray)) || (decide ((x0.size : Int) > 8)))) || (!((seq x0 (⟨#[]⟩ : ByteArray)) || (decide ((x0.size : Int) > 8)))) then
                bif !(!((seq x0 (⟨#[]⟩ : ByteArray)) || (decide ((x0.size : Int) > 8)))) || (!((seq x0 (⟨#[]⟩ : ByteArray)) || (decide ((x0.size : Int) > 8)))) then
                  bif !((!((seq x0 (⟨#[]⟩ : ByteArray)) || (decide ((x0.size : Int) > 8)))) && (decide (((((ByteArray.data x0).getD 0 0).toNat : Nat) : Int) ≥ 48))) || ((!((seq x0 (⟨#[]⟩ : ByteArray)) || (decide ((x0.size : Int) > 8)))) && (decide (((((ByteArray.data x0).getD 0 0).toNat : Nat) : Int) ≥ 48))) then
                    bif (decide (0 < (x0.size : Int))) || !((!((seq x0 (⟨#[]⟩ : ByteArray)) || (decide ((x0.size : Int) > 8)))) && (decide (((((ByteArray.data x0).getD 0 0).toNat : Nat) : Int) ≥ 48))) then
                      bif !((!((seq x0 (⟨#[]⟩ : ByteArray)) || (decide ((x0.size : Int) > 8)))) && (decide (((((ByteArray.data x0).getD 0 0).toNat : Nat) : Int) ≥ 48))) || ((!((seq x0 (⟨#[]⟩ : ByteArray)) || (decide ((x0.size : Int) > 8)))) && (decide (((((ByteArray.data x0).getD 0 0).toNat : Nat) : Int) ≥ 48))) then
                        bif !(!((seq x0 (⟨#[]⟩ : ByteArray)) || (decide ((x0.size : Int) > 8)))) || (!((seq x0 (⟨#[]⟩ : ByteArray)) || (decide ((x0.size : Int) > 8)))) then
                          bif !(!((seq x0 (⟨#[]⟩ : ByteArray)) || (decide ((x0.size : Int) > 8)))) || ((!(decide (((((ByteArray.data x0).getD 0 0).toNat : Nat) : Int) ≥ 48))) || ((!((seq x0 (⟨#[]⟩ : ByteArray)) || (decide ((x0.size : Int) > 8)))) && (decide (((((ByteArray.data x0).getD 0 0).toNat : Nat) : Int) ≥ 48)))) then
                            bif ((seq x0 (⟨#[]⟩ : ByteArray)) || (decide ((x0.size : Int) > 8))) || (!((seq x0 (⟨#[]⟩ : ByteArray)) || (decide ((x0.size : Int) > 8)))) then
                              bif ((seq x0 (⟨#[]⟩ : ByteArray)) || (decide ((x0.size : Int) > 8))) || ((decide (((((ByteArray.data x0).getD 0 0).toNat : Nat) : Int) ≥ 48)) && (decide (((((ByteArray.data x0).getD 0 0).toNat : Nat) : Int) ≤ 57))) then
                                some false
                              else
                                ref_IsName.l0 N x0 N 0
                            else
                              none
                          else
                            none
                        else
                          none
                      else
                        none
                    else
                      none
                  else
                    none
                else
                  none
              else
                none
            else
              none
          else
            none
        else
          none
      else
        none
    else
      none := by kernel_rfl
theorem taut20 : ∀ p0 p1 p2 : Bool, ((!(!((p0) || (p1))) || ((!(p2)) || ((!((p0) || (p1))) && (p2))))) = true := by decide
theorem taut21 : ∀ p0 p1 p2 : Bool, ((!((!((p0) || (p1))) && (p2)) || ((!((p0) || (p1))) && (p2)))) = true := by decide
theorem ref_IsName.clean (N : Nat) (x0 : ByteArray) : ref_IsName.fn N x0 =
    bif (decide (0 < (x0.size : Int))) || !(!((seq x0 (⟨#[]⟩ : ByteArray)) || (decide ((x0.size : Int) > 8)))) then
      bif (decide (0 < (x0.size : Int))) || !((!((seq x0 (⟨#[]⟩ : ByteArray)) || (decide ((x0.size : Int) > 8)))) && (decide (((((ByteArray.data x0).getD 0 0).toNat : Nat) : Int) ≥ 48))) then
        bif ((seq x0 (⟨#[]⟩ : ByteArray)) || (decide ((x0.size : Int) > 8))) || ((decide (((((ByteArray.data x0).getD 0 0).toNat : Nat) : Int) ≥ 48)) && (decide (((((ByteArray.data x0).getD 0 0).toNat : Nat) : Int) ≤ 57))) then
          some false
        else
          ref_IsName.l0 N x0 N 0
      else
        none
    else
      none := by
  rw [ref_IsName.eq]; simp only [taut8, taut20, taut1, taut21, taut10, taut6, cond_true]

/-! ### ref_OwnersError: skyway/skywayref3.OwnersError -/
def ref_OwnersError.kp : List (Nat × List (Nat × Option (TypeId × Ty))) := [(5, [(3, none), (9, none), (10, none), (11, none)])]
noncomputable def ref_OwnersError.G (N : Nat) : List (Nat × Spec) := [(11, .pure (ref_IsName.S N))]
noncomputable def ref_OwnersError.E (N : Nat) : Env := mkEnv (ref_OwnersError.G N) N tyTab ref_OwnersError.kp
noncomputable def ref_OwnersError.fn (N : Nat) (x : List (ByteArray × ByteArray × ByteArray)) : Option Int := evFn (ref_OwnersError.E N) Try.prog 3 Try.f9 false [.cell (.sl 34 (.pair (.str) (.pair (.str) (.str))))] [.val (.cell (.int .i64))] x
noncomputable def ref_OwnersError.S (N : Nat) : PSpec := ⟨false, [.cell (.sl 34 (.pair (.str) (.pair (.str) (.str))))], [.val (.cell (.int .i64))], ref_OwnersError.fn N⟩
theorem f9_enters : Enters Try.prog 9 := ⟨Try.f9, Try.func9, by kernel_rfl, by kernel_rfl⟩
theorem ref_OwnersError.tab (N : Nat) : TabOk Try.prog (ref_OwnersError.G N) := ⟨⟨ref_IsName.enters, ref_IsName.sound N⟩, trivial⟩
theorem ref_OwnersError.enters : Enters Try.prog 9 := f9_enters
theorem ref_OwnersError.sound (N : Nat) : Sound Try.prog 9 (ref_OwnersError.S N) := evFn_sound (specs_tab (ref_OwnersError.tab N)) (inls_tab (ref_OwnersError.tab N)) mixed 3 Try.func9 _ _ _
noncomputable def ref_OwnersError.cd (N : Nat) (p : List Nat) : St → (Ex → St → Option Int) → Option Int := ev (ref_OwnersError.E N) Try.prog (callD (ref_OwnersError.E N) Try.prog 3) 0 (codeAt (bodyOf Try.f9) p)
noncomputable def ref_OwnersError.fin : Ex → St → Option Int := endK Try.prog Try.f9 [.val (.cell (.int .i64))]
noncomputable def ref_OwnersError.l0 (N : Nat) (x0 : List (ByteArray × ByteArray × ByteArray)) (k1 : Nat) (a2 : ByteArray) (a3 : Int) : Option Int :=
  loopN (norm ((ref_OwnersError.E N).keep 5) 0) (ref_OwnersError.cd N [1, 1, 1, 0, 1, 0, 0]) k1
  ⟨[.any, .any, .any, .sc (.string a2), .any, .any, .any, .any, .any, .ros false 34 (.pair (.str) (.pair (.str) (.str))) x0, .sc (.int .i64 (x0.length : Int)), .sc (.int .i64 a3), .any, .any, .any, .any, .any, .any, .any, .any, .any, .any, .any, .any, .any, .any, .any, .any, .any, .any, .any, .any, .any, .any, .any, .any, .any, .any, .any, .any, .any, .any, .any, .any, .any, .any, .any, .any], []⟩
  (blockK 0 (seqK (ref_OwnersError.cd N [1, 1, 1, 1]) ref_OwnersError.fin))
theorem ref_OwnersError.l0_zero (N : Nat) (x0 : List (ByteArray × ByteArray × ByteArray)) (a2 : ByteArray) (a3 : Int) : ref_OwnersError.l0 N x0 0 a2 a3 = none := by kernel_rfl
theorem ref_OwnersError.l0_succ (N : Nat) (x0 : List (ByteArray × ByteArray × ByteArray)) (k1 : Nat) (a2 : ByteArray) (a3 : Int) : ref_OwnersError.l0 N x0 (k1 + 1) a2 a3 =
    bif decide (a3 < (x0.length : Int)) then
      bif (decide (0 ≤ a3)) && (decide (a3 < (x0.length : Int))) then
        (ref_IsName.fn N ((List.getD x0 (Int.toNat a3) ((⟨#[]⟩ : ByteArray), ((⟨#[]⟩ : ByteArray), (⟨#[]⟩ : ByteArray)))).1)).bind fun r4 =>
        bif !(!(!r4)) || (!(!r4)) then
          bif !(!(!r4)) || (!(!r4)) then
            (bif (!(!r4)) then ref_IsName.fn N (((List.getD x0 (Int.toNat a3) ((⟨#[]⟩ : ByteArray), ((⟨#[]⟩ : ByteArray), (⟨#[]⟩ : ByteArray)))).2).1) else some (false)).bind fun r5 =>
            bif !(!(!r4)) || (!(!r4)) then
              bif (!r4) || (!(!r4)) then
                bif !(!((!r4) || (!r5))) || (!((!r4) || (!r5))) then
                  bif !(!((!r4) || (!r5))) || (!((!r4) || (!r5))) then
                    bif !(!((!r4) || (!r5))) || (!((!r4) || (!r5))) then
                      bif !((!((!r4) || (!r5))) && (!(seq (((List.getD x0 (Int.toNat a3) ((⟨#[]⟩ : ByteArray), ((⟨#[]⟩ : ByteArray), (⟨#[]⟩ : ByteArray)))).2).2) (⟨#[]⟩ : ByteArray)))) || ((!((!r4) || (!r5))) && (!(seq (((List.getD x0 (Int.toNat a3) ((⟨#[]⟩ : ByteArray), ((⟨#[]⟩ : ByteArray), (⟨#[]⟩ : ByteArray)))).2).2) (⟨#[]⟩ : ByteArray)))) then
                        bif !((!((!r4) || (!r5))) && (!(seq (((List.getD x0 (Int.toNat a3) ((⟨#[]⟩ : ByteArray), ((⟨#[]⟩ : ByteArray), (⟨#[]⟩ : ByteArray)))).2).2) (⟨#[]⟩ : ByteArray)))) || ((!((!r4) || (!r5))) && (!(seq (((List.getD x0 (Int.toNat a3) ((⟨#[]⟩ : ByteArray), ((⟨#[]⟩ : ByteArray), (⟨#[]⟩ : ByteArray)))).2).2) (⟨#[]⟩ : ByteArray)))) then
                          (bif ((!((!r4) || (!r5))) && (!(seq (((List.getD x0 (Int.toNat a3) ((⟨#[]⟩ : ByteArray), ((⟨#[]⟩ : ByteArray), (⟨#[]⟩ : ByteArray)))).2).2) (⟨#[]⟩ : ByteArray)))) then ref_IsName.fn N (((List.getD x0 (Int.toNat a3) ((⟨#[]⟩ : ByteArray), ((⟨#[]⟩ : ByteArray), (⟨#[]⟩ : ByteArray)))).2).2) else some (false)).bind fun r6 =>
                          bif !((!((!r4) || (!r5))) && (!(seq (((List.getD x0 (Int.toNat a3) ((⟨#[]⟩ : ByteArray), ((⟨#[]⟩ : ByteArray), (⟨#[]⟩ : ByteArray)))).2).2) (⟨#[]⟩ : ByteArray)))) || ((!((!r4) || (!r5))) && (!(seq (((List.getD x0 (Int.toNat a3) ((⟨#[]⟩ : ByteArray), ((⟨#[]⟩ : ByteArray), (⟨#[]⟩ : ByteArray)))).2).2) (⟨#[]⟩ : ByteArray)))) then
                            bif !(!((!r4) || (!r5))) || (!((!r4) || (!r5))) then
                              bif !(!((!r4) || (!r5))) || ((!(!(seq (((List.getD x0 (Int.toNat a3) ((⟨#[]⟩ : ByteArray), ((⟨#[]⟩ : ByteArray), (⟨#[]⟩ : ByteArray)))).2).2) (⟨#[]⟩ : ByteArray)))) || ((!((!r4) || (!r5))) && (!(seq (((List.getD x0 (Int.toNat a3) ((⟨#[]⟩ : ByteArray), ((⟨#[]⟩ : ByteArray), (⟨#[]⟩ : ByteArray)))).2).2) (⟨#[]⟩ : ByteArray))))) then
                                bif ((!r4) || (!r5)) || (!((!r4) || (!r5))) then
                                  bif ((!r4) || (!r5)) || ((!(seq (((List.getD x0 (Int.toNat a3) ((⟨#[]⟩ : ByteArray), ((⟨#[]⟩ : ByteArray), (⟨#[]⟩ : ByteArray)))).2).2) (⟨#[]⟩ : ByteArray))) && (!r6)) then
                                    some 3
                                  else
                                  bif seq (((List.getD x0 (Int.toNat a3) ((⟨#[]⟩ : ByteArray), ((⟨#[]⟩ : ByteArray), (⟨#[]⟩ : ByteArray)))).2).2) (((List.getD x0 (Int.toNat a3) ((⟨#[]⟩ : ByteArray), ((⟨#[]⟩ : ByteArray), (⟨#[]⟩ : ByteArray)))).2).1) then
                                    some 11
                                  else
                                  bif (slt ((List.getD x0 (Int.toNat a3) ((⟨#[]⟩ : ByteArray), ((⟨#[]⟩ : ByteArray), (⟨#[]⟩ : ByteArray)))).1) a2) || (seq ((List.getD x0 (Int.toNat a3) ((⟨#[]⟩ : ByteArray), ((⟨#[]⟩ : ByteArray), (⟨#[]⟩ : ByteArray)))).1) a2) then
                                    some 7
                                  else
                                    ref_OwnersError.l0 N x0 k1 ((List.getD x0 (Int.toNat a3) ((⟨#[]⟩ : ByteArray), ((⟨#[]⟩ : ByteArray), (⟨#[]⟩ : ByteArray)))).1) (w (a3 + 1))
                                else
                                  none
                              else
                                none
                            else
                              none
                          else
                            none
                        else
                          none
                      else
                        none
                    else
                      none
                  else
                    none
                else
                  none
              else
                none
            else
              none
          else
            none
        else
          none
      else
        none
    else
      some 0 := by kernel_rfl
theorem ref_OwnersError.l0_clean (N : Nat) (x0 : List (ByteArray × ByteArray × ByteArray)) (k1 : Nat) (a2 : ByteArray) (a3 : Int) : ref_OwnersError.l0 N x0 (k1 + 1) a2 a3 =
    bif decide (a3 < (x0.length : Int)) then
      bif (decide (0 ≤ a3)) && (decide (a3 < (x0.length : Int))) then
        (ref_IsName.fn N ((List.getD x0 (Int.toNat a3) ((⟨#[]⟩ : ByteArray), ((⟨#[]⟩ : ByteArray), (⟨#[]⟩ : ByteArray)))).1)).bind fun r4 =>
        (bif (!(!r4)) then ref_IsName.fn N (((List.getD x0 (Int.toNat a3) ((⟨#[]⟩ : ByteArray), ((⟨#[]⟩ : ByteArray), (⟨#[]⟩ : ByteArray)))).2).1) else some (false)).bind fun r5 =>
        (bif ((!((!r4) || (!r5))) && (!(seq (((List.getD x0 (Int.toNat a3) ((⟨#[]⟩ : ByteArray), ((⟨#[]⟩ : ByteArray), (⟨#[]⟩ : ByteArray)))).2).2) (⟨#[]⟩ : ByteArray)))) then ref_IsName.fn N (((List.getD x0 (Int.toNat a3) ((⟨#[]⟩ : ByteArray), ((⟨#[]⟩ : ByteArray), (⟨#[]⟩ : ByteArray)))).2).2) else some (false)).bind fun r6 =>
        bif ((!r4) || (!r5)) || ((!(seq (((List.getD x0 (Int.toNat a3) ((⟨#[]⟩ : ByteArray), ((⟨#[]⟩ : ByteArray), (⟨#[]⟩ : ByteArray)))).2).2) (⟨#[]⟩ : ByteArray))) && (!r6)) then
          some 3
        else
        bif seq (((List.getD x0 (Int.toNat a3) ((⟨#[]⟩ : ByteArray), ((⟨#[]⟩ : ByteArray), (⟨#[]⟩ : ByteArray)))).2).2) (((List.getD x0 (Int.toNat a3) ((⟨#[]⟩ : ByteArray), ((⟨#[]⟩ : ByteArray), (⟨#[]⟩ : ByteArray)))).2).1) then
          some 11
        else
        bif (slt ((List.getD x0 (Int.toNat a3) ((⟨#[]⟩ : ByteArray), ((⟨#[]⟩ : ByteArray), (⟨#[]⟩ : ByteArray)))).1) a2) || (seq ((List.getD x0 (Int.toNat a3) ((⟨#[]⟩ : ByteArray), ((⟨#[]⟩ : ByteArray), (⟨#[]⟩ : ByteArray)))).1) a2) then
          some 7
        else
          ref_OwnersError.l0 N x0 k1 ((List.getD x0 (Int.toNat a3) ((⟨#[]⟩ : ByteArray), ((⟨#[]⟩ : ByteArray), (⟨#[]⟩ : ByteArray)))).1) (w (a3 + 1))
      else
        none
    else
      some 0 := by
  rw [ref_OwnersError.l0_succ]; simp only [taut11, taut12, taut13, taut14, taut17, taut18, cond_true]
theorem ref_OwnersError.l0_cons (N : Nat) (x0 : List (ByteArray × ByteArray × ByteArray)) (k1 : Nat) (a2 : ByteArray) {pre r} {x} (hl : x0 = pre ++ x :: r) (hb : x0.length < 4611686018427387904) : ref_OwnersError.l0 N x0 (k1 + 1) a2 (pre.length : Int) =
    (ref_IsName.fn N (x.1)).bind fun r4 =>
    (bif (!(!r4)) then ref_IsName.fn N ((x.2).1) else some (false)).bind fun r5 =>
    (bif ((!((!r4) || (!r5))) && (!(seq ((x.2).2) (⟨#[]⟩ : ByteArray)))) then ref_IsName.fn N ((x.2).2) else some (false)).bind fun r6 =>
    bif ((!r4) || (!r5)) || ((!(seq ((x.2).2) (⟨#[]⟩ : ByteArray))) && (!r6)) then
      some 3
    else
    bif seq ((x.2).2) ((x.2).1) then
      some 11
    else
    bif (slt (x.1) a2) || (seq (x.1) a2) then
      some 7
    else
      ref_OwnersError.l0 N x0 k1 x.1 ((pre.length : Int) + 1) := by
  have hlen : x0.length = pre.length + 1 + r.length := by rw [hl]; simp; omega
  have e1 : decide ((pre.length : Int) < (x0.length : Int)) = true := by rw [decide_eq_true_iff]; omega
  have e2 : decide (0 ≤ (pre.length : Int)) = true := by rw [decide_eq_true_iff]; omega
  have e4 : w ((pre.length : Int) + 1) = (pre.length : Int) + 1 := w_next hl hb
  have e5 : List.take pre.length x0 = pre := by rw [hl]; simp
  have e6 : decide ((pre.length : Int) ≤ (x0.length : Int)) = true := by rw [decide_eq_true_iff]; omega
  have g0 : List.getD x0 pre.length ((⟨#[]⟩ : ByteArray), ((⟨#[]⟩ : ByteArray), (⟨#[]⟩ : ByteArray))) = x := by rw [hl]; exact getD_mid pre x r _
  rw [ref_OwnersError.l0_clean]
  simp -implicitDefEqProofs only [Int.toNat_natCast, e1, e2, e4, e6, g0, e5, Bool.and_true, Bool.true_and, Bool.true_or, cond_true]
theorem ref_OwnersError.l0_nil (N : Nat) (x0 : List (ByteArray × ByteArray × ByteArray)) (k1 : Nat) (a2 : ByteArray) : ref_OwnersError.l0 N x0 (k1 + 1) a2 (x0.length : Int) =
    some 0 := by
  have e1 : decide ((x0.length : Int) < (x0.length : Int)) = false := by rw [decide_eq_false_iff_not]; omega
  rw [ref_OwnersError.l0_clean]
  simp -implicitDefEqProofs only [e1, cond_false]
theorem ref_OwnersError.eq (N : Nat) (x0 : List (ByteArray × ByteArray × ByteArray)) : ref_OwnersError.fn N x0 =
    bif decide ((x0.length : Int) > 24) then
      some 2
    else
      ref_OwnersError.l0 N x0 N (⟨#[]⟩ : ByteArray) 0 := by kernel_rfl

/-! ### law_OwnerChecks: skyway/skywaylaw3.OwnerChecks -/
def law_OwnerChecks.kp : List (Nat × List (Nat × Option (TypeId × Ty))) := []
noncomputable def law_OwnerChecks.G (N : Nat) : List (Nat × Spec) := [(7, .pure (law_ownerFact.S N)), (8, .pure (owner_Check.S N)), (9, .pure (ref_OwnersError.S N)), (10, .pure (owner_Name.S N)), (11, .pure (ref_IsName.S N))]
noncomputable def law_OwnerChecks.E (N : Nat) : Env := mkEnv (law_OwnerChecks.G N) N tyTab law_OwnerChecks.kp
noncomputable def law_OwnerChecks.fn (N : Nat) (x : List (ByteArray × ByteArray × ByteArray) × ByteArray) : Option Bool := evFn (law_OwnerChecks.E N) Try.prog 3 Try.f3 false [.cell (.sl 34 (.pair (.str) (.pair (.str) (.str)))), .cell (.str)] [.val (.cell (.bool))] x
noncomputable def law_OwnerChecks.S (N : Nat) : PSpec := ⟨false, [.cell (.sl 34 (.pair (.str) (.pair (.str) (.str)))), .cell (.str)], [.val (.cell (.bool))], law_OwnerChecks.fn N⟩
theorem f3_enters : Enters Try.prog 3 := ⟨Try.f3, Try.func3, by kernel_rfl, by kernel_rfl⟩
theorem law_OwnerChecks.tab (N : Nat) : TabOk Try.prog (law_OwnerChecks.G N) := ⟨⟨law_ownerFact.enters, law_ownerFact.sound N⟩, ⟨owner_Check.enters, owner_Check.sound N⟩, ⟨ref_OwnersError.enters, ref_OwnersError.sound N⟩, ⟨owner_Name.enters, owner_Name.sound N⟩, ⟨ref_IsName.enters, ref_IsName.sound N⟩, trivial⟩
theorem law_OwnerChecks.enters : Enters Try.prog 3 := f3_enters
theorem law_OwnerChecks.sound (N : Nat) : Sound Try.prog 3 (law_OwnerChecks.S N) := evFn_sound (specs_tab (law_OwnerChecks.tab N)) (inls_tab (law_OwnerChecks.tab N)) mixed 3 Try.func3 _ _ _
theorem law_OwnerChecks.eq (N : Nat) (x0 : List (ByteArray × ByteArray × ByteArray)) (x1 : ByteArray) : law_OwnerChecks.fn N (x0, x1) =
    (law_ownerFact.fn N ()).bind fun r1 =>
    bif !r1 || r1 then
      (bif r1 then owner_Check.fn N x0 else some (0)).bind fun r2 =>
      bif !r1 || r1 then
        (bif r1 then ref_OwnersError.fn N x0 else some (0)).bind fun r3 =>
        bif !r1 || r1 then
          bif !r1 || r1 then
            bif (!r1) || r1 then
              bif !(r1 && (r2 == r3)) || (r1 && (r2 == r3)) then
                (bif (r1 && (r2 == r3)) then owner_Name.fn N x1 else some (false)).bind fun r4 =>
                bif !(r1 && (r2 == r3)) || (r1 && (r2 == r3)) then
                  (bif (r1 && (r2 == r3)) then ref_IsName.fn N x1 else some (false)).bind fun r5 =>
                  bif !(r1 && (r2 == r3)) || (r1 && (r2 == r3)) then
                    bif !(r1 && (r2 == r3)) || (r1 && (r2 == r3)) then
                      bif (!(r1 && (r2 == r3))) || (r1 && (r2 == r3)) then
                        some ((r1 && (r2 == r3)) && (r4 == r5))
                      else
                        none
                    else
                      none
                  else
                    none
                else
                  none
              else
                none
            else
              none
          else
            none
        else
          none
      else
        none
    else
      none := by kernel_rfl
theorem taut22 : ∀ p0 p1 : Bool, ((!(p0 && (p1)) || (p0 && (p1)))) = true := by decide
theorem taut23 : ∀ p0 : Bool, ((!p0 || p0)) = true := by decide
theorem taut24 : ∀ p0 p1 : Bool, (((!(p0 && (p1))) || (p0 && (p1)))) = true := by decide
theorem taut25 : ∀ p0 : Bool, (((!p0) || p0)) = true := by decide
theorem law_OwnerChecks.clean (N : Nat) (x0 : List (ByteArray × ByteArray × ByteArray)) (x1 : ByteArray) : law_OwnerChecks.fn N (x0, x1) =
    (law_ownerFact.fn N ()).bind fun r1 =>
    (bif r1 then owner_Check.fn N x0 else some (0)).bind fun r2 =>
    (bif r1 then ref_OwnersError.fn N x0 else some (0)).bind fun r3 =>
    (bif (r1 && (r2 == r3)) then owner_Name.fn N x1 else some (false)).bind fun r4 =>
    (bif (r1 && (r2 == r3)) then ref_IsName.fn N x1 else some (false)).bind fun r5 =>
    some ((r1 && (r2 == r3)) && (r4 == r5)) := by
  rw [law_OwnerChecks.eq]; simp only [taut22, taut23, taut24, taut25, cond_true]

/-! ### ref_OwnerAt: skyway/skywayref3.OwnerAt -/
def ref_OwnerAt.kp : List (Nat × List (Nat × Option (TypeId × Ty))) := [(2, [(1, none), (7, none), (8, none), (9, none)])]
noncomputable def ref_OwnerAt.G (N : Nat) : List (Nat × Spec) := []
noncomputable def ref_OwnerAt.E (N : Nat) : Env := mkEnv (ref_OwnerAt.G N) N tyTab ref_OwnerAt.kp
noncomputable def ref_OwnerAt.fn (N : Nat) (x : List (ByteArray × ByteArray × ByteArray) × ByteArray) : Option Int := evFn (ref_OwnerAt.E N) Try.prog 3 Try.f21 false [.cell (.sl 34 (.pair (.str) (.pair (.str) (.str)))), .cell (.str)] [.val (.cell (.int .i64))] x
noncomputable def ref_OwnerAt.S (N : Nat) : PSpec := ⟨false, [.cell (.sl 34 (.pair (.str) (.pair (.str) (.str)))), .cell (.str)], [.val (.cell (.int .i64))], ref_OwnerAt.fn N⟩
theorem f21_enters : Enters Try.prog 21 := ⟨Try.f21, Try.func21, by kernel_rfl, by kernel_rfl⟩
theorem ref_OwnerAt.tab (N : Nat) : TabOk Try.prog (ref_OwnerAt.G N) := trivial
theorem ref_OwnerAt.enters : Enters Try.prog 21 := f21_enters
theorem ref_OwnerAt.sound (N : Nat) : Sound Try.prog 21 (ref_OwnerAt.S N) := evFn_sound (specs_tab (ref_OwnerAt.tab N)) (inls_tab (ref_OwnerAt.tab N)) mixed 3 Try.func21 _ _ _
noncomputable def ref_OwnerAt.cd (N : Nat) (p : List Nat) : St → (Ex → St → Option Int) → Option Int := ev (ref_OwnerAt.E N) Try.prog (callD (ref_OwnerAt.E N) Try.prog 3) 0 (codeAt (bodyOf Try.f21) p)
noncomputable def ref_OwnerAt.fin : Ex → St → Option Int := endK Try.prog Try.f21 [.val (.cell (.int .i64))]
noncomputable def ref_OwnerAt.l0 (N : Nat) (x0 : List (ByteArray × ByteArray × ByteArray)) (x1 : ByteArray) (k1 : Nat) (a2 : Int) : Option Int :=
  loopN (norm ((ref_OwnerAt.E N).keep 2) 0) (ref_OwnerAt.cd N [1, 0, 1, 0, 0]) k1
  ⟨[.any, .sc (.string x1), .any, .any, .any, .any, .any, .ros false 34 (.pair (.str) (.pair (.str) (.str))) x0, .sc (.int .i64 (x0.length : Int)), .sc (.int .i64 a2), .any, .any, .any, .any, .any, .any, .any, .any, .any, .any], []⟩
  (blockK 0 (seqK (ref_OwnerAt.cd N [1, 1]) ref_OwnerAt.fin))
theorem ref_OwnerAt.l0_zero (N : Nat) (x0 : List (ByteArray × ByteArray × ByteArray)) (x1 : ByteArray) (a2 : Int) : ref_OwnerAt.l0 N x0 x1 0 a2 = none := by kernel_rfl
theorem ref_OwnerAt.l0_succ (N : Nat) (x0 : List (ByteArray × ByteArray × ByteArray)) (x1 : ByteArray) (k1 : Nat) (a2 : Int) : ref_OwnerAt.l0 N x0 x1 (k1 + 1) a2 =
    bif decide (a2 < (x0.length : Int)) then
      bif (decide (0 ≤ a2)) && (decide (a2 < (x0.length : Int))) then
        bif seq ((List.getD x0 (Int.toNat a2) ((⟨#[]⟩ : ByteArray), ((⟨#[]⟩ : ByteArray), (⟨#[]⟩ : ByteArray)))).1) x1 then
          some a2
        else
          ref_OwnerAt.l0 N x0 x1 k1 (w (a2 + 1))
      else
        none
    else
      some (-1) := by kernel_rfl
theorem ref_OwnerAt.l0_cons (N : Nat) (x0 : List (ByteArray × ByteArray × ByteArray)) (x1 : ByteArray) (k1 : Nat) {pre r} {x} (hl : x0 = pre ++ x :: r) (hb : x0.length < 4611686018427387904) : ref_OwnerAt.l0 N x0 x1 (k1 + 1) (pre.length : Int) =
    bif seq (x.1) x1 then
      some (pre.length : Int)
    else
      ref_OwnerAt.l0 N x0 x1 k1 ((pre.length : Int) + 1) := by
  have hlen : x0.length = pre.length + 1 + r.length := by rw [hl]; simp; omega
  have e1 : decide ((pre.length : Int) < (x0.length : Int)) = true := by rw [decide_eq_true_iff]; omega
  have e2 : decide (0 ≤ (pre.length : Int)) = true := by rw [decide_eq_true_iff]; omega
  have e4 : w ((pre.length : Int) + 1) = (pre.length : Int) + 1 := w_next hl hb
  have e5 : List.take pre.length x0 = pre := by rw [hl]; simp
  have e6 : decide ((pre.length : Int) ≤ (x0.length : Int)) = true := by rw [decide_eq_true_iff]; omega
  have g0 : List.getD x0 pre.length ((⟨#[]⟩ : ByteArray), ((⟨#[]⟩ : ByteArray), (⟨#[]⟩ : ByteArray))) = x := by rw [hl]; exact getD_mid pre x r _
  rw [ref_OwnerAt.l0_succ]
  simp -implicitDefEqProofs only [Int.toNat_natCast, e1, e2, e4, e6, g0, e5, Bool.and_true, Bool.true_and, Bool.true_or, cond_true]
theorem ref_OwnerAt.l0_nil (N : Nat) (x0 : List (ByteArray × ByteArray × ByteArray)) (x1 : ByteArray) (k1 : Nat) : ref_OwnerAt.l0 N x0 x1 (k1 + 1) (x0.length : Int) =
    some (-1) := by
  have e1 : decide ((x0.length : Int) < (x0.length : Int)) = false := by rw [decide_eq_false_iff_not]; omega
  rw [ref_OwnerAt.l0_succ]
  simp -implicitDefEqProofs only [e1, cond_false]
theorem ref_OwnerAt.eq (N : Nat) (x0 : List (ByteArray × ByteArray × ByteArray)) (x1 : ByteArray) : ref_OwnerAt.fn N (x0, x1) =
    ref_OwnerAt.l0 N x0 x1 N 0 := by kernel_rfl

/-! ### ref_OwnersWith: skyway/skywayref3.OwnersWith -/
def ref_OwnersWith.kp : List (Nat × List (Nat × Option (TypeId × Ty))) := [(4, [(3, none), (5, some (34, .pair (.str) (.pair (.str) (.str)))), (6, none), (12, none), (13, none), (14, none)]), (1000009, [(3, none), (5, none), (6, none), (8, none), (12, none), (13, none), (14, none)])]
noncomputable def ref_OwnersWith.G (N : Nat) : List (Nat × Spec) := []
noncomputable def ref_OwnersWith.E (N : Nat) : Env := mkEnv (ref_OwnersWith.G N) N tyTab ref_OwnersWith.kp
noncomputable def ref_OwnersWith.fn (N : Nat) (x : List (ByteArray × ByteArray × ByteArray) × ByteArray × ByteArray × ByteArray) : Option (List (ByteArray × ByteArray × ByteArray)) := evFn (ref_OwnersWith.E N) Try.prog 3 Try.f32 false [.cell (.sl 34 (.pair (.str) (.pair (.str) (.str)))), .agg (.pair (.str) (.pair (.str) (.str)))] [.own 34 (.pair (.str) (.pair (.str) (.str)))] x
noncomputable def ref_OwnersWith.S (N : Nat) : PSpec := ⟨false, [.cell (.sl 34 (.pair (.str) (.pair (.str) (.str)))), .agg (.pair (.str) (.pair (.str) (.str)))], [.own 34 (.pair (.str) (.pair (.str) (.str)))], ref_OwnersWith.fn N⟩
theorem f32_enters : Enters Try.prog 32 := ⟨Try.f32, Try.func32, by kernel_rfl, by kernel_rfl⟩
theorem ref_OwnersWith.tab (N : Nat) : TabOk Try.prog (ref_OwnersWith.G N) := trivial
theorem ref_OwnersWith.enters : Enters Try.prog 32 := f32_enters
theorem ref_OwnersWith.sound (N : Nat) : Sound Try.prog 32 (ref_OwnersWith.S N) := evFn_sound (specs_tab (ref_OwnersWith.tab N)) (inls_tab (ref_OwnersWith.tab N)) mixed 3 Try.func32 _ _ _
noncomputable def ref_OwnersWith.cd (N : Nat) (p : List Nat) : St → (Ex → St → Option (List (ByteArray × ByteArray × ByteArray))) → Option (List (ByteArray × ByteArray × ByteArray)) := ev (ref_OwnersWith.E N) Try.prog (callD (ref_OwnersWith.E N) Try.prog 3) 0 (codeAt (bodyOf Try.f32) p)
noncomputable def ref_OwnersWith.fin : Ex → St → Option (List (ByteArray × ByteArray × ByteArray)) := endK Try.prog Try.f32 [.own 34 (.pair (.str) (.pair (.str) (.str)))]
noncomputable def ref_OwnersWith.l0 (N : Nat) (x0 : List (ByteArray × ByteArray × ByteArray)) (x1 : ByteArray × ByteArray × ByteArray) (k1 : Nat) (a2 : Bool) (a3 : Int) (a4 : List (ByteArray × ByteArray × ByteArray)) : Option (List (ByteArray × ByteArray × ByteArray)) :=
  loopN (norm ((ref_OwnersWith.E N).keep 4) 0) (ref_OwnersWith.cd N [1, 1, 1, 0, 1, 0, 0]) k1
  ⟨[.any, .any, .any, .ptr 0 0, .any, .own 1, .sc (.bool a2), .any, .any, .any, .any, .any, .ros false 34 (.pair (.str) (.pair (.str) (.str))) x0, .sc (.int .i64 (x0.length : Int)), .sc (.int .i64 a3), .any, .any, .any, .any, .any, .any, .any, .any, .any, .any, .any, .any, .any, .any, .any, .any, .any, .any, .any, .any, .any, .any, .any, .any, .any, .any, .any, .any, .any, .any, .any, .any, .any], [.cells [.sc (.string x1.1), .sc (.string x1.2.1), .sc (.string x1.2.2)] 34, .rows true 34 (.pair (.str) (.pair (.str) (.str))) a4]⟩
  (blockK 0 (seqK (ref_OwnersWith.cd N [1, 1, 1, 1]) ref_OwnersWith.fin))
noncomputable def ref_OwnersWith.j1 (N : Nat) (x0 : List (ByteArray × ByteArray × ByteArray)) (x1 : ByteArray × ByteArray × ByteArray) (k1 : Nat) (a3 : Int) (a5 : Bool) (a6 : List (ByteArray × ByteArray × ByteArray)) : Option (List (ByteArray × ByteArray × ByteArray)) :=
  fuelK N (region (ref_OwnersWith.E N) Try.prog (callD (ref_OwnersWith.E N) Try.prog 3) (opsAt (codeAt (bodyOf Try.f32) [1, 1, 1, 0, 1, 0, 0, 1, 1, 0, 0, 1, 1, 0])) false
  ⟨[.any, .any, .any, .ptr 0 0, .any, .own 1, .sc (.bool a5), .any, .ptr 2 0, .any, .any, .any, .ros false 34 (.pair (.str) (.pair (.str) (.str))) x0, .sc (.int .i64 (x0.length : Int)), .sc (.int .i64 a3), .any, .any, .any, .any, .any, .any, .any, .any, .any, .any, .any, .any, .any, .any, .any, .any, .any, .any, .any, .any, .any, .any, .any, .any, .any, .any, .any, .any, .any, .any, .any, .any, .any], [.cells [.sc (.string x1.1), .sc (.string x1.2.1), .sc (.string x1.2.2)] 34, .rows true 34 (.pair (.str) (.pair (.str) (.str))) a6, .cells [.sc (.string ((List.getD x0 (Int.toNat a3) ((⟨#[]⟩ : ByteArray), ((⟨#[]⟩ : ByteArray), (⟨#[]⟩ : ByteArray)))).1)), .sc (.string (((List.getD x0 (Int.toNat a3) ((⟨#[]⟩ : ByteArray), ((⟨#[]⟩ : ByteArray), (⟨#[]⟩ : ByteArray)))).2).1)), .sc (.string (((List.getD x0 (Int.toNat a3) ((⟨#[]⟩ : ByteArray), ((⟨#[]⟩ : ByteArray), (⟨#[]⟩ : ByteArray)))).2).2))] 34]⟩
  (fun S => (seqK (ref_OwnersWith.cd N [1, 1, 1, 0, 1, 0, 0, 1, 1, 0, 0, 1, 1, 1]) (blockK 1 (seqK (ref_OwnersWith.cd N [1, 1, 1, 0, 1, 0, 0, 1, 1, 1]) (loopK (norm ((ref_OwnersWith.E N).keep 4) 0) (ref_OwnersWith.cd N [1, 1, 1, 0, 1, 0, 0]) k1 (blockK 0 (seqK (ref_OwnersWith.cd N [1, 1, 1, 1]) ref_OwnersWith.fin)))))) .normal S))
theorem ref_OwnersWith.j1_eq (N : Nat) (x0 : List (ByteArray × ByteArray × ByteArray)) (x1 : ByteArray × ByteArray × ByteArray) (k1 : Nat) (a3 : Int) (a5 : Bool) (a6 : List (ByteArray × ByteArray × ByteArray)) {M : Nat} (hM : N = M + 1) : ref_OwnersWith.j1 N x0 x1 k1 a3 a5 a6 =
    bif !(seq ((List.getD x0 (Int.toNat a3) ((⟨#[]⟩ : ByteArray), ((⟨#[]⟩ : ByteArray), (⟨#[]⟩ : ByteArray)))).1) x1.1) then
      bif decide ((a6.length + 1) * 48 ≤ 140737488355328) && decide ((a6.length + 1) ≤ maxLen) then
        ref_OwnersWith.l0 N x0 x1 k1 a5 (w (a3 + 1)) (a6 ++ [List.getD x0 (Int.toNat a3) ((⟨#[]⟩ : ByteArray), ((⟨#[]⟩ : ByteArray), (⟨#[]⟩ : ByteArray)))])
      else
        none
    else
      ref_OwnersWith.l0 N x0 x1 k1 a5 (w (a3 + 1)) a6 := (fuelK_eq hM _).trans (by kernel_rfl)
theorem ref_OwnersWith.l0_zero (N : Nat) (x0 : List (ByteArray × ByteArray × ByteArray)) (x1 : ByteArray × ByteArray × ByteArray) (a2 : Bool) (a3 : Int) (a4 : List (ByteArray × ByteArray × ByteArray)) : ref_OwnersWith.l0 N x0 x1 0 a2 a3 a4 = none := by kernel_rfl
theorem ref_OwnersWith.l0_succ (N : Nat) (x0 : List (ByteArray × ByteArray × ByteArray)) (x1 : ByteArray × ByteArray × ByteArray) (k1 : Nat) (a2 : Bool) (a3 : Int) (a4 : List (ByteArray × ByteArray × ByteArray)) : ref_OwnersWith.l0 N x0 x1 (k1 + 1) a2 a3 a4 =
    bif decide (a3 < (x0.length : Int)) then
      bif (decide (0 ≤ a3)) && (decide (a3 < (x0.length : Int))) then
        bif !(!a2) || (!a2) then
          bif !(!a2) || (!a2) then
            bif !(!a2) || (!a2) then
              bif !(!a2) || (!a2) then
                bif (!(!a2)) || (!a2) then
                  bif (!a2) && (!(slt ((List.getD x0 (Int.toNat a3) ((⟨#[]⟩ : ByteArray), ((⟨#[]⟩ : ByteArray), (⟨#[]⟩ : ByteArray)))).1) x1.1)) then
                    bif decide ((a4.length + 1) * 48 ≤ 140737488355328) && decide ((a4.length + 1) ≤ maxLen) then
                      ref_OwnersWith.j1 N x0 x1 k1 a3 true (a4 ++ [x1])
                    else
                      none
                  else
                    ref_OwnersWith.j1 N x0 x1 k1 a3 a2 a4
                else
                  none
              else
                none
            else
              none
          else
            none
        else
          none
      else
        none
    else
    bif !a2 then
      bif decide ((a4.length + 1) * 48 ≤ 140737488355328) && decide ((a4.length + 1) ≤ maxLen) then
        some (a4 ++ [x1])
      else
        none
    else
      some a4 := by kernel_rfl
theorem taut26 : ∀ p0 : Bool, ((!(!p0) || (!p0))) = true := by decide
theorem taut27 : ∀ p0 : Bool, (((!(!p0)) || (!p0))) = true := by decide
theorem ref_OwnersWith.l0_clean (N : Nat) (x0 : List (ByteArray × ByteArray × ByteArray)) (x1 : ByteArray × ByteArray × ByteArray) (k1 : Nat) (a2 : Bool) (a3 : Int) (a4 : List (ByteArray × ByteArray × ByteArray)) : ref_OwnersWith.l0 N x0 x1 (k1 + 1) a2 a3 a4 =
    bif decide (a3 < (x0.length : Int)) then
      bif (decide (0 ≤ a3)) && (decide (a3 < (x0.length : Int))) then
        bif (!a2) && (!(slt ((List.getD x0 (Int.toNat a3) ((⟨#[]⟩ : ByteArray), ((⟨#[]⟩ : ByteArray), (⟨#[]⟩ : ByteArray)))).1) x1.1)) then
          bif decide ((a4.length + 1) * 48 ≤ 140737488355328) && decide ((a4.length + 1) ≤ maxLen) then
            ref_OwnersWith.j1 N x0 x1 k1 a3 true (a4 ++ [x1])
          else
            none
        else
          ref_OwnersWith.j1 N x0 x1 k1 a3 a2 a4
      else
        none
    else
    bif !a2 then
      bif decide ((a4.length + 1) * 48 ≤ 140737488355328) && decide ((a4.length + 1) ≤ maxLen) then
        some (a4 ++ [x1])
      else
        none
    else
      some a4 := by
  rw [ref_OwnersWith.l0_succ]; simp only [taut26, taut27, cond_true]
theorem ref_OwnersWith.l0_cons (N : Nat) (x0 : List (ByteArray × ByteArray × ByteArray)) (x1 : ByteArray × ByteArray × ByteArray) (k1 : Nat) (a2 : Bool) (a4 : List (ByteArray × ByteArray × ByteArray)) {pre r} {x} (hl : x0 = pre ++ x :: r) (hb : x0.length < 4611686018427387904) : ref_OwnersWith.l0 N x0 x1 (k1 + 1) a2 (pre.length : Int) a4 =
    bif (!a2) && (!(slt (x.1) x1.1)) then
      bif decide ((a4.length + 1) * 48 ≤ 140737488355328) && decide ((a4.length + 1) ≤ maxLen) then
        ref_OwnersWith.j1 N x0 x1 k1 (pre.length : Int) true (a4 ++ [x1])
      else
        none
    else
      ref_OwnersWith.j1 N x0 x1 k1 (pre.length : Int) a2 a4 := by
  have hlen : x0.length = pre.length + 1 + r.length := by rw [hl]; simp; omega
  have e1 : decide ((pre.length : Int) < (x0.length : Int)) = true := by rw [decide_eq_true_iff]; omega
  have e2 : decide (0 ≤ (pre.length : Int)) = true := by rw [decide_eq_true_iff]; omega
  have e4 : w ((pre.length : Int) + 1) = (pre.length : Int) + 1 := w_next hl hb
  have e5 : List.take pre.length x0 = pre := by rw [hl]; simp
  have e6 : decide ((pre.length : Int) ≤ (x0.length : Int)) = true := by rw [decide_eq_true_iff]; omega
  have g0 : List.getD x0 pre.length ((⟨#[]⟩ : ByteArray), ((⟨#[]⟩ : ByteArray), (⟨#[]⟩ : ByteArray))) = x := by rw [hl]; exact getD_mid pre x r _
  rw [ref_OwnersWith.l0_clean]
  simp -implicitDefEqProofs only [Int.toNat_natCast, e1, e2, e4, e6, g0, e5, Bool.and_true, Bool.true_and, Bool.true_or, cond_true]
theorem ref_OwnersWith.l0_nil (N : Nat) (x0 : List (ByteArray × ByteArray × ByteArray)) (x1 : ByteArray × ByteArray × ByteArray) (k1 : Nat) (a2 : Bool) (a4 : List (ByteArray × ByteArray × ByteArray)) : ref_OwnersWith.l0 N x0 x1 (k1 + 1) a2 (x0.length : Int) a4 =
    bif !a2 then
      bif decide ((a4.length + 1) * 48 ≤ 140737488355328) && decide ((a4.length + 1) ≤ maxLen) then
        some (a4 ++ [x1])
      else
        none
    else
      some a4 := by
  have e1 : decide ((x0.length : Int) < (x0.length : Int)) = false := by rw [decide_eq_false_iff_not]; omega
  rw [ref_OwnersWith.l0_clean]
  simp -implicitDefEqProofs only [e1, cond_false]
theorem ref_OwnersWith.eq (N : Nat) (x0 : List (ByteArray × ByteArray × ByteArray)) (x1 : ByteArray × ByteArray × ByteArray) : ref_OwnersWith.fn N (x0, x1) =
    ref_OwnersWith.l0 N x0 x1 N (seq x1.2.1 (⟨#[]⟩ : ByteArray)) 0 [] := by kernel_rfl

/-! ### ref_OwnerStep: skyway/skywayref3.OwnerStep -/
def ref_OwnerStep.kp : List (Nat × List (Nat × Option (TypeId × Ty))) := []
noncomputable def ref_OwnerStep.G (N : Nat) : List (Nat × Spec) := [(11, .pure (ref_IsName.S N)), (21, .pure (ref_OwnerAt.S N)), (32, .pure (ref_OwnersWith.S N))]
noncomputable def ref_OwnerStep.E (N : Nat) : Env := mkEnv (ref_OwnerStep.G N) N tyTab ref_OwnerStep.kp
noncomputable def ref_OwnerStep.fn (N : Nat) (x : List (ByteArray × ByteArray × ByteArray) × Int × ByteArray × ByteArray × ByteArray) : Option (List (ByteArray × ByteArray × ByteArray) × Int) := evFn (ref_OwnerStep.E N) Try.prog 3 Try.f17 false [.cell (.sl 34 (.pair (.str) (.pair (.str) (.str)))), .cell (.int .i64), .cell (.str), .cell (.str), .cell (.str)] [.own 34 (.pair (.str) (.pair (.str) (.str))), .val (.cell (.int .i64))] x
noncomputable def ref_OwnerStep.S (N : Nat) : PSpec := ⟨false, [.cell (.sl 34 (.pair (.str) (.pair (.str) (.str)))), .cell (.int .i64), .cell (.str), .cell (.str), .cell (.str)], [.own 34 (.pair (.str) (.pair (.str) (.str))), .val (.cell (.int .i64))], ref_OwnerStep.fn N⟩
theorem f17_enters : Enters Try.prog 17 := ⟨Try.f17, Try.func17, by kernel_rfl, by kernel_rfl⟩
theorem ref_OwnerStep.tab (N : Nat) : TabOk Try.prog (ref_OwnerStep.G N) := ⟨⟨ref_IsName.enters, ref_IsName.sound N⟩, ⟨ref_OwnerAt.enters, ref_OwnerAt.sound N⟩, ⟨ref_OwnersWith.enters, ref_OwnersWith.sound N⟩, trivial⟩
theorem ref_OwnerStep.enters : Enters Try.prog 17 := f17_enters
theorem ref_OwnerStep.sound (N : Nat) : Sound Try.prog 17 (ref_OwnerStep.S N) := evFn_sound (specs_tab (ref_OwnerStep.tab N)) (inls_tab (ref_OwnerStep.tab N)) mixed 3 Try.func17 _ _ _
theorem ref_OwnerStep.eq (N : Nat) (x0 : List (ByteArray × ByteArray × ByteArray)) (x1 : Int) (x2 : ByteArray) (x3 : ByteArray) (x4 : ByteArray) : ref_OwnerStep.fn N (x0, x1, x2, x3, x4) =
    (ref_OwnerAt.fn N (x0, x2)).bind fun r1 =>
    bif x1 == 0 then
      (ref_IsName.fn N x2).bind fun r2 =>
      bif !(!(!r2)) || (!(!r2)) then
        (bif (!(!r2)) then ref_IsName.fn N x3 else some (false)).bind fun r3 =>
        bif !(!(!r2)) || (!(!r2)) then
          bif (!r2) || (!(!r2)) then
            bif (!r2) || (!r3) then
              some ([], 3)
            else
            bif decide (r1 ≥ 0) then
              some ([], 7)
            else
            bif decide ((x0.length : Int) ≥ 24) then
              some ([], 9)
            else
              (ref_OwnersWith.fn N (x0, (x2, (x3, (⟨#[]⟩ : ByteArray))))).bind fun r4 =>
              some (r4, 0)
          else
            none
        else
          none
      else
        none
    else
    bif decide (r1 < 0) then
      some ([], 8)
    else
    bif (decide (0 ≤ r1)) && (decide (r1 < (x0.length : Int))) then
      bif x1 == 1 then
        bif !(seq (((List.getD x0 (Int.toNat r1) ((⟨#[]⟩ : ByteArray), ((⟨#[]⟩ : ByteArray), (⟨#[]⟩ : ByteArray)))).2).1) x3) then
          some ([], 16)
        else
          (ref_OwnersWith.fn N (x0, (x2, ((⟨#[]⟩ : ByteArray), (⟨#[]⟩ : ByteArray))))).bind fun r5 =>
          some (r5, 0)
      else
      bif x1 == 2 then
        bif !(seq (((List.getD x0 (Int.toNat r1) ((⟨#[]⟩ : ByteArray), ((⟨#[]⟩ : ByteArray), (⟨#[]⟩ : ByteArray)))).2).1) x3) then
          some ([], 16)
        else
        bif !(seq (((List.getD x0 (Int.toNat r1) ((⟨#[]⟩ : ByteArray), ((⟨#[]⟩ : ByteArray), (⟨#[]⟩ : ByteArray)))).2).2) (⟨#[]⟩ : ByteArray)) then
          some ([], 11)
        else
          (ref_IsName.fn N x4).bind fun r6 =>
          bif !r6 then
            some ([], 3)
          else
          bif seq x4 x3 then
            some ([], 1)
          else
            (ref_OwnersWith.fn N (x0, ((List.getD x0 (Int.toNat r1) ((⟨#[]⟩ : ByteArray), ((⟨#[]⟩ : ByteArray), (⟨#[]⟩ : ByteArray)))).1, (((List.getD x0 (Int.toNat r1) ((⟨#[]⟩ : ByteArray), ((⟨#[]⟩ : ByteArray), (⟨#[]⟩ : ByteArray)))).2).1, x4)))).bind fun r7 =>
            some (r7, 0)
      else
      bif seq (((List.getD x0 (Int.toNat r1) ((⟨#[]⟩ : ByteArray), ((⟨#[]⟩ : ByteArray), (⟨#[]⟩ : ByteArray)))).2).2) (⟨#[]⟩ : ByteArray) then
        some ([], 11)
      else
      bif !(!(seq (((List.getD x0 (Int.toNat r1) ((⟨#[]⟩ : ByteArray), ((⟨#[]⟩ : ByteArray), (⟨#[]⟩ : ByteArray)))).2).2) x3)) || (!(seq (((List.getD x0 (Int.toNat r1) ((⟨#[]⟩ : ByteArray), ((⟨#[]⟩ : ByteArray), (⟨#[]⟩ : ByteArray)))).2).2) x3)) then
        bif !(!(seq (((List.getD x0 (Int.toNat r1) ((⟨#[]⟩ : ByteArray), ((⟨#[]⟩ : ByteArray), (⟨#[]⟩ : ByteArray)))).2).2) x3)) || (!(seq (((List.getD x0 (Int.toNat r1) ((⟨#[]⟩ : ByteArray), ((⟨#[]⟩ : ByteArray), (⟨#[]⟩ : ByteArray)))).2).2) x3)) then
          bif !((!(seq (((List.getD x0 (Int.toNat r1) ((⟨#[]⟩ : ByteArray), ((⟨#[]⟩ : ByteArray), (⟨#[]⟩ : ByteArray)))).2).2) x3)) && (!(x1 == 3))) || ((!(seq (((List.getD x0 (Int.toNat r1) ((⟨#[]⟩ : ByteArray), ((⟨#[]⟩ : ByteArray), (⟨#[]⟩ : ByteArray)))).2).2) x3)) && (!(x1 == 3))) then
            bif !((!(seq (((List.getD x0 (Int.toNat r1) ((⟨#[]⟩ : ByteArray), ((⟨#[]⟩ : ByteArray), (⟨#[]⟩ : ByteArray)))).2).2) x3)) && (!(x1 == 3))) || ((!(seq (((List.getD x0 (Int.toNat r1) ((⟨#[]⟩ : ByteArray), ((⟨#[]⟩ : ByteArray), (⟨#[]⟩ : ByteArray)))).2).2) x3)) && (!(x1 == 3))) then
              bif !((!(seq (((List.getD x0 (Int.toNat r1) ((⟨#[]⟩ : ByteArray), ((⟨#[]⟩ : ByteArray), (⟨#[]⟩ : ByteArray)))).2).2) x3)) && (!(x1 == 3))) || ((!(seq (((List.getD x0 (Int.toNat r1) ((⟨#[]⟩ : ByteArray), ((⟨#[]⟩ : ByteArray), (⟨#[]⟩ : ByteArray)))).2).2) x3)) && (!(x1 == 3))) then
                bif !(!(seq (((List.getD x0 (Int.toNat r1) ((⟨#[]⟩ : ByteArray), ((⟨#[]⟩ : ByteArray), (⟨#[]⟩ : ByteArray)))).2).2) x3)) || (!(seq (((List.getD x0 (Int.toNat r1) ((⟨#[]⟩ : ByteArray), ((⟨#[]⟩ : ByteArray), (⟨#[]⟩ : ByteArray)))).2).2) x3)) then
                  bif !(!(seq (((List.getD x0 (Int.toNat r1) ((⟨#[]⟩ : ByteArray), ((⟨#[]⟩ : ByteArray), (⟨#[]⟩ : ByteArray)))).2).2) x3)) || ((x1 == 3) || ((!(seq (((List.getD x0 (Int.toNat r1) ((⟨#[]⟩ : ByteArray), ((⟨#[]⟩ : ByteArray), (⟨#[]⟩ : ByteArray)))).2).2) x3)) && (!(x1 == 3)))) then
                    bif (!(!(seq (((List.getD x0 (Int.toNat r1) ((⟨#[]⟩ : ByteArray), ((⟨#[]⟩ : ByteArray), (⟨#[]⟩ : ByteArray)))).2).2) x3))) || (!(seq (((List.getD x0 (Int.toNat r1) ((⟨#[]⟩ : ByteArray), ((⟨#[]⟩ : ByteArray), (⟨#[]⟩ : ByteArray)))).2).2) x3)) then
                      bif (!(seq (((List.getD x0 (Int.toNat r1) ((⟨#[]⟩ : ByteArray), ((⟨#[]⟩ : ByteArray), (⟨#[]⟩ : ByteArray)))).2).2) x3)) && ((x1 == 3) || (!(seq (((List.getD x0 (Int.toNat r1) ((⟨#[]⟩ : ByteArray), ((⟨#[]⟩ : ByteArray), (⟨#[]⟩ : ByteArray)))).2).1) x3))) then
                        some ([], 16)
                      else
                      bif x1 == 3 then
                        (ref_OwnersWith.fn N (x0, ((List.getD x0 (Int.toNat r1) ((⟨#[]⟩ : ByteArray), ((⟨#[]⟩ : ByteArray), (⟨#[]⟩ : ByteArray)))).1, (x3, (⟨#[]⟩ : ByteArray))))).bind fun r8 =>
                        some (r8, 0)
                      else
                        (ref_OwnersWith.fn N (x0, ((List.getD x0 (Int.toNat r1) ((⟨#[]⟩ : ByteArray), ((⟨#[]⟩ : ByteArray), (⟨#[]⟩ : ByteArray)))).1, (((List.getD x0 (Int.toNat r1) ((⟨#[]⟩ : ByteArray), ((⟨#[]⟩ : ByteArray), (⟨#[]⟩ : ByteArray)))).2).1, (⟨#[]⟩ : ByteArray))))).bind fun r9 =>
                        some (r9, 0)
                    else
                      none
                  else
                    none
                else
                  none
              else
                none
            else
              none
          else
            none
        else
          none
      else
        none
    else
      none := by kernel_rfl
theorem taut28 : ∀ p0 p1 : Bool, ((!(!(p0)) || ((p1) || ((!(p0)) && (!(p1)))))) = true := by decide
theorem taut29 : ∀ p0 p1 : Bool, ((!((!(p0)) && (!(p1))) || ((!(p0)) && (!(p1))))) = true := by decide
theorem ref_OwnerStep.clean (N : Nat) (x0 : List (ByteArray × ByteArray × ByteArray)) (x1 : Int) (x2 : ByteArray) (x3 : ByteArray) (x4 : ByteArray) : ref_OwnerStep.fn N (x0, x1, x2, x3, x4) =
    (ref_OwnerAt.fn N (x0, x2)).bind fun r1 =>
    bif x1 == 0 then
      (ref_IsName.fn N x2).bind fun r2 =>
      (bif (!(!r2)) then ref_IsName.fn N x3 else some (false)).bind fun r3 =>
      bif (!r2) || (!r3) then
        some ([], 3)
      else
      bif decide (r1 ≥ 0) then
        some ([], 7)
      else
      bif decide ((x0.length : Int) ≥ 24) then
        some ([], 9)
      else
        (ref_OwnersWith.fn N (x0, (x2, (x3, (⟨#[]⟩ : ByteArray))))).bind fun r4 =>
        some (r4, 0)
    else
    bif decide (r1 < 0) then
      some ([], 8)
    else
    bif (decide (0 ≤ r1)) && (decide (r1 < (x0.length : Int))) then
      bif x1 == 1 then
        bif !(seq (((List.getD x0 (Int.toNat r1) ((⟨#[]⟩ : ByteArray), ((⟨#[]⟩ : ByteArray), (⟨#[]⟩ : ByteArray)))).2).1) x3) then
          some ([], 16)
        else
          (ref_OwnersWith.fn N (x0, (x2, ((⟨#[]⟩ : ByteArray), (⟨#[]⟩ : ByteArray))))).bind fun r5 =>
          some (r5, 0)
      else
      bif x1 == 2 then
        bif !(seq (((List.getD x0 (Int.toNat r1) ((⟨#[]⟩ : ByteArray), ((⟨#[]⟩ : ByteArray), (⟨#[]⟩ : ByteArray)))).2).1) x3) then
          some ([], 16)
        else
        bif !(seq (((List.getD x0 (Int.toNat r1) ((⟨#[]⟩ : ByteArray), ((⟨#[]⟩ : ByteArray), (⟨#[]⟩ : ByteArray)))).2).2) (⟨#[]⟩ : ByteArray)) then
          some ([], 11)
        else
          (ref_IsName.fn N x4).bind fun r6 =>
          bif !r6 then
            some ([], 3)
          else
          bif seq x4 x3 then
            some ([], 1)
          else
            (ref_OwnersWith.fn N (x0, ((List.getD x0 (Int.toNat r1) ((⟨#[]⟩ : ByteArray), ((⟨#[]⟩ : ByteArray), (⟨#[]⟩ : ByteArray)))).1, (((List.getD x0 (Int.toNat r1) ((⟨#[]⟩ : ByteArray), ((⟨#[]⟩ : ByteArray), (⟨#[]⟩ : ByteArray)))).2).1, x4)))).bind fun r7 =>
            some (r7, 0)
      else
      bif seq (((List.getD x0 (Int.toNat r1) ((⟨#[]⟩ : ByteArray), ((⟨#[]⟩ : ByteArray), (⟨#[]⟩ : ByteArray)))).2).2) (⟨#[]⟩ : ByteArray) then
        some ([], 11)
      else
      bif (!(seq (((List.getD x0 (Int.toNat r1) ((⟨#[]⟩ : ByteArray), ((⟨#[]⟩ : ByteArray), (⟨#[]⟩ : ByteArray)))).2).2) x3)) && ((x1 == 3) || (!(seq (((List.getD x0 (Int.toNat r1) ((⟨#[]⟩ : ByteArray), ((⟨#[]⟩ : ByteArray), (⟨#[]⟩ : ByteArray)))).2).1) x3))) then
        some ([], 16)
      else
      bif x1 == 3 then
        (ref_OwnersWith.fn N (x0, ((List.getD x0 (Int.toNat r1) ((⟨#[]⟩ : ByteArray), ((⟨#[]⟩ : ByteArray), (⟨#[]⟩ : ByteArray)))).1, (x3, (⟨#[]⟩ : ByteArray))))).bind fun r8 =>
        some (r8, 0)
      else
        (ref_OwnersWith.fn N (x0, ((List.getD x0 (Int.toNat r1) ((⟨#[]⟩ : ByteArray), ((⟨#[]⟩ : ByteArray), (⟨#[]⟩ : ByteArray)))).1, (((List.getD x0 (Int.toNat r1) ((⟨#[]⟩ : ByteArray), ((⟨#[]⟩ : ByteArray), (⟨#[]⟩ : ByteArray)))).2).1, (⟨#[]⟩ : ByteArray))))).bind fun r9 =>
        some (r9, 0)
    else
      none := by
  rw [ref_OwnerStep.eq]; simp only [taut11, taut1, taut28, taut29, taut19, taut17, cond_true]

/-! ### law_OwnerSteps: skyway/skywaylaw3.OwnerSteps -/
def law_OwnerSteps.kp : List (Nat × List (Nat × Option (TypeId × Ty))) := [(4, [(0, none), (1, none), (2, none), (3, none), (16, none)]), (1000018, [(0, none), (1, none), (2, none), (3, none), (9, none), (10, none), (11, none), (16, none)]), (1000021, [(0, none), (1, none), (2, none), (3, none), (10, none), (11, none), (12, some (34, .pair (.str) (.pair (.str) (.str)))), (13, none), (16, none)])]
noncomputable def law_OwnerSteps.G (N : Nat) : List (Nat × Spec) := [(7, .pure (law_ownerFact.S N)), (9, .pure (ref_OwnersError.S N)), (12, .pure (owner_Begin.S N)), (13, .pure (owner_End.S N)), (14, .pure (owner_Offer.S N)), (15, .pure (owner_Accept.S N)), (16, .pure (owner_Cancel.S N)), (17, .pure (ref_OwnerStep.S N)), (18, .pure (slices_Equal_OwnerEntry.S N))]
noncomputable def law_OwnerSteps.E (N : Nat) : Env := mkEnv (law_OwnerSteps.G N) N tyTab law_OwnerSteps.kp
noncomputable def law_OwnerSteps.fn (N : Nat) (x : List (ByteArray × ByteArray × ByteArray) × ByteArray × ByteArray × ByteArray) : Option Bool := evFn (law_OwnerSteps.E N) Try.prog 3 Try.f4 false [.cell (.sl 34 (.pair (.str) (.pair (.str) (.str)))), .cell (.str), .cell (.str), .cell (.str)] [.val (.cell (.bool))] x
noncomputable def law_OwnerSteps.S (N : Nat) : PSpec := ⟨false, [.cell (.sl 34 (.pair (.str) (.pair (.str) (.str)))), .cell (.str), .cell (.str), .cell (.str)], [.val (.cell (.bool))], law_OwnerSteps.fn N⟩
theorem f4_enters : Enters Try.prog 4 := ⟨Try.f4, Try.func4, by kernel_rfl, by kernel_rfl⟩
theorem law_OwnerSteps.tab (N : Nat) : TabOk Try.prog (law_OwnerSteps.G N) := ⟨⟨law_ownerFact.enters, law_ownerFact.sound N⟩, ⟨ref_OwnersError.enters, ref_OwnersError.sound N⟩, ⟨owner_Begin.enters, owner_Begin.sound N⟩, ⟨owner_End.enters, owner_End.sound N⟩, ⟨owner_Offer.enters, owner_Offer.sound N⟩, ⟨owner_Accept.enters, owner_Accept.sound N⟩, ⟨owner_Cancel.enters, owner_Cancel.sound N⟩, ⟨ref_OwnerStep.enters, ref_OwnerStep.sound N⟩, ⟨slices_Equal_OwnerEntry.enters, slices_Equal_OwnerEntry.sound N⟩, trivial⟩
theorem law_OwnerSteps.enters : Enters Try.prog 4 := f4_enters
theorem law_OwnerSteps.sound (N : Nat) : Sound Try.prog 4 (law_OwnerSteps.S N) := evFn_sound (specs_tab (law_OwnerSteps.tab N)) (inls_tab (law_OwnerSteps.tab N)) mixed 3 Try.func4 _ _ _
noncomputable def law_OwnerSteps.cd (N : Nat) (p : List Nat) : St → (Ex → St → Option Bool) → Option Bool := ev (law_OwnerSteps.E N) Try.prog (callD (law_OwnerSteps.E N) Try.prog 3) 0 (codeAt (bodyOf Try.f4) p)
noncomputable def law_OwnerSteps.fin : Ex → St → Option Bool := endK Try.prog Try.f4 [.val (.cell (.bool))]
noncomputable def law_OwnerSteps.l0 (N : Nat) (x0 : List (ByteArray × ByteArray × ByteArray)) (x1 : ByteArray) (x2 : ByteArray) (x3 : ByteArray) (k2 : Nat) (a3 : Int) : Option Bool :=
  loopN (norm ((law_OwnerSteps.E N).keep 4) 0) (law_OwnerSteps.cd N [1, 1, 0, 1, 0, 0]) k2
  ⟨[.ros false 34 (.pair (.str) (.pair (.str) (.str))) x0, .sc (.string x1), .sc (.string x2), .sc (.string x3), .any, .any, .any, .any, .any, .any, .any, .any, .any, .any, .any, .any, .sc (.int .i64 a3), .any, .any, .any, .any, .any, .any, .any, .any, .any, .any, .any, .any, .any, .any, .any, .any, .any, .any, .any, .any, .any, .any, .any, .any, .any, .any, .any, .any, .any, .any, .any, .any, .any, .any, .any, .any, .any, .any, .any, .any, .any, .any, .any, .any, .any, .any, .any, .any, .any, .any, .any, .any, .any, .any, .any, .any, .any, .any, .any, .any, .any, .any, .any, .any, .any, .any, .any, .any, .any, .any], []⟩
  (blockK 0 (seqK (law_OwnerSteps.cd N [1, 1, 1]) law_OwnerSteps.fin))
noncomputable def law_OwnerSteps.j1 (N : Nat) (x0 : List (ByteArray × ByteArray × ByteArray)) (x1 : ByteArray) (x2 : ByteArray) (x3 : ByteArray) (k2 : Nat) (a3 : Int) (a4 : Int) (a5 : List (ByteArray × ByteArray × ByteArray)) : Option Bool :=
  fuelK N (region (law_OwnerSteps.E N) Try.prog (callD (law_OwnerSteps.E N) Try.prog 3) (opsAt (codeAt (bodyOf Try.f4) [1, 1, 0, 1, 0, 0, 1, 1, 0, 0, 1, 1, 1, 1, 0])) false
  ⟨[.ros false 34 (.pair (.str) (.pair (.str) (.str))) x0, .sc (.string x1), .sc (.string x2), .sc (.string x3), .any, .any, .any, .any, .any, .sc (.int .i64 a3), .own 0, .sc (.int .i64 a4), .any, .any, .any, .any, .sc (.int .i64 a3), .any, .any, .any, .any, .any, .any, .any, .any, .any, .any, .any, .any, .any, .any, .any, .any, .any, .any, .any, .any, .any, .any, .any, .any, .any, .any, .any, .any, .any, .any, .any, .any, .any, .any, .any, .any, .any, .any, .any, .any, .any, .any, .any, .any, .any, .any, .any, .any, .any, .any, .any, .any, .any, .any, .any, .any, .any, .any, .any, .any, .any, .any, .any, .any, .any, .any, .any, .any, .any, .any], [.rows true 34 (.pair (.str) (.pair (.str) (.str))) a5]⟩
  (fun S => (seqK (law_OwnerSteps.cd N [1, 1, 0, 1, 0, 0, 1, 1, 0, 0, 1, 1, 1, 1, 1]) (blockK 1 (seqK (law_OwnerSteps.cd N [1, 1, 0, 1, 0, 0, 1, 1, 1]) (loopK (norm ((law_OwnerSteps.E N).keep 4) 0) (law_OwnerSteps.cd N [1, 1, 0, 1, 0, 0]) k2 (blockK 0 (seqK (law_OwnerSteps.cd N [1, 1, 1]) law_OwnerSteps.fin)))))) .normal S))
noncomputable def law_OwnerSteps.j2 (N : Nat) (x0 : List (ByteArray × ByteArray × ByteArray)) (x1 : ByteArray) (x2 : ByteArray) (x3 : ByteArray) (k2 : Nat) (a3 : Int) (a4 : Int) (a5 : List (ByteArray × ByteArray × ByteArray)) (a7 : Int) (a8 : List (ByteArray × ByteArray × ByteArray)) : Option Bool :=
  fuelK N (region (law_OwnerSteps.E N) Try.prog (callD (law_OwnerSteps.E N) Try.prog 3) (opsAt (codeAt (bodyOf Try.f4) [1, 1, 0, 1, 0, 0, 1, 1, 0, 0, 1, 1, 1, 1, 1, 1, 0])) false
  ⟨[.ros false 34 (.pair (.str) (.pair (.str) (.str))) x0, .sc (.string x1), .sc (.string x2), .sc (.string x3), .any, .any, .any, .any, .any, .any, .own 0, .sc (.int .i64 a4), .own 1, .sc (.int .i64 a7), .any, .any, .sc (.int .i64 a3), .any, .any, .any, .any, .any, .any, .any, .any, .any, .any, .any, .any, .any, .any, .any, .any, .any, .any, .any, .any, .any, .any, .any, .any, .any, .any, .any, .any, .any, .any, .any, .any, .any, .any, .any, .any, .any, .any, .any, .any, .any, .any, .any, .any, .any, .any, .any, .any, .any, .any, .any, .any, .any, .any, .any, .any, .any, .any, .any, .any, .any, .any, .any, .any, .any, .any, .any, .any, .any, .any], [.rows true 34 (.pair (.str) (.pair (.str) (.str))) a5, .rows true 34 (.pair (.str) (.pair (.str) (.str))) a8]⟩
  (fun S => (seqK (law_OwnerSteps.cd N [1, 1, 0, 1, 0, 0, 1, 1, 0, 0, 1, 1, 1, 1, 1, 1, 1]) (blockK 1 (seqK (law_OwnerSteps.cd N [1, 1, 0, 1, 0, 0, 1, 1, 1]) (loopK (norm ((law_OwnerSteps.E N).keep 4) 0) (law_OwnerSteps.cd N [1, 1, 0, 1, 0, 0]) k2 (blockK 0 (seqK (law_OwnerSteps.cd N [1, 1, 1]) law_OwnerSteps.fin)))))) .normal S))
theorem law_OwnerSteps.j2_eq (N : Nat) (x0 : List (ByteArray × ByteArray × ByteArray)) (x1 : ByteArray) (x2 : ByteArray) (x3 : ByteArray) (k2 : Nat) (a3 : Int) (a4 : Int) (a5 : List (ByteArray × ByteArray × ByteArray)) (a7 : Int) (a8 : List (ByteArray × ByteArray × ByteArray)) {M : Nat} (hM : N = M + 1) : law_OwnerSteps.j2 N x0 x1 x2 x3 k2 a3 a4 a5 a7 a8 =
    bif !(!(!(a4 == a7))) || (!(!(a4 == a7))) then
      bif !(!(!(a4 == a7))) || (!(!(a4 == a7))) then
        (bif (!(!(a4 == a7))) then slices_Equal_OwnerEntry.fn N (a5, a8) else some (false)).bind fun r9 =>
        bif !(!(!(a4 == a7))) || (!(!(a4 == a7))) then
          bif (!(a4 == a7)) || (!(!(a4 == a7))) then
            bif (!(a4 == a7)) || (!r9) then
              some false
            else
              law_OwnerSteps.l0 N x0 x1 x2 x3 k2 (w (a3 + 1))
          else
            none
        else
          none
      else
        none
    else
      none := (fuelK_eq hM _).trans (by kernel_rfl)
theorem law_OwnerSteps.j1_eq (N : Nat) (x0 : List (ByteArray × ByteArray × ByteArray)) (x1 : ByteArray) (x2 : ByteArray) (x3 : ByteArray) (k2 : Nat) (a3 : Int) (a4 : Int) (a5 : List (ByteArray × ByteArray × ByteArray)) {M : Nat} (hM : N = M + 1) : law_OwnerSteps.j1 N x0 x1 x2 x3 k2 a3 a4 a5 =
    (ref_OwnersError.fn N x0).bind fun r6 =>
    bif r6 == 0 then
      (ref_OwnerStep.fn N (x0, a3, x1, x2, x3)).bind fun r10 =>
      law_OwnerSteps.j2 N x0 x1 x2 x3 k2 a3 a4 a5 r10.2 r10.1
    else
      law_OwnerSteps.j2 N x0 x1 x2 x3 k2 a3 a4 a5 r6 [] := (fuelK_eq hM _).trans (by kernel_rfl)
theorem law_OwnerSteps.l0_zero (N : Nat) (x0 : List (ByteArray × ByteArray × ByteArray)) (x1 : ByteArray) (x2 : ByteArray) (x3 : ByteArray) (a3 : Int) : law_OwnerSteps.l0 N x0 x1 x2 x3 0 a3 = none := by kernel_rfl
theorem law_OwnerSteps.l0_succ (N : Nat) (x0 : List (ByteArray × ByteArray × ByteArray)) (x1 : ByteArray) (x2 : ByteArray) (x3 : ByteArray) (k2 : Nat) (a3 : Int) : law_OwnerSteps.l0 N x0 x1 x2 x3 (k2 + 1) a3 =
    bif decide (a3 < 5) then
      bif a3 == 0 then
        (owner_Begin.fn N (x0, x1, x2)).bind fun r11 =>
        law_OwnerSteps.j1 N x0 x1 x2 x3 k2 a3 r11.2 r11.1
      else
      bif a3 == 1 then
        (owner_End.fn N (x0, x1, x2)).bind fun r12 =>
        law_OwnerSteps.j1 N x0 x1 x2 x3 k2 a3 r12.2 r12.1
      else
      bif a3 == 2 then
        (owner_Offer.fn N (x0, x1, x2, x3)).bind fun r13 =>
        law_OwnerSteps.j1 N x0 x1 x2 x3 k2 a3 r13.2 r13.1
      else
      bif a3 == 3 then
        (owner_Accept.fn N (x0, x1, x2)).bind fun r14 =>
        law_OwnerSteps.j1 N x0 x1 x2 x3 k2 a3 r14.2 r14.1
      else
        (owner_Cancel.fn N (x0, x1, x2)).bind fun r15 =>
        law_OwnerSteps.j1 N x0 x1 x2 x3 k2 a3 r15.2 r15.1
    else
      some true := by kernel_rfl
theorem taut30 : ∀ p0 : Bool, ((!(!(!(p0))) || (!(!(p0))))) = true := by decide
theorem taut31 : ∀ p0 : Bool, (((!(p0)) || (!(!(p0))))) = true := by decide
theorem law_OwnerSteps.j2_clean (N : Nat) (x0 : List (ByteArray × ByteArray × ByteArray)) (x1 : ByteArray) (x2 : ByteArray) (x3 : ByteArray) (k2 : Nat) (a3 : Int) (a4 : Int) (a5 : List (ByteArray × ByteArray × ByteArray)) (a7 : Int) (a8 : List (ByteArray × ByteArray × ByteArray)) {M : Nat} (hM : N = M + 1) : law_OwnerSteps.j2 N x0 x1 x2 x3 k2 a3 a4 a5 a7 a8 =
    (bif (!(!(a4 == a7))) then slices_Equal_OwnerEntry.fn N (a5, a8) else some (false)).bind fun r9 =>
    bif (!(a4 == a7)) || (!r9) then
      some false
    else
      law_OwnerSteps.l0 N x0 x1 x2 x3 k2 (w (a3 + 1)) := by
  rw [law_OwnerSteps.j2_eq (hM := hM)]; simp only [taut30, taut31, cond_true]
theorem law_OwnerSteps.eq (N : Nat) (x0 : List (ByteArray × ByteArray × ByteArray)) (x1 : ByteArray) (x2 : ByteArray) (x3 : ByteArray) : law_OwnerSteps.fn N (x0, x1, x2, x3) =
    (law_ownerFact.fn N ()).bind fun r1 =>
    bif !r1 then
      some false
    else
      law_OwnerSteps.l0 N x0 x1 x2 x3 N 0 := by kernel_rfl

/-! ### law_OwnerAsks: skyway/skywaylaw3.OwnerAsks -/
def law_OwnerAsks.kp : List (Nat × List (Nat × Option (TypeId × Ty))) := [(10, [(0, none), (1, none), (2, none), (7, none), (8, none), (9, none), (10, none), (12, some (9, .str)), (51, none), (52, none), (53, none)])]
noncomputable def law_OwnerAsks.G (N : Nat) : List (Nat × Spec) := [(7, .pure (law_ownerFact.S N)), (9, .pure (ref_OwnersError.S N)), (19, .pure (owner_Of.S N)), (20, .pure (owner_Flights.S N)), (21, .pure (ref_OwnerAt.S N)), (22, .pure (slices_Equal_string.S N))]
noncomputable def law_OwnerAsks.E (N : Nat) : Env := mkEnv (law_OwnerAsks.G N) N tyTab law_OwnerAsks.kp
noncomputable def law_OwnerAsks.fn (N : Nat) (x : List (ByteArray × ByteArray × ByteArray) × ByteArray × ByteArray) : Option Bool := evFn (law_OwnerAsks.E N) Try.prog 3 Try.f5 false [.cell (.sl 34 (.pair (.str) (.pair (.str) (.str)))), .cell (.str), .cell (.str)] [.val (.cell (.bool))] x
noncomputable def law_OwnerAsks.S (N : Nat) : PSpec := ⟨false, [.cell (.sl 34 (.pair (.str) (.pair (.str) (.str)))), .cell (.str), .cell (.str)], [.val (.cell (.bool))], law_OwnerAsks.fn N⟩
theorem f5_enters : Enters Try.prog 5 := ⟨Try.f5, Try.func5, by kernel_rfl, by kernel_rfl⟩
theorem law_OwnerAsks.tab (N : Nat) : TabOk Try.prog (law_OwnerAsks.G N) := ⟨⟨law_ownerFact.enters, law_ownerFact.sound N⟩, ⟨ref_OwnersError.enters, ref_OwnersError.sound N⟩, ⟨owner_Of.enters, owner_Of.sound N⟩, ⟨owner_Flights.enters, owner_Flights.sound N⟩, ⟨ref_OwnerAt.enters, ref_OwnerAt.sound N⟩, ⟨slices_Equal_string.enters, slices_Equal_string.sound N⟩, trivial⟩
theorem law_OwnerAsks.enters : Enters Try.prog 5 := f5_enters
theorem law_OwnerAsks.sound (N : Nat) : Sound Try.prog 5 (law_OwnerAsks.S N) := evFn_sound (specs_tab (law_OwnerAsks.tab N)) (inls_tab (law_OwnerAsks.tab N)) mixed 3 Try.func5 _ _ _
noncomputable def law_OwnerAsks.cd (N : Nat) (p : List Nat) : St → (Ex → St → Option Bool) → Option Bool := ev (law_OwnerAsks.E N) Try.prog (callD (law_OwnerAsks.E N) Try.prog 3) 0 (codeAt (bodyOf Try.f5) p)
noncomputable def law_OwnerAsks.fin : Ex → St → Option Bool := endK Try.prog Try.f5 [.val (.cell (.bool))]
noncomputable def law_OwnerAsks.l0 (N : Nat) (x0 : List (ByteArray × ByteArray × ByteArray)) (x1 : ByteArray) (x2 : ByteArray) (r2 : ByteArray × Int) (r3 : List ByteArray × Int) (k5 : Nat) (a6 : Int) (a7 : List ByteArray) : Option Bool :=
  loopN (norm ((law_OwnerAsks.E N).keep 10) 0) (law_OwnerAsks.cd N [1, 1, 1, 1, 1, 1, 0, 1, 0, 0]) k5
  ⟨[.ros false 34 (.pair (.str) (.pair (.str) (.str))) x0, .sc (.string x1), .sc (.string x2), .any, .any, .any, .any, .sc (.string r2.1), .sc (.int .i64 r2.2), .own 0, .sc (.int .i64 r3.2), .any, .own 1, .any, .any, .any, .any, .any, .any, .any, .any, .any, .any, .any, .any, .any, .any, .any, .any, .any, .any, .any, .any, .any, .any, .any, .any, .any, .any, .any, .any, .any, .any, .any, .any, .any, .any, .any, .any, .any, .any, .ros false 34 (.pair (.str) (.pair (.str) (.str))) x0, .sc (.int .i64 (x0.length : Int)), .sc (.int .i64 a6), .any, .any, .any, .any, .any, .any, .any, .any, .any, .any, .any, .any, .any, .any, .any, .any, .any, .any, .any, .any, .any, .any, .any, .any, .any, .any, .any, .any, .any, .any, .any, .any, .any, .any, .any, .any, .any, .any, .any, .any, .any, .any, .any, .any, .any, .any, .any, .any, .any, .any, .any, .any, .any], [.rows true 9 (.str) r3.1, .rows true 9 (.str) a7]⟩
  (blockK 0 (seqK (law_OwnerAsks.cd N [1, 1, 1, 1, 1, 1, 1]) law_OwnerAsks.fin))
theorem law_OwnerAsks.l0_zero (N : Nat) (x0 : List (ByteArray × ByteArray × ByteArray)) (x1 : ByteArray) (x2 : ByteArray) (r2 : ByteArray × Int) (r3 : List ByteArray × Int) (a6 : Int) (a7 : List ByteArray) : law_OwnerAsks.l0 N x0 x1 x2 r2 r3 0 a6 a7 = none := by kernel_rfl
theorem law_OwnerAsks.l0_succ (N : Nat) (x0 : List (ByteArray × ByteArray × ByteArray)) (x1 : ByteArray) (x2 : ByteArray) (r2 : ByteArray × Int) (r3 : List ByteArray × Int) (k5 : Nat) (a6 : Int) (a7 : List ByteArray) : law_OwnerAsks.l0 N x0 x1 x2 r2 r3 (k5 + 1) a6 a7 =
    bif decide (a6 < (x0.length : Int)) then
      bif (decide (0 ≤ a6)) && (decide (a6 < (x0.length : Int))) then
        bif seq (((List.getD x0 (Int.toNat a6) ((⟨#[]⟩ : ByteArray), ((⟨#[]⟩ : ByteArray), (⟨#[]⟩ : ByteArray)))).2).1) x2 then
          bif decide ((a7.length + 1) * 16 ≤ 140737488355328) && decide ((a7.length + 1) ≤ maxLen) then
            law_OwnerAsks.l0 N x0 x1 x2 r2 r3 k5 (w (a6 + 1)) (a7 ++ [(List.getD x0 (Int.toNat a6) ((⟨#[]⟩ : ByteArray), ((⟨#[]⟩ : ByteArray), (⟨#[]⟩ : ByteArray)))).1])
          else
            none
        else
          law_OwnerAsks.l0 N x0 x1 x2 r2 r3 k5 (w (a6 + 1)) a7
      else
        none
    else
      (ref_OwnerAt.fn N (x0, x1)).bind fun r8 =>
      bif decide (r8 < 0) then
        bif !(r2.2 == 8) || (r2.2 == 8) then
          bif (!(r2.2 == 8)) || (r2.2 == 8) then
            bif !((r2.2 == 8) && (seq r2.1 (⟨#[]⟩ : ByteArray))) || ((r2.2 == 8) && (seq r2.1 (⟨#[]⟩ : ByteArray))) then
              bif (!((r2.2 == 8) && (seq r2.1 (⟨#[]⟩ : ByteArray)))) || ((r2.2 == 8) && (seq r2.1 (⟨#[]⟩ : ByteArray))) then
                bif !(((r2.2 == 8) && (seq r2.1 (⟨#[]⟩ : ByteArray))) && (r3.2 == 0)) || (((r2.2 == 8) && (seq r2.1 (⟨#[]⟩ : ByteArray))) && (r3.2 == 0)) then
                  bif !(((r2.2 == 8) && (seq r2.1 (⟨#[]⟩ : ByteArray))) && (r3.2 == 0)) || (((r2.2 == 8) && (seq r2.1 (⟨#[]⟩ : ByteArray))) && (r3.2 == 0)) then
                    (bif (((r2.2 == 8) && (seq r2.1 (⟨#[]⟩ : ByteArray))) && (r3.2 == 0)) then slices_Equal_string.fn N (r3.1, a7) else some (false)).bind fun r9 =>
                    bif (!(((r2.2 == 8) && (seq r2.1 (⟨#[]⟩ : ByteArray))) && (r3.2 == 0))) || (((r2.2 == 8) && (seq r2.1 (⟨#[]⟩ : ByteArray))) && (r3.2 == 0)) then
                      some ((((r2.2 == 8) && (seq r2.1 (⟨#[]⟩ : ByteArray))) && (r3.2 == 0)) && r9)
                    else
                      none
                  else
                    none
                else
                  none
              else
                none
            else
              none
          else
            none
        else
          none
      else
      bif !(r2.2 == 0) || (r2.2 == 0) then
        bif !(r2.2 == 0) || (r2.2 == 0) then
          bif ((decide (0 ≤ r8)) && (decide (r8 < (x0.length : Int)))) || !(r2.2 == 0) then
            bif !(r2.2 == 0) || (r2.2 == 0) then
              bif !(r2.2 == 0) || (r2.2 == 0) then
                bif !(r2.2 == 0) || (r2.2 == 0) then
                  bif !(r2.2 == 0) || (r2.2 == 0) then
                    bif (!(r2.2 == 0)) || (r2.2 == 0) then
                      bif !((r2.2 == 0) && (seq r2.1 (((List.getD x0 (Int.toNat r8) ((⟨#[]⟩ : ByteArray), ((⟨#[]⟩ : ByteArray), (⟨#[]⟩ : ByteArray)))).2).1))) || ((r2.2 == 0) && (seq r2.1 (((List.getD x0 (Int.toNat r8) ((⟨#[]⟩ : ByteArray), ((⟨#[]⟩ : ByteArray), (⟨#[]⟩ : ByteArray)))).2).1))) then
                        bif (!((r2.2 == 0) && (seq r2.1 (((List.getD x0 (Int.toNat r8) ((⟨#[]⟩ : ByteArray), ((⟨#[]⟩ : ByteArray), (⟨#[]⟩ : ByteArray)))).2).1)))) || ((r2.2 == 0) && (seq r2.1 (((List.getD x0 (Int.toNat r8) ((⟨#[]⟩ : ByteArray), ((⟨#[]⟩ : ByteArray), (⟨#[]⟩ : ByteArray)))).2).1))) then
                          bif !(((r2.2 == 0) && (seq r2.1 (((List.getD x0 (Int.toNat r8) ((⟨#[]⟩ : ByteArray), ((⟨#[]⟩ : ByteArray), (⟨#[]⟩ : ByteArray)))).2).1))) && (r3.2 == 0)) || (((r2.2 == 0) && (seq r2.1 (((List.getD x0 (Int.toNat r8) ((⟨#[]⟩ : ByteArray), ((⟨#[]⟩ : ByteArray), (⟨#[]⟩ : ByteArray)))).2).1))) && (r3.2 == 0)) then
                            bif !(((r2.2 == 0) && (seq r2.1 (((List.getD x0 (Int.toNat r8) ((⟨#[]⟩ : ByteArray), ((⟨#[]⟩ : ByteArray), (⟨#[]⟩ : ByteArray)))).2).1))) && (r3.2 == 0)) || (((r2.2 == 0) && (seq r2.1 (((List.getD x0 (Int.toNat r8) ((⟨#[]⟩ : ByteArray), ((⟨#[]⟩ : ByteArray), (⟨#[]⟩ : ByteArray)))).2).1))) && (r3.2 == 0)) then
                              (bif (((r2.2 == 0) && (seq r2.1 (((List.getD x0 (Int.toNat r8) ((⟨#[]⟩ : ByteArray), ((⟨#[]⟩ : ByteArray), (⟨#[]⟩ : ByteArray)))).2).1))) && (r3.2 == 0)) then slices_Equal_string.fn N (r3.1, a7) else some (false)).bind fun r10 =>
                              bif (!(((r2.2 == 0) && (seq r2.1 (((List.getD x0 (Int.toNat r8) ((⟨#[]⟩ : ByteArray), ((⟨#[]⟩ : ByteArray), (⟨#[]⟩ : ByteArray)))).2).1))) && (r3.2 == 0))) || (((r2.2 == 0) && (seq r2.1 (((List.getD x0 (Int.toNat r8) ((⟨#[]⟩ : ByteArray), ((⟨#[]⟩ : ByteArray), (⟨#[]⟩ : ByteArray)))).2).1))) && (r3.2 == 0)) then
                                some ((((r2.2 == 0) && (seq r2.1 (((List.getD x0 (Int.toNat r8) ((⟨#[]⟩ : ByteArray), ((⟨#[]⟩ : ByteArray), (⟨#[]⟩ : ByteArray)))).2).1))) && (r3.2 == 0)) && r10)
                              else
                                none
                            else
                              none
                          else
                            none
                        else
                          none
                      else
                        none
                    else
                      none
                  else
                    none
                else
                  none
              else
                none
            else
              none
          else
            none
        else
          none
      else
        none := by kernel_rfl
theorem taut32 : ∀ p0 p1 p2 : Bool, ((!(((p0) && (p1)) && (p2)) || (((p0) && (p1)) && (p2)))) = true := by decide
theorem taut33 : ∀ p0 p1 : Bool, ((!((p0) && (p1)) || ((p0) && (p1)))) = true := by decide
theorem taut34 : ∀ p0 p1 p2 : Bool, (((!(((p0) && (p1)) && (p2))) || (((p0) && (p1)) && (p2)))) = true := by decide
theorem taut35 : ∀ p0 p1 : Bool, (((!((p0) && (p1))) || ((p0) && (p1)))) = true := by decide
theorem law_OwnerAsks.l0_clean (N : Nat) (x0 : List (ByteArray × ByteArray × ByteArray)) (x1 : ByteArray) (x2 : ByteArray) (r2 : ByteArray × Int) (r3 : List ByteArray × Int) (k5 : Nat) (a6 : Int) (a7 : List ByteArray) : law_OwnerAsks.l0 N x0 x1 x2 r2 r3 (k5 + 1) a6 a7 =
    bif decide (a6 < (x0.length : Int)) then
      bif (decide (0 ≤ a6)) && (decide (a6 < (x0.length : Int))) then
        bif seq (((List.getD x0 (Int.toNat a6) ((⟨#[]⟩ : ByteArray), ((⟨#[]⟩ : ByteArray), (⟨#[]⟩ : ByteArray)))).2).1) x2 then
          bif decide ((a7.length + 1) * 16 ≤ 140737488355328) && decide ((a7.length + 1) ≤ maxLen) then
            law_OwnerAsks.l0 N x0 x1 x2 r2 r3 k5 (w (a6 + 1)) (a7 ++ [(List.getD x0 (Int.toNat a6) ((⟨#[]⟩ : ByteArray), ((⟨#[]⟩ : ByteArray), (⟨#[]⟩ : ByteArray)))).1])
          else
            none
        else
          law_OwnerAsks.l0 N x0 x1 x2 r2 r3 k5 (w (a6 + 1)) a7
      else
        none
    else
      (ref_OwnerAt.fn N (x0, x1)).bind fun r8 =>
      bif decide (r8 < 0) then
        (bif (((r2.2 == 8) && (seq r2.1 (⟨#[]⟩ : ByteArray))) && (r3.2 == 0)) then slices_Equal_string.fn N (r3.1, a7) else some (false)).bind fun r9 =>
        some ((((r2.2 == 8) && (seq r2.1 (⟨#[]⟩ : ByteArray))) && (r3.2 == 0)) && r9)
      else
      bif ((decide (0 ≤ r8)) && (decide (r8 < (x0.length : Int)))) || !(r2.2 == 0) then
        (bif (((r2.2 == 0) && (seq r2.1 (((List.getD x0 (Int.toNat r8) ((⟨#[]⟩ : ByteArray), ((⟨#[]⟩ : ByteArray), (⟨#[]⟩ : ByteArray)))).2).1))) && (r3.2 == 0)) then slices_Equal_string.fn N (r3.1, a7) else some (false)).bind fun r10 =>
        some ((((r2.2 == 0) && (seq r2.1 (((List.getD x0 (Int.toNat r8) ((⟨#[]⟩ : ByteArray), ((⟨#[]⟩ : ByteArray), (⟨#[]⟩ : ByteArray)))).2).1))) && (r3.2 == 0)) && r10)
      else
        none := by
  rw [law_OwnerAsks.l0_succ]; simp only [taut32, taut33, taut15, taut34, taut35, taut16, cond_true]
theorem law_OwnerAsks.l0_cons (N : Nat) (x0 : List (ByteArray × ByteArray × ByteArray)) (x1 : ByteArray) (x2 : ByteArray) (r2 : ByteArray × Int) (r3 : List ByteArray × Int) (k5 : Nat) (a7 : List ByteArray) {pre r} {x} (hl : x0 = pre ++ x :: r) (hb : x0.length < 4611686018427387904) : law_OwnerAsks.l0 N x0 x1 x2 r2 r3 (k5 + 1) (pre.length : Int) a7 =
    bif seq ((x.2).1) x2 then
      bif decide ((a7.length + 1) * 16 ≤ 140737488355328) && decide ((a7.length + 1) ≤ maxLen) then
        law_OwnerAsks.l0 N x0 x1 x2 r2 r3 k5 ((pre.length : Int) + 1) (a7 ++ [x.1])
      else
        none
    else
      law_OwnerAsks.l0 N x0 x1 x2 r2 r3 k5 ((pre.length : Int) + 1) a7 := by
  have hlen : x0.length = pre.length + 1 + r.length := by rw [hl]; simp; omega
  have e1 : decide ((pre.length : Int) < (x0.length : Int)) = true := by rw [decide_eq_true_iff]; omega
  have e2 : decide (0 ≤ (pre.length : Int)) = true := by rw [decide_eq_true_iff]; omega
  have e4 : w ((pre.length : Int) + 1) = (pre.length : Int) + 1 := w_next hl hb
  have e5 : List.take pre.length x0 = pre := by rw [hl]; simp
  have e6 : decide ((pre.length : Int) ≤ (x0.length : Int)) = true := by rw [decide_eq_true_iff]; omega
  have g0 : List.getD x0 pre.length ((⟨#[]⟩ : ByteArray), ((⟨#[]⟩ : ByteArray), (⟨#[]⟩ : ByteArray))) = x := by rw [hl]; exact getD_mid pre x r _
  rw [law_OwnerAsks.l0_clean]
  simp -implicitDefEqProofs only [Int.toNat_natCast, e1, e2, e4, e6, g0, e5, Bool.and_true, Bool.true_and, Bool.true_or, cond_true]
theorem law_OwnerAsks.l0_nil (N : Nat) (x0 : List (ByteArray × ByteArray × ByteArray)) (x1 : ByteArray) (x2 : ByteArray) (r2 : ByteArray × Int) (r3 : List ByteArray × Int) (k5 : Nat) (a7 : List ByteArray) : law_OwnerAsks.l0 N x0 x1 x2 r2 r3 (k5 + 1) (x0.length : Int) a7 =
    (ref_OwnerAt.fn N (x0, x1)).bind fun r8 =>
    bif decide (r8 < 0) then
      (bif (((r2.2 == 8) && (seq r2.1 (⟨#[]⟩ : ByteArray))) && (r3.2 == 0)) then slices_Equal_string.fn N (r3.1, a7) else some (false)).bind fun r9 =>
      some ((((r2.2 == 8) && (seq r2.1 (⟨#[]⟩ : ByteArray))) && (r3.2 == 0)) && r9)
    else
    bif ((decide (0 ≤ r8)) && (decide (r8 < (x0.length : Int)))) || !(r2.2 == 0) then
      (bif (((r2.2 == 0) && (seq r2.1 (((List.getD x0 (Int.toNat r8) ((⟨#[]⟩ : ByteArray), ((⟨#[]⟩ : ByteArray), (⟨#[]⟩ : ByteArray)))).2).1))) && (r3.2 == 0)) then slices_Equal_string.fn N (r3.1, a7) else some (false)).bind fun r10 =>
      some ((((r2.2 == 0) && (seq r2.1 (((List.getD x0 (Int.toNat r8) ((⟨#[]⟩ : ByteArray), ((⟨#[]⟩ : ByteArray), (⟨#[]⟩ : ByteArray)))).2).1))) && (r3.2 == 0)) && r10)
    else
      none := by
  have e1 : decide ((x0.length : Int) < (x0.length : Int)) = false := by rw [decide_eq_false_iff_not]; omega
  rw [law_OwnerAsks.l0_clean]
  simp -implicitDefEqProofs only [e1, cond_false]
theorem law_OwnerAsks.eq (N : Nat) (x0 : List (ByteArray × ByteArray × ByteArray)) (x1 : ByteArray) (x2 : ByteArray) : law_OwnerAsks.fn N (x0, x1, x2) =
    (law_ownerFact.fn N ()).bind fun r1 =>
    bif !r1 then
      some false
    else
      (owner_Of.fn N (x0, x1)).bind fun r2 =>
      (owner_Flights.fn N (x0, x2)).bind fun r3 =>
      (ref_OwnersError.fn N x0).bind fun r4 =>
      bif !(r4 == 0) then
        bif !(r2.2 == r4) || (r2.2 == r4) then
          bif !(r2.2 == r4) || (r2.2 == r4) then
            bif (!(r2.2 == r4)) || (r2.2 == r4) then
              bif !((r2.2 == r4) && (r3.2 == r4)) || ((r2.2 == r4) && (r3.2 == r4)) then
                bif (!((r2.2 == r4) && (r3.2 == r4))) || ((r2.2 == r4) && (r3.2 == r4)) then
                  bif !(((r2.2 == r4) && (r3.2 == r4)) && (seq r2.1 (⟨#[]⟩ : ByteArray))) || (((r2.2 == r4) && (r3.2 == r4)) && (seq r2.1 (⟨#[]⟩ : ByteArray))) then
                    bif !(((r2.2 == r4) && (r3.2 == r4)) && (seq r2.1 (⟨#[]⟩ : ByteArray))) || (((r2.2 == r4) && (r3.2 == r4)) && (seq r2.1 (⟨#[]⟩ : ByteArray))) then
                      bif (!(((r2.2 == r4) && (r3.2 == r4)) && (seq r2.1 (⟨#[]⟩ : ByteArray)))) || (((r2.2 == r4) && (r3.2 == r4)) && (seq r2.1 (⟨#[]⟩ : ByteArray))) then
                        some ((((r2.2 == r4) && (r3.2 == r4)) && (seq r2.1 (⟨#[]⟩ : ByteArray))) && ((r3.1.length : Int) == 0))
                      else
                        none
                    else
                      none
                  else
                    none
                else
                  none
              else
                none
            else
              none
          else
            none
        else
          none
      else
        law_OwnerAsks.l0 N x0 x1 x2 r2 r3 N 0 [] := by kernel_rfl
theorem law_OwnerAsks.clean (N : Nat) (x0 : List (ByteArray × ByteArray × ByteArray)) (x1 : ByteArray) (x2 : ByteArray) : law_OwnerAsks.fn N (x0, x1, x2) =
    (law_ownerFact.fn N ()).bind fun r1 =>
    bif !r1 then
      some false
    else
      (owner_Of.fn N (x0, x1)).bind fun r2 =>
      (owner_Flights.fn N (x0, x2)).bind fun r3 =>
      (ref_OwnersError.fn N x0).bind fun r4 =>
      bif !(r4 == 0) then
        some ((((r2.2 == r4) && (r3.2 == r4)) && (seq r2.1 (⟨#[]⟩ : ByteArray))) && ((r3.1.length : Int) == 0))
      else
        law_OwnerAsks.l0 N x0 x1 x2 r2 r3 N 0 [] := by
  rw [law_OwnerAsks.eq]; simp only [taut32, taut33, taut15, taut34, taut35, taut16, cond_true]

/-! ### law_OwnerMoves_1: skyway/skywaylaw3.OwnerMoves$1 -/
def law_OwnerMoves_1.kp : List (Nat × List (Nat × Option (TypeId × Ty))) := []
noncomputable def law_OwnerMoves_1.G (N : Nat) : List (Nat × Spec) := []
noncomputable def law_OwnerMoves_1.E (N : Nat) : Env := mkEnv (law_OwnerMoves_1.G N) N tyTab law_OwnerMoves_1.kp
noncomputable def law_OwnerMoves_1.fn (N : Nat) (x : ByteArray × ByteArray × ByteArray) : Option ByteArray := evFn (law_OwnerMoves_1.E N) Try.prog 3 Try.f24 false [.cell (.str), .box (.str), .box (.str)] [.val (.cell (.str))] x
noncomputable def law_OwnerMoves_1.S (N : Nat) : PSpec := ⟨false, [.cell (.str), .box (.str), .box (.str)], [.val (.cell (.str))], law_OwnerMoves_1.fn N⟩
theorem f24_enters : Enters Try.prog 24 := ⟨Try.f24, Try.func24, by kernel_rfl, by kernel_rfl⟩
theorem law_OwnerMoves_1.tab (N : Nat) : TabOk Try.prog (law_OwnerMoves_1.G N) := trivial
theorem law_OwnerMoves_1.enters : Enters Try.prog 24 := f24_enters
theorem law_OwnerMoves_1.sound (N : Nat) : Sound Try.prog 24 (law_OwnerMoves_1.S N) := evFn_sound (specs_tab (law_OwnerMoves_1.tab N)) (inls_tab (law_OwnerMoves_1.tab N)) mixed 3 Try.func24 _ _ _
theorem law_OwnerMoves_1.eq (N : Nat) (x0 : ByteArray) (x1 : ByteArray) (x2 : ByteArray) : law_OwnerMoves_1.fn N (x0, x1, x2) =
    bif seq x0 x1 then
      some x2
    else
      some x0 := by kernel_rfl

/-! ### law_OwnerMoves: skyway/skywaylaw3.OwnerMoves -/
def law_OwnerMoves.kp : List (Nat × List (Nat × Option (TypeId × Ty))) := [(13, [(7, none), (10, none), (57, none), (58, none), (59, none)]), (1000007, [(0, none), (4, none), (5, none), (7, none), (8, none), (9, none)]), (1000018, [(7, none), (10, none), (11, none), (13, none), (57, none), (58, none), (59, none)])]
noncomputable def law_OwnerMoves.G (N : Nat) : List (Nat × Spec) := [(7, .pure (law_ownerFact.S N)), (9, .pure (ref_OwnersError.S N)), (11, .pure (ref_IsName.S N)), (23, .pure (owner_Move.S N)), (24, .pure (law_OwnerMoves_1.S N))]
noncomputable def law_OwnerMoves.E (N : Nat) : Env := mkEnv (law_OwnerMoves.G N) N tyTab law_OwnerMoves.kp
noncomputable def law_OwnerMoves.fn (N : Nat) (x : List (ByteArray × ByteArray × ByteArray) × ByteArray × ByteArray) : Option Bool := evFn (law_OwnerMoves.E N) Try.prog 3 Try.f6 false [.cell (.sl 34 (.pair (.str) (.pair (.str) (.str)))), .cell (.str), .cell (.str)] [.val (.cell (.bool))] x
noncomputable def law_OwnerMoves.S (N : Nat) : PSpec := ⟨false, [.cell (.sl 34 (.pair (.str) (.pair (.str) (.str)))), .cell (.str), .cell (.str)], [.val (.cell (.bool))], law_OwnerMoves.fn N⟩
theorem f6_enters : Enters Try.prog 6 := ⟨Try.f6, Try.func6, by kernel_rfl, by kernel_rfl⟩
theorem law_OwnerMoves.tab (N : Nat) : TabOk Try.prog (law_OwnerMoves.G N) := ⟨⟨law_ownerFact.enters, law_ownerFact.sound N⟩, ⟨ref_OwnersError.enters, ref_OwnersError.sound N⟩, ⟨ref_IsName.enters, ref_IsName.sound N⟩, ⟨owner_Move.enters, owner_Move.sound N⟩, ⟨law_OwnerMoves_1.enters, law_OwnerMoves_1.sound N⟩, trivial⟩
theorem law_OwnerMoves.enters : Enters Try.prog 6 := f6_enters
theorem law_OwnerMoves.sound (N : Nat) : Sound Try.prog 6 (law_OwnerMoves.S N) := evFn_sound (specs_tab (law_OwnerMoves.tab N)) (inls_tab (law_OwnerMoves.tab N)) mixed 3 Try.func6 _ _ _
noncomputable def law_OwnerMoves.cd (N : Nat) (p : List Nat) : St → (Ex → St → Option Bool) → Option Bool := ev (law_OwnerMoves.E N) Try.prog (callD (law_OwnerMoves.E N) Try.prog 3) 0 (codeAt (bodyOf Try.f6) p)
noncomputable def law_OwnerMoves.fin : Ex → St → Option Bool := endK Try.prog Try.f6 [.val (.cell (.bool))]
noncomputable def law_OwnerMoves.j0 (N : Nat) (x0 : List (ByteArray × ByteArray × ByteArray)) (x1 : ByteArray) (x2 : ByteArray) (r2 : List (ByteArray × ByteArray × ByteArray) × Int) (a4 : Int) : Option Bool :=
  fuelK N (region (law_OwnerMoves.E N) Try.prog (callD (law_OwnerMoves.E N) Try.prog 3) (opsAt (codeAt (bodyOf Try.f6) [1, 1, 1, 1, 1, 0, 0])) false
  ⟨[.ros false 34 (.pair (.str) (.pair (.str) (.str))) x0, .any, .any, .any, .ptr 0 0, .ptr 1 0, .any, .own 2, .sc (.int .i64 r2.2), .sc (.int .i64 a4), .any, .any, .any, .any, .any, .any, .any, .any, .any, .any, .any, .any, .any, .any, .any, .any, .any, .any, .any, .any, .any, .any, .any, .any, .any, .any, .any, .any, .any, .any, .any, .any, .any, .any, .any, .any, .any, .any, .any, .any, .any, .any, .any, .any, .any, .any, .any, .any, .any, .any, .any, .any, .any, .any, .any, .any, .any, .any, .any, .any, .any, .any, .any, .any, .any, .any, .any, .any, .any, .any, .any, .any, .any, .any, .any, .any, .any, .any], [.cells [.sc (.string x1)] 9, .cells [.sc (.string x2)] 9, .rows true 34 (.pair (.str) (.pair (.str) (.str))) r2.1]⟩
  (fun S => (seqK (law_OwnerMoves.cd N [1, 1, 1, 1, 1, 0, 1]) (seqK (law_OwnerMoves.cd N [1, 1, 1, 1, 1, 1]) law_OwnerMoves.fin)) .normal S))
noncomputable def law_OwnerMoves.l1 (N : Nat) (x0 : List (ByteArray × ByteArray × ByteArray)) (x1 : ByteArray) (x2 : ByteArray) (r2 : List (ByteArray × ByteArray × ByteArray) × Int) (k5 : Nat) (a6 : Int) : Option Bool :=
  loopN (norm ((law_OwnerMoves.E N).keep 13) 0) (law_OwnerMoves.cd N [1, 1, 1, 1, 1, 1, 1, 1, 0, 1, 0, 0]) k5
  ⟨[.any, .any, .any, .any, .any, .any, .any, .own 0, .any, .any, .clo 24 [.ptr 1 0, .ptr 2 0], .any, .any, .any, .any, .any, .any, .any, .any, .any, .any, .any, .any, .any, .any, .any, .any, .any, .any, .any, .any, .any, .any, .any, .any, .any, .any, .any, .any, .any, .any, .any, .any, .any, .any, .any, .any, .any, .any, .any, .any, .any, .any, .any, .any, .any, .any, .ros false 34 (.pair (.str) (.pair (.str) (.str))) x0, .sc (.int .i64 (x0.length : Int)), .sc (.int .i64 a6), .any, .any, .any, .any, .any, .any, .any, .any, .any, .any, .any, .any, .any, .any, .any, .any, .any, .any, .any, .any, .any, .any, .any, .any, .any, .any, .any, .any], [.rows true 34 (.pair (.str) (.pair (.str) (.str))) r2.1, .cells [.sc (.string x1)] 9, .cells [.sc (.string x2)] 9]⟩
  (blockK 0 (seqK (law_OwnerMoves.cd N [1, 1, 1, 1, 1, 1, 1, 1, 1]) law_OwnerMoves.fin))
noncomputable def law_OwnerMoves.j2 (N : Nat) (x0 : List (ByteArray × ByteArray × ByteArray)) (x1 : ByteArray) (x2 : ByteArray) (r2 : List (ByteArray × ByteArray × ByteArray) × Int) (k5 : Nat) (a6 : Int) (r7 : ByteArray) (a9 : ByteArray) : Option Bool :=
  fuelK N (region (law_OwnerMoves.E N) Try.prog (callD (law_OwnerMoves.E N) Try.prog 3) (opsAt (codeAt (bodyOf Try.f6) [1, 1, 1, 1, 1, 1, 1, 1, 0, 1, 0, 0, 1, 1, 0, 0, 1, 1, 1, 0])) true
  ⟨[.any, .any, .any, .any, .any, .any, .any, .own 0, .any, .any, .clo 24 [.ptr 1 0, .ptr 2 0], .sc (.int .i64 a6), .any, .ptr 3 0, .any, .any, .any, .any, .any, .any, .any, .any, .any, .any, .any, .any, .any, .any, .any, .any, .any, .any, .any, .any, .any, .any, .any, .any, .any, .any, .any, .any, .any, .any, .any, .any, .any, .any, .any, .any, .any, .any, .any, .any, .any, .any, .any, .ros false 34 (.pair (.str) (.pair (.str) (.str))) x0, .sc (.int .i64 (x0.length : Int)), .sc (.int .i64 a6), .any, .any, .any, .any, .any, .any, .any, .any, .any, .any, .any, .any, .any, .any, .any, .any, .any, .any, .any, .any, .any, .any, .any, .any, .any, .any, .any, .any], [.rows true 34 (.pair (.str) (.pair (.str) (.str))) r2.1, .cells [.sc (.string x1)] 9, .cells [.sc (.string x2)] 9, .cells [.sc (.string ((List.getD x0 (Int.toNat a6) ((⟨#[]⟩ : ByteArray), ((⟨#[]⟩ : ByteArray), (⟨#[]⟩ : ByteArray)))).1)), .sc (.string r7), .sc (.string a9)] 34]⟩
  (fun S => (seqK (law_OwnerMoves.cd N [1, 1, 1, 1, 1, 1, 1, 1, 0, 1, 0, 0, 1, 1, 0, 0, 1, 1, 1, 1]) (blockK 1 (seqK (law_OwnerMoves.cd N [1, 1, 1, 1, 1, 1, 1, 1, 0, 1, 0, 0, 1, 1, 1]) (loopK (norm ((law_OwnerMoves.E N).keep 13) 0) (law_OwnerMoves.cd N [1, 1, 1, 1, 1, 1, 1, 1, 0, 1, 0, 0]) k5 (blockK 0 (seqK (law_OwnerMoves.cd N [1, 1, 1, 1, 1, 1, 1, 1, 1]) law_OwnerMoves.fin)))))) .normal S))
theorem law_OwnerMoves.j2_eq (N : Nat) (x0 : List (ByteArray × ByteArray × ByteArray)) (x1 : ByteArray) (x2 : ByteArray) (r2 : List (ByteArray × ByteArray × ByteArray) × Int) (k5 : Nat) (a6 : Int) (r7 : ByteArray) (a9 : ByteArray) {M : Nat} (hM : N = M + 1) : law_OwnerMoves.j2 N x0 x1 x2 r2 k5 a6 r7 a9 =
    bif (decide (0 ≤ a6)) && (decide (a6 < (r2.1.length : Int))) then
      bif decide ((Int.toNat a6) < r2.1.length) then
        bif !((seq ((List.getD r2.1 (Int.toNat a6) ((⟨#[]⟩ : ByteArray), ((⟨#[]⟩ : ByteArray), (⟨#[]⟩ : ByteArray)))).1) ((List.getD x0 (Int.toNat a6) ((⟨#[]⟩ : ByteArray), ((⟨#[]⟩ : ByteArray), (⟨#[]⟩ : ByteArray)))).1)) && ((seq (((List.getD r2.1 (Int.toNat a6) ((⟨#[]⟩ : ByteArray), ((⟨#[]⟩ : ByteArray), (⟨#[]⟩ : ByteArray)))).2).1) r7) && ((seq (((List.getD r2.1 (Int.toNat a6) ((⟨#[]⟩ : ByteArray), ((⟨#[]⟩ : ByteArray), (⟨#[]⟩ : ByteArray)))).2).2) a9) && true))) then
          some false
        else
          law_OwnerMoves.l1 N x0 x1 x2 r2 k5 (w (a6 + 1))
      else
        none
    else
      none := (fuelK_eq hM _).trans (by kernel_rfl)
theorem law_OwnerMoves.l1_zero (N : Nat) (x0 : List (ByteArray × ByteArray × ByteArray)) (x1 : ByteArray) (x2 : ByteArray) (r2 : List (ByteArray × ByteArray × ByteArray) × Int) (a6 : Int) : law_OwnerMoves.l1 N x0 x1 x2 r2 0 a6 = none := by kernel_rfl
theorem law_OwnerMoves.l1_succ (N : Nat) (x0 : List (ByteArray × ByteArray × ByteArray)) (x1 : ByteArray) (x2 : ByteArray) (r2 : List (ByteArray × ByteArray × ByteArray) × Int) (k5 : Nat) (a6 : Int) : law_OwnerMoves.l1 N x0 x1 x2 r2 (k5 + 1) a6 =
    bif decide (a6 < (x0.length : Int)) then
      bif (decide (0 ≤ a6)) && (decide (a6 < (x0.length : Int))) then
        (law_OwnerMoves_1.fn N (((List.getD x0 (Int.toNat a6) ((⟨#[]⟩ : ByteArray), ((⟨#[]⟩ : ByteArray), (⟨#[]⟩ : ByteArray)))).2).1, x1, x2)).bind fun r7 =>
        (law_OwnerMoves_1.fn N (((List.getD x0 (Int.toNat a6) ((⟨#[]⟩ : ByteArray), ((⟨#[]⟩ : ByteArray), (⟨#[]⟩ : ByteArray)))).2).2, x1, x2)).bind fun r8 =>
        bif seq r7 r8 then
          law_OwnerMoves.j2 N x0 x1 x2 r2 k5 a6 r7 (⟨#[]⟩ : ByteArray)
        else
          law_OwnerMoves.j2 N x0 x1 x2 r2 k5 a6 r7 r8
      else
        none
    else
      some true := by kernel_rfl
theorem law_OwnerMoves.j0_eq (N : Nat) (x0 : List (ByteArray × ByteArray × ByteArray)) (x1 : ByteArray) (x2 : ByteArray) (r2 : List (ByteArray × ByteArray × ByteArray) × Int) (a4 : Int) {M : Nat} (hM : N = M + 1) : law_OwnerMoves.j0 N x0 x1 x2 r2 a4 =
    bif !(a4 == 0) then
      bif !(r2.2 == a4) || (r2.2 == a4) then
        bif !(r2.2 == a4) || (r2.2 == a4) then
          bif (!(r2.2 == a4)) || (r2.2 == a4) then
            some ((r2.2 == a4) && ((r2.1.length : Int) == 0))
          else
            none
        else
          none
      else
        none
    else
    bif !(!(!(r2.2 == 0))) || (!(!(r2.2 == 0))) then
      bif !(!(!(r2.2 == 0))) || (!(!(r2.2 == 0))) then
        bif !(!(!(r2.2 == 0))) || (!(!(r2.2 == 0))) then
          bif !(!(!(r2.2 == 0))) || (!(!(r2.2 == 0))) then
            bif (!(r2.2 == 0)) || (!(!(r2.2 == 0))) then
              bif (!(r2.2 == 0)) || (!((r2.1.length : Int) == (x0.length : Int))) then
                some false
              else
                law_OwnerMoves.l1 N x0 x1 x2 r2 N 0
            else
              none
          else
            none
        else
          none
      else
        none
    else
      none := (fuelK_eq hM _).trans (by kernel_rfl)
theorem law_OwnerMoves.j0_clean (N : Nat) (x0 : List (ByteArray × ByteArray × ByteArray)) (x1 : ByteArray) (x2 : ByteArray) (r2 : List (ByteArray × ByteArray × ByteArray) × Int) (a4 : Int) {M : Nat} (hM : N = M + 1) : law_OwnerMoves.j0 N x0 x1 x2 r2 a4 =
    bif !(a4 == 0) then
      some ((r2.2 == a4) && ((r2.1.length : Int) == 0))
    else
    bif (!(r2.2 == 0)) || (!((r2.1.length : Int) == (x0.length : Int))) then
      some false
    else
      law_OwnerMoves.l1 N x0 x1 x2 r2 N 0 := by
  rw [law_OwnerMoves.j0_eq (hM := hM)]; simp only [taut30, taut15, taut31, taut16, cond_true]
theorem law_OwnerMoves.l1_cons (N : Nat) (x0 : List (ByteArray × ByteArray × ByteArray)) (x1 : ByteArray) (x2 : ByteArray) (r2 : List (ByteArray × ByteArray × ByteArray) × Int) (k5 : Nat) {pre r} {x} (hl : x0 = pre ++ x :: r) (hb : x0.length < 4611686018427387904) : law_OwnerMoves.l1 N x0 x1 x2 r2 (k5 + 1) (pre.length : Int) =
    (law_OwnerMoves_1.fn N ((x.2).1, x1, x2)).bind fun r7 =>
    (law_OwnerMoves_1.fn N ((x.2).2, x1, x2)).bind fun r8 =>
    bif seq r7 r8 then
      law_OwnerMoves.j2 N x0 x1 x2 r2 k5 (pre.length : Int) r7 (⟨#[]⟩ : ByteArray)
    else
      law_OwnerMoves.j2 N x0 x1 x2 r2 k5 (pre.length : Int) r7 r8 := by
  have hlen : x0.length = pre.length + 1 + r.length := by rw [hl]; simp; omega
  have e1 : decide ((pre.length : Int) < (x0.length : Int)) = true := by rw [decide_eq_true_iff]; omega
  have e2 : decide (0 ≤ (pre.length : Int)) = true := by rw [decide_eq_true_iff]; omega
  have e4 : w ((pre.length : Int) + 1) = (pre.length : Int) + 1 := w_next hl hb
  have e5 : List.take pre.length x0 = pre := by rw [hl]; simp
  have e6 : decide ((pre.length : Int) ≤ (x0.length : Int)) = true := by rw [decide_eq_true_iff]; omega
  have g0 : List.getD x0 pre.length ((⟨#[]⟩ : ByteArray), ((⟨#[]⟩ : ByteArray), (⟨#[]⟩ : ByteArray))) = x := by rw [hl]; exact getD_mid pre x r _
  rw [law_OwnerMoves.l1_succ]
  simp -implicitDefEqProofs only [Int.toNat_natCast, e1, e2, e4, e6, g0, e5, Bool.and_true, Bool.true_and, Bool.true_or, cond_true]
theorem law_OwnerMoves.l1_nil (N : Nat) (x0 : List (ByteArray × ByteArray × ByteArray)) (x1 : ByteArray) (x2 : ByteArray) (r2 : List (ByteArray × ByteArray × ByteArray) × Int) (k5 : Nat) : law_OwnerMoves.l1 N x0 x1 x2 r2 (k5 + 1) (x0.length : Int) =
    some true := by
  have e1 : decide ((x0.length : Int) < (x0.length : Int)) = false := by rw [decide_eq_false_iff_not]; omega
  rw [law_OwnerMoves.l1_succ]
  simp -implicitDefEqProofs only [e1, cond_false]
theorem law_OwnerMoves.eq (N : Nat) (x0 : List (ByteArray × ByteArray × ByteArray)) (x1 : ByteArray) (x2 : ByteArray) : law_OwnerMoves.fn N (x0, x1, x2) =
    (law_ownerFact.fn N ()).bind fun r1 =>
    bif !r1 then
      some false
    else
      (owner_Move.fn N (x0, x1, x2)).bind fun r2 =>
      (ref_OwnersError.fn N x0).bind fun r3 =>
      bif !(r3 == 0) || (r3 == 0) then
        (bif (r3 == 0) then ref_IsName.fn N x1 else some (false)).bind fun r10 =>
        bif !(r3 == 0) || (r3 == 0) then
          bif !(r3 == 0) || (r3 == 0) then
            bif !((r3 == 0) && (!(!r10))) || ((r3 == 0) && (!(!r10))) then
              (bif ((r3 == 0) && (!(!r10))) then ref_IsName.fn N x2 else some (false)).bind fun r11 =>
              bif !((r3 == 0) && (!(!r10))) || ((r3 == 0) && (!(!r10))) then
                bif !(r3 == 0) || (r3 == 0) then
                  bif !(r3 == 0) || ((!r10) || ((r3 == 0) && (!(!r10)))) then
                    bif (!(r3 == 0)) || (r3 == 0) then
                      bif (r3 == 0) && ((!r10) || (!r11)) then
                        law_OwnerMoves.j0 N x0 x1 x2 r2 3
                      else
                        law_OwnerMoves.j0 N x0 x1 x2 r2 r3
                    else
                      none
                  else
                    none
                else
                  none
              else
                none
            else
              none
          else
            none
        else
          none
      else
        none := by kernel_rfl
theorem taut36 : ∀ p0 p1 : Bool, ((!((p0) && (!(!p1))) || ((p0) && (!(!p1))))) = true := by decide
theorem taut37 : ∀ p0 p1 : Bool, ((!(p0) || ((!p1) || ((p0) && (!(!p1)))))) = true := by decide
theorem law_OwnerMoves.clean (N : Nat) (x0 : List (ByteArray × ByteArray × ByteArray)) (x1 : ByteArray) (x2 : ByteArray) : law_OwnerMoves.fn N (x0, x1, x2) =
    (law_ownerFact.fn N ()).bind fun r1 =>
    bif !r1 then
      some false
    else
      (owner_Move.fn N (x0, x1, x2)).bind fun r2 =>
      (ref_OwnersError.fn N x0).bind fun r3 =>
      (bif (r3 == 0) then ref_IsName.fn N x1 else some (false)).bind fun r10 =>
      (bif ((r3 == 0) && (!(!r10))) then ref_IsName.fn N x2 else some (false)).bind fun r11 =>
      bif (r3 == 0) && ((!r10) || (!r11)) then
        law_OwnerMoves.j0 N x0 x1 x2 r2 3
      else
        law_OwnerMoves.j0 N x0 x1 x2 r2 r3 := by
  rw [law_OwnerMoves.eq]; simp only [taut36, taut37, taut15, taut16, cond_true]

end Go.Proofs.Ytcmcacophbbagaa.Sk
