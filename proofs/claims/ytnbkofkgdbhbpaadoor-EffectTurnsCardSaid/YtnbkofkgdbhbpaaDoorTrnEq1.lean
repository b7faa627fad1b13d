/- PRINTED by gen.py: what the functions answer. Not trusted: Lean checks it. -/
import Derived.Test.YtnbkofkgdbhbpaaDoorSkAid
import Derived.Test.YtnbkofkgdbhbpaaDoorSkIns44
import Derived.Test.YtnbkofkgdbhbpaaDoorSkSqrt
import Derived.Test.YtnbkofkgdbhbpaaDoorSkBits67
import Derived.Test.YtnbkofkgdbhbpaaDoorSkFrom68
set_option linter.unusedVariables false
set_option linter.unusedSimpArgs false
set_option maxRecDepth 100000
namespace Go.Proofs.YtnbkofkgdbhbpaaDoor.Sk
open Go
def tyTab : TypeId → Option Ty := tyOf [(3, .int .i64), (9, .str), (39, .pair (.pair (.int .i64) (.pair (.pair (.int .i64) (.int .i64)) (.int .i64))) (.pair (.int .i64) (.int .i64)))]
theorem mixed : Tryd.prog.follows .mixedOrders = true := by kernel_rfl
/-! ### law_level: skyway/skywaylaw3.level -/
def law_level.kp : List (Nat × List (Nat × Option (TypeId × Ty))) := []
noncomputable def law_level.G (N : Nat) : List (Nat × Spec) := []
noncomputable def law_level.E (N : Nat) : Env := mkEnv (law_level.G N) N tyTab law_level.kp
noncomputable def law_level.fn (N : Nat) (x : Unit) : Option (List ((Int × (Int × Int) × Int) × Int × Int)) := evFn (law_level.E N) Tryd.prog 3 Tryd.f9 false [] [.own 39 (.pair (.pair (.int .i64) (.pair (.pair (.int .i64) (.int .i64)) (.int .i64))) (.pair (.int .i64) (.int .i64)))] x
noncomputable def law_level.S (N : Nat) : PSpec := ⟨false, [], [.own 39 (.pair (.pair (.int .i64) (.pair (.pair (.int .i64) (.int .i64)) (.int .i64))) (.pair (.int .i64) (.int .i64)))], law_level.fn N⟩
theorem f9_enters : Enters Tryd.prog 9 := ⟨Tryd.f9, Tryd.func9, by kernel_rfl, by kernel_rfl⟩
theorem law_level.tab (N : Nat) : TabOk Tryd.prog (law_level.G N) := trivial
theorem law_level.enters : Enters Tryd.prog 9 := f9_enters
theorem law_level.sound (N : Nat) : Sound Tryd.prog 9 (law_level.S N) := evFn_sound (specs_tab (law_level.tab N)) (inls_tab (law_level.tab N)) mixed 3 Tryd.func9 _ _ _
theorem law_level.eq (N : Nat) : law_level.fn N () =
    some [((0, ((0, 0), 9000)), (100, 50)), ((100, ((10000, 0), 9000)), (100, 50))] := by kernel_rfl

/-! ### law_climbed: skyway/skywaylaw3.climbed -/
def law_climbed.kp : List (Nat × List (Nat × Option (TypeId × Ty))) := []
noncomputable def law_climbed.G (N : Nat) : List (Nat × Spec) := []
noncomputable def law_climbed.E (N : Nat) : Env := mkEnv (law_climbed.G N) N tyTab law_climbed.kp
noncomputable def law_climbed.fn (N : Nat) (x : Int) : Option (ByteArray × Int × Int × ByteArray) := evFn (law_climbed.E N) Tryd.prog 3 Tryd.f10 false [.cell (.int .i64)] [.val (.agg (.pair (.str) (.pair (.int .i64) (.pair (.int .i64) (.str)))))] x
noncomputable def law_climbed.S (N : Nat) : PSpec := ⟨false, [.cell (.int .i64)], [.val (.agg (.pair (.str) (.pair (.int .i64) (.pair (.int .i64) (.str)))))], law_climbed.fn N⟩
theorem f10_enters : Enters Tryd.prog 10 := ⟨Tryd.f10, Tryd.func10, by kernel_rfl, by kernel_rfl⟩
theorem law_climbed.tab (N : Nat) : TabOk Tryd.prog (law_climbed.G N) := trivial
theorem law_climbed.enters : Enters Tryd.prog 10 := f10_enters
theorem law_climbed.sound (N : Nat) : Sound Tryd.prog 10 (law_climbed.S N) := evFn_sound (specs_tab (law_climbed.tab N)) (inls_tab (law_climbed.tab N)) mixed 3 Tryd.func10 _ _ _
theorem law_climbed.eq (N : Nat) (x0 : Int) : law_climbed.fn N x0 =
    some ((⟨#[65, 49]⟩ : ByteArray), (0, (x0, (⟨#[]⟩ : ByteArray)))) := by kernel_rfl

/-! ### law_jet: skyway/skywaylaw3.jet -/
def law_jet.kp : List (Nat × List (Nat × Option (TypeId × Ty))) := []
noncomputable def law_jet.G (N : Nat) : List (Nat × Spec) := []
noncomputable def law_jet.E (N : Nat) : Env := mkEnv (law_jet.G N) N tyTab law_jet.kp
noncomputable def law_jet.fn (N : Nat) (x : Unit) : Option (ByteArray × Int × Int × Int × Int × Int × Int) := evFn (law_jet.E N) Tryd.prog 3 Tryd.f11 false [] [.val (.agg (.pair (.str) (.pair (.int .i64) (.pair (.int .i64) (.pair (.int .i64) (.pair (.int .i64) (.pair (.int .i64) (.int .i64))))))))] x
noncomputable def law_jet.S (N : Nat) : PSpec := ⟨false, [], [.val (.agg (.pair (.str) (.pair (.int .i64) (.pair (.int .i64) (.pair (.int .i64) (.pair (.int .i64) (.pair (.int .i64) (.int .i64))))))))], law_jet.fn N⟩
theorem f11_enters : Enters Tryd.prog 11 := ⟨Tryd.f11, Tryd.func11, by kernel_rfl, by kernel_rfl⟩
theorem law_jet.tab (N : Nat) : TabOk Tryd.prog (law_jet.G N) := trivial
theorem law_jet.enters : Enters Tryd.prog 11 := f11_enters
theorem law_jet.sound (N : Nat) : Sound Tryd.prog 11 (law_jet.S N) := evFn_sound (specs_tab (law_jet.tab N)) (inls_tab (law_jet.tab N)) mixed 3 Tryd.func11 _ _ _
theorem law_jet.eq (N : Nat) : law_jet.fn N () =
    some ((⟨#[74, 69, 84]⟩ : ByteArray), (1, (40000, (50, (40, (50, 300)))))) := by kernel_rfl

/-! ### plane_Check: skyway/plane.Check -/
def plane_Check.kp : List (Nat × List (Nat × Option (TypeId × Ty))) := []
noncomputable def plane_Check.G (N : Nat) : List (Nat × Spec) := []
noncomputable def plane_Check.E (N : Nat) : Env := mkEnv (plane_Check.G N) N tyTab plane_Check.kp
noncomputable def plane_Check.fn (N : Nat) (x : Int × Int) : Option Int := evFn (plane_Check.E N) Tryd.prog 3 Tryd.f16 false [.agg (.pair (.int .i64) (.int .i64))] [.val (.cell (.int .i64))] x
noncomputable def plane_Check.S (N : Nat) : PSpec := ⟨false, [.agg (.pair (.int .i64) (.int .i64))], [.val (.cell (.int .i64))], plane_Check.fn N⟩
theorem f16_enters : Enters Tryd.prog 16 := ⟨Tryd.f16, Tryd.func16, by kernel_rfl, by kernel_rfl⟩
theorem plane_Check.tab (N : Nat) : TabOk Tryd.prog (plane_Check.G N) := trivial
theorem plane_Check.enters : Enters Tryd.prog 16 := f16_enters
theorem plane_Check.sound (N : Nat) : Sound Tryd.prog 16 (plane_Check.S N) := evFn_sound (specs_tab (plane_Check.tab N)) (inls_tab (plane_Check.tab N)) mixed 3 Tryd.func16 _ _ _
theorem plane_Check.eq (N : Nat) (x0 : Int × Int) : plane_Check.fn N x0 =
    bif !(!(decide (x0.1 < (-1000000)))) || (!(decide (x0.1 < (-1000000)))) then
      bif !(!(decide (x0.1 < (-1000000)))) || (!(decide (x0.1 < (-1000000)))) then
        bif (decide (x0.1 < (-1000000))) || (!(decide (x0.1 < (-1000000)))) then
          bif !(!((decide (x0.1 < (-1000000))) || (decide (x0.1 > 1000000)))) || (!((decide (x0.1 < (-1000000))) || (decide (x0.1 > 1000000)))) then
            bif !(!((decide (x0.1 < (-1000000))) || (decide (x0.1 > 1000000)))) || (!((decide (x0.1 < (-1000000))) || (decide (x0.1 > 1000000)))) then
              bif ((decide (x0.1 < (-1000000))) || (decide (x0.1 > 1000000))) || (!((decide (x0.1 < (-1000000))) || (decide (x0.1 > 1000000)))) then
                bif !(!(((decide (x0.1 < (-1000000))) || (decide (x0.1 > 1000000))) || (decide (x0.2 < (-1000000))))) || (!(((decide (x0.1 < (-1000000))) || (decide (x0.1 > 1000000))) || (decide (x0.2 < (-1000000))))) then
                  bif !(!(((decide (x0.1 < (-1000000))) || (decide (x0.1 > 1000000))) || (decide (x0.2 < (-1000000))))) || (!(((decide (x0.1 < (-1000000))) || (decide (x0.1 > 1000000))) || (decide (x0.2 < (-1000000))))) then
                    bif (((decide (x0.1 < (-1000000))) || (decide (x0.1 > 1000000))) || (decide (x0.2 < (-1000000)))) || (!(((decide (x0.1 < (-1000000))) || (decide (x0.1 > 1000000))) || (decide (x0.2 < (-1000000))))) then
                      bif (((decide (x0.1 < (-1000000))) || (decide (x0.1 > 1000000))) || (decide (x0.2 < (-1000000)))) || (decide (x0.2 > 1000000)) then
                        some 4
                      else
                        some 0
                    else
                      none
                  else
                    none
                else
                  none
              else
                none
            else
              none
          else
            none
        else
          none
      else
        none
    else
      none := by kernel_rfl
theorem taut1 : ∀ p0 p1 p2 : Bool, ((!(!(((p0) || (p1)) || (p2))) || (!(((p0) || (p1)) || (p2))))) = true := by decide
theorem taut2 : ∀ p0 p1 : Bool, ((!(!((p0) || (p1))) || (!((p0) || (p1))))) = true := by decide
theorem taut3 : ∀ p0 : Bool, ((!(!(p0)) || (!(p0)))) = true := by decide
theorem taut4 : ∀ p0 p1 p2 : Bool, (((((p0) || (p1)) || (p2)) || (!(((p0) || (p1)) || (p2))))) = true := by decide
theorem taut5 : ∀ p0 p1 : Bool, ((((p0) || (p1)) || (!((p0) || (p1))))) = true := by decide
theorem taut6 : ∀ p0 : Bool, (((p0) || (!(p0)))) = true := by decide
theorem plane_Check.clean (N : Nat) (x0 : Int × Int) : plane_Check.fn N x0 =
    bif (((decide (x0.1 < (-1000000))) || (decide (x0.1 > 1000000))) || (decide (x0.2 < (-1000000)))) || (decide (x0.2 > 1000000)) then
      some 4
    else
      some 0 := by
  rw [plane_Check.eq]; simp only [taut1, taut2, taut3, taut4, taut5, taut6, cond_true]

/-! ### tube_Check: skyway/tube.Check -/
def tube_Check.kp : List (Nat × List (Nat × Option (TypeId × Ty))) := [(6, [(0, none), (14, none), (15, none), (16, none)])]
noncomputable def tube_Check.G (N : Nat) : List (Nat × Spec) := [(16, .pure (plane_Check.S N))]
noncomputable def tube_Check.E (N : Nat) : Env := mkEnv (tube_Check.G N) N tyTab tube_Check.kp
noncomputable def tube_Check.fn (N : Nat) (x : List ((Int × (Int × Int) × Int) × Int × Int)) : Option Int := evFn (tube_Check.E N) Tryd.prog 3 Tryd.f13 false [.cell (.sl 39 (.pair (.pair (.int .i64) (.pair (.pair (.int .i64) (.int .i64)) (.int .i64))) (.pair (.int .i64) (.int .i64))))] [.val (.cell (.int .i64))] x
noncomputable def tube_Check.S (N : Nat) : PSpec := ⟨false, [.cell (.sl 39 (.pair (.pair (.int .i64) (.pair (.pair (.int .i64) (.int .i64)) (.int .i64))) (.pair (.int .i64) (.int .i64))))], [.val (.cell (.int .i64))], tube_Check.fn N⟩
theorem f13_enters : Enters Tryd.prog 13 := ⟨Tryd.f13, Tryd.func13, by kernel_rfl, by kernel_rfl⟩
theorem tube_Check.tab (N : Nat) : TabOk Tryd.prog (tube_Check.G N) := ⟨⟨plane_Check.enters, plane_Check.sound N⟩, trivial⟩
theorem tube_Check.enters : Enters Tryd.prog 13 := f13_enters
theorem tube_Check.sound (N : Nat) : Sound Tryd.prog 13 (tube_Check.S N) := evFn_sound (specs_tab (tube_Check.tab N)) (inls_tab (tube_Check.tab N)) mixed 3 Tryd.func13 _ _ _
noncomputable def tube_Check.cd (N : Nat) (p : List Nat) : St → (Ex → St → Option Int) → Option Int := ev (tube_Check.E N) Tryd.prog (callD (tube_Check.E N) Tryd.prog 3) 0 (codeAt (bodyOf Tryd.f13) p)
noncomputable def tube_Check.fin : Ex → St → Option Int := endK Tryd.prog Tryd.f13 [.val (.cell (.int .i64))]
noncomputable def tube_Check.l0 (N : Nat) (x0 : List ((Int × (Int × Int) × Int) × Int × Int)) (k1 : Nat) (a2 : Int) : Option Int :=
  loopN (norm ((tube_Check.E N).keep 6) 0) (tube_Check.cd N [1, 1, 0, 1, 0, 0]) k1
  ⟨[.ros false 39 (.pair (.pair (.int .i64) (.pair (.pair (.int .i64) (.int .i64)) (.int .i64))) (.pair (.int .i64) (.int .i64))) x0, .any, .any, .any, .any, .any, .any, .any, .any, .any, .any, .any, .any, .any, .ros false 39 (.pair (.pair (.int .i64) (.pair (.pair (.int .i64) (.int .i64)) (.int .i64))) (.pair (.int .i64) (.int .i64))) x0, .sc (.int .i64 (x0.length : Int)), .sc (.int .i64 a2), .any, .any, .any, .any, .any, .any, .any, .any, .any, .any, .any, .any, .any, .any, .any, .any, .any, .any, .any, .any, .any, .any, .any, .any, .any, .any, .any, .any, .any, .any, .any, .any, .any, .any, .any, .any, .any, .any, .any, .any, .any, .any, .any, .any, .any, .any, .any, .any, .any, .any, .any, .any, .any, .any, .any, .any, .any, .any, .any, .any, .any, .any, .any, .any, .any, .any, .any, .any, .any], []⟩
  (blockK 1 (seqK (tube_Check.cd N [1, 1, 1]) tube_Check.fin))
theorem tube_Check.l0_zero (N : Nat) (x0 : List ((Int × (Int × Int) × Int) × Int × Int)) (a2 : Int) : tube_Check.l0 N x0 0 a2 = none := by kernel_rfl
theorem tube_Check.l0_succ (N : Nat) (x0 : List ((Int × (Int × Int) × Int) × Int × Int)) (k1 : Nat) (a2 : Int) : tube_Check.l0 N x0 (k1 + 1) a2 =
    bif decide (a2 < (x0.length : Int)) then
      bif (decide (0 ≤ a2)) && (decide (a2 < (x0.length : Int))) then
        bif !(!(decide ((((List.getD x0 (Int.toNat a2) ((0, ((0, 0), 0)), (0, 0))).1).1) < 0))) || (!(decide ((((List.getD x0 (Int.toNat a2) ((0, ((0, 0), 0)), (0, 0))).1).1) < 0))) then
          bif !(!(decide ((((List.getD x0 (Int.toNat a2) ((0, ((0, 0), 0)), (0, 0))).1).1) < 0))) || (!(decide ((((List.getD x0 (Int.toNat a2) ((0, ((0, 0), 0)), (0, 0))).1).1) < 0))) then
            bif !(!(decide ((((List.getD x0 (Int.toNat a2) ((0, ((0, 0), 0)), (0, 0))).1).1) < 0))) || (!(decide ((((List.getD x0 (Int.toNat a2) ((0, ((0, 0), 0)), (0, 0))).1).1) < 0))) then
              bif (decide ((((List.getD x0 (Int.toNat a2) ((0, ((0, 0), 0)), (0, 0))).1).1) < 0)) || (!(decide ((((List.getD x0 (Int.toNat a2) ((0, ((0, 0), 0)), (0, 0))).1).1) < 0))) then
                bif !(!((decide ((((List.getD x0 (Int.toNat a2) ((0, ((0, 0), 0)), (0, 0))).1).1) < 0)) || (decide ((((List.getD x0 (Int.toNat a2) ((0, ((0, 0), 0)), (0, 0))).1).1) > 200000)))) || (!((decide ((((List.getD x0 (Int.toNat a2) ((0, ((0, 0), 0)), (0, 0))).1).1) < 0)) || (decide ((((List.getD x0 (Int.toNat a2) ((0, ((0, 0), 0)), (0, 0))).1).1) > 200000)))) then
                  bif !(!((decide ((((List.getD x0 (Int.toNat a2) ((0, ((0, 0), 0)), (0, 0))).1).1) < 0)) || (decide ((((List.getD x0 (Int.toNat a2) ((0, ((0, 0), 0)), (0, 0))).1).1) > 200000)))) || (!((decide ((((List.getD x0 (Int.toNat a2) ((0, ((0, 0), 0)), (0, 0))).1).1) < 0)) || (decide ((((List.getD x0 (Int.toNat a2) ((0, ((0, 0), 0)), (0, 0))).1).1) > 200000)))) then
                    bif !((!((decide ((((List.getD x0 (Int.toNat a2) ((0, ((0, 0), 0)), (0, 0))).1).1) < 0)) || (decide ((((List.getD x0 (Int.toNat a2) ((0, ((0, 0), 0)), (0, 0))).1).1) > 200000)))) && (decide (a2 > 0))) || ((!((decide ((((List.getD x0 (Int.toNat a2) ((0, ((0, 0), 0)), (0, 0))).1).1) < 0)) || (decide ((((List.getD x0 (Int.toNat a2) ((0, ((0, 0), 0)), (0, 0))).1).1) > 200000)))) && (decide (a2 > 0))) then
                      bif !((!((decide ((((List.getD x0 (Int.toNat a2) ((0, ((0, 0), 0)), (0, 0))).1).1) < 0)) || (decide ((((List.getD x0 (Int.toNat a2) ((0, ((0, 0), 0)), (0, 0))).1).1) > 200000)))) && (decide (a2 > 0))) || ((!((decide ((((List.getD x0 (Int.toNat a2) ((0, ((0, 0), 0)), (0, 0))).1).1) < 0)) || (decide ((((List.getD x0 (Int.toNat a2) ((0, ((0, 0), 0)), (0, 0))).1).1) > 200000)))) && (decide (a2 > 0))) then
                        bif !((!((decide ((((List.getD x0 (Int.toNat a2) ((0, ((0, 0), 0)), (0, 0))).1).1) < 0)) || (decide ((((List.getD x0 (Int.toNat a2) ((0, ((0, 0), 0)), (0, 0))).1).1) > 200000)))) && (decide (a2 > 0))) || ((!((decide ((((List.getD x0 (Int.toNat a2) ((0, ((0, 0), 0)), (0, 0))).1).1) < 0)) || (decide ((((List.getD x0 (Int.toNat a2) ((0, ((0, 0), 0)), (0, 0))).1).1) > 200000)))) && (decide (a2 > 0))) then
                          bif !((!((decide ((((List.getD x0 (Int.toNat a2) ((0, ((0, 0), 0)), (0, 0))).1).1) < 0)) || (decide ((((List.getD x0 (Int.toNat a2) ((0, ((0, 0), 0)), (0, 0))).1).1) > 200000)))) && (decide (a2 > 0))) || ((!((decide ((((List.getD x0 (Int.toNat a2) ((0, ((0, 0), 0)), (0, 0))).1).1) < 0)) || (decide ((((List.getD x0 (Int.toNat a2) ((0, ((0, 0), 0)), (0, 0))).1).1) > 200000)))) && (decide (a2 > 0))) then
                            bif !((!((decide ((((List.getD x0 (Int.toNat a2) ((0, ((0, 0), 0)), (0, 0))).1).1) < 0)) || (decide ((((List.getD x0 (Int.toNat a2) ((0, ((0, 0), 0)), (0, 0))).1).1) > 200000)))) && (decide (a2 > 0))) || ((!((decide ((((List.getD x0 (Int.toNat a2) ((0, ((0, 0), 0)), (0, 0))).1).1) < 0)) || (decide ((((List.getD x0 (Int.toNat a2) ((0, ((0, 0), 0)), (0, 0))).1).1) > 200000)))) && (decide (a2 > 0))) then
                              bif ((decide (0 ≤ (w (a2 - 1)))) && (decide ((w (a2 - 1)) < (x0.length : Int)))) || !((!((decide ((((List.getD x0 (Int.toNat a2) ((0, ((0, 0), 0)), (0, 0))).1).1) < 0)) || (decide ((((List.getD x0 (Int.toNat a2) ((0, ((0, 0), 0)), (0, 0))).1).1) > 200000)))) && (decide (a2 > 0))) then
                                bif !((!((decide ((((List.getD x0 (Int.toNat a2) ((0, ((0, 0), 0)), (0, 0))).1).1) < 0)) || (decide ((((List.getD x0 (Int.toNat a2) ((0, ((0, 0), 0)), (0, 0))).1).1) > 200000)))) && (decide (a2 > 0))) || ((!((decide ((((List.getD x0 (Int.toNat a2) ((0, ((0, 0), 0)), (0, 0))).1).1) < 0)) || (decide ((((List.getD x0 (Int.toNat a2) ((0, ((0, 0), 0)), (0, 0))).1).1) > 200000)))) && (decide (a2 > 0))) then
                                  bif !((!((decide ((((List.getD x0 (Int.toNat a2) ((0, ((0, 0), 0)), (0, 0))).1).1) < 0)) || (decide ((((List.getD x0 (Int.toNat a2) ((0, ((0, 0), 0)), (0, 0))).1).1) > 200000)))) && (decide (a2 > 0))) || ((!((decide ((((List.getD x0 (Int.toNat a2) ((0, ((0, 0), 0)), (0, 0))).1).1) < 0)) || (decide ((((List.getD x0 (Int.toNat a2) ((0, ((0, 0), 0)), (0, 0))).1).1) > 200000)))) && (decide (a2 > 0))) then
                                    bif !((!((decide ((((List.getD x0 (Int.toNat a2) ((0, ((0, 0), 0)), (0, 0))).1).1) < 0)) || (decide ((((List.getD x0 (Int.toNat a2) ((0, ((0, 0), 0)), (0, 0))).1).1) > 200000)))) && (decide (a2 > 0))) || ((!((decide ((((List.getD x0 (Int.toNat a2) ((0, ((0, 0), 0)), (0, 0))).1).1) < 0)) || (decide ((((List.getD x0 (Int.toNat a2) ((0, ((0, 0), 0)), (0, 0))).1).1) > 200000)))) && (decide (a2 > 0))) then
                                      bif !((!((decide ((((List.getD x0 (Int.toNat a2) ((0, ((0, 0), 0)), (0, 0))).1).1) < 0)) || (decide ((((List.getD x0 (Int.toNat a2) ((0, ((0, 0), 0)), (0, 0))).1).1) > 200000)))) && (decide (a2 > 0))) || ((!((decide ((((List.getD x0 (Int.toNat a2) ((0, ((0, 0), 0)), (0, 0))).1).1) < 0)) || (decide ((((List.getD x0 (Int.toNat a2) ((0, ((0, 0), 0)), (0, 0))).1).1) > 200000)))) && (decide (a2 > 0))) then
                                        bif !((!((decide ((((List.getD x0 (Int.toNat a2) ((0, ((0, 0), 0)), (0, 0))).1).1) < 0)) || (decide ((((List.getD x0 (Int.toNat a2) ((0, ((0, 0), 0)), (0, 0))).1).1) > 200000)))) && (decide (a2 > 0))) || ((!((decide ((((List.getD x0 (Int.toNat a2) ((0, ((0, 0), 0)), (0, 0))).1).1) < 0)) || (decide ((((List.getD x0 (Int.toNat a2) ((0, ((0, 0), 0)), (0, 0))).1).1) > 200000)))) && (decide (a2 > 0))) then
                                          bif !(!((decide ((((List.getD x0 (Int.toNat a2) ((0, ((0, 0), 0)), (0, 0))).1).1) < 0)) || (decide ((((List.getD x0 (Int.toNat a2) ((0, ((0, 0), 0)), (0, 0))).1).1) > 200000)))) || (!((decide ((((List.getD x0 (Int.toNat a2) ((0, ((0, 0), 0)), (0, 0))).1).1) < 0)) || (decide ((((List.getD x0 (Int.toNat a2) ((0, ((0, 0), 0)), (0, 0))).1).1) > 200000)))) then
                                            bif !(!((decide ((((List.getD x0 (Int.toNat a2) ((0, ((0, 0), 0)), (0, 0))).1).1) < 0)) || (decide ((((List.getD x0 (Int.toNat a2) ((0, ((0, 0), 0)), (0, 0))).1).1) > 200000)))) || ((!(decide (a2 > 0))) || ((!((decide ((((List.getD x0 (Int.toNat a2) ((0, ((0, 0), 0)), (0, 0))).1).1) < 0)) || (decide ((((List.getD x0 (Int.toNat a2) ((0, ((0, 0), 0)), (0, 0))).1).1) > 200000)))) && (decide (a2 > 0)))) then
                                              bif ((decide ((((List.getD x0 (Int.toNat a2) ((0, ((0, 0), 0)), (0, 0))).1).1) < 0)) || (decide ((((List.getD x0 (Int.toNat a2) ((0, ((0, 0), 0)), (0, 0))).1).1) > 200000))) || (!((decide ((((List.getD x0 (Int.toNat a2) ((0, ((0, 0), 0)), (0, 0))).1).1) < 0)) || (decide ((((List.getD x0 (Int.toNat a2) ((0, ((0, 0), 0)), (0, 0))).1).1) > 200000)))) then
                                                bif ((decide ((((List.getD x0 (Int.toNat a2) ((0, ((0, 0), 0)), (0, 0))).1).1) < 0)) || (decide ((((List.getD x0 (Int.toNat a2) ((0, ((0, 0), 0)), (0, 0))).1).1) > 200000))) || ((decide (a2 > 0)) && (decide ((((List.getD x0 (Int.toNat a2) ((0, ((0, 0), 0)), (0, 0))).1).1) ≤ (((List.getD x0 (Int.toNat (w (a2 - 1))) ((0, ((0, 0), 0)), (0, 0))).1).1)))) then
                                                  some 12
                                                else
                                                  (plane_Check.fn N ((((List.getD x0 (Int.toNat a2) ((0, ((0, 0), 0)), (0, 0))).1).2).1)).bind fun r3 =>
                                                  bif !(r3 == 0) then
                                                    some r3
                                                  else
                                                  bif !(!(decide (((((List.getD x0 (Int.toNat a2) ((0, ((0, 0), 0)), (0, 0))).1).2).2) < 0))) || (!(decide (((((List.getD x0 (Int.toNat a2) ((0, ((0, 0), 0)), (0, 0))).1).2).2) < 0))) then
                                                    bif !(!(decide (((((List.getD x0 (Int.toNat a2) ((0, ((0, 0), 0)), (0, 0))).1).2).2) < 0))) || (!(decide (((((List.getD x0 (Int.toNat a2) ((0, ((0, 0), 0)), (0, 0))).1).2).2) < 0))) then
                                                      bif !(!(decide (((((List.getD x0 (Int.toNat a2) ((0, ((0, 0), 0)), (0, 0))).1).2).2) < 0))) || (!(decide (((((List.getD x0 (Int.toNat a2) ((0, ((0, 0), 0)), (0, 0))).1).2).2) < 0))) then
                                                        bif (decide (((((List.getD x0 (Int.toNat a2) ((0, ((0, 0), 0)), (0, 0))).1).2).2) < 0)) || (!(decide (((((List.getD x0 (Int.toNat a2) ((0, ((0, 0), 0)), (0, 0))).1).2).2) < 0))) then
                                                          bif !(!((decide (((((List.getD x0 (Int.toNat a2) ((0, ((0, 0), 0)), (0, 0))).1).2).2) < 0)) || (decide (((((List.getD x0 (Int.toNat a2) ((0, ((0, 0), 0)), (0, 0))).1).2).2) > 60000)))) || (!((decide (((((List.getD x0 (Int.toNat a2) ((0, ((0, 0), 0)), (0, 0))).1).2).2) < 0)) || (decide (((((List.getD x0 (Int.toNat a2) ((0, ((0, 0), 0)), (0, 0))).1).2).2) > 60000)))) then
                                                            bif !(!((decide (((((List.getD x0 (Int.toNat a2) ((0, ((0, 0), 0)), (0, 0))).1).2).2) < 0)) || (decide (((((List.getD x0 (Int.toNat a2) ((0, ((0, 0), 0)), (0, 0))).1).2).2) > 60000)))) || (!((decide (((((List.getD x0 (Int.toNat a2) ((0, ((0, 0), 0)), (0, 0))).1).2).2) < 0)) || (decide (((((List.getD x0 (Int.toNat a2) ((0, ((0, 0), 0)), (0, 0))).1).2).2) > 60000)))) then
                                                              bif ((decide (((((List.getD x0 (Int.toNat a2) ((0, ((0, 0), 0)), (0, 0))).1).2).2) < 0)) || (decide (((((List.getD x0 (Int.toNat a2) ((0, ((0, 0), 0)), (0, 0))).1).2).2) > 60000))) || (!((decide (((((List.getD x0 (Int.toNat a2) ((0, ((0, 0), 0)), (0, 0))).1).2).2) < 0)) || (decide (((((List.getD x0 (Int.toNat a2) ((0, ((0, 0), 0)), (0, 0))).1).2).2) > 60000)))) then
                                                                bif !(!(((decide (((((List.getD x0 (Int.toNat a2) ((0, ((0, 0), 0)), (0, 0))).1).2).2) < 0)) || (decide (((((List.getD x0 (Int.toNat a2) ((0, ((0, 0), 0)), (0, 0))).1).2).2) > 60000))) || (decide ((((List.getD x0 (Int.toNat a2) ((0, ((0, 0), 0)), (0, 0))).2).1) < 0)))) || (!(((decide (((((List.getD x0 (Int.toNat a2) ((0, ((0, 0), 0)), (0, 0))).1).2).2) < 0)) || (decide (((((List.getD x0 (Int.toNat a2) ((0, ((0, 0), 0)), (0, 0))).1).2).2) > 60000))) || (decide ((((List.getD x0 (Int.toNat a2) ((0, ((0, 0), 0)), (0, 0))).2).1) < 0)))) then
                                                                  bif !(!(((decide (((((List.getD x0 (Int.toNat a2) ((0, ((0, 0), 0)), (0, 0))).1).2).2) < 0)) || (decide (((((List.getD x0 (Int.toNat a2) ((0, ((0, 0), 0)), (0, 0))).1).2).2) > 60000))) || (decide ((((List.getD x0 (Int.toNat a2) ((0, ((0, 0), 0)), (0, 0))).2).1) < 0)))) || (!(((decide (((((List.getD x0 (Int.toNat a2) ((0, ((0, 0), 0)), (0, 0))).1).2).2) < 0)) || (decide (((((List.getD x0 (Int.toNat a2) ((0, ((0, 0), 0)), (0, 0))).1).2).2) > 60000))) || (decide ((((List.getD x0 (Int.toNat a2) ((0, ((0, 0), 0)), (0, 0))).2).1) < 0)))) then
                                                                    bif (((decide (((((List.getD x0 (Int.toNat a2) ((0, ((0, 0), 0)), (0, 0))).1).2).2) < 0)) || (decide (((((List.getD x0 (Int.toNat a2) ((0, ((0, 0), 0)), (0, 0))).1).2).2) > 60000))) || (decide ((((List.getD x0 (Int.toNat a2) ((0, ((0, 0), 0)), (0, 0))).2).1) < 0))) || (!(((decide (((((List.getD x0 (Int.toNat a2) ((0, ((0, 0), 0)), (0, 0))).1).2).2) < 0)) || (decide (((((List.getD x0 (Int.toNat a2) ((0, ((0, 0), 0)), (0, 0))).1).2).2) > 60000))) || (decide ((((List.getD x0 (Int.toNat a2) ((0, ((0, 0), 0)), (0, 0))).2).1) < 0)))) then
                                                                      bif !(!((((decide (((((List.getD x0 (Int.toNat a2) ((0, ((0, 0), 0)), (0, 0))).1).2).2) < 0)) || (decide (((((List.getD x0 (Int.toNat a2) ((0, ((0, 0), 0)), (0, 0))).1).2).2) > 60000))) || (decide ((((List.getD x0 (Int.toNat a2) ((0, ((0, 0), 0)), (0, 0))).2).1) < 0))) || (decide ((((List.getD x0 (Int.toNat a2) ((0, ((0, 0), 0)), (0, 0))).2).1) > 1000000)))) || (!((((decide (((((List.getD x0 (Int.toNat a2) ((0, ((0, 0), 0)), (0, 0))).1).2).2) < 0)) || (decide (((((List.getD x0 (Int.toNat a2) ((0, ((0, 0), 0)), (0, 0))).1).2).2) > 60000))) || (decide ((((List.getD x0 (Int.toNat a2) ((0, ((0, 0), 0)), (0, 0))).2).1) < 0))) || (decide ((((List.getD x0 (Int.toNat a2) ((0, ((0, 0), 0)), (0, 0))).2).1) > 1000000)))) then
                                                                        bif !(!((((decide (((((List.getD x0 (Int.toNat a2) ((0, ((0, 0), 0)), (0, 0))).1).2).2) < 0)) || (decide (((((List.getD x0 (Int.toNat a2) ((0, ((0, 0), 0)), (0, 0))).1).2).2) > 60000))) || (decide ((((List.getD x0 (Int.toNat a2) ((0, ((0, 0), 0)), (0, 0))).2).1) < 0))) || (decide ((((List.getD x0 (Int.toNat a2) ((0, ((0, 0), 0)), (0, 0))).2).1) > 1000000)))) || (!((((decide (((((List.getD x0 (Int.toNat a2) ((0, ((0, 0), 0)), (0, 0))).1).2).2) < 0)) || (decide (((((List.getD x0 (Int.toNat a2) ((0, ((0, 0), 0)), (0, 0))).1).2).2) > 60000))) || (decide ((((List.getD x0 (Int.toNat a2) ((0, ((0, 0), 0)), (0, 0))).2).1) < 0))) || (decide ((((List.getD x0 (Int.toNat a2) ((0, ((0, 0), 0)), (0, 0))).2).1) > 1000000)))) then
                                                                          bif ((((decide (((((List.getD x0 (Int.toNat a2) ((0, ((0, 0), 0)), (0, 0))).1).2).2) < 0)) || (decide (((((List.getD x0 (Int.toNat a2) ((0, ((0, 0), 0)), (0, 0))).1).2).2) > 60000))) || (decide ((((List.getD x0 (Int.toNat a2) ((0, ((0, 0), 0)), (0, 0))).2).1) < 0))) || (decide ((((List.getD x0 (Int.toNat a2) ((0, ((0, 0), 0)), (0, 0))).2).1) > 1000000))) || (!((((decide (((((List.getD x0 (Int.toNat a2) ((0, ((0, 0), 0)), (0, 0))).1).2).2) < 0)) || (decide (((((List.getD x0 (Int.toNat a2) ((0, ((0, 0), 0)), (0, 0))).1).2).2) > 60000))) || (decide ((((List.getD x0 (Int.toNat a2) ((0, ((0, 0), 0)), (0, 0))).2).1) < 0))) || (decide ((((List.getD x0 (Int.toNat a2) ((0, ((0, 0), 0)), (0, 0))).2).1) > 1000000)))) then
                                                                            bif !(!(((((decide (((((List.getD x0 (Int.toNat a2) ((0, ((0, 0), 0)), (0, 0))).1).2).2) < 0)) || (decide (((((List.getD x0 (Int.toNat a2) ((0, ((0, 0), 0)), (0, 0))).1).2).2) > 60000))) || (decide ((((List.getD x0 (Int.toNat a2) ((0, ((0, 0), 0)), (0, 0))).2).1) < 0))) || (decide ((((List.getD x0 (Int.toNat a2) ((0, ((0, 0), 0)), (0, 0))).2).1) > 1000000))) || (decide ((((List.getD x0 (Int.toNat a2) ((0, ((0, 0), 0)), (0, 0))).2).2) < 0)))) || (!(((((decide (((((List.getD x0 (Int.toNat a2) ((0, ((0, 0), 0)), (0, 0))).1).2).2) < 0)) || (decide (((((List.getD x0 (Int.toNat a2) ((0, ((0, 0), 0)), (0, 0))).1).2).2) > 60000))) || (decide ((((List.getD x0 (Int.toNat a2) ((0, ((0, 0), 0)), (0, 0))).2).1) < 0))) || (decide ((((List.getD x0 (Int.toNat a2) ((0, ((0, 0), 0)), (0, 0))).2).1) > 1000000))) || (decide ((((List.getD x0 (Int.toNat a2) ((0, ((0, 0), 0)), (0, 0))).2).2) < 0)))) then
                                                                              bif !(!(((((decide (((((List.getD x0 (Int.toNat a2) ((0, ((0, 0), 0)), (0, 0))).1).2).2) < 0)) || (decide (((((List.getD x0 (Int.toNat a2) ((0, ((0, 0), 0)), (0, 0))).1).2).2) > 60000))) || (decide ((((List.getD x0 (Int.toNat a2) ((0, ((0, 0), 0)), (0, 0))).2).1) < 0))) || (decide ((((List.getD x0 (Int.toNat a2) ((0, ((0, 0), 0)), (0, 0))).2).1) > 1000000))) || (decide ((((List.getD x0 (Int.toNat a2) ((0, ((0, 0), 0)), (0, 0))).2).2) < 0)))) || (!(((((decide (((((List.getD x0 (Int.toNat a2) ((0, ((0, 0), 0)), (0, 0))).1).2).2) < 0)) || (decide (((((List.getD x0 (Int.toNat a2) ((0, ((0, 0), 0)), (0, 0))).1).2).2) > 60000))) || (decide ((((List.getD x0 (Int.toNat a2) ((0, ((0, 0), 0)), (0, 0))).2).1) < 0))) || (decide ((((List.getD x0 (Int.toNat a2) ((0, ((0, 0), 0)), (0, 0))).2).1) > 1000000))) || (decide ((((List.getD x0 (Int.toNat a2) ((0, ((0, 0), 0)), (0, 0))).2).2) < 0)))) then
                                                                                bif (((((decide (((((List.getD x0 (Int.toNat a2) ((0, ((0, 0), 0)), (0, 0))).1).2).2) < 0)) || (decide (((((List.getD x0 (Int.toNat a2) ((0, ((0, 0), 0)), (0, 0))).1).2).2) > 60000))) || (decide ((((List.getD x0 (Int.toNat a2) ((0, ((0, 0), 0)), (0, 0))).2).1) < 0))) || (decide ((((List.getD x0 (Int.toNat a2) ((0, ((0, 0), 0)), (0, 0))).2).1) > 1000000))) || (decide ((((List.getD x0 (Int.toNat a2) ((0, ((0, 0), 0)), (0, 0))).2).2) < 0))) || (!(((((decide (((((List.getD x0 (Int.toNat a2) ((0, ((0, 0), 0)), (0, 0))).1).2).2) < 0)) || (decide (((((List.getD x0 (Int.toNat a2) ((0, ((0, 0), 0)), (0, 0))).1).2).2) > 60000))) || (decide ((((List.getD x0 (Int.toNat a2) ((0, ((0, 0), 0)), (0, 0))).2).1) < 0))) || (decide ((((List.getD x0 (Int.toNat a2) ((0, ((0, 0), 0)), (0, 0))).2).1) > 1000000))) || (decide ((((List.getD x0 (Int.toNat a2) ((0, ((0, 0), 0)), (0, 0))).2).2) < 0)))) then
                                                                                  bif (((((decide (((((List.getD x0 (Int.toNat a2) ((0, ((0, 0), 0)), (0, 0))).1).2).2) < 0)) || (decide (((((List.getD x0 (Int.toNat a2) ((0, ((0, 0), 0)), (0, 0))).1).2).2) > 60000))) || (decide ((((List.getD x0 (Int.toNat a2) ((0, ((0, 0), 0)), (0, 0))).2).1) < 0))) || (decide ((((List.getD x0 (Int.toNat a2) ((0, ((0, 0), 0)), (0, 0))).2).1) > 1000000))) || (decide ((((List.getD x0 (Int.toNat a2) ((0, ((0, 0), 0)), (0, 0))).2).2) < 0))) || (decide ((((List.getD x0 (Int.toNat a2) ((0, ((0, 0), 0)), (0, 0))).2).2) > 60000)) then
                                                                                    some 4
                                                                                  else
                                                                                    tube_Check.l0 N x0 k1 (w (a2 + 1))
                                                                                else
                                                                                  none
                                                                              else
                                                                                none
                                                                            else
                                                                              none
                                                                          else
                                                                            none
                                                                        else
                                                                          none
                                                                      else
                                                                        none
                                                                    else
                                                                      none
                                                                  else
                                                                    none
                                                                else
                                                                  none
                                                              else
                                                                none
                                                            else
                                                              none
                                                          else
                                                            none
                                                        else
                                                          none
                                                      else
                                                        none
                                                    else
                                                      none
                                                  else
                                                    none
                                              else
                                                none
                                            else
                                              none
                                          else
                                            none
                                        else
                                          none
                                      else
                                        none
                                    else
                                      none
                                  else
                                    none
                                else
                                  none
                              else
                                none
                            else
                              none
                          else
                            none
                        else
                          none
                      else
                        none
                    else
                      none
                  else
                    none
                else
                  none
              else
                none
            else
              none
          else
            none
        else
          none
      else
        none
    else
      some 0 := by kernel_rfl
theorem taut7 : ∀ p0 p1 p2 p3 p4 : Bool, ((!(!(((((p0) || (p1)) || (p2)) || (p3)) || (p4))) || (!(((((p0) || (p1)) || (p2)) || (p3)) || (p4))))) = true := by decide
theorem taut8 : ∀ p0 p1 p2 p3 : Bool, ((!(!((((p0) || (p1)) || (p2)) || (p3))) || (!((((p0) || (p1)) || (p2)) || (p3))))) = true := by decide
theorem taut9 : ∀ p0 p1 p2 : Bool, ((!(!((p0) || (p1))) || ((!(p2)) || ((!((p0) || (p1))) && (p2))))) = true := by decide
theorem taut10 : ∀ p0 p1 p2 : Bool, ((!((!((p0) || (p1))) && (p2)) || ((!((p0) || (p1))) && (p2)))) = true := by decide
theorem taut11 : ∀ p0 p1 p2 p3 p4 : Bool, (((((((p0) || (p1)) || (p2)) || (p3)) || (p4)) || (!(((((p0) || (p1)) || (p2)) || (p3)) || (p4))))) = true := by decide
theorem taut12 : ∀ p0 p1 p2 p3 : Bool, ((((((p0) || (p1)) || (p2)) || (p3)) || (!((((p0) || (p1)) || (p2)) || (p3))))) = true := by decide
theorem tube_Check.l0_clean (N : Nat) (x0 : List ((Int × (Int × Int) × Int) × Int × Int)) (k1 : Nat) (a2 : Int) : tube_Check.l0 N x0 (k1 + 1) a2 =
    bif decide (a2 < (x0.length : Int)) then
      bif (decide (0 ≤ a2)) && (decide (a2 < (x0.length : Int))) then
        bif ((decide (0 ≤ (w (a2 - 1)))) && (decide ((w (a2 - 1)) < (x0.length : Int)))) || !((!((decide ((((List.getD x0 (Int.toNat a2) ((0, ((0, 0), 0)), (0, 0))).1).1) < 0)) || (decide ((((List.getD x0 (Int.toNat a2) ((0, ((0, 0), 0)), (0, 0))).1).1) > 200000)))) && (decide (a2 > 0))) then
          bif ((decide ((((List.getD x0 (Int.toNat a2) ((0, ((0, 0), 0)), (0, 0))).1).1) < 0)) || (decide ((((List.getD x0 (Int.toNat a2) ((0, ((0, 0), 0)), (0, 0))).1).1) > 200000))) || ((decide (a2 > 0)) && (decide ((((List.getD x0 (Int.toNat a2) ((0, ((0, 0), 0)), (0, 0))).1).1) ≤ (((List.getD x0 (Int.toNat (w (a2 - 1))) ((0, ((0, 0), 0)), (0, 0))).1).1)))) then
            some 12
          else
            (plane_Check.fn N ((((List.getD x0 (Int.toNat a2) ((0, ((0, 0), 0)), (0, 0))).1).2).1)).bind fun r3 =>
            bif !(r3 == 0) then
              some r3
            else
            bif (((((decide (((((List.getD x0 (Int.toNat a2) ((0, ((0, 0), 0)), (0, 0))).1).2).2) < 0)) || (decide (((((List.getD x0 (Int.toNat a2) ((0, ((0, 0), 0)), (0, 0))).1).2).2) > 60000))) || (decide ((((List.getD x0 (Int.toNat a2) ((0, ((0, 0), 0)), (0, 0))).2).1) < 0))) || (decide ((((List.getD x0 (Int.toNat a2) ((0, ((0, 0), 0)), (0, 0))).2).1) > 1000000))) || (decide ((((List.getD x0 (Int.toNat a2) ((0, ((0, 0), 0)), (0, 0))).2).2) < 0))) || (decide ((((List.getD x0 (Int.toNat a2) ((0, ((0, 0), 0)), (0, 0))).2).2) > 60000)) then
              some 4
            else
              tube_Check.l0 N x0 k1 (w (a2 + 1))
        else
          none
      else
        none
    else
      some 0 := by
  rw [tube_Check.l0_succ]; simp only [taut7, taut8, taut1, taut2, taut9, taut3, taut10, taut11, taut12, taut4, taut5, taut6, cond_true]
theorem tube_Check.l0_cons (N : Nat) (x0 : List ((Int × (Int × Int) × Int) × Int × Int)) (k1 : Nat) {pre r} {x} (hl : x0 = pre ++ x :: r) (hb : x0.length < 4611686018427387904) : tube_Check.l0 N x0 (k1 + 1) (pre.length : Int) =
    bif ((decide (0 ≤ (w ((pre.length : Int) - 1)))) && (decide ((w ((pre.length : Int) - 1)) < (x0.length : Int)))) || !((!((decide (((x.1).1) < 0)) || (decide (((x.1).1) > 200000)))) && (decide ((pre.length : Int) > 0))) then
      bif ((decide (((x.1).1) < 0)) || (decide (((x.1).1) > 200000))) || ((decide ((pre.length : Int) > 0)) && (decide (((x.1).1) ≤ (((List.getD x0 (Int.toNat (w ((pre.length : Int) - 1))) ((0, ((0, 0), 0)), (0, 0))).1).1)))) then
        some 12
      else
        (plane_Check.fn N (((x.1).2).1)).bind fun r3 =>
        bif !(r3 == 0) then
          some r3
        else
        bif (((((decide ((((x.1).2).2) < 0)) || (decide ((((x.1).2).2) > 60000))) || (decide (((x.2).1) < 0))) || (decide (((x.2).1) > 1000000))) || (decide (((x.2).2) < 0))) || (decide (((x.2).2) > 60000)) then
          some 4
        else
          tube_Check.l0 N x0 k1 ((pre.length : Int) + 1)
    else
      none := by
  have hlen : x0.length = pre.length + 1 + r.length := by rw [hl]; simp; omega
  have e1 : decide ((pre.length : Int) < (x0.length : Int)) = true := by rw [decide_eq_true_iff]; omega
  have e2 : decide (0 ≤ (pre.length : Int)) = true := by rw [decide_eq_true_iff]; omega
  have e4 : w ((pre.length : Int) + 1) = (pre.length : Int) + 1 := w_next hl hb
  have e5 : List.take pre.length x0 = pre := by rw [hl]; simp
  have e6 : decide ((pre.length : Int) ≤ (x0.length : Int)) = true := by rw [decide_eq_true_iff]; omega
  have g0 : List.getD x0 pre.length ((0, ((0, 0), 0)), (0, 0)) = x := by rw [hl]; exact getD_mid pre x r _
  rw [tube_Check.l0_clean]
  simp -implicitDefEqProofs only [Int.toNat_natCast, e1, e2, e4, e6, g0, e5, Bool.and_true, Bool.true_and, Bool.true_or, cond_true]
theorem tube_Check.l0_nil (N : Nat) (x0 : List ((Int × (Int × Int) × Int) × Int × Int)) (k1 : Nat) : tube_Check.l0 N x0 (k1 + 1) (x0.length : Int) =
    some 0 := by
  have e1 : decide ((x0.length : Int) < (x0.length : Int)) = false := by rw [decide_eq_false_iff_not]; omega
  rw [tube_Check.l0_clean]
  simp -implicitDefEqProofs only [e1, cond_false]
theorem tube_Check.eq (N : Nat) (x0 : List ((Int × (Int × Int) × Int) × Int × Int)) : tube_Check.fn N x0 =
    bif decide ((x0.length : Int) > 64) then
      some 2
    else
    bif (x0.length : Int) == 0 then
      some 3
    else
      tube_Check.l0 N x0 N 0 := by kernel_rfl

/-! ### chart_Name: skyway/chart.Name -/
def chart_Name.kp : List (Nat × List (Nat × Option (TypeId × Ty))) := [(4, [(0, none), (24, none), (25, none)])]
noncomputable def chart_Name.G (N : Nat) : List (Nat × Spec) := []
noncomputable def chart_Name.E (N : Nat) : Env := mkEnv (chart_Name.G N) N tyTab chart_Name.kp
noncomputable def chart_Name.fn (N : Nat) (x : ByteArray) : Option Bool := evFn (chart_Name.E N) Tryd.prog 3 Tryd.f25 false [.cell (.str)] [.val (.cell (.bool))] x
noncomputable def chart_Name.S (N : Nat) : PSpec := ⟨false, [.cell (.str)], [.val (.cell (.bool))], chart_Name.fn N⟩
theorem f25_enters : Enters Tryd.prog 25 := ⟨Tryd.f25, Tryd.func25, by kernel_rfl, by kernel_rfl⟩
theorem chart_Name.tab (N : Nat) : TabOk Tryd.prog (chart_Name.G N) := trivial
theorem chart_Name.enters : Enters Tryd.prog 25 := f25_enters
theorem chart_Name.sound (N : Nat) : Sound Tryd.prog 25 (chart_Name.S N) := evFn_sound (specs_tab (chart_Name.tab N)) (inls_tab (chart_Name.tab N)) mixed 3 Tryd.func25 _ _ _
noncomputable def chart_Name.cd (N : Nat) (p : List Nat) : St → (Ex → St → Option Bool) → Option Bool := ev (chart_Name.E N) Tryd.prog (callD (chart_Name.E N) Tryd.prog 3) 0 (codeAt (bodyOf Tryd.f25) p)
noncomputable def chart_Name.fin : Ex → St → Option Bool := endK Tryd.prog Tryd.f25 [.val (.cell (.bool))]
noncomputable def chart_Name.l0 (N : Nat) (x0 : ByteArray) (k1 : Nat) (a2 : Int) : Option Bool :=
  loopN (norm ((chart_Name.E N).keep 4) 0) (chart_Name.cd N [1, 1, 0, 1, 0, 0]) k1
  ⟨[.sc (.string x0), .any, .any, .any, .any, .any, .any, .any, .any, .any, .any, .any, .any, .any, .any, .any, .any, .any, .any, .any, .any, .any, .any, .any, .sc (.int .i64 (x0.size : Int)), .sc (.int .i64 a2), .any, .any, .any, .any, .any, .any, .any, .any, .any, .any, .any, .any, .any, .any, .any, .any, .any, .any, .any, .any], []⟩
  (blockK 0 (seqK (chart_Name.cd N [1, 1, 1]) chart_Name.fin))
theorem chart_Name.l0_zero (N : Nat) (x0 : ByteArray) (a2 : Int) : chart_Name.l0 N x0 0 a2 = none := by kernel_rfl
theorem chart_Name.l0_succ (N : Nat) (x0 : ByteArray) (k1 : Nat) (a2 : Int) : chart_Name.l0 N x0 (k1 + 1) a2 =
    bif decide (a2 < (x0.size : Int)) then
      bif (decide (0 ≤ a2)) && (decide (a2 < (x0.size : Int))) then
        bif !(!(decide (((((ByteArray.data x0).getD (Int.toNat a2) 0).toNat : Nat) : Int) < 65))) || (!(decide (((((ByteArray.data x0).getD (Int.toNat a2) 0).toNat : Nat) : Int) < 65))) then
          bif (decide (((((ByteArray.data x0).getD (Int.toNat a2) 0).toNat : Nat) : Int) < 65)) || (!(decide (((((ByteArray.data x0).getD (Int.toNat a2) 0).toNat : Nat) : Int) < 65))) then
            bif !((decide (((((ByteArray.data x0).getD (Int.toNat a2) 0).toNat : Nat) : Int) < 65)) || (decide (((((ByteArray.data x0).getD (Int.toNat a2) 0).toNat : Nat) : Int) > 90))) || ((decide (((((ByteArray.data x0).getD (Int.toNat a2) 0).toNat : Nat) : Int) < 65)) || (decide (((((ByteArray.data x0).getD (Int.toNat a2) 0).toNat : Nat) : Int) > 90))) then
              bif !((decide (((((ByteArray.data x0).getD (Int.toNat a2) 0).toNat : Nat) : Int) < 65)) || (decide (((((ByteArray.data x0).getD (Int.toNat a2) 0).toNat : Nat) : Int) > 90))) || ((decide (((((ByteArray.data x0).getD (Int.toNat a2) 0).toNat : Nat) : Int) < 65)) || (decide (((((ByteArray.data x0).getD (Int.toNat a2) 0).toNat : Nat) : Int) > 90))) then
                bif !(((decide (((((ByteArray.data x0).getD (Int.toNat a2) 0).toNat : Nat) : Int) < 65)) || (decide (((((ByteArray.data x0).getD (Int.toNat a2) 0).toNat : Nat) : Int) > 90))) && (!(decide (((((ByteArray.data x0).getD (Int.toNat a2) 0).toNat : Nat) : Int) < 48)))) || (((decide (((((ByteArray.data x0).getD (Int.toNat a2) 0).toNat : Nat) : Int) < 65)) || (decide (((((ByteArray.data x0).getD (Int.toNat a2) 0).toNat : Nat) : Int) > 90))) && (!(decide (((((ByteArray.data x0).getD (Int.toNat a2) 0).toNat : Nat) : Int) < 48)))) then
                  bif !((decide (((((ByteArray.data x0).getD (Int.toNat a2) 0).toNat : Nat) : Int) < 65)) || (decide (((((ByteArray.data x0).getD (Int.toNat a2) 0).toNat : Nat) : Int) > 90))) || ((decide (((((ByteArray.data x0).getD (Int.toNat a2) 0).toNat : Nat) : Int) < 65)) || (decide (((((ByteArray.data x0).getD (Int.toNat a2) 0).toNat : Nat) : Int) > 90))) then
                    bif !((decide (((((ByteArray.data x0).getD (Int.toNat a2) 0).toNat : Nat) : Int) < 65)) || (decide (((((ByteArray.data x0).getD (Int.toNat a2) 0).toNat : Nat) : Int) > 90))) || ((decide (((((ByteArray.data x0).getD (Int.toNat a2) 0).toNat : Nat) : Int) < 48)) || (((decide (((((ByteArray.data x0).getD (Int.toNat a2) 0).toNat : Nat) : Int) < 65)) || (decide (((((ByteArray.data x0).getD (Int.toNat a2) 0).toNat : Nat) : Int) > 90))) && (!(decide (((((ByteArray.data x0).getD (Int.toNat a2) 0).toNat : Nat) : Int) < 48))))) then
                      bif (!((decide (((((ByteArray.data x0).getD (Int.toNat a2) 0).toNat : Nat) : Int) < 65)) || (decide (((((ByteArray.data x0).getD (Int.toNat a2) 0).toNat : Nat) : Int) > 90)))) || ((decide (((((ByteArray.data x0).getD (Int.toNat a2) 0).toNat : Nat) : Int) < 65)) || (decide (((((ByteArray.data x0).getD (Int.toNat a2) 0).toNat : Nat) : Int) > 90))) then
                        bif ((decide (((((ByteArray.data x0).getD (Int.toNat a2) 0).toNat : Nat) : Int) < 65)) || (decide (((((ByteArray.data x0).getD (Int.toNat a2) 0).toNat : Nat) : Int) > 90))) && ((decide (((((ByteArray.data x0).getD (Int.toNat a2) 0).toNat : Nat) : Int) < 48)) || (decide (((((ByteArray.data x0).getD (Int.toNat a2) 0).toNat : Nat) : Int) > 57))) then
                          some false
                        else
                          chart_Name.l0 N x0 k1 (w (a2 + 1))
                      else
                        none
                    else
                      none
                  else
                    none
                else
                  none
              else
                none
            else
              none
          else
            none
        else
          none
      else
        none
    else
      some true := by kernel_rfl
theorem taut13 : ∀ p0 p1 p2 : Bool, ((!(((p0) || (p1)) && (!(p2))) || (((p0) || (p1)) && (!(p2))))) = true := by decide
theorem taut14 : ∀ p0 p1 : Bool, ((!((p0) || (p1)) || ((p0) || (p1)))) = true := by decide
theorem taut15 : ∀ p0 p1 p2 : Bool, ((!((p0) || (p1)) || ((p2) || (((p0) || (p1)) && (!(p2)))))) = true := by decide
theorem taut16 : ∀ p0 p1 : Bool, (((!((p0) || (p1))) || ((p0) || (p1)))) = true := by decide
theorem chart_Name.l0_clean (N : Nat) (x0 : ByteArray) (k1 : Nat) (a2 : Int) : chart_Name.l0 N x0 (k1 + 1) a2 =
    bif decide (a2 < (x0.size : Int)) then
      bif (decide (0 ≤ a2)) && (decide (a2 < (x0.size : Int))) then
        bif ((decide (((((ByteArray.data x0).getD (Int.toNat a2) 0).toNat : Nat) : Int) < 65)) || (decide (((((ByteArray.data x0).getD (Int.toNat a2) 0).toNat : Nat) : Int) > 90))) && ((decide (((((ByteArray.data x0).getD (Int.toNat a2) 0).toNat : Nat) : Int) < 48)) || (decide (((((ByteArray.data x0).getD (Int.toNat a2) 0).toNat : Nat) : Int) > 57))) then
          some false
        else
          chart_Name.l0 N x0 k1 (w (a2 + 1))
      else
        none
    else
      some true := by
  rw [chart_Name.l0_succ]; simp only [taut3, taut13, taut14, taut15, taut16, taut6, cond_true]
theorem chart_Name.l0_cons (N : Nat) (x0 : ByteArray) (k1 : Nat) {pre r} {x} (hl : x0.data.toList = pre ++ x :: r) (hb : x0.size < 4611686018427387904) : chart_Name.l0 N x0 (k1 + 1) (pre.length : Int) =
    bif ((decide (((x.toNat : Nat) : Int) < 65)) || (decide (((x.toNat : Nat) : Int) > 90))) && ((decide (((x.toNat : Nat) : Int) < 48)) || (decide (((x.toNat : Nat) : Int) > 57))) then
      some false
    else
      chart_Name.l0 N x0 k1 ((pre.length : Int) + 1) := by
  have hlen : x0.size = pre.length + 1 + r.length := by rw [ByteArray.size, ← Array.length_toList, hl]; simp; omega
  have e1 : decide ((pre.length : Int) < (x0.size : Int)) = true := by rw [decide_eq_true_iff]; omega
  have e2 : decide (0 ≤ (pre.length : Int)) = true := by rw [decide_eq_true_iff]; omega
  have e4 : w ((pre.length : Int) + 1) = (pre.length : Int) + 1 := w_next hl (by rw [Array.length_toList]; exact hb)
  have e6 : decide ((pre.length : Int) ≤ (x0.size : Int)) = true := by rw [decide_eq_true_iff]; omega
  have g0 : (ByteArray.data x0).getD pre.length 0 = x := getD_bytes hl
  rw [chart_Name.l0_clean]
  simp -implicitDefEqProofs only [Int.toNat_natCast, e1, e2, e4, e6, g0, Bool.and_true, Bool.true_and, Bool.true_or, cond_true]
theorem chart_Name.l0_nil (N : Nat) (x0 : ByteArray) (k1 : Nat) : chart_Name.l0 N x0 (k1 + 1) (x0.size : Int) =
    some true := by
  have e1 : decide ((x0.size : Int) < (x0.size : Int)) = false := by rw [decide_eq_false_iff_not]; omega
  rw [chart_Name.l0_clean]
  simp -implicitDefEqProofs only [e1, cond_false]
theorem chart_Name.eq (N : Nat) (x0 : ByteArray) : chart_Name.fn N x0 =
    bif !(!((x0.size : Int) == 0)) || (!((x0.size : Int) == 0)) then
      bif !(!((x0.size : Int) == 0)) || (!((x0.size : Int) == 0)) then
        bif ((x0.size : Int) == 0) || (!((x0.size : Int) == 0)) then
          bif !(!(((x0.size : Int) == 0) || (decide ((x0.size : Int) > 8)))) || (!(((x0.size : Int) == 0) || (decide ((x0.size : Int) > 8)))) then
            bif (decide (0 < (x0.size : Int))) || !(!(((x0.size : Int) == 0) || (decide ((x0.size : Int) > 8)))) then
              bif !(!(((x0.size : Int) == 0) || (decide ((x0.size : Int) > 8)))) || (!(((x0.size : Int) == 0) || (decide ((x0.size : Int) > 8)))) then
                bif (((x0.size : Int) == 0) || (decide ((x0.size : Int) > 8))) || (!(((x0.size : Int) == 0) || (decide ((x0.size : Int) > 8)))) then
                  bif !(!((((x0.size : Int) == 0) || (decide ((x0.size : Int) > 8))) || (decide (((((ByteArray.data x0).getD 0 0).toNat : Nat) : Int) < 65)))) || (!((((x0.size : Int) == 0) || (decide ((x0.size : Int) > 8))) || (decide (((((ByteArray.data x0).getD 0 0).toNat : Nat) : Int) < 65)))) then
                    bif (decide (0 < (x0.size : Int))) || !(!((((x0.size : Int) == 0) || (decide ((x0.size : Int) > 8))) || (decide (((((ByteArray.data x0).getD 0 0).toNat : Nat) : Int) < 65)))) then
                      bif !(!((((x0.size : Int) == 0) || (decide ((x0.size : Int) > 8))) || (decide (((((ByteArray.data x0).getD 0 0).toNat : Nat) : Int) < 65)))) || (!((((x0.size : Int) == 0) || (decide ((x0.size : Int) > 8))) || (decide (((((ByteArray.data x0).getD 0 0).toNat : Nat) : Int) < 65)))) then
                        bif ((((x0.size : Int) == 0) || (decide ((x0.size : Int) > 8))) || (decide (((((ByteArray.data x0).getD 0 0).toNat : Nat) : Int) < 65))) || (!((((x0.size : Int) == 0) || (decide ((x0.size : Int) > 8))) || (decide (((((ByteArray.data x0).getD 0 0).toNat : Nat) : Int) < 65)))) then
                          bif ((((x0.size : Int) == 0) || (decide ((x0.size : Int) > 8))) || (decide (((((ByteArray.data x0).getD 0 0).toNat : Nat) : Int) < 65))) || (decide (((((ByteArray.data x0).getD 0 0).toNat : Nat) : Int) > 90)) then
                            some false
                          else
                            chart_Name.l0 N x0 N 0
                        else
                          none
                      else
                        none
                    else
                      none
                  else
                    none
                else
                  none
              else
                none
            else
              none
          else
            none
        else
          none
      else
        none
    else
      none := by kernel_rfl
theorem chart_Name.clean (N : Nat) (x0 : ByteArray) : chart_Name.fn N x0 =
    bif (decide (0 < (x0.size : Int))) || !(!(((x0.size : Int) == 0) || (decide ((x0.size : Int) > 8)))) then
      bif (decide (0 < (x0.size : Int))) || !(!((((x0.size : Int) == 0) || (decide ((x0.size : Int) > 8))) || (decide (((((ByteArray.data x0).getD 0 0).toNat : Nat) : Int) < 65)))) then
        bif ((((x0.size : Int) == 0) || (decide ((x0.size : Int) > 8))) || (decide (((((ByteArray.data x0).getD 0 0).toNat : Nat) : Int) < 65))) || (decide (((((ByteArray.data x0).getD 0 0).toNat : Nat) : Int) > 90)) then
          some false
        else
          chart_Name.l0 N x0 N 0
      else
        none
    else
      none := by
  rw [chart_Name.eq]; simp only [taut1, taut2, taut3, taut4, taut5, taut6, cond_true]

/-! ### sector_Name: skyway/sector.Name -/
def sector_Name.kp : List (Nat × List (Nat × Option (TypeId × Ty))) := []
noncomputable def sector_Name.G (N : Nat) : List (Nat × Spec) := [(25, .pure (chart_Name.S N))]
noncomputable def sector_Name.E (N : Nat) : Env := mkEnv (sector_Name.G N) N tyTab sector_Name.kp
noncomputable def sector_Name.fn (N : Nat) (x : ByteArray) : Option Bool := evFn (sector_Name.E N) Tryd.prog 3 Tryd.f60 false [.cell (.str)] [.val (.cell (.bool))] x
noncomputable def sector_Name.S (N : Nat) : PSpec := ⟨false, [.cell (.str)], [.val (.cell (.bool))], sector_Name.fn N⟩
theorem f60_enters : Enters Tryd.prog 60 := ⟨Tryd.f60, Tryd.func60, by kernel_rfl, by kernel_rfl⟩
theorem sector_Name.tab (N : Nat) : TabOk Tryd.prog (sector_Name.G N) := ⟨⟨chart_Name.enters, chart_Name.sound N⟩, trivial⟩
theorem sector_Name.enters : Enters Tryd.prog 60 := f60_enters
theorem sector_Name.sound (N : Nat) : Sound Tryd.prog 60 (sector_Name.S N) := evFn_sound (specs_tab (sector_Name.tab N)) (inls_tab (sector_Name.tab N)) mixed 3 Tryd.func60 _ _ _
theorem sector_Name.eq (N : Nat) (x0 : ByteArray) : sector_Name.fn N x0 =
    (chart_Name.fn N x0).bind fun r1 =>
    some r1 := by kernel_rfl

/-! ### owner_Name: skyway/owner.Name -/
def owner_Name.kp : List (Nat × List (Nat × Option (TypeId × Ty))) := []
noncomputable def owner_Name.G (N : Nat) : List (Nat × Spec) := [(60, .pure (sector_Name.S N))]
noncomputable def owner_Name.E (N : Nat) : Env := mkEnv (owner_Name.G N) N tyTab owner_Name.kp
noncomputable def owner_Name.fn (N : Nat) (x : ByteArray) : Option Bool := evFn (owner_Name.E N) Tryd.prog 3 Tryd.f39 false [.cell (.str)] [.val (.cell (.bool))] x
noncomputable def owner_Name.S (N : Nat) : PSpec := ⟨false, [.cell (.str)], [.val (.cell (.bool))], owner_Name.fn N⟩
theorem f39_enters : Enters Tryd.prog 39 := ⟨Tryd.f39, Tryd.func39, by kernel_rfl, by kernel_rfl⟩
theorem owner_Name.tab (N : Nat) : TabOk Tryd.prog (owner_Name.G N) := ⟨⟨sector_Name.enters, sector_Name.sound N⟩, trivial⟩
theorem owner_Name.enters : Enters Tryd.prog 39 := f39_enters
theorem owner_Name.sound (N : Nat) : Sound Tryd.prog 39 (owner_Name.S N) := evFn_sound (specs_tab (owner_Name.tab N)) (inls_tab (owner_Name.tab N)) mixed 3 Tryd.func39 _ _ _
theorem owner_Name.eq (N : Nat) (x0 : ByteArray) : owner_Name.fn N x0 =
    (sector_Name.fn N x0).bind fun r1 =>
    some r1 := by kernel_rfl

/-! ### phrase_kind: skyway/phrase.kind -/
def phrase_kind.kp : List (Nat × List (Nat × Option (TypeId × Ty))) := [(2, [(0, none), (5, none), (6, none)])]
noncomputable def phrase_kind.G (N : Nat) : List (Nat × Spec) := []
noncomputable def phrase_kind.E (N : Nat) : Env := mkEnv (phrase_kind.G N) N tyTab phrase_kind.kp
noncomputable def phrase_kind.fn (N : Nat) (x : ByteArray) : Option Int := evFn (phrase_kind.E N) Tryd.prog 3 Tryd.f40 false [.cell (.str)] [.val (.cell (.int .i64))] x
noncomputable def phrase_kind.S (N : Nat) : PSpec := ⟨false, [.cell (.str)], [.val (.cell (.int .i64))], phrase_kind.fn N⟩
theorem f40_enters : Enters Tryd.prog 40 := ⟨Tryd.f40, Tryd.func40, by kernel_rfl, by kernel_rfl⟩
theorem phrase_kind.tab (N : Nat) : TabOk Tryd.prog (phrase_kind.G N) := trivial
theorem phrase_kind.enters : Enters Tryd.prog 40 := f40_enters
theorem phrase_kind.sound (N : Nat) : Sound Tryd.prog 40 (phrase_kind.S N) := evFn_sound (specs_tab (phrase_kind.tab N)) (inls_tab (phrase_kind.tab N)) mixed 3 Tryd.func40 _ _ _
noncomputable def phrase_kind.cd (N : Nat) (p : List Nat) : St → (Ex → St → Option Int) → Option Int := ev (phrase_kind.E N) Tryd.prog (callD (phrase_kind.E N) Tryd.prog 3) 0 (codeAt (bodyOf Tryd.f40) p)
noncomputable def phrase_kind.fin : Ex → St → Option Int := endK Tryd.prog Tryd.f40 [.val (.cell (.int .i64))]
noncomputable def phrase_kind.l0 (N : Nat) (x0 : ByteArray) (k1 : Nat) (a2 : Int) : Option Int :=
  loopN (norm ((phrase_kind.E N).keep 2) 0) (phrase_kind.cd N [1, 0, 1, 0, 0]) k1
  ⟨[.sc (.string x0), .any, .any, .any, .any, .agg [.sc (.string (⟨#[72, 69, 73, 71, 72, 84]⟩ : ByteArray)), .sc (.string (⟨#[72, 69, 65, 68, 73, 78, 71]⟩ : ByteArray)), .sc (.string (⟨#[83, 80, 69, 69, 68]⟩ : ByteArray)), .sc (.string (⟨#[68, 73, 82, 69, 67, 84]⟩ : ByteArray)), .sc (.string (⟨#[72, 79, 76, 68]⟩ : ByteArray)), .sc (.string (⟨#[67, 79, 78, 84, 65, 67, 84]⟩ : ByteArray)), .sc (.string (⟨#[76, 65, 78, 68]⟩ : ByteArray))], .sc (.int .i64 a2), .any, .any, .any, .any, .any, .any, .any, .any], []⟩
  (blockK 0 (seqK (phrase_kind.cd N [1, 1]) phrase_kind.fin))
theorem phrase_kind.l0_zero (N : Nat) (x0 : ByteArray) (a2 : Int) : phrase_kind.l0 N x0 0 a2 = none := by kernel_rfl
theorem phrase_kind.l0_succ (N : Nat) (x0 : ByteArray) (k1 : Nat) (a2 : Int) : phrase_kind.l0 N x0 (k1 + 1) a2 =
    bif decide (a2 < 7) then
      bif (decide (0 ≤ a2)) && (decide (a2 < 7)) then
        bif decide (((Int.toNat a2) * 1) < 7) then
          bif seq (List.getD [(⟨#[72, 69, 73, 71, 72, 84]⟩ : ByteArray), (⟨#[72, 69, 65, 68, 73, 78, 71]⟩ : ByteArray), (⟨#[83, 80, 69, 69, 68]⟩ : ByteArray), (⟨#[68, 73, 82, 69, 67, 84]⟩ : ByteArray), (⟨#[72, 79, 76, 68]⟩ : ByteArray), (⟨#[67, 79, 78, 84, 65, 67, 84]⟩ : ByteArray), (⟨#[76, 65, 78, 68]⟩ : ByteArray)] ((Int.toNat a2) * 1) (⟨#[]⟩ : ByteArray)) x0 then
            some a2
          else
            phrase_kind.l0 N x0 k1 (w (a2 + 1))
        else
          none
      else
        none
    else
      some (-1) := by kernel_rfl
theorem phrase_kind.eq (N : Nat) (x0 : ByteArray) : phrase_kind.fn N x0 =
    phrase_kind.l0 N x0 N 0 := by kernel_rfl

/-! ### phrase_plain: skyway/phrase.plain -/
def phrase_plain.kp : List (Nat × List (Nat × Option (TypeId × Ty))) := []
noncomputable def phrase_plain.G (N : Nat) : List (Nat × Spec) := [(39, .pure (owner_Name.S N)), (40, .pure (phrase_kind.S N))]
noncomputable def phrase_plain.E (N : Nat) : Env := mkEnv (phrase_plain.G N) N tyTab phrase_plain.kp
noncomputable def phrase_plain.fn (N : Nat) (x : ByteArray) : Option Bool := evFn (phrase_plain.E N) Tryd.prog 3 Tryd.f24 false [.cell (.str)] [.val (.cell (.bool))] x
noncomputable def phrase_plain.S (N : Nat) : PSpec := ⟨false, [.cell (.str)], [.val (.cell (.bool))], phrase_plain.fn N⟩
theorem f24_enters : Enters Tryd.prog 24 := ⟨Tryd.f24, Tryd.func24, by kernel_rfl, by kernel_rfl⟩
theorem phrase_plain.tab (N : Nat) : TabOk Tryd.prog (phrase_plain.G N) := ⟨⟨owner_Name.enters, owner_Name.sound N⟩, ⟨phrase_kind.enters, phrase_kind.sound N⟩, trivial⟩
theorem phrase_plain.enters : Enters Tryd.prog 24 := f24_enters
theorem phrase_plain.sound (N : Nat) : Sound Tryd.prog 24 (phrase_plain.S N) := evFn_sound (specs_tab (phrase_plain.tab N)) (inls_tab (phrase_plain.tab N)) mixed 3 Tryd.func24 _ _ _
theorem phrase_plain.eq (N : Nat) (x0 : ByteArray) : phrase_plain.fn N x0 =
    (owner_Name.fn N x0).bind fun r1 =>
    bif !r1 || r1 then
      (bif r1 then phrase_kind.fn N x0 else some (0)).bind fun r2 =>
      bif !r1 || r1 then
        bif (!r1) || r1 then
          some (r1 && (decide (r2 < 0)))
        else
          none
      else
        none
    else
      none := by kernel_rfl
theorem taut17 : ∀ p0 : Bool, ((!p0 || p0)) = true := by decide
theorem taut18 : ∀ p0 : Bool, (((!p0) || p0)) = true := by decide
theorem phrase_plain.clean (N : Nat) (x0 : ByteArray) : phrase_plain.fn N x0 =
    (owner_Name.fn N x0).bind fun r1 =>
    (bif r1 then phrase_kind.fn N x0 else some (0)).bind fun r2 =>
    some (r1 && (decide (r2 < 0))) := by
  rw [phrase_plain.eq]; simp only [taut17, taut18, cond_true]

/-! ### phrase_Check: skyway/phrase.Check -/
def phrase_Check.kp : List (Nat × List (Nat × Option (TypeId × Ty))) := []
noncomputable def phrase_Check.G (N : Nat) : List (Nat × Spec) := [(24, .pure (phrase_plain.S N))]
noncomputable def phrase_Check.E (N : Nat) : Env := mkEnv (phrase_Check.G N) N tyTab phrase_Check.kp
noncomputable def phrase_Check.fn (N : Nat) (x : ByteArray × Int × Int × ByteArray) : Option Int := evFn (phrase_Check.E N) Tryd.prog 3 Tryd.f14 false [.agg (.pair (.str) (.pair (.int .i64) (.pair (.int .i64) (.str))))] [.val (.cell (.int .i64))] x
noncomputable def phrase_Check.S (N : Nat) : PSpec := ⟨false, [.agg (.pair (.str) (.pair (.int .i64) (.pair (.int .i64) (.str))))], [.val (.cell (.int .i64))], phrase_Check.fn N⟩
theorem f14_enters : Enters Tryd.prog 14 := ⟨Tryd.f14, Tryd.func14, by kernel_rfl, by kernel_rfl⟩
theorem phrase_Check.tab (N : Nat) : TabOk Tryd.prog (phrase_Check.G N) := ⟨⟨phrase_plain.enters, phrase_plain.sound N⟩, trivial⟩
theorem phrase_Check.enters : Enters Tryd.prog 14 := f14_enters
theorem phrase_Check.sound (N : Nat) : Sound Tryd.prog 14 (phrase_Check.S N) := evFn_sound (specs_tab (phrase_Check.tab N)) (inls_tab (phrase_Check.tab N)) mixed 3 Tryd.func14 _ _ _
theorem phrase_Check.eq (N : Nat) (x0 : ByteArray × Int × Int × ByteArray) : phrase_Check.fn N x0 =
    (phrase_plain.fn N x0.1).bind fun r1 =>
    bif !r1 then
      some 3
    else
    bif !(!(decide (x0.2.1 < 0))) || (!(decide (x0.2.1 < 0))) then
      bif !(!(decide (x0.2.1 < 0))) || (!(decide (x0.2.1 < 0))) then
        bif (decide (x0.2.1 < 0)) || (!(decide (x0.2.1 < 0))) then
          bif (decide (x0.2.1 < 0)) || (decide (x0.2.1 > 6)) then
            some 1
          else
          bif decide (x0.2.1 ≥ 3) then
            bif !(!(!(x0.2.2.1 == 0))) || (!(!(x0.2.2.1 == 0))) then
              bif !(!(!(x0.2.2.1 == 0))) || (!(!(x0.2.2.1 == 0))) then
                (bif (!(!(x0.2.2.1 == 0))) then phrase_plain.fn N x0.2.2.2 else some (false)).bind fun r2 =>
                bif !(!(!(x0.2.2.1 == 0))) || (!(!(x0.2.2.1 == 0))) then
                  bif (!(x0.2.2.1 == 0)) || (!(!(x0.2.2.1 == 0))) then
                    bif (!(x0.2.2.1 == 0)) || (!r2) then
                      some 3
                    else
                      some 0
                  else
                    none
                else
                  none
              else
                none
            else
              none
          else
          bif !(seq x0.2.2.2 (⟨#[]⟩ : ByteArray)) then
            some 3
          else
          bif !(!(decide (x0.2.2.1 < 0))) || (!(decide (x0.2.2.1 < 0))) then
            bif !(!(decide (x0.2.2.1 < 0))) || (!(decide (x0.2.2.1 < 0))) then
              bif !(!(decide (x0.2.2.1 < 0))) || (!(decide (x0.2.2.1 < 0))) then
                bif ((decide (0 ≤ x0.2.1)) && (decide (x0.2.1 < 3))) || !(!(decide (x0.2.2.1 < 0))) then
                  bif !(!(decide (x0.2.2.1 < 0))) || (!(decide (x0.2.2.1 < 0))) then
                    bif (decide ((0 + ((Int.toNat x0.2.1) * 1)) < 3)) || !(!(decide (x0.2.2.1 < 0))) then
                      bif !(!(decide (x0.2.2.1 < 0))) || (!(decide (x0.2.2.1 < 0))) then
                        bif !(!(decide (x0.2.2.1 < 0))) || (!(decide (x0.2.2.1 < 0))) then
                          bif (decide (x0.2.2.1 < 0)) || (!(decide (x0.2.2.1 < 0))) then
                            bif (decide (x0.2.2.1 < 0)) || (decide (x0.2.2.1 > (List.getD [60000, 4095, 400] (0 + ((Int.toNat x0.2.1) * 1)) 0))) then
                              some 4
                            else
                              some 0
                          else
                            none
                        else
                          none
                      else
                        none
                    else
                      none
                  else
                    none
                else
                  none
              else
                none
            else
              none
          else
            none
        else
          none
      else
        none
    else
      none := by kernel_rfl
theorem taut19 : ∀ p0 : Bool, ((!(!(!(p0))) || (!(!(p0))))) = true := by decide
theorem taut20 : ∀ p0 : Bool, (((!(p0)) || (!(!(p0))))) = true := by decide
theorem phrase_Check.clean (N : Nat) (x0 : ByteArray × Int × Int × ByteArray) : phrase_Check.fn N x0 =
    (phrase_plain.fn N x0.1).bind fun r1 =>
    bif !r1 then
      some 3
    else
    bif (decide (x0.2.1 < 0)) || (decide (x0.2.1 > 6)) then
      some 1
    else
    bif decide (x0.2.1 ≥ 3) then
      (bif (!(!(x0.2.2.1 == 0))) then phrase_plain.fn N x0.2.2.2 else some (false)).bind fun r2 =>
      bif (!(x0.2.2.1 == 0)) || (!r2) then
        some 3
      else
        some 0
    else
    bif !(seq x0.2.2.2 (⟨#[]⟩ : ByteArray)) then
      some 3
    else
    bif ((decide (0 ≤ x0.2.1)) && (decide (x0.2.1 < 3))) || !(!(decide (x0.2.2.1 < 0))) then
      bif (decide ((0 + ((Int.toNat x0.2.1) * 1)) < 3)) || !(!(decide (x0.2.2.1 < 0))) then
        bif (decide (x0.2.2.1 < 0)) || (decide (x0.2.2.1 > (List.getD [60000, 4095, 400] (0 + ((Int.toNat x0.2.1) * 1)) 0))) then
          some 4
        else
          some 0
      else
        none
    else
      none := by
  rw [phrase_Check.eq]; simp only [taut19, taut3, taut20, taut6, cond_true]

/-! ### aircraft_Check: skyway/aircraft.Check -/
def aircraft_Check.kp : List (Nat × List (Nat × Option (TypeId × Ty))) := []
noncomputable def aircraft_Check.G (N : Nat) : List (Nat × Spec) := [(25, .pure (chart_Name.S N))]
noncomputable def aircraft_Check.E (N : Nat) : Env := mkEnv (aircraft_Check.G N) N tyTab aircraft_Check.kp
noncomputable def aircraft_Check.fn (N : Nat) (x : ByteArray × Int × Int × Int × Int × Int × Int) : Option Int := evFn (aircraft_Check.E N) Tryd.prog 3 Tryd.f15 false [.agg (.pair (.str) (.pair (.int .i64) (.pair (.int .i64) (.pair (.int .i64) (.pair (.int .i64) (.pair (.int .i64) (.int .i64)))))))] [.val (.cell (.int .i64))] x
noncomputable def aircraft_Check.S (N : Nat) : PSpec := ⟨false, [.agg (.pair (.str) (.pair (.int .i64) (.pair (.int .i64) (.pair (.int .i64) (.pair (.int .i64) (.pair (.int .i64) (.int .i64)))))))], [.val (.cell (.int .i64))], aircraft_Check.fn N⟩
theorem f15_enters : Enters Tryd.prog 15 := ⟨Tryd.f15, Tryd.func15, by kernel_rfl, by kernel_rfl⟩
theorem aircraft_Check.tab (N : Nat) : TabOk Tryd.prog (aircraft_Check.G N) := ⟨⟨chart_Name.enters, chart_Name.sound N⟩, trivial⟩
theorem aircraft_Check.enters : Enters Tryd.prog 15 := f15_enters
theorem aircraft_Check.sound (N : Nat) : Sound Tryd.prog 15 (aircraft_Check.S N) := evFn_sound (specs_tab (aircraft_Check.tab N)) (inls_tab (aircraft_Check.tab N)) mixed 3 Tryd.func15 _ _ _
theorem aircraft_Check.eq (N : Nat) (x0 : ByteArray × Int × Int × Int × Int × Int × Int) : aircraft_Check.fn N x0 =
    (chart_Name.fn N x0.1).bind fun r1 =>
    bif !r1 then
      some 5
    else
    bif !(!(decide (x0.2.1 < 0))) || (!(decide (x0.2.1 < 0))) then
      bif !(!(decide (x0.2.1 < 0))) || (!(decide (x0.2.1 < 0))) then
        bif (decide (x0.2.1 < 0)) || (!(decide (x0.2.1 < 0))) then
          bif (decide (x0.2.1 < 0)) || (decide (x0.2.1 > 3)) then
            some 1
          else
          bif !(!(decide (x0.2.2.1 < 1))) || (!(decide (x0.2.2.1 < 1))) then
            bif !(!(decide (x0.2.2.1 < 1))) || (!(decide (x0.2.2.1 < 1))) then
              bif (decide (x0.2.2.1 < 1)) || (!(decide (x0.2.2.1 < 1))) then
                bif (decide (x0.2.2.1 < 1)) || (decide (x0.2.2.1 > 60000)) then
                  bif (decide (x0.2.2.1 < 1)) || (decide (x0.2.2.1 > 60000)) then
                    some 4
                  else
                  bif !(!(decide (x0.2.2.2.2.2.1 < 1))) || (!(decide (x0.2.2.2.2.2.1 < 1))) then
                    bif !(!(decide (x0.2.2.2.2.2.1 < 1))) || (!(decide (x0.2.2.2.2.2.1 < 1))) then
                      bif (decide (x0.2.2.2.2.2.1 < 1)) || (!(decide (x0.2.2.2.2.2.1 < 1))) then
                        bif !(!((decide (x0.2.2.2.2.2.1 < 1)) || (decide (x0.2.2.2.2.2.1 > 400)))) || (!((decide (x0.2.2.2.2.2.1 < 1)) || (decide (x0.2.2.2.2.2.1 > 400)))) then
                          bif !(!((decide (x0.2.2.2.2.2.1 < 1)) || (decide (x0.2.2.2.2.2.1 > 400)))) || (!((decide (x0.2.2.2.2.2.1 < 1)) || (decide (x0.2.2.2.2.2.1 > 400)))) then
                            bif ((decide (x0.2.2.2.2.2.1 < 1)) || (decide (x0.2.2.2.2.2.1 > 400))) || (!((decide (x0.2.2.2.2.2.1 < 1)) || (decide (x0.2.2.2.2.2.1 > 400)))) then
                              bif !(!(((decide (x0.2.2.2.2.2.1 < 1)) || (decide (x0.2.2.2.2.2.1 > 400))) || (decide (x0.2.2.2.2.2.2 < 1)))) || (!(((decide (x0.2.2.2.2.2.1 < 1)) || (decide (x0.2.2.2.2.2.1 > 400))) || (decide (x0.2.2.2.2.2.2 < 1)))) then
                                bif !(!(((decide (x0.2.2.2.2.2.1 < 1)) || (decide (x0.2.2.2.2.2.1 > 400))) || (decide (x0.2.2.2.2.2.2 < 1)))) || (!(((decide (x0.2.2.2.2.2.1 < 1)) || (decide (x0.2.2.2.2.2.1 > 400))) || (decide (x0.2.2.2.2.2.2 < 1)))) then
                                  bif (((decide (x0.2.2.2.2.2.1 < 1)) || (decide (x0.2.2.2.2.2.1 > 400))) || (decide (x0.2.2.2.2.2.2 < 1))) || (!(((decide (x0.2.2.2.2.2.1 < 1)) || (decide (x0.2.2.2.2.2.1 > 400))) || (decide (x0.2.2.2.2.2.2 < 1)))) then
                                    bif (((decide (x0.2.2.2.2.2.1 < 1)) || (decide (x0.2.2.2.2.2.1 > 400))) || (decide (x0.2.2.2.2.2.2 < 1))) || (decide (x0.2.2.2.2.2.2 > 400)) then
                                      some 4
                                    else
                                    bif decide (x0.2.2.2.2.2.1 > x0.2.2.2.2.2.2) then
                                      some 3
                                    else
                                      some 0
                                  else
                                    none
                                else
                                  none
                              else
                                none
                            else
                              none
                          else
                            none
                        else
                          none
                      else
                        none
                    else
                      none
                  else
                    none
                else
                bif !(!(decide (x0.2.2.2.1 < 1))) || (!(decide (x0.2.2.2.1 < 1))) then
                  bif !(!(decide (x0.2.2.2.1 < 1))) || (!(decide (x0.2.2.2.1 < 1))) then
                    bif (decide (x0.2.2.2.1 < 1)) || (!(decide (x0.2.2.2.1 < 1))) then
                      bif (decide (x0.2.2.2.1 < 1)) || (decide (x0.2.2.2.1 > 200)) then
                        bif (decide (x0.2.2.2.1 < 1)) || (decide (x0.2.2.2.1 > 200)) then
                          some 4
                        else
                        bif !(!(decide (x0.2.2.2.2.2.1 < 1))) || (!(decide (x0.2.2.2.2.2.1 < 1))) then
                          bif !(!(decide (x0.2.2.2.2.2.1 < 1))) || (!(decide (x0.2.2.2.2.2.1 < 1))) then
                            bif (decide (x0.2.2.2.2.2.1 < 1)) || (!(decide (x0.2.2.2.2.2.1 < 1))) then
                              bif !(!((decide (x0.2.2.2.2.2.1 < 1)) || (decide (x0.2.2.2.2.2.1 > 400)))) || (!((decide (x0.2.2.2.2.2.1 < 1)) || (decide (x0.2.2.2.2.2.1 > 400)))) then
                                bif !(!((decide (x0.2.2.2.2.2.1 < 1)) || (decide (x0.2.2.2.2.2.1 > 400)))) || (!((decide (x0.2.2.2.2.2.1 < 1)) || (decide (x0.2.2.2.2.2.1 > 400)))) then
                                  bif ((decide (x0.2.2.2.2.2.1 < 1)) || (decide (x0.2.2.2.2.2.1 > 400))) || (!((decide (x0.2.2.2.2.2.1 < 1)) || (decide (x0.2.2.2.2.2.1 > 400)))) then
                                    bif !(!(((decide (x0.2.2.2.2.2.1 < 1)) || (decide (x0.2.2.2.2.2.1 > 400))) || (decide (x0.2.2.2.2.2.2 < 1)))) || (!(((decide (x0.2.2.2.2.2.1 < 1)) || (decide (x0.2.2.2.2.2.1 > 400))) || (decide (x0.2.2.2.2.2.2 < 1)))) then
                                      bif !(!(((decide (x0.2.2.2.2.2.1 < 1)) || (decide (x0.2.2.2.2.2.1 > 400))) || (decide (x0.2.2.2.2.2.2 < 1)))) || (!(((decide (x0.2.2.2.2.2.1 < 1)) || (decide (x0.2.2.2.2.2.1 > 400))) || (decide (x0.2.2.2.2.2.2 < 1)))) then
                                        bif (((decide (x0.2.2.2.2.2.1 < 1)) || (decide (x0.2.2.2.2.2.1 > 400))) || (decide (x0.2.2.2.2.2.2 < 1))) || (!(((decide (x0.2.2.2.2.2.1 < 1)) || (decide (x0.2.2.2.2.2.1 > 400))) || (decide (x0.2.2.2.2.2.2 < 1)))) then
                                          bif (((decide (x0.2.2.2.2.2.1 < 1)) || (decide (x0.2.2.2.2.2.1 > 400))) || (decide (x0.2.2.2.2.2.2 < 1))) || (decide (x0.2.2.2.2.2.2 > 400)) then
                                            some 4
                                          else
                                          bif decide (x0.2.2.2.2.2.1 > x0.2.2.2.2.2.2) then
                                            some 3
                                          else
                                            some 0
                                        else
                                          none
                                      else
                                        none
                                    else
                                      none
                                  else
                                    none
                                else
                                  none
                              else
                                none
                            else
                              none
                          else
                            none
                        else
                          none
                      else
                      bif !(!(decide (x0.2.2.2.2.1 < 1))) || (!(decide (x0.2.2.2.2.1 < 1))) then
                        bif !(!(decide (x0.2.2.2.2.1 < 1))) || (!(decide (x0.2.2.2.2.1 < 1))) then
                          bif (decide (x0.2.2.2.2.1 < 1)) || (!(decide (x0.2.2.2.2.1 < 1))) then
                            bif (decide (x0.2.2.2.2.1 < 1)) || (decide (x0.2.2.2.2.1 > 200)) then
                              some 4
                            else
                            bif !(!(decide (x0.2.2.2.2.2.1 < 1))) || (!(decide (x0.2.2.2.2.2.1 < 1))) then
                              bif !(!(decide (x0.2.2.2.2.2.1 < 1))) || (!(decide (x0.2.2.2.2.2.1 < 1))) then
                                bif (decide (x0.2.2.2.2.2.1 < 1)) || (!(decide (x0.2.2.2.2.2.1 < 1))) then
                                  bif !(!((decide (x0.2.2.2.2.2.1 < 1)) || (decide (x0.2.2.2.2.2.1 > 400)))) || (!((decide (x0.2.2.2.2.2.1 < 1)) || (decide (x0.2.2.2.2.2.1 > 400)))) then
                                    bif !(!((decide (x0.2.2.2.2.2.1 < 1)) || (decide (x0.2.2.2.2.2.1 > 400)))) || (!((decide (x0.2.2.2.2.2.1 < 1)) || (decide (x0.2.2.2.2.2.1 > 400)))) then
                                      bif ((decide (x0.2.2.2.2.2.1 < 1)) || (decide (x0.2.2.2.2.2.1 > 400))) || (!((decide (x0.2.2.2.2.2.1 < 1)) || (decide (x0.2.2.2.2.2.1 > 400)))) then
                                        bif !(!(((decide (x0.2.2.2.2.2.1 < 1)) || (decide (x0.2.2.2.2.2.1 > 400))) || (decide (x0.2.2.2.2.2.2 < 1)))) || (!(((decide (x0.2.2.2.2.2.1 < 1)) || (decide (x0.2.2.2.2.2.1 > 400))) || (decide (x0.2.2.2.2.2.2 < 1)))) then
                                          bif !(!(((decide (x0.2.2.2.2.2.1 < 1)) || (decide (x0.2.2.2.2.2.1 > 400))) || (decide (x0.2.2.2.2.2.2 < 1)))) || (!(((decide (x0.2.2.2.2.2.1 < 1)) || (decide (x0.2.2.2.2.2.1 > 400))) || (decide (x0.2.2.2.2.2.2 < 1)))) then
                                            bif (((decide (x0.2.2.2.2.2.1 < 1)) || (decide (x0.2.2.2.2.2.1 > 400))) || (decide (x0.2.2.2.2.2.2 < 1))) || (!(((decide (x0.2.2.2.2.2.1 < 1)) || (decide (x0.2.2.2.2.2.1 > 400))) || (decide (x0.2.2.2.2.2.2 < 1)))) then
                                              bif (((decide (x0.2.2.2.2.2.1 < 1)) || (decide (x0.2.2.2.2.2.1 > 400))) || (decide (x0.2.2.2.2.2.2 < 1))) || (decide (x0.2.2.2.2.2.2 > 400)) then
                                                some 4
                                              else
                                              bif decide (x0.2.2.2.2.2.1 > x0.2.2.2.2.2.2) then
                                                some 3
                                              else
                                                some 0
                                            else
                                              none
                                          else
                                            none
                                        else
                                          none
                                      else
                                        none
                                    else
                                      none
                                  else
                                    none
                                else
                                  none
                              else
                                none
                            else
                              none
                          else
                            none
                        else
                          none
                      else
                        none
                    else
                      none
                  else
                    none
                else
                  none
              else
                none
            else
              none
          else
            none
        else
          none
      else
        none
    else
      none := by kernel_rfl
theorem aircraft_Check.clean (N : Nat) (x0 : ByteArray × Int × Int × Int × Int × Int × Int) : aircraft_Check.fn N x0 =
    (chart_Name.fn N x0.1).bind fun r1 =>
    bif !r1 then
      some 5
    else
    bif (decide (x0.2.1 < 0)) || (decide (x0.2.1 > 3)) then
      some 1
    else
    bif (decide (x0.2.2.1 < 1)) || (decide (x0.2.2.1 > 60000)) then
      bif (decide (x0.2.2.1 < 1)) || (decide (x0.2.2.1 > 60000)) then
        some 4
      else
      bif (((decide (x0.2.2.2.2.2.1 < 1)) || (decide (x0.2.2.2.2.2.1 > 400))) || (decide (x0.2.2.2.2.2.2 < 1))) || (decide (x0.2.2.2.2.2.2 > 400)) then
        some 4
      else
      bif decide (x0.2.2.2.2.2.1 > x0.2.2.2.2.2.2) then
        some 3
      else
        some 0
    else
    bif (decide (x0.2.2.2.1 < 1)) || (decide (x0.2.2.2.1 > 200)) then
      bif (decide (x0.2.2.2.1 < 1)) || (decide (x0.2.2.2.1 > 200)) then
        some 4
      else
      bif (((decide (x0.2.2.2.2.2.1 < 1)) || (decide (x0.2.2.2.2.2.1 > 400))) || (decide (x0.2.2.2.2.2.2 < 1))) || (decide (x0.2.2.2.2.2.2 > 400)) then
        some 4
      else
      bif decide (x0.2.2.2.2.2.1 > x0.2.2.2.2.2.2) then
        some 3
      else
        some 0
    else
    bif (decide (x0.2.2.2.2.1 < 1)) || (decide (x0.2.2.2.2.1 > 200)) then
      some 4
    else
    bif (((decide (x0.2.2.2.2.2.1 < 1)) || (decide (x0.2.2.2.2.2.1 > 400))) || (decide (x0.2.2.2.2.2.2 < 1))) || (decide (x0.2.2.2.2.2.2 > 400)) then
      some 4
    else
    bif decide (x0.2.2.2.2.2.1 > x0.2.2.2.2.2.2) then
      some 3
    else
      some 0 := by
  rw [aircraft_Check.eq]; simp only [taut1, taut2, taut3, taut4, taut5, taut6, cond_true]

/-! ### num_DivDown: skyway/num.DivDown -/
def num_DivDown.kp : List (Nat × List (Nat × Option (TypeId × Ty))) := []
noncomputable def num_DivDown.G (N : Nat) : List (Nat × Spec) := []
noncomputable def num_DivDown.E (N : Nat) : Env := mkEnv (num_DivDown.G N) N tyTab num_DivDown.kp
noncomputable def num_DivDown.fn (N : Nat) (x : Int × Int) : Option (Int × Int) := evFn (num_DivDown.E N) Tryd.prog 3 Tryd.f65 false [.cell (.int .i64), .cell (.int .i64)] [.val (.cell (.int .i64)), .val (.cell (.int .i64))] x
noncomputable def num_DivDown.S (N : Nat) : PSpec := ⟨false, [.cell (.int .i64), .cell (.int .i64)], [.val (.cell (.int .i64)), .val (.cell (.int .i64))], num_DivDown.fn N⟩
theorem f65_enters : Enters Tryd.prog 65 := ⟨Tryd.f65, Tryd.func65, by kernel_rfl, by kernel_rfl⟩
theorem num_DivDown.tab (N : Nat) : TabOk Tryd.prog (num_DivDown.G N) := trivial
theorem num_DivDown.enters : Enters Tryd.prog 65 := f65_enters
theorem num_DivDown.sound (N : Nat) : Sound Tryd.prog 65 (num_DivDown.S N) := evFn_sound (specs_tab (num_DivDown.tab N)) (inls_tab (num_DivDown.tab N)) mixed 3 Tryd.func65 _ _ _
theorem num_DivDown.eq (N : Nat) (x0 : Int) (x1 : Int) : num_DivDown.fn N (x0, x1) =
    bif x1 == 0 then
      some (0, 10)
    else
    bif !(x0 == (-9223372036854775808)) || (x0 == (-9223372036854775808)) then
      bif (!(x0 == (-9223372036854775808))) || (x0 == (-9223372036854775808)) then
        bif (x0 == (-9223372036854775808)) && (x1 == (-1)) then
          some (0, 2)
        else
        bif x1 != 0 then
          bif x1 != 0 then
            bif !(!((Int.tmod x0 x1) == 0)) || (!((Int.tmod x0 x1) == 0)) then
              bif !(!((Int.tmod x0 x1) == 0)) || (!((Int.tmod x0 x1) == 0)) then
                bif !(!((Int.tmod x0 x1) == 0)) || (!((Int.tmod x0 x1) == 0)) then
                  bif !(!((Int.tmod x0 x1) == 0)) || (!((Int.tmod x0 x1) == 0)) then
                    bif (!(!((Int.tmod x0 x1) == 0))) || (!((Int.tmod x0 x1) == 0)) then
                      bif (!((Int.tmod x0 x1) == 0)) && (!((decide (x0 < 0)) == (decide (x1 < 0)))) then
                        some ((w ((w (Int.tdiv x0 x1)) - 1)), 0)
                      else
                        some ((w (Int.tdiv x0 x1)), 0)
                    else
                      none
                  else
                    none
                else
                  none
              else
                none
            else
              none
          else
            none
        else
          none
      else
        none
    else
      none := by kernel_rfl
theorem taut21 : ∀ p0 : Bool, ((!(p0) || (p0))) = true := by decide
theorem taut22 : ∀ p0 : Bool, (((!(!(p0))) || (!(p0)))) = true := by decide
theorem taut23 : ∀ p0 : Bool, (((!(p0)) || (p0))) = true := by decide
theorem num_DivDown.clean (N : Nat) (x0 : Int) (x1 : Int) : num_DivDown.fn N (x0, x1) =
    bif x1 == 0 then
      some (0, 10)
    else
    bif (x0 == (-9223372036854775808)) && (x1 == (-1)) then
      some (0, 2)
    else
    bif x1 != 0 then
      bif x1 != 0 then
        bif (!((Int.tmod x0 x1) == 0)) && (!((decide (x0 < 0)) == (decide (x1 < 0)))) then
          some ((w ((w (Int.tdiv x0 x1)) - 1)), 0)
        else
          some ((w (Int.tdiv x0 x1)), 0)
      else
        none
    else
      none := by
  rw [num_DivDown.eq]; simp only [taut3, taut21, taut22, taut23, cond_true]

/-! ### plane_Toward: skyway/plane.Toward -/
def plane_Toward.kp : List (Nat × List (Nat × Option (TypeId × Ty))) := []
noncomputable def plane_Toward.G (N : Nat) : List (Nat × Spec) := [(16, .pure (plane_Check.S N)), (65, .pure (num_DivDown.S N))]
noncomputable def plane_Toward.E (N : Nat) : Env := mkEnv (plane_Toward.G N) N tyTab plane_Toward.kp
noncomputable def plane_Toward.fn (N : Nat) (x : (Int × Int) × (Int × Int) × Int × Int) : Option ((Int × Int) × Int) := evFn (plane_Toward.E N) Tryd.prog 3 Tryd.f51 false [.agg (.pair (.int .i64) (.int .i64)), .agg (.pair (.int .i64) (.int .i64)), .cell (.int .i64), .cell (.int .i64)] [.val (.agg (.pair (.int .i64) (.int .i64))), .val (.cell (.int .i64))] x
noncomputable def plane_Toward.S (N : Nat) : PSpec := ⟨false, [.agg (.pair (.int .i64) (.int .i64)), .agg (.pair (.int .i64) (.int .i64)), .cell (.int .i64), .cell (.int .i64)], [.val (.agg (.pair (.int .i64) (.int .i64))), .val (.cell (.int .i64))], plane_Toward.fn N⟩
theorem f51_enters : Enters Tryd.prog 51 := ⟨Tryd.f51, Tryd.func51, by kernel_rfl, by kernel_rfl⟩
theorem plane_Toward.tab (N : Nat) : TabOk Tryd.prog (plane_Toward.G N) := ⟨⟨plane_Check.enters, plane_Check.sound N⟩, ⟨num_DivDown.enters, num_DivDown.sound N⟩, trivial⟩
theorem plane_Toward.enters : Enters Tryd.prog 51 := f51_enters
theorem plane_Toward.sound (N : Nat) : Sound Tryd.prog 51 (plane_Toward.S N) := evFn_sound (specs_tab (plane_Toward.tab N)) (inls_tab (plane_Toward.tab N)) mixed 3 Tryd.func51 _ _ _
theorem plane_Toward.eq (N : Nat) (x0 : Int × Int) (x1 : Int × Int) (x2 : Int) (x3 : Int) : plane_Toward.fn N (x0, x1, x2, x3) =
    bif decide (x3 ≤ 0) then
      some ((0, 0), 10)
    else
    bif !(!(decide (x3 > 200000))) || (!(decide (x3 > 200000))) then
      bif (decide (x3 > 200000)) || (!(decide (x3 > 200000))) then
        bif !(!((decide (x3 > 200000)) || (decide (x2 < 0)))) || (!((decide (x3 > 200000)) || (decide (x2 < 0)))) then
          bif !(!((decide (x3 > 200000)) || (decide (x2 < 0)))) || (!((decide (x3 > 200000)) || (decide (x2 < 0)))) then
            bif ((decide (x3 > 200000)) || (decide (x2 < 0))) || (!((decide (x3 > 200000)) || (decide (x2 < 0)))) then
              bif !(!(((decide (x3 > 200000)) || (decide (x2 < 0))) || (decide (x2 > x3)))) || (!(((decide (x3 > 200000)) || (decide (x2 < 0))) || (decide (x2 > x3)))) then
                (bif (!(((decide (x3 > 200000)) || (decide (x2 < 0))) || (decide (x2 > x3)))) then plane_Check.fn N x0 else some (0)).bind fun r1 =>
                bif !(!(((decide (x3 > 200000)) || (decide (x2 < 0))) || (decide (x2 > x3)))) || (!(((decide (x3 > 200000)) || (decide (x2 < 0))) || (decide (x2 > x3)))) then
                  bif (((decide (x3 > 200000)) || (decide (x2 < 0))) || (decide (x2 > x3))) || (!(((decide (x3 > 200000)) || (decide (x2 < 0))) || (decide (x2 > x3)))) then
                    bif !(!((((decide (x3 > 200000)) || (decide (x2 < 0))) || (decide (x2 > x3))) || (!(r1 == 0)))) || (!((((decide (x3 > 200000)) || (decide (x2 < 0))) || (decide (x2 > x3))) || (!(r1 == 0)))) then
                      (bif (!((((decide (x3 > 200000)) || (decide (x2 < 0))) || (decide (x2 > x3))) || (!(r1 == 0)))) then plane_Check.fn N x1 else some (0)).bind fun r2 =>
                      bif !(!((((decide (x3 > 200000)) || (decide (x2 < 0))) || (decide (x2 > x3))) || (!(r1 == 0)))) || (!((((decide (x3 > 200000)) || (decide (x2 < 0))) || (decide (x2 > x3))) || (!(r1 == 0)))) then
                        bif ((((decide (x3 > 200000)) || (decide (x2 < 0))) || (decide (x2 > x3))) || (!(r1 == 0))) || (!((((decide (x3 > 200000)) || (decide (x2 < 0))) || (decide (x2 > x3))) || (!(r1 == 0)))) then
                          bif ((((decide (x3 > 200000)) || (decide (x2 < 0))) || (decide (x2 > x3))) || (!(r1 == 0))) || (!(r2 == 0)) then
                            some ((0, 0), 4)
                          else
                            (num_DivDown.fn N ((w ((w (x1.1 - x0.1)) * x2)), x3)).bind fun r3 =>
                            (num_DivDown.fn N ((w ((w (x1.2 - x0.2)) * x2)), x3)).bind fun r4 =>
                            some (((w (x0.1 + r3.1)), (w (x0.2 + r4.1))), 0)
                        else
                          none
                      else
                        none
                    else
                      none
                  else
                    none
                else
                  none
              else
                none
            else
              none
          else
            none
        else
          none
      else
        none
    else
      none := by kernel_rfl
theorem taut24 : ∀ p0 p1 p2 p3 : Bool, ((!(!((((p0) || (p1)) || (p2)) || (!(p3)))) || (!((((p0) || (p1)) || (p2)) || (!(p3)))))) = true := by decide
theorem taut25 : ∀ p0 p1 p2 p3 : Bool, ((((((p0) || (p1)) || (p2)) || (!(p3))) || (!((((p0) || (p1)) || (p2)) || (!(p3)))))) = true := by decide
theorem plane_Toward.clean (N : Nat) (x0 : Int × Int) (x1 : Int × Int) (x2 : Int) (x3 : Int) : plane_Toward.fn N (x0, x1, x2, x3) =
    bif decide (x3 ≤ 0) then
      some ((0, 0), 10)
    else
    (bif (!(((decide (x3 > 200000)) || (decide (x2 < 0))) || (decide (x2 > x3)))) then plane_Check.fn N x0 else some (0)).bind fun r1 =>
    (bif (!((((decide (x3 > 200000)) || (decide (x2 < 0))) || (decide (x2 > x3))) || (!(r1 == 0)))) then plane_Check.fn N x1 else some (0)).bind fun r2 =>
    bif ((((decide (x3 > 200000)) || (decide (x2 < 0))) || (decide (x2 > x3))) || (!(r1 == 0))) || (!(r2 == 0)) then
      some ((0, 0), 4)
    else
      (num_DivDown.fn N ((w ((w (x1.1 - x0.1)) * x2)), x3)).bind fun r3 =>
      (num_DivDown.fn N ((w ((w (x1.2 - x0.2)) * x2)), x3)).bind fun r4 =>
      some (((w (x0.1 + r3.1)), (w (x0.2 + r4.1))), 0) := by
  rw [plane_Toward.eq]; simp only [taut24, taut1, taut2, taut3, taut25, taut4, taut5, taut6, cond_true]

/-! ### tube_between: skyway/tube.between -/
def tube_between.kp : List (Nat × List (Nat × Option (TypeId × Ty))) := []
noncomputable def tube_between.G (N : Nat) : List (Nat × Spec) := [(65, .pure (num_DivDown.S N))]
noncomputable def tube_between.E (N : Nat) : Env := mkEnv (tube_between.G N) N tyTab tube_between.kp
noncomputable def tube_between.fn (N : Nat) (x : Int × Int × Int × Int) : Option Int := evFn (tube_between.E N) Tryd.prog 3 Tryd.f52 false [.cell (.int .i64), .cell (.int .i64), .cell (.int .i64), .cell (.int .i64)] [.val (.cell (.int .i64))] x
noncomputable def tube_between.S (N : Nat) : PSpec := ⟨false, [.cell (.int .i64), .cell (.int .i64), .cell (.int .i64), .cell (.int .i64)], [.val (.cell (.int .i64))], tube_between.fn N⟩
theorem f52_enters : Enters Tryd.prog 52 := ⟨Tryd.f52, Tryd.func52, by kernel_rfl, by kernel_rfl⟩
theorem tube_between.tab (N : Nat) : TabOk Tryd.prog (tube_between.G N) := ⟨⟨num_DivDown.enters, num_DivDown.sound N⟩, trivial⟩
theorem tube_between.enters : Enters Tryd.prog 52 := f52_enters
theorem tube_between.sound (N : Nat) : Sound Tryd.prog 52 (tube_between.S N) := evFn_sound (specs_tab (tube_between.tab N)) (inls_tab (tube_between.tab N)) mixed 3 Tryd.func52 _ _ _
theorem tube_between.eq (N : Nat) (x0 : Int) (x1 : Int) (x2 : Int) (x3 : Int) : tube_between.fn N (x0, x1, x2, x3) =
    (num_DivDown.fn N ((w ((w (x1 - x0)) * x2)), x3)).bind fun r1 =>
    some (w (x0 + r1.1)) := by kernel_rfl

/-! ### num_DivUp: skyway/num.DivUp -/
def num_DivUp.kp : List (Nat × List (Nat × Option (TypeId × Ty))) := []
noncomputable def num_DivUp.G (N : Nat) : List (Nat × Spec) := [(65, .pure (num_DivDown.S N))]
noncomputable def num_DivUp.E (N : Nat) : Env := mkEnv (num_DivUp.G N) N tyTab num_DivUp.kp
noncomputable def num_DivUp.fn (N : Nat) (x : Int × Int) : Option (Int × Int) := evFn (num_DivUp.E N) Tryd.prog 3 Tryd.f62 false [.cell (.int .i64), .cell (.int .i64)] [.val (.cell (.int .i64)), .val (.cell (.int .i64))] x
noncomputable def num_DivUp.S (N : Nat) : PSpec := ⟨false, [.cell (.int .i64), .cell (.int .i64)], [.val (.cell (.int .i64)), .val (.cell (.int .i64))], num_DivUp.fn N⟩
theorem f62_enters : Enters Tryd.prog 62 := ⟨Tryd.f62, Tryd.func62, by kernel_rfl, by kernel_rfl⟩
theorem num_DivUp.tab (N : Nat) : TabOk Tryd.prog (num_DivUp.G N) := ⟨⟨num_DivDown.enters, num_DivDown.sound N⟩, trivial⟩
theorem num_DivUp.enters : Enters Tryd.prog 62 := f62_enters
theorem num_DivUp.sound (N : Nat) : Sound Tryd.prog 62 (num_DivUp.S N) := evFn_sound (specs_tab (num_DivUp.tab N)) (inls_tab (num_DivUp.tab N)) mixed 3 Tryd.func62 _ _ _
theorem num_DivUp.eq (N : Nat) (x0 : Int) (x1 : Int) : num_DivUp.fn N (x0, x1) =
    (num_DivDown.fn N (x0, x1)).bind fun r1 =>
    bif !(r1.2 == 0) || (r1.2 == 0) then
      bif !(r1.2 == 0) || (r1.2 == 0) then
        bif (x1 != 0) || !(r1.2 == 0) then
          bif !(r1.2 == 0) || (r1.2 == 0) then
            bif (!(r1.2 == 0)) || (r1.2 == 0) then
              bif (r1.2 == 0) && (!((Int.tmod x0 x1) == 0)) then
                some ((w (r1.1 + 1)), r1.2)
              else
                some (r1.1, r1.2)
            else
              none
          else
            none
        else
          none
      else
        none
    else
      none := by kernel_rfl
theorem num_DivUp.clean (N : Nat) (x0 : Int) (x1 : Int) : num_DivUp.fn N (x0, x1) =
    (num_DivDown.fn N (x0, x1)).bind fun r1 =>
    bif (x1 != 0) || !(r1.2 == 0) then
      bif (r1.2 == 0) && (!((Int.tmod x0 x1) == 0)) then
        some ((w (r1.1 + 1)), r1.2)
      else
        some (r1.1, r1.2)
    else
      none := by
  rw [num_DivUp.eq]; simp only [taut21, taut23, cond_true]

/-! ### tube_above: skyway/tube.above -/
def tube_above.kp : List (Nat × List (Nat × Option (TypeId × Ty))) := []
noncomputable def tube_above.G (N : Nat) : List (Nat × Spec) := [(62, .pure (num_DivUp.S N))]
noncomputable def tube_above.E (N : Nat) : Env := mkEnv (tube_above.G N) N tyTab tube_above.kp
noncomputable def tube_above.fn (N : Nat) (x : Int × Int × Int × Int) : Option Int := evFn (tube_above.E N) Tryd.prog 3 Tryd.f53 false [.cell (.int .i64), .cell (.int .i64), .cell (.int .i64), .cell (.int .i64)] [.val (.cell (.int .i64))] x
noncomputable def tube_above.S (N : Nat) : PSpec := ⟨false, [.cell (.int .i64), .cell (.int .i64), .cell (.int .i64), .cell (.int .i64)], [.val (.cell (.int .i64))], tube_above.fn N⟩
theorem f53_enters : Enters Tryd.prog 53 := ⟨Tryd.f53, Tryd.func53, by kernel_rfl, by kernel_rfl⟩
theorem tube_above.tab (N : Nat) : TabOk Tryd.prog (tube_above.G N) := ⟨⟨num_DivUp.enters, num_DivUp.sound N⟩, trivial⟩
theorem tube_above.enters : Enters Tryd.prog 53 := f53_enters
theorem tube_above.sound (N : Nat) : Sound Tryd.prog 53 (tube_above.S N) := evFn_sound (specs_tab (tube_above.tab N)) (inls_tab (tube_above.tab N)) mixed 3 Tryd.func53 _ _ _
theorem tube_above.eq (N : Nat) (x0 : Int) (x1 : Int) (x2 : Int) (x3 : Int) : tube_above.fn N (x0, x1, x2, x3) =
    (num_DivUp.fn N ((w ((w (x1 - x0)) * x2)), x3)).bind fun r1 =>
    some (w (x0 + r1.1)) := by kernel_rfl

/-! ### tube_at: skyway/tube.at -/
def tube_at.kp : List (Nat × List (Nat × Option (TypeId × Ty))) := [(4, [(0, none), (1, none), (4, none), (6, none)])]
noncomputable def tube_at.G (N : Nat) : List (Nat × Spec) := [(51, .pure (plane_Toward.S N)), (52, .pure (tube_between.S N)), (53, .pure (tube_above.S N))]
noncomputable def tube_at.E (N : Nat) : Env := mkEnv (tube_at.G N) N tyTab tube_at.kp
noncomputable def tube_at.fn (N : Nat) (x : List ((Int × (Int × Int) × Int) × Int × Int) × Int) : Option (((Int × (Int × Int) × Int) × Int × Int) × Int) := evFn (tube_at.E N) Tryd.prog 3 Tryd.f33 false [.cell (.sl 39 (.pair (.pair (.int .i64) (.pair (.pair (.int .i64) (.int .i64)) (.int .i64))) (.pair (.int .i64) (.int .i64)))), .cell (.int .i64)] [.val (.agg (.pair (.pair (.int .i64) (.pair (.pair (.int .i64) (.int .i64)) (.int .i64))) (.pair (.int .i64) (.int .i64)))), .val (.cell (.int .i64))] x
noncomputable def tube_at.S (N : Nat) : PSpec := ⟨false, [.cell (.sl 39 (.pair (.pair (.int .i64) (.pair (.pair (.int .i64) (.int .i64)) (.int .i64))) (.pair (.int .i64) (.int .i64)))), .cell (.int .i64)], [.val (.agg (.pair (.pair (.int .i64) (.pair (.pair (.int .i64) (.int .i64)) (.int .i64))) (.pair (.int .i64) (.int .i64)))), .val (.cell (.int .i64))], tube_at.fn N⟩
theorem f33_enters : Enters Tryd.prog 33 := ⟨Tryd.f33, Tryd.func33, by kernel_rfl, by kernel_rfl⟩
theorem tube_at.tab (N : Nat) : TabOk Tryd.prog (tube_at.G N) := ⟨⟨plane_Toward.enters, plane_Toward.sound N⟩, ⟨tube_between.enters, tube_between.sound N⟩, ⟨tube_above.enters, tube_above.sound N⟩, trivial⟩
theorem tube_at.enters : Enters Tryd.prog 33 := f33_enters
theorem tube_at.sound (N : Nat) : Sound Tryd.prog 33 (tube_at.S N) := evFn_sound (specs_tab (tube_at.tab N)) (inls_tab (tube_at.tab N)) mixed 3 Tryd.func33 _ _ _
noncomputable def tube_at.cd (N : Nat) (p : List Nat) : St → (Ex → St → Option (((Int × (Int × Int) × Int) × Int × Int) × Int)) → Option (((Int × (Int × Int) × Int) × Int × Int) × Int) := ev (tube_at.E N) Tryd.prog (callD (tube_at.E N) Tryd.prog 3) 0 (codeAt (bodyOf Tryd.f33) p)
noncomputable def tube_at.fin : Ex → St → Option (((Int × (Int × Int) × Int) × Int × Int) × Int) := endK Tryd.prog Tryd.f33 [.val (.agg (.pair (.pair (.int .i64) (.pair (.pair (.int .i64) (.int .i64)) (.int .i64))) (.pair (.int .i64) (.int .i64)))), .val (.cell (.int .i64))]
noncomputable def tube_at.l0 (N : Nat) (x0 : List ((Int × (Int × Int) × Int) × Int × Int)) (x1 : Int) (k1 : Nat) (a2 : Int) : Option (((Int × (Int × Int) × Int) × Int × Int) × Int) :=
  loopN (norm ((tube_at.E N).keep 4) 0) (tube_at.cd N [1, 1, 1, 0, 0, 0]) k1
  ⟨[.ros false 39 (.pair (.pair (.int .i64) (.pair (.pair (.int .i64) (.int .i64)) (.int .i64))) (.pair (.int .i64) (.int .i64))) x0, .sc (.int .i64 x1), .any, .any, .ptr 0 0, .any, .sc (.int .i64 a2), .any, .any, .any, .any, .any, .any, .any, .any, .any, .any, .any, .any, .any, .any, .any, .any, .any, .any, .any, .any, .any, .any, .any, .any, .any, .any, .any, .any, .any, .any, .any, .any, .any, .any, .any, .any, .any, .any, .any, .any, .any, .any, .any, .any, .any, .any, .any, .any, .any, .any, .any, .any, .any, .any, .any, .any, .any, .any, .any, .any, .any, .any, .any, .any, .any, .any, .any, .any, .any, .any, .any, .any, .any, .any, .any, .any, .any, .any, .any, .any, .any, .any, .any, .any, .any, .any, .any, .any, .any, .any, .any, .any, .any, .any, .any, .any, .any, .any, .any, .any, .any, .any, .any, .any, .any, .any, .any, .any, .any, .any], [.cells [.sc (.int .i64 0), .sc (.int .i64 0), .sc (.int .i64 0), .sc (.int .i64 0), .sc (.int .i64 0), .sc (.int .i64 0)] 39]⟩
  (blockK 0 (seqK (tube_at.cd N [1, 1, 1, 1]) tube_at.fin))
theorem tube_at.l0_zero (N : Nat) (x0 : List ((Int × (Int × Int) × Int) × Int × Int)) (x1 : Int) (a2 : Int) : tube_at.l0 N x0 x1 0 a2 = none := by kernel_rfl
theorem tube_at.l0_succ (N : Nat) (x0 : List ((Int × (Int × Int) × Int) × Int × Int)) (x1 : Int) (k1 : Nat) (a2 : Int) : tube_at.l0 N x0 x1 (k1 + 1) a2 =
    bif !(decide ((w (a2 + 1)) < (x0.length : Int))) || (decide ((w (a2 + 1)) < (x0.length : Int))) then
      bif !(decide ((w (a2 + 1)) < (x0.length : Int))) || (decide ((w (a2 + 1)) < (x0.length : Int))) then
        bif !(decide ((w (a2 + 1)) < (x0.length : Int))) || (decide ((w (a2 + 1)) < (x0.length : Int))) then
          bif ((decide (0 ≤ (w (a2 + 1)))) && (decide ((w (a2 + 1)) < (x0.length : Int)))) || !(decide ((w (a2 + 1)) < (x0.length : Int))) then
            bif !(decide ((w (a2 + 1)) < (x0.length : Int))) || (decide ((w (a2 + 1)) < (x0.length : Int))) then
              bif !(decide ((w (a2 + 1)) < (x0.length : Int))) || (decide ((w (a2 + 1)) < (x0.length : Int))) then
                bif !(decide ((w (a2 + 1)) < (x0.length : Int))) || (decide ((w (a2 + 1)) < (x0.length : Int))) then
                  bif !(decide ((w (a2 + 1)) < (x0.length : Int))) || (decide ((w (a2 + 1)) < (x0.length : Int))) then
                    bif !(decide ((w (a2 + 1)) < (x0.length : Int))) || (decide ((w (a2 + 1)) < (x0.length : Int))) then
                      bif (!(decide ((w (a2 + 1)) < (x0.length : Int)))) || (decide ((w (a2 + 1)) < (x0.length : Int))) then
                        bif (decide ((w (a2 + 1)) < (x0.length : Int))) && (decide ((((List.getD x0 (Int.toNat (w (a2 + 1))) ((0, ((0, 0), 0)), (0, 0))).1).1) ≤ x1)) then
                          tube_at.l0 N x0 x1 k1 (w (a2 + 1))
                        else
                        bif (decide (0 ≤ a2)) && (decide (a2 < (x0.length : Int))) then
                          bif (((List.getD x0 (Int.toNat a2) ((0, ((0, 0), 0)), (0, 0))).1).1) == x1 then
                            some (List.getD x0 (Int.toNat a2) ((0, ((0, 0), 0)), (0, 0)), 0)
                          else
                          bif (decide (0 ≤ (w (a2 + 1)))) && (decide ((w (a2 + 1)) < (x0.length : Int))) then
                            (plane_Toward.fn N ((((List.getD x0 (Int.toNat a2) ((0, ((0, 0), 0)), (0, 0))).1).2).1, (((List.getD x0 (Int.toNat (w (a2 + 1))) ((0, ((0, 0), 0)), (0, 0))).1).2).1, (w (x1 - (((List.getD x0 (Int.toNat a2) ((0, ((0, 0), 0)), (0, 0))).1).1))), (w ((((List.getD x0 (Int.toNat (w (a2 + 1))) ((0, ((0, 0), 0)), (0, 0))).1).1) - (((List.getD x0 (Int.toNat a2) ((0, ((0, 0), 0)), (0, 0))).1).1))))).bind fun r3 =>
                            (tube_between.fn N ((((List.getD x0 (Int.toNat a2) ((0, ((0, 0), 0)), (0, 0))).1).2).2, (((List.getD x0 (Int.toNat (w (a2 + 1))) ((0, ((0, 0), 0)), (0, 0))).1).2).2, (w (x1 - (((List.getD x0 (Int.toNat a2) ((0, ((0, 0), 0)), (0, 0))).1).1))), (w ((((List.getD x0 (Int.toNat (w (a2 + 1))) ((0, ((0, 0), 0)), (0, 0))).1).1) - (((List.getD x0 (Int.toNat a2) ((0, ((0, 0), 0)), (0, 0))).1).1))))).bind fun r4 =>
                            (tube_above.fn N (((List.getD x0 (Int.toNat a2) ((0, ((0, 0), 0)), (0, 0))).2).1, ((List.getD x0 (Int.toNat (w (a2 + 1))) ((0, ((0, 0), 0)), (0, 0))).2).1, (w (x1 - (((List.getD x0 (Int.toNat a2) ((0, ((0, 0), 0)), (0, 0))).1).1))), (w ((((List.getD x0 (Int.toNat (w (a2 + 1))) ((0, ((0, 0), 0)), (0, 0))).1).1) - (((List.getD x0 (Int.toNat a2) ((0, ((0, 0), 0)), (0, 0))).1).1))))).bind fun r5 =>
                            (tube_above.fn N (((List.getD x0 (Int.toNat a2) ((0, ((0, 0), 0)), (0, 0))).2).2, ((List.getD x0 (Int.toNat (w (a2 + 1))) ((0, ((0, 0), 0)), (0, 0))).2).2, (w (x1 - (((List.getD x0 (Int.toNat a2) ((0, ((0, 0), 0)), (0, 0))).1).1))), (w ((((List.getD x0 (Int.toNat (w (a2 + 1))) ((0, ((0, 0), 0)), (0, 0))).1).1) - (((List.getD x0 (Int.toNat a2) ((0, ((0, 0), 0)), (0, 0))).1).1))))).bind fun r6 =>
                            some (((x1, (r3.1, r4)), (r5, r6)), 0)
                          else
                            none
                        else
                          none
                      else
                        none
                    else
                      none
                  else
                    none
                else
                  none
              else
                none
            else
              none
          else
            none
        else
          none
      else
        none
    else
      none := by kernel_rfl
theorem tube_at.l0_clean (N : Nat) (x0 : List ((Int × (Int × Int) × Int) × Int × Int)) (x1 : Int) (k1 : Nat) (a2 : Int) : tube_at.l0 N x0 x1 (k1 + 1) a2 =
    bif ((decide (0 ≤ (w (a2 + 1)))) && (decide ((w (a2 + 1)) < (x0.length : Int)))) || !(decide ((w (a2 + 1)) < (x0.length : Int))) then
      bif (decide ((w (a2 + 1)) < (x0.length : Int))) && (decide ((((List.getD x0 (Int.toNat (w (a2 + 1))) ((0, ((0, 0), 0)), (0, 0))).1).1) ≤ x1)) then
        tube_at.l0 N x0 x1 k1 (w (a2 + 1))
      else
      bif (decide (0 ≤ a2)) && (decide (a2 < (x0.length : Int))) then
        bif (((List.getD x0 (Int.toNat a2) ((0, ((0, 0), 0)), (0, 0))).1).1) == x1 then
          some (List.getD x0 (Int.toNat a2) ((0, ((0, 0), 0)), (0, 0)), 0)
        else
        bif (decide (0 ≤ (w (a2 + 1)))) && (decide ((w (a2 + 1)) < (x0.length : Int))) then
          (plane_Toward.fn N ((((List.getD x0 (Int.toNat a2) ((0, ((0, 0), 0)), (0, 0))).1).2).1, (((List.getD x0 (Int.toNat (w (a2 + 1))) ((0, ((0, 0), 0)), (0, 0))).1).2).1, (w (x1 - (((List.getD x0 (Int.toNat a2) ((0, ((0, 0), 0)), (0, 0))).1).1))), (w ((((List.getD x0 (Int.toNat (w (a2 + 1))) ((0, ((0, 0), 0)), (0, 0))).1).1) - (((List.getD x0 (Int.toNat a2) ((0, ((0, 0), 0)), (0, 0))).1).1))))).bind fun r3 =>
          (tube_between.fn N ((((List.getD x0 (Int.toNat a2) ((0, ((0, 0), 0)), (0, 0))).1).2).2, (((List.getD x0 (Int.toNat (w (a2 + 1))) ((0, ((0, 0), 0)), (0, 0))).1).2).2, (w (x1 - (((List.getD x0 (Int.toNat a2) ((0, ((0, 0), 0)), (0, 0))).1).1))), (w ((((List.getD x0 (Int.toNat (w (a2 + 1))) ((0, ((0, 0), 0)), (0, 0))).1).1) - (((List.getD x0 (Int.toNat a2) ((0, ((0, 0), 0)), (0, 0))).1).1))))).bind fun r4 =>
          (tube_above.fn N (((List.getD x0 (Int.toNat a2) ((0, ((0, 0), 0)), (0, 0))).2).1, ((List.getD x0 (Int.toNat (w (a2 + 1))) ((0, ((0, 0), 0)), (0, 0))).2).1, (w (x1 - (((List.getD x0 (Int.toNat a2) ((0, ((0, 0), 0)), (0, 0))).1).1))), (w ((((List.getD x0 (Int.toNat (w (a2 + 1))) ((0, ((0, 0), 0)), (0, 0))).1).1) - (((List.getD x0 (Int.toNat a2) ((0, ((0, 0), 0)), (0, 0))).1).1))))).bind fun r5 =>
          (tube_above.fn N (((List.getD x0 (Int.toNat a2) ((0, ((0, 0), 0)), (0, 0))).2).2, ((List.getD x0 (Int.toNat (w (a2 + 1))) ((0, ((0, 0), 0)), (0, 0))).2).2, (w (x1 - (((List.getD x0 (Int.toNat a2) ((0, ((0, 0), 0)), (0, 0))).1).1))), (w ((((List.getD x0 (Int.toNat (w (a2 + 1))) ((0, ((0, 0), 0)), (0, 0))).1).1) - (((List.getD x0 (Int.toNat a2) ((0, ((0, 0), 0)), (0, 0))).1).1))))).bind fun r6 =>
          some (((x1, (r3.1, r4)), (r5, r6)), 0)
        else
          none
      else
        none
    else
      none := by
  rw [tube_at.l0_succ]; simp only [taut21, taut23, cond_true]
theorem tube_at.eq (N : Nat) (x0 : List ((Int × (Int × Int) × Int) × Int × Int)) (x1 : Int) : tube_at.fn N (x0, x1) =
    bif decide (0 < (x0.length : Int)) then
      bif !(!(decide (x1 < (((List.getD x0 0 ((0, ((0, 0), 0)), (0, 0))).1).1)))) || (!(decide (x1 < (((List.getD x0 0 ((0, ((0, 0), 0)), (0, 0))).1).1)))) then
        bif !(!(decide (x1 < (((List.getD x0 0 ((0, ((0, 0), 0)), (0, 0))).1).1)))) || (!(decide (x1 < (((List.getD x0 0 ((0, ((0, 0), 0)), (0, 0))).1).1)))) then
          bif !(!(decide (x1 < (((List.getD x0 0 ((0, ((0, 0), 0)), (0, 0))).1).1)))) || (!(decide (x1 < (((List.getD x0 0 ((0, ((0, 0), 0)), (0, 0))).1).1)))) then
            bif !(!(decide (x1 < (((List.getD x0 0 ((0, ((0, 0), 0)), (0, 0))).1).1)))) || (!(decide (x1 < (((List.getD x0 0 ((0, ((0, 0), 0)), (0, 0))).1).1)))) then
              bif ((decide (0 ≤ (w ((x0.length : Int) - 1)))) && (decide ((w ((x0.length : Int) - 1)) < (x0.length : Int)))) || !(!(decide (x1 < (((List.getD x0 0 ((0, ((0, 0), 0)), (0, 0))).1).1)))) then
                bif !(!(decide (x1 < (((List.getD x0 0 ((0, ((0, 0), 0)), (0, 0))).1).1)))) || (!(decide (x1 < (((List.getD x0 0 ((0, ((0, 0), 0)), (0, 0))).1).1)))) then
                  bif !(!(decide (x1 < (((List.getD x0 0 ((0, ((0, 0), 0)), (0, 0))).1).1)))) || (!(decide (x1 < (((List.getD x0 0 ((0, ((0, 0), 0)), (0, 0))).1).1)))) then
                    bif !(!(decide (x1 < (((List.getD x0 0 ((0, ((0, 0), 0)), (0, 0))).1).1)))) || (!(decide (x1 < (((List.getD x0 0 ((0, ((0, 0), 0)), (0, 0))).1).1)))) then
                      bif !(!(decide (x1 < (((List.getD x0 0 ((0, ((0, 0), 0)), (0, 0))).1).1)))) || (!(decide (x1 < (((List.getD x0 0 ((0, ((0, 0), 0)), (0, 0))).1).1)))) then
                        bif !(!(decide (x1 < (((List.getD x0 0 ((0, ((0, 0), 0)), (0, 0))).1).1)))) || (!(decide (x1 < (((List.getD x0 0 ((0, ((0, 0), 0)), (0, 0))).1).1)))) then
                          bif (decide (x1 < (((List.getD x0 0 ((0, ((0, 0), 0)), (0, 0))).1).1))) || (!(decide (x1 < (((List.getD x0 0 ((0, ((0, 0), 0)), (0, 0))).1).1)))) then
                            bif (decide (x1 < (((List.getD x0 0 ((0, ((0, 0), 0)), (0, 0))).1).1))) || (decide (x1 > (((List.getD x0 (Int.toNat (w ((x0.length : Int) - 1))) ((0, ((0, 0), 0)), (0, 0))).1).1))) then
                              some (((0, ((0, 0), 0)), (0, 0)), 12)
                            else
                              tube_at.l0 N x0 x1 N 0
                          else
                            none
                        else
                          none
                      else
                        none
                    else
                      none
                  else
                    none
                else
                  none
              else
                none
            else
              none
          else
            none
        else
          none
      else
        none
    else
      none := by kernel_rfl
theorem tube_at.clean (N : Nat) (x0 : List ((Int × (Int × Int) × Int) × Int × Int)) (x1 : Int) : tube_at.fn N (x0, x1) =
    bif decide (0 < (x0.length : Int)) then
      bif ((decide (0 ≤ (w ((x0.length : Int) - 1)))) && (decide ((w ((x0.length : Int) - 1)) < (x0.length : Int)))) || !(!(decide (x1 < (((List.getD x0 0 ((0, ((0, 0), 0)), (0, 0))).1).1)))) then
        bif (decide (x1 < (((List.getD x0 0 ((0, ((0, 0), 0)), (0, 0))).1).1))) || (decide (x1 > (((List.getD x0 (Int.toNat (w ((x0.length : Int) - 1))) ((0, ((0, 0), 0)), (0, 0))).1).1))) then
          some (((0, ((0, 0), 0)), (0, 0)), 12)
        else
          tube_at.l0 N x0 x1 N 0
      else
        none
    else
      none := by
  rw [tube_at.eq]; simp only [taut3, taut6, cond_true]

/-! ### tube_Point: skyway/tube.Point -/
def tube_Point.kp : List (Nat × List (Nat × Option (TypeId × Ty))) := []
noncomputable def tube_Point.G (N : Nat) : List (Nat × Spec) := [(33, .pure (tube_at.S N))]
noncomputable def tube_Point.E (N : Nat) : Env := mkEnv (tube_Point.G N) N tyTab tube_Point.kp
noncomputable def tube_Point.fn (N : Nat) (x : List ((Int × (Int × Int) × Int) × Int × Int) × Int) : Option ((Int × (Int × Int) × Int) × Int × Int) := evFn (tube_Point.E N) Tryd.prog 3 Tryd.f23 false [.cell (.sl 39 (.pair (.pair (.int .i64) (.pair (.pair (.int .i64) (.int .i64)) (.int .i64))) (.pair (.int .i64) (.int .i64)))), .cell (.int .i64)] [.val (.agg (.pair (.pair (.int .i64) (.pair (.pair (.int .i64) (.int .i64)) (.int .i64))) (.pair (.int .i64) (.int .i64))))] x
noncomputable def tube_Point.S (N : Nat) : PSpec := ⟨false, [.cell (.sl 39 (.pair (.pair (.int .i64) (.pair (.pair (.int .i64) (.int .i64)) (.int .i64))) (.pair (.int .i64) (.int .i64)))), .cell (.int .i64)], [.val (.agg (.pair (.pair (.int .i64) (.pair (.pair (.int .i64) (.int .i64)) (.int .i64))) (.pair (.int .i64) (.int .i64))))], tube_Point.fn N⟩
theorem f23_enters : Enters Tryd.prog 23 := ⟨Tryd.f23, Tryd.func23, by kernel_rfl, by kernel_rfl⟩
theorem tube_Point.tab (N : Nat) : TabOk Tryd.prog (tube_Point.G N) := ⟨⟨tube_at.enters, tube_at.sound N⟩, trivial⟩
theorem tube_Point.enters : Enters Tryd.prog 23 := f23_enters
theorem tube_Point.sound (N : Nat) : Sound Tryd.prog 23 (tube_Point.S N) := evFn_sound (specs_tab (tube_Point.tab N)) (inls_tab (tube_Point.tab N)) mixed 3 Tryd.func23 _ _ _
theorem tube_Point.eq (N : Nat) (x0 : List ((Int × (Int × Int) × Int) × Int × Int)) (x1 : Int) : tube_Point.fn N (x0, x1) =
    (tube_at.fn N (x0, x1)).bind fun r1 =>
    some r1.1 := by kernel_rfl

/-! ### effect_divide: skyway/effect.divide -/
def effect_divide.kp : List (Nat × List (Nat × Option (TypeId × Ty))) := [(3, [(1, none), (4, none), (5, none), (12, none), (13, none), (14, none), (7000005, some (39, .pair (.pair (.int .i64) (.pair (.pair (.int .i64) (.int .i64)) (.int .i64))) (.pair (.int .i64) (.int .i64)))), (8000005, some (39, .pair (.pair (.int .i64) (.pair (.pair (.int .i64) (.int .i64)) (.int .i64))) (.pair (.int .i64) (.int .i64))))])]
noncomputable def effect_divide.G (N : Nat) : List (Nat × Spec) := [(23, .pure (tube_Point.S N))]
noncomputable def effect_divide.E (N : Nat) : Env := mkEnv (effect_divide.G N) N tyTab effect_divide.kp
noncomputable def effect_divide.fn (N : Nat) (x : List ((Int × (Int × Int) × Int) × Int × Int) × Int) : Option (((Int × (Int × Int) × Int) × Int × Int) × List ((Int × (Int × Int) × Int) × Int × Int) × List ((Int × (Int × Int) × Int) × Int × Int)) := evFn (effect_divide.E N) Tryd.prog 3 Tryd.f26 false [.cell (.sl 39 (.pair (.pair (.int .i64) (.pair (.pair (.int .i64) (.int .i64)) (.int .i64))) (.pair (.int .i64) (.int .i64)))), .cell (.int .i64)] [.val (.agg (.pair (.pair (.pair (.int .i64) (.pair (.pair (.int .i64) (.int .i64)) (.int .i64))) (.pair (.int .i64) (.int .i64))) (.pair (.sl 39 (.pair (.pair (.int .i64) (.pair (.pair (.int .i64) (.int .i64)) (.int .i64))) (.pair (.int .i64) (.int .i64)))) (.sl 39 (.pair (.pair (.int .i64) (.pair (.pair (.int .i64) (.int .i64)) (.int .i64))) (.pair (.int .i64) (.int .i64)))))))] x
noncomputable def effect_divide.S (N : Nat) : PSpec := ⟨false, [.cell (.sl 39 (.pair (.pair (.int .i64) (.pair (.pair (.int .i64) (.int .i64)) (.int .i64))) (.pair (.int .i64) (.int .i64)))), .cell (.int .i64)], [.val (.agg (.pair (.pair (.pair (.int .i64) (.pair (.pair (.int .i64) (.int .i64)) (.int .i64))) (.pair (.int .i64) (.int .i64))) (.pair (.sl 39 (.pair (.pair (.int .i64) (.pair (.pair (.int .i64) (.int .i64)) (.int .i64))) (.pair (.int .i64) (.int .i64)))) (.sl 39 (.pair (.pair (.int .i64) (.pair (.pair (.int .i64) (.int .i64)) (.int .i64))) (.pair (.int .i64) (.int .i64)))))))], effect_divide.fn N⟩
theorem f26_enters : Enters Tryd.prog 26 := ⟨Tryd.f26, Tryd.func26, by kernel_rfl, by kernel_rfl⟩
theorem effect_divide.tab (N : Nat) : TabOk Tryd.prog (effect_divide.G N) := ⟨⟨tube_Point.enters, tube_Point.sound N⟩, trivial⟩
theorem effect_divide.enters : Enters Tryd.prog 26 := f26_enters
theorem effect_divide.sound (N : Nat) : Sound Tryd.prog 26 (effect_divide.S N) := evFn_sound (specs_tab (effect_divide.tab N)) (inls_tab (effect_divide.tab N)) mixed 3 Tryd.func26 _ _ _
noncomputable def effect_divide.cd (N : Nat) (p : List Nat) : St → (Ex → St → Option (((Int × (Int × Int) × Int) × Int × Int) × List ((Int × (Int × Int) × Int) × Int × Int) × List ((Int × (Int × Int) × Int) × Int × Int))) → Option (((Int × (Int × Int) × Int) × Int × Int) × List ((Int × (Int × Int) × Int) × Int × Int) × List ((Int × (Int × Int) × Int) × Int × Int)) := ev (effect_divide.E N) Tryd.prog (callD (effect_divide.E N) Tryd.prog 3) 0 (codeAt (bodyOf Tryd.f26) p)
noncomputable def effect_divide.fin : Ex → St → Option (((Int × (Int × Int) × Int) × Int × Int) × List ((Int × (Int × Int) × Int) × Int × Int) × List ((Int × (Int × Int) × Int) × Int × Int)) := endK Tryd.prog Tryd.f26 [.val (.agg (.pair (.pair (.pair (.int .i64) (.pair (.pair (.int .i64) (.int .i64)) (.int .i64))) (.pair (.int .i64) (.int .i64))) (.pair (.sl 39 (.pair (.pair (.int .i64) (.pair (.pair (.int .i64) (.int .i64)) (.int .i64))) (.pair (.int .i64) (.int .i64)))) (.sl 39 (.pair (.pair (.int .i64) (.pair (.pair (.int .i64) (.int .i64)) (.int .i64))) (.pair (.int .i64) (.int .i64)))))))]
noncomputable def effect_divide.l0 (N : Nat) (x0 : List ((Int × (Int × Int) × Int) × Int × Int)) (x1 : Int) (r1 : (Int × (Int × Int) × Int) × Int × Int) (k2 : Nat) (a3 : Int) (a4 : List ((Int × (Int × Int) × Int) × Int × Int)) (a5 : List ((Int × (Int × Int) × Int) × Int × Int)) : Option (((Int × (Int × Int) × Int) × Int × Int) × List ((Int × (Int × Int) × Int) × Int × Int) × List ((Int × (Int × Int) × Int) × Int × Int)) :=
  loopN (norm ((effect_divide.E N).keep 3) 0) (effect_divide.cd N [1, 1, 0, 1, 0, 0]) k2
  ⟨[.any, .sc (.int .i64 x1), .any, .any, .ptr 0 0, .ptr 1 0, .any, .any, .any, .any, .any, .any, .ros false 39 (.pair (.pair (.int .i64) (.pair (.pair (.int .i64) (.int .i64)) (.int .i64))) (.pair (.int .i64) (.int .i64))) x0, .sc (.int .i64 (x0.length : Int)), .sc (.int .i64 a3), .any, .any, .any, .any, .any, .any, .any, .any, .any, .any, .any, .any, .any, .any, .any, .any, .any, .any, .any, .any, .any, .any, .any, .any, .any, .any, .any, .any, .any, .any, .any, .any, .any, .any, .any, .any], [.cells [.sc (.int .i64 0), .sc (.int .i64 0), .sc (.int .i64 0), .sc (.int .i64 0), .sc (.int .i64 0), .sc (.int .i64 0), .sc (.slice none 0 0), .sc (.slice none 0 0)] 61, .cells [.sc (.int .i64 r1.1.1), .sc (.int .i64 r1.1.2.1.1), .sc (.int .i64 r1.1.2.1.2), .sc (.int .i64 r1.1.2.2), .sc (.int .i64 r1.2.1), .sc (.int .i64 r1.2.2), .own 2, .own 3] 61, .rows true 39 (.pair (.pair (.int .i64) (.pair (.pair (.int .i64) (.int .i64)) (.int .i64))) (.pair (.int .i64) (.int .i64))) a4, .rows true 39 (.pair (.pair (.int .i64) (.pair (.pair (.int .i64) (.int .i64)) (.int .i64))) (.pair (.int .i64) (.int .i64))) a5]⟩
  (blockK 0 (seqK (effect_divide.cd N [1, 1, 1]) effect_divide.fin))
theorem effect_divide.l0_zero (N : Nat) (x0 : List ((Int × (Int × Int) × Int) × Int × Int)) (x1 : Int) (r1 : (Int × (Int × Int) × Int) × Int × Int) (a3 : Int) (a4 : List ((Int × (Int × Int) × Int) × Int × Int)) (a5 : List ((Int × (Int × Int) × Int) × Int × Int)) : effect_divide.l0 N x0 x1 r1 0 a3 a4 a5 = none := by kernel_rfl
theorem effect_divide.l0_succ (N : Nat) (x0 : List ((Int × (Int × Int) × Int) × Int × Int)) (x1 : Int) (r1 : (Int × (Int × Int) × Int) × Int × Int) (k2 : Nat) (a3 : Int) (a4 : List ((Int × (Int × Int) × Int) × Int × Int)) (a5 : List ((Int × (Int × Int) × Int) × Int × Int)) : effect_divide.l0 N x0 x1 r1 (k2 + 1) a3 a4 a5 =
    bif decide (a3 < (x0.length : Int)) then
      bif (decide (0 ≤ a3)) && (decide (a3 < (x0.length : Int))) then
        bif decide ((((List.getD x0 (Int.toNat a3) ((0, ((0, 0), 0)), (0, 0))).1).1) < x1) then
          bif decide ((a4.length + 1) * 48 ≤ 140737488355328) && decide ((a4.length + 1) ≤ maxLen) then
            effect_divide.l0 N x0 x1 r1 k2 (w (a3 + 1)) (a4 ++ [List.getD x0 (Int.toNat a3) ((0, ((0, 0), 0)), (0, 0))]) a5
          else
            none
        else
        bif decide ((((List.getD x0 (Int.toNat a3) ((0, ((0, 0), 0)), (0, 0))).1).1) > x1) then
          bif decide ((a5.length + 1) * 48 ≤ 140737488355328) && decide ((a5.length + 1) ≤ maxLen) then
            effect_divide.l0 N x0 x1 r1 k2 (w (a3 + 1)) a4 (a5 ++ [List.getD x0 (Int.toNat a3) ((0, ((0, 0), 0)), (0, 0))])
          else
            none
        else
          effect_divide.l0 N x0 x1 r1 k2 (w (a3 + 1)) a4 a5
      else
        none
    else
    bif decide ((a4.length + 1) * 48 ≤ 140737488355328) && decide ((a4.length + 1) ≤ maxLen) then
      some (r1, ((a4 ++ [r1]), a5))
    else
      none := by kernel_rfl
theorem effect_divide.l0_cons (N : Nat) (x0 : List ((Int × (Int × Int) × Int) × Int × Int)) (x1 : Int) (r1 : (Int × (Int × Int) × Int) × Int × Int) (k2 : Nat) (a4 : List ((Int × (Int × Int) × Int) × Int × Int)) (a5 : List ((Int × (Int × Int) × Int) × Int × Int)) {pre r} {x} (hl : x0 = pre ++ x :: r) (hb : x0.length < 4611686018427387904) : effect_divide.l0 N x0 x1 r1 (k2 + 1) (pre.length : Int) a4 a5 =
    bif decide (((x.1).1) < x1) then
      bif decide ((a4.length + 1) * 48 ≤ 140737488355328) && decide ((a4.length + 1) ≤ maxLen) then
        effect_divide.l0 N x0 x1 r1 k2 ((pre.length : Int) + 1) (a4 ++ [x]) a5
      else
        none
    else
    bif decide (((x.1).1) > x1) then
      bif decide ((a5.length + 1) * 48 ≤ 140737488355328) && decide ((a5.length + 1) ≤ maxLen) then
        effect_divide.l0 N x0 x1 r1 k2 ((pre.length : Int) + 1) a4 (a5 ++ [x])
      else
        none
    else
      effect_divide.l0 N x0 x1 r1 k2 ((pre.length : Int) + 1) a4 a5 := by
  have hlen : x0.length = pre.length + 1 + r.length := by rw [hl]; simp; omega
  have e1 : decide ((pre.length : Int) < (x0.length : Int)) = true := by rw [decide_eq_true_iff]; omega
  have e2 : decide (0 ≤ (pre.length : Int)) = true := by rw [decide_eq_true_iff]; omega
  have e4 : w ((pre.length : Int) + 1) = (pre.length : Int) + 1 := w_next hl hb
  have e5 : List.take pre.length x0 = pre := by rw [hl]; simp
  have e6 : decide ((pre.length : Int) ≤ (x0.length : Int)) = true := by rw [decide_eq_true_iff]; omega
  have g0 : List.getD x0 pre.length ((0, ((0, 0), 0)), (0, 0)) = x := by rw [hl]; exact getD_mid pre x r _
  rw [effect_divide.l0_succ]
  simp -implicitDefEqProofs only [Int.toNat_natCast, e1, e2, e4, e6, g0, e5, Bool.and_true, Bool.true_and, Bool.true_or, cond_true]
theorem effect_divide.l0_nil (N : Nat) (x0 : List ((Int × (Int × Int) × Int) × Int × Int)) (x1 : Int) (r1 : (Int × (Int × Int) × Int) × Int × Int) (k2 : Nat) (a4 : List ((Int × (Int × Int) × Int) × Int × Int)) (a5 : List ((Int × (Int × Int) × Int) × Int × Int)) : effect_divide.l0 N x0 x1 r1 (k2 + 1) (x0.length : Int) a4 a5 =
    bif decide ((a4.length + 1) * 48 ≤ 140737488355328) && decide ((a4.length + 1) ≤ maxLen) then
      some (r1, ((a4 ++ [r1]), a5))
    else
      none := by
  have e1 : decide ((x0.length : Int) < (x0.length : Int)) = false := by rw [decide_eq_false_iff_not]; omega
  rw [effect_divide.l0_succ]
  simp -implicitDefEqProofs only [e1, cond_false]
theorem effect_divide.eq (N : Nat) (x0 : List ((Int × (Int × Int) × Int) × Int × Int)) (x1 : Int) : effect_divide.fn N (x0, x1) =
    (tube_Point.fn N (x0, x1)).bind fun r1 =>
    effect_divide.l0 N x0 x1 r1 N 0 [] [] := by kernel_rfl

/-! ### aircraft_heights: skyway/aircraft.heights -/
def aircraft_heights.kp : List (Nat × List (Nat × Option (TypeId × Ty))) := [(5, [(1, none), (2, none), (15, none), (16, none), (17, none)]), (11, [(2, none), (28, none), (29, none), (30, none)])]
noncomputable def aircraft_heights.G (N : Nat) : List (Nat × Spec) := [(15, .pure (aircraft_Check.S N))]
noncomputable def aircraft_heights.E (N : Nat) : Env := mkEnv (aircraft_heights.G N) N tyTab aircraft_heights.kp
noncomputable def aircraft_heights.fn (N : Nat) (x : (ByteArray × Int × Int × Int × Int × Int × Int) × List Int) : Option Int := evFn (aircraft_heights.E N) Tryd.prog 3 Tryd.f61 false [.agg (.pair (.str) (.pair (.int .i64) (.pair (.int .i64) (.pair (.int .i64) (.pair (.int .i64) (.pair (.int .i64) (.int .i64))))))), .cell (.sl 3 (.int .i64))] [.val (.cell (.int .i64))] x
noncomputable def aircraft_heights.S (N : Nat) : PSpec := ⟨false, [.agg (.pair (.str) (.pair (.int .i64) (.pair (.int .i64) (.pair (.int .i64) (.pair (.int .i64) (.pair (.int .i64) (.int .i64))))))), .cell (.sl 3 (.int .i64))], [.val (.cell (.int .i64))], aircraft_heights.fn N⟩
theorem f61_enters : Enters Tryd.prog 61 := ⟨Tryd.f61, Tryd.func61, by kernel_rfl, by kernel_rfl⟩
theorem aircraft_heights.tab (N : Nat) : TabOk Tryd.prog (aircraft_heights.G N) := ⟨⟨aircraft_Check.enters, aircraft_Check.sound N⟩, trivial⟩
theorem aircraft_heights.enters : Enters Tryd.prog 61 := f61_enters
theorem aircraft_heights.sound (N : Nat) : Sound Tryd.prog 61 (aircraft_heights.S N) := evFn_sound (specs_tab (aircraft_heights.tab N)) (inls_tab (aircraft_heights.tab N)) mixed 3 Tryd.func61 _ _ _
noncomputable def aircraft_heights.cd (N : Nat) (p : List Nat) : St → (Ex → St → Option Int) → Option Int := ev (aircraft_heights.E N) Tryd.prog (callD (aircraft_heights.E N) Tryd.prog 3) 0 (codeAt (bodyOf Tryd.f61) p)
noncomputable def aircraft_heights.fin : Ex → St → Option Int := endK Tryd.prog Tryd.f61 [.val (.cell (.int .i64))]
noncomputable def aircraft_heights.l0 (N : Nat) (x0 : ByteArray × Int × Int × Int × Int × Int × Int) (x1 : List Int) (k2 : Nat) (a3 : Int) : Option Int :=
  loopN (norm ((aircraft_heights.E N).keep 5) 0) (aircraft_heights.cd N [1, 1, 0, 1, 0, 0]) k2
  ⟨[.any, .ros false 3 (.int .i64) x1, .ptr 0 0, .any, .any, .any, .any, .any, .any, .any, .any, .any, .any, .any, .any, .ros false 3 (.int .i64) x1, .sc (.int .i64 (x1.length : Int)), .sc (.int .i64 a3), .any, .any, .any, .any, .any, .any, .any, .any, .any, .any, .any, .any, .any, .any, .any, .any, .any, .any, .any, .any, .any], [.cells [.sc (.string x0.1), .sc (.int .i64 x0.2.1), .sc (.int .i64 x0.2.2.1), .sc (.int .i64 x0.2.2.2.1), .sc (.int .i64 x0.2.2.2.2.1), .sc (.int .i64 x0.2.2.2.2.2.1), .sc (.int .i64 x0.2.2.2.2.2.2)] 27]⟩
  (blockK 0 (seqK (aircraft_heights.cd N [1, 1, 1]) aircraft_heights.fin))
noncomputable def aircraft_heights.l1 (N : Nat) (x0 : ByteArray × Int × Int × Int × Int × Int × Int) (x1 : List Int) (k4 : Nat) (a5 : Int) : Option Int :=
  loopN (norm ((aircraft_heights.E N).keep 11) 0) (aircraft_heights.cd N [1, 1, 1, 0, 1, 0, 0]) k4
  ⟨[.any, .any, .ptr 0 0, .any, .any, .any, .any, .any, .any, .any, .any, .any, .any, .any, .any, .any, .any, .any, .any, .any, .any, .any, .any, .any, .any, .any, .any, .any, .ros false 3 (.int .i64) x1, .sc (.int .i64 (x1.length : Int)), .sc (.int .i64 a5), .any, .any, .any, .any, .any, .any, .any, .any], [.cells [.sc (.string x0.1), .sc (.int .i64 x0.2.1), .sc (.int .i64 x0.2.2.1), .sc (.int .i64 x0.2.2.2.1), .sc (.int .i64 x0.2.2.2.2.1), .sc (.int .i64 x0.2.2.2.2.2.1), .sc (.int .i64 x0.2.2.2.2.2.2)] 27]⟩
  (blockK 2 (seqK (aircraft_heights.cd N [1, 1, 1, 1]) aircraft_heights.fin))
theorem aircraft_heights.l1_zero (N : Nat) (x0 : ByteArray × Int × Int × Int × Int × Int × Int) (x1 : List Int) (a5 : Int) : aircraft_heights.l1 N x0 x1 0 a5 = none := by kernel_rfl
theorem aircraft_heights.l1_succ (N : Nat) (x0 : ByteArray × Int × Int × Int × Int × Int × Int) (x1 : List Int) (k4 : Nat) (a5 : Int) : aircraft_heights.l1 N x0 x1 (k4 + 1) a5 =
    bif decide (a5 < (x1.length : Int)) then
      bif (decide (0 ≤ a5)) && (decide (a5 < (x1.length : Int))) then
        bif decide ((List.getD x1 (Int.toNat a5) 0) > x0.2.2.1) then
          some 20
        else
          aircraft_heights.l1 N x0 x1 k4 (w (a5 + 1))
      else
        none
    else
      some 0 := by kernel_rfl
theorem aircraft_heights.l0_zero (N : Nat) (x0 : ByteArray × Int × Int × Int × Int × Int × Int) (x1 : List Int) (a3 : Int) : aircraft_heights.l0 N x0 x1 0 a3 = none := by kernel_rfl
theorem aircraft_heights.l0_succ (N : Nat) (x0 : ByteArray × Int × Int × Int × Int × Int × Int) (x1 : List Int) (k2 : Nat) (a3 : Int) : aircraft_heights.l0 N x0 x1 (k2 + 1) a3 =
    bif decide (a3 < (x1.length : Int)) then
      bif (decide (0 ≤ a3)) && (decide (a3 < (x1.length : Int))) then
        bif !(!(decide ((List.getD x1 (Int.toNat a3) 0) < 0))) || (!(decide ((List.getD x1 (Int.toNat a3) 0) < 0))) then
          bif (decide ((List.getD x1 (Int.toNat a3) 0) < 0)) || (!(decide ((List.getD x1 (Int.toNat a3) 0) < 0))) then
            bif (decide ((List.getD x1 (Int.toNat a3) 0) < 0)) || (decide ((List.getD x1 (Int.toNat a3) 0) > 60000)) then
              some 4
            else
              aircraft_heights.l0 N x0 x1 k2 (w (a3 + 1))
          else
            none
        else
          none
      else
        none
    else
      aircraft_heights.l1 N x0 x1 N 0 := by kernel_rfl
theorem aircraft_heights.l0_clean (N : Nat) (x0 : ByteArray × Int × Int × Int × Int × Int × Int) (x1 : List Int) (k2 : Nat) (a3 : Int) : aircraft_heights.l0 N x0 x1 (k2 + 1) a3 =
    bif decide (a3 < (x1.length : Int)) then
      bif (decide (0 ≤ a3)) && (decide (a3 < (x1.length : Int))) then
        bif (decide ((List.getD x1 (Int.toNat a3) 0) < 0)) || (decide ((List.getD x1 (Int.toNat a3) 0) > 60000)) then
          some 4
        else
          aircraft_heights.l0 N x0 x1 k2 (w (a3 + 1))
      else
        none
    else
      aircraft_heights.l1 N x0 x1 N 0 := by
  rw [aircraft_heights.l0_succ]; simp only [taut3, taut6, cond_true]
theorem aircraft_heights.l1_cons (N : Nat) (x0 : ByteArray × Int × Int × Int × Int × Int × Int) (x1 : List Int) (k4 : Nat) {pre r} {x} (hl : x1 = pre ++ x :: r) (hb : x1.length < 4611686018427387904) : aircraft_heights.l1 N x0 x1 (k4 + 1) (pre.length : Int) =
    bif decide (x > x0.2.2.1) then
      some 20
    else
      aircraft_heights.l1 N x0 x1 k4 ((pre.length : Int) + 1) := by
  have hlen : x1.length = pre.length + 1 + r.length := by rw [hl]; simp; omega
  have e1 : decide ((pre.length : Int) < (x1.length : Int)) = true := by rw [decide_eq_true_iff]; omega
  have e2 : decide (0 ≤ (pre.length : Int)) = true := by rw [decide_eq_true_iff]; omega
  have e4 : w ((pre.length : Int) + 1) = (pre.length : Int) + 1 := w_next hl hb
  have e5 : List.take pre.length x1 = pre := by rw [hl]; simp
  have e6 : decide ((pre.length : Int) ≤ (x1.length : Int)) = true := by rw [decide_eq_true_iff]; omega
  have g0 : List.getD x1 pre.length 0 = x := by rw [hl]; exact getD_mid pre x r _
  rw [aircraft_heights.l1_succ]
  simp -implicitDefEqProofs only [Int.toNat_natCast, e1, e2, e4, e6, g0, e5, Bool.and_true, Bool.true_and, Bool.true_or, cond_true]
theorem aircraft_heights.l1_nil (N : Nat) (x0 : ByteArray × Int × Int × Int × Int × Int × Int) (x1 : List Int) (k4 : Nat) : aircraft_heights.l1 N x0 x1 (k4 + 1) (x1.length : Int) =
    some 0 := by
  have e1 : decide ((x1.length : Int) < (x1.length : Int)) = false := by rw [decide_eq_false_iff_not]; omega
  rw [aircraft_heights.l1_succ]
  simp -implicitDefEqProofs only [e1, cond_false]
theorem aircraft_heights.l0_cons (N : Nat) (x0 : ByteArray × Int × Int × Int × Int × Int × Int) (x1 : List Int) (k2 : Nat) {pre r} {x} (hl : x1 = pre ++ x :: r) (hb : x1.length < 4611686018427387904) : aircraft_heights.l0 N x0 x1 (k2 + 1) (pre.length : Int) =
    bif (decide (x < 0)) || (decide (x > 60000)) then
      some 4
    else
      aircraft_heights.l0 N x0 x1 k2 ((pre.length : Int) + 1) := by
  have hlen : x1.length = pre.length + 1 + r.length := by rw [hl]; simp; omega
  have e1 : decide ((pre.length : Int) < (x1.length : Int)) = true := by rw [decide_eq_true_iff]; omega
  have e2 : decide (0 ≤ (pre.length : Int)) = true := by rw [decide_eq_true_iff]; omega
  have e4 : w ((pre.length : Int) + 1) = (pre.length : Int) + 1 := w_next hl hb
  have e5 : List.take pre.length x1 = pre := by rw [hl]; simp
  have e6 : decide ((pre.length : Int) ≤ (x1.length : Int)) = true := by rw [decide_eq_true_iff]; omega
  have g0 : List.getD x1 pre.length 0 = x := by rw [hl]; exact getD_mid pre x r _
  rw [aircraft_heights.l0_clean]
  simp -implicitDefEqProofs only [Int.toNat_natCast, e1, e2, e4, e6, g0, e5, Bool.and_true, Bool.true_and, Bool.true_or, cond_true]
theorem aircraft_heights.l0_nil (N : Nat) (x0 : ByteArray × Int × Int × Int × Int × Int × Int) (x1 : List Int) (k2 : Nat) : aircraft_heights.l0 N x0 x1 (k2 + 1) (x1.length : Int) =
    aircraft_heights.l1 N x0 x1 N 0 := by
  have e1 : decide ((x1.length : Int) < (x1.length : Int)) = false := by rw [decide_eq_false_iff_not]; omega
  rw [aircraft_heights.l0_clean]
  simp -implicitDefEqProofs only [e1, cond_false]
theorem aircraft_heights.eq (N : Nat) (x0 : ByteArray × Int × Int × Int × Int × Int × Int) (x1 : List Int) : aircraft_heights.fn N (x0, x1) =
    (aircraft_Check.fn N x0).bind fun r1 =>
    bif !(r1 == 0) then
      some r1
    else
      aircraft_heights.l0 N x0 x1 N 0 := by kernel_rfl

/-! ### aircraft_Climb: skyway/aircraft.Climb -/
def aircraft_Climb.kp : List (Nat × List (Nat × Option (TypeId × Ty))) := []
noncomputable def aircraft_Climb.G (N : Nat) : List (Nat × Spec) := [(61, .pure (aircraft_heights.S N)), (62, .pure (num_DivUp.S N))]
noncomputable def aircraft_Climb.E (N : Nat) : Env := mkEnv (aircraft_Climb.G N) N tyTab aircraft_Climb.kp
noncomputable def aircraft_Climb.fn (N : Nat) (x : (ByteArray × Int × Int × Int × Int × Int × Int) × Int × Int) : Option (Int × Int) := evFn (aircraft_Climb.E N) Tryd.prog 3 Tryd.f41 false [.agg (.pair (.str) (.pair (.int .i64) (.pair (.int .i64) (.pair (.int .i64) (.pair (.int .i64) (.pair (.int .i64) (.int .i64))))))), .cell (.int .i64), .cell (.int .i64)] [.val (.cell (.int .i64)), .val (.cell (.int .i64))] x
noncomputable def aircraft_Climb.S (N : Nat) : PSpec := ⟨false, [.agg (.pair (.str) (.pair (.int .i64) (.pair (.int .i64) (.pair (.int .i64) (.pair (.int .i64) (.pair (.int .i64) (.int .i64))))))), .cell (.int .i64), .cell (.int .i64)], [.val (.cell (.int .i64)), .val (.cell (.int .i64))], aircraft_Climb.fn N⟩
theorem f41_enters : Enters Tryd.prog 41 := ⟨Tryd.f41, Tryd.func41, by kernel_rfl, by kernel_rfl⟩
theorem aircraft_Climb.tab (N : Nat) : TabOk Tryd.prog (aircraft_Climb.G N) := ⟨⟨aircraft_heights.enters, aircraft_heights.sound N⟩, ⟨num_DivUp.enters, num_DivUp.sound N⟩, trivial⟩
theorem aircraft_Climb.enters : Enters Tryd.prog 41 := f41_enters
theorem aircraft_Climb.sound (N : Nat) : Sound Tryd.prog 41 (aircraft_Climb.S N) := evFn_sound (specs_tab (aircraft_Climb.tab N)) (inls_tab (aircraft_Climb.tab N)) mixed 3 Tryd.func41 _ _ _
theorem aircraft_Climb.eq (N : Nat) (x0 : ByteArray × Int × Int × Int × Int × Int × Int) (x1 : Int) (x2 : Int) : aircraft_Climb.fn N (x0, x1, x2) =
    (aircraft_heights.fn N (x0, [x1, x2])).bind fun r1 =>
    bif !(r1 == 0) then
      some (0, r1)
    else
    bif decide (x2 ≥ x1) then
      (num_DivUp.fn N ((w (x2 - x1)), x0.2.2.2.1)).bind fun r2 =>
      some (r2.1, r2.2)
    else
      (num_DivUp.fn N ((w (x1 - x2)), x0.2.2.2.2.1)).bind fun r3 =>
      some (r3.1, r3.2) := by kernel_rfl

/-! ### effect_course_climb_1: (skyway/effect.course).climb$1 -/
def effect_course_climb_1.kp : List (Nat × List (Nat × Option (TypeId × Ty))) := []
noncomputable def effect_course_climb_1.G (N : Nat) : List (Nat × Spec) := []
noncomputable def effect_course_climb_1.E (N : Nat) : Env := mkEnv (effect_course_climb_1.G N) N tyTab effect_course_climb_1.kp
noncomputable def effect_course_climb_1.fn (N : Nat) (x : ((Int × (Int × Int) × Int) × Int × Int) × Int) : Option Int := evFn (effect_course_climb_1.E N) Tryd.prog 3 Tryd.f43 false [.agg (.pair (.pair (.int .i64) (.pair (.pair (.int .i64) (.int .i64)) (.int .i64))) (.pair (.int .i64) (.int .i64))), .cell (.int .i64)] [.val (.cell (.int .i64))] x
noncomputable def effect_course_climb_1.S (N : Nat) : PSpec := ⟨false, [.agg (.pair (.pair (.int .i64) (.pair (.pair (.int .i64) (.int .i64)) (.int .i64))) (.pair (.int .i64) (.int .i64))), .cell (.int .i64)], [.val (.cell (.int .i64))], effect_course_climb_1.fn N⟩
theorem f43_enters : Enters Tryd.prog 43 := ⟨Tryd.f43, Tryd.func43, by kernel_rfl, by kernel_rfl⟩
theorem effect_course_climb_1.tab (N : Nat) : TabOk Tryd.prog (effect_course_climb_1.G N) := trivial
theorem effect_course_climb_1.enters : Enters Tryd.prog 43 := f43_enters
theorem effect_course_climb_1.sound (N : Nat) : Sound Tryd.prog 43 (effect_course_climb_1.S N) := evFn_sound (specs_tab (effect_course_climb_1.tab N)) (inls_tab (effect_course_climb_1.tab N)) mixed 3 Tryd.func43 _ _ _
theorem effect_course_climb_1.eq (N : Nat) (x0 : (Int × (Int × Int) × Int) × Int × Int) (x1 : Int) : effect_course_climb_1.fn N (x0, x1) =
    some (w (x0.1.1 - x1)) := by kernel_rfl

/-! ### slices_Clone_TubeNode: slices.Clone[skyway/api.Tube,skyway/api.TubeNode] -/
def slices_Clone_TubeNode.kp : List (Nat × List (Nat × Option (TypeId × Ty))) := []
noncomputable def slices_Clone_TubeNode.G (N : Nat) : List (Nat × Spec) := []
noncomputable def slices_Clone_TubeNode.E (N : Nat) : Env := mkEnv (slices_Clone_TubeNode.G N) N tyTab slices_Clone_TubeNode.kp
noncomputable def slices_Clone_TubeNode.fn (N : Nat) (x : List ((Int × (Int × Int) × Int) × Int × Int)) : Option (List ((Int × (Int × Int) × Int) × Int × Int)) := evFn (slices_Clone_TubeNode.E N) Tryd.prog 3 Tryd.f28 false [.cell (.sl 39 (.pair (.pair (.int .i64) (.pair (.pair (.int .i64) (.int .i64)) (.int .i64))) (.pair (.int .i64) (.int .i64))))] [.own 39 (.pair (.pair (.int .i64) (.pair (.pair (.int .i64) (.int .i64)) (.int .i64))) (.pair (.int .i64) (.int .i64)))] x
noncomputable def slices_Clone_TubeNode.S (N : Nat) : PSpec := ⟨false, [.cell (.sl 39 (.pair (.pair (.int .i64) (.pair (.pair (.int .i64) (.int .i64)) (.int .i64))) (.pair (.int .i64) (.int .i64))))], [.own 39 (.pair (.pair (.int .i64) (.pair (.pair (.int .i64) (.int .i64)) (.int .i64))) (.pair (.int .i64) (.int .i64)))], slices_Clone_TubeNode.fn N⟩
theorem f28_enters : Enters Tryd.prog 28 := ⟨Tryd.f28, Tryd.func28, by kernel_rfl, by kernel_rfl⟩
theorem slices_Clone_TubeNode.tab (N : Nat) : TabOk Tryd.prog (slices_Clone_TubeNode.G N) := trivial
theorem slices_Clone_TubeNode.enters : Enters Tryd.prog 28 := f28_enters
theorem slices_Clone_TubeNode.sound (N : Nat) : Sound Tryd.prog 28 (slices_Clone_TubeNode.S N) := evFn_sound (specs_tab (slices_Clone_TubeNode.tab N)) (inls_tab (slices_Clone_TubeNode.tab N)) mixed 3 Tryd.func28 _ _ _
theorem slices_Clone_TubeNode.eq (N : Nat) (x0 : List ((Int × (Int × Int) × Int) × Int × Int)) : slices_Clone_TubeNode.fn N x0 =
    bif x0.isEmpty then
      agree (
        some []) (
        bif decide ((0 + x0.length) * 48 ≤ 140737488355328) && decide ((0 + x0.length) ≤ maxLen) then
          some x0
        else
          none)
    else
    bif decide ((0 + x0.length) * 48 ≤ 140737488355328) && decide ((0 + x0.length) ≤ maxLen) then
      some x0
    else
      none := by kernel_rfl
theorem slices_Clone_TubeNode.v (N : Nat) (x0 : List ((Int × (Int × Int) × Int) × Int × Int)) (h : x0.length * 48 ≤ 140737488355328) : slices_Clone_TubeNode.fn N x0 = some x0 := clone_v (B := 48) (slices_Clone_TubeNode.eq N x0) (by omega) h

/-! ### effect_down: skyway/effect.down -/
def effect_down.kp : List (Nat × List (Nat × Option (TypeId × Ty))) := []
noncomputable def effect_down.G (N : Nat) : List (Nat × Spec) := []
noncomputable def effect_down.E (N : Nat) : Env := mkEnv (effect_down.G N) N tyTab effect_down.kp
noncomputable def effect_down.fn (N : Nat) (x : Int × Int) : Option Int := evFn (effect_down.E N) Tryd.prog 3 Tryd.f45 false [.cell (.int .i64), .cell (.int .i64)] [.val (.cell (.int .i64))] x
noncomputable def effect_down.S (N : Nat) : PSpec := ⟨false, [.cell (.int .i64), .cell (.int .i64)], [.val (.cell (.int .i64))], effect_down.fn N⟩
theorem f45_enters : Enters Tryd.prog 45 := ⟨Tryd.f45, Tryd.func45, by kernel_rfl, by kernel_rfl⟩
theorem effect_down.tab (N : Nat) : TabOk Tryd.prog (effect_down.G N) := trivial
theorem effect_down.enters : Enters Tryd.prog 45 := f45_enters
theorem effect_down.sound (N : Nat) : Sound Tryd.prog 45 (effect_down.S N) := evFn_sound (specs_tab (effect_down.tab N)) (inls_tab (effect_down.tab N)) mixed 3 Tryd.func45 _ _ _
theorem effect_down.eq (N : Nat) (x0 : Int) (x1 : Int) : effect_down.fn N (x0, x1) =
    bif x1 != 0 then
      bif x1 != 0 then
        bif decide ((Int.tmod x0 x1) < 0) then
          some (w ((w (Int.tdiv x0 x1)) - 1))
        else
          some (w (Int.tdiv x0 x1))
      else
        none
    else
      none := by kernel_rfl

/-! ### plane_Sub: skyway/plane.Sub -/
def plane_Sub.kp : List (Nat × List (Nat × Option (TypeId × Ty))) := []
noncomputable def plane_Sub.G (N : Nat) : List (Nat × Spec) := []
noncomputable def plane_Sub.E (N : Nat) : Env := mkEnv (plane_Sub.G N) N tyTab plane_Sub.kp
noncomputable def plane_Sub.fn (N : Nat) (x : (Int × Int) × Int × Int) : Option (Int × Int) := evFn (plane_Sub.E N) Tryd.prog 3 Tryd.f54 false [.agg (.pair (.int .i64) (.int .i64)), .agg (.pair (.int .i64) (.int .i64))] [.val (.agg (.pair (.int .i64) (.int .i64)))] x
noncomputable def plane_Sub.S (N : Nat) : PSpec := ⟨false, [.agg (.pair (.int .i64) (.int .i64)), .agg (.pair (.int .i64) (.int .i64))], [.val (.agg (.pair (.int .i64) (.int .i64)))], plane_Sub.fn N⟩
theorem f54_enters : Enters Tryd.prog 54 := ⟨Tryd.f54, Tryd.func54, by kernel_rfl, by kernel_rfl⟩
theorem plane_Sub.tab (N : Nat) : TabOk Tryd.prog (plane_Sub.G N) := trivial
theorem plane_Sub.enters : Enters Tryd.prog 54 := f54_enters
theorem plane_Sub.sound (N : Nat) : Sound Tryd.prog 54 (plane_Sub.S N) := evFn_sound (specs_tab (plane_Sub.tab N)) (inls_tab (plane_Sub.tab N)) mixed 3 Tryd.func54 _ _ _
theorem plane_Sub.eq (N : Nat) (x0 : Int × Int) (x1 : Int × Int) : plane_Sub.fn N (x0, x1) =
    some ((w (x0.1 - x1.1)), (w (x0.2 - x1.2))) := by kernel_rfl

/-! ### plane_Dot: skyway/plane.Dot -/
def plane_Dot.kp : List (Nat × List (Nat × Option (TypeId × Ty))) := []
noncomputable def plane_Dot.G (N : Nat) : List (Nat × Spec) := []
noncomputable def plane_Dot.E (N : Nat) : Env := mkEnv (plane_Dot.G N) N tyTab plane_Dot.kp
noncomputable def plane_Dot.fn (N : Nat) (x : (Int × Int) × Int × Int) : Option Int := evFn (plane_Dot.E N) Tryd.prog 3 Tryd.f55 false [.agg (.pair (.int .i64) (.int .i64)), .agg (.pair (.int .i64) (.int .i64))] [.val (.cell (.int .i64))] x
noncomputable def plane_Dot.S (N : Nat) : PSpec := ⟨false, [.agg (.pair (.int .i64) (.int .i64)), .agg (.pair (.int .i64) (.int .i64))], [.val (.cell (.int .i64))], plane_Dot.fn N⟩
theorem f55_enters : Enters Tryd.prog 55 := ⟨Tryd.f55, Tryd.func55, by kernel_rfl, by kernel_rfl⟩
theorem plane_Dot.tab (N : Nat) : TabOk Tryd.prog (plane_Dot.G N) := trivial
theorem plane_Dot.enters : Enters Tryd.prog 55 := f55_enters
theorem plane_Dot.sound (N : Nat) : Sound Tryd.prog 55 (plane_Dot.S N) := evFn_sound (specs_tab (plane_Dot.tab N)) (inls_tab (plane_Dot.tab N)) mixed 3 Tryd.func55 _ _ _
theorem plane_Dot.eq (N : Nat) (x0 : Int × Int) (x1 : Int × Int) : plane_Dot.fn N (x0, x1) =
    some (w ((w (x0.1 * x1.1)) + (w (x0.2 * x1.2)))) := by kernel_rfl

/-! ### plane_Square: skyway/plane.Square -/
def plane_Square.kp : List (Nat × List (Nat × Option (TypeId × Ty))) := []
noncomputable def plane_Square.G (N : Nat) : List (Nat × Spec) := [(54, .pure (plane_Sub.S N)), (55, .pure (plane_Dot.S N))]
noncomputable def plane_Square.E (N : Nat) : Env := mkEnv (plane_Square.G N) N tyTab plane_Square.kp
noncomputable def plane_Square.fn (N : Nat) (x : (Int × Int) × Int × Int) : Option Int := evFn (plane_Square.E N) Tryd.prog 3 Tryd.f34 false [.agg (.pair (.int .i64) (.int .i64)), .agg (.pair (.int .i64) (.int .i64))] [.val (.cell (.int .i64))] x
noncomputable def plane_Square.S (N : Nat) : PSpec := ⟨false, [.agg (.pair (.int .i64) (.int .i64)), .agg (.pair (.int .i64) (.int .i64))], [.val (.cell (.int .i64))], plane_Square.fn N⟩
theorem f34_enters : Enters Tryd.prog 34 := ⟨Tryd.f34, Tryd.func34, by kernel_rfl, by kernel_rfl⟩
theorem plane_Square.tab (N : Nat) : TabOk Tryd.prog (plane_Square.G N) := ⟨⟨plane_Sub.enters, plane_Sub.sound N⟩, ⟨plane_Dot.enters, plane_Dot.sound N⟩, trivial⟩
theorem plane_Square.enters : Enters Tryd.prog 34 := f34_enters
theorem plane_Square.sound (N : Nat) : Sound Tryd.prog 34 (plane_Square.S N) := evFn_sound (specs_tab (plane_Square.tab N)) (inls_tab (plane_Square.tab N)) mixed 3 Tryd.func34 _ _ _
theorem plane_Square.eq (N : Nat) (x0 : Int × Int) (x1 : Int × Int) : plane_Square.fn N (x0, x1) =
    (plane_Sub.fn N (x0, x1)).bind fun r1 =>
    (plane_Dot.fn N (r1, r1)).bind fun r2 =>
    some r2 := by kernel_rfl

/-! ### num_Root: skyway/num.Root -/
theorem f56_enters : Enters Tryd.prog 56 := ⟨Tryd.f56, Tryd.func56, by kernel_rfl, by kernel_rfl⟩
def num_Root.kp : List (Nat × List (Nat × Option (TypeId × Ty))) := [(4, [(0, none), (3, none)]), (6, [(0, none), (3, none)])]
noncomputable def num_Root.G (N : Nat) : List (Nat × Spec) := [(56, .mac sqrtM)]
noncomputable def num_Root.E (N : Nat) : Env := mkEnv (num_Root.G N) N tyTab num_Root.kp
noncomputable def num_Root.fn (N : Nat) (x : Int) : Option Int := evFn (num_Root.E N) Tryd.prog 3 Tryd.f35 false [.cell (.int .i64)] [.val (.cell (.int .i64))] x
noncomputable def num_Root.S (N : Nat) : PSpec := ⟨false, [.cell (.int .i64)], [.val (.cell (.int .i64))], num_Root.fn N⟩
theorem f35_enters : Enters Tryd.prog 35 := ⟨Tryd.f35, Tryd.func35, by kernel_rfl, by kernel_rfl⟩
theorem num_Root.tab (N : Nat) : TabOk Tryd.prog (num_Root.G N) := ⟨.inl ⟨sqrt_enters, sqrt_sound⟩, trivial⟩
theorem num_Root.enters : Enters Tryd.prog 35 := f35_enters
theorem num_Root.sound (N : Nat) : Sound Tryd.prog 35 (num_Root.S N) := evFn_sound (specs_tab (num_Root.tab N)) (inls_tab (num_Root.tab N)) mixed 3 Tryd.func35 _ _ _
noncomputable def num_Root.cd (N : Nat) (p : List Nat) : St → (Ex → St → Option Int) → Option Int := ev (num_Root.E N) Tryd.prog (callD (num_Root.E N) Tryd.prog 3) 0 (codeAt (bodyOf Tryd.f35) p)
noncomputable def num_Root.fin : Ex → St → Option Int := endK Tryd.prog Tryd.f35 [.val (.cell (.int .i64))]
noncomputable def num_Root.l0 (N : Nat) (x0 : Int) (k1 : Nat) (a2 : Int) : Option Int :=
  loopN (norm ((num_Root.E N).keep 4) 0) (num_Root.cd N [1, 1, 1, 0, 0, 0]) k1
  ⟨[.sc (.int .i64 x0), .any, .any, .sc (.int .i64 a2), .any, .any, .any, .any, .any, .any, .any, .any, .any, .any, .any, .any, .any, .any, .any, .any, .any, .any, .any, .any, .any, .any, .any], []⟩
  (blockK 0 (seqK (num_Root.cd N [1, 1, 1, 1]) num_Root.fin))
noncomputable def num_Root.l1 (N : Nat) (x0 : Int) (k3 : Nat) (a4 : Int) : Option Int :=
  loopN (norm ((num_Root.E N).keep 6) 0) (num_Root.cd N [1, 1, 1, 1, 0, 0, 0]) k3
  ⟨[.sc (.int .i64 x0), .any, .any, .sc (.int .i64 a4), .any, .any, .any, .any, .any, .any, .any, .any, .any, .any, .any, .any, .any, .any, .any, .any, .any, .any, .any, .any, .any, .any, .any], []⟩
  (blockK 2 (seqK (num_Root.cd N [1, 1, 1, 1, 1]) num_Root.fin))
theorem num_Root.l1_zero (N : Nat) (x0 : Int) (a4 : Int) : num_Root.l1 N x0 0 a4 = none := by kernel_rfl
theorem num_Root.l1_succ (N : Nat) (x0 : Int) (k3 : Nat) (a4 : Int) : num_Root.l1 N x0 (k3 + 1) a4 =
    bif (w (a4 + 1)) != 0 then
      bif decide ((w (a4 + 1)) ≤ (w (Int.tdiv x0 (w (a4 + 1))))) then
        num_Root.l1 N x0 k3 (w (a4 + 1))
      else
        some a4
    else
      none := by kernel_rfl
theorem num_Root.l0_zero (N : Nat) (x0 : Int) (a2 : Int) : num_Root.l0 N x0 0 a2 = none := by kernel_rfl
theorem num_Root.l0_succ (N : Nat) (x0 : Int) (k1 : Nat) (a2 : Int) : num_Root.l0 N x0 (k1 + 1) a2 =
    bif a2 != 0 then
      bif decide (a2 > (w (Int.tdiv x0 a2))) then
        num_Root.l0 N x0 k1 (w (a2 - 1))
      else
        num_Root.l1 N x0 N a2
    else
      none := by kernel_rfl
theorem num_Root.eq (N : Nat) (x0 : Int) : num_Root.fn N x0 =
    bif decide (x0 ≤ 0) then
      some 0
    else
    bif (fsq (floatOfInt .f64 x0)).isSome then
      bif (floatToIntVal .f64 ((fsq (floatOfInt .f64 x0)).getD 0) .i64).isSome then
        num_Root.l0 N x0 N ((floatToIntVal .f64 ((fsq (floatOfInt .f64 x0)).getD 0) .i64).getD 0)
      else
        none
    else
      none := by kernel_rfl

/-! ### plane_Distance: skyway/plane.Distance -/
def plane_Distance.kp : List (Nat × List (Nat × Option (TypeId × Ty))) := []
noncomputable def plane_Distance.G (N : Nat) : List (Nat × Spec) := [(34, .pure (plane_Square.S N)), (35, .pure (num_Root.S N))]
noncomputable def plane_Distance.E (N : Nat) : Env := mkEnv (plane_Distance.G N) N tyTab plane_Distance.kp
noncomputable def plane_Distance.fn (N : Nat) (x : (Int × Int) × Int × Int) : Option (Int × Int) := evFn (plane_Distance.E N) Tryd.prog 3 Tryd.f20 false [.agg (.pair (.int .i64) (.int .i64)), .agg (.pair (.int .i64) (.int .i64))] [.val (.cell (.int .i64)), .val (.cell (.int .i64))] x
noncomputable def plane_Distance.S (N : Nat) : PSpec := ⟨false, [.agg (.pair (.int .i64) (.int .i64)), .agg (.pair (.int .i64) (.int .i64))], [.val (.cell (.int .i64)), .val (.cell (.int .i64))], plane_Distance.fn N⟩
theorem f20_enters : Enters Tryd.prog 20 := ⟨Tryd.f20, Tryd.func20, by kernel_rfl, by kernel_rfl⟩
theorem plane_Distance.tab (N : Nat) : TabOk Tryd.prog (plane_Distance.G N) := ⟨⟨plane_Square.enters, plane_Square.sound N⟩, ⟨num_Root.enters, num_Root.sound N⟩, trivial⟩
theorem plane_Distance.enters : Enters Tryd.prog 20 := f20_enters
theorem plane_Distance.sound (N : Nat) : Sound Tryd.prog 20 (plane_Distance.S N) := evFn_sound (specs_tab (plane_Distance.tab N)) (inls_tab (plane_Distance.tab N)) mixed 3 Tryd.func20 _ _ _
theorem plane_Distance.eq (N : Nat) (x0 : Int × Int) (x1 : Int × Int) : plane_Distance.fn N (x0, x1) =
    (plane_Square.fn N (x0, x1)).bind fun r1 =>
    (num_Root.fn N r1).bind fun r2 =>
    bif decide ((w (r2 * r2)) < r1) then
      some (r2, (w (r2 + 1)))
    else
      some (r2, r2) := by kernel_rfl

/-! ### effect_course_speed: (skyway/effect.course).speed -/
def effect_course_speed.kp : List (Nat × List (Nat × Option (TypeId × Ty))) := []
noncomputable def effect_course_speed.G (N : Nat) : List (Nat × Spec) := [(20, .pure (plane_Distance.S N))]
noncomputable def effect_course_speed.E (N : Nat) : Env := mkEnv (effect_course_speed.G N) N tyTab effect_course_speed.kp
noncomputable def effect_course_speed.fn (N : Nat) (x : ((Int × (Int × Int) × Int) × Int × Int) × List ((Int × (Int × Int) × Int) × Int × Int) × List ((Int × (Int × Int) × Int) × Int × Int)) : Option Int := evFn (effect_course_speed.E N) Tryd.prog 3 Tryd.f46 false [.agg (.pair (.pair (.pair (.int .i64) (.pair (.pair (.int .i64) (.int .i64)) (.int .i64))) (.pair (.int .i64) (.int .i64))) (.pair (.sl 39 (.pair (.pair (.int .i64) (.pair (.pair (.int .i64) (.int .i64)) (.int .i64))) (.pair (.int .i64) (.int .i64)))) (.sl 39 (.pair (.pair (.int .i64) (.pair (.pair (.int .i64) (.int .i64)) (.int .i64))) (.pair (.int .i64) (.int .i64))))))] [.val (.cell (.int .i64))] x
noncomputable def effect_course_speed.S (N : Nat) : PSpec := ⟨false, [.agg (.pair (.pair (.pair (.int .i64) (.pair (.pair (.int .i64) (.int .i64)) (.int .i64))) (.pair (.int .i64) (.int .i64))) (.pair (.sl 39 (.pair (.pair (.int .i64) (.pair (.pair (.int .i64) (.int .i64)) (.int .i64))) (.pair (.int .i64) (.int .i64)))) (.sl 39 (.pair (.pair (.int .i64) (.pair (.pair (.int .i64) (.int .i64)) (.int .i64))) (.pair (.int .i64) (.int .i64))))))], [.val (.cell (.int .i64))], effect_course_speed.fn N⟩
theorem f46_enters : Enters Tryd.prog 46 := ⟨Tryd.f46, Tryd.func46, by kernel_rfl, by kernel_rfl⟩
theorem effect_course_speed.tab (N : Nat) : TabOk Tryd.prog (effect_course_speed.G N) := ⟨⟨plane_Distance.enters, plane_Distance.sound N⟩, trivial⟩
theorem effect_course_speed.enters : Enters Tryd.prog 46 := f46_enters
theorem effect_course_speed.sound (N : Nat) : Sound Tryd.prog 46 (effect_course_speed.S N) := evFn_sound (specs_tab (effect_course_speed.tab N)) (inls_tab (effect_course_speed.tab N)) mixed 3 Tryd.func46 _ _ _
theorem effect_course_speed.eq (N : Nat) (x0 : ((Int × (Int × Int) × Int) × Int × Int) × List ((Int × (Int × Int) × Int) × Int × Int) × List ((Int × (Int × Int) × Int) × Int × Int)) : effect_course_speed.fn N x0 =
    bif decide (0 < (x0.2.2.length : Int)) then
      (plane_Distance.fn N (x0.1.1.2.1, (((List.getD x0.2.2 0 ((0, ((0, 0), 0)), (0, 0))).1).2).1)).bind fun r1 =>
      bif decide (0 < (x0.2.2.length : Int)) then
        bif (w ((((List.getD x0.2.2 0 ((0, ((0, 0), 0)), (0, 0))).1).1) - x0.1.1.1)) != 0 then
          some (w (Int.tdiv r1.1 (w ((((List.getD x0.2.2 0 ((0, ((0, 0), 0)), (0, 0))).1).1) - x0.1.1.1))))
        else
          none
      else
        none
    else
      none := by kernel_rfl

/-! ### angle_Norm: skyway/angle.Norm -/
def angle_Norm.kp : List (Nat × List (Nat × Option (TypeId × Ty))) := []
noncomputable def angle_Norm.G (N : Nat) : List (Nat × Spec) := []
noncomputable def angle_Norm.E (N : Nat) : Env := mkEnv (angle_Norm.G N) N tyTab angle_Norm.kp
noncomputable def angle_Norm.fn (N : Nat) (x : Int) : Option Int := evFn (angle_Norm.E N) Tryd.prog 3 Tryd.f59 false [.cell (.int .i64)] [.val (.cell (.int .i64))] x
noncomputable def angle_Norm.S (N : Nat) : PSpec := ⟨false, [.cell (.int .i64)], [.val (.cell (.int .i64))], angle_Norm.fn N⟩
theorem f59_enters : Enters Tryd.prog 59 := ⟨Tryd.f59, Tryd.func59, by kernel_rfl, by kernel_rfl⟩
theorem angle_Norm.tab (N : Nat) : TabOk Tryd.prog (angle_Norm.G N) := trivial
theorem angle_Norm.enters : Enters Tryd.prog 59 := f59_enters
theorem angle_Norm.sound (N : Nat) : Sound Tryd.prog 59 (angle_Norm.S N) := evFn_sound (specs_tab (angle_Norm.tab N)) (inls_tab (angle_Norm.tab N)) mixed 3 Tryd.func59 _ _ _
theorem angle_Norm.eq (N : Nat) (x0 : Int) : angle_Norm.fn N x0 =
    some (bandI .i64 x0 4095) := by kernel_rfl

/-! ### math_archSin: math.archSin -/
def math_archSin.kp : List (Nat × List (Nat × Option (TypeId × Ty))) := []
noncomputable def math_archSin.G (N : Nat) : List (Nat × Spec) := []
noncomputable def math_archSin.E (N : Nat) : Env := mkEnv (math_archSin.G N) N tyTab math_archSin.kp
noncomputable def math_archSin.fn (N : Nat) (x : Nat) : Option Nat := evFn (math_archSin.E N) Tryd.prog 3 Tryd.f69 false [.cell (.flt)] [.val (.cell (.flt))] x
noncomputable def math_archSin.S (N : Nat) : PSpec := ⟨false, [.cell (.flt)], [.val (.cell (.flt))], math_archSin.fn N⟩
theorem f69_enters : Enters Tryd.prog 69 := ⟨Tryd.f69, Tryd.func69, by kernel_rfl, by kernel_rfl⟩
theorem math_archSin.tab (N : Nat) : TabOk Tryd.prog (math_archSin.G N) := trivial
theorem math_archSin.enters : Enters Tryd.prog 69 := f69_enters
theorem math_archSin.sound (N : Nat) : Sound Tryd.prog 69 (math_archSin.S N) := evFn_sound (specs_tab (math_archSin.tab N)) (inls_tab (math_archSin.tab N)) mixed 3 Tryd.func69 _ _ _
theorem math_archSin.eq (N : Nat) (x0 : Nat) : math_archSin.fn N x0 =
    none := by kernel_rfl

/-! ### math_IsNaN: math.IsNaN -/
def math_IsNaN.kp : List (Nat × List (Nat × Option (TypeId × Ty))) := []
noncomputable def math_IsNaN.G (N : Nat) : List (Nat × Spec) := []
noncomputable def math_IsNaN.E (N : Nat) : Env := mkEnv (math_IsNaN.G N) N tyTab math_IsNaN.kp
noncomputable def math_IsNaN.fn (N : Nat) (x : Nat) : Option Bool := evFn (math_IsNaN.E N) Tryd.prog 3 Tryd.f72 false [.cell (.flt)] [.val (.cell (.bool))] x
noncomputable def math_IsNaN.S (N : Nat) : PSpec := ⟨false, [.cell (.flt)], [.val (.cell (.bool))], math_IsNaN.fn N⟩
theorem f72_enters : Enters Tryd.prog 72 := ⟨Tryd.f72, Tryd.func72, by kernel_rfl, by kernel_rfl⟩
theorem math_IsNaN.tab (N : Nat) : TabOk Tryd.prog (math_IsNaN.G N) := trivial
theorem math_IsNaN.enters : Enters Tryd.prog 72 := f72_enters
theorem math_IsNaN.sound (N : Nat) : Sound Tryd.prog 72 (math_IsNaN.S N) := evFn_sound (specs_tab (math_IsNaN.tab N)) (inls_tab (math_IsNaN.tab N)) mixed 3 Tryd.func72 _ _ _
theorem math_IsNaN.eq (N : Nat) (x0 : Nat) : math_IsNaN.fn N x0 =
    some (!(feql .f64 x0 x0)) := by kernel_rfl

/-! ### math_Abs: math.Abs -/
def math_Abs.kp : List (Nat × List (Nat × Option (TypeId × Ty))) := []
noncomputable def math_Abs.G (N : Nat) : List (Nat × Spec) := [(67, .mac bitsM), (68, .mac fromM)]
noncomputable def math_Abs.E (N : Nat) : Env := mkEnv (math_Abs.G N) N tyTab math_Abs.kp
noncomputable def math_Abs.fn (N : Nat) (x : Nat) : Option Nat := evFn (math_Abs.E N) Tryd.prog 3 Tryd.f77 false [.cell (.flt)] [.val (.cell (.flt))] x
noncomputable def math_Abs.S (N : Nat) : PSpec := ⟨false, [.cell (.flt)], [.val (.cell (.flt))], math_Abs.fn N⟩
theorem f77_enters : Enters Tryd.prog 77 := ⟨Tryd.f77, Tryd.func77, by kernel_rfl, by kernel_rfl⟩
theorem math_Abs.tab (N : Nat) : TabOk Tryd.prog (math_Abs.G N) := ⟨.inr bits_ext, .inr from_ext, trivial⟩
theorem math_Abs.enters : Enters Tryd.prog 77 := f77_enters
theorem math_Abs.sound (N : Nat) : Sound Tryd.prog 77 (math_Abs.S N) := evFn_sound (specs_tab (math_Abs.tab N)) (inls_tab (math_Abs.tab N)) mixed 3 Tryd.func77 _ _ _
theorem math_Abs.eq (N : Nat) (x0 : Nat) : math_Abs.fn N x0 =
    some (Int.toNat (bandNotI .u64 ((x0 : Nat) : Int) 9223372036854775808)) := by kernel_rfl

/-! ### math_IsInf: math.IsInf -/
def math_IsInf.kp : List (Nat × List (Nat × Option (TypeId × Ty))) := []
noncomputable def math_IsInf.G (N : Nat) : List (Nat × Spec) := [(77, .pure (math_Abs.S N))]
noncomputable def math_IsInf.E (N : Nat) : Env := mkEnv (math_IsInf.G N) N tyTab math_IsInf.kp
noncomputable def math_IsInf.fn (N : Nat) (x : Nat × Int) : Option Bool := evFn (math_IsInf.E N) Tryd.prog 3 Tryd.f73 false [.cell (.flt), .cell (.int .i64)] [.val (.cell (.bool))] x
noncomputable def math_IsInf.S (N : Nat) : PSpec := ⟨false, [.cell (.flt), .cell (.int .i64)], [.val (.cell (.bool))], math_IsInf.fn N⟩
theorem f73_enters : Enters Tryd.prog 73 := ⟨Tryd.f73, Tryd.func73, by kernel_rfl, by kernel_rfl⟩
theorem math_IsInf.tab (N : Nat) : TabOk Tryd.prog (math_IsInf.G N) := ⟨⟨math_Abs.enters, math_Abs.sound N⟩, trivial⟩
theorem math_IsInf.enters : Enters Tryd.prog 73 := f73_enters
theorem math_IsInf.sound (N : Nat) : Sound Tryd.prog 73 (math_IsInf.S N) := evFn_sound (specs_tab (math_IsInf.tab N)) (inls_tab (math_IsInf.tab N)) mixed 3 Tryd.func73 _ _ _
theorem math_IsInf.eq (N : Nat) (x0 : Nat) (x1 : Int) : math_IsInf.fn N (x0, x1) =
    bif x1 == 0 then
      (math_Abs.fn N x0).bind fun r1 =>
      some (fgtr .f64 r1 9218868437227405311)
    else
    bif decide (x1 < 0) then
      some (fgtr .f64 (fneg .f64 x0) 9218868437227405311)
    else
      some (fgtr .f64 x0 9218868437227405311) := by kernel_rfl

/-! ### math_NaN: math.NaN -/
def math_NaN.kp : List (Nat × List (Nat × Option (TypeId × Ty))) := []
noncomputable def math_NaN.G (N : Nat) : List (Nat × Spec) := [(68, .mac fromM)]
noncomputable def math_NaN.E (N : Nat) : Env := mkEnv (math_NaN.G N) N tyTab math_NaN.kp
noncomputable def math_NaN.fn (N : Nat) (x : Unit) : Option Nat := evFn (math_NaN.E N) Tryd.prog 3 Tryd.f74 false [] [.val (.cell (.flt))] x
noncomputable def math_NaN.S (N : Nat) : PSpec := ⟨false, [], [.val (.cell (.flt))], math_NaN.fn N⟩
theorem f74_enters : Enters Tryd.prog 74 := ⟨Tryd.f74, Tryd.func74, by kernel_rfl, by kernel_rfl⟩
theorem math_NaN.tab (N : Nat) : TabOk Tryd.prog (math_NaN.G N) := ⟨.inr from_ext, trivial⟩
theorem math_NaN.enters : Enters Tryd.prog 74 := f74_enters
theorem math_NaN.sound (N : Nat) : Sound Tryd.prog 74 (math_NaN.S N) := evFn_sound (specs_tab (math_NaN.tab N)) (inls_tab (math_NaN.tab N)) mixed 3 Tryd.func74 _ _ _
theorem math_NaN.eq (N : Nat) : math_NaN.fn N () =
    some (Int.toNat 9221120237041090561) := by kernel_rfl

/-! ### bits_Mul64: math/bits.Mul64 -/
def bits_Mul64.kp : List (Nat × List (Nat × Option (TypeId × Ty))) := []
noncomputable def bits_Mul64.G (N : Nat) : List (Nat × Spec) := []
noncomputable def bits_Mul64.E (N : Nat) : Env := mkEnv (bits_Mul64.G N) N tyTab bits_Mul64.kp
noncomputable def bits_Mul64.fn (N : Nat) (x : Int × Int) : Option (Int × Int) := evFn (bits_Mul64.E N) Tryd.prog 3 Tryd.f78 false [.cell (.int .u64), .cell (.int .u64)] [.val (.cell (.int .u64)), .val (.cell (.int .u64))] x
noncomputable def bits_Mul64.S (N : Nat) : PSpec := ⟨false, [.cell (.int .u64), .cell (.int .u64)], [.val (.cell (.int .u64)), .val (.cell (.int .u64))], bits_Mul64.fn N⟩
theorem f78_enters : Enters Tryd.prog 78 := ⟨Tryd.f78, Tryd.func78, by kernel_rfl, by kernel_rfl⟩
theorem bits_Mul64.tab (N : Nat) : TabOk Tryd.prog (bits_Mul64.G N) := trivial
theorem bits_Mul64.enters : Enters Tryd.prog 78 := f78_enters
theorem bits_Mul64.sound (N : Nat) : Sound Tryd.prog 78 (bits_Mul64.S N) := evFn_sound (specs_tab (bits_Mul64.tab N)) (inls_tab (bits_Mul64.tab N)) mixed 3 Tryd.func78 _ _ _
theorem bits_Mul64.eq (N : Nat) (x0 : Int) (x1 : Int) : bits_Mul64.fn N (x0, x1) =
    some ((IntKind.wrap .u64 ((IntKind.wrap .u64 ((IntKind.wrap .u64 ((shrI .u64 x0 32) * (shrI .u64 x1 32))) + (shrI .u64 (IntKind.wrap .u64 ((IntKind.wrap .u64 ((shrI .u64 x0 32) * (bandI .u64 x1 4294967295))) + (shrI .u64 (IntKind.wrap .u64 ((bandI .u64 x0 4294967295) * (bandI .u64 x1 4294967295))) 32))) 32))) + (shrI .u64 (IntKind.wrap .u64 ((bandI .u64 (IntKind.wrap .u64 ((IntKind.wrap .u64 ((shrI .u64 x0 32) * (bandI .u64 x1 4294967295))) + (shrI .u64 (IntKind.wrap .u64 ((bandI .u64 x0 4294967295) * (bandI .u64 x1 4294967295))) 32))) 4294967295) + (IntKind.wrap .u64 ((bandI .u64 x0 4294967295) * (shrI .u64 x1 32))))) 32))), (IntKind.wrap .u64 (x0 * x1))) := by kernel_rfl

/-! ### bits_Len64: math/bits.Len64 -/
def bits_Len64.kp : List (Nat × List (Nat × Option (TypeId × Ty))) := [(1000004, [(0, none), (2, none)]), (1000007, [(0, none), (2, none)])]
noncomputable def bits_Len64.G (N : Nat) : List (Nat × Spec) := []
noncomputable def bits_Len64.E (N : Nat) : Env := mkEnv (bits_Len64.G N) N tyTab bits_Len64.kp
noncomputable def bits_Len64.fn (N : Nat) (x : Int) : Option Int := evFn (bits_Len64.E N) Tryd.prog 3 Tryd.f81 false [.cell (.int .u64)] [.val (.cell (.int .i64))] x
noncomputable def bits_Len64.S (N : Nat) : PSpec := ⟨false, [.cell (.int .u64)], [.val (.cell (.int .i64))], bits_Len64.fn N⟩
theorem f81_enters : Enters Tryd.prog 81 := ⟨Tryd.f81, Tryd.func81, by kernel_rfl, by kernel_rfl⟩
theorem bits_Len64.tab (N : Nat) : TabOk Tryd.prog (bits_Len64.G N) := trivial
theorem bits_Len64.enters : Enters Tryd.prog 81 := f81_enters
theorem bits_Len64.sound (N : Nat) : Sound Tryd.prog 81 (bits_Len64.S N) := evFn_sound (specs_tab (bits_Len64.tab N)) (inls_tab (bits_Len64.tab N)) mixed 3 Tryd.func81 _ _ _
noncomputable def bits_Len64.cd (N : Nat) (p : List Nat) : St → (Ex → St → Option Int) → Option Int := ev (bits_Len64.E N) Tryd.prog (callD (bits_Len64.E N) Tryd.prog 3) 0 (codeAt (bodyOf Tryd.f81) p)
noncomputable def bits_Len64.fin : Ex → St → Option Int := endK Tryd.prog Tryd.f81 [.val (.cell (.int .i64))]
noncomputable def bits_Len64.j0 (N : Nat) (a1 : Int) (a2 : Int) : Option Int :=
  fuelK N (region (bits_Len64.E N) Tryd.prog (callD (bits_Len64.E N) Tryd.prog 3) (opsAt (codeAt (bodyOf Tryd.f81) [1, 1, 0, 0])) false
  ⟨[.sc (.int .u64 a1), .any, .sc (.int .i64 a2), .any, .any, .any, .any, .any, .any, .any, .any, .any, .any, .any, .any, .any, .any, .any, .any, .any, .any, .any, .any, .any, .any], []⟩
  (fun S => (seqK (bits_Len64.cd N [1, 1, 0, 1]) (seqK (bits_Len64.cd N [1, 1, 1]) bits_Len64.fin)) .normal S))
noncomputable def bits_Len64.j1 (N : Nat) (a3 : Int) (a4 : Int) : Option Int :=
  fuelK N (region (bits_Len64.E N) Tryd.prog (callD (bits_Len64.E N) Tryd.prog 3) (opsAt (codeAt (bodyOf Tryd.f81) [1, 1, 1, 0, 0])) false
  ⟨[.sc (.int .u64 a3), .any, .sc (.int .i64 a4), .any, .any, .any, .any, .any, .any, .any, .any, .any, .any, .any, .any, .any, .any, .any, .any, .any, .any, .any, .any, .any, .any], []⟩
  (fun S => (seqK (bits_Len64.cd N [1, 1, 1, 0, 1]) (seqK (bits_Len64.cd N [1, 1, 1, 1]) bits_Len64.fin)) .normal S))
theorem bits_Len64.j1_eq (N : Nat) (a3 : Int) (a4 : Int) {M : Nat} (hM : N = M + 1) : bits_Len64.j1 N a3 a4 =
    bif decide (a3 ≥ 256) then
      bif (decide (0 ≤ (IntKind.wrap .u8 (shrI .u64 a3 8)))) && (decide ((IntKind.wrap .u8 (shrI .u64 a3 8)) < ((⟨#[0, 1, 2, 2, 3, 3, 3, 3, 4, 4, 4, 4, 4, 4, 4, 4, 5, 5, 5, 5, 5, 5, 5, 5, 5, 5, 5, 5, 5, 5, 5, 5, 6, 6, 6, 6, 6, 6, 6, 6, 6, 6, 6, 6, 6, 6, 6, 6, 6, 6, 6, 6, 6, 6, 6, 6, 6, 6, 6, 6, 6, 6, 6, 6, 7, 7, 7, 7, 7, 7, 7, 7, 7, 7, 7, 7, 7, 7, 7, 7, 7, 7, 7, 7, 7, 7, 7, 7, 7, 7, 7, 7, 7, 7, 7, 7, 7, 7, 7, 7, 7, 7, 7, 7, 7, 7, 7, 7, 7, 7, 7, 7, 7, 7, 7, 7, 7, 7, 7, 7, 7, 7, 7, 7, 7, 7, 7, 7, 8, 8, 8, 8, 8, 8, 8, 8, 8, 8, 8, 8, 8, 8, 8, 8, 8, 8, 8, 8, 8, 8, 8, 8, 8, 8, 8, 8, 8, 8, 8, 8, 8, 8, 8, 8, 8, 8, 8, 8, 8, 8, 8, 8, 8, 8, 8, 8, 8, 8, 8, 8, 8, 8, 8, 8, 8, 8, 8, 8, 8, 8, 8, 8, 8, 8, 8, 8, 8, 8, 8, 8, 8, 8, 8, 8, 8, 8, 8, 8, 8, 8, 8, 8, 8, 8, 8, 8, 8, 8, 8, 8, 8, 8, 8, 8, 8, 8, 8, 8, 8, 8, 8, 8, 8, 8, 8, 8, 8, 8, 8, 8, 8, 8, 8, 8, 8, 8, 8, 8, 8, 8, 8, 8, 8, 8, 8, 8]⟩ : ByteArray).size : Int))) then
        some (w ((w (a4 + 8)) + (w ((((ByteArray.data (⟨#[0, 1, 2, 2, 3, 3, 3, 3, 4, 4, 4, 4, 4, 4, 4, 4, 5, 5, 5, 5, 5, 5, 5, 5, 5, 5, 5, 5, 5, 5, 5, 5, 6, 6, 6, 6, 6, 6, 6, 6, 6, 6, 6, 6, 6, 6, 6, 6, 6, 6, 6, 6, 6, 6, 6, 6, 6, 6, 6, 6, 6, 6, 6, 6, 7, 7, 7, 7, 7, 7, 7, 7, 7, 7, 7, 7, 7, 7, 7, 7, 7, 7, 7, 7, 7, 7, 7, 7, 7, 7, 7, 7, 7, 7, 7, 7, 7, 7, 7, 7, 7, 7, 7, 7, 7, 7, 7, 7, 7, 7, 7, 7, 7, 7, 7, 7, 7, 7, 7, 7, 7, 7, 7, 7, 7, 7, 7, 7, 8, 8, 8, 8, 8, 8, 8, 8, 8, 8, 8, 8, 8, 8, 8, 8, 8, 8, 8, 8, 8, 8, 8, 8, 8, 8, 8, 8, 8, 8, 8, 8, 8, 8, 8, 8, 8, 8, 8, 8, 8, 8, 8, 8, 8, 8, 8, 8, 8, 8, 8, 8, 8, 8, 8, 8, 8, 8, 8, 8, 8, 8, 8, 8, 8, 8, 8, 8, 8, 8, 8, 8, 8, 8, 8, 8, 8, 8, 8, 8, 8, 8, 8, 8, 8, 8, 8, 8, 8, 8, 8, 8, 8, 8, 8, 8, 8, 8, 8, 8, 8, 8, 8, 8, 8, 8, 8, 8, 8, 8, 8, 8, 8, 8, 8, 8, 8, 8, 8, 8, 8, 8, 8, 8, 8, 8, 8, 8]⟩ : ByteArray)).getD (Int.toNat (IntKind.wrap .u8 (shrI .u64 a3 8))) 0).toNat : Nat) : Int))))
      else
        none
    else
    bif (decide (0 ≤ (IntKind.wrap .u8 a3))) && (decide ((IntKind.wrap .u8 a3) < ((⟨#[0, 1, 2, 2, 3, 3, 3, 3, 4, 4, 4, 4, 4, 4, 4, 4, 5, 5, 5, 5, 5, 5, 5, 5, 5, 5, 5, 5, 5, 5, 5, 5, 6, 6, 6, 6, 6, 6, 6, 6, 6, 6, 6, 6, 6, 6, 6, 6, 6, 6, 6, 6, 6, 6, 6, 6, 6, 6, 6, 6, 6, 6, 6, 6, 7, 7, 7, 7, 7, 7, 7, 7, 7, 7, 7, 7, 7, 7, 7, 7, 7, 7, 7, 7, 7, 7, 7, 7, 7, 7, 7, 7, 7, 7, 7, 7, 7, 7, 7, 7, 7, 7, 7, 7, 7, 7, 7, 7, 7, 7, 7, 7, 7, 7, 7, 7, 7, 7, 7, 7, 7, 7, 7, 7, 7, 7, 7, 7, 8, 8, 8, 8, 8, 8, 8, 8, 8, 8, 8, 8, 8, 8, 8, 8, 8, 8, 8, 8, 8, 8, 8, 8, 8, 8, 8, 8, 8, 8, 8, 8, 8, 8, 8, 8, 8, 8, 8, 8, 8, 8, 8, 8, 8, 8, 8, 8, 8, 8, 8, 8, 8, 8, 8, 8, 8, 8, 8, 8, 8, 8, 8, 8, 8, 8, 8, 8, 8, 8, 8, 8, 8, 8, 8, 8, 8, 8, 8, 8, 8, 8, 8, 8, 8, 8, 8, 8, 8, 8, 8, 8, 8, 8, 8, 8, 8, 8, 8, 8, 8, 8, 8, 8, 8, 8, 8, 8, 8, 8, 8, 8, 8, 8, 8, 8, 8, 8, 8, 8, 8, 8, 8, 8, 8, 8, 8, 8]⟩ : ByteArray).size : Int))) then
      some (w (a4 + (w ((((ByteArray.data (⟨#[0, 1, 2, 2, 3, 3, 3, 3, 4, 4, 4, 4, 4, 4, 4, 4, 5, 5, 5, 5, 5, 5, 5, 5, 5, 5, 5, 5, 5, 5, 5, 5, 6, 6, 6, 6, 6, 6, 6, 6, 6, 6, 6, 6, 6, 6, 6, 6, 6, 6, 6, 6, 6, 6, 6, 6, 6, 6, 6, 6, 6, 6, 6, 6, 7, 7, 7, 7, 7, 7, 7, 7, 7, 7, 7, 7, 7, 7, 7, 7, 7, 7, 7, 7, 7, 7, 7, 7, 7, 7, 7, 7, 7, 7, 7, 7, 7, 7, 7, 7, 7, 7, 7, 7, 7, 7, 7, 7, 7, 7, 7, 7, 7, 7, 7, 7, 7, 7, 7, 7, 7, 7, 7, 7, 7, 7, 7, 7, 8, 8, 8, 8, 8, 8, 8, 8, 8, 8, 8, 8, 8, 8, 8, 8, 8, 8, 8, 8, 8, 8, 8, 8, 8, 8, 8, 8, 8, 8, 8, 8, 8, 8, 8, 8, 8, 8, 8, 8, 8, 8, 8, 8, 8, 8, 8, 8, 8, 8, 8, 8, 8, 8, 8, 8, 8, 8, 8, 8, 8, 8, 8, 8, 8, 8, 8, 8, 8, 8, 8, 8, 8, 8, 8, 8, 8, 8, 8, 8, 8, 8, 8, 8, 8, 8, 8, 8, 8, 8, 8, 8, 8, 8, 8, 8, 8, 8, 8, 8, 8, 8, 8, 8, 8, 8, 8, 8, 8, 8, 8, 8, 8, 8, 8, 8, 8, 8, 8, 8, 8, 8, 8, 8, 8, 8, 8, 8]⟩ : ByteArray)).getD (Int.toNat (IntKind.wrap .u8 a3)) 0).toNat : Nat) : Int))))
    else
      none := (fuelK_eq hM _).trans (by kernel_rfl)
theorem bits_Len64.j0_eq (N : Nat) (a1 : Int) (a2 : Int) {M : Nat} (hM : N = M + 1) : bits_Len64.j0 N a1 a2 =
    bif decide (a1 ≥ 65536) then
      bits_Len64.j1 N (shrI .u64 a1 16) (w (a2 + 16))
    else
      bits_Len64.j1 N a1 a2 := (fuelK_eq hM _).trans (by kernel_rfl)
theorem bits_Len64.eq (N : Nat) (x0 : Int) : bits_Len64.fn N x0 =
    bif decide (x0 ≥ 4294967296) then
      bits_Len64.j0 N (shrI .u64 x0 32) 32
    else
      bits_Len64.j0 N x0 0 := by kernel_rfl

/-! ### bits_LeadingZeros64: math/bits.LeadingZeros64 -/
def bits_LeadingZeros64.kp : List (Nat × List (Nat × Option (TypeId × Ty))) := []
noncomputable def bits_LeadingZeros64.G (N : Nat) : List (Nat × Spec) := [(81, .pure (bits_Len64.S N))]
noncomputable def bits_LeadingZeros64.E (N : Nat) : Env := mkEnv (bits_LeadingZeros64.G N) N tyTab bits_LeadingZeros64.kp
noncomputable def bits_LeadingZeros64.fn (N : Nat) (x : Int) : Option Int := evFn (bits_LeadingZeros64.E N) Tryd.prog 3 Tryd.f80 false [.cell (.int .u64)] [.val (.cell (.int .i64))] x
noncomputable def bits_LeadingZeros64.S (N : Nat) : PSpec := ⟨false, [.cell (.int .u64)], [.val (.cell (.int .i64))], bits_LeadingZeros64.fn N⟩
theorem f80_enters : Enters Tryd.prog 80 := ⟨Tryd.f80, Tryd.func80, by kernel_rfl, by kernel_rfl⟩
theorem bits_LeadingZeros64.tab (N : Nat) : TabOk Tryd.prog (bits_LeadingZeros64.G N) := ⟨⟨bits_Len64.enters, bits_Len64.sound N⟩, trivial⟩
theorem bits_LeadingZeros64.enters : Enters Tryd.prog 80 := f80_enters
theorem bits_LeadingZeros64.sound (N : Nat) : Sound Tryd.prog 80 (bits_LeadingZeros64.S N) := evFn_sound (specs_tab (bits_LeadingZeros64.tab N)) (inls_tab (bits_LeadingZeros64.tab N)) mixed 3 Tryd.func80 _ _ _
theorem bits_LeadingZeros64.eq (N : Nat) (x0 : Int) : bits_LeadingZeros64.fn N x0 =
    (bits_Len64.fn N x0).bind fun r1 =>
    some (w (64 - r1)) := by kernel_rfl

/-! ### math_trigReduce: math.trigReduce -/
def math_trigReduce.kp : List (Nat × List (Nat × Option (TypeId × Ty))) := []
noncomputable def math_trigReduce.G (N : Nat) : List (Nat × Spec) := [(67, .mac bitsM)]
noncomputable def math_trigReduce.E (N : Nat) : Env := mkEnv (math_trigReduce.G N) N tyTab math_trigReduce.kp
noncomputable def math_trigReduce.fn (N : Nat) (x : Nat) : Option (Int × Nat) := evFn (math_trigReduce.E N) Tryd.prog 3 Tryd.f75 false [.cell (.flt)] [.val (.cell (.int .u64)), .val (.cell (.flt))] x
noncomputable def math_trigReduce.S (N : Nat) : PSpec := ⟨false, [.cell (.flt)], [.val (.cell (.int .u64)), .val (.cell (.flt))], math_trigReduce.fn N⟩
theorem f75_enters : Enters Tryd.prog 75 := ⟨Tryd.f75, Tryd.func75, by kernel_rfl, by kernel_rfl⟩
theorem math_trigReduce.tab (N : Nat) : TabOk Tryd.prog (math_trigReduce.G N) := ⟨.inr bits_ext, trivial⟩
theorem math_trigReduce.enters : Enters Tryd.prog 75 := f75_enters
theorem math_trigReduce.sound (N : Nat) : Sound Tryd.prog 75 (math_trigReduce.S N) := evFn_sound (specs_tab (math_trigReduce.tab N)) (inls_tab (math_trigReduce.tab N)) mixed 3 Tryd.func75 _ _ _
theorem math_trigReduce.eq (N : Nat) (x0 : Nat) : math_trigReduce.fn N x0 =
    bif flss .f64 x0 4605249457297304856 then
      some (0, x0)
    else
      none := by kernel_rfl

/-! ### math_sin: math.sin -/
def math_sin.kp : List (Nat × List (Nat × Option (TypeId × Ty))) := [(1000009, [(0, none), (3, none)]), (1000018, [(0, none), (3, none), (4, none), (5, none)]), (1000020, [(3, none), (4, none), (6, none)]), (1000023, [(3, none), (4, none), (6, none)])]
noncomputable def math_sin.G (N : Nat) : List (Nat × Spec) := [(72, .pure (math_IsNaN.S N)), (73, .pure (math_IsInf.S N)), (74, .pure (math_NaN.S N)), (75, .pure (math_trigReduce.S N))]
noncomputable def math_sin.E (N : Nat) : Env := mkEnv (math_sin.G N) N tyTab math_sin.kp
noncomputable def math_sin.fn (N : Nat) (x : Nat) : Option Nat := evFn (math_sin.E N) Tryd.prog 3 Tryd.f70 false [.cell (.flt)] [.val (.cell (.flt))] x
noncomputable def math_sin.S (N : Nat) : PSpec := ⟨false, [.cell (.flt)], [.val (.cell (.flt))], math_sin.fn N⟩
theorem f70_enters : Enters Tryd.prog 70 := ⟨Tryd.f70, Tryd.func70, by kernel_rfl, by kernel_rfl⟩
theorem math_sin.tab (N : Nat) : TabOk Tryd.prog (math_sin.G N) := ⟨⟨math_IsNaN.enters, math_IsNaN.sound N⟩, ⟨math_IsInf.enters, math_IsInf.sound N⟩, ⟨math_NaN.enters, math_NaN.sound N⟩, ⟨math_trigReduce.enters, math_trigReduce.sound N⟩, trivial⟩
theorem math_sin.enters : Enters Tryd.prog 70 := f70_enters
theorem math_sin.sound (N : Nat) : Sound Tryd.prog 70 (math_sin.S N) := evFn_sound (specs_tab (math_sin.tab N)) (inls_tab (math_sin.tab N)) mixed 3 Tryd.func70 _ _ _
noncomputable def math_sin.cd (N : Nat) (p : List Nat) : St → (Ex → St → Option Nat) → Option Nat := ev (math_sin.E N) Tryd.prog (callD (math_sin.E N) Tryd.prog 3) 0 (codeAt (bodyOf Tryd.f70) p)
noncomputable def math_sin.fin : Ex → St → Option Nat := endK Tryd.prog Tryd.f70 [.val (.cell (.flt))]
noncomputable def math_sin.j0 (N : Nat) (a4 : Nat) (a5 : Bool) : Option Nat :=
  fuelK N (region (math_sin.E N) Tryd.prog (callD (math_sin.E N) Tryd.prog 3) (opsAt (codeAt (bodyOf Tryd.f70) [1, 1, 1, 1, 0])) false
  ⟨[.sc (.float .f64 a4), .any, .any, .sc (.bool a5), .any, .any, .any, .any, .any, .any, .any, .any, .any, .any, .any, .any, .any, .any, .any, .any, .any, .any, .any, .any, .any, .any, .any, .any, .any, .any, .any, .any, .any, .any, .any, .any, .any, .any, .any, .any, .any, .any, .any, .any, .any, .any, .any, .any, .any, .any, .any, .any, .any, .any, .any, .any, .any, .any, .any, .any, .any, .any, .any, .any, .any, .any, .any, .any, .any, .any, .any, .any, .any, .any, .any, .any, .any, .any, .any, .any, .any, .any, .any, .any, .any, .any, .any, .any, .any, .any, .any, .any, .any, .any, .any, .any, .any, .any, .any, .any, .any, .any, .any, .any, .any, .any, .any, .any, .any, .any, .any, .any, .any, .any, .any, .any, .any, .any, .any, .any, .any, .any, .any, .any, .any, .any, .any, .any, .any, .any, .any, .any, .any, .any, .any, .any, .any, .any, .any, .any, .any, .any], []⟩
  (fun S => (seqK (math_sin.cd N [1, 1, 1, 1, 1]) math_sin.fin) .normal S))
noncomputable def math_sin.j1 (N : Nat) (a5 : Bool) (a6 : Int) (a7 : Nat) : Option Nat :=
  fuelK N (region (math_sin.E N) Tryd.prog (callD (math_sin.E N) Tryd.prog 3) (opsAt (codeAt (bodyOf Tryd.f70) [1, 1, 1, 1, 1, 1, 1, 0, 0])) false
  ⟨[.any, .any, .any, .sc (.bool a5), .sc (.int .u64 a6), .any, .sc (.float .f64 a7), .any, .any, .any, .any, .any, .any, .any, .any, .any, .any, .any, .any, .any, .any, .any, .any, .any, .any, .any, .any, .any, .any, .any, .any, .any, .any, .any, .any, .any, .any, .any, .any, .any, .any, .any, .any, .any, .any, .any, .any, .any, .any, .any, .any, .any, .any, .any, .any, .any, .any, .any, .any, .any, .any, .any, .any, .any, .any, .any, .any, .any, .any, .any, .any, .any, .any, .any, .any, .any, .any, .any, .any, .any, .any, .any, .any, .any, .any, .any, .any, .any, .any, .any, .any, .any, .any, .any, .any, .any, .any, .any, .any, .any, .any, .any, .any, .any, .any, .any, .any, .any, .any, .any, .any, .any, .any, .any, .any, .any, .any, .any, .any, .any, .any, .any, .any, .any, .any, .any, .any, .any, .any, .any, .any, .any, .any, .any, .any, .any, .any, .any, .any, .any, .any, .any], []⟩
  (fun S => (seqK (math_sin.cd N [1, 1, 1, 1, 1, 1, 1, 0, 1]) (seqK (math_sin.cd N [1, 1, 1, 1, 1, 1, 1, 1]) math_sin.fin)) .normal S))
noncomputable def math_sin.j2 (N : Nat) (a7 : Nat) (a8 : Bool) (a9 : Int) : Option Nat :=
  fuelK N (region (math_sin.E N) Tryd.prog (callD (math_sin.E N) Tryd.prog 3) (opsAt (codeAt (bodyOf Tryd.f70) [1, 1, 1, 1, 1, 1, 1, 1, 0])) false
  ⟨[.any, .any, .any, .sc (.bool a8), .sc (.int .u64 a9), .any, .sc (.float .f64 a7), .any, .any, .any, .any, .any, .any, .any, .any, .any, .any, .any, .any, .any, .any, .any, .any, .any, .any, .any, .any, .any, .any, .any, .any, .any, .any, .any, .any, .any, .any, .any, .any, .any, .any, .any, .any, .any, .any, .any, .any, .any, .any, .any, .any, .any, .any, .any, .any, .any, .any, .any, .any, .any, .any, .any, .any, .any, .any, .any, .any, .any, .any, .any, .any, .any, .any, .any, .any, .any, .any, .any, .any, .any, .any, .any, .any, .any, .any, .any, .any, .any, .any, .any, .any, .any, .any, .any, .any, .any, .any, .any, .any, .any, .any, .any, .any, .any, .any, .any, .any, .any, .any, .any, .any, .any, .any, .any, .any, .any, .any, .any, .any, .any, .any, .any, .any, .any, .any, .any, .any, .any, .any, .any, .any, .any, .any, .any, .any, .any, .any, .any, .any, .any, .any, .any], []⟩
  (fun S => (seqK (math_sin.cd N [1, 1, 1, 1, 1, 1, 1, 1, 1]) math_sin.fin) .normal S))
noncomputable def math_sin.j3 (N : Nat) (a4 : Nat) (a5 : Bool) (a11 : Int) (a12 : Nat) : Option Nat :=
  fuelK N (region (math_sin.E N) Tryd.prog (callD (math_sin.E N) Tryd.prog 3) (opsAt (codeAt (bodyOf Tryd.f70) [1, 1, 1, 1, 1, 1, 0, 1, 1, 1, 1, 1, 0])) false
  ⟨[.sc (.float .f64 a4), .any, .any, .sc (.bool a5), .sc (.int .u64 a11), .sc (.float .f64 a12), .any, .any, .any, .any, .any, .any, .any, .any, .any, .any, .any, .any, .any, .any, .any, .any, .any, .any, .any, .any, .any, .any, .any, .any, .any, .any, .any, .any, .any, .any, .any, .any, .any, .any, .any, .any, .any, .any, .any, .any, .any, .any, .any, .any, .any, .any, .any, .any, .any, .any, .any, .any, .any, .any, .any, .any, .any, .any, .any, .any, .any, .any, .any, .any, .any, .any, .any, .any, .any, .any, .any, .any, .any, .any, .any, .any, .any, .any, .any, .any, .any, .any, .any, .any, .any, .any, .any, .any, .any, .any, .any, .any, .any, .any, .any, .any, .any, .any, .any, .any, .any, .any, .any, .any, .any, .any, .any, .any, .any, .any, .any, .any, .any, .any, .any, .any, .any, .any, .any, .any, .any, .any, .any, .any, .any, .any, .any, .any, .any, .any, .any, .any, .any, .any, .any, .any], []⟩
  (fun S => (seqK (math_sin.cd N [1, 1, 1, 1, 1, 1, 0, 1, 1, 1, 1, 1, 1]) (seqK (math_sin.cd N [1, 1, 1, 1, 1, 1, 1]) math_sin.fin)) .normal S))
theorem math_sin.j3_eq (N : Nat) (a4 : Nat) (a5 : Bool) (a11 : Int) (a12 : Nat) {M : Nat} (hM : N = M + 1) : math_sin.j3 N a4 a5 a11 a12 =
    bif (fmul .f64 a12 4605249456957292544).isSome then
      bif (fsub .f64 a4 ((fmul .f64 a12 4605249456957292544).getD 0)).isSome then
        bif (fmul .f64 a12 4495793288086814720).isSome then
          bif (fsub .f64 ((fsub .f64 a4 ((fmul .f64 a12 4605249456957292544).getD 0)).getD 0) ((fmul .f64 a12 4495793288086814720).getD 0)).isSome then
            bif (fmul .f64 a12 4388835458085048688).isSome then
              bif (fsub .f64 ((fsub .f64 ((fsub .f64 a4 ((fmul .f64 a12 4605249456957292544).getD 0)).getD 0) ((fmul .f64 a12 4495793288086814720).getD 0)).getD 0) ((fmul .f64 a12 4388835458085048688).getD 0)).isSome then
                math_sin.j1 N a5 (bandI .u64 a11 7) ((fsub .f64 ((fsub .f64 ((fsub .f64 a4 ((fmul .f64 a12 4605249456957292544).getD 0)).getD 0) ((fmul .f64 a12 4495793288086814720).getD 0)).getD 0) ((fmul .f64 a12 4388835458085048688).getD 0)).getD 0)
              else
                none
            else
              none
          else
            none
        else
          none
      else
        none
    else
      none := (fuelK_eq hM _).trans (by kernel_rfl)
theorem math_sin.j2_eq (N : Nat) (a7 : Nat) (a8 : Bool) (a9 : Int) {M : Nat} (hM : N = M + 1) : math_sin.j2 N a7 a8 a9 =
    bif (fmul .f64 a7 a7).isSome then
      bif !(!(a9 == 1)) || (!(a9 == 1)) then
        bif (a9 == 1) || (!(a9 == 1)) then
          bif (a9 == 1) || (a9 == 2) then
            bif (fmul .f64 4602678819172646912 ((fmul .f64 a7 a7).getD 0)).isSome then
              bif (fsub .f64 4607182418800017408 ((fmul .f64 4602678819172646912 ((fmul .f64 a7 a7).getD 0)).getD 0)).isSome then
                bif (fmul .f64 ((fmul .f64 a7 a7).getD 0) ((fmul .f64 a7 a7).getD 0)).isSome then
                  bif (fmul .f64 13666448263388469915 ((fmul .f64 a7 a7).getD 0)).isSome then
                    bif (fadd .f64 ((fmul .f64 13666448263388469915 ((fmul .f64 a7 a7).getD 0)).getD 0) 4477121864728985349).isSome then
                      bif (fmul .f64 ((fadd .f64 ((fmul .f64 13666448263388469915 ((fmul .f64 a7 a7).getD 0)).getD 0) 4477121864728985349).getD 0) ((fmul .f64 a7 a7).getD 0)).isSome then
                        bif (fadd .f64 ((fmul .f64 ((fadd .f64 ((fmul .f64 13666448263388469915 ((fmul .f64 a7 a7).getD 0)).getD 0) 4477121864728985349).getD 0) ((fmul .f64 a7 a7).getD 0)).getD 0) 13732177093698800582).isSome then
                          bif (fmul .f64 ((fadd .f64 ((fmul .f64 ((fadd .f64 ((fmul .f64 13666448263388469915 ((fmul .f64 a7 a7).getD 0)).getD 0) 4477121864728985349).getD 0) ((fmul .f64 a7 a7).getD 0)).getD 0) 13732177093698800582).getD 0) ((fmul .f64 a7 a7).getD 0)).isSome then
                            bif (fadd .f64 ((fmul .f64 ((fadd .f64 ((fmul .f64 ((fadd .f64 ((fmul .f64 13666448263388469915 ((fmul .f64 a7 a7).getD 0)).getD 0) 4477121864728985349).getD 0) ((fmul .f64 a7 a7).getD 0)).getD 0) 13732177093698800582).getD 0) ((fmul .f64 a7 a7).getD 0)).getD 0) 4537941361668146421).isSome then
                              bif (fmul .f64 ((fadd .f64 ((fmul .f64 ((fadd .f64 ((fmul .f64 ((fadd .f64 ((fmul .f64 13666448263388469915 ((fmul .f64 a7 a7).getD 0)).getD 0) 4477121864728985349).getD 0) ((fmul .f64 a7 a7).getD 0)).getD 0) 13732177093698800582).getD 0) ((fmul .f64 a7 a7).getD 0)).getD 0) 4537941361668146421).getD 0) ((fmul .f64 a7 a7).getD 0)).isSome then
                                bif (fadd .f64 ((fmul .f64 ((fadd .f64 ((fmul .f64 ((fadd .f64 ((fmul .f64 ((fadd .f64 ((fmul .f64 13666448263388469915 ((fmul .f64 a7 a7).getD 0)).getD 0) 4477121864728985349).getD 0) ((fmul .f64 a7 a7).getD 0)).getD 0) 13732177093698800582).getD 0) ((fmul .f64 a7 a7).getD 0)).getD 0) 4537941361668146421).getD 0) ((fmul .f64 a7 a7).getD 0)).getD 0) 13787419979223748497).isSome then
                                  bif (fmul .f64 ((fadd .f64 ((fmul .f64 ((fadd .f64 ((fmul .f64 ((fadd .f64 ((fmul .f64 ((fadd .f64 ((fmul .f64 13666448263388469915 ((fmul .f64 a7 a7).getD 0)).getD 0) 4477121864728985349).getD 0) ((fmul .f64 a7 a7).getD 0)).getD 0) 13732177093698800582).getD 0) ((fmul .f64 a7 a7).getD 0)).getD 0) 4537941361668146421).getD 0) ((fmul .f64 a7 a7).getD 0)).getD 0) 13787419979223748497).getD 0) ((fmul .f64 a7 a7).getD 0)).isSome then
                                    bif (fadd .f64 ((fmul .f64 ((fadd .f64 ((fmul .f64 ((fadd .f64 ((fmul .f64 ((fadd .f64 ((fmul .f64 ((fadd .f64 ((fmul .f64 13666448263388469915 ((fmul .f64 a7 a7).getD 0)).getD 0) 4477121864728985349).getD 0) ((fmul .f64 a7 a7).getD 0)).getD 0) 13732177093698800582).getD 0) ((fmul .f64 a7 a7).getD 0)).getD 0) 4537941361668146421).getD 0) ((fmul .f64 a7 a7).getD 0)).getD 0) 13787419979223748497).getD 0) ((fmul .f64 a7 a7).getD 0)).getD 0) 4586165620538955083).isSome then
                                      bif (fmul .f64 ((fmul .f64 ((fmul .f64 a7 a7).getD 0) ((fmul .f64 a7 a7).getD 0)).getD 0) ((fadd .f64 ((fmul .f64 ((fadd .f64 ((fmul .f64 ((fadd .f64 ((fmul .f64 ((fadd .f64 ((fmul .f64 ((fadd .f64 ((fmul .f64 13666448263388469915 ((fmul .f64 a7 a7).getD 0)).getD 0) 4477121864728985349).getD 0) ((fmul .f64 a7 a7).getD 0)).getD 0) 13732177093698800582).getD 0) ((fmul .f64 a7 a7).getD 0)).getD 0) 4537941361668146421).getD 0) ((fmul .f64 a7 a7).getD 0)).getD 0) 13787419979223748497).getD 0) ((fmul .f64 a7 a7).getD 0)).getD 0) 4586165620538955083).getD 0)).isSome then
                                        bif (fadd .f64 ((fsub .f64 4607182418800017408 ((fmul .f64 4602678819172646912 ((fmul .f64 a7 a7).getD 0)).getD 0)).getD 0) ((fmul .f64 ((fmul .f64 ((fmul .f64 a7 a7).getD 0) ((fmul .f64 a7 a7).getD 0)).getD 0) ((fadd .f64 ((fmul .f64 ((fadd .f64 ((fmul .f64 ((fadd .f64 ((fmul .f64 ((fadd .f64 ((fmul .f64 ((fadd .f64 ((fmul .f64 13666448263388469915 ((fmul .f64 a7 a7).getD 0)).getD 0) 4477121864728985349).getD 0) ((fmul .f64 a7 a7).getD 0)).getD 0) 13732177093698800582).getD 0) ((fmul .f64 a7 a7).getD 0)).getD 0) 4537941361668146421).getD 0) ((fmul .f64 a7 a7).getD 0)).getD 0) 13787419979223748497).getD 0) ((fmul .f64 a7 a7).getD 0)).getD 0) 4586165620538955083).getD 0)).getD 0)).isSome then
                                          bif a8 then
                                            some (fneg .f64 ((fadd .f64 ((fsub .f64 4607182418800017408 ((fmul .f64 4602678819172646912 ((fmul .f64 a7 a7).getD 0)).getD 0)).getD 0) ((fmul .f64 ((fmul .f64 ((fmul .f64 a7 a7).getD 0) ((fmul .f64 a7 a7).getD 0)).getD 0) ((fadd .f64 ((fmul .f64 ((fadd .f64 ((fmul .f64 ((fadd .f64 ((fmul .f64 ((fadd .f64 ((fmul .f64 ((fadd .f64 ((fmul .f64 13666448263388469915 ((fmul .f64 a7 a7).getD 0)).getD 0) 4477121864728985349).getD 0) ((fmul .f64 a7 a7).getD 0)).getD 0) 13732177093698800582).getD 0) ((fmul .f64 a7 a7).getD 0)).getD 0) 4537941361668146421).getD 0) ((fmul .f64 a7 a7).getD 0)).getD 0) 13787419979223748497).getD 0) ((fmul .f64 a7 a7).getD 0)).getD 0) 4586165620538955083).getD 0)).getD 0)).getD 0))
                                          else
                                            some ((fadd .f64 ((fsub .f64 4607182418800017408 ((fmul .f64 4602678819172646912 ((fmul .f64 a7 a7).getD 0)).getD 0)).getD 0) ((fmul .f64 ((fmul .f64 ((fmul .f64 a7 a7).getD 0) ((fmul .f64 a7 a7).getD 0)).getD 0) ((fadd .f64 ((fmul .f64 ((fadd .f64 ((fmul .f64 ((fadd .f64 ((fmul .f64 ((fadd .f64 ((fmul .f64 ((fadd .f64 ((fmul .f64 13666448263388469915 ((fmul .f64 a7 a7).getD 0)).getD 0) 4477121864728985349).getD 0) ((fmul .f64 a7 a7).getD 0)).getD 0) 13732177093698800582).getD 0) ((fmul .f64 a7 a7).getD 0)).getD 0) 4537941361668146421).getD 0) ((fmul .f64 a7 a7).getD 0)).getD 0) 13787419979223748497).getD 0) ((fmul .f64 a7 a7).getD 0)).getD 0) 4586165620538955083).getD 0)).getD 0)).getD 0)
                                        else
                                          none
                                      else
                                        none
                                    else
                                      none
                                  else
                                    none
                                else
                                  none
                              else
                                none
                            else
                              none
                          else
                            none
                        else
                          none
                      else
                        none
                    else
                      none
                  else
                    none
                else
                  none
              else
                none
            else
              none
          else
          bif (fmul .f64 a7 ((fmul .f64 a7 a7).getD 0)).isSome then
            bif (fmul .f64 4460209587652500685 ((fmul .f64 a7 a7).getD 0)).isSome then
              bif (fadd .f64 ((fmul .f64 4460209587652500685 ((fmul .f64 a7 a7).getD 0)).getD 0) 13716528389658582877).isSome then
                bif (fmul .f64 ((fadd .f64 ((fmul .f64 4460209587652500685 ((fmul .f64 a7 a7).getD 0)).getD 0) 13716528389658582877).getD 0) ((fmul .f64 a7 a7).getD 0)).isSome then
                  bif (fadd .f64 ((fmul .f64 ((fadd .f64 ((fmul .f64 4460209587652500685 ((fmul .f64 a7 a7).getD 0)).getD 0) 13716528389658582877).getD 0) ((fmul .f64 a7 a7).getD 0)).getD 0) 4523617212962785441).isSome then
                    bif (fmul .f64 ((fadd .f64 ((fmul .f64 ((fadd .f64 ((fmul .f64 4460209587652500685 ((fmul .f64 a7 a7).getD 0)).getD 0) 13716528389658582877).getD 0) ((fmul .f64 a7 a7).getD 0)).getD 0) 4523617212962785441).getD 0) ((fmul .f64 a7 a7).getD 0)).isSome then
                      bif (fadd .f64 ((fmul .f64 ((fadd .f64 ((fmul .f64 ((fadd .f64 ((fmul .f64 4460209587652500685 ((fmul .f64 a7 a7).getD 0)).getD 0) 13716528389658582877).getD 0) ((fmul .f64 a7 a7).getD 0)).getD 0) 4523617212962785441).getD 0) ((fmul .f64 a7 a7).getD 0)).getD 0) 13774824197404483331).isSome then
                        bif (fmul .f64 ((fadd .f64 ((fmul .f64 ((fadd .f64 ((fmul .f64 ((fadd .f64 ((fmul .f64 4460209587652500685 ((fmul .f64 a7 a7).getD 0)).getD 0) 13716528389658582877).getD 0) ((fmul .f64 a7 a7).getD 0)).getD 0) 4523617212962785441).getD 0) ((fmul .f64 a7 a7).getD 0)).getD 0) 13774824197404483331).getD 0) ((fmul .f64 a7 a7).getD 0)).isSome then
                          bif (fadd .f64 ((fmul .f64 ((fadd .f64 ((fmul .f64 ((fadd .f64 ((fmul .f64 ((fadd .f64 ((fmul .f64 4460209587652500685 ((fmul .f64 a7 a7).getD 0)).getD 0) 13716528389658582877).getD 0) ((fmul .f64 a7 a7).getD 0)).getD 0) 4523617212962785441).getD 0) ((fmul .f64 a7 a7).getD 0)).getD 0) 13774824197404483331).getD 0) ((fmul .f64 a7 a7).getD 0)).getD 0) 4575957461383575504).isSome then
                            bif (fmul .f64 ((fadd .f64 ((fmul .f64 ((fadd .f64 ((fmul .f64 ((fadd .f64 ((fmul .f64 ((fadd .f64 ((fmul .f64 4460209587652500685 ((fmul .f64 a7 a7).getD 0)).getD 0) 13716528389658582877).getD 0) ((fmul .f64 a7 a7).getD 0)).getD 0) 4523617212962785441).getD 0) ((fmul .f64 a7 a7).getD 0)).getD 0) 13774824197404483331).getD 0) ((fmul .f64 a7 a7).getD 0)).getD 0) 4575957461383575504).getD 0) ((fmul .f64 a7 a7).getD 0)).isSome then
                              bif (fadd .f64 ((fmul .f64 ((fadd .f64 ((fmul .f64 ((fadd .f64 ((fmul .f64 ((fadd .f64 ((fmul .f64 ((fadd .f64 ((fmul .f64 4460209587652500685 ((fmul .f64 a7 a7).getD 0)).getD 0) 13716528389658582877).getD 0) ((fmul .f64 a7 a7).getD 0)).getD 0) 4523617212962785441).getD 0) ((fmul .f64 a7 a7).getD 0)).getD 0) 13774824197404483331).getD 0) ((fmul .f64 a7 a7).getD 0)).getD 0) 4575957461383575504).getD 0) ((fmul .f64 a7 a7).getD 0)).getD 0) 13818544856648471880).isSome then
                                bif (fmul .f64 ((fmul .f64 a7 ((fmul .f64 a7 a7).getD 0)).getD 0) ((fadd .f64 ((fmul .f64 ((fadd .f64 ((fmul .f64 ((fadd .f64 ((fmul .f64 ((fadd .f64 ((fmul .f64 ((fadd .f64 ((fmul .f64 4460209587652500685 ((fmul .f64 a7 a7).getD 0)).getD 0) 13716528389658582877).getD 0) ((fmul .f64 a7 a7).getD 0)).getD 0) 4523617212962785441).getD 0) ((fmul .f64 a7 a7).getD 0)).getD 0) 13774824197404483331).getD 0) ((fmul .f64 a7 a7).getD 0)).getD 0) 4575957461383575504).getD 0) ((fmul .f64 a7 a7).getD 0)).getD 0) 13818544856648471880).getD 0)).isSome then
                                  bif (fadd .f64 a7 ((fmul .f64 ((fmul .f64 a7 ((fmul .f64 a7 a7).getD 0)).getD 0) ((fadd .f64 ((fmul .f64 ((fadd .f64 ((fmul .f64 ((fadd .f64 ((fmul .f64 ((fadd .f64 ((fmul .f64 ((fadd .f64 ((fmul .f64 4460209587652500685 ((fmul .f64 a7 a7).getD 0)).getD 0) 13716528389658582877).getD 0) ((fmul .f64 a7 a7).getD 0)).getD 0) 4523617212962785441).getD 0) ((fmul .f64 a7 a7).getD 0)).getD 0) 13774824197404483331).getD 0) ((fmul .f64 a7 a7).getD 0)).getD 0) 4575957461383575504).getD 0) ((fmul .f64 a7 a7).getD 0)).getD 0) 13818544856648471880).getD 0)).getD 0)).isSome then
                                    bif a8 then
                                      some (fneg .f64 ((fadd .f64 a7 ((fmul .f64 ((fmul .f64 a7 ((fmul .f64 a7 a7).getD 0)).getD 0) ((fadd .f64 ((fmul .f64 ((fadd .f64 ((fmul .f64 ((fadd .f64 ((fmul .f64 ((fadd .f64 ((fmul .f64 ((fadd .f64 ((fmul .f64 4460209587652500685 ((fmul .f64 a7 a7).getD 0)).getD 0) 13716528389658582877).getD 0) ((fmul .f64 a7 a7).getD 0)).getD 0) 4523617212962785441).getD 0) ((fmul .f64 a7 a7).getD 0)).getD 0) 13774824197404483331).getD 0) ((fmul .f64 a7 a7).getD 0)).getD 0) 4575957461383575504).getD 0) ((fmul .f64 a7 a7).getD 0)).getD 0) 13818544856648471880).getD 0)).getD 0)).getD 0))
                                    else
                                      some ((fadd .f64 a7 ((fmul .f64 ((fmul .f64 a7 ((fmul .f64 a7 a7).getD 0)).getD 0) ((fadd .f64 ((fmul .f64 ((fadd .f64 ((fmul .f64 ((fadd .f64 ((fmul .f64 ((fadd .f64 ((fmul .f64 ((fadd .f64 ((fmul .f64 4460209587652500685 ((fmul .f64 a7 a7).getD 0)).getD 0) 13716528389658582877).getD 0) ((fmul .f64 a7 a7).getD 0)).getD 0) 4523617212962785441).getD 0) ((fmul .f64 a7 a7).getD 0)).getD 0) 13774824197404483331).getD 0) ((fmul .f64 a7 a7).getD 0)).getD 0) 4575957461383575504).getD 0) ((fmul .f64 a7 a7).getD 0)).getD 0) 13818544856648471880).getD 0)).getD 0)).getD 0)
                                  else
                                    none
                                else
                                  none
                              else
                                none
                            else
                              none
                          else
                            none
                        else
                          none
                      else
                        none
                    else
                      none
                  else
                    none
                else
                  none
              else
                none
            else
              none
          else
            none
        else
          none
      else
        none
    else
      none := (fuelK_eq hM _).trans (by kernel_rfl)
theorem math_sin.j1_eq (N : Nat) (a5 : Bool) (a6 : Int) (a7 : Nat) {M : Nat} (hM : N = M + 1) : math_sin.j1 N a5 a6 a7 =
    bif decide (a6 > 3) then
      math_sin.j2 N a7 (!a5) (IntKind.wrap .u64 (a6 - 4))
    else
      math_sin.j2 N a7 a5 a6 := (fuelK_eq hM _).trans (by kernel_rfl)
theorem math_sin.j0_eq (N : Nat) (a4 : Nat) (a5 : Bool) {M : Nat} (hM : N = M + 1) : math_sin.j0 N a4 a5 =
    bif fgeq .f64 a4 4737786807993761792 then
      (math_trigReduce.fn N a4).bind fun r10 =>
      math_sin.j1 N a5 r10.1 r10.2
    else
    bif (fmul .f64 a4 4608412980311869571).isSome then
      bif (floatToIntVal .f64 ((fmul .f64 a4 4608412980311869571).getD 0) .u64).isSome then
        bif (bandI .u64 ((floatToIntVal .f64 ((fmul .f64 a4 4608412980311869571).getD 0) .u64).getD 0) 1) == 1 then
          bif (fadd .f64 (floatOfInt .f64 ((floatToIntVal .f64 ((fmul .f64 a4 4608412980311869571).getD 0) .u64).getD 0)) 4607182418800017408).isSome then
            math_sin.j3 N a4 a5 (IntKind.wrap .u64 (((floatToIntVal .f64 ((fmul .f64 a4 4608412980311869571).getD 0) .u64).getD 0) + 1)) ((fadd .f64 (floatOfInt .f64 ((floatToIntVal .f64 ((fmul .f64 a4 4608412980311869571).getD 0) .u64).getD 0)) 4607182418800017408).getD 0)
          else
            none
        else
          math_sin.j3 N a4 a5 ((floatToIntVal .f64 ((fmul .f64 a4 4608412980311869571).getD 0) .u64).getD 0) (floatOfInt .f64 ((floatToIntVal .f64 ((fmul .f64 a4 4608412980311869571).getD 0) .u64).getD 0))
      else
        none
    else
      none := (fuelK_eq hM _).trans (by kernel_rfl)
theorem math_sin.j2_clean (N : Nat) (a7 : Nat) (a8 : Bool) (a9 : Int) {M : Nat} (hM : N = M + 1) : math_sin.j2 N a7 a8 a9 =
    bif (fmul .f64 a7 a7).isSome then
      bif (a9 == 1) || (a9 == 2) then
        bif (fmul .f64 4602678819172646912 ((fmul .f64 a7 a7).getD 0)).isSome then
          bif (fsub .f64 4607182418800017408 ((fmul .f64 4602678819172646912 ((fmul .f64 a7 a7).getD 0)).getD 0)).isSome then
            bif (fmul .f64 ((fmul .f64 a7 a7).getD 0) ((fmul .f64 a7 a7).getD 0)).isSome then
              bif (fmul .f64 13666448263388469915 ((fmul .f64 a7 a7).getD 0)).isSome then
                bif (fadd .f64 ((fmul .f64 13666448263388469915 ((fmul .f64 a7 a7).getD 0)).getD 0) 4477121864728985349).isSome then
                  bif (fmul .f64 ((fadd .f64 ((fmul .f64 13666448263388469915 ((fmul .f64 a7 a7).getD 0)).getD 0) 4477121864728985349).getD 0) ((fmul .f64 a7 a7).getD 0)).isSome then
                    bif (fadd .f64 ((fmul .f64 ((fadd .f64 ((fmul .f64 13666448263388469915 ((fmul .f64 a7 a7).getD 0)).getD 0) 4477121864728985349).getD 0) ((fmul .f64 a7 a7).getD 0)).getD 0) 13732177093698800582).isSome then
                      bif (fmul .f64 ((fadd .f64 ((fmul .f64 ((fadd .f64 ((fmul .f64 13666448263388469915 ((fmul .f64 a7 a7).getD 0)).getD 0) 4477121864728985349).getD 0) ((fmul .f64 a7 a7).getD 0)).getD 0) 13732177093698800582).getD 0) ((fmul .f64 a7 a7).getD 0)).isSome then
                        bif (fadd .f64 ((fmul .f64 ((fadd .f64 ((fmul .f64 ((fadd .f64 ((fmul .f64 13666448263388469915 ((fmul .f64 a7 a7).getD 0)).getD 0) 4477121864728985349).getD 0) ((fmul .f64 a7 a7).getD 0)).getD 0) 13732177093698800582).getD 0) ((fmul .f64 a7 a7).getD 0)).getD 0) 4537941361668146421).isSome then
                          bif (fmul .f64 ((fadd .f64 ((fmul .f64 ((fadd .f64 ((fmul .f64 ((fadd .f64 ((fmul .f64 13666448263388469915 ((fmul .f64 a7 a7).getD 0)).getD 0) 4477121864728985349).getD 0) ((fmul .f64 a7 a7).getD 0)).getD 0) 13732177093698800582).getD 0) ((fmul .f64 a7 a7).getD 0)).getD 0) 4537941361668146421).getD 0) ((fmul .f64 a7 a7).getD 0)).isSome then
                            bif (fadd .f64 ((fmul .f64 ((fadd .f64 ((fmul .f64 ((fadd .f64 ((fmul .f64 ((fadd .f64 ((fmul .f64 13666448263388469915 ((fmul .f64 a7 a7).getD 0)).getD 0) 4477121864728985349).getD 0) ((fmul .f64 a7 a7).getD 0)).getD 0) 13732177093698800582).getD 0) ((fmul .f64 a7 a7).getD 0)).getD 0) 4537941361668146421).getD 0) ((fmul .f64 a7 a7).getD 0)).getD 0) 13787419979223748497).isSome then
                              bif (fmul .f64 ((fadd .f64 ((fmul .f64 ((fadd .f64 ((fmul .f64 ((fadd .f64 ((fmul .f64 ((fadd .f64 ((fmul .f64 13666448263388469915 ((fmul .f64 a7 a7).getD 0)).getD 0) 4477121864728985349).getD 0) ((fmul .f64 a7 a7).getD 0)).getD 0) 13732177093698800582).getD 0) ((fmul .f64 a7 a7).getD 0)).getD 0) 4537941361668146421).getD 0) ((fmul .f64 a7 a7).getD 0)).getD 0) 13787419979223748497).getD 0) ((fmul .f64 a7 a7).getD 0)).isSome then
                                bif (fadd .f64 ((fmul .f64 ((fadd .f64 ((fmul .f64 ((fadd .f64 ((fmul .f64 ((fadd .f64 ((fmul .f64 ((fadd .f64 ((fmul .f64 13666448263388469915 ((fmul .f64 a7 a7).getD 0)).getD 0) 4477121864728985349).getD 0) ((fmul .f64 a7 a7).getD 0)).getD 0) 13732177093698800582).getD 0) ((fmul .f64 a7 a7).getD 0)).getD 0) 4537941361668146421).getD 0) ((fmul .f64 a7 a7).getD 0)).getD 0) 13787419979223748497).getD 0) ((fmul .f64 a7 a7).getD 0)).getD 0) 4586165620538955083).isSome then
                                  bif (fmul .f64 ((fmul .f64 ((fmul .f64 a7 a7).getD 0) ((fmul .f64 a7 a7).getD 0)).getD 0) ((fadd .f64 ((fmul .f64 ((fadd .f64 ((fmul .f64 ((fadd .f64 ((fmul .f64 ((fadd .f64 ((fmul .f64 ((fadd .f64 ((fmul .f64 13666448263388469915 ((fmul .f64 a7 a7).getD 0)).getD 0) 4477121864728985349).getD 0) ((fmul .f64 a7 a7).getD 0)).getD 0) 13732177093698800582).getD 0) ((fmul .f64 a7 a7).getD 0)).getD 0) 4537941361668146421).getD 0) ((fmul .f64 a7 a7).getD 0)).getD 0) 13787419979223748497).getD 0) ((fmul .f64 a7 a7).getD 0)).getD 0) 4586165620538955083).getD 0)).isSome then
                                    bif (fadd .f64 ((fsub .f64 4607182418800017408 ((fmul .f64 4602678819172646912 ((fmul .f64 a7 a7).getD 0)).getD 0)).getD 0) ((fmul .f64 ((fmul .f64 ((fmul .f64 a7 a7).getD 0) ((fmul .f64 a7 a7).getD 0)).getD 0) ((fadd .f64 ((fmul .f64 ((fadd .f64 ((fmul .f64 ((fadd .f64 ((fmul .f64 ((fadd .f64 ((fmul .f64 ((fadd .f64 ((fmul .f64 13666448263388469915 ((fmul .f64 a7 a7).getD 0)).getD 0) 4477121864728985349).getD 0) ((fmul .f64 a7 a7).getD 0)).getD 0) 13732177093698800582).getD 0) ((fmul .f64 a7 a7).getD 0)).getD 0) 4537941361668146421).getD 0) ((fmul .f64 a7 a7).getD 0)).getD 0) 13787419979223748497).getD 0) ((fmul .f64 a7 a7).getD 0)).getD 0) 4586165620538955083).getD 0)).getD 0)).isSome then
                                      bif a8 then
                                        some (fneg .f64 ((fadd .f64 ((fsub .f64 4607182418800017408 ((fmul .f64 4602678819172646912 ((fmul .f64 a7 a7).getD 0)).getD 0)).getD 0) ((fmul .f64 ((fmul .f64 ((fmul .f64 a7 a7).getD 0) ((fmul .f64 a7 a7).getD 0)).getD 0) ((fadd .f64 ((fmul .f64 ((fadd .f64 ((fmul .f64 ((fadd .f64 ((fmul .f64 ((fadd .f64 ((fmul .f64 ((fadd .f64 ((fmul .f64 13666448263388469915 ((fmul .f64 a7 a7).getD 0)).getD 0) 4477121864728985349).getD 0) ((fmul .f64 a7 a7).getD 0)).getD 0) 13732177093698800582).getD 0) ((fmul .f64 a7 a7).getD 0)).getD 0) 4537941361668146421).getD 0) ((fmul .f64 a7 a7).getD 0)).getD 0) 13787419979223748497).getD 0) ((fmul .f64 a7 a7).getD 0)).getD 0) 4586165620538955083).getD 0)).getD 0)).getD 0))
                                      else
                                        some ((fadd .f64 ((fsub .f64 4607182418800017408 ((fmul .f64 4602678819172646912 ((fmul .f64 a7 a7).getD 0)).getD 0)).getD 0) ((fmul .f64 ((fmul .f64 ((fmul .f64 a7 a7).getD 0) ((fmul .f64 a7 a7).getD 0)).getD 0) ((fadd .f64 ((fmul .f64 ((fadd .f64 ((fmul .f64 ((fadd .f64 ((fmul .f64 ((fadd .f64 ((fmul .f64 ((fadd .f64 ((fmul .f64 13666448263388469915 ((fmul .f64 a7 a7).getD 0)).getD 0) 4477121864728985349).getD 0) ((fmul .f64 a7 a7).getD 0)).getD 0) 13732177093698800582).getD 0) ((fmul .f64 a7 a7).getD 0)).getD 0) 4537941361668146421).getD 0) ((fmul .f64 a7 a7).getD 0)).getD 0) 13787419979223748497).getD 0) ((fmul .f64 a7 a7).getD 0)).getD 0) 4586165620538955083).getD 0)).getD 0)).getD 0)
                                    else
                                      none
                                  else
                                    none
                                else
                                  none
                              else
                                none
                            else
                              none
                          else
                            none
                        else
                          none
                      else
                        none
                    else
                      none
                  else
                    none
                else
                  none
              else
                none
            else
              none
          else
            none
        else
          none
      else
      bif (fmul .f64 a7 ((fmul .f64 a7 a7).getD 0)).isSome then
        bif (fmul .f64 4460209587652500685 ((fmul .f64 a7 a7).getD 0)).isSome then
          bif (fadd .f64 ((fmul .f64 4460209587652500685 ((fmul .f64 a7 a7).getD 0)).getD 0) 13716528389658582877).isSome then
            bif (fmul .f64 ((fadd .f64 ((fmul .f64 4460209587652500685 ((fmul .f64 a7 a7).getD 0)).getD 0) 13716528389658582877).getD 0) ((fmul .f64 a7 a7).getD 0)).isSome then
              bif (fadd .f64 ((fmul .f64 ((fadd .f64 ((fmul .f64 4460209587652500685 ((fmul .f64 a7 a7).getD 0)).getD 0) 13716528389658582877).getD 0) ((fmul .f64 a7 a7).getD 0)).getD 0) 4523617212962785441).isSome then
                bif (fmul .f64 ((fadd .f64 ((fmul .f64 ((fadd .f64 ((fmul .f64 4460209587652500685 ((fmul .f64 a7 a7).getD 0)).getD 0) 13716528389658582877).getD 0) ((fmul .f64 a7 a7).getD 0)).getD 0) 4523617212962785441).getD 0) ((fmul .f64 a7 a7).getD 0)).isSome then
                  bif (fadd .f64 ((fmul .f64 ((fadd .f64 ((fmul .f64 ((fadd .f64 ((fmul .f64 4460209587652500685 ((fmul .f64 a7 a7).getD 0)).getD 0) 13716528389658582877).getD 0) ((fmul .f64 a7 a7).getD 0)).getD 0) 4523617212962785441).getD 0) ((fmul .f64 a7 a7).getD 0)).getD 0) 13774824197404483331).isSome then
                    bif (fmul .f64 ((fadd .f64 ((fmul .f64 ((fadd .f64 ((fmul .f64 ((fadd .f64 ((fmul .f64 4460209587652500685 ((fmul .f64 a7 a7).getD 0)).getD 0) 13716528389658582877).getD 0) ((fmul .f64 a7 a7).getD 0)).getD 0) 4523617212962785441).getD 0) ((fmul .f64 a7 a7).getD 0)).getD 0) 13774824197404483331).getD 0) ((fmul .f64 a7 a7).getD 0)).isSome then
                      bif (fadd .f64 ((fmul .f64 ((fadd .f64 ((fmul .f64 ((fadd .f64 ((fmul .f64 ((fadd .f64 ((fmul .f64 4460209587652500685 ((fmul .f64 a7 a7).getD 0)).getD 0) 13716528389658582877).getD 0) ((fmul .f64 a7 a7).getD 0)).getD 0) 4523617212962785441).getD 0) ((fmul .f64 a7 a7).getD 0)).getD 0) 13774824197404483331).getD 0) ((fmul .f64 a7 a7).getD 0)).getD 0) 4575957461383575504).isSome then
                        bif (fmul .f64 ((fadd .f64 ((fmul .f64 ((fadd .f64 ((fmul .f64 ((fadd .f64 ((fmul .f64 ((fadd .f64 ((fmul .f64 4460209587652500685 ((fmul .f64 a7 a7).getD 0)).getD 0) 13716528389658582877).getD 0) ((fmul .f64 a7 a7).getD 0)).getD 0) 4523617212962785441).getD 0) ((fmul .f64 a7 a7).getD 0)).getD 0) 13774824197404483331).getD 0) ((fmul .f64 a7 a7).getD 0)).getD 0) 4575957461383575504).getD 0) ((fmul .f64 a7 a7).getD 0)).isSome then
                          bif (fadd .f64 ((fmul .f64 ((fadd .f64 ((fmul .f64 ((fadd .f64 ((fmul .f64 ((fadd .f64 ((fmul .f64 ((fadd .f64 ((fmul .f64 4460209587652500685 ((fmul .f64 a7 a7).getD 0)).getD 0) 13716528389658582877).getD 0) ((fmul .f64 a7 a7).getD 0)).getD 0) 4523617212962785441).getD 0) ((fmul .f64 a7 a7).getD 0)).getD 0) 13774824197404483331).getD 0) ((fmul .f64 a7 a7).getD 0)).getD 0) 4575957461383575504).getD 0) ((fmul .f64 a7 a7).getD 0)).getD 0) 13818544856648471880).isSome then
                            bif (fmul .f64 ((fmul .f64 a7 ((fmul .f64 a7 a7).getD 0)).getD 0) ((fadd .f64 ((fmul .f64 ((fadd .f64 ((fmul .f64 ((fadd .f64 ((fmul .f64 ((fadd .f64 ((fmul .f64 ((fadd .f64 ((fmul .f64 4460209587652500685 ((fmul .f64 a7 a7).getD 0)).getD 0) 13716528389658582877).getD 0) ((fmul .f64 a7 a7).getD 0)).getD 0) 4523617212962785441).getD 0) ((fmul .f64 a7 a7).getD 0)).getD 0) 13774824197404483331).getD 0) ((fmul .f64 a7 a7).getD 0)).getD 0) 4575957461383575504).getD 0) ((fmul .f64 a7 a7).getD 0)).getD 0) 13818544856648471880).getD 0)).isSome then
                              bif (fadd .f64 a7 ((fmul .f64 ((fmul .f64 a7 ((fmul .f64 a7 a7).getD 0)).getD 0) ((fadd .f64 ((fmul .f64 ((fadd .f64 ((fmul .f64 ((fadd .f64 ((fmul .f64 ((fadd .f64 ((fmul .f64 ((fadd .f64 ((fmul .f64 4460209587652500685 ((fmul .f64 a7 a7).getD 0)).getD 0) 13716528389658582877).getD 0) ((fmul .f64 a7 a7).getD 0)).getD 0) 4523617212962785441).getD 0) ((fmul .f64 a7 a7).getD 0)).getD 0) 13774824197404483331).getD 0) ((fmul .f64 a7 a7).getD 0)).getD 0) 4575957461383575504).getD 0) ((fmul .f64 a7 a7).getD 0)).getD 0) 13818544856648471880).getD 0)).getD 0)).isSome then
                                bif a8 then
                                  some (fneg .f64 ((fadd .f64 a7 ((fmul .f64 ((fmul .f64 a7 ((fmul .f64 a7 a7).getD 0)).getD 0) ((fadd .f64 ((fmul .f64 ((fadd .f64 ((fmul .f64 ((fadd .f64 ((fmul .f64 ((fadd .f64 ((fmul .f64 ((fadd .f64 ((fmul .f64 4460209587652500685 ((fmul .f64 a7 a7).getD 0)).getD 0) 13716528389658582877).getD 0) ((fmul .f64 a7 a7).getD 0)).getD 0) 4523617212962785441).getD 0) ((fmul .f64 a7 a7).getD 0)).getD 0) 13774824197404483331).getD 0) ((fmul .f64 a7 a7).getD 0)).getD 0) 4575957461383575504).getD 0) ((fmul .f64 a7 a7).getD 0)).getD 0) 13818544856648471880).getD 0)).getD 0)).getD 0))
                                else
                                  some ((fadd .f64 a7 ((fmul .f64 ((fmul .f64 a7 ((fmul .f64 a7 a7).getD 0)).getD 0) ((fadd .f64 ((fmul .f64 ((fadd .f64 ((fmul .f64 ((fadd .f64 ((fmul .f64 ((fadd .f64 ((fmul .f64 ((fadd .f64 ((fmul .f64 4460209587652500685 ((fmul .f64 a7 a7).getD 0)).getD 0) 13716528389658582877).getD 0) ((fmul .f64 a7 a7).getD 0)).getD 0) 4523617212962785441).getD 0) ((fmul .f64 a7 a7).getD 0)).getD 0) 13774824197404483331).getD 0) ((fmul .f64 a7 a7).getD 0)).getD 0) 4575957461383575504).getD 0) ((fmul .f64 a7 a7).getD 0)).getD 0) 13818544856648471880).getD 0)).getD 0)).getD 0)
                              else
                                none
                            else
                              none
                          else
                            none
                        else
                          none
                      else
                        none
                    else
                      none
                  else
                    none
                else
                  none
              else
                none
            else
              none
          else
            none
        else
          none
      else
        none
    else
      none := by
  rw [math_sin.j2_eq (hM := hM)]; simp only [taut3, taut6, cond_true]
theorem math_sin.eq (N : Nat) (x0 : Nat) : math_sin.fn N x0 =
    bif !(!(feql .f64 x0 0)) || (!(feql .f64 x0 0)) then
      (bif (!(feql .f64 x0 0)) then math_IsNaN.fn N x0 else some (false)).bind fun r1 =>
      bif (feql .f64 x0 0) || (!(feql .f64 x0 0)) then
        bif (feql .f64 x0 0) || r1 then
          some x0
        else
          (math_IsInf.fn N (x0, 0)).bind fun r2 =>
          bif r2 then
            (math_NaN.fn N ()).bind fun r3 =>
            some r3
          else
          bif flss .f64 x0 0 then
            math_sin.j0 N (fneg .f64 x0) true
          else
            math_sin.j0 N x0 false
      else
        none
    else
      none := by kernel_rfl
theorem math_sin.clean (N : Nat) (x0 : Nat) : math_sin.fn N x0 =
    (bif (!(feql .f64 x0 0)) then math_IsNaN.fn N x0 else some (false)).bind fun r1 =>
    bif (feql .f64 x0 0) || r1 then
      some x0
    else
      (math_IsInf.fn N (x0, 0)).bind fun r2 =>
      bif r2 then
        (math_NaN.fn N ()).bind fun r3 =>
        some r3
      else
      bif flss .f64 x0 0 then
        math_sin.j0 N (fneg .f64 x0) true
      else
        math_sin.j0 N x0 false := by
  rw [math_sin.eq]; simp only [taut3, taut6, cond_true]

/-! ### math_Sin: math.Sin -/
def math_Sin.kp : List (Nat × List (Nat × Option (TypeId × Ty))) := []
noncomputable def math_Sin.G (N : Nat) : List (Nat × Spec) := [(70, .pure (math_sin.S N))]
noncomputable def math_Sin.E (N : Nat) : Env := mkEnv (math_Sin.G N) N tyTab math_Sin.kp
noncomputable def math_Sin.fn (N : Nat) (x : Nat) : Option Nat := evFn (math_Sin.E N) Tryd.prog 3 Tryd.f58 false [.cell (.flt)] [.val (.cell (.flt))] x
noncomputable def math_Sin.S (N : Nat) : PSpec := ⟨false, [.cell (.flt)], [.val (.cell (.flt))], math_Sin.fn N⟩
theorem f58_enters : Enters Tryd.prog 58 := ⟨Tryd.f58, Tryd.func58, by kernel_rfl, by kernel_rfl⟩
theorem math_Sin.tab (N : Nat) : TabOk Tryd.prog (math_Sin.G N) := ⟨⟨math_sin.enters, math_sin.sound N⟩, trivial⟩
theorem math_Sin.enters : Enters Tryd.prog 58 := f58_enters
theorem math_Sin.sound (N : Nat) : Sound Tryd.prog 58 (math_Sin.S N) := evFn_sound (specs_tab (math_Sin.tab N)) (inls_tab (math_Sin.tab N)) mixed 3 Tryd.func58 _ _ _
theorem math_Sin.eq (N : Nat) (x0 : Nat) : math_Sin.fn N x0 =
    (math_sin.fn N x0).bind fun r1 =>
    some r1 := by kernel_rfl

/-! ### math_Round: math.Round -/
def math_Round.kp : List (Nat × List (Nat × Option (TypeId × Ty))) := []
noncomputable def math_Round.G (N : Nat) : List (Nat × Spec) := [(67, .mac bitsM), (68, .mac fromM)]
noncomputable def math_Round.E (N : Nat) : Env := mkEnv (math_Round.G N) N tyTab math_Round.kp
noncomputable def math_Round.fn (N : Nat) (x : Nat) : Option Nat := evFn (math_Round.E N) Tryd.prog 3 Tryd.f57 false [.cell (.flt)] [.val (.cell (.flt))] x
noncomputable def math_Round.S (N : Nat) : PSpec := ⟨false, [.cell (.flt)], [.val (.cell (.flt))], math_Round.fn N⟩
theorem f57_enters : Enters Tryd.prog 57 := ⟨Tryd.f57, Tryd.func57, by kernel_rfl, by kernel_rfl⟩
theorem math_Round.tab (N : Nat) : TabOk Tryd.prog (math_Round.G N) := ⟨.inr bits_ext, .inr from_ext, trivial⟩
theorem math_Round.enters : Enters Tryd.prog 57 := f57_enters
theorem math_Round.sound (N : Nat) : Sound Tryd.prog 57 (math_Round.S N) := evFn_sound (specs_tab (math_Round.tab N)) (inls_tab (math_Round.tab N)) mixed 3 Tryd.func57 _ _ _
theorem math_Round.eq (N : Nat) (x0 : Nat) : math_Round.fn N x0 =
    bif decide ((bandI .u64 (shrI .u64 ((x0 : Nat) : Int) 52) 2047) < 1023) then
      bif (bandI .u64 (shrI .u64 ((x0 : Nat) : Int) 52) 2047) == 1022 then
        some (Int.toNat (borI .u64 (bandI .u64 ((x0 : Nat) : Int) 9223372036854775808) 4607182418800017408))
      else
        some (Int.toNat (bandI .u64 ((x0 : Nat) : Int) 9223372036854775808))
    else
    bif decide ((bandI .u64 (shrI .u64 ((x0 : Nat) : Int) 52) 2047) < 1075) then
      bif decide (0 ≤ (IntKind.wrap .u64 ((bandI .u64 (shrI .u64 ((x0 : Nat) : Int) 52) 2047) - 1023))) then
        bif decide (0 ≤ (IntKind.wrap .u64 ((bandI .u64 (shrI .u64 ((x0 : Nat) : Int) 52) 2047) - 1023))) then
          some (Int.toNat (bandNotI .u64 (IntKind.wrap .u64 (((x0 : Nat) : Int) + (shrI .u64 2251799813685248 (IntKind.wrap .u64 ((bandI .u64 (shrI .u64 ((x0 : Nat) : Int) 52) 2047) - 1023))))) (shrI .u64 4503599627370495 (IntKind.wrap .u64 ((bandI .u64 (shrI .u64 ((x0 : Nat) : Int) 52) 2047) - 1023)))))
        else
          none
      else
        none
    else
      some (Int.toNat ((x0 : Nat) : Int)) := by kernel_rfl

/-! ### angle_Sin: skyway/angle.Sin -/
def angle_Sin.kp : List (Nat × List (Nat × Option (TypeId × Ty))) := []
noncomputable def angle_Sin.G (N : Nat) : List (Nat × Spec) := [(57, .pure (math_Round.S N)), (58, .pure (math_Sin.S N)), (59, .pure (angle_Norm.S N))]
noncomputable def angle_Sin.E (N : Nat) : Env := mkEnv (angle_Sin.G N) N tyTab angle_Sin.kp
noncomputable def angle_Sin.fn (N : Nat) (x : Int) : Option Int := evFn (angle_Sin.E N) Tryd.prog 3 Tryd.f37 false [.cell (.int .i64)] [.val (.cell (.int .i64))] x
noncomputable def angle_Sin.S (N : Nat) : PSpec := ⟨false, [.cell (.int .i64)], [.val (.cell (.int .i64))], angle_Sin.fn N⟩
theorem f37_enters : Enters Tryd.prog 37 := ⟨Tryd.f37, Tryd.func37, by kernel_rfl, by kernel_rfl⟩
theorem angle_Sin.tab (N : Nat) : TabOk Tryd.prog (angle_Sin.G N) := ⟨⟨math_Round.enters, math_Round.sound N⟩, ⟨math_Sin.enters, math_Sin.sound N⟩, ⟨angle_Norm.enters, angle_Norm.sound N⟩, trivial⟩
theorem angle_Sin.enters : Enters Tryd.prog 37 := f37_enters
theorem angle_Sin.sound (N : Nat) : Sound Tryd.prog 37 (angle_Sin.S N) := evFn_sound (specs_tab (angle_Sin.tab N)) (inls_tab (angle_Sin.tab N)) mixed 3 Tryd.func37 _ _ _
theorem angle_Sin.eq (N : Nat) (x0 : Int) : angle_Sin.fn N x0 =
    (angle_Norm.fn N x0).bind fun r1 =>
    bif (fmul .f64 (floatOfInt .f64 r1) 4611686018427387904).isSome then
      bif (fmul .f64 ((fmul .f64 (floatOfInt .f64 r1) 4611686018427387904).getD 0) 4614256656552045848).isSome then
        bif (fdiv .f64 ((fmul .f64 ((fmul .f64 (floatOfInt .f64 r1) 4611686018427387904).getD 0) 4614256656552045848).getD 0) 4661225614328463360).isSome then
          (math_Sin.fn N ((fdiv .f64 ((fmul .f64 ((fmul .f64 (floatOfInt .f64 r1) 4611686018427387904).getD 0) 4614256656552045848).getD 0) 4661225614328463360).getD 0)).bind fun r2 =>
          bif (fmul .f64 r2 4670232813583204352).isSome then
            (math_Round.fn N ((fmul .f64 r2 4670232813583204352).getD 0)).bind fun r3 =>
            bif (floatToIntVal .f64 r3 .i64).isSome then
              some ((floatToIntVal .f64 r3 .i64).getD 0)
            else
              none
          else
            none
        else
          none
      else
        none
    else
      none := by kernel_rfl

/-! ### angle_scaled: skyway/angle.scaled -/
def angle_scaled.kp : List (Nat × List (Nat × Option (TypeId × Ty))) := []
noncomputable def angle_scaled.G (N : Nat) : List (Nat × Spec) := []
noncomputable def angle_scaled.E (N : Nat) : Env := mkEnv (angle_scaled.G N) N tyTab angle_scaled.kp
noncomputable def angle_scaled.fn (N : Nat) (x : Int × Int) : Option Int := evFn (angle_scaled.E N) Tryd.prog 3 Tryd.f36 false [.cell (.int .i64), .cell (.int .i64)] [.val (.cell (.int .i64))] x
noncomputable def angle_scaled.S (N : Nat) : PSpec := ⟨false, [.cell (.int .i64), .cell (.int .i64)], [.val (.cell (.int .i64))], angle_scaled.fn N⟩
theorem f36_enters : Enters Tryd.prog 36 := ⟨Tryd.f36, Tryd.func36, by kernel_rfl, by kernel_rfl⟩
theorem angle_scaled.tab (N : Nat) : TabOk Tryd.prog (angle_scaled.G N) := trivial
theorem angle_scaled.enters : Enters Tryd.prog 36 := f36_enters
theorem angle_scaled.sound (N : Nat) : Sound Tryd.prog 36 (angle_scaled.S N) := evFn_sound (specs_tab (angle_scaled.tab N)) (inls_tab (angle_scaled.tab N)) mixed 3 Tryd.func36 _ _ _
theorem angle_scaled.eq (N : Nat) (x0 : Int) (x1 : Int) : angle_scaled.fn N (x0, x1) =
    bif decide ((w (x0 * x1)) < 0) then
      some (w (-(w (Int.tdiv (w ((w (-(w (x0 * x1)))) + 8192)) 16384))))
    else
      some (w (Int.tdiv (w ((w (x0 * x1)) + 8192)) 16384)) := by kernel_rfl

/-! ### angle_Cos: skyway/angle.Cos -/
def angle_Cos.kp : List (Nat × List (Nat × Option (TypeId × Ty))) := []
noncomputable def angle_Cos.G (N : Nat) : List (Nat × Spec) := [(37, .pure (angle_Sin.S N))]
noncomputable def angle_Cos.E (N : Nat) : Env := mkEnv (angle_Cos.G N) N tyTab angle_Cos.kp
noncomputable def angle_Cos.fn (N : Nat) (x : Int) : Option Int := evFn (angle_Cos.E N) Tryd.prog 3 Tryd.f38 false [.cell (.int .i64)] [.val (.cell (.int .i64))] x
noncomputable def angle_Cos.S (N : Nat) : PSpec := ⟨false, [.cell (.int .i64)], [.val (.cell (.int .i64))], angle_Cos.fn N⟩
theorem f38_enters : Enters Tryd.prog 38 := ⟨Tryd.f38, Tryd.func38, by kernel_rfl, by kernel_rfl⟩
theorem angle_Cos.tab (N : Nat) : TabOk Tryd.prog (angle_Cos.G N) := ⟨⟨angle_Sin.enters, angle_Sin.sound N⟩, trivial⟩
theorem angle_Cos.enters : Enters Tryd.prog 38 := f38_enters
theorem angle_Cos.sound (N : Nat) : Sound Tryd.prog 38 (angle_Cos.S N) := evFn_sound (specs_tab (angle_Cos.tab N)) (inls_tab (angle_Cos.tab N)) mixed 3 Tryd.func38 _ _ _
theorem angle_Cos.eq (N : Nat) (x0 : Int) : angle_Cos.fn N x0 =
    (angle_Sin.fn N (w (x0 + 1024))).bind fun r1 =>
    some r1 := by kernel_rfl

/-! ### angle_Vector: skyway/angle.Vector -/
def angle_Vector.kp : List (Nat × List (Nat × Option (TypeId × Ty))) := []
noncomputable def angle_Vector.G (N : Nat) : List (Nat × Spec) := [(36, .pure (angle_scaled.S N)), (37, .pure (angle_Sin.S N)), (38, .pure (angle_Cos.S N))]
noncomputable def angle_Vector.E (N : Nat) : Env := mkEnv (angle_Vector.G N) N tyTab angle_Vector.kp
noncomputable def angle_Vector.fn (N : Nat) (x : Int × Int) : Option ((Int × Int) × Int) := evFn (angle_Vector.E N) Tryd.prog 3 Tryd.f21 false [.cell (.int .i64), .cell (.int .i64)] [.val (.agg (.pair (.int .i64) (.int .i64))), .val (.cell (.int .i64))] x
noncomputable def angle_Vector.S (N : Nat) : PSpec := ⟨false, [.cell (.int .i64), .cell (.int .i64)], [.val (.agg (.pair (.int .i64) (.int .i64))), .val (.cell (.int .i64))], angle_Vector.fn N⟩
theorem f21_enters : Enters Tryd.prog 21 := ⟨Tryd.f21, Tryd.func21, by kernel_rfl, by kernel_rfl⟩
theorem angle_Vector.tab (N : Nat) : TabOk Tryd.prog (angle_Vector.G N) := ⟨⟨angle_scaled.enters, angle_scaled.sound N⟩, ⟨angle_Sin.enters, angle_Sin.sound N⟩, ⟨angle_Cos.enters, angle_Cos.sound N⟩, trivial⟩
theorem angle_Vector.enters : Enters Tryd.prog 21 := f21_enters
theorem angle_Vector.sound (N : Nat) : Sound Tryd.prog 21 (angle_Vector.S N) := evFn_sound (specs_tab (angle_Vector.tab N)) (inls_tab (angle_Vector.tab N)) mixed 3 Tryd.func21 _ _ _
theorem angle_Vector.eq (N : Nat) (x0 : Int) (x1 : Int) : angle_Vector.fn N (x0, x1) =
    bif !(!(decide (x1 < 0))) || (!(decide (x1 < 0))) then
      bif (decide (x1 < 0)) || (!(decide (x1 < 0))) then
        bif (decide (x1 < 0)) || (decide (x1 > 2000000)) then
          some ((0, 0), 4)
        else
          (angle_Sin.fn N x0).bind fun r1 =>
          (angle_scaled.fn N (x1, r1)).bind fun r2 =>
          (angle_Cos.fn N x0).bind fun r3 =>
          (angle_scaled.fn N (x1, r3)).bind fun r4 =>
          some ((r2, r4), 0)
      else
        none
    else
      none := by kernel_rfl
theorem angle_Vector.clean (N : Nat) (x0 : Int) (x1 : Int) : angle_Vector.fn N (x0, x1) =
    bif (decide (x1 < 0)) || (decide (x1 > 2000000)) then
      some ((0, 0), 4)
    else
      (angle_Sin.fn N x0).bind fun r1 =>
      (angle_scaled.fn N (x1, r1)).bind fun r2 =>
      (angle_Cos.fn N x0).bind fun r3 =>
      (angle_scaled.fn N (x1, r3)).bind fun r4 =>
      some ((r2, r4), 0) := by
  rw [angle_Vector.eq]; simp only [taut3, taut6, cond_true]

/-! ### plane_Add: skyway/plane.Add -/
def plane_Add.kp : List (Nat × List (Nat × Option (TypeId × Ty))) := []
noncomputable def plane_Add.G (N : Nat) : List (Nat × Spec) := []
noncomputable def plane_Add.E (N : Nat) : Env := mkEnv (plane_Add.G N) N tyTab plane_Add.kp
noncomputable def plane_Add.fn (N : Nat) (x : (Int × Int) × Int × Int) : Option (Int × Int) := evFn (plane_Add.E N) Tryd.prog 3 Tryd.f47 false [.agg (.pair (.int .i64) (.int .i64)), .agg (.pair (.int .i64) (.int .i64))] [.val (.agg (.pair (.int .i64) (.int .i64)))] x
noncomputable def plane_Add.S (N : Nat) : PSpec := ⟨false, [.agg (.pair (.int .i64) (.int .i64)), .agg (.pair (.int .i64) (.int .i64))], [.val (.agg (.pair (.int .i64) (.int .i64)))], plane_Add.fn N⟩
theorem f47_enters : Enters Tryd.prog 47 := ⟨Tryd.f47, Tryd.func47, by kernel_rfl, by kernel_rfl⟩
theorem plane_Add.tab (N : Nat) : TabOk Tryd.prog (plane_Add.G N) := trivial
theorem plane_Add.enters : Enters Tryd.prog 47 := f47_enters
theorem plane_Add.sound (N : Nat) : Sound Tryd.prog 47 (plane_Add.S N) := evFn_sound (specs_tab (plane_Add.tab N)) (inls_tab (plane_Add.tab N)) mixed 3 Tryd.func47 _ _ _
theorem plane_Add.eq (N : Nat) (x0 : Int × Int) (x1 : Int × Int) : plane_Add.fn N (x0, x1) =
    some ((w (x0.1 + x1.1)), (w (x0.2 + x1.2))) := by kernel_rfl

/-! ### effect_up: skyway/effect.up -/
def effect_up.kp : List (Nat × List (Nat × Option (TypeId × Ty))) := []
noncomputable def effect_up.G (N : Nat) : List (Nat × Spec) := []
noncomputable def effect_up.E (N : Nat) : Env := mkEnv (effect_up.G N) N tyTab effect_up.kp
noncomputable def effect_up.fn (N : Nat) (x : Int × Int) : Option Int := evFn (effect_up.E N) Tryd.prog 3 Tryd.f48 false [.cell (.int .i64), .cell (.int .i64)] [.val (.cell (.int .i64))] x
noncomputable def effect_up.S (N : Nat) : PSpec := ⟨false, [.cell (.int .i64), .cell (.int .i64)], [.val (.cell (.int .i64))], effect_up.fn N⟩
theorem f48_enters : Enters Tryd.prog 48 := ⟨Tryd.f48, Tryd.func48, by kernel_rfl, by kernel_rfl⟩
theorem effect_up.tab (N : Nat) : TabOk Tryd.prog (effect_up.G N) := trivial
theorem effect_up.enters : Enters Tryd.prog 48 := f48_enters
theorem effect_up.sound (N : Nat) : Sound Tryd.prog 48 (effect_up.S N) := evFn_sound (specs_tab (effect_up.tab N)) (inls_tab (effect_up.tab N)) mixed 3 Tryd.func48 _ _ _
theorem effect_up.eq (N : Nat) (x0 : Int) (x1 : Int) : effect_up.fn N (x0, x1) =
    bif x1 != 0 then
      some (if (w (Int.tdiv (w ((w (x0 + x1)) - 1)) x1)) > 1 then (w (Int.tdiv (w ((w (x0 + x1)) - 1)) x1)) else 1)
    else
      none := by kernel_rfl

end Go.Proofs.YtnbkofkgdbhbpaaDoor.Sk
