/- PRINTED by gen.py: what the functions answer. Not trusted: Lean checks it. -/
import Derived.Test.YthkpnlfnplhgnaaGreatDoorSkAid
import Derived.Test.YthkpnlfnplhgnaaGreatDoorSkSqrt
import Derived.Test.YthkpnlfnplhgnaaGreatDoorSkIns71
set_option linter.unusedVariables false
set_option linter.unusedSimpArgs false
set_option maxRecDepth 100000
namespace Go.Proofs.YthkpnlfnplhgnaaGreatDoor.Sk
open Go
def tyTab : TypeId → Option Ty := tyOf [(3, .int .i64), (32, .sl 58 (.pair (.pair (.int .i64) (.pair (.pair (.int .i64) (.int .i64)) (.int .i64))) (.pair (.int .i64) (.int .i64)))), (44, .pair (.str) (.pair (.int .i64) (.pair (.int .i64) (.str)))), (58, .pair (.pair (.int .i64) (.pair (.pair (.int .i64) (.int .i64)) (.int .i64))) (.pair (.int .i64) (.int .i64))), (73, .pair (.int .i64) (.int .i64))]
theorem mixed : Tryz.prog.follows .mixedOrders = true := by kernel_rfl
/-! ### law_level: skyway/skywaylaw3.level -/
def law_level.kp : List (Nat × List (Nat × Option (TypeId × Ty))) := []
noncomputable def law_level.G (N : Nat) : List (Nat × Spec) := []
noncomputable def law_level.E (N : Nat) : Env := mkEnv (law_level.G N) N tyTab law_level.kp
noncomputable def law_level.fn (N : Nat) (x : Unit) : Option (List ((Int × (Int × Int) × Int) × Int × Int)) := evFn (law_level.E N) Tryz.prog 3 Tryz.f8 false [] [.own 58 (.pair (.pair (.int .i64) (.pair (.pair (.int .i64) (.int .i64)) (.int .i64))) (.pair (.int .i64) (.int .i64)))] x
noncomputable def law_level.S (N : Nat) : PSpec := ⟨false, [], [.own 58 (.pair (.pair (.int .i64) (.pair (.pair (.int .i64) (.int .i64)) (.int .i64))) (.pair (.int .i64) (.int .i64)))], law_level.fn N⟩
theorem f8_enters : Enters Tryz.prog 8 := ⟨Tryz.f8, Tryz.func8, by kernel_rfl, by kernel_rfl⟩
theorem law_level.tab (N : Nat) : TabOk Tryz.prog (law_level.G N) := trivial
theorem law_level.enters : Enters Tryz.prog 8 := f8_enters
theorem law_level.sound (N : Nat) : Sound Tryz.prog 8 (law_level.S N) := evFn_sound (specs_tab (law_level.tab N)) (inls_tab (law_level.tab N)) mixed 3 Tryz.func8 _ _ _
theorem law_level.eq (N : Nat) : law_level.fn N () =
    some [((0, ((0, 0), 9000)), (100, 50)), ((100, ((10000, 0), 9000)), (100, 50))] := by kernel_rfl

/-! ### law_jet: skyway/skywaylaw3.jet -/
def law_jet.kp : List (Nat × List (Nat × Option (TypeId × Ty))) := []
noncomputable def law_jet.G (N : Nat) : List (Nat × Spec) := []
noncomputable def law_jet.E (N : Nat) : Env := mkEnv (law_jet.G N) N tyTab law_jet.kp
noncomputable def law_jet.fn (N : Nat) (x : Unit) : Option (ByteArray × Int × Int × Int × Int × Int × Int) := evFn (law_jet.E N) Tryz.prog 3 Tryz.f9 false [] [.val (.agg (.pair (.str) (.pair (.int .i64) (.pair (.int .i64) (.pair (.int .i64) (.pair (.int .i64) (.pair (.int .i64) (.int .i64))))))))] x
noncomputable def law_jet.S (N : Nat) : PSpec := ⟨false, [], [.val (.agg (.pair (.str) (.pair (.int .i64) (.pair (.int .i64) (.pair (.int .i64) (.pair (.int .i64) (.pair (.int .i64) (.int .i64))))))))], law_jet.fn N⟩
theorem f9_enters : Enters Tryz.prog 9 := ⟨Tryz.f9, Tryz.func9, by kernel_rfl, by kernel_rfl⟩
theorem law_jet.tab (N : Nat) : TabOk Tryz.prog (law_jet.G N) := trivial
theorem law_jet.enters : Enters Tryz.prog 9 := f9_enters
theorem law_jet.sound (N : Nat) : Sound Tryz.prog 9 (law_jet.S N) := evFn_sound (specs_tab (law_jet.tab N)) (inls_tab (law_jet.tab N)) mixed 3 Tryz.func9 _ _ _
theorem law_jet.eq (N : Nat) : law_jet.fn N () =
    some ((⟨#[74, 69, 84]⟩ : ByteArray), (1, (40000, (50, (40, (50, 300)))))) := by kernel_rfl

/-! ### law_still: skyway/skywaylaw3.still -/
def law_still.kp : List (Nat × List (Nat × Option (TypeId × Ty))) := []
noncomputable def law_still.G (N : Nat) : List (Nat × Spec) := []
noncomputable def law_still.E (N : Nat) : Env := mkEnv (law_still.G N) N tyTab law_still.kp
noncomputable def law_still.fn (N : Nat) (x : Int) : Option (List ((Int × (Int × Int) × Int) × Int × Int)) := evFn (law_still.E N) Tryz.prog 3 Tryz.f11 false [.cell (.int .i64)] [.own 58 (.pair (.pair (.int .i64) (.pair (.pair (.int .i64) (.int .i64)) (.int .i64))) (.pair (.int .i64) (.int .i64)))] x
noncomputable def law_still.S (N : Nat) : PSpec := ⟨false, [.cell (.int .i64)], [.own 58 (.pair (.pair (.int .i64) (.pair (.pair (.int .i64) (.int .i64)) (.int .i64))) (.pair (.int .i64) (.int .i64)))], law_still.fn N⟩
theorem f11_enters : Enters Tryz.prog 11 := ⟨Tryz.f11, Tryz.func11, by kernel_rfl, by kernel_rfl⟩
theorem law_still.tab (N : Nat) : TabOk Tryz.prog (law_still.G N) := trivial
theorem law_still.enters : Enters Tryz.prog 11 := f11_enters
theorem law_still.sound (N : Nat) : Sound Tryz.prog 11 (law_still.S N) := evFn_sound (specs_tab (law_still.tab N)) (inls_tab (law_still.tab N)) mixed 3 Tryz.func11 _ _ _
theorem law_still.eq (N : Nat) (x0 : Int) : law_still.fn N x0 =
    some [((0, ((x0, 0), 0)), (0, 0)), ((10, ((x0, 0), 0)), (0, 0))] := by kernel_rfl

/-! ### plane_Check: skyway/plane.Check -/
def plane_Check.kp : List (Nat × List (Nat × Option (TypeId × Ty))) := []
noncomputable def plane_Check.G (N : Nat) : List (Nat × Spec) := []
noncomputable def plane_Check.E (N : Nat) : Env := mkEnv (plane_Check.G N) N tyTab plane_Check.kp
noncomputable def plane_Check.fn (N : Nat) (x : Int × Int) : Option Int := evFn (plane_Check.E N) Tryz.prog 3 Tryz.f27 false [.agg (.pair (.int .i64) (.int .i64))] [.val (.cell (.int .i64))] x
noncomputable def plane_Check.S (N : Nat) : PSpec := ⟨false, [.agg (.pair (.int .i64) (.int .i64))], [.val (.cell (.int .i64))], plane_Check.fn N⟩
theorem f27_enters : Enters Tryz.prog 27 := ⟨Tryz.f27, Tryz.func27, by kernel_rfl, by kernel_rfl⟩
theorem plane_Check.tab (N : Nat) : TabOk Tryz.prog (plane_Check.G N) := trivial
theorem plane_Check.enters : Enters Tryz.prog 27 := f27_enters
theorem plane_Check.sound (N : Nat) : Sound Tryz.prog 27 (plane_Check.S N) := evFn_sound (specs_tab (plane_Check.tab N)) (inls_tab (plane_Check.tab N)) mixed 3 Tryz.func27 _ _ _
theorem plane_Check.eq (N : Nat) (x0 : Int × Int) : plane_Check.fn N x0 =
    bif !(!(decide (x0.1 < (-1000000)))) || (!(decide (x0.1 < (-1000000)))) then
      bif !(!(decide (x0.1 < (-1000000)))) || (!(decide (x0.1 < (-1000000)))) then
        bif (decide (x0.1 < (-1000000))) || (!(decide (x0.1 < (-1000000)))) then
          bif !(!((decide (x0.1 < (-1000000))) || (decide (x0.1 > 1000000)))) || (!((decide (x0.1 < (-1000000))) || (decide (x0.1 > 1000000)))) then
            bif !(!((decide (x0.1 < (-1000000))) || (decide (x0.1 > 1000000)))) || (!((decide (x0.1 < (-1000000))) || (decide (x0.1 > 1000000)))) then
              bif ((decide (x0.1 < (-1000000))) || (decide (x0.1 > 1000000))) || (!((decide (x0.1 < (-1000000))) || (decide (x0.1 > 1000000)))) then
                bif !(!(((decide (x0.1 < (-1000000))) || (decide (x0.1 > 1000000))) || (decide (x0.2 < (-1000000))))) || (!(((decide (x0.1 < (-1000000))) || (decide (x0.1 > 1000000))) || (decide (x0.2 < (-1000000))))) then
                  bif !(!(((decide (x0.1 < (-1000000))) || (decide (x0.1 > 1000000))) || (decide (x0.2 < (-1000000))))) || (!(((decide (x0.1 < (-1000000))) || (decide (x0.1 > 1000000))) || (decide (x0.2 < (-1000000))))) then
                    bif (((decide (x0.1 < (-1000000))) || (decide (x0.1 > 1000000))) || (decide (x0.2 < (-1000000)))) || (!(((decide (x0.1 < (-1000000))) || (decide (x0.1 > 1000000))) || (decide (x0.2 < (-1000000))))) then
                      bif (((decide (x0.1 < (-1000000))) || (decide (x0.1 > 1000000))) || (decide (x0.2 < (-1000000)))) || (decide (x0.2 > 1000000)) then
                        some 4
                      else
                        some 0
                    else
                      none
                  else
                    none
                else
                  none
              else
                none
            else
              none
          else
            none
        else
          none
      else
        none
    else
      none := by kernel_rfl
theorem taut1 : ∀ p0 p1 p2 : Bool, ((!(!(((p0) || (p1)) || (p2))) || (!(((p0) || (p1)) || (p2))))) = true := by decide
theorem taut2 : ∀ p0 p1 : Bool, ((!(!((p0) || (p1))) || (!((p0) || (p1))))) = true := by decide
theorem taut3 : ∀ p0 : Bool, ((!(!(p0)) || (!(p0)))) = true := by decide
theorem taut4 : ∀ p0 p1 p2 : Bool, (((((p0) || (p1)) || (p2)) || (!(((p0) || (p1)) || (p2))))) = true := by decide
theorem taut5 : ∀ p0 p1 : Bool, ((((p0) || (p1)) || (!((p0) || (p1))))) = true := by decide
theorem taut6 : ∀ p0 : Bool, (((p0) || (!(p0)))) = true := by decide
theorem plane_Check.clean (N : Nat) (x0 : Int × Int) : plane_Check.fn N x0 =
    bif (((decide (x0.1 < (-1000000))) || (decide (x0.1 > 1000000))) || (decide (x0.2 < (-1000000)))) || (decide (x0.2 > 1000000)) then
      some 4
    else
      some 0 := by
  rw [plane_Check.eq]; simp only [taut1, taut2, taut3, taut4, taut5, taut6, cond_true]

/-! ### tube_Check: skyway/tube.Check -/
def tube_Check.kp : List (Nat × List (Nat × Option (TypeId × Ty))) := [(6, [(0, none), (14, none), (15, none), (16, none)])]
noncomputable def tube_Check.G (N : Nat) : List (Nat × Spec) := [(27, .pure (plane_Check.S N))]
noncomputable def tube_Check.E (N : Nat) : Env := mkEnv (tube_Check.G N) N tyTab tube_Check.kp
noncomputable def tube_Check.fn (N : Nat) (x : List ((Int × (Int × Int) × Int) × Int × Int)) : Option Int := evFn (tube_Check.E N) Tryz.prog 3 Tryz.f18 false [.cell (.sl 58 (.pair (.pair (.int .i64) (.pair (.pair (.int .i64) (.int .i64)) (.int .i64))) (.pair (.int .i64) (.int .i64))))] [.val (.cell (.int .i64))] x
noncomputable def tube_Check.S (N : Nat) : PSpec := ⟨false, [.cell (.sl 58 (.pair (.pair (.int .i64) (.pair (.pair (.int .i64) (.int .i64)) (.int .i64))) (.pair (.int .i64) (.int .i64))))], [.val (.cell (.int .i64))], tube_Check.fn N⟩
theorem f18_enters : Enters Tryz.prog 18 := ⟨Tryz.f18, Tryz.func18, by kernel_rfl, by kernel_rfl⟩
theorem tube_Check.tab (N : Nat) : TabOk Tryz.prog (tube_Check.G N) := ⟨⟨plane_Check.enters, plane_Check.sound N⟩, trivial⟩
theorem tube_Check.enters : Enters Tryz.prog 18 := f18_enters
theorem tube_Check.sound (N : Nat) : Sound Tryz.prog 18 (tube_Check.S N) := evFn_sound (specs_tab (tube_Check.tab N)) (inls_tab (tube_Check.tab N)) mixed 3 Tryz.func18 _ _ _
noncomputable def tube_Check.cd (N : Nat) (p : List Nat) : St → (Ex → St → Option Int) → Option Int := ev (tube_Check.E N) Tryz.prog (callD (tube_Check.E N) Tryz.prog 3) 0 (codeAt (bodyOf Tryz.f18) p)
noncomputable def tube_Check.fin : Ex → St → Option Int := endK Tryz.prog Tryz.f18 [.val (.cell (.int .i64))]
noncomputable def tube_Check.l0 (N : Nat) (x0 : List ((Int × (Int × Int) × Int) × Int × Int)) (k1 : Nat) (a2 : Int) : Option Int :=
  loopN (norm ((tube_Check.E N).keep 6) 0) (tube_Check.cd N [1, 1, 0, 1, 0, 0]) k1
  ⟨[.ros false 58 (.pair (.pair (.int .i64) (.pair (.pair (.int .i64) (.int .i64)) (.int .i64))) (.pair (.int .i64) (.int .i64))) x0, .any, .any, .any, .any, .any, .any, .any, .any, .any, .any, .any, .any, .any, .ros false 58 (.pair (.pair (.int .i64) (.pair (.pair (.int .i64) (.int .i64)) (.int .i64))) (.pair (.int .i64) (.int .i64))) x0, .sc (.int .i64 (x0.length : Int)), .sc (.int .i64 a2), .any, .any, .any, .any, .any, .any, .any, .any, .any, .any, .any, .any, .any, .any, .any, .any, .any, .any, .any, .any, .any, .any, .any, .any, .any, .any, .any, .any, .any, .any, .any, .any, .any, .any, .any, .any, .any, .any, .any, .any, .any, .any, .any, .any, .any, .any, .any, .any, .any, .any, .any, .any, .any, .any, .any, .any, .any, .any, .any, .any, .any, .any, .any, .any, .any, .any, .any, .any, .any], []⟩
  (blockK 1 (seqK (tube_Check.cd N [1, 1, 1]) tube_Check.fin))
theorem tube_Check.l0_zero (N : Nat) (x0 : List ((Int × (Int × Int) × Int) × Int × Int)) (a2 : Int) : tube_Check.l0 N x0 0 a2 = none := by kernel_rfl
theorem tube_Check.l0_succ (N : Nat) (x0 : List ((Int × (Int × Int) × Int) × Int × Int)) (k1 : Nat) (a2 : Int) : tube_Check.l0 N x0 (k1 + 1) a2 =
    bif decide (a2 < (x0.length : Int)) then
      bif (decide (0 ≤ a2)) && (decide (a2 < (x0.length : Int))) then
        bif !(!(decide ((((List.getD x0 (Int.toNat a2) ((0, ((0, 0), 0)), (0, 0))).1).1) < 0))) || (!(decide ((((List.getD x0 (Int.toNat a2) ((0, ((0, 0), 0)), (0, 0))).1).1) < 0))) then
          bif !(!(decide ((((List.getD x0 (Int.toNat a2) ((0, ((0, 0), 0)), (0, 0))).1).1) < 0))) || (!(decide ((((List.getD x0 (Int.toNat a2) ((0, ((0, 0), 0)), (0, 0))).1).1) < 0))) then
            bif !(!(decide ((((List.getD x0 (Int.toNat a2) ((0, ((0, 0), 0)), (0, 0))).1).1) < 0))) || (!(decide ((((List.getD x0 (Int.toNat a2) ((0, ((0, 0), 0)), (0, 0))).1).1) < 0))) then
              bif (decide ((((List.getD x0 (Int.toNat a2) ((0, ((0, 0), 0)), (0, 0))).1).1) < 0)) || (!(decide ((((List.getD x0 (Int.toNat a2) ((0, ((0, 0), 0)), (0, 0))).1).1) < 0))) then
                bif !(!((decide ((((List.getD x0 (Int.toNat a2) ((0, ((0, 0), 0)), (0, 0))).1).1) < 0)) || (decide ((((List.getD x0 (Int.toNat a2) ((0, ((0, 0), 0)), (0, 0))).1).1) > 200000)))) || (!((decide ((((List.getD x0 (Int.toNat a2) ((0, ((0, 0), 0)), (0, 0))).1).1) < 0)) || (decide ((((List.getD x0 (Int.toNat a2) ((0, ((0, 0), 0)), (0, 0))).1).1) > 200000)))) then
                  bif !(!((decide ((((List.getD x0 (Int.toNat a2) ((0, ((0, 0), 0)), (0, 0))).1).1) < 0)) || (decide ((((List.getD x0 (Int.toNat a2) ((0, ((0, 0), 0)), (0, 0))).1).1) > 200000)))) || (!((decide ((((List.getD x0 (Int.toNat a2) ((0, ((0, 0), 0)), (0, 0))).1).1) < 0)) || (decide ((((List.getD x0 (Int.toNat a2) ((0, ((0, 0), 0)), (0, 0))).1).1) > 200000)))) then
                    bif !((!((decide ((((List.getD x0 (Int.toNat a2) ((0, ((0, 0), 0)), (0, 0))).1).1) < 0)) || (decide ((((List.getD x0 (Int.toNat a2) ((0, ((0, 0), 0)), (0, 0))).1).1) > 200000)))) && (decide (a2 > 0))) || ((!((decide ((((List.getD x0 (Int.toNat a2) ((0, ((0, 0), 0)), (0, 0))).1).1) < 0)) || (decide ((((List.getD x0 (Int.toNat a2) ((0, ((0, 0), 0)), (0, 0))).1).1) > 200000)))) && (decide (a2 > 0))) then
                      bif !((!((decide ((((List.getD x0 (Int.toNat a2) ((0, ((0, 0), 0)), (0, 0))).1).1) < 0)) || (decide ((((List.getD x0 (Int.toNat a2) ((0, ((0, 0), 0)), (0, 0))).1).1) > 200000)))) && (decide (a2 > 0))) || ((!((decide ((((List.getD x0 (Int.toNat a2) ((0, ((0, 0), 0)), (0, 0))).1).1) < 0)) || (decide ((((List.getD x0 (Int.toNat a2) ((0, ((0, 0), 0)), (0, 0))).1).1) > 200000)))) && (decide (a2 > 0))) then
                        bif !((!((decide ((((List.getD x0 (Int.toNat a2) ((0, ((0, 0), 0)), (0, 0))).1).1) < 0)) || (decide ((((List.getD x0 (Int.toNat a2) ((0, ((0, 0), 0)), (0, 0))).1).1) > 200000)))) && (decide (a2 > 0))) || ((!((decide ((((List.getD x0 (Int.toNat a2) ((0, ((0, 0), 0)), (0, 0))).1).1) < 0)) || (decide ((((List.getD x0 (Int.toNat a2) ((0, ((0, 0), 0)), (0, 0))).1).1) > 200000)))) && (decide (a2 > 0))) then
                          bif !((!((decide ((((List.getD x0 (Int.toNat a2) ((0, ((0, 0), 0)), (0, 0))).1).1) < 0)) || (decide ((((List.getD x0 (Int.toNat a2) ((0, ((0, 0), 0)), (0, 0))).1).1) > 200000)))) && (decide (a2 > 0))) || ((!((decide ((((List.getD x0 (Int.toNat a2) ((0, ((0, 0), 0)), (0, 0))).1).1) < 0)) || (decide ((((List.getD x0 (Int.toNat a2) ((0, ((0, 0), 0)), (0, 0))).1).1) > 200000)))) && (decide (a2 > 0))) then
                            bif !((!((decide ((((List.getD x0 (Int.toNat a2) ((0, ((0, 0), 0)), (0, 0))).1).1) < 0)) || (decide ((((List.getD x0 (Int.toNat a2) ((0, ((0, 0), 0)), (0, 0))).1).1) > 200000)))) && (decide (a2 > 0))) || ((!((decide ((((List.getD x0 (Int.toNat a2) ((0, ((0, 0), 0)), (0, 0))).1).1) < 0)) || (decide ((((List.getD x0 (Int.toNat a2) ((0, ((0, 0), 0)), (0, 0))).1).1) > 200000)))) && (decide (a2 > 0))) then
                              bif ((decide (0 ≤ (w (a2 - 1)))) && (decide ((w (a2 - 1)) < (x0.length : Int)))) || !((!((decide ((((List.getD x0 (Int.toNat a2) ((0, ((0, 0), 0)), (0, 0))).1).1) < 0)) || (decide ((((List.getD x0 (Int.toNat a2) ((0, ((0, 0), 0)), (0, 0))).1).1) > 200000)))) && (decide (a2 > 0))) then
                                bif !((!((decide ((((List.getD x0 (Int.toNat a2) ((0, ((0, 0), 0)), (0, 0))).1).1) < 0)) || (decide ((((List.getD x0 (Int.toNat a2) ((0, ((0, 0), 0)), (0, 0))).1).1) > 200000)))) && (decide (a2 > 0))) || ((!((decide ((((List.getD x0 (Int.toNat a2) ((0, ((0, 0), 0)), (0, 0))).1).1) < 0)) || (decide ((((List.getD x0 (Int.toNat a2) ((0, ((0, 0), 0)), (0, 0))).1).1) > 200000)))) && (decide (a2 > 0))) then
                                  bif !((!((decide ((((List.getD x0 (Int.toNat a2) ((0, ((0, 0), 0)), (0, 0))).1).1) < 0)) || (decide ((((List.getD x0 (Int.toNat a2) ((0, ((0, 0), 0)), (0, 0))).1).1) > 200000)))) && (decide (a2 > 0))) || ((!((decide ((((List.getD x0 (Int.toNat a2) ((0, ((0, 0), 0)), (0, 0))).1).1) < 0)) || (decide ((((List.getD x0 (Int.toNat a2) ((0, ((0, 0), 0)), (0, 0))).1).1) > 200000)))) && (decide (a2 > 0))) then
                                    bif !((!((decide ((((List.getD x0 (Int.toNat a2) ((0, ((0, 0), 0)), (0, 0))).1).1) < 0)) || (decide ((((List.getD x0 (Int.toNat a2) ((0, ((0, 0), 0)), (0, 0))).1).1) > 200000)))) && (decide (a2 > 0))) || ((!((decide ((((List.getD x0 (Int.toNat a2) ((0, ((0, 0), 0)), (0, 0))).1).1) < 0)) || (decide ((((List.getD x0 (Int.toNat a2) ((0, ((0, 0), 0)), (0, 0))).1).1) > 200000)))) && (decide (a2 > 0))) then
                                      bif !((!((decide ((((List.getD x0 (Int.toNat a2) ((0, ((0, 0), 0)), (0, 0))).1).1) < 0)) || (decide ((((List.getD x0 (Int.toNat a2) ((0, ((0, 0), 0)), (0, 0))).1).1) > 200000)))) && (decide (a2 > 0))) || ((!((decide ((((List.getD x0 (Int.toNat a2) ((0, ((0, 0), 0)), (0, 0))).1).1) < 0)) || (decide ((((List.getD x0 (Int.toNat a2) ((0, ((0, 0), 0)), (0, 0))).1).1) > 200000)))) && (decide (a2 > 0))) then
                                        bif !((!((decide ((((List.getD x0 (Int.toNat a2) ((0, ((0, 0), 0)), (0, 0))).1).1) < 0)) || (decide ((((List.getD x0 (Int.toNat a2) ((0, ((0, 0), 0)), (0, 0))).1).1) > 200000)))) && (decide (a2 > 0))) || ((!((decide ((((List.getD x0 (Int.toNat a2) ((0, ((0, 0), 0)), (0, 0))).1).1) < 0)) || (decide ((((List.getD x0 (Int.toNat a2) ((0, ((0, 0), 0)), (0, 0))).1).1) > 200000)))) && (decide (a2 > 0))) then
                                          bif !(!((decide ((((List.getD x0 (Int.toNat a2) ((0, ((0, 0), 0)), (0, 0))).1).1) < 0)) || (decide ((((List.getD x0 (Int.toNat a2) ((0, ((0, 0), 0)), (0, 0))).1).1) > 200000)))) || (!((decide ((((List.getD x0 (Int.toNat a2) ((0, ((0, 0), 0)), (0, 0))).1).1) < 0)) || (decide ((((List.getD x0 (Int.toNat a2) ((0, ((0, 0), 0)), (0, 0))).1).1) > 200000)))) then
                                            bif !(!((decide ((((List.getD x0 (Int.toNat a2) ((0, ((0, 0), 0)), (0, 0))).1).1) < 0)) || (decide ((((List.getD x0 (Int.toNat a2) ((0, ((0, 0), 0)), (0, 0))).1).1) > 200000)))) || ((!(decide (a2 > 0))) || ((!((decide ((((List.getD x0 (Int.toNat a2) ((0, ((0, 0), 0)), (0, 0))).1).1) < 0)) || (decide ((((List.getD x0 (Int.toNat a2) ((0, ((0, 0), 0)), (0, 0))).1).1) > 200000)))) && (decide (a2 > 0)))) then
                                              bif ((decide ((((List.getD x0 (Int.toNat a2) ((0, ((0, 0), 0)), (0, 0))).1).1) < 0)) || (decide ((((List.getD x0 (Int.toNat a2) ((0, ((0, 0), 0)), (0, 0))).1).1) > 200000))) || (!((decide ((((List.getD x0 (Int.toNat a2) ((0, ((0, 0), 0)), (0, 0))).1).1) < 0)) || (decide ((((List.getD x0 (Int.toNat a2) ((0, ((0, 0), 0)), (0, 0))).1).1) > 200000)))) then
                                                bif ((decide ((((List.getD x0 (Int.toNat a2) ((0, ((0, 0), 0)), (0, 0))).1).1) < 0)) || (decide ((((List.getD x0 (Int.toNat a2) ((0, ((0, 0), 0)), (0, 0))).1).1) > 200000))) || ((decide (a2 > 0)) && (decide ((((List.getD x0 (Int.toNat a2) ((0, ((0, 0), 0)), (0, 0))).1).1) ≤ (((List.getD x0 (Int.toNat (w (a2 - 1))) ((0, ((0, 0), 0)), (0, 0))).1).1)))) then
                                                  some 12
                                                else
                                                  (plane_Check.fn N ((((List.getD x0 (Int.toNat a2) ((0, ((0, 0), 0)), (0, 0))).1).2).1)).bind fun r3 =>
                                                  bif !(r3 == 0) then
                                                    some r3
                                                  else
                                                  bif !(!(decide (((((List.getD x0 (Int.toNat a2) ((0, ((0, 0), 0)), (0, 0))).1).2).2) < 0))) || (!(decide (((((List.getD x0 (Int.toNat a2) ((0, ((0, 0), 0)), (0, 0))).1).2).2) < 0))) then
                                                    bif !(!(decide (((((List.getD x0 (Int.toNat a2) ((0, ((0, 0), 0)), (0, 0))).1).2).2) < 0))) || (!(decide (((((List.getD x0 (Int.toNat a2) ((0, ((0, 0), 0)), (0, 0))).1).2).2) < 0))) then
                                                      bif !(!(decide (((((List.getD x0 (Int.toNat a2) ((0, ((0, 0), 0)), (0, 0))).1).2).2) < 0))) || (!(decide (((((List.getD x0 (Int.toNat a2) ((0, ((0, 0), 0)), (0, 0))).1).2).2) < 0))) then
                                                        bif (decide (((((List.getD x0 (Int.toNat a2) ((0, ((0, 0), 0)), (0, 0))).1).2).2) < 0)) || (!(decide (((((List.getD x0 (Int.toNat a2) ((0, ((0, 0), 0)), (0, 0))).1).2).2) < 0))) then
                                                          bif !(!((decide (((((List.getD x0 (Int.toNat a2) ((0, ((0, 0), 0)), (0, 0))).1).2).2) < 0)) || (decide (((((List.getD x0 (Int.toNat a2) ((0, ((0, 0), 0)), (0, 0))).1).2).2) > 60000)))) || (!((decide (((((List.getD x0 (Int.toNat a2) ((0, ((0, 0), 0)), (0, 0))).1).2).2) < 0)) || (decide (((((List.getD x0 (Int.toNat a2) ((0, ((0, 0), 0)), (0, 0))).1).2).2) > 60000)))) then
                                                            bif !(!((decide (((((List.getD x0 (Int.toNat a2) ((0, ((0, 0), 0)), (0, 0))).1).2).2) < 0)) || (decide (((((List.getD x0 (Int.toNat a2) ((0, ((0, 0), 0)), (0, 0))).1).2).2) > 60000)))) || (!((decide (((((List.getD x0 (Int.toNat a2) ((0, ((0, 0), 0)), (0, 0))).1).2).2) < 0)) || (decide (((((List.getD x0 (Int.toNat a2) ((0, ((0, 0), 0)), (0, 0))).1).2).2) > 60000)))) then
                                                              bif ((decide (((((List.getD x0 (Int.toNat a2) ((0, ((0, 0), 0)), (0, 0))).1).2).2) < 0)) || (decide (((((List.getD x0 (Int.toNat a2) ((0, ((0, 0), 0)), (0, 0))).1).2).2) > 60000))) || (!((decide (((((List.getD x0 (Int.toNat a2) ((0, ((0, 0), 0)), (0, 0))).1).2).2) < 0)) || (decide (((((List.getD x0 (Int.toNat a2) ((0, ((0, 0), 0)), (0, 0))).1).2).2) > 60000)))) then
                                                                bif !(!(((decide (((((List.getD x0 (Int.toNat a2) ((0, ((0, 0), 0)), (0, 0))).1).2).2) < 0)) || (decide (((((List.getD x0 (Int.toNat a2) ((0, ((0, 0), 0)), (0, 0))).1).2).2) > 60000))) || (decide ((((List.getD x0 (Int.toNat a2) ((0, ((0, 0), 0)), (0, 0))).2).1) < 0)))) || (!(((decide (((((List.getD x0 (Int.toNat a2) ((0, ((0, 0), 0)), (0, 0))).1).2).2) < 0)) || (decide (((((List.getD x0 (Int.toNat a2) ((0, ((0, 0), 0)), (0, 0))).1).2).2) > 60000))) || (decide ((((List.getD x0 (Int.toNat a2) ((0, ((0, 0), 0)), (0, 0))).2).1) < 0)))) then
                                                                  bif !(!(((decide (((((List.getD x0 (Int.toNat a2) ((0, ((0, 0), 0)), (0, 0))).1).2).2) < 0)) || (decide (((((List.getD x0 (Int.toNat a2) ((0, ((0, 0), 0)), (0, 0))).1).2).2) > 60000))) || (decide ((((List.getD x0 (Int.toNat a2) ((0, ((0, 0), 0)), (0, 0))).2).1) < 0)))) || (!(((decide (((((List.getD x0 (Int.toNat a2) ((0, ((0, 0), 0)), (0, 0))).1).2).2) < 0)) || (decide (((((List.getD x0 (Int.toNat a2) ((0, ((0, 0), 0)), (0, 0))).1).2).2) > 60000))) || (decide ((((List.getD x0 (Int.toNat a2) ((0, ((0, 0), 0)), (0, 0))).2).1) < 0)))) then
                                                                    bif (((decide (((((List.getD x0 (Int.toNat a2) ((0, ((0, 0), 0)), (0, 0))).1).2).2) < 0)) || (decide (((((List.getD x0 (Int.toNat a2) ((0, ((0, 0), 0)), (0, 0))).1).2).2) > 60000))) || (decide ((((List.getD x0 (Int.toNat a2) ((0, ((0, 0), 0)), (0, 0))).2).1) < 0))) || (!(((decide (((((List.getD x0 (Int.toNat a2) ((0, ((0, 0), 0)), (0, 0))).1).2).2) < 0)) || (decide (((((List.getD x0 (Int.toNat a2) ((0, ((0, 0), 0)), (0, 0))).1).2).2) > 60000))) || (decide ((((List.getD x0 (Int.toNat a2) ((0, ((0, 0), 0)), (0, 0))).2).1) < 0)))) then
                                                                      bif !(!((((decide (((((List.getD x0 (Int.toNat a2) ((0, ((0, 0), 0)), (0, 0))).1).2).2) < 0)) || (decide (((((List.getD x0 (Int.toNat a2) ((0, ((0, 0), 0)), (0, 0))).1).2).2) > 60000))) || (decide ((((List.getD x0 (Int.toNat a2) ((0, ((0, 0), 0)), (0, 0))).2).1) < 0))) || (decide ((((List.getD x0 (Int.toNat a2) ((0, ((0, 0), 0)), (0, 0))).2).1) > 1000000)))) || (!((((decide (((((List.getD x0 (Int.toNat a2) ((0, ((0, 0), 0)), (0, 0))).1).2).2) < 0)) || (decide (((((List.getD x0 (Int.toNat a2) ((0, ((0, 0), 0)), (0, 0))).1).2).2) > 60000))) || (decide ((((List.getD x0 (Int.toNat a2) ((0, ((0, 0), 0)), (0, 0))).2).1) < 0))) || (decide ((((List.getD x0 (Int.toNat a2) ((0, ((0, 0), 0)), (0, 0))).2).1) > 1000000)))) then
                                                                        bif !(!((((decide (((((List.getD x0 (Int.toNat a2) ((0, ((0, 0), 0)), (0, 0))).1).2).2) < 0)) || (decide (((((List.getD x0 (Int.toNat a2) ((0, ((0, 0), 0)), (0, 0))).1).2).2) > 60000))) || (decide ((((List.getD x0 (Int.toNat a2) ((0, ((0, 0), 0)), (0, 0))).2).1) < 0))) || (decide ((((List.getD x0 (Int.toNat a2) ((0, ((0, 0), 0)), (0, 0))).2).1) > 1000000)))) || (!((((decide (((((List.getD x0 (Int.toNat a2) ((0, ((0, 0), 0)), (0, 0))).1).2).2) < 0)) || (decide (((((List.getD x0 (Int.toNat a2) ((0, ((0, 0), 0)), (0, 0))).1).2).2) > 60000))) || (decide ((((List.getD x0 (Int.toNat a2) ((0, ((0, 0), 0)), (0, 0))).2).1) < 0))) || (decide ((((List.getD x0 (Int.toNat a2) ((0, ((0, 0), 0)), (0, 0))).2).1) > 1000000)))) then
                                                                          bif ((((decide (((((List.getD x0 (Int.toNat a2) ((0, ((0, 0), 0)), (0, 0))).1).2).2) < 0)) || (decide (((((List.getD x0 (Int.toNat a2) ((0, ((0, 0), 0)), (0, 0))).1).2).2) > 60000))) || (decide ((((List.getD x0 (Int.toNat a2) ((0, ((0, 0), 0)), (0, 0))).2).1) < 0))) || (decide ((((List.getD x0 (Int.toNat a2) ((0, ((0, 0), 0)), (0, 0))).2).1) > 1000000))) || (!((((decide (((((List.getD x0 (Int.toNat a2) ((0, ((0, 0), 0)), (0, 0))).1).2).2) < 0)) || (decide (((((List.getD x0 (Int.toNat a2) ((0, ((0, 0), 0)), (0, 0))).1).2).2) > 60000))) || (decide ((((List.getD x0 (Int.toNat a2) ((0, ((0, 0), 0)), (0, 0))).2).1) < 0))) || (decide ((((List.getD x0 (Int.toNat a2) ((0, ((0, 0), 0)), (0, 0))).2).1) > 1000000)))) then
                                                                            bif !(!(((((decide (((((List.getD x0 (Int.toNat a2) ((0, ((0, 0), 0)), (0, 0))).1).2).2) < 0)) || (decide (((((List.getD x0 (Int.toNat a2) ((0, ((0, 0), 0)), (0, 0))).1).2).2) > 60000))) || (decide ((((List.getD x0 (Int.toNat a2) ((0, ((0, 0), 0)), (0, 0))).2).1) < 0))) || (decide ((((List.getD x0 (Int.toNat a2) ((0, ((0, 0), 0)), (0, 0))).2).1) > 1000000))) || (decide ((((List.getD x0 (Int.toNat a2) ((0, ((0, 0), 0)), (0, 0))).2).2) < 0)))) || (!(((((decide (((((List.getD x0 (Int.toNat a2) ((0, ((0, 0), 0)), (0, 0))).1).2).2) < 0)) || (decide (((((List.getD x0 (Int.toNat a2) ((0, ((0, 0), 0)), (0, 0))).1).2).2) > 60000))) || (decide ((((List.getD x0 (Int.toNat a2) ((0, ((0, 0), 0)), (0, 0))).2).1) < 0))) || (decide ((((List.getD x0 (Int.toNat a2) ((0, ((0, 0), 0)), (0, 0))).2).1) > 1000000))) || (decide ((((List.getD x0 (Int.toNat a2) ((0, ((0, 0), 0)), (0, 0))).2).2) < 0)))) then
                                                                              bif !(!(((((decide (((((List.getD x0 (Int.toNat a2) ((0, ((0, 0), 0)), (0, 0))).1).2).2) < 0)) || (decide (((((List.getD x0 (Int.toNat a2) ((0, ((0, 0), 0)), (0, 0))).1).2).2) > 60000))) || (decide ((((List.getD x0 (Int.toNat a2) ((0, ((0, 0), 0)), (0, 0))).2).1) < 0))) || (decide ((((List.getD x0 (Int.toNat a2) ((0, ((0, 0), 0)), (0, 0))).2).1) > 1000000))) || (decide ((((List.getD x0 (Int.toNat a2) ((0, ((0, 0), 0)), (0, 0))).2).2) < 0)))) || (!(((((decide (((((List.getD x0 (Int.toNat a2) ((0, ((0, 0), 0)), (0, 0))).1).2).2) < 0)) || (decide (((((List.getD x0 (Int.toNat a2) ((0, ((0, 0), 0)), (0, 0))).1).2).2) > 60000))) || (decide ((((List.getD x0 (Int.toNat a2) ((0, ((0, 0), 0)), (0, 0))).2).1) < 0))) || (decide ((((List.getD x0 (Int.toNat a2) ((0, ((0, 0), 0)), (0, 0))).2).1) > 1000000))) || (decide ((((List.getD x0 (Int.toNat a2) ((0, ((0, 0), 0)), (0, 0))).2).2) < 0)))) then
                                                                                bif (((((decide (((((List.getD x0 (Int.toNat a2) ((0, ((0, 0), 0)), (0, 0))).1).2).2) < 0)) || (decide (((((List.getD x0 (Int.toNat a2) ((0, ((0, 0), 0)), (0, 0))).1).2).2) > 60000))) || (decide ((((List.getD x0 (Int.toNat a2) ((0, ((0, 0), 0)), (0, 0))).2).1) < 0))) || (decide ((((List.getD x0 (Int.toNat a2) ((0, ((0, 0), 0)), (0, 0))).2).1) > 1000000))) || (decide ((((List.getD x0 (Int.toNat a2) ((0, ((0, 0), 0)), (0, 0))).2).2) < 0))) || (!(((((decide (((((List.getD x0 (Int.toNat a2) ((0, ((0, 0), 0)), (0, 0))).1).2).2) < 0)) || (decide (((((List.getD x0 (Int.toNat a2) ((0, ((0, 0), 0)), (0, 0))).1).2).2) > 60000))) || (decide ((((List.getD x0 (Int.toNat a2) ((0, ((0, 0), 0)), (0, 0))).2).1) < 0))) || (decide ((((List.getD x0 (Int.toNat a2) ((0, ((0, 0), 0)), (0, 0))).2).1) > 1000000))) || (decide ((((List.getD x0 (Int.toNat a2) ((0, ((0, 0), 0)), (0, 0))).2).2) < 0)))) then
                                                                                  bif (((((decide (((((List.getD x0 (Int.toNat a2) ((0, ((0, 0), 0)), (0, 0))).1).2).2) < 0)) || (decide (((((List.getD x0 (Int.toNat a2) ((0, ((0, 0), 0)), (0, 0))).1).2).2) > 60000))) || (decide ((((List.getD x0 (Int.toNat a2) ((0, ((0, 0), 0)), (0, 0))).2).1) < 0))) || (decide ((((List.getD x0 (Int.toNat a2) ((0, ((0, 0), 0)), (0, 0))).2).1) > 1000000))) || (decide ((((List.getD x0 (Int.toNat a2) ((0, ((0, 0), 0)), (0, 0))).2).2) < 0))) || (decide ((((List.getD x0 (Int.toNat a2) ((0, ((0, 0), 0)), (0, 0))).2).2) > 60000)) then
                                                                                    some 4
                                                                                  else
                                                                                    tube_Check.l0 N x0 k1 (w (a2 + 1))
                                                                                else
                                                                                  none
                                                                              else
                                                                                none
                                                                            else
                                                                              none
                                                                          else
                                                                            none
                                                                        else
                                                                          none
                                                                      else
                                                                        none
                                                                    else
                                                                      none
                                                                  else
                                                                    none
                                                                else
                                                                  none
                                                              else
                                                                none
                                                            else
                                                              none
                                                          else
                                                            none
                                                        else
                                                          none
                                                      else
                                                        none
                                                    else
                                                      none
                                                  else
                                                    none
                                              else
                                                none
                                            else
                                              none
                                          else
                                            none
                                        else
                                          none
                                      else
                                        none
                                    else
                                      none
                                  else
                                    none
                                else
                                  none
                              else
                                none
                            else
                              none
                          else
                            none
                        else
                          none
                      else
                        none
                    else
                      none
                  else
                    none
                else
                  none
              else
                none
            else
              none
          else
            none
        else
          none
      else
        none
    else
      some 0 := by kernel_rfl
theorem taut7 : ∀ p0 p1 p2 p3 p4 : Bool, ((!(!(((((p0) || (p1)) || (p2)) || (p3)) || (p4))) || (!(((((p0) || (p1)) || (p2)) || (p3)) || (p4))))) = true := by decide
theorem taut8 : ∀ p0 p1 p2 p3 : Bool, ((!(!((((p0) || (p1)) || (p2)) || (p3))) || (!((((p0) || (p1)) || (p2)) || (p3))))) = true := by decide
theorem taut9 : ∀ p0 p1 p2 : Bool, ((!(!((p0) || (p1))) || ((!(p2)) || ((!((p0) || (p1))) && (p2))))) = true := by decide
theorem taut10 : ∀ p0 p1 p2 : Bool, ((!((!((p0) || (p1))) && (p2)) || ((!((p0) || (p1))) && (p2)))) = true := by decide
theorem taut11 : ∀ p0 p1 p2 p3 p4 : Bool, (((((((p0) || (p1)) || (p2)) || (p3)) || (p4)) || (!(((((p0) || (p1)) || (p2)) || (p3)) || (p4))))) = true := by decide
theorem taut12 : ∀ p0 p1 p2 p3 : Bool, ((((((p0) || (p1)) || (p2)) || (p3)) || (!((((p0) || (p1)) || (p2)) || (p3))))) = true := by decide
theorem tube_Check.l0_clean (N : Nat) (x0 : List ((Int × (Int × Int) × Int) × Int × Int)) (k1 : Nat) (a2 : Int) : tube_Check.l0 N x0 (k1 + 1) a2 =
    bif decide (a2 < (x0.length : Int)) then
      bif (decide (0 ≤ a2)) && (decide (a2 < (x0.length : Int))) then
        bif ((decide (0 ≤ (w (a2 - 1)))) && (decide ((w (a2 - 1)) < (x0.length : Int)))) || !((!((decide ((((List.getD x0 (Int.toNat a2) ((0, ((0, 0), 0)), (0, 0))).1).1) < 0)) || (decide ((((List.getD x0 (Int.toNat a2) ((0, ((0, 0), 0)), (0, 0))).1).1) > 200000)))) && (decide (a2 > 0))) then
          bif ((decide ((((List.getD x0 (Int.toNat a2) ((0, ((0, 0), 0)), (0, 0))).1).1) < 0)) || (decide ((((List.getD x0 (Int.toNat a2) ((0, ((0, 0), 0)), (0, 0))).1).1) > 200000))) || ((decide (a2 > 0)) && (decide ((((List.getD x0 (Int.toNat a2) ((0, ((0, 0), 0)), (0, 0))).1).1) ≤ (((List.getD x0 (Int.toNat (w (a2 - 1))) ((0, ((0, 0), 0)), (0, 0))).1).1)))) then
            some 12
          else
            (plane_Check.fn N ((((List.getD x0 (Int.toNat a2) ((0, ((0, 0), 0)), (0, 0))).1).2).1)).bind fun r3 =>
            bif !(r3 == 0) then
              some r3
            else
            bif (((((decide (((((List.getD x0 (Int.toNat a2) ((0, ((0, 0), 0)), (0, 0))).1).2).2) < 0)) || (decide (((((List.getD x0 (Int.toNat a2) ((0, ((0, 0), 0)), (0, 0))).1).2).2) > 60000))) || (decide ((((List.getD x0 (Int.toNat a2) ((0, ((0, 0), 0)), (0, 0))).2).1) < 0))) || (decide ((((List.getD x0 (Int.toNat a2) ((0, ((0, 0), 0)), (0, 0))).2).1) > 1000000))) || (decide ((((List.getD x0 (Int.toNat a2) ((0, ((0, 0), 0)), (0, 0))).2).2) < 0))) || (decide ((((List.getD x0 (Int.toNat a2) ((0, ((0, 0), 0)), (0, 0))).2).2) > 60000)) then
              some 4
            else
              tube_Check.l0 N x0 k1 (w (a2 + 1))
        else
          none
      else
        none
    else
      some 0 := by
  rw [tube_Check.l0_succ]; simp only [taut7, taut8, taut1, taut2, taut9, taut3, taut10, taut11, taut12, taut4, taut5, taut6, cond_true]
theorem tube_Check.l0_cons (N : Nat) (x0 : List ((Int × (Int × Int) × Int) × Int × Int)) (k1 : Nat) {pre r} {x} (hl : x0 = pre ++ x :: r) (hb : x0.length < 4611686018427387904) : tube_Check.l0 N x0 (k1 + 1) (pre.length : Int) =
    bif ((decide (0 ≤ (w ((pre.length : Int) - 1)))) && (decide ((w ((pre.length : Int) - 1)) < (x0.length : Int)))) || !((!((decide (((x.1).1) < 0)) || (decide (((x.1).1) > 200000)))) && (decide ((pre.length : Int) > 0))) then
      bif ((decide (((x.1).1) < 0)) || (decide (((x.1).1) > 200000))) || ((decide ((pre.length : Int) > 0)) && (decide (((x.1).1) ≤ (((List.getD x0 (Int.toNat (w ((pre.length : Int) - 1))) ((0, ((0, 0), 0)), (0, 0))).1).1)))) then
        some 12
      else
        (plane_Check.fn N (((x.1).2).1)).bind fun r3 =>
        bif !(r3 == 0) then
          some r3
        else
        bif (((((decide ((((x.1).2).2) < 0)) || (decide ((((x.1).2).2) > 60000))) || (decide (((x.2).1) < 0))) || (decide (((x.2).1) > 1000000))) || (decide (((x.2).2) < 0))) || (decide (((x.2).2) > 60000)) then
          some 4
        else
          tube_Check.l0 N x0 k1 ((pre.length : Int) + 1)
    else
      none := by
  have hlen : x0.length = pre.length + 1 + r.length := by rw [hl]; simp; omega
  have e1 : decide ((pre.length : Int) < (x0.length : Int)) = true := by rw [decide_eq_true_iff]; omega
  have e2 : decide (0 ≤ (pre.length : Int)) = true := by rw [decide_eq_true_iff]; omega
  have e4 : w ((pre.length : Int) + 1) = (pre.length : Int) + 1 := w_next hl hb
  have e5 : List.take pre.length x0 = pre := by rw [hl]; simp
  have e6 : decide ((pre.length : Int) ≤ (x0.length : Int)) = true := by rw [decide_eq_true_iff]; omega
  have g0 : List.getD x0 pre.length ((0, ((0, 0), 0)), (0, 0)) = x := by rw [hl]; exact getD_mid pre x r _
  rw [tube_Check.l0_clean]
  simp -implicitDefEqProofs only [Int.toNat_natCast, e1, e2, e4, e6, g0, e5, Bool.and_true, Bool.true_and, Bool.true_or, cond_true]
theorem tube_Check.l0_nil (N : Nat) (x0 : List ((Int × (Int × Int) × Int) × Int × Int)) (k1 : Nat) : tube_Check.l0 N x0 (k1 + 1) (x0.length : Int) =
    some 0 := by
  have e1 : decide ((x0.length : Int) < (x0.length : Int)) = false := by rw [decide_eq_false_iff_not]; omega
  rw [tube_Check.l0_clean]
  simp -implicitDefEqProofs only [e1, cond_false]
theorem tube_Check.eq (N : Nat) (x0 : List ((Int × (Int × Int) × Int) × Int × Int)) : tube_Check.fn N x0 =
    bif decide ((x0.length : Int) > 64) then
      some 2
    else
    bif (x0.length : Int) == 0 then
      some 3
    else
      tube_Check.l0 N x0 N 0 := by kernel_rfl

/-! ### chart_Name: skyway/chart.Name -/
def chart_Name.kp : List (Nat × List (Nat × Option (TypeId × Ty))) := [(4, [(0, none), (24, none), (25, none)])]
noncomputable def chart_Name.G (N : Nat) : List (Nat × Spec) := []
noncomputable def chart_Name.E (N : Nat) : Env := mkEnv (chart_Name.G N) N tyTab chart_Name.kp
noncomputable def chart_Name.fn (N : Nat) (x : ByteArray) : Option Bool := evFn (chart_Name.E N) Tryz.prog 3 Tryz.f28 false [.cell (.str)] [.val (.cell (.bool))] x
noncomputable def chart_Name.S (N : Nat) : PSpec := ⟨false, [.cell (.str)], [.val (.cell (.bool))], chart_Name.fn N⟩
theorem f28_enters : Enters Tryz.prog 28 := ⟨Tryz.f28, Tryz.func28, by kernel_rfl, by kernel_rfl⟩
theorem chart_Name.tab (N : Nat) : TabOk Tryz.prog (chart_Name.G N) := trivial
theorem chart_Name.enters : Enters Tryz.prog 28 := f28_enters
theorem chart_Name.sound (N : Nat) : Sound Tryz.prog 28 (chart_Name.S N) := evFn_sound (specs_tab (chart_Name.tab N)) (inls_tab (chart_Name.tab N)) mixed 3 Tryz.func28 _ _ _
noncomputable def chart_Name.cd (N : Nat) (p : List Nat) : St → (Ex → St → Option Bool) → Option Bool := ev (chart_Name.E N) Tryz.prog (callD (chart_Name.E N) Tryz.prog 3) 0 (codeAt (bodyOf Tryz.f28) p)
noncomputable def chart_Name.fin : Ex → St → Option Bool := endK Tryz.prog Tryz.f28 [.val (.cell (.bool))]
noncomputable def chart_Name.l0 (N : Nat) (x0 : ByteArray) (k1 : Nat) (a2 : Int) : Option Bool :=
  loopN (norm ((chart_Name.E N).keep 4) 0) (chart_Name.cd N [1, 1, 0, 1, 0, 0]) k1
  ⟨[.sc (.string x0), .any, .any, .any, .any, .any, .any, .any, .any, .any, .any, .any, .any, .any, .any, .any, .any, .any, .any, .any, .any, .any, .any, .any, .sc (.int .i64 (x0.size : Int)), .sc (.int .i64 a2), .any, .any, .any, .any, .any, .any, .any, .any, .any, .any, .any, .any, .any, .any, .any, .any, .any, .any, .any, .any], []⟩
  (blockK 0 (seqK (chart_Name.cd N [1, 1, 1]) chart_Name.fin))
theorem chart_Name.l0_zero (N : Nat) (x0 : ByteArray) (a2 : Int) : chart_Name.l0 N x0 0 a2 = none := by kernel_rfl
theorem chart_Name.l0_succ (N : Nat) (x0 : ByteArray) (k1 : Nat) (a2 : Int) : chart_Name.l0 N x0 (k1 + 1) a2 =
    bif decide (a2 < (x0.size : Int)) then
      bif (decide (0 ≤ a2)) && (decide (a2 < (x0.size : Int))) then
        bif !(!(decide (((((ByteArray.data x0).getD (Int.toNat a2) 0).toNat : Nat) : Int) < 65))) || (!(decide (((((ByteArray.data x0).getD (Int.toNat a2) 0).toNat : Nat) : Int) < 65))) then
          bif (decide (((((ByteArray.data x0).getD (Int.toNat a2) 0).toNat : Nat) : Int) < 65)) || (!(decide (((((ByteArray.data x0).getD (Int.toNat a2) 0).toNat : Nat) : Int) < 65))) then
            bif !((decide (((((ByteArray.data x0).getD (Int.toNat a2) 0).toNat : Nat) : Int) < 65)) || (decide (((((ByteArray.data x0).getD (Int.toNat a2) 0).toNat : Nat) : Int) > 90))) || ((decide (((((ByteArray.data x0).getD (Int.toNat a2) 0).toNat : Nat) : Int) < 65)) || (decide (((((ByteArray.data x0).getD (Int.toNat a2) 0).toNat : Nat) : Int) > 90))) then
              bif !((decide (((((ByteArray.data x0).getD (Int.toNat a2) 0).toNat : Nat) : Int) < 65)) || (decide (((((ByteArray.data x0).getD (Int.toNat a2) 0).toNat : Nat) : Int) > 90))) || ((decide (((((ByteArray.data x0).getD (Int.toNat a2) 0).toNat : Nat) : Int) < 65)) || (decide (((((ByteArray.data x0).getD (Int.toNat a2) 0).toNat : Nat) : Int) > 90))) then
                bif !(((decide (((((ByteArray.data x0).getD (Int.toNat a2) 0).toNat : Nat) : Int) < 65)) || (decide (((((ByteArray.data x0).getD (Int.toNat a2) 0).toNat : Nat) : Int) > 90))) && (!(decide (((((ByteArray.data x0).getD (Int.toNat a2) 0).toNat : Nat) : Int) < 48)))) || (((decide (((((ByteArray.data x0).getD (Int.toNat a2) 0).toNat : Nat) : Int) < 65)) || (decide (((((ByteArray.data x0).getD (Int.toNat a2) 0).toNat : Nat) : Int) > 90))) && (!(decide (((((ByteArray.data x0).getD (Int.toNat a2) 0).toNat : Nat) : Int) < 48)))) then
                  bif !((decide (((((ByteArray.data x0).getD (Int.toNat a2) 0).toNat : Nat) : Int) < 65)) || (decide (((((ByteArray.data x0).getD (Int.toNat a2) 0).toNat : Nat) : Int) > 90))) || ((decide (((((ByteArray.data x0).getD (Int.toNat a2) 0).toNat : Nat) : Int) < 65)) || (decide (((((ByteArray.data x0).getD (Int.toNat a2) 0).toNat : Nat) : Int) > 90))) then
                    bif !((decide (((((ByteArray.data x0).getD (Int.toNat a2) 0).toNat : Nat) : Int) < 65)) || (decide (((((ByteArray.data x0).getD (Int.toNat a2) 0).toNat : Nat) : Int) > 90))) || ((decide (((((ByteArray.data x0).getD (Int.toNat a2) 0).toNat : Nat) : Int) < 48)) || (((decide (((((ByteArray.data x0).getD (Int.toNat a2) 0).toNat : Nat) : Int) < 65)) || (decide (((((ByteArray.data x0).getD (Int.toNat a2) 0).toNat : Nat) : Int) > 90))) && (!(decide (((((ByteArray.data x0).getD (Int.toNat a2) 0).toNat : Nat) : Int) < 48))))) then
                      bif (!((decide (((((ByteArray.data x0).getD (Int.toNat a2) 0).toNat : Nat) : Int) < 65)) || (decide (((((ByteArray.data x0).getD (Int.toNat a2) 0).toNat : Nat) : Int) > 90)))) || ((decide (((((ByteArray.data x0).getD (Int.toNat a2) 0).toNat : Nat) : Int) < 65)) || (decide (((((ByteArray.data x0).getD (Int.toNat a2) 0).toNat : Nat) : Int) > 90))) then
                        bif ((decide (((((ByteArray.data x0).getD (Int.toNat a2) 0).toNat : Nat) : Int) < 65)) || (decide (((((ByteArray.data x0).getD (Int.toNat a2) 0).toNat : Nat) : Int) > 90))) && ((decide (((((ByteArray.data x0).getD (Int.toNat a2) 0).toNat : Nat) : Int) < 48)) || (decide (((((ByteArray.data x0).getD (Int.toNat a2) 0).toNat : Nat) : Int) > 57))) then
                          some false
                        else
                          chart_Name.l0 N x0 k1 (w (a2 + 1))
                      else
                        none
                    else
                      none
                  else
                    none
                else
                  none
              else
                none
            else
              none
          else
            none
        else
          none
      else
        none
    else
      some true := by kernel_rfl
theorem taut13 : ∀ p0 p1 p2 : Bool, ((!(((p0) || (p1)) && (!(p2))) || (((p0) || (p1)) && (!(p2))))) = true := by decide
theorem taut14 : ∀ p0 p1 : Bool, ((!((p0) || (p1)) || ((p0) || (p1)))) = true := by decide
theorem taut15 : ∀ p0 p1 p2 : Bool, ((!((p0) || (p1)) || ((p2) || (((p0) || (p1)) && (!(p2)))))) = true := by decide
theorem taut16 : ∀ p0 p1 : Bool, (((!((p0) || (p1))) || ((p0) || (p1)))) = true := by decide
theorem chart_Name.l0_clean (N : Nat) (x0 : ByteArray) (k1 : Nat) (a2 : Int) : chart_Name.l0 N x0 (k1 + 1) a2 =
    bif decide (a2 < (x0.size : Int)) then
      bif (decide (0 ≤ a2)) && (decide (a2 < (x0.size : Int))) then
        bif ((decide (((((ByteArray.data x0).getD (Int.toNat a2) 0).toNat : Nat) : Int) < 65)) || (decide (((((ByteArray.data x0).getD (Int.toNat a2) 0).toNat : Nat) : Int) > 90))) && ((decide (((((ByteArray.data x0).getD (Int.toNat a2) 0).toNat : Nat) : Int) < 48)) || (decide (((((ByteArray.data x0).getD (Int.toNat a2) 0).toNat : Nat) : Int) > 57))) then
          some false
        else
          chart_Name.l0 N x0 k1 (w (a2 + 1))
      else
        none
    else
      some true := by
  rw [chart_Name.l0_succ]; simp only [taut3, taut13, taut14, taut15, taut16, taut6, cond_true]
theorem chart_Name.l0_cons (N : Nat) (x0 : ByteArray) (k1 : Nat) {pre r} {x} (hl : x0.data.toList = pre ++ x :: r) (hb : x0.size < 4611686018427387904) : chart_Name.l0 N x0 (k1 + 1) (pre.length : Int) =
    bif ((decide (((x.toNat : Nat) : Int) < 65)) || (decide (((x.toNat : Nat) : Int) > 90))) && ((decide (((x.toNat : Nat) : Int) < 48)) || (decide (((x.toNat : Nat) : Int) > 57))) then
      some false
    else
      chart_Name.l0 N x0 k1 ((pre.length : Int) + 1) := by
  have hlen : x0.size = pre.length + 1 + r.length := by rw [ByteArray.size, ← Array.length_toList, hl]; simp; omega
  have e1 : decide ((pre.length : Int) < (x0.size : Int)) = true := by rw [decide_eq_true_iff]; omega
  have e2 : decide (0 ≤ (pre.length : Int)) = true := by rw [decide_eq_true_iff]; omega
  have e4 : w ((pre.length : Int) + 1) = (pre.length : Int) + 1 := w_next hl (by rw [Array.length_toList]; exact hb)
  have e6 : decide ((pre.length : Int) ≤ (x0.size : Int)) = true := by rw [decide_eq_true_iff]; omega
  have g0 : (ByteArray.data x0).getD pre.length 0 = x := getD_bytes hl
  rw [chart_Name.l0_clean]
  simp -implicitDefEqProofs only [Int.toNat_natCast, e1, e2, e4, e6, g0, Bool.and_true, Bool.true_and, Bool.true_or, cond_true]
theorem chart_Name.l0_nil (N : Nat) (x0 : ByteArray) (k1 : Nat) : chart_Name.l0 N x0 (k1 + 1) (x0.size : Int) =
    some true := by
  have e1 : decide ((x0.size : Int) < (x0.size : Int)) = false := by rw [decide_eq_false_iff_not]; omega
  rw [chart_Name.l0_clean]
  simp -implicitDefEqProofs only [e1, cond_false]
theorem chart_Name.eq (N : Nat) (x0 : ByteArray) : chart_Name.fn N x0 =
    bif !(!((x0.size : Int) == 0)) || (!((x0.size : Int) == 0)) then
      bif !(!((x0.size : Int) == 0)) || (!((x0.size : Int) == 0)) then
        bif ((x0.size : Int) == 0) || (!((x0.size : Int) == 0)) then
          bif !(!(((x0.size : Int) == 0) || (decide ((x0.size : Int) > 8)))) || (!(((x0.size : Int) == 0) || (decide ((x0.size : Int) > 8)))) then
            bif (decide (0 < (x0.size : Int))) || !(!(((x0.size : Int) == 0) || (decide ((x0.size : Int) > 8)))) then
              bif !(!(((x0.size : Int) == 0) || (decide ((x0.size : Int) > 8)))) || (!(((x0.size : Int) == 0) || (decide ((x0.size : Int) > 8)))) then
                bif (((x0.size : Int) == 0) || (decide ((x0.size : Int) > 8))) || (!(((x0.size : Int) == 0) || (decide ((x0.size : Int) > 8)))) then
                  bif !(!((((x0.size : Int) == 0) || (decide ((x0.size : Int) > 8))) || (decide (((((ByteArray.data x0).getD 0 0).toNat : Nat) : Int) < 65)))) || (!((((x0.size : Int) == 0) || (decide ((x0.size : Int) > 8))) || (decide (((((ByteArray.data x0).getD 0 0).toNat : Nat) : Int) < 65)))) then
                    bif (decide (0 < (x0.size : Int))) || !(!((((x0.size : Int) == 0) || (decide ((x0.size : Int) > 8))) || (decide (((((ByteArray.data x0).getD 0 0).toNat : Nat) : Int) < 65)))) then
                      bif !(!((((x0.size : Int) == 0) || (decide ((x0.size : Int) > 8))) || (decide (((((ByteArray.data x0).getD 0 0).toNat : Nat) : Int) < 65)))) || (!((((x0.size : Int) == 0) || (decide ((x0.size : Int) > 8))) || (decide (((((ByteArray.data x0).getD 0 0).toNat : Nat) : Int) < 65)))) then
                        bif ((((x0.size : Int) == 0) || (decide ((x0.size : Int) > 8))) || (decide (((((ByteArray.data x0).getD 0 0).toNat : Nat) : Int) < 65))) || (!((((x0.size : Int) == 0) || (decide ((x0.size : Int) > 8))) || (decide (((((ByteArray.data x0).getD 0 0).toNat : Nat) : Int) < 65)))) then
                          bif ((((x0.size : Int) == 0) || (decide ((x0.size : Int) > 8))) || (decide (((((ByteArray.data x0).getD 0 0).toNat : Nat) : Int) < 65))) || (decide (((((ByteArray.data x0).getD 0 0).toNat : Nat) : Int) > 90)) then
                            some false
                          else
                            chart_Name.l0 N x0 N 0
                        else
                          none
                      else
                        none
                    else
                      none
                  else
                    none
                else
                  none
              else
                none
            else
              none
          else
            none
        else
          none
      else
        none
    else
      none := by kernel_rfl
theorem chart_Name.clean (N : Nat) (x0 : ByteArray) : chart_Name.fn N x0 =
    bif (decide (0 < (x0.size : Int))) || !(!(((x0.size : Int) == 0) || (decide ((x0.size : Int) > 8)))) then
      bif (decide (0 < (x0.size : Int))) || !(!((((x0.size : Int) == 0) || (decide ((x0.size : Int) > 8))) || (decide (((((ByteArray.data x0).getD 0 0).toNat : Nat) : Int) < 65)))) then
        bif ((((x0.size : Int) == 0) || (decide ((x0.size : Int) > 8))) || (decide (((((ByteArray.data x0).getD 0 0).toNat : Nat) : Int) < 65))) || (decide (((((ByteArray.data x0).getD 0 0).toNat : Nat) : Int) > 90)) then
          some false
        else
          chart_Name.l0 N x0 N 0
      else
        none
    else
      none := by
  rw [chart_Name.eq]; simp only [taut1, taut2, taut3, taut4, taut5, taut6, cond_true]

/-! ### aircraft_Check: skyway/aircraft.Check -/
def aircraft_Check.kp : List (Nat × List (Nat × Option (TypeId × Ty))) := []
noncomputable def aircraft_Check.G (N : Nat) : List (Nat × Spec) := [(28, .pure (chart_Name.S N))]
noncomputable def aircraft_Check.E (N : Nat) : Env := mkEnv (aircraft_Check.G N) N tyTab aircraft_Check.kp
noncomputable def aircraft_Check.fn (N : Nat) (x : ByteArray × Int × Int × Int × Int × Int × Int) : Option Int := evFn (aircraft_Check.E N) Tryz.prog 3 Tryz.f20 false [.agg (.pair (.str) (.pair (.int .i64) (.pair (.int .i64) (.pair (.int .i64) (.pair (.int .i64) (.pair (.int .i64) (.int .i64)))))))] [.val (.cell (.int .i64))] x
noncomputable def aircraft_Check.S (N : Nat) : PSpec := ⟨false, [.agg (.pair (.str) (.pair (.int .i64) (.pair (.int .i64) (.pair (.int .i64) (.pair (.int .i64) (.pair (.int .i64) (.int .i64)))))))], [.val (.cell (.int .i64))], aircraft_Check.fn N⟩
theorem f20_enters : Enters Tryz.prog 20 := ⟨Tryz.f20, Tryz.func20, by kernel_rfl, by kernel_rfl⟩
theorem aircraft_Check.tab (N : Nat) : TabOk Tryz.prog (aircraft_Check.G N) := ⟨⟨chart_Name.enters, chart_Name.sound N⟩, trivial⟩
theorem aircraft_Check.enters : Enters Tryz.prog 20 := f20_enters
theorem aircraft_Check.sound (N : Nat) : Sound Tryz.prog 20 (aircraft_Check.S N) := evFn_sound (specs_tab (aircraft_Check.tab N)) (inls_tab (aircraft_Check.tab N)) mixed 3 Tryz.func20 _ _ _
theorem aircraft_Check.eq (N : Nat) (x0 : ByteArray × Int × Int × Int × Int × Int × Int) : aircraft_Check.fn N x0 =
    (chart_Name.fn N x0.1).bind fun r1 =>
    bif !r1 then
      some 5
    else
    bif !(!(decide (x0.2.1 < 0))) || (!(decide (x0.2.1 < 0))) then
      bif !(!(decide (x0.2.1 < 0))) || (!(decide (x0.2.1 < 0))) then
        bif (decide (x0.2.1 < 0)) || (!(decide (x0.2.1 < 0))) then
          bif (decide (x0.2.1 < 0)) || (decide (x0.2.1 > 3)) then
            some 1
          else
          bif !(!(decide (x0.2.2.1 < 1))) || (!(decide (x0.2.2.1 < 1))) then
            bif !(!(decide (x0.2.2.1 < 1))) || (!(decide (x0.2.2.1 < 1))) then
              bif (decide (x0.2.2.1 < 1)) || (!(decide (x0.2.2.1 < 1))) then
                bif (decide (x0.2.2.1 < 1)) || (decide (x0.2.2.1 > 60000)) then
                  bif (decide (x0.2.2.1 < 1)) || (decide (x0.2.2.1 > 60000)) then
                    some 4
                  else
                  bif !(!(decide (x0.2.2.2.2.2.1 < 1))) || (!(decide (x0.2.2.2.2.2.1 < 1))) then
                    bif !(!(decide (x0.2.2.2.2.2.1 < 1))) || (!(decide (x0.2.2.2.2.2.1 < 1))) then
                      bif (decide (x0.2.2.2.2.2.1 < 1)) || (!(decide (x0.2.2.2.2.2.1 < 1))) then
                        bif !(!((decide (x0.2.2.2.2.2.1 < 1)) || (decide (x0.2.2.2.2.2.1 > 400)))) || (!((decide (x0.2.2.2.2.2.1 < 1)) || (decide (x0.2.2.2.2.2.1 > 400)))) then
                          bif !(!((decide (x0.2.2.2.2.2.1 < 1)) || (decide (x0.2.2.2.2.2.1 > 400)))) || (!((decide (x0.2.2.2.2.2.1 < 1)) || (decide (x0.2.2.2.2.2.1 > 400)))) then
                            bif ((decide (x0.2.2.2.2.2.1 < 1)) || (decide (x0.2.2.2.2.2.1 > 400))) || (!((decide (x0.2.2.2.2.2.1 < 1)) || (decide (x0.2.2.2.2.2.1 > 400)))) then
                              bif !(!(((decide (x0.2.2.2.2.2.1 < 1)) || (decide (x0.2.2.2.2.2.1 > 400))) || (decide (x0.2.2.2.2.2.2 < 1)))) || (!(((decide (x0.2.2.2.2.2.1 < 1)) || (decide (x0.2.2.2.2.2.1 > 400))) || (decide (x0.2.2.2.2.2.2 < 1)))) then
                                bif !(!(((decide (x0.2.2.2.2.2.1 < 1)) || (decide (x0.2.2.2.2.2.1 > 400))) || (decide (x0.2.2.2.2.2.2 < 1)))) || (!(((decide (x0.2.2.2.2.2.1 < 1)) || (decide (x0.2.2.2.2.2.1 > 400))) || (decide (x0.2.2.2.2.2.2 < 1)))) then
                                  bif (((decide (x0.2.2.2.2.2.1 < 1)) || (decide (x0.2.2.2.2.2.1 > 400))) || (decide (x0.2.2.2.2.2.2 < 1))) || (!(((decide (x0.2.2.2.2.2.1 < 1)) || (decide (x0.2.2.2.2.2.1 > 400))) || (decide (x0.2.2.2.2.2.2 < 1)))) then
                                    bif (((decide (x0.2.2.2.2.2.1 < 1)) || (decide (x0.2.2.2.2.2.1 > 400))) || (decide (x0.2.2.2.2.2.2 < 1))) || (decide (x0.2.2.2.2.2.2 > 400)) then
                                      some 4
                                    else
                                    bif decide (x0.2.2.2.2.2.1 > x0.2.2.2.2.2.2) then
                                      some 3
                                    else
                                      some 0
                                  else
                                    none
                                else
                                  none
                              else
                                none
                            else
                              none
                          else
                            none
                        else
                          none
                      else
                        none
                    else
                      none
                  else
                    none
                else
                bif !(!(decide (x0.2.2.2.1 < 1))) || (!(decide (x0.2.2.2.1 < 1))) then
                  bif !(!(decide (x0.2.2.2.1 < 1))) || (!(decide (x0.2.2.2.1 < 1))) then
                    bif (decide (x0.2.2.2.1 < 1)) || (!(decide (x0.2.2.2.1 < 1))) then
                      bif (decide (x0.2.2.2.1 < 1)) || (decide (x0.2.2.2.1 > 200)) then
                        bif (decide (x0.2.2.2.1 < 1)) || (decide (x0.2.2.2.1 > 200)) then
                          some 4
                        else
                        bif !(!(decide (x0.2.2.2.2.2.1 < 1))) || (!(decide (x0.2.2.2.2.2.1 < 1))) then
                          bif !(!(decide (x0.2.2.2.2.2.1 < 1))) || (!(decide (x0.2.2.2.2.2.1 < 1))) then
                            bif (decide (x0.2.2.2.2.2.1 < 1)) || (!(decide (x0.2.2.2.2.2.1 < 1))) then
                              bif !(!((decide (x0.2.2.2.2.2.1 < 1)) || (decide (x0.2.2.2.2.2.1 > 400)))) || (!((decide (x0.2.2.2.2.2.1 < 1)) || (decide (x0.2.2.2.2.2.1 > 400)))) then
                                bif !(!((decide (x0.2.2.2.2.2.1 < 1)) || (decide (x0.2.2.2.2.2.1 > 400)))) || (!((decide (x0.2.2.2.2.2.1 < 1)) || (decide (x0.2.2.2.2.2.1 > 400)))) then
                                  bif ((decide (x0.2.2.2.2.2.1 < 1)) || (decide (x0.2.2.2.2.2.1 > 400))) || (!((decide (x0.2.2.2.2.2.1 < 1)) || (decide (x0.2.2.2.2.2.1 > 400)))) then
                                    bif !(!(((decide (x0.2.2.2.2.2.1 < 1)) || (decide (x0.2.2.2.2.2.1 > 400))) || (decide (x0.2.2.2.2.2.2 < 1)))) || (!(((decide (x0.2.2.2.2.2.1 < 1)) || (decide (x0.2.2.2.2.2.1 > 400))) || (decide (x0.2.2.2.2.2.2 < 1)))) then
                                      bif !(!(((decide (x0.2.2.2.2.2.1 < 1)) || (decide (x0.2.2.2.2.2.1 > 400))) || (decide (x0.2.2.2.2.2.2 < 1)))) || (!(((decide (x0.2.2.2.2.2.1 < 1)) || (decide (x0.2.2.2.2.2.1 > 400))) || (decide (x0.2.2.2.2.2.2 < 1)))) then
                                        bif (((decide (x0.2.2.2.2.2.1 < 1)) || (decide (x0.2.2.2.2.2.1 > 400))) || (decide (x0.2.2.2.2.2.2 < 1))) || (!(((decide (x0.2.2.2.2.2.1 < 1)) || (decide (x0.2.2.2.2.2.1 > 400))) || (decide (x0.2.2.2.2.2.2 < 1)))) then
                                          bif (((decide (x0.2.2.2.2.2.1 < 1)) || (decide (x0.2.2.2.2.2.1 > 400))) || (decide (x0.2.2.2.2.2.2 < 1))) || (decide (x0.2.2.2.2.2.2 > 400)) then
                                            some 4
                                          else
                                          bif decide (x0.2.2.2.2.2.1 > x0.2.2.2.2.2.2) then
                                            some 3
                                          else
                                            some 0
                                        else
                                          none
                                      else
                                        none
                                    else
                                      none
                                  else
                                    none
                                else
                                  none
                              else
                                none
                            else
                              none
                          else
                            none
                        else
                          none
                      else
                      bif !(!(decide (x0.2.2.2.2.1 < 1))) || (!(decide (x0.2.2.2.2.1 < 1))) then
                        bif !(!(decide (x0.2.2.2.2.1 < 1))) || (!(decide (x0.2.2.2.2.1 < 1))) then
                          bif (decide (x0.2.2.2.2.1 < 1)) || (!(decide (x0.2.2.2.2.1 < 1))) then
                            bif (decide (x0.2.2.2.2.1 < 1)) || (decide (x0.2.2.2.2.1 > 200)) then
                              some 4
                            else
                            bif !(!(decide (x0.2.2.2.2.2.1 < 1))) || (!(decide (x0.2.2.2.2.2.1 < 1))) then
                              bif !(!(decide (x0.2.2.2.2.2.1 < 1))) || (!(decide (x0.2.2.2.2.2.1 < 1))) then
                                bif (decide (x0.2.2.2.2.2.1 < 1)) || (!(decide (x0.2.2.2.2.2.1 < 1))) then
                                  bif !(!((decide (x0.2.2.2.2.2.1 < 1)) || (decide (x0.2.2.2.2.2.1 > 400)))) || (!((decide (x0.2.2.2.2.2.1 < 1)) || (decide (x0.2.2.2.2.2.1 > 400)))) then
                                    bif !(!((decide (x0.2.2.2.2.2.1 < 1)) || (decide (x0.2.2.2.2.2.1 > 400)))) || (!((decide (x0.2.2.2.2.2.1 < 1)) || (decide (x0.2.2.2.2.2.1 > 400)))) then
                                      bif ((decide (x0.2.2.2.2.2.1 < 1)) || (decide (x0.2.2.2.2.2.1 > 400))) || (!((decide (x0.2.2.2.2.2.1 < 1)) || (decide (x0.2.2.2.2.2.1 > 400)))) then
                                        bif !(!(((decide (x0.2.2.2.2.2.1 < 1)) || (decide (x0.2.2.2.2.2.1 > 400))) || (decide (x0.2.2.2.2.2.2 < 1)))) || (!(((decide (x0.2.2.2.2.2.1 < 1)) || (decide (x0.2.2.2.2.2.1 > 400))) || (decide (x0.2.2.2.2.2.2 < 1)))) then
                                          bif !(!(((decide (x0.2.2.2.2.2.1 < 1)) || (decide (x0.2.2.2.2.2.1 > 400))) || (decide (x0.2.2.2.2.2.2 < 1)))) || (!(((decide (x0.2.2.2.2.2.1 < 1)) || (decide (x0.2.2.2.2.2.1 > 400))) || (decide (x0.2.2.2.2.2.2 < 1)))) then
                                            bif (((decide (x0.2.2.2.2.2.1 < 1)) || (decide (x0.2.2.2.2.2.1 > 400))) || (decide (x0.2.2.2.2.2.2 < 1))) || (!(((decide (x0.2.2.2.2.2.1 < 1)) || (decide (x0.2.2.2.2.2.1 > 400))) || (decide (x0.2.2.2.2.2.2 < 1)))) then
                                              bif (((decide (x0.2.2.2.2.2.1 < 1)) || (decide (x0.2.2.2.2.2.1 > 400))) || (decide (x0.2.2.2.2.2.2 < 1))) || (decide (x0.2.2.2.2.2.2 > 400)) then
                                                some 4
                                              else
                                              bif decide (x0.2.2.2.2.2.1 > x0.2.2.2.2.2.2) then
                                                some 3
                                              else
                                                some 0
                                            else
                                              none
                                          else
                                            none
                                        else
                                          none
                                      else
                                        none
                                    else
                                      none
                                  else
                                    none
                                else
                                  none
                              else
                                none
                            else
                              none
                          else
                            none
                        else
                          none
                      else
                        none
                    else
                      none
                  else
                    none
                else
                  none
              else
                none
            else
              none
          else
            none
        else
          none
      else
        none
    else
      none := by kernel_rfl
theorem aircraft_Check.clean (N : Nat) (x0 : ByteArray × Int × Int × Int × Int × Int × Int) : aircraft_Check.fn N x0 =
    (chart_Name.fn N x0.1).bind fun r1 =>
    bif !r1 then
      some 5
    else
    bif (decide (x0.2.1 < 0)) || (decide (x0.2.1 > 3)) then
      some 1
    else
    bif (decide (x0.2.2.1 < 1)) || (decide (x0.2.2.1 > 60000)) then
      bif (decide (x0.2.2.1 < 1)) || (decide (x0.2.2.1 > 60000)) then
        some 4
      else
      bif (((decide (x0.2.2.2.2.2.1 < 1)) || (decide (x0.2.2.2.2.2.1 > 400))) || (decide (x0.2.2.2.2.2.2 < 1))) || (decide (x0.2.2.2.2.2.2 > 400)) then
        some 4
      else
      bif decide (x0.2.2.2.2.2.1 > x0.2.2.2.2.2.2) then
        some 3
      else
        some 0
    else
    bif (decide (x0.2.2.2.1 < 1)) || (decide (x0.2.2.2.1 > 200)) then
      bif (decide (x0.2.2.2.1 < 1)) || (decide (x0.2.2.2.1 > 200)) then
        some 4
      else
      bif (((decide (x0.2.2.2.2.2.1 < 1)) || (decide (x0.2.2.2.2.2.1 > 400))) || (decide (x0.2.2.2.2.2.2 < 1))) || (decide (x0.2.2.2.2.2.2 > 400)) then
        some 4
      else
      bif decide (x0.2.2.2.2.2.1 > x0.2.2.2.2.2.2) then
        some 3
      else
        some 0
    else
    bif (decide (x0.2.2.2.2.1 < 1)) || (decide (x0.2.2.2.2.1 > 200)) then
      some 4
    else
    bif (((decide (x0.2.2.2.2.2.1 < 1)) || (decide (x0.2.2.2.2.2.1 > 400))) || (decide (x0.2.2.2.2.2.2 < 1))) || (decide (x0.2.2.2.2.2.2 > 400)) then
      some 4
    else
    bif decide (x0.2.2.2.2.2.1 > x0.2.2.2.2.2.2) then
      some 3
    else
      some 0 := by
  rw [aircraft_Check.eq]; simp only [taut1, taut2, taut3, taut4, taut5, taut6, cond_true]

/-! ### sector_Name: skyway/sector.Name -/
def sector_Name.kp : List (Nat × List (Nat × Option (TypeId × Ty))) := []
noncomputable def sector_Name.G (N : Nat) : List (Nat × Spec) := [(28, .pure (chart_Name.S N))]
noncomputable def sector_Name.E (N : Nat) : Env := mkEnv (sector_Name.G N) N tyTab sector_Name.kp
noncomputable def sector_Name.fn (N : Nat) (x : ByteArray) : Option Bool := evFn (sector_Name.E N) Tryz.prog 3 Tryz.f57 false [.cell (.str)] [.val (.cell (.bool))] x
noncomputable def sector_Name.S (N : Nat) : PSpec := ⟨false, [.cell (.str)], [.val (.cell (.bool))], sector_Name.fn N⟩
theorem f57_enters : Enters Tryz.prog 57 := ⟨Tryz.f57, Tryz.func57, by kernel_rfl, by kernel_rfl⟩
theorem sector_Name.tab (N : Nat) : TabOk Tryz.prog (sector_Name.G N) := ⟨⟨chart_Name.enters, chart_Name.sound N⟩, trivial⟩
theorem sector_Name.enters : Enters Tryz.prog 57 := f57_enters
theorem sector_Name.sound (N : Nat) : Sound Tryz.prog 57 (sector_Name.S N) := evFn_sound (specs_tab (sector_Name.tab N)) (inls_tab (sector_Name.tab N)) mixed 3 Tryz.func57 _ _ _
theorem sector_Name.eq (N : Nat) (x0 : ByteArray) : sector_Name.fn N x0 =
    (chart_Name.fn N x0).bind fun r1 =>
    some r1 := by kernel_rfl

/-! ### owner_Name: skyway/owner.Name -/
def owner_Name.kp : List (Nat × List (Nat × Option (TypeId × Ty))) := []
noncomputable def owner_Name.G (N : Nat) : List (Nat × Spec) := [(57, .pure (sector_Name.S N))]
noncomputable def owner_Name.E (N : Nat) : Env := mkEnv (owner_Name.G N) N tyTab owner_Name.kp
noncomputable def owner_Name.fn (N : Nat) (x : ByteArray) : Option Bool := evFn (owner_Name.E N) Tryz.prog 3 Tryz.f39 false [.cell (.str)] [.val (.cell (.bool))] x
noncomputable def owner_Name.S (N : Nat) : PSpec := ⟨false, [.cell (.str)], [.val (.cell (.bool))], owner_Name.fn N⟩
theorem f39_enters : Enters Tryz.prog 39 := ⟨Tryz.f39, Tryz.func39, by kernel_rfl, by kernel_rfl⟩
theorem owner_Name.tab (N : Nat) : TabOk Tryz.prog (owner_Name.G N) := ⟨⟨sector_Name.enters, sector_Name.sound N⟩, trivial⟩
theorem owner_Name.enters : Enters Tryz.prog 39 := f39_enters
theorem owner_Name.sound (N : Nat) : Sound Tryz.prog 39 (owner_Name.S N) := evFn_sound (specs_tab (owner_Name.tab N)) (inls_tab (owner_Name.tab N)) mixed 3 Tryz.func39 _ _ _
theorem owner_Name.eq (N : Nat) (x0 : ByteArray) : owner_Name.fn N x0 =
    (sector_Name.fn N x0).bind fun r1 =>
    some r1 := by kernel_rfl

/-! ### phrase_kind: skyway/phrase.kind -/
def phrase_kind.kp : List (Nat × List (Nat × Option (TypeId × Ty))) := [(2, [(0, none), (5, none), (6, none)])]
noncomputable def phrase_kind.G (N : Nat) : List (Nat × Spec) := []
noncomputable def phrase_kind.E (N : Nat) : Env := mkEnv (phrase_kind.G N) N tyTab phrase_kind.kp
noncomputable def phrase_kind.fn (N : Nat) (x : ByteArray) : Option Int := evFn (phrase_kind.E N) Tryz.prog 3 Tryz.f40 false [.cell (.str)] [.val (.cell (.int .i64))] x
noncomputable def phrase_kind.S (N : Nat) : PSpec := ⟨false, [.cell (.str)], [.val (.cell (.int .i64))], phrase_kind.fn N⟩
theorem f40_enters : Enters Tryz.prog 40 := ⟨Tryz.f40, Tryz.func40, by kernel_rfl, by kernel_rfl⟩
theorem phrase_kind.tab (N : Nat) : TabOk Tryz.prog (phrase_kind.G N) := trivial
theorem phrase_kind.enters : Enters Tryz.prog 40 := f40_enters
theorem phrase_kind.sound (N : Nat) : Sound Tryz.prog 40 (phrase_kind.S N) := evFn_sound (specs_tab (phrase_kind.tab N)) (inls_tab (phrase_kind.tab N)) mixed 3 Tryz.func40 _ _ _
noncomputable def phrase_kind.cd (N : Nat) (p : List Nat) : St → (Ex → St → Option Int) → Option Int := ev (phrase_kind.E N) Tryz.prog (callD (phrase_kind.E N) Tryz.prog 3) 0 (codeAt (bodyOf Tryz.f40) p)
noncomputable def phrase_kind.fin : Ex → St → Option Int := endK Tryz.prog Tryz.f40 [.val (.cell (.int .i64))]
noncomputable def phrase_kind.l0 (N : Nat) (x0 : ByteArray) (k1 : Nat) (a2 : Int) : Option Int :=
  loopN (norm ((phrase_kind.E N).keep 2) 0) (phrase_kind.cd N [1, 0, 1, 0, 0]) k1
  ⟨[.sc (.string x0), .any, .any, .any, .any, .agg [.sc (.string (⟨#[72, 69, 73, 71, 72, 84]⟩ : ByteArray)), .sc (.string (⟨#[72, 69, 65, 68, 73, 78, 71]⟩ : ByteArray)), .sc (.string (⟨#[83, 80, 69, 69, 68]⟩ : ByteArray)), .sc (.string (⟨#[68, 73, 82, 69, 67, 84]⟩ : ByteArray)), .sc (.string (⟨#[72, 79, 76, 68]⟩ : ByteArray)), .sc (.string (⟨#[67, 79, 78, 84, 65, 67, 84]⟩ : ByteArray)), .sc (.string (⟨#[76, 65, 78, 68]⟩ : ByteArray))], .sc (.int .i64 a2), .any, .any, .any, .any, .any, .any, .any, .any], []⟩
  (blockK 0 (seqK (phrase_kind.cd N [1, 1]) phrase_kind.fin))
theorem phrase_kind.l0_zero (N : Nat) (x0 : ByteArray) (a2 : Int) : phrase_kind.l0 N x0 0 a2 = none := by kernel_rfl
theorem phrase_kind.l0_succ (N : Nat) (x0 : ByteArray) (k1 : Nat) (a2 : Int) : phrase_kind.l0 N x0 (k1 + 1) a2 =
    bif decide (a2 < 7) then
      bif (decide (0 ≤ a2)) && (decide (a2 < 7)) then
        bif decide (((Int.toNat a2) * 1) < 7) then
          bif seq (List.getD [(⟨#[72, 69, 73, 71, 72, 84]⟩ : ByteArray), (⟨#[72, 69, 65, 68, 73, 78, 71]⟩ : ByteArray), (⟨#[83, 80, 69, 69, 68]⟩ : ByteArray), (⟨#[68, 73, 82, 69, 67, 84]⟩ : ByteArray), (⟨#[72, 79, 76, 68]⟩ : ByteArray), (⟨#[67, 79, 78, 84, 65, 67, 84]⟩ : ByteArray), (⟨#[76, 65, 78, 68]⟩ : ByteArray)] ((Int.toNat a2) * 1) (⟨#[]⟩ : ByteArray)) x0 then
            some a2
          else
            phrase_kind.l0 N x0 k1 (w (a2 + 1))
        else
          none
      else
        none
    else
      some (-1) := by kernel_rfl
theorem phrase_kind.eq (N : Nat) (x0 : ByteArray) : phrase_kind.fn N x0 =
    phrase_kind.l0 N x0 N 0 := by kernel_rfl

/-! ### phrase_plain: skyway/phrase.plain -/
def phrase_plain.kp : List (Nat × List (Nat × Option (TypeId × Ty))) := []
noncomputable def phrase_plain.G (N : Nat) : List (Nat × Spec) := [(39, .pure (owner_Name.S N)), (40, .pure (phrase_kind.S N))]
noncomputable def phrase_plain.E (N : Nat) : Env := mkEnv (phrase_plain.G N) N tyTab phrase_plain.kp
noncomputable def phrase_plain.fn (N : Nat) (x : ByteArray) : Option Bool := evFn (phrase_plain.E N) Tryz.prog 3 Tryz.f29 false [.cell (.str)] [.val (.cell (.bool))] x
noncomputable def phrase_plain.S (N : Nat) : PSpec := ⟨false, [.cell (.str)], [.val (.cell (.bool))], phrase_plain.fn N⟩
theorem f29_enters : Enters Tryz.prog 29 := ⟨Tryz.f29, Tryz.func29, by kernel_rfl, by kernel_rfl⟩
theorem phrase_plain.tab (N : Nat) : TabOk Tryz.prog (phrase_plain.G N) := ⟨⟨owner_Name.enters, owner_Name.sound N⟩, ⟨phrase_kind.enters, phrase_kind.sound N⟩, trivial⟩
theorem phrase_plain.enters : Enters Tryz.prog 29 := f29_enters
theorem phrase_plain.sound (N : Nat) : Sound Tryz.prog 29 (phrase_plain.S N) := evFn_sound (specs_tab (phrase_plain.tab N)) (inls_tab (phrase_plain.tab N)) mixed 3 Tryz.func29 _ _ _
theorem phrase_plain.eq (N : Nat) (x0 : ByteArray) : phrase_plain.fn N x0 =
    (owner_Name.fn N x0).bind fun r1 =>
    bif !r1 || r1 then
      (bif r1 then phrase_kind.fn N x0 else some (0)).bind fun r2 =>
      bif !r1 || r1 then
        bif (!r1) || r1 then
          some (r1 && (decide (r2 < 0)))
        else
          none
      else
        none
    else
      none := by kernel_rfl
theorem taut17 : ∀ p0 : Bool, ((!p0 || p0)) = true := by decide
theorem taut18 : ∀ p0 : Bool, (((!p0) || p0)) = true := by decide
theorem phrase_plain.clean (N : Nat) (x0 : ByteArray) : phrase_plain.fn N x0 =
    (owner_Name.fn N x0).bind fun r1 =>
    (bif r1 then phrase_kind.fn N x0 else some (0)).bind fun r2 =>
    some (r1 && (decide (r2 < 0))) := by
  rw [phrase_plain.eq]; simp only [taut17, taut18, cond_true]

/-! ### phrase_Check: skyway/phrase.Check -/
def phrase_Check.kp : List (Nat × List (Nat × Option (TypeId × Ty))) := []
noncomputable def phrase_Check.G (N : Nat) : List (Nat × Spec) := [(29, .pure (phrase_plain.S N))]
noncomputable def phrase_Check.E (N : Nat) : Env := mkEnv (phrase_Check.G N) N tyTab phrase_Check.kp
noncomputable def phrase_Check.fn (N : Nat) (x : ByteArray × Int × Int × ByteArray) : Option Int := evFn (phrase_Check.E N) Tryz.prog 3 Tryz.f21 false [.agg (.pair (.str) (.pair (.int .i64) (.pair (.int .i64) (.str))))] [.val (.cell (.int .i64))] x
noncomputable def phrase_Check.S (N : Nat) : PSpec := ⟨false, [.agg (.pair (.str) (.pair (.int .i64) (.pair (.int .i64) (.str))))], [.val (.cell (.int .i64))], phrase_Check.fn N⟩
theorem f21_enters : Enters Tryz.prog 21 := ⟨Tryz.f21, Tryz.func21, by kernel_rfl, by kernel_rfl⟩
theorem phrase_Check.tab (N : Nat) : TabOk Tryz.prog (phrase_Check.G N) := ⟨⟨phrase_plain.enters, phrase_plain.sound N⟩, trivial⟩
theorem phrase_Check.enters : Enters Tryz.prog 21 := f21_enters
theorem phrase_Check.sound (N : Nat) : Sound Tryz.prog 21 (phrase_Check.S N) := evFn_sound (specs_tab (phrase_Check.tab N)) (inls_tab (phrase_Check.tab N)) mixed 3 Tryz.func21 _ _ _
theorem phrase_Check.eq (N : Nat) (x0 : ByteArray × Int × Int × ByteArray) : phrase_Check.fn N x0 =
    (phrase_plain.fn N x0.1).bind fun r1 =>
    bif !r1 then
      some 3
    else
    bif !(!(decide (x0.2.1 < 0))) || (!(decide (x0.2.1 < 0))) then
      bif !(!(decide (x0.2.1 < 0))) || (!(decide (x0.2.1 < 0))) then
        bif (decide (x0.2.1 < 0)) || (!(decide (x0.2.1 < 0))) then
          bif (decide (x0.2.1 < 0)) || (decide (x0.2.1 > 6)) then
            some 1
          else
          bif decide (x0.2.1 ≥ 3) then
            bif !(!(!(x0.2.2.1 == 0))) || (!(!(x0.2.2.1 == 0))) then
              bif !(!(!(x0.2.2.1 == 0))) || (!(!(x0.2.2.1 == 0))) then
                (bif (!(!(x0.2.2.1 == 0))) then phrase_plain.fn N x0.2.2.2 else some (false)).bind fun r2 =>
                bif !(!(!(x0.2.2.1 == 0))) || (!(!(x0.2.2.1 == 0))) then
                  bif (!(x0.2.2.1 == 0)) || (!(!(x0.2.2.1 == 0))) then
                    bif (!(x0.2.2.1 == 0)) || (!r2) then
                      some 3
                    else
                      some 0
                  else
                    none
                else
                  none
              else
                none
            else
              none
          else
          bif !(seq x0.2.2.2 (⟨#[]⟩ : ByteArray)) then
            some 3
          else
          bif !(!(decide (x0.2.2.1 < 0))) || (!(decide (x0.2.2.1 < 0))) then
            bif !(!(decide (x0.2.2.1 < 0))) || (!(decide (x0.2.2.1 < 0))) then
              bif !(!(decide (x0.2.2.1 < 0))) || (!(decide (x0.2.2.1 < 0))) then
                bif ((decide (0 ≤ x0.2.1)) && (decide (x0.2.1 < 3))) || !(!(decide (x0.2.2.1 < 0))) then
                  bif !(!(decide (x0.2.2.1 < 0))) || (!(decide (x0.2.2.1 < 0))) then
                    bif (decide ((0 + ((Int.toNat x0.2.1) * 1)) < 3)) || !(!(decide (x0.2.2.1 < 0))) then
                      bif !(!(decide (x0.2.2.1 < 0))) || (!(decide (x0.2.2.1 < 0))) then
                        bif !(!(decide (x0.2.2.1 < 0))) || (!(decide (x0.2.2.1 < 0))) then
                          bif (decide (x0.2.2.1 < 0)) || (!(decide (x0.2.2.1 < 0))) then
                            bif (decide (x0.2.2.1 < 0)) || (decide (x0.2.2.1 > (List.getD [60000, 4095, 400] (0 + ((Int.toNat x0.2.1) * 1)) 0))) then
                              some 4
                            else
                              some 0
                          else
                            none
                        else
                          none
                      else
                        none
                    else
                      none
                  else
                    none
                else
                  none
              else
                none
            else
              none
          else
            none
        else
          none
      else
        none
    else
      none := by kernel_rfl
theorem taut19 : ∀ p0 : Bool, ((!(!(!(p0))) || (!(!(p0))))) = true := by decide
theorem taut20 : ∀ p0 : Bool, (((!(p0)) || (!(!(p0))))) = true := by decide
theorem phrase_Check.clean (N : Nat) (x0 : ByteArray × Int × Int × ByteArray) : phrase_Check.fn N x0 =
    (phrase_plain.fn N x0.1).bind fun r1 =>
    bif !r1 then
      some 3
    else
    bif (decide (x0.2.1 < 0)) || (decide (x0.2.1 > 6)) then
      some 1
    else
    bif decide (x0.2.1 ≥ 3) then
      (bif (!(!(x0.2.2.1 == 0))) then phrase_plain.fn N x0.2.2.2 else some (false)).bind fun r2 =>
      bif (!(x0.2.2.1 == 0)) || (!r2) then
        some 3
      else
        some 0
    else
    bif !(seq x0.2.2.2 (⟨#[]⟩ : ByteArray)) then
      some 3
    else
    bif ((decide (0 ≤ x0.2.1)) && (decide (x0.2.1 < 3))) || !(!(decide (x0.2.2.1 < 0))) then
      bif (decide ((0 + ((Int.toNat x0.2.1) * 1)) < 3)) || !(!(decide (x0.2.2.1 < 0))) then
        bif (decide (x0.2.2.1 < 0)) || (decide (x0.2.2.1 > (List.getD [60000, 4095, 400] (0 + ((Int.toNat x0.2.1) * 1)) 0))) then
          some 4
        else
          some 0
      else
        none
    else
      none := by
  rw [phrase_Check.eq]; simp only [taut19, taut3, taut20, taut6, cond_true]

/-! ### num_DivDown: skyway/num.DivDown -/
def num_DivDown.kp : List (Nat × List (Nat × Option (TypeId × Ty))) := []
noncomputable def num_DivDown.G (N : Nat) : List (Nat × Spec) := []
noncomputable def num_DivDown.E (N : Nat) : Env := mkEnv (num_DivDown.G N) N tyTab num_DivDown.kp
noncomputable def num_DivDown.fn (N : Nat) (x : Int × Int) : Option (Int × Int) := evFn (num_DivDown.E N) Tryz.prog 3 Tryz.f58 false [.cell (.int .i64), .cell (.int .i64)] [.val (.cell (.int .i64)), .val (.cell (.int .i64))] x
noncomputable def num_DivDown.S (N : Nat) : PSpec := ⟨false, [.cell (.int .i64), .cell (.int .i64)], [.val (.cell (.int .i64)), .val (.cell (.int .i64))], num_DivDown.fn N⟩
theorem f58_enters : Enters Tryz.prog 58 := ⟨Tryz.f58, Tryz.func58, by kernel_rfl, by kernel_rfl⟩
theorem num_DivDown.tab (N : Nat) : TabOk Tryz.prog (num_DivDown.G N) := trivial
theorem num_DivDown.enters : Enters Tryz.prog 58 := f58_enters
theorem num_DivDown.sound (N : Nat) : Sound Tryz.prog 58 (num_DivDown.S N) := evFn_sound (specs_tab (num_DivDown.tab N)) (inls_tab (num_DivDown.tab N)) mixed 3 Tryz.func58 _ _ _
theorem num_DivDown.eq (N : Nat) (x0 : Int) (x1 : Int) : num_DivDown.fn N (x0, x1) =
    bif x1 == 0 then
      some (0, 10)
    else
    bif !(x0 == (-9223372036854775808)) || (x0 == (-9223372036854775808)) then
      bif (!(x0 == (-9223372036854775808))) || (x0 == (-9223372036854775808)) then
        bif (x0 == (-9223372036854775808)) && (x1 == (-1)) then
          some (0, 2)
        else
        bif x1 != 0 then
          bif x1 != 0 then
            bif !(!((Int.tmod x0 x1) == 0)) || (!((Int.tmod x0 x1) == 0)) then
              bif !(!((Int.tmod x0 x1) == 0)) || (!((Int.tmod x0 x1) == 0)) then
                bif !(!((Int.tmod x0 x1) == 0)) || (!((Int.tmod x0 x1) == 0)) then
                  bif !(!((Int.tmod x0 x1) == 0)) || (!((Int.tmod x0 x1) == 0)) then
                    bif (!(!((Int.tmod x0 x1) == 0))) || (!((Int.tmod x0 x1) == 0)) then
                      bif (!((Int.tmod x0 x1) == 0)) && (!((decide (x0 < 0)) == (decide (x1 < 0)))) then
                        some ((w ((w (Int.tdiv x0 x1)) - 1)), 0)
                      else
                        some ((w (Int.tdiv x0 x1)), 0)
                    else
                      none
                  else
                    none
                else
                  none
              else
                none
            else
              none
          else
            none
        else
          none
      else
        none
    else
      none := by kernel_rfl
theorem taut21 : ∀ p0 : Bool, ((!(p0) || (p0))) = true := by decide
theorem taut22 : ∀ p0 : Bool, (((!(!(p0))) || (!(p0)))) = true := by decide
theorem taut23 : ∀ p0 : Bool, (((!(p0)) || (p0))) = true := by decide
theorem num_DivDown.clean (N : Nat) (x0 : Int) (x1 : Int) : num_DivDown.fn N (x0, x1) =
    bif x1 == 0 then
      some (0, 10)
    else
    bif (x0 == (-9223372036854775808)) && (x1 == (-1)) then
      some (0, 2)
    else
    bif x1 != 0 then
      bif x1 != 0 then
        bif (!((Int.tmod x0 x1) == 0)) && (!((decide (x0 < 0)) == (decide (x1 < 0)))) then
          some ((w ((w (Int.tdiv x0 x1)) - 1)), 0)
        else
          some ((w (Int.tdiv x0 x1)), 0)
      else
        none
    else
      none := by
  rw [num_DivDown.eq]; simp only [taut3, taut21, taut22, taut23, cond_true]

/-! ### plane_Toward: skyway/plane.Toward -/
def plane_Toward.kp : List (Nat × List (Nat × Option (TypeId × Ty))) := []
noncomputable def plane_Toward.G (N : Nat) : List (Nat × Spec) := [(27, .pure (plane_Check.S N)), (58, .pure (num_DivDown.S N))]
noncomputable def plane_Toward.E (N : Nat) : Env := mkEnv (plane_Toward.G N) N tyTab plane_Toward.kp
noncomputable def plane_Toward.fn (N : Nat) (x : (Int × Int) × (Int × Int) × Int × Int) : Option ((Int × Int) × Int) := evFn (plane_Toward.E N) Tryz.prog 3 Tryz.f41 false [.agg (.pair (.int .i64) (.int .i64)), .agg (.pair (.int .i64) (.int .i64)), .cell (.int .i64), .cell (.int .i64)] [.val (.agg (.pair (.int .i64) (.int .i64))), .val (.cell (.int .i64))] x
noncomputable def plane_Toward.S (N : Nat) : PSpec := ⟨false, [.agg (.pair (.int .i64) (.int .i64)), .agg (.pair (.int .i64) (.int .i64)), .cell (.int .i64), .cell (.int .i64)], [.val (.agg (.pair (.int .i64) (.int .i64))), .val (.cell (.int .i64))], plane_Toward.fn N⟩
theorem f41_enters : Enters Tryz.prog 41 := ⟨Tryz.f41, Tryz.func41, by kernel_rfl, by kernel_rfl⟩
theorem plane_Toward.tab (N : Nat) : TabOk Tryz.prog (plane_Toward.G N) := ⟨⟨plane_Check.enters, plane_Check.sound N⟩, ⟨num_DivDown.enters, num_DivDown.sound N⟩, trivial⟩
theorem plane_Toward.enters : Enters Tryz.prog 41 := f41_enters
theorem plane_Toward.sound (N : Nat) : Sound Tryz.prog 41 (plane_Toward.S N) := evFn_sound (specs_tab (plane_Toward.tab N)) (inls_tab (plane_Toward.tab N)) mixed 3 Tryz.func41 _ _ _
theorem plane_Toward.eq (N : Nat) (x0 : Int × Int) (x1 : Int × Int) (x2 : Int) (x3 : Int) : plane_Toward.fn N (x0, x1, x2, x3) =
    bif decide (x3 ≤ 0) then
      some ((0, 0), 10)
    else
    bif !(!(decide (x3 > 200000))) || (!(decide (x3 > 200000))) then
      bif (decide (x3 > 200000)) || (!(decide (x3 > 200000))) then
        bif !(!((decide (x3 > 200000)) || (decide (x2 < 0)))) || (!((decide (x3 > 200000)) || (decide (x2 < 0)))) then
          bif !(!((decide (x3 > 200000)) || (decide (x2 < 0)))) || (!((decide (x3 > 200000)) || (decide (x2 < 0)))) then
            bif ((decide (x3 > 200000)) || (decide (x2 < 0))) || (!((decide (x3 > 200000)) || (decide (x2 < 0)))) then
              bif !(!(((decide (x3 > 200000)) || (decide (x2 < 0))) || (decide (x2 > x3)))) || (!(((decide (x3 > 200000)) || (decide (x2 < 0))) || (decide (x2 > x3)))) then
                (bif (!(((decide (x3 > 200000)) || (decide (x2 < 0))) || (decide (x2 > x3)))) then plane_Check.fn N x0 else some (0)).bind fun r1 =>
                bif !(!(((decide (x3 > 200000)) || (decide (x2 < 0))) || (decide (x2 > x3)))) || (!(((decide (x3 > 200000)) || (decide (x2 < 0))) || (decide (x2 > x3)))) then
                  bif (((decide (x3 > 200000)) || (decide (x2 < 0))) || (decide (x2 > x3))) || (!(((decide (x3 > 200000)) || (decide (x2 < 0))) || (decide (x2 > x3)))) then
                    bif !(!((((decide (x3 > 200000)) || (decide (x2 < 0))) || (decide (x2 > x3))) || (!(r1 == 0)))) || (!((((decide (x3 > 200000)) || (decide (x2 < 0))) || (decide (x2 > x3))) || (!(r1 == 0)))) then
                      (bif (!((((decide (x3 > 200000)) || (decide (x2 < 0))) || (decide (x2 > x3))) || (!(r1 == 0)))) then plane_Check.fn N x1 else some (0)).bind fun r2 =>
                      bif !(!((((decide (x3 > 200000)) || (decide (x2 < 0))) || (decide (x2 > x3))) || (!(r1 == 0)))) || (!((((decide (x3 > 200000)) || (decide (x2 < 0))) || (decide (x2 > x3))) || (!(r1 == 0)))) then
                        bif ((((decide (x3 > 200000)) || (decide (x2 < 0))) || (decide (x2 > x3))) || (!(r1 == 0))) || (!((((decide (x3 > 200000)) || (decide (x2 < 0))) || (decide (x2 > x3))) || (!(r1 == 0)))) then
                          bif ((((decide (x3 > 200000)) || (decide (x2 < 0))) || (decide (x2 > x3))) || (!(r1 == 0))) || (!(r2 == 0)) then
                            some ((0, 0), 4)
                          else
                            (num_DivDown.fn N ((w ((w (x1.1 - x0.1)) * x2)), x3)).bind fun r3 =>
                            (num_DivDown.fn N ((w ((w (x1.2 - x0.2)) * x2)), x3)).bind fun r4 =>
                            some (((w (x0.1 + r3.1)), (w (x0.2 + r4.1))), 0)
                        else
                          none
                      else
                        none
                    else
                      none
                  else
                    none
                else
                  none
              else
                none
            else
              none
          else
            none
        else
          none
      else
        none
    else
      none := by kernel_rfl
theorem taut24 : ∀ p0 p1 p2 p3 : Bool, ((!(!((((p0) || (p1)) || (p2)) || (!(p3)))) || (!((((p0) || (p1)) || (p2)) || (!(p3)))))) = true := by decide
theorem taut25 : ∀ p0 p1 p2 p3 : Bool, ((((((p0) || (p1)) || (p2)) || (!(p3))) || (!((((p0) || (p1)) || (p2)) || (!(p3)))))) = true := by decide
theorem plane_Toward.clean (N : Nat) (x0 : Int × Int) (x1 : Int × Int) (x2 : Int) (x3 : Int) : plane_Toward.fn N (x0, x1, x2, x3) =
    bif decide (x3 ≤ 0) then
      some ((0, 0), 10)
    else
    (bif (!(((decide (x3 > 200000)) || (decide (x2 < 0))) || (decide (x2 > x3)))) then plane_Check.fn N x0 else some (0)).bind fun r1 =>
    (bif (!((((decide (x3 > 200000)) || (decide (x2 < 0))) || (decide (x2 > x3))) || (!(r1 == 0)))) then plane_Check.fn N x1 else some (0)).bind fun r2 =>
    bif ((((decide (x3 > 200000)) || (decide (x2 < 0))) || (decide (x2 > x3))) || (!(r1 == 0))) || (!(r2 == 0)) then
      some ((0, 0), 4)
    else
      (num_DivDown.fn N ((w ((w (x1.1 - x0.1)) * x2)), x3)).bind fun r3 =>
      (num_DivDown.fn N ((w ((w (x1.2 - x0.2)) * x2)), x3)).bind fun r4 =>
      some (((w (x0.1 + r3.1)), (w (x0.2 + r4.1))), 0) := by
  rw [plane_Toward.eq]; simp only [taut24, taut1, taut2, taut3, taut25, taut4, taut5, taut6, cond_true]

/-! ### tube_between: skyway/tube.between -/
def tube_between.kp : List (Nat × List (Nat × Option (TypeId × Ty))) := []
noncomputable def tube_between.G (N : Nat) : List (Nat × Spec) := [(58, .pure (num_DivDown.S N))]
noncomputable def tube_between.E (N : Nat) : Env := mkEnv (tube_between.G N) N tyTab tube_between.kp
noncomputable def tube_between.fn (N : Nat) (x : Int × Int × Int × Int) : Option Int := evFn (tube_between.E N) Tryz.prog 3 Tryz.f42 false [.cell (.int .i64), .cell (.int .i64), .cell (.int .i64), .cell (.int .i64)] [.val (.cell (.int .i64))] x
noncomputable def tube_between.S (N : Nat) : PSpec := ⟨false, [.cell (.int .i64), .cell (.int .i64), .cell (.int .i64), .cell (.int .i64)], [.val (.cell (.int .i64))], tube_between.fn N⟩
theorem f42_enters : Enters Tryz.prog 42 := ⟨Tryz.f42, Tryz.func42, by kernel_rfl, by kernel_rfl⟩
theorem tube_between.tab (N : Nat) : TabOk Tryz.prog (tube_between.G N) := ⟨⟨num_DivDown.enters, num_DivDown.sound N⟩, trivial⟩
theorem tube_between.enters : Enters Tryz.prog 42 := f42_enters
theorem tube_between.sound (N : Nat) : Sound Tryz.prog 42 (tube_between.S N) := evFn_sound (specs_tab (tube_between.tab N)) (inls_tab (tube_between.tab N)) mixed 3 Tryz.func42 _ _ _
theorem tube_between.eq (N : Nat) (x0 : Int) (x1 : Int) (x2 : Int) (x3 : Int) : tube_between.fn N (x0, x1, x2, x3) =
    (num_DivDown.fn N ((w ((w (x1 - x0)) * x2)), x3)).bind fun r1 =>
    some (w (x0 + r1.1)) := by kernel_rfl

/-! ### num_DivUp: skyway/num.DivUp -/
def num_DivUp.kp : List (Nat × List (Nat × Option (TypeId × Ty))) := []
noncomputable def num_DivUp.G (N : Nat) : List (Nat × Spec) := [(58, .pure (num_DivDown.S N))]
noncomputable def num_DivUp.E (N : Nat) : Env := mkEnv (num_DivUp.G N) N tyTab num_DivUp.kp
noncomputable def num_DivUp.fn (N : Nat) (x : Int × Int) : Option (Int × Int) := evFn (num_DivUp.E N) Tryz.prog 3 Tryz.f59 false [.cell (.int .i64), .cell (.int .i64)] [.val (.cell (.int .i64)), .val (.cell (.int .i64))] x
noncomputable def num_DivUp.S (N : Nat) : PSpec := ⟨false, [.cell (.int .i64), .cell (.int .i64)], [.val (.cell (.int .i64)), .val (.cell (.int .i64))], num_DivUp.fn N⟩
theorem f59_enters : Enters Tryz.prog 59 := ⟨Tryz.f59, Tryz.func59, by kernel_rfl, by kernel_rfl⟩
theorem num_DivUp.tab (N : Nat) : TabOk Tryz.prog (num_DivUp.G N) := ⟨⟨num_DivDown.enters, num_DivDown.sound N⟩, trivial⟩
theorem num_DivUp.enters : Enters Tryz.prog 59 := f59_enters
theorem num_DivUp.sound (N : Nat) : Sound Tryz.prog 59 (num_DivUp.S N) := evFn_sound (specs_tab (num_DivUp.tab N)) (inls_tab (num_DivUp.tab N)) mixed 3 Tryz.func59 _ _ _
theorem num_DivUp.eq (N : Nat) (x0 : Int) (x1 : Int) : num_DivUp.fn N (x0, x1) =
    (num_DivDown.fn N (x0, x1)).bind fun r1 =>
    bif !(r1.2 == 0) || (r1.2 == 0) then
      bif !(r1.2 == 0) || (r1.2 == 0) then
        bif (x1 != 0) || !(r1.2 == 0) then
          bif !(r1.2 == 0) || (r1.2 == 0) then
            bif (!(r1.2 == 0)) || (r1.2 == 0) then
              bif (r1.2 == 0) && (!((Int.tmod x0 x1) == 0)) then
                some ((w (r1.1 + 1)), r1.2)
              else
                some (r1.1, r1.2)
            else
              none
          else
            none
        else
          none
      else
        none
    else
      none := by kernel_rfl
theorem num_DivUp.clean (N : Nat) (x0 : Int) (x1 : Int) : num_DivUp.fn N (x0, x1) =
    (num_DivDown.fn N (x0, x1)).bind fun r1 =>
    bif (x1 != 0) || !(r1.2 == 0) then
      bif (r1.2 == 0) && (!((Int.tmod x0 x1) == 0)) then
        some ((w (r1.1 + 1)), r1.2)
      else
        some (r1.1, r1.2)
    else
      none := by
  rw [num_DivUp.eq]; simp only [taut21, taut23, cond_true]

/-! ### tube_above: skyway/tube.above -/
def tube_above.kp : List (Nat × List (Nat × Option (TypeId × Ty))) := []
noncomputable def tube_above.G (N : Nat) : List (Nat × Spec) := [(59, .pure (num_DivUp.S N))]
noncomputable def tube_above.E (N : Nat) : Env := mkEnv (tube_above.G N) N tyTab tube_above.kp
noncomputable def tube_above.fn (N : Nat) (x : Int × Int × Int × Int) : Option Int := evFn (tube_above.E N) Tryz.prog 3 Tryz.f43 false [.cell (.int .i64), .cell (.int .i64), .cell (.int .i64), .cell (.int .i64)] [.val (.cell (.int .i64))] x
noncomputable def tube_above.S (N : Nat) : PSpec := ⟨false, [.cell (.int .i64), .cell (.int .i64), .cell (.int .i64), .cell (.int .i64)], [.val (.cell (.int .i64))], tube_above.fn N⟩
theorem f43_enters : Enters Tryz.prog 43 := ⟨Tryz.f43, Tryz.func43, by kernel_rfl, by kernel_rfl⟩
theorem tube_above.tab (N : Nat) : TabOk Tryz.prog (tube_above.G N) := ⟨⟨num_DivUp.enters, num_DivUp.sound N⟩, trivial⟩
theorem tube_above.enters : Enters Tryz.prog 43 := f43_enters
theorem tube_above.sound (N : Nat) : Sound Tryz.prog 43 (tube_above.S N) := evFn_sound (specs_tab (tube_above.tab N)) (inls_tab (tube_above.tab N)) mixed 3 Tryz.func43 _ _ _
theorem tube_above.eq (N : Nat) (x0 : Int) (x1 : Int) (x2 : Int) (x3 : Int) : tube_above.fn N (x0, x1, x2, x3) =
    (num_DivUp.fn N ((w ((w (x1 - x0)) * x2)), x3)).bind fun r1 =>
    some (w (x0 + r1.1)) := by kernel_rfl

/-! ### tube_at: skyway/tube.at -/
def tube_at.kp : List (Nat × List (Nat × Option (TypeId × Ty))) := [(4, [(0, none), (1, none), (4, none), (6, none)])]
noncomputable def tube_at.G (N : Nat) : List (Nat × Spec) := [(41, .pure (plane_Toward.S N)), (42, .pure (tube_between.S N)), (43, .pure (tube_above.S N))]
noncomputable def tube_at.E (N : Nat) : Env := mkEnv (tube_at.G N) N tyTab tube_at.kp
noncomputable def tube_at.fn (N : Nat) (x : List ((Int × (Int × Int) × Int) × Int × Int) × Int) : Option (((Int × (Int × Int) × Int) × Int × Int) × Int) := evFn (tube_at.E N) Tryz.prog 3 Tryz.f30 false [.cell (.sl 58 (.pair (.pair (.int .i64) (.pair (.pair (.int .i64) (.int .i64)) (.int .i64))) (.pair (.int .i64) (.int .i64)))), .cell (.int .i64)] [.val (.agg (.pair (.pair (.int .i64) (.pair (.pair (.int .i64) (.int .i64)) (.int .i64))) (.pair (.int .i64) (.int .i64)))), .val (.cell (.int .i64))] x
noncomputable def tube_at.S (N : Nat) : PSpec := ⟨false, [.cell (.sl 58 (.pair (.pair (.int .i64) (.pair (.pair (.int .i64) (.int .i64)) (.int .i64))) (.pair (.int .i64) (.int .i64)))), .cell (.int .i64)], [.val (.agg (.pair (.pair (.int .i64) (.pair (.pair (.int .i64) (.int .i64)) (.int .i64))) (.pair (.int .i64) (.int .i64)))), .val (.cell (.int .i64))], tube_at.fn N⟩
theorem f30_enters : Enters Tryz.prog 30 := ⟨Tryz.f30, Tryz.func30, by kernel_rfl, by kernel_rfl⟩
theorem tube_at.tab (N : Nat) : TabOk Tryz.prog (tube_at.G N) := ⟨⟨plane_Toward.enters, plane_Toward.sound N⟩, ⟨tube_between.enters, tube_between.sound N⟩, ⟨tube_above.enters, tube_above.sound N⟩, trivial⟩
theorem tube_at.enters : Enters Tryz.prog 30 := f30_enters
theorem tube_at.sound (N : Nat) : Sound Tryz.prog 30 (tube_at.S N) := evFn_sound (specs_tab (tube_at.tab N)) (inls_tab (tube_at.tab N)) mixed 3 Tryz.func30 _ _ _
noncomputable def tube_at.cd (N : Nat) (p : List Nat) : St → (Ex → St → Option (((Int × (Int × Int) × Int) × Int × Int) × Int)) → Option (((Int × (Int × Int) × Int) × Int × Int) × Int) := ev (tube_at.E N) Tryz.prog (callD (tube_at.E N) Tryz.prog 3) 0 (codeAt (bodyOf Tryz.f30) p)
noncomputable def tube_at.fin : Ex → St → Option (((Int × (Int × Int) × Int) × Int × Int) × Int) := endK Tryz.prog Tryz.f30 [.val (.agg (.pair (.pair (.int .i64) (.pair (.pair (.int .i64) (.int .i64)) (.int .i64))) (.pair (.int .i64) (.int .i64)))), .val (.cell (.int .i64))]
noncomputable def tube_at.l0 (N : Nat) (x0 : List ((Int × (Int × Int) × Int) × Int × Int)) (x1 : Int) (k1 : Nat) (a2 : Int) : Option (((Int × (Int × Int) × Int) × Int × Int) × Int) :=
  loopN (norm ((tube_at.E N).keep 4) 0) (tube_at.cd N [1, 1, 1, 0, 0, 0]) k1
  ⟨[.ros false 58 (.pair (.pair (.int .i64) (.pair (.pair (.int .i64) (.int .i64)) (.int .i64))) (.pair (.int .i64) (.int .i64))) x0, .sc (.int .i64 x1), .any, .any, .ptr 0 0, .any, .sc (.int .i64 a2), .any, .any, .any, .any, .any, .any, .any, .any, .any, .any, .any, .any, .any, .any, .any, .any, .any, .any, .any, .any, .any, .any, .any, .any, .any, .any, .any, .any, .any, .any, .any, .any, .any, .any, .any, .any, .any, .any, .any, .any, .any, .any, .any, .any, .any, .any, .any, .any, .any, .any, .any, .any, .any, .any, .any, .any, .any, .any, .any, .any, .any, .any, .any, .any, .any, .any, .any, .any, .any, .any, .any, .any, .any, .any, .any, .any, .any, .any, .any, .any, .any, .any, .any, .any, .any, .any, .any, .any, .any, .any, .any, .any, .any, .any, .any, .any, .any, .any, .any, .any, .any, .any, .any, .any, .any, .any, .any, .any, .any, .any], [.cells [.sc (.int .i64 0), .sc (.int .i64 0), .sc (.int .i64 0), .sc (.int .i64 0), .sc (.int .i64 0), .sc (.int .i64 0)] 58]⟩
  (blockK 0 (seqK (tube_at.cd N [1, 1, 1, 1]) tube_at.fin))
theorem tube_at.l0_zero (N : Nat) (x0 : List ((Int × (Int × Int) × Int) × Int × Int)) (x1 : Int) (a2 : Int) : tube_at.l0 N x0 x1 0 a2 = none := by kernel_rfl
theorem tube_at.l0_succ (N : Nat) (x0 : List ((Int × (Int × Int) × Int) × Int × Int)) (x1 : Int) (k1 : Nat) (a2 : Int) : tube_at.l0 N x0 x1 (k1 + 1) a2 =
    bif !(decide ((w (a2 + 1)) < (x0.length : Int))) || (decide ((w (a2 + 1)) < (x0.length : Int))) then
      bif !(decide ((w (a2 + 1)) < (x0.length : Int))) || (decide ((w (a2 + 1)) < (x0.length : Int))) then
        bif !(decide ((w (a2 + 1)) < (x0.length : Int))) || (decide ((w (a2 + 1)) < (x0.length : Int))) then
          bif ((decide (0 ≤ (w (a2 + 1)))) && (decide ((w (a2 + 1)) < (x0.length : Int)))) || !(decide ((w (a2 + 1)) < (x0.length : Int))) then
            bif !(decide ((w (a2 + 1)) < (x0.length : Int))) || (decide ((w (a2 + 1)) < (x0.length : Int))) then
              bif !(decide ((w (a2 + 1)) < (x0.length : Int))) || (decide ((w (a2 + 1)) < (x0.length : Int))) then
                bif !(decide ((w (a2 + 1)) < (x0.length : Int))) || (decide ((w (a2 + 1)) < (x0.length : Int))) then
                  bif !(decide ((w (a2 + 1)) < (x0.length : Int))) || (decide ((w (a2 + 1)) < (x0.length : Int))) then
                    bif !(decide ((w (a2 + 1)) < (x0.length : Int))) || (decide ((w (a2 + 1)) < (x0.length : Int))) then
                      bif (!(decide ((w (a2 + 1)) < (x0.length : Int)))) || (decide ((w (a2 + 1)) < (x0.length : Int))) then
                        bif (decide ((w (a2 + 1)) < (x0.length : Int))) && (decide ((((List.getD x0 (Int.toNat (w (a2 + 1))) ((0, ((0, 0), 0)), (0, 0))).1).1) ≤ x1)) then
                          tube_at.l0 N x0 x1 k1 (w (a2 + 1))
                        else
                        bif (decide (0 ≤ a2)) && (decide (a2 < (x0.length : Int))) then
                          bif (((List.getD x0 (Int.toNat a2) ((0, ((0, 0), 0)), (0, 0))).1).1) == x1 then
                            some (List.getD x0 (Int.toNat a2) ((0, ((0, 0), 0)), (0, 0)), 0)
                          else
                          bif (decide (0 ≤ (w (a2 + 1)))) && (decide ((w (a2 + 1)) < (x0.length : Int))) then
                            (plane_Toward.fn N ((((List.getD x0 (Int.toNat a2) ((0, ((0, 0), 0)), (0, 0))).1).2).1, (((List.getD x0 (Int.toNat (w (a2 + 1))) ((0, ((0, 0), 0)), (0, 0))).1).2).1, (w (x1 - (((List.getD x0 (Int.toNat a2) ((0, ((0, 0), 0)), (0, 0))).1).1))), (w ((((List.getD x0 (Int.toNat (w (a2 + 1))) ((0, ((0, 0), 0)), (0, 0))).1).1) - (((List.getD x0 (Int.toNat a2) ((0, ((0, 0), 0)), (0, 0))).1).1))))).bind fun r3 =>
                            (tube_between.fn N ((((List.getD x0 (Int.toNat a2) ((0, ((0, 0), 0)), (0, 0))).1).2).2, (((List.getD x0 (Int.toNat (w (a2 + 1))) ((0, ((0, 0), 0)), (0, 0))).1).2).2, (w (x1 - (((List.getD x0 (Int.toNat a2) ((0, ((0, 0), 0)), (0, 0))).1).1))), (w ((((List.getD x0 (Int.toNat (w (a2 + 1))) ((0, ((0, 0), 0)), (0, 0))).1).1) - (((List.getD x0 (Int.toNat a2) ((0, ((0, 0), 0)), (0, 0))).1).1))))).bind fun r4 =>
                            (tube_above.fn N (((List.getD x0 (Int.toNat a2) ((0, ((0, 0), 0)), (0, 0))).2).1, ((List.getD x0 (Int.toNat (w (a2 + 1))) ((0, ((0, 0), 0)), (0, 0))).2).1, (w (x1 - (((List.getD x0 (Int.toNat a2) ((0, ((0, 0), 0)), (0, 0))).1).1))), (w ((((List.getD x0 (Int.toNat (w (a2 + 1))) ((0, ((0, 0), 0)), (0, 0))).1).1) - (((List.getD x0 (Int.toNat a2) ((0, ((0, 0), 0)), (0, 0))).1).1))))).bind fun r5 =>
                            (tube_above.fn N (((List.getD x0 (Int.toNat a2) ((0, ((0, 0), 0)), (0, 0))).2).2, ((List.getD x0 (Int.toNat (w (a2 + 1))) ((0, ((0, 0), 0)), (0, 0))).2).2, (w (x1 - (((List.getD x0 (Int.toNat a2) ((0, ((0, 0), 0)), (0, 0))).1).1))), (w ((((List.getD x0 (Int.toNat (w (a2 + 1))) ((0, ((0, 0), 0)), (0, 0))).1).1) - (((List.getD x0 (Int.toNat a2) ((0, ((0, 0), 0)), (0, 0))).1).1))))).bind fun r6 =>
                            some (((x1, (r3.1, r4)), (r5, r6)), 0)
                          else
                            none
                        else
                          none
                      else
                        none
                    else
                      none
                  else
                    none
                else
                  none
              else
                none
            else
              none
          else
            none
        else
          none
      else
        none
    else
      none := by kernel_rfl
theorem tube_at.l0_clean (N : Nat) (x0 : List ((Int × (Int × Int) × Int) × Int × Int)) (x1 : Int) (k1 : Nat) (a2 : Int) : tube_at.l0 N x0 x1 (k1 + 1) a2 =
    bif ((decide (0 ≤ (w (a2 + 1)))) && (decide ((w (a2 + 1)) < (x0.length : Int)))) || !(decide ((w (a2 + 1)) < (x0.length : Int))) then
      bif (decide ((w (a2 + 1)) < (x0.length : Int))) && (decide ((((List.getD x0 (Int.toNat (w (a2 + 1))) ((0, ((0, 0), 0)), (0, 0))).1).1) ≤ x1)) then
        tube_at.l0 N x0 x1 k1 (w (a2 + 1))
      else
      bif (decide (0 ≤ a2)) && (decide (a2 < (x0.length : Int))) then
        bif (((List.getD x0 (Int.toNat a2) ((0, ((0, 0), 0)), (0, 0))).1).1) == x1 then
          some (List.getD x0 (Int.toNat a2) ((0, ((0, 0), 0)), (0, 0)), 0)
        else
        bif (decide (0 ≤ (w (a2 + 1)))) && (decide ((w (a2 + 1)) < (x0.length : Int))) then
          (plane_Toward.fn N ((((List.getD x0 (Int.toNat a2) ((0, ((0, 0), 0)), (0, 0))).1).2).1, (((List.getD x0 (Int.toNat (w (a2 + 1))) ((0, ((0, 0), 0)), (0, 0))).1).2).1, (w (x1 - (((List.getD x0 (Int.toNat a2) ((0, ((0, 0), 0)), (0, 0))).1).1))), (w ((((List.getD x0 (Int.toNat (w (a2 + 1))) ((0, ((0, 0), 0)), (0, 0))).1).1) - (((List.getD x0 (Int.toNat a2) ((0, ((0, 0), 0)), (0, 0))).1).1))))).bind fun r3 =>
          (tube_between.fn N ((((List.getD x0 (Int.toNat a2) ((0, ((0, 0), 0)), (0, 0))).1).2).2, (((List.getD x0 (Int.toNat (w (a2 + 1))) ((0, ((0, 0), 0)), (0, 0))).1).2).2, (w (x1 - (((List.getD x0 (Int.toNat a2) ((0, ((0, 0), 0)), (0, 0))).1).1))), (w ((((List.getD x0 (Int.toNat (w (a2 + 1))) ((0, ((0, 0), 0)), (0, 0))).1).1) - (((List.getD x0 (Int.toNat a2) ((0, ((0, 0), 0)), (0, 0))).1).1))))).bind fun r4 =>
          (tube_above.fn N (((List.getD x0 (Int.toNat a2) ((0, ((0, 0), 0)), (0, 0))).2).1, ((List.getD x0 (Int.toNat (w (a2 + 1))) ((0, ((0, 0), 0)), (0, 0))).2).1, (w (x1 - (((List.getD x0 (Int.toNat a2) ((0, ((0, 0), 0)), (0, 0))).1).1))), (w ((((List.getD x0 (Int.toNat (w (a2 + 1))) ((0, ((0, 0), 0)), (0, 0))).1).1) - (((List.getD x0 (Int.toNat a2) ((0, ((0, 0), 0)), (0, 0))).1).1))))).bind fun r5 =>
          (tube_above.fn N (((List.getD x0 (Int.toNat a2) ((0, ((0, 0), 0)), (0, 0))).2).2, ((List.getD x0 (Int.toNat (w (a2 + 1))) ((0, ((0, 0), 0)), (0, 0))).2).2, (w (x1 - (((List.getD x0 (Int.toNat a2) ((0, ((0, 0), 0)), (0, 0))).1).1))), (w ((((List.getD x0 (Int.toNat (w (a2 + 1))) ((0, ((0, 0), 0)), (0, 0))).1).1) - (((List.getD x0 (Int.toNat a2) ((0, ((0, 0), 0)), (0, 0))).1).1))))).bind fun r6 =>
          some (((x1, (r3.1, r4)), (r5, r6)), 0)
        else
          none
      else
        none
    else
      none := by
  rw [tube_at.l0_succ]; simp only [taut21, taut23, cond_true]
theorem tube_at.eq (N : Nat) (x0 : List ((Int × (Int × Int) × Int) × Int × Int)) (x1 : Int) : tube_at.fn N (x0, x1) =
    bif decide (0 < (x0.length : Int)) then
      bif !(!(decide (x1 < (((List.getD x0 0 ((0, ((0, 0), 0)), (0, 0))).1).1)))) || (!(decide (x1 < (((List.getD x0 0 ((0, ((0, 0), 0)), (0, 0))).1).1)))) then
        bif !(!(decide (x1 < (((List.getD x0 0 ((0, ((0, 0), 0)), (0, 0))).1).1)))) || (!(decide (x1 < (((List.getD x0 0 ((0, ((0, 0), 0)), (0, 0))).1).1)))) then
          bif !(!(decide (x1 < (((List.getD x0 0 ((0, ((0, 0), 0)), (0, 0))).1).1)))) || (!(decide (x1 < (((List.getD x0 0 ((0, ((0, 0), 0)), (0, 0))).1).1)))) then
            bif !(!(decide (x1 < (((List.getD x0 0 ((0, ((0, 0), 0)), (0, 0))).1).1)))) || (!(decide (x1 < (((List.getD x0 0 ((0, ((0, 0), 0)), (0, 0))).1).1)))) then
              bif ((decide (0 ≤ (w ((x0.length : Int) - 1)))) && (decide ((w ((x0.length : Int) - 1)) < (x0.length : Int)))) || !(!(decide (x1 < (((List.getD x0 0 ((0, ((0, 0), 0)), (0, 0))).1).1)))) then
                bif !(!(decide (x1 < (((List.getD x0 0 ((0, ((0, 0), 0)), (0, 0))).1).1)))) || (!(decide (x1 < (((List.getD x0 0 ((0, ((0, 0), 0)), (0, 0))).1).1)))) then
                  bif !(!(decide (x1 < (((List.getD x0 0 ((0, ((0, 0), 0)), (0, 0))).1).1)))) || (!(decide (x1 < (((List.getD x0 0 ((0, ((0, 0), 0)), (0, 0))).1).1)))) then
                    bif !(!(decide (x1 < (((List.getD x0 0 ((0, ((0, 0), 0)), (0, 0))).1).1)))) || (!(decide (x1 < (((List.getD x0 0 ((0, ((0, 0), 0)), (0, 0))).1).1)))) then
                      bif !(!(decide (x1 < (((List.getD x0 0 ((0, ((0, 0), 0)), (0, 0))).1).1)))) || (!(decide (x1 < (((List.getD x0 0 ((0, ((0, 0), 0)), (0, 0))).1).1)))) then
                        bif !(!(decide (x1 < (((List.getD x0 0 ((0, ((0, 0), 0)), (0, 0))).1).1)))) || (!(decide (x1 < (((List.getD x0 0 ((0, ((0, 0), 0)), (0, 0))).1).1)))) then
                          bif (decide (x1 < (((List.getD x0 0 ((0, ((0, 0), 0)), (0, 0))).1).1))) || (!(decide (x1 < (((List.getD x0 0 ((0, ((0, 0), 0)), (0, 0))).1).1)))) then
                            bif (decide (x1 < (((List.getD x0 0 ((0, ((0, 0), 0)), (0, 0))).1).1))) || (decide (x1 > (((List.getD x0 (Int.toNat (w ((x0.length : Int) - 1))) ((0, ((0, 0), 0)), (0, 0))).1).1))) then
                              some (((0, ((0, 0), 0)), (0, 0)), 12)
                            else
                              tube_at.l0 N x0 x1 N 0
                          else
                            none
                        else
                          none
                      else
                        none
                    else
                      none
                  else
                    none
                else
                  none
              else
                none
            else
              none
          else
            none
        else
          none
      else
        none
    else
      none := by kernel_rfl
theorem tube_at.clean (N : Nat) (x0 : List ((Int × (Int × Int) × Int) × Int × Int)) (x1 : Int) : tube_at.fn N (x0, x1) =
    bif decide (0 < (x0.length : Int)) then
      bif ((decide (0 ≤ (w ((x0.length : Int) - 1)))) && (decide ((w ((x0.length : Int) - 1)) < (x0.length : Int)))) || !(!(decide (x1 < (((List.getD x0 0 ((0, ((0, 0), 0)), (0, 0))).1).1)))) then
        bif (decide (x1 < (((List.getD x0 0 ((0, ((0, 0), 0)), (0, 0))).1).1))) || (decide (x1 > (((List.getD x0 (Int.toNat (w ((x0.length : Int) - 1))) ((0, ((0, 0), 0)), (0, 0))).1).1))) then
          some (((0, ((0, 0), 0)), (0, 0)), 12)
        else
          tube_at.l0 N x0 x1 N 0
      else
        none
    else
      none := by
  rw [tube_at.eq]; simp only [taut3, taut6, cond_true]

/-! ### tube_Point: skyway/tube.Point -/
def tube_Point.kp : List (Nat × List (Nat × Option (TypeId × Ty))) := []
noncomputable def tube_Point.G (N : Nat) : List (Nat × Spec) := [(30, .pure (tube_at.S N))]
noncomputable def tube_Point.E (N : Nat) : Env := mkEnv (tube_Point.G N) N tyTab tube_Point.kp
noncomputable def tube_Point.fn (N : Nat) (x : List ((Int × (Int × Int) × Int) × Int × Int) × Int) : Option ((Int × (Int × Int) × Int) × Int × Int) := evFn (tube_Point.E N) Tryz.prog 3 Tryz.f22 false [.cell (.sl 58 (.pair (.pair (.int .i64) (.pair (.pair (.int .i64) (.int .i64)) (.int .i64))) (.pair (.int .i64) (.int .i64)))), .cell (.int .i64)] [.val (.agg (.pair (.pair (.int .i64) (.pair (.pair (.int .i64) (.int .i64)) (.int .i64))) (.pair (.int .i64) (.int .i64))))] x
noncomputable def tube_Point.S (N : Nat) : PSpec := ⟨false, [.cell (.sl 58 (.pair (.pair (.int .i64) (.pair (.pair (.int .i64) (.int .i64)) (.int .i64))) (.pair (.int .i64) (.int .i64)))), .cell (.int .i64)], [.val (.agg (.pair (.pair (.int .i64) (.pair (.pair (.int .i64) (.int .i64)) (.int .i64))) (.pair (.int .i64) (.int .i64))))], tube_Point.fn N⟩
theorem f22_enters : Enters Tryz.prog 22 := ⟨Tryz.f22, Tryz.func22, by kernel_rfl, by kernel_rfl⟩
theorem tube_Point.tab (N : Nat) : TabOk Tryz.prog (tube_Point.G N) := ⟨⟨tube_at.enters, tube_at.sound N⟩, trivial⟩
theorem tube_Point.enters : Enters Tryz.prog 22 := f22_enters
theorem tube_Point.sound (N : Nat) : Sound Tryz.prog 22 (tube_Point.S N) := evFn_sound (specs_tab (tube_Point.tab N)) (inls_tab (tube_Point.tab N)) mixed 3 Tryz.func22 _ _ _
theorem tube_Point.eq (N : Nat) (x0 : List ((Int × (Int × Int) × Int) × Int × Int)) (x1 : Int) : tube_Point.fn N (x0, x1) =
    (tube_at.fn N (x0, x1)).bind fun r1 =>
    some r1.1 := by kernel_rfl

/-! ### resolve_motion_1: skyway/resolve.motion$1 -/
def resolve_motion_1.kp : List (Nat × List (Nat × Option (TypeId × Ty))) := []
noncomputable def resolve_motion_1.G (N : Nat) : List (Nat × Spec) := []
noncomputable def resolve_motion_1.E (N : Nat) : Env := mkEnv (resolve_motion_1.G N) N tyTab resolve_motion_1.kp
noncomputable def resolve_motion_1.fn (N : Nat) (x : ((Int × (Int × Int) × Int) × Int × Int) × Int) : Option Bool := evFn (resolve_motion_1.E N) Tryz.prog 3 Tryz.f32 false [.agg (.pair (.pair (.int .i64) (.pair (.pair (.int .i64) (.int .i64)) (.int .i64))) (.pair (.int .i64) (.int .i64))), .box (.int .i64)] [.val (.cell (.bool))] x
noncomputable def resolve_motion_1.S (N : Nat) : PSpec := ⟨false, [.agg (.pair (.pair (.int .i64) (.pair (.pair (.int .i64) (.int .i64)) (.int .i64))) (.pair (.int .i64) (.int .i64))), .box (.int .i64)], [.val (.cell (.bool))], resolve_motion_1.fn N⟩
theorem f32_enters : Enters Tryz.prog 32 := ⟨Tryz.f32, Tryz.func32, by kernel_rfl, by kernel_rfl⟩
theorem resolve_motion_1.tab (N : Nat) : TabOk Tryz.prog (resolve_motion_1.G N) := trivial
theorem resolve_motion_1.enters : Enters Tryz.prog 32 := f32_enters
theorem resolve_motion_1.sound (N : Nat) : Sound Tryz.prog 32 (resolve_motion_1.S N) := evFn_sound (specs_tab (resolve_motion_1.tab N)) (inls_tab (resolve_motion_1.tab N)) mixed 3 Tryz.func32 _ _ _
theorem resolve_motion_1.eq (N : Nat) (x0 : (Int × (Int × Int) × Int) × Int × Int) (x1 : Int) : resolve_motion_1.fn N (x0, x1) =
    some (decide (x0.1.1 > x1)) := by kernel_rfl

/-! ### plane_Sub: skyway/plane.Sub -/
def plane_Sub.kp : List (Nat × List (Nat × Option (TypeId × Ty))) := []
noncomputable def plane_Sub.G (N : Nat) : List (Nat × Spec) := []
noncomputable def plane_Sub.E (N : Nat) : Env := mkEnv (plane_Sub.G N) N tyTab plane_Sub.kp
noncomputable def plane_Sub.fn (N : Nat) (x : (Int × Int) × Int × Int) : Option (Int × Int) := evFn (plane_Sub.E N) Tryz.prog 3 Tryz.f34 false [.agg (.pair (.int .i64) (.int .i64)), .agg (.pair (.int .i64) (.int .i64))] [.val (.agg (.pair (.int .i64) (.int .i64)))] x
noncomputable def plane_Sub.S (N : Nat) : PSpec := ⟨false, [.agg (.pair (.int .i64) (.int .i64)), .agg (.pair (.int .i64) (.int .i64))], [.val (.agg (.pair (.int .i64) (.int .i64)))], plane_Sub.fn N⟩
theorem f34_enters : Enters Tryz.prog 34 := ⟨Tryz.f34, Tryz.func34, by kernel_rfl, by kernel_rfl⟩
theorem plane_Sub.tab (N : Nat) : TabOk Tryz.prog (plane_Sub.G N) := trivial
theorem plane_Sub.enters : Enters Tryz.prog 34 := f34_enters
theorem plane_Sub.sound (N : Nat) : Sound Tryz.prog 34 (plane_Sub.S N) := evFn_sound (specs_tab (plane_Sub.tab N)) (inls_tab (plane_Sub.tab N)) mixed 3 Tryz.func34 _ _ _
theorem plane_Sub.eq (N : Nat) (x0 : Int × Int) (x1 : Int × Int) : plane_Sub.fn N (x0, x1) =
    some ((w (x0.1 - x1.1)), (w (x0.2 - x1.2))) := by kernel_rfl

/-! ### angle_Norm: skyway/angle.Norm -/
def angle_Norm.kp : List (Nat × List (Nat × Option (TypeId × Ty))) := []
noncomputable def angle_Norm.G (N : Nat) : List (Nat × Spec) := []
noncomputable def angle_Norm.E (N : Nat) : Env := mkEnv (angle_Norm.G N) N tyTab angle_Norm.kp
noncomputable def angle_Norm.fn (N : Nat) (x : Int) : Option Int := evFn (angle_Norm.E N) Tryz.prog 3 Tryz.f24 false [.cell (.int .i64)] [.val (.cell (.int .i64))] x
noncomputable def angle_Norm.S (N : Nat) : PSpec := ⟨false, [.cell (.int .i64)], [.val (.cell (.int .i64))], angle_Norm.fn N⟩
theorem f24_enters : Enters Tryz.prog 24 := ⟨Tryz.f24, Tryz.func24, by kernel_rfl, by kernel_rfl⟩
theorem angle_Norm.tab (N : Nat) : TabOk Tryz.prog (angle_Norm.G N) := trivial
theorem angle_Norm.enters : Enters Tryz.prog 24 := f24_enters
theorem angle_Norm.sound (N : Nat) : Sound Tryz.prog 24 (angle_Norm.S N) := evFn_sound (specs_tab (angle_Norm.tab N)) (inls_tab (angle_Norm.tab N)) mixed 3 Tryz.func24 _ _ _
theorem angle_Norm.eq (N : Nat) (x0 : Int) : angle_Norm.fn N x0 =
    some (bandI .i64 x0 4095) := by kernel_rfl

/-! ### bits_Mul64: math/bits.Mul64 -/
def bits_Mul64.kp : List (Nat × List (Nat × Option (TypeId × Ty))) := []
noncomputable def bits_Mul64.G (N : Nat) : List (Nat × Spec) := []
noncomputable def bits_Mul64.E (N : Nat) : Env := mkEnv (bits_Mul64.G N) N tyTab bits_Mul64.kp
noncomputable def bits_Mul64.fn (N : Nat) (x : Int × Int) : Option (Int × Int) := evFn (bits_Mul64.E N) Tryz.prog 3 Tryz.f107 false [.cell (.int .u64), .cell (.int .u64)] [.val (.cell (.int .u64)), .val (.cell (.int .u64))] x
noncomputable def bits_Mul64.S (N : Nat) : PSpec := ⟨false, [.cell (.int .u64), .cell (.int .u64)], [.val (.cell (.int .u64)), .val (.cell (.int .u64))], bits_Mul64.fn N⟩
theorem f107_enters : Enters Tryz.prog 107 := ⟨Tryz.f107, Tryz.func107, by kernel_rfl, by kernel_rfl⟩
theorem bits_Mul64.tab (N : Nat) : TabOk Tryz.prog (bits_Mul64.G N) := trivial
theorem bits_Mul64.enters : Enters Tryz.prog 107 := f107_enters
theorem bits_Mul64.sound (N : Nat) : Sound Tryz.prog 107 (bits_Mul64.S N) := evFn_sound (specs_tab (bits_Mul64.tab N)) (inls_tab (bits_Mul64.tab N)) mixed 3 Tryz.func107 _ _ _
theorem bits_Mul64.eq (N : Nat) (x0 : Int) (x1 : Int) : bits_Mul64.fn N (x0, x1) =
    some ((IntKind.wrap .u64 ((IntKind.wrap .u64 ((IntKind.wrap .u64 ((shrI .u64 x0 32) * (shrI .u64 x1 32))) + (shrI .u64 (IntKind.wrap .u64 ((IntKind.wrap .u64 ((shrI .u64 x0 32) * (bandI .u64 x1 4294967295))) + (shrI .u64 (IntKind.wrap .u64 ((bandI .u64 x0 4294967295) * (bandI .u64 x1 4294967295))) 32))) 32))) + (shrI .u64 (IntKind.wrap .u64 ((bandI .u64 (IntKind.wrap .u64 ((IntKind.wrap .u64 ((shrI .u64 x0 32) * (bandI .u64 x1 4294967295))) + (shrI .u64 (IntKind.wrap .u64 ((bandI .u64 x0 4294967295) * (bandI .u64 x1 4294967295))) 32))) 4294967295) + (IntKind.wrap .u64 ((bandI .u64 x0 4294967295) * (shrI .u64 x1 32))))) 32))), (IntKind.wrap .u64 (x0 * x1))) := by kernel_rfl

/-! ### bits_Len64: math/bits.Len64 -/
def bits_Len64.kp : List (Nat × List (Nat × Option (TypeId × Ty))) := [(1000004, [(0, none), (2, none)]), (1000007, [(0, none), (2, none)])]
noncomputable def bits_Len64.G (N : Nat) : List (Nat × Spec) := []
noncomputable def bits_Len64.E (N : Nat) : Env := mkEnv (bits_Len64.G N) N tyTab bits_Len64.kp
noncomputable def bits_Len64.fn (N : Nat) (x : Int) : Option Int := evFn (bits_Len64.E N) Tryz.prog 3 Tryz.f110 false [.cell (.int .u64)] [.val (.cell (.int .i64))] x
noncomputable def bits_Len64.S (N : Nat) : PSpec := ⟨false, [.cell (.int .u64)], [.val (.cell (.int .i64))], bits_Len64.fn N⟩
theorem f110_enters : Enters Tryz.prog 110 := ⟨Tryz.f110, Tryz.func110, by kernel_rfl, by kernel_rfl⟩
theorem bits_Len64.tab (N : Nat) : TabOk Tryz.prog (bits_Len64.G N) := trivial
theorem bits_Len64.enters : Enters Tryz.prog 110 := f110_enters
theorem bits_Len64.sound (N : Nat) : Sound Tryz.prog 110 (bits_Len64.S N) := evFn_sound (specs_tab (bits_Len64.tab N)) (inls_tab (bits_Len64.tab N)) mixed 3 Tryz.func110 _ _ _
noncomputable def bits_Len64.cd (N : Nat) (p : List Nat) : St → (Ex → St → Option Int) → Option Int := ev (bits_Len64.E N) Tryz.prog (callD (bits_Len64.E N) Tryz.prog 3) 0 (codeAt (bodyOf Tryz.f110) p)
noncomputable def bits_Len64.fin : Ex → St → Option Int := endK Tryz.prog Tryz.f110 [.val (.cell (.int .i64))]
noncomputable def bits_Len64.j0 (N : Nat) (a1 : Int) (a2 : Int) : Option Int :=
  fuelK N (region (bits_Len64.E N) Tryz.prog (callD (bits_Len64.E N) Tryz.prog 3) (opsAt (codeAt (bodyOf Tryz.f110) [1, 1, 0, 0])) false
  ⟨[.sc (.int .u64 a1), .any, .sc (.int .i64 a2), .any, .any, .any, .any, .any, .any, .any, .any, .any, .any, .any, .any, .any, .any, .any, .any, .any, .any, .any, .any, .any, .any], []⟩
  (fun S => (seqK (bits_Len64.cd N [1, 1, 0, 1]) (seqK (bits_Len64.cd N [1, 1, 1]) bits_Len64.fin)) .normal S))
noncomputable def bits_Len64.j1 (N : Nat) (a3 : Int) (a4 : Int) : Option Int :=
  fuelK N (region (bits_Len64.E N) Tryz.prog (callD (bits_Len64.E N) Tryz.prog 3) (opsAt (codeAt (bodyOf Tryz.f110) [1, 1, 1, 0, 0])) false
  ⟨[.sc (.int .u64 a3), .any, .sc (.int .i64 a4), .any, .any, .any, .any, .any, .any, .any, .any, .any, .any, .any, .any, .any, .any, .any, .any, .any, .any, .any, .any, .any, .any], []⟩
  (fun S => (seqK (bits_Len64.cd N [1, 1, 1, 0, 1]) (seqK (bits_Len64.cd N [1, 1, 1, 1]) bits_Len64.fin)) .normal S))
theorem bits_Len64.j1_eq (N : Nat) (a3 : Int) (a4 : Int) {M : Nat} (hM : N = M + 1) : bits_Len64.j1 N a3 a4 =
    bif decide (a3 ≥ 256) then
      bif (decide (0 ≤ (IntKind.wrap .u8 (shrI .u64 a3 8)))) && (decide ((IntKind.wrap .u8 (shrI .u64 a3 8)) < ((⟨#[0, 1, 2, 2, 3, 3, 3, 3, 4, 4, 4, 4, 4, 4, 4, 4, 5, 5, 5, 5, 5, 5, 5, 5, 5, 5, 5, 5, 5, 5, 5, 5, 6, 6, 6, 6, 6, 6, 6, 6, 6, 6, 6, 6, 6, 6, 6, 6, 6, 6, 6, 6, 6, 6, 6, 6, 6, 6, 6, 6, 6, 6, 6, 6, 7, 7, 7, 7, 7, 7, 7, 7, 7, 7, 7, 7, 7, 7, 7, 7, 7, 7, 7, 7, 7, 7, 7, 7, 7, 7, 7, 7, 7, 7, 7, 7, 7, 7, 7, 7, 7, 7, 7, 7, 7, 7, 7, 7, 7, 7, 7, 7, 7, 7, 7, 7, 7, 7, 7, 7, 7, 7, 7, 7, 7, 7, 7, 7, 8, 8, 8, 8, 8, 8, 8, 8, 8, 8, 8, 8, 8, 8, 8, 8, 8, 8, 8, 8, 8, 8, 8, 8, 8, 8, 8, 8, 8, 8, 8, 8, 8, 8, 8, 8, 8, 8, 8, 8, 8, 8, 8, 8, 8, 8, 8, 8, 8, 8, 8, 8, 8, 8, 8, 8, 8, 8, 8, 8, 8, 8, 8, 8, 8, 8, 8, 8, 8, 8, 8, 8, 8, 8, 8, 8, 8, 8, 8, 8, 8, 8, 8, 8, 8, 8, 8, 8, 8, 8, 8, 8, 8, 8, 8, 8, 8, 8, 8, 8, 8, 8, 8, 8, 8, 8, 8, 8, 8, 8, 8, 8, 8, 8, 8, 8, 8, 8, 8, 8, 8, 8, 8, 8, 8, 8, 8, 8]⟩ : ByteArray).size : Int))) then
        some (w ((w (a4 + 8)) + (w ((((ByteArray.data (⟨#[0, 1, 2, 2, 3, 3, 3, 3, 4, 4, 4, 4, 4, 4, 4, 4, 5, 5, 5, 5, 5, 5, 5, 5, 5, 5, 5, 5, 5, 5, 5, 5, 6, 6, 6, 6, 6, 6, 6, 6, 6, 6, 6, 6, 6, 6, 6, 6, 6, 6, 6, 6, 6, 6, 6, 6, 6, 6, 6, 6, 6, 6, 6, 6, 7, 7, 7, 7, 7, 7, 7, 7, 7, 7, 7, 7, 7, 7, 7, 7, 7, 7, 7, 7, 7, 7, 7, 7, 7, 7, 7, 7, 7, 7, 7, 7, 7, 7, 7, 7, 7, 7, 7, 7, 7, 7, 7, 7, 7, 7, 7, 7, 7, 7, 7, 7, 7, 7, 7, 7, 7, 7, 7, 7, 7, 7, 7, 7, 8, 8, 8, 8, 8, 8, 8, 8, 8, 8, 8, 8, 8, 8, 8, 8, 8, 8, 8, 8, 8, 8, 8, 8, 8, 8, 8, 8, 8, 8, 8, 8, 8, 8, 8, 8, 8, 8, 8, 8, 8, 8, 8, 8, 8, 8, 8, 8, 8, 8, 8, 8, 8, 8, 8, 8, 8, 8, 8, 8, 8, 8, 8, 8, 8, 8, 8, 8, 8, 8, 8, 8, 8, 8, 8, 8, 8, 8, 8, 8, 8, 8, 8, 8, 8, 8, 8, 8, 8, 8, 8, 8, 8, 8, 8, 8, 8, 8, 8, 8, 8, 8, 8, 8, 8, 8, 8, 8, 8, 8, 8, 8, 8, 8, 8, 8, 8, 8, 8, 8, 8, 8, 8, 8, 8, 8, 8, 8]⟩ : ByteArray)).getD (Int.toNat (IntKind.wrap .u8 (shrI .u64 a3 8))) 0).toNat : Nat) : Int))))
      else
        none
    else
    bif (decide (0 ≤ (IntKind.wrap .u8 a3))) && (decide ((IntKind.wrap .u8 a3) < ((⟨#[0, 1, 2, 2, 3, 3, 3, 3, 4, 4, 4, 4, 4, 4, 4, 4, 5, 5, 5, 5, 5, 5, 5, 5, 5, 5, 5, 5, 5, 5, 5, 5, 6, 6, 6, 6, 6, 6, 6, 6, 6, 6, 6, 6, 6, 6, 6, 6, 6, 6, 6, 6, 6, 6, 6, 6, 6, 6, 6, 6, 6, 6, 6, 6, 7, 7, 7, 7, 7, 7, 7, 7, 7, 7, 7, 7, 7, 7, 7, 7, 7, 7, 7, 7, 7, 7, 7, 7, 7, 7, 7, 7, 7, 7, 7, 7, 7, 7, 7, 7, 7, 7, 7, 7, 7, 7, 7, 7, 7, 7, 7, 7, 7, 7, 7, 7, 7, 7, 7, 7, 7, 7, 7, 7, 7, 7, 7, 7, 8, 8, 8, 8, 8, 8, 8, 8, 8, 8, 8, 8, 8, 8, 8, 8, 8, 8, 8, 8, 8, 8, 8, 8, 8, 8, 8, 8, 8, 8, 8, 8, 8, 8, 8, 8, 8, 8, 8, 8, 8, 8, 8, 8, 8, 8, 8, 8, 8, 8, 8, 8, 8, 8, 8, 8, 8, 8, 8, 8, 8, 8, 8, 8, 8, 8, 8, 8, 8, 8, 8, 8, 8, 8, 8, 8, 8, 8, 8, 8, 8, 8, 8, 8, 8, 8, 8, 8, 8, 8, 8, 8, 8, 8, 8, 8, 8, 8, 8, 8, 8, 8, 8, 8, 8, 8, 8, 8, 8, 8, 8, 8, 8, 8, 8, 8, 8, 8, 8, 8, 8, 8, 8, 8, 8, 8, 8, 8]⟩ : ByteArray).size : Int))) then
      some (w (a4 + (w ((((ByteArray.data (⟨#[0, 1, 2, 2, 3, 3, 3, 3, 4, 4, 4, 4, 4, 4, 4, 4, 5, 5, 5, 5, 5, 5, 5, 5, 5, 5, 5, 5, 5, 5, 5, 5, 6, 6, 6, 6, 6, 6, 6, 6, 6, 6, 6, 6, 6, 6, 6, 6, 6, 6, 6, 6, 6, 6, 6, 6, 6, 6, 6, 6, 6, 6, 6, 6, 7, 7, 7, 7, 7, 7, 7, 7, 7, 7, 7, 7, 7, 7, 7, 7, 7, 7, 7, 7, 7, 7, 7, 7, 7, 7, 7, 7, 7, 7, 7, 7, 7, 7, 7, 7, 7, 7, 7, 7, 7, 7, 7, 7, 7, 7, 7, 7, 7, 7, 7, 7, 7, 7, 7, 7, 7, 7, 7, 7, 7, 7, 7, 7, 8, 8, 8, 8, 8, 8, 8, 8, 8, 8, 8, 8, 8, 8, 8, 8, 8, 8, 8, 8, 8, 8, 8, 8, 8, 8, 8, 8, 8, 8, 8, 8, 8, 8, 8, 8, 8, 8, 8, 8, 8, 8, 8, 8, 8, 8, 8, 8, 8, 8, 8, 8, 8, 8, 8, 8, 8, 8, 8, 8, 8, 8, 8, 8, 8, 8, 8, 8, 8, 8, 8, 8, 8, 8, 8, 8, 8, 8, 8, 8, 8, 8, 8, 8, 8, 8, 8, 8, 8, 8, 8, 8, 8, 8, 8, 8, 8, 8, 8, 8, 8, 8, 8, 8, 8, 8, 8, 8, 8, 8, 8, 8, 8, 8, 8, 8, 8, 8, 8, 8, 8, 8, 8, 8, 8, 8, 8, 8]⟩ : ByteArray)).getD (Int.toNat (IntKind.wrap .u8 a3)) 0).toNat : Nat) : Int))))
    else
      none := (fuelK_eq hM _).trans (by kernel_rfl)
theorem bits_Len64.j0_eq (N : Nat) (a1 : Int) (a2 : Int) {M : Nat} (hM : N = M + 1) : bits_Len64.j0 N a1 a2 =
    bif decide (a1 ≥ 65536) then
      bits_Len64.j1 N (shrI .u64 a1 16) (w (a2 + 16))
    else
      bits_Len64.j1 N a1 a2 := (fuelK_eq hM _).trans (by kernel_rfl)
theorem bits_Len64.eq (N : Nat) (x0 : Int) : bits_Len64.fn N x0 =
    bif decide (x0 ≥ 4294967296) then
      bits_Len64.j0 N (shrI .u64 x0 32) 32
    else
      bits_Len64.j0 N x0 0 := by kernel_rfl

/-! ### bits_LeadingZeros64: math/bits.LeadingZeros64 -/
def bits_LeadingZeros64.kp : List (Nat × List (Nat × Option (TypeId × Ty))) := []
noncomputable def bits_LeadingZeros64.G (N : Nat) : List (Nat × Spec) := [(110, .pure (bits_Len64.S N))]
noncomputable def bits_LeadingZeros64.E (N : Nat) : Env := mkEnv (bits_LeadingZeros64.G N) N tyTab bits_LeadingZeros64.kp
noncomputable def bits_LeadingZeros64.fn (N : Nat) (x : Int) : Option Int := evFn (bits_LeadingZeros64.E N) Tryz.prog 3 Tryz.f109 false [.cell (.int .u64)] [.val (.cell (.int .i64))] x
noncomputable def bits_LeadingZeros64.S (N : Nat) : PSpec := ⟨false, [.cell (.int .u64)], [.val (.cell (.int .i64))], bits_LeadingZeros64.fn N⟩
theorem f109_enters : Enters Tryz.prog 109 := ⟨Tryz.f109, Tryz.func109, by kernel_rfl, by kernel_rfl⟩
theorem bits_LeadingZeros64.tab (N : Nat) : TabOk Tryz.prog (bits_LeadingZeros64.G N) := ⟨⟨bits_Len64.enters, bits_Len64.sound N⟩, trivial⟩
theorem bits_LeadingZeros64.enters : Enters Tryz.prog 109 := f109_enters
theorem bits_LeadingZeros64.sound (N : Nat) : Sound Tryz.prog 109 (bits_LeadingZeros64.S N) := evFn_sound (specs_tab (bits_LeadingZeros64.tab N)) (inls_tab (bits_LeadingZeros64.tab N)) mixed 3 Tryz.func109 _ _ _
theorem bits_LeadingZeros64.eq (N : Nat) (x0 : Int) : bits_LeadingZeros64.fn N x0 =
    (bits_Len64.fn N x0).bind fun r1 =>
    some (w (64 - r1)) := by kernel_rfl

/-! ### angle_Sin: skyway/angle.Sin -/
def angle_Sin.kp : List (Nat × List (Nat × Option (TypeId × Ty))) := []
noncomputable def angle_Sin.G (N : Nat) : List (Nat × Spec) := [(24, .pure (angle_Norm.S N))]
noncomputable def angle_Sin.E (N : Nat) : Env := mkEnv (angle_Sin.G N) N tyTab angle_Sin.kp
noncomputable def angle_Sin.fn (N : Nat) (x : Int) : Option Int := evFn (angle_Sin.E N) Tryz.prog 3 Tryz.f65 false [.cell (.int .i64)] [.val (.cell (.int .i64))] x
noncomputable def angle_Sin.S (N : Nat) : PSpec := ⟨false, [.cell (.int .i64)], [.val (.cell (.int .i64))], angle_Sin.fn N⟩
theorem f65_enters : Enters Tryz.prog 65 := ⟨Tryz.f65, Tryz.func65, by kernel_rfl, by kernel_rfl⟩
theorem angle_Sin.tab (N : Nat) : TabOk Tryz.prog (angle_Sin.G N) := ⟨⟨angle_Norm.enters, angle_Norm.sound N⟩, trivial⟩
theorem angle_Sin.enters : Enters Tryz.prog 65 := f65_enters
theorem angle_Sin.sound (N : Nat) : Sound Tryz.prog 65 (angle_Sin.S N) := evFn_sound (specs_tab (angle_Sin.tab N)) (inls_tab (angle_Sin.tab N)) mixed 3 Tryz.func65 _ _ _
theorem angle_Sin.eq (N : Nat) (x0 : Int) : angle_Sin.fn N x0 =
    (angle_Norm.fn N x0).bind fun r1 =>
    none := by kernel_rfl

/-! ### angle_Cos: skyway/angle.Cos -/
def angle_Cos.kp : List (Nat × List (Nat × Option (TypeId × Ty))) := []
noncomputable def angle_Cos.G (N : Nat) : List (Nat × Spec) := [(65, .pure (angle_Sin.S N))]
noncomputable def angle_Cos.E (N : Nat) : Env := mkEnv (angle_Cos.G N) N tyTab angle_Cos.kp
noncomputable def angle_Cos.fn (N : Nat) (x : Int) : Option Int := evFn (angle_Cos.E N) Tryz.prog 3 Tryz.f64 false [.cell (.int .i64)] [.val (.cell (.int .i64))] x
noncomputable def angle_Cos.S (N : Nat) : PSpec := ⟨false, [.cell (.int .i64)], [.val (.cell (.int .i64))], angle_Cos.fn N⟩
theorem f64_enters : Enters Tryz.prog 64 := ⟨Tryz.f64, Tryz.func64, by kernel_rfl, by kernel_rfl⟩
theorem angle_Cos.tab (N : Nat) : TabOk Tryz.prog (angle_Cos.G N) := ⟨⟨angle_Sin.enters, angle_Sin.sound N⟩, trivial⟩
theorem angle_Cos.enters : Enters Tryz.prog 64 := f64_enters
theorem angle_Cos.sound (N : Nat) : Sound Tryz.prog 64 (angle_Cos.S N) := evFn_sound (specs_tab (angle_Cos.tab N)) (inls_tab (angle_Cos.tab N)) mixed 3 Tryz.func64 _ _ _
theorem angle_Cos.eq (N : Nat) (x0 : Int) : angle_Cos.fn N x0 =
    (angle_Sin.fn N (w (x0 + 1024))).bind fun r1 =>
    some r1 := by kernel_rfl

/-! ### angle_after: skyway/angle.after -/
def angle_after.kp : List (Nat × List (Nat × Option (TypeId × Ty))) := []
noncomputable def angle_after.G (N : Nat) : List (Nat × Spec) := [(64, .pure (angle_Cos.S N)), (65, .pure (angle_Sin.S N))]
noncomputable def angle_after.E (N : Nat) : Env := mkEnv (angle_after.G N) N tyTab angle_after.kp
noncomputable def angle_after.fn (N : Nat) (x : Int × Int × Int) : Option Int := evFn (angle_after.E N) Tryz.prog 3 Tryz.f46 false [.cell (.int .i64), .agg (.pair (.int .i64) (.int .i64))] [.val (.cell (.int .i64))] x
noncomputable def angle_after.S (N : Nat) : PSpec := ⟨false, [.cell (.int .i64), .agg (.pair (.int .i64) (.int .i64))], [.val (.cell (.int .i64))], angle_after.fn N⟩
theorem f46_enters : Enters Tryz.prog 46 := ⟨Tryz.f46, Tryz.func46, by kernel_rfl, by kernel_rfl⟩
theorem angle_after.tab (N : Nat) : TabOk Tryz.prog (angle_after.G N) := ⟨⟨angle_Cos.enters, angle_Cos.sound N⟩, ⟨angle_Sin.enters, angle_Sin.sound N⟩, trivial⟩
theorem angle_after.enters : Enters Tryz.prog 46 := f46_enters
theorem angle_after.sound (N : Nat) : Sound Tryz.prog 46 (angle_after.S N) := evFn_sound (specs_tab (angle_after.tab N)) (inls_tab (angle_after.tab N)) mixed 3 Tryz.func46 _ _ _
theorem angle_after.eq (N : Nat) (x0 : Int) (x1 : Int × Int) : angle_after.fn N (x0, x1) =
    (angle_Cos.fn N x0).bind fun r1 =>
    (angle_Sin.fn N x0).bind fun r2 =>
    some (w ((w (r1 * x1.1)) - (w (r2 * x1.2)))) := by kernel_rfl

/-! ### angle_Of: skyway/angle.Of -/
def angle_Of.kp : List (Nat × List (Nat × Option (TypeId × Ty))) := []
noncomputable def angle_Of.G (N : Nat) : List (Nat × Spec) := [(45, .inl Tryz.f45), (63, .inl Tryz.f63), (78, .inl Tryz.f78)]
noncomputable def angle_Of.E (N : Nat) : Env := mkEnv (angle_Of.G N) N tyTab angle_Of.kp
noncomputable def angle_Of.fn (N : Nat) (x : Int × Int) : Option (Int × Int) := evFn (angle_Of.E N) Tryz.prog 3 Tryz.f33 false [.agg (.pair (.int .i64) (.int .i64))] [.val (.cell (.int .i64)), .val (.cell (.int .i64))] x
noncomputable def angle_Of.S (N : Nat) : PSpec := ⟨false, [.agg (.pair (.int .i64) (.int .i64))], [.val (.cell (.int .i64)), .val (.cell (.int .i64))], angle_Of.fn N⟩
theorem f45_enters : Enters Tryz.prog 45 := ⟨Tryz.f45, Tryz.func45, by kernel_rfl, by kernel_rfl⟩
theorem f63_enters : Enters Tryz.prog 63 := ⟨Tryz.f63, Tryz.func63, by kernel_rfl, by kernel_rfl⟩
theorem f78_enters : Enters Tryz.prog 78 := ⟨Tryz.f78, Tryz.func78, by kernel_rfl, by kernel_rfl⟩
theorem f33_enters : Enters Tryz.prog 33 := ⟨Tryz.f33, Tryz.func33, by kernel_rfl, by kernel_rfl⟩
theorem angle_Of.tab (N : Nat) : TabOk Tryz.prog (angle_Of.G N) := ⟨⟨f45_enters, Tryz.func45⟩, ⟨f63_enters, Tryz.func63⟩, ⟨f78_enters, Tryz.func78⟩, trivial⟩
theorem angle_Of.enters : Enters Tryz.prog 33 := f33_enters
theorem angle_Of.sound (N : Nat) : Sound Tryz.prog 33 (angle_Of.S N) := evFn_sound (specs_tab (angle_Of.tab N)) (inls_tab (angle_Of.tab N)) mixed 3 Tryz.func33 _ _ _
theorem angle_Of.eq (N : Nat) (x0 : Int × Int) : angle_Of.fn N x0 =
    bif !(!(decide (x0.1 < (-2000000)))) || (!(decide (x0.1 < (-2000000)))) then
      bif !(!(decide (x0.1 < (-2000000)))) || (!(decide (x0.1 < (-2000000)))) then
        bif (decide (x0.1 < (-2000000))) || (!(decide (x0.1 < (-2000000)))) then
          bif !(!((decide (x0.1 < (-2000000))) || (decide (x0.1 > 2000000)))) || (!((decide (x0.1 < (-2000000))) || (decide (x0.1 > 2000000)))) then
            bif !(!((decide (x0.1 < (-2000000))) || (decide (x0.1 > 2000000)))) || (!((decide (x0.1 < (-2000000))) || (decide (x0.1 > 2000000)))) then
              bif ((decide (x0.1 < (-2000000))) || (decide (x0.1 > 2000000))) || (!((decide (x0.1 < (-2000000))) || (decide (x0.1 > 2000000)))) then
                bif !(!(((decide (x0.1 < (-2000000))) || (decide (x0.1 > 2000000))) || (decide (x0.2 < (-2000000))))) || (!(((decide (x0.1 < (-2000000))) || (decide (x0.1 > 2000000))) || (decide (x0.2 < (-2000000))))) then
                  bif !(!(((decide (x0.1 < (-2000000))) || (decide (x0.1 > 2000000))) || (decide (x0.2 < (-2000000))))) || (!(((decide (x0.1 < (-2000000))) || (decide (x0.1 > 2000000))) || (decide (x0.2 < (-2000000))))) then
                    bif (((decide (x0.1 < (-2000000))) || (decide (x0.1 > 2000000))) || (decide (x0.2 < (-2000000)))) || (!(((decide (x0.1 < (-2000000))) || (decide (x0.1 > 2000000))) || (decide (x0.2 < (-2000000))))) then
                      bif (((decide (x0.1 < (-2000000))) || (decide (x0.1 > 2000000))) || (decide (x0.2 < (-2000000)))) || (decide (x0.2 > 2000000)) then
                        some (0, 4)
                      else
                      bif !(x0.1 == 0) || (x0.1 == 0) then
                        bif !(x0.1 == 0) || (x0.1 == 0) then
                          bif (!(x0.1 == 0)) || (x0.1 == 0) then
                            bif (x0.1 == 0) && (x0.2 == 0) then
                              some (0, 10)
                            else
                              none
                          else
                            none
                        else
                          none
                      else
                        none
                    else
                      none
                  else
                    none
                else
                  none
              else
                none
            else
              none
          else
            none
        else
          none
      else
        none
    else
      none := by kernel_rfl
theorem angle_Of.clean (N : Nat) (x0 : Int × Int) : angle_Of.fn N x0 =
    bif (((decide (x0.1 < (-2000000))) || (decide (x0.1 > 2000000))) || (decide (x0.2 < (-2000000)))) || (decide (x0.2 > 2000000)) then
      some (0, 4)
    else
    bif (x0.1 == 0) && (x0.2 == 0) then
      some (0, 10)
    else
      none := by
  rw [angle_Of.eq]; simp only [taut1, taut2, taut3, taut21, taut23, taut4, taut5, taut6, cond_true]

/-! ### plane_Dot: skyway/plane.Dot -/
def plane_Dot.kp : List (Nat × List (Nat × Option (TypeId × Ty))) := []
noncomputable def plane_Dot.G (N : Nat) : List (Nat × Spec) := []
noncomputable def plane_Dot.E (N : Nat) : Env := mkEnv (plane_Dot.G N) N tyTab plane_Dot.kp
noncomputable def plane_Dot.fn (N : Nat) (x : (Int × Int) × Int × Int) : Option Int := evFn (plane_Dot.E N) Tryz.prog 3 Tryz.f66 false [.agg (.pair (.int .i64) (.int .i64)), .agg (.pair (.int .i64) (.int .i64))] [.val (.cell (.int .i64))] x
noncomputable def plane_Dot.S (N : Nat) : PSpec := ⟨false, [.agg (.pair (.int .i64) (.int .i64)), .agg (.pair (.int .i64) (.int .i64))], [.val (.cell (.int .i64))], plane_Dot.fn N⟩
theorem f66_enters : Enters Tryz.prog 66 := ⟨Tryz.f66, Tryz.func66, by kernel_rfl, by kernel_rfl⟩
theorem plane_Dot.tab (N : Nat) : TabOk Tryz.prog (plane_Dot.G N) := trivial
theorem plane_Dot.enters : Enters Tryz.prog 66 := f66_enters
theorem plane_Dot.sound (N : Nat) : Sound Tryz.prog 66 (plane_Dot.S N) := evFn_sound (specs_tab (plane_Dot.tab N)) (inls_tab (plane_Dot.tab N)) mixed 3 Tryz.func66 _ _ _
theorem plane_Dot.eq (N : Nat) (x0 : Int × Int) (x1 : Int × Int) : plane_Dot.fn N (x0, x1) =
    some (w ((w (x0.1 * x1.1)) + (w (x0.2 * x1.2)))) := by kernel_rfl

/-! ### plane_Square: skyway/plane.Square -/
def plane_Square.kp : List (Nat × List (Nat × Option (TypeId × Ty))) := []
noncomputable def plane_Square.G (N : Nat) : List (Nat × Spec) := [(34, .pure (plane_Sub.S N)), (66, .pure (plane_Dot.S N))]
noncomputable def plane_Square.E (N : Nat) : Env := mkEnv (plane_Square.G N) N tyTab plane_Square.kp
noncomputable def plane_Square.fn (N : Nat) (x : (Int × Int) × Int × Int) : Option Int := evFn (plane_Square.E N) Tryz.prog 3 Tryz.f47 false [.agg (.pair (.int .i64) (.int .i64)), .agg (.pair (.int .i64) (.int .i64))] [.val (.cell (.int .i64))] x
noncomputable def plane_Square.S (N : Nat) : PSpec := ⟨false, [.agg (.pair (.int .i64) (.int .i64)), .agg (.pair (.int .i64) (.int .i64))], [.val (.cell (.int .i64))], plane_Square.fn N⟩
theorem f47_enters : Enters Tryz.prog 47 := ⟨Tryz.f47, Tryz.func47, by kernel_rfl, by kernel_rfl⟩
theorem plane_Square.tab (N : Nat) : TabOk Tryz.prog (plane_Square.G N) := ⟨⟨plane_Sub.enters, plane_Sub.sound N⟩, ⟨plane_Dot.enters, plane_Dot.sound N⟩, trivial⟩
theorem plane_Square.enters : Enters Tryz.prog 47 := f47_enters
theorem plane_Square.sound (N : Nat) : Sound Tryz.prog 47 (plane_Square.S N) := evFn_sound (specs_tab (plane_Square.tab N)) (inls_tab (plane_Square.tab N)) mixed 3 Tryz.func47 _ _ _
theorem plane_Square.eq (N : Nat) (x0 : Int × Int) (x1 : Int × Int) : plane_Square.fn N (x0, x1) =
    (plane_Sub.fn N (x0, x1)).bind fun r1 =>
    (plane_Dot.fn N (r1, r1)).bind fun r2 =>
    some r2 := by kernel_rfl

/-! ### num_Root: skyway/num.Root -/
theorem f67_enters : Enters Tryz.prog 67 := ⟨Tryz.f67, Tryz.func67, by kernel_rfl, by kernel_rfl⟩
def num_Root.kp : List (Nat × List (Nat × Option (TypeId × Ty))) := [(4, [(0, none), (3, none)]), (6, [(0, none), (3, none)])]
noncomputable def num_Root.G (N : Nat) : List (Nat × Spec) := [(67, .mac sqrtM)]
noncomputable def num_Root.E (N : Nat) : Env := mkEnv (num_Root.G N) N tyTab num_Root.kp
noncomputable def num_Root.fn (N : Nat) (x : Int) : Option Int := evFn (num_Root.E N) Tryz.prog 3 Tryz.f48 false [.cell (.int .i64)] [.val (.cell (.int .i64))] x
noncomputable def num_Root.S (N : Nat) : PSpec := ⟨false, [.cell (.int .i64)], [.val (.cell (.int .i64))], num_Root.fn N⟩
theorem f48_enters : Enters Tryz.prog 48 := ⟨Tryz.f48, Tryz.func48, by kernel_rfl, by kernel_rfl⟩
theorem num_Root.tab (N : Nat) : TabOk Tryz.prog (num_Root.G N) := ⟨⟨sqrt_enters, sqrt_sound⟩, trivial⟩
theorem num_Root.enters : Enters Tryz.prog 48 := f48_enters
theorem num_Root.sound (N : Nat) : Sound Tryz.prog 48 (num_Root.S N) := evFn_sound (specs_tab (num_Root.tab N)) (inls_tab (num_Root.tab N)) mixed 3 Tryz.func48 _ _ _
noncomputable def num_Root.cd (N : Nat) (p : List Nat) : St → (Ex → St → Option Int) → Option Int := ev (num_Root.E N) Tryz.prog (callD (num_Root.E N) Tryz.prog 3) 0 (codeAt (bodyOf Tryz.f48) p)
noncomputable def num_Root.fin : Ex → St → Option Int := endK Tryz.prog Tryz.f48 [.val (.cell (.int .i64))]
noncomputable def num_Root.l0 (N : Nat) (x0 : Int) (k1 : Nat) (a2 : Int) : Option Int :=
  loopN (norm ((num_Root.E N).keep 4) 0) (num_Root.cd N [1, 1, 1, 0, 0, 0]) k1
  ⟨[.sc (.int .i64 x0), .any, .any, .sc (.int .i64 a2), .any, .any, .any, .any, .any, .any, .any, .any, .any, .any, .any, .any, .any, .any, .any, .any, .any, .any, .any, .any, .any, .any, .any], []⟩
  (blockK 0 (seqK (num_Root.cd N [1, 1, 1, 1]) num_Root.fin))
noncomputable def num_Root.l1 (N : Nat) (x0 : Int) (k3 : Nat) (a4 : Int) : Option Int :=
  loopN (norm ((num_Root.E N).keep 6) 0) (num_Root.cd N [1, 1, 1, 1, 0, 0, 0]) k3
  ⟨[.sc (.int .i64 x0), .any, .any, .sc (.int .i64 a4), .any, .any, .any, .any, .any, .any, .any, .any, .any, .any, .any, .any, .any, .any, .any, .any, .any, .any, .any, .any, .any, .any, .any], []⟩
  (blockK 2 (seqK (num_Root.cd N [1, 1, 1, 1, 1]) num_Root.fin))
theorem num_Root.l1_zero (N : Nat) (x0 : Int) (a4 : Int) : num_Root.l1 N x0 0 a4 = none := by kernel_rfl
theorem num_Root.l1_succ (N : Nat) (x0 : Int) (k3 : Nat) (a4 : Int) : num_Root.l1 N x0 (k3 + 1) a4 =
    bif (w (a4 + 1)) != 0 then
      bif decide ((w (a4 + 1)) ≤ (w (Int.tdiv x0 (w (a4 + 1))))) then
        num_Root.l1 N x0 k3 (w (a4 + 1))
      else
        some a4
    else
      none := by kernel_rfl
theorem num_Root.l0_zero (N : Nat) (x0 : Int) (a2 : Int) : num_Root.l0 N x0 0 a2 = none := by kernel_rfl
theorem num_Root.l0_succ (N : Nat) (x0 : Int) (k1 : Nat) (a2 : Int) : num_Root.l0 N x0 (k1 + 1) a2 =
    bif a2 != 0 then
      bif decide (a2 > (w (Int.tdiv x0 a2))) then
        num_Root.l0 N x0 k1 (w (a2 - 1))
      else
        num_Root.l1 N x0 N a2
    else
      none := by kernel_rfl
theorem num_Root.eq (N : Nat) (x0 : Int) : num_Root.fn N x0 =
    bif decide (x0 ≤ 0) then
      some 0
    else
    bif (fsq (floatOfInt .f64 x0)).isSome then
      bif (floatToIntVal .f64 ((fsq (floatOfInt .f64 x0)).getD 0) .i64).isSome then
        num_Root.l0 N x0 N ((floatToIntVal .f64 ((fsq (floatOfInt .f64 x0)).getD 0) .i64).getD 0)
      else
        none
    else
      none := by kernel_rfl

/-! ### plane_Distance: skyway/plane.Distance -/
def plane_Distance.kp : List (Nat × List (Nat × Option (TypeId × Ty))) := []
noncomputable def plane_Distance.G (N : Nat) : List (Nat × Spec) := [(47, .pure (plane_Square.S N)), (48, .pure (num_Root.S N))]
noncomputable def plane_Distance.E (N : Nat) : Env := mkEnv (plane_Distance.G N) N tyTab plane_Distance.kp
noncomputable def plane_Distance.fn (N : Nat) (x : (Int × Int) × Int × Int) : Option (Int × Int) := evFn (plane_Distance.E N) Tryz.prog 3 Tryz.f35 false [.agg (.pair (.int .i64) (.int .i64)), .agg (.pair (.int .i64) (.int .i64))] [.val (.cell (.int .i64)), .val (.cell (.int .i64))] x
noncomputable def plane_Distance.S (N : Nat) : PSpec := ⟨false, [.agg (.pair (.int .i64) (.int .i64)), .agg (.pair (.int .i64) (.int .i64))], [.val (.cell (.int .i64)), .val (.cell (.int .i64))], plane_Distance.fn N⟩
theorem f35_enters : Enters Tryz.prog 35 := ⟨Tryz.f35, Tryz.func35, by kernel_rfl, by kernel_rfl⟩
theorem plane_Distance.tab (N : Nat) : TabOk Tryz.prog (plane_Distance.G N) := ⟨⟨plane_Square.enters, plane_Square.sound N⟩, ⟨num_Root.enters, num_Root.sound N⟩, trivial⟩
theorem plane_Distance.enters : Enters Tryz.prog 35 := f35_enters
theorem plane_Distance.sound (N : Nat) : Sound Tryz.prog 35 (plane_Distance.S N) := evFn_sound (specs_tab (plane_Distance.tab N)) (inls_tab (plane_Distance.tab N)) mixed 3 Tryz.func35 _ _ _
theorem plane_Distance.eq (N : Nat) (x0 : Int × Int) (x1 : Int × Int) : plane_Distance.fn N (x0, x1) =
    (plane_Square.fn N (x0, x1)).bind fun r1 =>
    (num_Root.fn N r1).bind fun r2 =>
    bif decide ((w (r2 * r2)) < r1) then
      some (r2, (w (r2 + 1)))
    else
      some (r2, r2) := by kernel_rfl

/-! ### resolve_motion: skyway/resolve.motion -/
def resolve_motion.kp : List (Nat × List (Nat × Option (TypeId × Ty))) := [(2, [(0, none), (1, none), (7, none), (8, none)])]
noncomputable def resolve_motion.G (N : Nat) : List (Nat × Spec) := [(22, .pure (tube_Point.S N)), (32, .pure (resolve_motion_1.S N)), (33, .pure (angle_Of.S N)), (34, .pure (plane_Sub.S N)), (35, .pure (plane_Distance.S N)), (31, .inl Tryz.f31)]
noncomputable def resolve_motion.E (N : Nat) : Env := mkEnv (resolve_motion.G N) N tyTab resolve_motion.kp
noncomputable def resolve_motion.fn (N : Nat) (x : List ((Int × (Int × Int) × Int) × Int × Int) × Int) : Option (Int × Int × Bool) := evFn (resolve_motion.E N) Tryz.prog 3 Tryz.f23 false [.cell (.sl 58 (.pair (.pair (.int .i64) (.pair (.pair (.int .i64) (.int .i64)) (.int .i64))) (.pair (.int .i64) (.int .i64)))), .cell (.int .i64)] [.val (.cell (.int .i64)), .val (.cell (.int .i64)), .val (.cell (.bool))] x
noncomputable def resolve_motion.S (N : Nat) : PSpec := ⟨false, [.cell (.sl 58 (.pair (.pair (.int .i64) (.pair (.pair (.int .i64) (.int .i64)) (.int .i64))) (.pair (.int .i64) (.int .i64)))), .cell (.int .i64)], [.val (.cell (.int .i64)), .val (.cell (.int .i64)), .val (.cell (.bool))], resolve_motion.fn N⟩
theorem f31_enters : Enters Tryz.prog 31 := ⟨Tryz.f31, Tryz.func31, by kernel_rfl, by kernel_rfl⟩
theorem f23_enters : Enters Tryz.prog 23 := ⟨Tryz.f23, Tryz.func23, by kernel_rfl, by kernel_rfl⟩
theorem resolve_motion.tab (N : Nat) : TabOk Tryz.prog (resolve_motion.G N) := ⟨⟨tube_Point.enters, tube_Point.sound N⟩, ⟨resolve_motion_1.enters, resolve_motion_1.sound N⟩, ⟨angle_Of.enters, angle_Of.sound N⟩, ⟨plane_Sub.enters, plane_Sub.sound N⟩, ⟨plane_Distance.enters, plane_Distance.sound N⟩, ⟨f31_enters, Tryz.func31⟩, trivial⟩
theorem resolve_motion.enters : Enters Tryz.prog 23 := f23_enters
theorem resolve_motion.sound (N : Nat) : Sound Tryz.prog 23 (resolve_motion.S N) := evFn_sound (specs_tab (resolve_motion.tab N)) (inls_tab (resolve_motion.tab N)) mixed 3 Tryz.func23 _ _ _
noncomputable def resolve_motion.cd (N : Nat) (p : List Nat) : St → (Ex → St → Option (Int × Int × Bool)) → Option (Int × Int × Bool) := ev (resolve_motion.E N) Tryz.prog (callD (resolve_motion.E N) Tryz.prog 3) 0 (codeAt (bodyOf Tryz.f23) p)
noncomputable def resolve_motion.cd31_2_1 (N : Nat) (p : List Nat) : St → (Ex → St → Option (Int × Int × Bool)) → Option (Int × Int × Bool) := ev (resolve_motion.E N) Tryz.prog (callD (resolve_motion.E N) Tryz.prog 2) 1 (codeAt (bodyOf Tryz.f31) p)
noncomputable def resolve_motion.fin : Ex → St → Option (Int × Int × Bool) := endK Tryz.prog Tryz.f23 [.val (.cell (.int .i64)), .val (.cell (.int .i64)), .val (.cell (.bool))]
noncomputable def resolve_motion.l0 (N : Nat) (x0 : List ((Int × (Int × Int) × Int) × Int × Int)) (x1 : Int) (k1 : Nat) (a2 : Int) : Option (Int × Int × Bool) :=
  loopN (norm ((resolve_motion.E N).keep 2) 1) (resolve_motion.cd31_2_1 N [1, 0, 1, 0, 0]) k1
  ⟨[.ros false 58 (.pair (.pair (.int .i64) (.pair (.pair (.int .i64) (.int .i64)) (.int .i64))) (.pair (.int .i64) (.int .i64))) x0, .clo 32 [.ptr 0 0], .any, .any, .any, .any, .any, .sc (.int .i64 (x0.length : Int)), .sc (.int .i64 a2), .any, .any, .any, .any, .any, .any, .any, .any, .any, .any], [.cells [.sc (.int .i64 x1)] 3]⟩
  (blockK 0 (seqK (resolve_motion.cd31_2_1 N [1, 1]) (retK Tryz.prog Tryz.f31 (fun vs hp => (reg (resolve_motion.E N) Tryz.prog (callD (resolve_motion.E N) Tryz.prog 3) (opsAt (codeAt (bodyOf Tryz.f23) [1, 0])) [] (List.drop 3 (opsAt (codeAt (bodyOf Tryz.f23) [1, 0]))) (St.put ⟨[.ros false 58 (.pair (.pair (.int .i64) (.pair (.pair (.int .i64) (.int .i64)) (.int .i64))) (.pair (.int .i64) (.int .i64))) x0, .sc (.int .i64 x1), .any, .ptr 0 0, .sc (.int .i64 0), .sc (.int .i64 0), .sc (.bool false), .any, .any, .any, .any, .any, .any, .ros false 58 (.pair (.pair (.int .i64) (.pair (.pair (.int .i64) (.int .i64)) (.int .i64))) (.pair (.int .i64) (.int .i64))) x0, .clo 32 [.ptr 0 0], .any, .any, .any, .any, .any, .any, .any, .any, .any, .any, .any, .any, .any, .any, .any, .any, .any, .any, .any, .any, .any, .any, .any, .any, .any, .any, .any, .any, .any, .any, .any, .any, .any, .any, .any, .any, .any, .any, .any, .any, .any, .any, .any, .any, .any, .any], hp⟩ (some 15) (tupOf vs)) (fun S => (seqK (resolve_motion.cd N [1, 1]) resolve_motion.fin) .normal S))))))
theorem resolve_motion.l0_zero (N : Nat) (x0 : List ((Int × (Int × Int) × Int) × Int × Int)) (x1 : Int) (a2 : Int) : resolve_motion.l0 N x0 x1 0 a2 = none := by kernel_rfl
theorem resolve_motion.l0_succ (N : Nat) (x0 : List ((Int × (Int × Int) × Int) × Int × Int)) (x1 : Int) (k1 : Nat) (a2 : Int) : resolve_motion.l0 N x0 x1 (k1 + 1) a2 =
    bif decide (a2 < (x0.length : Int)) then
      bif (decide (0 ≤ a2)) && (decide (a2 < (x0.length : Int))) then
        (resolve_motion_1.fn N (List.getD x0 (Int.toNat a2) ((0, ((0, 0), 0)), (0, 0)), x1)).bind fun r3 =>
        bif r3 then
          bif decide (a2 < 0) then
            some (0, 0, false)
          else
            (tube_Point.fn N (x0, x1)).bind fun r4 =>
            bif (decide (0 ≤ a2)) && (decide (a2 < (x0.length : Int))) then
              (plane_Sub.fn N ((((List.getD x0 (Int.toNat a2) ((0, ((0, 0), 0)), (0, 0))).1).2).1, r4.1.2.1)).bind fun r5 =>
              (angle_Of.fn N r5).bind fun r6 =>
              bif !(r6.2 == 0) then
                some (0, 0, false)
              else
              bif (decide (0 ≤ a2)) && (decide (a2 < (x0.length : Int))) then
                (plane_Distance.fn N (r4.1.2.1, (((List.getD x0 (Int.toNat a2) ((0, ((0, 0), 0)), (0, 0))).1).2).1)).bind fun r7 =>
                bif (decide (0 ≤ a2)) && (decide (a2 < (x0.length : Int))) then
                  bif (w ((((List.getD x0 (Int.toNat a2) ((0, ((0, 0), 0)), (0, 0))).1).1) - x1)) != 0 then
                    some (r6.1, (w (Int.tdiv r7.1 (w ((((List.getD x0 (Int.toNat a2) ((0, ((0, 0), 0)), (0, 0))).1).1) - x1)))), true)
                  else
                    none
                else
                  none
              else
                none
            else
              none
        else
          resolve_motion.l0 N x0 x1 k1 (w (a2 + 1))
      else
        none
    else
      some (0, 0, false) := by kernel_rfl
theorem resolve_motion.l0_cons (N : Nat) (x0 : List ((Int × (Int × Int) × Int) × Int × Int)) (x1 : Int) (k1 : Nat) {pre r} {x} (hl : x0 = pre ++ x :: r) (hb : x0.length < 4611686018427387904) : resolve_motion.l0 N x0 x1 (k1 + 1) (pre.length : Int) =
    (resolve_motion_1.fn N (x, x1)).bind fun r3 =>
    bif r3 then
      bif decide ((pre.length : Int) < 0) then
        some (0, 0, false)
      else
        (tube_Point.fn N (x0, x1)).bind fun r4 =>
        (plane_Sub.fn N (((x.1).2).1, r4.1.2.1)).bind fun r5 =>
        (angle_Of.fn N r5).bind fun r6 =>
        bif !(r6.2 == 0) then
          some (0, 0, false)
        else
          (plane_Distance.fn N (r4.1.2.1, ((x.1).2).1)).bind fun r7 =>
          bif (w (((x.1).1) - x1)) != 0 then
            some (r6.1, (w (Int.tdiv r7.1 (w (((x.1).1) - x1)))), true)
          else
            none
    else
      resolve_motion.l0 N x0 x1 k1 ((pre.length : Int) + 1) := by
  have hlen : x0.length = pre.length + 1 + r.length := by rw [hl]; simp; omega
  have e1 : decide ((pre.length : Int) < (x0.length : Int)) = true := by rw [decide_eq_true_iff]; omega
  have e2 : decide (0 ≤ (pre.length : Int)) = true := by rw [decide_eq_true_iff]; omega
  have e4 : w ((pre.length : Int) + 1) = (pre.length : Int) + 1 := w_next hl hb
  have e5 : List.take pre.length x0 = pre := by rw [hl]; simp
  have e6 : decide ((pre.length : Int) ≤ (x0.length : Int)) = true := by rw [decide_eq_true_iff]; omega
  have g0 : List.getD x0 pre.length ((0, ((0, 0), 0)), (0, 0)) = x := by rw [hl]; exact getD_mid pre x r _
  rw [resolve_motion.l0_succ]
  simp -implicitDefEqProofs only [Int.toNat_natCast, e1, e2, e4, e6, g0, e5, Bool.and_true, Bool.true_and, Bool.true_or, cond_true]
theorem resolve_motion.l0_nil (N : Nat) (x0 : List ((Int × (Int × Int) × Int) × Int × Int)) (x1 : Int) (k1 : Nat) : resolve_motion.l0 N x0 x1 (k1 + 1) (x0.length : Int) =
    some (0, 0, false) := by
  have e1 : decide ((x0.length : Int) < (x0.length : Int)) = false := by rw [decide_eq_false_iff_not]; omega
  rw [resolve_motion.l0_succ]
  simp -implicitDefEqProofs only [e1, cond_false]
theorem resolve_motion.eq (N : Nat) (x0 : List ((Int × (Int × Int) × Int) × Int × Int)) (x1 : Int) : resolve_motion.fn N (x0, x1) =
    resolve_motion.l0 N x0 x1 N 0 := by kernel_rfl

/-! ### resolve_Candidates: skyway/resolve.Candidates -/
def resolve_Candidates.kp : List (Nat × List (Nat × Option (TypeId × Ty))) := [(16, [(0, none), (7, none), (13, none), (14, none), (15, none), (16, none), (17, some (44, .pair (.str) (.pair (.int .i64) (.pair (.int .i64) (.str))))), (18, none)]), (19, [(0, none), (7, none), (13, none), (14, none), (15, none), (16, none), (17, none), (18, none), (81, none), (82, none)]), (26, [(0, none), (7, none), (13, none), (14, none), (15, none), (16, none), (17, none), (18, none), (107, none), (108, none)]), (33, [(0, none), (7, none), (13, none), (14, none), (15, none), (16, none), (17, none), (18, none), (138, none), (139, none)])]
noncomputable def resolve_Candidates.G (N : Nat) : List (Nat × Spec) := [(18, .pure (tube_Check.S N)), (20, .pure (aircraft_Check.S N)), (21, .pure (phrase_Check.S N)), (22, .pure (tube_Point.S N)), (23, .pure (resolve_motion.S N)), (24, .pure (angle_Norm.S N))]
noncomputable def resolve_Candidates.E (N : Nat) : Env := mkEnv (resolve_Candidates.G N) N tyTab resolve_Candidates.kp
noncomputable def resolve_Candidates.fn (N : Nat) (x : ByteArray × List ((Int × (Int × Int) × Int) × Int × Int) × Int × ByteArray × Int × Int × Int × Int × Int × Int) : Option (List (ByteArray × Int × Int × ByteArray) × Int) := evFn (resolve_Candidates.E N) Tryz.prog 3 Tryz.f10 false [.cell (.str), .cell (.sl 58 (.pair (.pair (.int .i64) (.pair (.pair (.int .i64) (.int .i64)) (.int .i64))) (.pair (.int .i64) (.int .i64)))), .cell (.int .i64), .agg (.pair (.str) (.pair (.int .i64) (.pair (.int .i64) (.pair (.int .i64) (.pair (.int .i64) (.pair (.int .i64) (.int .i64)))))))] [.own 44 (.pair (.str) (.pair (.int .i64) (.pair (.int .i64) (.str)))), .val (.cell (.int .i64))] x
noncomputable def resolve_Candidates.S (N : Nat) : PSpec := ⟨false, [.cell (.str), .cell (.sl 58 (.pair (.pair (.int .i64) (.pair (.pair (.int .i64) (.int .i64)) (.int .i64))) (.pair (.int .i64) (.int .i64)))), .cell (.int .i64), .agg (.pair (.str) (.pair (.int .i64) (.pair (.int .i64) (.pair (.int .i64) (.pair (.int .i64) (.pair (.int .i64) (.int .i64)))))))], [.own 44 (.pair (.str) (.pair (.int .i64) (.pair (.int .i64) (.str)))), .val (.cell (.int .i64))], resolve_Candidates.fn N⟩
theorem f10_enters : Enters Tryz.prog 10 := ⟨Tryz.f10, Tryz.func10, by kernel_rfl, by kernel_rfl⟩
theorem resolve_Candidates.tab (N : Nat) : TabOk Tryz.prog (resolve_Candidates.G N) := ⟨⟨tube_Check.enters, tube_Check.sound N⟩, ⟨aircraft_Check.enters, aircraft_Check.sound N⟩, ⟨phrase_Check.enters, phrase_Check.sound N⟩, ⟨tube_Point.enters, tube_Point.sound N⟩, ⟨resolve_motion.enters, resolve_motion.sound N⟩, ⟨angle_Norm.enters, angle_Norm.sound N⟩, trivial⟩
theorem resolve_Candidates.enters : Enters Tryz.prog 10 := f10_enters
theorem resolve_Candidates.sound (N : Nat) : Sound Tryz.prog 10 (resolve_Candidates.S N) := evFn_sound (specs_tab (resolve_Candidates.tab N)) (inls_tab (resolve_Candidates.tab N)) mixed 3 Tryz.func10 _ _ _
noncomputable def resolve_Candidates.cd (N : Nat) (p : List Nat) : St → (Ex → St → Option (List (ByteArray × Int × Int × ByteArray) × Int)) → Option (List (ByteArray × Int × Int × ByteArray) × Int) := ev (resolve_Candidates.E N) Tryz.prog (callD (resolve_Candidates.E N) Tryz.prog 3) 0 (codeAt (bodyOf Tryz.f10) p)
noncomputable def resolve_Candidates.fin : Ex → St → Option (List (ByteArray × Int × Int × ByteArray) × Int) := endK Tryz.prog Tryz.f10 [.own 44 (.pair (.str) (.pair (.int .i64) (.pair (.int .i64) (.str)))), .val (.cell (.int .i64))]
noncomputable def resolve_Candidates.l0 (N : Nat) (x0 : ByteArray) (x3 : ByteArray × Int × Int × Int × Int × Int × Int) (r4 : (Int × (Int × Int) × Int) × Int × Int) (r5 : Int × Int × Bool) (k6 : Nat) (a7 : Int) (a8 : List (ByteArray × Int × Int × ByteArray)) : Option (List (ByteArray × Int × Int × ByteArray) × Int) :=
  loopN (norm ((resolve_Candidates.E N).keep 16) 0) (resolve_Candidates.cd N [1, 1, 1, 1, 1, 1, 1, 1, 0, 1, 0, 0]) k6
  ⟨[.sc (.string x0), .any, .any, .any, .any, .any, .any, .ptr 0 0, .any, .any, .any, .any, .any, .sc (.int .i64 r4.1.2.2), .sc (.int .i64 r5.1), .sc (.int .i64 r5.2.1), .sc (.bool r5.2.2), .own 1, .sc (.int .i64 a7), .any, .any, .any, .any, .any, .any, .any, .any, .any, .any, .any, .any, .any, .any, .any, .any, .any, .any, .any, .any, .any, .any, .any, .any, .any, .any, .any, .any, .any, .any, .any, .any, .any, .any, .any, .any, .any, .any, .any, .any, .any, .any, .any, .any, .any, .any, .any, .any, .any, .any, .any, .any, .any, .any, .any, .any, .any, .any, .any, .any, .any, .any, .any, .any, .any, .any, .any, .any, .any, .any, .any, .any, .any, .any, .any, .any, .any, .any, .any, .any, .any, .any, .any, .any, .any, .any, .any, .any, .any, .any, .any, .any, .any, .any, .any, .any, .any, .any, .any, .any, .any, .any, .any, .any, .any, .any, .any, .any, .any, .any, .any, .any, .any, .any, .any, .any, .any, .any, .any, .any, .any, .any, .any, .any, .any, .any, .any, .any, .any, .any, .any, .any, .any, .any, .any, .any], [.cells [.sc (.string x3.1), .sc (.int .i64 x3.2.1), .sc (.int .i64 x3.2.2.1), .sc (.int .i64 x3.2.2.2.1), .sc (.int .i64 x3.2.2.2.2.1), .sc (.int .i64 x3.2.2.2.2.2.1), .sc (.int .i64 x3.2.2.2.2.2.2)] 36, .rows true 44 (.pair (.str) (.pair (.int .i64) (.pair (.int .i64) (.str)))) a8]⟩
  (blockK 0 (seqK (resolve_Candidates.cd N [1, 1, 1, 1, 1, 1, 1, 1, 1]) resolve_Candidates.fin))
noncomputable def resolve_Candidates.l1 (N : Nat) (x0 : ByteArray) (x3 : ByteArray × Int × Int × Int × Int × Int × Int) (r4 : (Int × (Int × Int) × Int) × Int × Int) (r5 : Int × Int × Bool) (k6 : Nat) (a7 : Int) (k9 : Nat) (a10 : Int) (a11 : List (ByteArray × Int × Int × ByteArray)) : Option (List (ByteArray × Int × Int × ByteArray) × Int) :=
  loopN (norm ((resolve_Candidates.E N).keep 19) 0) (resolve_Candidates.cd N [1, 1, 1, 1, 1, 1, 1, 1, 0, 1, 0, 0, 1, 0, 0, 0, 1, 0, 0]) k9
  ⟨[.sc (.string x0), .any, .any, .any, .any, .any, .any, .ptr 0 0, .any, .any, .any, .any, .any, .sc (.int .i64 r4.1.2.2), .sc (.int .i64 r5.1), .sc (.int .i64 r5.2.1), .sc (.bool r5.2.2), .own 1, .sc (.int .i64 a7), .any, .any, .any, .any, .any, .any, .any, .any, .any, .any, .any, .any, .any, .any, .any, .any, .any, .any, .any, .any, .any, .any, .any, .any, .any, .any, .any, .any, .any, .any, .any, .any, .any, .any, .any, .any, .any, .any, .any, .any, .any, .any, .any, .any, .any, .any, .any, .any, .any, .any, .any, .any, .any, .any, .any, .any, .any, .any, .any, .any, .any, .any, .agg [.sc (.int .i64 a7), .sc (.int .i64 (w (-a7)))], .sc (.int .i64 a10), .any, .any, .any, .any, .any, .any, .any, .any, .any, .any, .any, .any, .any, .any, .any, .any, .any, .any, .any, .any, .any, .any, .any, .any, .any, .any, .any, .any, .any, .any, .any, .any, .any, .any, .any, .any, .any, .any, .any, .any, .any, .any, .any, .any, .any, .any, .any, .any, .any, .any, .any, .any, .any, .any, .any, .any, .any, .any, .any, .any, .any, .any, .any, .any, .any, .any, .any, .any, .any, .any, .any, .any], [.cells [.sc (.string x3.1), .sc (.int .i64 x3.2.1), .sc (.int .i64 x3.2.2.1), .sc (.int .i64 x3.2.2.2.1), .sc (.int .i64 x3.2.2.2.2.1), .sc (.int .i64 x3.2.2.2.2.2.1), .sc (.int .i64 x3.2.2.2.2.2.2)] 36, .rows true 44 (.pair (.str) (.pair (.int .i64) (.pair (.int .i64) (.str)))) a11]⟩
  (blockK 2 (seqK (resolve_Candidates.cd N [1, 1, 1, 1, 1, 1, 1, 1, 0, 1, 0, 0, 1, 0, 0, 1]) (blockK 1 (seqK (resolve_Candidates.cd N [1, 1, 1, 1, 1, 1, 1, 1, 0, 1, 0, 0, 1, 1]) (loopK (norm ((resolve_Candidates.E N).keep 16) 0) (resolve_Candidates.cd N [1, 1, 1, 1, 1, 1, 1, 1, 0, 1, 0, 0]) k6 (blockK 0 (seqK (resolve_Candidates.cd N [1, 1, 1, 1, 1, 1, 1, 1, 1]) resolve_Candidates.fin)))))))
noncomputable def resolve_Candidates.l2 (N : Nat) (x0 : ByteArray) (x3 : ByteArray × Int × Int × Int × Int × Int × Int) (r4 : (Int × (Int × Int) × Int) × Int × Int) (r5 : Int × Int × Bool) (k6 : Nat) (a7 : Int) (k12 : Nat) (a13 : Int) (a14 : List (ByteArray × Int × Int × ByteArray)) : Option (List (ByteArray × Int × Int × ByteArray) × Int) :=
  loopN (norm ((resolve_Candidates.E N).keep 26) 0) (resolve_Candidates.cd N [1, 1, 1, 1, 1, 1, 1, 1, 0, 1, 0, 0, 1, 0, 0, 1, 0, 1, 0, 0]) k12
  ⟨[.sc (.string x0), .any, .any, .any, .any, .any, .any, .ptr 0 0, .any, .any, .any, .any, .any, .sc (.int .i64 r4.1.2.2), .sc (.int .i64 r5.1), .sc (.int .i64 r5.2.1), .sc (.bool r5.2.2), .own 1, .sc (.int .i64 a7), .any, .any, .any, .any, .any, .any, .any, .any, .any, .any, .any, .any, .any, .any, .any, .any, .any, .any, .any, .any, .any, .any, .any, .any, .any, .any, .any, .any, .any, .any, .any, .any, .any, .any, .any, .any, .any, .any, .any, .any, .any, .any, .any, .any, .any, .any, .any, .any, .any, .any, .any, .any, .any, .any, .any, .any, .any, .any, .any, .any, .any, .any, .any, .any, .any, .any, .any, .any, .any, .any, .any, .any, .any, .any, .any, .any, .any, .any, .any, .any, .any, .any, .any, .any, .any, .any, .any, .any, .agg [.sc (.int .i64 a7), .sc (.int .i64 (w (-a7)))], .sc (.int .i64 a13), .any, .any, .any, .any, .any, .any, .any, .any, .any, .any, .any, .any, .any, .any, .any, .any, .any, .any, .any, .any, .any, .any, .any, .any, .any, .any, .any, .any, .any, .any, .any, .any, .any, .any, .any, .any, .any, .any, .any, .any, .any, .any, .any, .any, .any, .any], [.cells [.sc (.string x3.1), .sc (.int .i64 x3.2.1), .sc (.int .i64 x3.2.2.1), .sc (.int .i64 x3.2.2.2.1), .sc (.int .i64 x3.2.2.2.2.1), .sc (.int .i64 x3.2.2.2.2.2.1), .sc (.int .i64 x3.2.2.2.2.2.2)] 36, .rows true 44 (.pair (.str) (.pair (.int .i64) (.pair (.int .i64) (.str)))) a14]⟩
  (blockK 4 (seqK (resolve_Candidates.cd N [1, 1, 1, 1, 1, 1, 1, 1, 0, 1, 0, 0, 1, 0, 0, 1, 1]) (blockK 1 (seqK (resolve_Candidates.cd N [1, 1, 1, 1, 1, 1, 1, 1, 0, 1, 0, 0, 1, 1]) (loopK (norm ((resolve_Candidates.E N).keep 16) 0) (resolve_Candidates.cd N [1, 1, 1, 1, 1, 1, 1, 1, 0, 1, 0, 0]) k6 (blockK 0 (seqK (resolve_Candidates.cd N [1, 1, 1, 1, 1, 1, 1, 1, 1]) resolve_Candidates.fin)))))))
noncomputable def resolve_Candidates.l3 (N : Nat) (x0 : ByteArray) (x3 : ByteArray × Int × Int × Int × Int × Int × Int) (r4 : (Int × (Int × Int) × Int) × Int × Int) (r5 : Int × Int × Bool) (k6 : Nat) (a7 : Int) (k15 : Nat) (a16 : Int) (a17 : List (ByteArray × Int × Int × ByteArray)) : Option (List (ByteArray × Int × Int × ByteArray) × Int) :=
  loopN (norm ((resolve_Candidates.E N).keep 33) 0) (resolve_Candidates.cd N [1, 1, 1, 1, 1, 1, 1, 1, 0, 1, 0, 0, 1, 0, 0, 1, 1, 1, 0, 0]) k15
  ⟨[.sc (.string x0), .any, .any, .any, .any, .any, .any, .ptr 0 0, .any, .any, .any, .any, .any, .sc (.int .i64 r4.1.2.2), .sc (.int .i64 r5.1), .sc (.int .i64 r5.2.1), .sc (.bool r5.2.2), .own 1, .sc (.int .i64 a7), .any, .any, .any, .any, .any, .any, .any, .any, .any, .any, .any, .any, .any, .any, .any, .any, .any, .any, .any, .any, .any, .any, .any, .any, .any, .any, .any, .any, .any, .any, .any, .any, .any, .any, .any, .any, .any, .any, .any, .any, .any, .any, .any, .any, .any, .any, .any, .any, .any, .any, .any, .any, .any, .any, .any, .any, .any, .any, .any, .any, .any, .any, .any, .any, .any, .any, .any, .any, .any, .any, .any, .any, .any, .any, .any, .any, .any, .any, .any, .any, .any, .any, .any, .any, .any, .any, .any, .any, .any, .any, .any, .any, .any, .any, .any, .any, .any, .any, .any, .any, .any, .any, .any, .any, .any, .any, .any, .any, .any, .any, .any, .any, .any, .any, .any, .any, .any, .any, .any, .agg [.sc (.int .i64 a7), .sc (.int .i64 (w (-a7)))], .sc (.int .i64 a16), .any, .any, .any, .any, .any, .any, .any, .any, .any, .any, .any, .any, .any, .any, .any], [.cells [.sc (.string x3.1), .sc (.int .i64 x3.2.1), .sc (.int .i64 x3.2.2.1), .sc (.int .i64 x3.2.2.2.1), .sc (.int .i64 x3.2.2.2.2.1), .sc (.int .i64 x3.2.2.2.2.2.1), .sc (.int .i64 x3.2.2.2.2.2.2)] 36, .rows true 44 (.pair (.str) (.pair (.int .i64) (.pair (.int .i64) (.str)))) a17]⟩
  (blockK 6 (blockK 1 (seqK (resolve_Candidates.cd N [1, 1, 1, 1, 1, 1, 1, 1, 0, 1, 0, 0, 1, 1]) (loopK (norm ((resolve_Candidates.E N).keep 16) 0) (resolve_Candidates.cd N [1, 1, 1, 1, 1, 1, 1, 1, 0, 1, 0, 0]) k6 (blockK 0 (seqK (resolve_Candidates.cd N [1, 1, 1, 1, 1, 1, 1, 1, 1]) resolve_Candidates.fin))))))
theorem resolve_Candidates.l3_zero (N : Nat) (x0 : ByteArray) (x3 : ByteArray × Int × Int × Int × Int × Int × Int) (r4 : (Int × (Int × Int) × Int) × Int × Int) (r5 : Int × Int × Bool) (k6 : Nat) (a7 : Int) (a16 : Int) (a17 : List (ByteArray × Int × Int × ByteArray)) : resolve_Candidates.l3 N x0 x3 r4 r5 k6 a7 0 a16 a17 = none := by kernel_rfl
theorem resolve_Candidates.l3_succ (N : Nat) (x0 : ByteArray) (x3 : ByteArray × Int × Int × Int × Int × Int × Int) (r4 : (Int × (Int × Int) × Int) × Int × Int) (r5 : Int × Int × Bool) (k6 : Nat) (a7 : Int) (k15 : Nat) (a16 : Int) (a17 : List (ByteArray × Int × Int × ByteArray)) : resolve_Candidates.l3 N x0 x3 r4 r5 k6 a7 (k15 + 1) a16 a17 =
    bif decide (a16 < 2) then
      bif (decide (0 ≤ a16)) && (decide (a16 < 2)) then
        bif decide (((Int.toNat a16) * 1) < 2) then
          bif r5.2.2 then
            (angle_Norm.fn N (w (r5.1 + (w ((List.getD [a7, (w (-a7))] ((Int.toNat a16) * 1) 0) * 171))))).bind fun r18 =>
            bif decide ((a17.length + 1) * 48 ≤ 140737488355328) && decide ((a17.length + 1) ≤ maxLen) then
              resolve_Candidates.l3 N x0 x3 r4 r5 k6 a7 k15 (w (a16 + 1)) (a17 ++ [(x0, (1, (r18, (⟨#[]⟩ : ByteArray))))])
            else
              none
          else
            resolve_Candidates.l3 N x0 x3 r4 r5 k6 a7 k15 (w (a16 + 1)) a17
        else
          none
      else
        none
    else
      resolve_Candidates.l0 N x0 x3 r4 r5 k6 (w (a7 + 1)) a17 := by kernel_rfl
theorem resolve_Candidates.l2_zero (N : Nat) (x0 : ByteArray) (x3 : ByteArray × Int × Int × Int × Int × Int × Int) (r4 : (Int × (Int × Int) × Int) × Int × Int) (r5 : Int × Int × Bool) (k6 : Nat) (a7 : Int) (a13 : Int) (a14 : List (ByteArray × Int × Int × ByteArray)) : resolve_Candidates.l2 N x0 x3 r4 r5 k6 a7 0 a13 a14 = none := by kernel_rfl
theorem resolve_Candidates.l2_succ (N : Nat) (x0 : ByteArray) (x3 : ByteArray × Int × Int × Int × Int × Int × Int) (r4 : (Int × (Int × Int) × Int) × Int × Int) (r5 : Int × Int × Bool) (k6 : Nat) (a7 : Int) (k12 : Nat) (a13 : Int) (a14 : List (ByteArray × Int × Int × ByteArray)) : resolve_Candidates.l2 N x0 x3 r4 r5 k6 a7 (k12 + 1) a13 a14 =
    bif decide (a13 < 2) then
      bif (decide (0 ≤ a13)) && (decide (a13 < 2)) then
        bif decide (((Int.toNat a13) * 1) < 2) then
          bif !r5.2.2 || r5.2.2 then
            bif !r5.2.2 || r5.2.2 then
              bif !r5.2.2 || r5.2.2 then
                bif (!r5.2.2) || r5.2.2 then
                  bif !(r5.2.2 && (decide ((w (r5.2.1 + (w ((List.getD [a7, (w (-a7))] ((Int.toNat a13) * 1) 0) * 15)))) ≥ x3.2.2.2.2.2.1))) || (r5.2.2 && (decide ((w (r5.2.1 + (w ((List.getD [a7, (w (-a7))] ((Int.toNat a13) * 1) 0) * 15)))) ≥ x3.2.2.2.2.2.1))) then
                    bif !(r5.2.2 && (decide ((w (r5.2.1 + (w ((List.getD [a7, (w (-a7))] ((Int.toNat a13) * 1) 0) * 15)))) ≥ x3.2.2.2.2.2.1))) || (r5.2.2 && (decide ((w (r5.2.1 + (w ((List.getD [a7, (w (-a7))] ((Int.toNat a13) * 1) 0) * 15)))) ≥ x3.2.2.2.2.2.1))) then
                      bif !(r5.2.2 && (decide ((w (r5.2.1 + (w ((List.getD [a7, (w (-a7))] ((Int.toNat a13) * 1) 0) * 15)))) ≥ x3.2.2.2.2.2.1))) || (r5.2.2 && (decide ((w (r5.2.1 + (w ((List.getD [a7, (w (-a7))] ((Int.toNat a13) * 1) 0) * 15)))) ≥ x3.2.2.2.2.2.1))) then
                        bif (!(r5.2.2 && (decide ((w (r5.2.1 + (w ((List.getD [a7, (w (-a7))] ((Int.toNat a13) * 1) 0) * 15)))) ≥ x3.2.2.2.2.2.1)))) || (r5.2.2 && (decide ((w (r5.2.1 + (w ((List.getD [a7, (w (-a7))] ((Int.toNat a13) * 1) 0) * 15)))) ≥ x3.2.2.2.2.2.1))) then
                          bif (r5.2.2 && (decide ((w (r5.2.1 + (w ((List.getD [a7, (w (-a7))] ((Int.toNat a13) * 1) 0) * 15)))) ≥ x3.2.2.2.2.2.1))) && (decide ((w (r5.2.1 + (w ((List.getD [a7, (w (-a7))] ((Int.toNat a13) * 1) 0) * 15)))) ≤ x3.2.2.2.2.2.2)) then
                            bif decide ((a14.length + 1) * 48 ≤ 140737488355328) && decide ((a14.length + 1) ≤ maxLen) then
                              resolve_Candidates.l2 N x0 x3 r4 r5 k6 a7 k12 (w (a13 + 1)) (a14 ++ [(x0, (2, ((w (r5.2.1 + (w ((List.getD [a7, (w (-a7))] ((Int.toNat a13) * 1) 0) * 15)))), (⟨#[]⟩ : ByteArray))))])
                            else
                              none
                          else
                            resolve_Candidates.l2 N x0 x3 r4 r5 k6 a7 k12 (w (a13 + 1)) a14
                        else
                          none
                      else
                        none
                    else
                      none
                  else
                    none
                else
                  none
              else
                none
            else
              none
          else
            none
        else
          none
      else
        none
    else
      resolve_Candidates.l3 N x0 x3 r4 r5 k6 a7 N 0 a14 := by kernel_rfl
theorem resolve_Candidates.l1_zero (N : Nat) (x0 : ByteArray) (x3 : ByteArray × Int × Int × Int × Int × Int × Int) (r4 : (Int × (Int × Int) × Int) × Int × Int) (r5 : Int × Int × Bool) (k6 : Nat) (a7 : Int) (a10 : Int) (a11 : List (ByteArray × Int × Int × ByteArray)) : resolve_Candidates.l1 N x0 x3 r4 r5 k6 a7 0 a10 a11 = none := by kernel_rfl
theorem resolve_Candidates.l1_succ (N : Nat) (x0 : ByteArray) (x3 : ByteArray × Int × Int × Int × Int × Int × Int) (r4 : (Int × (Int × Int) × Int) × Int × Int) (r5 : Int × Int × Bool) (k6 : Nat) (a7 : Int) (k9 : Nat) (a10 : Int) (a11 : List (ByteArray × Int × Int × ByteArray)) : resolve_Candidates.l1 N x0 x3 r4 r5 k6 a7 (k9 + 1) a10 a11 =
    bif decide (a10 < 2) then
      bif (decide (0 ≤ a10)) && (decide (a10 < 2)) then
        bif decide (((Int.toNat a10) * 1) < 2) then
          bif !(decide ((w (r4.1.2.2 + (w ((List.getD [a7, (w (-a7))] ((Int.toNat a10) * 1) 0) * 1000)))) ≥ 0)) || (decide ((w (r4.1.2.2 + (w ((List.getD [a7, (w (-a7))] ((Int.toNat a10) * 1) 0) * 1000)))) ≥ 0)) then
            bif !(decide ((w (r4.1.2.2 + (w ((List.getD [a7, (w (-a7))] ((Int.toNat a10) * 1) 0) * 1000)))) ≥ 0)) || (decide ((w (r4.1.2.2 + (w ((List.getD [a7, (w (-a7))] ((Int.toNat a10) * 1) 0) * 1000)))) ≥ 0)) then
              bif !(decide ((w (r4.1.2.2 + (w ((List.getD [a7, (w (-a7))] ((Int.toNat a10) * 1) 0) * 1000)))) ≥ 0)) || (decide ((w (r4.1.2.2 + (w ((List.getD [a7, (w (-a7))] ((Int.toNat a10) * 1) 0) * 1000)))) ≥ 0)) then
                bif (!(decide ((w (r4.1.2.2 + (w ((List.getD [a7, (w (-a7))] ((Int.toNat a10) * 1) 0) * 1000)))) ≥ 0))) || (decide ((w (r4.1.2.2 + (w ((List.getD [a7, (w (-a7))] ((Int.toNat a10) * 1) 0) * 1000)))) ≥ 0)) then
                  bif (decide ((w (r4.1.2.2 + (w ((List.getD [a7, (w (-a7))] ((Int.toNat a10) * 1) 0) * 1000)))) ≥ 0)) && (decide ((w (r4.1.2.2 + (w ((List.getD [a7, (w (-a7))] ((Int.toNat a10) * 1) 0) * 1000)))) ≤ x3.2.2.1)) then
                    bif decide ((a11.length + 1) * 48 ≤ 140737488355328) && decide ((a11.length + 1) ≤ maxLen) then
                      resolve_Candidates.l1 N x0 x3 r4 r5 k6 a7 k9 (w (a10 + 1)) (a11 ++ [(x0, (0, ((w (r4.1.2.2 + (w ((List.getD [a7, (w (-a7))] ((Int.toNat a10) * 1) 0) * 1000)))), (⟨#[]⟩ : ByteArray))))])
                    else
                      none
                  else
                    resolve_Candidates.l1 N x0 x3 r4 r5 k6 a7 k9 (w (a10 + 1)) a11
                else
                  none
              else
                none
            else
              none
          else
            none
        else
          none
      else
        none
    else
      resolve_Candidates.l2 N x0 x3 r4 r5 k6 a7 N 0 a11 := by kernel_rfl
theorem resolve_Candidates.l0_zero (N : Nat) (x0 : ByteArray) (x3 : ByteArray × Int × Int × Int × Int × Int × Int) (r4 : (Int × (Int × Int) × Int) × Int × Int) (r5 : Int × Int × Bool) (a7 : Int) (a8 : List (ByteArray × Int × Int × ByteArray)) : resolve_Candidates.l0 N x0 x3 r4 r5 0 a7 a8 = none := by kernel_rfl
theorem resolve_Candidates.l0_succ (N : Nat) (x0 : ByteArray) (x3 : ByteArray × Int × Int × Int × Int × Int × Int) (r4 : (Int × (Int × Int) × Int) × Int × Int) (r5 : Int × Int × Bool) (k6 : Nat) (a7 : Int) (a8 : List (ByteArray × Int × Int × ByteArray)) : resolve_Candidates.l0 N x0 x3 r4 r5 (k6 + 1) a7 a8 =
    bif decide (a7 ≤ 3) then
      resolve_Candidates.l1 N x0 x3 r4 r5 k6 a7 N 0 a8
    else
      some (a8, 0) := by kernel_rfl
theorem taut26 : ∀ p0 p1 : Bool, ((!(p0 && (p1)) || (p0 && (p1)))) = true := by decide
theorem taut27 : ∀ p0 p1 : Bool, (((!(p0 && (p1))) || (p0 && (p1)))) = true := by decide
theorem resolve_Candidates.l2_clean (N : Nat) (x0 : ByteArray) (x3 : ByteArray × Int × Int × Int × Int × Int × Int) (r4 : (Int × (Int × Int) × Int) × Int × Int) (r5 : Int × Int × Bool) (k6 : Nat) (a7 : Int) (k12 : Nat) (a13 : Int) (a14 : List (ByteArray × Int × Int × ByteArray)) : resolve_Candidates.l2 N x0 x3 r4 r5 k6 a7 (k12 + 1) a13 a14 =
    bif decide (a13 < 2) then
      bif (decide (0 ≤ a13)) && (decide (a13 < 2)) then
        bif decide (((Int.toNat a13) * 1) < 2) then
          bif (r5.2.2 && (decide ((w (r5.2.1 + (w ((List.getD [a7, (w (-a7))] ((Int.toNat a13) * 1) 0) * 15)))) ≥ x3.2.2.2.2.2.1))) && (decide ((w (r5.2.1 + (w ((List.getD [a7, (w (-a7))] ((Int.toNat a13) * 1) 0) * 15)))) ≤ x3.2.2.2.2.2.2)) then
            bif decide ((a14.length + 1) * 48 ≤ 140737488355328) && decide ((a14.length + 1) ≤ maxLen) then
              resolve_Candidates.l2 N x0 x3 r4 r5 k6 a7 k12 (w (a13 + 1)) (a14 ++ [(x0, (2, ((w (r5.2.1 + (w ((List.getD [a7, (w (-a7))] ((Int.toNat a13) * 1) 0) * 15)))), (⟨#[]⟩ : ByteArray))))])
            else
              none
          else
            resolve_Candidates.l2 N x0 x3 r4 r5 k6 a7 k12 (w (a13 + 1)) a14
        else
          none
      else
        none
    else
      resolve_Candidates.l3 N x0 x3 r4 r5 k6 a7 N 0 a14 := by
  rw [resolve_Candidates.l2_succ]; simp only [taut26, taut17, taut27, taut18, cond_true]
theorem resolve_Candidates.l1_clean (N : Nat) (x0 : ByteArray) (x3 : ByteArray × Int × Int × Int × Int × Int × Int) (r4 : (Int × (Int × Int) × Int) × Int × Int) (r5 : Int × Int × Bool) (k6 : Nat) (a7 : Int) (k9 : Nat) (a10 : Int) (a11 : List (ByteArray × Int × Int × ByteArray)) : resolve_Candidates.l1 N x0 x3 r4 r5 k6 a7 (k9 + 1) a10 a11 =
    bif decide (a10 < 2) then
      bif (decide (0 ≤ a10)) && (decide (a10 < 2)) then
        bif decide (((Int.toNat a10) * 1) < 2) then
          bif (decide ((w (r4.1.2.2 + (w ((List.getD [a7, (w (-a7))] ((Int.toNat a10) * 1) 0) * 1000)))) ≥ 0)) && (decide ((w (r4.1.2.2 + (w ((List.getD [a7, (w (-a7))] ((Int.toNat a10) * 1) 0) * 1000)))) ≤ x3.2.2.1)) then
            bif decide ((a11.length + 1) * 48 ≤ 140737488355328) && decide ((a11.length + 1) ≤ maxLen) then
              resolve_Candidates.l1 N x0 x3 r4 r5 k6 a7 k9 (w (a10 + 1)) (a11 ++ [(x0, (0, ((w (r4.1.2.2 + (w ((List.getD [a7, (w (-a7))] ((Int.toNat a10) * 1) 0) * 1000)))), (⟨#[]⟩ : ByteArray))))])
            else
              none
          else
            resolve_Candidates.l1 N x0 x3 r4 r5 k6 a7 k9 (w (a10 + 1)) a11
        else
          none
      else
        none
    else
      resolve_Candidates.l2 N x0 x3 r4 r5 k6 a7 N 0 a11 := by
  rw [resolve_Candidates.l1_succ]; simp only [taut21, taut23, cond_true]
theorem resolve_Candidates.eq (N : Nat) (x0 : ByteArray) (x1 : List ((Int × (Int × Int) × Int) × Int × Int)) (x2 : Int) (x3 : ByteArray × Int × Int × Int × Int × Int × Int) : resolve_Candidates.fn N (x0, x1, x2, x3) =
    (tube_Check.fn N x1).bind fun r1 =>
    bif !(r1 == 0) then
      some ([], r1)
    else
      (aircraft_Check.fn N x3).bind fun r2 =>
      bif !(r2 == 0) then
        some ([], r2)
      else
      bif decide (0 < (x1.length : Int)) then
        bif !(!(decide (x2 < (((List.getD x1 0 ((0, ((0, 0), 0)), (0, 0))).1).1)))) || (!(decide (x2 < (((List.getD x1 0 ((0, ((0, 0), 0)), (0, 0))).1).1)))) then
          bif !(!(decide (x2 < (((List.getD x1 0 ((0, ((0, 0), 0)), (0, 0))).1).1)))) || (!(decide (x2 < (((List.getD x1 0 ((0, ((0, 0), 0)), (0, 0))).1).1)))) then
            bif !(!(decide (x2 < (((List.getD x1 0 ((0, ((0, 0), 0)), (0, 0))).1).1)))) || (!(decide (x2 < (((List.getD x1 0 ((0, ((0, 0), 0)), (0, 0))).1).1)))) then
              bif !(!(decide (x2 < (((List.getD x1 0 ((0, ((0, 0), 0)), (0, 0))).1).1)))) || (!(decide (x2 < (((List.getD x1 0 ((0, ((0, 0), 0)), (0, 0))).1).1)))) then
                bif ((decide (0 ≤ (w ((x1.length : Int) - 1)))) && (decide ((w ((x1.length : Int) - 1)) < (x1.length : Int)))) || !(!(decide (x2 < (((List.getD x1 0 ((0, ((0, 0), 0)), (0, 0))).1).1)))) then
                  bif !(!(decide (x2 < (((List.getD x1 0 ((0, ((0, 0), 0)), (0, 0))).1).1)))) || (!(decide (x2 < (((List.getD x1 0 ((0, ((0, 0), 0)), (0, 0))).1).1)))) then
                    bif !(!(decide (x2 < (((List.getD x1 0 ((0, ((0, 0), 0)), (0, 0))).1).1)))) || (!(decide (x2 < (((List.getD x1 0 ((0, ((0, 0), 0)), (0, 0))).1).1)))) then
                      bif !(!(decide (x2 < (((List.getD x1 0 ((0, ((0, 0), 0)), (0, 0))).1).1)))) || (!(decide (x2 < (((List.getD x1 0 ((0, ((0, 0), 0)), (0, 0))).1).1)))) then
                        bif !(!(decide (x2 < (((List.getD x1 0 ((0, ((0, 0), 0)), (0, 0))).1).1)))) || (!(decide (x2 < (((List.getD x1 0 ((0, ((0, 0), 0)), (0, 0))).1).1)))) then
                          bif !(!(decide (x2 < (((List.getD x1 0 ((0, ((0, 0), 0)), (0, 0))).1).1)))) || (!(decide (x2 < (((List.getD x1 0 ((0, ((0, 0), 0)), (0, 0))).1).1)))) then
                            bif (decide (x2 < (((List.getD x1 0 ((0, ((0, 0), 0)), (0, 0))).1).1))) || (!(decide (x2 < (((List.getD x1 0 ((0, ((0, 0), 0)), (0, 0))).1).1)))) then
                              bif (decide (x2 < (((List.getD x1 0 ((0, ((0, 0), 0)), (0, 0))).1).1))) || (decide (x2 > (((List.getD x1 (Int.toNat (w ((x1.length : Int) - 1))) ((0, ((0, 0), 0)), (0, 0))).1).1))) then
                                some ([], 12)
                              else
                                (phrase_Check.fn N (x0, (0, (0, (⟨#[]⟩ : ByteArray))))).bind fun r3 =>
                                bif !(r3 == 0) then
                                  some ([], r3)
                                else
                                  (tube_Point.fn N (x1, x2)).bind fun r4 =>
                                  (resolve_motion.fn N (x1, x2)).bind fun r5 =>
                                  resolve_Candidates.l0 N x0 x3 r4 r5 N 1 []
                            else
                              none
                          else
                            none
                        else
                          none
                      else
                        none
                    else
                      none
                  else
                    none
                else
                  none
              else
                none
            else
              none
          else
            none
        else
          none
      else
        none := by kernel_rfl
theorem resolve_Candidates.clean (N : Nat) (x0 : ByteArray) (x1 : List ((Int × (Int × Int) × Int) × Int × Int)) (x2 : Int) (x3 : ByteArray × Int × Int × Int × Int × Int × Int) : resolve_Candidates.fn N (x0, x1, x2, x3) =
    (tube_Check.fn N x1).bind fun r1 =>
    bif !(r1 == 0) then
      some ([], r1)
    else
      (aircraft_Check.fn N x3).bind fun r2 =>
      bif !(r2 == 0) then
        some ([], r2)
      else
      bif decide (0 < (x1.length : Int)) then
        bif ((decide (0 ≤ (w ((x1.length : Int) - 1)))) && (decide ((w ((x1.length : Int) - 1)) < (x1.length : Int)))) || !(!(decide (x2 < (((List.getD x1 0 ((0, ((0, 0), 0)), (0, 0))).1).1)))) then
          bif (decide (x2 < (((List.getD x1 0 ((0, ((0, 0), 0)), (0, 0))).1).1))) || (decide (x2 > (((List.getD x1 (Int.toNat (w ((x1.length : Int) - 1))) ((0, ((0, 0), 0)), (0, 0))).1).1))) then
            some ([], 12)
          else
            (phrase_Check.fn N (x0, (0, (0, (⟨#[]⟩ : ByteArray))))).bind fun r3 =>
            bif !(r3 == 0) then
              some ([], r3)
            else
              (tube_Point.fn N (x1, x2)).bind fun r4 =>
              (resolve_motion.fn N (x1, x2)).bind fun r5 =>
              resolve_Candidates.l0 N x0 x3 r4 r5 N 1 []
        else
          none
      else
        none := by
  rw [resolve_Candidates.eq]; simp only [taut3, taut6, cond_true]

/-! ### law_near: skyway/skywaylaw3.near -/
def law_near.kp : List (Nat × List (Nat × Option (TypeId × Ty))) := []
noncomputable def law_near.G (N : Nat) : List (Nat × Spec) := []
noncomputable def law_near.E (N : Nat) : Env := mkEnv (law_near.G N) N tyTab law_near.kp
noncomputable def law_near.fn (N : Nat) (x : Unit) : Option (Int × Int) := evFn (law_near.E N) Tryz.prog 3 Tryz.f12 false [] [.val (.agg (.pair (.int .i64) (.int .i64)))] x
noncomputable def law_near.S (N : Nat) : PSpec := ⟨false, [], [.val (.agg (.pair (.int .i64) (.int .i64)))], law_near.fn N⟩
theorem f12_enters : Enters Tryz.prog 12 := ⟨Tryz.f12, Tryz.func12, by kernel_rfl, by kernel_rfl⟩
theorem law_near.tab (N : Nat) : TabOk Tryz.prog (law_near.G N) := trivial
theorem law_near.enters : Enters Tryz.prog 12 := f12_enters
theorem law_near.sound (N : Nat) : Sound Tryz.prog 12 (law_near.S N) := evFn_sound (specs_tab (law_near.tab N)) (inls_tab (law_near.tab N)) mixed 3 Tryz.func12 _ _ _
theorem law_near.eq (N : Nat) : law_near.fn N () =
    some (100, 1000) := by kernel_rfl

/-! ### probe_CheckSep: skyway/probe.CheckSep -/
def probe_CheckSep.kp : List (Nat × List (Nat × Option (TypeId × Ty))) := []
noncomputable def probe_CheckSep.G (N : Nat) : List (Nat × Spec) := []
noncomputable def probe_CheckSep.E (N : Nat) : Env := mkEnv (probe_CheckSep.G N) N tyTab probe_CheckSep.kp
noncomputable def probe_CheckSep.fn (N : Nat) (x : Int × Int) : Option Int := evFn (probe_CheckSep.E N) Tryz.prog 3 Tryz.f17 false [.agg (.pair (.int .i64) (.int .i64))] [.val (.cell (.int .i64))] x
noncomputable def probe_CheckSep.S (N : Nat) : PSpec := ⟨false, [.agg (.pair (.int .i64) (.int .i64))], [.val (.cell (.int .i64))], probe_CheckSep.fn N⟩
theorem f17_enters : Enters Tryz.prog 17 := ⟨Tryz.f17, Tryz.func17, by kernel_rfl, by kernel_rfl⟩
theorem probe_CheckSep.tab (N : Nat) : TabOk Tryz.prog (probe_CheckSep.G N) := trivial
theorem probe_CheckSep.enters : Enters Tryz.prog 17 := f17_enters
theorem probe_CheckSep.sound (N : Nat) : Sound Tryz.prog 17 (probe_CheckSep.S N) := evFn_sound (specs_tab (probe_CheckSep.tab N)) (inls_tab (probe_CheckSep.tab N)) mixed 3 Tryz.func17 _ _ _
theorem probe_CheckSep.eq (N : Nat) (x0 : Int × Int) : probe_CheckSep.fn N x0 =
    bif !(!(decide (x0.1 < 0))) || (!(decide (x0.1 < 0))) then
      bif !(!(decide (x0.1 < 0))) || (!(decide (x0.1 < 0))) then
        bif (decide (x0.1 < 0)) || (!(decide (x0.1 < 0))) then
          bif !(!((decide (x0.1 < 0)) || (decide (x0.1 > 1000000)))) || (!((decide (x0.1 < 0)) || (decide (x0.1 > 1000000)))) then
            bif !(!((decide (x0.1 < 0)) || (decide (x0.1 > 1000000)))) || (!((decide (x0.1 < 0)) || (decide (x0.1 > 1000000)))) then
              bif ((decide (x0.1 < 0)) || (decide (x0.1 > 1000000))) || (!((decide (x0.1 < 0)) || (decide (x0.1 > 1000000)))) then
                bif !(!(((decide (x0.1 < 0)) || (decide (x0.1 > 1000000))) || (decide (x0.2 < 0)))) || (!(((decide (x0.1 < 0)) || (decide (x0.1 > 1000000))) || (decide (x0.2 < 0)))) then
                  bif !(!(((decide (x0.1 < 0)) || (decide (x0.1 > 1000000))) || (decide (x0.2 < 0)))) || (!(((decide (x0.1 < 0)) || (decide (x0.1 > 1000000))) || (decide (x0.2 < 0)))) then
                    bif (((decide (x0.1 < 0)) || (decide (x0.1 > 1000000))) || (decide (x0.2 < 0))) || (!(((decide (x0.1 < 0)) || (decide (x0.1 > 1000000))) || (decide (x0.2 < 0)))) then
                      bif (((decide (x0.1 < 0)) || (decide (x0.1 > 1000000))) || (decide (x0.2 < 0))) || (decide (x0.2 > 60000)) then
                        some 4
                      else
                        some 0
                    else
                      none
                  else
                    none
                else
                  none
              else
                none
            else
              none
          else
            none
        else
          none
      else
        none
    else
      none := by kernel_rfl
theorem probe_CheckSep.clean (N : Nat) (x0 : Int × Int) : probe_CheckSep.fn N x0 =
    bif (((decide (x0.1 < 0)) || (decide (x0.1 > 1000000))) || (decide (x0.2 < 0))) || (decide (x0.2 > 60000)) then
      some 4
    else
      some 0 := by
  rw [probe_CheckSep.eq]; simp only [taut1, taut2, taut3, taut4, taut5, taut6, cond_true]

/-! ### resolve_check: skyway/resolve.check -/
def resolve_check.kp : List (Nat × List (Nat × Option (TypeId × Ty))) := [(7, [(0, none), (1, none), (19, none), (20, none), (21, none)])]
noncomputable def resolve_check.G (N : Nat) : List (Nat × Spec) := [(17, .pure (probe_CheckSep.S N)), (18, .pure (tube_Check.S N))]
noncomputable def resolve_check.E (N : Nat) : Env := mkEnv (resolve_check.G N) N tyTab resolve_check.kp
noncomputable def resolve_check.fn (N : Nat) (x : List (List ((Int × (Int × Int) × Int) × Int × Int)) × Int × Int × Int) : Option Int := evFn (resolve_check.E N) Tryz.prog 3 Tryz.f15 false [.cell (.sl 32 (.sl 58 (.pair (.pair (.int .i64) (.pair (.pair (.int .i64) (.int .i64)) (.int .i64))) (.pair (.int .i64) (.int .i64))))), .cell (.int .i64), .agg (.pair (.int .i64) (.int .i64))] [.val (.cell (.int .i64))] x
noncomputable def resolve_check.S (N : Nat) : PSpec := ⟨false, [.cell (.sl 32 (.sl 58 (.pair (.pair (.int .i64) (.pair (.pair (.int .i64) (.int .i64)) (.int .i64))) (.pair (.int .i64) (.int .i64))))), .cell (.int .i64), .agg (.pair (.int .i64) (.int .i64))], [.val (.cell (.int .i64))], resolve_check.fn N⟩
theorem f15_enters : Enters Tryz.prog 15 := ⟨Tryz.f15, Tryz.func15, by kernel_rfl, by kernel_rfl⟩
theorem resolve_check.tab (N : Nat) : TabOk Tryz.prog (resolve_check.G N) := ⟨⟨probe_CheckSep.enters, probe_CheckSep.sound N⟩, ⟨tube_Check.enters, tube_Check.sound N⟩, trivial⟩
theorem resolve_check.enters : Enters Tryz.prog 15 := f15_enters
theorem resolve_check.sound (N : Nat) : Sound Tryz.prog 15 (resolve_check.S N) := evFn_sound (specs_tab (resolve_check.tab N)) (inls_tab (resolve_check.tab N)) mixed 3 Tryz.func15 _ _ _
noncomputable def resolve_check.cd (N : Nat) (p : List Nat) : St → (Ex → St → Option Int) → Option Int := ev (resolve_check.E N) Tryz.prog (callD (resolve_check.E N) Tryz.prog 3) 0 (codeAt (bodyOf Tryz.f15) p)
noncomputable def resolve_check.fin : Ex → St → Option Int := endK Tryz.prog Tryz.f15 [.val (.cell (.int .i64))]
noncomputable def resolve_check.l0 (N : Nat) (x0 : List (List ((Int × (Int × Int) × Int) × Int × Int))) (x1 : Int) (k2 : Nat) (a3 : Int) : Option Int :=
  loopN (norm ((resolve_check.E N).keep 7) 0) (resolve_check.cd N [1, 1, 1, 0, 1, 0, 0]) k2
  ⟨[.ros false 32 (.sl 58 (.pair (.pair (.int .i64) (.pair (.pair (.int .i64) (.int .i64)) (.int .i64))) (.pair (.int .i64) (.int .i64)))) x0, .sc (.int .i64 x1), .any, .any, .any, .any, .any, .any, .any, .any, .any, .any, .any, .any, .any, .any, .any, .any, .any, .ros false 32 (.sl 58 (.pair (.pair (.int .i64) (.pair (.pair (.int .i64) (.int .i64)) (.int .i64))) (.pair (.int .i64) (.int .i64)))) x0, .sc (.int .i64 (x0.length : Int)), .sc (.int .i64 a3), .any, .any, .any, .any, .any, .any, .any, .any, .any, .any, .any, .any, .any, .any, .any, .any, .any], []⟩
  (blockK 0 (seqK (resolve_check.cd N [1, 1, 1, 1]) resolve_check.fin))
theorem resolve_check.l0_zero (N : Nat) (x0 : List (List ((Int × (Int × Int) × Int) × Int × Int))) (x1 : Int) (a3 : Int) : resolve_check.l0 N x0 x1 0 a3 = none := by kernel_rfl
theorem resolve_check.l0_succ (N : Nat) (x0 : List (List ((Int × (Int × Int) × Int) × Int × Int))) (x1 : Int) (k2 : Nat) (a3 : Int) : resolve_check.l0 N x0 x1 (k2 + 1) a3 =
    bif decide (a3 < (x0.length : Int)) then
      bif (decide (0 ≤ a3)) && (decide (a3 < (x0.length : Int))) then
        (tube_Check.fn N (List.getD x0 (Int.toNat a3) [])).bind fun r4 =>
        bif !(r4 == 0) then
          some r4
        else
          resolve_check.l0 N x0 x1 k2 (w (a3 + 1))
      else
        none
    else
    bif !(!(decide (x1 < 0))) || (!(decide (x1 < 0))) then
      bif !(!(decide (x1 < 0))) || (!(decide (x1 < 0))) then
        bif !(!(decide (x1 < 0))) || (!(decide (x1 < 0))) then
          bif (decide (x1 < 0)) || (!(decide (x1 < 0))) then
            bif (decide (x1 < 0)) || (decide (x1 ≥ (x0.length : Int))) then
              some 4
            else
              some 0
          else
            none
        else
          none
      else
        none
    else
      none := by kernel_rfl
theorem resolve_check.l0_clean (N : Nat) (x0 : List (List ((Int × (Int × Int) × Int) × Int × Int))) (x1 : Int) (k2 : Nat) (a3 : Int) : resolve_check.l0 N x0 x1 (k2 + 1) a3 =
    bif decide (a3 < (x0.length : Int)) then
      bif (decide (0 ≤ a3)) && (decide (a3 < (x0.length : Int))) then
        (tube_Check.fn N (List.getD x0 (Int.toNat a3) [])).bind fun r4 =>
        bif !(r4 == 0) then
          some r4
        else
          resolve_check.l0 N x0 x1 k2 (w (a3 + 1))
      else
        none
    else
    bif (decide (x1 < 0)) || (decide (x1 ≥ (x0.length : Int))) then
      some 4
    else
      some 0 := by
  rw [resolve_check.l0_succ]; simp only [taut3, taut6, cond_true]
theorem resolve_check.l0_cons (N : Nat) (x0 : List (List ((Int × (Int × Int) × Int) × Int × Int))) (x1 : Int) (k2 : Nat) {pre r} {x} (hl : x0 = pre ++ x :: r) (hb : x0.length < 4611686018427387904) : resolve_check.l0 N x0 x1 (k2 + 1) (pre.length : Int) =
    (tube_Check.fn N x).bind fun r4 =>
    bif !(r4 == 0) then
      some r4
    else
      resolve_check.l0 N x0 x1 k2 ((pre.length : Int) + 1) := by
  have hlen : x0.length = pre.length + 1 + r.length := by rw [hl]; simp; omega
  have e1 : decide ((pre.length : Int) < (x0.length : Int)) = true := by rw [decide_eq_true_iff]; omega
  have e2 : decide (0 ≤ (pre.length : Int)) = true := by rw [decide_eq_true_iff]; omega
  have e4 : w ((pre.length : Int) + 1) = (pre.length : Int) + 1 := w_next hl hb
  have e5 : List.take pre.length x0 = pre := by rw [hl]; simp
  have e6 : decide ((pre.length : Int) ≤ (x0.length : Int)) = true := by rw [decide_eq_true_iff]; omega
  have g0 : List.getD x0 pre.length [] = x := by rw [hl]; exact getD_mid pre x r _
  rw [resolve_check.l0_clean]
  simp -implicitDefEqProofs only [Int.toNat_natCast, e1, e2, e4, e6, g0, e5, Bool.and_true, Bool.true_and, Bool.true_or, cond_true]
theorem resolve_check.l0_nil (N : Nat) (x0 : List (List ((Int × (Int × Int) × Int) × Int × Int))) (x1 : Int) (k2 : Nat) : resolve_check.l0 N x0 x1 (k2 + 1) (x0.length : Int) =
    bif (decide (x1 < 0)) || (decide (x1 ≥ (x0.length : Int))) then
      some 4
    else
      some 0 := by
  have e1 : decide ((x0.length : Int) < (x0.length : Int)) = false := by rw [decide_eq_false_iff_not]; omega
  rw [resolve_check.l0_clean]
  simp -implicitDefEqProofs only [e1, cond_false]
theorem resolve_check.eq (N : Nat) (x0 : List (List ((Int × (Int × Int) × Int) × Int × Int))) (x1 : Int) (x2 : Int × Int) : resolve_check.fn N (x0, x1, x2) =
    (probe_CheckSep.fn N x2).bind fun r1 =>
    bif !(r1 == 0) then
      some r1
    else
    bif decide ((x0.length : Int) > 24) then
      some 2
    else
      resolve_check.l0 N x0 x1 N 0 := by kernel_rfl

/-! ### probe_check: skyway/probe.check -/
def probe_check.kp : List (Nat × List (Nat × Option (TypeId × Ty))) := [(5, [(14, none), (15, none), (16, none)])]
noncomputable def probe_check.G (N : Nat) : List (Nat × Spec) := [(17, .pure (probe_CheckSep.S N)), (18, .pure (tube_Check.S N))]
noncomputable def probe_check.E (N : Nat) : Env := mkEnv (probe_check.G N) N tyTab probe_check.kp
noncomputable def probe_check.fn (N : Nat) (x : (Int × Int) × List (List ((Int × (Int × Int) × Int) × Int × Int))) : Option Int := evFn (probe_check.E N) Tryz.prog 3 Tryz.f37 false [.agg (.pair (.int .i64) (.int .i64)), .cell (.sl 32 (.sl 58 (.pair (.pair (.int .i64) (.pair (.pair (.int .i64) (.int .i64)) (.int .i64))) (.pair (.int .i64) (.int .i64)))))] [.val (.cell (.int .i64))] x
noncomputable def probe_check.S (N : Nat) : PSpec := ⟨false, [.agg (.pair (.int .i64) (.int .i64)), .cell (.sl 32 (.sl 58 (.pair (.pair (.int .i64) (.pair (.pair (.int .i64) (.int .i64)) (.int .i64))) (.pair (.int .i64) (.int .i64)))))], [.val (.cell (.int .i64))], probe_check.fn N⟩
theorem f37_enters : Enters Tryz.prog 37 := ⟨Tryz.f37, Tryz.func37, by kernel_rfl, by kernel_rfl⟩
theorem probe_check.tab (N : Nat) : TabOk Tryz.prog (probe_check.G N) := ⟨⟨probe_CheckSep.enters, probe_CheckSep.sound N⟩, ⟨tube_Check.enters, tube_Check.sound N⟩, trivial⟩
theorem probe_check.enters : Enters Tryz.prog 37 := f37_enters
theorem probe_check.sound (N : Nat) : Sound Tryz.prog 37 (probe_check.S N) := evFn_sound (specs_tab (probe_check.tab N)) (inls_tab (probe_check.tab N)) mixed 3 Tryz.func37 _ _ _
noncomputable def probe_check.cd (N : Nat) (p : List Nat) : St → (Ex → St → Option Int) → Option Int := ev (probe_check.E N) Tryz.prog (callD (probe_check.E N) Tryz.prog 3) 0 (codeAt (bodyOf Tryz.f37) p)
noncomputable def probe_check.fin : Ex → St → Option Int := endK Tryz.prog Tryz.f37 [.val (.cell (.int .i64))]
noncomputable def probe_check.l0 (N : Nat) (x1 : List (List ((Int × (Int × Int) × Int) × Int × Int))) (k2 : Nat) (a3 : Int) : Option Int :=
  loopN (norm ((probe_check.E N).keep 5) 0) (probe_check.cd N [1, 1, 0, 1, 0, 0]) k2
  ⟨[.any, .any, .any, .any, .any, .any, .any, .any, .any, .any, .any, .any, .any, .any, .ros false 32 (.sl 58 (.pair (.pair (.int .i64) (.pair (.pair (.int .i64) (.int .i64)) (.int .i64))) (.pair (.int .i64) (.int .i64)))) x1, .sc (.int .i64 (x1.length : Int)), .sc (.int .i64 a3), .any, .any, .any, .any, .any, .any, .any, .any, .any], []⟩
  (blockK 0 (seqK (probe_check.cd N [1, 1, 1]) probe_check.fin))
theorem probe_check.l0_zero (N : Nat) (x1 : List (List ((Int × (Int × Int) × Int) × Int × Int))) (a3 : Int) : probe_check.l0 N x1 0 a3 = none := by kernel_rfl
theorem probe_check.l0_succ (N : Nat) (x1 : List (List ((Int × (Int × Int) × Int) × Int × Int))) (k2 : Nat) (a3 : Int) : probe_check.l0 N x1 (k2 + 1) a3 =
    bif decide (a3 < (x1.length : Int)) then
      bif (decide (0 ≤ a3)) && (decide (a3 < (x1.length : Int))) then
        (tube_Check.fn N (List.getD x1 (Int.toNat a3) [])).bind fun r4 =>
        bif !(r4 == 0) then
          some r4
        else
          probe_check.l0 N x1 k2 (w (a3 + 1))
      else
        none
    else
      some 0 := by kernel_rfl
theorem probe_check.l0_cons (N : Nat) (x1 : List (List ((Int × (Int × Int) × Int) × Int × Int))) (k2 : Nat) {pre r} {x} (hl : x1 = pre ++ x :: r) (hb : x1.length < 4611686018427387904) : probe_check.l0 N x1 (k2 + 1) (pre.length : Int) =
    (tube_Check.fn N x).bind fun r4 =>
    bif !(r4 == 0) then
      some r4
    else
      probe_check.l0 N x1 k2 ((pre.length : Int) + 1) := by
  have hlen : x1.length = pre.length + 1 + r.length := by rw [hl]; simp; omega
  have e1 : decide ((pre.length : Int) < (x1.length : Int)) = true := by rw [decide_eq_true_iff]; omega
  have e2 : decide (0 ≤ (pre.length : Int)) = true := by rw [decide_eq_true_iff]; omega
  have e4 : w ((pre.length : Int) + 1) = (pre.length : Int) + 1 := w_next hl hb
  have e5 : List.take pre.length x1 = pre := by rw [hl]; simp
  have e6 : decide ((pre.length : Int) ≤ (x1.length : Int)) = true := by rw [decide_eq_true_iff]; omega
  have g0 : List.getD x1 pre.length [] = x := by rw [hl]; exact getD_mid pre x r _
  rw [probe_check.l0_succ]
  simp -implicitDefEqProofs only [Int.toNat_natCast, e1, e2, e4, e6, g0, e5, Bool.and_true, Bool.true_and, Bool.true_or, cond_true]
theorem probe_check.l0_nil (N : Nat) (x1 : List (List ((Int × (Int × Int) × Int) × Int × Int))) (k2 : Nat) : probe_check.l0 N x1 (k2 + 1) (x1.length : Int) =
    some 0 := by
  have e1 : decide ((x1.length : Int) < (x1.length : Int)) = false := by rw [decide_eq_false_iff_not]; omega
  rw [probe_check.l0_succ]
  simp -implicitDefEqProofs only [e1, cond_false]
theorem probe_check.eq (N : Nat) (x0 : Int × Int) (x1 : List (List ((Int × (Int × Int) × Int) × Int × Int))) : probe_check.fn N (x0, x1) =
    (probe_CheckSep.fn N x0).bind fun r1 =>
    bif !(r1 == 0) then
      some r1
    else
      probe_check.l0 N x1 N 0 := by kernel_rfl

/-! ### probe_common: skyway/probe.common -/
def probe_common.kp : List (Nat × List (Nat × Option (TypeId × Ty))) := []
noncomputable def probe_common.G (N : Nat) : List (Nat × Spec) := []
noncomputable def probe_common.E (N : Nat) : Env := mkEnv (probe_common.G N) N tyTab probe_common.kp
noncomputable def probe_common.fn (N : Nat) (x : List ((Int × (Int × Int) × Int) × Int × Int) × List ((Int × (Int × Int) × Int) × Int × Int)) : Option (Int × Int) := evFn (probe_common.E N) Tryz.prog 3 Tryz.f55 false [.cell (.sl 58 (.pair (.pair (.int .i64) (.pair (.pair (.int .i64) (.int .i64)) (.int .i64))) (.pair (.int .i64) (.int .i64)))), .cell (.sl 58 (.pair (.pair (.int .i64) (.pair (.pair (.int .i64) (.int .i64)) (.int .i64))) (.pair (.int .i64) (.int .i64))))] [.val (.cell (.int .i64)), .val (.cell (.int .i64))] x
noncomputable def probe_common.S (N : Nat) : PSpec := ⟨false, [.cell (.sl 58 (.pair (.pair (.int .i64) (.pair (.pair (.int .i64) (.int .i64)) (.int .i64))) (.pair (.int .i64) (.int .i64)))), .cell (.sl 58 (.pair (.pair (.int .i64) (.pair (.pair (.int .i64) (.int .i64)) (.int .i64))) (.pair (.int .i64) (.int .i64))))], [.val (.cell (.int .i64)), .val (.cell (.int .i64))], probe_common.fn N⟩
theorem f55_enters : Enters Tryz.prog 55 := ⟨Tryz.f55, Tryz.func55, by kernel_rfl, by kernel_rfl⟩
theorem probe_common.tab (N : Nat) : TabOk Tryz.prog (probe_common.G N) := trivial
theorem probe_common.enters : Enters Tryz.prog 55 := f55_enters
theorem probe_common.sound (N : Nat) : Sound Tryz.prog 55 (probe_common.S N) := evFn_sound (specs_tab (probe_common.tab N)) (inls_tab (probe_common.tab N)) mixed 3 Tryz.func55 _ _ _
theorem probe_common.eq (N : Nat) (x0 : List ((Int × (Int × Int) × Int) × Int × Int)) (x1 : List ((Int × (Int × Int) × Int) × Int × Int)) : probe_common.fn N (x0, x1) =
    bif decide (0 < (x0.length : Int)) then
      bif decide (0 < (x1.length : Int)) then
        bif (decide (0 ≤ (w ((x0.length : Int) - 1)))) && (decide ((w ((x0.length : Int) - 1)) < (x0.length : Int))) then
          bif (decide (0 ≤ (w ((x1.length : Int) - 1)))) && (decide ((w ((x1.length : Int) - 1)) < (x1.length : Int))) then
            some ((if ((List.getD x1 0 ((0, ((0, 0), 0)), (0, 0))).1).1 > ((List.getD x0 0 ((0, ((0, 0), 0)), (0, 0))).1).1 then ((List.getD x1 0 ((0, ((0, 0), 0)), (0, 0))).1).1 else ((List.getD x0 0 ((0, ((0, 0), 0)), (0, 0))).1).1), (if ((List.getD x1 (Int.toNat (w ((x1.length : Int) - 1))) ((0, ((0, 0), 0)), (0, 0))).1).1 < ((List.getD x0 (Int.toNat (w ((x0.length : Int) - 1))) ((0, ((0, 0), 0)), (0, 0))).1).1 then ((List.getD x1 (Int.toNat (w ((x1.length : Int) - 1))) ((0, ((0, 0), 0)), (0, 0))).1).1 else ((List.getD x0 (Int.toNat (w ((x0.length : Int) - 1))) ((0, ((0, 0), 0)), (0, 0))).1).1))
          else
            none
        else
          none
      else
        none
    else
      none := by kernel_rfl

/-! ### probe_surplus: skyway/probe.surplus -/
def probe_surplus.kp : List (Nat × List (Nat × Option (TypeId × Ty))) := []
noncomputable def probe_surplus.G (N : Nat) : List (Nat × Spec) := [(35, .pure (plane_Distance.S N))]
noncomputable def probe_surplus.E (N : Nat) : Env := mkEnv (probe_surplus.G N) N tyTab probe_surplus.kp
noncomputable def probe_surplus.fn (N : Nat) (x : ((Int × (Int × Int) × Int) × Int × Int) × (Int × (Int × Int) × Int) × Int × Int) : Option Int := evFn (probe_surplus.E N) Tryz.prog 3 Tryz.f77 false [.agg (.pair (.pair (.int .i64) (.pair (.pair (.int .i64) (.int .i64)) (.int .i64))) (.pair (.int .i64) (.int .i64))), .agg (.pair (.pair (.int .i64) (.pair (.pair (.int .i64) (.int .i64)) (.int .i64))) (.pair (.int .i64) (.int .i64)))] [.val (.cell (.int .i64))] x
noncomputable def probe_surplus.S (N : Nat) : PSpec := ⟨false, [.agg (.pair (.pair (.int .i64) (.pair (.pair (.int .i64) (.int .i64)) (.int .i64))) (.pair (.int .i64) (.int .i64))), .agg (.pair (.pair (.int .i64) (.pair (.pair (.int .i64) (.int .i64)) (.int .i64))) (.pair (.int .i64) (.int .i64)))], [.val (.cell (.int .i64))], probe_surplus.fn N⟩
theorem f77_enters : Enters Tryz.prog 77 := ⟨Tryz.f77, Tryz.func77, by kernel_rfl, by kernel_rfl⟩
theorem probe_surplus.tab (N : Nat) : TabOk Tryz.prog (probe_surplus.G N) := ⟨⟨plane_Distance.enters, plane_Distance.sound N⟩, trivial⟩
theorem probe_surplus.enters : Enters Tryz.prog 77 := f77_enters
theorem probe_surplus.sound (N : Nat) : Sound Tryz.prog 77 (probe_surplus.S N) := evFn_sound (specs_tab (probe_surplus.tab N)) (inls_tab (probe_surplus.tab N)) mixed 3 Tryz.func77 _ _ _
theorem probe_surplus.eq (N : Nat) (x0 : (Int × (Int × Int) × Int) × Int × Int) (x1 : (Int × (Int × Int) × Int) × Int × Int) : probe_surplus.fn N (x0, x1) =
    (plane_Distance.fn N (x0.1.2.1, x1.1.2.1)).bind fun r1 =>
    some (w ((w (r1.1 - x0.2.1)) - x1.2.1)) := by kernel_rfl

/-! ### probe_separated: skyway/probe.separated -/
def probe_separated.kp : List (Nat × List (Nat × Option (TypeId × Ty))) := []
noncomputable def probe_separated.G (N : Nat) : List (Nat × Spec) := [(77, .pure (probe_surplus.S N))]
noncomputable def probe_separated.E (N : Nat) : Env := mkEnv (probe_separated.G N) N tyTab probe_separated.kp
noncomputable def probe_separated.fn (N : Nat) (x : ((Int × (Int × Int) × Int) × Int × Int) × ((Int × (Int × Int) × Int) × Int × Int) × Int × Int) : Option Bool := evFn (probe_separated.E N) Tryz.prog 3 Tryz.f56 false [.agg (.pair (.pair (.int .i64) (.pair (.pair (.int .i64) (.int .i64)) (.int .i64))) (.pair (.int .i64) (.int .i64))), .agg (.pair (.pair (.int .i64) (.pair (.pair (.int .i64) (.int .i64)) (.int .i64))) (.pair (.int .i64) (.int .i64))), .agg (.pair (.int .i64) (.int .i64))] [.val (.cell (.bool))] x
noncomputable def probe_separated.S (N : Nat) : PSpec := ⟨false, [.agg (.pair (.pair (.int .i64) (.pair (.pair (.int .i64) (.int .i64)) (.int .i64))) (.pair (.int .i64) (.int .i64))), .agg (.pair (.pair (.int .i64) (.pair (.pair (.int .i64) (.int .i64)) (.int .i64))) (.pair (.int .i64) (.int .i64))), .agg (.pair (.int .i64) (.int .i64))], [.val (.cell (.bool))], probe_separated.fn N⟩
theorem f56_enters : Enters Tryz.prog 56 := ⟨Tryz.f56, Tryz.func56, by kernel_rfl, by kernel_rfl⟩
theorem probe_separated.tab (N : Nat) : TabOk Tryz.prog (probe_separated.G N) := ⟨⟨probe_surplus.enters, probe_surplus.sound N⟩, trivial⟩
theorem probe_separated.enters : Enters Tryz.prog 56 := f56_enters
theorem probe_separated.sound (N : Nat) : Sound Tryz.prog 56 (probe_separated.S N) := evFn_sound (specs_tab (probe_separated.tab N)) (inls_tab (probe_separated.tab N)) mixed 3 Tryz.func56 _ _ _
theorem probe_separated.eq (N : Nat) (x0 : (Int × (Int × Int) × Int) × Int × Int) (x1 : (Int × (Int × Int) × Int) × Int × Int) (x2 : Int × Int) : probe_separated.fn N (x0, x1, x2) =
    bif !(!(decide ((w ((w ((if (w (x1.1.2.2 - x0.1.2.2)) > (w (x0.1.2.2 - x1.1.2.2)) then (w (x1.1.2.2 - x0.1.2.2)) else (w (x0.1.2.2 - x1.1.2.2))) - x0.2.2)) - x1.2.2)) ≥ x2.2))) || (!(decide ((w ((w ((if (w (x1.1.2.2 - x0.1.2.2)) > (w (x0.1.2.2 - x1.1.2.2)) then (w (x1.1.2.2 - x0.1.2.2)) else (w (x0.1.2.2 - x1.1.2.2))) - x0.2.2)) - x1.2.2)) ≥ x2.2))) then
      bif !(!(decide ((w ((w ((if (w (x1.1.2.2 - x0.1.2.2)) > (w (x0.1.2.2 - x1.1.2.2)) then (w (x1.1.2.2 - x0.1.2.2)) else (w (x0.1.2.2 - x1.1.2.2))) - x0.2.2)) - x1.2.2)) ≥ x2.2))) || (!(decide ((w ((w ((if (w (x1.1.2.2 - x0.1.2.2)) > (w (x0.1.2.2 - x1.1.2.2)) then (w (x1.1.2.2 - x0.1.2.2)) else (w (x0.1.2.2 - x1.1.2.2))) - x0.2.2)) - x1.2.2)) ≥ x2.2))) then
        (bif (!(decide ((w ((w ((if (w (x1.1.2.2 - x0.1.2.2)) > (w (x0.1.2.2 - x1.1.2.2)) then (w (x1.1.2.2 - x0.1.2.2)) else (w (x0.1.2.2 - x1.1.2.2))) - x0.2.2)) - x1.2.2)) ≥ x2.2))) then probe_surplus.fn N (x0, x1) else some (0)).bind fun r1 =>
        bif !(!(decide ((w ((w ((if (w (x1.1.2.2 - x0.1.2.2)) > (w (x0.1.2.2 - x1.1.2.2)) then (w (x1.1.2.2 - x0.1.2.2)) else (w (x0.1.2.2 - x1.1.2.2))) - x0.2.2)) - x1.2.2)) ≥ x2.2))) || (!(decide ((w ((w ((if (w (x1.1.2.2 - x0.1.2.2)) > (w (x0.1.2.2 - x1.1.2.2)) then (w (x1.1.2.2 - x0.1.2.2)) else (w (x0.1.2.2 - x1.1.2.2))) - x0.2.2)) - x1.2.2)) ≥ x2.2))) then
          bif !(!(decide ((w ((w ((if (w (x1.1.2.2 - x0.1.2.2)) > (w (x0.1.2.2 - x1.1.2.2)) then (w (x1.1.2.2 - x0.1.2.2)) else (w (x0.1.2.2 - x1.1.2.2))) - x0.2.2)) - x1.2.2)) ≥ x2.2))) || (!(decide ((w ((w ((if (w (x1.1.2.2 - x0.1.2.2)) > (w (x0.1.2.2 - x1.1.2.2)) then (w (x1.1.2.2 - x0.1.2.2)) else (w (x0.1.2.2 - x1.1.2.2))) - x0.2.2)) - x1.2.2)) ≥ x2.2))) then
            bif !(!(decide ((w ((w ((if (w (x1.1.2.2 - x0.1.2.2)) > (w (x0.1.2.2 - x1.1.2.2)) then (w (x1.1.2.2 - x0.1.2.2)) else (w (x0.1.2.2 - x1.1.2.2))) - x0.2.2)) - x1.2.2)) ≥ x2.2))) || (!(decide ((w ((w ((if (w (x1.1.2.2 - x0.1.2.2)) > (w (x0.1.2.2 - x1.1.2.2)) then (w (x1.1.2.2 - x0.1.2.2)) else (w (x0.1.2.2 - x1.1.2.2))) - x0.2.2)) - x1.2.2)) ≥ x2.2))) then
              bif (decide ((w ((w ((if (w (x1.1.2.2 - x0.1.2.2)) > (w (x0.1.2.2 - x1.1.2.2)) then (w (x1.1.2.2 - x0.1.2.2)) else (w (x0.1.2.2 - x1.1.2.2))) - x0.2.2)) - x1.2.2)) ≥ x2.2)) || (!(decide ((w ((w ((if (w (x1.1.2.2 - x0.1.2.2)) > (w (x0.1.2.2 - x1.1.2.2)) then (w (x1.1.2.2 - x0.1.2.2)) else (w (x0.1.2.2 - x1.1.2.2))) - x0.2.2)) - x1.2.2)) ≥ x2.2))) then
                some ((decide ((w ((w ((if (w (x1.1.2.2 - x0.1.2.2)) > (w (x0.1.2.2 - x1.1.2.2)) then (w (x1.1.2.2 - x0.1.2.2)) else (w (x0.1.2.2 - x1.1.2.2))) - x0.2.2)) - x1.2.2)) ≥ x2.2)) || (decide (r1 ≥ x2.1)))
              else
                none
            else
              none
          else
            none
        else
          none
      else
        none
    else
      none := by kernel_rfl
theorem probe_separated.clean (N : Nat) (x0 : (Int × (Int × Int) × Int) × Int × Int) (x1 : (Int × (Int × Int) × Int) × Int × Int) (x2 : Int × Int) : probe_separated.fn N (x0, x1, x2) =
    (bif (!(decide ((w ((w ((if (w (x1.1.2.2 - x0.1.2.2)) > (w (x0.1.2.2 - x1.1.2.2)) then (w (x1.1.2.2 - x0.1.2.2)) else (w (x0.1.2.2 - x1.1.2.2))) - x0.2.2)) - x1.2.2)) ≥ x2.2))) then probe_surplus.fn N (x0, x1) else some (0)).bind fun r1 =>
    some ((decide ((w ((w ((if (w (x1.1.2.2 - x0.1.2.2)) > (w (x0.1.2.2 - x1.1.2.2)) then (w (x1.1.2.2 - x0.1.2.2)) else (w (x0.1.2.2 - x1.1.2.2))) - x0.2.2)) - x1.2.2)) ≥ x2.2)) || (decide (r1 ≥ x2.1))) := by
  rw [probe_separated.eq]; simp only [taut3, taut6, cond_true]

/-! ### probe_pair: skyway/probe.pair -/
def probe_pair.kp : List (Nat × List (Nat × Option (TypeId × Ty))) := [(4, [(0, none), (1, none), (5, none), (7, some (73, .pair (.int .i64) (.int .i64))), (9, none), (10, none)])]
noncomputable def probe_pair.G (N : Nat) : List (Nat × Spec) := [(22, .pure (tube_Point.S N)), (55, .pure (probe_common.S N)), (56, .pure (probe_separated.S N))]
noncomputable def probe_pair.E (N : Nat) : Env := mkEnv (probe_pair.G N) N tyTab probe_pair.kp
noncomputable def probe_pair.fn (N : Nat) (x : List ((Int × (Int × Int) × Int) × Int × Int) × List ((Int × (Int × Int) × Int) × Int × Int) × Int × Int) : Option (List (Int × Int)) := evFn (probe_pair.E N) Tryz.prog 3 Tryz.f38 false [.cell (.sl 58 (.pair (.pair (.int .i64) (.pair (.pair (.int .i64) (.int .i64)) (.int .i64))) (.pair (.int .i64) (.int .i64)))), .cell (.sl 58 (.pair (.pair (.int .i64) (.pair (.pair (.int .i64) (.int .i64)) (.int .i64))) (.pair (.int .i64) (.int .i64)))), .agg (.pair (.int .i64) (.int .i64))] [.own 73 (.pair (.int .i64) (.int .i64))] x
noncomputable def probe_pair.S (N : Nat) : PSpec := ⟨false, [.cell (.sl 58 (.pair (.pair (.int .i64) (.pair (.pair (.int .i64) (.int .i64)) (.int .i64))) (.pair (.int .i64) (.int .i64)))), .cell (.sl 58 (.pair (.pair (.int .i64) (.pair (.pair (.int .i64) (.int .i64)) (.int .i64))) (.pair (.int .i64) (.int .i64)))), .agg (.pair (.int .i64) (.int .i64))], [.own 73 (.pair (.int .i64) (.int .i64))], probe_pair.fn N⟩
theorem f38_enters : Enters Tryz.prog 38 := ⟨Tryz.f38, Tryz.func38, by kernel_rfl, by kernel_rfl⟩
theorem probe_pair.tab (N : Nat) : TabOk Tryz.prog (probe_pair.G N) := ⟨⟨tube_Point.enters, tube_Point.sound N⟩, ⟨probe_common.enters, probe_common.sound N⟩, ⟨probe_separated.enters, probe_separated.sound N⟩, trivial⟩
theorem probe_pair.enters : Enters Tryz.prog 38 := f38_enters
theorem probe_pair.sound (N : Nat) : Sound Tryz.prog 38 (probe_pair.S N) := evFn_sound (specs_tab (probe_pair.tab N)) (inls_tab (probe_pair.tab N)) mixed 3 Tryz.func38 _ _ _
noncomputable def probe_pair.cd (N : Nat) (p : List Nat) : St → (Ex → St → Option (List (Int × Int))) → Option (List (Int × Int)) := ev (probe_pair.E N) Tryz.prog (callD (probe_pair.E N) Tryz.prog 3) 0 (codeAt (bodyOf Tryz.f38) p)
noncomputable def probe_pair.fin : Ex → St → Option (List (Int × Int)) := endK Tryz.prog Tryz.f38 [.own 73 (.pair (.int .i64) (.int .i64))]
noncomputable def probe_pair.l0 (N : Nat) (x0 : List ((Int × (Int × Int) × Int) × Int × Int)) (x1 : List ((Int × (Int × Int) × Int) × Int × Int)) (x2 : Int × Int) (r1 : Int × Int) (k2 : Nat) (a3 : Int) (a4 : List (Int × Int)) : Option (List (Int × Int)) :=
  loopN (norm ((probe_pair.E N).keep 4) 0) (probe_pair.cd N [1, 1, 1, 0, 1, 0, 0]) k2
  ⟨[.ros false 58 (.pair (.pair (.int .i64) (.pair (.pair (.int .i64) (.int .i64)) (.int .i64))) (.pair (.int .i64) (.int .i64))) x0, .ros false 58 (.pair (.pair (.int .i64) (.pair (.pair (.int .i64) (.int .i64)) (.int .i64))) (.pair (.int .i64) (.int .i64))) x1, .any, .any, .any, .ptr 0 0, .any, .own 1, .any, .sc (.int .i64 r1.2), .sc (.int .i64 a3), .any, .any, .any, .any, .any, .any, .any, .any, .any, .any, .any, .any, .any, .any, .any, .any, .any, .any, .any, .any, .any, .any, .any, .any, .any, .any, .any, .any, .any, .any, .any, .any, .any, .any, .any, .any, .any, .any, .any, .any, .any, .any, .any, .any, .any, .any, .any, .any, .any, .any, .any, .any, .any, .any, .any, .any], [.cells [.sc (.int .i64 x2.1), .sc (.int .i64 x2.2)] 24, .rows true 73 (.pair (.int .i64) (.int .i64)) a4]⟩
  (blockK 0 (seqK (probe_pair.cd N [1, 1, 1, 1]) probe_pair.fin))
theorem probe_pair.l0_zero (N : Nat) (x0 : List ((Int × (Int × Int) × Int) × Int × Int)) (x1 : List ((Int × (Int × Int) × Int) × Int × Int)) (x2 : Int × Int) (r1 : Int × Int) (a3 : Int) (a4 : List (Int × Int)) : probe_pair.l0 N x0 x1 x2 r1 0 a3 a4 = none := by kernel_rfl
theorem probe_pair.l0_succ (N : Nat) (x0 : List ((Int × (Int × Int) × Int) × Int × Int)) (x1 : List ((Int × (Int × Int) × Int) × Int × Int)) (x2 : Int × Int) (r1 : Int × Int) (k2 : Nat) (a3 : Int) (a4 : List (Int × Int)) : probe_pair.l0 N x0 x1 x2 r1 (k2 + 1) a3 a4 =
    bif decide (a3 ≤ r1.2) then
      (tube_Point.fn N (x0, a3)).bind fun r5 =>
      (tube_Point.fn N (x1, a3)).bind fun r6 =>
      (probe_separated.fn N (r5, r6, x2)).bind fun r7 =>
      bif r7 then
        probe_pair.l0 N x0 x1 x2 r1 k2 (w (a3 + 1)) a4
      else
      bif !(decide ((a4.length : Int) > 0)) || (decide ((a4.length : Int) > 0)) then
        bif !(decide ((a4.length : Int) > 0)) || (decide ((a4.length : Int) > 0)) then
          bif !(decide ((a4.length : Int) > 0)) || (decide ((a4.length : Int) > 0)) then
            bif ((decide (0 ≤ (w ((a4.length : Int) - 1)))) && (decide ((w ((a4.length : Int) - 1)) < (a4.length : Int)))) || !(decide ((a4.length : Int) > 0)) then
              bif !(decide ((a4.length : Int) > 0)) || (decide ((a4.length : Int) > 0)) then
                bif !(decide ((a4.length : Int) > 0)) || (decide ((a4.length : Int) > 0)) then
                  bif (decide ((Int.toNat (w ((a4.length : Int) - 1))) < a4.length)) || !(decide ((a4.length : Int) > 0)) then
                    bif !(decide ((a4.length : Int) > 0)) || (decide ((a4.length : Int) > 0)) then
                      bif !(decide ((a4.length : Int) > 0)) || (decide ((a4.length : Int) > 0)) then
                        bif (!(decide ((a4.length : Int) > 0))) || (decide ((a4.length : Int) > 0)) then
                          bif (decide ((a4.length : Int) > 0)) && (((List.getD a4 (Int.toNat (w ((a4.length : Int) - 1))) (0, 0)).2) == a3) then
                            bif (decide (0 ≤ (w ((a4.length : Int) - 1)))) && (decide ((w ((a4.length : Int) - 1)) < (a4.length : Int))) then
                              bif decide ((Int.toNat (w ((a4.length : Int) - 1))) < a4.length) then
                                bif (decide (0 ≤ (w ((a4.length : Int) - 1)))) && (decide ((w ((a4.length : Int) - 1)) < (a4.length : Int))) then
                                  bif decide ((Int.toNat (w ((a4.length : Int) - 1))) < a4.length) then
                                    probe_pair.l0 N x0 x1 x2 r1 k2 (w (a3 + 1)) (List.set a4 (Int.toNat (w ((a4.length : Int) - 1))) ((List.getD a4 (Int.toNat (w ((a4.length : Int) - 1))) (0, 0)).1, (w (((List.getD a4 (Int.toNat (w ((a4.length : Int) - 1))) (0, 0)).2) + 1))))
                                  else
                                    none
                                else
                                  none
                              else
                                none
                            else
                              none
                          else
                          bif decide ((a4.length + 1) * 16 ≤ 140737488355328) && decide ((a4.length + 1) ≤ maxLen) then
                            probe_pair.l0 N x0 x1 x2 r1 k2 (w (a3 + 1)) (a4 ++ [(a3, (w (a3 + 1)))])
                          else
                            none
                        else
                          none
                      else
                        none
                    else
                      none
                  else
                    none
                else
                  none
              else
                none
            else
              none
          else
            none
        else
          none
      else
        none
    else
      some a4 := by kernel_rfl
theorem probe_pair.l0_clean (N : Nat) (x0 : List ((Int × (Int × Int) × Int) × Int × Int)) (x1 : List ((Int × (Int × Int) × Int) × Int × Int)) (x2 : Int × Int) (r1 : Int × Int) (k2 : Nat) (a3 : Int) (a4 : List (Int × Int)) : probe_pair.l0 N x0 x1 x2 r1 (k2 + 1) a3 a4 =
    bif decide (a3 ≤ r1.2) then
      (tube_Point.fn N (x0, a3)).bind fun r5 =>
      (tube_Point.fn N (x1, a3)).bind fun r6 =>
      (probe_separated.fn N (r5, r6, x2)).bind fun r7 =>
      bif r7 then
        probe_pair.l0 N x0 x1 x2 r1 k2 (w (a3 + 1)) a4
      else
      bif ((decide (0 ≤ (w ((a4.length : Int) - 1)))) && (decide ((w ((a4.length : Int) - 1)) < (a4.length : Int)))) || !(decide ((a4.length : Int) > 0)) then
        bif (decide ((Int.toNat (w ((a4.length : Int) - 1))) < a4.length)) || !(decide ((a4.length : Int) > 0)) then
          bif (decide ((a4.length : Int) > 0)) && (((List.getD a4 (Int.toNat (w ((a4.length : Int) - 1))) (0, 0)).2) == a3) then
            bif (decide (0 ≤ (w ((a4.length : Int) - 1)))) && (decide ((w ((a4.length : Int) - 1)) < (a4.length : Int))) then
              bif decide ((Int.toNat (w ((a4.length : Int) - 1))) < a4.length) then
                bif (decide (0 ≤ (w ((a4.length : Int) - 1)))) && (decide ((w ((a4.length : Int) - 1)) < (a4.length : Int))) then
                  bif decide ((Int.toNat (w ((a4.length : Int) - 1))) < a4.length) then
                    probe_pair.l0 N x0 x1 x2 r1 k2 (w (a3 + 1)) (List.set a4 (Int.toNat (w ((a4.length : Int) - 1))) ((List.getD a4 (Int.toNat (w ((a4.length : Int) - 1))) (0, 0)).1, (w (((List.getD a4 (Int.toNat (w ((a4.length : Int) - 1))) (0, 0)).2) + 1))))
                  else
                    none
                else
                  none
              else
                none
            else
              none
          else
          bif decide ((a4.length + 1) * 16 ≤ 140737488355328) && decide ((a4.length + 1) ≤ maxLen) then
            probe_pair.l0 N x0 x1 x2 r1 k2 (w (a3 + 1)) (a4 ++ [(a3, (w (a3 + 1)))])
          else
            none
        else
          none
      else
        none
    else
      some a4 := by
  rw [probe_pair.l0_succ]; simp only [taut21, taut23, cond_true]
theorem probe_pair.eq (N : Nat) (x0 : List ((Int × (Int × Int) × Int) × Int × Int)) (x1 : List ((Int × (Int × Int) × Int) × Int × Int)) (x2 : Int × Int) : probe_pair.fn N (x0, x1, x2) =
    (probe_common.fn N (x0, x1)).bind fun r1 =>
    probe_pair.l0 N x0 x1 x2 r1 N r1.1 [] := by kernel_rfl

/-! ### probe_Pair: skyway/probe.Pair -/
def probe_Pair.kp : List (Nat × List (Nat × Option (TypeId × Ty))) := []
noncomputable def probe_Pair.G (N : Nat) : List (Nat × Spec) := [(37, .pure (probe_check.S N)), (38, .pure (probe_pair.S N))]
noncomputable def probe_Pair.E (N : Nat) : Env := mkEnv (probe_Pair.G N) N tyTab probe_Pair.kp
noncomputable def probe_Pair.fn (N : Nat) (x : List ((Int × (Int × Int) × Int) × Int × Int) × List ((Int × (Int × Int) × Int) × Int × Int) × Int × Int) : Option (List (Int × Int) × Int) := evFn (probe_Pair.E N) Tryz.prog 3 Tryz.f26 false [.cell (.sl 58 (.pair (.pair (.int .i64) (.pair (.pair (.int .i64) (.int .i64)) (.int .i64))) (.pair (.int .i64) (.int .i64)))), .cell (.sl 58 (.pair (.pair (.int .i64) (.pair (.pair (.int .i64) (.int .i64)) (.int .i64))) (.pair (.int .i64) (.int .i64)))), .agg (.pair (.int .i64) (.int .i64))] [.own 73 (.pair (.int .i64) (.int .i64)), .val (.cell (.int .i64))] x
noncomputable def probe_Pair.S (N : Nat) : PSpec := ⟨false, [.cell (.sl 58 (.pair (.pair (.int .i64) (.pair (.pair (.int .i64) (.int .i64)) (.int .i64))) (.pair (.int .i64) (.int .i64)))), .cell (.sl 58 (.pair (.pair (.int .i64) (.pair (.pair (.int .i64) (.int .i64)) (.int .i64))) (.pair (.int .i64) (.int .i64)))), .agg (.pair (.int .i64) (.int .i64))], [.own 73 (.pair (.int .i64) (.int .i64)), .val (.cell (.int .i64))], probe_Pair.fn N⟩
theorem f26_enters : Enters Tryz.prog 26 := ⟨Tryz.f26, Tryz.func26, by kernel_rfl, by kernel_rfl⟩
theorem probe_Pair.tab (N : Nat) : TabOk Tryz.prog (probe_Pair.G N) := ⟨⟨probe_check.enters, probe_check.sound N⟩, ⟨probe_pair.enters, probe_pair.sound N⟩, trivial⟩
theorem probe_Pair.enters : Enters Tryz.prog 26 := f26_enters
theorem probe_Pair.sound (N : Nat) : Sound Tryz.prog 26 (probe_Pair.S N) := evFn_sound (specs_tab (probe_Pair.tab N)) (inls_tab (probe_Pair.tab N)) mixed 3 Tryz.func26 _ _ _
theorem probe_Pair.eq (N : Nat) (x0 : List ((Int × (Int × Int) × Int) × Int × Int)) (x1 : List ((Int × (Int × Int) × Int) × Int × Int)) (x2 : Int × Int) : probe_Pair.fn N (x0, x1, x2) =
    (probe_check.fn N (x2, [x0, x1])).bind fun r1 =>
    bif !(r1 == 0) then
      some ([], r1)
    else
      (probe_pair.fn N (x0, x1, x2)).bind fun r2 =>
      some (r2, 0) := by kernel_rfl

/-! ### resolve_free: skyway/resolve.free -/
def resolve_free.kp : List (Nat × List (Nat × Option (TypeId × Ty))) := [(2, [(1, none), (2, none), (7, none), (13, none), (14, none), (15, none)])]
noncomputable def resolve_free.G (N : Nat) : List (Nat × Spec) := [(26, .pure (probe_Pair.S N))]
noncomputable def resolve_free.E (N : Nat) : Env := mkEnv (resolve_free.G N) N tyTab resolve_free.kp
noncomputable def resolve_free.fn (N : Nat) (x : List (List ((Int × (Int × Int) × Int) × Int × Int)) × Int × List ((Int × (Int × Int) × Int) × Int × Int) × Int × Int) : Option Bool := evFn (resolve_free.E N) Tryz.prog 3 Tryz.f16 false [.cell (.sl 32 (.sl 58 (.pair (.pair (.int .i64) (.pair (.pair (.int .i64) (.int .i64)) (.int .i64))) (.pair (.int .i64) (.int .i64))))), .cell (.int .i64), .cell (.sl 58 (.pair (.pair (.int .i64) (.pair (.pair (.int .i64) (.int .i64)) (.int .i64))) (.pair (.int .i64) (.int .i64)))), .agg (.pair (.int .i64) (.int .i64))] [.val (.cell (.bool))] x
noncomputable def resolve_free.S (N : Nat) : PSpec := ⟨false, [.cell (.sl 32 (.sl 58 (.pair (.pair (.int .i64) (.pair (.pair (.int .i64) (.int .i64)) (.int .i64))) (.pair (.int .i64) (.int .i64))))), .cell (.int .i64), .cell (.sl 58 (.pair (.pair (.int .i64) (.pair (.pair (.int .i64) (.int .i64)) (.int .i64))) (.pair (.int .i64) (.int .i64)))), .agg (.pair (.int .i64) (.int .i64))], [.val (.cell (.bool))], resolve_free.fn N⟩
theorem f16_enters : Enters Tryz.prog 16 := ⟨Tryz.f16, Tryz.func16, by kernel_rfl, by kernel_rfl⟩
theorem resolve_free.tab (N : Nat) : TabOk Tryz.prog (resolve_free.G N) := ⟨⟨probe_Pair.enters, probe_Pair.sound N⟩, trivial⟩
theorem resolve_free.enters : Enters Tryz.prog 16 := f16_enters
theorem resolve_free.sound (N : Nat) : Sound Tryz.prog 16 (resolve_free.S N) := evFn_sound (specs_tab (resolve_free.tab N)) (inls_tab (resolve_free.tab N)) mixed 3 Tryz.func16 _ _ _
noncomputable def resolve_free.cd (N : Nat) (p : List Nat) : St → (Ex → St → Option Bool) → Option Bool := ev (resolve_free.E N) Tryz.prog (callD (resolve_free.E N) Tryz.prog 3) 0 (codeAt (bodyOf Tryz.f16) p)
noncomputable def resolve_free.fin : Ex → St → Option Bool := endK Tryz.prog Tryz.f16 [.val (.cell (.bool))]
noncomputable def resolve_free.l0 (N : Nat) (x0 : List (List ((Int × (Int × Int) × Int) × Int × Int))) (x1 : Int) (x2 : List ((Int × (Int × Int) × Int) × Int × Int)) (x3 : Int × Int) (k1 : Nat) (a2 : Int) : Option Bool :=
  loopN (norm ((resolve_free.E N).keep 2) 0) (resolve_free.cd N [1, 0, 1, 0, 0]) k1
  ⟨[.any, .sc (.int .i64 x1), .ros false 58 (.pair (.pair (.int .i64) (.pair (.pair (.int .i64) (.int .i64)) (.int .i64))) (.pair (.int .i64) (.int .i64))) x2, .any, .any, .any, .any, .ptr 0 0, .any, .any, .any, .any, .any, .ros false 32 (.sl 58 (.pair (.pair (.int .i64) (.pair (.pair (.int .i64) (.int .i64)) (.int .i64))) (.pair (.int .i64) (.int .i64)))) x0, .sc (.int .i64 (x0.length : Int)), .sc (.int .i64 a2), .any, .any, .any, .any, .any, .any, .any, .any, .any, .any, .any, .any, .any, .any, .any, .any, .any, .any, .any, .any, .any, .any], [.cells [.sc (.int .i64 x3.1), .sc (.int .i64 x3.2)] 24]⟩
  (blockK 0 (seqK (resolve_free.cd N [1, 1]) resolve_free.fin))
theorem resolve_free.l0_zero (N : Nat) (x0 : List (List ((Int × (Int × Int) × Int) × Int × Int))) (x1 : Int) (x2 : List ((Int × (Int × Int) × Int) × Int × Int)) (x3 : Int × Int) (a2 : Int) : resolve_free.l0 N x0 x1 x2 x3 0 a2 = none := by kernel_rfl
theorem resolve_free.l0_succ (N : Nat) (x0 : List (List ((Int × (Int × Int) × Int) × Int × Int))) (x1 : Int) (x2 : List ((Int × (Int × Int) × Int) × Int × Int)) (x3 : Int × Int) (k1 : Nat) (a2 : Int) : resolve_free.l0 N x0 x1 x2 x3 (k1 + 1) a2 =
    bif decide (a2 < (x0.length : Int)) then
      bif (decide (0 ≤ a2)) && (decide (a2 < (x0.length : Int))) then
        bif a2 == x1 then
          resolve_free.l0 N x0 x1 x2 x3 k1 (w (a2 + 1))
        else
          (probe_Pair.fn N ((List.getD x0 (Int.toNat a2) []), x2, x3)).bind fun r3 =>
          bif !(!(!(r3.2 == 0))) || (!(!(r3.2 == 0))) then
            bif !(!(!(r3.2 == 0))) || (!(!(r3.2 == 0))) then
              bif (!(r3.2 == 0)) || (!(!(r3.2 == 0))) then
                bif (!(r3.2 == 0)) || (decide ((r3.1.length : Int) > 0)) then
                  some false
                else
                  resolve_free.l0 N x0 x1 x2 x3 k1 (w (a2 + 1))
              else
                none
            else
              none
          else
            none
      else
        none
    else
      some true := by kernel_rfl
theorem resolve_free.l0_clean (N : Nat) (x0 : List (List ((Int × (Int × Int) × Int) × Int × Int))) (x1 : Int) (x2 : List ((Int × (Int × Int) × Int) × Int × Int)) (x3 : Int × Int) (k1 : Nat) (a2 : Int) : resolve_free.l0 N x0 x1 x2 x3 (k1 + 1) a2 =
    bif decide (a2 < (x0.length : Int)) then
      bif (decide (0 ≤ a2)) && (decide (a2 < (x0.length : Int))) then
        bif a2 == x1 then
          resolve_free.l0 N x0 x1 x2 x3 k1 (w (a2 + 1))
        else
          (probe_Pair.fn N ((List.getD x0 (Int.toNat a2) []), x2, x3)).bind fun r3 =>
          bif (!(r3.2 == 0)) || (decide ((r3.1.length : Int) > 0)) then
            some false
          else
            resolve_free.l0 N x0 x1 x2 x3 k1 (w (a2 + 1))
      else
        none
    else
      some true := by
  rw [resolve_free.l0_succ]; simp only [taut19, taut20, cond_true]
theorem resolve_free.l0_cons (N : Nat) (x0 : List (List ((Int × (Int × Int) × Int) × Int × Int))) (x1 : Int) (x2 : List ((Int × (Int × Int) × Int) × Int × Int)) (x3 : Int × Int) (k1 : Nat) {pre r} {x} (hl : x0 = pre ++ x :: r) (hb : x0.length < 4611686018427387904) : resolve_free.l0 N x0 x1 x2 x3 (k1 + 1) (pre.length : Int) =
    bif (pre.length : Int) == x1 then
      resolve_free.l0 N x0 x1 x2 x3 k1 ((pre.length : Int) + 1)
    else
      (probe_Pair.fn N (x, x2, x3)).bind fun r3 =>
      bif (!(r3.2 == 0)) || (decide ((r3.1.length : Int) > 0)) then
        some false
      else
        resolve_free.l0 N x0 x1 x2 x3 k1 ((pre.length : Int) + 1) := by
  have hlen : x0.length = pre.length + 1 + r.length := by rw [hl]; simp; omega
  have e1 : decide ((pre.length : Int) < (x0.length : Int)) = true := by rw [decide_eq_true_iff]; omega
  have e2 : decide (0 ≤ (pre.length : Int)) = true := by rw [decide_eq_true_iff]; omega
  have e4 : w ((pre.length : Int) + 1) = (pre.length : Int) + 1 := w_next hl hb
  have e5 : List.take pre.length x0 = pre := by rw [hl]; simp
  have e6 : decide ((pre.length : Int) ≤ (x0.length : Int)) = true := by rw [decide_eq_true_iff]; omega
  have g0 : List.getD x0 pre.length [] = x := by rw [hl]; exact getD_mid pre x r _
  rw [resolve_free.l0_clean]
  simp -implicitDefEqProofs only [Int.toNat_natCast, e1, e2, e4, e6, g0, e5, Bool.and_true, Bool.true_and, Bool.true_or, cond_true]
theorem resolve_free.l0_nil (N : Nat) (x0 : List (List ((Int × (Int × Int) × Int) × Int × Int))) (x1 : Int) (x2 : List ((Int × (Int × Int) × Int) × Int × Int)) (x3 : Int × Int) (k1 : Nat) : resolve_free.l0 N x0 x1 x2 x3 (k1 + 1) (x0.length : Int) =
    some true := by
  have e1 : decide ((x0.length : Int) < (x0.length : Int)) = false := by rw [decide_eq_false_iff_not]; omega
  rw [resolve_free.l0_clean]
  simp -implicitDefEqProofs only [e1, cond_false]
theorem resolve_free.eq (N : Nat) (x0 : List (List ((Int × (Int × Int) × Int) × Int × Int))) (x1 : Int) (x2 : List ((Int × (Int × Int) × Int) × Int × Int)) (x3 : Int × Int) : resolve_free.fn N (x0, x1, x2, x3) =
    resolve_free.l0 N x0 x1 x2 x3 N 0 := by kernel_rfl

/-! ### resolve_Free: skyway/resolve.Free -/
def resolve_Free.kp : List (Nat × List (Nat × Option (TypeId × Ty))) := []
noncomputable def resolve_Free.G (N : Nat) : List (Nat × Spec) := [(15, .pure (resolve_check.S N)), (16, .pure (resolve_free.S N))]
noncomputable def resolve_Free.E (N : Nat) : Env := mkEnv (resolve_Free.G N) N tyTab resolve_Free.kp
noncomputable def resolve_Free.fn (N : Nat) (x : List (List ((Int × (Int × Int) × Int) × Int × Int)) × Int × Int × Int) : Option (Bool × Int) := evFn (resolve_Free.E N) Tryz.prog 3 Tryz.f5 false [.cell (.sl 32 (.sl 58 (.pair (.pair (.int .i64) (.pair (.pair (.int .i64) (.int .i64)) (.int .i64))) (.pair (.int .i64) (.int .i64))))), .cell (.int .i64), .agg (.pair (.int .i64) (.int .i64))] [.val (.cell (.bool)), .val (.cell (.int .i64))] x
noncomputable def resolve_Free.S (N : Nat) : PSpec := ⟨false, [.cell (.sl 32 (.sl 58 (.pair (.pair (.int .i64) (.pair (.pair (.int .i64) (.int .i64)) (.int .i64))) (.pair (.int .i64) (.int .i64))))), .cell (.int .i64), .agg (.pair (.int .i64) (.int .i64))], [.val (.cell (.bool)), .val (.cell (.int .i64))], resolve_Free.fn N⟩
theorem f5_enters : Enters Tryz.prog 5 := ⟨Tryz.f5, Tryz.func5, by kernel_rfl, by kernel_rfl⟩
theorem resolve_Free.tab (N : Nat) : TabOk Tryz.prog (resolve_Free.G N) := ⟨⟨resolve_check.enters, resolve_check.sound N⟩, ⟨resolve_free.enters, resolve_free.sound N⟩, trivial⟩
theorem resolve_Free.enters : Enters Tryz.prog 5 := f5_enters
theorem resolve_Free.sound (N : Nat) : Sound Tryz.prog 5 (resolve_Free.S N) := evFn_sound (specs_tab (resolve_Free.tab N)) (inls_tab (resolve_Free.tab N)) mixed 3 Tryz.func5 _ _ _
theorem resolve_Free.eq (N : Nat) (x0 : List (List ((Int × (Int × Int) × Int) × Int × Int))) (x1 : Int) (x2 : Int × Int) : resolve_Free.fn N (x0, x1, x2) =
    (resolve_check.fn N (x0, x1, x2)).bind fun r1 =>
    bif !(r1 == 0) then
      some (false, r1)
    else
    bif (decide (0 ≤ x1)) && (decide (x1 < (x0.length : Int))) then
      (resolve_free.fn N (x0, x1, (List.getD x0 (Int.toNat x1) []), x2)).bind fun r2 =>
      some (r2, 0)
    else
      none := by kernel_rfl

/-! ### effect_divide: skyway/effect.divide -/
def effect_divide.kp : List (Nat × List (Nat × Option (TypeId × Ty))) := [(3, [(1, none), (4, none), (5, none), (12, none), (13, none), (14, none), (7000005, some (58, .pair (.pair (.int .i64) (.pair (.pair (.int .i64) (.int .i64)) (.int .i64))) (.pair (.int .i64) (.int .i64)))), (8000005, some (58, .pair (.pair (.int .i64) (.pair (.pair (.int .i64) (.int .i64)) (.int .i64))) (.pair (.int .i64) (.int .i64))))])]
noncomputable def effect_divide.G (N : Nat) : List (Nat × Spec) := [(22, .pure (tube_Point.S N))]
noncomputable def effect_divide.E (N : Nat) : Env := mkEnv (effect_divide.G N) N tyTab effect_divide.kp
noncomputable def effect_divide.fn (N : Nat) (x : List ((Int × (Int × Int) × Int) × Int × Int) × Int) : Option (((Int × (Int × Int) × Int) × Int × Int) × List ((Int × (Int × Int) × Int) × Int × Int) × List ((Int × (Int × Int) × Int) × Int × Int)) := evFn (effect_divide.E N) Tryz.prog 3 Tryz.f49 false [.cell (.sl 58 (.pair (.pair (.int .i64) (.pair (.pair (.int .i64) (.int .i64)) (.int .i64))) (.pair (.int .i64) (.int .i64)))), .cell (.int .i64)] [.val (.agg (.pair (.pair (.pair (.int .i64) (.pair (.pair (.int .i64) (.int .i64)) (.int .i64))) (.pair (.int .i64) (.int .i64))) (.pair (.sl 58 (.pair (.pair (.int .i64) (.pair (.pair (.int .i64) (.int .i64)) (.int .i64))) (.pair (.int .i64) (.int .i64)))) (.sl 58 (.pair (.pair (.int .i64) (.pair (.pair (.int .i64) (.int .i64)) (.int .i64))) (.pair (.int .i64) (.int .i64)))))))] x
noncomputable def effect_divide.S (N : Nat) : PSpec := ⟨false, [.cell (.sl 58 (.pair (.pair (.int .i64) (.pair (.pair (.int .i64) (.int .i64)) (.int .i64))) (.pair (.int .i64) (.int .i64)))), .cell (.int .i64)], [.val (.agg (.pair (.pair (.pair (.int .i64) (.pair (.pair (.int .i64) (.int .i64)) (.int .i64))) (.pair (.int .i64) (.int .i64))) (.pair (.sl 58 (.pair (.pair (.int .i64) (.pair (.pair (.int .i64) (.int .i64)) (.int .i64))) (.pair (.int .i64) (.int .i64)))) (.sl 58 (.pair (.pair (.int .i64) (.pair (.pair (.int .i64) (.int .i64)) (.int .i64))) (.pair (.int .i64) (.int .i64)))))))], effect_divide.fn N⟩
theorem f49_enters : Enters Tryz.prog 49 := ⟨Tryz.f49, Tryz.func49, by kernel_rfl, by kernel_rfl⟩
theorem effect_divide.tab (N : Nat) : TabOk Tryz.prog (effect_divide.G N) := ⟨⟨tube_Point.enters, tube_Point.sound N⟩, trivial⟩
theorem effect_divide.enters : Enters Tryz.prog 49 := f49_enters
theorem effect_divide.sound (N : Nat) : Sound Tryz.prog 49 (effect_divide.S N) := evFn_sound (specs_tab (effect_divide.tab N)) (inls_tab (effect_divide.tab N)) mixed 3 Tryz.func49 _ _ _
noncomputable def effect_divide.cd (N : Nat) (p : List Nat) : St → (Ex → St → Option (((Int × (Int × Int) × Int) × Int × Int) × List ((Int × (Int × Int) × Int) × Int × Int) × List ((Int × (Int × Int) × Int) × Int × Int))) → Option (((Int × (Int × Int) × Int) × Int × Int) × List ((Int × (Int × Int) × Int) × Int × Int) × List ((Int × (Int × Int) × Int) × Int × Int)) := ev (effect_divide.E N) Tryz.prog (callD (effect_divide.E N) Tryz.prog 3) 0 (codeAt (bodyOf Tryz.f49) p)
noncomputable def effect_divide.fin : Ex → St → Option (((Int × (Int × Int) × Int) × Int × Int) × List ((Int × (Int × Int) × Int) × Int × Int) × List ((Int × (Int × Int) × Int) × Int × Int)) := endK Tryz.prog Tryz.f49 [.val (.agg (.pair (.pair (.pair (.int .i64) (.pair (.pair (.int .i64) (.int .i64)) (.int .i64))) (.pair (.int .i64) (.int .i64))) (.pair (.sl 58 (.pair (.pair (.int .i64) (.pair (.pair (.int .i64) (.int .i64)) (.int .i64))) (.pair (.int .i64) (.int .i64)))) (.sl 58 (.pair (.pair (.int .i64) (.pair (.pair (.int .i64) (.int .i64)) (.int .i64))) (.pair (.int .i64) (.int .i64)))))))]
noncomputable def effect_divide.l0 (N : Nat) (x0 : List ((Int × (Int × Int) × Int) × Int × Int)) (x1 : Int) (r1 : (Int × (Int × Int) × Int) × Int × Int) (k2 : Nat) (a3 : Int) (a4 : List ((Int × (Int × Int) × Int) × Int × Int)) (a5 : List ((Int × (Int × Int) × Int) × Int × Int)) : Option (((Int × (Int × Int) × Int) × Int × Int) × List ((Int × (Int × Int) × Int) × Int × Int) × List ((Int × (Int × Int) × Int) × Int × Int)) :=
  loopN (norm ((effect_divide.E N).keep 3) 0) (effect_divide.cd N [1, 1, 0, 1, 0, 0]) k2
  ⟨[.any, .sc (.int .i64 x1), .any, .any, .ptr 0 0, .ptr 1 0, .any, .any, .any, .any, .any, .any, .ros false 58 (.pair (.pair (.int .i64) (.pair (.pair (.int .i64) (.int .i64)) (.int .i64))) (.pair (.int .i64) (.int .i64))) x0, .sc (.int .i64 (x0.length : Int)), .sc (.int .i64 a3), .any, .any, .any, .any, .any, .any, .any, .any, .any, .any, .any, .any, .any, .any, .any, .any, .any, .any, .any, .any, .any, .any, .any, .any, .any, .any, .any, .any, .any, .any, .any, .any, .any, .any, .any, .any], [.cells [.sc (.int .i64 0), .sc (.int .i64 0), .sc (.int .i64 0), .sc (.int .i64 0), .sc (.int .i64 0), .sc (.int .i64 0), .sc (.slice none 0 0), .sc (.slice none 0 0)] 96, .cells [.sc (.int .i64 r1.1.1), .sc (.int .i64 r1.1.2.1.1), .sc (.int .i64 r1.1.2.1.2), .sc (.int .i64 r1.1.2.2), .sc (.int .i64 r1.2.1), .sc (.int .i64 r1.2.2), .own 2, .own 3] 96, .rows true 58 (.pair (.pair (.int .i64) (.pair (.pair (.int .i64) (.int .i64)) (.int .i64))) (.pair (.int .i64) (.int .i64))) a4, .rows true 58 (.pair (.pair (.int .i64) (.pair (.pair (.int .i64) (.int .i64)) (.int .i64))) (.pair (.int .i64) (.int .i64))) a5]⟩
  (blockK 0 (seqK (effect_divide.cd N [1, 1, 1]) effect_divide.fin))
theorem effect_divide.l0_zero (N : Nat) (x0 : List ((Int × (Int × Int) × Int) × Int × Int)) (x1 : Int) (r1 : (Int × (Int × Int) × Int) × Int × Int) (a3 : Int) (a4 : List ((Int × (Int × Int) × Int) × Int × Int)) (a5 : List ((Int × (Int × Int) × Int) × Int × Int)) : effect_divide.l0 N x0 x1 r1 0 a3 a4 a5 = none := by kernel_rfl
theorem effect_divide.l0_succ (N : Nat) (x0 : List ((Int × (Int × Int) × Int) × Int × Int)) (x1 : Int) (r1 : (Int × (Int × Int) × Int) × Int × Int) (k2 : Nat) (a3 : Int) (a4 : List ((Int × (Int × Int) × Int) × Int × Int)) (a5 : List ((Int × (Int × Int) × Int) × Int × Int)) : effect_divide.l0 N x0 x1 r1 (k2 + 1) a3 a4 a5 =
    bif decide (a3 < (x0.length : Int)) then
      bif (decide (0 ≤ a3)) && (decide (a3 < (x0.length : Int))) then
        bif decide ((((List.getD x0 (Int.toNat a3) ((0, ((0, 0), 0)), (0, 0))).1).1) < x1) then
          bif decide ((a4.length + 1) * 48 ≤ 140737488355328) && decide ((a4.length + 1) ≤ maxLen) then
            effect_divide.l0 N x0 x1 r1 k2 (w (a3 + 1)) (a4 ++ [List.getD x0 (Int.toNat a3) ((0, ((0, 0), 0)), (0, 0))]) a5
          else
            none
        else
        bif decide ((((List.getD x0 (Int.toNat a3) ((0, ((0, 0), 0)), (0, 0))).1).1) > x1) then
          bif decide ((a5.length + 1) * 48 ≤ 140737488355328) && decide ((a5.length + 1) ≤ maxLen) then
            effect_divide.l0 N x0 x1 r1 k2 (w (a3 + 1)) a4 (a5 ++ [List.getD x0 (Int.toNat a3) ((0, ((0, 0), 0)), (0, 0))])
          else
            none
        else
          effect_divide.l0 N x0 x1 r1 k2 (w (a3 + 1)) a4 a5
      else
        none
    else
    bif decide ((a4.length + 1) * 48 ≤ 140737488355328) && decide ((a4.length + 1) ≤ maxLen) then
      some (r1, ((a4 ++ [r1]), a5))
    else
      none := by kernel_rfl
theorem effect_divide.l0_cons (N : Nat) (x0 : List ((Int × (Int × Int) × Int) × Int × Int)) (x1 : Int) (r1 : (Int × (Int × Int) × Int) × Int × Int) (k2 : Nat) (a4 : List ((Int × (Int × Int) × Int) × Int × Int)) (a5 : List ((Int × (Int × Int) × Int) × Int × Int)) {pre r} {x} (hl : x0 = pre ++ x :: r) (hb : x0.length < 4611686018427387904) : effect_divide.l0 N x0 x1 r1 (k2 + 1) (pre.length : Int) a4 a5 =
    bif decide (((x.1).1) < x1) then
      bif decide ((a4.length + 1) * 48 ≤ 140737488355328) && decide ((a4.length + 1) ≤ maxLen) then
        effect_divide.l0 N x0 x1 r1 k2 ((pre.length : Int) + 1) (a4 ++ [x]) a5
      else
        none
    else
    bif decide (((x.1).1) > x1) then
      bif decide ((a5.length + 1) * 48 ≤ 140737488355328) && decide ((a5.length + 1) ≤ maxLen) then
        effect_divide.l0 N x0 x1 r1 k2 ((pre.length : Int) + 1) a4 (a5 ++ [x])
      else
        none
    else
      effect_divide.l0 N x0 x1 r1 k2 ((pre.length : Int) + 1) a4 a5 := by
  have hlen : x0.length = pre.length + 1 + r.length := by rw [hl]; simp; omega
  have e1 : decide ((pre.length : Int) < (x0.length : Int)) = true := by rw [decide_eq_true_iff]; omega
  have e2 : decide (0 ≤ (pre.length : Int)) = true := by rw [decide_eq_true_iff]; omega
  have e4 : w ((pre.length : Int) + 1) = (pre.length : Int) + 1 := w_next hl hb
  have e5 : List.take pre.length x0 = pre := by rw [hl]; simp
  have e6 : decide ((pre.length : Int) ≤ (x0.length : Int)) = true := by rw [decide_eq_true_iff]; omega
  have g0 : List.getD x0 pre.length ((0, ((0, 0), 0)), (0, 0)) = x := by rw [hl]; exact getD_mid pre x r _
  rw [effect_divide.l0_succ]
  simp -implicitDefEqProofs only [Int.toNat_natCast, e1, e2, e4, e6, g0, e5, Bool.and_true, Bool.true_and, Bool.true_or, cond_true]
theorem effect_divide.l0_nil (N : Nat) (x0 : List ((Int × (Int × Int) × Int) × Int × Int)) (x1 : Int) (r1 : (Int × (Int × Int) × Int) × Int × Int) (k2 : Nat) (a4 : List ((Int × (Int × Int) × Int) × Int × Int)) (a5 : List ((Int × (Int × Int) × Int) × Int × Int)) : effect_divide.l0 N x0 x1 r1 (k2 + 1) (x0.length : Int) a4 a5 =
    bif decide ((a4.length + 1) * 48 ≤ 140737488355328) && decide ((a4.length + 1) ≤ maxLen) then
      some (r1, ((a4 ++ [r1]), a5))
    else
      none := by
  have e1 : decide ((x0.length : Int) < (x0.length : Int)) = false := by rw [decide_eq_false_iff_not]; omega
  rw [effect_divide.l0_succ]
  simp -implicitDefEqProofs only [e1, cond_false]
theorem effect_divide.eq (N : Nat) (x0 : List ((Int × (Int × Int) × Int) × Int × Int)) (x1 : Int) : effect_divide.fn N (x0, x1) =
    (tube_Point.fn N (x0, x1)).bind fun r1 =>
    effect_divide.l0 N x0 x1 r1 N 0 [] [] := by kernel_rfl

end Go.Proofs.YthkpnlfnplhgnaaGreatDoor.Sk
