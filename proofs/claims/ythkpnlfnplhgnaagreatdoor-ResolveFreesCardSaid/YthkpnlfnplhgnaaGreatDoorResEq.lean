/- PRINTED by gen.py: what the functions answer, part 2. Not trusted: Lean checks it. -/
import Derived.Test.YthkpnlfnplhgnaaGreatDoorResEq1
set_option linter.unusedVariables false
set_option linter.unusedSimpArgs false
set_option maxRecDepth 100000
namespace Go.Proofs.YthkpnlfnplhgnaaGreatDoor.Sk
open Go
/-! ### aircraft_heights: skyway/aircraft.heights -/
def aircraft_heights.kp : List (Nat × List (Nat × Option (TypeId × Ty))) := [(5, [(1, none), (2, none), (15, none), (16, none), (17, none)]), (11, [(2, none), (28, none), (29, none), (30, none)])]
noncomputable def aircraft_heights.G (N : Nat) : List (Nat × Spec) := [(20, .pure (aircraft_Check.S N))]
noncomputable def aircraft_heights.E (N : Nat) : Env := mkEnv (aircraft_heights.G N) N tyTab aircraft_heights.kp
noncomputable def aircraft_heights.fn (N : Nat) (x : (ByteArray × Int × Int × Int × Int × Int × Int) × List Int) : Option Int := evFn (aircraft_heights.E N) Tryz.prog 3 Tryz.f88 false [.agg (.pair (.str) (.pair (.int .i64) (.pair (.int .i64) (.pair (.int .i64) (.pair (.int .i64) (.pair (.int .i64) (.int .i64))))))), .cell (.sl 3 (.int .i64))] [.val (.cell (.int .i64))] x
noncomputable def aircraft_heights.S (N : Nat) : PSpec := ⟨false, [.agg (.pair (.str) (.pair (.int .i64) (.pair (.int .i64) (.pair (.int .i64) (.pair (.int .i64) (.pair (.int .i64) (.int .i64))))))), .cell (.sl 3 (.int .i64))], [.val (.cell (.int .i64))], aircraft_heights.fn N⟩
theorem f88_enters : Enters Tryz.prog 88 := ⟨Tryz.f88, Tryz.func88, by kernel_rfl, by kernel_rfl⟩
theorem aircraft_heights.tab (N : Nat) : TabOk Tryz.prog (aircraft_heights.G N) := ⟨⟨aircraft_Check.enters, aircraft_Check.sound N⟩, trivial⟩
theorem aircraft_heights.enters : Enters Tryz.prog 88 := f88_enters
theorem aircraft_heights.sound (N : Nat) : Sound Tryz.prog 88 (aircraft_heights.S N) := evFn_sound (specs_tab (aircraft_heights.tab N)) (inls_tab (aircraft_heights.tab N)) mixed 3 Tryz.func88 _ _ _
noncomputable def aircraft_heights.cd (N : Nat) (p : List Nat) : St → (Ex → St → Option Int) → Option Int := ev (aircraft_heights.E N) Tryz.prog (callD (aircraft_heights.E N) Tryz.prog 3) 0 (codeAt (bodyOf Tryz.f88) p)
noncomputable def aircraft_heights.fin : Ex → St → Option Int := endK Tryz.prog Tryz.f88 [.val (.cell (.int .i64))]
noncomputable def aircraft_heights.l0 (N : Nat) (x0 : ByteArray × Int × Int × Int × Int × Int × Int) (x1 : List Int) (k2 : Nat) (a3 : Int) : Option Int :=
  loopN (norm ((aircraft_heights.E N).keep 5) 0) (aircraft_heights.cd N [1, 1, 0, 1, 0, 0]) k2
  ⟨[.any, .ros false 3 (.int .i64) x1, .ptr 0 0, .any, .any, .any, .any, .any, .any, .any, .any, .any, .any, .any, .any, .ros false 3 (.int .i64) x1, .sc (.int .i64 (x1.length : Int)), .sc (.int .i64 a3), .any, .any, .any, .any, .any, .any, .any, .any, .any, .any, .any, .any, .any, .any, .any, .any, .any, .any, .any, .any, .any], [.cells [.sc (.string x0.1), .sc (.int .i64 x0.2.1), .sc (.int .i64 x0.2.2.1), .sc (.int .i64 x0.2.2.2.1), .sc (.int .i64 x0.2.2.2.2.1), .sc (.int .i64 x0.2.2.2.2.2.1), .sc (.int .i64 x0.2.2.2.2.2.2)] 36]⟩
  (blockK 0 (seqK (aircraft_heights.cd N [1, 1, 1]) aircraft_heights.fin))
noncomputable def aircraft_heights.l1 (N : Nat) (x0 : ByteArray × Int × Int × Int × Int × Int × Int) (x1 : List Int) (k4 : Nat) (a5 : Int) : Option Int :=
  loopN (norm ((aircraft_heights.E N).keep 11) 0) (aircraft_heights.cd N [1, 1, 1, 0, 1, 0, 0]) k4
  ⟨[.any, .any, .ptr 0 0, .any, .any, .any, .any, .any, .any, .any, .any, .any, .any, .any, .any, .any, .any, .any, .any, .any, .any, .any, .any, .any, .any, .any, .any, .any, .ros false 3 (.int .i64) x1, .sc (.int .i64 (x1.length : Int)), .sc (.int .i64 a5), .any, .any, .any, .any, .any, .any, .any, .any], [.cells [.sc (.string x0.1), .sc (.int .i64 x0.2.1), .sc (.int .i64 x0.2.2.1), .sc (.int .i64 x0.2.2.2.1), .sc (.int .i64 x0.2.2.2.2.1), .sc (.int .i64 x0.2.2.2.2.2.1), .sc (.int .i64 x0.2.2.2.2.2.2)] 36]⟩
  (blockK 2 (seqK (aircraft_heights.cd N [1, 1, 1, 1]) aircraft_heights.fin))
theorem aircraft_heights.l1_zero (N : Nat) (x0 : ByteArray × Int × Int × Int × Int × Int × Int) (x1 : List Int) (a5 : Int) : aircraft_heights.l1 N x0 x1 0 a5 = none := by kernel_rfl
theorem aircraft_heights.l1_succ (N : Nat) (x0 : ByteArray × Int × Int × Int × Int × Int × Int) (x1 : List Int) (k4 : Nat) (a5 : Int) : aircraft_heights.l1 N x0 x1 (k4 + 1) a5 =
    bif decide (a5 < (x1.length : Int)) then
      bif (decide (0 ≤ a5)) && (decide (a5 < (x1.length : Int))) then
        bif decide ((List.getD x1 (Int.toNat a5) 0) > x0.2.2.1) then
          some 20
        else
          aircraft_heights.l1 N x0 x1 k4 (w (a5 + 1))
      else
        none
    else
      some 0 := by kernel_rfl
theorem aircraft_heights.l0_zero (N : Nat) (x0 : ByteArray × Int × Int × Int × Int × Int × Int) (x1 : List Int) (a3 : Int) : aircraft_heights.l0 N x0 x1 0 a3 = none := by kernel_rfl
theorem aircraft_heights.l0_succ (N : Nat) (x0 : ByteArray × Int × Int × Int × Int × Int × Int) (x1 : List Int) (k2 : Nat) (a3 : Int) : aircraft_heights.l0 N x0 x1 (k2 + 1) a3 =
    bif decide (a3 < (x1.length : Int)) then
      bif (decide (0 ≤ a3)) && (decide (a3 < (x1.length : Int))) then
        bif !(!(decide ((List.getD x1 (Int.toNat a3) 0) < 0))) || (!(decide ((List.getD x1 (Int.toNat a3) 0) < 0))) then
          bif (decide ((List.getD x1 (Int.toNat a3) 0) < 0)) || (!(decide ((List.getD x1 (Int.toNat a3) 0) < 0))) then
            bif (decide ((List.getD x1 (Int.toNat a3) 0) < 0)) || (decide ((List.getD x1 (Int.toNat a3) 0) > 60000)) then
              some 4
            else
              aircraft_heights.l0 N x0 x1 k2 (w (a3 + 1))
          else
            none
        else
          none
      else
        none
    else
      aircraft_heights.l1 N x0 x1 N 0 := by kernel_rfl
theorem aircraft_heights.l0_clean (N : Nat) (x0 : ByteArray × Int × Int × Int × Int × Int × Int) (x1 : List Int) (k2 : Nat) (a3 : Int) : aircraft_heights.l0 N x0 x1 (k2 + 1) a3 =
    bif decide (a3 < (x1.length : Int)) then
      bif (decide (0 ≤ a3)) && (decide (a3 < (x1.length : Int))) then
        bif (decide ((List.getD x1 (Int.toNat a3) 0) < 0)) || (decide ((List.getD x1 (Int.toNat a3) 0) > 60000)) then
          some 4
        else
          aircraft_heights.l0 N x0 x1 k2 (w (a3 + 1))
      else
        none
    else
      aircraft_heights.l1 N x0 x1 N 0 := by
  rw [aircraft_heights.l0_succ]; simp only [taut3, taut6, cond_true]
theorem aircraft_heights.l1_cons (N : Nat) (x0 : ByteArray × Int × Int × Int × Int × Int × Int) (x1 : List Int) (k4 : Nat) {pre r} {x} (hl : x1 = pre ++ x :: r) (hb : x1.length < 4611686018427387904) : aircraft_heights.l1 N x0 x1 (k4 + 1) (pre.length : Int) =
    bif decide (x > x0.2.2.1) then
      some 20
    else
      aircraft_heights.l1 N x0 x1 k4 ((pre.length : Int) + 1) := by
  have hlen : x1.length = pre.length + 1 + r.length := by rw [hl]; simp; omega
  have e1 : decide ((pre.length : Int) < (x1.length : Int)) = true := by rw [decide_eq_true_iff]; omega
  have e2 : decide (0 ≤ (pre.length : Int)) = true := by rw [decide_eq_true_iff]; omega
  have e4 : w ((pre.length : Int) + 1) = (pre.length : Int) + 1 := w_next hl hb
  have e5 : List.take pre.length x1 = pre := by rw [hl]; simp
  have e6 : decide ((pre.length : Int) ≤ (x1.length : Int)) = true := by rw [decide_eq_true_iff]; omega
  have g0 : List.getD x1 pre.length 0 = x := by rw [hl]; exact getD_mid pre x r _
  rw [aircraft_heights.l1_succ]
  simp -implicitDefEqProofs only [Int.toNat_natCast, e1, e2, e4, e6, g0, e5, Bool.and_true, Bool.true_and, Bool.true_or, cond_true]
theorem aircraft_heights.l1_nil (N : Nat) (x0 : ByteArray × Int × Int × Int × Int × Int × Int) (x1 : List Int) (k4 : Nat) : aircraft_heights.l1 N x0 x1 (k4 + 1) (x1.length : Int) =
    some 0 := by
  have e1 : decide ((x1.length : Int) < (x1.length : Int)) = false := by rw [decide_eq_false_iff_not]; omega
  rw [aircraft_heights.l1_succ]
  simp -implicitDefEqProofs only [e1, cond_false]
theorem aircraft_heights.l0_cons (N : Nat) (x0 : ByteArray × Int × Int × Int × Int × Int × Int) (x1 : List Int) (k2 : Nat) {pre r} {x} (hl : x1 = pre ++ x :: r) (hb : x1.length < 4611686018427387904) : aircraft_heights.l0 N x0 x1 (k2 + 1) (pre.length : Int) =
    bif (decide (x < 0)) || (decide (x > 60000)) then
      some 4
    else
      aircraft_heights.l0 N x0 x1 k2 ((pre.length : Int) + 1) := by
  have hlen : x1.length = pre.length + 1 + r.length := by rw [hl]; simp; omega
  have e1 : decide ((pre.length : Int) < (x1.length : Int)) = true := by rw [decide_eq_true_iff]; omega
  have e2 : decide (0 ≤ (pre.length : Int)) = true := by rw [decide_eq_true_iff]; omega
  have e4 : w ((pre.length : Int) + 1) = (pre.length : Int) + 1 := w_next hl hb
  have e5 : List.take pre.length x1 = pre := by rw [hl]; simp
  have e6 : decide ((pre.length : Int) ≤ (x1.length : Int)) = true := by rw [decide_eq_true_iff]; omega
  have g0 : List.getD x1 pre.length 0 = x := by rw [hl]; exact getD_mid pre x r _
  rw [aircraft_heights.l0_clean]
  simp -implicitDefEqProofs only [Int.toNat_natCast, e1, e2, e4, e6, g0, e5, Bool.and_true, Bool.true_and, Bool.true_or, cond_true]
theorem aircraft_heights.l0_nil (N : Nat) (x0 : ByteArray × Int × Int × Int × Int × Int × Int) (x1 : List Int) (k2 : Nat) : aircraft_heights.l0 N x0 x1 (k2 + 1) (x1.length : Int) =
    aircraft_heights.l1 N x0 x1 N 0 := by
  have e1 : decide ((x1.length : Int) < (x1.length : Int)) = false := by rw [decide_eq_false_iff_not]; omega
  rw [aircraft_heights.l0_clean]
  simp -implicitDefEqProofs only [e1, cond_false]
theorem aircraft_heights.eq (N : Nat) (x0 : ByteArray × Int × Int × Int × Int × Int × Int) (x1 : List Int) : aircraft_heights.fn N (x0, x1) =
    (aircraft_Check.fn N x0).bind fun r1 =>
    bif !(r1 == 0) then
      some r1
    else
      aircraft_heights.l0 N x0 x1 N 0 := by kernel_rfl

/-! ### aircraft_Climb: skyway/aircraft.Climb -/
def aircraft_Climb.kp : List (Nat × List (Nat × Option (TypeId × Ty))) := []
noncomputable def aircraft_Climb.G (N : Nat) : List (Nat × Spec) := [(59, .pure (num_DivUp.S N)), (88, .pure (aircraft_heights.S N))]
noncomputable def aircraft_Climb.E (N : Nat) : Env := mkEnv (aircraft_Climb.G N) N tyTab aircraft_Climb.kp
noncomputable def aircraft_Climb.fn (N : Nat) (x : (ByteArray × Int × Int × Int × Int × Int × Int) × Int × Int) : Option (Int × Int) := evFn (aircraft_Climb.E N) Tryz.prog 3 Tryz.f68 false [.agg (.pair (.str) (.pair (.int .i64) (.pair (.int .i64) (.pair (.int .i64) (.pair (.int .i64) (.pair (.int .i64) (.int .i64))))))), .cell (.int .i64), .cell (.int .i64)] [.val (.cell (.int .i64)), .val (.cell (.int .i64))] x
noncomputable def aircraft_Climb.S (N : Nat) : PSpec := ⟨false, [.agg (.pair (.str) (.pair (.int .i64) (.pair (.int .i64) (.pair (.int .i64) (.pair (.int .i64) (.pair (.int .i64) (.int .i64))))))), .cell (.int .i64), .cell (.int .i64)], [.val (.cell (.int .i64)), .val (.cell (.int .i64))], aircraft_Climb.fn N⟩
theorem f68_enters : Enters Tryz.prog 68 := ⟨Tryz.f68, Tryz.func68, by kernel_rfl, by kernel_rfl⟩
theorem aircraft_Climb.tab (N : Nat) : TabOk Tryz.prog (aircraft_Climb.G N) := ⟨⟨num_DivUp.enters, num_DivUp.sound N⟩, ⟨aircraft_heights.enters, aircraft_heights.sound N⟩, trivial⟩
theorem aircraft_Climb.enters : Enters Tryz.prog 68 := f68_enters
theorem aircraft_Climb.sound (N : Nat) : Sound Tryz.prog 68 (aircraft_Climb.S N) := evFn_sound (specs_tab (aircraft_Climb.tab N)) (inls_tab (aircraft_Climb.tab N)) mixed 3 Tryz.func68 _ _ _
theorem aircraft_Climb.eq (N : Nat) (x0 : ByteArray × Int × Int × Int × Int × Int × Int) (x1 : Int) (x2 : Int) : aircraft_Climb.fn N (x0, x1, x2) =
    (aircraft_heights.fn N (x0, [x1, x2])).bind fun r1 =>
    bif !(r1 == 0) then
      some (0, r1)
    else
    bif decide (x2 ≥ x1) then
      (num_DivUp.fn N ((w (x2 - x1)), x0.2.2.2.1)).bind fun r2 =>
      some (r2.1, r2.2)
    else
      (num_DivUp.fn N ((w (x1 - x2)), x0.2.2.2.2.1)).bind fun r3 =>
      some (r3.1, r3.2) := by kernel_rfl

/-! ### effect_course_climb_1: (skyway/effect.course).climb$1 -/
def effect_course_climb_1.kp : List (Nat × List (Nat × Option (TypeId × Ty))) := []
noncomputable def effect_course_climb_1.G (N : Nat) : List (Nat × Spec) := []
noncomputable def effect_course_climb_1.E (N : Nat) : Env := mkEnv (effect_course_climb_1.G N) N tyTab effect_course_climb_1.kp
noncomputable def effect_course_climb_1.fn (N : Nat) (x : ((Int × (Int × Int) × Int) × Int × Int) × Int) : Option Int := evFn (effect_course_climb_1.E N) Tryz.prog 3 Tryz.f70 false [.agg (.pair (.pair (.int .i64) (.pair (.pair (.int .i64) (.int .i64)) (.int .i64))) (.pair (.int .i64) (.int .i64))), .cell (.int .i64)] [.val (.cell (.int .i64))] x
noncomputable def effect_course_climb_1.S (N : Nat) : PSpec := ⟨false, [.agg (.pair (.pair (.int .i64) (.pair (.pair (.int .i64) (.int .i64)) (.int .i64))) (.pair (.int .i64) (.int .i64))), .cell (.int .i64)], [.val (.cell (.int .i64))], effect_course_climb_1.fn N⟩
theorem f70_enters : Enters Tryz.prog 70 := ⟨Tryz.f70, Tryz.func70, by kernel_rfl, by kernel_rfl⟩
theorem effect_course_climb_1.tab (N : Nat) : TabOk Tryz.prog (effect_course_climb_1.G N) := trivial
theorem effect_course_climb_1.enters : Enters Tryz.prog 70 := f70_enters
theorem effect_course_climb_1.sound (N : Nat) : Sound Tryz.prog 70 (effect_course_climb_1.S N) := evFn_sound (specs_tab (effect_course_climb_1.tab N)) (inls_tab (effect_course_climb_1.tab N)) mixed 3 Tryz.func70 _ _ _
theorem effect_course_climb_1.eq (N : Nat) (x0 : (Int × (Int × Int) × Int) × Int × Int) (x1 : Int) : effect_course_climb_1.fn N (x0, x1) =
    some (w (x0.1.1 - x1)) := by kernel_rfl

/-! ### slices_Clone_TubeNode: slices.Clone[skyway/api.Tube,skyway/api.TubeNode] -/
def slices_Clone_TubeNode.kp : List (Nat × List (Nat × Option (TypeId × Ty))) := []
noncomputable def slices_Clone_TubeNode.G (N : Nat) : List (Nat × Spec) := []
noncomputable def slices_Clone_TubeNode.E (N : Nat) : Env := mkEnv (slices_Clone_TubeNode.G N) N tyTab slices_Clone_TubeNode.kp
noncomputable def slices_Clone_TubeNode.fn (N : Nat) (x : List ((Int × (Int × Int) × Int) × Int × Int)) : Option (List ((Int × (Int × Int) × Int) × Int × Int)) := evFn (slices_Clone_TubeNode.E N) Tryz.prog 3 Tryz.f51 false [.cell (.sl 58 (.pair (.pair (.int .i64) (.pair (.pair (.int .i64) (.int .i64)) (.int .i64))) (.pair (.int .i64) (.int .i64))))] [.own 58 (.pair (.pair (.int .i64) (.pair (.pair (.int .i64) (.int .i64)) (.int .i64))) (.pair (.int .i64) (.int .i64)))] x
noncomputable def slices_Clone_TubeNode.S (N : Nat) : PSpec := ⟨false, [.cell (.sl 58 (.pair (.pair (.int .i64) (.pair (.pair (.int .i64) (.int .i64)) (.int .i64))) (.pair (.int .i64) (.int .i64))))], [.own 58 (.pair (.pair (.int .i64) (.pair (.pair (.int .i64) (.int .i64)) (.int .i64))) (.pair (.int .i64) (.int .i64)))], slices_Clone_TubeNode.fn N⟩
theorem f51_enters : Enters Tryz.prog 51 := ⟨Tryz.f51, Tryz.func51, by kernel_rfl, by kernel_rfl⟩
theorem slices_Clone_TubeNode.tab (N : Nat) : TabOk Tryz.prog (slices_Clone_TubeNode.G N) := trivial
theorem slices_Clone_TubeNode.enters : Enters Tryz.prog 51 := f51_enters
theorem slices_Clone_TubeNode.sound (N : Nat) : Sound Tryz.prog 51 (slices_Clone_TubeNode.S N) := evFn_sound (specs_tab (slices_Clone_TubeNode.tab N)) (inls_tab (slices_Clone_TubeNode.tab N)) mixed 3 Tryz.func51 _ _ _
theorem slices_Clone_TubeNode.eq (N : Nat) (x0 : List ((Int × (Int × Int) × Int) × Int × Int)) : slices_Clone_TubeNode.fn N x0 =
    bif x0.isEmpty then
      agree (
        some []) (
        bif decide ((0 + x0.length) * 48 ≤ 140737488355328) && decide ((0 + x0.length) ≤ maxLen) then
          some x0
        else
          none)
    else
    bif decide ((0 + x0.length) * 48 ≤ 140737488355328) && decide ((0 + x0.length) ≤ maxLen) then
      some x0
    else
      none := by kernel_rfl
theorem slices_Clone_TubeNode.v (N : Nat) (x0 : List ((Int × (Int × Int) × Int) × Int × Int)) (h : x0.length * 48 ≤ 140737488355328) : slices_Clone_TubeNode.fn N x0 = some x0 := clone_v (B := 48) (slices_Clone_TubeNode.eq N x0) (by omega) h

/-! ### effect_down: skyway/effect.down -/
def effect_down.kp : List (Nat × List (Nat × Option (TypeId × Ty))) := []
noncomputable def effect_down.G (N : Nat) : List (Nat × Spec) := []
noncomputable def effect_down.E (N : Nat) : Env := mkEnv (effect_down.G N) N tyTab effect_down.kp
noncomputable def effect_down.fn (N : Nat) (x : Int × Int) : Option Int := evFn (effect_down.E N) Tryz.prog 3 Tryz.f72 false [.cell (.int .i64), .cell (.int .i64)] [.val (.cell (.int .i64))] x
noncomputable def effect_down.S (N : Nat) : PSpec := ⟨false, [.cell (.int .i64), .cell (.int .i64)], [.val (.cell (.int .i64))], effect_down.fn N⟩
theorem f72_enters : Enters Tryz.prog 72 := ⟨Tryz.f72, Tryz.func72, by kernel_rfl, by kernel_rfl⟩
theorem effect_down.tab (N : Nat) : TabOk Tryz.prog (effect_down.G N) := trivial
theorem effect_down.enters : Enters Tryz.prog 72 := f72_enters
theorem effect_down.sound (N : Nat) : Sound Tryz.prog 72 (effect_down.S N) := evFn_sound (specs_tab (effect_down.tab N)) (inls_tab (effect_down.tab N)) mixed 3 Tryz.func72 _ _ _
theorem effect_down.eq (N : Nat) (x0 : Int) (x1 : Int) : effect_down.fn N (x0, x1) =
    bif x1 != 0 then
      bif x1 != 0 then
        bif decide ((Int.tmod x0 x1) < 0) then
          some (w ((w (Int.tdiv x0 x1)) - 1))
        else
          some (w (Int.tdiv x0 x1))
      else
        none
    else
      none := by kernel_rfl

/-! ### effect_course_speed: (skyway/effect.course).speed -/
def effect_course_speed.kp : List (Nat × List (Nat × Option (TypeId × Ty))) := []
noncomputable def effect_course_speed.G (N : Nat) : List (Nat × Spec) := [(35, .pure (plane_Distance.S N))]
noncomputable def effect_course_speed.E (N : Nat) : Env := mkEnv (effect_course_speed.G N) N tyTab effect_course_speed.kp
noncomputable def effect_course_speed.fn (N : Nat) (x : ((Int × (Int × Int) × Int) × Int × Int) × List ((Int × (Int × Int) × Int) × Int × Int) × List ((Int × (Int × Int) × Int) × Int × Int)) : Option Int := evFn (effect_course_speed.E N) Tryz.prog 3 Tryz.f73 false [.agg (.pair (.pair (.pair (.int .i64) (.pair (.pair (.int .i64) (.int .i64)) (.int .i64))) (.pair (.int .i64) (.int .i64))) (.pair (.sl 58 (.pair (.pair (.int .i64) (.pair (.pair (.int .i64) (.int .i64)) (.int .i64))) (.pair (.int .i64) (.int .i64)))) (.sl 58 (.pair (.pair (.int .i64) (.pair (.pair (.int .i64) (.int .i64)) (.int .i64))) (.pair (.int .i64) (.int .i64))))))] [.val (.cell (.int .i64))] x
noncomputable def effect_course_speed.S (N : Nat) : PSpec := ⟨false, [.agg (.pair (.pair (.pair (.int .i64) (.pair (.pair (.int .i64) (.int .i64)) (.int .i64))) (.pair (.int .i64) (.int .i64))) (.pair (.sl 58 (.pair (.pair (.int .i64) (.pair (.pair (.int .i64) (.int .i64)) (.int .i64))) (.pair (.int .i64) (.int .i64)))) (.sl 58 (.pair (.pair (.int .i64) (.pair (.pair (.int .i64) (.int .i64)) (.int .i64))) (.pair (.int .i64) (.int .i64))))))], [.val (.cell (.int .i64))], effect_course_speed.fn N⟩
theorem f73_enters : Enters Tryz.prog 73 := ⟨Tryz.f73, Tryz.func73, by kernel_rfl, by kernel_rfl⟩
theorem effect_course_speed.tab (N : Nat) : TabOk Tryz.prog (effect_course_speed.G N) := ⟨⟨plane_Distance.enters, plane_Distance.sound N⟩, trivial⟩
theorem effect_course_speed.enters : Enters Tryz.prog 73 := f73_enters
theorem effect_course_speed.sound (N : Nat) : Sound Tryz.prog 73 (effect_course_speed.S N) := evFn_sound (specs_tab (effect_course_speed.tab N)) (inls_tab (effect_course_speed.tab N)) mixed 3 Tryz.func73 _ _ _
theorem effect_course_speed.eq (N : Nat) (x0 : ((Int × (Int × Int) × Int) × Int × Int) × List ((Int × (Int × Int) × Int) × Int × Int) × List ((Int × (Int × Int) × Int) × Int × Int)) : effect_course_speed.fn N x0 =
    bif decide (0 < (x0.2.2.length : Int)) then
      (plane_Distance.fn N (x0.1.1.2.1, (((List.getD x0.2.2 0 ((0, ((0, 0), 0)), (0, 0))).1).2).1)).bind fun r1 =>
      bif decide (0 < (x0.2.2.length : Int)) then
        bif (w ((((List.getD x0.2.2 0 ((0, ((0, 0), 0)), (0, 0))).1).1) - x0.1.1.1)) != 0 then
          some (w (Int.tdiv r1.1 (w ((((List.getD x0.2.2 0 ((0, ((0, 0), 0)), (0, 0))).1).1) - x0.1.1.1))))
        else
          none
      else
        none
    else
      none := by kernel_rfl

/-! ### angle_scaled: skyway/angle.scaled -/
def angle_scaled.kp : List (Nat × List (Nat × Option (TypeId × Ty))) := []
noncomputable def angle_scaled.G (N : Nat) : List (Nat × Spec) := []
noncomputable def angle_scaled.E (N : Nat) : Env := mkEnv (angle_scaled.G N) N tyTab angle_scaled.kp
noncomputable def angle_scaled.fn (N : Nat) (x : Int × Int) : Option Int := evFn (angle_scaled.E N) Tryz.prog 3 Tryz.f91 false [.cell (.int .i64), .cell (.int .i64)] [.val (.cell (.int .i64))] x
noncomputable def angle_scaled.S (N : Nat) : PSpec := ⟨false, [.cell (.int .i64), .cell (.int .i64)], [.val (.cell (.int .i64))], angle_scaled.fn N⟩
theorem f91_enters : Enters Tryz.prog 91 := ⟨Tryz.f91, Tryz.func91, by kernel_rfl, by kernel_rfl⟩
theorem angle_scaled.tab (N : Nat) : TabOk Tryz.prog (angle_scaled.G N) := trivial
theorem angle_scaled.enters : Enters Tryz.prog 91 := f91_enters
theorem angle_scaled.sound (N : Nat) : Sound Tryz.prog 91 (angle_scaled.S N) := evFn_sound (specs_tab (angle_scaled.tab N)) (inls_tab (angle_scaled.tab N)) mixed 3 Tryz.func91 _ _ _
theorem angle_scaled.eq (N : Nat) (x0 : Int) (x1 : Int) : angle_scaled.fn N (x0, x1) =
    bif decide ((w (x0 * x1)) < 0) then
      some (w (-(w (Int.tdiv (w ((w (-(w (x0 * x1)))) + 8192)) 16384))))
    else
      some (w (Int.tdiv (w ((w (x0 * x1)) + 8192)) 16384)) := by kernel_rfl

/-! ### angle_Vector: skyway/angle.Vector -/
def angle_Vector.kp : List (Nat × List (Nat × Option (TypeId × Ty))) := []
noncomputable def angle_Vector.G (N : Nat) : List (Nat × Spec) := [(64, .pure (angle_Cos.S N)), (65, .pure (angle_Sin.S N)), (91, .pure (angle_scaled.S N))]
noncomputable def angle_Vector.E (N : Nat) : Env := mkEnv (angle_Vector.G N) N tyTab angle_Vector.kp
noncomputable def angle_Vector.fn (N : Nat) (x : Int × Int) : Option ((Int × Int) × Int) := evFn (angle_Vector.E N) Tryz.prog 3 Tryz.f74 false [.cell (.int .i64), .cell (.int .i64)] [.val (.agg (.pair (.int .i64) (.int .i64))), .val (.cell (.int .i64))] x
noncomputable def angle_Vector.S (N : Nat) : PSpec := ⟨false, [.cell (.int .i64), .cell (.int .i64)], [.val (.agg (.pair (.int .i64) (.int .i64))), .val (.cell (.int .i64))], angle_Vector.fn N⟩
theorem f74_enters : Enters Tryz.prog 74 := ⟨Tryz.f74, Tryz.func74, by kernel_rfl, by kernel_rfl⟩
theorem angle_Vector.tab (N : Nat) : TabOk Tryz.prog (angle_Vector.G N) := ⟨⟨angle_Cos.enters, angle_Cos.sound N⟩, ⟨angle_Sin.enters, angle_Sin.sound N⟩, ⟨angle_scaled.enters, angle_scaled.sound N⟩, trivial⟩
theorem angle_Vector.enters : Enters Tryz.prog 74 := f74_enters
theorem angle_Vector.sound (N : Nat) : Sound Tryz.prog 74 (angle_Vector.S N) := evFn_sound (specs_tab (angle_Vector.tab N)) (inls_tab (angle_Vector.tab N)) mixed 3 Tryz.func74 _ _ _
theorem angle_Vector.eq (N : Nat) (x0 : Int) (x1 : Int) : angle_Vector.fn N (x0, x1) =
    bif !(!(decide (x1 < 0))) || (!(decide (x1 < 0))) then
      bif (decide (x1 < 0)) || (!(decide (x1 < 0))) then
        bif (decide (x1 < 0)) || (decide (x1 > 2000000)) then
          some ((0, 0), 4)
        else
          (angle_Sin.fn N x0).bind fun r1 =>
          (angle_scaled.fn N (x1, r1)).bind fun r2 =>
          (angle_Cos.fn N x0).bind fun r3 =>
          (angle_scaled.fn N (x1, r3)).bind fun r4 =>
          some ((r2, r4), 0)
      else
        none
    else
      none := by kernel_rfl
theorem angle_Vector.clean (N : Nat) (x0 : Int) (x1 : Int) : angle_Vector.fn N (x0, x1) =
    bif (decide (x1 < 0)) || (decide (x1 > 2000000)) then
      some ((0, 0), 4)
    else
      (angle_Sin.fn N x0).bind fun r1 =>
      (angle_scaled.fn N (x1, r1)).bind fun r2 =>
      (angle_Cos.fn N x0).bind fun r3 =>
      (angle_scaled.fn N (x1, r3)).bind fun r4 =>
      some ((r2, r4), 0) := by
  rw [angle_Vector.eq]; simp only [taut3, taut6, cond_true]

/-! ### plane_Add: skyway/plane.Add -/
def plane_Add.kp : List (Nat × List (Nat × Option (TypeId × Ty))) := []
noncomputable def plane_Add.G (N : Nat) : List (Nat × Spec) := []
noncomputable def plane_Add.E (N : Nat) : Env := mkEnv (plane_Add.G N) N tyTab plane_Add.kp
noncomputable def plane_Add.fn (N : Nat) (x : (Int × Int) × Int × Int) : Option (Int × Int) := evFn (plane_Add.E N) Tryz.prog 3 Tryz.f75 false [.agg (.pair (.int .i64) (.int .i64)), .agg (.pair (.int .i64) (.int .i64))] [.val (.agg (.pair (.int .i64) (.int .i64)))] x
noncomputable def plane_Add.S (N : Nat) : PSpec := ⟨false, [.agg (.pair (.int .i64) (.int .i64)), .agg (.pair (.int .i64) (.int .i64))], [.val (.agg (.pair (.int .i64) (.int .i64)))], plane_Add.fn N⟩
theorem f75_enters : Enters Tryz.prog 75 := ⟨Tryz.f75, Tryz.func75, by kernel_rfl, by kernel_rfl⟩
theorem plane_Add.tab (N : Nat) : TabOk Tryz.prog (plane_Add.G N) := trivial
theorem plane_Add.enters : Enters Tryz.prog 75 := f75_enters
theorem plane_Add.sound (N : Nat) : Sound Tryz.prog 75 (plane_Add.S N) := evFn_sound (specs_tab (plane_Add.tab N)) (inls_tab (plane_Add.tab N)) mixed 3 Tryz.func75 _ _ _
theorem plane_Add.eq (N : Nat) (x0 : Int × Int) (x1 : Int × Int) : plane_Add.fn N (x0, x1) =
    some ((w (x0.1 + x1.1)), (w (x0.2 + x1.2))) := by kernel_rfl

/-! ### effect_up: skyway/effect.up -/
def effect_up.kp : List (Nat × List (Nat × Option (TypeId × Ty))) := []
noncomputable def effect_up.G (N : Nat) : List (Nat × Spec) := []
noncomputable def effect_up.E (N : Nat) : Env := mkEnv (effect_up.G N) N tyTab effect_up.kp
noncomputable def effect_up.fn (N : Nat) (x : Int × Int) : Option Int := evFn (effect_up.E N) Tryz.prog 3 Tryz.f76 false [.cell (.int .i64), .cell (.int .i64)] [.val (.cell (.int .i64))] x
noncomputable def effect_up.S (N : Nat) : PSpec := ⟨false, [.cell (.int .i64), .cell (.int .i64)], [.val (.cell (.int .i64))], effect_up.fn N⟩
theorem f76_enters : Enters Tryz.prog 76 := ⟨Tryz.f76, Tryz.func76, by kernel_rfl, by kernel_rfl⟩
theorem effect_up.tab (N : Nat) : TabOk Tryz.prog (effect_up.G N) := trivial
theorem effect_up.enters : Enters Tryz.prog 76 := f76_enters
theorem effect_up.sound (N : Nat) : Sound Tryz.prog 76 (effect_up.S N) := evFn_sound (specs_tab (effect_up.tab N)) (inls_tab (effect_up.tab N)) mixed 3 Tryz.func76 _ _ _
theorem effect_up.eq (N : Nat) (x0 : Int) (x1 : Int) : effect_up.fn N (x0, x1) =
    bif x1 != 0 then
      some (if (w (Int.tdiv (w ((w (x0 + x1)) - 1)) x1)) > 1 then (w (Int.tdiv (w ((w (x0 + x1)) - 1)) x1)) else 1)
    else
      none := by kernel_rfl

/-! ### resolve_Best: skyway/resolve.Best -/
def resolve_Best.kp : List (Nat × List (Nat × Option (TypeId × Ty))) := [(10, [(0, none), (1, none), (4, none), (8, none), (11, none), (12, none), (54, none), (55, none), (56, none)])]
noncomputable def resolve_Best.G (N : Nat) : List (Nat × Spec) := [(10, .pure (resolve_Candidates.S N)), (15, .pure (resolve_check.S N)), (16, .pure (resolve_free.S N))]
noncomputable def resolve_Best.E (N : Nat) : Env := mkEnv (resolve_Best.G N) N tyTab resolve_Best.kp
noncomputable def resolve_Best.fn (N : Nat) (x : List (List ((Int × (Int × Int) × Int) × Int × Int)) × Int × (Int × Int) × ByteArray × Int × ByteArray × Int × Int × Int × Int × Int × Int) : Option ((ByteArray × Int × Int × ByteArray) × List ((Int × (Int × Int) × Int) × Int × Int) × Int) := evFn (resolve_Best.E N) Tryz.prog 3 Tryz.f13 false [.cell (.sl 32 (.sl 58 (.pair (.pair (.int .i64) (.pair (.pair (.int .i64) (.int .i64)) (.int .i64))) (.pair (.int .i64) (.int .i64))))), .cell (.int .i64), .agg (.pair (.int .i64) (.int .i64)), .cell (.str), .cell (.int .i64), .agg (.pair (.str) (.pair (.int .i64) (.pair (.int .i64) (.pair (.int .i64) (.pair (.int .i64) (.pair (.int .i64) (.int .i64)))))))] [.val (.agg (.pair (.str) (.pair (.int .i64) (.pair (.int .i64) (.str))))), .own 58 (.pair (.pair (.int .i64) (.pair (.pair (.int .i64) (.int .i64)) (.int .i64))) (.pair (.int .i64) (.int .i64))), .val (.cell (.int .i64))] x
noncomputable def resolve_Best.S (N : Nat) : PSpec := ⟨false, [.cell (.sl 32 (.sl 58 (.pair (.pair (.int .i64) (.pair (.pair (.int .i64) (.int .i64)) (.int .i64))) (.pair (.int .i64) (.int .i64))))), .cell (.int .i64), .agg (.pair (.int .i64) (.int .i64)), .cell (.str), .cell (.int .i64), .agg (.pair (.str) (.pair (.int .i64) (.pair (.int .i64) (.pair (.int .i64) (.pair (.int .i64) (.pair (.int .i64) (.int .i64)))))))], [.val (.agg (.pair (.str) (.pair (.int .i64) (.pair (.int .i64) (.str))))), .own 58 (.pair (.pair (.int .i64) (.pair (.pair (.int .i64) (.int .i64)) (.int .i64))) (.pair (.int .i64) (.int .i64))), .val (.cell (.int .i64))], resolve_Best.fn N⟩
theorem f13_enters : Enters Tryz.prog 13 := ⟨Tryz.f13, Tryz.func13, by kernel_rfl, by kernel_rfl⟩
theorem resolve_Best.tab (N : Nat) : TabOk Tryz.prog (resolve_Best.G N) := ⟨⟨resolve_Candidates.enters, resolve_Candidates.sound N⟩, ⟨resolve_check.enters, resolve_check.sound N⟩, ⟨resolve_free.enters, resolve_free.sound N⟩, trivial⟩
theorem resolve_Best.enters : Enters Tryz.prog 13 := f13_enters
theorem resolve_Best.sound (N : Nat) : Sound Tryz.prog 13 (resolve_Best.S N) := evFn_sound (specs_tab (resolve_Best.tab N)) (inls_tab (resolve_Best.tab N)) mixed 3 Tryz.func13 _ _ _
noncomputable def resolve_Best.cd (N : Nat) (p : List Nat) : St → (Ex → St → Option ((ByteArray × Int × Int × ByteArray) × List ((Int × (Int × Int) × Int) × Int × Int) × Int)) → Option ((ByteArray × Int × Int × ByteArray) × List ((Int × (Int × Int) × Int) × Int × Int) × Int) := ev (resolve_Best.E N) Tryz.prog (callD (resolve_Best.E N) Tryz.prog 3) 0 (codeAt (bodyOf Tryz.f13) p)
noncomputable def resolve_Best.fin : Ex → St → Option ((ByteArray × Int × Int × ByteArray) × List ((Int × (Int × Int) × Int) × Int × Int) × Int) := endK Tryz.prog Tryz.f13 [.val (.agg (.pair (.str) (.pair (.int .i64) (.pair (.int .i64) (.str))))), .own 58 (.pair (.pair (.int .i64) (.pair (.pair (.int .i64) (.int .i64)) (.int .i64))) (.pair (.int .i64) (.int .i64))), .val (.cell (.int .i64))]
noncomputable def resolve_Best.l0 (N : Nat) (x0 : List (List ((Int × (Int × Int) × Int) × Int × Int))) (x1 : Int) (x2 : Int × Int) (x4 : Int) (x5 : ByteArray × Int × Int × Int × Int × Int × Int) (r2 : List (ByteArray × Int × Int × ByteArray) × Int) (k4 : Nat) : Option ((ByteArray × Int × Int × ByteArray) × List ((Int × (Int × Int) × Int) × Int × Int) × Int) :=
  loopN (norm ((resolve_Best.E N).keep 10) 0) (resolve_Best.cd N [1, 1, 1, 1, 1, 0, 1, 0, 0]) k4
  ⟨[.ros false 32 (.sl 58 (.pair (.pair (.int .i64) (.pair (.pair (.int .i64) (.int .i64)) (.int .i64))) (.pair (.int .i64) (.int .i64)))) x0, .sc (.int .i64 x1), .any, .any, .sc (.int .i64 x4), .any, .any, .any, .ptr 0 0, .any, .any, .ptr 1 0, .ptr 2 0, .any, .any, .any, .any, .any, .any, .any, .any, .any, .any, .any, .any, .any, .any, .any, .any, .any, .any, .any, .any, .any, .any, .any, .any, .any, .any, .any, .any, .any, .any, .any, .any, .any, .any, .any, .any, .any, .any, .any, .any, .any, .own 3, .sc (.int .i64 (r2.1.length : Int)), .sc (.int .i64 0), .any, .any, .any, .any, .any, .any, .any, .any, .any, .any, .any, .any, .any, .any, .any, .any, .any, .any, .any, .any, .any, .any, .any, .any, .any, .any, .any, .any], [.cells [.sc (.int .i64 x2.1), .sc (.int .i64 x2.2)] 24, .cells [.sc (.string x5.1), .sc (.int .i64 x5.2.1), .sc (.int .i64 x5.2.2.1), .sc (.int .i64 x5.2.2.2.1), .sc (.int .i64 x5.2.2.2.2.1), .sc (.int .i64 x5.2.2.2.2.2.1), .sc (.int .i64 x5.2.2.2.2.2.2)] 36, .cells [.sc (.string (⟨#[]⟩ : ByteArray)), .sc (.int .i64 0), .sc (.int .i64 0), .sc (.string (⟨#[]⟩ : ByteArray))] 44, .rows true 44 (.pair (.str) (.pair (.int .i64) (.pair (.int .i64) (.str)))) r2.1]⟩
  (blockK 0 (seqK (resolve_Best.cd N [1, 1, 1, 1, 1, 1]) resolve_Best.fin))
theorem resolve_Best.l0_zero (N : Nat) (x0 : List (List ((Int × (Int × Int) × Int) × Int × Int))) (x1 : Int) (x2 : Int × Int) (x4 : Int) (x5 : ByteArray × Int × Int × Int × Int × Int × Int) (r2 : List (ByteArray × Int × Int × ByteArray) × Int) : resolve_Best.l0 N x0 x1 x2 x4 x5 r2 0 = none := by kernel_rfl
theorem resolve_Best.l0_succ (N : Nat) (x0 : List (List ((Int × (Int × Int) × Int) × Int × Int))) (x1 : Int) (x2 : Int × Int) (x4 : Int) (x5 : ByteArray × Int × Int × Int × Int × Int × Int) (r2 : List (ByteArray × Int × Int × ByteArray) × Int) (k4 : Nat) : resolve_Best.l0 N x0 x1 x2 x4 x5 r2 (k4 + 1) =
    bif decide (0 < (r2.1.length : Int)) then
      bif decide (0 < (r2.1.length : Int)) then
        bif decide (0 < r2.1.length) then
          bif (decide (0 ≤ x1)) && (decide (x1 < (x0.length : Int))) then
            none
          else
            none
        else
          none
      else
        none
    else
      some (((⟨#[]⟩ : ByteArray), (0, (0, (⟨#[]⟩ : ByteArray)))), [], 8) := by kernel_rfl
theorem resolve_Best.eq (N : Nat) (x0 : List (List ((Int × (Int × Int) × Int) × Int × Int))) (x1 : Int) (x2 : Int × Int) (x3 : ByteArray) (x4 : Int) (x5 : ByteArray × Int × Int × Int × Int × Int × Int) : resolve_Best.fn N (x0, x1, x2, x3, x4, x5) =
    (resolve_check.fn N (x0, x1, x2)).bind fun r1 =>
    bif !(r1 == 0) then
      some (((⟨#[]⟩ : ByteArray), (0, (0, (⟨#[]⟩ : ByteArray)))), [], r1)
    else
    bif (decide (0 ≤ x1)) && (decide (x1 < (x0.length : Int))) then
      (resolve_Candidates.fn N (x3, (List.getD x0 (Int.toNat x1) []), x4, x5)).bind fun r2 =>
      bif !(r2.2 == 0) then
        some (((⟨#[]⟩ : ByteArray), (0, (0, (⟨#[]⟩ : ByteArray)))), [], r2.2)
      else
      bif (decide (0 ≤ x1)) && (decide (x1 < (x0.length : Int))) then
        (resolve_free.fn N (x0, x1, (List.getD x0 (Int.toNat x1) []), x2)).bind fun r3 =>
        bif r3 then
          some (((⟨#[]⟩ : ByteArray), (0, (0, (⟨#[]⟩ : ByteArray)))), [], 11)
        else
          resolve_Best.l0 N x0 x1 x2 x4 x5 r2 N
      else
        none
    else
      none := by kernel_rfl

/-! ### law_climbed: skyway/skywaylaw3.climbed -/
def law_climbed.kp : List (Nat × List (Nat × Option (TypeId × Ty))) := []
noncomputable def law_climbed.G (N : Nat) : List (Nat × Spec) := []
noncomputable def law_climbed.E (N : Nat) : Env := mkEnv (law_climbed.G N) N tyTab law_climbed.kp
noncomputable def law_climbed.fn (N : Nat) (x : Int) : Option (ByteArray × Int × Int × ByteArray) := evFn (law_climbed.E N) Tryz.prog 3 Tryz.f14 false [.cell (.int .i64)] [.val (.agg (.pair (.str) (.pair (.int .i64) (.pair (.int .i64) (.str)))))] x
noncomputable def law_climbed.S (N : Nat) : PSpec := ⟨false, [.cell (.int .i64)], [.val (.agg (.pair (.str) (.pair (.int .i64) (.pair (.int .i64) (.str)))))], law_climbed.fn N⟩
theorem f14_enters : Enters Tryz.prog 14 := ⟨Tryz.f14, Tryz.func14, by kernel_rfl, by kernel_rfl⟩
theorem law_climbed.tab (N : Nat) : TabOk Tryz.prog (law_climbed.G N) := trivial
theorem law_climbed.enters : Enters Tryz.prog 14 := f14_enters
theorem law_climbed.sound (N : Nat) : Sound Tryz.prog 14 (law_climbed.S N) := evFn_sound (specs_tab (law_climbed.tab N)) (inls_tab (law_climbed.tab N)) mixed 3 Tryz.func14 _ _ _
theorem law_climbed.eq (N : Nat) (x0 : Int) : law_climbed.fn N x0 =
    some ((⟨#[65, 49]⟩ : ByteArray), (0, (x0, (⟨#[]⟩ : ByteArray)))) := by kernel_rfl

/-! ### law_resolveFact: skyway/skywaylaw3.resolveFact -/
def law_resolveFact.kp : List (Nat × List (Nat × Option (TypeId × Ty))) := [(999999, [(0, none)])]
noncomputable def law_resolveFact.G (N : Nat) : List (Nat × Spec) := [(5, .pure (resolve_Free.S N)), (8, .pure (law_level.S N)), (9, .pure (law_jet.S N)), (10, .pure (resolve_Candidates.S N)), (11, .pure (law_still.S N)), (12, .pure (law_near.S N)), (13, .pure (resolve_Best.S N)), (14, .pure (law_climbed.S N))]
noncomputable def law_resolveFact.E (N : Nat) : Env := mkEnv (law_resolveFact.G N) N tyTab law_resolveFact.kp
noncomputable def law_resolveFact.fn (N : Nat) (x : Unit) : Option Bool := evFn (law_resolveFact.E N) Tryz.prog 3 Tryz.f4 false [] [.val (.cell (.bool))] x
noncomputable def law_resolveFact.S (N : Nat) : PSpec := ⟨false, [], [.val (.cell (.bool))], law_resolveFact.fn N⟩
theorem f4_enters : Enters Tryz.prog 4 := ⟨Tryz.f4, Tryz.func4, by kernel_rfl, by kernel_rfl⟩
theorem law_resolveFact.tab (N : Nat) : TabOk Tryz.prog (law_resolveFact.G N) := ⟨⟨resolve_Free.enters, resolve_Free.sound N⟩, ⟨law_level.enters, law_level.sound N⟩, ⟨law_jet.enters, law_jet.sound N⟩, ⟨resolve_Candidates.enters, resolve_Candidates.sound N⟩, ⟨law_still.enters, law_still.sound N⟩, ⟨law_near.enters, law_near.sound N⟩, ⟨resolve_Best.enters, resolve_Best.sound N⟩, ⟨law_climbed.enters, law_climbed.sound N⟩, trivial⟩
theorem law_resolveFact.enters : Enters Tryz.prog 4 := f4_enters
theorem law_resolveFact.sound (N : Nat) : Sound Tryz.prog 4 (law_resolveFact.S N) := evFn_sound (specs_tab (law_resolveFact.tab N)) (inls_tab (law_resolveFact.tab N)) mixed 3 Tryz.func4 _ _ _
theorem law_resolveFact.eq (N : Nat) : law_resolveFact.fn N () =
    (law_level.fn N ()).bind fun r1 =>
    (law_level.fn N ()).bind fun r2 =>
    (law_jet.fn N ()).bind fun r3 =>
    (law_still.fn N 0).bind fun r4 =>
    (resolve_Candidates.fn N ((⟨#[65, 49]⟩ : ByteArray), r4, 0, (r3.1, (r3.2.1, (r3.2.2.1, (200, r3.2.2.2.2)))))).bind fun r5 =>
    (law_near.fn N ()).bind fun r6 =>
    (resolve_Free.fn N ([r1, r2], 0, r6)).bind fun r7 =>
    (law_still.fn N 0).bind fun r8 =>
    (law_still.fn N 100).bind fun r9 =>
    (law_near.fn N ()).bind fun r10 =>
    (resolve_Free.fn N ([r8, r9], 0, r10)).bind fun r11 =>
    (law_still.fn N 0).bind fun r12 =>
    (law_still.fn N 100).bind fun r13 =>
    (law_near.fn N ()).bind fun r14 =>
    (resolve_Best.fn N ([r12, r13], 0, r14, (⟨#[65, 49]⟩ : ByteArray), 0, (r3.1, (r3.2.1, (r3.2.2.1, (200, r3.2.2.2.2)))))).bind fun r15 =>
    bif r5.2 == 0 then
      bif r7.2 == 0 then
        bif r11.2 == 0 then
          bif r15.2.2 == 11 then
            bif !r7.1 then
              bif r11.1 then
                bif (r5.1.length : Int) == 3 then
                  bif decide (0 < (r5.1.length : Int)) then
                    bif decide (0 < r5.1.length) then
                      (law_climbed.fn N 1000).bind fun r16 =>
                      bif (seq ((List.getD r5.1 0 ((⟨#[]⟩ : ByteArray), (0, (0, (⟨#[]⟩ : ByteArray))))).1) r16.1) && (((((List.getD r5.1 0 ((⟨#[]⟩ : ByteArray), (0, (0, (⟨#[]⟩ : ByteArray))))).2).1) == r16.2.1) && ((((((List.getD r5.1 0 ((⟨#[]⟩ : ByteArray), (0, (0, (⟨#[]⟩ : ByteArray))))).2).2).1) == r16.2.2.1) && ((seq ((((List.getD r5.1 0 ((⟨#[]⟩ : ByteArray), (0, (0, (⟨#[]⟩ : ByteArray))))).2).2).2) r16.2.2.2) && true))) then
                        bif decide (2 < (r5.1.length : Int)) then
                          bif decide (2 < r5.1.length) then
                            (law_climbed.fn N 3000).bind fun r17 =>
                            some ((seq ((List.getD r5.1 2 ((⟨#[]⟩ : ByteArray), (0, (0, (⟨#[]⟩ : ByteArray))))).1) r17.1) && (((((List.getD r5.1 2 ((⟨#[]⟩ : ByteArray), (0, (0, (⟨#[]⟩ : ByteArray))))).2).1) == r17.2.1) && ((((((List.getD r5.1 2 ((⟨#[]⟩ : ByteArray), (0, (0, (⟨#[]⟩ : ByteArray))))).2).2).1) == r17.2.2.1) && ((seq ((((List.getD r5.1 2 ((⟨#[]⟩ : ByteArray), (0, (0, (⟨#[]⟩ : ByteArray))))).2).2).2) r17.2.2.2) && true))))
                          else
                            none
                        else
                          none
                      else
                        some false
                    else
                      none
                  else
                    none
                else
                  some false
              else
                some false
            else
              some false
          else
            some false
        else
          some false
      else
        some false
    else
      some false := by kernel_rfl

/-! ### law_tubesError: skyway/skywaylaw3.tubesError -/
def law_tubesError.kp : List (Nat × List (Nat × Option (TypeId × Ty))) := [(7, [(0, none), (1, none), (19, none), (20, none), (21, none)])]
noncomputable def law_tubesError.G (N : Nat) : List (Nat × Spec) := [(17, .pure (probe_CheckSep.S N)), (18, .pure (tube_Check.S N))]
noncomputable def law_tubesError.E (N : Nat) : Env := mkEnv (law_tubesError.G N) N tyTab law_tubesError.kp
noncomputable def law_tubesError.fn (N : Nat) (x : List (List ((Int × (Int × Int) × Int) × Int × Int)) × Int × Int × Int) : Option Int := evFn (law_tubesError.E N) Tryz.prog 3 Tryz.f6 false [.cell (.sl 32 (.sl 58 (.pair (.pair (.int .i64) (.pair (.pair (.int .i64) (.int .i64)) (.int .i64))) (.pair (.int .i64) (.int .i64))))), .cell (.int .i64), .agg (.pair (.int .i64) (.int .i64))] [.val (.cell (.int .i64))] x
noncomputable def law_tubesError.S (N : Nat) : PSpec := ⟨false, [.cell (.sl 32 (.sl 58 (.pair (.pair (.int .i64) (.pair (.pair (.int .i64) (.int .i64)) (.int .i64))) (.pair (.int .i64) (.int .i64))))), .cell (.int .i64), .agg (.pair (.int .i64) (.int .i64))], [.val (.cell (.int .i64))], law_tubesError.fn N⟩
theorem f6_enters : Enters Tryz.prog 6 := ⟨Tryz.f6, Tryz.func6, by kernel_rfl, by kernel_rfl⟩
theorem law_tubesError.tab (N : Nat) : TabOk Tryz.prog (law_tubesError.G N) := ⟨⟨probe_CheckSep.enters, probe_CheckSep.sound N⟩, ⟨tube_Check.enters, tube_Check.sound N⟩, trivial⟩
theorem law_tubesError.enters : Enters Tryz.prog 6 := f6_enters
theorem law_tubesError.sound (N : Nat) : Sound Tryz.prog 6 (law_tubesError.S N) := evFn_sound (specs_tab (law_tubesError.tab N)) (inls_tab (law_tubesError.tab N)) mixed 3 Tryz.func6 _ _ _
noncomputable def law_tubesError.cd (N : Nat) (p : List Nat) : St → (Ex → St → Option Int) → Option Int := ev (law_tubesError.E N) Tryz.prog (callD (law_tubesError.E N) Tryz.prog 3) 0 (codeAt (bodyOf Tryz.f6) p)
noncomputable def law_tubesError.fin : Ex → St → Option Int := endK Tryz.prog Tryz.f6 [.val (.cell (.int .i64))]
noncomputable def law_tubesError.l0 (N : Nat) (x0 : List (List ((Int × (Int × Int) × Int) × Int × Int))) (x1 : Int) (k2 : Nat) (a3 : Int) : Option Int :=
  loopN (norm ((law_tubesError.E N).keep 7) 0) (law_tubesError.cd N [1, 1, 1, 0, 1, 0, 0]) k2
  ⟨[.ros false 32 (.sl 58 (.pair (.pair (.int .i64) (.pair (.pair (.int .i64) (.int .i64)) (.int .i64))) (.pair (.int .i64) (.int .i64)))) x0, .sc (.int .i64 x1), .any, .any, .any, .any, .any, .any, .any, .any, .any, .any, .any, .any, .any, .any, .any, .any, .any, .ros false 32 (.sl 58 (.pair (.pair (.int .i64) (.pair (.pair (.int .i64) (.int .i64)) (.int .i64))) (.pair (.int .i64) (.int .i64)))) x0, .sc (.int .i64 (x0.length : Int)), .sc (.int .i64 a3), .any, .any, .any, .any, .any, .any, .any, .any, .any, .any, .any, .any, .any, .any, .any, .any, .any], []⟩
  (blockK 0 (seqK (law_tubesError.cd N [1, 1, 1, 1]) law_tubesError.fin))
theorem law_tubesError.l0_zero (N : Nat) (x0 : List (List ((Int × (Int × Int) × Int) × Int × Int))) (x1 : Int) (a3 : Int) : law_tubesError.l0 N x0 x1 0 a3 = none := by kernel_rfl
theorem law_tubesError.l0_succ (N : Nat) (x0 : List (List ((Int × (Int × Int) × Int) × Int × Int))) (x1 : Int) (k2 : Nat) (a3 : Int) : law_tubesError.l0 N x0 x1 (k2 + 1) a3 =
    bif decide (a3 < (x0.length : Int)) then
      bif (decide (0 ≤ a3)) && (decide (a3 < (x0.length : Int))) then
        (tube_Check.fn N (List.getD x0 (Int.toNat a3) [])).bind fun r4 =>
        bif !(r4 == 0) then
          some r4
        else
          law_tubesError.l0 N x0 x1 k2 (w (a3 + 1))
      else
        none
    else
    bif !(!(decide (x1 < 0))) || (!(decide (x1 < 0))) then
      bif !(!(decide (x1 < 0))) || (!(decide (x1 < 0))) then
        bif !(!(decide (x1 < 0))) || (!(decide (x1 < 0))) then
          bif (decide (x1 < 0)) || (!(decide (x1 < 0))) then
            bif (decide (x1 < 0)) || (decide (x1 ≥ (x0.length : Int))) then
              some 4
            else
              some 0
          else
            none
        else
          none
      else
        none
    else
      none := by kernel_rfl
theorem law_tubesError.l0_clean (N : Nat) (x0 : List (List ((Int × (Int × Int) × Int) × Int × Int))) (x1 : Int) (k2 : Nat) (a3 : Int) : law_tubesError.l0 N x0 x1 (k2 + 1) a3 =
    bif decide (a3 < (x0.length : Int)) then
      bif (decide (0 ≤ a3)) && (decide (a3 < (x0.length : Int))) then
        (tube_Check.fn N (List.getD x0 (Int.toNat a3) [])).bind fun r4 =>
        bif !(r4 == 0) then
          some r4
        else
          law_tubesError.l0 N x0 x1 k2 (w (a3 + 1))
      else
        none
    else
    bif (decide (x1 < 0)) || (decide (x1 ≥ (x0.length : Int))) then
      some 4
    else
      some 0 := by
  rw [law_tubesError.l0_succ]; simp only [taut3, taut6, cond_true]
theorem law_tubesError.l0_cons (N : Nat) (x0 : List (List ((Int × (Int × Int) × Int) × Int × Int))) (x1 : Int) (k2 : Nat) {pre r} {x} (hl : x0 = pre ++ x :: r) (hb : x0.length < 4611686018427387904) : law_tubesError.l0 N x0 x1 (k2 + 1) (pre.length : Int) =
    (tube_Check.fn N x).bind fun r4 =>
    bif !(r4 == 0) then
      some r4
    else
      law_tubesError.l0 N x0 x1 k2 ((pre.length : Int) + 1) := by
  have hlen : x0.length = pre.length + 1 + r.length := by rw [hl]; simp; omega
  have e1 : decide ((pre.length : Int) < (x0.length : Int)) = true := by rw [decide_eq_true_iff]; omega
  have e2 : decide (0 ≤ (pre.length : Int)) = true := by rw [decide_eq_true_iff]; omega
  have e4 : w ((pre.length : Int) + 1) = (pre.length : Int) + 1 := w_next hl hb
  have e5 : List.take pre.length x0 = pre := by rw [hl]; simp
  have e6 : decide ((pre.length : Int) ≤ (x0.length : Int)) = true := by rw [decide_eq_true_iff]; omega
  have g0 : List.getD x0 pre.length [] = x := by rw [hl]; exact getD_mid pre x r _
  rw [law_tubesError.l0_clean]
  simp -implicitDefEqProofs only [Int.toNat_natCast, e1, e2, e4, e6, g0, e5, Bool.and_true, Bool.true_and, Bool.true_or, cond_true]
theorem law_tubesError.l0_nil (N : Nat) (x0 : List (List ((Int × (Int × Int) × Int) × Int × Int))) (x1 : Int) (k2 : Nat) : law_tubesError.l0 N x0 x1 (k2 + 1) (x0.length : Int) =
    bif (decide (x1 < 0)) || (decide (x1 ≥ (x0.length : Int))) then
      some 4
    else
      some 0 := by
  have e1 : decide ((x0.length : Int) < (x0.length : Int)) = false := by rw [decide_eq_false_iff_not]; omega
  rw [law_tubesError.l0_clean]
  simp -implicitDefEqProofs only [e1, cond_false]
theorem law_tubesError.eq (N : Nat) (x0 : List (List ((Int × (Int × Int) × Int) × Int × Int))) (x1 : Int) (x2 : Int × Int) : law_tubesError.fn N (x0, x1, x2) =
    (probe_CheckSep.fn N x2).bind fun r1 =>
    bif !(r1 == 0) then
      some r1
    else
    bif decide ((x0.length : Int) > 24) then
      some 2
    else
      law_tubesError.l0 N x0 x1 N 0 := by kernel_rfl

/-! ### probe_First: skyway/probe.First -/
def probe_First.kp : List (Nat × List (Nat × Option (TypeId × Ty))) := []
noncomputable def probe_First.G (N : Nat) : List (Nat × Spec) := [(26, .pure (probe_Pair.S N))]
noncomputable def probe_First.E (N : Nat) : Env := mkEnv (probe_First.G N) N tyTab probe_First.kp
noncomputable def probe_First.fn (N : Nat) (x : List ((Int × (Int × Int) × Int) × Int × Int) × List ((Int × (Int × Int) × Int) × Int × Int) × Int × Int) : Option (Int × Int) := evFn (probe_First.E N) Tryz.prog 3 Tryz.f19 false [.cell (.sl 58 (.pair (.pair (.int .i64) (.pair (.pair (.int .i64) (.int .i64)) (.int .i64))) (.pair (.int .i64) (.int .i64)))), .cell (.sl 58 (.pair (.pair (.int .i64) (.pair (.pair (.int .i64) (.int .i64)) (.int .i64))) (.pair (.int .i64) (.int .i64)))), .agg (.pair (.int .i64) (.int .i64))] [.val (.cell (.int .i64)), .val (.cell (.int .i64))] x
noncomputable def probe_First.S (N : Nat) : PSpec := ⟨false, [.cell (.sl 58 (.pair (.pair (.int .i64) (.pair (.pair (.int .i64) (.int .i64)) (.int .i64))) (.pair (.int .i64) (.int .i64)))), .cell (.sl 58 (.pair (.pair (.int .i64) (.pair (.pair (.int .i64) (.int .i64)) (.int .i64))) (.pair (.int .i64) (.int .i64)))), .agg (.pair (.int .i64) (.int .i64))], [.val (.cell (.int .i64)), .val (.cell (.int .i64))], probe_First.fn N⟩
theorem f19_enters : Enters Tryz.prog 19 := ⟨Tryz.f19, Tryz.func19, by kernel_rfl, by kernel_rfl⟩
theorem probe_First.tab (N : Nat) : TabOk Tryz.prog (probe_First.G N) := ⟨⟨probe_Pair.enters, probe_Pair.sound N⟩, trivial⟩
theorem probe_First.enters : Enters Tryz.prog 19 := f19_enters
theorem probe_First.sound (N : Nat) : Sound Tryz.prog 19 (probe_First.S N) := evFn_sound (specs_tab (probe_First.tab N)) (inls_tab (probe_First.tab N)) mixed 3 Tryz.func19 _ _ _
theorem probe_First.eq (N : Nat) (x0 : List ((Int × (Int × Int) × Int) × Int × Int)) (x1 : List ((Int × (Int × Int) × Int) × Int × Int)) (x2 : Int × Int) : probe_First.fn N (x0, x1, x2) =
    (probe_Pair.fn N (x0, x1, x2)).bind fun r1 =>
    bif !(r1.2 == 0) then
      some (0, r1.2)
    else
    bif (r1.1.length : Int) == 0 then
      some (0, 8)
    else
    bif decide (0 < (r1.1.length : Int)) then
      bif decide (0 < r1.1.length) then
        some ((List.getD r1.1 0 (0, 0)).1, 0)
      else
        none
    else
      none := by kernel_rfl

/-! ### law_clash: skyway/skywaylaw3.clash -/
def law_clash.kp : List (Nat × List (Nat × Option (TypeId × Ty))) := []
noncomputable def law_clash.G (N : Nat) : List (Nat × Spec) := [(19, .pure (probe_First.S N))]
noncomputable def law_clash.E (N : Nat) : Env := mkEnv (law_clash.G N) N tyTab law_clash.kp
noncomputable def law_clash.fn (N : Nat) (x : List ((Int × (Int × Int) × Int) × Int × Int) × List ((Int × (Int × Int) × Int) × Int × Int) × Int × Int) : Option Bool := evFn (law_clash.E N) Tryz.prog 3 Tryz.f7 false [.cell (.sl 58 (.pair (.pair (.int .i64) (.pair (.pair (.int .i64) (.int .i64)) (.int .i64))) (.pair (.int .i64) (.int .i64)))), .cell (.sl 58 (.pair (.pair (.int .i64) (.pair (.pair (.int .i64) (.int .i64)) (.int .i64))) (.pair (.int .i64) (.int .i64)))), .agg (.pair (.int .i64) (.int .i64))] [.val (.cell (.bool))] x
noncomputable def law_clash.S (N : Nat) : PSpec := ⟨false, [.cell (.sl 58 (.pair (.pair (.int .i64) (.pair (.pair (.int .i64) (.int .i64)) (.int .i64))) (.pair (.int .i64) (.int .i64)))), .cell (.sl 58 (.pair (.pair (.int .i64) (.pair (.pair (.int .i64) (.int .i64)) (.int .i64))) (.pair (.int .i64) (.int .i64)))), .agg (.pair (.int .i64) (.int .i64))], [.val (.cell (.bool))], law_clash.fn N⟩
theorem f7_enters : Enters Tryz.prog 7 := ⟨Tryz.f7, Tryz.func7, by kernel_rfl, by kernel_rfl⟩
theorem law_clash.tab (N : Nat) : TabOk Tryz.prog (law_clash.G N) := ⟨⟨probe_First.enters, probe_First.sound N⟩, trivial⟩
theorem law_clash.enters : Enters Tryz.prog 7 := f7_enters
theorem law_clash.sound (N : Nat) : Sound Tryz.prog 7 (law_clash.S N) := evFn_sound (specs_tab (law_clash.tab N)) (inls_tab (law_clash.tab N)) mixed 3 Tryz.func7 _ _ _
theorem law_clash.eq (N : Nat) (x0 : List ((Int × (Int × Int) × Int) × Int × Int)) (x1 : List ((Int × (Int × Int) × Int) × Int × Int)) (x2 : Int × Int) : law_clash.fn N (x0, x1, x2) =
    (probe_First.fn N (x0, x1, x2)).bind fun r1 =>
    some (r1.2 == 0) := by kernel_rfl

/-! ### law_ResolveFrees: skyway/skywaylaw3.ResolveFrees -/
def law_ResolveFrees.kp : List (Nat × List (Nat × Option (TypeId × Ty))) := [(11, [(0, none), (1, none), (5, none), (7, none), (8, none), (10, none), (38, none), (39, none)])]
noncomputable def law_ResolveFrees.G (N : Nat) : List (Nat × Spec) := [(4, .pure (law_resolveFact.S N)), (5, .pure (resolve_Free.S N)), (6, .pure (law_tubesError.S N)), (7, .pure (law_clash.S N))]
noncomputable def law_ResolveFrees.E (N : Nat) : Env := mkEnv (law_ResolveFrees.G N) N tyTab law_ResolveFrees.kp
noncomputable def law_ResolveFrees.fn (N : Nat) (x : List (List ((Int × (Int × Int) × Int) × Int × Int)) × Int × Int × Int) : Option Bool := evFn (law_ResolveFrees.E N) Tryz.prog 3 Tryz.f3 false [.cell (.sl 32 (.sl 58 (.pair (.pair (.int .i64) (.pair (.pair (.int .i64) (.int .i64)) (.int .i64))) (.pair (.int .i64) (.int .i64))))), .cell (.int .i64), .agg (.pair (.int .i64) (.int .i64))] [.val (.cell (.bool))] x
noncomputable def law_ResolveFrees.S (N : Nat) : PSpec := ⟨false, [.cell (.sl 32 (.sl 58 (.pair (.pair (.int .i64) (.pair (.pair (.int .i64) (.int .i64)) (.int .i64))) (.pair (.int .i64) (.int .i64))))), .cell (.int .i64), .agg (.pair (.int .i64) (.int .i64))], [.val (.cell (.bool))], law_ResolveFrees.fn N⟩
theorem f3_enters : Enters Tryz.prog 3 := ⟨Tryz.f3, Tryz.func3, by kernel_rfl, by kernel_rfl⟩
theorem law_ResolveFrees.tab (N : Nat) : TabOk Tryz.prog (law_ResolveFrees.G N) := ⟨⟨law_resolveFact.enters, law_resolveFact.sound N⟩, ⟨resolve_Free.enters, resolve_Free.sound N⟩, ⟨law_tubesError.enters, law_tubesError.sound N⟩, ⟨law_clash.enters, law_clash.sound N⟩, trivial⟩
theorem law_ResolveFrees.enters : Enters Tryz.prog 3 := f3_enters
theorem law_ResolveFrees.sound (N : Nat) : Sound Tryz.prog 3 (law_ResolveFrees.S N) := evFn_sound (specs_tab (law_ResolveFrees.tab N)) (inls_tab (law_ResolveFrees.tab N)) mixed 3 Tryz.func3 _ _ _
noncomputable def law_ResolveFrees.cd (N : Nat) (p : List Nat) : St → (Ex → St → Option Bool) → Option Bool := ev (law_ResolveFrees.E N) Tryz.prog (callD (law_ResolveFrees.E N) Tryz.prog 3) 0 (codeAt (bodyOf Tryz.f3) p)
noncomputable def law_ResolveFrees.fin : Ex → St → Option Bool := endK Tryz.prog Tryz.f3 [.val (.cell (.bool))]
noncomputable def law_ResolveFrees.l0 (N : Nat) (x0 : List (List ((Int × (Int × Int) × Int) × Int × Int))) (x1 : Int) (x2 : Int × Int) (r2 : Bool × Int) (k4 : Nat) (a5 : Bool) (a6 : Int) : Option Bool :=
  loopN (norm ((law_ResolveFrees.E N).keep 11) 0) (law_ResolveFrees.cd N [1, 1, 1, 1, 1, 1, 0, 1, 0, 0]) k4
  ⟨[.ros false 32 (.sl 58 (.pair (.pair (.int .i64) (.pair (.pair (.int .i64) (.int .i64)) (.int .i64))) (.pair (.int .i64) (.int .i64)))) x0, .sc (.int .i64 x1), .any, .any, .any, .ptr 0 0, .any, .sc (.bool r2.1), .sc (.int .i64 r2.2), .any, .sc (.bool a5), .any, .any, .any, .any, .any, .any, .any, .any, .any, .any, .any, .any, .any, .any, .any, .any, .any, .any, .any, .any, .any, .any, .any, .any, .any, .any, .any, .sc (.int .i64 (x0.length : Int)), .sc (.int .i64 a6), .any, .any, .any, .any, .any, .any, .any, .any, .any, .any, .any, .any, .any, .any, .any, .any, .any, .any, .any, .any, .any, .any, .any, .any, .any, .any, .any, .any, .any], [.cells [.sc (.int .i64 x2.1), .sc (.int .i64 x2.2)] 24]⟩
  (blockK 0 (seqK (law_ResolveFrees.cd N [1, 1, 1, 1, 1, 1, 1]) law_ResolveFrees.fin))
theorem law_ResolveFrees.l0_zero (N : Nat) (x0 : List (List ((Int × (Int × Int) × Int) × Int × Int))) (x1 : Int) (x2 : Int × Int) (r2 : Bool × Int) (a5 : Bool) (a6 : Int) : law_ResolveFrees.l0 N x0 x1 x2 r2 0 a5 a6 = none := by kernel_rfl
theorem law_ResolveFrees.l0_succ (N : Nat) (x0 : List (List ((Int × (Int × Int) × Int) × Int × Int))) (x1 : Int) (x2 : Int × Int) (r2 : Bool × Int) (k4 : Nat) (a5 : Bool) (a6 : Int) : law_ResolveFrees.l0 N x0 x1 x2 r2 (k4 + 1) a5 a6 =
    bif decide (a6 < (x0.length : Int)) then
      bif !(!a5) || (!a5) then
        bif !(!a5) || (!a5) then
          bif !(!a5) || (!a5) then
            bif !((!a5) && (!(a6 == x1))) || ((!a5) && (!(a6 == x1))) then
              bif !((!a5) && (!(a6 == x1))) || ((!a5) && (!(a6 == x1))) then
                bif ((decide (0 ≤ x1)) && (decide (x1 < (x0.length : Int)))) || !((!a5) && (!(a6 == x1))) then
                  bif !((!a5) && (!(a6 == x1))) || ((!a5) && (!(a6 == x1))) then
                    bif !((!a5) && (!(a6 == x1))) || ((!a5) && (!(a6 == x1))) then
                      bif !((!a5) && (!(a6 == x1))) || ((!a5) && (!(a6 == x1))) then
                        bif ((decide (0 ≤ a6)) && (decide (a6 < (x0.length : Int)))) || !((!a5) && (!(a6 == x1))) then
                          bif !((!a5) && (!(a6 == x1))) || ((!a5) && (!(a6 == x1))) then
                            bif !((!a5) && (!(a6 == x1))) || ((!a5) && (!(a6 == x1))) then
                              bif !((!a5) && (!(a6 == x1))) || ((!a5) && (!(a6 == x1))) then
                                bif !((!a5) && (!(a6 == x1))) || ((!a5) && (!(a6 == x1))) then
                                  (bif ((!a5) && (!(a6 == x1))) then law_clash.fn N ((List.getD x0 (Int.toNat x1) []), (List.getD x0 (Int.toNat a6) []), x2) else some (false)).bind fun r7 =>
                                  bif !(!a5) || (!a5) then
                                    bif !(!a5) || ((!(!(a6 == x1))) || ((!a5) && (!(a6 == x1)))) then
                                      bif a5 || (!a5) then
                                        law_ResolveFrees.l0 N x0 x1 x2 r2 k4 (a5 || ((!(a6 == x1)) && r7)) (w (a6 + 1))
                                      else
                                        none
                                    else
                                      none
                                  else
                                    none
                                else
                                  none
                              else
                                none
                            else
                              none
                          else
                            none
                        else
                          none
                      else
                        none
                    else
                      none
                  else
                    none
                else
                  none
              else
                none
            else
              none
          else
            none
        else
          none
      else
        none
    else
    bif !(r2.2 == 0) || (r2.2 == 0) then
      bif !(r2.2 == 0) || (r2.2 == 0) then
        bif !(r2.2 == 0) || (r2.2 == 0) then
          bif (!(r2.2 == 0)) || (r2.2 == 0) then
            some ((r2.2 == 0) && (r2.1 == (!a5)))
          else
            none
        else
          none
      else
        none
    else
      none := by kernel_rfl
theorem taut28 : ∀ p0 : Bool, ((!(!p0) || (!p0))) = true := by decide
theorem taut29 : ∀ p0 p1 : Bool, ((!(!p0) || ((!(!(p1))) || ((!p0) && (!(p1)))))) = true := by decide
theorem taut30 : ∀ p0 p1 : Bool, ((!((!p0) && (!(p1))) || ((!p0) && (!(p1))))) = true := by decide
theorem taut31 : ∀ p0 : Bool, ((p0 || (!p0))) = true := by decide
theorem law_ResolveFrees.l0_clean (N : Nat) (x0 : List (List ((Int × (Int × Int) × Int) × Int × Int))) (x1 : Int) (x2 : Int × Int) (r2 : Bool × Int) (k4 : Nat) (a5 : Bool) (a6 : Int) : law_ResolveFrees.l0 N x0 x1 x2 r2 (k4 + 1) a5 a6 =
    bif decide (a6 < (x0.length : Int)) then
      bif ((decide (0 ≤ x1)) && (decide (x1 < (x0.length : Int)))) || !((!a5) && (!(a6 == x1))) then
        bif ((decide (0 ≤ a6)) && (decide (a6 < (x0.length : Int)))) || !((!a5) && (!(a6 == x1))) then
          (bif ((!a5) && (!(a6 == x1))) then law_clash.fn N ((List.getD x0 (Int.toNat x1) []), (List.getD x0 (Int.toNat a6) []), x2) else some (false)).bind fun r7 =>
          law_ResolveFrees.l0 N x0 x1 x2 r2 k4 (a5 || ((!(a6 == x1)) && r7)) (w (a6 + 1))
        else
          none
      else
        none
    else
    some ((r2.2 == 0) && (r2.1 == (!a5))) := by
  rw [law_ResolveFrees.l0_succ]; simp only [taut28, taut29, taut30, taut21, taut23, taut31, cond_true]
theorem law_ResolveFrees.l0_cons (N : Nat) (x0 : List (List ((Int × (Int × Int) × Int) × Int × Int))) (x1 : Int) (x2 : Int × Int) (r2 : Bool × Int) (k4 : Nat) (a5 : Bool) {pre r} {x} (hl : x0 = pre ++ x :: r) (hb : x0.length < 4611686018427387904) : law_ResolveFrees.l0 N x0 x1 x2 r2 (k4 + 1) a5 (pre.length : Int) =
    bif ((decide (0 ≤ x1)) && (decide (x1 < (x0.length : Int)))) || !((!a5) && (!((pre.length : Int) == x1))) then
      (bif ((!a5) && (!((pre.length : Int) == x1))) then law_clash.fn N ((List.getD x0 (Int.toNat x1) []), x, x2) else some (false)).bind fun r7 =>
      law_ResolveFrees.l0 N x0 x1 x2 r2 k4 (a5 || ((!((pre.length : Int) == x1)) && r7)) ((pre.length : Int) + 1)
    else
      none := by
  have hlen : x0.length = pre.length + 1 + r.length := by rw [hl]; simp; omega
  have e1 : decide ((pre.length : Int) < (x0.length : Int)) = true := by rw [decide_eq_true_iff]; omega
  have e2 : decide (0 ≤ (pre.length : Int)) = true := by rw [decide_eq_true_iff]; omega
  have e4 : w ((pre.length : Int) + 1) = (pre.length : Int) + 1 := w_next hl hb
  have e5 : List.take pre.length x0 = pre := by rw [hl]; simp
  have e6 : decide ((pre.length : Int) ≤ (x0.length : Int)) = true := by rw [decide_eq_true_iff]; omega
  have g0 : List.getD x0 pre.length [] = x := by rw [hl]; exact getD_mid pre x r _
  rw [law_ResolveFrees.l0_clean]
  simp -implicitDefEqProofs only [Int.toNat_natCast, e1, e2, e4, e6, g0, e5, Bool.and_true, Bool.true_and, Bool.true_or, cond_true]
theorem law_ResolveFrees.l0_nil (N : Nat) (x0 : List (List ((Int × (Int × Int) × Int) × Int × Int))) (x1 : Int) (x2 : Int × Int) (r2 : Bool × Int) (k4 : Nat) (a5 : Bool) : law_ResolveFrees.l0 N x0 x1 x2 r2 (k4 + 1) a5 (x0.length : Int) =
    some ((r2.2 == 0) && (r2.1 == (!a5))) := by
  have e1 : decide ((x0.length : Int) < (x0.length : Int)) = false := by rw [decide_eq_false_iff_not]; omega
  rw [law_ResolveFrees.l0_clean]
  simp -implicitDefEqProofs only [e1, cond_false]
theorem law_ResolveFrees.eq (N : Nat) (x0 : List (List ((Int × (Int × Int) × Int) × Int × Int))) (x1 : Int) (x2 : Int × Int) : law_ResolveFrees.fn N (x0, x1, x2) =
    (law_resolveFact.fn N ()).bind fun r1 =>
    bif !r1 then
      some false
    else
    bif decide ((x0.length : Int) > 6) then
      some true
    else
      (resolve_Free.fn N (x0, x1, x2)).bind fun r2 =>
      (law_tubesError.fn N (x0, x1, x2)).bind fun r3 =>
      bif !(r3 == 0) then
        bif !(r2.2 == r3) || (r2.2 == r3) then
          bif (!(r2.2 == r3)) || (r2.2 == r3) then
            some ((r2.2 == r3) && (!r2.1))
          else
            none
        else
          none
      else
        law_ResolveFrees.l0 N x0 x1 x2 r2 N false 0 := by kernel_rfl
theorem law_ResolveFrees.clean (N : Nat) (x0 : List (List ((Int × (Int × Int) × Int) × Int × Int))) (x1 : Int) (x2 : Int × Int) : law_ResolveFrees.fn N (x0, x1, x2) =
    (law_resolveFact.fn N ()).bind fun r1 =>
    bif !r1 then
      some false
    else
    bif decide ((x0.length : Int) > 6) then
      some true
    else
      (resolve_Free.fn N (x0, x1, x2)).bind fun r2 =>
      (law_tubesError.fn N (x0, x1, x2)).bind fun r3 =>
      bif !(r3 == 0) then
        some ((r2.2 == r3) && (!r2.1))
      else
        law_ResolveFrees.l0 N x0 x1 x2 r2 N false 0 := by
  rw [law_ResolveFrees.eq]; simp only [taut21, taut23, cond_true]

end Go.Proofs.YthkpnlfnplhgnaaGreatDoor.Sk
