/- PRINTED by gen.py: what the functions answer, part 2. Not trusted: Lean checks it. -/
import Derived.Test.YthkpnlfnplhgnaaDoorEffEq1
set_option linter.unusedVariables false
set_option linter.unusedSimpArgs false
set_option maxRecDepth 100000
namespace Go.Proofs.YthkpnlfnplhgnaaDoor.Sk
open Go
/-! ### effect_Of: skyway/effect.Of -/
theorem f58_enters : Enters Tryd.prog 58 := ⟨Tryd.f58, Tryd.func58, by kernel_rfl, by kernel_rfl⟩
def effect_Of.kp : List (Nat × List (Nat × Option (TypeId × Ty))) := [(3, [(0, none), (1, none), (2, none), (4, none), (5, none), (8, none), (9, none), (10, none), (12, none), (13, none), (14, none), (7000005, some (34, .pair (.pair (.int .i64) (.pair (.pair (.int .i64) (.int .i64)) (.int .i64))) (.pair (.int .i64) (.int .i64)))), (8000005, some (34, .pair (.pair (.int .i64) (.pair (.pair (.int .i64) (.int .i64)) (.int .i64))) (.pair (.int .i64) (.int .i64))))]), (4, [(1, none), (2, none), (6, some (0, .unit)), (7, none), (18, none), (19, none), (20, none), (7000002, some (0, .unit))]), (6, [(1, none), (8, some (0, .unit)), (9, none), (10, none), (36, none), (37, none), (38, none)]), (11, [(2, none), (4, none), (10, none), (12, none), (16, some (0, .unit)), (68, none), (69, none), (70, none), (7000004, some (0, .unit))])]
noncomputable def effect_Of.G (N : Nat) : List (Nat × Spec) := [(7, .pure (tube_Check.S N)), (11, .pure (aircraft_Climb.S N)), (18, .pure (tube_Point.S N)), (19, .pure (plane_Check.S N)), (21, .pure (phrase_Check.S N)), (22, .pure (aircraft_Check.S N)), (37, .pure (slices_Clone_TubeNode.S N)), (57, .pure (effect_course_climb_1.S N)), (58, .mac (insM Tryd.prog 34 (.pair (.pair (.int .i64) (.pair (.pair (.int .i64) (.int .i64)) (.int .i64))) (.pair (.int .i64) (.int .i64))))), (59, .pure (effect_down.S N)), (60, .pure (effect_course_speed.S N)), (61, .pure (angle_Vector.S N)), (62, .pure (plane_Add.S N)), (63, .pure (plane_Distance.S N)), (64, .pure (effect_up.S N)), (23, .inl Tryd.f23), (35, .inl Tryd.f35), (36, .inl Tryd.f36), (38, .inl Tryd.f38), (39, .inl Tryd.f39), (40, .inl Tryd.f40), (56, .inl Tryd.f56)]
noncomputable def effect_Of.E (N : Nat) : Env := mkEnv (effect_Of.G N) N tyTab effect_Of.kp
noncomputable def effect_Of.fn (N : Nat) (x : List ((Int × (Int × Int) × Int) × Int × Int) × (ByteArray × Int × Int × ByteArray) × Int × (ByteArray × Int × Int × Int × Int × Int × Int) × Int × Int) : Option (List ((Int × (Int × Int) × Int) × Int × Int) × Int) := evFn (effect_Of.E N) Tryd.prog 8 Tryd.f9 false [.cell (.sl 34 (.pair (.pair (.int .i64) (.pair (.pair (.int .i64) (.int .i64)) (.int .i64))) (.pair (.int .i64) (.int .i64)))), .agg (.pair (.str) (.pair (.int .i64) (.pair (.int .i64) (.str)))), .cell (.int .i64), .agg (.pair (.str) (.pair (.int .i64) (.pair (.int .i64) (.pair (.int .i64) (.pair (.int .i64) (.pair (.int .i64) (.int .i64))))))), .agg (.pair (.int .i64) (.int .i64))] [.own 34 (.pair (.pair (.int .i64) (.pair (.pair (.int .i64) (.int .i64)) (.int .i64))) (.pair (.int .i64) (.int .i64))), .val (.cell (.int .i64))] x
noncomputable def effect_Of.S (N : Nat) : PSpec := ⟨false, [.cell (.sl 34 (.pair (.pair (.int .i64) (.pair (.pair (.int .i64) (.int .i64)) (.int .i64))) (.pair (.int .i64) (.int .i64)))), .agg (.pair (.str) (.pair (.int .i64) (.pair (.int .i64) (.str)))), .cell (.int .i64), .agg (.pair (.str) (.pair (.int .i64) (.pair (.int .i64) (.pair (.int .i64) (.pair (.int .i64) (.pair (.int .i64) (.int .i64))))))), .agg (.pair (.int .i64) (.int .i64))], [.own 34 (.pair (.pair (.int .i64) (.pair (.pair (.int .i64) (.int .i64)) (.int .i64))) (.pair (.int .i64) (.int .i64))), .val (.cell (.int .i64))], effect_Of.fn N⟩
theorem f23_enters : Enters Tryd.prog 23 := ⟨Tryd.f23, Tryd.func23, by kernel_rfl, by kernel_rfl⟩

theorem f36_enters : Enters Tryd.prog 36 := ⟨Tryd.f36, Tryd.func36, by kernel_rfl, by kernel_rfl⟩
theorem f38_enters : Enters Tryd.prog 38 := ⟨Tryd.f38, Tryd.func38, by kernel_rfl, by kernel_rfl⟩
theorem f39_enters : Enters Tryd.prog 39 := ⟨Tryd.f39, Tryd.func39, by kernel_rfl, by kernel_rfl⟩
theorem f40_enters : Enters Tryd.prog 40 := ⟨Tryd.f40, Tryd.func40, by kernel_rfl, by kernel_rfl⟩
theorem f56_enters : Enters Tryd.prog 56 := ⟨Tryd.f56, Tryd.func56, by kernel_rfl, by kernel_rfl⟩
theorem f9_enters : Enters Tryd.prog 9 := ⟨Tryd.f9, Tryd.func9, by kernel_rfl, by kernel_rfl⟩
theorem effect_Of.tab (N : Nat) : TabOk Tryd.prog (effect_Of.G N) := ⟨⟨tube_Check.enters, tube_Check.sound N⟩, ⟨aircraft_Climb.enters, aircraft_Climb.sound N⟩, ⟨tube_Point.enters, tube_Point.sound N⟩, ⟨plane_Check.enters, plane_Check.sound N⟩, ⟨phrase_Check.enters, phrase_Check.sound N⟩, ⟨aircraft_Check.enters, aircraft_Check.sound N⟩, ⟨slices_Clone_TubeNode.enters, slices_Clone_TubeNode.sound N⟩, ⟨effect_course_climb_1.enters, effect_course_climb_1.sound N⟩, ⟨f58_enters, ins_sound (T := 23) (by kernel_rfl) Ins58.insC⟩, ⟨effect_down.enters, effect_down.sound N⟩, ⟨effect_course_speed.enters, effect_course_speed.sound N⟩, ⟨angle_Vector.enters, angle_Vector.sound N⟩, ⟨plane_Add.enters, plane_Add.sound N⟩, ⟨plane_Distance.enters, plane_Distance.sound N⟩, ⟨effect_up.enters, effect_up.sound N⟩, ⟨f23_enters, Tryd.func23⟩, ⟨f35_enters, Tryd.func35⟩, ⟨f36_enters, Tryd.func36⟩, ⟨f38_enters, Tryd.func38⟩, ⟨f39_enters, Tryd.func39⟩, ⟨f40_enters, Tryd.func40⟩, ⟨f56_enters, Tryd.func56⟩, trivial⟩
theorem effect_Of.enters : Enters Tryd.prog 9 := f9_enters
theorem effect_Of.sound (N : Nat) : Sound Tryd.prog 9 (effect_Of.S N) := evFn_sound (specs_tab (effect_Of.tab N)) (inls_tab (effect_Of.tab N)) mixed 8 Tryd.func9 _ _ _
noncomputable def effect_Of.cd (N : Nat) (p : List Nat) : St → (Ex → St → Option (List ((Int × (Int × Int) × Int) × Int × Int) × Int)) → Option (List ((Int × (Int × Int) × Int) × Int × Int) × Int) := ev (effect_Of.E N) Tryd.prog (callD (effect_Of.E N) Tryd.prog 8) 0 (codeAt (bodyOf Tryd.f9) p)
noncomputable def effect_Of.cd23_7_3 (N : Nat) (p : List Nat) : St → (Ex → St → Option (List ((Int × (Int × Int) × Int) × Int × Int) × Int)) → Option (List ((Int × (Int × Int) × Int) × Int × Int) × Int) := ev (effect_Of.E N) Tryd.prog (callD (effect_Of.E N) Tryd.prog 7) 3 (codeAt (bodyOf Tryd.f23) p)
noncomputable def effect_Of.cd35_6_6 (N : Nat) (p : List Nat) : St → (Ex → St → Option (List ((Int × (Int × Int) × Int) × Int × Int) × Int)) → Option (List ((Int × (Int × Int) × Int) × Int × Int) × Int) := ev (effect_Of.E N) Tryd.prog (callD (effect_Of.E N) Tryd.prog 6) 6 (codeAt (bodyOf Tryd.f35) p)
noncomputable def effect_Of.cd36_6_13 (N : Nat) (p : List Nat) : St → (Ex → St → Option (List ((Int × (Int × Int) × Int) × Int × Int) × Int)) → Option (List ((Int × (Int × Int) × Int) × Int × Int) × Int) := ev (effect_Of.E N) Tryd.prog (callD (effect_Of.E N) Tryd.prog 6) 13 (codeAt (bodyOf Tryd.f36) p)
noncomputable def effect_Of.cd38_6_13 (N : Nat) (p : List Nat) : St → (Ex → St → Option (List ((Int × (Int × Int) × Int) × Int × Int) × Int)) → Option (List ((Int × (Int × Int) × Int) × Int × Int) × Int) := ev (effect_Of.E N) Tryd.prog (callD (effect_Of.E N) Tryd.prog 6) 13 (codeAt (bodyOf Tryd.f38) p)
noncomputable def effect_Of.cd39_6_13 (N : Nat) (p : List Nat) : St → (Ex → St → Option (List ((Int × (Int × Int) × Int) × Int × Int) × Int)) → Option (List ((Int × (Int × Int) × Int) × Int × Int) × Int) := ev (effect_Of.E N) Tryd.prog (callD (effect_Of.E N) Tryd.prog 6) 13 (codeAt (bodyOf Tryd.f39) p)
noncomputable def effect_Of.cd56_5_15 (N : Nat) (p : List Nat) : St → (Ex → St → Option (List ((Int × (Int × Int) × Int) × Int × Int) × Int)) → Option (List ((Int × (Int × Int) × Int) × Int × Int) × Int) := ev (effect_Of.E N) Tryd.prog (callD (effect_Of.E N) Tryd.prog 5) 15 (codeAt (bodyOf Tryd.f56) p)
noncomputable def effect_Of.fin : Ex → St → Option (List ((Int × (Int × Int) × Int) × Int × Int) × Int) := endK Tryd.prog Tryd.f9 [.own 34 (.pair (.pair (.int .i64) (.pair (.pair (.int .i64) (.int .i64)) (.int .i64))) (.pair (.int .i64) (.int .i64))), .val (.cell (.int .i64))]
noncomputable def effect_Of.l0 (N : Nat) (x0 : List ((Int × (Int × Int) × Int) × Int × Int)) (x1 : ByteArray × Int × Int × ByteArray) (x2 : Int) (x3 : ByteArray × Int × Int × Int × Int × Int × Int) (x4 : Int × Int) (r1 : Int) (r2 : Int) (r3 : Int) (r4 : Int) (r5 : (Int × (Int × Int) × Int) × Int × Int) (k6 : Nat) (a7 : Int) (a8 : List ((Int × (Int × Int) × Int) × Int × Int)) (a9 : List ((Int × (Int × Int) × Int) × Int × Int)) : Option (List ((Int × (Int × Int) × Int) × Int × Int) × Int) :=
  loopN (norm ((effect_Of.E N).keep 3) 6) (effect_Of.cd35_6_6 N [1, 1, 0, 1, 0, 0]) k6
  ⟨[.ros false 34 (.pair (.pair (.int .i64) (.pair (.pair (.int .i64) (.int .i64)) (.int .i64))) (.pair (.int .i64) (.int .i64))) x0, .sc (.int .i64 x2), .any, .any, .ptr 6 0, .ptr 7 0, .any, .any, .ros false 34 (.pair (.pair (.int .i64) (.pair (.pair (.int .i64) (.int .i64)) (.int .i64))) (.pair (.int .i64) (.int .i64))) x0, .sc (.int .i64 x2), .agg [.sc (.int .i64 r5.1.1), .sc (.int .i64 r5.1.2.1.1), .sc (.int .i64 r5.1.2.1.2), .sc (.int .i64 r5.1.2.2), .sc (.int .i64 r5.2.1), .sc (.int .i64 r5.2.2)], .any, .ros false 34 (.pair (.pair (.int .i64) (.pair (.pair (.int .i64) (.int .i64)) (.int .i64))) (.pair (.int .i64) (.int .i64))) x0, .sc (.int .i64 (x0.length : Int)), .sc (.int .i64 a7), .any, .any, .any, .any, .any, .any, .any, .any, .any, .any, .any, .any, .any, .any, .any, .any, .any, .any, .any, .any, .any, .any, .any, .any, .any, .any, .any, .any, .any, .any, .any, .any, .any, .any, .any, .any], [.cells [.sc (.string x1.1), .sc (.int .i64 x1.2.1), .sc (.int .i64 x1.2.2.1), .sc (.string x1.2.2.2)] 39, .cells [.sc (.string x3.1), .sc (.int .i64 x3.2.1), .sc (.int .i64 x3.2.2.1), .sc (.int .i64 x3.2.2.2.1), .sc (.int .i64 x3.2.2.2.2.1), .sc (.int .i64 x3.2.2.2.2.2.1), .sc (.int .i64 x3.2.2.2.2.2.2)] 41, .cells [.sc (.int .i64 x4.1), .sc (.int .i64 x4.2)] 30, .cells [.sc (.string x1.1), .sc (.int .i64 x1.2.1), .sc (.int .i64 x1.2.2.1), .sc (.string x1.2.2.2)] 39, .cells [.sc (.string x3.1), .sc (.int .i64 x3.2.1), .sc (.int .i64 x3.2.2.1), .sc (.int .i64 x3.2.2.2.1), .sc (.int .i64 x3.2.2.2.2.1), .sc (.int .i64 x3.2.2.2.2.2.1), .sc (.int .i64 x3.2.2.2.2.2.2)] 41, .cells [.sc (.int .i64 x4.1), .sc (.int .i64 x4.2)] 30, .cells [.sc (.int .i64 0), .sc (.int .i64 0), .sc (.int .i64 0), .sc (.int .i64 0), .sc (.int .i64 0), .sc (.int .i64 0), .sc (.slice none 0 0), .sc (.slice none 0 0)] 70, .cells [.sc (.int .i64 r5.1.1), .sc (.int .i64 r5.1.2.1.1), .sc (.int .i64 r5.1.2.1.2), .sc (.int .i64 r5.1.2.2), .sc (.int .i64 r5.2.1), .sc (.int .i64 r5.2.2), .own 8, .own 9] 70, .rows true 34 (.pair (.pair (.int .i64) (.pair (.pair (.int .i64) (.int .i64)) (.int .i64))) (.pair (.int .i64) (.int .i64))) a8, .rows true 34 (.pair (.pair (.int .i64) (.pair (.pair (.int .i64) (.int .i64)) (.int .i64))) (.pair (.int .i64) (.int .i64))) a9]⟩
  (blockK 0 (seqK (effect_Of.cd35_6_6 N [1, 1, 1]) (retK Tryd.prog Tryd.f35 (fun vs hp => (reg (effect_Of.E N) Tryd.prog (callD (effect_Of.E N) Tryd.prog 7) (opsAt (codeAt (bodyOf Tryd.f23) [1, 0])) [] (List.drop 3 (opsAt (codeAt (bodyOf Tryd.f23) [1, 0]))) (St.put ⟨[.ros false 34 (.pair (.pair (.int .i64) (.pair (.pair (.int .i64) (.int .i64)) (.int .i64))) (.pair (.int .i64) (.int .i64))) x0, .agg [.sc (.string x1.1), .sc (.int .i64 x1.2.1), .sc (.int .i64 x1.2.2.1), .sc (.string x1.2.2.2)], .sc (.int .i64 x2), .agg [.sc (.string x3.1), .sc (.int .i64 x3.2.1), .sc (.int .i64 x3.2.2.1), .sc (.int .i64 x3.2.2.2.1), .sc (.int .i64 x3.2.2.2.2.1), .sc (.int .i64 x3.2.2.2.2.2.1), .sc (.int .i64 x3.2.2.2.2.2.2)], .agg [.sc (.int .i64 x4.1), .sc (.int .i64 x4.2)], .any, .ptr 3 0, .any, .ptr 4 0, .ptr 5 0, .sc (.slice none 0 0), .sc (.int .i64 0), .any, .ros false 34 (.pair (.pair (.int .i64) (.pair (.pair (.int .i64) (.int .i64)) (.int .i64))) (.pair (.int .i64) (.int .i64))) x0, .sc (.int .i64 x2), .any, .any, .any, .any, .any, .any, .any, .any, .any, .any, .any, .any, .any, .any, .any, .any, .any, .any, .any, .any, .any, .any, .any, .any, .any, .any, .any, .any, .any, .any, .any, .any, .any, .any, .any, .any, .any, .any, .any, .any, .any, .any, .any, .any, .any, .any, .any, .any, .any, .any, .any], hp⟩ (some 15) (tupOf vs)) (fun S => (seqK (effect_Of.cd23_7_3 N [1, 1]) (retK Tryd.prog Tryd.f23 (fun vs hp => (reg (effect_Of.E N) Tryd.prog (callD (effect_Of.E N) Tryd.prog 8) (opsAt (codeAt (bodyOf Tryd.f9) [1, 1, 1, 1, 1, 1, 0])) [] (List.drop 6 (opsAt (codeAt (bodyOf Tryd.f9) [1, 1, 1, 1, 1, 1, 0]))) (St.put ⟨[.ros false 34 (.pair (.pair (.int .i64) (.pair (.pair (.int .i64) (.int .i64)) (.int .i64))) (.pair (.int .i64) (.int .i64))) x0, .agg [.sc (.string x1.1), .sc (.int .i64 x1.2.1), .sc (.int .i64 x1.2.2.1), .sc (.string x1.2.2.2)], .sc (.int .i64 x2), .agg [.sc (.string x3.1), .sc (.int .i64 x3.2.1), .sc (.int .i64 x3.2.2.1), .sc (.int .i64 x3.2.2.2.1), .sc (.int .i64 x3.2.2.2.2.1), .sc (.int .i64 x3.2.2.2.2.2.1), .sc (.int .i64 x3.2.2.2.2.2.2)], .agg [.sc (.int .i64 x4.1), .sc (.int .i64 x4.2)], .any, .ptr 0 0, .any, .ptr 1 0, .ptr 2 0, .sc (.slice none 0 0), .sc (.int .i64 0), .sc (.int .i64 r1), .sc (.int .i64 r2), .sc (.int .i64 r3), .sc (.int .i64 r4), .any, .any, .ros false 34 (.pair (.pair (.int .i64) (.pair (.pair (.int .i64) (.int .i64)) (.int .i64))) (.pair (.int .i64) (.int .i64))) x0, .sc (.int .i64 r1), .sc (.int .i64 r1), .sc (.bool (!(r1 == 0))), .any, .agg [.sc (.string x1.1), .sc (.int .i64 x1.2.1), .sc (.int .i64 x1.2.2.1), .sc (.string x1.2.2.2)], .sc (.int .i64 r2), .sc (.int .i64 r2), .sc (.bool (!(r2 == 0))), .any, .agg [.sc (.string x3.1), .sc (.int .i64 x3.2.1), .sc (.int .i64 x3.2.2.1), .sc (.int .i64 x3.2.2.2.1), .sc (.int .i64 x3.2.2.2.2.1), .sc (.int .i64 x3.2.2.2.2.2.1), .sc (.int .i64 x3.2.2.2.2.2.2)], .sc (.int .i64 r3), .sc (.int .i64 r3), .sc (.bool (!(r3 == 0))), .any, .agg [.sc (.int .i64 x4.1), .sc (.int .i64 x4.2)], .sc (.int .i64 r4), .sc (.int .i64 r4), .sc (.bool (!(r4 == 0))), .any, .sc (.int .i64 x2), .ros false 34 (.pair (.pair (.int .i64) (.pair (.pair (.int .i64) (.int .i64)) (.int .i64))) (.pair (.int .i64) (.int .i64))) x0, .rop false (.pair (.pair (.int .i64) (.pair (.pair (.int .i64) (.int .i64)) (.int .i64))) (.pair (.int .i64) (.int .i64))) (List.getD x0 0 ((0, ((0, 0), 0)), (0, 0))) 0, .rop false (.pair (.pair (.int .i64) (.pair (.pair (.int .i64) (.int .i64)) (.int .i64))) (.pair (.int .i64) (.int .i64))) (List.getD x0 0 ((0, ((0, 0), 0)), (0, 0))) 0, .rop false (.pair (.pair (.int .i64) (.pair (.pair (.int .i64) (.int .i64)) (.int .i64))) (.pair (.int .i64) (.int .i64))) (List.getD x0 0 ((0, ((0, 0), 0)), (0, 0))) 0, .sc (.int .i64 (((List.getD x0 0 ((0, ((0, 0), 0)), (0, 0))).1).1)), .sc (.bool (decide (x2 < (((List.getD x0 0 ((0, ((0, 0), 0)), (0, 0))).1).1)))), .sc (.bool (decide (x2 < (((List.getD x0 0 ((0, ((0, 0), 0)), (0, 0))).1).1)))), .gd (!(decide (x2 < (((List.getD x0 0 ((0, ((0, 0), 0)), (0, 0))).1).1)))) (.sc (.int .i64 x2)), .gd (!(decide (x2 < (((List.getD x0 0 ((0, ((0, 0), 0)), (0, 0))).1).1)))) (.ros false 34 (.pair (.pair (.int .i64) (.pair (.pair (.int .i64) (.int .i64)) (.int .i64))) (.pair (.int .i64) (.int .i64))) x0), .gd (!(decide (x2 < (((List.getD x0 0 ((0, ((0, 0), 0)), (0, 0))).1).1)))) (.ros false 34 (.pair (.pair (.int .i64) (.pair (.pair (.int .i64) (.int .i64)) (.int .i64))) (.pair (.int .i64) (.int .i64))) x0), .gd (!(decide (x2 < (((List.getD x0 0 ((0, ((0, 0), 0)), (0, 0))).1).1)))) (.sc (.int .i64 (x0.length : Int))), .gd (!(decide (x2 < (((List.getD x0 0 ((0, ((0, 0), 0)), (0, 0))).1).1)))) (.sc (.int .i64 (w ((x0.length : Int) - 1)))), .gd (!(decide (x2 < (((List.getD x0 0 ((0, ((0, 0), 0)), (0, 0))).1).1)))) (.rop false (.pair (.pair (.int .i64) (.pair (.pair (.int .i64) (.int .i64)) (.int .i64))) (.pair (.int .i64) (.int .i64))) (List.getD x0 (Int.toNat (w ((x0.length : Int) - 1))) ((0, ((0, 0), 0)), (0, 0))) 0), .gd (!(decide (x2 < (((List.getD x0 0 ((0, ((0, 0), 0)), (0, 0))).1).1)))) (.rop false (.pair (.pair (.int .i64) (.pair (.pair (.int .i64) (.int .i64)) (.int .i64))) (.pair (.int .i64) (.int .i64))) (List.getD x0 (Int.toNat (w ((x0.length : Int) - 1))) ((0, ((0, 0), 0)), (0, 0))) 0), .gd (!(decide (x2 < (((List.getD x0 0 ((0, ((0, 0), 0)), (0, 0))).1).1)))) (.rop false (.pair (.pair (.int .i64) (.pair (.pair (.int .i64) (.int .i64)) (.int .i64))) (.pair (.int .i64) (.int .i64))) (List.getD x0 (Int.toNat (w ((x0.length : Int) - 1))) ((0, ((0, 0), 0)), (0, 0))) 0), .gd (!(decide (x2 < (((List.getD x0 0 ((0, ((0, 0), 0)), (0, 0))).1).1)))) (.sc (.int .i64 (((List.getD x0 (Int.toNat (w ((x0.length : Int) - 1))) ((0, ((0, 0), 0)), (0, 0))).1).1))), .gd (!(decide (x2 < (((List.getD x0 0 ((0, ((0, 0), 0)), (0, 0))).1).1)))) (.sc (.bool (decide (x2 > (((List.getD x0 (Int.toNat (w ((x0.length : Int) - 1))) ((0, ((0, 0), 0)), (0, 0))).1).1))))), .sc (.bool ((decide (x2 < (((List.getD x0 0 ((0, ((0, 0), 0)), (0, 0))).1).1))) || (decide (x2 > (((List.getD x0 (Int.toNat (w ((x0.length : Int) - 1))) ((0, ((0, 0), 0)), (0, 0))).1).1))))), .any, .ros false 34 (.pair (.pair (.int .i64) (.pair (.pair (.int .i64) (.int .i64)) (.int .i64))) (.pair (.int .i64) (.int .i64))) x0, .agg [.sc (.string x1.1), .sc (.int .i64 x1.2.1), .sc (.int .i64 x1.2.2.1), .sc (.string x1.2.2.2)], .sc (.int .i64 x2), .agg [.sc (.string x3.1), .sc (.int .i64 x3.2.1), .sc (.int .i64 x3.2.2.1), .sc (.int .i64 x3.2.2.2.1), .sc (.int .i64 x3.2.2.2.2.1), .sc (.int .i64 x3.2.2.2.2.2.1), .sc (.int .i64 x3.2.2.2.2.2.2)], .agg [.sc (.int .i64 x4.1), .sc (.int .i64 x4.2)], .any, .any, .any, .any, .any, .any, .any, .any, .any, .any], hp⟩ (some 63) (tupOf vs)) (fun S => (seqK (effect_Of.cd N [1, 1, 1, 1, 1, 1, 1]) effect_Of.fin) .normal S))))) .normal S))))))
noncomputable def effect_Of.l1 (N : Nat) (x0 : List ((Int × (Int × Int) × Int) × Int × Int)) (x1 : ByteArray × Int × Int × ByteArray) (x2 : Int) (x3 : ByteArray × Int × Int × Int × Int × Int × Int) (x4 : Int × Int) (r1 : Int) (r2 : Int) (r3 : Int) (r4 : Int) (r5 : (Int × (Int × Int) × Int) × Int × Int) (a8 : List ((Int × (Int × Int) × Int) × Int × Int)) (a9 : List ((Int × (Int × Int) × Int) × Int × Int)) (r10 : Int × Int) (k11 : Nat) (a12 : Int) (a13 : Int) : Option (List ((Int × (Int × Int) × Int) × Int × Int) × Int) :=
  loopN (norm ((effect_Of.E N).keep 3) 15) (effect_Of.cd56_5_15 N [1, 1, 1, 0, 0, 0]) k11
  ⟨[.own 9, .sc (.int .i64 (w (r5.1.1 + r10.1))), .clo 57 [], .any, .any, .any, .any, .any, .sc (.int .i64 (a9.length : Int)), .sc (.int .i64 a12), .sc (.int .i64 a13), .any, .own 9, .sc (.int .i64 (a9.length : Int)), .sc (.int .i64 (a9.length : Int)), .any, .any, .any, .any, .any, .any, .any, .any, .any, .any, .any, .any, .any, .any, .any, .any, .any, .any, .any, .any, .any, .any, .any, .any, .any, .any, .any, .any, .any, .any, .any, .any, .any, .any], [.cells [.sc (.string x1.1), .sc (.int .i64 x1.2.1), .sc (.int .i64 x1.2.2.1), .sc (.string x1.2.2.2)] 39, .cells [.sc (.string x3.1), .sc (.int .i64 x3.2.1), .sc (.int .i64 x3.2.2.1), .sc (.int .i64 x3.2.2.2.1), .sc (.int .i64 x3.2.2.2.2.1), .sc (.int .i64 x3.2.2.2.2.2.1), .sc (.int .i64 x3.2.2.2.2.2.2)] 41, .cells [.sc (.int .i64 x4.1), .sc (.int .i64 x4.2)] 30, .cells [.sc (.string x1.1), .sc (.int .i64 x1.2.1), .sc (.int .i64 x1.2.2.1), .sc (.string x1.2.2.2)] 39, .cells [.sc (.string x3.1), .sc (.int .i64 x3.2.1), .sc (.int .i64 x3.2.2.1), .sc (.int .i64 x3.2.2.2.1), .sc (.int .i64 x3.2.2.2.2.1), .sc (.int .i64 x3.2.2.2.2.2.1), .sc (.int .i64 x3.2.2.2.2.2.2)] 41, .cells [.sc (.int .i64 x4.1), .sc (.int .i64 x4.2)] 30, .cells [.sc (.int .i64 r5.1.1), .sc (.int .i64 r5.1.2.1.1), .sc (.int .i64 r5.1.2.1.2), .sc (.int .i64 r5.1.2.2), .sc (.int .i64 r5.2.1), .sc (.int .i64 r5.2.2), .own 11, .own 9] 70, .cells [.sc (.int .i64 r5.1.1), .sc (.int .i64 r5.1.2.1.1), .sc (.int .i64 r5.1.2.1.2), .sc (.int .i64 r5.1.2.2), .sc (.int .i64 r5.2.1), .sc (.int .i64 r5.2.2), .own 11, .own 9] 70, .dead, .rows true 34 (.pair (.pair (.int .i64) (.pair (.pair (.int .i64) (.int .i64)) (.int .i64))) (.pair (.int .i64) (.int .i64))) a9, .rows true 34 (.pair (.pair (.int .i64) (.pair (.pair (.int .i64) (.int .i64)) (.int .i64))) (.pair (.int .i64) (.int .i64))) [r5], .rows true 34 (.pair (.pair (.int .i64) (.pair (.pair (.int .i64) (.int .i64)) (.int .i64))) (.pair (.int .i64) (.int .i64))) (a8 ++ [r5]), .cells [.sc (.int .i64 r5.1.1), .sc (.int .i64 r5.1.2.1.1), .sc (.int .i64 r5.1.2.1.2), .sc (.int .i64 r5.1.2.2), .sc (.int .i64 r5.2.1), .sc (.int .i64 r5.2.2), .own 11, .own 9] 70, .cells [.sc (.int .i64 r5.1.1), .sc (.int .i64 r5.1.2.1.1), .sc (.int .i64 r5.1.2.1.2), .sc (.int .i64 r5.1.2.2), .sc (.int .i64 r5.2.1), .sc (.int .i64 r5.2.2), .own 11, .own 9] 70, .cells [.sc (.string x3.1), .sc (.int .i64 x3.2.1), .sc (.int .i64 x3.2.2.1), .sc (.int .i64 x3.2.2.2.1), .sc (.int .i64 x3.2.2.2.2.1), .sc (.int .i64 x3.2.2.2.2.2.1), .sc (.int .i64 x3.2.2.2.2.2.2)] 41]⟩
  (blockK 0 (seqK (effect_Of.cd56_5_15 N [1, 1, 1, 1]) (retK Tryd.prog Tryd.f56 (fun vs hp => (reg (effect_Of.E N) Tryd.prog (callD (effect_Of.E N) Tryd.prog 6) (opsAt (codeAt (bodyOf Tryd.f36) [1, 1, 1, 1, 1, 0])) [] (List.drop 3 (opsAt (codeAt (bodyOf Tryd.f36) [1, 1, 1, 1, 1, 0]))) (St.put ⟨[.agg [.sc (.int .i64 r5.1.1), .sc (.int .i64 r5.1.2.1.1), .sc (.int .i64 r5.1.2.1.2), .sc (.int .i64 r5.1.2.2), .sc (.int .i64 r5.2.1), .sc (.int .i64 r5.2.2), .own 11, .own 9], .ros false 34 (.pair (.pair (.int .i64) (.pair (.pair (.int .i64) (.int .i64)) (.int .i64))) (.pair (.int .i64) (.int .i64))) x0, .sc (.int .i64 x1.2.2.1), .agg [.sc (.string x3.1), .sc (.int .i64 x3.2.1), .sc (.int .i64 x3.2.2.1), .sc (.int .i64 x3.2.2.2.1), .sc (.int .i64 x3.2.2.2.2.1), .sc (.int .i64 x3.2.2.2.2.2.1), .sc (.int .i64 x3.2.2.2.2.2.2)], .ptr 13 0, .any, .any, .ptr 14 0, .sc (.slice none 0 0), .sc (.int .i64 0), .sc (.int .i64 r10.1), .sc (.int .i64 r10.2), .sc (.int .i64 (w (r5.1.1 + r10.1))), .own 9, .any, .any, .any, .any, .any, .tup [.sc (.int .i64 r10.1), .sc (.int .i64 r10.2)], .agg [.sc (.string x3.1), .sc (.int .i64 x3.2.1), .sc (.int .i64 x3.2.2.1), .sc (.int .i64 x3.2.2.2.1), .sc (.int .i64 x3.2.2.2.2.1), .sc (.int .i64 x3.2.2.2.2.2.1), .sc (.int .i64 x3.2.2.2.2.2.2)], .ptr 13 0, .ptr 13 0, .ptr 13 3, .sc (.int .i64 r5.1.2.2), .sc (.int .i64 x1.2.2.1), .tup [.sc (.int .i64 r10.1), .sc (.int .i64 r10.2)], .sc (.int .i64 r10.1), .sc (.int .i64 r10.2), .sc (.int .i64 r10.2), .sc (.bool (!(r10.2 == 0))), .any, .ptr 13 0, .ptr 13 0, .ptr 13 0, .sc (.int .i64 r5.1.1), .sc (.int .i64 r10.1), .sc (.int .i64 (w (r5.1.1 + r10.1))), .ptr 13 7, .own 9, .any, .own 9, .sc (.int .i64 (w (r5.1.1 + r10.1))), .any, .any, .any, .any, .any, .any, .any, .any, .any, .any, .any, .any, .any, .any, .any, .any, .any, .any, .any, .any, .any, .any, .any, .any, .any, .any, .any, .any, .any, .any, .any, .any, .any, .any, .any, .any, .any, .any, .any, .any, .any, .any, .any, .any, .any, .any, .any, .any, .any, .any, .any, .any, .any, .any, .any, .any, .any, .any, .any, .any, .any, .any, .any, .any, .any, .any, .any, .any, .any], hp⟩ (some 43) (tupOf vs)) (fun S => (seqK (effect_Of.cd36_6_13 N [1, 1, 1, 1, 1, 1]) (retK Tryd.prog Tryd.f36 (fun vs hp => (reg (effect_Of.E N) Tryd.prog (callD (effect_Of.E N) Tryd.prog 7) (opsAt (codeAt (bodyOf Tryd.f23) [1, 1, 0, 0, 1, 0, 0])) [] (List.drop 6 (opsAt (codeAt (bodyOf Tryd.f23) [1, 1, 0, 0, 1, 0, 0]))) (St.put ⟨[.ros false 34 (.pair (.pair (.int .i64) (.pair (.pair (.int .i64) (.int .i64)) (.int .i64))) (.pair (.int .i64) (.int .i64))) x0, .agg [.sc (.string x1.1), .sc (.int .i64 x1.2.1), .sc (.int .i64 x1.2.2.1), .sc (.string x1.2.2.2)], .sc (.int .i64 x2), .agg [.sc (.string x3.1), .sc (.int .i64 x3.2.1), .sc (.int .i64 x3.2.2.1), .sc (.int .i64 x3.2.2.2.1), .sc (.int .i64 x3.2.2.2.2.1), .sc (.int .i64 x3.2.2.2.2.2.1), .sc (.int .i64 x3.2.2.2.2.2.2)], .agg [.sc (.int .i64 x4.1), .sc (.int .i64 x4.2)], .any, .ptr 3 0, .any, .ptr 4 0, .ptr 5 0, .sc (.slice none 0 0), .sc (.int .i64 0), .ptr 12 0, .ros false 34 (.pair (.pair (.int .i64) (.pair (.pair (.int .i64) (.int .i64)) (.int .i64))) (.pair (.int .i64) (.int .i64))) x0, .sc (.int .i64 x2), .agg [.sc (.int .i64 r5.1.1), .sc (.int .i64 r5.1.2.1.1), .sc (.int .i64 r5.1.2.1.2), .sc (.int .i64 r5.1.2.2), .sc (.int .i64 r5.2.1), .sc (.int .i64 r5.2.2), .own 11, .own 9], .sc (.bool (x1.2.1 == 0)), .ptr 3 1, .sc (.int .i64 x1.2.1), .sc (.bool (x1.2.1 == 0)), .agg [.sc (.int .i64 r5.1.1), .sc (.int .i64 r5.1.2.1.1), .sc (.int .i64 r5.1.2.1.2), .sc (.int .i64 r5.1.2.2), .sc (.int .i64 r5.2.1), .sc (.int .i64 r5.2.2), .own 11, .own 9], .ros false 34 (.pair (.pair (.int .i64) (.pair (.pair (.int .i64) (.int .i64)) (.int .i64))) (.pair (.int .i64) (.int .i64))) x0, .ptr 3 2, .sc (.int .i64 x1.2.2.1), .agg [.sc (.string x3.1), .sc (.int .i64 x3.2.1), .sc (.int .i64 x3.2.2.1), .sc (.int .i64 x3.2.2.2.1), .sc (.int .i64 x3.2.2.2.2.1), .sc (.int .i64 x3.2.2.2.2.2.1), .sc (.int .i64 x3.2.2.2.2.2.2)], .any, .any, .any, .any, .any, .any, .any, .any, .any, .any, .any, .any, .any, .any, .any, .any, .any, .any, .any, .any, .any, .any, .any, .any, .any, .any, .any, .any, .any, .any, .any, .any, .any, .any, .any, .any, .any, .any, .any, .any, .any], hp⟩ (some 25) (tupOf vs)) (fun S => (seqK (effect_Of.cd23_7_3 N [1, 1, 0, 0, 1, 0, 1]) (blockK 0 (seqK (effect_Of.cd23_7_3 N [1, 1, 1]) (retK Tryd.prog Tryd.f23 (fun vs hp => (reg (effect_Of.E N) Tryd.prog (callD (effect_Of.E N) Tryd.prog 8) (opsAt (codeAt (bodyOf Tryd.f9) [1, 1, 1, 1, 1, 1, 0])) [] (List.drop 6 (opsAt (codeAt (bodyOf Tryd.f9) [1, 1, 1, 1, 1, 1, 0]))) (St.put ⟨[.ros false 34 (.pair (.pair (.int .i64) (.pair (.pair (.int .i64) (.int .i64)) (.int .i64))) (.pair (.int .i64) (.int .i64))) x0, .agg [.sc (.string x1.1), .sc (.int .i64 x1.2.1), .sc (.int .i64 x1.2.2.1), .sc (.string x1.2.2.2)], .sc (.int .i64 x2), .agg [.sc (.string x3.1), .sc (.int .i64 x3.2.1), .sc (.int .i64 x3.2.2.1), .sc (.int .i64 x3.2.2.2.1), .sc (.int .i64 x3.2.2.2.2.1), .sc (.int .i64 x3.2.2.2.2.2.1), .sc (.int .i64 x3.2.2.2.2.2.2)], .agg [.sc (.int .i64 x4.1), .sc (.int .i64 x4.2)], .any, .ptr 0 0, .any, .ptr 1 0, .ptr 2 0, .sc (.slice none 0 0), .sc (.int .i64 0), .sc (.int .i64 r1), .sc (.int .i64 r2), .sc (.int .i64 r3), .sc (.int .i64 r4), .any, .any, .ros false 34 (.pair (.pair (.int .i64) (.pair (.pair (.int .i64) (.int .i64)) (.int .i64))) (.pair (.int .i64) (.int .i64))) x0, .sc (.int .i64 r1), .sc (.int .i64 r1), .sc (.bool (!(r1 == 0))), .any, .agg [.sc (.string x1.1), .sc (.int .i64 x1.2.1), .sc (.int .i64 x1.2.2.1), .sc (.string x1.2.2.2)], .sc (.int .i64 r2), .sc (.int .i64 r2), .sc (.bool (!(r2 == 0))), .any, .agg [.sc (.string x3.1), .sc (.int .i64 x3.2.1), .sc (.int .i64 x3.2.2.1), .sc (.int .i64 x3.2.2.2.1), .sc (.int .i64 x3.2.2.2.2.1), .sc (.int .i64 x3.2.2.2.2.2.1), .sc (.int .i64 x3.2.2.2.2.2.2)], .sc (.int .i64 r3), .sc (.int .i64 r3), .sc (.bool (!(r3 == 0))), .any, .agg [.sc (.int .i64 x4.1), .sc (.int .i64 x4.2)], .sc (.int .i64 r4), .sc (.int .i64 r4), .sc (.bool (!(r4 == 0))), .any, .sc (.int .i64 x2), .ros false 34 (.pair (.pair (.int .i64) (.pair (.pair (.int .i64) (.int .i64)) (.int .i64))) (.pair (.int .i64) (.int .i64))) x0, .rop false (.pair (.pair (.int .i64) (.pair (.pair (.int .i64) (.int .i64)) (.int .i64))) (.pair (.int .i64) (.int .i64))) (List.getD x0 0 ((0, ((0, 0), 0)), (0, 0))) 0, .rop false (.pair (.pair (.int .i64) (.pair (.pair (.int .i64) (.int .i64)) (.int .i64))) (.pair (.int .i64) (.int .i64))) (List.getD x0 0 ((0, ((0, 0), 0)), (0, 0))) 0, .rop false (.pair (.pair (.int .i64) (.pair (.pair (.int .i64) (.int .i64)) (.int .i64))) (.pair (.int .i64) (.int .i64))) (List.getD x0 0 ((0, ((0, 0), 0)), (0, 0))) 0, .sc (.int .i64 (((List.getD x0 0 ((0, ((0, 0), 0)), (0, 0))).1).1)), .sc (.bool (decide (x2 < (((List.getD x0 0 ((0, ((0, 0), 0)), (0, 0))).1).1)))), .sc (.bool (decide (x2 < (((List.getD x0 0 ((0, ((0, 0), 0)), (0, 0))).1).1)))), .gd (!(decide (x2 < (((List.getD x0 0 ((0, ((0, 0), 0)), (0, 0))).1).1)))) (.sc (.int .i64 x2)), .gd (!(decide (x2 < (((List.getD x0 0 ((0, ((0, 0), 0)), (0, 0))).1).1)))) (.ros false 34 (.pair (.pair (.int .i64) (.pair (.pair (.int .i64) (.int .i64)) (.int .i64))) (.pair (.int .i64) (.int .i64))) x0), .gd (!(decide (x2 < (((List.getD x0 0 ((0, ((0, 0), 0)), (0, 0))).1).1)))) (.ros false 34 (.pair (.pair (.int .i64) (.pair (.pair (.int .i64) (.int .i64)) (.int .i64))) (.pair (.int .i64) (.int .i64))) x0), .gd (!(decide (x2 < (((List.getD x0 0 ((0, ((0, 0), 0)), (0, 0))).1).1)))) (.sc (.int .i64 (x0.length : Int))), .gd (!(decide (x2 < (((List.getD x0 0 ((0, ((0, 0), 0)), (0, 0))).1).1)))) (.sc (.int .i64 (w ((x0.length : Int) - 1)))), .gd (!(decide (x2 < (((List.getD x0 0 ((0, ((0, 0), 0)), (0, 0))).1).1)))) (.rop false (.pair (.pair (.int .i64) (.pair (.pair (.int .i64) (.int .i64)) (.int .i64))) (.pair (.int .i64) (.int .i64))) (List.getD x0 (Int.toNat (w ((x0.length : Int) - 1))) ((0, ((0, 0), 0)), (0, 0))) 0), .gd (!(decide (x2 < (((List.getD x0 0 ((0, ((0, 0), 0)), (0, 0))).1).1)))) (.rop false (.pair (.pair (.int .i64) (.pair (.pair (.int .i64) (.int .i64)) (.int .i64))) (.pair (.int .i64) (.int .i64))) (List.getD x0 (Int.toNat (w ((x0.length : Int) - 1))) ((0, ((0, 0), 0)), (0, 0))) 0), .gd (!(decide (x2 < (((List.getD x0 0 ((0, ((0, 0), 0)), (0, 0))).1).1)))) (.rop false (.pair (.pair (.int .i64) (.pair (.pair (.int .i64) (.int .i64)) (.int .i64))) (.pair (.int .i64) (.int .i64))) (List.getD x0 (Int.toNat (w ((x0.length : Int) - 1))) ((0, ((0, 0), 0)), (0, 0))) 0), .gd (!(decide (x2 < (((List.getD x0 0 ((0, ((0, 0), 0)), (0, 0))).1).1)))) (.sc (.int .i64 (((List.getD x0 (Int.toNat (w ((x0.length : Int) - 1))) ((0, ((0, 0), 0)), (0, 0))).1).1))), .gd (!(decide (x2 < (((List.getD x0 0 ((0, ((0, 0), 0)), (0, 0))).1).1)))) (.sc (.bool (decide (x2 > (((List.getD x0 (Int.toNat (w ((x0.length : Int) - 1))) ((0, ((0, 0), 0)), (0, 0))).1).1))))), .sc (.bool ((decide (x2 < (((List.getD x0 0 ((0, ((0, 0), 0)), (0, 0))).1).1))) || (decide (x2 > (((List.getD x0 (Int.toNat (w ((x0.length : Int) - 1))) ((0, ((0, 0), 0)), (0, 0))).1).1))))), .any, .ros false 34 (.pair (.pair (.int .i64) (.pair (.pair (.int .i64) (.int .i64)) (.int .i64))) (.pair (.int .i64) (.int .i64))) x0, .agg [.sc (.string x1.1), .sc (.int .i64 x1.2.1), .sc (.int .i64 x1.2.2.1), .sc (.string x1.2.2.2)], .sc (.int .i64 x2), .agg [.sc (.string x3.1), .sc (.int .i64 x3.2.1), .sc (.int .i64 x3.2.2.1), .sc (.int .i64 x3.2.2.2.1), .sc (.int .i64 x3.2.2.2.2.1), .sc (.int .i64 x3.2.2.2.2.2.1), .sc (.int .i64 x3.2.2.2.2.2.2)], .agg [.sc (.int .i64 x4.1), .sc (.int .i64 x4.2)], .any, .any, .any, .any, .any, .any, .any, .any, .any, .any], hp⟩ (some 63) (tupOf vs)) (fun S => (seqK (effect_Of.cd N [1, 1, 1, 1, 1, 1, 1]) effect_Of.fin) .normal S))))))) .normal S))))) .normal S))))))
noncomputable def effect_Of.l2 (N : Nat) (x0 : List ((Int × (Int × Int) × Int) × Int × Int)) (x1 : ByteArray × Int × Int × ByteArray) (x2 : Int) (x3 : ByteArray × Int × Int × Int × Int × Int × Int) (x4 : Int × Int) (r1 : Int) (r2 : Int) (r3 : Int) (r4 : Int) (r5 : (Int × (Int × Int) × Int) × Int × Int) (a9 : List ((Int × (Int × Int) × Int) × Int × Int)) (r10 : Int × Int) (a12 : Int) (r16 : List ((Int × (Int × Int) × Int) × Int × Int)) (r17 : (Int × (Int × Int) × Int) × Int × Int) (k18 : Nat) (a19 : Int) (a20 : List ((Int × (Int × Int) × Int) × Int × Int)) : Option (List ((Int × (Int × Int) × Int) × Int × Int) × Int) :=
  loopN (norm ((effect_Of.E N).keep 11) 13) (effect_Of.cd36_6_13 N [1, 1, 1, 1, 1, 1, 1, 1, 0, 1, 0, 0]) k18
  ⟨[.any, .any, .sc (.int .i64 x1.2.2.1), .any, .ptr 13 0, .any, .any, .any, .any, .any, .sc (.int .i64 r10.1), .any, .sc (.int .i64 (w (r5.1.1 + r10.1))), .any, .any, .any, .own 14, .any, .any, .any, .any, .any, .any, .any, .any, .any, .any, .any, .any, .any, .any, .any, .any, .any, .any, .any, .any, .any, .any, .any, .any, .any, .any, .any, .any, .any, .any, .any, .any, .any, .any, .any, .any, .any, .any, .any, .any, .any, .any, .any, .any, .any, .any, .any, .any, .any, .any, .any, .own 15, .sc (.int .i64 (((List.take (Int.toNat a12) r16) ++ [r17] ++ (List.drop (Int.toNat a12) r16)).length : Int)), .sc (.int .i64 a19), .any, .any, .any, .any, .any, .any, .any, .any, .any, .any, .any, .any, .any, .any, .any, .any, .any, .any, .any, .any, .any, .any, .any, .any, .any, .any, .any, .any, .any, .any, .any, .any, .any, .any, .any, .any, .any, .any, .any, .any, .any], [.cells [.sc (.string x1.1), .sc (.int .i64 x1.2.1), .sc (.int .i64 x1.2.2.1), .sc (.string x1.2.2.2)] 39, .cells [.sc (.string x3.1), .sc (.int .i64 x3.2.1), .sc (.int .i64 x3.2.2.1), .sc (.int .i64 x3.2.2.2.1), .sc (.int .i64 x3.2.2.2.2.1), .sc (.int .i64 x3.2.2.2.2.2.1), .sc (.int .i64 x3.2.2.2.2.2.2)] 41, .cells [.sc (.int .i64 x4.1), .sc (.int .i64 x4.2)] 30, .cells [.sc (.string x1.1), .sc (.int .i64 x1.2.1), .sc (.int .i64 x1.2.2.1), .sc (.string x1.2.2.2)] 39, .cells [.sc (.string x3.1), .sc (.int .i64 x3.2.1), .sc (.int .i64 x3.2.2.1), .sc (.int .i64 x3.2.2.2.1), .sc (.int .i64 x3.2.2.2.2.1), .sc (.int .i64 x3.2.2.2.2.2.1), .sc (.int .i64 x3.2.2.2.2.2.2)] 41, .cells [.sc (.int .i64 x4.1), .sc (.int .i64 x4.2)] 30, .cells [.sc (.int .i64 r5.1.1), .sc (.int .i64 r5.1.2.1.1), .sc (.int .i64 r5.1.2.1.2), .sc (.int .i64 r5.1.2.2), .sc (.int .i64 r5.2.1), .sc (.int .i64 r5.2.2), .own 11, .own 9] 70, .cells [.sc (.int .i64 r5.1.1), .sc (.int .i64 r5.1.2.1.1), .sc (.int .i64 r5.1.2.1.2), .sc (.int .i64 r5.1.2.2), .sc (.int .i64 r5.2.1), .sc (.int .i64 r5.2.2), .own 11, .own 9] 70, .dead, .rows true 34 (.pair (.pair (.int .i64) (.pair (.pair (.int .i64) (.int .i64)) (.int .i64))) (.pair (.int .i64) (.int .i64))) a9, .rows true 34 (.pair (.pair (.int .i64) (.pair (.pair (.int .i64) (.int .i64)) (.int .i64))) (.pair (.int .i64) (.int .i64))) [r5], .dead, .cells [.sc (.int .i64 r5.1.1), .sc (.int .i64 r5.1.2.1.1), .sc (.int .i64 r5.1.2.1.2), .sc (.int .i64 r5.1.2.2), .sc (.int .i64 r5.2.1), .sc (.int .i64 r5.2.2), .own 11, .own 9] 70, .cells [.sc (.int .i64 r5.1.1), .sc (.int .i64 r5.1.2.1.1), .sc (.int .i64 r5.1.2.1.2), .sc (.int .i64 r5.1.2.2), .sc (.int .i64 r5.2.1), .sc (.int .i64 r5.2.2), .any, .own 9] 70, .rows true 34 (.pair (.pair (.int .i64) (.pair (.pair (.int .i64) (.int .i64)) (.int .i64))) (.pair (.int .i64) (.int .i64))) a20, .rows true 34 (.pair (.pair (.int .i64) (.pair (.pair (.int .i64) (.int .i64)) (.int .i64))) (.pair (.int .i64) (.int .i64))) ((List.take (Int.toNat a12) r16) ++ [r17] ++ (List.drop (Int.toNat a12) r16))]⟩
  (blockK 0 (seqK (effect_Of.cd36_6_13 N [1, 1, 1, 1, 1, 1, 1, 1, 1]) (retK Tryd.prog Tryd.f36 (fun vs hp => (reg (effect_Of.E N) Tryd.prog (callD (effect_Of.E N) Tryd.prog 7) (opsAt (codeAt (bodyOf Tryd.f23) [1, 1, 0, 0, 1, 0, 0])) [] (List.drop 6 (opsAt (codeAt (bodyOf Tryd.f23) [1, 1, 0, 0, 1, 0, 0]))) (St.put ⟨[.ros false 34 (.pair (.pair (.int .i64) (.pair (.pair (.int .i64) (.int .i64)) (.int .i64))) (.pair (.int .i64) (.int .i64))) x0, .agg [.sc (.string x1.1), .sc (.int .i64 x1.2.1), .sc (.int .i64 x1.2.2.1), .sc (.string x1.2.2.2)], .sc (.int .i64 x2), .agg [.sc (.string x3.1), .sc (.int .i64 x3.2.1), .sc (.int .i64 x3.2.2.1), .sc (.int .i64 x3.2.2.2.1), .sc (.int .i64 x3.2.2.2.2.1), .sc (.int .i64 x3.2.2.2.2.2.1), .sc (.int .i64 x3.2.2.2.2.2.2)], .agg [.sc (.int .i64 x4.1), .sc (.int .i64 x4.2)], .any, .ptr 3 0, .any, .ptr 4 0, .ptr 5 0, .sc (.slice none 0 0), .sc (.int .i64 0), .ptr 12 0, .ros false 34 (.pair (.pair (.int .i64) (.pair (.pair (.int .i64) (.int .i64)) (.int .i64))) (.pair (.int .i64) (.int .i64))) x0, .sc (.int .i64 x2), .agg [.sc (.int .i64 r5.1.1), .sc (.int .i64 r5.1.2.1.1), .sc (.int .i64 r5.1.2.1.2), .sc (.int .i64 r5.1.2.2), .sc (.int .i64 r5.2.1), .sc (.int .i64 r5.2.2), .own 11, .own 9], .sc (.bool (x1.2.1 == 0)), .ptr 3 1, .sc (.int .i64 x1.2.1), .sc (.bool (x1.2.1 == 0)), .agg [.sc (.int .i64 r5.1.1), .sc (.int .i64 r5.1.2.1.1), .sc (.int .i64 r5.1.2.1.2), .sc (.int .i64 r5.1.2.2), .sc (.int .i64 r5.2.1), .sc (.int .i64 r5.2.2), .own 11, .own 9], .ros false 34 (.pair (.pair (.int .i64) (.pair (.pair (.int .i64) (.int .i64)) (.int .i64))) (.pair (.int .i64) (.int .i64))) x0, .ptr 3 2, .sc (.int .i64 x1.2.2.1), .agg [.sc (.string x3.1), .sc (.int .i64 x3.2.1), .sc (.int .i64 x3.2.2.1), .sc (.int .i64 x3.2.2.2.1), .sc (.int .i64 x3.2.2.2.2.1), .sc (.int .i64 x3.2.2.2.2.2.1), .sc (.int .i64 x3.2.2.2.2.2.2)], .any, .any, .any, .any, .any, .any, .any, .any, .any, .any, .any, .any, .any, .any, .any, .any, .any, .any, .any, .any, .any, .any, .any, .any, .any, .any, .any, .any, .any, .any, .any, .any, .any, .any, .any, .any, .any, .any, .any, .any, .any], hp⟩ (some 25) (tupOf vs)) (fun S => (seqK (effect_Of.cd23_7_3 N [1, 1, 0, 0, 1, 0, 1]) (blockK 0 (seqK (effect_Of.cd23_7_3 N [1, 1, 1]) (retK Tryd.prog Tryd.f23 (fun vs hp => (reg (effect_Of.E N) Tryd.prog (callD (effect_Of.E N) Tryd.prog 8) (opsAt (codeAt (bodyOf Tryd.f9) [1, 1, 1, 1, 1, 1, 0])) [] (List.drop 6 (opsAt (codeAt (bodyOf Tryd.f9) [1, 1, 1, 1, 1, 1, 0]))) (St.put ⟨[.ros false 34 (.pair (.pair (.int .i64) (.pair (.pair (.int .i64) (.int .i64)) (.int .i64))) (.pair (.int .i64) (.int .i64))) x0, .agg [.sc (.string x1.1), .sc (.int .i64 x1.2.1), .sc (.int .i64 x1.2.2.1), .sc (.string x1.2.2.2)], .sc (.int .i64 x2), .agg [.sc (.string x3.1), .sc (.int .i64 x3.2.1), .sc (.int .i64 x3.2.2.1), .sc (.int .i64 x3.2.2.2.1), .sc (.int .i64 x3.2.2.2.2.1), .sc (.int .i64 x3.2.2.2.2.2.1), .sc (.int .i64 x3.2.2.2.2.2.2)], .agg [.sc (.int .i64 x4.1), .sc (.int .i64 x4.2)], .any, .ptr 0 0, .any, .ptr 1 0, .ptr 2 0, .sc (.slice none 0 0), .sc (.int .i64 0), .sc (.int .i64 r1), .sc (.int .i64 r2), .sc (.int .i64 r3), .sc (.int .i64 r4), .any, .any, .ros false 34 (.pair (.pair (.int .i64) (.pair (.pair (.int .i64) (.int .i64)) (.int .i64))) (.pair (.int .i64) (.int .i64))) x0, .sc (.int .i64 r1), .sc (.int .i64 r1), .sc (.bool (!(r1 == 0))), .any, .agg [.sc (.string x1.1), .sc (.int .i64 x1.2.1), .sc (.int .i64 x1.2.2.1), .sc (.string x1.2.2.2)], .sc (.int .i64 r2), .sc (.int .i64 r2), .sc (.bool (!(r2 == 0))), .any, .agg [.sc (.string x3.1), .sc (.int .i64 x3.2.1), .sc (.int .i64 x3.2.2.1), .sc (.int .i64 x3.2.2.2.1), .sc (.int .i64 x3.2.2.2.2.1), .sc (.int .i64 x3.2.2.2.2.2.1), .sc (.int .i64 x3.2.2.2.2.2.2)], .sc (.int .i64 r3), .sc (.int .i64 r3), .sc (.bool (!(r3 == 0))), .any, .agg [.sc (.int .i64 x4.1), .sc (.int .i64 x4.2)], .sc (.int .i64 r4), .sc (.int .i64 r4), .sc (.bool (!(r4 == 0))), .any, .sc (.int .i64 x2), .ros false 34 (.pair (.pair (.int .i64) (.pair (.pair (.int .i64) (.int .i64)) (.int .i64))) (.pair (.int .i64) (.int .i64))) x0, .rop false (.pair (.pair (.int .i64) (.pair (.pair (.int .i64) (.int .i64)) (.int .i64))) (.pair (.int .i64) (.int .i64))) (List.getD x0 0 ((0, ((0, 0), 0)), (0, 0))) 0, .rop false (.pair (.pair (.int .i64) (.pair (.pair (.int .i64) (.int .i64)) (.int .i64))) (.pair (.int .i64) (.int .i64))) (List.getD x0 0 ((0, ((0, 0), 0)), (0, 0))) 0, .rop false (.pair (.pair (.int .i64) (.pair (.pair (.int .i64) (.int .i64)) (.int .i64))) (.pair (.int .i64) (.int .i64))) (List.getD x0 0 ((0, ((0, 0), 0)), (0, 0))) 0, .sc (.int .i64 (((List.getD x0 0 ((0, ((0, 0), 0)), (0, 0))).1).1)), .sc (.bool (decide (x2 < (((List.getD x0 0 ((0, ((0, 0), 0)), (0, 0))).1).1)))), .sc (.bool (decide (x2 < (((List.getD x0 0 ((0, ((0, 0), 0)), (0, 0))).1).1)))), .gd (!(decide (x2 < (((List.getD x0 0 ((0, ((0, 0), 0)), (0, 0))).1).1)))) (.sc (.int .i64 x2)), .gd (!(decide (x2 < (((List.getD x0 0 ((0, ((0, 0), 0)), (0, 0))).1).1)))) (.ros false 34 (.pair (.pair (.int .i64) (.pair (.pair (.int .i64) (.int .i64)) (.int .i64))) (.pair (.int .i64) (.int .i64))) x0), .gd (!(decide (x2 < (((List.getD x0 0 ((0, ((0, 0), 0)), (0, 0))).1).1)))) (.ros false 34 (.pair (.pair (.int .i64) (.pair (.pair (.int .i64) (.int .i64)) (.int .i64))) (.pair (.int .i64) (.int .i64))) x0), .gd (!(decide (x2 < (((List.getD x0 0 ((0, ((0, 0), 0)), (0, 0))).1).1)))) (.sc (.int .i64 (x0.length : Int))), .gd (!(decide (x2 < (((List.getD x0 0 ((0, ((0, 0), 0)), (0, 0))).1).1)))) (.sc (.int .i64 (w ((x0.length : Int) - 1)))), .gd (!(decide (x2 < (((List.getD x0 0 ((0, ((0, 0), 0)), (0, 0))).1).1)))) (.rop false (.pair (.pair (.int .i64) (.pair (.pair (.int .i64) (.int .i64)) (.int .i64))) (.pair (.int .i64) (.int .i64))) (List.getD x0 (Int.toNat (w ((x0.length : Int) - 1))) ((0, ((0, 0), 0)), (0, 0))) 0), .gd (!(decide (x2 < (((List.getD x0 0 ((0, ((0, 0), 0)), (0, 0))).1).1)))) (.rop false (.pair (.pair (.int .i64) (.pair (.pair (.int .i64) (.int .i64)) (.int .i64))) (.pair (.int .i64) (.int .i64))) (List.getD x0 (Int.toNat (w ((x0.length : Int) - 1))) ((0, ((0, 0), 0)), (0, 0))) 0), .gd (!(decide (x2 < (((List.getD x0 0 ((0, ((0, 0), 0)), (0, 0))).1).1)))) (.rop false (.pair (.pair (.int .i64) (.pair (.pair (.int .i64) (.int .i64)) (.int .i64))) (.pair (.int .i64) (.int .i64))) (List.getD x0 (Int.toNat (w ((x0.length : Int) - 1))) ((0, ((0, 0), 0)), (0, 0))) 0), .gd (!(decide (x2 < (((List.getD x0 0 ((0, ((0, 0), 0)), (0, 0))).1).1)))) (.sc (.int .i64 (((List.getD x0 (Int.toNat (w ((x0.length : Int) - 1))) ((0, ((0, 0), 0)), (0, 0))).1).1))), .gd (!(decide (x2 < (((List.getD x0 0 ((0, ((0, 0), 0)), (0, 0))).1).1)))) (.sc (.bool (decide (x2 > (((List.getD x0 (Int.toNat (w ((x0.length : Int) - 1))) ((0, ((0, 0), 0)), (0, 0))).1).1))))), .sc (.bool ((decide (x2 < (((List.getD x0 0 ((0, ((0, 0), 0)), (0, 0))).1).1))) || (decide (x2 > (((List.getD x0 (Int.toNat (w ((x0.length : Int) - 1))) ((0, ((0, 0), 0)), (0, 0))).1).1))))), .any, .ros false 34 (.pair (.pair (.int .i64) (.pair (.pair (.int .i64) (.int .i64)) (.int .i64))) (.pair (.int .i64) (.int .i64))) x0, .agg [.sc (.string x1.1), .sc (.int .i64 x1.2.1), .sc (.int .i64 x1.2.2.1), .sc (.string x1.2.2.2)], .sc (.int .i64 x2), .agg [.sc (.string x3.1), .sc (.int .i64 x3.2.1), .sc (.int .i64 x3.2.2.1), .sc (.int .i64 x3.2.2.2.1), .sc (.int .i64 x3.2.2.2.2.1), .sc (.int .i64 x3.2.2.2.2.2.1), .sc (.int .i64 x3.2.2.2.2.2.2)], .agg [.sc (.int .i64 x4.1), .sc (.int .i64 x4.2)], .any, .any, .any, .any, .any, .any, .any, .any, .any, .any], hp⟩ (some 63) (tupOf vs)) (fun S => (seqK (effect_Of.cd N [1, 1, 1, 1, 1, 1, 1]) effect_Of.fin) .normal S))))))) .normal S))))))
noncomputable def effect_Of.l3 (N : Nat) (x0 : List ((Int × (Int × Int) × Int) × Int × Int)) (x1 : ByteArray × Int × Int × ByteArray) (x2 : Int) (x3 : ByteArray × Int × Int × Int × Int × Int × Int) (x4 : Int × Int) (r1 : Int) (r2 : Int) (r3 : Int) (r4 : Int) (r5 : (Int × (Int × Int) × Int) × Int × Int) (a9 : List ((Int × (Int × Int) × Int) × Int × Int)) (r10 : Int × Int) (k22 : Nat) (a23 : Int) (a24 : List ((Int × (Int × Int) × Int) × Int × Int)) : Option (List ((Int × (Int × Int) × Int) × Int × Int) × Int) :=
  loopN (norm ((effect_Of.E N).keep 11) 13) (effect_Of.cd36_6_13 N [1, 1, 1, 1, 1, 1, 1, 1, 0, 1, 0, 0]) k22
  ⟨[.any, .any, .sc (.int .i64 x1.2.2.1), .any, .ptr 13 0, .any, .any, .any, .any, .any, .sc (.int .i64 r10.1), .any, .sc (.int .i64 (w (r5.1.1 + r10.1))), .any, .any, .any, .own 14, .any, .any, .any, .any, .any, .any, .any, .any, .any, .any, .any, .any, .any, .any, .any, .any, .any, .any, .any, .any, .any, .any, .any, .any, .any, .any, .any, .any, .any, .any, .any, .any, .any, .any, .any, .any, .any, .any, .any, .any, .any, .any, .any, .any, .any, .any, .any, .any, .any, .any, .any, .own 9, .sc (.int .i64 (a9.length : Int)), .sc (.int .i64 a23), .any, .any, .any, .any, .any, .any, .any, .any, .any, .any, .any, .any, .any, .any, .any, .any, .any, .any, .any, .any, .any, .any, .any, .any, .any, .any, .any, .any, .any, .any, .any, .any, .any, .any, .any, .any, .any, .any, .any, .any, .any], [.cells [.sc (.string x1.1), .sc (.int .i64 x1.2.1), .sc (.int .i64 x1.2.2.1), .sc (.string x1.2.2.2)] 39, .cells [.sc (.string x3.1), .sc (.int .i64 x3.2.1), .sc (.int .i64 x3.2.2.1), .sc (.int .i64 x3.2.2.2.1), .sc (.int .i64 x3.2.2.2.2.1), .sc (.int .i64 x3.2.2.2.2.2.1), .sc (.int .i64 x3.2.2.2.2.2.2)] 41, .cells [.sc (.int .i64 x4.1), .sc (.int .i64 x4.2)] 30, .cells [.sc (.string x1.1), .sc (.int .i64 x1.2.1), .sc (.int .i64 x1.2.2.1), .sc (.string x1.2.2.2)] 39, .cells [.sc (.string x3.1), .sc (.int .i64 x3.2.1), .sc (.int .i64 x3.2.2.1), .sc (.int .i64 x3.2.2.2.1), .sc (.int .i64 x3.2.2.2.2.1), .sc (.int .i64 x3.2.2.2.2.2.1), .sc (.int .i64 x3.2.2.2.2.2.2)] 41, .cells [.sc (.int .i64 x4.1), .sc (.int .i64 x4.2)] 30, .cells [.sc (.int .i64 r5.1.1), .sc (.int .i64 r5.1.2.1.1), .sc (.int .i64 r5.1.2.1.2), .sc (.int .i64 r5.1.2.2), .sc (.int .i64 r5.2.1), .sc (.int .i64 r5.2.2), .own 11, .own 9] 70, .cells [.sc (.int .i64 r5.1.1), .sc (.int .i64 r5.1.2.1.1), .sc (.int .i64 r5.1.2.1.2), .sc (.int .i64 r5.1.2.2), .sc (.int .i64 r5.2.1), .sc (.int .i64 r5.2.2), .own 11, .own 9] 70, .dead, .rows true 34 (.pair (.pair (.int .i64) (.pair (.pair (.int .i64) (.int .i64)) (.int .i64))) (.pair (.int .i64) (.int .i64))) a9, .rows true 34 (.pair (.pair (.int .i64) (.pair (.pair (.int .i64) (.int .i64)) (.int .i64))) (.pair (.int .i64) (.int .i64))) [r5], .dead, .cells [.sc (.int .i64 r5.1.1), .sc (.int .i64 r5.1.2.1.1), .sc (.int .i64 r5.1.2.1.2), .sc (.int .i64 r5.1.2.2), .sc (.int .i64 r5.2.1), .sc (.int .i64 r5.2.2), .own 11, .own 9] 70, .cells [.sc (.int .i64 r5.1.1), .sc (.int .i64 r5.1.2.1.1), .sc (.int .i64 r5.1.2.1.2), .sc (.int .i64 r5.1.2.2), .sc (.int .i64 r5.2.1), .sc (.int .i64 r5.2.2), .any, .own 9] 70, .rows true 34 (.pair (.pair (.int .i64) (.pair (.pair (.int .i64) (.int .i64)) (.int .i64))) (.pair (.int .i64) (.int .i64))) a24]⟩
  (blockK 0 (seqK (effect_Of.cd36_6_13 N [1, 1, 1, 1, 1, 1, 1, 1, 1]) (retK Tryd.prog Tryd.f36 (fun vs hp => (reg (effect_Of.E N) Tryd.prog (callD (effect_Of.E N) Tryd.prog 7) (opsAt (codeAt (bodyOf Tryd.f23) [1, 1, 0, 0, 1, 0, 0])) [] (List.drop 6 (opsAt (codeAt (bodyOf Tryd.f23) [1, 1, 0, 0, 1, 0, 0]))) (St.put ⟨[.ros false 34 (.pair (.pair (.int .i64) (.pair (.pair (.int .i64) (.int .i64)) (.int .i64))) (.pair (.int .i64) (.int .i64))) x0, .agg [.sc (.string x1.1), .sc (.int .i64 x1.2.1), .sc (.int .i64 x1.2.2.1), .sc (.string x1.2.2.2)], .sc (.int .i64 x2), .agg [.sc (.string x3.1), .sc (.int .i64 x3.2.1), .sc (.int .i64 x3.2.2.1), .sc (.int .i64 x3.2.2.2.1), .sc (.int .i64 x3.2.2.2.2.1), .sc (.int .i64 x3.2.2.2.2.2.1), .sc (.int .i64 x3.2.2.2.2.2.2)], .agg [.sc (.int .i64 x4.1), .sc (.int .i64 x4.2)], .any, .ptr 3 0, .any, .ptr 4 0, .ptr 5 0, .sc (.slice none 0 0), .sc (.int .i64 0), .ptr 12 0, .ros false 34 (.pair (.pair (.int .i64) (.pair (.pair (.int .i64) (.int .i64)) (.int .i64))) (.pair (.int .i64) (.int .i64))) x0, .sc (.int .i64 x2), .agg [.sc (.int .i64 r5.1.1), .sc (.int .i64 r5.1.2.1.1), .sc (.int .i64 r5.1.2.1.2), .sc (.int .i64 r5.1.2.2), .sc (.int .i64 r5.2.1), .sc (.int .i64 r5.2.2), .own 11, .own 9], .sc (.bool (x1.2.1 == 0)), .ptr 3 1, .sc (.int .i64 x1.2.1), .sc (.bool (x1.2.1 == 0)), .agg [.sc (.int .i64 r5.1.1), .sc (.int .i64 r5.1.2.1.1), .sc (.int .i64 r5.1.2.1.2), .sc (.int .i64 r5.1.2.2), .sc (.int .i64 r5.2.1), .sc (.int .i64 r5.2.2), .own 11, .own 9], .ros false 34 (.pair (.pair (.int .i64) (.pair (.pair (.int .i64) (.int .i64)) (.int .i64))) (.pair (.int .i64) (.int .i64))) x0, .ptr 3 2, .sc (.int .i64 x1.2.2.1), .agg [.sc (.string x3.1), .sc (.int .i64 x3.2.1), .sc (.int .i64 x3.2.2.1), .sc (.int .i64 x3.2.2.2.1), .sc (.int .i64 x3.2.2.2.2.1), .sc (.int .i64 x3.2.2.2.2.2.1), .sc (.int .i64 x3.2.2.2.2.2.2)], .any, .any, .any, .any, .any, .any, .any, .any, .any, .any, .any, .any, .any, .any, .any, .any, .any, .any, .any, .any, .any, .any, .any, .any, .any, .any, .any, .any, .any, .any, .any, .any, .any, .any, .any, .any, .any, .any, .any, .any, .any], hp⟩ (some 25) (tupOf vs)) (fun S => (seqK (effect_Of.cd23_7_3 N [1, 1, 0, 0, 1, 0, 1]) (blockK 0 (seqK (effect_Of.cd23_7_3 N [1, 1, 1]) (retK Tryd.prog Tryd.f23 (fun vs hp => (reg (effect_Of.E N) Tryd.prog (callD (effect_Of.E N) Tryd.prog 8) (opsAt (codeAt (bodyOf Tryd.f9) [1, 1, 1, 1, 1, 1, 0])) [] (List.drop 6 (opsAt (codeAt (bodyOf Tryd.f9) [1, 1, 1, 1, 1, 1, 0]))) (St.put ⟨[.ros false 34 (.pair (.pair (.int .i64) (.pair (.pair (.int .i64) (.int .i64)) (.int .i64))) (.pair (.int .i64) (.int .i64))) x0, .agg [.sc (.string x1.1), .sc (.int .i64 x1.2.1), .sc (.int .i64 x1.2.2.1), .sc (.string x1.2.2.2)], .sc (.int .i64 x2), .agg [.sc (.string x3.1), .sc (.int .i64 x3.2.1), .sc (.int .i64 x3.2.2.1), .sc (.int .i64 x3.2.2.2.1), .sc (.int .i64 x3.2.2.2.2.1), .sc (.int .i64 x3.2.2.2.2.2.1), .sc (.int .i64 x3.2.2.2.2.2.2)], .agg [.sc (.int .i64 x4.1), .sc (.int .i64 x4.2)], .any, .ptr 0 0, .any, .ptr 1 0, .ptr 2 0, .sc (.slice none 0 0), .sc (.int .i64 0), .sc (.int .i64 r1), .sc (.int .i64 r2), .sc (.int .i64 r3), .sc (.int .i64 r4), .any, .any, .ros false 34 (.pair (.pair (.int .i64) (.pair (.pair (.int .i64) (.int .i64)) (.int .i64))) (.pair (.int .i64) (.int .i64))) x0, .sc (.int .i64 r1), .sc (.int .i64 r1), .sc (.bool (!(r1 == 0))), .any, .agg [.sc (.string x1.1), .sc (.int .i64 x1.2.1), .sc (.int .i64 x1.2.2.1), .sc (.string x1.2.2.2)], .sc (.int .i64 r2), .sc (.int .i64 r2), .sc (.bool (!(r2 == 0))), .any, .agg [.sc (.string x3.1), .sc (.int .i64 x3.2.1), .sc (.int .i64 x3.2.2.1), .sc (.int .i64 x3.2.2.2.1), .sc (.int .i64 x3.2.2.2.2.1), .sc (.int .i64 x3.2.2.2.2.2.1), .sc (.int .i64 x3.2.2.2.2.2.2)], .sc (.int .i64 r3), .sc (.int .i64 r3), .sc (.bool (!(r3 == 0))), .any, .agg [.sc (.int .i64 x4.1), .sc (.int .i64 x4.2)], .sc (.int .i64 r4), .sc (.int .i64 r4), .sc (.bool (!(r4 == 0))), .any, .sc (.int .i64 x2), .ros false 34 (.pair (.pair (.int .i64) (.pair (.pair (.int .i64) (.int .i64)) (.int .i64))) (.pair (.int .i64) (.int .i64))) x0, .rop false (.pair (.pair (.int .i64) (.pair (.pair (.int .i64) (.int .i64)) (.int .i64))) (.pair (.int .i64) (.int .i64))) (List.getD x0 0 ((0, ((0, 0), 0)), (0, 0))) 0, .rop false (.pair (.pair (.int .i64) (.pair (.pair (.int .i64) (.int .i64)) (.int .i64))) (.pair (.int .i64) (.int .i64))) (List.getD x0 0 ((0, ((0, 0), 0)), (0, 0))) 0, .rop false (.pair (.pair (.int .i64) (.pair (.pair (.int .i64) (.int .i64)) (.int .i64))) (.pair (.int .i64) (.int .i64))) (List.getD x0 0 ((0, ((0, 0), 0)), (0, 0))) 0, .sc (.int .i64 (((List.getD x0 0 ((0, ((0, 0), 0)), (0, 0))).1).1)), .sc (.bool (decide (x2 < (((List.getD x0 0 ((0, ((0, 0), 0)), (0, 0))).1).1)))), .sc (.bool (decide (x2 < (((List.getD x0 0 ((0, ((0, 0), 0)), (0, 0))).1).1)))), .gd (!(decide (x2 < (((List.getD x0 0 ((0, ((0, 0), 0)), (0, 0))).1).1)))) (.sc (.int .i64 x2)), .gd (!(decide (x2 < (((List.getD x0 0 ((0, ((0, 0), 0)), (0, 0))).1).1)))) (.ros false 34 (.pair (.pair (.int .i64) (.pair (.pair (.int .i64) (.int .i64)) (.int .i64))) (.pair (.int .i64) (.int .i64))) x0), .gd (!(decide (x2 < (((List.getD x0 0 ((0, ((0, 0), 0)), (0, 0))).1).1)))) (.ros false 34 (.pair (.pair (.int .i64) (.pair (.pair (.int .i64) (.int .i64)) (.int .i64))) (.pair (.int .i64) (.int .i64))) x0), .gd (!(decide (x2 < (((List.getD x0 0 ((0, ((0, 0), 0)), (0, 0))).1).1)))) (.sc (.int .i64 (x0.length : Int))), .gd (!(decide (x2 < (((List.getD x0 0 ((0, ((0, 0), 0)), (0, 0))).1).1)))) (.sc (.int .i64 (w ((x0.length : Int) - 1)))), .gd (!(decide (x2 < (((List.getD x0 0 ((0, ((0, 0), 0)), (0, 0))).1).1)))) (.rop false (.pair (.pair (.int .i64) (.pair (.pair (.int .i64) (.int .i64)) (.int .i64))) (.pair (.int .i64) (.int .i64))) (List.getD x0 (Int.toNat (w ((x0.length : Int) - 1))) ((0, ((0, 0), 0)), (0, 0))) 0), .gd (!(decide (x2 < (((List.getD x0 0 ((0, ((0, 0), 0)), (0, 0))).1).1)))) (.rop false (.pair (.pair (.int .i64) (.pair (.pair (.int .i64) (.int .i64)) (.int .i64))) (.pair (.int .i64) (.int .i64))) (List.getD x0 (Int.toNat (w ((x0.length : Int) - 1))) ((0, ((0, 0), 0)), (0, 0))) 0), .gd (!(decide (x2 < (((List.getD x0 0 ((0, ((0, 0), 0)), (0, 0))).1).1)))) (.rop false (.pair (.pair (.int .i64) (.pair (.pair (.int .i64) (.int .i64)) (.int .i64))) (.pair (.int .i64) (.int .i64))) (List.getD x0 (Int.toNat (w ((x0.length : Int) - 1))) ((0, ((0, 0), 0)), (0, 0))) 0), .gd (!(decide (x2 < (((List.getD x0 0 ((0, ((0, 0), 0)), (0, 0))).1).1)))) (.sc (.int .i64 (((List.getD x0 (Int.toNat (w ((x0.length : Int) - 1))) ((0, ((0, 0), 0)), (0, 0))).1).1))), .gd (!(decide (x2 < (((List.getD x0 0 ((0, ((0, 0), 0)), (0, 0))).1).1)))) (.sc (.bool (decide (x2 > (((List.getD x0 (Int.toNat (w ((x0.length : Int) - 1))) ((0, ((0, 0), 0)), (0, 0))).1).1))))), .sc (.bool ((decide (x2 < (((List.getD x0 0 ((0, ((0, 0), 0)), (0, 0))).1).1))) || (decide (x2 > (((List.getD x0 (Int.toNat (w ((x0.length : Int) - 1))) ((0, ((0, 0), 0)), (0, 0))).1).1))))), .any, .ros false 34 (.pair (.pair (.int .i64) (.pair (.pair (.int .i64) (.int .i64)) (.int .i64))) (.pair (.int .i64) (.int .i64))) x0, .agg [.sc (.string x1.1), .sc (.int .i64 x1.2.1), .sc (.int .i64 x1.2.2.1), .sc (.string x1.2.2.2)], .sc (.int .i64 x2), .agg [.sc (.string x3.1), .sc (.int .i64 x3.2.1), .sc (.int .i64 x3.2.2.1), .sc (.int .i64 x3.2.2.2.1), .sc (.int .i64 x3.2.2.2.2.1), .sc (.int .i64 x3.2.2.2.2.2.1), .sc (.int .i64 x3.2.2.2.2.2.2)], .agg [.sc (.int .i64 x4.1), .sc (.int .i64 x4.2)], .any, .any, .any, .any, .any, .any, .any, .any, .any, .any], hp⟩ (some 63) (tupOf vs)) (fun S => (seqK (effect_Of.cd N [1, 1, 1, 1, 1, 1, 1]) effect_Of.fin) .normal S))))))) .normal S))))))
noncomputable def effect_Of.l4 (N : Nat) (x0 : List ((Int × (Int × Int) × Int) × Int × Int)) (x1 : ByteArray × Int × Int × ByteArray) (x2 : Int) (x3 : ByteArray × Int × Int × Int × Int × Int × Int) (x4 : Int × Int) (r1 : Int) (r2 : Int) (r3 : Int) (r4 : Int) (r5 : (Int × (Int × Int) × Int) × Int × Int) (a9 : List ((Int × (Int × Int) × Int) × Int × Int)) (r27 : Int) (k28 : Nat) (a29 : Int) (a30 : List ((Int × (Int × Int) × Int) × Int × Int)) : Option (List ((Int × (Int × Int) × Int) × Int × Int) × Int) :=
  loopN (norm ((effect_Of.E N).keep 4) 13) (effect_Of.cd38_6_13 N [1, 1, 1, 0, 1, 0, 0]) k28
  ⟨[.any, .sc (.int .i64 x1.2.2.1), .ptr 13 0, .any, .any, .any, .own 14, .sc (.int .i64 r27), .any, .any, .any, .any, .any, .any, .any, .any, .any, .any, .own 9, .sc (.int .i64 (a9.length : Int)), .sc (.int .i64 a29), .any, .any, .any, .any, .any, .any, .any, .any, .any, .any, .any, .any, .any, .any, .any, .any, .any, .any, .any, .any, .any, .any, .any, .any, .any, .any, .any, .any, .any, .any, .any, .any, .any, .any, .any, .any, .any, .any, .any, .any, .any, .any], [.cells [.sc (.string x1.1), .sc (.int .i64 x1.2.1), .sc (.int .i64 x1.2.2.1), .sc (.string x1.2.2.2)] 39, .cells [.sc (.string x3.1), .sc (.int .i64 x3.2.1), .sc (.int .i64 x3.2.2.1), .sc (.int .i64 x3.2.2.2.1), .sc (.int .i64 x3.2.2.2.2.1), .sc (.int .i64 x3.2.2.2.2.2.1), .sc (.int .i64 x3.2.2.2.2.2.2)] 41, .cells [.sc (.int .i64 x4.1), .sc (.int .i64 x4.2)] 30, .cells [.sc (.string x1.1), .sc (.int .i64 x1.2.1), .sc (.int .i64 x1.2.2.1), .sc (.string x1.2.2.2)] 39, .cells [.sc (.string x3.1), .sc (.int .i64 x3.2.1), .sc (.int .i64 x3.2.2.1), .sc (.int .i64 x3.2.2.2.1), .sc (.int .i64 x3.2.2.2.2.1), .sc (.int .i64 x3.2.2.2.2.2.1), .sc (.int .i64 x3.2.2.2.2.2.2)] 41, .cells [.sc (.int .i64 x4.1), .sc (.int .i64 x4.2)] 30, .cells [.sc (.int .i64 r5.1.1), .sc (.int .i64 r5.1.2.1.1), .sc (.int .i64 r5.1.2.1.2), .sc (.int .i64 r5.1.2.2), .sc (.int .i64 r5.2.1), .sc (.int .i64 r5.2.2), .own 11, .own 9] 70, .cells [.sc (.int .i64 r5.1.1), .sc (.int .i64 r5.1.2.1.1), .sc (.int .i64 r5.1.2.1.2), .sc (.int .i64 r5.1.2.2), .sc (.int .i64 r5.2.1), .sc (.int .i64 r5.2.2), .own 11, .own 9] 70, .dead, .rows true 34 (.pair (.pair (.int .i64) (.pair (.pair (.int .i64) (.int .i64)) (.int .i64))) (.pair (.int .i64) (.int .i64))) a9, .rows true 34 (.pair (.pair (.int .i64) (.pair (.pair (.int .i64) (.int .i64)) (.int .i64))) (.pair (.int .i64) (.int .i64))) [r5], .dead, .cells [.sc (.int .i64 r5.1.1), .sc (.int .i64 r5.1.2.1.1), .sc (.int .i64 r5.1.2.1.2), .sc (.int .i64 r5.1.2.2), .sc (.int .i64 r5.2.1), .sc (.int .i64 r5.2.2), .own 11, .own 9] 70, .cells [.sc (.int .i64 r5.1.1), .sc (.int .i64 r5.1.2.1.1), .sc (.int .i64 r5.1.2.1.2), .sc (.int .i64 r5.1.2.2), .sc (.int .i64 r5.2.1), .sc (.int .i64 r5.2.2), .any, .own 9] 70, .rows true 34 (.pair (.pair (.int .i64) (.pair (.pair (.int .i64) (.int .i64)) (.int .i64))) (.pair (.int .i64) (.int .i64))) a30]⟩
  (blockK 0 (seqK (effect_Of.cd38_6_13 N [1, 1, 1, 1]) (retK Tryd.prog Tryd.f38 (fun vs hp => (reg (effect_Of.E N) Tryd.prog (callD (effect_Of.E N) Tryd.prog 7) (opsAt (codeAt (bodyOf Tryd.f23) [1, 1, 0, 0, 1, 1, 1, 1, 1, 0, 0])) [] (List.drop 4 (opsAt (codeAt (bodyOf Tryd.f23) [1, 1, 0, 0, 1, 1, 1, 1, 1, 0, 0]))) (St.put ⟨[.ros false 34 (.pair (.pair (.int .i64) (.pair (.pair (.int .i64) (.int .i64)) (.int .i64))) (.pair (.int .i64) (.int .i64))) x0, .agg [.sc (.string x1.1), .sc (.int .i64 x1.2.1), .sc (.int .i64 x1.2.2.1), .sc (.string x1.2.2.2)], .sc (.int .i64 x2), .agg [.sc (.string x3.1), .sc (.int .i64 x3.2.1), .sc (.int .i64 x3.2.2.1), .sc (.int .i64 x3.2.2.2.1), .sc (.int .i64 x3.2.2.2.2.1), .sc (.int .i64 x3.2.2.2.2.2.1), .sc (.int .i64 x3.2.2.2.2.2.2)], .agg [.sc (.int .i64 x4.1), .sc (.int .i64 x4.2)], .any, .ptr 3 0, .any, .ptr 4 0, .ptr 5 0, .sc (.slice none 0 0), .sc (.int .i64 0), .ptr 12 0, .ros false 34 (.pair (.pair (.int .i64) (.pair (.pair (.int .i64) (.int .i64)) (.int .i64))) (.pair (.int .i64) (.int .i64))) x0, .sc (.int .i64 x2), .agg [.sc (.int .i64 r5.1.1), .sc (.int .i64 r5.1.2.1.1), .sc (.int .i64 r5.1.2.1.2), .sc (.int .i64 r5.1.2.2), .sc (.int .i64 r5.2.1), .sc (.int .i64 r5.2.2), .own 11, .own 9], .sc (.bool (x1.2.1 == 0)), .ptr 3 1, .sc (.int .i64 x1.2.1), .sc (.bool (x1.2.1 == 0)), .any, .any, .any, .any, .any, .any, .any, .any, .sc (.bool (((a9.length : Int) == 0) || (decide (x1.2.1 > 3)))), .ptr 12 7, .own 9, .sc (.int .i64 (a9.length : Int)), .sc (.bool ((a9.length : Int) == 0)), .sc (.bool ((a9.length : Int) == 0)), .gd (!((a9.length : Int) == 0)) (.ptr 3 1), .gd (!((a9.length : Int) == 0)) (.sc (.int .i64 x1.2.1)), .gd (!((a9.length : Int) == 0)) (.sc (.bool (decide (x1.2.1 > 3)))), .sc (.bool (((a9.length : Int) == 0) || (decide (x1.2.1 > 3)))), .any, .any, .sc (.bool (x1.2.1 == 1)), .ptr 3 1, .sc (.int .i64 x1.2.1), .sc (.bool (x1.2.1 == 1)), .agg [.sc (.int .i64 r5.1.1), .sc (.int .i64 r5.1.2.1.1), .sc (.int .i64 r5.1.2.1.2), .sc (.int .i64 r5.1.2.2), .sc (.int .i64 r5.2.1), .sc (.int .i64 r5.2.2), .own 11, .own 9], .ptr 3 2, .sc (.int .i64 x1.2.2.1), .any, .any, .any, .any, .any, .any, .any, .any, .any, .any, .any, .any, .any, .any, .any, .any, .any, .any, .any], hp⟩ (some 47) (tupOf vs)) (fun S => (seqK (effect_Of.cd23_7_3 N [1, 1, 0, 0, 1, 1, 1, 1, 1, 0, 1]) (blockK 0 (seqK (effect_Of.cd23_7_3 N [1, 1, 1]) (retK Tryd.prog Tryd.f23 (fun vs hp => (reg (effect_Of.E N) Tryd.prog (callD (effect_Of.E N) Tryd.prog 8) (opsAt (codeAt (bodyOf Tryd.f9) [1, 1, 1, 1, 1, 1, 0])) [] (List.drop 6 (opsAt (codeAt (bodyOf Tryd.f9) [1, 1, 1, 1, 1, 1, 0]))) (St.put ⟨[.ros false 34 (.pair (.pair (.int .i64) (.pair (.pair (.int .i64) (.int .i64)) (.int .i64))) (.pair (.int .i64) (.int .i64))) x0, .agg [.sc (.string x1.1), .sc (.int .i64 x1.2.1), .sc (.int .i64 x1.2.2.1), .sc (.string x1.2.2.2)], .sc (.int .i64 x2), .agg [.sc (.string x3.1), .sc (.int .i64 x3.2.1), .sc (.int .i64 x3.2.2.1), .sc (.int .i64 x3.2.2.2.1), .sc (.int .i64 x3.2.2.2.2.1), .sc (.int .i64 x3.2.2.2.2.2.1), .sc (.int .i64 x3.2.2.2.2.2.2)], .agg [.sc (.int .i64 x4.1), .sc (.int .i64 x4.2)], .any, .ptr 0 0, .any, .ptr 1 0, .ptr 2 0, .sc (.slice none 0 0), .sc (.int .i64 0), .sc (.int .i64 r1), .sc (.int .i64 r2), .sc (.int .i64 r3), .sc (.int .i64 r4), .any, .any, .ros false 34 (.pair (.pair (.int .i64) (.pair (.pair (.int .i64) (.int .i64)) (.int .i64))) (.pair (.int .i64) (.int .i64))) x0, .sc (.int .i64 r1), .sc (.int .i64 r1), .sc (.bool (!(r1 == 0))), .any, .agg [.sc (.string x1.1), .sc (.int .i64 x1.2.1), .sc (.int .i64 x1.2.2.1), .sc (.string x1.2.2.2)], .sc (.int .i64 r2), .sc (.int .i64 r2), .sc (.bool (!(r2 == 0))), .any, .agg [.sc (.string x3.1), .sc (.int .i64 x3.2.1), .sc (.int .i64 x3.2.2.1), .sc (.int .i64 x3.2.2.2.1), .sc (.int .i64 x3.2.2.2.2.1), .sc (.int .i64 x3.2.2.2.2.2.1), .sc (.int .i64 x3.2.2.2.2.2.2)], .sc (.int .i64 r3), .sc (.int .i64 r3), .sc (.bool (!(r3 == 0))), .any, .agg [.sc (.int .i64 x4.1), .sc (.int .i64 x4.2)], .sc (.int .i64 r4), .sc (.int .i64 r4), .sc (.bool (!(r4 == 0))), .any, .sc (.int .i64 x2), .ros false 34 (.pair (.pair (.int .i64) (.pair (.pair (.int .i64) (.int .i64)) (.int .i64))) (.pair (.int .i64) (.int .i64))) x0, .rop false (.pair (.pair (.int .i64) (.pair (.pair (.int .i64) (.int .i64)) (.int .i64))) (.pair (.int .i64) (.int .i64))) (List.getD x0 0 ((0, ((0, 0), 0)), (0, 0))) 0, .rop false (.pair (.pair (.int .i64) (.pair (.pair (.int .i64) (.int .i64)) (.int .i64))) (.pair (.int .i64) (.int .i64))) (List.getD x0 0 ((0, ((0, 0), 0)), (0, 0))) 0, .rop false (.pair (.pair (.int .i64) (.pair (.pair (.int .i64) (.int .i64)) (.int .i64))) (.pair (.int .i64) (.int .i64))) (List.getD x0 0 ((0, ((0, 0), 0)), (0, 0))) 0, .sc (.int .i64 (((List.getD x0 0 ((0, ((0, 0), 0)), (0, 0))).1).1)), .sc (.bool (decide (x2 < (((List.getD x0 0 ((0, ((0, 0), 0)), (0, 0))).1).1)))), .sc (.bool (decide (x2 < (((List.getD x0 0 ((0, ((0, 0), 0)), (0, 0))).1).1)))), .gd (!(decide (x2 < (((List.getD x0 0 ((0, ((0, 0), 0)), (0, 0))).1).1)))) (.sc (.int .i64 x2)), .gd (!(decide (x2 < (((List.getD x0 0 ((0, ((0, 0), 0)), (0, 0))).1).1)))) (.ros false 34 (.pair (.pair (.int .i64) (.pair (.pair (.int .i64) (.int .i64)) (.int .i64))) (.pair (.int .i64) (.int .i64))) x0), .gd (!(decide (x2 < (((List.getD x0 0 ((0, ((0, 0), 0)), (0, 0))).1).1)))) (.ros false 34 (.pair (.pair (.int .i64) (.pair (.pair (.int .i64) (.int .i64)) (.int .i64))) (.pair (.int .i64) (.int .i64))) x0), .gd (!(decide (x2 < (((List.getD x0 0 ((0, ((0, 0), 0)), (0, 0))).1).1)))) (.sc (.int .i64 (x0.length : Int))), .gd (!(decide (x2 < (((List.getD x0 0 ((0, ((0, 0), 0)), (0, 0))).1).1)))) (.sc (.int .i64 (w ((x0.length : Int) - 1)))), .gd (!(decide (x2 < (((List.getD x0 0 ((0, ((0, 0), 0)), (0, 0))).1).1)))) (.rop false (.pair (.pair (.int .i64) (.pair (.pair (.int .i64) (.int .i64)) (.int .i64))) (.pair (.int .i64) (.int .i64))) (List.getD x0 (Int.toNat (w ((x0.length : Int) - 1))) ((0, ((0, 0), 0)), (0, 0))) 0), .gd (!(decide (x2 < (((List.getD x0 0 ((0, ((0, 0), 0)), (0, 0))).1).1)))) (.rop false (.pair (.pair (.int .i64) (.pair (.pair (.int .i64) (.int .i64)) (.int .i64))) (.pair (.int .i64) (.int .i64))) (List.getD x0 (Int.toNat (w ((x0.length : Int) - 1))) ((0, ((0, 0), 0)), (0, 0))) 0), .gd (!(decide (x2 < (((List.getD x0 0 ((0, ((0, 0), 0)), (0, 0))).1).1)))) (.rop false (.pair (.pair (.int .i64) (.pair (.pair (.int .i64) (.int .i64)) (.int .i64))) (.pair (.int .i64) (.int .i64))) (List.getD x0 (Int.toNat (w ((x0.length : Int) - 1))) ((0, ((0, 0), 0)), (0, 0))) 0), .gd (!(decide (x2 < (((List.getD x0 0 ((0, ((0, 0), 0)), (0, 0))).1).1)))) (.sc (.int .i64 (((List.getD x0 (Int.toNat (w ((x0.length : Int) - 1))) ((0, ((0, 0), 0)), (0, 0))).1).1))), .gd (!(decide (x2 < (((List.getD x0 0 ((0, ((0, 0), 0)), (0, 0))).1).1)))) (.sc (.bool (decide (x2 > (((List.getD x0 (Int.toNat (w ((x0.length : Int) - 1))) ((0, ((0, 0), 0)), (0, 0))).1).1))))), .sc (.bool ((decide (x2 < (((List.getD x0 0 ((0, ((0, 0), 0)), (0, 0))).1).1))) || (decide (x2 > (((List.getD x0 (Int.toNat (w ((x0.length : Int) - 1))) ((0, ((0, 0), 0)), (0, 0))).1).1))))), .any, .ros false 34 (.pair (.pair (.int .i64) (.pair (.pair (.int .i64) (.int .i64)) (.int .i64))) (.pair (.int .i64) (.int .i64))) x0, .agg [.sc (.string x1.1), .sc (.int .i64 x1.2.1), .sc (.int .i64 x1.2.2.1), .sc (.string x1.2.2.2)], .sc (.int .i64 x2), .agg [.sc (.string x3.1), .sc (.int .i64 x3.2.1), .sc (.int .i64 x3.2.2.1), .sc (.int .i64 x3.2.2.2.1), .sc (.int .i64 x3.2.2.2.2.1), .sc (.int .i64 x3.2.2.2.2.2.1), .sc (.int .i64 x3.2.2.2.2.2.2)], .agg [.sc (.int .i64 x4.1), .sc (.int .i64 x4.2)], .any, .any, .any, .any, .any, .any, .any, .any, .any, .any], hp⟩ (some 63) (tupOf vs)) (fun S => (seqK (effect_Of.cd N [1, 1, 1, 1, 1, 1, 1]) effect_Of.fin) .normal S))))))) .normal S))))))
noncomputable def effect_Of.l5 (N : Nat) (x0 : List ((Int × (Int × Int) × Int) × Int × Int)) (x1 : ByteArray × Int × Int × ByteArray) (x2 : Int) (x3 : ByteArray × Int × Int × Int × Int × Int × Int) (x4 : Int × Int) (r1 : Int) (r2 : Int) (r3 : Int) (r4 : Int) (r5 : (Int × (Int × Int) × Int) × Int × Int) (a9 : List ((Int × (Int × Int) × Int) × Int × Int)) (k34 : Nat) (a35 : Int) (a36 : Int) (a37 : List ((Int × (Int × Int) × Int) × Int × Int)) (a38 : Int) (a39 : Int) : Option (List ((Int × (Int × Int) × Int) × Int × Int) × Int) :=
  loopN (norm ((effect_Of.E N).keep 6) 13) (effect_Of.cd39_6_13 N [1, 1, 1, 1, 0, 1, 0, 0]) k34
  ⟨[.any, .sc (.int .i64 x1.2.2.1), .any, .any, .any, .any, .any, .any, .own 13, .ptr 14 0, .sc (.int .i64 a35), .any, .any, .any, .any, .any, .any, .any, .any, .any, .any, .any, .any, .any, .any, .any, .any, .any, .any, .any, .any, .any, .any, .any, .any, .any, .own 9, .sc (.int .i64 (a9.length : Int)), .sc (.int .i64 a36), .any, .any, .any, .any, .any, .any, .any, .any, .any, .any, .any, .any, .any, .any, .any, .any, .any, .any, .any, .any, .any, .any, .any, .any, .any, .any, .any, .any, .any, .any], [.cells [.sc (.string x1.1), .sc (.int .i64 x1.2.1), .sc (.int .i64 x1.2.2.1), .sc (.string x1.2.2.2)] 39, .cells [.sc (.string x3.1), .sc (.int .i64 x3.2.1), .sc (.int .i64 x3.2.2.1), .sc (.int .i64 x3.2.2.2.1), .sc (.int .i64 x3.2.2.2.2.1), .sc (.int .i64 x3.2.2.2.2.2.1), .sc (.int .i64 x3.2.2.2.2.2.2)] 41, .cells [.sc (.int .i64 x4.1), .sc (.int .i64 x4.2)] 30, .cells [.sc (.string x1.1), .sc (.int .i64 x1.2.1), .sc (.int .i64 x1.2.2.1), .sc (.string x1.2.2.2)] 39, .cells [.sc (.string x3.1), .sc (.int .i64 x3.2.1), .sc (.int .i64 x3.2.2.1), .sc (.int .i64 x3.2.2.2.1), .sc (.int .i64 x3.2.2.2.2.1), .sc (.int .i64 x3.2.2.2.2.2.1), .sc (.int .i64 x3.2.2.2.2.2.2)] 41, .cells [.sc (.int .i64 x4.1), .sc (.int .i64 x4.2)] 30, .cells [.sc (.int .i64 r5.1.1), .sc (.int .i64 r5.1.2.1.1), .sc (.int .i64 r5.1.2.1.2), .sc (.int .i64 r5.1.2.2), .sc (.int .i64 r5.2.1), .sc (.int .i64 r5.2.2), .own 11, .own 9] 70, .cells [.sc (.int .i64 r5.1.1), .sc (.int .i64 r5.1.2.1.1), .sc (.int .i64 r5.1.2.1.2), .sc (.int .i64 r5.1.2.2), .sc (.int .i64 r5.2.1), .sc (.int .i64 r5.2.2), .own 11, .own 9] 70, .dead, .rows true 34 (.pair (.pair (.int .i64) (.pair (.pair (.int .i64) (.int .i64)) (.int .i64))) (.pair (.int .i64) (.int .i64))) a9, .rows true 34 (.pair (.pair (.int .i64) (.pair (.pair (.int .i64) (.int .i64)) (.int .i64))) (.pair (.int .i64) (.int .i64))) [r5], .dead, .cells [.sc (.int .i64 r5.1.1), .sc (.int .i64 r5.1.2.1.1), .sc (.int .i64 r5.1.2.1.2), .sc (.int .i64 r5.1.2.2), .sc (.int .i64 r5.2.1), .sc (.int .i64 r5.2.2), .own 11, .own 9] 70, .rows true 34 (.pair (.pair (.int .i64) (.pair (.pair (.int .i64) (.int .i64)) (.int .i64))) (.pair (.int .i64) (.int .i64))) a37, .cells [.sc (.int .i64 a38), .sc (.int .i64 a39)] 30]⟩
  (blockK 0 (seqK (effect_Of.cd39_6_13 N [1, 1, 1, 1, 1]) (retK Tryd.prog Tryd.f39 (fun vs hp => (reg (effect_Of.E N) Tryd.prog (callD (effect_Of.E N) Tryd.prog 7) (opsAt (codeAt (bodyOf Tryd.f23) [1, 1, 0, 0, 1, 1, 1, 1, 1, 1, 1, 0, 0])) [] (List.drop 5 (opsAt (codeAt (bodyOf Tryd.f23) [1, 1, 0, 0, 1, 1, 1, 1, 1, 1, 1, 0, 0]))) (St.put ⟨[.ros false 34 (.pair (.pair (.int .i64) (.pair (.pair (.int .i64) (.int .i64)) (.int .i64))) (.pair (.int .i64) (.int .i64))) x0, .agg [.sc (.string x1.1), .sc (.int .i64 x1.2.1), .sc (.int .i64 x1.2.2.1), .sc (.string x1.2.2.2)], .sc (.int .i64 x2), .agg [.sc (.string x3.1), .sc (.int .i64 x3.2.1), .sc (.int .i64 x3.2.2.1), .sc (.int .i64 x3.2.2.2.1), .sc (.int .i64 x3.2.2.2.2.1), .sc (.int .i64 x3.2.2.2.2.2.1), .sc (.int .i64 x3.2.2.2.2.2.2)], .agg [.sc (.int .i64 x4.1), .sc (.int .i64 x4.2)], .any, .ptr 3 0, .any, .ptr 4 0, .ptr 5 0, .sc (.slice none 0 0), .sc (.int .i64 0), .ptr 12 0, .ros false 34 (.pair (.pair (.int .i64) (.pair (.pair (.int .i64) (.int .i64)) (.int .i64))) (.pair (.int .i64) (.int .i64))) x0, .sc (.int .i64 x2), .agg [.sc (.int .i64 r5.1.1), .sc (.int .i64 r5.1.2.1.1), .sc (.int .i64 r5.1.2.1.2), .sc (.int .i64 r5.1.2.2), .sc (.int .i64 r5.2.1), .sc (.int .i64 r5.2.2), .own 11, .own 9], .sc (.bool (x1.2.1 == 0)), .ptr 3 1, .sc (.int .i64 x1.2.1), .sc (.bool (x1.2.1 == 0)), .any, .any, .any, .any, .any, .any, .any, .any, .sc (.bool (((a9.length : Int) == 0) || (decide (x1.2.1 > 3)))), .ptr 12 7, .own 9, .sc (.int .i64 (a9.length : Int)), .sc (.bool ((a9.length : Int) == 0)), .sc (.bool ((a9.length : Int) == 0)), .gd (!((a9.length : Int) == 0)) (.ptr 3 1), .gd (!((a9.length : Int) == 0)) (.sc (.int .i64 x1.2.1)), .gd (!((a9.length : Int) == 0)) (.sc (.bool (decide (x1.2.1 > 3)))), .sc (.bool (((a9.length : Int) == 0) || (decide (x1.2.1 > 3)))), .any, .any, .sc (.bool (x1.2.1 == 1)), .ptr 3 1, .sc (.int .i64 x1.2.1), .sc (.bool (x1.2.1 == 1)), .any, .any, .any, .any, .any, .any, .sc (.bool (x1.2.1 == 2)), .ptr 3 1, .sc (.int .i64 x1.2.1), .sc (.bool (x1.2.1 == 2)), .agg [.sc (.int .i64 r5.1.1), .sc (.int .i64 r5.1.2.1.1), .sc (.int .i64 r5.1.2.1.2), .sc (.int .i64 r5.1.2.2), .sc (.int .i64 r5.2.1), .sc (.int .i64 r5.2.2), .own 11, .own 9], .ptr 3 2, .sc (.int .i64 x1.2.2.1), .agg [.sc (.string x3.1), .sc (.int .i64 x3.2.1), .sc (.int .i64 x3.2.2.1), .sc (.int .i64 x3.2.2.2.1), .sc (.int .i64 x3.2.2.2.2.1), .sc (.int .i64 x3.2.2.2.2.2.1), .sc (.int .i64 x3.2.2.2.2.2.2)], .any, .any, .any, .any, .any, .any, .any, .any], hp⟩ (some 58) (tupOf vs)) (fun S => (seqK (effect_Of.cd23_7_3 N [1, 1, 0, 0, 1, 1, 1, 1, 1, 1, 1, 0, 1]) (blockK 0 (seqK (effect_Of.cd23_7_3 N [1, 1, 1]) (retK Tryd.prog Tryd.f23 (fun vs hp => (reg (effect_Of.E N) Tryd.prog (callD (effect_Of.E N) Tryd.prog 8) (opsAt (codeAt (bodyOf Tryd.f9) [1, 1, 1, 1, 1, 1, 0])) [] (List.drop 6 (opsAt (codeAt (bodyOf Tryd.f9) [1, 1, 1, 1, 1, 1, 0]))) (St.put ⟨[.ros false 34 (.pair (.pair (.int .i64) (.pair (.pair (.int .i64) (.int .i64)) (.int .i64))) (.pair (.int .i64) (.int .i64))) x0, .agg [.sc (.string x1.1), .sc (.int .i64 x1.2.1), .sc (.int .i64 x1.2.2.1), .sc (.string x1.2.2.2)], .sc (.int .i64 x2), .agg [.sc (.string x3.1), .sc (.int .i64 x3.2.1), .sc (.int .i64 x3.2.2.1), .sc (.int .i64 x3.2.2.2.1), .sc (.int .i64 x3.2.2.2.2.1), .sc (.int .i64 x3.2.2.2.2.2.1), .sc (.int .i64 x3.2.2.2.2.2.2)], .agg [.sc (.int .i64 x4.1), .sc (.int .i64 x4.2)], .any, .ptr 0 0, .any, .ptr 1 0, .ptr 2 0, .sc (.slice none 0 0), .sc (.int .i64 0), .sc (.int .i64 r1), .sc (.int .i64 r2), .sc (.int .i64 r3), .sc (.int .i64 r4), .any, .any, .ros false 34 (.pair (.pair (.int .i64) (.pair (.pair (.int .i64) (.int .i64)) (.int .i64))) (.pair (.int .i64) (.int .i64))) x0, .sc (.int .i64 r1), .sc (.int .i64 r1), .sc (.bool (!(r1 == 0))), .any, .agg [.sc (.string x1.1), .sc (.int .i64 x1.2.1), .sc (.int .i64 x1.2.2.1), .sc (.string x1.2.2.2)], .sc (.int .i64 r2), .sc (.int .i64 r2), .sc (.bool (!(r2 == 0))), .any, .agg [.sc (.string x3.1), .sc (.int .i64 x3.2.1), .sc (.int .i64 x3.2.2.1), .sc (.int .i64 x3.2.2.2.1), .sc (.int .i64 x3.2.2.2.2.1), .sc (.int .i64 x3.2.2.2.2.2.1), .sc (.int .i64 x3.2.2.2.2.2.2)], .sc (.int .i64 r3), .sc (.int .i64 r3), .sc (.bool (!(r3 == 0))), .any, .agg [.sc (.int .i64 x4.1), .sc (.int .i64 x4.2)], .sc (.int .i64 r4), .sc (.int .i64 r4), .sc (.bool (!(r4 == 0))), .any, .sc (.int .i64 x2), .ros false 34 (.pair (.pair (.int .i64) (.pair (.pair (.int .i64) (.int .i64)) (.int .i64))) (.pair (.int .i64) (.int .i64))) x0, .rop false (.pair (.pair (.int .i64) (.pair (.pair (.int .i64) (.int .i64)) (.int .i64))) (.pair (.int .i64) (.int .i64))) (List.getD x0 0 ((0, ((0, 0), 0)), (0, 0))) 0, .rop false (.pair (.pair (.int .i64) (.pair (.pair (.int .i64) (.int .i64)) (.int .i64))) (.pair (.int .i64) (.int .i64))) (List.getD x0 0 ((0, ((0, 0), 0)), (0, 0))) 0, .rop false (.pair (.pair (.int .i64) (.pair (.pair (.int .i64) (.int .i64)) (.int .i64))) (.pair (.int .i64) (.int .i64))) (List.getD x0 0 ((0, ((0, 0), 0)), (0, 0))) 0, .sc (.int .i64 (((List.getD x0 0 ((0, ((0, 0), 0)), (0, 0))).1).1)), .sc (.bool (decide (x2 < (((List.getD x0 0 ((0, ((0, 0), 0)), (0, 0))).1).1)))), .sc (.bool (decide (x2 < (((List.getD x0 0 ((0, ((0, 0), 0)), (0, 0))).1).1)))), .gd (!(decide (x2 < (((List.getD x0 0 ((0, ((0, 0), 0)), (0, 0))).1).1)))) (.sc (.int .i64 x2)), .gd (!(decide (x2 < (((List.getD x0 0 ((0, ((0, 0), 0)), (0, 0))).1).1)))) (.ros false 34 (.pair (.pair (.int .i64) (.pair (.pair (.int .i64) (.int .i64)) (.int .i64))) (.pair (.int .i64) (.int .i64))) x0), .gd (!(decide (x2 < (((List.getD x0 0 ((0, ((0, 0), 0)), (0, 0))).1).1)))) (.ros false 34 (.pair (.pair (.int .i64) (.pair (.pair (.int .i64) (.int .i64)) (.int .i64))) (.pair (.int .i64) (.int .i64))) x0), .gd (!(decide (x2 < (((List.getD x0 0 ((0, ((0, 0), 0)), (0, 0))).1).1)))) (.sc (.int .i64 (x0.length : Int))), .gd (!(decide (x2 < (((List.getD x0 0 ((0, ((0, 0), 0)), (0, 0))).1).1)))) (.sc (.int .i64 (w ((x0.length : Int) - 1)))), .gd (!(decide (x2 < (((List.getD x0 0 ((0, ((0, 0), 0)), (0, 0))).1).1)))) (.rop false (.pair (.pair (.int .i64) (.pair (.pair (.int .i64) (.int .i64)) (.int .i64))) (.pair (.int .i64) (.int .i64))) (List.getD x0 (Int.toNat (w ((x0.length : Int) - 1))) ((0, ((0, 0), 0)), (0, 0))) 0), .gd (!(decide (x2 < (((List.getD x0 0 ((0, ((0, 0), 0)), (0, 0))).1).1)))) (.rop false (.pair (.pair (.int .i64) (.pair (.pair (.int .i64) (.int .i64)) (.int .i64))) (.pair (.int .i64) (.int .i64))) (List.getD x0 (Int.toNat (w ((x0.length : Int) - 1))) ((0, ((0, 0), 0)), (0, 0))) 0), .gd (!(decide (x2 < (((List.getD x0 0 ((0, ((0, 0), 0)), (0, 0))).1).1)))) (.rop false (.pair (.pair (.int .i64) (.pair (.pair (.int .i64) (.int .i64)) (.int .i64))) (.pair (.int .i64) (.int .i64))) (List.getD x0 (Int.toNat (w ((x0.length : Int) - 1))) ((0, ((0, 0), 0)), (0, 0))) 0), .gd (!(decide (x2 < (((List.getD x0 0 ((0, ((0, 0), 0)), (0, 0))).1).1)))) (.sc (.int .i64 (((List.getD x0 (Int.toNat (w ((x0.length : Int) - 1))) ((0, ((0, 0), 0)), (0, 0))).1).1))), .gd (!(decide (x2 < (((List.getD x0 0 ((0, ((0, 0), 0)), (0, 0))).1).1)))) (.sc (.bool (decide (x2 > (((List.getD x0 (Int.toNat (w ((x0.length : Int) - 1))) ((0, ((0, 0), 0)), (0, 0))).1).1))))), .sc (.bool ((decide (x2 < (((List.getD x0 0 ((0, ((0, 0), 0)), (0, 0))).1).1))) || (decide (x2 > (((List.getD x0 (Int.toNat (w ((x0.length : Int) - 1))) ((0, ((0, 0), 0)), (0, 0))).1).1))))), .any, .ros false 34 (.pair (.pair (.int .i64) (.pair (.pair (.int .i64) (.int .i64)) (.int .i64))) (.pair (.int .i64) (.int .i64))) x0, .agg [.sc (.string x1.1), .sc (.int .i64 x1.2.1), .sc (.int .i64 x1.2.2.1), .sc (.string x1.2.2.2)], .sc (.int .i64 x2), .agg [.sc (.string x3.1), .sc (.int .i64 x3.2.1), .sc (.int .i64 x3.2.2.1), .sc (.int .i64 x3.2.2.2.1), .sc (.int .i64 x3.2.2.2.2.1), .sc (.int .i64 x3.2.2.2.2.2.1), .sc (.int .i64 x3.2.2.2.2.2.2)], .agg [.sc (.int .i64 x4.1), .sc (.int .i64 x4.2)], .any, .any, .any, .any, .any, .any, .any, .any, .any, .any], hp⟩ (some 63) (tupOf vs)) (fun S => (seqK (effect_Of.cd N [1, 1, 1, 1, 1, 1, 1]) effect_Of.fin) .normal S))))))) .normal S))))))
theorem effect_Of.l5_zero (N : Nat) (x0 : List ((Int × (Int × Int) × Int) × Int × Int)) (x1 : ByteArray × Int × Int × ByteArray) (x2 : Int) (x3 : ByteArray × Int × Int × Int × Int × Int × Int) (x4 : Int × Int) (r1 : Int) (r2 : Int) (r3 : Int) (r4 : Int) (r5 : (Int × (Int × Int) × Int) × Int × Int) (a9 : List ((Int × (Int × Int) × Int) × Int × Int)) (a35 : Int) (a36 : Int) (a37 : List ((Int × (Int × Int) × Int) × Int × Int)) (a38 : Int) (a39 : Int) : effect_Of.l5 N x0 x1 x2 x3 x4 r1 r2 r3 r4 r5 a9 0 a35 a36 a37 a38 a39 = none := by kernel_rfl
theorem effect_Of.l5_succ (N : Nat) (x0 : List ((Int × (Int × Int) × Int) × Int × Int)) (x1 : ByteArray × Int × Int × ByteArray) (x2 : Int) (x3 : ByteArray × Int × Int × Int × Int × Int × Int) (x4 : Int × Int) (r1 : Int) (r2 : Int) (r3 : Int) (r4 : Int) (r5 : (Int × (Int × Int) × Int) × Int × Int) (a9 : List ((Int × (Int × Int) × Int) × Int × Int)) (k34 : Nat) (a35 : Int) (a36 : Int) (a37 : List ((Int × (Int × Int) × Int) × Int × Int)) (a38 : Int) (a39 : Int) : effect_Of.l5 N x0 x1 x2 x3 x4 r1 r2 r3 r4 r5 a9 (k34 + 1) a35 a36 a37 a38 a39 =
    bif decide (a36 < (a9.length : Int)) then
      bif (decide (0 ≤ a36)) && (decide (a36 < (a9.length : Int))) then
        bif decide ((Int.toNat a36) < a9.length) then
          (plane_Distance.fn N ((a38, a39), (((List.getD a9 (Int.toNat a36) ((0, ((0, 0), 0)), (0, 0))).1).2).1)).bind fun r40 =>
          (effect_up.fn N (r40.2, x1.2.2.1)).bind fun r41 =>
          bif decide ((w (a35 + r41)) > 200000) then
            some ([], 12)
          else
          bif decide ((a37.length + 1) * 48 ≤ 140737488355328) && decide ((a37.length + 1) ≤ maxLen) then
            effect_Of.l5 N x0 x1 x2 x3 x4 r1 r2 r3 r4 r5 a9 k34 (w (a35 + r41)) (w (a36 + 1)) (a37 ++ [(((w (a35 + r41)), ((List.getD a9 (Int.toNat a36) ((0, ((0, 0), 0)), (0, 0))).1).2), (List.getD a9 (Int.toNat a36) ((0, ((0, 0), 0)), (0, 0))).2)]) (((((List.getD a9 (Int.toNat a36) ((0, ((0, 0), 0)), (0, 0))).1).2).1).1) (((((List.getD a9 (Int.toNat a36) ((0, ((0, 0), 0)), (0, 0))).1).2).1).2)
          else
            none
        else
          none
      else
        none
    else
    bif decide ((a37.length : Int) > 64) then
      some ([], 2)
    else
      some (a37, 0) := by kernel_rfl
theorem effect_Of.l4_zero (N : Nat) (x0 : List ((Int × (Int × Int) × Int) × Int × Int)) (x1 : ByteArray × Int × Int × ByteArray) (x2 : Int) (x3 : ByteArray × Int × Int × Int × Int × Int × Int) (x4 : Int × Int) (r1 : Int) (r2 : Int) (r3 : Int) (r4 : Int) (r5 : (Int × (Int × Int) × Int) × Int × Int) (a9 : List ((Int × (Int × Int) × Int) × Int × Int)) (r27 : Int) (a29 : Int) (a30 : List ((Int × (Int × Int) × Int) × Int × Int)) : effect_Of.l4 N x0 x1 x2 x3 x4 r1 r2 r3 r4 r5 a9 r27 0 a29 a30 = none := by kernel_rfl
theorem effect_Of.l4_succ (N : Nat) (x0 : List ((Int × (Int × Int) × Int) × Int × Int)) (x1 : ByteArray × Int × Int × ByteArray) (x2 : Int) (x3 : ByteArray × Int × Int × Int × Int × Int × Int) (x4 : Int × Int) (r1 : Int) (r2 : Int) (r3 : Int) (r4 : Int) (r5 : (Int × (Int × Int) × Int) × Int × Int) (a9 : List ((Int × (Int × Int) × Int) × Int × Int)) (r27 : Int) (k28 : Nat) (a29 : Int) (a30 : List ((Int × (Int × Int) × Int) × Int × Int)) : effect_Of.l4 N x0 x1 x2 x3 x4 r1 r2 r3 r4 r5 a9 r27 (k28 + 1) a29 a30 =
    bif decide (a29 < (a9.length : Int)) then
      bif (decide (0 ≤ a29)) && (decide (a29 < (a9.length : Int))) then
        bif decide ((Int.toNat a29) < a9.length) then
          (angle_Vector.fn N (x1.2.2.1, (w (r27 * (w ((((List.getD a9 (Int.toNat a29) ((0, ((0, 0), 0)), (0, 0))).1).1) - r5.1.1)))))).bind fun r31 =>
          bif !(r31.2 == 0) then
            bif !(r31.2 == 0) then
              some ([], r31.2)
            else
              some ([], 0)
          else
            (plane_Add.fn N (r5.1.2.1, r31.1)).bind fun r32 =>
            (plane_Check.fn N r32).bind fun r33 =>
            bif !(r33 == 0) then
              bif !(r33 == 0) then
                some ([], r33)
              else
                some ([], 0)
            else
            bif decide ((a30.length + 1) * 48 ≤ 140737488355328) && decide ((a30.length + 1) ≤ maxLen) then
              effect_Of.l4 N x0 x1 x2 x3 x4 r1 r2 r3 r4 r5 a9 r27 k28 (w (a29 + 1)) (a30 ++ [((((List.getD a9 (Int.toNat a29) ((0, ((0, 0), 0)), (0, 0))).1).1, (r32, (((List.getD a9 (Int.toNat a29) ((0, ((0, 0), 0)), (0, 0))).1).2).2)), (List.getD a9 (Int.toNat a29) ((0, ((0, 0), 0)), (0, 0))).2)])
            else
              none
        else
          none
      else
        none
    else
    bif decide ((a30.length : Int) > 64) then
      some ([], 2)
    else
      some (a30, 0) := by kernel_rfl
theorem effect_Of.l3_zero (N : Nat) (x0 : List ((Int × (Int × Int) × Int) × Int × Int)) (x1 : ByteArray × Int × Int × ByteArray) (x2 : Int) (x3 : ByteArray × Int × Int × Int × Int × Int × Int) (x4 : Int × Int) (r1 : Int) (r2 : Int) (r3 : Int) (r4 : Int) (r5 : (Int × (Int × Int) × Int) × Int × Int) (a9 : List ((Int × (Int × Int) × Int) × Int × Int)) (r10 : Int × Int) (a23 : Int) (a24 : List ((Int × (Int × Int) × Int) × Int × Int)) : effect_Of.l3 N x0 x1 x2 x3 x4 r1 r2 r3 r4 r5 a9 r10 0 a23 a24 = none := by kernel_rfl
theorem effect_Of.l3_succ (N : Nat) (x0 : List ((Int × (Int × Int) × Int) × Int × Int)) (x1 : ByteArray × Int × Int × ByteArray) (x2 : Int) (x3 : ByteArray × Int × Int × Int × Int × Int × Int) (x4 : Int × Int) (r1 : Int) (r2 : Int) (r3 : Int) (r4 : Int) (r5 : (Int × (Int × Int) × Int) × Int × Int) (a9 : List ((Int × (Int × Int) × Int) × Int × Int)) (r10 : Int × Int) (k22 : Nat) (a23 : Int) (a24 : List ((Int × (Int × Int) × Int) × Int × Int)) : effect_Of.l3 N x0 x1 x2 x3 x4 r1 r2 r3 r4 r5 a9 r10 (k22 + 1) a23 a24 =
    bif decide (a23 < (a9.length : Int)) then
      bif (decide (0 ≤ a23)) && (decide (a23 < (a9.length : Int))) then
        bif decide ((Int.toNat a23) < a9.length) then
          bif decide ((((List.getD a9 (Int.toNat a23) ((0, ((0, 0), 0)), (0, 0))).1).1) < (w (r5.1.1 + r10.1))) then
            (effect_down.fn N ((w ((w (x1.2.2.1 - r5.1.2.2)) * (w ((((List.getD a9 (Int.toNat a23) ((0, ((0, 0), 0)), (0, 0))).1).1) - r5.1.1)))), r10.1)).bind fun r25 =>
            bif decide ((a24.length + 1) * 48 ≤ 140737488355328) && decide ((a24.length + 1) ≤ maxLen) then
              effect_Of.l3 N x0 x1 x2 x3 x4 r1 r2 r3 r4 r5 a9 r10 k22 (w (a23 + 1)) (a24 ++ [((((List.getD a9 (Int.toNat a23) ((0, ((0, 0), 0)), (0, 0))).1).1, ((((List.getD a9 (Int.toNat a23) ((0, ((0, 0), 0)), (0, 0))).1).2).1, (w (r5.1.2.2 + r25)))), (List.getD a9 (Int.toNat a23) ((0, ((0, 0), 0)), (0, 0))).2)])
            else
              none
          else
          bif decide ((a24.length + 1) * 48 ≤ 140737488355328) && decide ((a24.length + 1) ≤ maxLen) then
            effect_Of.l3 N x0 x1 x2 x3 x4 r1 r2 r3 r4 r5 a9 r10 k22 (w (a23 + 1)) (a24 ++ [((((List.getD a9 (Int.toNat a23) ((0, ((0, 0), 0)), (0, 0))).1).1, ((((List.getD a9 (Int.toNat a23) ((0, ((0, 0), 0)), (0, 0))).1).2).1, x1.2.2.1)), (List.getD a9 (Int.toNat a23) ((0, ((0, 0), 0)), (0, 0))).2)])
          else
            none
        else
          none
      else
        none
    else
    bif decide ((a24.length : Int) > 64) then
      some ([], 2)
    else
      some (a24, 0) := by kernel_rfl
theorem effect_Of.l2_zero (N : Nat) (x0 : List ((Int × (Int × Int) × Int) × Int × Int)) (x1 : ByteArray × Int × Int × ByteArray) (x2 : Int) (x3 : ByteArray × Int × Int × Int × Int × Int × Int) (x4 : Int × Int) (r1 : Int) (r2 : Int) (r3 : Int) (r4 : Int) (r5 : (Int × (Int × Int) × Int) × Int × Int) (a9 : List ((Int × (Int × Int) × Int) × Int × Int)) (r10 : Int × Int) (a12 : Int) (r16 : List ((Int × (Int × Int) × Int) × Int × Int)) (r17 : (Int × (Int × Int) × Int) × Int × Int) (a19 : Int) (a20 : List ((Int × (Int × Int) × Int) × Int × Int)) : effect_Of.l2 N x0 x1 x2 x3 x4 r1 r2 r3 r4 r5 a9 r10 a12 r16 r17 0 a19 a20 = none := by kernel_rfl
theorem effect_Of.l2_succ (N : Nat) (x0 : List ((Int × (Int × Int) × Int) × Int × Int)) (x1 : ByteArray × Int × Int × ByteArray) (x2 : Int) (x3 : ByteArray × Int × Int × Int × Int × Int × Int) (x4 : Int × Int) (r1 : Int) (r2 : Int) (r3 : Int) (r4 : Int) (r5 : (Int × (Int × Int) × Int) × Int × Int) (a9 : List ((Int × (Int × Int) × Int) × Int × Int)) (r10 : Int × Int) (a12 : Int) (r16 : List ((Int × (Int × Int) × Int) × Int × Int)) (r17 : (Int × (Int × Int) × Int) × Int × Int) (k18 : Nat) (a19 : Int) (a20 : List ((Int × (Int × Int) × Int) × Int × Int)) : effect_Of.l2 N x0 x1 x2 x3 x4 r1 r2 r3 r4 r5 a9 r10 a12 r16 r17 (k18 + 1) a19 a20 =
    bif decide (a19 < (((List.take (Int.toNat a12) r16) ++ [r17] ++ (List.drop (Int.toNat a12) r16)).length : Int)) then
      bif (decide (0 ≤ a19)) && (decide (a19 < (((List.take (Int.toNat a12) r16) ++ [r17] ++ (List.drop (Int.toNat a12) r16)).length : Int))) then
        bif decide ((Int.toNat a19) < ((List.take (Int.toNat a12) r16) ++ [r17] ++ (List.drop (Int.toNat a12) r16)).length) then
          bif decide ((((List.getD ((List.take (Int.toNat a12) r16) ++ [r17] ++ (List.drop (Int.toNat a12) r16)) (Int.toNat a19) ((0, ((0, 0), 0)), (0, 0))).1).1) < (w (r5.1.1 + r10.1))) then
            (effect_down.fn N ((w ((w (x1.2.2.1 - r5.1.2.2)) * (w ((((List.getD ((List.take (Int.toNat a12) r16) ++ [r17] ++ (List.drop (Int.toNat a12) r16)) (Int.toNat a19) ((0, ((0, 0), 0)), (0, 0))).1).1) - r5.1.1)))), r10.1)).bind fun r21 =>
            bif decide ((a20.length + 1) * 48 ≤ 140737488355328) && decide ((a20.length + 1) ≤ maxLen) then
              effect_Of.l2 N x0 x1 x2 x3 x4 r1 r2 r3 r4 r5 a9 r10 a12 r16 r17 k18 (w (a19 + 1)) (a20 ++ [((((List.getD ((List.take (Int.toNat a12) r16) ++ [r17] ++ (List.drop (Int.toNat a12) r16)) (Int.toNat a19) ((0, ((0, 0), 0)), (0, 0))).1).1, ((((List.getD ((List.take (Int.toNat a12) r16) ++ [r17] ++ (List.drop (Int.toNat a12) r16)) (Int.toNat a19) ((0, ((0, 0), 0)), (0, 0))).1).2).1, (w (r5.1.2.2 + r21)))), (List.getD ((List.take (Int.toNat a12) r16) ++ [r17] ++ (List.drop (Int.toNat a12) r16)) (Int.toNat a19) ((0, ((0, 0), 0)), (0, 0))).2)])
            else
              none
          else
          bif decide ((a20.length + 1) * 48 ≤ 140737488355328) && decide ((a20.length + 1) ≤ maxLen) then
            effect_Of.l2 N x0 x1 x2 x3 x4 r1 r2 r3 r4 r5 a9 r10 a12 r16 r17 k18 (w (a19 + 1)) (a20 ++ [((((List.getD ((List.take (Int.toNat a12) r16) ++ [r17] ++ (List.drop (Int.toNat a12) r16)) (Int.toNat a19) ((0, ((0, 0), 0)), (0, 0))).1).1, ((((List.getD ((List.take (Int.toNat a12) r16) ++ [r17] ++ (List.drop (Int.toNat a12) r16)) (Int.toNat a19) ((0, ((0, 0), 0)), (0, 0))).1).2).1, x1.2.2.1)), (List.getD ((List.take (Int.toNat a12) r16) ++ [r17] ++ (List.drop (Int.toNat a12) r16)) (Int.toNat a19) ((0, ((0, 0), 0)), (0, 0))).2)])
          else
            none
        else
          none
      else
        none
    else
    bif decide ((a20.length : Int) > 64) then
      some ([], 2)
    else
      some (a20, 0) := by kernel_rfl
theorem effect_Of.l1_zero (N : Nat) (x0 : List ((Int × (Int × Int) × Int) × Int × Int)) (x1 : ByteArray × Int × Int × ByteArray) (x2 : Int) (x3 : ByteArray × Int × Int × Int × Int × Int × Int) (x4 : Int × Int) (r1 : Int) (r2 : Int) (r3 : Int) (r4 : Int) (r5 : (Int × (Int × Int) × Int) × Int × Int) (a8 : List ((Int × (Int × Int) × Int) × Int × Int)) (a9 : List ((Int × (Int × Int) × Int) × Int × Int)) (r10 : Int × Int) (a12 : Int) (a13 : Int) : effect_Of.l1 N x0 x1 x2 x3 x4 r1 r2 r3 r4 r5 a8 a9 r10 0 a12 a13 = none := by kernel_rfl
theorem effect_Of.l1_succ (N : Nat) (x0 : List ((Int × (Int × Int) × Int) × Int × Int)) (x1 : ByteArray × Int × Int × ByteArray) (x2 : Int) (x3 : ByteArray × Int × Int × Int × Int × Int × Int) (x4 : Int × Int) (r1 : Int) (r2 : Int) (r3 : Int) (r4 : Int) (r5 : (Int × (Int × Int) × Int) × Int × Int) (a8 : List ((Int × (Int × Int) × Int) × Int × Int)) (a9 : List ((Int × (Int × Int) × Int) × Int × Int)) (r10 : Int × Int) (k11 : Nat) (a12 : Int) (a13 : Int) : effect_Of.l1 N x0 x1 x2 x3 x4 r1 r2 r3 r4 r5 a8 a9 r10 (k11 + 1) a12 a13 =
    bif decide (a12 < a13) then
      bif (decide (0 ≤ (w (shrI .u64 (IntKind.wrap .u64 (w (a12 + a13))) 1)))) && (decide ((w (shrI .u64 (IntKind.wrap .u64 (w (a12 + a13))) 1)) < (a9.length : Int))) then
        bif decide ((Int.toNat (w (shrI .u64 (IntKind.wrap .u64 (w (a12 + a13))) 1))) < a9.length) then
          (effect_course_climb_1.fn N (List.getD a9 (Int.toNat (w (shrI .u64 (IntKind.wrap .u64 (w (a12 + a13))) 1))) ((0, ((0, 0), 0)), (0, 0)), (w (r5.1.1 + r10.1)))).bind fun r14 =>
          bif decide (r14 < 0) then
            effect_Of.l1 N x0 x1 x2 x3 x4 r1 r2 r3 r4 r5 a8 a9 r10 k11 (w ((w (shrI .u64 (IntKind.wrap .u64 (w (a12 + a13))) 1)) + 1)) a13
          else
            effect_Of.l1 N x0 x1 x2 x3 x4 r1 r2 r3 r4 r5 a8 a9 r10 k11 a12 (w (shrI .u64 (IntKind.wrap .u64 (w (a12 + a13))) 1))
        else
          none
      else
        none
    else
    bif !(decide (a12 < (a9.length : Int))) || (decide (a12 < (a9.length : Int))) then
      bif !(decide (a12 < (a9.length : Int))) || (decide (a12 < (a9.length : Int))) then
        bif ((decide (0 ≤ a12)) && (decide (a12 < (a9.length : Int)))) || !(decide (a12 < (a9.length : Int))) then
          bif !(decide (a12 < (a9.length : Int))) || (decide (a12 < (a9.length : Int))) then
            bif (decide ((Int.toNat a12) < a9.length)) || !(decide (a12 < (a9.length : Int))) then
              bif !(decide (a12 < (a9.length : Int))) || (decide (a12 < (a9.length : Int))) then
                bif !(decide (a12 < (a9.length : Int))) || (decide (a12 < (a9.length : Int))) then
                  bif !(decide (a12 < (a9.length : Int))) || (decide (a12 < (a9.length : Int))) then
                    (bif (decide (a12 < (a9.length : Int))) then effect_course_climb_1.fn N (List.getD a9 (Int.toNat a12) ((0, ((0, 0), 0)), (0, 0)), (w (r5.1.1 + r10.1))) else some (0)).bind fun r15 =>
                    bif !(decide (a12 < (a9.length : Int))) || (decide (a12 < (a9.length : Int))) then
                      bif (!(decide (a12 < (a9.length : Int)))) || (decide (a12 < (a9.length : Int))) then
                        bif !(!((decide (a12 < (a9.length : Int))) && (r15 == 0))) || (!((decide (a12 < (a9.length : Int))) && (r15 == 0))) then
                          bif !(!((decide (a12 < (a9.length : Int))) && (r15 == 0))) || (!((decide (a12 < (a9.length : Int))) && (r15 == 0))) then
                            bif !(!((decide (a12 < (a9.length : Int))) && (r15 == 0))) || (!((decide (a12 < (a9.length : Int))) && (r15 == 0))) then
                              bif (!(!((decide (a12 < (a9.length : Int))) && (r15 == 0)))) || (!((decide (a12 < (a9.length : Int))) && (r15 == 0))) then
                                bif !((!((decide (a12 < (a9.length : Int))) && (r15 == 0))) && (decide (a12 < (a9.length : Int)))) || ((!((decide (a12 < (a9.length : Int))) && (r15 == 0))) && (decide (a12 < (a9.length : Int)))) then
                                  bif (!((!((decide (a12 < (a9.length : Int))) && (r15 == 0))) && (decide (a12 < (a9.length : Int))))) || ((!((decide (a12 < (a9.length : Int))) && (r15 == 0))) && (decide (a12 < (a9.length : Int)))) then
                                    bif ((!((decide (a12 < (a9.length : Int))) && (r15 == 0))) && (decide (a12 < (a9.length : Int)))) && (decide (r10.1 > 0)) then
                                      (slices_Clone_TubeNode.fn N a9).bind fun r16 =>
                                      (tube_Point.fn N (x0, (w (r5.1.1 + r10.1)))).bind fun r17 =>
                                      bif (decide (0 ≤ a12)) && (decide (a12 ≤ (r16.length : Int))) then
                                        bif decide ((r16.length + 1) * 48 ≤ 140737488355328) && decide (r16.length + 1 ≤ maxLen) then
                                          effect_Of.l2 N x0 x1 x2 x3 x4 r1 r2 r3 r4 r5 a9 r10 a12 r16 r17 N 0 (a8 ++ [r5])
                                        else
                                          none
                                      else
                                        none
                                    else
                                      effect_Of.l3 N x0 x1 x2 x3 x4 r1 r2 r3 r4 r5 a9 r10 N 0 (a8 ++ [r5])
                                  else
                                    none
                                else
                                  none
                              else
                                none
                            else
                              none
                          else
                            none
                        else
                          none
                      else
                        none
                    else
                      none
                  else
                    none
                else
                  none
              else
                none
            else
              none
          else
            none
        else
          none
      else
        none
    else
      none := by kernel_rfl
theorem effect_Of.l0_zero (N : Nat) (x0 : List ((Int × (Int × Int) × Int) × Int × Int)) (x1 : ByteArray × Int × Int × ByteArray) (x2 : Int) (x3 : ByteArray × Int × Int × Int × Int × Int × Int) (x4 : Int × Int) (r1 : Int) (r2 : Int) (r3 : Int) (r4 : Int) (r5 : (Int × (Int × Int) × Int) × Int × Int) (a7 : Int) (a8 : List ((Int × (Int × Int) × Int) × Int × Int)) (a9 : List ((Int × (Int × Int) × Int) × Int × Int)) : effect_Of.l0 N x0 x1 x2 x3 x4 r1 r2 r3 r4 r5 0 a7 a8 a9 = none := by kernel_rfl
theorem effect_Of.l0_succ (N : Nat) (x0 : List ((Int × (Int × Int) × Int) × Int × Int)) (x1 : ByteArray × Int × Int × ByteArray) (x2 : Int) (x3 : ByteArray × Int × Int × Int × Int × Int × Int) (x4 : Int × Int) (r1 : Int) (r2 : Int) (r3 : Int) (r4 : Int) (r5 : (Int × (Int × Int) × Int) × Int × Int) (k6 : Nat) (a7 : Int) (a8 : List ((Int × (Int × Int) × Int) × Int × Int)) (a9 : List ((Int × (Int × Int) × Int) × Int × Int)) : effect_Of.l0 N x0 x1 x2 x3 x4 r1 r2 r3 r4 r5 (k6 + 1) a7 a8 a9 =
    bif decide (a7 < (x0.length : Int)) then
      bif (decide (0 ≤ a7)) && (decide (a7 < (x0.length : Int))) then
        bif decide ((((List.getD x0 (Int.toNat a7) ((0, ((0, 0), 0)), (0, 0))).1).1) < x2) then
          bif decide ((a8.length + 1) * 48 ≤ 140737488355328) && decide ((a8.length + 1) ≤ maxLen) then
            effect_Of.l0 N x0 x1 x2 x3 x4 r1 r2 r3 r4 r5 k6 (w (a7 + 1)) (a8 ++ [List.getD x0 (Int.toNat a7) ((0, ((0, 0), 0)), (0, 0))]) a9
          else
            none
        else
        bif decide ((((List.getD x0 (Int.toNat a7) ((0, ((0, 0), 0)), (0, 0))).1).1) > x2) then
          bif decide ((a9.length + 1) * 48 ≤ 140737488355328) && decide ((a9.length + 1) ≤ maxLen) then
            effect_Of.l0 N x0 x1 x2 x3 x4 r1 r2 r3 r4 r5 k6 (w (a7 + 1)) a8 (a9 ++ [List.getD x0 (Int.toNat a7) ((0, ((0, 0), 0)), (0, 0))])
          else
            none
        else
          effect_Of.l0 N x0 x1 x2 x3 x4 r1 r2 r3 r4 r5 k6 (w (a7 + 1)) a8 a9
      else
        none
    else
    bif decide ((a8.length + 1) * 48 ≤ 140737488355328) && decide ((a8.length + 1) ≤ maxLen) then
      bif x1.2.1 == 0 then
        (aircraft_Climb.fn N (x3, r5.1.2.2, x1.2.2.1)).bind fun r10 =>
        bif !(r10.2 == 0) then
          bif !(r10.2 == 0) then
            some ([], r10.2)
          else
            some ([], 0)
        else
          effect_Of.l1 N x0 x1 x2 x3 x4 r1 r2 r3 r4 r5 a8 a9 r10 N 0 (a9.length : Int)
      else
      bif !(!((a9.length : Int) == 0)) || (!((a9.length : Int) == 0)) then
        bif !(!((a9.length : Int) == 0)) || (!((a9.length : Int) == 0)) then
          bif ((a9.length : Int) == 0) || (!((a9.length : Int) == 0)) then
            bif ((a9.length : Int) == 0) || (decide (x1.2.1 > 3)) then
              (slices_Clone_TubeNode.fn N x0).bind fun r26 =>
              bif decide ((r26.length : Int) > 64) then
                some ([], 2)
              else
                some (r26, 0)
            else
            bif x1.2.1 == 1 then
              (effect_course_speed.fn N (r5, ((a8 ++ [r5]), a9))).bind fun r27 =>
              effect_Of.l4 N x0 x1 x2 x3 x4 r1 r2 r3 r4 r5 a9 r27 N 0 (a8 ++ [r5])
            else
            bif x1.2.1 == 2 then
              bif !(!(decide (x1.2.2.1 < x3.2.2.2.2.2.1))) || (!(decide (x1.2.2.1 < x3.2.2.2.2.2.1))) then
                bif !(!(decide (x1.2.2.1 < x3.2.2.2.2.2.1))) || (!(decide (x1.2.2.1 < x3.2.2.2.2.2.1))) then
                  bif !(!(decide (x1.2.2.1 < x3.2.2.2.2.2.1))) || (!(decide (x1.2.2.1 < x3.2.2.2.2.2.1))) then
                    bif (decide (x1.2.2.1 < x3.2.2.2.2.2.1)) || (!(decide (x1.2.2.1 < x3.2.2.2.2.2.1))) then
                      bif (decide (x1.2.2.1 < x3.2.2.2.2.2.1)) || (decide (x1.2.2.1 > x3.2.2.2.2.2.2)) then
                        some ([], 4)
                      else
                        effect_Of.l5 N x0 x1 x2 x3 x4 r1 r2 r3 r4 r5 a9 N r5.1.1 0 (a8 ++ [r5]) r5.1.2.1.1 r5.1.2.1.2
                    else
                      none
                  else
                    none
                else
                  none
              else
                none
            else
              (effect_course_speed.fn N (r5, ((a8 ++ [r5]), a9))).bind fun r42 =>
              bif r42 == 0 then
                some ([], 10)
              else
                (plane_Distance.fn N (r5.1.2.1, x4)).bind fun r43 =>
                bif r43.2 == 0 then
                  bif decide (((a8 ++ [r5]).length : Int) > 64) then
                    some ([], 2)
                  else
                    some ((a8 ++ [r5]), 0)
                else
                  (effect_up.fn N (r43.2, r42)).bind fun r44 =>
                  bif decide ((w (r5.1.1 + r44)) > 200000) then
                    some ([], 12)
                  else
                  bif decide (((a8 ++ [r5]).length + 1) * 48 ≤ 140737488355328) && decide (((a8 ++ [r5]).length + 1) ≤ maxLen) then
                    bif decide ((((a8 ++ [r5]) ++ [(((w (r5.1.1 + r44)), (x4, r5.1.2.2)), r5.2)]).length : Int) > 64) then
                      some ([], 2)
                    else
                      some (((a8 ++ [r5]) ++ [(((w (r5.1.1 + r44)), (x4, r5.1.2.2)), r5.2)]), 0)
                  else
                    none
          else
            none
        else
          none
      else
        none
    else
      none := by kernel_rfl
theorem taut26 : ∀ p0 p1 : Bool, ((!(!((p0) && (p1))) || (!((p0) && (p1))))) = true := by decide
theorem taut27 : ∀ p0 p1 : Bool, ((!((!((p0) && (p1))) && (p0)) || ((!((p0) && (p1))) && (p0)))) = true := by decide
theorem taut28 : ∀ p0 p1 : Bool, (((!(!((p0) && (p1)))) || (!((p0) && (p1))))) = true := by decide
theorem taut29 : ∀ p0 p1 : Bool, (((!((!((p0) && (p1))) && (p0))) || ((!((p0) && (p1))) && (p0)))) = true := by decide
theorem effect_Of.l1_clean (N : Nat) (x0 : List ((Int × (Int × Int) × Int) × Int × Int)) (x1 : ByteArray × Int × Int × ByteArray) (x2 : Int) (x3 : ByteArray × Int × Int × Int × Int × Int × Int) (x4 : Int × Int) (r1 : Int) (r2 : Int) (r3 : Int) (r4 : Int) (r5 : (Int × (Int × Int) × Int) × Int × Int) (a8 : List ((Int × (Int × Int) × Int) × Int × Int)) (a9 : List ((Int × (Int × Int) × Int) × Int × Int)) (r10 : Int × Int) (k11 : Nat) (a12 : Int) (a13 : Int) : effect_Of.l1 N x0 x1 x2 x3 x4 r1 r2 r3 r4 r5 a8 a9 r10 (k11 + 1) a12 a13 =
    bif decide (a12 < a13) then
      bif (decide (0 ≤ (w (shrI .u64 (IntKind.wrap .u64 (w (a12 + a13))) 1)))) && (decide ((w (shrI .u64 (IntKind.wrap .u64 (w (a12 + a13))) 1)) < (a9.length : Int))) then
        bif decide ((Int.toNat (w (shrI .u64 (IntKind.wrap .u64 (w (a12 + a13))) 1))) < a9.length) then
          (effect_course_climb_1.fn N (List.getD a9 (Int.toNat (w (shrI .u64 (IntKind.wrap .u64 (w (a12 + a13))) 1))) ((0, ((0, 0), 0)), (0, 0)), (w (r5.1.1 + r10.1)))).bind fun r14 =>
          bif decide (r14 < 0) then
            effect_Of.l1 N x0 x1 x2 x3 x4 r1 r2 r3 r4 r5 a8 a9 r10 k11 (w ((w (shrI .u64 (IntKind.wrap .u64 (w (a12 + a13))) 1)) + 1)) a13
          else
            effect_Of.l1 N x0 x1 x2 x3 x4 r1 r2 r3 r4 r5 a8 a9 r10 k11 a12 (w (shrI .u64 (IntKind.wrap .u64 (w (a12 + a13))) 1))
        else
          none
      else
        none
    else
    bif ((decide (0 ≤ a12)) && (decide (a12 < (a9.length : Int)))) || !(decide (a12 < (a9.length : Int))) then
      bif (decide ((Int.toNat a12) < a9.length)) || !(decide (a12 < (a9.length : Int))) then
        (bif (decide (a12 < (a9.length : Int))) then effect_course_climb_1.fn N (List.getD a9 (Int.toNat a12) ((0, ((0, 0), 0)), (0, 0)), (w (r5.1.1 + r10.1))) else some (0)).bind fun r15 =>
        bif ((!((decide (a12 < (a9.length : Int))) && (r15 == 0))) && (decide (a12 < (a9.length : Int)))) && (decide (r10.1 > 0)) then
          (slices_Clone_TubeNode.fn N a9).bind fun r16 =>
          (tube_Point.fn N (x0, (w (r5.1.1 + r10.1)))).bind fun r17 =>
          bif (decide (0 ≤ a12)) && (decide (a12 ≤ (r16.length : Int))) then
            bif decide ((r16.length + 1) * 48 ≤ 140737488355328) && decide (r16.length + 1 ≤ maxLen) then
              effect_Of.l2 N x0 x1 x2 x3 x4 r1 r2 r3 r4 r5 a9 r10 a12 r16 r17 N 0 (a8 ++ [r5])
            else
              none
          else
            none
        else
          effect_Of.l3 N x0 x1 x2 x3 x4 r1 r2 r3 r4 r5 a9 r10 N 0 (a8 ++ [r5])
      else
        none
    else
      none := by
  rw [effect_Of.l1_succ]; simp only [taut26, taut27, taut21, taut28, taut29, taut23, cond_true]
theorem effect_Of.l0_clean (N : Nat) (x0 : List ((Int × (Int × Int) × Int) × Int × Int)) (x1 : ByteArray × Int × Int × ByteArray) (x2 : Int) (x3 : ByteArray × Int × Int × Int × Int × Int × Int) (x4 : Int × Int) (r1 : Int) (r2 : Int) (r3 : Int) (r4 : Int) (r5 : (Int × (Int × Int) × Int) × Int × Int) (k6 : Nat) (a7 : Int) (a8 : List ((Int × (Int × Int) × Int) × Int × Int)) (a9 : List ((Int × (Int × Int) × Int) × Int × Int)) : effect_Of.l0 N x0 x1 x2 x3 x4 r1 r2 r3 r4 r5 (k6 + 1) a7 a8 a9 =
    bif decide (a7 < (x0.length : Int)) then
      bif (decide (0 ≤ a7)) && (decide (a7 < (x0.length : Int))) then
        bif decide ((((List.getD x0 (Int.toNat a7) ((0, ((0, 0), 0)), (0, 0))).1).1) < x2) then
          bif decide ((a8.length + 1) * 48 ≤ 140737488355328) && decide ((a8.length + 1) ≤ maxLen) then
            effect_Of.l0 N x0 x1 x2 x3 x4 r1 r2 r3 r4 r5 k6 (w (a7 + 1)) (a8 ++ [List.getD x0 (Int.toNat a7) ((0, ((0, 0), 0)), (0, 0))]) a9
          else
            none
        else
        bif decide ((((List.getD x0 (Int.toNat a7) ((0, ((0, 0), 0)), (0, 0))).1).1) > x2) then
          bif decide ((a9.length + 1) * 48 ≤ 140737488355328) && decide ((a9.length + 1) ≤ maxLen) then
            effect_Of.l0 N x0 x1 x2 x3 x4 r1 r2 r3 r4 r5 k6 (w (a7 + 1)) a8 (a9 ++ [List.getD x0 (Int.toNat a7) ((0, ((0, 0), 0)), (0, 0))])
          else
            none
        else
          effect_Of.l0 N x0 x1 x2 x3 x4 r1 r2 r3 r4 r5 k6 (w (a7 + 1)) a8 a9
      else
        none
    else
    bif decide ((a8.length + 1) * 48 ≤ 140737488355328) && decide ((a8.length + 1) ≤ maxLen) then
      bif x1.2.1 == 0 then
        (aircraft_Climb.fn N (x3, r5.1.2.2, x1.2.2.1)).bind fun r10 =>
        bif !(r10.2 == 0) then
          bif !(r10.2 == 0) then
            some ([], r10.2)
          else
            some ([], 0)
        else
          effect_Of.l1 N x0 x1 x2 x3 x4 r1 r2 r3 r4 r5 a8 a9 r10 N 0 (a9.length : Int)
      else
      bif ((a9.length : Int) == 0) || (decide (x1.2.1 > 3)) then
        (slices_Clone_TubeNode.fn N x0).bind fun r26 =>
        bif decide ((r26.length : Int) > 64) then
          some ([], 2)
        else
          some (r26, 0)
      else
      bif x1.2.1 == 1 then
        (effect_course_speed.fn N (r5, ((a8 ++ [r5]), a9))).bind fun r27 =>
        effect_Of.l4 N x0 x1 x2 x3 x4 r1 r2 r3 r4 r5 a9 r27 N 0 (a8 ++ [r5])
      else
      bif x1.2.1 == 2 then
        bif (decide (x1.2.2.1 < x3.2.2.2.2.2.1)) || (decide (x1.2.2.1 > x3.2.2.2.2.2.2)) then
          some ([], 4)
        else
          effect_Of.l5 N x0 x1 x2 x3 x4 r1 r2 r3 r4 r5 a9 N r5.1.1 0 (a8 ++ [r5]) r5.1.2.1.1 r5.1.2.1.2
      else
        (effect_course_speed.fn N (r5, ((a8 ++ [r5]), a9))).bind fun r42 =>
        bif r42 == 0 then
          some ([], 10)
        else
          (plane_Distance.fn N (r5.1.2.1, x4)).bind fun r43 =>
          bif r43.2 == 0 then
            bif decide (((a8 ++ [r5]).length : Int) > 64) then
              some ([], 2)
            else
              some ((a8 ++ [r5]), 0)
          else
            (effect_up.fn N (r43.2, r42)).bind fun r44 =>
            bif decide ((w (r5.1.1 + r44)) > 200000) then
              some ([], 12)
            else
            bif decide (((a8 ++ [r5]).length + 1) * 48 ≤ 140737488355328) && decide (((a8 ++ [r5]).length + 1) ≤ maxLen) then
              bif decide ((((a8 ++ [r5]) ++ [(((w (r5.1.1 + r44)), (x4, r5.1.2.2)), r5.2)]).length : Int) > 64) then
                some ([], 2)
              else
                some (((a8 ++ [r5]) ++ [(((w (r5.1.1 + r44)), (x4, r5.1.2.2)), r5.2)]), 0)
            else
              none
    else
      none := by
  rw [effect_Of.l0_succ]; simp only [taut3, taut6, cond_true]
theorem effect_Of.l5_cons (N : Nat) (x0 : List ((Int × (Int × Int) × Int) × Int × Int)) (x1 : ByteArray × Int × Int × ByteArray) (x2 : Int) (x3 : ByteArray × Int × Int × Int × Int × Int × Int) (x4 : Int × Int) (r1 : Int) (r2 : Int) (r3 : Int) (r4 : Int) (r5 : (Int × (Int × Int) × Int) × Int × Int) (a9 : List ((Int × (Int × Int) × Int) × Int × Int)) (k34 : Nat) (a35 : Int) (a37 : List ((Int × (Int × Int) × Int) × Int × Int)) (a38 : Int) (a39 : Int) {pre r} {x} (hl : a9 = pre ++ x :: r) (hb : a9.length < 4611686018427387904) : effect_Of.l5 N x0 x1 x2 x3 x4 r1 r2 r3 r4 r5 a9 (k34 + 1) a35 (pre.length : Int) a37 a38 a39 =
    bif decide (pre.length < a9.length) then
      (plane_Distance.fn N ((a38, a39), ((x.1).2).1)).bind fun r40 =>
      (effect_up.fn N (r40.2, x1.2.2.1)).bind fun r41 =>
      bif decide ((w (a35 + r41)) > 200000) then
        some ([], 12)
      else
      bif decide ((a37.length + 1) * 48 ≤ 140737488355328) && decide ((a37.length + 1) ≤ maxLen) then
        effect_Of.l5 N x0 x1 x2 x3 x4 r1 r2 r3 r4 r5 a9 k34 (w (a35 + r41)) ((pre.length : Int) + 1) (a37 ++ [(((w (a35 + r41)), (x.1).2), x.2)]) ((((x.1).2).1).1) ((((x.1).2).1).2)
      else
        none
    else
      none := by
  have hlen : a9.length = pre.length + 1 + r.length := by rw [hl]; simp; omega
  have e1 : decide ((pre.length : Int) < (a9.length : Int)) = true := by rw [decide_eq_true_iff]; omega
  have e2 : decide (0 ≤ (pre.length : Int)) = true := by rw [decide_eq_true_iff]; omega
  have e4 : w ((pre.length : Int) + 1) = (pre.length : Int) + 1 := w_next hl hb
  have e5 : List.take pre.length a9 = pre := by rw [hl]; simp
  have e6 : decide ((pre.length : Int) ≤ (a9.length : Int)) = true := by rw [decide_eq_true_iff]; omega
  have g0 : List.getD a9 pre.length ((0, ((0, 0), 0)), (0, 0)) = x := by rw [hl]; exact getD_mid pre x r _
  rw [effect_Of.l5_succ]
  simp -implicitDefEqProofs only [Int.toNat_natCast, e1, e2, e4, e6, g0, e5, Bool.and_true, Bool.true_and, Bool.true_or, cond_true]
theorem effect_Of.l5_nil (N : Nat) (x0 : List ((Int × (Int × Int) × Int) × Int × Int)) (x1 : ByteArray × Int × Int × ByteArray) (x2 : Int) (x3 : ByteArray × Int × Int × Int × Int × Int × Int) (x4 : Int × Int) (r1 : Int) (r2 : Int) (r3 : Int) (r4 : Int) (r5 : (Int × (Int × Int) × Int) × Int × Int) (a9 : List ((Int × (Int × Int) × Int) × Int × Int)) (k34 : Nat) (a35 : Int) (a37 : List ((Int × (Int × Int) × Int) × Int × Int)) (a38 : Int) (a39 : Int) : effect_Of.l5 N x0 x1 x2 x3 x4 r1 r2 r3 r4 r5 a9 (k34 + 1) a35 (a9.length : Int) a37 a38 a39 =
    bif decide ((a37.length : Int) > 64) then
      some ([], 2)
    else
      some (a37, 0) := by
  have e1 : decide ((a9.length : Int) < (a9.length : Int)) = false := by rw [decide_eq_false_iff_not]; omega
  rw [effect_Of.l5_succ]
  simp -implicitDefEqProofs only [e1, cond_false]
theorem effect_Of.l4_cons (N : Nat) (x0 : List ((Int × (Int × Int) × Int) × Int × Int)) (x1 : ByteArray × Int × Int × ByteArray) (x2 : Int) (x3 : ByteArray × Int × Int × Int × Int × Int × Int) (x4 : Int × Int) (r1 : Int) (r2 : Int) (r3 : Int) (r4 : Int) (r5 : (Int × (Int × Int) × Int) × Int × Int) (a9 : List ((Int × (Int × Int) × Int) × Int × Int)) (r27 : Int) (k28 : Nat) (a30 : List ((Int × (Int × Int) × Int) × Int × Int)) {pre r} {x} (hl : a9 = pre ++ x :: r) (hb : a9.length < 4611686018427387904) : effect_Of.l4 N x0 x1 x2 x3 x4 r1 r2 r3 r4 r5 a9 r27 (k28 + 1) (pre.length : Int) a30 =
    bif decide (pre.length < a9.length) then
      (angle_Vector.fn N (x1.2.2.1, (w (r27 * (w (((x.1).1) - r5.1.1)))))).bind fun r31 =>
      bif !(r31.2 == 0) then
        bif !(r31.2 == 0) then
          some ([], r31.2)
        else
          some ([], 0)
      else
        (plane_Add.fn N (r5.1.2.1, r31.1)).bind fun r32 =>
        (plane_Check.fn N r32).bind fun r33 =>
        bif !(r33 == 0) then
          bif !(r33 == 0) then
            some ([], r33)
          else
            some ([], 0)
        else
        bif decide ((a30.length + 1) * 48 ≤ 140737488355328) && decide ((a30.length + 1) ≤ maxLen) then
          effect_Of.l4 N x0 x1 x2 x3 x4 r1 r2 r3 r4 r5 a9 r27 k28 ((pre.length : Int) + 1) (a30 ++ [(((x.1).1, (r32, ((x.1).2).2)), x.2)])
        else
          none
    else
      none := by
  have hlen : a9.length = pre.length + 1 + r.length := by rw [hl]; simp; omega
  have e1 : decide ((pre.length : Int) < (a9.length : Int)) = true := by rw [decide_eq_true_iff]; omega
  have e2 : decide (0 ≤ (pre.length : Int)) = true := by rw [decide_eq_true_iff]; omega
  have e4 : w ((pre.length : Int) + 1) = (pre.length : Int) + 1 := w_next hl hb
  have e5 : List.take pre.length a9 = pre := by rw [hl]; simp
  have e6 : decide ((pre.length : Int) ≤ (a9.length : Int)) = true := by rw [decide_eq_true_iff]; omega
  have g0 : List.getD a9 pre.length ((0, ((0, 0), 0)), (0, 0)) = x := by rw [hl]; exact getD_mid pre x r _
  rw [effect_Of.l4_succ]
  simp -implicitDefEqProofs only [Int.toNat_natCast, e1, e2, e4, e6, g0, e5, Bool.and_true, Bool.true_and, Bool.true_or, cond_true]
theorem effect_Of.l4_nil (N : Nat) (x0 : List ((Int × (Int × Int) × Int) × Int × Int)) (x1 : ByteArray × Int × Int × ByteArray) (x2 : Int) (x3 : ByteArray × Int × Int × Int × Int × Int × Int) (x4 : Int × Int) (r1 : Int) (r2 : Int) (r3 : Int) (r4 : Int) (r5 : (Int × (Int × Int) × Int) × Int × Int) (a9 : List ((Int × (Int × Int) × Int) × Int × Int)) (r27 : Int) (k28 : Nat) (a30 : List ((Int × (Int × Int) × Int) × Int × Int)) : effect_Of.l4 N x0 x1 x2 x3 x4 r1 r2 r3 r4 r5 a9 r27 (k28 + 1) (a9.length : Int) a30 =
    bif decide ((a30.length : Int) > 64) then
      some ([], 2)
    else
      some (a30, 0) := by
  have e1 : decide ((a9.length : Int) < (a9.length : Int)) = false := by rw [decide_eq_false_iff_not]; omega
  rw [effect_Of.l4_succ]
  simp -implicitDefEqProofs only [e1, cond_false]
theorem effect_Of.l3_cons (N : Nat) (x0 : List ((Int × (Int × Int) × Int) × Int × Int)) (x1 : ByteArray × Int × Int × ByteArray) (x2 : Int) (x3 : ByteArray × Int × Int × Int × Int × Int × Int) (x4 : Int × Int) (r1 : Int) (r2 : Int) (r3 : Int) (r4 : Int) (r5 : (Int × (Int × Int) × Int) × Int × Int) (a9 : List ((Int × (Int × Int) × Int) × Int × Int)) (r10 : Int × Int) (k22 : Nat) (a24 : List ((Int × (Int × Int) × Int) × Int × Int)) {pre r} {x} (hl : a9 = pre ++ x :: r) (hb : a9.length < 4611686018427387904) : effect_Of.l3 N x0 x1 x2 x3 x4 r1 r2 r3 r4 r5 a9 r10 (k22 + 1) (pre.length : Int) a24 =
    bif decide (pre.length < a9.length) then
      bif decide (((x.1).1) < (w (r5.1.1 + r10.1))) then
        (effect_down.fn N ((w ((w (x1.2.2.1 - r5.1.2.2)) * (w (((x.1).1) - r5.1.1)))), r10.1)).bind fun r25 =>
        bif decide ((a24.length + 1) * 48 ≤ 140737488355328) && decide ((a24.length + 1) ≤ maxLen) then
          effect_Of.l3 N x0 x1 x2 x3 x4 r1 r2 r3 r4 r5 a9 r10 k22 ((pre.length : Int) + 1) (a24 ++ [(((x.1).1, (((x.1).2).1, (w (r5.1.2.2 + r25)))), x.2)])
        else
          none
      else
      bif decide ((a24.length + 1) * 48 ≤ 140737488355328) && decide ((a24.length + 1) ≤ maxLen) then
        effect_Of.l3 N x0 x1 x2 x3 x4 r1 r2 r3 r4 r5 a9 r10 k22 ((pre.length : Int) + 1) (a24 ++ [(((x.1).1, (((x.1).2).1, x1.2.2.1)), x.2)])
      else
        none
    else
      none := by
  have hlen : a9.length = pre.length + 1 + r.length := by rw [hl]; simp; omega
  have e1 : decide ((pre.length : Int) < (a9.length : Int)) = true := by rw [decide_eq_true_iff]; omega
  have e2 : decide (0 ≤ (pre.length : Int)) = true := by rw [decide_eq_true_iff]; omega
  have e4 : w ((pre.length : Int) + 1) = (pre.length : Int) + 1 := w_next hl hb
  have e5 : List.take pre.length a9 = pre := by rw [hl]; simp
  have e6 : decide ((pre.length : Int) ≤ (a9.length : Int)) = true := by rw [decide_eq_true_iff]; omega
  have g0 : List.getD a9 pre.length ((0, ((0, 0), 0)), (0, 0)) = x := by rw [hl]; exact getD_mid pre x r _
  rw [effect_Of.l3_succ]
  simp -implicitDefEqProofs only [Int.toNat_natCast, e1, e2, e4, e6, g0, e5, Bool.and_true, Bool.true_and, Bool.true_or, cond_true]
theorem effect_Of.l3_nil (N : Nat) (x0 : List ((Int × (Int × Int) × Int) × Int × Int)) (x1 : ByteArray × Int × Int × ByteArray) (x2 : Int) (x3 : ByteArray × Int × Int × Int × Int × Int × Int) (x4 : Int × Int) (r1 : Int) (r2 : Int) (r3 : Int) (r4 : Int) (r5 : (Int × (Int × Int) × Int) × Int × Int) (a9 : List ((Int × (Int × Int) × Int) × Int × Int)) (r10 : Int × Int) (k22 : Nat) (a24 : List ((Int × (Int × Int) × Int) × Int × Int)) : effect_Of.l3 N x0 x1 x2 x3 x4 r1 r2 r3 r4 r5 a9 r10 (k22 + 1) (a9.length : Int) a24 =
    bif decide ((a24.length : Int) > 64) then
      some ([], 2)
    else
      some (a24, 0) := by
  have e1 : decide ((a9.length : Int) < (a9.length : Int)) = false := by rw [decide_eq_false_iff_not]; omega
  rw [effect_Of.l3_succ]
  simp -implicitDefEqProofs only [e1, cond_false]
theorem effect_Of.l2_cons (N : Nat) (x0 : List ((Int × (Int × Int) × Int) × Int × Int)) (x1 : ByteArray × Int × Int × ByteArray) (x2 : Int) (x3 : ByteArray × Int × Int × Int × Int × Int × Int) (x4 : Int × Int) (r1 : Int) (r2 : Int) (r3 : Int) (r4 : Int) (r5 : (Int × (Int × Int) × Int) × Int × Int) (a9 : List ((Int × (Int × Int) × Int) × Int × Int)) (r10 : Int × Int) (a12 : Int) (r16 : List ((Int × (Int × Int) × Int) × Int × Int)) (r17 : (Int × (Int × Int) × Int) × Int × Int) (k18 : Nat) (a20 : List ((Int × (Int × Int) × Int) × Int × Int)) {pre r} {x} (hl : ((List.take (Int.toNat a12) r16) ++ [r17] ++ (List.drop (Int.toNat a12) r16)) = pre ++ x :: r) (hb : ((List.take (Int.toNat a12) r16) ++ [r17] ++ (List.drop (Int.toNat a12) r16)).length < 4611686018427387904) : effect_Of.l2 N x0 x1 x2 x3 x4 r1 r2 r3 r4 r5 a9 r10 a12 r16 r17 (k18 + 1) (pre.length : Int) a20 =
    bif decide (pre.length < ((List.take (Int.toNat a12) r16) ++ [r17] ++ (List.drop (Int.toNat a12) r16)).length) then
      bif decide (((x.1).1) < (w (r5.1.1 + r10.1))) then
        (effect_down.fn N ((w ((w (x1.2.2.1 - r5.1.2.2)) * (w (((x.1).1) - r5.1.1)))), r10.1)).bind fun r21 =>
        bif decide ((a20.length + 1) * 48 ≤ 140737488355328) && decide ((a20.length + 1) ≤ maxLen) then
          effect_Of.l2 N x0 x1 x2 x3 x4 r1 r2 r3 r4 r5 a9 r10 a12 r16 r17 k18 ((pre.length : Int) + 1) (a20 ++ [(((x.1).1, (((x.1).2).1, (w (r5.1.2.2 + r21)))), x.2)])
        else
          none
      else
      bif decide ((a20.length + 1) * 48 ≤ 140737488355328) && decide ((a20.length + 1) ≤ maxLen) then
        effect_Of.l2 N x0 x1 x2 x3 x4 r1 r2 r3 r4 r5 a9 r10 a12 r16 r17 k18 ((pre.length : Int) + 1) (a20 ++ [(((x.1).1, (((x.1).2).1, x1.2.2.1)), x.2)])
      else
        none
    else
      none := by
  have hlen : ((List.take (Int.toNat a12) r16) ++ [r17] ++ (List.drop (Int.toNat a12) r16)).length = pre.length + 1 + r.length := by rw [hl]; simp; omega
  have e1 : decide ((pre.length : Int) < (((List.take (Int.toNat a12) r16) ++ [r17] ++ (List.drop (Int.toNat a12) r16)).length : Int)) = true := by rw [decide_eq_true_iff]; omega
  have e2 : decide (0 ≤ (pre.length : Int)) = true := by rw [decide_eq_true_iff]; omega
  have e4 : w ((pre.length : Int) + 1) = (pre.length : Int) + 1 := w_next hl hb
  have e5 : List.take pre.length ((List.take (Int.toNat a12) r16) ++ [r17] ++ (List.drop (Int.toNat a12) r16)) = pre := by rw [hl]; simp
  have e6 : decide ((pre.length : Int) ≤ (((List.take (Int.toNat a12) r16) ++ [r17] ++ (List.drop (Int.toNat a12) r16)).length : Int)) = true := by rw [decide_eq_true_iff]; omega
  have g0 : List.getD ((List.take (Int.toNat a12) r16) ++ [r17] ++ (List.drop (Int.toNat a12) r16)) pre.length ((0, ((0, 0), 0)), (0, 0)) = x := by rw [hl]; exact getD_mid pre x r _
  rw [effect_Of.l2_succ]
  simp -implicitDefEqProofs only [Int.toNat_natCast, e1, e2, e4, e6, g0, e5, Bool.and_true, Bool.true_and, Bool.true_or, cond_true]
theorem effect_Of.l2_nil (N : Nat) (x0 : List ((Int × (Int × Int) × Int) × Int × Int)) (x1 : ByteArray × Int × Int × ByteArray) (x2 : Int) (x3 : ByteArray × Int × Int × Int × Int × Int × Int) (x4 : Int × Int) (r1 : Int) (r2 : Int) (r3 : Int) (r4 : Int) (r5 : (Int × (Int × Int) × Int) × Int × Int) (a9 : List ((Int × (Int × Int) × Int) × Int × Int)) (r10 : Int × Int) (a12 : Int) (r16 : List ((Int × (Int × Int) × Int) × Int × Int)) (r17 : (Int × (Int × Int) × Int) × Int × Int) (k18 : Nat) (a20 : List ((Int × (Int × Int) × Int) × Int × Int)) : effect_Of.l2 N x0 x1 x2 x3 x4 r1 r2 r3 r4 r5 a9 r10 a12 r16 r17 (k18 + 1) (((List.take (Int.toNat a12) r16) ++ [r17] ++ (List.drop (Int.toNat a12) r16)).length : Int) a20 =
    bif decide ((a20.length : Int) > 64) then
      some ([], 2)
    else
      some (a20, 0) := by
  have e1 : decide ((((List.take (Int.toNat a12) r16) ++ [r17] ++ (List.drop (Int.toNat a12) r16)).length : Int) < (((List.take (Int.toNat a12) r16) ++ [r17] ++ (List.drop (Int.toNat a12) r16)).length : Int)) = false := by rw [decide_eq_false_iff_not]; omega
  rw [effect_Of.l2_succ]
  simp -implicitDefEqProofs only [e1, cond_false]
theorem effect_Of.l0_cons (N : Nat) (x0 : List ((Int × (Int × Int) × Int) × Int × Int)) (x1 : ByteArray × Int × Int × ByteArray) (x2 : Int) (x3 : ByteArray × Int × Int × Int × Int × Int × Int) (x4 : Int × Int) (r1 : Int) (r2 : Int) (r3 : Int) (r4 : Int) (r5 : (Int × (Int × Int) × Int) × Int × Int) (k6 : Nat) (a8 : List ((Int × (Int × Int) × Int) × Int × Int)) (a9 : List ((Int × (Int × Int) × Int) × Int × Int)) {pre r} {x} (hl : x0 = pre ++ x :: r) (hb : x0.length < 4611686018427387904) : effect_Of.l0 N x0 x1 x2 x3 x4 r1 r2 r3 r4 r5 (k6 + 1) (pre.length : Int) a8 a9 =
    bif decide (((x.1).1) < x2) then
      bif decide ((a8.length + 1) * 48 ≤ 140737488355328) && decide ((a8.length + 1) ≤ maxLen) then
        effect_Of.l0 N x0 x1 x2 x3 x4 r1 r2 r3 r4 r5 k6 ((pre.length : Int) + 1) (a8 ++ [x]) a9
      else
        none
    else
    bif decide (((x.1).1) > x2) then
      bif decide ((a9.length + 1) * 48 ≤ 140737488355328) && decide ((a9.length + 1) ≤ maxLen) then
        effect_Of.l0 N x0 x1 x2 x3 x4 r1 r2 r3 r4 r5 k6 ((pre.length : Int) + 1) a8 (a9 ++ [x])
      else
        none
    else
      effect_Of.l0 N x0 x1 x2 x3 x4 r1 r2 r3 r4 r5 k6 ((pre.length : Int) + 1) a8 a9 := by
  have hlen : x0.length = pre.length + 1 + r.length := by rw [hl]; simp; omega
  have e1 : decide ((pre.length : Int) < (x0.length : Int)) = true := by rw [decide_eq_true_iff]; omega
  have e2 : decide (0 ≤ (pre.length : Int)) = true := by rw [decide_eq_true_iff]; omega
  have e4 : w ((pre.length : Int) + 1) = (pre.length : Int) + 1 := w_next hl hb
  have e5 : List.take pre.length x0 = pre := by rw [hl]; simp
  have e6 : decide ((pre.length : Int) ≤ (x0.length : Int)) = true := by rw [decide_eq_true_iff]; omega
  have g0 : List.getD x0 pre.length ((0, ((0, 0), 0)), (0, 0)) = x := by rw [hl]; exact getD_mid pre x r _
  rw [effect_Of.l0_clean]
  simp -implicitDefEqProofs only [Int.toNat_natCast, e1, e2, e4, e6, g0, e5, Bool.and_true, Bool.true_and, Bool.true_or, cond_true]
theorem effect_Of.l0_nil (N : Nat) (x0 : List ((Int × (Int × Int) × Int) × Int × Int)) (x1 : ByteArray × Int × Int × ByteArray) (x2 : Int) (x3 : ByteArray × Int × Int × Int × Int × Int × Int) (x4 : Int × Int) (r1 : Int) (r2 : Int) (r3 : Int) (r4 : Int) (r5 : (Int × (Int × Int) × Int) × Int × Int) (k6 : Nat) (a8 : List ((Int × (Int × Int) × Int) × Int × Int)) (a9 : List ((Int × (Int × Int) × Int) × Int × Int)) : effect_Of.l0 N x0 x1 x2 x3 x4 r1 r2 r3 r4 r5 (k6 + 1) (x0.length : Int) a8 a9 =
    bif decide ((a8.length + 1) * 48 ≤ 140737488355328) && decide ((a8.length + 1) ≤ maxLen) then
      bif x1.2.1 == 0 then
        (aircraft_Climb.fn N (x3, r5.1.2.2, x1.2.2.1)).bind fun r10 =>
        bif !(r10.2 == 0) then
          bif !(r10.2 == 0) then
            some ([], r10.2)
          else
            some ([], 0)
        else
          effect_Of.l1 N x0 x1 x2 x3 x4 r1 r2 r3 r4 r5 a8 a9 r10 N 0 (a9.length : Int)
      else
      bif ((a9.length : Int) == 0) || (decide (x1.2.1 > 3)) then
        (slices_Clone_TubeNode.fn N x0).bind fun r26 =>
        bif decide ((r26.length : Int) > 64) then
          some ([], 2)
        else
          some (r26, 0)
      else
      bif x1.2.1 == 1 then
        (effect_course_speed.fn N (r5, ((a8 ++ [r5]), a9))).bind fun r27 =>
        effect_Of.l4 N x0 x1 x2 x3 x4 r1 r2 r3 r4 r5 a9 r27 N 0 (a8 ++ [r5])
      else
      bif x1.2.1 == 2 then
        bif (decide (x1.2.2.1 < x3.2.2.2.2.2.1)) || (decide (x1.2.2.1 > x3.2.2.2.2.2.2)) then
          some ([], 4)
        else
          effect_Of.l5 N x0 x1 x2 x3 x4 r1 r2 r3 r4 r5 a9 N r5.1.1 0 (a8 ++ [r5]) r5.1.2.1.1 r5.1.2.1.2
      else
        (effect_course_speed.fn N (r5, ((a8 ++ [r5]), a9))).bind fun r42 =>
        bif r42 == 0 then
          some ([], 10)
        else
          (plane_Distance.fn N (r5.1.2.1, x4)).bind fun r43 =>
          bif r43.2 == 0 then
            bif decide (((a8 ++ [r5]).length : Int) > 64) then
              some ([], 2)
            else
              some ((a8 ++ [r5]), 0)
          else
            (effect_up.fn N (r43.2, r42)).bind fun r44 =>
            bif decide ((w (r5.1.1 + r44)) > 200000) then
              some ([], 12)
            else
            bif decide (((a8 ++ [r5]).length + 1) * 48 ≤ 140737488355328) && decide (((a8 ++ [r5]).length + 1) ≤ maxLen) then
              bif decide ((((a8 ++ [r5]) ++ [(((w (r5.1.1 + r44)), (x4, r5.1.2.2)), r5.2)]).length : Int) > 64) then
                some ([], 2)
              else
                some (((a8 ++ [r5]) ++ [(((w (r5.1.1 + r44)), (x4, r5.1.2.2)), r5.2)]), 0)
            else
              none
    else
      none := by
  have e1 : decide ((x0.length : Int) < (x0.length : Int)) = false := by rw [decide_eq_false_iff_not]; omega
  rw [effect_Of.l0_clean]
  simp -implicitDefEqProofs only [e1, cond_false]
theorem effect_Of.eq (N : Nat) (x0 : List ((Int × (Int × Int) × Int) × Int × Int)) (x1 : ByteArray × Int × Int × ByteArray) (x2 : Int) (x3 : ByteArray × Int × Int × Int × Int × Int × Int) (x4 : Int × Int) : effect_Of.fn N (x0, x1, x2, x3, x4) =
    (tube_Check.fn N x0).bind fun r1 =>
    bif !(r1 == 0) then
      some ([], r1)
    else
      (phrase_Check.fn N x1).bind fun r2 =>
      bif !(r2 == 0) then
        some ([], r2)
      else
        (aircraft_Check.fn N x3).bind fun r3 =>
        bif !(r3 == 0) then
          some ([], r3)
        else
          (plane_Check.fn N x4).bind fun r4 =>
          bif !(r4 == 0) then
            some ([], r4)
          else
          bif decide (0 < (x0.length : Int)) then
            bif !(!(decide (x2 < (((List.getD x0 0 ((0, ((0, 0), 0)), (0, 0))).1).1)))) || (!(decide (x2 < (((List.getD x0 0 ((0, ((0, 0), 0)), (0, 0))).1).1)))) then
              bif !(!(decide (x2 < (((List.getD x0 0 ((0, ((0, 0), 0)), (0, 0))).1).1)))) || (!(decide (x2 < (((List.getD x0 0 ((0, ((0, 0), 0)), (0, 0))).1).1)))) then
                bif !(!(decide (x2 < (((List.getD x0 0 ((0, ((0, 0), 0)), (0, 0))).1).1)))) || (!(decide (x2 < (((List.getD x0 0 ((0, ((0, 0), 0)), (0, 0))).1).1)))) then
                  bif !(!(decide (x2 < (((List.getD x0 0 ((0, ((0, 0), 0)), (0, 0))).1).1)))) || (!(decide (x2 < (((List.getD x0 0 ((0, ((0, 0), 0)), (0, 0))).1).1)))) then
                    bif ((decide (0 ≤ (w ((x0.length : Int) - 1)))) && (decide ((w ((x0.length : Int) - 1)) < (x0.length : Int)))) || !(!(decide (x2 < (((List.getD x0 0 ((0, ((0, 0), 0)), (0, 0))).1).1)))) then
                      bif !(!(decide (x2 < (((List.getD x0 0 ((0, ((0, 0), 0)), (0, 0))).1).1)))) || (!(decide (x2 < (((List.getD x0 0 ((0, ((0, 0), 0)), (0, 0))).1).1)))) then
                        bif !(!(decide (x2 < (((List.getD x0 0 ((0, ((0, 0), 0)), (0, 0))).1).1)))) || (!(decide (x2 < (((List.getD x0 0 ((0, ((0, 0), 0)), (0, 0))).1).1)))) then
                          bif !(!(decide (x2 < (((List.getD x0 0 ((0, ((0, 0), 0)), (0, 0))).1).1)))) || (!(decide (x2 < (((List.getD x0 0 ((0, ((0, 0), 0)), (0, 0))).1).1)))) then
                            bif !(!(decide (x2 < (((List.getD x0 0 ((0, ((0, 0), 0)), (0, 0))).1).1)))) || (!(decide (x2 < (((List.getD x0 0 ((0, ((0, 0), 0)), (0, 0))).1).1)))) then
                              bif !(!(decide (x2 < (((List.getD x0 0 ((0, ((0, 0), 0)), (0, 0))).1).1)))) || (!(decide (x2 < (((List.getD x0 0 ((0, ((0, 0), 0)), (0, 0))).1).1)))) then
                                bif (decide (x2 < (((List.getD x0 0 ((0, ((0, 0), 0)), (0, 0))).1).1))) || (!(decide (x2 < (((List.getD x0 0 ((0, ((0, 0), 0)), (0, 0))).1).1)))) then
                                  bif (decide (x2 < (((List.getD x0 0 ((0, ((0, 0), 0)), (0, 0))).1).1))) || (decide (x2 > (((List.getD x0 (Int.toNat (w ((x0.length : Int) - 1))) ((0, ((0, 0), 0)), (0, 0))).1).1))) then
                                    some ([], 12)
                                  else
                                    (tube_Point.fn N (x0, x2)).bind fun r5 =>
                                    effect_Of.l0 N x0 x1 x2 x3 x4 r1 r2 r3 r4 r5 N 0 [] []
                                else
                                  none
                              else
                                none
                            else
                              none
                          else
                            none
                        else
                          none
                      else
                        none
                    else
                      none
                  else
                    none
                else
                  none
              else
                none
            else
              none
          else
            none := by kernel_rfl
theorem effect_Of.clean (N : Nat) (x0 : List ((Int × (Int × Int) × Int) × Int × Int)) (x1 : ByteArray × Int × Int × ByteArray) (x2 : Int) (x3 : ByteArray × Int × Int × Int × Int × Int × Int) (x4 : Int × Int) : effect_Of.fn N (x0, x1, x2, x3, x4) =
    (tube_Check.fn N x0).bind fun r1 =>
    bif !(r1 == 0) then
      some ([], r1)
    else
      (phrase_Check.fn N x1).bind fun r2 =>
      bif !(r2 == 0) then
        some ([], r2)
      else
        (aircraft_Check.fn N x3).bind fun r3 =>
        bif !(r3 == 0) then
          some ([], r3)
        else
          (plane_Check.fn N x4).bind fun r4 =>
          bif !(r4 == 0) then
            some ([], r4)
          else
          bif decide (0 < (x0.length : Int)) then
            bif ((decide (0 ≤ (w ((x0.length : Int) - 1)))) && (decide ((w ((x0.length : Int) - 1)) < (x0.length : Int)))) || !(!(decide (x2 < (((List.getD x0 0 ((0, ((0, 0), 0)), (0, 0))).1).1)))) then
              bif (decide (x2 < (((List.getD x0 0 ((0, ((0, 0), 0)), (0, 0))).1).1))) || (decide (x2 > (((List.getD x0 (Int.toNat (w ((x0.length : Int) - 1))) ((0, ((0, 0), 0)), (0, 0))).1).1))) then
                some ([], 12)
              else
                (tube_Point.fn N (x0, x2)).bind fun r5 =>
                effect_Of.l0 N x0 x1 x2 x3 x4 r1 r2 r3 r4 r5 N 0 [] []
            else
              none
          else
            none := by
  rw [effect_Of.eq]; simp only [taut3, taut6, cond_true]

/-! ### effect_has: skyway/effect.has -/
def effect_has.kp : List (Nat × List (Nat × Option (TypeId × Ty))) := []
noncomputable def effect_has.G (N : Nat) : List (Nat × Spec) := []
noncomputable def effect_has.E (N : Nat) : Env := mkEnv (effect_has.G N) N tyTab effect_has.kp
noncomputable def effect_has.fn (N : Nat) (x : List ((Int × (Int × Int) × Int) × Int × Int) × Int) : Option Bool := evFn (effect_has.E N) Tryd.prog 3 Tryd.f17 false [.cell (.sl 34 (.pair (.pair (.int .i64) (.pair (.pair (.int .i64) (.int .i64)) (.int .i64))) (.pair (.int .i64) (.int .i64)))), .cell (.int .i64)] [.val (.cell (.bool))] x
noncomputable def effect_has.S (N : Nat) : PSpec := ⟨false, [.cell (.sl 34 (.pair (.pair (.int .i64) (.pair (.pair (.int .i64) (.int .i64)) (.int .i64))) (.pair (.int .i64) (.int .i64)))), .cell (.int .i64)], [.val (.cell (.bool))], effect_has.fn N⟩
theorem f17_enters : Enters Tryd.prog 17 := ⟨Tryd.f17, Tryd.func17, by kernel_rfl, by kernel_rfl⟩
theorem effect_has.tab (N : Nat) : TabOk Tryd.prog (effect_has.G N) := trivial
theorem effect_has.enters : Enters Tryd.prog 17 := f17_enters
theorem effect_has.sound (N : Nat) : Sound Tryd.prog 17 (effect_has.S N) := evFn_sound (specs_tab (effect_has.tab N)) (inls_tab (effect_has.tab N)) mixed 3 Tryd.func17 _ _ _
theorem effect_has.eq (N : Nat) (x0 : List ((Int × (Int × Int) × Int) × Int × Int)) (x1 : Int) : effect_has.fn N (x0, x1) =
    bif decide (0 < (x0.length : Int)) then
      bif !(decide (x1 ≥ (((List.getD x0 0 ((0, ((0, 0), 0)), (0, 0))).1).1))) || (decide (x1 ≥ (((List.getD x0 0 ((0, ((0, 0), 0)), (0, 0))).1).1))) then
        bif !(decide (x1 ≥ (((List.getD x0 0 ((0, ((0, 0), 0)), (0, 0))).1).1))) || (decide (x1 ≥ (((List.getD x0 0 ((0, ((0, 0), 0)), (0, 0))).1).1))) then
          bif !(decide (x1 ≥ (((List.getD x0 0 ((0, ((0, 0), 0)), (0, 0))).1).1))) || (decide (x1 ≥ (((List.getD x0 0 ((0, ((0, 0), 0)), (0, 0))).1).1))) then
            bif !(decide (x1 ≥ (((List.getD x0 0 ((0, ((0, 0), 0)), (0, 0))).1).1))) || (decide (x1 ≥ (((List.getD x0 0 ((0, ((0, 0), 0)), (0, 0))).1).1))) then
              bif ((decide (0 ≤ (w ((x0.length : Int) - 1)))) && (decide ((w ((x0.length : Int) - 1)) < (x0.length : Int)))) || !(decide (x1 ≥ (((List.getD x0 0 ((0, ((0, 0), 0)), (0, 0))).1).1))) then
                bif !(decide (x1 ≥ (((List.getD x0 0 ((0, ((0, 0), 0)), (0, 0))).1).1))) || (decide (x1 ≥ (((List.getD x0 0 ((0, ((0, 0), 0)), (0, 0))).1).1))) then
                  bif !(decide (x1 ≥ (((List.getD x0 0 ((0, ((0, 0), 0)), (0, 0))).1).1))) || (decide (x1 ≥ (((List.getD x0 0 ((0, ((0, 0), 0)), (0, 0))).1).1))) then
                    bif !(decide (x1 ≥ (((List.getD x0 0 ((0, ((0, 0), 0)), (0, 0))).1).1))) || (decide (x1 ≥ (((List.getD x0 0 ((0, ((0, 0), 0)), (0, 0))).1).1))) then
                      bif !(decide (x1 ≥ (((List.getD x0 0 ((0, ((0, 0), 0)), (0, 0))).1).1))) || (decide (x1 ≥ (((List.getD x0 0 ((0, ((0, 0), 0)), (0, 0))).1).1))) then
                        bif !(decide (x1 ≥ (((List.getD x0 0 ((0, ((0, 0), 0)), (0, 0))).1).1))) || (decide (x1 ≥ (((List.getD x0 0 ((0, ((0, 0), 0)), (0, 0))).1).1))) then
                          bif (!(decide (x1 ≥ (((List.getD x0 0 ((0, ((0, 0), 0)), (0, 0))).1).1)))) || (decide (x1 ≥ (((List.getD x0 0 ((0, ((0, 0), 0)), (0, 0))).1).1))) then
                            some ((decide (x1 ≥ (((List.getD x0 0 ((0, ((0, 0), 0)), (0, 0))).1).1))) && (decide (x1 ≤ (((List.getD x0 (Int.toNat (w ((x0.length : Int) - 1))) ((0, ((0, 0), 0)), (0, 0))).1).1))))
                          else
                            none
                        else
                          none
                      else
                        none
                    else
                      none
                  else
                    none
                else
                  none
              else
                none
            else
              none
          else
            none
        else
          none
      else
        none
    else
      none := by kernel_rfl
theorem effect_has.clean (N : Nat) (x0 : List ((Int × (Int × Int) × Int) × Int × Int)) (x1 : Int) : effect_has.fn N (x0, x1) =
    bif decide (0 < (x0.length : Int)) then
      bif ((decide (0 ≤ (w ((x0.length : Int) - 1)))) && (decide ((w ((x0.length : Int) - 1)) < (x0.length : Int)))) || !(decide (x1 ≥ (((List.getD x0 0 ((0, ((0, 0), 0)), (0, 0))).1).1))) then
        some ((decide (x1 ≥ (((List.getD x0 0 ((0, ((0, 0), 0)), (0, 0))).1).1))) && (decide (x1 ≤ (((List.getD x0 (Int.toNat (w ((x0.length : Int) - 1))) ((0, ((0, 0), 0)), (0, 0))).1).1))))
      else
        none
    else
      none := by
  rw [effect_has.eq]; simp only [taut21, taut23, cond_true]

/-! ### effect_Differs: skyway/effect.Differs -/
def effect_Differs.kp : List (Nat × List (Nat × Option (TypeId × Ty))) := [(12, [(0, none), (1, none), (9, none), (10, none)])]
noncomputable def effect_Differs.G (N : Nat) : List (Nat × Spec) := [(7, .pure (tube_Check.S N)), (17, .pure (effect_has.S N)), (18, .pure (tube_Point.S N))]
noncomputable def effect_Differs.E (N : Nat) : Env := mkEnv (effect_Differs.G N) N tyTab effect_Differs.kp
noncomputable def effect_Differs.fn (N : Nat) (x : List ((Int × (Int × Int) × Int) × Int × Int) × List ((Int × (Int × Int) × Int) × Int × Int)) : Option (Int × Int) := evFn (effect_Differs.E N) Tryd.prog 3 Tryd.f6 false [.cell (.sl 34 (.pair (.pair (.int .i64) (.pair (.pair (.int .i64) (.int .i64)) (.int .i64))) (.pair (.int .i64) (.int .i64)))), .cell (.sl 34 (.pair (.pair (.int .i64) (.pair (.pair (.int .i64) (.int .i64)) (.int .i64))) (.pair (.int .i64) (.int .i64))))] [.val (.cell (.int .i64)), .val (.cell (.int .i64))] x
noncomputable def effect_Differs.S (N : Nat) : PSpec := ⟨false, [.cell (.sl 34 (.pair (.pair (.int .i64) (.pair (.pair (.int .i64) (.int .i64)) (.int .i64))) (.pair (.int .i64) (.int .i64)))), .cell (.sl 34 (.pair (.pair (.int .i64) (.pair (.pair (.int .i64) (.int .i64)) (.int .i64))) (.pair (.int .i64) (.int .i64))))], [.val (.cell (.int .i64)), .val (.cell (.int .i64))], effect_Differs.fn N⟩
theorem f6_enters : Enters Tryd.prog 6 := ⟨Tryd.f6, Tryd.func6, by kernel_rfl, by kernel_rfl⟩
theorem effect_Differs.tab (N : Nat) : TabOk Tryd.prog (effect_Differs.G N) := ⟨⟨tube_Check.enters, tube_Check.sound N⟩, ⟨effect_has.enters, effect_has.sound N⟩, ⟨tube_Point.enters, tube_Point.sound N⟩, trivial⟩
theorem effect_Differs.enters : Enters Tryd.prog 6 := f6_enters
theorem effect_Differs.sound (N : Nat) : Sound Tryd.prog 6 (effect_Differs.S N) := evFn_sound (specs_tab (effect_Differs.tab N)) (inls_tab (effect_Differs.tab N)) mixed 3 Tryd.func6 _ _ _
noncomputable def effect_Differs.cd (N : Nat) (p : List Nat) : St → (Ex → St → Option (Int × Int)) → Option (Int × Int) := ev (effect_Differs.E N) Tryd.prog (callD (effect_Differs.E N) Tryd.prog 3) 0 (codeAt (bodyOf Tryd.f6) p)
noncomputable def effect_Differs.fin : Ex → St → Option (Int × Int) := endK Tryd.prog Tryd.f6 [.val (.cell (.int .i64)), .val (.cell (.int .i64))]
noncomputable def effect_Differs.l0 (N : Nat) (x0 : List ((Int × (Int × Int) × Int) × Int × Int)) (x1 : List ((Int × (Int × Int) × Int) × Int × Int)) (k3 : Nat) (a4 : Int) : Option (Int × Int) :=
  loopN (norm ((effect_Differs.E N).keep 12) 0) (effect_Differs.cd N [1, 1, 1, 1, 1, 1, 0, 1, 0, 0]) k3
  ⟨[.ros false 34 (.pair (.pair (.int .i64) (.pair (.pair (.int .i64) (.int .i64)) (.int .i64))) (.pair (.int .i64) (.int .i64))) x0, .ros false 34 (.pair (.pair (.int .i64) (.pair (.pair (.int .i64) (.int .i64)) (.int .i64))) (.pair (.int .i64) (.int .i64))) x1, .any, .any, .any, .any, .any, .any, .any, .sc (.int .i64 (if ((List.getD x1 (Int.toNat (w ((x1.length : Int) - 1))) ((0, ((0, 0), 0)), (0, 0))).1).1 > ((List.getD x0 (Int.toNat (w ((x0.length : Int) - 1))) ((0, ((0, 0), 0)), (0, 0))).1).1 then ((List.getD x1 (Int.toNat (w ((x1.length : Int) - 1))) ((0, ((0, 0), 0)), (0, 0))).1).1 else ((List.getD x0 (Int.toNat (w ((x0.length : Int) - 1))) ((0, ((0, 0), 0)), (0, 0))).1).1)), .sc (.int .i64 a4), .any, .any, .any, .any, .any, .any, .any, .any, .any, .any, .any, .any, .any, .any, .any, .any, .any, .any, .any, .any, .any, .any, .any, .any, .any, .any, .any, .any, .any, .any, .any, .any, .any, .any, .any, .any, .any, .any, .any, .any, .any, .any, .any, .any, .any, .any, .any, .any, .any, .any, .any, .any, .any, .any, .any, .any, .any, .any, .any, .any, .any, .any, .any, .any, .any, .any, .any, .any, .any, .any, .any, .any, .any, .any, .any, .any, .any, .any, .any, .any, .any, .any, .any, .any, .any], []⟩
  (blockK 0 (seqK (effect_Differs.cd N [1, 1, 1, 1, 1, 1, 1]) effect_Differs.fin))
theorem effect_Differs.l0_zero (N : Nat) (x0 : List ((Int × (Int × Int) × Int) × Int × Int)) (x1 : List ((Int × (Int × Int) × Int) × Int × Int)) (a4 : Int) : effect_Differs.l0 N x0 x1 0 a4 = none := by kernel_rfl
theorem effect_Differs.l0_succ (N : Nat) (x0 : List ((Int × (Int × Int) × Int) × Int × Int)) (x1 : List ((Int × (Int × Int) × Int) × Int × Int)) (k3 : Nat) (a4 : Int) : effect_Differs.l0 N x0 x1 (k3 + 1) a4 =
    bif decide (a4 ≤ (if ((List.getD x1 (Int.toNat (w ((x1.length : Int) - 1))) ((0, ((0, 0), 0)), (0, 0))).1).1 > ((List.getD x0 (Int.toNat (w ((x0.length : Int) - 1))) ((0, ((0, 0), 0)), (0, 0))).1).1 then ((List.getD x1 (Int.toNat (w ((x1.length : Int) - 1))) ((0, ((0, 0), 0)), (0, 0))).1).1 else ((List.getD x0 (Int.toNat (w ((x0.length : Int) - 1))) ((0, ((0, 0), 0)), (0, 0))).1).1)) then
      (effect_has.fn N (x0, a4)).bind fun r5 =>
      (effect_has.fn N (x1, a4)).bind fun r6 =>
      bif !(r5 == r6) then
        some (a4, 0)
      else
        (effect_has.fn N (x0, a4)).bind fun r7 =>
        bif !r7 then
          effect_Differs.l0 N x0 x1 k3 (w (a4 + 1))
        else
          (tube_Point.fn N (x0, a4)).bind fun r8 =>
          (tube_Point.fn N (x1, a4)).bind fun r9 =>
          bif !(!(!((r8.1.2.1.1 == r9.1.2.1.1) && ((r8.1.2.1.2 == r9.1.2.1.2) && true)))) || (!(!((r8.1.2.1.1 == r9.1.2.1.1) && ((r8.1.2.1.2 == r9.1.2.1.2) && true)))) then
            bif !(!(!((r8.1.2.1.1 == r9.1.2.1.1) && ((r8.1.2.1.2 == r9.1.2.1.2) && true)))) || (!(!((r8.1.2.1.1 == r9.1.2.1.1) && ((r8.1.2.1.2 == r9.1.2.1.2) && true)))) then
              bif !(!(!((r8.1.2.1.1 == r9.1.2.1.1) && ((r8.1.2.1.2 == r9.1.2.1.2) && true)))) || (!(!((r8.1.2.1.1 == r9.1.2.1.1) && ((r8.1.2.1.2 == r9.1.2.1.2) && true)))) then
                bif !(!(!((r8.1.2.1.1 == r9.1.2.1.1) && ((r8.1.2.1.2 == r9.1.2.1.2) && true)))) || (!(!((r8.1.2.1.1 == r9.1.2.1.1) && ((r8.1.2.1.2 == r9.1.2.1.2) && true)))) then
                  bif !(!(!((r8.1.2.1.1 == r9.1.2.1.1) && ((r8.1.2.1.2 == r9.1.2.1.2) && true)))) || (!(!((r8.1.2.1.1 == r9.1.2.1.1) && ((r8.1.2.1.2 == r9.1.2.1.2) && true)))) then
                    bif !(!(!((r8.1.2.1.1 == r9.1.2.1.1) && ((r8.1.2.1.2 == r9.1.2.1.2) && true)))) || (!(!((r8.1.2.1.1 == r9.1.2.1.1) && ((r8.1.2.1.2 == r9.1.2.1.2) && true)))) then
                      bif (!((r8.1.2.1.1 == r9.1.2.1.1) && ((r8.1.2.1.2 == r9.1.2.1.2) && true))) || (!(!((r8.1.2.1.1 == r9.1.2.1.1) && ((r8.1.2.1.2 == r9.1.2.1.2) && true)))) then
                        bif (!((r8.1.2.1.1 == r9.1.2.1.1) && ((r8.1.2.1.2 == r9.1.2.1.2) && true))) || (!(r8.1.2.2 == r9.1.2.2)) then
                          some (a4, 0)
                        else
                          effect_Differs.l0 N x0 x1 k3 (w (a4 + 1))
                      else
                        none
                    else
                      none
                  else
                    none
                else
                  none
              else
                none
            else
              none
          else
            none
    else
      some (0, 8) := by kernel_rfl
theorem taut30 : ∀ p0 p1 : Bool, ((!(!(!((p0) && ((p1) && true)))) || (!(!((p0) && ((p1) && true)))))) = true := by decide
theorem taut31 : ∀ p0 p1 : Bool, (((!((p0) && ((p1) && true))) || (!(!((p0) && ((p1) && true)))))) = true := by decide
theorem effect_Differs.l0_clean (N : Nat) (x0 : List ((Int × (Int × Int) × Int) × Int × Int)) (x1 : List ((Int × (Int × Int) × Int) × Int × Int)) (k3 : Nat) (a4 : Int) : effect_Differs.l0 N x0 x1 (k3 + 1) a4 =
    bif decide (a4 ≤ (if ((List.getD x1 (Int.toNat (w ((x1.length : Int) - 1))) ((0, ((0, 0), 0)), (0, 0))).1).1 > ((List.getD x0 (Int.toNat (w ((x0.length : Int) - 1))) ((0, ((0, 0), 0)), (0, 0))).1).1 then ((List.getD x1 (Int.toNat (w ((x1.length : Int) - 1))) ((0, ((0, 0), 0)), (0, 0))).1).1 else ((List.getD x0 (Int.toNat (w ((x0.length : Int) - 1))) ((0, ((0, 0), 0)), (0, 0))).1).1)) then
      (effect_has.fn N (x0, a4)).bind fun r5 =>
      (effect_has.fn N (x1, a4)).bind fun r6 =>
      bif !(r5 == r6) then
        some (a4, 0)
      else
        (effect_has.fn N (x0, a4)).bind fun r7 =>
        bif !r7 then
          effect_Differs.l0 N x0 x1 k3 (w (a4 + 1))
        else
          (tube_Point.fn N (x0, a4)).bind fun r8 =>
          (tube_Point.fn N (x1, a4)).bind fun r9 =>
          bif (!((r8.1.2.1.1 == r9.1.2.1.1) && ((r8.1.2.1.2 == r9.1.2.1.2) && true))) || (!(r8.1.2.2 == r9.1.2.2)) then
            some (a4, 0)
          else
            effect_Differs.l0 N x0 x1 k3 (w (a4 + 1))
    else
      some (0, 8) := by
  rw [effect_Differs.l0_succ]; simp only [taut30, taut31, cond_true]
theorem effect_Differs.eq (N : Nat) (x0 : List ((Int × (Int × Int) × Int) × Int × Int)) (x1 : List ((Int × (Int × Int) × Int) × Int × Int)) : effect_Differs.fn N (x0, x1) =
    (tube_Check.fn N x0).bind fun r1 =>
    bif !(r1 == 0) then
      some (0, r1)
    else
      (tube_Check.fn N x1).bind fun r2 =>
      bif !(r2 == 0) then
        some (0, r2)
      else
      bif decide (0 < (x0.length : Int)) then
        bif decide (0 < (x1.length : Int)) then
          bif (decide (0 ≤ (w ((x0.length : Int) - 1)))) && (decide ((w ((x0.length : Int) - 1)) < (x0.length : Int))) then
            bif (decide (0 ≤ (w ((x1.length : Int) - 1)))) && (decide ((w ((x1.length : Int) - 1)) < (x1.length : Int))) then
              bif decide ((w ((if ((List.getD x1 (Int.toNat (w ((x1.length : Int) - 1))) ((0, ((0, 0), 0)), (0, 0))).1).1 > ((List.getD x0 (Int.toNat (w ((x0.length : Int) - 1))) ((0, ((0, 0), 0)), (0, 0))).1).1 then ((List.getD x1 (Int.toNat (w ((x1.length : Int) - 1))) ((0, ((0, 0), 0)), (0, 0))).1).1 else ((List.getD x0 (Int.toNat (w ((x0.length : Int) - 1))) ((0, ((0, 0), 0)), (0, 0))).1).1) - (if ((List.getD x1 0 ((0, ((0, 0), 0)), (0, 0))).1).1 < ((List.getD x0 0 ((0, ((0, 0), 0)), (0, 0))).1).1 then ((List.getD x1 0 ((0, ((0, 0), 0)), (0, 0))).1).1 else ((List.getD x0 0 ((0, ((0, 0), 0)), (0, 0))).1).1))) > 20000) then
                some (0, 2)
              else
                effect_Differs.l0 N x0 x1 N (if ((List.getD x1 0 ((0, ((0, 0), 0)), (0, 0))).1).1 < ((List.getD x0 0 ((0, ((0, 0), 0)), (0, 0))).1).1 then ((List.getD x1 0 ((0, ((0, 0), 0)), (0, 0))).1).1 else ((List.getD x0 0 ((0, ((0, 0), 0)), (0, 0))).1).1)
            else
              none
          else
            none
        else
          none
      else
        none := by kernel_rfl

/-! ### law_effectFact: skyway/skywaylaw3.effectFact -/
def law_effectFact.kp : List (Nat × List (Nat × Option (TypeId × Ty))) := [(999999, [(0, none)])]
noncomputable def law_effectFact.G (N : Nat) : List (Nat × Spec) := [(6, .pure (effect_Differs.S N)), (9, .pure (effect_Of.S N)), (14, .pure (law_level.S N)), (15, .pure (law_climbed.S N)), (16, .pure (law_jet.S N))]
noncomputable def law_effectFact.E (N : Nat) : Env := mkEnv (law_effectFact.G N) N tyTab law_effectFact.kp
noncomputable def law_effectFact.fn (N : Nat) (x : Unit) : Option Bool := evFn (law_effectFact.E N) Tryd.prog 8 Tryd.f5 false [] [.val (.cell (.bool))] x
noncomputable def law_effectFact.S (N : Nat) : PSpec := ⟨false, [], [.val (.cell (.bool))], law_effectFact.fn N⟩
theorem f5_enters : Enters Tryd.prog 5 := ⟨Tryd.f5, Tryd.func5, by kernel_rfl, by kernel_rfl⟩
theorem law_effectFact.tab (N : Nat) : TabOk Tryd.prog (law_effectFact.G N) := ⟨⟨effect_Differs.enters, effect_Differs.sound N⟩, ⟨effect_Of.enters, effect_Of.sound N⟩, ⟨law_level.enters, law_level.sound N⟩, ⟨law_climbed.enters, law_climbed.sound N⟩, ⟨law_jet.enters, law_jet.sound N⟩, trivial⟩
theorem law_effectFact.enters : Enters Tryd.prog 5 := f5_enters
theorem law_effectFact.sound (N : Nat) : Sound Tryd.prog 5 (law_effectFact.S N) := evFn_sound (specs_tab (law_effectFact.tab N)) (inls_tab (law_effectFact.tab N)) mixed 8 Tryd.func5 _ _ _
theorem law_effectFact.eq (N : Nat) : law_effectFact.fn N () =
    (law_level.fn N ()).bind fun r1 =>
    (law_climbed.fn N 9500).bind fun r2 =>
    (law_jet.fn N ()).bind fun r3 =>
    (effect_Of.fn N (r1, r2, 0, r3, (0, 0))).bind fun r4 =>
    (law_level.fn N ()).bind fun r5 =>
    (effect_Differs.fn N (r5, r4.1)).bind fun r6 =>
    bif r4.2 == 0 then
      bif r6.2 == 0 then
        bif (r4.1.length : Int) == 3 then
          bif decide (1 < (r4.1.length : Int)) then
            bif decide (1 < r4.1.length) then
              bif (((List.getD r4.1 1 ((0, ((0, 0), 0)), (0, 0))).1).1) == 10 then
                bif decide (1 < (r4.1.length : Int)) then
                  bif decide (1 < r4.1.length) then
                    bif ((((List.getD r4.1 1 ((0, ((0, 0), 0)), (0, 0))).1).2).2) == 9500 then
                      bif decide (1 < (r4.1.length : Int)) then
                        bif decide (1 < r4.1.length) then
                          bif (((((List.getD r4.1 1 ((0, ((0, 0), 0)), (0, 0))).1).2).1).1) == 1000 then
                            bif decide (2 < (r4.1.length : Int)) then
                              bif decide (2 < r4.1.length) then
                                bif ((((List.getD r4.1 2 ((0, ((0, 0), 0)), (0, 0))).1).2).2) == 9500 then
                                  bif decide (1 < (r4.1.length : Int)) then
                                    bif decide (1 < r4.1.length) then
                                      bif (((List.getD r4.1 1 ((0, ((0, 0), 0)), (0, 0))).2).1) == 100 then
                                        some (r6.1 == 1)
                                      else
                                        some false
                                    else
                                      none
                                  else
                                    none
                                else
                                  some false
                              else
                                none
                            else
                              none
                          else
                            some false
                        else
                          none
                      else
                        none
                    else
                      some false
                  else
                    none
                else
                  none
              else
                some false
            else
              none
          else
            none
        else
          some false
      else
        some false
    else
      some false := by kernel_rfl

/-! ### tube_At: skyway/tube.At -/
def tube_At.kp : List (Nat × List (Nat × Option (TypeId × Ty))) := []
noncomputable def tube_At.G (N : Nat) : List (Nat × Spec) := [(7, .pure (tube_Check.S N)), (20, .pure (tube_at.S N))]
noncomputable def tube_At.E (N : Nat) : Env := mkEnv (tube_At.G N) N tyTab tube_At.kp
noncomputable def tube_At.fn (N : Nat) (x : List ((Int × (Int × Int) × Int) × Int × Int) × Int) : Option (((Int × (Int × Int) × Int) × Int × Int) × Int) := evFn (tube_At.E N) Tryd.prog 3 Tryd.f8 false [.cell (.sl 34 (.pair (.pair (.int .i64) (.pair (.pair (.int .i64) (.int .i64)) (.int .i64))) (.pair (.int .i64) (.int .i64)))), .cell (.int .i64)] [.val (.agg (.pair (.pair (.int .i64) (.pair (.pair (.int .i64) (.int .i64)) (.int .i64))) (.pair (.int .i64) (.int .i64)))), .val (.cell (.int .i64))] x
noncomputable def tube_At.S (N : Nat) : PSpec := ⟨false, [.cell (.sl 34 (.pair (.pair (.int .i64) (.pair (.pair (.int .i64) (.int .i64)) (.int .i64))) (.pair (.int .i64) (.int .i64)))), .cell (.int .i64)], [.val (.agg (.pair (.pair (.int .i64) (.pair (.pair (.int .i64) (.int .i64)) (.int .i64))) (.pair (.int .i64) (.int .i64)))), .val (.cell (.int .i64))], tube_At.fn N⟩
theorem f8_enters : Enters Tryd.prog 8 := ⟨Tryd.f8, Tryd.func8, by kernel_rfl, by kernel_rfl⟩
theorem tube_At.tab (N : Nat) : TabOk Tryd.prog (tube_At.G N) := ⟨⟨tube_Check.enters, tube_Check.sound N⟩, ⟨tube_at.enters, tube_at.sound N⟩, trivial⟩
theorem tube_At.enters : Enters Tryd.prog 8 := f8_enters
theorem tube_At.sound (N : Nat) : Sound Tryd.prog 8 (tube_At.S N) := evFn_sound (specs_tab (tube_At.tab N)) (inls_tab (tube_At.tab N)) mixed 3 Tryd.func8 _ _ _
theorem tube_At.eq (N : Nat) (x0 : List ((Int × (Int × Int) × Int) × Int × Int)) (x1 : Int) : tube_At.fn N (x0, x1) =
    (tube_Check.fn N x0).bind fun r1 =>
    bif !(r1 == 0) then
      some (((0, ((0, 0), 0)), (0, 0)), r1)
    else
      (tube_at.fn N (x0, x1)).bind fun r2 =>
      some (r2.1, r2.2) := by kernel_rfl

/-! ### law_EffectDiffers: skyway/skywaylaw3.EffectDiffers -/
def law_EffectDiffers.kp : List (Nat × List (Nat × Option (TypeId × Ty))) := [(15, [(0, none), (1, none), (5, none), (6, none), (9, none), (10, none)]), (1000007, [(0, none), (1, none), (5, none), (6, none), (7, none)])]
noncomputable def law_EffectDiffers.G (N : Nat) : List (Nat × Spec) := [(5, .pure (law_effectFact.S N)), (6, .pure (effect_Differs.S N)), (7, .pure (tube_Check.S N)), (8, .pure (tube_At.S N))]
noncomputable def law_EffectDiffers.E (N : Nat) : Env := mkEnv (law_EffectDiffers.G N) N tyTab law_EffectDiffers.kp
noncomputable def law_EffectDiffers.fn (N : Nat) (x : List ((Int × (Int × Int) × Int) × Int × Int) × List ((Int × (Int × Int) × Int) × Int × Int)) : Option Bool := evFn (law_EffectDiffers.E N) Tryd.prog 3 Tryd.f3 false [.cell (.sl 34 (.pair (.pair (.int .i64) (.pair (.pair (.int .i64) (.int .i64)) (.int .i64))) (.pair (.int .i64) (.int .i64)))), .cell (.sl 34 (.pair (.pair (.int .i64) (.pair (.pair (.int .i64) (.int .i64)) (.int .i64))) (.pair (.int .i64) (.int .i64))))] [.val (.cell (.bool))] x
noncomputable def law_EffectDiffers.S (N : Nat) : PSpec := ⟨false, [.cell (.sl 34 (.pair (.pair (.int .i64) (.pair (.pair (.int .i64) (.int .i64)) (.int .i64))) (.pair (.int .i64) (.int .i64)))), .cell (.sl 34 (.pair (.pair (.int .i64) (.pair (.pair (.int .i64) (.int .i64)) (.int .i64))) (.pair (.int .i64) (.int .i64))))], [.val (.cell (.bool))], law_EffectDiffers.fn N⟩
theorem f3_enters : Enters Tryd.prog 3 := ⟨Tryd.f3, Tryd.func3, by kernel_rfl, by kernel_rfl⟩
theorem law_EffectDiffers.tab (N : Nat) : TabOk Tryd.prog (law_EffectDiffers.G N) := ⟨⟨law_effectFact.enters, law_effectFact.sound N⟩, ⟨effect_Differs.enters, effect_Differs.sound N⟩, ⟨tube_Check.enters, tube_Check.sound N⟩, ⟨tube_At.enters, tube_At.sound N⟩, trivial⟩
theorem law_EffectDiffers.enters : Enters Tryd.prog 3 := f3_enters
theorem law_EffectDiffers.sound (N : Nat) : Sound Tryd.prog 3 (law_EffectDiffers.S N) := evFn_sound (specs_tab (law_EffectDiffers.tab N)) (inls_tab (law_EffectDiffers.tab N)) mixed 3 Tryd.func3 _ _ _
noncomputable def law_EffectDiffers.cd (N : Nat) (p : List Nat) : St → (Ex → St → Option Bool) → Option Bool := ev (law_EffectDiffers.E N) Tryd.prog (callD (law_EffectDiffers.E N) Tryd.prog 3) 0 (codeAt (bodyOf Tryd.f3) p)
noncomputable def law_EffectDiffers.fin : Ex → St → Option Bool := endK Tryd.prog Tryd.f3 [.val (.cell (.bool))]
noncomputable def law_EffectDiffers.j0 (N : Nat) (x0 : List ((Int × (Int × Int) × Int) × Int × Int)) (x1 : List ((Int × (Int × Int) × Int) × Int × Int)) (r2 : Int × Int) (a4 : Int) : Option Bool :=
  fuelK N (region (law_EffectDiffers.E N) Tryd.prog (callD (law_EffectDiffers.E N) Tryd.prog 3) (opsAt (codeAt (bodyOf Tryd.f3) [1, 1, 1, 1, 1, 0, 0])) false
  ⟨[.ros false 34 (.pair (.pair (.int .i64) (.pair (.pair (.int .i64) (.int .i64)) (.int .i64))) (.pair (.int .i64) (.int .i64))) x0, .ros false 34 (.pair (.pair (.int .i64) (.pair (.pair (.int .i64) (.int .i64)) (.int .i64))) (.pair (.int .i64) (.int .i64))) x1, .any, .any, .any, .sc (.int .i64 r2.1), .sc (.int .i64 r2.2), .sc (.int .i64 a4), .any, .any, .any, .any, .any, .any, .any, .any, .any, .any, .any, .any, .any, .any, .any, .any, .any, .any, .any, .any, .any, .any, .any, .any, .any, .any, .any, .any, .any, .any, .any, .any, .any, .any, .any, .any, .any, .any, .any, .any, .any, .any, .any, .any, .any, .any, .any, .any, .any, .any, .any, .any, .any, .any, .any, .any, .any, .any, .any, .any, .any, .any, .any, .any, .any, .any, .any, .any, .any, .any, .any, .any, .any, .any, .any, .any, .any, .any, .any, .any, .any, .any, .any, .any, .any, .any, .any, .any, .any, .any, .any, .any, .any, .any, .any, .any, .any, .any, .any, .any, .any, .any, .any, .any, .any, .any, .any, .any, .any, .any, .any, .any, .any, .any, .any, .any, .any, .any, .any, .any, .any, .any, .any, .any, .any, .any, .any, .any], []⟩
  (fun S => (seqK (law_EffectDiffers.cd N [1, 1, 1, 1, 1, 0, 1]) (seqK (law_EffectDiffers.cd N [1, 1, 1, 1, 1, 1]) law_EffectDiffers.fin)) .normal S))
noncomputable def law_EffectDiffers.l1 (N : Nat) (x0 : List ((Int × (Int × Int) × Int) × Int × Int)) (x1 : List ((Int × (Int × Int) × Int) × Int × Int)) (r2 : Int × Int) (k5 : Nat) (a6 : Int) : Option Bool :=
  loopN (norm ((law_EffectDiffers.E N).keep 15) 0) (law_EffectDiffers.cd N [1, 1, 1, 1, 1, 1, 1, 1, 1, 0, 1, 0, 0]) k5
  ⟨[.ros false 34 (.pair (.pair (.int .i64) (.pair (.pair (.int .i64) (.int .i64)) (.int .i64))) (.pair (.int .i64) (.int .i64))) x0, .ros false 34 (.pair (.pair (.int .i64) (.pair (.pair (.int .i64) (.int .i64)) (.int .i64))) (.pair (.int .i64) (.int .i64))) x1, .any, .any, .any, .sc (.int .i64 r2.1), .sc (.int .i64 r2.2), .any, .any, .sc (.int .i64 (if ((List.getD x1 (Int.toNat (w ((x1.length : Int) - 1))) ((0, ((0, 0), 0)), (0, 0))).1).1 > ((List.getD x0 (Int.toNat (w ((x0.length : Int) - 1))) ((0, ((0, 0), 0)), (0, 0))).1).1 then ((List.getD x1 (Int.toNat (w ((x1.length : Int) - 1))) ((0, ((0, 0), 0)), (0, 0))).1).1 else ((List.getD x0 (Int.toNat (w ((x0.length : Int) - 1))) ((0, ((0, 0), 0)), (0, 0))).1).1)), .sc (.int .i64 a6), .any, .any, .any, .any, .any, .any, .any, .any, .any, .any, .any, .any, .any, .any, .any, .any, .any, .any, .any, .any, .any, .any, .any, .any, .any, .any, .any, .any, .any, .any, .any, .any, .any, .any, .any, .any, .any, .any, .any, .any, .any, .any, .any, .any, .any, .any, .any, .any, .any, .any, .any, .any, .any, .any, .any, .any, .any, .any, .any, .any, .any, .any, .any, .any, .any, .any, .any, .any, .any, .any, .any, .any, .any, .any, .any, .any, .any, .any, .any, .any, .any, .any, .any, .any, .any, .any, .any, .any, .any, .any, .any, .any, .any, .any, .any, .any, .any, .any, .any, .any, .any, .any, .any, .any, .any, .any, .any, .any, .any, .any, .any, .any, .any, .any, .any, .any, .any, .any, .any, .any, .any, .any, .any, .any, .any], []⟩
  (blockK 0 (seqK (law_EffectDiffers.cd N [1, 1, 1, 1, 1, 1, 1, 1, 1, 1]) law_EffectDiffers.fin))
theorem law_EffectDiffers.l1_zero (N : Nat) (x0 : List ((Int × (Int × Int) × Int) × Int × Int)) (x1 : List ((Int × (Int × Int) × Int) × Int × Int)) (r2 : Int × Int) (a6 : Int) : law_EffectDiffers.l1 N x0 x1 r2 0 a6 = none := by kernel_rfl
theorem law_EffectDiffers.l1_succ (N : Nat) (x0 : List ((Int × (Int × Int) × Int) × Int × Int)) (x1 : List ((Int × (Int × Int) × Int) × Int × Int)) (r2 : Int × Int) (k5 : Nat) (a6 : Int) : law_EffectDiffers.l1 N x0 x1 r2 (k5 + 1) a6 =
    bif decide (a6 ≤ (if ((List.getD x1 (Int.toNat (w ((x1.length : Int) - 1))) ((0, ((0, 0), 0)), (0, 0))).1).1 > ((List.getD x0 (Int.toNat (w ((x0.length : Int) - 1))) ((0, ((0, 0), 0)), (0, 0))).1).1 then ((List.getD x1 (Int.toNat (w ((x1.length : Int) - 1))) ((0, ((0, 0), 0)), (0, 0))).1).1 else ((List.getD x0 (Int.toNat (w ((x0.length : Int) - 1))) ((0, ((0, 0), 0)), (0, 0))).1).1)) then
      (tube_At.fn N (x0, a6)).bind fun r7 =>
      (tube_At.fn N (x1, a6)).bind fun r8 =>
      bif !(!(!(r7.2 == r8.2))) || (!(!(r7.2 == r8.2))) then
        bif !(!(!(r7.2 == r8.2))) || (!(!(r7.2 == r8.2))) then
          bif !((!(!(r7.2 == r8.2))) && (r7.2 == 0)) || ((!(!(r7.2 == r8.2))) && (r7.2 == 0)) then
            bif !((!(!(r7.2 == r8.2))) && (r7.2 == 0)) || ((!(!(r7.2 == r8.2))) && (r7.2 == 0)) then
              bif !((!(!(r7.2 == r8.2))) && (r7.2 == 0)) || ((!(!(r7.2 == r8.2))) && (r7.2 == 0)) then
                bif !((!(!(r7.2 == r8.2))) && (r7.2 == 0)) || ((!(!(r7.2 == r8.2))) && (r7.2 == 0)) then
                  bif !((!(!(r7.2 == r8.2))) && (r7.2 == 0)) || ((!(!(r7.2 == r8.2))) && (r7.2 == 0)) then
                    bif !((!(!(r7.2 == r8.2))) && (r7.2 == 0)) || ((!(!(r7.2 == r8.2))) && (r7.2 == 0)) then
                      bif !((!(!(r7.2 == r8.2))) && (r7.2 == 0)) || ((!(!(r7.2 == r8.2))) && (r7.2 == 0)) then
                        bif !(((!(!(r7.2 == r8.2))) && (r7.2 == 0)) && (!(!((r7.1.1.2.1.1 == r8.1.1.2.1.1) && ((r7.1.1.2.1.2 == r8.1.1.2.1.2) && true))))) || (((!(!(r7.2 == r8.2))) && (r7.2 == 0)) && (!(!((r7.1.1.2.1.1 == r8.1.1.2.1.1) && ((r7.1.1.2.1.2 == r8.1.1.2.1.2) && true))))) then
                          bif !(((!(!(r7.2 == r8.2))) && (r7.2 == 0)) && (!(!((r7.1.1.2.1.1 == r8.1.1.2.1.1) && ((r7.1.1.2.1.2 == r8.1.1.2.1.2) && true))))) || (((!(!(r7.2 == r8.2))) && (r7.2 == 0)) && (!(!((r7.1.1.2.1.1 == r8.1.1.2.1.1) && ((r7.1.1.2.1.2 == r8.1.1.2.1.2) && true))))) then
                            bif !(((!(!(r7.2 == r8.2))) && (r7.2 == 0)) && (!(!((r7.1.1.2.1.1 == r8.1.1.2.1.1) && ((r7.1.1.2.1.2 == r8.1.1.2.1.2) && true))))) || (((!(!(r7.2 == r8.2))) && (r7.2 == 0)) && (!(!((r7.1.1.2.1.1 == r8.1.1.2.1.1) && ((r7.1.1.2.1.2 == r8.1.1.2.1.2) && true))))) then
                              bif !(((!(!(r7.2 == r8.2))) && (r7.2 == 0)) && (!(!((r7.1.1.2.1.1 == r8.1.1.2.1.1) && ((r7.1.1.2.1.2 == r8.1.1.2.1.2) && true))))) || (((!(!(r7.2 == r8.2))) && (r7.2 == 0)) && (!(!((r7.1.1.2.1.1 == r8.1.1.2.1.1) && ((r7.1.1.2.1.2 == r8.1.1.2.1.2) && true))))) then
                                bif !(((!(!(r7.2 == r8.2))) && (r7.2 == 0)) && (!(!((r7.1.1.2.1.1 == r8.1.1.2.1.1) && ((r7.1.1.2.1.2 == r8.1.1.2.1.2) && true))))) || (((!(!(r7.2 == r8.2))) && (r7.2 == 0)) && (!(!((r7.1.1.2.1.1 == r8.1.1.2.1.1) && ((r7.1.1.2.1.2 == r8.1.1.2.1.2) && true))))) then
                                  bif !(((!(!(r7.2 == r8.2))) && (r7.2 == 0)) && (!(!((r7.1.1.2.1.1 == r8.1.1.2.1.1) && ((r7.1.1.2.1.2 == r8.1.1.2.1.2) && true))))) || (((!(!(r7.2 == r8.2))) && (r7.2 == 0)) && (!(!((r7.1.1.2.1.1 == r8.1.1.2.1.1) && ((r7.1.1.2.1.2 == r8.1.1.2.1.2) && true))))) then
                                    bif !((!(!(r7.2 == r8.2))) && (r7.2 == 0)) || ((!(!(r7.2 == r8.2))) && (r7.2 == 0)) then
                                      bif !((!(!(r7.2 == r8.2))) && (r7.2 == 0)) || ((!((r7.1.1.2.1.1 == r8.1.1.2.1.1) && ((r7.1.1.2.1.2 == r8.1.1.2.1.2) && true))) || (((!(!(r7.2 == r8.2))) && (r7.2 == 0)) && (!(!((r7.1.1.2.1.1 == r8.1.1.2.1.1) && ((r7.1.1.2.1.2 == r8.1.1.2.1.2) && true)))))) then
                                        bif !(!(!(r7.2 == r8.2))) || (!(!(r7.2 == r8.2))) then
                                          bif !(!(!(r7.2 == r8.2))) || ((!(r7.2 == 0)) || ((!(!(r7.2 == r8.2))) && (r7.2 == 0))) then
                                            bif (!(r7.2 == r8.2)) || (!(!(r7.2 == r8.2))) then
                                              bif (!(r7.2 == r8.2)) || ((r7.2 == 0) && ((!((r7.1.1.2.1.1 == r8.1.1.2.1.1) && ((r7.1.1.2.1.2 == r8.1.1.2.1.2) && true))) || (!(r7.1.1.2.2 == r8.1.1.2.2)))) then
                                                bif !(r2.2 == 0) || (r2.2 == 0) then
                                                  bif !(r2.2 == 0) || (r2.2 == 0) then
                                                    bif (!(r2.2 == 0)) || (r2.2 == 0) then
                                                      some ((r2.2 == 0) && (r2.1 == a6))
                                                    else
                                                      none
                                                  else
                                                    none
                                                else
                                                  none
                                              else
                                                law_EffectDiffers.l1 N x0 x1 r2 k5 (w (a6 + 1))
                                            else
                                              none
                                          else
                                            none
                                        else
                                          none
                                      else
                                        none
                                    else
                                      none
                                  else
                                    none
                                else
                                  none
                              else
                                none
                            else
                              none
                          else
                            none
                        else
                          none
                      else
                        none
                    else
                      none
                  else
                    none
                else
                  none
              else
                none
            else
              none
          else
            none
        else
          none
      else
        none
    else
    bif !(r2.2 == 8) || (r2.2 == 8) then
      bif (!(r2.2 == 8)) || (r2.2 == 8) then
        some ((r2.2 == 8) && (r2.1 == 0))
      else
        none
    else
      none := by kernel_rfl
theorem law_EffectDiffers.j0_eq (N : Nat) (x0 : List ((Int × (Int × Int) × Int) × Int × Int)) (x1 : List ((Int × (Int × Int) × Int) × Int × Int)) (r2 : Int × Int) (a4 : Int) {M : Nat} (hM : N = M + 1) : law_EffectDiffers.j0 N x0 x1 r2 a4 =
    bif !(a4 == 0) then
      bif !(r2.2 == a4) || (r2.2 == a4) then
        bif (!(r2.2 == a4)) || (r2.2 == a4) then
          some ((r2.2 == a4) && (r2.1 == 0))
        else
          none
      else
        none
    else
    bif decide (0 < (x0.length : Int)) then
      bif decide (0 < (x1.length : Int)) then
        bif (decide (0 ≤ (w ((x0.length : Int) - 1)))) && (decide ((w ((x0.length : Int) - 1)) < (x0.length : Int))) then
          bif (decide (0 ≤ (w ((x1.length : Int) - 1)))) && (decide ((w ((x1.length : Int) - 1)) < (x1.length : Int))) then
            bif decide ((w ((if ((List.getD x1 (Int.toNat (w ((x1.length : Int) - 1))) ((0, ((0, 0), 0)), (0, 0))).1).1 > ((List.getD x0 (Int.toNat (w ((x0.length : Int) - 1))) ((0, ((0, 0), 0)), (0, 0))).1).1 then ((List.getD x1 (Int.toNat (w ((x1.length : Int) - 1))) ((0, ((0, 0), 0)), (0, 0))).1).1 else ((List.getD x0 (Int.toNat (w ((x0.length : Int) - 1))) ((0, ((0, 0), 0)), (0, 0))).1).1) - (if ((List.getD x1 0 ((0, ((0, 0), 0)), (0, 0))).1).1 < ((List.getD x0 0 ((0, ((0, 0), 0)), (0, 0))).1).1 then ((List.getD x1 0 ((0, ((0, 0), 0)), (0, 0))).1).1 else ((List.getD x0 0 ((0, ((0, 0), 0)), (0, 0))).1).1))) > 20000) then
              bif !(r2.2 == 2) || (r2.2 == 2) then
                bif (!(r2.2 == 2)) || (r2.2 == 2) then
                  some ((r2.2 == 2) && (r2.1 == 0))
                else
                  none
              else
                none
            else
            bif decide ((w ((if ((List.getD x1 (Int.toNat (w ((x1.length : Int) - 1))) ((0, ((0, 0), 0)), (0, 0))).1).1 > ((List.getD x0 (Int.toNat (w ((x0.length : Int) - 1))) ((0, ((0, 0), 0)), (0, 0))).1).1 then ((List.getD x1 (Int.toNat (w ((x1.length : Int) - 1))) ((0, ((0, 0), 0)), (0, 0))).1).1 else ((List.getD x0 (Int.toNat (w ((x0.length : Int) - 1))) ((0, ((0, 0), 0)), (0, 0))).1).1) - (if ((List.getD x1 0 ((0, ((0, 0), 0)), (0, 0))).1).1 < ((List.getD x0 0 ((0, ((0, 0), 0)), (0, 0))).1).1 then ((List.getD x1 0 ((0, ((0, 0), 0)), (0, 0))).1).1 else ((List.getD x0 0 ((0, ((0, 0), 0)), (0, 0))).1).1))) > 800) then
              some true
            else
              law_EffectDiffers.l1 N x0 x1 r2 N (if ((List.getD x1 0 ((0, ((0, 0), 0)), (0, 0))).1).1 < ((List.getD x0 0 ((0, ((0, 0), 0)), (0, 0))).1).1 then ((List.getD x1 0 ((0, ((0, 0), 0)), (0, 0))).1).1 else ((List.getD x0 0 ((0, ((0, 0), 0)), (0, 0))).1).1)
          else
            none
        else
          none
      else
        none
    else
      none := (fuelK_eq hM _).trans (by kernel_rfl)
theorem taut32 : ∀ p0 p1 : Bool, ((!(!(!(p0))) || ((!(p1)) || ((!(!(p0))) && (p1))))) = true := by decide
theorem taut33 : ∀ p0 p1 : Bool, ((!((!(!(p0))) && (p1)) || ((!(!(p0))) && (p1)))) = true := by decide
theorem taut34 : ∀ p0 p1 p2 p3 : Bool, ((!((!(!(p0))) && (p1)) || ((!((p2) && ((p3) && true))) || (((!(!(p0))) && (p1)) && (!(!((p2) && ((p3) && true)))))))) = true := by decide
theorem taut35 : ∀ p0 p1 p2 p3 : Bool, ((!(((!(!(p0))) && (p1)) && (!(!((p2) && ((p3) && true))))) || (((!(!(p0))) && (p1)) && (!(!((p2) && ((p3) && true))))))) = true := by decide
theorem law_EffectDiffers.l1_clean (N : Nat) (x0 : List ((Int × (Int × Int) × Int) × Int × Int)) (x1 : List ((Int × (Int × Int) × Int) × Int × Int)) (r2 : Int × Int) (k5 : Nat) (a6 : Int) : law_EffectDiffers.l1 N x0 x1 r2 (k5 + 1) a6 =
    bif decide (a6 ≤ (if ((List.getD x1 (Int.toNat (w ((x1.length : Int) - 1))) ((0, ((0, 0), 0)), (0, 0))).1).1 > ((List.getD x0 (Int.toNat (w ((x0.length : Int) - 1))) ((0, ((0, 0), 0)), (0, 0))).1).1 then ((List.getD x1 (Int.toNat (w ((x1.length : Int) - 1))) ((0, ((0, 0), 0)), (0, 0))).1).1 else ((List.getD x0 (Int.toNat (w ((x0.length : Int) - 1))) ((0, ((0, 0), 0)), (0, 0))).1).1)) then
      (tube_At.fn N (x0, a6)).bind fun r7 =>
      (tube_At.fn N (x1, a6)).bind fun r8 =>
      bif (!(r7.2 == r8.2)) || ((r7.2 == 0) && ((!((r7.1.1.2.1.1 == r8.1.1.2.1.1) && ((r7.1.1.2.1.2 == r8.1.1.2.1.2) && true))) || (!(r7.1.1.2.2 == r8.1.1.2.2)))) then
        some ((r2.2 == 0) && (r2.1 == a6))
      else
        law_EffectDiffers.l1 N x0 x1 r2 k5 (w (a6 + 1))
    else
    some ((r2.2 == 8) && (r2.1 == 0)) := by
  rw [law_EffectDiffers.l1_succ]; simp only [taut19, taut32, taut33, taut34, taut35, taut21, taut20, taut23, cond_true]
theorem law_EffectDiffers.j0_clean (N : Nat) (x0 : List ((Int × (Int × Int) × Int) × Int × Int)) (x1 : List ((Int × (Int × Int) × Int) × Int × Int)) (r2 : Int × Int) (a4 : Int) {M : Nat} (hM : N = M + 1) : law_EffectDiffers.j0 N x0 x1 r2 a4 =
    bif !(a4 == 0) then
      some ((r2.2 == a4) && (r2.1 == 0))
    else
    bif decide (0 < (x0.length : Int)) then
      bif decide (0 < (x1.length : Int)) then
        bif (decide (0 ≤ (w ((x0.length : Int) - 1)))) && (decide ((w ((x0.length : Int) - 1)) < (x0.length : Int))) then
          bif (decide (0 ≤ (w ((x1.length : Int) - 1)))) && (decide ((w ((x1.length : Int) - 1)) < (x1.length : Int))) then
            bif decide ((w ((if ((List.getD x1 (Int.toNat (w ((x1.length : Int) - 1))) ((0, ((0, 0), 0)), (0, 0))).1).1 > ((List.getD x0 (Int.toNat (w ((x0.length : Int) - 1))) ((0, ((0, 0), 0)), (0, 0))).1).1 then ((List.getD x1 (Int.toNat (w ((x1.length : Int) - 1))) ((0, ((0, 0), 0)), (0, 0))).1).1 else ((List.getD x0 (Int.toNat (w ((x0.length : Int) - 1))) ((0, ((0, 0), 0)), (0, 0))).1).1) - (if ((List.getD x1 0 ((0, ((0, 0), 0)), (0, 0))).1).1 < ((List.getD x0 0 ((0, ((0, 0), 0)), (0, 0))).1).1 then ((List.getD x1 0 ((0, ((0, 0), 0)), (0, 0))).1).1 else ((List.getD x0 0 ((0, ((0, 0), 0)), (0, 0))).1).1))) > 20000) then
              some ((r2.2 == 2) && (r2.1 == 0))
            else
            bif decide ((w ((if ((List.getD x1 (Int.toNat (w ((x1.length : Int) - 1))) ((0, ((0, 0), 0)), (0, 0))).1).1 > ((List.getD x0 (Int.toNat (w ((x0.length : Int) - 1))) ((0, ((0, 0), 0)), (0, 0))).1).1 then ((List.getD x1 (Int.toNat (w ((x1.length : Int) - 1))) ((0, ((0, 0), 0)), (0, 0))).1).1 else ((List.getD x0 (Int.toNat (w ((x0.length : Int) - 1))) ((0, ((0, 0), 0)), (0, 0))).1).1) - (if ((List.getD x1 0 ((0, ((0, 0), 0)), (0, 0))).1).1 < ((List.getD x0 0 ((0, ((0, 0), 0)), (0, 0))).1).1 then ((List.getD x1 0 ((0, ((0, 0), 0)), (0, 0))).1).1 else ((List.getD x0 0 ((0, ((0, 0), 0)), (0, 0))).1).1))) > 800) then
              some true
            else
              law_EffectDiffers.l1 N x0 x1 r2 N (if ((List.getD x1 0 ((0, ((0, 0), 0)), (0, 0))).1).1 < ((List.getD x0 0 ((0, ((0, 0), 0)), (0, 0))).1).1 then ((List.getD x1 0 ((0, ((0, 0), 0)), (0, 0))).1).1 else ((List.getD x0 0 ((0, ((0, 0), 0)), (0, 0))).1).1)
          else
            none
        else
          none
      else
        none
    else
      none := by
  rw [law_EffectDiffers.j0_eq (hM := hM)]; simp only [taut21, taut23, cond_true]
theorem law_EffectDiffers.eq (N : Nat) (x0 : List ((Int × (Int × Int) × Int) × Int × Int)) (x1 : List ((Int × (Int × Int) × Int) × Int × Int)) : law_EffectDiffers.fn N (x0, x1) =
    (law_effectFact.fn N ()).bind fun r1 =>
    bif !r1 then
      some false
    else
      (effect_Differs.fn N (x0, x1)).bind fun r2 =>
      (tube_Check.fn N x0).bind fun r3 =>
      bif r3 == 0 then
        (tube_Check.fn N x1).bind fun r9 =>
        law_EffectDiffers.j0 N x0 x1 r2 r9
      else
        law_EffectDiffers.j0 N x0 x1 r2 r3 := by kernel_rfl

end Go.Proofs.YthkpnlfnplhgnaaDoor.Sk
