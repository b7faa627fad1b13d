/- PRINTED by gen.py: what the functions answer, part 2. Not trusted: Lean checks it. -/
import Derived.Test.YtnbkofkgdbhbpaaDoorTrnEq1
set_option linter.unusedVariables false
set_option linter.unusedSimpArgs false
set_option maxRecDepth 100000
namespace Go.Proofs.YtnbkofkgdbhbpaaDoor.Sk
open Go
/-! ### effect_Of: skyway/effect.Of -/
theorem f44_enters : Enters Tryd.prog 44 := ⟨Tryd.f44, Tryd.func44, by kernel_rfl, by kernel_rfl⟩
def effect_Of.kp : List (Nat × List (Nat × Option (TypeId × Ty))) := [(3, [(0, none), (1, none), (2, none), (4, none), (5, none), (8, none), (9, none), (10, none), (12, none), (13, none), (14, none), (7000005, some (39, .pair (.pair (.int .i64) (.pair (.pair (.int .i64) (.int .i64)) (.int .i64))) (.pair (.int .i64) (.int .i64)))), (8000005, some (39, .pair (.pair (.int .i64) (.pair (.pair (.int .i64) (.int .i64)) (.int .i64))) (.pair (.int .i64) (.int .i64))))]), (4, [(1, none), (2, none), (6, some (0, .unit)), (7, none), (18, none), (19, none), (20, none), (7000002, some (0, .unit))]), (6, [(1, none), (8, some (0, .unit)), (9, none), (10, none), (36, none), (37, none), (38, none)]), (11, [(2, none), (4, none), (10, none), (12, none), (16, some (0, .unit)), (68, none), (69, none), (70, none), (7000004, some (0, .unit))])]
noncomputable def effect_Of.G (N : Nat) : List (Nat × Spec) := [(13, .pure (tube_Check.S N)), (14, .pure (phrase_Check.S N)), (15, .pure (aircraft_Check.S N)), (16, .pure (plane_Check.S N)), (20, .pure (plane_Distance.S N)), (21, .pure (angle_Vector.S N)), (23, .pure (tube_Point.S N)), (28, .pure (slices_Clone_TubeNode.S N)), (41, .pure (aircraft_Climb.S N)), (43, .pure (effect_course_climb_1.S N)), (44, .mac (insM Tryd.prog 39 (.pair (.pair (.int .i64) (.pair (.pair (.int .i64) (.int .i64)) (.int .i64))) (.pair (.int .i64) (.int .i64))))), (45, .pure (effect_down.S N)), (46, .pure (effect_course_speed.S N)), (47, .pure (plane_Add.S N)), (48, .pure (effect_up.S N)), (17, .inl Tryd.f17), (26, .inl Tryd.f26), (27, .inl Tryd.f27), (29, .inl Tryd.f29), (30, .inl Tryd.f30), (31, .inl Tryd.f31), (42, .inl Tryd.f42)]
noncomputable def effect_Of.E (N : Nat) : Env := mkEnv (effect_Of.G N) N tyTab effect_Of.kp
noncomputable def effect_Of.fn (N : Nat) (x : List ((Int × (Int × Int) × Int) × Int × Int) × (ByteArray × Int × Int × ByteArray) × Int × (ByteArray × Int × Int × Int × Int × Int × Int) × Int × Int) : Option (List ((Int × (Int × Int) × Int) × Int × Int) × Int) := evFn (effect_Of.E N) Tryd.prog 8 Tryd.f5 false [.cell (.sl 39 (.pair (.pair (.int .i64) (.pair (.pair (.int .i64) (.int .i64)) (.int .i64))) (.pair (.int .i64) (.int .i64)))), .agg (.pair (.str) (.pair (.int .i64) (.pair (.int .i64) (.str)))), .cell (.int .i64), .agg (.pair (.str) (.pair (.int .i64) (.pair (.int .i64) (.pair (.int .i64) (.pair (.int .i64) (.pair (.int .i64) (.int .i64))))))), .agg (.pair (.int .i64) (.int .i64))] [.own 39 (.pair (.pair (.int .i64) (.pair (.pair (.int .i64) (.int .i64)) (.int .i64))) (.pair (.int .i64) (.int .i64))), .val (.cell (.int .i64))] x
noncomputable def effect_Of.S (N : Nat) : PSpec := ⟨false, [.cell (.sl 39 (.pair (.pair (.int .i64) (.pair (.pair (.int .i64) (.int .i64)) (.int .i64))) (.pair (.int .i64) (.int .i64)))), .agg (.pair (.str) (.pair (.int .i64) (.pair (.int .i64) (.str)))), .cell (.int .i64), .agg (.pair (.str) (.pair (.int .i64) (.pair (.int .i64) (.pair (.int .i64) (.pair (.int .i64) (.pair (.int .i64) (.int .i64))))))), .agg (.pair (.int .i64) (.int .i64))], [.own 39 (.pair (.pair (.int .i64) (.pair (.pair (.int .i64) (.int .i64)) (.int .i64))) (.pair (.int .i64) (.int .i64))), .val (.cell (.int .i64))], effect_Of.fn N⟩
theorem f17_enters : Enters Tryd.prog 17 := ⟨Tryd.f17, Tryd.func17, by kernel_rfl, by kernel_rfl⟩

theorem f27_enters : Enters Tryd.prog 27 := ⟨Tryd.f27, Tryd.func27, by kernel_rfl, by kernel_rfl⟩
theorem f29_enters : Enters Tryd.prog 29 := ⟨Tryd.f29, Tryd.func29, by kernel_rfl, by kernel_rfl⟩
theorem f30_enters : Enters Tryd.prog 30 := ⟨Tryd.f30, Tryd.func30, by kernel_rfl, by kernel_rfl⟩
theorem f31_enters : Enters Tryd.prog 31 := ⟨Tryd.f31, Tryd.func31, by kernel_rfl, by kernel_rfl⟩
theorem f42_enters : Enters Tryd.prog 42 := ⟨Tryd.f42, Tryd.func42, by kernel_rfl, by kernel_rfl⟩
theorem f5_enters : Enters Tryd.prog 5 := ⟨Tryd.f5, Tryd.func5, by kernel_rfl, by kernel_rfl⟩
theorem effect_Of.tab (N : Nat) : TabOk Tryd.prog (effect_Of.G N) := ⟨⟨tube_Check.enters, tube_Check.sound N⟩, ⟨phrase_Check.enters, phrase_Check.sound N⟩, ⟨aircraft_Check.enters, aircraft_Check.sound N⟩, ⟨plane_Check.enters, plane_Check.sound N⟩, ⟨plane_Distance.enters, plane_Distance.sound N⟩, ⟨angle_Vector.enters, angle_Vector.sound N⟩, ⟨tube_Point.enters, tube_Point.sound N⟩, ⟨slices_Clone_TubeNode.enters, slices_Clone_TubeNode.sound N⟩, ⟨aircraft_Climb.enters, aircraft_Climb.sound N⟩, ⟨effect_course_climb_1.enters, effect_course_climb_1.sound N⟩, .inl ⟨f44_enters, ins_sound (T := 23) (by kernel_rfl) Ins44.insC⟩, ⟨effect_down.enters, effect_down.sound N⟩, ⟨effect_course_speed.enters, effect_course_speed.sound N⟩, ⟨plane_Add.enters, plane_Add.sound N⟩, ⟨effect_up.enters, effect_up.sound N⟩, ⟨f17_enters, Tryd.func17⟩, ⟨f26_enters, Tryd.func26⟩, ⟨f27_enters, Tryd.func27⟩, ⟨f29_enters, Tryd.func29⟩, ⟨f30_enters, Tryd.func30⟩, ⟨f31_enters, Tryd.func31⟩, ⟨f42_enters, Tryd.func42⟩, trivial⟩
theorem effect_Of.enters : Enters Tryd.prog 5 := f5_enters
theorem effect_Of.sound (N : Nat) : Sound Tryd.prog 5 (effect_Of.S N) := evFn_sound (specs_tab (effect_Of.tab N)) (inls_tab (effect_Of.tab N)) mixed 8 Tryd.func5 _ _ _
noncomputable def effect_Of.cd (N : Nat) (p : List Nat) : St → (Ex → St → Option (List ((Int × (Int × Int) × Int) × Int × Int) × Int)) → Option (List ((Int × (Int × Int) × Int) × Int × Int) × Int) := ev (effect_Of.E N) Tryd.prog (callD (effect_Of.E N) Tryd.prog 8) 0 (codeAt (bodyOf Tryd.f5) p)
noncomputable def effect_Of.cd17_7_3 (N : Nat) (p : List Nat) : St → (Ex → St → Option (List ((Int × (Int × Int) × Int) × Int × Int) × Int)) → Option (List ((Int × (Int × Int) × Int) × Int × Int) × Int) := ev (effect_Of.E N) Tryd.prog (callD (effect_Of.E N) Tryd.prog 7) 3 (codeAt (bodyOf Tryd.f17) p)
noncomputable def effect_Of.cd26_6_6 (N : Nat) (p : List Nat) : St → (Ex → St → Option (List ((Int × (Int × Int) × Int) × Int × Int) × Int)) → Option (List ((Int × (Int × Int) × Int) × Int × Int) × Int) := ev (effect_Of.E N) Tryd.prog (callD (effect_Of.E N) Tryd.prog 6) 6 (codeAt (bodyOf Tryd.f26) p)
noncomputable def effect_Of.cd27_6_13 (N : Nat) (p : List Nat) : St → (Ex → St → Option (List ((Int × (Int × Int) × Int) × Int × Int) × Int)) → Option (List ((Int × (Int × Int) × Int) × Int × Int) × Int) := ev (effect_Of.E N) Tryd.prog (callD (effect_Of.E N) Tryd.prog 6) 13 (codeAt (bodyOf Tryd.f27) p)
noncomputable def effect_Of.cd29_6_13 (N : Nat) (p : List Nat) : St → (Ex → St → Option (List ((Int × (Int × Int) × Int) × Int × Int) × Int)) → Option (List ((Int × (Int × Int) × Int) × Int × Int) × Int) := ev (effect_Of.E N) Tryd.prog (callD (effect_Of.E N) Tryd.prog 6) 13 (codeAt (bodyOf Tryd.f29) p)
noncomputable def effect_Of.cd30_6_13 (N : Nat) (p : List Nat) : St → (Ex → St → Option (List ((Int × (Int × Int) × Int) × Int × Int) × Int)) → Option (List ((Int × (Int × Int) × Int) × Int × Int) × Int) := ev (effect_Of.E N) Tryd.prog (callD (effect_Of.E N) Tryd.prog 6) 13 (codeAt (bodyOf Tryd.f30) p)
noncomputable def effect_Of.cd42_5_15 (N : Nat) (p : List Nat) : St → (Ex → St → Option (List ((Int × (Int × Int) × Int) × Int × Int) × Int)) → Option (List ((Int × (Int × Int) × Int) × Int × Int) × Int) := ev (effect_Of.E N) Tryd.prog (callD (effect_Of.E N) Tryd.prog 5) 15 (codeAt (bodyOf Tryd.f42) p)
noncomputable def effect_Of.fin : Ex → St → Option (List ((Int × (Int × Int) × Int) × Int × Int) × Int) := endK Tryd.prog Tryd.f5 [.own 39 (.pair (.pair (.int .i64) (.pair (.pair (.int .i64) (.int .i64)) (.int .i64))) (.pair (.int .i64) (.int .i64))), .val (.cell (.int .i64))]
noncomputable def effect_Of.l0 (N : Nat) (x0 : List ((Int × (Int × Int) × Int) × Int × Int)) (x1 : ByteArray × Int × Int × ByteArray) (x2 : Int) (x3 : ByteArray × Int × Int × Int × Int × Int × Int) (x4 : Int × Int) (r1 : Int) (r2 : Int) (r3 : Int) (r4 : Int) (r5 : (Int × (Int × Int) × Int) × Int × Int) (k6 : Nat) (a7 : Int) (a8 : List ((Int × (Int × Int) × Int) × Int × Int)) (a9 : List ((Int × (Int × Int) × Int) × Int × Int)) : Option (List ((Int × (Int × Int) × Int) × Int × Int) × Int) :=
  loopN (norm ((effect_Of.E N).keep 3) 6) (effect_Of.cd26_6_6 N [1, 1, 0, 1, 0, 0]) k6
  ⟨[.ros false 39 (.pair (.pair (.int .i64) (.pair (.pair (.int .i64) (.int .i64)) (.int .i64))) (.pair (.int .i64) (.int .i64))) x0, .sc (.int .i64 x2), .any, .any, .ptr 6 0, .ptr 7 0, .any, .any, .ros false 39 (.pair (.pair (.int .i64) (.pair (.pair (.int .i64) (.int .i64)) (.int .i64))) (.pair (.int .i64) (.int .i64))) x0, .sc (.int .i64 x2), .agg [.sc (.int .i64 r5.1.1), .sc (.int .i64 r5.1.2.1.1), .sc (.int .i64 r5.1.2.1.2), .sc (.int .i64 r5.1.2.2), .sc (.int .i64 r5.2.1), .sc (.int .i64 r5.2.2)], .any, .ros false 39 (.pair (.pair (.int .i64) (.pair (.pair (.int .i64) (.int .i64)) (.int .i64))) (.pair (.int .i64) (.int .i64))) x0, .sc (.int .i64 (x0.length : Int)), .sc (.int .i64 a7), .any, .any, .any, .any, .any, .any, .any, .any, .any, .any, .any, .any, .any, .any, .any, .any, .any, .any, .any, .any, .any, .any, .any, .any, .any, .any, .any, .any, .any, .any, .any, .any, .any, .any, .any, .any], [.cells [.sc (.string x1.1), .sc (.int .i64 x1.2.1), .sc (.int .i64 x1.2.2.1), .sc (.string x1.2.2.2)] 25, .cells [.sc (.string x3.1), .sc (.int .i64 x3.2.1), .sc (.int .i64 x3.2.2.1), .sc (.int .i64 x3.2.2.2.1), .sc (.int .i64 x3.2.2.2.2.1), .sc (.int .i64 x3.2.2.2.2.2.1), .sc (.int .i64 x3.2.2.2.2.2.2)] 27, .cells [.sc (.int .i64 x4.1), .sc (.int .i64 x4.2)] 29, .cells [.sc (.string x1.1), .sc (.int .i64 x1.2.1), .sc (.int .i64 x1.2.2.1), .sc (.string x1.2.2.2)] 25, .cells [.sc (.string x3.1), .sc (.int .i64 x3.2.1), .sc (.int .i64 x3.2.2.1), .sc (.int .i64 x3.2.2.2.1), .sc (.int .i64 x3.2.2.2.2.1), .sc (.int .i64 x3.2.2.2.2.2.1), .sc (.int .i64 x3.2.2.2.2.2.2)] 27, .cells [.sc (.int .i64 x4.1), .sc (.int .i64 x4.2)] 29, .cells [.sc (.int .i64 0), .sc (.int .i64 0), .sc (.int .i64 0), .sc (.int .i64 0), .sc (.int .i64 0), .sc (.int .i64 0), .sc (.slice none 0 0), .sc (.slice none 0 0)] 61, .cells [.sc (.int .i64 r5.1.1), .sc (.int .i64 r5.1.2.1.1), .sc (.int .i64 r5.1.2.1.2), .sc (.int .i64 r5.1.2.2), .sc (.int .i64 r5.2.1), .sc (.int .i64 r5.2.2), .own 8, .own 9] 61, .rows true 39 (.pair (.pair (.int .i64) (.pair (.pair (.int .i64) (.int .i64)) (.int .i64))) (.pair (.int .i64) (.int .i64))) a8, .rows true 39 (.pair (.pair (.int .i64) (.pair (.pair (.int .i64) (.int .i64)) (.int .i64))) (.pair (.int .i64) (.int .i64))) a9]⟩
  (blockK 0 (seqK (effect_Of.cd26_6_6 N [1, 1, 1]) (retK Tryd.prog Tryd.f26 (fun vs hp => (reg (effect_Of.E N) Tryd.prog (callD (effect_Of.E N) Tryd.prog 7) (opsAt (codeAt (bodyOf Tryd.f17) [1, 0])) [] (List.drop 3 (opsAt (codeAt (bodyOf Tryd.f17) [1, 0]))) (St.put ⟨[.ros false 39 (.pair (.pair (.int .i64) (.pair (.pair (.int .i64) (.int .i64)) (.int .i64))) (.pair (.int .i64) (.int .i64))) x0, .agg [.sc (.string x1.1), .sc (.int .i64 x1.2.1), .sc (.int .i64 x1.2.2.1), .sc (.string x1.2.2.2)], .sc (.int .i64 x2), .agg [.sc (.string x3.1), .sc (.int .i64 x3.2.1), .sc (.int .i64 x3.2.2.1), .sc (.int .i64 x3.2.2.2.1), .sc (.int .i64 x3.2.2.2.2.1), .sc (.int .i64 x3.2.2.2.2.2.1), .sc (.int .i64 x3.2.2.2.2.2.2)], .agg [.sc (.int .i64 x4.1), .sc (.int .i64 x4.2)], .any, .ptr 3 0, .any, .ptr 4 0, .ptr 5 0, .sc (.slice none 0 0), .sc (.int .i64 0), .any, .ros false 39 (.pair (.pair (.int .i64) (.pair (.pair (.int .i64) (.int .i64)) (.int .i64))) (.pair (.int .i64) (.int .i64))) x0, .sc (.int .i64 x2), .any, .any, .any, .any, .any, .any, .any, .any, .any, .any, .any, .any, .any, .any, .any, .any, .any, .any, .any, .any, .any, .any, .any, .any, .any, .any, .any, .any, .any, .any, .any, .any, .any, .any, .any, .any, .any, .any, .any, .any, .any, .any, .any, .any, .any, .any, .any, .any, .any, .any, .any], hp⟩ (some 15) (tupOf vs)) (fun S => (seqK (effect_Of.cd17_7_3 N [1, 1]) (retK Tryd.prog Tryd.f17 (fun vs hp => (reg (effect_Of.E N) Tryd.prog (callD (effect_Of.E N) Tryd.prog 8) (opsAt (codeAt (bodyOf Tryd.f5) [1, 1, 1, 1, 1, 1, 0])) [] (List.drop 6 (opsAt (codeAt (bodyOf Tryd.f5) [1, 1, 1, 1, 1, 1, 0]))) (St.put ⟨[.ros false 39 (.pair (.pair (.int .i64) (.pair (.pair (.int .i64) (.int .i64)) (.int .i64))) (.pair (.int .i64) (.int .i64))) x0, .agg [.sc (.string x1.1), .sc (.int .i64 x1.2.1), .sc (.int .i64 x1.2.2.1), .sc (.string x1.2.2.2)], .sc (.int .i64 x2), .agg [.sc (.string x3.1), .sc (.int .i64 x3.2.1), .sc (.int .i64 x3.2.2.1), .sc (.int .i64 x3.2.2.2.1), .sc (.int .i64 x3.2.2.2.2.1), .sc (.int .i64 x3.2.2.2.2.2.1), .sc (.int .i64 x3.2.2.2.2.2.2)], .agg [.sc (.int .i64 x4.1), .sc (.int .i64 x4.2)], .any, .ptr 0 0, .any, .ptr 1 0, .ptr 2 0, .sc (.slice none 0 0), .sc (.int .i64 0), .sc (.int .i64 r1), .sc (.int .i64 r2), .sc (.int .i64 r3), .sc (.int .i64 r4), .any, .any, .ros false 39 (.pair (.pair (.int .i64) (.pair (.pair (.int .i64) (.int .i64)) (.int .i64))) (.pair (.int .i64) (.int .i64))) x0, .sc (.int .i64 r1), .sc (.int .i64 r1), .sc (.bool (!(r1 == 0))), .any, .agg [.sc (.string x1.1), .sc (.int .i64 x1.2.1), .sc (.int .i64 x1.2.2.1), .sc (.string x1.2.2.2)], .sc (.int .i64 r2), .sc (.int .i64 r2), .sc (.bool (!(r2 == 0))), .any, .agg [.sc (.string x3.1), .sc (.int .i64 x3.2.1), .sc (.int .i64 x3.2.2.1), .sc (.int .i64 x3.2.2.2.1), .sc (.int .i64 x3.2.2.2.2.1), .sc (.int .i64 x3.2.2.2.2.2.1), .sc (.int .i64 x3.2.2.2.2.2.2)], .sc (.int .i64 r3), .sc (.int .i64 r3), .sc (.bool (!(r3 == 0))), .any, .agg [.sc (.int .i64 x4.1), .sc (.int .i64 x4.2)], .sc (.int .i64 r4), .sc (.int .i64 r4), .sc (.bool (!(r4 == 0))), .any, .sc (.int .i64 x2), .ros false 39 (.pair (.pair (.int .i64) (.pair (.pair (.int .i64) (.int .i64)) (.int .i64))) (.pair (.int .i64) (.int .i64))) x0, .rop false (.pair (.pair (.int .i64) (.pair (.pair (.int .i64) (.int .i64)) (.int .i64))) (.pair (.int .i64) (.int .i64))) (List.getD x0 0 ((0, ((0, 0), 0)), (0, 0))) 0, .rop false (.pair (.pair (.int .i64) (.pair (.pair (.int .i64) (.int .i64)) (.int .i64))) (.pair (.int .i64) (.int .i64))) (List.getD x0 0 ((0, ((0, 0), 0)), (0, 0))) 0, .rop false (.pair (.pair (.int .i64) (.pair (.pair (.int .i64) (.int .i64)) (.int .i64))) (.pair (.int .i64) (.int .i64))) (List.getD x0 0 ((0, ((0, 0), 0)), (0, 0))) 0, .sc (.int .i64 (((List.getD x0 0 ((0, ((0, 0), 0)), (0, 0))).1).1)), .sc (.bool (decide (x2 < (((List.getD x0 0 ((0, ((0, 0), 0)), (0, 0))).1).1)))), .sc (.bool (decide (x2 < (((List.getD x0 0 ((0, ((0, 0), 0)), (0, 0))).1).1)))), .gd (!(decide (x2 < (((List.getD x0 0 ((0, ((0, 0), 0)), (0, 0))).1).1)))) (.sc (.int .i64 x2)), .gd (!(decide (x2 < (((List.getD x0 0 ((0, ((0, 0), 0)), (0, 0))).1).1)))) (.ros false 39 (.pair (.pair (.int .i64) (.pair (.pair (.int .i64) (.int .i64)) (.int .i64))) (.pair (.int .i64) (.int .i64))) x0), .gd (!(decide (x2 < (((List.getD x0 0 ((0, ((0, 0), 0)), (0, 0))).1).1)))) (.ros false 39 (.pair (.pair (.int .i64) (.pair (.pair (.int .i64) (.int .i64)) (.int .i64))) (.pair (.int .i64) (.int .i64))) x0), .gd (!(decide (x2 < (((List.getD x0 0 ((0, ((0, 0), 0)), (0, 0))).1).1)))) (.sc (.int .i64 (x0.length : Int))), .gd (!(decide (x2 < (((List.getD x0 0 ((0, ((0, 0), 0)), (0, 0))).1).1)))) (.sc (.int .i64 (w ((x0.length : Int) - 1)))), .gd (!(decide (x2 < (((List.getD x0 0 ((0, ((0, 0), 0)), (0, 0))).1).1)))) (.rop false (.pair (.pair (.int .i64) (.pair (.pair (.int .i64) (.int .i64)) (.int .i64))) (.pair (.int .i64) (.int .i64))) (List.getD x0 (Int.toNat (w ((x0.length : Int) - 1))) ((0, ((0, 0), 0)), (0, 0))) 0), .gd (!(decide (x2 < (((List.getD x0 0 ((0, ((0, 0), 0)), (0, 0))).1).1)))) (.rop false (.pair (.pair (.int .i64) (.pair (.pair (.int .i64) (.int .i64)) (.int .i64))) (.pair (.int .i64) (.int .i64))) (List.getD x0 (Int.toNat (w ((x0.length : Int) - 1))) ((0, ((0, 0), 0)), (0, 0))) 0), .gd (!(decide (x2 < (((List.getD x0 0 ((0, ((0, 0), 0)), (0, 0))).1).1)))) (.rop false (.pair (.pair (.int .i64) (.pair (.pair (.int .i64) (.int .i64)) (.int .i64))) (.pair (.int .i64) (.int .i64))) (List.getD x0 (Int.toNat (w ((x0.length : Int) - 1))) ((0, ((0, 0), 0)), (0, 0))) 0), .gd (!(decide (x2 < (((List.getD x0 0 ((0, ((0, 0), 0)), (0, 0))).1).1)))) (.sc (.int .i64 (((List.getD x0 (Int.toNat (w ((x0.length : Int) - 1))) ((0, ((0, 0), 0)), (0, 0))).1).1))), .gd (!(decide (x2 < (((List.getD x0 0 ((0, ((0, 0), 0)), (0, 0))).1).1)))) (.sc (.bool (decide (x2 > (((List.getD x0 (Int.toNat (w ((x0.length : Int) - 1))) ((0, ((0, 0), 0)), (0, 0))).1).1))))), .sc (.bool ((decide (x2 < (((List.getD x0 0 ((0, ((0, 0), 0)), (0, 0))).1).1))) || (decide (x2 > (((List.getD x0 (Int.toNat (w ((x0.length : Int) - 1))) ((0, ((0, 0), 0)), (0, 0))).1).1))))), .any, .ros false 39 (.pair (.pair (.int .i64) (.pair (.pair (.int .i64) (.int .i64)) (.int .i64))) (.pair (.int .i64) (.int .i64))) x0, .agg [.sc (.string x1.1), .sc (.int .i64 x1.2.1), .sc (.int .i64 x1.2.2.1), .sc (.string x1.2.2.2)], .sc (.int .i64 x2), .agg [.sc (.string x3.1), .sc (.int .i64 x3.2.1), .sc (.int .i64 x3.2.2.1), .sc (.int .i64 x3.2.2.2.1), .sc (.int .i64 x3.2.2.2.2.1), .sc (.int .i64 x3.2.2.2.2.2.1), .sc (.int .i64 x3.2.2.2.2.2.2)], .agg [.sc (.int .i64 x4.1), .sc (.int .i64 x4.2)], .any, .any, .any, .any, .any, .any, .any, .any, .any, .any], hp⟩ (some 63) (tupOf vs)) (fun S => (seqK (effect_Of.cd N [1, 1, 1, 1, 1, 1, 1]) effect_Of.fin) .normal S))))) .normal S))))))
noncomputable def effect_Of.l1 (N : Nat) (x0 : List ((Int × (Int × Int) × Int) × Int × Int)) (x1 : ByteArray × Int × Int × ByteArray) (x2 : Int) (x3 : ByteArray × Int × Int × Int × Int × Int × Int) (x4 : Int × Int) (r1 : Int) (r2 : Int) (r3 : Int) (r4 : Int) (r5 : (Int × (Int × Int) × Int) × Int × Int) (a8 : List ((Int × (Int × Int) × Int) × Int × Int)) (a9 : List ((Int × (Int × Int) × Int) × Int × Int)) (r10 : Int × Int) (k11 : Nat) (a12 : Int) (a13 : Int) : Option (List ((Int × (Int × Int) × Int) × Int × Int) × Int) :=
  loopN (norm ((effect_Of.E N).keep 3) 15) (effect_Of.cd42_5_15 N [1, 1, 1, 0, 0, 0]) k11
  ⟨[.own 9, .sc (.int .i64 (w (r5.1.1 + r10.1))), .clo 43 [], .any, .any, .any, .any, .any, .sc (.int .i64 (a9.length : Int)), .sc (.int .i64 a12), .sc (.int .i64 a13), .any, .own 9, .sc (.int .i64 (a9.length : Int)), .sc (.int .i64 (a9.length : Int)), .any, .any, .any, .any, .any, .any, .any, .any, .any, .any, .any, .any, .any, .any, .any, .any, .any, .any, .any, .any, .any, .any, .any, .any, .any, .any, .any, .any, .any, .any, .any, .any, .any, .any], [.cells [.sc (.string x1.1), .sc (.int .i64 x1.2.1), .sc (.int .i64 x1.2.2.1), .sc (.string x1.2.2.2)] 25, .cells [.sc (.string x3.1), .sc (.int .i64 x3.2.1), .sc (.int .i64 x3.2.2.1), .sc (.int .i64 x3.2.2.2.1), .sc (.int .i64 x3.2.2.2.2.1), .sc (.int .i64 x3.2.2.2.2.2.1), .sc (.int .i64 x3.2.2.2.2.2.2)] 27, .cells [.sc (.int .i64 x4.1), .sc (.int .i64 x4.2)] 29, .cells [.sc (.string x1.1), .sc (.int .i64 x1.2.1), .sc (.int .i64 x1.2.2.1), .sc (.string x1.2.2.2)] 25, .cells [.sc (.string x3.1), .sc (.int .i64 x3.2.1), .sc (.int .i64 x3.2.2.1), .sc (.int .i64 x3.2.2.2.1), .sc (.int .i64 x3.2.2.2.2.1), .sc (.int .i64 x3.2.2.2.2.2.1), .sc (.int .i64 x3.2.2.2.2.2.2)] 27, .cells [.sc (.int .i64 x4.1), .sc (.int .i64 x4.2)] 29, .cells [.sc (.int .i64 r5.1.1), .sc (.int .i64 r5.1.2.1.1), .sc (.int .i64 r5.1.2.1.2), .sc (.int .i64 r5.1.2.2), .sc (.int .i64 r5.2.1), .sc (.int .i64 r5.2.2), .own 11, .own 9] 61, .cells [.sc (.int .i64 r5.1.1), .sc (.int .i64 r5.1.2.1.1), .sc (.int .i64 r5.1.2.1.2), .sc (.int .i64 r5.1.2.2), .sc (.int .i64 r5.2.1), .sc (.int .i64 r5.2.2), .own 11, .own 9] 61, .dead, .rows true 39 (.pair (.pair (.int .i64) (.pair (.pair (.int .i64) (.int .i64)) (.int .i64))) (.pair (.int .i64) (.int .i64))) a9, .rows true 39 (.pair (.pair (.int .i64) (.pair (.pair (.int .i64) (.int .i64)) (.int .i64))) (.pair (.int .i64) (.int .i64))) [r5], .rows true 39 (.pair (.pair (.int .i64) (.pair (.pair (.int .i64) (.int .i64)) (.int .i64))) (.pair (.int .i64) (.int .i64))) (a8 ++ [r5]), .cells [.sc (.int .i64 r5.1.1), .sc (.int .i64 r5.1.2.1.1), .sc (.int .i64 r5.1.2.1.2), .sc (.int .i64 r5.1.2.2), .sc (.int .i64 r5.2.1), .sc (.int .i64 r5.2.2), .own 11, .own 9] 61, .cells [.sc (.int .i64 r5.1.1), .sc (.int .i64 r5.1.2.1.1), .sc (.int .i64 r5.1.2.1.2), .sc (.int .i64 r5.1.2.2), .sc (.int .i64 r5.2.1), .sc (.int .i64 r5.2.2), .own 11, .own 9] 61, .cells [.sc (.string x3.1), .sc (.int .i64 x3.2.1), .sc (.int .i64 x3.2.2.1), .sc (.int .i64 x3.2.2.2.1), .sc (.int .i64 x3.2.2.2.2.1), .sc (.int .i64 x3.2.2.2.2.2.1), .sc (.int .i64 x3.2.2.2.2.2.2)] 27]⟩
  (blockK 0 (seqK (effect_Of.cd42_5_15 N [1, 1, 1, 1]) (retK Tryd.prog Tryd.f42 (fun vs hp => (reg (effect_Of.E N) Tryd.prog (callD (effect_Of.E N) Tryd.prog 6) (opsAt (codeAt (bodyOf Tryd.f27) [1, 1, 1, 1, 1, 0])) [] (List.drop 3 (opsAt (codeAt (bodyOf Tryd.f27) [1, 1, 1, 1, 1, 0]))) (St.put ⟨[.agg [.sc (.int .i64 r5.1.1), .sc (.int .i64 r5.1.2.1.1), .sc (.int .i64 r5.1.2.1.2), .sc (.int .i64 r5.1.2.2), .sc (.int .i64 r5.2.1), .sc (.int .i64 r5.2.2), .own 11, .own 9], .ros false 39 (.pair (.pair (.int .i64) (.pair (.pair (.int .i64) (.int .i64)) (.int .i64))) (.pair (.int .i64) (.int .i64))) x0, .sc (.int .i64 x1.2.2.1), .agg [.sc (.string x3.1), .sc (.int .i64 x3.2.1), .sc (.int .i64 x3.2.2.1), .sc (.int .i64 x3.2.2.2.1), .sc (.int .i64 x3.2.2.2.2.1), .sc (.int .i64 x3.2.2.2.2.2.1), .sc (.int .i64 x3.2.2.2.2.2.2)], .ptr 13 0, .any, .any, .ptr 14 0, .sc (.slice none 0 0), .sc (.int .i64 0), .sc (.int .i64 r10.1), .sc (.int .i64 r10.2), .sc (.int .i64 (w (r5.1.1 + r10.1))), .own 9, .any, .any, .any, .any, .any, .tup [.sc (.int .i64 r10.1), .sc (.int .i64 r10.2)], .agg [.sc (.string x3.1), .sc (.int .i64 x3.2.1), .sc (.int .i64 x3.2.2.1), .sc (.int .i64 x3.2.2.2.1), .sc (.int .i64 x3.2.2.2.2.1), .sc (.int .i64 x3.2.2.2.2.2.1), .sc (.int .i64 x3.2.2.2.2.2.2)], .ptr 13 0, .ptr 13 0, .ptr 13 3, .sc (.int .i64 r5.1.2.2), .sc (.int .i64 x1.2.2.1), .tup [.sc (.int .i64 r10.1), .sc (.int .i64 r10.2)], .sc (.int .i64 r10.1), .sc (.int .i64 r10.2), .sc (.int .i64 r10.2), .sc (.bool (!(r10.2 == 0))), .any, .ptr 13 0, .ptr 13 0, .ptr 13 0, .sc (.int .i64 r5.1.1), .sc (.int .i64 r10.1), .sc (.int .i64 (w (r5.1.1 + r10.1))), .ptr 13 7, .own 9, .any, .own 9, .sc (.int .i64 (w (r5.1.1 + r10.1))), .any, .any, .any, .any, .any, .any, .any, .any, .any, .any, .any, .any, .any, .any, .any, .any, .any, .any, .any, .any, .any, .any, .any, .any, .any, .any, .any, .any, .any, .any, .any, .any, .any, .any, .any, .any, .any, .any, .any, .any, .any, .any, .any, .any, .any, .any, .any, .any, .any, .any, .any, .any, .any, .any, .any, .any, .any, .any, .any, .any, .any, .any, .any, .any, .any, .any, .any, .any, .any], hp⟩ (some 43) (tupOf vs)) (fun S => (seqK (effect_Of.cd27_6_13 N [1, 1, 1, 1, 1, 1]) (retK Tryd.prog Tryd.f27 (fun vs hp => (reg (effect_Of.E N) Tryd.prog (callD (effect_Of.E N) Tryd.prog 7) (opsAt (codeAt (bodyOf Tryd.f17) [1, 1, 0, 0, 1, 0, 0])) [] (List.drop 6 (opsAt (codeAt (bodyOf Tryd.f17) [1, 1, 0, 0, 1, 0, 0]))) (St.put ⟨[.ros false 39 (.pair (.pair (.int .i64) (.pair (.pair (.int .i64) (.int .i64)) (.int .i64))) (.pair (.int .i64) (.int .i64))) x0, .agg [.sc (.string x1.1), .sc (.int .i64 x1.2.1), .sc (.int .i64 x1.2.2.1), .sc (.string x1.2.2.2)], .sc (.int .i64 x2), .agg [.sc (.string x3.1), .sc (.int .i64 x3.2.1), .sc (.int .i64 x3.2.2.1), .sc (.int .i64 x3.2.2.2.1), .sc (.int .i64 x3.2.2.2.2.1), .sc (.int .i64 x3.2.2.2.2.2.1), .sc (.int .i64 x3.2.2.2.2.2.2)], .agg [.sc (.int .i64 x4.1), .sc (.int .i64 x4.2)], .any, .ptr 3 0, .any, .ptr 4 0, .ptr 5 0, .sc (.slice none 0 0), .sc (.int .i64 0), .ptr 12 0, .ros false 39 (.pair (.pair (.int .i64) (.pair (.pair (.int .i64) (.int .i64)) (.int .i64))) (.pair (.int .i64) (.int .i64))) x0, .sc (.int .i64 x2), .agg [.sc (.int .i64 r5.1.1), .sc (.int .i64 r5.1.2.1.1), .sc (.int .i64 r5.1.2.1.2), .sc (.int .i64 r5.1.2.2), .sc (.int .i64 r5.2.1), .sc (.int .i64 r5.2.2), .own 11, .own 9], .sc (.bool (x1.2.1 == 0)), .ptr 3 1, .sc (.int .i64 x1.2.1), .sc (.bool (x1.2.1 == 0)), .agg [.sc (.int .i64 r5.1.1), .sc (.int .i64 r5.1.2.1.1), .sc (.int .i64 r5.1.2.1.2), .sc (.int .i64 r5.1.2.2), .sc (.int .i64 r5.2.1), .sc (.int .i64 r5.2.2), .own 11, .own 9], .ros false 39 (.pair (.pair (.int .i64) (.pair (.pair (.int .i64) (.int .i64)) (.int .i64))) (.pair (.int .i64) (.int .i64))) x0, .ptr 3 2, .sc (.int .i64 x1.2.2.1), .agg [.sc (.string x3.1), .sc (.int .i64 x3.2.1), .sc (.int .i64 x3.2.2.1), .sc (.int .i64 x3.2.2.2.1), .sc (.int .i64 x3.2.2.2.2.1), .sc (.int .i64 x3.2.2.2.2.2.1), .sc (.int .i64 x3.2.2.2.2.2.2)], .any, .any, .any, .any, .any, .any, .any, .any, .any, .any, .any, .any, .any, .any, .any, .any, .any, .any, .any, .any, .any, .any, .any, .any, .any, .any, .any, .any, .any, .any, .any, .any, .any, .any, .any, .any, .any, .any, .any, .any, .any], hp⟩ (some 25) (tupOf vs)) (fun S => (seqK (effect_Of.cd17_7_3 N [1, 1, 0, 0, 1, 0, 1]) (blockK 0 (seqK (effect_Of.cd17_7_3 N [1, 1, 1]) (retK Tryd.prog Tryd.f17 (fun vs hp => (reg (effect_Of.E N) Tryd.prog (callD (effect_Of.E N) Tryd.prog 8) (opsAt (codeAt (bodyOf Tryd.f5) [1, 1, 1, 1, 1, 1, 0])) [] (List.drop 6 (opsAt (codeAt (bodyOf Tryd.f5) [1, 1, 1, 1, 1, 1, 0]))) (St.put ⟨[.ros false 39 (.pair (.pair (.int .i64) (.pair (.pair (.int .i64) (.int .i64)) (.int .i64))) (.pair (.int .i64) (.int .i64))) x0, .agg [.sc (.string x1.1), .sc (.int .i64 x1.2.1), .sc (.int .i64 x1.2.2.1), .sc (.string x1.2.2.2)], .sc (.int .i64 x2), .agg [.sc (.string x3.1), .sc (.int .i64 x3.2.1), .sc (.int .i64 x3.2.2.1), .sc (.int .i64 x3.2.2.2.1), .sc (.int .i64 x3.2.2.2.2.1), .sc (.int .i64 x3.2.2.2.2.2.1), .sc (.int .i64 x3.2.2.2.2.2.2)], .agg [.sc (.int .i64 x4.1), .sc (.int .i64 x4.2)], .any, .ptr 0 0, .any, .ptr 1 0, .ptr 2 0, .sc (.slice none 0 0), .sc (.int .i64 0), .sc (.int .i64 r1), .sc (.int .i64 r2), .sc (.int .i64 r3), .sc (.int .i64 r4), .any, .any, .ros false 39 (.pair (.pair (.int .i64) (.pair (.pair (.int .i64) (.int .i64)) (.int .i64))) (.pair (.int .i64) (.int .i64))) x0, .sc (.int .i64 r1), .sc (.int .i64 r1), .sc (.bool (!(r1 == 0))), .any, .agg [.sc (.string x1.1), .sc (.int .i64 x1.2.1), .sc (.int .i64 x1.2.2.1), .sc (.string x1.2.2.2)], .sc (.int .i64 r2), .sc (.int .i64 r2), .sc (.bool (!(r2 == 0))), .any, .agg [.sc (.string x3.1), .sc (.int .i64 x3.2.1), .sc (.int .i64 x3.2.2.1), .sc (.int .i64 x3.2.2.2.1), .sc (.int .i64 x3.2.2.2.2.1), .sc (.int .i64 x3.2.2.2.2.2.1), .sc (.int .i64 x3.2.2.2.2.2.2)], .sc (.int .i64 r3), .sc (.int .i64 r3), .sc (.bool (!(r3 == 0))), .any, .agg [.sc (.int .i64 x4.1), .sc (.int .i64 x4.2)], .sc (.int .i64 r4), .sc (.int .i64 r4), .sc (.bool (!(r4 == 0))), .any, .sc (.int .i64 x2), .ros false 39 (.pair (.pair (.int .i64) (.pair (.pair (.int .i64) (.int .i64)) (.int .i64))) (.pair (.int .i64) (.int .i64))) x0, .rop false (.pair (.pair (.int .i64) (.pair (.pair (.int .i64) (.int .i64)) (.int .i64))) (.pair (.int .i64) (.int .i64))) (List.getD x0 0 ((0, ((0, 0), 0)), (0, 0))) 0, .rop false (.pair (.pair (.int .i64) (.pair (.pair (.int .i64) (.int .i64)) (.int .i64))) (.pair (.int .i64) (.int .i64))) (List.getD x0 0 ((0, ((0, 0), 0)), (0, 0))) 0, .rop false (.pair (.pair (.int .i64) (.pair (.pair (.int .i64) (.int .i64)) (.int .i64))) (.pair (.int .i64) (.int .i64))) (List.getD x0 0 ((0, ((0, 0), 0)), (0, 0))) 0, .sc (.int .i64 (((List.getD x0 0 ((0, ((0, 0), 0)), (0, 0))).1).1)), .sc (.bool (decide (x2 < (((List.getD x0 0 ((0, ((0, 0), 0)), (0, 0))).1).1)))), .sc (.bool (decide (x2 < (((List.getD x0 0 ((0, ((0, 0), 0)), (0, 0))).1).1)))), .gd (!(decide (x2 < (((List.getD x0 0 ((0, ((0, 0), 0)), (0, 0))).1).1)))) (.sc (.int .i64 x2)), .gd (!(decide (x2 < (((List.getD x0 0 ((0, ((0, 0), 0)), (0, 0))).1).1)))) (.ros false 39 (.pair (.pair (.int .i64) (.pair (.pair (.int .i64) (.int .i64)) (.int .i64))) (.pair (.int .i64) (.int .i64))) x0), .gd (!(decide (x2 < (((List.getD x0 0 ((0, ((0, 0), 0)), (0, 0))).1).1)))) (.ros false 39 (.pair (.pair (.int .i64) (.pair (.pair (.int .i64) (.int .i64)) (.int .i64))) (.pair (.int .i64) (.int .i64))) x0), .gd (!(decide (x2 < (((List.getD x0 0 ((0, ((0, 0), 0)), (0, 0))).1).1)))) (.sc (.int .i64 (x0.length : Int))), .gd (!(decide (x2 < (((List.getD x0 0 ((0, ((0, 0), 0)), (0, 0))).1).1)))) (.sc (.int .i64 (w ((x0.length : Int) - 1)))), .gd (!(decide (x2 < (((List.getD x0 0 ((0, ((0, 0), 0)), (0, 0))).1).1)))) (.rop false (.pair (.pair (.int .i64) (.pair (.pair (.int .i64) (.int .i64)) (.int .i64))) (.pair (.int .i64) (.int .i64))) (List.getD x0 (Int.toNat (w ((x0.length : Int) - 1))) ((0, ((0, 0), 0)), (0, 0))) 0), .gd (!(decide (x2 < (((List.getD x0 0 ((0, ((0, 0), 0)), (0, 0))).1).1)))) (.rop false (.pair (.pair (.int .i64) (.pair (.pair (.int .i64) (.int .i64)) (.int .i64))) (.pair (.int .i64) (.int .i64))) (List.getD x0 (Int.toNat (w ((x0.length : Int) - 1))) ((0, ((0, 0), 0)), (0, 0))) 0), .gd (!(decide (x2 < (((List.getD x0 0 ((0, ((0, 0), 0)), (0, 0))).1).1)))) (.rop false (.pair (.pair (.int .i64) (.pair (.pair (.int .i64) (.int .i64)) (.int .i64))) (.pair (.int .i64) (.int .i64))) (List.getD x0 (Int.toNat (w ((x0.length : Int) - 1))) ((0, ((0, 0), 0)), (0, 0))) 0), .gd (!(decide (x2 < (((List.getD x0 0 ((0, ((0, 0), 0)), (0, 0))).1).1)))) (.sc (.int .i64 (((List.getD x0 (Int.toNat (w ((x0.length : Int) - 1))) ((0, ((0, 0), 0)), (0, 0))).1).1))), .gd (!(decide (x2 < (((List.getD x0 0 ((0, ((0, 0), 0)), (0, 0))).1).1)))) (.sc (.bool (decide (x2 > (((List.getD x0 (Int.toNat (w ((x0.length : Int) - 1))) ((0, ((0, 0), 0)), (0, 0))).1).1))))), .sc (.bool ((decide (x2 < (((List.getD x0 0 ((0, ((0, 0), 0)), (0, 0))).1).1))) || (decide (x2 > (((List.getD x0 (Int.toNat (w ((x0.length : Int) - 1))) ((0, ((0, 0), 0)), (0, 0))).1).1))))), .any, .ros false 39 (.pair (.pair (.int .i64) (.pair (.pair (.int .i64) (.int .i64)) (.int .i64))) (.pair (.int .i64) (.int .i64))) x0, .agg [.sc (.string x1.1), .sc (.int .i64 x1.2.1), .sc (.int .i64 x1.2.2.1), .sc (.string x1.2.2.2)], .sc (.int .i64 x2), .agg [.sc (.string x3.1), .sc (.int .i64 x3.2.1), .sc (.int .i64 x3.2.2.1), .sc (.int .i64 x3.2.2.2.1), .sc (.int .i64 x3.2.2.2.2.1), .sc (.int .i64 x3.2.2.2.2.2.1), .sc (.int .i64 x3.2.2.2.2.2.2)], .agg [.sc (.int .i64 x4.1), .sc (.int .i64 x4.2)], .any, .any, .any, .any, .any, .any, .any, .any, .any, .any], hp⟩ (some 63) (tupOf vs)) (fun S => (seqK (effect_Of.cd N [1, 1, 1, 1, 1, 1, 1]) effect_Of.fin) .normal S))))))) .normal S))))) .normal S))))))
noncomputable def effect_Of.l2 (N : Nat) (x0 : List ((Int × (Int × Int) × Int) × Int × Int)) (x1 : ByteArray × Int × Int × ByteArray) (x2 : Int) (x3 : ByteArray × Int × Int × Int × Int × Int × Int) (x4 : Int × Int) (r1 : Int) (r2 : Int) (r3 : Int) (r4 : Int) (r5 : (Int × (Int × Int) × Int) × Int × Int) (a9 : List ((Int × (Int × Int) × Int) × Int × Int)) (r10 : Int × Int) (a12 : Int) (r16 : List ((Int × (Int × Int) × Int) × Int × Int)) (r17 : (Int × (Int × Int) × Int) × Int × Int) (k18 : Nat) (a19 : Int) (a20 : List ((Int × (Int × Int) × Int) × Int × Int)) : Option (List ((Int × (Int × Int) × Int) × Int × Int) × Int) :=
  loopN (norm ((effect_Of.E N).keep 11) 13) (effect_Of.cd27_6_13 N [1, 1, 1, 1, 1, 1, 1, 1, 0, 1, 0, 0]) k18
  ⟨[.any, .any, .sc (.int .i64 x1.2.2.1), .any, .ptr 13 0, .any, .any, .any, .any, .any, .sc (.int .i64 r10.1), .any, .sc (.int .i64 (w (r5.1.1 + r10.1))), .any, .any, .any, .own 14, .any, .any, .any, .any, .any, .any, .any, .any, .any, .any, .any, .any, .any, .any, .any, .any, .any, .any, .any, .any, .any, .any, .any, .any, .any, .any, .any, .any, .any, .any, .any, .any, .any, .any, .any, .any, .any, .any, .any, .any, .any, .any, .any, .any, .any, .any, .any, .any, .any, .any, .any, .own 15, .sc (.int .i64 (((List.take (Int.toNat a12) r16) ++ [r17] ++ (List.drop (Int.toNat a12) r16)).length : Int)), .sc (.int .i64 a19), .any, .any, .any, .any, .any, .any, .any, .any, .any, .any, .any, .any, .any, .any, .any, .any, .any, .any, .any, .any, .any, .any, .any, .any, .any, .any, .any, .any, .any, .any, .any, .any, .any, .any, .any, .any, .any, .any, .any, .any, .any], [.cells [.sc (.string x1.1), .sc (.int .i64 x1.2.1), .sc (.int .i64 x1.2.2.1), .sc (.string x1.2.2.2)] 25, .cells [.sc (.string x3.1), .sc (.int .i64 x3.2.1), .sc (.int .i64 x3.2.2.1), .sc (.int .i64 x3.2.2.2.1), .sc (.int .i64 x3.2.2.2.2.1), .sc (.int .i64 x3.2.2.2.2.2.1), .sc (.int .i64 x3.2.2.2.2.2.2)] 27, .cells [.sc (.int .i64 x4.1), .sc (.int .i64 x4.2)] 29, .cells [.sc (.string x1.1), .sc (.int .i64 x1.2.1), .sc (.int .i64 x1.2.2.1), .sc (.string x1.2.2.2)] 25, .cells [.sc (.string x3.1), .sc (.int .i64 x3.2.1), .sc (.int .i64 x3.2.2.1), .sc (.int .i64 x3.2.2.2.1), .sc (.int .i64 x3.2.2.2.2.1), .sc (.int .i64 x3.2.2.2.2.2.1), .sc (.int .i64 x3.2.2.2.2.2.2)] 27, .cells [.sc (.int .i64 x4.1), .sc (.int .i64 x4.2)] 29, .cells [.sc (.int .i64 r5.1.1), .sc (.int .i64 r5.1.2.1.1), .sc (.int .i64 r5.1.2.1.2), .sc (.int .i64 r5.1.2.2), .sc (.int .i64 r5.2.1), .sc (.int .i64 r5.2.2), .own 11, .own 9] 61, .cells [.sc (.int .i64 r5.1.1), .sc (.int .i64 r5.1.2.1.1), .sc (.int .i64 r5.1.2.1.2), .sc (.int .i64 r5.1.2.2), .sc (.int .i64 r5.2.1), .sc (.int .i64 r5.2.2), .own 11, .own 9] 61, .dead, .rows true 39 (.pair (.pair (.int .i64) (.pair (.pair (.int .i64) (.int .i64)) (.int .i64))) (.pair (.int .i64) (.int .i64))) a9, .rows true 39 (.pair (.pair (.int .i64) (.pair (.pair (.int .i64) (.int .i64)) (.int .i64))) (.pair (.int .i64) (.int .i64))) [r5], .dead, .cells [.sc (.int .i64 r5.1.1), .sc (.int .i64 r5.1.2.1.1), .sc (.int .i64 r5.1.2.1.2), .sc (.int .i64 r5.1.2.2), .sc (.int .i64 r5.2.1), .sc (.int .i64 r5.2.2), .own 11, .own 9] 61, .cells [.sc (.int .i64 r5.1.1), .sc (.int .i64 r5.1.2.1.1), .sc (.int .i64 r5.1.2.1.2), .sc (.int .i64 r5.1.2.2), .sc (.int .i64 r5.2.1), .sc (.int .i64 r5.2.2), .any, .own 9] 61, .rows true 39 (.pair (.pair (.int .i64) (.pair (.pair (.int .i64) (.int .i64)) (.int .i64))) (.pair (.int .i64) (.int .i64))) a20, .rows true 39 (.pair (.pair (.int .i64) (.pair (.pair (.int .i64) (.int .i64)) (.int .i64))) (.pair (.int .i64) (.int .i64))) ((List.take (Int.toNat a12) r16) ++ [r17] ++ (List.drop (Int.toNat a12) r16))]⟩
  (blockK 0 (seqK (effect_Of.cd27_6_13 N [1, 1, 1, 1, 1, 1, 1, 1, 1]) (retK Tryd.prog Tryd.f27 (fun vs hp => (reg (effect_Of.E N) Tryd.prog (callD (effect_Of.E N) Tryd.prog 7) (opsAt (codeAt (bodyOf Tryd.f17) [1, 1, 0, 0, 1, 0, 0])) [] (List.drop 6 (opsAt (codeAt (bodyOf Tryd.f17) [1, 1, 0, 0, 1, 0, 0]))) (St.put ⟨[.ros false 39 (.pair (.pair (.int .i64) (.pair (.pair (.int .i64) (.int .i64)) (.int .i64))) (.pair (.int .i64) (.int .i64))) x0, .agg [.sc (.string x1.1), .sc (.int .i64 x1.2.1), .sc (.int .i64 x1.2.2.1), .sc (.string x1.2.2.2)], .sc (.int .i64 x2), .agg [.sc (.string x3.1), .sc (.int .i64 x3.2.1), .sc (.int .i64 x3.2.2.1), .sc (.int .i64 x3.2.2.2.1), .sc (.int .i64 x3.2.2.2.2.1), .sc (.int .i64 x3.2.2.2.2.2.1), .sc (.int .i64 x3.2.2.2.2.2.2)], .agg [.sc (.int .i64 x4.1), .sc (.int .i64 x4.2)], .any, .ptr 3 0, .any, .ptr 4 0, .ptr 5 0, .sc (.slice none 0 0), .sc (.int .i64 0), .ptr 12 0, .ros false 39 (.pair (.pair (.int .i64) (.pair (.pair (.int .i64) (.int .i64)) (.int .i64))) (.pair (.int .i64) (.int .i64))) x0, .sc (.int .i64 x2), .agg [.sc (.int .i64 r5.1.1), .sc (.int .i64 r5.1.2.1.1), .sc (.int .i64 r5.1.2.1.2), .sc (.int .i64 r5.1.2.2), .sc (.int .i64 r5.2.1), .sc (.int .i64 r5.2.2), .own 11, .own 9], .sc (.bool (x1.2.1 == 0)), .ptr 3 1, .sc (.int .i64 x1.2.1), .sc (.bool (x1.2.1 == 0)), .agg [.sc (.int .i64 r5.1.1), .sc (.int .i64 r5.1.2.1.1), .sc (.int .i64 r5.1.2.1.2), .sc (.int .i64 r5.1.2.2), .sc (.int .i64 r5.2.1), .sc (.int .i64 r5.2.2), .own 11, .own 9], .ros false 39 (.pair (.pair (.int .i64) (.pair (.pair (.int .i64) (.int .i64)) (.int .i64))) (.pair (.int .i64) (.int .i64))) x0, .ptr 3 2, .sc (.int .i64 x1.2.2.1), .agg [.sc (.string x3.1), .sc (.int .i64 x3.2.1), .sc (.int .i64 x3.2.2.1), .sc (.int .i64 x3.2.2.2.1), .sc (.int .i64 x3.2.2.2.2.1), .sc (.int .i64 x3.2.2.2.2.2.1), .sc (.int .i64 x3.2.2.2.2.2.2)], .any, .any, .any, .any, .any, .any, .any, .any, .any, .any, .any, .any, .any, .any, .any, .any, .any, .any, .any, .any, .any, .any, .any, .any, .any, .any, .any, .any, .any, .any, .any, .any, .any, .any, .any, .any, .any, .any, .any, .any, .any], hp⟩ (some 25) (tupOf vs)) (fun S => (seqK (effect_Of.cd17_7_3 N [1, 1, 0, 0, 1, 0, 1]) (blockK 0 (seqK (effect_Of.cd17_7_3 N [1, 1, 1]) (retK Tryd.prog Tryd.f17 (fun vs hp => (reg (effect_Of.E N) Tryd.prog (callD (effect_Of.E N) Tryd.prog 8) (opsAt (codeAt (bodyOf Tryd.f5) [1, 1, 1, 1, 1, 1, 0])) [] (List.drop 6 (opsAt (codeAt (bodyOf Tryd.f5) [1, 1, 1, 1, 1, 1, 0]))) (St.put ⟨[.ros false 39 (.pair (.pair (.int .i64) (.pair (.pair (.int .i64) (.int .i64)) (.int .i64))) (.pair (.int .i64) (.int .i64))) x0, .agg [.sc (.string x1.1), .sc (.int .i64 x1.2.1), .sc (.int .i64 x1.2.2.1), .sc (.string x1.2.2.2)], .sc (.int .i64 x2), .agg [.sc (.string x3.1), .sc (.int .i64 x3.2.1), .sc (.int .i64 x3.2.2.1), .sc (.int .i64 x3.2.2.2.1), .sc (.int .i64 x3.2.2.2.2.1), .sc (.int .i64 x3.2.2.2.2.2.1), .sc (.int .i64 x3.2.2.2.2.2.2)], .agg [.sc (.int .i64 x4.1), .sc (.int .i64 x4.2)], .any, .ptr 0 0, .any, .ptr 1 0, .ptr 2 0, .sc (.slice none 0 0), .sc (.int .i64 0), .sc (.int .i64 r1), .sc (.int .i64 r2), .sc (.int .i64 r3), .sc (.int .i64 r4), .any, .any, .ros false 39 (.pair (.pair (.int .i64) (.pair (.pair (.int .i64) (.int .i64)) (.int .i64))) (.pair (.int .i64) (.int .i64))) x0, .sc (.int .i64 r1), .sc (.int .i64 r1), .sc (.bool (!(r1 == 0))), .any, .agg [.sc (.string x1.1), .sc (.int .i64 x1.2.1), .sc (.int .i64 x1.2.2.1), .sc (.string x1.2.2.2)], .sc (.int .i64 r2), .sc (.int .i64 r2), .sc (.bool (!(r2 == 0))), .any, .agg [.sc (.string x3.1), .sc (.int .i64 x3.2.1), .sc (.int .i64 x3.2.2.1), .sc (.int .i64 x3.2.2.2.1), .sc (.int .i64 x3.2.2.2.2.1), .sc (.int .i64 x3.2.2.2.2.2.1), .sc (.int .i64 x3.2.2.2.2.2.2)], .sc (.int .i64 r3), .sc (.int .i64 r3), .sc (.bool (!(r3 == 0))), .any, .agg [.sc (.int .i64 x4.1), .sc (.int .i64 x4.2)], .sc (.int .i64 r4), .sc (.int .i64 r4), .sc (.bool (!(r4 == 0))), .any, .sc (.int .i64 x2), .ros false 39 (.pair (.pair (.int .i64) (.pair (.pair (.int .i64) (.int .i64)) (.int .i64))) (.pair (.int .i64) (.int .i64))) x0, .rop false (.pair (.pair (.int .i64) (.pair (.pair (.int .i64) (.int .i64)) (.int .i64))) (.pair (.int .i64) (.int .i64))) (List.getD x0 0 ((0, ((0, 0), 0)), (0, 0))) 0, .rop false (.pair (.pair (.int .i64) (.pair (.pair (.int .i64) (.int .i64)) (.int .i64))) (.pair (.int .i64) (.int .i64))) (List.getD x0 0 ((0, ((0, 0), 0)), (0, 0))) 0, .rop false (.pair (.pair (.int .i64) (.pair (.pair (.int .i64) (.int .i64)) (.int .i64))) (.pair (.int .i64) (.int .i64))) (List.getD x0 0 ((0, ((0, 0), 0)), (0, 0))) 0, .sc (.int .i64 (((List.getD x0 0 ((0, ((0, 0), 0)), (0, 0))).1).1)), .sc (.bool (decide (x2 < (((List.getD x0 0 ((0, ((0, 0), 0)), (0, 0))).1).1)))), .sc (.bool (decide (x2 < (((List.getD x0 0 ((0, ((0, 0), 0)), (0, 0))).1).1)))), .gd (!(decide (x2 < (((List.getD x0 0 ((0, ((0, 0), 0)), (0, 0))).1).1)))) (.sc (.int .i64 x2)), .gd (!(decide (x2 < (((List.getD x0 0 ((0, ((0, 0), 0)), (0, 0))).1).1)))) (.ros false 39 (.pair (.pair (.int .i64) (.pair (.pair (.int .i64) (.int .i64)) (.int .i64))) (.pair (.int .i64) (.int .i64))) x0), .gd (!(decide (x2 < (((List.getD x0 0 ((0, ((0, 0), 0)), (0, 0))).1).1)))) (.ros false 39 (.pair (.pair (.int .i64) (.pair (.pair (.int .i64) (.int .i64)) (.int .i64))) (.pair (.int .i64) (.int .i64))) x0), .gd (!(decide (x2 < (((List.getD x0 0 ((0, ((0, 0), 0)), (0, 0))).1).1)))) (.sc (.int .i64 (x0.length : Int))), .gd (!(decide (x2 < (((List.getD x0 0 ((0, ((0, 0), 0)), (0, 0))).1).1)))) (.sc (.int .i64 (w ((x0.length : Int) - 1)))), .gd (!(decide (x2 < (((List.getD x0 0 ((0, ((0, 0), 0)), (0, 0))).1).1)))) (.rop false (.pair (.pair (.int .i64) (.pair (.pair (.int .i64) (.int .i64)) (.int .i64))) (.pair (.int .i64) (.int .i64))) (List.getD x0 (Int.toNat (w ((x0.length : Int) - 1))) ((0, ((0, 0), 0)), (0, 0))) 0), .gd (!(decide (x2 < (((List.getD x0 0 ((0, ((0, 0), 0)), (0, 0))).1).1)))) (.rop false (.pair (.pair (.int .i64) (.pair (.pair (.int .i64) (.int .i64)) (.int .i64))) (.pair (.int .i64) (.int .i64))) (List.getD x0 (Int.toNat (w ((x0.length : Int) - 1))) ((0, ((0, 0), 0)), (0, 0))) 0), .gd (!(decide (x2 < (((List.getD x0 0 ((0, ((0, 0), 0)), (0, 0))).1).1)))) (.rop false (.pair (.pair (.int .i64) (.pair (.pair (.int .i64) (.int .i64)) (.int .i64))) (.pair (.int .i64) (.int .i64))) (List.getD x0 (Int.toNat (w ((x0.length : Int) - 1))) ((0, ((0, 0), 0)), (0, 0))) 0), .gd (!(decide (x2 < (((List.getD x0 0 ((0, ((0, 0), 0)), (0, 0))).1).1)))) (.sc (.int .i64 (((List.getD x0 (Int.toNat (w ((x0.length : Int) - 1))) ((0, ((0, 0), 0)), (0, 0))).1).1))), .gd (!(decide (x2 < (((List.getD x0 0 ((0, ((0, 0), 0)), (0, 0))).1).1)))) (.sc (.bool (decide (x2 > (((List.getD x0 (Int.toNat (w ((x0.length : Int) - 1))) ((0, ((0, 0), 0)), (0, 0))).1).1))))), .sc (.bool ((decide (x2 < (((List.getD x0 0 ((0, ((0, 0), 0)), (0, 0))).1).1))) || (decide (x2 > (((List.getD x0 (Int.toNat (w ((x0.length : Int) - 1))) ((0, ((0, 0), 0)), (0, 0))).1).1))))), .any, .ros false 39 (.pair (.pair (.int .i64) (.pair (.pair (.int .i64) (.int .i64)) (.int .i64))) (.pair (.int .i64) (.int .i64))) x0, .agg [.sc (.string x1.1), .sc (.int .i64 x1.2.1), .sc (.int .i64 x1.2.2.1), .sc (.string x1.2.2.2)], .sc (.int .i64 x2), .agg [.sc (.string x3.1), .sc (.int .i64 x3.2.1), .sc (.int .i64 x3.2.2.1), .sc (.int .i64 x3.2.2.2.1), .sc (.int .i64 x3.2.2.2.2.1), .sc (.int .i64 x3.2.2.2.2.2.1), .sc (.int .i64 x3.2.2.2.2.2.2)], .agg [.sc (.int .i64 x4.1), .sc (.int .i64 x4.2)], .any, .any, .any, .any, .any, .any, .any, .any, .any, .any], hp⟩ (some 63) (tupOf vs)) (fun S => (seqK (effect_Of.cd N [1, 1, 1, 1, 1, 1, 1]) effect_Of.fin) .normal S))))))) .normal S))))))
noncomputable def effect_Of.l3 (N : Nat) (x0 : List ((Int × (Int × Int) × Int) × Int × Int)) (x1 : ByteArray × Int × Int × ByteArray) (x2 : Int) (x3 : ByteArray × Int × Int × Int × Int × Int × Int) (x4 : Int × Int) (r1 : Int) (r2 : Int) (r3 : Int) (r4 : Int) (r5 : (Int × (Int × Int) × Int) × Int × Int) (a9 : List ((Int × (Int × Int) × Int) × Int × Int)) (r10 : Int × Int) (k22 : Nat) (a23 : Int) (a24 : List ((Int × (Int × Int) × Int) × Int × Int)) : Option (List ((Int × (Int × Int) × Int) × Int × Int) × Int) :=
  loopN (norm ((effect_Of.E N).keep 11) 13) (effect_Of.cd27_6_13 N [1, 1, 1, 1, 1, 1, 1, 1, 0, 1, 0, 0]) k22
  ⟨[.any, .any, .sc (.int .i64 x1.2.2.1), .any, .ptr 13 0, .any, .any, .any, .any, .any, .sc (.int .i64 r10.1), .any, .sc (.int .i64 (w (r5.1.1 + r10.1))), .any, .any, .any, .own 14, .any, .any, .any, .any, .any, .any, .any, .any, .any, .any, .any, .any, .any, .any, .any, .any, .any, .any, .any, .any, .any, .any, .any, .any, .any, .any, .any, .any, .any, .any, .any, .any, .any, .any, .any, .any, .any, .any, .any, .any, .any, .any, .any, .any, .any, .any, .any, .any, .any, .any, .any, .own 9, .sc (.int .i64 (a9.length : Int)), .sc (.int .i64 a23), .any, .any, .any, .any, .any, .any, .any, .any, .any, .any, .any, .any, .any, .any, .any, .any, .any, .any, .any, .any, .any, .any, .any, .any, .any, .any, .any, .any, .any, .any, .any, .any, .any, .any, .any, .any, .any, .any, .any, .any, .any], [.cells [.sc (.string x1.1), .sc (.int .i64 x1.2.1), .sc (.int .i64 x1.2.2.1), .sc (.string x1.2.2.2)] 25, .cells [.sc (.string x3.1), .sc (.int .i64 x3.2.1), .sc (.int .i64 x3.2.2.1), .sc (.int .i64 x3.2.2.2.1), .sc (.int .i64 x3.2.2.2.2.1), .sc (.int .i64 x3.2.2.2.2.2.1), .sc (.int .i64 x3.2.2.2.2.2.2)] 27, .cells [.sc (.int .i64 x4.1), .sc (.int .i64 x4.2)] 29, .cells [.sc (.string x1.1), .sc (.int .i64 x1.2.1), .sc (.int .i64 x1.2.2.1), .sc (.string x1.2.2.2)] 25, .cells [.sc (.string x3.1), .sc (.int .i64 x3.2.1), .sc (.int .i64 x3.2.2.1), .sc (.int .i64 x3.2.2.2.1), .sc (.int .i64 x3.2.2.2.2.1), .sc (.int .i64 x3.2.2.2.2.2.1), .sc (.int .i64 x3.2.2.2.2.2.2)] 27, .cells [.sc (.int .i64 x4.1), .sc (.int .i64 x4.2)] 29, .cells [.sc (.int .i64 r5.1.1), .sc (.int .i64 r5.1.2.1.1), .sc (.int .i64 r5.1.2.1.2), .sc (.int .i64 r5.1.2.2), .sc (.int .i64 r5.2.1), .sc (.int .i64 r5.2.2), .own 11, .own 9] 61, .cells [.sc (.int .i64 r5.1.1), .sc (.int .i64 r5.1.2.1.1), .sc (.int .i64 r5.1.2.1.2), .sc (.int .i64 r5.1.2.2), .sc (.int .i64 r5.2.1), .sc (.int .i64 r5.2.2), .own 11, .own 9] 61, .dead, .rows true 39 (.pair (.pair (.int .i64) (.pair (.pair (.int .i64) (.int .i64)) (.int .i64))) (.pair (.int .i64) (.int .i64))) a9, .rows true 39 (.pair (.pair (.int .i64) (.pair (.pair (.int .i64) (.int .i64)) (.int .i64))) (.pair (.int .i64) (.int .i64))) [r5], .dead, .cells [.sc (.int .i64 r5.1.1), .sc (.int .i64 r5.1.2.1.1), .sc (.int .i64 r5.1.2.1.2), .sc (.int .i64 r5.1.2.2), .sc (.int .i64 r5.2.1), .sc (.int .i64 r5.2.2), .own 11, .own 9] 61, .cells [.sc (.int .i64 r5.1.1), .sc (.int .i64 r5.1.2.1.1), .sc (.int .i64 r5.1.2.1.2), .sc (.int .i64 r5.1.2.2), .sc (.int .i64 r5.2.1), .sc (.int .i64 r5.2.2), .any, .own 9] 61, .rows true 39 (.pair (.pair (.int .i64) (.pair (.pair (.int .i64) (.int .i64)) (.int .i64))) (.pair (.int .i64) (.int .i64))) a24]⟩
  (blockK 0 (seqK (effect_Of.cd27_6_13 N [1, 1, 1, 1, 1, 1, 1, 1, 1]) (retK Tryd.prog Tryd.f27 (fun vs hp => (reg (effect_Of.E N) Tryd.prog (callD (effect_Of.E N) Tryd.prog 7) (opsAt (codeAt (bodyOf Tryd.f17) [1, 1, 0, 0, 1, 0, 0])) [] (List.drop 6 (opsAt (codeAt (bodyOf Tryd.f17) [1, 1, 0, 0, 1, 0, 0]))) (St.put ⟨[.ros false 39 (.pair (.pair (.int .i64) (.pair (.pair (.int .i64) (.int .i64)) (.int .i64))) (.pair (.int .i64) (.int .i64))) x0, .agg [.sc (.string x1.1), .sc (.int .i64 x1.2.1), .sc (.int .i64 x1.2.2.1), .sc (.string x1.2.2.2)], .sc (.int .i64 x2), .agg [.sc (.string x3.1), .sc (.int .i64 x3.2.1), .sc (.int .i64 x3.2.2.1), .sc (.int .i64 x3.2.2.2.1), .sc (.int .i64 x3.2.2.2.2.1), .sc (.int .i64 x3.2.2.2.2.2.1), .sc (.int .i64 x3.2.2.2.2.2.2)], .agg [.sc (.int .i64 x4.1), .sc (.int .i64 x4.2)], .any, .ptr 3 0, .any, .ptr 4 0, .ptr 5 0, .sc (.slice none 0 0), .sc (.int .i64 0), .ptr 12 0, .ros false 39 (.pair (.pair (.int .i64) (.pair (.pair (.int .i64) (.int .i64)) (.int .i64))) (.pair (.int .i64) (.int .i64))) x0, .sc (.int .i64 x2), .agg [.sc (.int .i64 r5.1.1), .sc (.int .i64 r5.1.2.1.1), .sc (.int .i64 r5.1.2.1.2), .sc (.int .i64 r5.1.2.2), .sc (.int .i64 r5.2.1), .sc (.int .i64 r5.2.2), .own 11, .own 9], .sc (.bool (x1.2.1 == 0)), .ptr 3 1, .sc (.int .i64 x1.2.1), .sc (.bool (x1.2.1 == 0)), .agg [.sc (.int .i64 r5.1.1), .sc (.int .i64 r5.1.2.1.1), .sc (.int .i64 r5.1.2.1.2), .sc (.int .i64 r5.1.2.2), .sc (.int .i64 r5.2.1), .sc (.int .i64 r5.2.2), .own 11, .own 9], .ros false 39 (.pair (.pair (.int .i64) (.pair (.pair (.int .i64) (.int .i64)) (.int .i64))) (.pair (.int .i64) (.int .i64))) x0, .ptr 3 2, .sc (.int .i64 x1.2.2.1), .agg [.sc (.string x3.1), .sc (.int .i64 x3.2.1), .sc (.int .i64 x3.2.2.1), .sc (.int .i64 x3.2.2.2.1), .sc (.int .i64 x3.2.2.2.2.1), .sc (.int .i64 x3.2.2.2.2.2.1), .sc (.int .i64 x3.2.2.2.2.2.2)], .any, .any, .any, .any, .any, .any, .any, .any, .any, .any, .any, .any, .any, .any, .any, .any, .any, .any, .any, .any, .any, .any, .any, .any, .any, .any, .any, .any, .any, .any, .any, .any, .any, .any, .any, .any, .any, .any, .any, .any, .any], hp⟩ (some 25) (tupOf vs)) (fun S => (seqK (effect_Of.cd17_7_3 N [1, 1, 0, 0, 1, 0, 1]) (blockK 0 (seqK (effect_Of.cd17_7_3 N [1, 1, 1]) (retK Tryd.prog Tryd.f17 (fun vs hp => (reg (effect_Of.E N) Tryd.prog (callD (effect_Of.E N) Tryd.prog 8) (opsAt (codeAt (bodyOf Tryd.f5) [1, 1, 1, 1, 1, 1, 0])) [] (List.drop 6 (opsAt (codeAt (bodyOf Tryd.f5) [1, 1, 1, 1, 1, 1, 0]))) (St.put ⟨[.ros false 39 (.pair (.pair (.int .i64) (.pair (.pair (.int .i64) (.int .i64)) (.int .i64))) (.pair (.int .i64) (.int .i64))) x0, .agg [.sc (.string x1.1), .sc (.int .i64 x1.2.1), .sc (.int .i64 x1.2.2.1), .sc (.string x1.2.2.2)], .sc (.int .i64 x2), .agg [.sc (.string x3.1), .sc (.int .i64 x3.2.1), .sc (.int .i64 x3.2.2.1), .sc (.int .i64 x3.2.2.2.1), .sc (.int .i64 x3.2.2.2.2.1), .sc (.int .i64 x3.2.2.2.2.2.1), .sc (.int .i64 x3.2.2.2.2.2.2)], .agg [.sc (.int .i64 x4.1), .sc (.int .i64 x4.2)], .any, .ptr 0 0, .any, .ptr 1 0, .ptr 2 0, .sc (.slice none 0 0), .sc (.int .i64 0), .sc (.int .i64 r1), .sc (.int .i64 r2), .sc (.int .i64 r3), .sc (.int .i64 r4), .any, .any, .ros false 39 (.pair (.pair (.int .i64) (.pair (.pair (.int .i64) (.int .i64)) (.int .i64))) (.pair (.int .i64) (.int .i64))) x0, .sc (.int .i64 r1), .sc (.int .i64 r1), .sc (.bool (!(r1 == 0))), .any, .agg [.sc (.string x1.1), .sc (.int .i64 x1.2.1), .sc (.int .i64 x1.2.2.1), .sc (.string x1.2.2.2)], .sc (.int .i64 r2), .sc (.int .i64 r2), .sc (.bool (!(r2 == 0))), .any, .agg [.sc (.string x3.1), .sc (.int .i64 x3.2.1), .sc (.int .i64 x3.2.2.1), .sc (.int .i64 x3.2.2.2.1), .sc (.int .i64 x3.2.2.2.2.1), .sc (.int .i64 x3.2.2.2.2.2.1), .sc (.int .i64 x3.2.2.2.2.2.2)], .sc (.int .i64 r3), .sc (.int .i64 r3), .sc (.bool (!(r3 == 0))), .any, .agg [.sc (.int .i64 x4.1), .sc (.int .i64 x4.2)], .sc (.int .i64 r4), .sc (.int .i64 r4), .sc (.bool (!(r4 == 0))), .any, .sc (.int .i64 x2), .ros false 39 (.pair (.pair (.int .i64) (.pair (.pair (.int .i64) (.int .i64)) (.int .i64))) (.pair (.int .i64) (.int .i64))) x0, .rop false (.pair (.pair (.int .i64) (.pair (.pair (.int .i64) (.int .i64)) (.int .i64))) (.pair (.int .i64) (.int .i64))) (List.getD x0 0 ((0, ((0, 0), 0)), (0, 0))) 0, .rop false (.pair (.pair (.int .i64) (.pair (.pair (.int .i64) (.int .i64)) (.int .i64))) (.pair (.int .i64) (.int .i64))) (List.getD x0 0 ((0, ((0, 0), 0)), (0, 0))) 0, .rop false (.pair (.pair (.int .i64) (.pair (.pair (.int .i64) (.int .i64)) (.int .i64))) (.pair (.int .i64) (.int .i64))) (List.getD x0 0 ((0, ((0, 0), 0)), (0, 0))) 0, .sc (.int .i64 (((List.getD x0 0 ((0, ((0, 0), 0)), (0, 0))).1).1)), .sc (.bool (decide (x2 < (((List.getD x0 0 ((0, ((0, 0), 0)), (0, 0))).1).1)))), .sc (.bool (decide (x2 < (((List.getD x0 0 ((0, ((0, 0), 0)), (0, 0))).1).1)))), .gd (!(decide (x2 < (((List.getD x0 0 ((0, ((0, 0), 0)), (0, 0))).1).1)))) (.sc (.int .i64 x2)), .gd (!(decide (x2 < (((List.getD x0 0 ((0, ((0, 0), 0)), (0, 0))).1).1)))) (.ros false 39 (.pair (.pair (.int .i64) (.pair (.pair (.int .i64) (.int .i64)) (.int .i64))) (.pair (.int .i64) (.int .i64))) x0), .gd (!(decide (x2 < (((List.getD x0 0 ((0, ((0, 0), 0)), (0, 0))).1).1)))) (.ros false 39 (.pair (.pair (.int .i64) (.pair (.pair (.int .i64) (.int .i64)) (.int .i64))) (.pair (.int .i64) (.int .i64))) x0), .gd (!(decide (x2 < (((List.getD x0 0 ((0, ((0, 0), 0)), (0, 0))).1).1)))) (.sc (.int .i64 (x0.length : Int))), .gd (!(decide (x2 < (((List.getD x0 0 ((0, ((0, 0), 0)), (0, 0))).1).1)))) (.sc (.int .i64 (w ((x0.length : Int) - 1)))), .gd (!(decide (x2 < (((List.getD x0 0 ((0, ((0, 0), 0)), (0, 0))).1).1)))) (.rop false (.pair (.pair (.int .i64) (.pair (.pair (.int .i64) (.int .i64)) (.int .i64))) (.pair (.int .i64) (.int .i64))) (List.getD x0 (Int.toNat (w ((x0.length : Int) - 1))) ((0, ((0, 0), 0)), (0, 0))) 0), .gd (!(decide (x2 < (((List.getD x0 0 ((0, ((0, 0), 0)), (0, 0))).1).1)))) (.rop false (.pair (.pair (.int .i64) (.pair (.pair (.int .i64) (.int .i64)) (.int .i64))) (.pair (.int .i64) (.int .i64))) (List.getD x0 (Int.toNat (w ((x0.length : Int) - 1))) ((0, ((0, 0), 0)), (0, 0))) 0), .gd (!(decide (x2 < (((List.getD x0 0 ((0, ((0, 0), 0)), (0, 0))).1).1)))) (.rop false (.pair (.pair (.int .i64) (.pair (.pair (.int .i64) (.int .i64)) (.int .i64))) (.pair (.int .i64) (.int .i64))) (List.getD x0 (Int.toNat (w ((x0.length : Int) - 1))) ((0, ((0, 0), 0)), (0, 0))) 0), .gd (!(decide (x2 < (((List.getD x0 0 ((0, ((0, 0), 0)), (0, 0))).1).1)))) (.sc (.int .i64 (((List.getD x0 (Int.toNat (w ((x0.length : Int) - 1))) ((0, ((0, 0), 0)), (0, 0))).1).1))), .gd (!(decide (x2 < (((List.getD x0 0 ((0, ((0, 0), 0)), (0, 0))).1).1)))) (.sc (.bool (decide (x2 > (((List.getD x0 (Int.toNat (w ((x0.length : Int) - 1))) ((0, ((0, 0), 0)), (0, 0))).1).1))))), .sc (.bool ((decide (x2 < (((List.getD x0 0 ((0, ((0, 0), 0)), (0, 0))).1).1))) || (decide (x2 > (((List.getD x0 (Int.toNat (w ((x0.length : Int) - 1))) ((0, ((0, 0), 0)), (0, 0))).1).1))))), .any, .ros false 39 (.pair (.pair (.int .i64) (.pair (.pair (.int .i64) (.int .i64)) (.int .i64))) (.pair (.int .i64) (.int .i64))) x0, .agg [.sc (.string x1.1), .sc (.int .i64 x1.2.1), .sc (.int .i64 x1.2.2.1), .sc (.string x1.2.2.2)], .sc (.int .i64 x2), .agg [.sc (.string x3.1), .sc (.int .i64 x3.2.1), .sc (.int .i64 x3.2.2.1), .sc (.int .i64 x3.2.2.2.1), .sc (.int .i64 x3.2.2.2.2.1), .sc (.int .i64 x3.2.2.2.2.2.1), .sc (.int .i64 x3.2.2.2.2.2.2)], .agg [.sc (.int .i64 x4.1), .sc (.int .i64 x4.2)], .any, .any, .any, .any, .any, .any, .any, .any, .any, .any], hp⟩ (some 63) (tupOf vs)) (fun S => (seqK (effect_Of.cd N [1, 1, 1, 1, 1, 1, 1]) effect_Of.fin) .normal S))))))) .normal S))))))
noncomputable def effect_Of.l4 (N : Nat) (x0 : List ((Int × (Int × Int) × Int) × Int × Int)) (x1 : ByteArray × Int × Int × ByteArray) (x2 : Int) (x3 : ByteArray × Int × Int × Int × Int × Int × Int) (x4 : Int × Int) (r1 : Int) (r2 : Int) (r3 : Int) (r4 : Int) (r5 : (Int × (Int × Int) × Int) × Int × Int) (a9 : List ((Int × (Int × Int) × Int) × Int × Int)) (r27 : Int) (k28 : Nat) (a29 : Int) (a30 : List ((Int × (Int × Int) × Int) × Int × Int)) : Option (List ((Int × (Int × Int) × Int) × Int × Int) × Int) :=
  loopN (norm ((effect_Of.E N).keep 4) 13) (effect_Of.cd29_6_13 N [1, 1, 1, 0, 1, 0, 0]) k28
  ⟨[.any, .sc (.int .i64 x1.2.2.1), .ptr 13 0, .any, .any, .any, .own 14, .sc (.int .i64 r27), .any, .any, .any, .any, .any, .any, .any, .any, .any, .any, .own 9, .sc (.int .i64 (a9.length : Int)), .sc (.int .i64 a29), .any, .any, .any, .any, .any, .any, .any, .any, .any, .any, .any, .any, .any, .any, .any, .any, .any, .any, .any, .any, .any, .any, .any, .any, .any, .any, .any, .any, .any, .any, .any, .any, .any, .any, .any, .any, .any, .any, .any, .any, .any, .any], [.cells [.sc (.string x1.1), .sc (.int .i64 x1.2.1), .sc (.int .i64 x1.2.2.1), .sc (.string x1.2.2.2)] 25, .cells [.sc (.string x3.1), .sc (.int .i64 x3.2.1), .sc (.int .i64 x3.2.2.1), .sc (.int .i64 x3.2.2.2.1), .sc (.int .i64 x3.2.2.2.2.1), .sc (.int .i64 x3.2.2.2.2.2.1), .sc (.int .i64 x3.2.2.2.2.2.2)] 27, .cells [.sc (.int .i64 x4.1), .sc (.int .i64 x4.2)] 29, .cells [.sc (.string x1.1), .sc (.int .i64 x1.2.1), .sc (.int .i64 x1.2.2.1), .sc (.string x1.2.2.2)] 25, .cells [.sc (.string x3.1), .sc (.int .i64 x3.2.1), .sc (.int .i64 x3.2.2.1), .sc (.int .i64 x3.2.2.2.1), .sc (.int .i64 x3.2.2.2.2.1), .sc (.int .i64 x3.2.2.2.2.2.1), .sc (.int .i64 x3.2.2.2.2.2.2)] 27, .cells [.sc (.int .i64 x4.1), .sc (.int .i64 x4.2)] 29, .cells [.sc (.int .i64 r5.1.1), .sc (.int .i64 r5.1.2.1.1), .sc (.int .i64 r5.1.2.1.2), .sc (.int .i64 r5.1.2.2), .sc (.int .i64 r5.2.1), .sc (.int .i64 r5.2.2), .own 11, .own 9] 61, .cells [.sc (.int .i64 r5.1.1), .sc (.int .i64 r5.1.2.1.1), .sc (.int .i64 r5.1.2.1.2), .sc (.int .i64 r5.1.2.2), .sc (.int .i64 r5.2.1), .sc (.int .i64 r5.2.2), .own 11, .own 9] 61, .dead, .rows true 39 (.pair (.pair (.int .i64) (.pair (.pair (.int .i64) (.int .i64)) (.int .i64))) (.pair (.int .i64) (.int .i64))) a9, .rows true 39 (.pair (.pair (.int .i64) (.pair (.pair (.int .i64) (.int .i64)) (.int .i64))) (.pair (.int .i64) (.int .i64))) [r5], .dead, .cells [.sc (.int .i64 r5.1.1), .sc (.int .i64 r5.1.2.1.1), .sc (.int .i64 r5.1.2.1.2), .sc (.int .i64 r5.1.2.2), .sc (.int .i64 r5.2.1), .sc (.int .i64 r5.2.2), .own 11, .own 9] 61, .cells [.sc (.int .i64 r5.1.1), .sc (.int .i64 r5.1.2.1.1), .sc (.int .i64 r5.1.2.1.2), .sc (.int .i64 r5.1.2.2), .sc (.int .i64 r5.2.1), .sc (.int .i64 r5.2.2), .any, .own 9] 61, .rows true 39 (.pair (.pair (.int .i64) (.pair (.pair (.int .i64) (.int .i64)) (.int .i64))) (.pair (.int .i64) (.int .i64))) a30]⟩
  (blockK 0 (seqK (effect_Of.cd29_6_13 N [1, 1, 1, 1]) (retK Tryd.prog Tryd.f29 (fun vs hp => (reg (effect_Of.E N) Tryd.prog (callD (effect_Of.E N) Tryd.prog 7) (opsAt (codeAt (bodyOf Tryd.f17) [1, 1, 0, 0, 1, 1, 1, 1, 1, 0, 0])) [] (List.drop 4 (opsAt (codeAt (bodyOf Tryd.f17) [1, 1, 0, 0, 1, 1, 1, 1, 1, 0, 0]))) (St.put ⟨[.ros false 39 (.pair (.pair (.int .i64) (.pair (.pair (.int .i64) (.int .i64)) (.int .i64))) (.pair (.int .i64) (.int .i64))) x0, .agg [.sc (.string x1.1), .sc (.int .i64 x1.2.1), .sc (.int .i64 x1.2.2.1), .sc (.string x1.2.2.2)], .sc (.int .i64 x2), .agg [.sc (.string x3.1), .sc (.int .i64 x3.2.1), .sc (.int .i64 x3.2.2.1), .sc (.int .i64 x3.2.2.2.1), .sc (.int .i64 x3.2.2.2.2.1), .sc (.int .i64 x3.2.2.2.2.2.1), .sc (.int .i64 x3.2.2.2.2.2.2)], .agg [.sc (.int .i64 x4.1), .sc (.int .i64 x4.2)], .any, .ptr 3 0, .any, .ptr 4 0, .ptr 5 0, .sc (.slice none 0 0), .sc (.int .i64 0), .ptr 12 0, .ros false 39 (.pair (.pair (.int .i64) (.pair (.pair (.int .i64) (.int .i64)) (.int .i64))) (.pair (.int .i64) (.int .i64))) x0, .sc (.int .i64 x2), .agg [.sc (.int .i64 r5.1.1), .sc (.int .i64 r5.1.2.1.1), .sc (.int .i64 r5.1.2.1.2), .sc (.int .i64 r5.1.2.2), .sc (.int .i64 r5.2.1), .sc (.int .i64 r5.2.2), .own 11, .own 9], .sc (.bool (x1.2.1 == 0)), .ptr 3 1, .sc (.int .i64 x1.2.1), .sc (.bool (x1.2.1 == 0)), .any, .any, .any, .any, .any, .any, .any, .any, .sc (.bool (((a9.length : Int) == 0) || (decide (x1.2.1 > 3)))), .ptr 12 7, .own 9, .sc (.int .i64 (a9.length : Int)), .sc (.bool ((a9.length : Int) == 0)), .sc (.bool ((a9.length : Int) == 0)), .gd (!((a9.length : Int) == 0)) (.ptr 3 1), .gd (!((a9.length : Int) == 0)) (.sc (.int .i64 x1.2.1)), .gd (!((a9.length : Int) == 0)) (.sc (.bool (decide (x1.2.1 > 3)))), .sc (.bool (((a9.length : Int) == 0) || (decide (x1.2.1 > 3)))), .any, .any, .sc (.bool (x1.2.1 == 1)), .ptr 3 1, .sc (.int .i64 x1.2.1), .sc (.bool (x1.2.1 == 1)), .agg [.sc (.int .i64 r5.1.1), .sc (.int .i64 r5.1.2.1.1), .sc (.int .i64 r5.1.2.1.2), .sc (.int .i64 r5.1.2.2), .sc (.int .i64 r5.2.1), .sc (.int .i64 r5.2.2), .own 11, .own 9], .ptr 3 2, .sc (.int .i64 x1.2.2.1), .any, .any, .any, .any, .any, .any, .any, .any, .any, .any, .any, .any, .any, .any, .any, .any, .any, .any, .any], hp⟩ (some 47) (tupOf vs)) (fun S => (seqK (effect_Of.cd17_7_3 N [1, 1, 0, 0, 1, 1, 1, 1, 1, 0, 1]) (blockK 0 (seqK (effect_Of.cd17_7_3 N [1, 1, 1]) (retK Tryd.prog Tryd.f17 (fun vs hp => (reg (effect_Of.E N) Tryd.prog (callD (effect_Of.E N) Tryd.prog 8) (opsAt (codeAt (bodyOf Tryd.f5) [1, 1, 1, 1, 1, 1, 0])) [] (List.drop 6 (opsAt (codeAt (bodyOf Tryd.f5) [1, 1, 1, 1, 1, 1, 0]))) (St.put ⟨[.ros false 39 (.pair (.pair (.int .i64) (.pair (.pair (.int .i64) (.int .i64)) (.int .i64))) (.pair (.int .i64) (.int .i64))) x0, .agg [.sc (.string x1.1), .sc (.int .i64 x1.2.1), .sc (.int .i64 x1.2.2.1), .sc (.string x1.2.2.2)], .sc (.int .i64 x2), .agg [.sc (.string x3.1), .sc (.int .i64 x3.2.1), .sc (.int .i64 x3.2.2.1), .sc (.int .i64 x3.2.2.2.1), .sc (.int .i64 x3.2.2.2.2.1), .sc (.int .i64 x3.2.2.2.2.2.1), .sc (.int .i64 x3.2.2.2.2.2.2)], .agg [.sc (.int .i64 x4.1), .sc (.int .i64 x4.2)], .any, .ptr 0 0, .any, .ptr 1 0, .ptr 2 0, .sc (.slice none 0 0), .sc (.int .i64 0), .sc (.int .i64 r1), .sc (.int .i64 r2), .sc (.int .i64 r3), .sc (.int .i64 r4), .any, .any, .ros false 39 (.pair (.pair (.int .i64) (.pair (.pair (.int .i64) (.int .i64)) (.int .i64))) (.pair (.int .i64) (.int .i64))) x0, .sc (.int .i64 r1), .sc (.int .i64 r1), .sc (.bool (!(r1 == 0))), .any, .agg [.sc (.string x1.1), .sc (.int .i64 x1.2.1), .sc (.int .i64 x1.2.2.1), .sc (.string x1.2.2.2)], .sc (.int .i64 r2), .sc (.int .i64 r2), .sc (.bool (!(r2 == 0))), .any, .agg [.sc (.string x3.1), .sc (.int .i64 x3.2.1), .sc (.int .i64 x3.2.2.1), .sc (.int .i64 x3.2.2.2.1), .sc (.int .i64 x3.2.2.2.2.1), .sc (.int .i64 x3.2.2.2.2.2.1), .sc (.int .i64 x3.2.2.2.2.2.2)], .sc (.int .i64 r3), .sc (.int .i64 r3), .sc (.bool (!(r3 == 0))), .any, .agg [.sc (.int .i64 x4.1), .sc (.int .i64 x4.2)], .sc (.int .i64 r4), .sc (.int .i64 r4), .sc (.bool (!(r4 == 0))), .any, .sc (.int .i64 x2), .ros false 39 (.pair (.pair (.int .i64) (.pair (.pair (.int .i64) (.int .i64)) (.int .i64))) (.pair (.int .i64) (.int .i64))) x0, .rop false (.pair (.pair (.int .i64) (.pair (.pair (.int .i64) (.int .i64)) (.int .i64))) (.pair (.int .i64) (.int .i64))) (List.getD x0 0 ((0, ((0, 0), 0)), (0, 0))) 0, .rop false (.pair (.pair (.int .i64) (.pair (.pair (.int .i64) (.int .i64)) (.int .i64))) (.pair (.int .i64) (.int .i64))) (List.getD x0 0 ((0, ((0, 0), 0)), (0, 0))) 0, .rop false (.pair (.pair (.int .i64) (.pair (.pair (.int .i64) (.int .i64)) (.int .i64))) (.pair (.int .i64) (.int .i64))) (List.getD x0 0 ((0, ((0, 0), 0)), (0, 0))) 0, .sc (.int .i64 (((List.getD x0 0 ((0, ((0, 0), 0)), (0, 0))).1).1)), .sc (.bool (decide (x2 < (((List.getD x0 0 ((0, ((0, 0), 0)), (0, 0))).1).1)))), .sc (.bool (decide (x2 < (((List.getD x0 0 ((0, ((0, 0), 0)), (0, 0))).1).1)))), .gd (!(decide (x2 < (((List.getD x0 0 ((0, ((0, 0), 0)), (0, 0))).1).1)))) (.sc (.int .i64 x2)), .gd (!(decide (x2 < (((List.getD x0 0 ((0, ((0, 0), 0)), (0, 0))).1).1)))) (.ros false 39 (.pair (.pair (.int .i64) (.pair (.pair (.int .i64) (.int .i64)) (.int .i64))) (.pair (.int .i64) (.int .i64))) x0), .gd (!(decide (x2 < (((List.getD x0 0 ((0, ((0, 0), 0)), (0, 0))).1).1)))) (.ros false 39 (.pair (.pair (.int .i64) (.pair (.pair (.int .i64) (.int .i64)) (.int .i64))) (.pair (.int .i64) (.int .i64))) x0), .gd (!(decide (x2 < (((List.getD x0 0 ((0, ((0, 0), 0)), (0, 0))).1).1)))) (.sc (.int .i64 (x0.length : Int))), .gd (!(decide (x2 < (((List.getD x0 0 ((0, ((0, 0), 0)), (0, 0))).1).1)))) (.sc (.int .i64 (w ((x0.length : Int) - 1)))), .gd (!(decide (x2 < (((List.getD x0 0 ((0, ((0, 0), 0)), (0, 0))).1).1)))) (.rop false (.pair (.pair (.int .i64) (.pair (.pair (.int .i64) (.int .i64)) (.int .i64))) (.pair (.int .i64) (.int .i64))) (List.getD x0 (Int.toNat (w ((x0.length : Int) - 1))) ((0, ((0, 0), 0)), (0, 0))) 0), .gd (!(decide (x2 < (((List.getD x0 0 ((0, ((0, 0), 0)), (0, 0))).1).1)))) (.rop false (.pair (.pair (.int .i64) (.pair (.pair (.int .i64) (.int .i64)) (.int .i64))) (.pair (.int .i64) (.int .i64))) (List.getD x0 (Int.toNat (w ((x0.length : Int) - 1))) ((0, ((0, 0), 0)), (0, 0))) 0), .gd (!(decide (x2 < (((List.getD x0 0 ((0, ((0, 0), 0)), (0, 0))).1).1)))) (.rop false (.pair (.pair (.int .i64) (.pair (.pair (.int .i64) (.int .i64)) (.int .i64))) (.pair (.int .i64) (.int .i64))) (List.getD x0 (Int.toNat (w ((x0.length : Int) - 1))) ((0, ((0, 0), 0)), (0, 0))) 0), .gd (!(decide (x2 < (((List.getD x0 0 ((0, ((0, 0), 0)), (0, 0))).1).1)))) (.sc (.int .i64 (((List.getD x0 (Int.toNat (w ((x0.length : Int) - 1))) ((0, ((0, 0), 0)), (0, 0))).1).1))), .gd (!(decide (x2 < (((List.getD x0 0 ((0, ((0, 0), 0)), (0, 0))).1).1)))) (.sc (.bool (decide (x2 > (((List.getD x0 (Int.toNat (w ((x0.length : Int) - 1))) ((0, ((0, 0), 0)), (0, 0))).1).1))))), .sc (.bool ((decide (x2 < (((List.getD x0 0 ((0, ((0, 0), 0)), (0, 0))).1).1))) || (decide (x2 > (((List.getD x0 (Int.toNat (w ((x0.length : Int) - 1))) ((0, ((0, 0), 0)), (0, 0))).1).1))))), .any, .ros false 39 (.pair (.pair (.int .i64) (.pair (.pair (.int .i64) (.int .i64)) (.int .i64))) (.pair (.int .i64) (.int .i64))) x0, .agg [.sc (.string x1.1), .sc (.int .i64 x1.2.1), .sc (.int .i64 x1.2.2.1), .sc (.string x1.2.2.2)], .sc (.int .i64 x2), .agg [.sc (.string x3.1), .sc (.int .i64 x3.2.1), .sc (.int .i64 x3.2.2.1), .sc (.int .i64 x3.2.2.2.1), .sc (.int .i64 x3.2.2.2.2.1), .sc (.int .i64 x3.2.2.2.2.2.1), .sc (.int .i64 x3.2.2.2.2.2.2)], .agg [.sc (.int .i64 x4.1), .sc (.int .i64 x4.2)], .any, .any, .any, .any, .any, .any, .any, .any, .any, .any], hp⟩ (some 63) (tupOf vs)) (fun S => (seqK (effect_Of.cd N [1, 1, 1, 1, 1, 1, 1]) effect_Of.fin) .normal S))))))) .normal S))))))
noncomputable def effect_Of.l5 (N : Nat) (x0 : List ((Int × (Int × Int) × Int) × Int × Int)) (x1 : ByteArray × Int × Int × ByteArray) (x2 : Int) (x3 : ByteArray × Int × Int × Int × Int × Int × Int) (x4 : Int × Int) (r1 : Int) (r2 : Int) (r3 : Int) (r4 : Int) (r5 : (Int × (Int × Int) × Int) × Int × Int) (a9 : List ((Int × (Int × Int) × Int) × Int × Int)) (k34 : Nat) (a35 : Int) (a36 : Int) (a37 : List ((Int × (Int × Int) × Int) × Int × Int)) (a38 : Int) (a39 : Int) : Option (List ((Int × (Int × Int) × Int) × Int × Int) × Int) :=
  loopN (norm ((effect_Of.E N).keep 6) 13) (effect_Of.cd30_6_13 N [1, 1, 1, 1, 0, 1, 0, 0]) k34
  ⟨[.any, .sc (.int .i64 x1.2.2.1), .any, .any, .any, .any, .any, .any, .own 13, .ptr 14 0, .sc (.int .i64 a35), .any, .any, .any, .any, .any, .any, .any, .any, .any, .any, .any, .any, .any, .any, .any, .any, .any, .any, .any, .any, .any, .any, .any, .any, .any, .own 9, .sc (.int .i64 (a9.length : Int)), .sc (.int .i64 a36), .any, .any, .any, .any, .any, .any, .any, .any, .any, .any, .any, .any, .any, .any, .any, .any, .any, .any, .any, .any, .any, .any, .any, .any, .any, .any, .any, .any, .any, .any], [.cells [.sc (.string x1.1), .sc (.int .i64 x1.2.1), .sc (.int .i64 x1.2.2.1), .sc (.string x1.2.2.2)] 25, .cells [.sc (.string x3.1), .sc (.int .i64 x3.2.1), .sc (.int .i64 x3.2.2.1), .sc (.int .i64 x3.2.2.2.1), .sc (.int .i64 x3.2.2.2.2.1), .sc (.int .i64 x3.2.2.2.2.2.1), .sc (.int .i64 x3.2.2.2.2.2.2)] 27, .cells [.sc (.int .i64 x4.1), .sc (.int .i64 x4.2)] 29, .cells [.sc (.string x1.1), .sc (.int .i64 x1.2.1), .sc (.int .i64 x1.2.2.1), .sc (.string x1.2.2.2)] 25, .cells [.sc (.string x3.1), .sc (.int .i64 x3.2.1), .sc (.int .i64 x3.2.2.1), .sc (.int .i64 x3.2.2.2.1), .sc (.int .i64 x3.2.2.2.2.1), .sc (.int .i64 x3.2.2.2.2.2.1), .sc (.int .i64 x3.2.2.2.2.2.2)] 27, .cells [.sc (.int .i64 x4.1), .sc (.int .i64 x4.2)] 29, .cells [.sc (.int .i64 r5.1.1), .sc (.int .i64 r5.1.2.1.1), .sc (.int .i64 r5.1.2.1.2), .sc (.int .i64 r5.1.2.2), .sc (.int .i64 r5.2.1), .sc (.int .i64 r5.2.2), .own 11, .own 9] 61, .cells [.sc (.int .i64 r5.1.1), .sc (.int .i64 r5.1.2.1.1), .sc (.int .i64 r5.1.2.1.2), .sc (.int .i64 r5.1.2.2), .sc (.int .i64 r5.2.1), .sc (.int .i64 r5.2.2), .own 11, .own 9] 61, .dead, .rows true 39 (.pair (.pair (.int .i64) (.pair (.pair (.int .i64) (.int .i64)) (.int .i64))) (.pair (.int .i64) (.int .i64))) a9, .rows true 39 (.pair (.pair (.int .i64) (.pair (.pair (.int .i64) (.int .i64)) (.int .i64))) (.pair (.int .i64) (.int .i64))) [r5], .dead, .cells [.sc (.int .i64 r5.1.1), .sc (.int .i64 r5.1.2.1.1), .sc (.int .i64 r5.1.2.1.2), .sc (.int .i64 r5.1.2.2), .sc (.int .i64 r5.2.1), .sc (.int .i64 r5.2.2), .own 11, .own 9] 61, .rows true 39 (.pair (.pair (.int .i64) (.pair (.pair (.int .i64) (.int .i64)) (.int .i64))) (.pair (.int .i64) (.int .i64))) a37, .cells [.sc (.int .i64 a38), .sc (.int .i64 a39)] 29]⟩
  (blockK 0 (seqK (effect_Of.cd30_6_13 N [1, 1, 1, 1, 1]) (retK Tryd.prog Tryd.f30 (fun vs hp => (reg (effect_Of.E N) Tryd.prog (callD (effect_Of.E N) Tryd.prog 7) (opsAt (codeAt (bodyOf Tryd.f17) [1, 1, 0, 0, 1, 1, 1, 1, 1, 1, 1, 0, 0])) [] (List.drop 5 (opsAt (codeAt (bodyOf Tryd.f17) [1, 1, 0, 0, 1, 1, 1, 1, 1, 1, 1, 0, 0]))) (St.put ⟨[.ros false 39 (.pair (.pair (.int .i64) (.pair (.pair (.int .i64) (.int .i64)) (.int .i64))) (.pair (.int .i64) (.int .i64))) x0, .agg [.sc (.string x1.1), .sc (.int .i64 x1.2.1), .sc (.int .i64 x1.2.2.1), .sc (.string x1.2.2.2)], .sc (.int .i64 x2), .agg [.sc (.string x3.1), .sc (.int .i64 x3.2.1), .sc (.int .i64 x3.2.2.1), .sc (.int .i64 x3.2.2.2.1), .sc (.int .i64 x3.2.2.2.2.1), .sc (.int .i64 x3.2.2.2.2.2.1), .sc (.int .i64 x3.2.2.2.2.2.2)], .agg [.sc (.int .i64 x4.1), .sc (.int .i64 x4.2)], .any, .ptr 3 0, .any, .ptr 4 0, .ptr 5 0, .sc (.slice none 0 0), .sc (.int .i64 0), .ptr 12 0, .ros false 39 (.pair (.pair (.int .i64) (.pair (.pair (.int .i64) (.int .i64)) (.int .i64))) (.pair (.int .i64) (.int .i64))) x0, .sc (.int .i64 x2), .agg [.sc (.int .i64 r5.1.1), .sc (.int .i64 r5.1.2.1.1), .sc (.int .i64 r5.1.2.1.2), .sc (.int .i64 r5.1.2.2), .sc (.int .i64 r5.2.1), .sc (.int .i64 r5.2.2), .own 11, .own 9], .sc (.bool (x1.2.1 == 0)), .ptr 3 1, .sc (.int .i64 x1.2.1), .sc (.bool (x1.2.1 == 0)), .any, .any, .any, .any, .any, .any, .any, .any, .sc (.bool (((a9.length : Int) == 0) || (decide (x1.2.1 > 3)))), .ptr 12 7, .own 9, .sc (.int .i64 (a9.length : Int)), .sc (.bool ((a9.length : Int) == 0)), .sc (.bool ((a9.length : Int) == 0)), .gd (!((a9.length : Int) == 0)) (.ptr 3 1), .gd (!((a9.length : Int) == 0)) (.sc (.int .i64 x1.2.1)), .gd (!((a9.length : Int) == 0)) (.sc (.bool (decide (x1.2.1 > 3)))), .sc (.bool (((a9.length : Int) == 0) || (decide (x1.2.1 > 3)))), .any, .any, .sc (.bool (x1.2.1 == 1)), .ptr 3 1, .sc (.int .i64 x1.2.1), .sc (.bool (x1.2.1 == 1)), .any, .any, .any, .any, .any, .any, .sc (.bool (x1.2.1 == 2)), .ptr 3 1, .sc (.int .i64 x1.2.1), .sc (.bool (x1.2.1 == 2)), .agg [.sc (.int .i64 r5.1.1), .sc (.int .i64 r5.1.2.1.1), .sc (.int .i64 r5.1.2.1.2), .sc (.int .i64 r5.1.2.2), .sc (.int .i64 r5.2.1), .sc (.int .i64 r5.2.2), .own 11, .own 9], .ptr 3 2, .sc (.int .i64 x1.2.2.1), .agg [.sc (.string x3.1), .sc (.int .i64 x3.2.1), .sc (.int .i64 x3.2.2.1), .sc (.int .i64 x3.2.2.2.1), .sc (.int .i64 x3.2.2.2.2.1), .sc (.int .i64 x3.2.2.2.2.2.1), .sc (.int .i64 x3.2.2.2.2.2.2)], .any, .any, .any, .any, .any, .any, .any, .any], hp⟩ (some 58) (tupOf vs)) (fun S => (seqK (effect_Of.cd17_7_3 N [1, 1, 0, 0, 1, 1, 1, 1, 1, 1, 1, 0, 1]) (blockK 0 (seqK (effect_Of.cd17_7_3 N [1, 1, 1]) (retK Tryd.prog Tryd.f17 (fun vs hp => (reg (effect_Of.E N) Tryd.prog (callD (effect_Of.E N) Tryd.prog 8) (opsAt (codeAt (bodyOf Tryd.f5) [1, 1, 1, 1, 1, 1, 0])) [] (List.drop 6 (opsAt (codeAt (bodyOf Tryd.f5) [1, 1, 1, 1, 1, 1, 0]))) (St.put ⟨[.ros false 39 (.pair (.pair (.int .i64) (.pair (.pair (.int .i64) (.int .i64)) (.int .i64))) (.pair (.int .i64) (.int .i64))) x0, .agg [.sc (.string x1.1), .sc (.int .i64 x1.2.1), .sc (.int .i64 x1.2.2.1), .sc (.string x1.2.2.2)], .sc (.int .i64 x2), .agg [.sc (.string x3.1), .sc (.int .i64 x3.2.1), .sc (.int .i64 x3.2.2.1), .sc (.int .i64 x3.2.2.2.1), .sc (.int .i64 x3.2.2.2.2.1), .sc (.int .i64 x3.2.2.2.2.2.1), .sc (.int .i64 x3.2.2.2.2.2.2)], .agg [.sc (.int .i64 x4.1), .sc (.int .i64 x4.2)], .any, .ptr 0 0, .any, .ptr 1 0, .ptr 2 0, .sc (.slice none 0 0), .sc (.int .i64 0), .sc (.int .i64 r1), .sc (.int .i64 r2), .sc (.int .i64 r3), .sc (.int .i64 r4), .any, .any, .ros false 39 (.pair (.pair (.int .i64) (.pair (.pair (.int .i64) (.int .i64)) (.int .i64))) (.pair (.int .i64) (.int .i64))) x0, .sc (.int .i64 r1), .sc (.int .i64 r1), .sc (.bool (!(r1 == 0))), .any, .agg [.sc (.string x1.1), .sc (.int .i64 x1.2.1), .sc (.int .i64 x1.2.2.1), .sc (.string x1.2.2.2)], .sc (.int .i64 r2), .sc (.int .i64 r2), .sc (.bool (!(r2 == 0))), .any, .agg [.sc (.string x3.1), .sc (.int .i64 x3.2.1), .sc (.int .i64 x3.2.2.1), .sc (.int .i64 x3.2.2.2.1), .sc (.int .i64 x3.2.2.2.2.1), .sc (.int .i64 x3.2.2.2.2.2.1), .sc (.int .i64 x3.2.2.2.2.2.2)], .sc (.int .i64 r3), .sc (.int .i64 r3), .sc (.bool (!(r3 == 0))), .any, .agg [.sc (.int .i64 x4.1), .sc (.int .i64 x4.2)], .sc (.int .i64 r4), .sc (.int .i64 r4), .sc (.bool (!(r4 == 0))), .any, .sc (.int .i64 x2), .ros false 39 (.pair (.pair (.int .i64) (.pair (.pair (.int .i64) (.int .i64)) (.int .i64))) (.pair (.int .i64) (.int .i64))) x0, .rop false (.pair (.pair (.int .i64) (.pair (.pair (.int .i64) (.int .i64)) (.int .i64))) (.pair (.int .i64) (.int .i64))) (List.getD x0 0 ((0, ((0, 0), 0)), (0, 0))) 0, .rop false (.pair (.pair (.int .i64) (.pair (.pair (.int .i64) (.int .i64)) (.int .i64))) (.pair (.int .i64) (.int .i64))) (List.getD x0 0 ((0, ((0, 0), 0)), (0, 0))) 0, .rop false (.pair (.pair (.int .i64) (.pair (.pair (.int .i64) (.int .i64)) (.int .i64))) (.pair (.int .i64) (.int .i64))) (List.getD x0 0 ((0, ((0, 0), 0)), (0, 0))) 0, .sc (.int .i64 (((List.getD x0 0 ((0, ((0, 0), 0)), (0, 0))).1).1)), .sc (.bool (decide (x2 < (((List.getD x0 0 ((0, ((0, 0), 0)), (0, 0))).1).1)))), .sc (.bool (decide (x2 < (((List.getD x0 0 ((0, ((0, 0), 0)), (0, 0))).1).1)))), .gd (!(decide (x2 < (((List.getD x0 0 ((0, ((0, 0), 0)), (0, 0))).1).1)))) (.sc (.int .i64 x2)), .gd (!(decide (x2 < (((List.getD x0 0 ((0, ((0, 0), 0)), (0, 0))).1).1)))) (.ros false 39 (.pair (.pair (.int .i64) (.pair (.pair (.int .i64) (.int .i64)) (.int .i64))) (.pair (.int .i64) (.int .i64))) x0), .gd (!(decide (x2 < (((List.getD x0 0 ((0, ((0, 0), 0)), (0, 0))).1).1)))) (.ros false 39 (.pair (.pair (.int .i64) (.pair (.pair (.int .i64) (.int .i64)) (.int .i64))) (.pair (.int .i64) (.int .i64))) x0), .gd (!(decide (x2 < (((List.getD x0 0 ((0, ((0, 0), 0)), (0, 0))).1).1)))) (.sc (.int .i64 (x0.length : Int))), .gd (!(decide (x2 < (((List.getD x0 0 ((0, ((0, 0), 0)), (0, 0))).1).1)))) (.sc (.int .i64 (w ((x0.length : Int) - 1)))), .gd (!(decide (x2 < (((List.getD x0 0 ((0, ((0, 0), 0)), (0, 0))).1).1)))) (.rop false (.pair (.pair (.int .i64) (.pair (.pair (.int .i64) (.int .i64)) (.int .i64))) (.pair (.int .i64) (.int .i64))) (List.getD x0 (Int.toNat (w ((x0.length : Int) - 1))) ((0, ((0, 0), 0)), (0, 0))) 0), .gd (!(decide (x2 < (((List.getD x0 0 ((0, ((0, 0), 0)), (0, 0))).1).1)))) (.rop false (.pair (.pair (.int .i64) (.pair (.pair (.int .i64) (.int .i64)) (.int .i64))) (.pair (.int .i64) (.int .i64))) (List.getD x0 (Int.toNat (w ((x0.length : Int) - 1))) ((0, ((0, 0), 0)), (0, 0))) 0), .gd (!(decide (x2 < (((List.getD x0 0 ((0, ((0, 0), 0)), (0, 0))).1).1)))) (.rop false (.pair (.pair (.int .i64) (.pair (.pair (.int .i64) (.int .i64)) (.int .i64))) (.pair (.int .i64) (.int .i64))) (List.getD x0 (Int.toNat (w ((x0.length : Int) - 1))) ((0, ((0, 0), 0)), (0, 0))) 0), .gd (!(decide (x2 < (((List.getD x0 0 ((0, ((0, 0), 0)), (0, 0))).1).1)))) (.sc (.int .i64 (((List.getD x0 (Int.toNat (w ((x0.length : Int) - 1))) ((0, ((0, 0), 0)), (0, 0))).1).1))), .gd (!(decide (x2 < (((List.getD x0 0 ((0, ((0, 0), 0)), (0, 0))).1).1)))) (.sc (.bool (decide (x2 > (((List.getD x0 (Int.toNat (w ((x0.length : Int) - 1))) ((0, ((0, 0), 0)), (0, 0))).1).1))))), .sc (.bool ((decide (x2 < (((List.getD x0 0 ((0, ((0, 0), 0)), (0, 0))).1).1))) || (decide (x2 > (((List.getD x0 (Int.toNat (w ((x0.length : Int) - 1))) ((0, ((0, 0), 0)), (0, 0))).1).1))))), .any, .ros false 39 (.pair (.pair (.int .i64) (.pair (.pair (.int .i64) (.int .i64)) (.int .i64))) (.pair (.int .i64) (.int .i64))) x0, .agg [.sc (.string x1.1), .sc (.int .i64 x1.2.1), .sc (.int .i64 x1.2.2.1), .sc (.string x1.2.2.2)], .sc (.int .i64 x2), .agg [.sc (.string x3.1), .sc (.int .i64 x3.2.1), .sc (.int .i64 x3.2.2.1), .sc (.int .i64 x3.2.2.2.1), .sc (.int .i64 x3.2.2.2.2.1), .sc (.int .i64 x3.2.2.2.2.2.1), .sc (.int .i64 x3.2.2.2.2.2.2)], .agg [.sc (.int .i64 x4.1), .sc (.int .i64 x4.2)], .any, .any, .any, .any, .any, .any, .any, .any, .any, .any], hp⟩ (some 63) (tupOf vs)) (fun S => (seqK (effect_Of.cd N [1, 1, 1, 1, 1, 1, 1]) effect_Of.fin) .normal S))))))) .normal S))))))
theorem effect_Of.l5_zero (N : Nat) (x0 : List ((Int × (Int × Int) × Int) × Int × Int)) (x1 : ByteArray × Int × Int × ByteArray) (x2 : Int) (x3 : ByteArray × Int × Int × Int × Int × Int × Int) (x4 : Int × Int) (r1 : Int) (r2 : Int) (r3 : Int) (r4 : Int) (r5 : (Int × (Int × Int) × Int) × Int × Int) (a9 : List ((Int × (Int × Int) × Int) × Int × Int)) (a35 : Int) (a36 : Int) (a37 : List ((Int × (Int × Int) × Int) × Int × Int)) (a38 : Int) (a39 : Int) : effect_Of.l5 N x0 x1 x2 x3 x4 r1 r2 r3 r4 r5 a9 0 a35 a36 a37 a38 a39 = none := by kernel_rfl
theorem effect_Of.l5_succ (N : Nat) (x0 : List ((Int × (Int × Int) × Int) × Int × Int)) (x1 : ByteArray × Int × Int × ByteArray) (x2 : Int) (x3 : ByteArray × Int × Int × Int × Int × Int × Int) (x4 : Int × Int) (r1 : Int) (r2 : Int) (r3 : Int) (r4 : Int) (r5 : (Int × (Int × Int) × Int) × Int × Int) (a9 : List ((Int × (Int × Int) × Int) × Int × Int)) (k34 : Nat) (a35 : Int) (a36 : Int) (a37 : List ((Int × (Int × Int) × Int) × Int × Int)) (a38 : Int) (a39 : Int) : effect_Of.l5 N x0 x1 x2 x3 x4 r1 r2 r3 r4 r5 a9 (k34 + 1) a35 a36 a37 a38 a39 =
    bif decide (a36 < (a9.length : Int)) then
      bif (decide (0 ≤ a36)) && (decide (a36 < (a9.length : Int))) then
        bif decide ((Int.toNat a36) < a9.length) then
          (plane_Distance.fn N ((a38, a39), (((List.getD a9 (Int.toNat a36) ((0, ((0, 0), 0)), (0, 0))).1).2).1)).bind fun r40 =>
          (effect_up.fn N (r40.2, x1.2.2.1)).bind fun r41 =>
          bif decide ((w (a35 + r41)) > 200000) then
            some ([], 12)
          else
          bif decide ((a37.length + 1) * 48 ≤ 140737488355328) && decide ((a37.length + 1) ≤ maxLen) then
            effect_Of.l5 N x0 x1 x2 x3 x4 r1 r2 r3 r4 r5 a9 k34 (w (a35 + r41)) (w (a36 + 1)) (a37 ++ [(((w (a35 + r41)), ((List.getD a9 (Int.toNat a36) ((0, ((0, 0), 0)), (0, 0))).1).2), (List.getD a9 (Int.toNat a36) ((0, ((0, 0), 0)), (0, 0))).2)]) (((((List.getD a9 (Int.toNat a36) ((0, ((0, 0), 0)), (0, 0))).1).2).1).1) (((((List.getD a9 (Int.toNat a36) ((0, ((0, 0), 0)), (0, 0))).1).2).1).2)
          else
            none
        else
          none
      else
        none
    else
    bif decide ((a37.length : Int) > 64) then
      some ([], 2)
    else
      some (a37, 0) := by kernel_rfl
theorem effect_Of.l4_zero (N : Nat) (x0 : List ((Int × (Int × Int) × Int) × Int × Int)) (x1 : ByteArray × Int × Int × ByteArray) (x2 : Int) (x3 : ByteArray × Int × Int × Int × Int × Int × Int) (x4 : Int × Int) (r1 : Int) (r2 : Int) (r3 : Int) (r4 : Int) (r5 : (Int × (Int × Int) × Int) × Int × Int) (a9 : List ((Int × (Int × Int) × Int) × Int × Int)) (r27 : Int) (a29 : Int) (a30 : List ((Int × (Int × Int) × Int) × Int × Int)) : effect_Of.l4 N x0 x1 x2 x3 x4 r1 r2 r3 r4 r5 a9 r27 0 a29 a30 = none := by kernel_rfl
theorem effect_Of.l4_succ (N : Nat) (x0 : List ((Int × (Int × Int) × Int) × Int × Int)) (x1 : ByteArray × Int × Int × ByteArray) (x2 : Int) (x3 : ByteArray × Int × Int × Int × Int × Int × Int) (x4 : Int × Int) (r1 : Int) (r2 : Int) (r3 : Int) (r4 : Int) (r5 : (Int × (Int × Int) × Int) × Int × Int) (a9 : List ((Int × (Int × Int) × Int) × Int × Int)) (r27 : Int) (k28 : Nat) (a29 : Int) (a30 : List ((Int × (Int × Int) × Int) × Int × Int)) : effect_Of.l4 N x0 x1 x2 x3 x4 r1 r2 r3 r4 r5 a9 r27 (k28 + 1) a29 a30 =
    bif decide (a29 < (a9.length : Int)) then
      bif (decide (0 ≤ a29)) && (decide (a29 < (a9.length : Int))) then
        bif decide ((Int.toNat a29) < a9.length) then
          (angle_Vector.fn N (x1.2.2.1, (w (r27 * (w ((((List.getD a9 (Int.toNat a29) ((0, ((0, 0), 0)), (0, 0))).1).1) - r5.1.1)))))).bind fun r31 =>
          bif !(r31.2 == 0) then
            bif !(r31.2 == 0) then
              some ([], r31.2)
            else
              some ([], 0)
          else
            (plane_Add.fn N (r5.1.2.1, r31.1)).bind fun r32 =>
            (plane_Check.fn N r32).bind fun r33 =>
            bif !(r33 == 0) then
              bif !(r33 == 0) then
                some ([], r33)
              else
                some ([], 0)
            else
            bif decide ((a30.length + 1) * 48 ≤ 140737488355328) && decide ((a30.length + 1) ≤ maxLen) then
              effect_Of.l4 N x0 x1 x2 x3 x4 r1 r2 r3 r4 r5 a9 r27 k28 (w (a29 + 1)) (a30 ++ [((((List.getD a9 (Int.toNat a29) ((0, ((0, 0), 0)), (0, 0))).1).1, (r32, (((List.getD a9 (Int.toNat a29) ((0, ((0, 0), 0)), (0, 0))).1).2).2)), (List.getD a9 (Int.toNat a29) ((0, ((0, 0), 0)), (0, 0))).2)])
            else
              none
        else
          none
      else
        none
    else
    bif decide ((a30.length : Int) > 64) then
      some ([], 2)
    else
      some (a30, 0) := by kernel_rfl
theorem effect_Of.l3_zero (N : Nat) (x0 : List ((Int × (Int × Int) × Int) × Int × Int)) (x1 : ByteArray × Int × Int × ByteArray) (x2 : Int) (x3 : ByteArray × Int × Int × Int × Int × Int × Int) (x4 : Int × Int) (r1 : Int) (r2 : Int) (r3 : Int) (r4 : Int) (r5 : (Int × (Int × Int) × Int) × Int × Int) (a9 : List ((Int × (Int × Int) × Int) × Int × Int)) (r10 : Int × Int) (a23 : Int) (a24 : List ((Int × (Int × Int) × Int) × Int × Int)) : effect_Of.l3 N x0 x1 x2 x3 x4 r1 r2 r3 r4 r5 a9 r10 0 a23 a24 = none := by kernel_rfl
theorem effect_Of.l3_succ (N : Nat) (x0 : List ((Int × (Int × Int) × Int) × Int × Int)) (x1 : ByteArray × Int × Int × ByteArray) (x2 : Int) (x3 : ByteArray × Int × Int × Int × Int × Int × Int) (x4 : Int × Int) (r1 : Int) (r2 : Int) (r3 : Int) (r4 : Int) (r5 : (Int × (Int × Int) × Int) × Int × Int) (a9 : List ((Int × (Int × Int) × Int) × Int × Int)) (r10 : Int × Int) (k22 : Nat) (a23 : Int) (a24 : List ((Int × (Int × Int) × Int) × Int × Int)) : effect_Of.l3 N x0 x1 x2 x3 x4 r1 r2 r3 r4 r5 a9 r10 (k22 + 1) a23 a24 =
    bif decide (a23 < (a9.length : Int)) then
      bif (decide (0 ≤ a23)) && (decide (a23 < (a9.length : Int))) then
        bif decide ((Int.toNat a23) < a9.length) then
          bif decide ((((List.getD a9 (Int.toNat a23) ((0, ((0, 0), 0)), (0, 0))).1).1) < (w (r5.1.1 + r10.1))) then
            (effect_down.fn N ((w ((w (x1.2.2.1 - r5.1.2.2)) * (w ((((List.getD a9 (Int.toNat a23) ((0, ((0, 0), 0)), (0, 0))).1).1) - r5.1.1)))), r10.1)).bind fun r25 =>
            bif decide ((a24.length + 1) * 48 ≤ 140737488355328) && decide ((a24.length + 1) ≤ maxLen) then
              effect_Of.l3 N x0 x1 x2 x3 x4 r1 r2 r3 r4 r5 a9 r10 k22 (w (a23 + 1)) (a24 ++ [((((List.getD a9 (Int.toNat a23) ((0, ((0, 0), 0)), (0, 0))).1).1, ((((List.getD a9 (Int.toNat a23) ((0, ((0, 0), 0)), (0, 0))).1).2).1, (w (r5.1.2.2 + r25)))), (List.getD a9 (Int.toNat a23) ((0, ((0, 0), 0)), (0, 0))).2)])
            else
              none
          else
          bif decide ((a24.length + 1) * 48 ≤ 140737488355328) && decide ((a24.length + 1) ≤ maxLen) then
            effect_Of.l3 N x0 x1 x2 x3 x4 r1 r2 r3 r4 r5 a9 r10 k22 (w (a23 + 1)) (a24 ++ [((((List.getD a9 (Int.toNat a23) ((0, ((0, 0), 0)), (0, 0))).1).1, ((((List.getD a9 (Int.toNat a23) ((0, ((0, 0), 0)), (0, 0))).1).2).1, x1.2.2.1)), (List.getD a9 (Int.toNat a23) ((0, ((0, 0), 0)), (0, 0))).2)])
          else
            none
        else
          none
      else
        none
    else
    bif decide ((a24.length : Int) > 64) then
      some ([], 2)
    else
      some (a24, 0) := by kernel_rfl
theorem effect_Of.l2_zero (N : Nat) (x0 : List ((Int × (Int × Int) × Int) × Int × Int)) (x1 : ByteArray × Int × Int × ByteArray) (x2 : Int) (x3 : ByteArray × Int × Int × Int × Int × Int × Int) (x4 : Int × Int) (r1 : Int) (r2 : Int) (r3 : Int) (r4 : Int) (r5 : (Int × (Int × Int) × Int) × Int × Int) (a9 : List ((Int × (Int × Int) × Int) × Int × Int)) (r10 : Int × Int) (a12 : Int) (r16 : List ((Int × (Int × Int) × Int) × Int × Int)) (r17 : (Int × (Int × Int) × Int) × Int × Int) (a19 : Int) (a20 : List ((Int × (Int × Int) × Int) × Int × Int)) : effect_Of.l2 N x0 x1 x2 x3 x4 r1 r2 r3 r4 r5 a9 r10 a12 r16 r17 0 a19 a20 = none := by kernel_rfl
theorem effect_Of.l2_succ (N : Nat) (x0 : List ((Int × (Int × Int) × Int) × Int × Int)) (x1 : ByteArray × Int × Int × ByteArray) (x2 : Int) (x3 : ByteArray × Int × Int × Int × Int × Int × Int) (x4 : Int × Int) (r1 : Int) (r2 : Int) (r3 : Int) (r4 : Int) (r5 : (Int × (Int × Int) × Int) × Int × Int) (a9 : List ((Int × (Int × Int) × Int) × Int × Int)) (r10 : Int × Int) (a12 : Int) (r16 : List ((Int × (Int × Int) × Int) × Int × Int)) (r17 : (Int × (Int × Int) × Int) × Int × Int) (k18 : Nat) (a19 : Int) (a20 : List ((Int × (Int × Int) × Int) × Int × Int)) : effect_Of.l2 N x0 x1 x2 x3 x4 r1 r2 r3 r4 r5 a9 r10 a12 r16 r17 (k18 + 1) a19 a20 =
    bif decide (a19 < (((List.take (Int.toNat a12) r16) ++ [r17] ++ (List.drop (Int.toNat a12) r16)).length : Int)) then
      bif (decide (0 ≤ a19)) && (decide (a19 < (((List.take (Int.toNat a12) r16) ++ [r17] ++ (List.drop (Int.toNat a12) r16)).length : Int))) then
        bif decide ((Int.toNat a19) < ((List.take (Int.toNat a12) r16) ++ [r17] ++ (List.drop (Int.toNat a12) r16)).length) then
          bif decide ((((List.getD ((List.take (Int.toNat a12) r16) ++ [r17] ++ (List.drop (Int.toNat a12) r16)) (Int.toNat a19) ((0, ((0, 0), 0)), (0, 0))).1).1) < (w (r5.1.1 + r10.1))) then
            (effect_down.fn N ((w ((w (x1.2.2.1 - r5.1.2.2)) * (w ((((List.getD ((List.take (Int.toNat a12) r16) ++ [r17] ++ (List.drop (Int.toNat a12) r16)) (Int.toNat a19) ((0, ((0, 0), 0)), (0, 0))).1).1) - r5.1.1)))), r10.1)).bind fun r21 =>
            bif decide ((a20.length + 1) * 48 ≤ 140737488355328) && decide ((a20.length + 1) ≤ maxLen) then
              effect_Of.l2 N x0 x1 x2 x3 x4 r1 r2 r3 r4 r5 a9 r10 a12 r16 r17 k18 (w (a19 + 1)) (a20 ++ [((((List.getD ((List.take (Int.toNat a12) r16) ++ [r17] ++ (List.drop (Int.toNat a12) r16)) (Int.toNat a19) ((0, ((0, 0), 0)), (0, 0))).1).1, ((((List.getD ((List.take (Int.toNat a12) r16) ++ [r17] ++ (List.drop (Int.toNat a12) r16)) (Int.toNat a19) ((0, ((0, 0), 0)), (0, 0))).1).2).1, (w (r5.1.2.2 + r21)))), (List.getD ((List.take (Int.toNat a12) r16) ++ [r17] ++ (List.drop (Int.toNat a12) r16)) (Int.toNat a19) ((0, ((0, 0), 0)), (0, 0))).2)])
            else
              none
          else
          bif decide ((a20.length + 1) * 48 ≤ 140737488355328) && decide ((a20.length + 1) ≤ maxLen) then
            effect_Of.l2 N x0 x1 x2 x3 x4 r1 r2 r3 r4 r5 a9 r10 a12 r16 r17 k18 (w (a19 + 1)) (a20 ++ [((((List.getD ((List.take (Int.toNat a12) r16) ++ [r17] ++ (List.drop (Int.toNat a12) r16)) (Int.toNat a19) ((0, ((0, 0), 0)), (0, 0))).1).1, ((((List.getD ((List.take (Int.toNat a12) r16) ++ [r17] ++ (List.drop (Int.toNat a12) r16)) (Int.toNat a19) ((0, ((0, 0), 0)), (0, 0))).1).2).1, x1.2.2.1)), (List.getD ((List.take (Int.toNat a12) r16) ++ [r17] ++ (List.drop (Int.toNat a12) r16)) (Int.toNat a19) ((0, ((0, 0), 0)), (0, 0))).2)])
          else
            none
        else
          none
      else
        none
    else
    bif decide ((a20.length : Int) > 64) then
      some ([], 2)
    else
      some (a20, 0) := by kernel_rfl
theorem effect_Of.l1_zero (N : Nat) (x0 : List ((Int × (Int × Int) × Int) × Int × Int)) (x1 : ByteArray × Int × Int × ByteArray) (x2 : Int) (x3 : ByteArray × Int × Int × Int × Int × Int × Int) (x4 : Int × Int) (r1 : Int) (r2 : Int) (r3 : Int) (r4 : Int) (r5 : (Int × (Int × Int) × Int) × Int × Int) (a8 : List ((Int × (Int × Int) × Int) × Int × Int)) (a9 : List ((Int × (Int × Int) × Int) × Int × Int)) (r10 : Int × Int) (a12 : Int) (a13 : Int) : effect_Of.l1 N x0 x1 x2 x3 x4 r1 r2 r3 r4 r5 a8 a9 r10 0 a12 a13 = none := by kernel_rfl
theorem effect_Of.l1_succ (N : Nat) (x0 : List ((Int × (Int × Int) × Int) × Int × Int)) (x1 : ByteArray × Int × Int × ByteArray) (x2 : Int) (x3 : ByteArray × Int × Int × Int × Int × Int × Int) (x4 : Int × Int) (r1 : Int) (r2 : Int) (r3 : Int) (r4 : Int) (r5 : (Int × (Int × Int) × Int) × Int × Int) (a8 : List ((Int × (Int × Int) × Int) × Int × Int)) (a9 : List ((Int × (Int × Int) × Int) × Int × Int)) (r10 : Int × Int) (k11 : Nat) (a12 : Int) (a13 : Int) : effect_Of.l1 N x0 x1 x2 x3 x4 r1 r2 r3 r4 r5 a8 a9 r10 (k11 + 1) a12 a13 =
    bif decide (a12 < a13) then
      bif (decide (0 ≤ (w (shrI .u64 (IntKind.wrap .u64 (w (a12 + a13))) 1)))) && (decide ((w (shrI .u64 (IntKind.wrap .u64 (w (a12 + a13))) 1)) < (a9.length : Int))) then
        bif decide ((Int.toNat (w (shrI .u64 (IntKind.wrap .u64 (w (a12 + a13))) 1))) < a9.length) then
          (effect_course_climb_1.fn N (List.getD a9 (Int.toNat (w (shrI .u64 (IntKind.wrap .u64 (w (a12 + a13))) 1))) ((0, ((0, 0), 0)), (0, 0)), (w (r5.1.1 + r10.1)))).bind fun r14 =>
          bif decide (r14 < 0) then
            effect_Of.l1 N x0 x1 x2 x3 x4 r1 r2 r3 r4 r5 a8 a9 r10 k11 (w ((w (shrI .u64 (IntKind.wrap .u64 (w (a12 + a13))) 1)) + 1)) a13
          else
            effect_Of.l1 N x0 x1 x2 x3 x4 r1 r2 r3 r4 r5 a8 a9 r10 k11 a12 (w (shrI .u64 (IntKind.wrap .u64 (w (a12 + a13))) 1))
        else
          none
      else
        none
    else
    bif !(decide (a12 < (a9.length : Int))) || (decide (a12 < (a9.length : Int))) then
      bif !(decide (a12 < (a9.length : Int))) || (decide (a12 < (a9.length : Int))) then
        bif ((decide (0 ≤ a12)) && (decide (a12 < (a9.length : Int)))) || !(decide (a12 < (a9.length : Int))) then
          bif !(decide (a12 < (a9.length : Int))) || (decide (a12 < (a9.length : Int))) then
            bif (decide ((Int.toNat a12) < a9.length)) || !(decide (a12 < (a9.length : Int))) then
              bif !(decide (a12 < (a9.length : Int))) || (decide (a12 < (a9.length : Int))) then
                bif !(decide (a12 < (a9.length : Int))) || (decide (a12 < (a9.length : Int))) then
                  bif !(decide (a12 < (a9.length : Int))) || (decide (a12 < (a9.length : Int))) then
                    (bif (decide (a12 < (a9.length : Int))) then effect_course_climb_1.fn N (List.getD a9 (Int.toNat a12) ((0, ((0, 0), 0)), (0, 0)), (w (r5.1.1 + r10.1))) else some (0)).bind fun r15 =>
                    bif !(decide (a12 < (a9.length : Int))) || (decide (a12 < (a9.length : Int))) then
                      bif (!(decide (a12 < (a9.length : Int)))) || (decide (a12 < (a9.length : Int))) then
                        bif !(!((decide (a12 < (a9.length : Int))) && (r15 == 0))) || (!((decide (a12 < (a9.length : Int))) && (r15 == 0))) then
                          bif !(!((decide (a12 < (a9.length : Int))) && (r15 == 0))) || (!((decide (a12 < (a9.length : Int))) && (r15 == 0))) then
                            bif !(!((decide (a12 < (a9.length : Int))) && (r15 == 0))) || (!((decide (a12 < (a9.length : Int))) && (r15 == 0))) then
                              bif (!(!((decide (a12 < (a9.length : Int))) && (r15 == 0)))) || (!((decide (a12 < (a9.length : Int))) && (r15 == 0))) then
                                bif !((!((decide (a12 < (a9.length : Int))) && (r15 == 0))) && (decide (a12 < (a9.length : Int)))) || ((!((decide (a12 < (a9.length : Int))) && (r15 == 0))) && (decide (a12 < (a9.length : Int)))) then
                                  bif (!((!((decide (a12 < (a9.length : Int))) && (r15 == 0))) && (decide (a12 < (a9.length : Int))))) || ((!((decide (a12 < (a9.length : Int))) && (r15 == 0))) && (decide (a12 < (a9.length : Int)))) then
                                    bif ((!((decide (a12 < (a9.length : Int))) && (r15 == 0))) && (decide (a12 < (a9.length : Int)))) && (decide (r10.1 > 0)) then
                                      (slices_Clone_TubeNode.fn N a9).bind fun r16 =>
                                      (tube_Point.fn N (x0, (w (r5.1.1 + r10.1)))).bind fun r17 =>
                                      bif (decide (0 ≤ a12)) && (decide (a12 ≤ (r16.length : Int))) then
                                        bif decide ((r16.length + 1) * 48 ≤ 140737488355328) && decide (r16.length + 1 ≤ maxLen) then
                                          effect_Of.l2 N x0 x1 x2 x3 x4 r1 r2 r3 r4 r5 a9 r10 a12 r16 r17 N 0 (a8 ++ [r5])
                                        else
                                          none
                                      else
                                        none
                                    else
                                      effect_Of.l3 N x0 x1 x2 x3 x4 r1 r2 r3 r4 r5 a9 r10 N 0 (a8 ++ [r5])
                                  else
                                    none
                                else
                                  none
                              else
                                none
                            else
                              none
                          else
                            none
                        else
                          none
                      else
                        none
                    else
                      none
                  else
                    none
                else
                  none
              else
                none
            else
              none
          else
            none
        else
          none
      else
        none
    else
      none := by kernel_rfl
theorem effect_Of.l0_zero (N : Nat) (x0 : List ((Int × (Int × Int) × Int) × Int × Int)) (x1 : ByteArray × Int × Int × ByteArray) (x2 : Int) (x3 : ByteArray × Int × Int × Int × Int × Int × Int) (x4 : Int × Int) (r1 : Int) (r2 : Int) (r3 : Int) (r4 : Int) (r5 : (Int × (Int × Int) × Int) × Int × Int) (a7 : Int) (a8 : List ((Int × (Int × Int) × Int) × Int × Int)) (a9 : List ((Int × (Int × Int) × Int) × Int × Int)) : effect_Of.l0 N x0 x1 x2 x3 x4 r1 r2 r3 r4 r5 0 a7 a8 a9 = none := by kernel_rfl
theorem effect_Of.l0_succ (N : Nat) (x0 : List ((Int × (Int × Int) × Int) × Int × Int)) (x1 : ByteArray × Int × Int × ByteArray) (x2 : Int) (x3 : ByteArray × Int × Int × Int × Int × Int × Int) (x4 : Int × Int) (r1 : Int) (r2 : Int) (r3 : Int) (r4 : Int) (r5 : (Int × (Int × Int) × Int) × Int × Int) (k6 : Nat) (a7 : Int) (a8 : List ((Int × (Int × Int) × Int) × Int × Int)) (a9 : List ((Int × (Int × Int) × Int) × Int × Int)) : effect_Of.l0 N x0 x1 x2 x3 x4 r1 r2 r3 r4 r5 (k6 + 1) a7 a8 a9 =
    bif decide (a7 < (x0.length : Int)) then
      bif (decide (0 ≤ a7)) && (decide (a7 < (x0.length : Int))) then
        bif decide ((((List.getD x0 (Int.toNat a7) ((0, ((0, 0), 0)), (0, 0))).1).1) < x2) then
          bif decide ((a8.length + 1) * 48 ≤ 140737488355328) && decide ((a8.length + 1) ≤ maxLen) then
            effect_Of.l0 N x0 x1 x2 x3 x4 r1 r2 r3 r4 r5 k6 (w (a7 + 1)) (a8 ++ [List.getD x0 (Int.toNat a7) ((0, ((0, 0), 0)), (0, 0))]) a9
          else
            none
        else
        bif decide ((((List.getD x0 (Int.toNat a7) ((0, ((0, 0), 0)), (0, 0))).1).1) > x2) then
          bif decide ((a9.length + 1) * 48 ≤ 140737488355328) && decide ((a9.length + 1) ≤ maxLen) then
            effect_Of.l0 N x0 x1 x2 x3 x4 r1 r2 r3 r4 r5 k6 (w (a7 + 1)) a8 (a9 ++ [List.getD x0 (Int.toNat a7) ((0, ((0, 0), 0)), (0, 0))])
          else
            none
        else
          effect_Of.l0 N x0 x1 x2 x3 x4 r1 r2 r3 r4 r5 k6 (w (a7 + 1)) a8 a9
      else
        none
    else
    bif decide ((a8.length + 1) * 48 ≤ 140737488355328) && decide ((a8.length + 1) ≤ maxLen) then
      bif x1.2.1 == 0 then
        (aircraft_Climb.fn N (x3, r5.1.2.2, x1.2.2.1)).bind fun r10 =>
        bif !(r10.2 == 0) then
          bif !(r10.2 == 0) then
            some ([], r10.2)
          else
            some ([], 0)
        else
          effect_Of.l1 N x0 x1 x2 x3 x4 r1 r2 r3 r4 r5 a8 a9 r10 N 0 (a9.length : Int)
      else
      bif !(!((a9.length : Int) == 0)) || (!((a9.length : Int) == 0)) then
        bif !(!((a9.length : Int) == 0)) || (!((a9.length : Int) == 0)) then
          bif ((a9.length : Int) == 0) || (!((a9.length : Int) == 0)) then
            bif ((a9.length : Int) == 0) || (decide (x1.2.1 > 3)) then
              (slices_Clone_TubeNode.fn N x0).bind fun r26 =>
              bif decide ((r26.length : Int) > 64) then
                some ([], 2)
              else
                some (r26, 0)
            else
            bif x1.2.1 == 1 then
              (effect_course_speed.fn N (r5, ((a8 ++ [r5]), a9))).bind fun r27 =>
              effect_Of.l4 N x0 x1 x2 x3 x4 r1 r2 r3 r4 r5 a9 r27 N 0 (a8 ++ [r5])
            else
            bif x1.2.1 == 2 then
              bif !(!(decide (x1.2.2.1 < x3.2.2.2.2.2.1))) || (!(decide (x1.2.2.1 < x3.2.2.2.2.2.1))) then
                bif !(!(decide (x1.2.2.1 < x3.2.2.2.2.2.1))) || (!(decide (x1.2.2.1 < x3.2.2.2.2.2.1))) then
                  bif !(!(decide (x1.2.2.1 < x3.2.2.2.2.2.1))) || (!(decide (x1.2.2.1 < x3.2.2.2.2.2.1))) then
                    bif (decide (x1.2.2.1 < x3.2.2.2.2.2.1)) || (!(decide (x1.2.2.1 < x3.2.2.2.2.2.1))) then
                      bif (decide (x1.2.2.1 < x3.2.2.2.2.2.1)) || (decide (x1.2.2.1 > x3.2.2.2.2.2.2)) then
                        some ([], 4)
                      else
                        effect_Of.l5 N x0 x1 x2 x3 x4 r1 r2 r3 r4 r5 a9 N r5.1.1 0 (a8 ++ [r5]) r5.1.2.1.1 r5.1.2.1.2
                    else
                      none
                  else
                    none
                else
                  none
              else
                none
            else
              (effect_course_speed.fn N (r5, ((a8 ++ [r5]), a9))).bind fun r42 =>
              bif r42 == 0 then
                some ([], 10)
              else
                (plane_Distance.fn N (r5.1.2.1, x4)).bind fun r43 =>
                bif r43.2 == 0 then
                  bif decide (((a8 ++ [r5]).length : Int) > 64) then
                    some ([], 2)
                  else
                    some ((a8 ++ [r5]), 0)
                else
                  (effect_up.fn N (r43.2, r42)).bind fun r44 =>
                  bif decide ((w (r5.1.1 + r44)) > 200000) then
                    some ([], 12)
                  else
                  bif decide (((a8 ++ [r5]).length + 1) * 48 ≤ 140737488355328) && decide (((a8 ++ [r5]).length + 1) ≤ maxLen) then
                    bif decide ((((a8 ++ [r5]) ++ [(((w (r5.1.1 + r44)), (x4, r5.1.2.2)), r5.2)]).length : Int) > 64) then
                      some ([], 2)
                    else
                      some (((a8 ++ [r5]) ++ [(((w (r5.1.1 + r44)), (x4, r5.1.2.2)), r5.2)]), 0)
                  else
                    none
          else
            none
        else
          none
      else
        none
    else
      none := by kernel_rfl
theorem taut26 : ∀ p0 p1 : Bool, ((!(!((p0) && (p1))) || (!((p0) && (p1))))) = true := by decide
theorem taut27 : ∀ p0 p1 : Bool, ((!((!((p0) && (p1))) && (p0)) || ((!((p0) && (p1))) && (p0)))) = true := by decide
theorem taut28 : ∀ p0 p1 : Bool, (((!(!((p0) && (p1)))) || (!((p0) && (p1))))) = true := by decide
theorem taut29 : ∀ p0 p1 : Bool, (((!((!((p0) && (p1))) && (p0))) || ((!((p0) && (p1))) && (p0)))) = true := by decide
theorem effect_Of.l1_clean (N : Nat) (x0 : List ((Int × (Int × Int) × Int) × Int × Int)) (x1 : ByteArray × Int × Int × ByteArray) (x2 : Int) (x3 : ByteArray × Int × Int × Int × Int × Int × Int) (x4 : Int × Int) (r1 : Int) (r2 : Int) (r3 : Int) (r4 : Int) (r5 : (Int × (Int × Int) × Int) × Int × Int) (a8 : List ((Int × (Int × Int) × Int) × Int × Int)) (a9 : List ((Int × (Int × Int) × Int) × Int × Int)) (r10 : Int × Int) (k11 : Nat) (a12 : Int) (a13 : Int) : effect_Of.l1 N x0 x1 x2 x3 x4 r1 r2 r3 r4 r5 a8 a9 r10 (k11 + 1) a12 a13 =
    bif decide (a12 < a13) then
      bif (decide (0 ≤ (w (shrI .u64 (IntKind.wrap .u64 (w (a12 + a13))) 1)))) && (decide ((w (shrI .u64 (IntKind.wrap .u64 (w (a12 + a13))) 1)) < (a9.length : Int))) then
        bif decide ((Int.toNat (w (shrI .u64 (IntKind.wrap .u64 (w (a12 + a13))) 1))) < a9.length) then
          (effect_course_climb_1.fn N (List.getD a9 (Int.toNat (w (shrI .u64 (IntKind.wrap .u64 (w (a12 + a13))) 1))) ((0, ((0, 0), 0)), (0, 0)), (w (r5.1.1 + r10.1)))).bind fun r14 =>
          bif decide (r14 < 0) then
            effect_Of.l1 N x0 x1 x2 x3 x4 r1 r2 r3 r4 r5 a8 a9 r10 k11 (w ((w (shrI .u64 (IntKind.wrap .u64 (w (a12 + a13))) 1)) + 1)) a13
          else
            effect_Of.l1 N x0 x1 x2 x3 x4 r1 r2 r3 r4 r5 a8 a9 r10 k11 a12 (w (shrI .u64 (IntKind.wrap .u64 (w (a12 + a13))) 1))
        else
          none
      else
        none
    else
    bif ((decide (0 ≤ a12)) && (decide (a12 < (a9.length : Int)))) || !(decide (a12 < (a9.length : Int))) then
      bif (decide ((Int.toNat a12) < a9.length)) || !(decide (a12 < (a9.length : Int))) then
        (bif (decide (a12 < (a9.length : Int))) then effect_course_climb_1.fn N (List.getD a9 (Int.toNat a12) ((0, ((0, 0), 0)), (0, 0)), (w (r5.1.1 + r10.1))) else some (0)).bind fun r15 =>
        bif ((!((decide (a12 < (a9.length : Int))) && (r15 == 0))) && (decide (a12 < (a9.length : Int)))) && (decide (r10.1 > 0)) then
          (slices_Clone_TubeNode.fn N a9).bind fun r16 =>
          (tube_Point.fn N (x0, (w (r5.1.1 + r10.1)))).bind fun r17 =>
          bif (decide (0 ≤ a12)) && (decide (a12 ≤ (r16.length : Int))) then
            bif decide ((r16.length + 1) * 48 ≤ 140737488355328) && decide (r16.length + 1 ≤ maxLen) then
              effect_Of.l2 N x0 x1 x2 x3 x4 r1 r2 r3 r4 r5 a9 r10 a12 r16 r17 N 0 (a8 ++ [r5])
            else
              none
          else
            none
        else
          effect_Of.l3 N x0 x1 x2 x3 x4 r1 r2 r3 r4 r5 a9 r10 N 0 (a8 ++ [r5])
      else
        none
    else
      none := by
  rw [effect_Of.l1_succ]; simp only [taut26, taut27, taut21, taut28, taut29, taut23, cond_true]
theorem effect_Of.l0_clean (N : Nat) (x0 : List ((Int × (Int × Int) × Int) × Int × Int)) (x1 : ByteArray × Int × Int × ByteArray) (x2 : Int) (x3 : ByteArray × Int × Int × Int × Int × Int × Int) (x4 : Int × Int) (r1 : Int) (r2 : Int) (r3 : Int) (r4 : Int) (r5 : (Int × (Int × Int) × Int) × Int × Int) (k6 : Nat) (a7 : Int) (a8 : List ((Int × (Int × Int) × Int) × Int × Int)) (a9 : List ((Int × (Int × Int) × Int) × Int × Int)) : effect_Of.l0 N x0 x1 x2 x3 x4 r1 r2 r3 r4 r5 (k6 + 1) a7 a8 a9 =
    bif decide (a7 < (x0.length : Int)) then
      bif (decide (0 ≤ a7)) && (decide (a7 < (x0.length : Int))) then
        bif decide ((((List.getD x0 (Int.toNat a7) ((0, ((0, 0), 0)), (0, 0))).1).1) < x2) then
          bif decide ((a8.length + 1) * 48 ≤ 140737488355328) && decide ((a8.length + 1) ≤ maxLen) then
            effect_Of.l0 N x0 x1 x2 x3 x4 r1 r2 r3 r4 r5 k6 (w (a7 + 1)) (a8 ++ [List.getD x0 (Int.toNat a7) ((0, ((0, 0), 0)), (0, 0))]) a9
          else
            none
        else
        bif decide ((((List.getD x0 (Int.toNat a7) ((0, ((0, 0), 0)), (0, 0))).1).1) > x2) then
          bif decide ((a9.length + 1) * 48 ≤ 140737488355328) && decide ((a9.length + 1) ≤ maxLen) then
            effect_Of.l0 N x0 x1 x2 x3 x4 r1 r2 r3 r4 r5 k6 (w (a7 + 1)) a8 (a9 ++ [List.getD x0 (Int.toNat a7) ((0, ((0, 0), 0)), (0, 0))])
          else
            none
        else
          effect_Of.l0 N x0 x1 x2 x3 x4 r1 r2 r3 r4 r5 k6 (w (a7 + 1)) a8 a9
      else
        none
    else
    bif decide ((a8.length + 1) * 48 ≤ 140737488355328) && decide ((a8.length + 1) ≤ maxLen) then
      bif x1.2.1 == 0 then
        (aircraft_Climb.fn N (x3, r5.1.2.2, x1.2.2.1)).bind fun r10 =>
        bif !(r10.2 == 0) then
          bif !(r10.2 == 0) then
            some ([], r10.2)
          else
            some ([], 0)
        else
          effect_Of.l1 N x0 x1 x2 x3 x4 r1 r2 r3 r4 r5 a8 a9 r10 N 0 (a9.length : Int)
      else
      bif ((a9.length : Int) == 0) || (decide (x1.2.1 > 3)) then
        (slices_Clone_TubeNode.fn N x0).bind fun r26 =>
        bif decide ((r26.length : Int) > 64) then
          some ([], 2)
        else
          some (r26, 0)
      else
      bif x1.2.1 == 1 then
        (effect_course_speed.fn N (r5, ((a8 ++ [r5]), a9))).bind fun r27 =>
        effect_Of.l4 N x0 x1 x2 x3 x4 r1 r2 r3 r4 r5 a9 r27 N 0 (a8 ++ [r5])
      else
      bif x1.2.1 == 2 then
        bif (decide (x1.2.2.1 < x3.2.2.2.2.2.1)) || (decide (x1.2.2.1 > x3.2.2.2.2.2.2)) then
          some ([], 4)
        else
          effect_Of.l5 N x0 x1 x2 x3 x4 r1 r2 r3 r4 r5 a9 N r5.1.1 0 (a8 ++ [r5]) r5.1.2.1.1 r5.1.2.1.2
      else
        (effect_course_speed.fn N (r5, ((a8 ++ [r5]), a9))).bind fun r42 =>
        bif r42 == 0 then
          some ([], 10)
        else
          (plane_Distance.fn N (r5.1.2.1, x4)).bind fun r43 =>
          bif r43.2 == 0 then
            bif decide (((a8 ++ [r5]).length : Int) > 64) then
              some ([], 2)
            else
              some ((a8 ++ [r5]), 0)
          else
            (effect_up.fn N (r43.2, r42)).bind fun r44 =>
            bif decide ((w (r5.1.1 + r44)) > 200000) then
              some ([], 12)
            else
            bif decide (((a8 ++ [r5]).length + 1) * 48 ≤ 140737488355328) && decide (((a8 ++ [r5]).length + 1) ≤ maxLen) then
              bif decide ((((a8 ++ [r5]) ++ [(((w (r5.1.1 + r44)), (x4, r5.1.2.2)), r5.2)]).length : Int) > 64) then
                some ([], 2)
              else
                some (((a8 ++ [r5]) ++ [(((w (r5.1.1 + r44)), (x4, r5.1.2.2)), r5.2)]), 0)
            else
              none
    else
      none := by
  rw [effect_Of.l0_succ]; simp only [taut3, taut6, cond_true]
theorem effect_Of.l5_cons (N : Nat) (x0 : List ((Int × (Int × Int) × Int) × Int × Int)) (x1 : ByteArray × Int × Int × ByteArray) (x2 : Int) (x3 : ByteArray × Int × Int × Int × Int × Int × Int) (x4 : Int × Int) (r1 : Int) (r2 : Int) (r3 : Int) (r4 : Int) (r5 : (Int × (Int × Int) × Int) × Int × Int) (a9 : List ((Int × (Int × Int) × Int) × Int × Int)) (k34 : Nat) (a35 : Int) (a37 : List ((Int × (Int × Int) × Int) × Int × Int)) (a38 : Int) (a39 : Int) {pre r} {x} (hl : a9 = pre ++ x :: r) (hb : a9.length < 4611686018427387904) : effect_Of.l5 N x0 x1 x2 x3 x4 r1 r2 r3 r4 r5 a9 (k34 + 1) a35 (pre.length : Int) a37 a38 a39 =
    bif decide (pre.length < a9.length) then
      (plane_Distance.fn N ((a38, a39), ((x.1).2).1)).bind fun r40 =>
      (effect_up.fn N (r40.2, x1.2.2.1)).bind fun r41 =>
      bif decide ((w (a35 + r41)) > 200000) then
        some ([], 12)
      else
      bif decide ((a37.length + 1) * 48 ≤ 140737488355328) && decide ((a37.length + 1) ≤ maxLen) then
        effect_Of.l5 N x0 x1 x2 x3 x4 r1 r2 r3 r4 r5 a9 k34 (w (a35 + r41)) ((pre.length : Int) + 1) (a37 ++ [(((w (a35 + r41)), (x.1).2), x.2)]) ((((x.1).2).1).1) ((((x.1).2).1).2)
      else
        none
    else
      none := by
  have hlen : a9.length = pre.length + 1 + r.length := by rw [hl]; simp; omega
  have e1 : decide ((pre.length : Int) < (a9.length : Int)) = true := by rw [decide_eq_true_iff]; omega
  have e2 : decide (0 ≤ (pre.length : Int)) = true := by rw [decide_eq_true_iff]; omega
  have e4 : w ((pre.length : Int) + 1) = (pre.length : Int) + 1 := w_next hl hb
  have e5 : List.take pre.length a9 = pre := by rw [hl]; simp
  have e6 : decide ((pre.length : Int) ≤ (a9.length : Int)) = true := by rw [decide_eq_true_iff]; omega
  have g0 : List.getD a9 pre.length ((0, ((0, 0), 0)), (0, 0)) = x := by rw [hl]; exact getD_mid pre x r _
  rw [effect_Of.l5_succ]
  simp -implicitDefEqProofs only [Int.toNat_natCast, e1, e2, e4, e6, g0, e5, Bool.and_true, Bool.true_and, Bool.true_or, cond_true]
theorem effect_Of.l5_nil (N : Nat) (x0 : List ((Int × (Int × Int) × Int) × Int × Int)) (x1 : ByteArray × Int × Int × ByteArray) (x2 : Int) (x3 : ByteArray × Int × Int × Int × Int × Int × Int) (x4 : Int × Int) (r1 : Int) (r2 : Int) (r3 : Int) (r4 : Int) (r5 : (Int × (Int × Int) × Int) × Int × Int) (a9 : List ((Int × (Int × Int) × Int) × Int × Int)) (k34 : Nat) (a35 : Int) (a37 : List ((Int × (Int × Int) × Int) × Int × Int)) (a38 : Int) (a39 : Int) : effect_Of.l5 N x0 x1 x2 x3 x4 r1 r2 r3 r4 r5 a9 (k34 + 1) a35 (a9.length : Int) a37 a38 a39 =
    bif decide ((a37.length : Int) > 64) then
      some ([], 2)
    else
      some (a37, 0) := by
  have e1 : decide ((a9.length : Int) < (a9.length : Int)) = false := by rw [decide_eq_false_iff_not]; omega
  rw [effect_Of.l5_succ]
  simp -implicitDefEqProofs only [e1, cond_false]
theorem effect_Of.l4_cons (N : Nat) (x0 : List ((Int × (Int × Int) × Int) × Int × Int)) (x1 : ByteArray × Int × Int × ByteArray) (x2 : Int) (x3 : ByteArray × Int × Int × Int × Int × Int × Int) (x4 : Int × Int) (r1 : Int) (r2 : Int) (r3 : Int) (r4 : Int) (r5 : (Int × (Int × Int) × Int) × Int × Int) (a9 : List ((Int × (Int × Int) × Int) × Int × Int)) (r27 : Int) (k28 : Nat) (a30 : List ((Int × (Int × Int) × Int) × Int × Int)) {pre r} {x} (hl : a9 = pre ++ x :: r) (hb : a9.length < 4611686018427387904) : effect_Of.l4 N x0 x1 x2 x3 x4 r1 r2 r3 r4 r5 a9 r27 (k28 + 1) (pre.length : Int) a30 =
    bif decide (pre.length < a9.length) then
      (angle_Vector.fn N (x1.2.2.1, (w (r27 * (w (((x.1).1) - r5.1.1)))))).bind fun r31 =>
      bif !(r31.2 == 0) then
        bif !(r31.2 == 0) then
          some ([], r31.2)
        else
          some ([], 0)
      else
        (plane_Add.fn N (r5.1.2.1, r31.1)).bind fun r32 =>
        (plane_Check.fn N r32).bind fun r33 =>
        bif !(r33 == 0) then
          bif !(r33 == 0) then
            some ([], r33)
          else
            some ([], 0)
        else
        bif decide ((a30.length + 1) * 48 ≤ 140737488355328) && decide ((a30.length + 1) ≤ maxLen) then
          effect_Of.l4 N x0 x1 x2 x3 x4 r1 r2 r3 r4 r5 a9 r27 k28 ((pre.length : Int) + 1) (a30 ++ [(((x.1).1, (r32, ((x.1).2).2)), x.2)])
        else
          none
    else
      none := by
  have hlen : a9.length = pre.length + 1 + r.length := by rw [hl]; simp; omega
  have e1 : decide ((pre.length : Int) < (a9.length : Int)) = true := by rw [decide_eq_true_iff]; omega
  have e2 : decide (0 ≤ (pre.length : Int)) = true := by rw [decide_eq_true_iff]; omega
  have e4 : w ((pre.length : Int) + 1) = (pre.length : Int) + 1 := w_next hl hb
  have e5 : List.take pre.length a9 = pre := by rw [hl]; simp
  have e6 : decide ((pre.length : Int) ≤ (a9.length : Int)) = true := by rw [decide_eq_true_iff]; omega
  have g0 : List.getD a9 pre.length ((0, ((0, 0), 0)), (0, 0)) = x := by rw [hl]; exact getD_mid pre x r _
  rw [effect_Of.l4_succ]
  simp -implicitDefEqProofs only [Int.toNat_natCast, e1, e2, e4, e6, g0, e5, Bool.and_true, Bool.true_and, Bool.true_or, cond_true]
theorem effect_Of.l4_nil (N : Nat) (x0 : List ((Int × (Int × Int) × Int) × Int × Int)) (x1 : ByteArray × Int × Int × ByteArray) (x2 : Int) (x3 : ByteArray × Int × Int × Int × Int × Int × Int) (x4 : Int × Int) (r1 : Int) (r2 : Int) (r3 : Int) (r4 : Int) (r5 : (Int × (Int × Int) × Int) × Int × Int) (a9 : List ((Int × (Int × Int) × Int) × Int × Int)) (r27 : Int) (k28 : Nat) (a30 : List ((Int × (Int × Int) × Int) × Int × Int)) : effect_Of.l4 N x0 x1 x2 x3 x4 r1 r2 r3 r4 r5 a9 r27 (k28 + 1) (a9.length : Int) a30 =
    bif decide ((a30.length : Int) > 64) then
      some ([], 2)
    else
      some (a30, 0) := by
  have e1 : decide ((a9.length : Int) < (a9.length : Int)) = false := by rw [decide_eq_false_iff_not]; omega
  rw [effect_Of.l4_succ]
  simp -implicitDefEqProofs only [e1, cond_false]
theorem effect_Of.l3_cons (N : Nat) (x0 : List ((Int × (Int × Int) × Int) × Int × Int)) (x1 : ByteArray × Int × Int × ByteArray) (x2 : Int) (x3 : ByteArray × Int × Int × Int × Int × Int × Int) (x4 : Int × Int) (r1 : Int) (r2 : Int) (r3 : Int) (r4 : Int) (r5 : (Int × (Int × Int) × Int) × Int × Int) (a9 : List ((Int × (Int × Int) × Int) × Int × Int)) (r10 : Int × Int) (k22 : Nat) (a24 : List ((Int × (Int × Int) × Int) × Int × Int)) {pre r} {x} (hl : a9 = pre ++ x :: r) (hb : a9.length < 4611686018427387904) : effect_Of.l3 N x0 x1 x2 x3 x4 r1 r2 r3 r4 r5 a9 r10 (k22 + 1) (pre.length : Int) a24 =
    bif decide (pre.length < a9.length) then
      bif decide (((x.1).1) < (w (r5.1.1 + r10.1))) then
        (effect_down.fn N ((w ((w (x1.2.2.1 - r5.1.2.2)) * (w (((x.1).1) - r5.1.1)))), r10.1)).bind fun r25 =>
        bif decide ((a24.length + 1) * 48 ≤ 140737488355328) && decide ((a24.length + 1) ≤ maxLen) then
          effect_Of.l3 N x0 x1 x2 x3 x4 r1 r2 r3 r4 r5 a9 r10 k22 ((pre.length : Int) + 1) (a24 ++ [(((x.1).1, (((x.1).2).1, (w (r5.1.2.2 + r25)))), x.2)])
        else
          none
      else
      bif decide ((a24.length + 1) * 48 ≤ 140737488355328) && decide ((a24.length + 1) ≤ maxLen) then
        effect_Of.l3 N x0 x1 x2 x3 x4 r1 r2 r3 r4 r5 a9 r10 k22 ((pre.length : Int) + 1) (a24 ++ [(((x.1).1, (((x.1).2).1, x1.2.2.1)), x.2)])
      else
        none
    else
      none := by
  have hlen : a9.length = pre.length + 1 + r.length := by rw [hl]; simp; omega
  have e1 : decide ((pre.length : Int) < (a9.length : Int)) = true := by rw [decide_eq_true_iff]; omega
  have e2 : decide (0 ≤ (pre.length : Int)) = true := by rw [decide_eq_true_iff]; omega
  have e4 : w ((pre.length : Int) + 1) = (pre.length : Int) + 1 := w_next hl hb
  have e5 : List.take pre.length a9 = pre := by rw [hl]; simp
  have e6 : decide ((pre.length : Int) ≤ (a9.length : Int)) = true := by rw [decide_eq_true_iff]; omega
  have g0 : List.getD a9 pre.length ((0, ((0, 0), 0)), (0, 0)) = x := by rw [hl]; exact getD_mid pre x r _
  rw [effect_Of.l3_succ]
  simp -implicitDefEqProofs only [Int.toNat_natCast, e1, e2, e4, e6, g0, e5, Bool.and_true, Bool.true_and, Bool.true_or, cond_true]
theorem effect_Of.l3_nil (N : Nat) (x0 : List ((Int × (Int × Int) × Int) × Int × Int)) (x1 : ByteArray × Int × Int × ByteArray) (x2 : Int) (x3 : ByteArray × Int × Int × Int × Int × Int × Int) (x4 : Int × Int) (r1 : Int) (r2 : Int) (r3 : Int) (r4 : Int) (r5 : (Int × (Int × Int) × Int) × Int × Int) (a9 : List ((Int × (Int × Int) × Int) × Int × Int)) (r10 : Int × Int) (k22 : Nat) (a24 : List ((Int × (Int × Int) × Int) × Int × Int)) : effect_Of.l3 N x0 x1 x2 x3 x4 r1 r2 r3 r4 r5 a9 r10 (k22 + 1) (a9.length : Int) a24 =
    bif decide ((a24.length : Int) > 64) then
      some ([], 2)
    else
      some (a24, 0) := by
  have e1 : decide ((a9.length : Int) < (a9.length : Int)) = false := by rw [decide_eq_false_iff_not]; omega
  rw [effect_Of.l3_succ]
  simp -implicitDefEqProofs only [e1, cond_false]
theorem effect_Of.l2_cons (N : Nat) (x0 : List ((Int × (Int × Int) × Int) × Int × Int)) (x1 : ByteArray × Int × Int × ByteArray) (x2 : Int) (x3 : ByteArray × Int × Int × Int × Int × Int × Int) (x4 : Int × Int) (r1 : Int) (r2 : Int) (r3 : Int) (r4 : Int) (r5 : (Int × (Int × Int) × Int) × Int × Int) (a9 : List ((Int × (Int × Int) × Int) × Int × Int)) (r10 : Int × Int) (a12 : Int) (r16 : List ((Int × (Int × Int) × Int) × Int × Int)) (r17 : (Int × (Int × Int) × Int) × Int × Int) (k18 : Nat) (a20 : List ((Int × (Int × Int) × Int) × Int × Int)) {pre r} {x} (hl : ((List.take (Int.toNat a12) r16) ++ [r17] ++ (List.drop (Int.toNat a12) r16)) = pre ++ x :: r) (hb : ((List.take (Int.toNat a12) r16) ++ [r17] ++ (List.drop (Int.toNat a12) r16)).length < 4611686018427387904) : effect_Of.l2 N x0 x1 x2 x3 x4 r1 r2 r3 r4 r5 a9 r10 a12 r16 r17 (k18 + 1) (pre.length : Int) a20 =
    bif decide (pre.length < ((List.take (Int.toNat a12) r16) ++ [r17] ++ (List.drop (Int.toNat a12) r16)).length) then
      bif decide (((x.1).1) < (w (r5.1.1 + r10.1))) then
        (effect_down.fn N ((w ((w (x1.2.2.1 - r5.1.2.2)) * (w (((x.1).1) - r5.1.1)))), r10.1)).bind fun r21 =>
        bif decide ((a20.length + 1) * 48 ≤ 140737488355328) && decide ((a20.length + 1) ≤ maxLen) then
          effect_Of.l2 N x0 x1 x2 x3 x4 r1 r2 r3 r4 r5 a9 r10 a12 r16 r17 k18 ((pre.length : Int) + 1) (a20 ++ [(((x.1).1, (((x.1).2).1, (w (r5.1.2.2 + r21)))), x.2)])
        else
          none
      else
      bif decide ((a20.length + 1) * 48 ≤ 140737488355328) && decide ((a20.length + 1) ≤ maxLen) then
        effect_Of.l2 N x0 x1 x2 x3 x4 r1 r2 r3 r4 r5 a9 r10 a12 r16 r17 k18 ((pre.length : Int) + 1) (a20 ++ [(((x.1).1, (((x.1).2).1, x1.2.2.1)), x.2)])
      else
        none
    else
      none := by
  have hlen : ((List.take (Int.toNat a12) r16) ++ [r17] ++ (List.drop (Int.toNat a12) r16)).length = pre.length + 1 + r.length := by rw [hl]; simp; omega
  have e1 : decide ((pre.length : Int) < (((List.take (Int.toNat a12) r16) ++ [r17] ++ (List.drop (Int.toNat a12) r16)).length : Int)) = true := by rw [decide_eq_true_iff]; omega
  have e2 : decide (0 ≤ (pre.length : Int)) = true := by rw [decide_eq_true_iff]; omega
  have e4 : w ((pre.length : Int) + 1) = (pre.length : Int) + 1 := w_next hl hb
  have e5 : List.take pre.length ((List.take (Int.toNat a12) r16) ++ [r17] ++ (List.drop (Int.toNat a12) r16)) = pre := by rw [hl]; simp
  have e6 : decide ((pre.length : Int) ≤ (((List.take (Int.toNat a12) r16) ++ [r17] ++ (List.drop (Int.toNat a12) r16)).length : Int)) = true := by rw [decide_eq_true_iff]; omega
  have g0 : List.getD ((List.take (Int.toNat a12) r16) ++ [r17] ++ (List.drop (Int.toNat a12) r16)) pre.length ((0, ((0, 0), 0)), (0, 0)) = x := by rw [hl]; exact getD_mid pre x r _
  rw [effect_Of.l2_succ]
  simp -implicitDefEqProofs only [Int.toNat_natCast, e1, e2, e4, e6, g0, e5, Bool.and_true, Bool.true_and, Bool.true_or, cond_true]
theorem effect_Of.l2_nil (N : Nat) (x0 : List ((Int × (Int × Int) × Int) × Int × Int)) (x1 : ByteArray × Int × Int × ByteArray) (x2 : Int) (x3 : ByteArray × Int × Int × Int × Int × Int × Int) (x4 : Int × Int) (r1 : Int) (r2 : Int) (r3 : Int) (r4 : Int) (r5 : (Int × (Int × Int) × Int) × Int × Int) (a9 : List ((Int × (Int × Int) × Int) × Int × Int)) (r10 : Int × Int) (a12 : Int) (r16 : List ((Int × (Int × Int) × Int) × Int × Int)) (r17 : (Int × (Int × Int) × Int) × Int × Int) (k18 : Nat) (a20 : List ((Int × (Int × Int) × Int) × Int × Int)) : effect_Of.l2 N x0 x1 x2 x3 x4 r1 r2 r3 r4 r5 a9 r10 a12 r16 r17 (k18 + 1) (((List.take (Int.toNat a12) r16) ++ [r17] ++ (List.drop (Int.toNat a12) r16)).length : Int) a20 =
    bif decide ((a20.length : Int) > 64) then
      some ([], 2)
    else
      some (a20, 0) := by
  have e1 : decide ((((List.take (Int.toNat a12) r16) ++ [r17] ++ (List.drop (Int.toNat a12) r16)).length : Int) < (((List.take (Int.toNat a12) r16) ++ [r17] ++ (List.drop (Int.toNat a12) r16)).length : Int)) = false := by rw [decide_eq_false_iff_not]; omega
  rw [effect_Of.l2_succ]
  simp -implicitDefEqProofs only [e1, cond_false]
theorem effect_Of.l0_cons (N : Nat) (x0 : List ((Int × (Int × Int) × Int) × Int × Int)) (x1 : ByteArray × Int × Int × ByteArray) (x2 : Int) (x3 : ByteArray × Int × Int × Int × Int × Int × Int) (x4 : Int × Int) (r1 : Int) (r2 : Int) (r3 : Int) (r4 : Int) (r5 : (Int × (Int × Int) × Int) × Int × Int) (k6 : Nat) (a8 : List ((Int × (Int × Int) × Int) × Int × Int)) (a9 : List ((Int × (Int × Int) × Int) × Int × Int)) {pre r} {x} (hl : x0 = pre ++ x :: r) (hb : x0.length < 4611686018427387904) : effect_Of.l0 N x0 x1 x2 x3 x4 r1 r2 r3 r4 r5 (k6 + 1) (pre.length : Int) a8 a9 =
    bif decide (((x.1).1) < x2) then
      bif decide ((a8.length + 1) * 48 ≤ 140737488355328) && decide ((a8.length + 1) ≤ maxLen) then
        effect_Of.l0 N x0 x1 x2 x3 x4 r1 r2 r3 r4 r5 k6 ((pre.length : Int) + 1) (a8 ++ [x]) a9
      else
        none
    else
    bif decide (((x.1).1) > x2) then
      bif decide ((a9.length + 1) * 48 ≤ 140737488355328) && decide ((a9.length + 1) ≤ maxLen) then
        effect_Of.l0 N x0 x1 x2 x3 x4 r1 r2 r3 r4 r5 k6 ((pre.length : Int) + 1) a8 (a9 ++ [x])
      else
        none
    else
      effect_Of.l0 N x0 x1 x2 x3 x4 r1 r2 r3 r4 r5 k6 ((pre.length : Int) + 1) a8 a9 := by
  have hlen : x0.length = pre.length + 1 + r.length := by rw [hl]; simp; omega
  have e1 : decide ((pre.length : Int) < (x0.length : Int)) = true := by rw [decide_eq_true_iff]; omega
  have e2 : decide (0 ≤ (pre.length : Int)) = true := by rw [decide_eq_true_iff]; omega
  have e4 : w ((pre.length : Int) + 1) = (pre.length : Int) + 1 := w_next hl hb
  have e5 : List.take pre.length x0 = pre := by rw [hl]; simp
  have e6 : decide ((pre.length : Int) ≤ (x0.length : Int)) = true := by rw [decide_eq_true_iff]; omega
  have g0 : List.getD x0 pre.length ((0, ((0, 0), 0)), (0, 0)) = x := by rw [hl]; exact getD_mid pre x r _
  rw [effect_Of.l0_clean]
  simp -implicitDefEqProofs only [Int.toNat_natCast, e1, e2, e4, e6, g0, e5, Bool.and_true, Bool.true_and, Bool.true_or, cond_true]
theorem effect_Of.l0_nil (N : Nat) (x0 : List ((Int × (Int × Int) × Int) × Int × Int)) (x1 : ByteArray × Int × Int × ByteArray) (x2 : Int) (x3 : ByteArray × Int × Int × Int × Int × Int × Int) (x4 : Int × Int) (r1 : Int) (r2 : Int) (r3 : Int) (r4 : Int) (r5 : (Int × (Int × Int) × Int) × Int × Int) (k6 : Nat) (a8 : List ((Int × (Int × Int) × Int) × Int × Int)) (a9 : List ((Int × (Int × Int) × Int) × Int × Int)) : effect_Of.l0 N x0 x1 x2 x3 x4 r1 r2 r3 r4 r5 (k6 + 1) (x0.length : Int) a8 a9 =
    bif decide ((a8.length + 1) * 48 ≤ 140737488355328) && decide ((a8.length + 1) ≤ maxLen) then
      bif x1.2.1 == 0 then
        (aircraft_Climb.fn N (x3, r5.1.2.2, x1.2.2.1)).bind fun r10 =>
        bif !(r10.2 == 0) then
          bif !(r10.2 == 0) then
            some ([], r10.2)
          else
            some ([], 0)
        else
          effect_Of.l1 N x0 x1 x2 x3 x4 r1 r2 r3 r4 r5 a8 a9 r10 N 0 (a9.length : Int)
      else
      bif ((a9.length : Int) == 0) || (decide (x1.2.1 > 3)) then
        (slices_Clone_TubeNode.fn N x0).bind fun r26 =>
        bif decide ((r26.length : Int) > 64) then
          some ([], 2)
        else
          some (r26, 0)
      else
      bif x1.2.1 == 1 then
        (effect_course_speed.fn N (r5, ((a8 ++ [r5]), a9))).bind fun r27 =>
        effect_Of.l4 N x0 x1 x2 x3 x4 r1 r2 r3 r4 r5 a9 r27 N 0 (a8 ++ [r5])
      else
      bif x1.2.1 == 2 then
        bif (decide (x1.2.2.1 < x3.2.2.2.2.2.1)) || (decide (x1.2.2.1 > x3.2.2.2.2.2.2)) then
          some ([], 4)
        else
          effect_Of.l5 N x0 x1 x2 x3 x4 r1 r2 r3 r4 r5 a9 N r5.1.1 0 (a8 ++ [r5]) r5.1.2.1.1 r5.1.2.1.2
      else
        (effect_course_speed.fn N (r5, ((a8 ++ [r5]), a9))).bind fun r42 =>
        bif r42 == 0 then
          some ([], 10)
        else
          (plane_Distance.fn N (r5.1.2.1, x4)).bind fun r43 =>
          bif r43.2 == 0 then
            bif decide (((a8 ++ [r5]).length : Int) > 64) then
              some ([], 2)
            else
              some ((a8 ++ [r5]), 0)
          else
            (effect_up.fn N (r43.2, r42)).bind fun r44 =>
            bif decide ((w (r5.1.1 + r44)) > 200000) then
              some ([], 12)
            else
            bif decide (((a8 ++ [r5]).length + 1) * 48 ≤ 140737488355328) && decide (((a8 ++ [r5]).length + 1) ≤ maxLen) then
              bif decide ((((a8 ++ [r5]) ++ [(((w (r5.1.1 + r44)), (x4, r5.1.2.2)), r5.2)]).length : Int) > 64) then
                some ([], 2)
              else
                some (((a8 ++ [r5]) ++ [(((w (r5.1.1 + r44)), (x4, r5.1.2.2)), r5.2)]), 0)
            else
              none
    else
      none := by
  have e1 : decide ((x0.length : Int) < (x0.length : Int)) = false := by rw [decide_eq_false_iff_not]; omega
  rw [effect_Of.l0_clean]
  simp -implicitDefEqProofs only [e1, cond_false]
theorem effect_Of.eq (N : Nat) (x0 : List ((Int × (Int × Int) × Int) × Int × Int)) (x1 : ByteArray × Int × Int × ByteArray) (x2 : Int) (x3 : ByteArray × Int × Int × Int × Int × Int × Int) (x4 : Int × Int) : effect_Of.fn N (x0, x1, x2, x3, x4) =
    (tube_Check.fn N x0).bind fun r1 =>
    bif !(r1 == 0) then
      some ([], r1)
    else
      (phrase_Check.fn N x1).bind fun r2 =>
      bif !(r2 == 0) then
        some ([], r2)
      else
        (aircraft_Check.fn N x3).bind fun r3 =>
        bif !(r3 == 0) then
          some ([], r3)
        else
          (plane_Check.fn N x4).bind fun r4 =>
          bif !(r4 == 0) then
            some ([], r4)
          else
          bif decide (0 < (x0.length : Int)) then
            bif !(!(decide (x2 < (((List.getD x0 0 ((0, ((0, 0), 0)), (0, 0))).1).1)))) || (!(decide (x2 < (((List.getD x0 0 ((0, ((0, 0), 0)), (0, 0))).1).1)))) then
              bif !(!(decide (x2 < (((List.getD x0 0 ((0, ((0, 0), 0)), (0, 0))).1).1)))) || (!(decide (x2 < (((List.getD x0 0 ((0, ((0, 0), 0)), (0, 0))).1).1)))) then
                bif !(!(decide (x2 < (((List.getD x0 0 ((0, ((0, 0), 0)), (0, 0))).1).1)))) || (!(decide (x2 < (((List.getD x0 0 ((0, ((0, 0), 0)), (0, 0))).1).1)))) then
                  bif !(!(decide (x2 < (((List.getD x0 0 ((0, ((0, 0), 0)), (0, 0))).1).1)))) || (!(decide (x2 < (((List.getD x0 0 ((0, ((0, 0), 0)), (0, 0))).1).1)))) then
                    bif ((decide (0 ≤ (w ((x0.length : Int) - 1)))) && (decide ((w ((x0.length : Int) - 1)) < (x0.length : Int)))) || !(!(decide (x2 < (((List.getD x0 0 ((0, ((0, 0), 0)), (0, 0))).1).1)))) then
                      bif !(!(decide (x2 < (((List.getD x0 0 ((0, ((0, 0), 0)), (0, 0))).1).1)))) || (!(decide (x2 < (((List.getD x0 0 ((0, ((0, 0), 0)), (0, 0))).1).1)))) then
                        bif !(!(decide (x2 < (((List.getD x0 0 ((0, ((0, 0), 0)), (0, 0))).1).1)))) || (!(decide (x2 < (((List.getD x0 0 ((0, ((0, 0), 0)), (0, 0))).1).1)))) then
                          bif !(!(decide (x2 < (((List.getD x0 0 ((0, ((0, 0), 0)), (0, 0))).1).1)))) || (!(decide (x2 < (((List.getD x0 0 ((0, ((0, 0), 0)), (0, 0))).1).1)))) then
                            bif !(!(decide (x2 < (((List.getD x0 0 ((0, ((0, 0), 0)), (0, 0))).1).1)))) || (!(decide (x2 < (((List.getD x0 0 ((0, ((0, 0), 0)), (0, 0))).1).1)))) then
                              bif !(!(decide (x2 < (((List.getD x0 0 ((0, ((0, 0), 0)), (0, 0))).1).1)))) || (!(decide (x2 < (((List.getD x0 0 ((0, ((0, 0), 0)), (0, 0))).1).1)))) then
                                bif (decide (x2 < (((List.getD x0 0 ((0, ((0, 0), 0)), (0, 0))).1).1))) || (!(decide (x2 < (((List.getD x0 0 ((0, ((0, 0), 0)), (0, 0))).1).1)))) then
                                  bif (decide (x2 < (((List.getD x0 0 ((0, ((0, 0), 0)), (0, 0))).1).1))) || (decide (x2 > (((List.getD x0 (Int.toNat (w ((x0.length : Int) - 1))) ((0, ((0, 0), 0)), (0, 0))).1).1))) then
                                    some ([], 12)
                                  else
                                    (tube_Point.fn N (x0, x2)).bind fun r5 =>
                                    effect_Of.l0 N x0 x1 x2 x3 x4 r1 r2 r3 r4 r5 N 0 [] []
                                else
                                  none
                              else
                                none
                            else
                              none
                          else
                            none
                        else
                          none
                      else
                        none
                    else
                      none
                  else
                    none
                else
                  none
              else
                none
            else
              none
          else
            none := by kernel_rfl
theorem effect_Of.clean (N : Nat) (x0 : List ((Int × (Int × Int) × Int) × Int × Int)) (x1 : ByteArray × Int × Int × ByteArray) (x2 : Int) (x3 : ByteArray × Int × Int × Int × Int × Int × Int) (x4 : Int × Int) : effect_Of.fn N (x0, x1, x2, x3, x4) =
    (tube_Check.fn N x0).bind fun r1 =>
    bif !(r1 == 0) then
      some ([], r1)
    else
      (phrase_Check.fn N x1).bind fun r2 =>
      bif !(r2 == 0) then
        some ([], r2)
      else
        (aircraft_Check.fn N x3).bind fun r3 =>
        bif !(r3 == 0) then
          some ([], r3)
        else
          (plane_Check.fn N x4).bind fun r4 =>
          bif !(r4 == 0) then
            some ([], r4)
          else
          bif decide (0 < (x0.length : Int)) then
            bif ((decide (0 ≤ (w ((x0.length : Int) - 1)))) && (decide ((w ((x0.length : Int) - 1)) < (x0.length : Int)))) || !(!(decide (x2 < (((List.getD x0 0 ((0, ((0, 0), 0)), (0, 0))).1).1)))) then
              bif (decide (x2 < (((List.getD x0 0 ((0, ((0, 0), 0)), (0, 0))).1).1))) || (decide (x2 > (((List.getD x0 (Int.toNat (w ((x0.length : Int) - 1))) ((0, ((0, 0), 0)), (0, 0))).1).1))) then
                some ([], 12)
              else
                (tube_Point.fn N (x0, x2)).bind fun r5 =>
                effect_Of.l0 N x0 x1 x2 x3 x4 r1 r2 r3 r4 r5 N 0 [] []
            else
              none
          else
            none := by
  rw [effect_Of.eq]; simp only [taut3, taut6, cond_true]

/-! ### effect_has: skyway/effect.has -/
def effect_has.kp : List (Nat × List (Nat × Option (TypeId × Ty))) := []
noncomputable def effect_has.G (N : Nat) : List (Nat × Spec) := []
noncomputable def effect_has.E (N : Nat) : Env := mkEnv (effect_has.G N) N tyTab effect_has.kp
noncomputable def effect_has.fn (N : Nat) (x : List ((Int × (Int × Int) × Int) × Int × Int) × Int) : Option Bool := evFn (effect_has.E N) Tryd.prog 3 Tryd.f22 false [.cell (.sl 39 (.pair (.pair (.int .i64) (.pair (.pair (.int .i64) (.int .i64)) (.int .i64))) (.pair (.int .i64) (.int .i64)))), .cell (.int .i64)] [.val (.cell (.bool))] x
noncomputable def effect_has.S (N : Nat) : PSpec := ⟨false, [.cell (.sl 39 (.pair (.pair (.int .i64) (.pair (.pair (.int .i64) (.int .i64)) (.int .i64))) (.pair (.int .i64) (.int .i64)))), .cell (.int .i64)], [.val (.cell (.bool))], effect_has.fn N⟩
theorem f22_enters : Enters Tryd.prog 22 := ⟨Tryd.f22, Tryd.func22, by kernel_rfl, by kernel_rfl⟩
theorem effect_has.tab (N : Nat) : TabOk Tryd.prog (effect_has.G N) := trivial
theorem effect_has.enters : Enters Tryd.prog 22 := f22_enters
theorem effect_has.sound (N : Nat) : Sound Tryd.prog 22 (effect_has.S N) := evFn_sound (specs_tab (effect_has.tab N)) (inls_tab (effect_has.tab N)) mixed 3 Tryd.func22 _ _ _
theorem effect_has.eq (N : Nat) (x0 : List ((Int × (Int × Int) × Int) × Int × Int)) (x1 : Int) : effect_has.fn N (x0, x1) =
    bif decide (0 < (x0.length : Int)) then
      bif !(decide (x1 ≥ (((List.getD x0 0 ((0, ((0, 0), 0)), (0, 0))).1).1))) || (decide (x1 ≥ (((List.getD x0 0 ((0, ((0, 0), 0)), (0, 0))).1).1))) then
        bif !(decide (x1 ≥ (((List.getD x0 0 ((0, ((0, 0), 0)), (0, 0))).1).1))) || (decide (x1 ≥ (((List.getD x0 0 ((0, ((0, 0), 0)), (0, 0))).1).1))) then
          bif !(decide (x1 ≥ (((List.getD x0 0 ((0, ((0, 0), 0)), (0, 0))).1).1))) || (decide (x1 ≥ (((List.getD x0 0 ((0, ((0, 0), 0)), (0, 0))).1).1))) then
            bif !(decide (x1 ≥ (((List.getD x0 0 ((0, ((0, 0), 0)), (0, 0))).1).1))) || (decide (x1 ≥ (((List.getD x0 0 ((0, ((0, 0), 0)), (0, 0))).1).1))) then
              bif ((decide (0 ≤ (w ((x0.length : Int) - 1)))) && (decide ((w ((x0.length : Int) - 1)) < (x0.length : Int)))) || !(decide (x1 ≥ (((List.getD x0 0 ((0, ((0, 0), 0)), (0, 0))).1).1))) then
                bif !(decide (x1 ≥ (((List.getD x0 0 ((0, ((0, 0), 0)), (0, 0))).1).1))) || (decide (x1 ≥ (((List.getD x0 0 ((0, ((0, 0), 0)), (0, 0))).1).1))) then
                  bif !(decide (x1 ≥ (((List.getD x0 0 ((0, ((0, 0), 0)), (0, 0))).1).1))) || (decide (x1 ≥ (((List.getD x0 0 ((0, ((0, 0), 0)), (0, 0))).1).1))) then
                    bif !(decide (x1 ≥ (((List.getD x0 0 ((0, ((0, 0), 0)), (0, 0))).1).1))) || (decide (x1 ≥ (((List.getD x0 0 ((0, ((0, 0), 0)), (0, 0))).1).1))) then
                      bif !(decide (x1 ≥ (((List.getD x0 0 ((0, ((0, 0), 0)), (0, 0))).1).1))) || (decide (x1 ≥ (((List.getD x0 0 ((0, ((0, 0), 0)), (0, 0))).1).1))) then
                        bif !(decide (x1 ≥ (((List.getD x0 0 ((0, ((0, 0), 0)), (0, 0))).1).1))) || (decide (x1 ≥ (((List.getD x0 0 ((0, ((0, 0), 0)), (0, 0))).1).1))) then
                          bif (!(decide (x1 ≥ (((List.getD x0 0 ((0, ((0, 0), 0)), (0, 0))).1).1)))) || (decide (x1 ≥ (((List.getD x0 0 ((0, ((0, 0), 0)), (0, 0))).1).1))) then
                            some ((decide (x1 ≥ (((List.getD x0 0 ((0, ((0, 0), 0)), (0, 0))).1).1))) && (decide (x1 ≤ (((List.getD x0 (Int.toNat (w ((x0.length : Int) - 1))) ((0, ((0, 0), 0)), (0, 0))).1).1))))
                          else
                            none
                        else
                          none
                      else
                        none
                    else
                      none
                  else
                    none
                else
                  none
              else
                none
            else
              none
          else
            none
        else
          none
      else
        none
    else
      none := by kernel_rfl
theorem effect_has.clean (N : Nat) (x0 : List ((Int × (Int × Int) × Int) × Int × Int)) (x1 : Int) : effect_has.fn N (x0, x1) =
    bif decide (0 < (x0.length : Int)) then
      bif ((decide (0 ≤ (w ((x0.length : Int) - 1)))) && (decide ((w ((x0.length : Int) - 1)) < (x0.length : Int)))) || !(decide (x1 ≥ (((List.getD x0 0 ((0, ((0, 0), 0)), (0, 0))).1).1))) then
        some ((decide (x1 ≥ (((List.getD x0 0 ((0, ((0, 0), 0)), (0, 0))).1).1))) && (decide (x1 ≤ (((List.getD x0 (Int.toNat (w ((x0.length : Int) - 1))) ((0, ((0, 0), 0)), (0, 0))).1).1))))
      else
        none
    else
      none := by
  rw [effect_has.eq]; simp only [taut21, taut23, cond_true]

/-! ### effect_Differs: skyway/effect.Differs -/
def effect_Differs.kp : List (Nat × List (Nat × Option (TypeId × Ty))) := [(12, [(0, none), (1, none), (9, none), (10, none)])]
noncomputable def effect_Differs.G (N : Nat) : List (Nat × Spec) := [(13, .pure (tube_Check.S N)), (22, .pure (effect_has.S N)), (23, .pure (tube_Point.S N))]
noncomputable def effect_Differs.E (N : Nat) : Env := mkEnv (effect_Differs.G N) N tyTab effect_Differs.kp
noncomputable def effect_Differs.fn (N : Nat) (x : List ((Int × (Int × Int) × Int) × Int × Int) × List ((Int × (Int × Int) × Int) × Int × Int)) : Option (Int × Int) := evFn (effect_Differs.E N) Tryd.prog 3 Tryd.f12 false [.cell (.sl 39 (.pair (.pair (.int .i64) (.pair (.pair (.int .i64) (.int .i64)) (.int .i64))) (.pair (.int .i64) (.int .i64)))), .cell (.sl 39 (.pair (.pair (.int .i64) (.pair (.pair (.int .i64) (.int .i64)) (.int .i64))) (.pair (.int .i64) (.int .i64))))] [.val (.cell (.int .i64)), .val (.cell (.int .i64))] x
noncomputable def effect_Differs.S (N : Nat) : PSpec := ⟨false, [.cell (.sl 39 (.pair (.pair (.int .i64) (.pair (.pair (.int .i64) (.int .i64)) (.int .i64))) (.pair (.int .i64) (.int .i64)))), .cell (.sl 39 (.pair (.pair (.int .i64) (.pair (.pair (.int .i64) (.int .i64)) (.int .i64))) (.pair (.int .i64) (.int .i64))))], [.val (.cell (.int .i64)), .val (.cell (.int .i64))], effect_Differs.fn N⟩
theorem f12_enters : Enters Tryd.prog 12 := ⟨Tryd.f12, Tryd.func12, by kernel_rfl, by kernel_rfl⟩
theorem effect_Differs.tab (N : Nat) : TabOk Tryd.prog (effect_Differs.G N) := ⟨⟨tube_Check.enters, tube_Check.sound N⟩, ⟨effect_has.enters, effect_has.sound N⟩, ⟨tube_Point.enters, tube_Point.sound N⟩, trivial⟩
theorem effect_Differs.enters : Enters Tryd.prog 12 := f12_enters
theorem effect_Differs.sound (N : Nat) : Sound Tryd.prog 12 (effect_Differs.S N) := evFn_sound (specs_tab (effect_Differs.tab N)) (inls_tab (effect_Differs.tab N)) mixed 3 Tryd.func12 _ _ _
noncomputable def effect_Differs.cd (N : Nat) (p : List Nat) : St → (Ex → St → Option (Int × Int)) → Option (Int × Int) := ev (effect_Differs.E N) Tryd.prog (callD (effect_Differs.E N) Tryd.prog 3) 0 (codeAt (bodyOf Tryd.f12) p)
noncomputable def effect_Differs.fin : Ex → St → Option (Int × Int) := endK Tryd.prog Tryd.f12 [.val (.cell (.int .i64)), .val (.cell (.int .i64))]
noncomputable def effect_Differs.l0 (N : Nat) (x0 : List ((Int × (Int × Int) × Int) × Int × Int)) (x1 : List ((Int × (Int × Int) × Int) × Int × Int)) (k3 : Nat) (a4 : Int) : Option (Int × Int) :=
  loopN (norm ((effect_Differs.E N).keep 12) 0) (effect_Differs.cd N [1, 1, 1, 1, 1, 1, 0, 1, 0, 0]) k3
  ⟨[.ros false 39 (.pair (.pair (.int .i64) (.pair (.pair (.int .i64) (.int .i64)) (.int .i64))) (.pair (.int .i64) (.int .i64))) x0, .ros false 39 (.pair (.pair (.int .i64) (.pair (.pair (.int .i64) (.int .i64)) (.int .i64))) (.pair (.int .i64) (.int .i64))) x1, .any, .any, .any, .any, .any, .any, .any, .sc (.int .i64 (if ((List.getD x1 (Int.toNat (w ((x1.length : Int) - 1))) ((0, ((0, 0), 0)), (0, 0))).1).1 > ((List.getD x0 (Int.toNat (w ((x0.length : Int) - 1))) ((0, ((0, 0), 0)), (0, 0))).1).1 then ((List.getD x1 (Int.toNat (w ((x1.length : Int) - 1))) ((0, ((0, 0), 0)), (0, 0))).1).1 else ((List.getD x0 (Int.toNat (w ((x0.length : Int) - 1))) ((0, ((0, 0), 0)), (0, 0))).1).1)), .sc (.int .i64 a4), .any, .any, .any, .any, .any, .any, .any, .any, .any, .any, .any, .any, .any, .any, .any, .any, .any, .any, .any, .any, .any, .any, .any, .any, .any, .any, .any, .any, .any, .any, .any, .any, .any, .any, .any, .any, .any, .any, .any, .any, .any, .any, .any, .any, .any, .any, .any, .any, .any, .any, .any, .any, .any, .any, .any, .any, .any, .any, .any, .any, .any, .any, .any, .any, .any, .any, .any, .any, .any, .any, .any, .any, .any, .any, .any, .any, .any, .any, .any, .any, .any, .any, .any, .any, .any], []⟩
  (blockK 0 (seqK (effect_Differs.cd N [1, 1, 1, 1, 1, 1, 1]) effect_Differs.fin))
theorem effect_Differs.l0_zero (N : Nat) (x0 : List ((Int × (Int × Int) × Int) × Int × Int)) (x1 : List ((Int × (Int × Int) × Int) × Int × Int)) (a4 : Int) : effect_Differs.l0 N x0 x1 0 a4 = none := by kernel_rfl
theorem effect_Differs.l0_succ (N : Nat) (x0 : List ((Int × (Int × Int) × Int) × Int × Int)) (x1 : List ((Int × (Int × Int) × Int) × Int × Int)) (k3 : Nat) (a4 : Int) : effect_Differs.l0 N x0 x1 (k3 + 1) a4 =
    bif decide (a4 ≤ (if ((List.getD x1 (Int.toNat (w ((x1.length : Int) - 1))) ((0, ((0, 0), 0)), (0, 0))).1).1 > ((List.getD x0 (Int.toNat (w ((x0.length : Int) - 1))) ((0, ((0, 0), 0)), (0, 0))).1).1 then ((List.getD x1 (Int.toNat (w ((x1.length : Int) - 1))) ((0, ((0, 0), 0)), (0, 0))).1).1 else ((List.getD x0 (Int.toNat (w ((x0.length : Int) - 1))) ((0, ((0, 0), 0)), (0, 0))).1).1)) then
      (effect_has.fn N (x0, a4)).bind fun r5 =>
      (effect_has.fn N (x1, a4)).bind fun r6 =>
      bif !(r5 == r6) then
        some (a4, 0)
      else
        (effect_has.fn N (x0, a4)).bind fun r7 =>
        bif !r7 then
          effect_Differs.l0 N x0 x1 k3 (w (a4 + 1))
        else
          (tube_Point.fn N (x0, a4)).bind fun r8 =>
          (tube_Point.fn N (x1, a4)).bind fun r9 =>
          bif !(!(!((r8.1.2.1.1 == r9.1.2.1.1) && ((r8.1.2.1.2 == r9.1.2.1.2) && true)))) || (!(!((r8.1.2.1.1 == r9.1.2.1.1) && ((r8.1.2.1.2 == r9.1.2.1.2) && true)))) then
            bif !(!(!((r8.1.2.1.1 == r9.1.2.1.1) && ((r8.1.2.1.2 == r9.1.2.1.2) && true)))) || (!(!((r8.1.2.1.1 == r9.1.2.1.1) && ((r8.1.2.1.2 == r9.1.2.1.2) && true)))) then
              bif !(!(!((r8.1.2.1.1 == r9.1.2.1.1) && ((r8.1.2.1.2 == r9.1.2.1.2) && true)))) || (!(!((r8.1.2.1.1 == r9.1.2.1.1) && ((r8.1.2.1.2 == r9.1.2.1.2) && true)))) then
                bif !(!(!((r8.1.2.1.1 == r9.1.2.1.1) && ((r8.1.2.1.2 == r9.1.2.1.2) && true)))) || (!(!((r8.1.2.1.1 == r9.1.2.1.1) && ((r8.1.2.1.2 == r9.1.2.1.2) && true)))) then
                  bif !(!(!((r8.1.2.1.1 == r9.1.2.1.1) && ((r8.1.2.1.2 == r9.1.2.1.2) && true)))) || (!(!((r8.1.2.1.1 == r9.1.2.1.1) && ((r8.1.2.1.2 == r9.1.2.1.2) && true)))) then
                    bif !(!(!((r8.1.2.1.1 == r9.1.2.1.1) && ((r8.1.2.1.2 == r9.1.2.1.2) && true)))) || (!(!((r8.1.2.1.1 == r9.1.2.1.1) && ((r8.1.2.1.2 == r9.1.2.1.2) && true)))) then
                      bif (!((r8.1.2.1.1 == r9.1.2.1.1) && ((r8.1.2.1.2 == r9.1.2.1.2) && true))) || (!(!((r8.1.2.1.1 == r9.1.2.1.1) && ((r8.1.2.1.2 == r9.1.2.1.2) && true)))) then
                        bif (!((r8.1.2.1.1 == r9.1.2.1.1) && ((r8.1.2.1.2 == r9.1.2.1.2) && true))) || (!(r8.1.2.2 == r9.1.2.2)) then
                          some (a4, 0)
                        else
                          effect_Differs.l0 N x0 x1 k3 (w (a4 + 1))
                      else
                        none
                    else
                      none
                  else
                    none
                else
                  none
              else
                none
            else
              none
          else
            none
    else
      some (0, 8) := by kernel_rfl
theorem taut30 : ∀ p0 p1 : Bool, ((!(!(!((p0) && ((p1) && true)))) || (!(!((p0) && ((p1) && true)))))) = true := by decide
theorem taut31 : ∀ p0 p1 : Bool, (((!((p0) && ((p1) && true))) || (!(!((p0) && ((p1) && true)))))) = true := by decide
theorem effect_Differs.l0_clean (N : Nat) (x0 : List ((Int × (Int × Int) × Int) × Int × Int)) (x1 : List ((Int × (Int × Int) × Int) × Int × Int)) (k3 : Nat) (a4 : Int) : effect_Differs.l0 N x0 x1 (k3 + 1) a4 =
    bif decide (a4 ≤ (if ((List.getD x1 (Int.toNat (w ((x1.length : Int) - 1))) ((0, ((0, 0), 0)), (0, 0))).1).1 > ((List.getD x0 (Int.toNat (w ((x0.length : Int) - 1))) ((0, ((0, 0), 0)), (0, 0))).1).1 then ((List.getD x1 (Int.toNat (w ((x1.length : Int) - 1))) ((0, ((0, 0), 0)), (0, 0))).1).1 else ((List.getD x0 (Int.toNat (w ((x0.length : Int) - 1))) ((0, ((0, 0), 0)), (0, 0))).1).1)) then
      (effect_has.fn N (x0, a4)).bind fun r5 =>
      (effect_has.fn N (x1, a4)).bind fun r6 =>
      bif !(r5 == r6) then
        some (a4, 0)
      else
        (effect_has.fn N (x0, a4)).bind fun r7 =>
        bif !r7 then
          effect_Differs.l0 N x0 x1 k3 (w (a4 + 1))
        else
          (tube_Point.fn N (x0, a4)).bind fun r8 =>
          (tube_Point.fn N (x1, a4)).bind fun r9 =>
          bif (!((r8.1.2.1.1 == r9.1.2.1.1) && ((r8.1.2.1.2 == r9.1.2.1.2) && true))) || (!(r8.1.2.2 == r9.1.2.2)) then
            some (a4, 0)
          else
            effect_Differs.l0 N x0 x1 k3 (w (a4 + 1))
    else
      some (0, 8) := by
  rw [effect_Differs.l0_succ]; simp only [taut30, taut31, cond_true]
theorem effect_Differs.eq (N : Nat) (x0 : List ((Int × (Int × Int) × Int) × Int × Int)) (x1 : List ((Int × (Int × Int) × Int) × Int × Int)) : effect_Differs.fn N (x0, x1) =
    (tube_Check.fn N x0).bind fun r1 =>
    bif !(r1 == 0) then
      some (0, r1)
    else
      (tube_Check.fn N x1).bind fun r2 =>
      bif !(r2 == 0) then
        some (0, r2)
      else
      bif decide (0 < (x0.length : Int)) then
        bif decide (0 < (x1.length : Int)) then
          bif (decide (0 ≤ (w ((x0.length : Int) - 1)))) && (decide ((w ((x0.length : Int) - 1)) < (x0.length : Int))) then
            bif (decide (0 ≤ (w ((x1.length : Int) - 1)))) && (decide ((w ((x1.length : Int) - 1)) < (x1.length : Int))) then
              bif decide ((w ((if ((List.getD x1 (Int.toNat (w ((x1.length : Int) - 1))) ((0, ((0, 0), 0)), (0, 0))).1).1 > ((List.getD x0 (Int.toNat (w ((x0.length : Int) - 1))) ((0, ((0, 0), 0)), (0, 0))).1).1 then ((List.getD x1 (Int.toNat (w ((x1.length : Int) - 1))) ((0, ((0, 0), 0)), (0, 0))).1).1 else ((List.getD x0 (Int.toNat (w ((x0.length : Int) - 1))) ((0, ((0, 0), 0)), (0, 0))).1).1) - (if ((List.getD x1 0 ((0, ((0, 0), 0)), (0, 0))).1).1 < ((List.getD x0 0 ((0, ((0, 0), 0)), (0, 0))).1).1 then ((List.getD x1 0 ((0, ((0, 0), 0)), (0, 0))).1).1 else ((List.getD x0 0 ((0, ((0, 0), 0)), (0, 0))).1).1))) > 20000) then
                some (0, 2)
              else
                effect_Differs.l0 N x0 x1 N (if ((List.getD x1 0 ((0, ((0, 0), 0)), (0, 0))).1).1 < ((List.getD x0 0 ((0, ((0, 0), 0)), (0, 0))).1).1 then ((List.getD x1 0 ((0, ((0, 0), 0)), (0, 0))).1).1 else ((List.getD x0 0 ((0, ((0, 0), 0)), (0, 0))).1).1)
            else
              none
          else
            none
        else
          none
      else
        none := by kernel_rfl

/-! ### law_effectFact: skyway/skywaylaw3.effectFact -/
def law_effectFact.kp : List (Nat × List (Nat × Option (TypeId × Ty))) := [(999999, [(0, none)])]
noncomputable def law_effectFact.G (N : Nat) : List (Nat × Spec) := [(5, .pure (effect_Of.S N)), (9, .pure (law_level.S N)), (10, .pure (law_climbed.S N)), (11, .pure (law_jet.S N)), (12, .pure (effect_Differs.S N))]
noncomputable def law_effectFact.E (N : Nat) : Env := mkEnv (law_effectFact.G N) N tyTab law_effectFact.kp
noncomputable def law_effectFact.fn (N : Nat) (x : Unit) : Option Bool := evFn (law_effectFact.E N) Tryd.prog 8 Tryd.f4 false [] [.val (.cell (.bool))] x
noncomputable def law_effectFact.S (N : Nat) : PSpec := ⟨false, [], [.val (.cell (.bool))], law_effectFact.fn N⟩
theorem f4_enters : Enters Tryd.prog 4 := ⟨Tryd.f4, Tryd.func4, by kernel_rfl, by kernel_rfl⟩
theorem law_effectFact.tab (N : Nat) : TabOk Tryd.prog (law_effectFact.G N) := ⟨⟨effect_Of.enters, effect_Of.sound N⟩, ⟨law_level.enters, law_level.sound N⟩, ⟨law_climbed.enters, law_climbed.sound N⟩, ⟨law_jet.enters, law_jet.sound N⟩, ⟨effect_Differs.enters, effect_Differs.sound N⟩, trivial⟩
theorem law_effectFact.enters : Enters Tryd.prog 4 := f4_enters
theorem law_effectFact.sound (N : Nat) : Sound Tryd.prog 4 (law_effectFact.S N) := evFn_sound (specs_tab (law_effectFact.tab N)) (inls_tab (law_effectFact.tab N)) mixed 8 Tryd.func4 _ _ _
theorem law_effectFact.eq (N : Nat) : law_effectFact.fn N () =
    (law_level.fn N ()).bind fun r1 =>
    (law_climbed.fn N 9500).bind fun r2 =>
    (law_jet.fn N ()).bind fun r3 =>
    (effect_Of.fn N (r1, r2, 0, r3, (0, 0))).bind fun r4 =>
    (law_level.fn N ()).bind fun r5 =>
    (effect_Differs.fn N (r5, r4.1)).bind fun r6 =>
    bif r4.2 == 0 then
      bif r6.2 == 0 then
        bif (r4.1.length : Int) == 3 then
          bif decide (1 < (r4.1.length : Int)) then
            bif decide (1 < r4.1.length) then
              bif (((List.getD r4.1 1 ((0, ((0, 0), 0)), (0, 0))).1).1) == 10 then
                bif decide (1 < (r4.1.length : Int)) then
                  bif decide (1 < r4.1.length) then
                    bif ((((List.getD r4.1 1 ((0, ((0, 0), 0)), (0, 0))).1).2).2) == 9500 then
                      bif decide (1 < (r4.1.length : Int)) then
                        bif decide (1 < r4.1.length) then
                          bif (((((List.getD r4.1 1 ((0, ((0, 0), 0)), (0, 0))).1).2).1).1) == 1000 then
                            bif decide (2 < (r4.1.length : Int)) then
                              bif decide (2 < r4.1.length) then
                                bif ((((List.getD r4.1 2 ((0, ((0, 0), 0)), (0, 0))).1).2).2) == 9500 then
                                  bif decide (1 < (r4.1.length : Int)) then
                                    bif decide (1 < r4.1.length) then
                                      bif (((List.getD r4.1 1 ((0, ((0, 0), 0)), (0, 0))).2).1) == 100 then
                                        some (r6.1 == 1)
                                      else
                                        some false
                                    else
                                      none
                                  else
                                    none
                                else
                                  some false
                              else
                                none
                            else
                              none
                          else
                            some false
                        else
                          none
                      else
                        none
                    else
                      some false
                  else
                    none
                else
                  none
              else
                some false
            else
              none
          else
            none
        else
          some false
      else
        some false
    else
      some false := by kernel_rfl

/-! ### ref_word: skyway/skywayref3.word -/
def ref_word.kp : List (Nat × List (Nat × Option (TypeId × Ty))) := []
noncomputable def ref_word.G (N : Nat) : List (Nat × Spec) := []
noncomputable def ref_word.E (N : Nat) : Env := mkEnv (ref_word.G N) N tyTab ref_word.kp
noncomputable def ref_word.fn (N : Nat) (x : Int) : Option ByteArray := evFn (ref_word.E N) Tryd.prog 3 Tryd.f49 false [.cell (.int .i64)] [.val (.cell (.str))] x
noncomputable def ref_word.S (N : Nat) : PSpec := ⟨false, [.cell (.int .i64)], [.val (.cell (.str))], ref_word.fn N⟩
theorem f49_enters : Enters Tryd.prog 49 := ⟨Tryd.f49, Tryd.func49, by kernel_rfl, by kernel_rfl⟩
theorem ref_word.tab (N : Nat) : TabOk Tryd.prog (ref_word.G N) := trivial
theorem ref_word.enters : Enters Tryd.prog 49 := f49_enters
theorem ref_word.sound (N : Nat) : Sound Tryd.prog 49 (ref_word.S N) := evFn_sound (specs_tab (ref_word.tab N)) (inls_tab (ref_word.tab N)) mixed 3 Tryd.func49 _ _ _
theorem ref_word.eq (N : Nat) (x0 : Int) : ref_word.fn N x0 =
    bif (decide (0 ≤ x0)) && (decide (x0 < 7)) then
      bif decide ((Int.toNat x0) < 7) then
        some (List.getD [(⟨#[72, 69, 73, 71, 72, 84]⟩ : ByteArray), (⟨#[72, 69, 65, 68, 73, 78, 71]⟩ : ByteArray), (⟨#[83, 80, 69, 69, 68]⟩ : ByteArray), (⟨#[68, 73, 82, 69, 67, 84]⟩ : ByteArray), (⟨#[72, 79, 76, 68]⟩ : ByteArray), (⟨#[67, 79, 78, 84, 65, 67, 84]⟩ : ByteArray), (⟨#[76, 65, 78, 68]⟩ : ByteArray)] (Int.toNat x0) (⟨#[]⟩ : ByteArray))
      else
        none
    else
      none := by kernel_rfl

/-! ### ref_IsName: skyway/skywayref3.IsName -/
def ref_IsName.kp : List (Nat × List (Nat × Option (TypeId × Ty))) := [(4, [(0, none), (3, none)])]
noncomputable def ref_IsName.G (N : Nat) : List (Nat × Spec) := []
noncomputable def ref_IsName.E (N : Nat) : Env := mkEnv (ref_IsName.G N) N tyTab ref_IsName.kp
noncomputable def ref_IsName.fn (N : Nat) (x : ByteArray) : Option Bool := evFn (ref_IsName.E N) Tryd.prog 3 Tryd.f50 false [.cell (.str)] [.val (.cell (.bool))] x
noncomputable def ref_IsName.S (N : Nat) : PSpec := ⟨false, [.cell (.str)], [.val (.cell (.bool))], ref_IsName.fn N⟩
theorem f50_enters : Enters Tryd.prog 50 := ⟨Tryd.f50, Tryd.func50, by kernel_rfl, by kernel_rfl⟩
theorem ref_IsName.tab (N : Nat) : TabOk Tryd.prog (ref_IsName.G N) := trivial
theorem ref_IsName.enters : Enters Tryd.prog 50 := f50_enters
theorem ref_IsName.sound (N : Nat) : Sound Tryd.prog 50 (ref_IsName.S N) := evFn_sound (specs_tab (ref_IsName.tab N)) (inls_tab (ref_IsName.tab N)) mixed 3 Tryd.func50 _ _ _
noncomputable def ref_IsName.cd (N : Nat) (p : List Nat) : St → (Ex → St → Option Bool) → Option Bool := ev (ref_IsName.E N) Tryd.prog (callD (ref_IsName.E N) Tryd.prog 3) 0 (codeAt (bodyOf Tryd.f50) p)
noncomputable def ref_IsName.fin : Ex → St → Option Bool := endK Tryd.prog Tryd.f50 [.val (.cell (.bool))]
noncomputable def ref_IsName.l0 (N : Nat) (x0 : ByteArray) (k1 : Nat) (a2 : Int) : Option Bool :=
  loopN (norm ((ref_IsName.E N).keep 4) 0) (ref_IsName.cd N [1, 1, 0, 1, 0, 0]) k1
  ⟨[.sc (.string x0), .any, .any, .sc (.int .i64 a2), .any, .any, .any, .any, .any, .any, .any, .any, .any, .any, .any, .any, .any, .any, .any, .any, .any, .any, .any, .any, .any, .any, .any, .any, .any, .any, .any, .any, .any, .any, .any, .any, .any, .any, .any, .any, .any, .any, .any, .any, .any], []⟩
  (blockK 0 (seqK (ref_IsName.cd N [1, 1, 1]) ref_IsName.fin))
theorem ref_IsName.l0_zero (N : Nat) (x0 : ByteArray) (a2 : Int) : ref_IsName.l0 N x0 0 a2 = none := by kernel_rfl
theorem ref_IsName.l0_succ (N : Nat) (x0 : ByteArray) (k1 : Nat) (a2 : Int) : ref_IsName.l0 N x0 (k1 + 1) a2 =
    bif decide (a2 < (x0.size : Int)) then
      bif (decide (0 ≤ a2)) && (decide (a2 < (x0.size : Int))) then
        bif !(!(decide (((((ByteArray.data x0).getD (Int.toNat a2) 0).toNat : Nat) : Int) < 65))) || (!(decide (((((ByteArray.data x0).getD (Int.toNat a2) 0).toNat : Nat) : Int) < 65))) then
          bif (decide (((((ByteArray.data x0).getD (Int.toNat a2) 0).toNat : Nat) : Int) < 65)) || (!(decide (((((ByteArray.data x0).getD (Int.toNat a2) 0).toNat : Nat) : Int) < 65))) then
            bif !((decide (((((ByteArray.data x0).getD (Int.toNat a2) 0).toNat : Nat) : Int) < 65)) || (decide (((((ByteArray.data x0).getD (Int.toNat a2) 0).toNat : Nat) : Int) > 90))) || ((decide (((((ByteArray.data x0).getD (Int.toNat a2) 0).toNat : Nat) : Int) < 65)) || (decide (((((ByteArray.data x0).getD (Int.toNat a2) 0).toNat : Nat) : Int) > 90))) then
              bif !((decide (((((ByteArray.data x0).getD (Int.toNat a2) 0).toNat : Nat) : Int) < 65)) || (decide (((((ByteArray.data x0).getD (Int.toNat a2) 0).toNat : Nat) : Int) > 90))) || ((decide (((((ByteArray.data x0).getD (Int.toNat a2) 0).toNat : Nat) : Int) < 65)) || (decide (((((ByteArray.data x0).getD (Int.toNat a2) 0).toNat : Nat) : Int) > 90))) then
                bif !(((decide (((((ByteArray.data x0).getD (Int.toNat a2) 0).toNat : Nat) : Int) < 65)) || (decide (((((ByteArray.data x0).getD (Int.toNat a2) 0).toNat : Nat) : Int) > 90))) && (!(decide (((((ByteArray.data x0).getD (Int.toNat a2) 0).toNat : Nat) : Int) < 48)))) || (((decide (((((ByteArray.data x0).getD (Int.toNat a2) 0).toNat : Nat) : Int) < 65)) || (decide (((((ByteArray.data x0).getD (Int.toNat a2) 0).toNat : Nat) : Int) > 90))) && (!(decide (((((ByteArray.data x0).getD (Int.toNat a2) 0).toNat : Nat) : Int) < 48)))) then
                  bif !((decide (((((ByteArray.data x0).getD (Int.toNat a2) 0).toNat : Nat) : Int) < 65)) || (decide (((((ByteArray.data x0).getD (Int.toNat a2) 0).toNat : Nat) : Int) > 90))) || ((decide (((((ByteArray.data x0).getD (Int.toNat a2) 0).toNat : Nat) : Int) < 65)) || (decide (((((ByteArray.data x0).getD (Int.toNat a2) 0).toNat : Nat) : Int) > 90))) then
                    bif !((decide (((((ByteArray.data x0).getD (Int.toNat a2) 0).toNat : Nat) : Int) < 65)) || (decide (((((ByteArray.data x0).getD (Int.toNat a2) 0).toNat : Nat) : Int) > 90))) || ((decide (((((ByteArray.data x0).getD (Int.toNat a2) 0).toNat : Nat) : Int) < 48)) || (((decide (((((ByteArray.data x0).getD (Int.toNat a2) 0).toNat : Nat) : Int) < 65)) || (decide (((((ByteArray.data x0).getD (Int.toNat a2) 0).toNat : Nat) : Int) > 90))) && (!(decide (((((ByteArray.data x0).getD (Int.toNat a2) 0).toNat : Nat) : Int) < 48))))) then
                      bif (!((decide (((((ByteArray.data x0).getD (Int.toNat a2) 0).toNat : Nat) : Int) < 65)) || (decide (((((ByteArray.data x0).getD (Int.toNat a2) 0).toNat : Nat) : Int) > 90)))) || ((decide (((((ByteArray.data x0).getD (Int.toNat a2) 0).toNat : Nat) : Int) < 65)) || (decide (((((ByteArray.data x0).getD (Int.toNat a2) 0).toNat : Nat) : Int) > 90))) then
                        bif ((decide (((((ByteArray.data x0).getD (Int.toNat a2) 0).toNat : Nat) : Int) < 65)) || (decide (((((ByteArray.data x0).getD (Int.toNat a2) 0).toNat : Nat) : Int) > 90))) && ((decide (((((ByteArray.data x0).getD (Int.toNat a2) 0).toNat : Nat) : Int) < 48)) || (decide (((((ByteArray.data x0).getD (Int.toNat a2) 0).toNat : Nat) : Int) > 57))) then
                          some false
                        else
                          ref_IsName.l0 N x0 k1 (w (a2 + 1))
                      else
                        none
                    else
                      none
                  else
                    none
                else
                  none
              else
                none
            else
              none
          else
            none
        else
          none
      else
        none
    else
      some true := by kernel_rfl
theorem ref_IsName.l0_clean (N : Nat) (x0 : ByteArray) (k1 : Nat) (a2 : Int) : ref_IsName.l0 N x0 (k1 + 1) a2 =
    bif decide (a2 < (x0.size : Int)) then
      bif (decide (0 ≤ a2)) && (decide (a2 < (x0.size : Int))) then
        bif ((decide (((((ByteArray.data x0).getD (Int.toNat a2) 0).toNat : Nat) : Int) < 65)) || (decide (((((ByteArray.data x0).getD (Int.toNat a2) 0).toNat : Nat) : Int) > 90))) && ((decide (((((ByteArray.data x0).getD (Int.toNat a2) 0).toNat : Nat) : Int) < 48)) || (decide (((((ByteArray.data x0).getD (Int.toNat a2) 0).toNat : Nat) : Int) > 57))) then
          some false
        else
          ref_IsName.l0 N x0 k1 (w (a2 + 1))
      else
        none
    else
      some true := by
  rw [ref_IsName.l0_succ]; simp only [taut3, taut13, taut14, taut15, taut16, taut6, cond_true]
theorem ref_IsName.l0_cons (N : Nat) (x0 : ByteArray) (k1 : Nat) {pre r} {x} (hl : x0.data.toList = pre ++ x :: r) (hb : x0.size < 4611686018427387904) : ref_IsName.l0 N x0 (k1 + 1) (pre.length : Int) =
    bif ((decide (((x.toNat : Nat) : Int) < 65)) || (decide (((x.toNat : Nat) : Int) > 90))) && ((decide (((x.toNat : Nat) : Int) < 48)) || (decide (((x.toNat : Nat) : Int) > 57))) then
      some false
    else
      ref_IsName.l0 N x0 k1 ((pre.length : Int) + 1) := by
  have hlen : x0.size = pre.length + 1 + r.length := by rw [ByteArray.size, ← Array.length_toList, hl]; simp; omega
  have e1 : decide ((pre.length : Int) < (x0.size : Int)) = true := by rw [decide_eq_true_iff]; omega
  have e2 : decide (0 ≤ (pre.length : Int)) = true := by rw [decide_eq_true_iff]; omega
  have e4 : w ((pre.length : Int) + 1) = (pre.length : Int) + 1 := w_next hl (by rw [Array.length_toList]; exact hb)
  have e6 : decide ((pre.length : Int) ≤ (x0.size : Int)) = true := by rw [decide_eq_true_iff]; omega
  have g0 : (ByteArray.data x0).getD pre.length 0 = x := getD_bytes hl
  rw [ref_IsName.l0_clean]
  simp -implicitDefEqProofs only [Int.toNat_natCast, e1, e2, e4, e6, g0, Bool.and_true, Bool.true_and, Bool.true_or, cond_true]
theorem ref_IsName.l0_nil (N : Nat) (x0 : ByteArray) (k1 : Nat) : ref_IsName.l0 N x0 (k1 + 1) (x0.size : Int) =
    some true := by
  have e1 : decide ((x0.size : Int) < (x0.size : Int)) = false := by rw [decide_eq_false_iff_not]; omega
  rw [ref_IsName.l0_clean]
  simp -implicitDefEqProofs only [e1, cond_false]
theorem ref_IsName.eq (N : Nat) (x0 : ByteArray) : ref_IsName.fn N x0 =
    bif !(!(seq x0 (⟨#[]⟩ : ByteArray))) || (!(seq x0 (⟨#[]⟩ : ByteArray))) then
      bif !(!(seq x0 (⟨#[]⟩ : ByteArray))) || (!(seq x0 (⟨#[]⟩ : ByteArray))) then
        bif (seq x0 (⟨#[]⟩ : ByteArray)) || (!(seq x0 (⟨#[]⟩ : ByteArray))) then
          bif !(!((seq x0 (⟨#[]⟩ : ByteArray)) || (decide ((x0.size : Int) > 8)))) || (!((seq x0 (⟨#[]⟩ : ByteArray)) || (decide ((x0.size : Int) > 8)))) then
            bif (decide (0 < (x0.size : Int))) || !(!((seq x0 (⟨#[]⟩ : ByteArray)) || (decide ((x0.size : Int) > 8)))) then
              bif !(!((seq x0 (⟨#[]⟩ : ByteArray)) || (decide ((x0.size : Int) > 8)))) || (!((seq x0 (⟨#[]⟩ : ByteArray)) || (decide ((x0.size : Int) > 8)))) then
                bif !(!((seq x0 (⟨#[]⟩ : ByteArray)) || (decide ((x0.size : Int) > 8)))) || (!((seq x0 (⟨#[]⟩ : ByteArray)) || (decide ((x0.size : Int) > 8)))) then
                  bif !((!((seq x0 (⟨#[]⟩ : ByteArray)) || (decide ((x0.size : Int) > 8)))) && (decide (((((ByteArray.data x0).getD 0 0).toNat : Nat) : Int) ≥ 48))) || ((!((seq x0 (⟨#[]⟩ : ByteArray)) || (decide ((x0.size : Int) > 8)))) && (decide (((((ByteArray.data x0).getD 0 0).toNat : Nat) : Int) ≥ 48))) then
                    bif (decide (0 < (x0.size : Int))) || !((!((seq x0 (⟨#[]⟩ : ByteArray)) || (decide ((x0.size : Int) > 8)))) && (decide (((((ByteArray.data x0).getD 0 0).toNat : Nat) : Int) ≥ 48))) then
                      bif !((!((seq x0 (⟨#[]⟩ : ByteArray)) || (decide ((x0.size : Int) > 8)))) && (decide (((((ByteArray.data x0).getD 0 0).toNat : Nat) : Int) ≥ 48))) || ((!((seq x0 (⟨#[]⟩ : ByteArray)) || (decide ((x0.size : Int) > 8)))) && (decide (((((ByteArray.data x0).getD 0 0).toNat : Nat) : Int) ≥ 48))) then
                        bif !(!((seq x0 (⟨#[]⟩ : ByteArray)) || (decide ((x0.size : Int) > 8)))) || (!((seq x0 (⟨#[]⟩ : ByteArray)) || (decide ((x0.size : Int) > 8)))) then
                          bif !(!((seq x0 (⟨#[]⟩ : ByteArray)) || (decide ((x0.size : Int) > 8)))) || ((!(decide (((((ByteArray.data x0).getD 0 0).toNat : Nat) : Int) ≥ 48))) || ((!((seq x0 (⟨#[]⟩ : ByteArray)) || (decide ((x0.size : Int) > 8)))) && (decide (((((ByteArray.data x0).getD 0 0).toNat : Nat) : Int) ≥ 48)))) then
                            bif ((seq x0 (⟨#[]⟩ : ByteArray)) || (decide ((x0.size : Int) > 8))) || (!((seq x0 (⟨#[]⟩ : ByteArray)) || (decide ((x0.size : Int) > 8)))) then
                              bif ((seq x0 (⟨#[]⟩ : ByteArray)) || (decide ((x0.size : Int) > 8))) || ((decide (((((ByteArray.data x0).getD 0 0).toNat : Nat) : Int) ≥ 48)) && (decide (((((ByteArray.data x0).getD 0 0).toNat : Nat) : Int) ≤ 57))) then
                                some false
                              else
                                ref_IsName.l0 N x0 N 0
                            else
                              none
                          else
                            none
                        else
                          none
                      else
                        none
                    else
                      none
                  else
                    none
                else
                  none
              else
                none
            else
              none
          else
            none
        else
          none
      else
        none
    else
      none := by kernel_rfl
theorem ref_IsName.clean (N : Nat) (x0 : ByteArray) : ref_IsName.fn N x0 =
    bif (decide (0 < (x0.size : Int))) || !(!((seq x0 (⟨#[]⟩ : ByteArray)) || (decide ((x0.size : Int) > 8)))) then
      bif (decide (0 < (x0.size : Int))) || !((!((seq x0 (⟨#[]⟩ : ByteArray)) || (decide ((x0.size : Int) > 8)))) && (decide (((((ByteArray.data x0).getD 0 0).toNat : Nat) : Int) ≥ 48))) then
        bif ((seq x0 (⟨#[]⟩ : ByteArray)) || (decide ((x0.size : Int) > 8))) || ((decide (((((ByteArray.data x0).getD 0 0).toNat : Nat) : Int) ≥ 48)) && (decide (((((ByteArray.data x0).getD 0 0).toNat : Nat) : Int) ≤ 57))) then
          some false
        else
          ref_IsName.l0 N x0 N 0
      else
        none
    else
      none := by
  rw [ref_IsName.eq]; simp only [taut2, taut9, taut3, taut10, taut5, taut6, cond_true]

/-! ### ref_free: skyway/skywayref3.free -/
def ref_free.kp : List (Nat × List (Nat × Option (TypeId × Ty))) := [(2, [(0, none), (4, none)])]
noncomputable def ref_free.G (N : Nat) : List (Nat × Spec) := [(49, .pure (ref_word.S N)), (50, .pure (ref_IsName.S N))]
noncomputable def ref_free.E (N : Nat) : Env := mkEnv (ref_free.G N) N tyTab ref_free.kp
noncomputable def ref_free.fn (N : Nat) (x : ByteArray) : Option Bool := evFn (ref_free.E N) Tryd.prog 3 Tryd.f32 false [.cell (.str)] [.val (.cell (.bool))] x
noncomputable def ref_free.S (N : Nat) : PSpec := ⟨false, [.cell (.str)], [.val (.cell (.bool))], ref_free.fn N⟩
theorem f32_enters : Enters Tryd.prog 32 := ⟨Tryd.f32, Tryd.func32, by kernel_rfl, by kernel_rfl⟩
theorem ref_free.tab (N : Nat) : TabOk Tryd.prog (ref_free.G N) := ⟨⟨ref_word.enters, ref_word.sound N⟩, ⟨ref_IsName.enters, ref_IsName.sound N⟩, trivial⟩
theorem ref_free.enters : Enters Tryd.prog 32 := f32_enters
theorem ref_free.sound (N : Nat) : Sound Tryd.prog 32 (ref_free.S N) := evFn_sound (specs_tab (ref_free.tab N)) (inls_tab (ref_free.tab N)) mixed 3 Tryd.func32 _ _ _
noncomputable def ref_free.cd (N : Nat) (p : List Nat) : St → (Ex → St → Option Bool) → Option Bool := ev (ref_free.E N) Tryd.prog (callD (ref_free.E N) Tryd.prog 3) 0 (codeAt (bodyOf Tryd.f32) p)
noncomputable def ref_free.fin : Ex → St → Option Bool := endK Tryd.prog Tryd.f32 [.val (.cell (.bool))]
noncomputable def ref_free.l0 (N : Nat) (x0 : ByteArray) (k1 : Nat) (a2 : Int) : Option Bool :=
  loopN (norm ((ref_free.E N).keep 2) 0) (ref_free.cd N [1, 0, 1, 0, 0]) k1
  ⟨[.sc (.string x0), .any, .any, .any, .sc (.int .i64 a2), .any, .any, .any, .any, .any, .any, .any, .any, .any], []⟩
  (blockK 0 (seqK (ref_free.cd N [1, 1]) ref_free.fin))
theorem ref_free.l0_zero (N : Nat) (x0 : ByteArray) (a2 : Int) : ref_free.l0 N x0 0 a2 = none := by kernel_rfl
theorem ref_free.l0_succ (N : Nat) (x0 : ByteArray) (k1 : Nat) (a2 : Int) : ref_free.l0 N x0 (k1 + 1) a2 =
    bif decide (a2 < 7) then
      (ref_word.fn N a2).bind fun r3 =>
      bif seq r3 x0 then
        some false
      else
        ref_free.l0 N x0 k1 (w (a2 + 1))
    else
      (ref_IsName.fn N x0).bind fun r4 =>
      some r4 := by kernel_rfl
theorem ref_free.eq (N : Nat) (x0 : ByteArray) : ref_free.fn N x0 =
    ref_free.l0 N x0 N 0 := by kernel_rfl

/-! ### ref_ClearError: skyway/skywayref3.ClearError -/
def ref_ClearError.kp : List (Nat × List (Nat × Option (TypeId × Ty))) := []
noncomputable def ref_ClearError.G (N : Nat) : List (Nat × Spec) := [(32, .pure (ref_free.S N))]
noncomputable def ref_ClearError.E (N : Nat) : Env := mkEnv (ref_ClearError.G N) N tyTab ref_ClearError.kp
noncomputable def ref_ClearError.fn (N : Nat) (x : ByteArray × Int × Int × ByteArray) : Option Int := evFn (ref_ClearError.E N) Tryd.prog 3 Tryd.f18 false [.agg (.pair (.str) (.pair (.int .i64) (.pair (.int .i64) (.str))))] [.val (.cell (.int .i64))] x
noncomputable def ref_ClearError.S (N : Nat) : PSpec := ⟨false, [.agg (.pair (.str) (.pair (.int .i64) (.pair (.int .i64) (.str))))], [.val (.cell (.int .i64))], ref_ClearError.fn N⟩
theorem f18_enters : Enters Tryd.prog 18 := ⟨Tryd.f18, Tryd.func18, by kernel_rfl, by kernel_rfl⟩
theorem ref_ClearError.tab (N : Nat) : TabOk Tryd.prog (ref_ClearError.G N) := ⟨⟨ref_free.enters, ref_free.sound N⟩, trivial⟩
theorem ref_ClearError.enters : Enters Tryd.prog 18 := f18_enters
theorem ref_ClearError.sound (N : Nat) : Sound Tryd.prog 18 (ref_ClearError.S N) := evFn_sound (specs_tab (ref_ClearError.tab N)) (inls_tab (ref_ClearError.tab N)) mixed 3 Tryd.func18 _ _ _
theorem ref_ClearError.eq (N : Nat) (x0 : ByteArray × Int × Int × ByteArray) : ref_ClearError.fn N x0 =
    (ref_free.fn N x0.1).bind fun r1 =>
    bif !r1 then
      some 3
    else
    bif !(!(decide (x0.2.1 < 0))) || (!(decide (x0.2.1 < 0))) then
      bif !(!(decide (x0.2.1 < 0))) || (!(decide (x0.2.1 < 0))) then
        bif (decide (x0.2.1 < 0)) || (!(decide (x0.2.1 < 0))) then
          bif (decide (x0.2.1 < 0)) || (decide (x0.2.1 > 6)) then
            some 1
          else
          bif (decide (0 ≤ x0.2.1)) && (decide (x0.2.1 < 7)) then
            bif decide ((Int.toNat x0.2.1) < 7) then
              bif !(decide ((List.getD [60000, 4095, 400, (-1), (-1), (-1), (-1)] (Int.toNat x0.2.1) 0) < 0)) || (decide ((List.getD [60000, 4095, 400, (-1), (-1), (-1), (-1)] (Int.toNat x0.2.1) 0) < 0)) then
                bif !(decide ((List.getD [60000, 4095, 400, (-1), (-1), (-1), (-1)] (Int.toNat x0.2.1) 0) < 0)) || (decide ((List.getD [60000, 4095, 400, (-1), (-1), (-1), (-1)] (Int.toNat x0.2.1) 0) < 0)) then
                  bif !(decide ((List.getD [60000, 4095, 400, (-1), (-1), (-1), (-1)] (Int.toNat x0.2.1) 0) < 0)) || (decide ((List.getD [60000, 4095, 400, (-1), (-1), (-1), (-1)] (Int.toNat x0.2.1) 0) < 0)) then
                    bif !((decide ((List.getD [60000, 4095, 400, (-1), (-1), (-1), (-1)] (Int.toNat x0.2.1) 0) < 0)) && (!(!(x0.2.2.1 == 0)))) || ((decide ((List.getD [60000, 4095, 400, (-1), (-1), (-1), (-1)] (Int.toNat x0.2.1) 0) < 0)) && (!(!(x0.2.2.1 == 0)))) then
                      bif !((decide ((List.getD [60000, 4095, 400, (-1), (-1), (-1), (-1)] (Int.toNat x0.2.1) 0) < 0)) && (!(!(x0.2.2.1 == 0)))) || ((decide ((List.getD [60000, 4095, 400, (-1), (-1), (-1), (-1)] (Int.toNat x0.2.1) 0) < 0)) && (!(!(x0.2.2.1 == 0)))) then
                        (bif ((decide ((List.getD [60000, 4095, 400, (-1), (-1), (-1), (-1)] (Int.toNat x0.2.1) 0) < 0)) && (!(!(x0.2.2.1 == 0)))) then ref_free.fn N x0.2.2.2 else some (false)).bind fun r2 =>
                        bif !((decide ((List.getD [60000, 4095, 400, (-1), (-1), (-1), (-1)] (Int.toNat x0.2.1) 0) < 0)) && (!(!(x0.2.2.1 == 0)))) || ((decide ((List.getD [60000, 4095, 400, (-1), (-1), (-1), (-1)] (Int.toNat x0.2.1) 0) < 0)) && (!(!(x0.2.2.1 == 0)))) then
                          bif !(decide ((List.getD [60000, 4095, 400, (-1), (-1), (-1), (-1)] (Int.toNat x0.2.1) 0) < 0)) || (decide ((List.getD [60000, 4095, 400, (-1), (-1), (-1), (-1)] (Int.toNat x0.2.1) 0) < 0)) then
                            bif !(decide ((List.getD [60000, 4095, 400, (-1), (-1), (-1), (-1)] (Int.toNat x0.2.1) 0) < 0)) || ((!(x0.2.2.1 == 0)) || ((decide ((List.getD [60000, 4095, 400, (-1), (-1), (-1), (-1)] (Int.toNat x0.2.1) 0) < 0)) && (!(!(x0.2.2.1 == 0))))) then
                              bif (!(decide ((List.getD [60000, 4095, 400, (-1), (-1), (-1), (-1)] (Int.toNat x0.2.1) 0) < 0))) || (decide ((List.getD [60000, 4095, 400, (-1), (-1), (-1), (-1)] (Int.toNat x0.2.1) 0) < 0)) then
                                bif !(!((decide ((List.getD [60000, 4095, 400, (-1), (-1), (-1), (-1)] (Int.toNat x0.2.1) 0) < 0)) && ((!(x0.2.2.1 == 0)) || (!r2)))) || (!((decide ((List.getD [60000, 4095, 400, (-1), (-1), (-1), (-1)] (Int.toNat x0.2.1) 0) < 0)) && ((!(x0.2.2.1 == 0)) || (!r2)))) then
                                  bif !(!((decide ((List.getD [60000, 4095, 400, (-1), (-1), (-1), (-1)] (Int.toNat x0.2.1) 0) < 0)) && ((!(x0.2.2.1 == 0)) || (!r2)))) || (!((decide ((List.getD [60000, 4095, 400, (-1), (-1), (-1), (-1)] (Int.toNat x0.2.1) 0) < 0)) && ((!(x0.2.2.1 == 0)) || (!r2)))) then
                                    bif !((!((decide ((List.getD [60000, 4095, 400, (-1), (-1), (-1), (-1)] (Int.toNat x0.2.1) 0) < 0)) && ((!(x0.2.2.1 == 0)) || (!r2)))) && (decide ((List.getD [60000, 4095, 400, (-1), (-1), (-1), (-1)] (Int.toNat x0.2.1) 0) ≥ 0))) || ((!((decide ((List.getD [60000, 4095, 400, (-1), (-1), (-1), (-1)] (Int.toNat x0.2.1) 0) < 0)) && ((!(x0.2.2.1 == 0)) || (!r2)))) && (decide ((List.getD [60000, 4095, 400, (-1), (-1), (-1), (-1)] (Int.toNat x0.2.1) 0) ≥ 0))) then
                                      bif !((!((decide ((List.getD [60000, 4095, 400, (-1), (-1), (-1), (-1)] (Int.toNat x0.2.1) 0) < 0)) && ((!(x0.2.2.1 == 0)) || (!r2)))) && (decide ((List.getD [60000, 4095, 400, (-1), (-1), (-1), (-1)] (Int.toNat x0.2.1) 0) ≥ 0))) || ((!((decide ((List.getD [60000, 4095, 400, (-1), (-1), (-1), (-1)] (Int.toNat x0.2.1) 0) < 0)) && ((!(x0.2.2.1 == 0)) || (!r2)))) && (decide ((List.getD [60000, 4095, 400, (-1), (-1), (-1), (-1)] (Int.toNat x0.2.1) 0) ≥ 0))) then
                                        bif !(!((decide ((List.getD [60000, 4095, 400, (-1), (-1), (-1), (-1)] (Int.toNat x0.2.1) 0) < 0)) && ((!(x0.2.2.1 == 0)) || (!r2)))) || (!((decide ((List.getD [60000, 4095, 400, (-1), (-1), (-1), (-1)] (Int.toNat x0.2.1) 0) < 0)) && ((!(x0.2.2.1 == 0)) || (!r2)))) then
                                          bif !(!((decide ((List.getD [60000, 4095, 400, (-1), (-1), (-1), (-1)] (Int.toNat x0.2.1) 0) < 0)) && ((!(x0.2.2.1 == 0)) || (!r2)))) || ((!(decide ((List.getD [60000, 4095, 400, (-1), (-1), (-1), (-1)] (Int.toNat x0.2.1) 0) ≥ 0))) || ((!((decide ((List.getD [60000, 4095, 400, (-1), (-1), (-1), (-1)] (Int.toNat x0.2.1) 0) < 0)) && ((!(x0.2.2.1 == 0)) || (!r2)))) && (decide ((List.getD [60000, 4095, 400, (-1), (-1), (-1), (-1)] (Int.toNat x0.2.1) 0) ≥ 0)))) then
                                            bif ((decide ((List.getD [60000, 4095, 400, (-1), (-1), (-1), (-1)] (Int.toNat x0.2.1) 0) < 0)) && ((!(x0.2.2.1 == 0)) || (!r2))) || (!((decide ((List.getD [60000, 4095, 400, (-1), (-1), (-1), (-1)] (Int.toNat x0.2.1) 0) < 0)) && ((!(x0.2.2.1 == 0)) || (!r2)))) then
                                              bif ((decide ((List.getD [60000, 4095, 400, (-1), (-1), (-1), (-1)] (Int.toNat x0.2.1) 0) < 0)) && ((!(x0.2.2.1 == 0)) || (!r2))) || ((decide ((List.getD [60000, 4095, 400, (-1), (-1), (-1), (-1)] (Int.toNat x0.2.1) 0) ≥ 0)) && (!(seq x0.2.2.2 (⟨#[]⟩ : ByteArray)))) then
                                                some 3
                                              else
                                              bif !(decide ((List.getD [60000, 4095, 400, (-1), (-1), (-1), (-1)] (Int.toNat x0.2.1) 0) ≥ 0)) || (decide ((List.getD [60000, 4095, 400, (-1), (-1), (-1), (-1)] (Int.toNat x0.2.1) 0) ≥ 0)) then
                                                bif !(decide ((List.getD [60000, 4095, 400, (-1), (-1), (-1), (-1)] (Int.toNat x0.2.1) 0) ≥ 0)) || (decide ((List.getD [60000, 4095, 400, (-1), (-1), (-1), (-1)] (Int.toNat x0.2.1) 0) ≥ 0)) then
                                                  bif !(decide ((List.getD [60000, 4095, 400, (-1), (-1), (-1), (-1)] (Int.toNat x0.2.1) 0) ≥ 0)) || (decide ((List.getD [60000, 4095, 400, (-1), (-1), (-1), (-1)] (Int.toNat x0.2.1) 0) ≥ 0)) then
                                                    bif !((decide ((List.getD [60000, 4095, 400, (-1), (-1), (-1), (-1)] (Int.toNat x0.2.1) 0) ≥ 0)) && (!(decide (x0.2.2.1 < 0)))) || ((decide ((List.getD [60000, 4095, 400, (-1), (-1), (-1), (-1)] (Int.toNat x0.2.1) 0) ≥ 0)) && (!(decide (x0.2.2.1 < 0)))) then
                                                      bif !((decide ((List.getD [60000, 4095, 400, (-1), (-1), (-1), (-1)] (Int.toNat x0.2.1) 0) ≥ 0)) && (!(decide (x0.2.2.1 < 0)))) || ((decide ((List.getD [60000, 4095, 400, (-1), (-1), (-1), (-1)] (Int.toNat x0.2.1) 0) ≥ 0)) && (!(decide (x0.2.2.1 < 0)))) then
                                                        bif !((decide ((List.getD [60000, 4095, 400, (-1), (-1), (-1), (-1)] (Int.toNat x0.2.1) 0) ≥ 0)) && (!(decide (x0.2.2.1 < 0)))) || ((decide ((List.getD [60000, 4095, 400, (-1), (-1), (-1), (-1)] (Int.toNat x0.2.1) 0) ≥ 0)) && (!(decide (x0.2.2.1 < 0)))) then
                                                          bif !(decide ((List.getD [60000, 4095, 400, (-1), (-1), (-1), (-1)] (Int.toNat x0.2.1) 0) ≥ 0)) || (decide ((List.getD [60000, 4095, 400, (-1), (-1), (-1), (-1)] (Int.toNat x0.2.1) 0) ≥ 0)) then
                                                            bif !(decide ((List.getD [60000, 4095, 400, (-1), (-1), (-1), (-1)] (Int.toNat x0.2.1) 0) ≥ 0)) || ((decide (x0.2.2.1 < 0)) || ((decide ((List.getD [60000, 4095, 400, (-1), (-1), (-1), (-1)] (Int.toNat x0.2.1) 0) ≥ 0)) && (!(decide (x0.2.2.1 < 0))))) then
                                                              bif (!(decide ((List.getD [60000, 4095, 400, (-1), (-1), (-1), (-1)] (Int.toNat x0.2.1) 0) ≥ 0))) || (decide ((List.getD [60000, 4095, 400, (-1), (-1), (-1), (-1)] (Int.toNat x0.2.1) 0) ≥ 0)) then
                                                                bif (decide ((List.getD [60000, 4095, 400, (-1), (-1), (-1), (-1)] (Int.toNat x0.2.1) 0) ≥ 0)) && ((decide (x0.2.2.1 < 0)) || (decide (x0.2.2.1 > (List.getD [60000, 4095, 400, (-1), (-1), (-1), (-1)] (Int.toNat x0.2.1) 0)))) then
                                                                  some 4
                                                                else
                                                                  some 0
                                                              else
                                                                none
                                                            else
                                                              none
                                                          else
                                                            none
                                                        else
                                                          none
                                                      else
                                                        none
                                                    else
                                                      none
                                                  else
                                                    none
                                                else
                                                  none
                                              else
                                                none
                                            else
                                              none
                                          else
                                            none
                                        else
                                          none
                                      else
                                        none
                                    else
                                      none
                                  else
                                    none
                                else
                                  none
                              else
                                none
                            else
                              none
                          else
                            none
                        else
                          none
                      else
                        none
                    else
                      none
                  else
                    none
                else
                  none
              else
                none
            else
              none
          else
            none
        else
          none
      else
        none
    else
      none := by kernel_rfl
theorem taut32 : ∀ p0 p1 p2 : Bool, ((!(!((p0) && ((!(p1)) || (!p2)))) || (!((p0) && ((!(p1)) || (!p2)))))) = true := by decide
theorem taut33 : ∀ p0 p1 p2 p3 : Bool, ((!(!((p0) && ((!(p1)) || (!p2)))) || ((!(p3)) || ((!((p0) && ((!(p1)) || (!p2)))) && (p3))))) = true := by decide
theorem taut34 : ∀ p0 p1 p2 p3 : Bool, ((!((!((p0) && ((!(p1)) || (!p2)))) && (p3)) || ((!((p0) && ((!(p1)) || (!p2)))) && (p3)))) = true := by decide
theorem taut35 : ∀ p0 p1 : Bool, ((!((p0) && (!(!(p1)))) || ((p0) && (!(!(p1)))))) = true := by decide
theorem taut36 : ∀ p0 p1 : Bool, ((!((p0) && (!(p1))) || ((p0) && (!(p1))))) = true := by decide
theorem taut37 : ∀ p0 p1 : Bool, ((!(p0) || ((!(p1)) || ((p0) && (!(!(p1))))))) = true := by decide
theorem taut38 : ∀ p0 p1 : Bool, ((!(p0) || ((p1) || ((p0) && (!(p1)))))) = true := by decide
theorem taut39 : ∀ p0 p1 p2 : Bool, ((((p0) && ((!(p1)) || (!p2))) || (!((p0) && ((!(p1)) || (!p2)))))) = true := by decide
theorem ref_ClearError.clean (N : Nat) (x0 : ByteArray × Int × Int × ByteArray) : ref_ClearError.fn N x0 =
    (ref_free.fn N x0.1).bind fun r1 =>
    bif !r1 then
      some 3
    else
    bif (decide (x0.2.1 < 0)) || (decide (x0.2.1 > 6)) then
      some 1
    else
    bif (decide (0 ≤ x0.2.1)) && (decide (x0.2.1 < 7)) then
      bif decide ((Int.toNat x0.2.1) < 7) then
        (bif ((decide ((List.getD [60000, 4095, 400, (-1), (-1), (-1), (-1)] (Int.toNat x0.2.1) 0) < 0)) && (!(!(x0.2.2.1 == 0)))) then ref_free.fn N x0.2.2.2 else some (false)).bind fun r2 =>
        bif ((decide ((List.getD [60000, 4095, 400, (-1), (-1), (-1), (-1)] (Int.toNat x0.2.1) 0) < 0)) && ((!(x0.2.2.1 == 0)) || (!r2))) || ((decide ((List.getD [60000, 4095, 400, (-1), (-1), (-1), (-1)] (Int.toNat x0.2.1) 0) ≥ 0)) && (!(seq x0.2.2.2 (⟨#[]⟩ : ByteArray)))) then
          some 3
        else
        bif (decide ((List.getD [60000, 4095, 400, (-1), (-1), (-1), (-1)] (Int.toNat x0.2.1) 0) ≥ 0)) && ((decide (x0.2.2.1 < 0)) || (decide (x0.2.2.1 > (List.getD [60000, 4095, 400, (-1), (-1), (-1), (-1)] (Int.toNat x0.2.1) 0)))) then
          some 4
        else
          some 0
      else
        none
    else
      none := by
  rw [ref_ClearError.eq]; simp only [taut32, taut33, taut3, taut34, taut35, taut36, taut37, taut38, taut21, taut23, taut39, taut6, cond_true]

/-! ### law_effectError: skyway/skywaylaw3.effectError -/
def law_effectError.kp : List (Nat × List (Nat × Option (TypeId × Ty))) := []
noncomputable def law_effectError.G (N : Nat) : List (Nat × Spec) := [(13, .pure (tube_Check.S N)), (15, .pure (aircraft_Check.S N)), (16, .pure (plane_Check.S N)), (18, .pure (ref_ClearError.S N))]
noncomputable def law_effectError.E (N : Nat) : Env := mkEnv (law_effectError.G N) N tyTab law_effectError.kp
noncomputable def law_effectError.fn (N : Nat) (x : List ((Int × (Int × Int) × Int) × Int × Int) × (ByteArray × Int × Int × ByteArray) × Int × (ByteArray × Int × Int × Int × Int × Int × Int) × Int × Int) : Option Int := evFn (law_effectError.E N) Tryd.prog 3 Tryd.f6 false [.cell (.sl 39 (.pair (.pair (.int .i64) (.pair (.pair (.int .i64) (.int .i64)) (.int .i64))) (.pair (.int .i64) (.int .i64)))), .agg (.pair (.str) (.pair (.int .i64) (.pair (.int .i64) (.str)))), .cell (.int .i64), .agg (.pair (.str) (.pair (.int .i64) (.pair (.int .i64) (.pair (.int .i64) (.pair (.int .i64) (.pair (.int .i64) (.int .i64))))))), .agg (.pair (.int .i64) (.int .i64))] [.val (.cell (.int .i64))] x
noncomputable def law_effectError.S (N : Nat) : PSpec := ⟨false, [.cell (.sl 39 (.pair (.pair (.int .i64) (.pair (.pair (.int .i64) (.int .i64)) (.int .i64))) (.pair (.int .i64) (.int .i64)))), .agg (.pair (.str) (.pair (.int .i64) (.pair (.int .i64) (.str)))), .cell (.int .i64), .agg (.pair (.str) (.pair (.int .i64) (.pair (.int .i64) (.pair (.int .i64) (.pair (.int .i64) (.pair (.int .i64) (.int .i64))))))), .agg (.pair (.int .i64) (.int .i64))], [.val (.cell (.int .i64))], law_effectError.fn N⟩
theorem f6_enters : Enters Tryd.prog 6 := ⟨Tryd.f6, Tryd.func6, by kernel_rfl, by kernel_rfl⟩
theorem law_effectError.tab (N : Nat) : TabOk Tryd.prog (law_effectError.G N) := ⟨⟨tube_Check.enters, tube_Check.sound N⟩, ⟨aircraft_Check.enters, aircraft_Check.sound N⟩, ⟨plane_Check.enters, plane_Check.sound N⟩, ⟨ref_ClearError.enters, ref_ClearError.sound N⟩, trivial⟩
theorem law_effectError.enters : Enters Tryd.prog 6 := f6_enters
theorem law_effectError.sound (N : Nat) : Sound Tryd.prog 6 (law_effectError.S N) := evFn_sound (specs_tab (law_effectError.tab N)) (inls_tab (law_effectError.tab N)) mixed 3 Tryd.func6 _ _ _
theorem law_effectError.eq (N : Nat) (x0 : List ((Int × (Int × Int) × Int) × Int × Int)) (x1 : ByteArray × Int × Int × ByteArray) (x2 : Int) (x3 : ByteArray × Int × Int × Int × Int × Int × Int) (x4 : Int × Int) : law_effectError.fn N (x0, x1, x2, x3, x4) =
    (tube_Check.fn N x0).bind fun r1 =>
    bif !(r1 == 0) then
      some r1
    else
      (ref_ClearError.fn N x1).bind fun r2 =>
      bif !(r2 == 0) then
        some r2
      else
        (aircraft_Check.fn N x3).bind fun r3 =>
        bif !(r3 == 0) then
          some r3
        else
          (plane_Check.fn N x4).bind fun r4 =>
          bif !(r4 == 0) then
            some r4
          else
          bif decide (0 < (x0.length : Int)) then
            bif !(!(decide (x2 < (((List.getD x0 0 ((0, ((0, 0), 0)), (0, 0))).1).1)))) || (!(decide (x2 < (((List.getD x0 0 ((0, ((0, 0), 0)), (0, 0))).1).1)))) then
              bif !(!(decide (x2 < (((List.getD x0 0 ((0, ((0, 0), 0)), (0, 0))).1).1)))) || (!(decide (x2 < (((List.getD x0 0 ((0, ((0, 0), 0)), (0, 0))).1).1)))) then
                bif !(!(decide (x2 < (((List.getD x0 0 ((0, ((0, 0), 0)), (0, 0))).1).1)))) || (!(decide (x2 < (((List.getD x0 0 ((0, ((0, 0), 0)), (0, 0))).1).1)))) then
                  bif !(!(decide (x2 < (((List.getD x0 0 ((0, ((0, 0), 0)), (0, 0))).1).1)))) || (!(decide (x2 < (((List.getD x0 0 ((0, ((0, 0), 0)), (0, 0))).1).1)))) then
                    bif ((decide (0 ≤ (w ((x0.length : Int) - 1)))) && (decide ((w ((x0.length : Int) - 1)) < (x0.length : Int)))) || !(!(decide (x2 < (((List.getD x0 0 ((0, ((0, 0), 0)), (0, 0))).1).1)))) then
                      bif !(!(decide (x2 < (((List.getD x0 0 ((0, ((0, 0), 0)), (0, 0))).1).1)))) || (!(decide (x2 < (((List.getD x0 0 ((0, ((0, 0), 0)), (0, 0))).1).1)))) then
                        bif !(!(decide (x2 < (((List.getD x0 0 ((0, ((0, 0), 0)), (0, 0))).1).1)))) || (!(decide (x2 < (((List.getD x0 0 ((0, ((0, 0), 0)), (0, 0))).1).1)))) then
                          bif !(!(decide (x2 < (((List.getD x0 0 ((0, ((0, 0), 0)), (0, 0))).1).1)))) || (!(decide (x2 < (((List.getD x0 0 ((0, ((0, 0), 0)), (0, 0))).1).1)))) then
                            bif !(!(decide (x2 < (((List.getD x0 0 ((0, ((0, 0), 0)), (0, 0))).1).1)))) || (!(decide (x2 < (((List.getD x0 0 ((0, ((0, 0), 0)), (0, 0))).1).1)))) then
                              bif !(!(decide (x2 < (((List.getD x0 0 ((0, ((0, 0), 0)), (0, 0))).1).1)))) || (!(decide (x2 < (((List.getD x0 0 ((0, ((0, 0), 0)), (0, 0))).1).1)))) then
                                bif (decide (x2 < (((List.getD x0 0 ((0, ((0, 0), 0)), (0, 0))).1).1))) || (!(decide (x2 < (((List.getD x0 0 ((0, ((0, 0), 0)), (0, 0))).1).1)))) then
                                  bif (decide (x2 < (((List.getD x0 0 ((0, ((0, 0), 0)), (0, 0))).1).1))) || (decide (x2 > (((List.getD x0 (Int.toNat (w ((x0.length : Int) - 1))) ((0, ((0, 0), 0)), (0, 0))).1).1))) then
                                    some 12
                                  else
                                    some 0
                                else
                                  none
                              else
                                none
                            else
                              none
                          else
                            none
                        else
                          none
                      else
                        none
                    else
                      none
                  else
                    none
                else
                  none
              else
                none
            else
              none
          else
            none := by kernel_rfl
theorem law_effectError.clean (N : Nat) (x0 : List ((Int × (Int × Int) × Int) × Int × Int)) (x1 : ByteArray × Int × Int × ByteArray) (x2 : Int) (x3 : ByteArray × Int × Int × Int × Int × Int × Int) (x4 : Int × Int) : law_effectError.fn N (x0, x1, x2, x3, x4) =
    (tube_Check.fn N x0).bind fun r1 =>
    bif !(r1 == 0) then
      some r1
    else
      (ref_ClearError.fn N x1).bind fun r2 =>
      bif !(r2 == 0) then
        some r2
      else
        (aircraft_Check.fn N x3).bind fun r3 =>
        bif !(r3 == 0) then
          some r3
        else
          (plane_Check.fn N x4).bind fun r4 =>
          bif !(r4 == 0) then
            some r4
          else
          bif decide (0 < (x0.length : Int)) then
            bif ((decide (0 ≤ (w ((x0.length : Int) - 1)))) && (decide ((w ((x0.length : Int) - 1)) < (x0.length : Int)))) || !(!(decide (x2 < (((List.getD x0 0 ((0, ((0, 0), 0)), (0, 0))).1).1)))) then
              bif (decide (x2 < (((List.getD x0 0 ((0, ((0, 0), 0)), (0, 0))).1).1))) || (decide (x2 > (((List.getD x0 (Int.toNat (w ((x0.length : Int) - 1))) ((0, ((0, 0), 0)), (0, 0))).1).1))) then
                some 12
              else
                some 0
            else
              none
          else
            none := by
  rw [law_effectError.eq]; simp only [taut3, taut6, cond_true]

/-! ### tube_At: skyway/tube.At -/
def tube_At.kp : List (Nat × List (Nat × Option (TypeId × Ty))) := []
noncomputable def tube_At.G (N : Nat) : List (Nat × Spec) := [(13, .pure (tube_Check.S N)), (33, .pure (tube_at.S N))]
noncomputable def tube_At.E (N : Nat) : Env := mkEnv (tube_At.G N) N tyTab tube_At.kp
noncomputable def tube_At.fn (N : Nat) (x : List ((Int × (Int × Int) × Int) × Int × Int) × Int) : Option (((Int × (Int × Int) × Int) × Int × Int) × Int) := evFn (tube_At.E N) Tryd.prog 3 Tryd.f19 false [.cell (.sl 39 (.pair (.pair (.int .i64) (.pair (.pair (.int .i64) (.int .i64)) (.int .i64))) (.pair (.int .i64) (.int .i64)))), .cell (.int .i64)] [.val (.agg (.pair (.pair (.int .i64) (.pair (.pair (.int .i64) (.int .i64)) (.int .i64))) (.pair (.int .i64) (.int .i64)))), .val (.cell (.int .i64))] x
noncomputable def tube_At.S (N : Nat) : PSpec := ⟨false, [.cell (.sl 39 (.pair (.pair (.int .i64) (.pair (.pair (.int .i64) (.int .i64)) (.int .i64))) (.pair (.int .i64) (.int .i64)))), .cell (.int .i64)], [.val (.agg (.pair (.pair (.int .i64) (.pair (.pair (.int .i64) (.int .i64)) (.int .i64))) (.pair (.int .i64) (.int .i64)))), .val (.cell (.int .i64))], tube_At.fn N⟩
theorem f19_enters : Enters Tryd.prog 19 := ⟨Tryd.f19, Tryd.func19, by kernel_rfl, by kernel_rfl⟩
theorem tube_At.tab (N : Nat) : TabOk Tryd.prog (tube_At.G N) := ⟨⟨tube_Check.enters, tube_Check.sound N⟩, ⟨tube_at.enters, tube_at.sound N⟩, trivial⟩
theorem tube_At.enters : Enters Tryd.prog 19 := f19_enters
theorem tube_At.sound (N : Nat) : Sound Tryd.prog 19 (tube_At.S N) := evFn_sound (specs_tab (tube_At.tab N)) (inls_tab (tube_At.tab N)) mixed 3 Tryd.func19 _ _ _
theorem tube_At.eq (N : Nat) (x0 : List ((Int × (Int × Int) × Int) × Int × Int)) (x1 : Int) : tube_At.fn N (x0, x1) =
    (tube_Check.fn N x0).bind fun r1 =>
    bif !(r1 == 0) then
      some (((0, ((0, 0), 0)), (0, 0)), r1)
    else
      (tube_at.fn N (x0, x1)).bind fun r2 =>
      some (r2.1, r2.2) := by kernel_rfl

/-! ### law_expected: skyway/skywaylaw3.expected -/
def law_expected.kp : List (Nat × List (Nat × Option (TypeId × Ty))) := [(4, [(0, none), (2, none), (6, none), (8, none), (9, none), (12, none), (14, some (39, .pair (.pair (.int .i64) (.pair (.pair (.int .i64) (.int .i64)) (.int .i64))) (.pair (.int .i64) (.int .i64)))), (15, some (39, .pair (.pair (.int .i64) (.pair (.pair (.int .i64) (.int .i64)) (.int .i64))) (.pair (.int .i64) (.int .i64)))), (40, none), (41, none), (42, none)]), (25, [(14, none), (20, none), (22, none), (23, none), (24, none)]), (35, [(2, none), (6, none), (12, none), (14, none), (20, none), (25, none), (157, none), (158, none), (159, none)]), (1000049, [(2, none), (6, none), (12, none), (14, none), (20, none), (25, none), (27, none), (33, none), (157, none), (158, none), (159, none)])]
noncomputable def law_expected.G (N : Nat) : List (Nat × Spec) := [(16, .pure (plane_Check.S N)), (19, .pure (tube_At.S N)), (20, .pure (plane_Distance.S N)), (21, .pure (angle_Vector.S N))]
noncomputable def law_expected.E (N : Nat) : Env := mkEnv (law_expected.G N) N tyTab law_expected.kp
noncomputable def law_expected.fn (N : Nat) (x : List ((Int × (Int × Int) × Int) × Int × Int) × (ByteArray × Int × Int × ByteArray) × Int × (ByteArray × Int × Int × Int × Int × Int × Int) × Int × Int) : Option (List ((Int × (Int × Int) × Int) × Int × Int) × Int) := evFn (law_expected.E N) Tryd.prog 3 Tryd.f7 true [.cell (.sl 39 (.pair (.pair (.int .i64) (.pair (.pair (.int .i64) (.int .i64)) (.int .i64))) (.pair (.int .i64) (.int .i64)))), .agg (.pair (.str) (.pair (.int .i64) (.pair (.int .i64) (.str)))), .cell (.int .i64), .agg (.pair (.str) (.pair (.int .i64) (.pair (.int .i64) (.pair (.int .i64) (.pair (.int .i64) (.pair (.int .i64) (.int .i64))))))), .agg (.pair (.int .i64) (.int .i64))] [.val (.cell (.sl 39 (.pair (.pair (.int .i64) (.pair (.pair (.int .i64) (.int .i64)) (.int .i64))) (.pair (.int .i64) (.int .i64))))), .val (.cell (.int .i64))] x
noncomputable def law_expected.S (N : Nat) : PSpec := ⟨true, [.cell (.sl 39 (.pair (.pair (.int .i64) (.pair (.pair (.int .i64) (.int .i64)) (.int .i64))) (.pair (.int .i64) (.int .i64)))), .agg (.pair (.str) (.pair (.int .i64) (.pair (.int .i64) (.str)))), .cell (.int .i64), .agg (.pair (.str) (.pair (.int .i64) (.pair (.int .i64) (.pair (.int .i64) (.pair (.int .i64) (.pair (.int .i64) (.int .i64))))))), .agg (.pair (.int .i64) (.int .i64))], [.val (.cell (.sl 39 (.pair (.pair (.int .i64) (.pair (.pair (.int .i64) (.int .i64)) (.int .i64))) (.pair (.int .i64) (.int .i64))))), .val (.cell (.int .i64))], law_expected.fn N⟩
theorem f7_enters : Enters Tryd.prog 7 := ⟨Tryd.f7, Tryd.func7, by kernel_rfl, by kernel_rfl⟩
theorem law_expected.tab (N : Nat) : TabOk Tryd.prog (law_expected.G N) := ⟨⟨plane_Check.enters, plane_Check.sound N⟩, ⟨tube_At.enters, tube_At.sound N⟩, ⟨plane_Distance.enters, plane_Distance.sound N⟩, ⟨angle_Vector.enters, angle_Vector.sound N⟩, trivial⟩
theorem law_expected.enters : Enters Tryd.prog 7 := f7_enters
theorem law_expected.sound (N : Nat) : Sound Tryd.prog 7 (law_expected.S N) := evFn_sound (specs_tab (law_expected.tab N)) (inls_tab (law_expected.tab N)) mixed 3 Tryd.func7 _ _ _
noncomputable def law_expected.cd (N : Nat) (p : List Nat) : St → (Ex → St → Option (List ((Int × (Int × Int) × Int) × Int × Int) × Int)) → Option (List ((Int × (Int × Int) × Int) × Int × Int) × Int) := ev (law_expected.E N) Tryd.prog (callD (law_expected.E N) Tryd.prog 3) 0 (codeAt (bodyOf Tryd.f7) p)
noncomputable def law_expected.fin : Ex → St → Option (List ((Int × (Int × Int) × Int) × Int × Int) × Int) := endK Tryd.prog Tryd.f7 [.val (.cell (.sl 39 (.pair (.pair (.int .i64) (.pair (.pair (.int .i64) (.int .i64)) (.int .i64))) (.pair (.int .i64) (.int .i64))))), .val (.cell (.int .i64))]
noncomputable def law_expected.l0 (N : Nat) (x0 : List ((Int × (Int × Int) × Int) × Int × Int)) (x1 : ByteArray × Int × Int × ByteArray) (x2 : Int) (x3 : ByteArray × Int × Int × Int × Int × Int × Int) (x4 : Int × Int) (r1 : ((Int × (Int × Int) × Int) × Int × Int) × Int) (k2 : Nat) (a3 : Int) (a4 : List ((Int × (Int × Int) × Int) × Int × Int)) (a5 : List ((Int × (Int × Int) × Int) × Int × Int)) : Option (List ((Int × (Int × Int) × Int) × Int × Int) × Int) :=
  loopN (norm ((law_expected.E N).keep 4) 0) (law_expected.cd N [1, 1, 1, 0, 1, 0, 0]) k2
  ⟨[.ros true 39 (.pair (.pair (.int .i64) (.pair (.pair (.int .i64) (.int .i64)) (.int .i64))) (.pair (.int .i64) (.int .i64))) x0, .any, .sc (.int .i64 x2), .any, .any, .any, .ptr 0 0, .any, .ptr 1 0, .ptr 2 0, .any, .any, .ptr 3 0, .any, .own 4, .own 5, .any, .any, .any, .any, .any, .any, .any, .any, .any, .any, .any, .any, .any, .any, .any, .any, .any, .any, .any, .any, .any, .any, .any, .any, .ros true 39 (.pair (.pair (.int .i64) (.pair (.pair (.int .i64) (.int .i64)) (.int .i64))) (.pair (.int .i64) (.int .i64))) x0, .sc (.int .i64 (x0.length : Int)), .sc (.int .i64 a3), .any, .any, .any, .any, .any, .any, .any, .any, .any, .any, .any, .any, .any, .any, .any, .any, .any, .any, .any, .any, .any, .any, .any, .any, .any, .any, .any, .any, .any, .any, .any, .any, .any, .any, .any, .any, .any, .any, .any, .any, .any, .any, .any, .any, .any, .any, .any, .any, .any, .any, .any, .any, .any, .any, .any, .any, .any, .any, .any, .any, .any, .any, .any, .any, .any, .any, .any, .any, .any, .any, .any, .any, .any, .any, .any, .any, .any, .any, .any, .any, .any, .any, .any, .any, .any, .any, .any, .any, .any, .any, .any, .any, .any, .any, .any, .any, .any, .any, .any, .any, .any, .any, .any, .any, .any, .any, .any, .any, .any, .any, .any, .any, .any, .any, .any, .any, .any, .any, .any, .any, .any, .any, .any, .any, .any, .any, .any, .any, .any, .any, .any, .any, .any, .any, .any, .any, .any, .any, .any, .any, .any, .any, .any, .any, .any, .any, .any, .any, .any, .any, .any, .any, .any, .any, .any, .any, .any, .any, .any, .any, .any, .any, .any, .any, .any, .any, .any, .any, .any, .any, .any, .any, .any, .any, .any, .any, .any, .any, .any, .any, .any, .any, .any, .any, .any, .any, .any, .any, .any, .any, .any, .any, .any, .any, .any, .any, .any, .any, .any, .any, .any, .any, .any, .any, .any, .any], [.cells [.sc (.string x1.1), .sc (.int .i64 x1.2.1), .sc (.int .i64 x1.2.2.1), .sc (.string x1.2.2.2)] 25, .cells [.sc (.string x3.1), .sc (.int .i64 x3.2.1), .sc (.int .i64 x3.2.2.1), .sc (.int .i64 x3.2.2.2.1), .sc (.int .i64 x3.2.2.2.2.1), .sc (.int .i64 x3.2.2.2.2.2.1), .sc (.int .i64 x3.2.2.2.2.2.2)] 27, .cells [.sc (.int .i64 x4.1), .sc (.int .i64 x4.2)] 29, .cells [.sc (.int .i64 r1.1.1.1), .sc (.int .i64 r1.1.1.2.1.1), .sc (.int .i64 r1.1.1.2.1.2), .sc (.int .i64 r1.1.1.2.2), .sc (.int .i64 r1.1.2.1), .sc (.int .i64 r1.1.2.2)] 39, .rows true 39 (.pair (.pair (.int .i64) (.pair (.pair (.int .i64) (.int .i64)) (.int .i64))) (.pair (.int .i64) (.int .i64))) a4, .rows true 39 (.pair (.pair (.int .i64) (.pair (.pair (.int .i64) (.int .i64)) (.int .i64))) (.pair (.int .i64) (.int .i64))) a5]⟩
  (blockK 0 (seqK (law_expected.cd N [1, 1, 1, 1]) law_expected.fin))
noncomputable def law_expected.l1 (N : Nat) (x2 : Int) (x4 : Int × Int) (r1 : ((Int × (Int × Int) × Int) × Int × Int) × Int) (a4 : List ((Int × (Int × Int) × Int) × Int × Int)) (a5 : List ((Int × (Int × Int) × Int) × Int × Int)) (r6 : Int × Int) (r7 : Int × Int) (k8 : Nat) (a9 : Int) (a10 : Int) : Option (List ((Int × (Int × Int) × Int) × Int × Int) × Int) :=
  loopN (norm ((law_expected.E N).keep 25) 0) (law_expected.cd N [1, 1, 1, 1, 1, 1, 1, 1, 1, 0, 1, 0, 1, 1, 1, 1, 0, 1, 0, 0]) k8
  ⟨[.any, .any, .any, .any, .any, .any, .any, .any, .any, .any, .any, .any, .any, .any, .own 0, .any, .any, .any, .any, .any, .sc (.int .i64 (w (Int.tdiv r6.1 (w ((((List.getD a5 0 ((0, ((0, 0), 0)), (0, 0))).1).1) - x2))))), .any, .sc (.int .i64 r7.2), .ptr 1 0, .sc (.int .i64 a9), .any, .any, .any, .any, .any, .any, .any, .any, .any, .any, .any, .any, .any, .any, .any, .any, .any, .any, .any, .any, .any, .any, .any, .any, .any, .any, .any, .any, .any, .any, .any, .any, .any, .any, .any, .any, .any, .any, .any, .any, .any, .any, .any, .any, .any, .any, .any, .any, .any, .any, .any, .any, .any, .any, .any, .any, .any, .any, .any, .any, .any, .any, .any, .any, .any, .any, .any, .any, .any, .any, .any, .any, .any, .any, .any, .any, .any, .any, .any, .any, .any, .any, .any, .any, .any, .any, .any, .any, .any, .any, .any, .any, .any, .any, .any, .any, .any, .any, .any, .any, .any, .any, .any, .any, .any, .any, .any, .any, .any, .any, .any, .any, .any, .any, .any, .any, .any, .any, .any, .any, .any, .any, .any, .any, .any, .any, .any, .any, .any, .any, .any, .any, .any, .any, .any, .any, .any, .any, .any, .any, .any, .any, .any, .any, .any, .any, .any, .any, .any, .any, .any, .any, .any, .any, .any, .any, .any, .any, .any, .any, .any, .any, .any, .any, .any, .any, .any, .any, .any, .any, .any, .any, .any, .any, .any, .any, .any, .any, .any, .any, .any, .any, .any, .any, .any, .any, .any, .any, .any, .any, .any, .any, .any, .any, .any, .any, .any, .any, .any, .any, .any, .any, .any, .any, .any, .any, .any, .any, .any, .any, .any, .any, .any, .any, .any, .any, .any, .any, .any, .any, .any, .any, .any, .any], [.rows true 39 (.pair (.pair (.int .i64) (.pair (.pair (.int .i64) (.int .i64)) (.int .i64))) (.pair (.int .i64) (.int .i64))) (a4 ++ [r1.1]), .cells [.sc (.int .i64 a10), .sc (.int .i64 x4.1), .sc (.int .i64 x4.2), .sc (.int .i64 r1.1.1.2.2), .sc (.int .i64 r1.1.2.1), .sc (.int .i64 r1.1.2.2)] 39]⟩
  (blockK 2 (seqK (law_expected.cd N [1, 1, 1, 1, 1, 1, 1, 1, 1, 0, 1, 0, 1, 1, 1, 1, 1]) (seqK (law_expected.cd N [1, 1, 1, 1, 1, 1, 1, 1, 1, 1]) law_expected.fin)))
noncomputable def law_expected.l2 (N : Nat) (x1 : ByteArray × Int × Int × ByteArray) (x2 : Int) (r1 : ((Int × (Int × Int) × Int) × Int × Int) × Int) (a5 : List ((Int × (Int × Int) × Int) × Int × Int)) (r6 : Int × Int) (k11 : Nat) (a12 : Int) (a13 : List ((Int × (Int × Int) × Int) × Int × Int)) (a14 : Int) (a15 : Int) (a16 : Int) (a17 : Int) (a18 : Int) (a19 : Int) : Option (List ((Int × (Int × Int) × Int) × Int × Int) × Int) :=
  loopN (norm ((law_expected.E N).keep 35) 0) (law_expected.cd N [1, 1, 1, 1, 1, 1, 1, 1, 1, 1, 1, 0, 1, 0, 0]) k11
  ⟨[.any, .any, .sc (.int .i64 x2), .any, .any, .any, .ptr 0 0, .any, .any, .any, .any, .any, .ptr 1 0, .any, .own 2, .any, .any, .any, .any, .any, .sc (.int .i64 (w (Int.tdiv r6.1 (w ((((List.getD a5 0 ((0, ((0, 0), 0)), (0, 0))).1).1) - x2))))), .any, .any, .any, .any, .ptr 3 0, .any, .any, .any, .any, .any, .any, .any, .any, .any, .any, .any, .any, .any, .any, .any, .any, .any, .any, .any, .any, .any, .any, .any, .any, .any, .any, .any, .any, .any, .any, .any, .any, .any, .any, .any, .any, .any, .any, .any, .any, .any, .any, .any, .any, .any, .any, .any, .any, .any, .any, .any, .any, .any, .any, .any, .any, .any, .any, .any, .any, .any, .any, .any, .any, .any, .any, .any, .any, .any, .any, .any, .any, .any, .any, .any, .any, .any, .any, .any, .any, .any, .any, .any, .any, .any, .any, .any, .any, .any, .any, .any, .any, .any, .any, .any, .any, .any, .any, .any, .any, .any, .any, .any, .any, .any, .any, .any, .any, .any, .any, .any, .any, .any, .any, .any, .any, .any, .any, .any, .any, .any, .any, .any, .any, .any, .any, .any, .any, .any, .any, .any, .own 4, .sc (.int .i64 (a5.length : Int)), .sc (.int .i64 a12), .any, .any, .any, .any, .any, .any, .any, .any, .any, .any, .any, .any, .any, .any, .any, .any, .any, .any, .any, .any, .any, .any, .any, .any, .any, .any, .any, .any, .any, .any, .any, .any, .any, .any, .any, .any, .any, .any, .any, .any, .any, .any, .any, .any, .any, .any, .any, .any, .any, .any, .any, .any, .any, .any, .any, .any, .any, .any, .any, .any, .any, .any, .any, .any, .any, .any, .any, .any, .any, .any, .any, .any, .any, .any, .any, .any, .any, .any, .any, .any, .any, .any, .any, .any, .any, .any, .any, .any, .any], [.cells [.sc (.string x1.1), .sc (.int .i64 x1.2.1), .sc (.int .i64 x1.2.2.1), .sc (.string x1.2.2.2)] 25, .cells [.sc (.int .i64 r1.1.1.1), .sc (.int .i64 r1.1.1.2.1.1), .sc (.int .i64 r1.1.1.2.1.2), .sc (.int .i64 r1.1.1.2.2), .sc (.int .i64 r1.1.2.1), .sc (.int .i64 r1.1.2.2)] 39, .rows true 39 (.pair (.pair (.int .i64) (.pair (.pair (.int .i64) (.int .i64)) (.int .i64))) (.pair (.int .i64) (.int .i64))) a13, .cells [.sc (.int .i64 a14), .sc (.int .i64 a15), .sc (.int .i64 a16), .sc (.int .i64 a17), .sc (.int .i64 a18), .sc (.int .i64 a19)] 39, .rows true 39 (.pair (.pair (.int .i64) (.pair (.pair (.int .i64) (.int .i64)) (.int .i64))) (.pair (.int .i64) (.int .i64))) a5]⟩
  (blockK 4 (seqK (law_expected.cd N [1, 1, 1, 1, 1, 1, 1, 1, 1, 1, 1, 1]) law_expected.fin))
noncomputable def law_expected.j3 (N : Nat) (x1 : ByteArray × Int × Int × ByteArray) (x2 : Int) (r1 : ((Int × (Int × Int) × Int) × Int × Int) × Int) (a5 : List ((Int × (Int × Int) × Int) × Int × Int)) (r6 : Int × Int) (k11 : Nat) (a12 : Int) (a13 : List ((Int × (Int × Int) × Int) × Int × Int)) (a14 : Int) (a15 : Int) (a16 : Int) (a17 : Int) (a18 : Int) (a19 : Int) (a23 : Int) : Option (List ((Int × (Int × Int) × Int) × Int × Int) × Int) :=
  fuelK N (region (law_expected.E N) Tryd.prog (callD (law_expected.E N) Tryd.prog 3) (opsAt (codeAt (bodyOf Tryd.f7) [1, 1, 1, 1, 1, 1, 1, 1, 1, 1, 1, 0, 1, 0, 0, 1, 1, 0, 0, 1, 0, 1, 1, 1, 1, 1, 0])) false
  ⟨[.any, .any, .sc (.int .i64 x2), .any, .any, .any, .ptr 0 0, .any, .any, .any, .any, .any, .ptr 1 0, .any, .own 2, .any, .any, .any, .any, .any, .sc (.int .i64 (w (Int.tdiv r6.1 (w ((((List.getD a5 0 ((0, ((0, 0), 0)), (0, 0))).1).1) - x2))))), .any, .any, .any, .any, .ptr 3 0, .any, .ptr 4 0, .any, .any, .any, .any, .any, .sc (.int .i64 a23), .any, .any, .any, .any, .any, .any, .any, .any, .any, .any, .any, .any, .any, .any, .any, .any, .any, .any, .any, .any, .any, .any, .any, .any, .any, .any, .any, .any, .any, .any, .any, .any, .any, .any, .any, .any, .any, .any, .any, .any, .any, .any, .any, .any, .any, .any, .any, .any, .any, .any, .any, .any, .any, .any, .any, .any, .any, .any, .any, .any, .any, .any, .any, .any, .any, .any, .any, .any, .any, .any, .any, .any, .any, .any, .any, .any, .any, .any, .any, .any, .any, .any, .any, .any, .any, .any, .any, .any, .any, .any, .any, .any, .any, .any, .any, .any, .any, .any, .any, .any, .any, .any, .any, .any, .any, .any, .any, .any, .any, .any, .any, .any, .any, .any, .any, .any, .any, .any, .any, .any, .any, .any, .any, .own 5, .sc (.int .i64 (a5.length : Int)), .sc (.int .i64 a12), .any, .any, .any, .any, .any, .any, .any, .any, .any, .any, .any, .any, .any, .any, .any, .any, .any, .any, .any, .any, .any, .any, .any, .any, .any, .any, .any, .any, .any, .any, .any, .any, .any, .any, .any, .any, .any, .any, .any, .any, .any, .any, .any, .any, .any, .any, .any, .any, .any, .any, .any, .any, .any, .any, .any, .any, .any, .any, .any, .any, .any, .any, .any, .any, .any, .any, .any, .any, .any, .any, .any, .any, .any, .any, .any, .any, .any, .any, .any, .any, .any, .any, .any, .any, .any, .any, .any, .any, .any], [.cells [.sc (.string x1.1), .sc (.int .i64 x1.2.1), .sc (.int .i64 x1.2.2.1), .sc (.string x1.2.2.2)] 25, .cells [.sc (.int .i64 r1.1.1.1), .sc (.int .i64 r1.1.1.2.1.1), .sc (.int .i64 r1.1.1.2.1.2), .sc (.int .i64 r1.1.1.2.2), .sc (.int .i64 r1.1.2.1), .sc (.int .i64 r1.1.2.2)] 39, .rows true 39 (.pair (.pair (.int .i64) (.pair (.pair (.int .i64) (.int .i64)) (.int .i64))) (.pair (.int .i64) (.int .i64))) a13, .cells [.sc (.int .i64 a14), .sc (.int .i64 a15), .sc (.int .i64 a16), .sc (.int .i64 a17), .sc (.int .i64 a18), .sc (.int .i64 a19)] 39, .cells [.sc (.int .i64 (((List.getD a5 (Int.toNat a12) ((0, ((0, 0), 0)), (0, 0))).1).1)), .sc (.int .i64 (((((List.getD a5 (Int.toNat a12) ((0, ((0, 0), 0)), (0, 0))).1).2).1).1)), .sc (.int .i64 (((((List.getD a5 (Int.toNat a12) ((0, ((0, 0), 0)), (0, 0))).1).2).1).2)), .sc (.int .i64 ((((List.getD a5 (Int.toNat a12) ((0, ((0, 0), 0)), (0, 0))).1).2).2)), .sc (.int .i64 (((List.getD a5 (Int.toNat a12) ((0, ((0, 0), 0)), (0, 0))).2).1)), .sc (.int .i64 (((List.getD a5 (Int.toNat a12) ((0, ((0, 0), 0)), (0, 0))).2).2))] 39, .rows true 39 (.pair (.pair (.int .i64) (.pair (.pair (.int .i64) (.int .i64)) (.int .i64))) (.pair (.int .i64) (.int .i64))) a5]⟩
  (fun S => (seqK (law_expected.cd N [1, 1, 1, 1, 1, 1, 1, 1, 1, 1, 1, 0, 1, 0, 0, 1, 1, 0, 0, 1, 0, 1, 1, 1, 1, 1, 1]) (seqK (law_expected.cd N [1, 1, 1, 1, 1, 1, 1, 1, 1, 1, 1, 0, 1, 0, 0, 1, 1, 0, 0, 1, 1]) (blockK 5 (seqK (law_expected.cd N [1, 1, 1, 1, 1, 1, 1, 1, 1, 1, 1, 0, 1, 0, 0, 1, 1, 1]) (loopK (norm ((law_expected.E N).keep 35) 0) (law_expected.cd N [1, 1, 1, 1, 1, 1, 1, 1, 1, 1, 1, 0, 1, 0, 0]) k11 (blockK 4 (seqK (law_expected.cd N [1, 1, 1, 1, 1, 1, 1, 1, 1, 1, 1, 1]) law_expected.fin))))))) .normal S))
theorem law_expected.j3_eq (N : Nat) (x1 : ByteArray × Int × Int × ByteArray) (x2 : Int) (r1 : ((Int × (Int × Int) × Int) × Int × Int) × Int) (a5 : List ((Int × (Int × Int) × Int) × Int × Int)) (r6 : Int × Int) (k11 : Nat) (a12 : Int) (a13 : List ((Int × (Int × Int) × Int) × Int × Int)) (a14 : Int) (a15 : Int) (a16 : Int) (a17 : Int) (a18 : Int) (a19 : Int) (a23 : Int) {M : Nat} (hM : N = M + 1) : law_expected.j3 N x1 x2 r1 a5 r6 k11 a12 a13 a14 a15 a16 a17 a18 a19 a23 =
    bif decide ((w (a14 + a23)) > 200000) then
      some ([], 12)
    else
    bif decide ((a13.length + 1) * 48 ≤ 140737488355328) && decide ((a13.length + 1) ≤ maxLen) then
      law_expected.l2 N x1 x2 r1 a5 r6 k11 (w (a12 + 1)) (a13 ++ [(((w (a14 + a23)), ((List.getD a5 (Int.toNat a12) ((0, ((0, 0), 0)), (0, 0))).1).2), (List.getD a5 (Int.toNat a12) ((0, ((0, 0), 0)), (0, 0))).2)]) (w (a14 + a23)) (((((List.getD a5 (Int.toNat a12) ((0, ((0, 0), 0)), (0, 0))).1).2).1).1) (((((List.getD a5 (Int.toNat a12) ((0, ((0, 0), 0)), (0, 0))).1).2).1).2) ((((List.getD a5 (Int.toNat a12) ((0, ((0, 0), 0)), (0, 0))).1).2).2) (((List.getD a5 (Int.toNat a12) ((0, ((0, 0), 0)), (0, 0))).2).1) (((List.getD a5 (Int.toNat a12) ((0, ((0, 0), 0)), (0, 0))).2).2)
    else
      none := (fuelK_eq hM _).trans (by kernel_rfl)
theorem law_expected.l2_zero (N : Nat) (x1 : ByteArray × Int × Int × ByteArray) (x2 : Int) (r1 : ((Int × (Int × Int) × Int) × Int × Int) × Int) (a5 : List ((Int × (Int × Int) × Int) × Int × Int)) (r6 : Int × Int) (a12 : Int) (a13 : List ((Int × (Int × Int) × Int) × Int × Int)) (a14 : Int) (a15 : Int) (a16 : Int) (a17 : Int) (a18 : Int) (a19 : Int) : law_expected.l2 N x1 x2 r1 a5 r6 0 a12 a13 a14 a15 a16 a17 a18 a19 = none := by kernel_rfl
theorem law_expected.l2_succ (N : Nat) (x1 : ByteArray × Int × Int × ByteArray) (x2 : Int) (r1 : ((Int × (Int × Int) × Int) × Int × Int) × Int) (a5 : List ((Int × (Int × Int) × Int) × Int × Int)) (r6 : Int × Int) (k11 : Nat) (a12 : Int) (a13 : List ((Int × (Int × Int) × Int) × Int × Int)) (a14 : Int) (a15 : Int) (a16 : Int) (a17 : Int) (a18 : Int) (a19 : Int) : law_expected.l2 N x1 x2 r1 a5 r6 (k11 + 1) a12 a13 a14 a15 a16 a17 a18 a19 =
    bif decide (a12 < (a5.length : Int)) then
      bif (decide (0 ≤ a12)) && (decide (a12 < (a5.length : Int))) then
        bif decide ((Int.toNat a12) < a5.length) then
          bif x1.2.1 == 1 then
            (angle_Vector.fn N (x1.2.2.1, (w ((w (Int.tdiv r6.1 (w ((((List.getD a5 0 ((0, ((0, 0), 0)), (0, 0))).1).1) - x2)))) * (w ((((List.getD a5 (Int.toNat a12) ((0, ((0, 0), 0)), (0, 0))).1).1) - x2)))))).bind fun r20 =>
            bif !(r20.2 == 0) then
              some ([], r20.2)
            else
              (plane_Check.fn N ((w (r1.1.1.2.1.1 + r20.1.1)), (w (r1.1.1.2.1.2 + r20.1.2)))).bind fun r21 =>
              bif !(r21 == 0) then
                some ([], r21)
              else
              bif decide ((a13.length + 1) * 48 ≤ 140737488355328) && decide ((a13.length + 1) ≤ maxLen) then
                law_expected.l2 N x1 x2 r1 a5 r6 k11 (w (a12 + 1)) (a13 ++ [((((List.getD a5 (Int.toNat a12) ((0, ((0, 0), 0)), (0, 0))).1).1, (((w (r1.1.1.2.1.1 + r20.1.1)), (w (r1.1.1.2.1.2 + r20.1.2))), (((List.getD a5 (Int.toNat a12) ((0, ((0, 0), 0)), (0, 0))).1).2).2)), (List.getD a5 (Int.toNat a12) ((0, ((0, 0), 0)), (0, 0))).2)]) (((List.getD a5 (Int.toNat a12) ((0, ((0, 0), 0)), (0, 0))).1).1) (w (r1.1.1.2.1.1 + r20.1.1)) (w (r1.1.1.2.1.2 + r20.1.2)) ((((List.getD a5 (Int.toNat a12) ((0, ((0, 0), 0)), (0, 0))).1).2).2) (((List.getD a5 (Int.toNat a12) ((0, ((0, 0), 0)), (0, 0))).2).1) (((List.getD a5 (Int.toNat a12) ((0, ((0, 0), 0)), (0, 0))).2).2)
              else
                none
          else
            (plane_Distance.fn N ((a15, a16), (((List.getD a5 (Int.toNat a12) ((0, ((0, 0), 0)), (0, 0))).1).2).1)).bind fun r22 =>
            bif x1.2.2.1 != 0 then
              bif x1.2.2.1 != 0 then
                bif !(!(decide ((Int.tmod r22.2 x1.2.2.1) > 0))) || (!(decide ((Int.tmod r22.2 x1.2.2.1) > 0))) then
                  bif (decide ((Int.tmod r22.2 x1.2.2.1) > 0)) || (!(decide ((Int.tmod r22.2 x1.2.2.1) > 0))) then
                    bif (decide ((Int.tmod r22.2 x1.2.2.1) > 0)) || (r22.2 == 0) then
                      law_expected.j3 N x1 x2 r1 a5 r6 k11 a12 a13 a14 a15 a16 a17 a18 a19 (w ((w (Int.tdiv r22.2 x1.2.2.1)) + 1))
                    else
                      law_expected.j3 N x1 x2 r1 a5 r6 k11 a12 a13 a14 a15 a16 a17 a18 a19 (w (Int.tdiv r22.2 x1.2.2.1))
                  else
                    none
                else
                  none
              else
                none
            else
              none
        else
          none
      else
        none
    else
      some (a13, 0) := by kernel_rfl
theorem law_expected.l1_zero (N : Nat) (x2 : Int) (x4 : Int × Int) (r1 : ((Int × (Int × Int) × Int) × Int × Int) × Int) (a4 : List ((Int × (Int × Int) × Int) × Int × Int)) (a5 : List ((Int × (Int × Int) × Int) × Int × Int)) (r6 : Int × Int) (r7 : Int × Int) (a9 : Int) (a10 : Int) : law_expected.l1 N x2 x4 r1 a4 a5 r6 r7 0 a9 a10 = none := by kernel_rfl
theorem law_expected.l1_succ (N : Nat) (x2 : Int) (x4 : Int × Int) (r1 : ((Int × (Int × Int) × Int) × Int × Int) × Int) (a4 : List ((Int × (Int × Int) × Int) × Int × Int)) (a5 : List ((Int × (Int × Int) × Int) × Int × Int)) (r6 : Int × Int) (r7 : Int × Int) (k8 : Nat) (a9 : Int) (a10 : Int) : law_expected.l1 N x2 x4 r1 a4 a5 r6 r7 (k8 + 1) a9 a10 =
    bif decide (a9 > 0) then
      law_expected.l1 N x2 x4 r1 a4 a5 r6 r7 k8 (w (a9 - (w (Int.tdiv r6.1 (w ((((List.getD a5 0 ((0, ((0, 0), 0)), (0, 0))).1).1) - x2)))))) (w (a10 + 1))
    else
    bif decide (a10 > 200000) then
      some ([], 12)
    else
    bif decide (r7.2 > 0) then
      bif decide (((a4 ++ [r1.1]).length + 1) * 48 ≤ 140737488355328) && decide (((a4 ++ [r1.1]).length + 1) ≤ maxLen) then
        some (((a4 ++ [r1.1]) ++ [((a10, (x4, r1.1.1.2.2)), r1.1.2)]), 0)
      else
        none
    else
      some ((a4 ++ [r1.1]), 0) := by kernel_rfl
theorem law_expected.l0_zero (N : Nat) (x0 : List ((Int × (Int × Int) × Int) × Int × Int)) (x1 : ByteArray × Int × Int × ByteArray) (x2 : Int) (x3 : ByteArray × Int × Int × Int × Int × Int × Int) (x4 : Int × Int) (r1 : ((Int × (Int × Int) × Int) × Int × Int) × Int) (a3 : Int) (a4 : List ((Int × (Int × Int) × Int) × Int × Int)) (a5 : List ((Int × (Int × Int) × Int) × Int × Int)) : law_expected.l0 N x0 x1 x2 x3 x4 r1 0 a3 a4 a5 = none := by kernel_rfl
theorem law_expected.l0_succ (N : Nat) (x0 : List ((Int × (Int × Int) × Int) × Int × Int)) (x1 : ByteArray × Int × Int × ByteArray) (x2 : Int) (x3 : ByteArray × Int × Int × Int × Int × Int × Int) (x4 : Int × Int) (r1 : ((Int × (Int × Int) × Int) × Int × Int) × Int) (k2 : Nat) (a3 : Int) (a4 : List ((Int × (Int × Int) × Int) × Int × Int)) (a5 : List ((Int × (Int × Int) × Int) × Int × Int)) : law_expected.l0 N x0 x1 x2 x3 x4 r1 (k2 + 1) a3 a4 a5 =
    bif decide (a3 < (x0.length : Int)) then
      bif (decide (0 ≤ a3)) && (decide (a3 < (x0.length : Int))) then
        bif decide ((((List.getD x0 (Int.toNat a3) ((0, ((0, 0), 0)), (0, 0))).1).1) < x2) then
          bif decide ((a4.length + 1) * 48 ≤ 140737488355328) && decide ((a4.length + 1) ≤ maxLen) then
            law_expected.l0 N x0 x1 x2 x3 x4 r1 k2 (w (a3 + 1)) (a4 ++ [List.getD x0 (Int.toNat a3) ((0, ((0, 0), 0)), (0, 0))]) a5
          else
            none
        else
        bif decide ((((List.getD x0 (Int.toNat a3) ((0, ((0, 0), 0)), (0, 0))).1).1) > x2) then
          bif decide ((a5.length + 1) * 48 ≤ 140737488355328) && decide ((a5.length + 1) ≤ maxLen) then
            law_expected.l0 N x0 x1 x2 x3 x4 r1 k2 (w (a3 + 1)) a4 (a5 ++ [List.getD x0 (Int.toNat a3) ((0, ((0, 0), 0)), (0, 0))])
          else
            none
        else
          law_expected.l0 N x0 x1 x2 x3 x4 r1 k2 (w (a3 + 1)) a4 a5
      else
        none
    else
    bif !(!((a5.length : Int) == 0)) || (!((a5.length : Int) == 0)) then
      bif !(!((a5.length : Int) == 0)) || (!((a5.length : Int) == 0)) then
        bif ((a5.length : Int) == 0) || (!((a5.length : Int) == 0)) then
          bif ((a5.length : Int) == 0) || (decide (x1.2.1 > 3)) then
            some (x0, 0)
          else
          bif decide ((a4.length + 1) * 48 ≤ 140737488355328) && decide ((a4.length + 1) ≤ maxLen) then
            bif decide (0 < (a5.length : Int)) then
              bif decide (0 < a5.length) then
                (plane_Distance.fn N (r1.1.1.2.1, (((List.getD a5 0 ((0, ((0, 0), 0)), (0, 0))).1).2).1)).bind fun r6 =>
                bif decide (0 < (a5.length : Int)) then
                  bif decide (0 < a5.length) then
                    bif (w ((((List.getD a5 0 ((0, ((0, 0), 0)), (0, 0))).1).1) - x2)) != 0 then
                      bif !(x1.2.1 == 2) || (x1.2.1 == 2) then
                        bif !(x1.2.1 == 2) || (x1.2.1 == 2) then
                          bif !(x1.2.1 == 2) || (x1.2.1 == 2) then
                            bif !(x1.2.1 == 2) || (x1.2.1 == 2) then
                              bif !(x1.2.1 == 2) || (x1.2.1 == 2) then
                                bif !((x1.2.1 == 2) && (!(decide (x1.2.2.1 < x3.2.2.2.2.2.1)))) || ((x1.2.1 == 2) && (!(decide (x1.2.2.1 < x3.2.2.2.2.2.1)))) then
                                  bif !((x1.2.1 == 2) && (!(decide (x1.2.2.1 < x3.2.2.2.2.2.1)))) || ((x1.2.1 == 2) && (!(decide (x1.2.2.1 < x3.2.2.2.2.2.1)))) then
                                    bif !((x1.2.1 == 2) && (!(decide (x1.2.2.1 < x3.2.2.2.2.2.1)))) || ((x1.2.1 == 2) && (!(decide (x1.2.2.1 < x3.2.2.2.2.2.1)))) then
                                      bif !((x1.2.1 == 2) && (!(decide (x1.2.2.1 < x3.2.2.2.2.2.1)))) || ((x1.2.1 == 2) && (!(decide (x1.2.2.1 < x3.2.2.2.2.2.1)))) then
                                        bif !(x1.2.1 == 2) || (x1.2.1 == 2) then
                                          bif !(x1.2.1 == 2) || ((decide (x1.2.2.1 < x3.2.2.2.2.2.1)) || ((x1.2.1 == 2) && (!(decide (x1.2.2.1 < x3.2.2.2.2.2.1))))) then
                                            bif (!(x1.2.1 == 2)) || (x1.2.1 == 2) then
                                              bif (x1.2.1 == 2) && ((decide (x1.2.2.1 < x3.2.2.2.2.2.1)) || (decide (x1.2.2.1 > x3.2.2.2.2.2.2))) then
                                                some ([], 4)
                                              else
                                              bif x1.2.1 == 3 then
                                                bif (w (Int.tdiv r6.1 (w ((((List.getD a5 0 ((0, ((0, 0), 0)), (0, 0))).1).1) - x2)))) == 0 then
                                                  some ([], 10)
                                                else
                                                  (plane_Distance.fn N (r1.1.1.2.1, x4)).bind fun r7 =>
                                                  law_expected.l1 N x2 x4 r1 a4 a5 r6 r7 N r7.2 r1.1.1.1
                                              else
                                                law_expected.l2 N x1 x2 r1 a5 r6 N 0 (a4 ++ [r1.1]) r1.1.1.1 r1.1.1.2.1.1 r1.1.1.2.1.2 r1.1.1.2.2 r1.1.2.1 r1.1.2.2
                                            else
                                              none
                                          else
                                            none
                                        else
                                          none
                                      else
                                        none
                                    else
                                      none
                                  else
                                    none
                                else
                                  none
                              else
                                none
                            else
                              none
                          else
                            none
                        else
                          none
                      else
                        none
                    else
                      none
                  else
                    none
                else
                  none
              else
                none
            else
              none
          else
            none
        else
          none
      else
        none
    else
      none := by kernel_rfl
theorem law_expected.l2_clean (N : Nat) (x1 : ByteArray × Int × Int × ByteArray) (x2 : Int) (r1 : ((Int × (Int × Int) × Int) × Int × Int) × Int) (a5 : List ((Int × (Int × Int) × Int) × Int × Int)) (r6 : Int × Int) (k11 : Nat) (a12 : Int) (a13 : List ((Int × (Int × Int) × Int) × Int × Int)) (a14 : Int) (a15 : Int) (a16 : Int) (a17 : Int) (a18 : Int) (a19 : Int) : law_expected.l2 N x1 x2 r1 a5 r6 (k11 + 1) a12 a13 a14 a15 a16 a17 a18 a19 =
    bif decide (a12 < (a5.length : Int)) then
      bif (decide (0 ≤ a12)) && (decide (a12 < (a5.length : Int))) then
        bif decide ((Int.toNat a12) < a5.length) then
          bif x1.2.1 == 1 then
            (angle_Vector.fn N (x1.2.2.1, (w ((w (Int.tdiv r6.1 (w ((((List.getD a5 0 ((0, ((0, 0), 0)), (0, 0))).1).1) - x2)))) * (w ((((List.getD a5 (Int.toNat a12) ((0, ((0, 0), 0)), (0, 0))).1).1) - x2)))))).bind fun r20 =>
            bif !(r20.2 == 0) then
              some ([], r20.2)
            else
              (plane_Check.fn N ((w (r1.1.1.2.1.1 + r20.1.1)), (w (r1.1.1.2.1.2 + r20.1.2)))).bind fun r21 =>
              bif !(r21 == 0) then
                some ([], r21)
              else
              bif decide ((a13.length + 1) * 48 ≤ 140737488355328) && decide ((a13.length + 1) ≤ maxLen) then
                law_expected.l2 N x1 x2 r1 a5 r6 k11 (w (a12 + 1)) (a13 ++ [((((List.getD a5 (Int.toNat a12) ((0, ((0, 0), 0)), (0, 0))).1).1, (((w (r1.1.1.2.1.1 + r20.1.1)), (w (r1.1.1.2.1.2 + r20.1.2))), (((List.getD a5 (Int.toNat a12) ((0, ((0, 0), 0)), (0, 0))).1).2).2)), (List.getD a5 (Int.toNat a12) ((0, ((0, 0), 0)), (0, 0))).2)]) (((List.getD a5 (Int.toNat a12) ((0, ((0, 0), 0)), (0, 0))).1).1) (w (r1.1.1.2.1.1 + r20.1.1)) (w (r1.1.1.2.1.2 + r20.1.2)) ((((List.getD a5 (Int.toNat a12) ((0, ((0, 0), 0)), (0, 0))).1).2).2) (((List.getD a5 (Int.toNat a12) ((0, ((0, 0), 0)), (0, 0))).2).1) (((List.getD a5 (Int.toNat a12) ((0, ((0, 0), 0)), (0, 0))).2).2)
              else
                none
          else
            (plane_Distance.fn N ((a15, a16), (((List.getD a5 (Int.toNat a12) ((0, ((0, 0), 0)), (0, 0))).1).2).1)).bind fun r22 =>
            bif x1.2.2.1 != 0 then
              bif x1.2.2.1 != 0 then
                bif (decide ((Int.tmod r22.2 x1.2.2.1) > 0)) || (r22.2 == 0) then
                  law_expected.j3 N x1 x2 r1 a5 r6 k11 a12 a13 a14 a15 a16 a17 a18 a19 (w ((w (Int.tdiv r22.2 x1.2.2.1)) + 1))
                else
                  law_expected.j3 N x1 x2 r1 a5 r6 k11 a12 a13 a14 a15 a16 a17 a18 a19 (w (Int.tdiv r22.2 x1.2.2.1))
              else
                none
            else
              none
        else
          none
      else
        none
    else
      some (a13, 0) := by
  rw [law_expected.l2_succ]; simp only [taut3, taut6, cond_true]
theorem law_expected.l0_clean (N : Nat) (x0 : List ((Int × (Int × Int) × Int) × Int × Int)) (x1 : ByteArray × Int × Int × ByteArray) (x2 : Int) (x3 : ByteArray × Int × Int × Int × Int × Int × Int) (x4 : Int × Int) (r1 : ((Int × (Int × Int) × Int) × Int × Int) × Int) (k2 : Nat) (a3 : Int) (a4 : List ((Int × (Int × Int) × Int) × Int × Int)) (a5 : List ((Int × (Int × Int) × Int) × Int × Int)) : law_expected.l0 N x0 x1 x2 x3 x4 r1 (k2 + 1) a3 a4 a5 =
    bif decide (a3 < (x0.length : Int)) then
      bif (decide (0 ≤ a3)) && (decide (a3 < (x0.length : Int))) then
        bif decide ((((List.getD x0 (Int.toNat a3) ((0, ((0, 0), 0)), (0, 0))).1).1) < x2) then
          bif decide ((a4.length + 1) * 48 ≤ 140737488355328) && decide ((a4.length + 1) ≤ maxLen) then
            law_expected.l0 N x0 x1 x2 x3 x4 r1 k2 (w (a3 + 1)) (a4 ++ [List.getD x0 (Int.toNat a3) ((0, ((0, 0), 0)), (0, 0))]) a5
          else
            none
        else
        bif decide ((((List.getD x0 (Int.toNat a3) ((0, ((0, 0), 0)), (0, 0))).1).1) > x2) then
          bif decide ((a5.length + 1) * 48 ≤ 140737488355328) && decide ((a5.length + 1) ≤ maxLen) then
            law_expected.l0 N x0 x1 x2 x3 x4 r1 k2 (w (a3 + 1)) a4 (a5 ++ [List.getD x0 (Int.toNat a3) ((0, ((0, 0), 0)), (0, 0))])
          else
            none
        else
          law_expected.l0 N x0 x1 x2 x3 x4 r1 k2 (w (a3 + 1)) a4 a5
      else
        none
    else
    bif ((a5.length : Int) == 0) || (decide (x1.2.1 > 3)) then
      some (x0, 0)
    else
    bif decide ((a4.length + 1) * 48 ≤ 140737488355328) && decide ((a4.length + 1) ≤ maxLen) then
      bif decide (0 < (a5.length : Int)) then
        bif decide (0 < a5.length) then
          (plane_Distance.fn N (r1.1.1.2.1, (((List.getD a5 0 ((0, ((0, 0), 0)), (0, 0))).1).2).1)).bind fun r6 =>
          bif decide (0 < (a5.length : Int)) then
            bif decide (0 < a5.length) then
              bif (w ((((List.getD a5 0 ((0, ((0, 0), 0)), (0, 0))).1).1) - x2)) != 0 then
                bif (x1.2.1 == 2) && ((decide (x1.2.2.1 < x3.2.2.2.2.2.1)) || (decide (x1.2.2.1 > x3.2.2.2.2.2.2))) then
                  some ([], 4)
                else
                bif x1.2.1 == 3 then
                  bif (w (Int.tdiv r6.1 (w ((((List.getD a5 0 ((0, ((0, 0), 0)), (0, 0))).1).1) - x2)))) == 0 then
                    some ([], 10)
                  else
                    (plane_Distance.fn N (r1.1.1.2.1, x4)).bind fun r7 =>
                    law_expected.l1 N x2 x4 r1 a4 a5 r6 r7 N r7.2 r1.1.1.1
                else
                  law_expected.l2 N x1 x2 r1 a5 r6 N 0 (a4 ++ [r1.1]) r1.1.1.1 r1.1.1.2.1.1 r1.1.1.2.1.2 r1.1.1.2.2 r1.1.2.1 r1.1.2.2
              else
                none
            else
              none
          else
            none
        else
          none
      else
        none
    else
      none := by
  rw [law_expected.l0_succ]; simp only [taut3, taut36, taut38, taut21, taut23, taut6, cond_true]
theorem law_expected.l2_cons (N : Nat) (x1 : ByteArray × Int × Int × ByteArray) (x2 : Int) (r1 : ((Int × (Int × Int) × Int) × Int × Int) × Int) (a5 : List ((Int × (Int × Int) × Int) × Int × Int)) (r6 : Int × Int) (k11 : Nat) (a13 : List ((Int × (Int × Int) × Int) × Int × Int)) (a14 : Int) (a15 : Int) (a16 : Int) (a17 : Int) (a18 : Int) (a19 : Int) {pre r} {x} (hl : a5 = pre ++ x :: r) (hb : a5.length < 4611686018427387904) : law_expected.l2 N x1 x2 r1 a5 r6 (k11 + 1) (pre.length : Int) a13 a14 a15 a16 a17 a18 a19 =
    bif decide (pre.length < a5.length) then
      bif x1.2.1 == 1 then
        (angle_Vector.fn N (x1.2.2.1, (w ((w (Int.tdiv r6.1 (w ((((List.getD a5 0 ((0, ((0, 0), 0)), (0, 0))).1).1) - x2)))) * (w (((x.1).1) - x2)))))).bind fun r20 =>
        bif !(r20.2 == 0) then
          some ([], r20.2)
        else
          (plane_Check.fn N ((w (r1.1.1.2.1.1 + r20.1.1)), (w (r1.1.1.2.1.2 + r20.1.2)))).bind fun r21 =>
          bif !(r21 == 0) then
            some ([], r21)
          else
          bif decide ((a13.length + 1) * 48 ≤ 140737488355328) && decide ((a13.length + 1) ≤ maxLen) then
            law_expected.l2 N x1 x2 r1 a5 r6 k11 ((pre.length : Int) + 1) (a13 ++ [(((x.1).1, (((w (r1.1.1.2.1.1 + r20.1.1)), (w (r1.1.1.2.1.2 + r20.1.2))), ((x.1).2).2)), x.2)]) ((x.1).1) (w (r1.1.1.2.1.1 + r20.1.1)) (w (r1.1.1.2.1.2 + r20.1.2)) (((x.1).2).2) ((x.2).1) ((x.2).2)
          else
            none
      else
        (plane_Distance.fn N ((a15, a16), ((x.1).2).1)).bind fun r22 =>
        bif x1.2.2.1 != 0 then
          bif x1.2.2.1 != 0 then
            bif (decide ((Int.tmod r22.2 x1.2.2.1) > 0)) || (r22.2 == 0) then
              law_expected.j3 N x1 x2 r1 a5 r6 k11 (pre.length : Int) a13 a14 a15 a16 a17 a18 a19 (w ((w (Int.tdiv r22.2 x1.2.2.1)) + 1))
            else
              law_expected.j3 N x1 x2 r1 a5 r6 k11 (pre.length : Int) a13 a14 a15 a16 a17 a18 a19 (w (Int.tdiv r22.2 x1.2.2.1))
          else
            none
        else
          none
    else
      none := by
  have hlen : a5.length = pre.length + 1 + r.length := by rw [hl]; simp; omega
  have e1 : decide ((pre.length : Int) < (a5.length : Int)) = true := by rw [decide_eq_true_iff]; omega
  have e2 : decide (0 ≤ (pre.length : Int)) = true := by rw [decide_eq_true_iff]; omega
  have e4 : w ((pre.length : Int) + 1) = (pre.length : Int) + 1 := w_next hl hb
  have e5 : List.take pre.length a5 = pre := by rw [hl]; simp
  have e6 : decide ((pre.length : Int) ≤ (a5.length : Int)) = true := by rw [decide_eq_true_iff]; omega
  have g0 : List.getD a5 pre.length ((0, ((0, 0), 0)), (0, 0)) = x := by rw [hl]; exact getD_mid pre x r _
  rw [law_expected.l2_clean]
  simp -implicitDefEqProofs only [Int.toNat_natCast, e1, e2, e4, e6, g0, e5, Bool.and_true, Bool.true_and, Bool.true_or, cond_true]
theorem law_expected.l2_nil (N : Nat) (x1 : ByteArray × Int × Int × ByteArray) (x2 : Int) (r1 : ((Int × (Int × Int) × Int) × Int × Int) × Int) (a5 : List ((Int × (Int × Int) × Int) × Int × Int)) (r6 : Int × Int) (k11 : Nat) (a13 : List ((Int × (Int × Int) × Int) × Int × Int)) (a14 : Int) (a15 : Int) (a16 : Int) (a17 : Int) (a18 : Int) (a19 : Int) : law_expected.l2 N x1 x2 r1 a5 r6 (k11 + 1) (a5.length : Int) a13 a14 a15 a16 a17 a18 a19 =
    some (a13, 0) := by
  have e1 : decide ((a5.length : Int) < (a5.length : Int)) = false := by rw [decide_eq_false_iff_not]; omega
  rw [law_expected.l2_clean]
  simp -implicitDefEqProofs only [e1, cond_false]
theorem law_expected.l0_cons (N : Nat) (x0 : List ((Int × (Int × Int) × Int) × Int × Int)) (x1 : ByteArray × Int × Int × ByteArray) (x2 : Int) (x3 : ByteArray × Int × Int × Int × Int × Int × Int) (x4 : Int × Int) (r1 : ((Int × (Int × Int) × Int) × Int × Int) × Int) (k2 : Nat) (a4 : List ((Int × (Int × Int) × Int) × Int × Int)) (a5 : List ((Int × (Int × Int) × Int) × Int × Int)) {pre r} {x} (hl : x0 = pre ++ x :: r) (hb : x0.length < 4611686018427387904) : law_expected.l0 N x0 x1 x2 x3 x4 r1 (k2 + 1) (pre.length : Int) a4 a5 =
    bif decide (((x.1).1) < x2) then
      bif decide ((a4.length + 1) * 48 ≤ 140737488355328) && decide ((a4.length + 1) ≤ maxLen) then
        law_expected.l0 N x0 x1 x2 x3 x4 r1 k2 ((pre.length : Int) + 1) (a4 ++ [x]) a5
      else
        none
    else
    bif decide (((x.1).1) > x2) then
      bif decide ((a5.length + 1) * 48 ≤ 140737488355328) && decide ((a5.length + 1) ≤ maxLen) then
        law_expected.l0 N x0 x1 x2 x3 x4 r1 k2 ((pre.length : Int) + 1) a4 (a5 ++ [x])
      else
        none
    else
      law_expected.l0 N x0 x1 x2 x3 x4 r1 k2 ((pre.length : Int) + 1) a4 a5 := by
  have hlen : x0.length = pre.length + 1 + r.length := by rw [hl]; simp; omega
  have e1 : decide ((pre.length : Int) < (x0.length : Int)) = true := by rw [decide_eq_true_iff]; omega
  have e2 : decide (0 ≤ (pre.length : Int)) = true := by rw [decide_eq_true_iff]; omega
  have e4 : w ((pre.length : Int) + 1) = (pre.length : Int) + 1 := w_next hl hb
  have e5 : List.take pre.length x0 = pre := by rw [hl]; simp
  have e6 : decide ((pre.length : Int) ≤ (x0.length : Int)) = true := by rw [decide_eq_true_iff]; omega
  have g0 : List.getD x0 pre.length ((0, ((0, 0), 0)), (0, 0)) = x := by rw [hl]; exact getD_mid pre x r _
  rw [law_expected.l0_clean]
  simp -implicitDefEqProofs only [Int.toNat_natCast, e1, e2, e4, e6, g0, e5, Bool.and_true, Bool.true_and, Bool.true_or, cond_true]
theorem law_expected.l0_nil (N : Nat) (x0 : List ((Int × (Int × Int) × Int) × Int × Int)) (x1 : ByteArray × Int × Int × ByteArray) (x2 : Int) (x3 : ByteArray × Int × Int × Int × Int × Int × Int) (x4 : Int × Int) (r1 : ((Int × (Int × Int) × Int) × Int × Int) × Int) (k2 : Nat) (a4 : List ((Int × (Int × Int) × Int) × Int × Int)) (a5 : List ((Int × (Int × Int) × Int) × Int × Int)) : law_expected.l0 N x0 x1 x2 x3 x4 r1 (k2 + 1) (x0.length : Int) a4 a5 =
    bif ((a5.length : Int) == 0) || (decide (x1.2.1 > 3)) then
      some (x0, 0)
    else
    bif decide ((a4.length + 1) * 48 ≤ 140737488355328) && decide ((a4.length + 1) ≤ maxLen) then
      bif decide (0 < (a5.length : Int)) then
        bif decide (0 < a5.length) then
          (plane_Distance.fn N (r1.1.1.2.1, (((List.getD a5 0 ((0, ((0, 0), 0)), (0, 0))).1).2).1)).bind fun r6 =>
          bif decide (0 < (a5.length : Int)) then
            bif decide (0 < a5.length) then
              bif (w ((((List.getD a5 0 ((0, ((0, 0), 0)), (0, 0))).1).1) - x2)) != 0 then
                bif (x1.2.1 == 2) && ((decide (x1.2.2.1 < x3.2.2.2.2.2.1)) || (decide (x1.2.2.1 > x3.2.2.2.2.2.2))) then
                  some ([], 4)
                else
                bif x1.2.1 == 3 then
                  bif (w (Int.tdiv r6.1 (w ((((List.getD a5 0 ((0, ((0, 0), 0)), (0, 0))).1).1) - x2)))) == 0 then
                    some ([], 10)
                  else
                    (plane_Distance.fn N (r1.1.1.2.1, x4)).bind fun r7 =>
                    law_expected.l1 N x2 x4 r1 a4 a5 r6 r7 N r7.2 r1.1.1.1
                else
                  law_expected.l2 N x1 x2 r1 a5 r6 N 0 (a4 ++ [r1.1]) r1.1.1.1 r1.1.1.2.1.1 r1.1.1.2.1.2 r1.1.1.2.2 r1.1.2.1 r1.1.2.2
              else
                none
            else
              none
          else
            none
        else
          none
      else
        none
    else
      none := by
  have e1 : decide ((x0.length : Int) < (x0.length : Int)) = false := by rw [decide_eq_false_iff_not]; omega
  rw [law_expected.l0_clean]
  simp -implicitDefEqProofs only [e1, cond_false]
theorem law_expected.eq (N : Nat) (x0 : List ((Int × (Int × Int) × Int) × Int × Int)) (x1 : ByteArray × Int × Int × ByteArray) (x2 : Int) (x3 : ByteArray × Int × Int × Int × Int × Int × Int) (x4 : Int × Int) : law_expected.fn N (x0, x1, x2, x3, x4) =
    (tube_At.fn N (x0, x2)).bind fun r1 =>
    law_expected.l0 N x0 x1 x2 x3 x4 r1 N 0 [] [] := by kernel_rfl

end Go.Proofs.YtnbkofkgdbhbpaaDoor.Sk
