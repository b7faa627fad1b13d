/- PRINTED by gen.py: what the functions answer, part 2. Not trusted: Lean checks it. -/
import Derived.Test.YtjojikhfmlceoaaSectorEq1
set_option linter.unusedVariables false
set_option linter.unusedSimpArgs false
set_option maxRecDepth 100000
namespace Go.Proofs.Ytjojikhfmlceoaa.Sk
open Go
/-! ### polygon_Area: skyway/polygon.Area -/
def polygon_Area.kp : List (Nat × List (Nat × Option (TypeId × Ty))) := []
noncomputable def polygon_Area.G (N : Nat) : List (Nat × Spec) := [(88, .pure (polygon_Check.S N)), (105, .pure (polygon_double.S N))]
noncomputable def polygon_Area.E (N : Nat) : Env := mkEnv (polygon_Area.G N) N tyTab polygon_Area.kp
noncomputable def polygon_Area.fn (N : Nat) (x : List (Int × Int)) : Option (Int × Int) := evFn (polygon_Area.E N) Try.prog 3 Try.f87 false [.cell (.sl 29 (.pair (.int .i64) (.int .i64)))] [.val (.cell (.int .i64)), .val (.cell (.int .i64))] x
noncomputable def polygon_Area.S (N : Nat) : PSpec := ⟨false, [.cell (.sl 29 (.pair (.int .i64) (.int .i64)))], [.val (.cell (.int .i64)), .val (.cell (.int .i64))], polygon_Area.fn N⟩
theorem f87_enters : Enters Try.prog 87 := ⟨Try.f87, Try.func87, by kernel_rfl, by kernel_rfl⟩
theorem polygon_Area.tab (N : Nat) : TabOk Try.prog (polygon_Area.G N) := ⟨⟨polygon_Check.enters, polygon_Check.sound N⟩, ⟨polygon_double.enters, polygon_double.sound N⟩, trivial⟩
theorem polygon_Area.enters : Enters Try.prog 87 := f87_enters
theorem polygon_Area.sound (N : Nat) : Sound Try.prog 87 (polygon_Area.S N) := evFn_sound (specs_tab (polygon_Area.tab N)) (inls_tab (polygon_Area.tab N)) mixed 3 Try.func87 _ _ _
theorem polygon_Area.eq (N : Nat) (x0 : List (Int × Int)) : polygon_Area.fn N x0 =
    (polygon_Check.fn N x0).bind fun r1 =>
    bif !(r1 == 0) then
      some (0, r1)
    else
      (polygon_double.fn N x0).bind fun r2 =>
      some (r2, 0) := by kernel_rfl

/-! ### sector_Left: skyway/sector.Left -/
def sector_Left.kp : List (Nat × List (Nat × Option (TypeId × Ty))) := [(9, [(3, none), (8, none), (46, none), (47, none), (48, none)])]
noncomputable def sector_Left.G (N : Nat) : List (Nat × Spec) := [(16, .pure (sector_Check.S N)), (23, .pure (sector_Box.S N)), (62, .pure (sector_rooms.S N)), (86, .pure (sector_within.S N)), (87, .pure (polygon_Area.S N))]
noncomputable def sector_Left.E (N : Nat) : Env := mkEnv (sector_Left.G N) N tyTab sector_Left.kp
noncomputable def sector_Left.fn (N : Nat) (x : List (ByteArray × List (List (Int × Int) × Int × Int)) × (Int × Int) × (Int × Int) × Int × Int) : Option (Int × Int) := evFn (sector_Left.E N) Try.prog 3 Try.f58 false [.cell (.sl 106 (.pair (.str) (.sl 113 (.pair (.sl 29 (.pair (.int .i64) (.int .i64))) (.pair (.int .i64) (.int .i64)))))), .agg (.pair (.pair (.int .i64) (.int .i64)) (.pair (.pair (.int .i64) (.int .i64)) (.pair (.int .i64) (.int .i64))))] [.val (.cell (.int .i64)), .val (.cell (.int .i64))] x
noncomputable def sector_Left.S (N : Nat) : PSpec := ⟨false, [.cell (.sl 106 (.pair (.str) (.sl 113 (.pair (.sl 29 (.pair (.int .i64) (.int .i64))) (.pair (.int .i64) (.int .i64)))))), .agg (.pair (.pair (.int .i64) (.int .i64)) (.pair (.pair (.int .i64) (.int .i64)) (.pair (.int .i64) (.int .i64))))], [.val (.cell (.int .i64)), .val (.cell (.int .i64))], sector_Left.fn N⟩
theorem f58_enters : Enters Try.prog 58 := ⟨Try.f58, Try.func58, by kernel_rfl, by kernel_rfl⟩
theorem sector_Left.tab (N : Nat) : TabOk Try.prog (sector_Left.G N) := ⟨⟨sector_Check.enters, sector_Check.sound N⟩, ⟨sector_Box.enters, sector_Box.sound N⟩, ⟨sector_rooms.enters, sector_rooms.sound N⟩, ⟨sector_within.enters, sector_within.sound N⟩, ⟨polygon_Area.enters, polygon_Area.sound N⟩, trivial⟩
theorem sector_Left.enters : Enters Try.prog 58 := f58_enters
theorem sector_Left.sound (N : Nat) : Sound Try.prog 58 (sector_Left.S N) := evFn_sound (specs_tab (sector_Left.tab N)) (inls_tab (sector_Left.tab N)) mixed 3 Try.func58 _ _ _
noncomputable def sector_Left.cd (N : Nat) (p : List Nat) : St → (Ex → St → Option (Int × Int)) → Option (Int × Int) := ev (sector_Left.E N) Try.prog (callD (sector_Left.E N) Try.prog 3) 0 (codeAt (bodyOf Try.f58) p)
noncomputable def sector_Left.fin : Ex → St → Option (Int × Int) := endK Try.prog Try.f58 [.val (.cell (.int .i64)), .val (.cell (.int .i64))]
noncomputable def sector_Left.l0 (N : Nat) (x1 : (Int × Int) × (Int × Int) × Int × Int) (r3 : List (List (Int × Int) × Int × Int)) (k4 : Nat) (a5 : Int) (a6 : Int) : Option (Int × Int) :=
  loopN (norm ((sector_Left.E N).keep 9) 0) (sector_Left.cd N [1, 1, 1, 1, 0, 1, 0, 0]) k4
  ⟨[.any, .any, .any, .ptr 0 0, .any, .any, .any, .any, .sc (.int .i64 a5), .any, .any, .any, .any, .any, .any, .any, .any, .any, .any, .any, .any, .any, .any, .any, .any, .any, .any, .any, .any, .any, .any, .any, .any, .any, .any, .any, .any, .any, .any, .any, .any, .any, .any, .any, .any, .any, .own 1, .sc (.int .i64 (r3.length : Int)), .sc (.int .i64 a6), .any, .any, .any, .any, .any, .any, .any, .any, .any, .any, .any, .any, .any, .any, .any, .any, .any, .any, .any, .any, .any, .any, .any, .any, .any, .any, .any], [.cells [.sc (.int .i64 x1.1.1), .sc (.int .i64 x1.1.2), .sc (.int .i64 x1.2.1.1), .sc (.int .i64 x1.2.1.2), .sc (.int .i64 x1.2.2.1), .sc (.int .i64 x1.2.2.2)] 36, .rows false 113 (.pair (.sl 29 (.pair (.int .i64) (.int .i64))) (.pair (.int .i64) (.int .i64))) r3]⟩
  (blockK 0 (seqK (sector_Left.cd N [1, 1, 1, 1, 1]) sector_Left.fin))
theorem sector_Left.l0_zero (N : Nat) (x1 : (Int × Int) × (Int × Int) × Int × Int) (r3 : List (List (Int × Int) × Int × Int)) (a5 : Int) (a6 : Int) : sector_Left.l0 N x1 r3 0 a5 a6 = none := by kernel_rfl
theorem sector_Left.l0_succ (N : Nat) (x1 : (Int × Int) × (Int × Int) × Int × Int) (r3 : List (List (Int × Int) × Int × Int)) (k4 : Nat) (a5 : Int) (a6 : Int) : sector_Left.l0 N x1 r3 (k4 + 1) a5 a6 =
    bif decide (a6 < (r3.length : Int)) then
      bif (decide (0 ≤ a6)) && (decide (a6 < (r3.length : Int))) then
        bif decide ((Int.toNat a6) < r3.length) then
          (sector_within.fn N (x1, List.getD r3 (Int.toNat a6) ([], (0, 0)))).bind fun r7 =>
          bif !r7 then
            some (0, 19)
          else
            (polygon_Area.fn N ((List.getD r3 (Int.toNat a6) ([], (0, 0))).1)).bind fun r8 =>
            bif !(r8.2 == 0) then
              some (0, r8.2)
            else
              sector_Left.l0 N x1 r3 k4 (w (a5 - (w (r8.1 * (w ((((List.getD r3 (Int.toNat a6) ([], (0, 0))).2).2) - (((List.getD r3 (Int.toNat a6) ([], (0, 0))).2).1))))))) (w (a6 + 1))
        else
          none
      else
        none
    else
      some (a5, 0) := by kernel_rfl
theorem sector_Left.l0_cons (N : Nat) (x1 : (Int × Int) × (Int × Int) × Int × Int) (r3 : List (List (Int × Int) × Int × Int)) (k4 : Nat) (a5 : Int) {pre r} {x} (hl : r3 = pre ++ x :: r) (hb : r3.length < 4611686018427387904) : sector_Left.l0 N x1 r3 (k4 + 1) a5 (pre.length : Int) =
    bif decide (pre.length < r3.length) then
      (sector_within.fn N (x1, x)).bind fun r7 =>
      bif !r7 then
        some (0, 19)
      else
        (polygon_Area.fn N (x.1)).bind fun r8 =>
        bif !(r8.2 == 0) then
          some (0, r8.2)
        else
          sector_Left.l0 N x1 r3 k4 (w (a5 - (w (r8.1 * (w (((x.2).2) - ((x.2).1))))))) ((pre.length : Int) + 1)
    else
      none := by
  have hlen : r3.length = pre.length + 1 + r.length := by rw [hl]; simp; omega
  have e1 : decide ((pre.length : Int) < (r3.length : Int)) = true := by rw [decide_eq_true_iff]; omega
  have e2 : decide (0 ≤ (pre.length : Int)) = true := by rw [decide_eq_true_iff]; omega
  have e4 : w ((pre.length : Int) + 1) = (pre.length : Int) + 1 := w_next hl hb
  have e5 : List.take pre.length r3 = pre := by rw [hl]; simp
  have e6 : decide ((pre.length : Int) ≤ (r3.length : Int)) = true := by rw [decide_eq_true_iff]; omega
  have g0 : List.getD r3 pre.length ([], (0, 0)) = x := by rw [hl]; exact getD_mid pre x r _
  rw [sector_Left.l0_succ]
  simp -implicitDefEqProofs only [Int.toNat_natCast, e1, e2, e4, e6, g0, e5, Bool.and_true, Bool.true_and, Bool.true_or, cond_true]
theorem sector_Left.l0_nil (N : Nat) (x1 : (Int × Int) × (Int × Int) × Int × Int) (r3 : List (List (Int × Int) × Int × Int)) (k4 : Nat) (a5 : Int) : sector_Left.l0 N x1 r3 (k4 + 1) a5 (r3.length : Int) =
    some (a5, 0) := by
  have e1 : decide ((r3.length : Int) < (r3.length : Int)) = false := by rw [decide_eq_false_iff_not]; omega
  rw [sector_Left.l0_succ]
  simp -implicitDefEqProofs only [e1, cond_false]
theorem sector_Left.eq (N : Nat) (x0 : List (ByteArray × List (List (Int × Int) × Int × Int))) (x1 : (Int × Int) × (Int × Int) × Int × Int) : sector_Left.fn N (x0, x1) =
    (sector_Check.fn N x0).bind fun r1 =>
    bif !(r1 == 0) then
      some (0, r1)
    else
      (sector_Box.fn N x1).bind fun r2 =>
      bif !(r2 == 0) then
        some (0, r2)
      else
        (sector_rooms.fn N x0).bind fun r3 =>
        sector_Left.l0 N x1 r3 N (w ((w ((w (2 * (w (x1.2.1.1 - x1.1.1)))) * (w (x1.2.1.2 - x1.1.2)))) * (w (x1.2.2.2 - x1.2.2.1)))) 0 := by kernel_rfl

/-! ### law_straight: skyway/skywaylaw3.straight -/
def law_straight.kp : List (Nat × List (Nat × Option (TypeId × Ty))) := []
noncomputable def law_straight.G (N : Nat) : List (Nat × Spec) := []
noncomputable def law_straight.E (N : Nat) : Env := mkEnv (law_straight.G N) N tyTab law_straight.kp
noncomputable def law_straight.fn (N : Nat) (x : Int × Int) : Option (List ((Int × (Int × Int) × Int) × Int × Int)) := evFn (law_straight.E N) Try.prog 3 Try.f59 false [.cell (.int .i64), .cell (.int .i64)] [.own 44 (.pair (.pair (.int .i64) (.pair (.pair (.int .i64) (.int .i64)) (.int .i64))) (.pair (.int .i64) (.int .i64)))] x
noncomputable def law_straight.S (N : Nat) : PSpec := ⟨false, [.cell (.int .i64), .cell (.int .i64)], [.own 44 (.pair (.pair (.int .i64) (.pair (.pair (.int .i64) (.int .i64)) (.int .i64))) (.pair (.int .i64) (.int .i64)))], law_straight.fn N⟩
theorem f59_enters : Enters Try.prog 59 := ⟨Try.f59, Try.func59, by kernel_rfl, by kernel_rfl⟩
theorem law_straight.tab (N : Nat) : TabOk Try.prog (law_straight.G N) := trivial
theorem law_straight.enters : Enters Try.prog 59 := f59_enters
theorem law_straight.sound (N : Nat) : Sound Try.prog 59 (law_straight.S N) := evFn_sound (specs_tab (law_straight.tab N)) (inls_tab (law_straight.tab N)) mixed 3 Try.func59 _ _ _
theorem law_straight.eq (N : Nat) (x0 : Int) (x1 : Int) : law_straight.fn N (x0, x1) =
    some [((0, ((x0, 5), 50)), (0, 0)), ((10, ((x1, 5), 50)), (0, 0))] := by kernel_rfl

/-! ### tube_Check: skyway/tube.Check -/
def tube_Check.kp : List (Nat × List (Nat × Option (TypeId × Ty))) := [(6, [(0, none), (14, none), (15, none), (16, none)])]
noncomputable def tube_Check.G (N : Nat) : List (Nat × Spec) := [(21, .pure (plane_Check.S N))]
noncomputable def tube_Check.E (N : Nat) : Env := mkEnv (tube_Check.G N) N tyTab tube_Check.kp
noncomputable def tube_Check.fn (N : Nat) (x : List ((Int × (Int × Int) × Int) × Int × Int)) : Option Int := evFn (tube_Check.E N) Try.prog 3 Try.f25 false [.cell (.sl 44 (.pair (.pair (.int .i64) (.pair (.pair (.int .i64) (.int .i64)) (.int .i64))) (.pair (.int .i64) (.int .i64))))] [.val (.cell (.int .i64))] x
noncomputable def tube_Check.S (N : Nat) : PSpec := ⟨false, [.cell (.sl 44 (.pair (.pair (.int .i64) (.pair (.pair (.int .i64) (.int .i64)) (.int .i64))) (.pair (.int .i64) (.int .i64))))], [.val (.cell (.int .i64))], tube_Check.fn N⟩
theorem f25_enters : Enters Try.prog 25 := ⟨Try.f25, Try.func25, by kernel_rfl, by kernel_rfl⟩
theorem tube_Check.tab (N : Nat) : TabOk Try.prog (tube_Check.G N) := ⟨⟨plane_Check.enters, plane_Check.sound N⟩, trivial⟩
theorem tube_Check.enters : Enters Try.prog 25 := f25_enters
theorem tube_Check.sound (N : Nat) : Sound Try.prog 25 (tube_Check.S N) := evFn_sound (specs_tab (tube_Check.tab N)) (inls_tab (tube_Check.tab N)) mixed 3 Try.func25 _ _ _
noncomputable def tube_Check.cd (N : Nat) (p : List Nat) : St → (Ex → St → Option Int) → Option Int := ev (tube_Check.E N) Try.prog (callD (tube_Check.E N) Try.prog 3) 0 (codeAt (bodyOf Try.f25) p)
noncomputable def tube_Check.fin : Ex → St → Option Int := endK Try.prog Try.f25 [.val (.cell (.int .i64))]
noncomputable def tube_Check.l0 (N : Nat) (x0 : List ((Int × (Int × Int) × Int) × Int × Int)) (k1 : Nat) (a2 : Int) : Option Int :=
  loopN (norm ((tube_Check.E N).keep 6) 0) (tube_Check.cd N [1, 1, 0, 1, 0, 0]) k1
  ⟨[.ros false 44 (.pair (.pair (.int .i64) (.pair (.pair (.int .i64) (.int .i64)) (.int .i64))) (.pair (.int .i64) (.int .i64))) x0, .any, .any, .any, .any, .any, .any, .any, .any, .any, .any, .any, .any, .any, .ros false 44 (.pair (.pair (.int .i64) (.pair (.pair (.int .i64) (.int .i64)) (.int .i64))) (.pair (.int .i64) (.int .i64))) x0, .sc (.int .i64 (x0.length : Int)), .sc (.int .i64 a2), .any, .any, .any, .any, .any, .any, .any, .any, .any, .any, .any, .any, .any, .any, .any, .any, .any, .any, .any, .any, .any, .any, .any, .any, .any, .any, .any, .any, .any, .any, .any, .any, .any, .any, .any, .any, .any, .any, .any, .any, .any, .any, .any, .any, .any, .any, .any, .any, .any, .any, .any, .any, .any, .any, .any, .any, .any, .any, .any, .any, .any, .any, .any, .any, .any, .any, .any, .any, .any], []⟩
  (blockK 1 (seqK (tube_Check.cd N [1, 1, 1]) tube_Check.fin))
theorem tube_Check.l0_zero (N : Nat) (x0 : List ((Int × (Int × Int) × Int) × Int × Int)) (a2 : Int) : tube_Check.l0 N x0 0 a2 = none := by kernel_rfl
theorem tube_Check.l0_succ (N : Nat) (x0 : List ((Int × (Int × Int) × Int) × Int × Int)) (k1 : Nat) (a2 : Int) : tube_Check.l0 N x0 (k1 + 1) a2 =
    bif decide (a2 < (x0.length : Int)) then
      bif (decide (0 ≤ a2)) && (decide (a2 < (x0.length : Int))) then
        bif !(!(decide ((((List.getD x0 (Int.toNat a2) ((0, ((0, 0), 0)), (0, 0))).1).1) < 0))) || (!(decide ((((List.getD x0 (Int.toNat a2) ((0, ((0, 0), 0)), (0, 0))).1).1) < 0))) then
          bif !(!(decide ((((List.getD x0 (Int.toNat a2) ((0, ((0, 0), 0)), (0, 0))).1).1) < 0))) || (!(decide ((((List.getD x0 (Int.toNat a2) ((0, ((0, 0), 0)), (0, 0))).1).1) < 0))) then
            bif !(!(decide ((((List.getD x0 (Int.toNat a2) ((0, ((0, 0), 0)), (0, 0))).1).1) < 0))) || (!(decide ((((List.getD x0 (Int.toNat a2) ((0, ((0, 0), 0)), (0, 0))).1).1) < 0))) then
              bif (decide ((((List.getD x0 (Int.toNat a2) ((0, ((0, 0), 0)), (0, 0))).1).1) < 0)) || (!(decide ((((List.getD x0 (Int.toNat a2) ((0, ((0, 0), 0)), (0, 0))).1).1) < 0))) then
                bif !(!((decide ((((List.getD x0 (Int.toNat a2) ((0, ((0, 0), 0)), (0, 0))).1).1) < 0)) || (decide ((((List.getD x0 (Int.toNat a2) ((0, ((0, 0), 0)), (0, 0))).1).1) > 200000)))) || (!((decide ((((List.getD x0 (Int.toNat a2) ((0, ((0, 0), 0)), (0, 0))).1).1) < 0)) || (decide ((((List.getD x0 (Int.toNat a2) ((0, ((0, 0), 0)), (0, 0))).1).1) > 200000)))) then
                  bif !(!((decide ((((List.getD x0 (Int.toNat a2) ((0, ((0, 0), 0)), (0, 0))).1).1) < 0)) || (decide ((((List.getD x0 (Int.toNat a2) ((0, ((0, 0), 0)), (0, 0))).1).1) > 200000)))) || (!((decide ((((List.getD x0 (Int.toNat a2) ((0, ((0, 0), 0)), (0, 0))).1).1) < 0)) || (decide ((((List.getD x0 (Int.toNat a2) ((0, ((0, 0), 0)), (0, 0))).1).1) > 200000)))) then
                    bif !((!((decide ((((List.getD x0 (Int.toNat a2) ((0, ((0, 0), 0)), (0, 0))).1).1) < 0)) || (decide ((((List.getD x0 (Int.toNat a2) ((0, ((0, 0), 0)), (0, 0))).1).1) > 200000)))) && (decide (a2 > 0))) || ((!((decide ((((List.getD x0 (Int.toNat a2) ((0, ((0, 0), 0)), (0, 0))).1).1) < 0)) || (decide ((((List.getD x0 (Int.toNat a2) ((0, ((0, 0), 0)), (0, 0))).1).1) > 200000)))) && (decide (a2 > 0))) then
                      bif !((!((decide ((((List.getD x0 (Int.toNat a2) ((0, ((0, 0), 0)), (0, 0))).1).1) < 0)) || (decide ((((List.getD x0 (Int.toNat a2) ((0, ((0, 0), 0)), (0, 0))).1).1) > 200000)))) && (decide (a2 > 0))) || ((!((decide ((((List.getD x0 (Int.toNat a2) ((0, ((0, 0), 0)), (0, 0))).1).1) < 0)) || (decide ((((List.getD x0 (Int.toNat a2) ((0, ((0, 0), 0)), (0, 0))).1).1) > 200000)))) && (decide (a2 > 0))) then
                        bif !((!((decide ((((List.getD x0 (Int.toNat a2) ((0, ((0, 0), 0)), (0, 0))).1).1) < 0)) || (decide ((((List.getD x0 (Int.toNat a2) ((0, ((0, 0), 0)), (0, 0))).1).1) > 200000)))) && (decide (a2 > 0))) || ((!((decide ((((List.getD x0 (Int.toNat a2) ((0, ((0, 0), 0)), (0, 0))).1).1) < 0)) || (decide ((((List.getD x0 (Int.toNat a2) ((0, ((0, 0), 0)), (0, 0))).1).1) > 200000)))) && (decide (a2 > 0))) then
                          bif !((!((decide ((((List.getD x0 (Int.toNat a2) ((0, ((0, 0), 0)), (0, 0))).1).1) < 0)) || (decide ((((List.getD x0 (Int.toNat a2) ((0, ((0, 0), 0)), (0, 0))).1).1) > 200000)))) && (decide (a2 > 0))) || ((!((decide ((((List.getD x0 (Int.toNat a2) ((0, ((0, 0), 0)), (0, 0))).1).1) < 0)) || (decide ((((List.getD x0 (Int.toNat a2) ((0, ((0, 0), 0)), (0, 0))).1).1) > 200000)))) && (decide (a2 > 0))) then
                            bif !((!((decide ((((List.getD x0 (Int.toNat a2) ((0, ((0, 0), 0)), (0, 0))).1).1) < 0)) || (decide ((((List.getD x0 (Int.toNat a2) ((0, ((0, 0), 0)), (0, 0))).1).1) > 200000)))) && (decide (a2 > 0))) || ((!((decide ((((List.getD x0 (Int.toNat a2) ((0, ((0, 0), 0)), (0, 0))).1).1) < 0)) || (decide ((((List.getD x0 (Int.toNat a2) ((0, ((0, 0), 0)), (0, 0))).1).1) > 200000)))) && (decide (a2 > 0))) then
                              bif ((decide (0 ≤ (w (a2 - 1)))) && (decide ((w (a2 - 1)) < (x0.length : Int)))) || !((!((decide ((((List.getD x0 (Int.toNat a2) ((0, ((0, 0), 0)), (0, 0))).1).1) < 0)) || (decide ((((List.getD x0 (Int.toNat a2) ((0, ((0, 0), 0)), (0, 0))).1).1) > 200000)))) && (decide (a2 > 0))) then
                                bif !((!((decide ((((List.getD x0 (Int.toNat a2) ((0, ((0, 0), 0)), (0, 0))).1).1) < 0)) || (decide ((((List.getD x0 (Int.toNat a2) ((0, ((0, 0), 0)), (0, 0))).1).1) > 200000)))) && (decide (a2 > 0))) || ((!((decide ((((List.getD x0 (Int.toNat a2) ((0, ((0, 0), 0)), (0, 0))).1).1) < 0)) || (decide ((((List.getD x0 (Int.toNat a2) ((0, ((0, 0), 0)), (0, 0))).1).1) > 200000)))) && (decide (a2 > 0))) then
                                  bif !((!((decide ((((List.getD x0 (Int.toNat a2) ((0, ((0, 0), 0)), (0, 0))).1).1) < 0)) || (decide ((((List.getD x0 (Int.toNat a2) ((0, ((0, 0), 0)), (0, 0))).1).1) > 200000)))) && (decide (a2 > 0))) || ((!((decide ((((List.getD x0 (Int.toNat a2) ((0, ((0, 0), 0)), (0, 0))).1).1) < 0)) || (decide ((((List.getD x0 (Int.toNat a2) ((0, ((0, 0), 0)), (0, 0))).1).1) > 200000)))) && (decide (a2 > 0))) then
                                    bif !((!((decide ((((List.getD x0 (Int.toNat a2) ((0, ((0, 0), 0)), (0, 0))).1).1) < 0)) || (decide ((((List.getD x0 (Int.toNat a2) ((0, ((0, 0), 0)), (0, 0))).1).1) > 200000)))) && (decide (a2 > 0))) || ((!((decide ((((List.getD x0 (Int.toNat a2) ((0, ((0, 0), 0)), (0, 0))).1).1) < 0)) || (decide ((((List.getD x0 (Int.toNat a2) ((0, ((0, 0), 0)), (0, 0))).1).1) > 200000)))) && (decide (a2 > 0))) then
                                      bif !((!((decide ((((List.getD x0 (Int.toNat a2) ((0, ((0, 0), 0)), (0, 0))).1).1) < 0)) || (decide ((((List.getD x0 (Int.toNat a2) ((0, ((0, 0), 0)), (0, 0))).1).1) > 200000)))) && (decide (a2 > 0))) || ((!((decide ((((List.getD x0 (Int.toNat a2) ((0, ((0, 0), 0)), (0, 0))).1).1) < 0)) || (decide ((((List.getD x0 (Int.toNat a2) ((0, ((0, 0), 0)), (0, 0))).1).1) > 200000)))) && (decide (a2 > 0))) then
                                        bif !((!((decide ((((List.getD x0 (Int.toNat a2) ((0, ((0, 0), 0)), (0, 0))).1).1) < 0)) || (decide ((((List.getD x0 (Int.toNat a2) ((0, ((0, 0), 0)), (0, 0))).1).1) > 200000)))) && (decide (a2 > 0))) || ((!((decide ((((List.getD x0 (Int.toNat a2) ((0, ((0, 0), 0)), (0, 0))).1).1) < 0)) || (decide ((((List.getD x0 (Int.toNat a2) ((0, ((0, 0), 0)), (0, 0))).1).1) > 200000)))) && (decide (a2 > 0))) then
                                          bif !(!((decide ((((List.getD x0 (Int.toNat a2) ((0, ((0, 0), 0)), (0, 0))).1).1) < 0)) || (decide ((((List.getD x0 (Int.toNat a2) ((0, ((0, 0), 0)), (0, 0))).1).1) > 200000)))) || (!((decide ((((List.getD x0 (Int.toNat a2) ((0, ((0, 0), 0)), (0, 0))).1).1) < 0)) || (decide ((((List.getD x0 (Int.toNat a2) ((0, ((0, 0), 0)), (0, 0))).1).1) > 200000)))) then
                                            bif !(!((decide ((((List.getD x0 (Int.toNat a2) ((0, ((0, 0), 0)), (0, 0))).1).1) < 0)) || (decide ((((List.getD x0 (Int.toNat a2) ((0, ((0, 0), 0)), (0, 0))).1).1) > 200000)))) || ((!(decide (a2 > 0))) || ((!((decide ((((List.getD x0 (Int.toNat a2) ((0, ((0, 0), 0)), (0, 0))).1).1) < 0)) || (decide ((((List.getD x0 (Int.toNat a2) ((0, ((0, 0), 0)), (0, 0))).1).1) > 200000)))) && (decide (a2 > 0)))) then
                                              bif ((decide ((((List.getD x0 (Int.toNat a2) ((0, ((0, 0), 0)), (0, 0))).1).1) < 0)) || (decide ((((List.getD x0 (Int.toNat a2) ((0, ((0, 0), 0)), (0, 0))).1).1) > 200000))) || (!((decide ((((List.getD x0 (Int.toNat a2) ((0, ((0, 0), 0)), (0, 0))).1).1) < 0)) || (decide ((((List.getD x0 (Int.toNat a2) ((0, ((0, 0), 0)), (0, 0))).1).1) > 200000)))) then
                                                bif ((decide ((((List.getD x0 (Int.toNat a2) ((0, ((0, 0), 0)), (0, 0))).1).1) < 0)) || (decide ((((List.getD x0 (Int.toNat a2) ((0, ((0, 0), 0)), (0, 0))).1).1) > 200000))) || ((decide (a2 > 0)) && (decide ((((List.getD x0 (Int.toNat a2) ((0, ((0, 0), 0)), (0, 0))).1).1) ≤ (((List.getD x0 (Int.toNat (w (a2 - 1))) ((0, ((0, 0), 0)), (0, 0))).1).1)))) then
                                                  some 12
                                                else
                                                  (plane_Check.fn N ((((List.getD x0 (Int.toNat a2) ((0, ((0, 0), 0)), (0, 0))).1).2).1)).bind fun r3 =>
                                                  bif !(r3 == 0) then
                                                    some r3
                                                  else
                                                  bif !(!(decide (((((List.getD x0 (Int.toNat a2) ((0, ((0, 0), 0)), (0, 0))).1).2).2) < 0))) || (!(decide (((((List.getD x0 (Int.toNat a2) ((0, ((0, 0), 0)), (0, 0))).1).2).2) < 0))) then
                                                    bif !(!(decide (((((List.getD x0 (Int.toNat a2) ((0, ((0, 0), 0)), (0, 0))).1).2).2) < 0))) || (!(decide (((((List.getD x0 (Int.toNat a2) ((0, ((0, 0), 0)), (0, 0))).1).2).2) < 0))) then
                                                      bif !(!(decide (((((List.getD x0 (Int.toNat a2) ((0, ((0, 0), 0)), (0, 0))).1).2).2) < 0))) || (!(decide (((((List.getD x0 (Int.toNat a2) ((0, ((0, 0), 0)), (0, 0))).1).2).2) < 0))) then
                                                        bif (decide (((((List.getD x0 (Int.toNat a2) ((0, ((0, 0), 0)), (0, 0))).1).2).2) < 0)) || (!(decide (((((List.getD x0 (Int.toNat a2) ((0, ((0, 0), 0)), (0, 0))).1).2).2) < 0))) then
                                                          bif !(!((decide (((((List.getD x0 (Int.toNat a2) ((0, ((0, 0), 0)), (0, 0))).1).2).2) < 0)) || (decide (((((List.getD x0 (Int.toNat a2) ((0, ((0, 0), 0)), (0, 0))).1).2).2) > 60000)))) || (!((decide (((((List.getD x0 (Int.toNat a2) ((0, ((0, 0), 0)), (0, 0))).1).2).2) < 0)) || (decide (((((List.getD x0 (Int.toNat a2) ((0, ((0, 0), 0)), (0, 0))).1).2).2) > 60000)))) then
                                                            bif !(!((decide (((((List.getD x0 (Int.toNat a2) ((0, ((0, 0), 0)), (0, 0))).1).2).2) < 0)) || (decide (((((List.getD x0 (Int.toNat a2) ((0, ((0, 0), 0)), (0, 0))).1).2).2) > 60000)))) || (!((decide (((((List.getD x0 (Int.toNat a2) ((0, ((0, 0), 0)), (0, 0))).1).2).2) < 0)) || (decide (((((List.getD x0 (Int.toNat a2) ((0, ((0, 0), 0)), (0, 0))).1).2).2) > 60000)))) then
                                                              bif ((decide (((((List.getD x0 (Int.toNat a2) ((0, ((0, 0), 0)), (0, 0))).1).2).2) < 0)) || (decide (((((List.getD x0 (Int.toNat a2) ((0, ((0, 0), 0)), (0, 0))).1).2).2) > 60000))) || (!((decide (((((List.getD x0 (Int.toNat a2) ((0, ((0, 0), 0)), (0, 0))).1).2).2) < 0)) || (decide (((((List.getD x0 (Int.toNat a2) ((0, ((0, 0), 0)), (0, 0))).1).2).2) > 60000)))) then
                                                                bif !(!(((decide (((((List.getD x0 (Int.toNat a2) ((0, ((0, 0), 0)), (0, 0))).1).2).2) < 0)) || (decide (((((List.getD x0 (Int.toNat a2) ((0, ((0, 0), 0)), (0, 0))).1).2).2) > 60000))) || (decide ((((List.getD x0 (Int.toNat a2) ((0, ((0, 0), 0)), (0, 0))).2).1) < 0)))) || (!(((decide (((((List.getD x0 (Int.toNat a2) ((0, ((0, 0), 0)), (0, 0))).1).2).2) < 0)) || (decide (((((List.getD x0 (Int.toNat a2) ((0, ((0, 0), 0)), (0, 0))).1).2).2) > 60000))) || (decide ((((List.getD x0 (Int.toNat a2) ((0, ((0, 0), 0)), (0, 0))).2).1) < 0)))) then
                                                                  bif !(!(((decide (((((List.getD x0 (Int.toNat a2) ((0, ((0, 0), 0)), (0, 0))).1).2).2) < 0)) || (decide (((((List.getD x0 (Int.toNat a2) ((0, ((0, 0), 0)), (0, 0))).1).2).2) > 60000))) || (decide ((((List.getD x0 (Int.toNat a2) ((0, ((0, 0), 0)), (0, 0))).2).1) < 0)))) || (!(((decide (((((List.getD x0 (Int.toNat a2) ((0, ((0, 0), 0)), (0, 0))).1).2).2) < 0)) || (decide (((((List.getD x0 (Int.toNat a2) ((0, ((0, 0), 0)), (0, 0))).1).2).2) > 60000))) || (decide ((((List.getD x0 (Int.toNat a2) ((0, ((0, 0), 0)), (0, 0))).2).1) < 0)))) then
                                                                    bif (((decide (((((List.getD x0 (Int.toNat a2) ((0, ((0, 0), 0)), (0, 0))).1).2).2) < 0)) || (decide (((((List.getD x0 (Int.toNat a2) ((0, ((0, 0), 0)), (0, 0))).1).2).2) > 60000))) || (decide ((((List.getD x0 (Int.toNat a2) ((0, ((0, 0), 0)), (0, 0))).2).1) < 0))) || (!(((decide (((((List.getD x0 (Int.toNat a2) ((0, ((0, 0), 0)), (0, 0))).1).2).2) < 0)) || (decide (((((List.getD x0 (Int.toNat a2) ((0, ((0, 0), 0)), (0, 0))).1).2).2) > 60000))) || (decide ((((List.getD x0 (Int.toNat a2) ((0, ((0, 0), 0)), (0, 0))).2).1) < 0)))) then
                                                                      bif !(!((((decide (((((List.getD x0 (Int.toNat a2) ((0, ((0, 0), 0)), (0, 0))).1).2).2) < 0)) || (decide (((((List.getD x0 (Int.toNat a2) ((0, ((0, 0), 0)), (0, 0))).1).2).2) > 60000))) || (decide ((((List.getD x0 (Int.toNat a2) ((0, ((0, 0), 0)), (0, 0))).2).1) < 0))) || (decide ((((List.getD x0 (Int.toNat a2) ((0, ((0, 0), 0)), (0, 0))).2).1) > 1000000)))) || (!((((decide (((((List.getD x0 (Int.toNat a2) ((0, ((0, 0), 0)), (0, 0))).1).2).2) < 0)) || (decide (((((List.getD x0 (Int.toNat a2) ((0, ((0, 0), 0)), (0, 0))).1).2).2) > 60000))) || (decide ((((List.getD x0 (Int.toNat a2) ((0, ((0, 0), 0)), (0, 0))).2).1) < 0))) || (decide ((((List.getD x0 (Int.toNat a2) ((0, ((0, 0), 0)), (0, 0))).2).1) > 1000000)))) then
                                                                        bif !(!((((decide (((((List.getD x0 (Int.toNat a2) ((0, ((0, 0), 0)), (0, 0))).1).2).2) < 0)) || (decide (((((List.getD x0 (Int.toNat a2) ((0, ((0, 0), 0)), (0, 0))).1).2).2) > 60000))) || (decide ((((List.getD x0 (Int.toNat a2) ((0, ((0, 0), 0)), (0, 0))).2).1) < 0))) || (decide ((((List.getD x0 (Int.toNat a2) ((0, ((0, 0), 0)), (0, 0))).2).1) > 1000000)))) || (!((((decide (((((List.getD x0 (Int.toNat a2) ((0, ((0, 0), 0)), (0, 0))).1).2).2) < 0)) || (decide (((((List.getD x0 (Int.toNat a2) ((0, ((0, 0), 0)), (0, 0))).1).2).2) > 60000))) || (decide ((((List.getD x0 (Int.toNat a2) ((0, ((0, 0), 0)), (0, 0))).2).1) < 0))) || (decide ((((List.getD x0 (Int.toNat a2) ((0, ((0, 0), 0)), (0, 0))).2).1) > 1000000)))) then
                                                                          bif ((((decide (((((List.getD x0 (Int.toNat a2) ((0, ((0, 0), 0)), (0, 0))).1).2).2) < 0)) || (decide (((((List.getD x0 (Int.toNat a2) ((0, ((0, 0), 0)), (0, 0))).1).2).2) > 60000))) || (decide ((((List.getD x0 (Int.toNat a2) ((0, ((0, 0), 0)), (0, 0))).2).1) < 0))) || (decide ((((List.getD x0 (Int.toNat a2) ((0, ((0, 0), 0)), (0, 0))).2).1) > 1000000))) || (!((((decide (((((List.getD x0 (Int.toNat a2) ((0, ((0, 0), 0)), (0, 0))).1).2).2) < 0)) || (decide (((((List.getD x0 (Int.toNat a2) ((0, ((0, 0), 0)), (0, 0))).1).2).2) > 60000))) || (decide ((((List.getD x0 (Int.toNat a2) ((0, ((0, 0), 0)), (0, 0))).2).1) < 0))) || (decide ((((List.getD x0 (Int.toNat a2) ((0, ((0, 0), 0)), (0, 0))).2).1) > 1000000)))) then
                                                                            bif !(!(((((decide (((((List.getD x0 (Int.toNat a2) ((0, ((0, 0), 0)), (0, 0))).1).2).2) < 0)) || (decide (((((List.getD x0 (Int.toNat a2) ((0, ((0, 0), 0)), (0, 0))).1).2).2) > 60000))) || (decide ((((List.getD x0 (Int.toNat a2) ((0, ((0, 0), 0)), (0, 0))).2).1) < 0))) || (decide ((((List.getD x0 (Int.toNat a2) ((0, ((0, 0), 0)), (0, 0))).2).1) > 1000000))) || (decide ((((List.getD x0 (Int.toNat a2) ((0, ((0, 0), 0)), (0, 0))).2).2) < 0)))) || (!(((((decide (((((List.getD x0 (Int.toNat a2) ((0, ((0, 0), 0)), (0, 0))).1).2).2) < 0)) || (decide (((((List.getD x0 (Int.toNat a2) ((0, ((0, 0), 0)), (0, 0))).1).2).2) > 60000))) || (decide ((((List.getD x0 (Int.toNat a2) ((0, ((0, 0), 0)), (0, 0))).2).1) < 0))) || (decide ((((List.getD x0 (Int.toNat a2) ((0, ((0, 0), 0)), (0, 0))).2).1) > 1000000))) || (decide ((((List.getD x0 (Int.toNat a2) ((0, ((0, 0), 0)), (0, 0))).2).2) < 0)))) then
                                                                              bif !(!(((((decide (((((List.getD x0 (Int.toNat a2) ((0, ((0, 0), 0)), (0, 0))).1).2).2) < 0)) || (decide (((((List.getD x0 (Int.toNat a2) ((0, ((0, 0), 0)), (0, 0))).1).2).2) > 60000))) || (decide ((((List.getD x0 (Int.toNat a2) ((0, ((0, 0), 0)), (0, 0))).2).1) < 0))) || (decide ((((List.getD x0 (Int.toNat a2) ((0, ((0, 0), 0)), (0, 0))).2).1) > 1000000))) || (decide ((((List.getD x0 (Int.toNat a2) ((0, ((0, 0), 0)), (0, 0))).2).2) < 0)))) || (!(((((decide (((((List.getD x0 (Int.toNat a2) ((0, ((0, 0), 0)), (0, 0))).1).2).2) < 0)) || (decide (((((List.getD x0 (Int.toNat a2) ((0, ((0, 0), 0)), (0, 0))).1).2).2) > 60000))) || (decide ((((List.getD x0 (Int.toNat a2) ((0, ((0, 0), 0)), (0, 0))).2).1) < 0))) || (decide ((((List.getD x0 (Int.toNat a2) ((0, ((0, 0), 0)), (0, 0))).2).1) > 1000000))) || (decide ((((List.getD x0 (Int.toNat a2) ((0, ((0, 0), 0)), (0, 0))).2).2) < 0)))) then
                                                                                bif (((((decide (((((List.getD x0 (Int.toNat a2) ((0, ((0, 0), 0)), (0, 0))).1).2).2) < 0)) || (decide (((((List.getD x0 (Int.toNat a2) ((0, ((0, 0), 0)), (0, 0))).1).2).2) > 60000))) || (decide ((((List.getD x0 (Int.toNat a2) ((0, ((0, 0), 0)), (0, 0))).2).1) < 0))) || (decide ((((List.getD x0 (Int.toNat a2) ((0, ((0, 0), 0)), (0, 0))).2).1) > 1000000))) || (decide ((((List.getD x0 (Int.toNat a2) ((0, ((0, 0), 0)), (0, 0))).2).2) < 0))) || (!(((((decide (((((List.getD x0 (Int.toNat a2) ((0, ((0, 0), 0)), (0, 0))).1).2).2) < 0)) || (decide (((((List.getD x0 (Int.toNat a2) ((0, ((0, 0), 0)), (0, 0))).1).2).2) > 60000))) || (decide ((((List.getD x0 (Int.toNat a2) ((0, ((0, 0), 0)), (0, 0))).2).1) < 0))) || (decide ((((List.getD x0 (Int.toNat a2) ((0, ((0, 0), 0)), (0, 0))).2).1) > 1000000))) || (decide ((((List.getD x0 (Int.toNat a2) ((0, ((0, 0), 0)), (0, 0))).2).2) < 0)))) then
                                                                                  bif (((((decide (((((List.getD x0 (Int.toNat a2) ((0, ((0, 0), 0)), (0, 0))).1).2).2) < 0)) || (decide (((((List.getD x0 (Int.toNat a2) ((0, ((0, 0), 0)), (0, 0))).1).2).2) > 60000))) || (decide ((((List.getD x0 (Int.toNat a2) ((0, ((0, 0), 0)), (0, 0))).2).1) < 0))) || (decide ((((List.getD x0 (Int.toNat a2) ((0, ((0, 0), 0)), (0, 0))).2).1) > 1000000))) || (decide ((((List.getD x0 (Int.toNat a2) ((0, ((0, 0), 0)), (0, 0))).2).2) < 0))) || (decide ((((List.getD x0 (Int.toNat a2) ((0, ((0, 0), 0)), (0, 0))).2).2) > 60000)) then
                                                                                    some 4
                                                                                  else
                                                                                    tube_Check.l0 N x0 k1 (w (a2 + 1))
                                                                                else
                                                                                  none
                                                                              else
                                                                                none
                                                                            else
                                                                              none
                                                                          else
                                                                            none
                                                                        else
                                                                          none
                                                                      else
                                                                        none
                                                                    else
                                                                      none
                                                                  else
                                                                    none
                                                                else
                                                                  none
                                                              else
                                                                none
                                                            else
                                                              none
                                                          else
                                                            none
                                                        else
                                                          none
                                                      else
                                                        none
                                                    else
                                                      none
                                                  else
                                                    none
                                              else
                                                none
                                            else
                                              none
                                          else
                                            none
                                        else
                                          none
                                      else
                                        none
                                    else
                                      none
                                  else
                                    none
                                else
                                  none
                              else
                                none
                            else
                              none
                          else
                            none
                        else
                          none
                      else
                        none
                    else
                      none
                  else
                    none
                else
                  none
              else
                none
            else
              none
          else
            none
        else
          none
      else
        none
    else
      some 0 := by kernel_rfl
theorem taut40 : ∀ p0 p1 p2 p3 p4 : Bool, ((!(!(((((p0) || (p1)) || (p2)) || (p3)) || (p4))) || (!(((((p0) || (p1)) || (p2)) || (p3)) || (p4))))) = true := by decide
theorem taut41 : ∀ p0 p1 p2 : Bool, ((!(!((p0) || (p1))) || ((!(p2)) || ((!((p0) || (p1))) && (p2))))) = true := by decide
theorem taut42 : ∀ p0 p1 p2 : Bool, ((!((!((p0) || (p1))) && (p2)) || ((!((p0) || (p1))) && (p2)))) = true := by decide
theorem taut43 : ∀ p0 p1 p2 p3 p4 : Bool, (((((((p0) || (p1)) || (p2)) || (p3)) || (p4)) || (!(((((p0) || (p1)) || (p2)) || (p3)) || (p4))))) = true := by decide
theorem tube_Check.l0_clean (N : Nat) (x0 : List ((Int × (Int × Int) × Int) × Int × Int)) (k1 : Nat) (a2 : Int) : tube_Check.l0 N x0 (k1 + 1) a2 =
    bif decide (a2 < (x0.length : Int)) then
      bif (decide (0 ≤ a2)) && (decide (a2 < (x0.length : Int))) then
        bif ((decide (0 ≤ (w (a2 - 1)))) && (decide ((w (a2 - 1)) < (x0.length : Int)))) || !((!((decide ((((List.getD x0 (Int.toNat a2) ((0, ((0, 0), 0)), (0, 0))).1).1) < 0)) || (decide ((((List.getD x0 (Int.toNat a2) ((0, ((0, 0), 0)), (0, 0))).1).1) > 200000)))) && (decide (a2 > 0))) then
          bif ((decide ((((List.getD x0 (Int.toNat a2) ((0, ((0, 0), 0)), (0, 0))).1).1) < 0)) || (decide ((((List.getD x0 (Int.toNat a2) ((0, ((0, 0), 0)), (0, 0))).1).1) > 200000))) || ((decide (a2 > 0)) && (decide ((((List.getD x0 (Int.toNat a2) ((0, ((0, 0), 0)), (0, 0))).1).1) ≤ (((List.getD x0 (Int.toNat (w (a2 - 1))) ((0, ((0, 0), 0)), (0, 0))).1).1)))) then
            some 12
          else
            (plane_Check.fn N ((((List.getD x0 (Int.toNat a2) ((0, ((0, 0), 0)), (0, 0))).1).2).1)).bind fun r3 =>
            bif !(r3 == 0) then
              some r3
            else
            bif (((((decide (((((List.getD x0 (Int.toNat a2) ((0, ((0, 0), 0)), (0, 0))).1).2).2) < 0)) || (decide (((((List.getD x0 (Int.toNat a2) ((0, ((0, 0), 0)), (0, 0))).1).2).2) > 60000))) || (decide ((((List.getD x0 (Int.toNat a2) ((0, ((0, 0), 0)), (0, 0))).2).1) < 0))) || (decide ((((List.getD x0 (Int.toNat a2) ((0, ((0, 0), 0)), (0, 0))).2).1) > 1000000))) || (decide ((((List.getD x0 (Int.toNat a2) ((0, ((0, 0), 0)), (0, 0))).2).2) < 0))) || (decide ((((List.getD x0 (Int.toNat a2) ((0, ((0, 0), 0)), (0, 0))).2).2) > 60000)) then
              some 4
            else
              tube_Check.l0 N x0 k1 (w (a2 + 1))
        else
          none
      else
        none
    else
      some 0 := by
  rw [tube_Check.l0_succ]; simp only [taut40, taut38, taut7, taut8, taut41, taut1, taut42, taut43, taut39, taut9, taut10, taut6, cond_true]
theorem tube_Check.l0_cons (N : Nat) (x0 : List ((Int × (Int × Int) × Int) × Int × Int)) (k1 : Nat) {pre r} {x} (hl : x0 = pre ++ x :: r) (hb : x0.length < 4611686018427387904) : tube_Check.l0 N x0 (k1 + 1) (pre.length : Int) =
    bif ((decide (0 ≤ (w ((pre.length : Int) - 1)))) && (decide ((w ((pre.length : Int) - 1)) < (x0.length : Int)))) || !((!((decide (((x.1).1) < 0)) || (decide (((x.1).1) > 200000)))) && (decide ((pre.length : Int) > 0))) then
      bif ((decide (((x.1).1) < 0)) || (decide (((x.1).1) > 200000))) || ((decide ((pre.length : Int) > 0)) && (decide (((x.1).1) ≤ (((List.getD x0 (Int.toNat (w ((pre.length : Int) - 1))) ((0, ((0, 0), 0)), (0, 0))).1).1)))) then
        some 12
      else
        (plane_Check.fn N (((x.1).2).1)).bind fun r3 =>
        bif !(r3 == 0) then
          some r3
        else
        bif (((((decide ((((x.1).2).2) < 0)) || (decide ((((x.1).2).2) > 60000))) || (decide (((x.2).1) < 0))) || (decide (((x.2).1) > 1000000))) || (decide (((x.2).2) < 0))) || (decide (((x.2).2) > 60000)) then
          some 4
        else
          tube_Check.l0 N x0 k1 ((pre.length : Int) + 1)
    else
      none := by
  have hlen : x0.length = pre.length + 1 + r.length := by rw [hl]; simp; omega
  have e1 : decide ((pre.length : Int) < (x0.length : Int)) = true := by rw [decide_eq_true_iff]; omega
  have e2 : decide (0 ≤ (pre.length : Int)) = true := by rw [decide_eq_true_iff]; omega
  have e4 : w ((pre.length : Int) + 1) = (pre.length : Int) + 1 := w_next hl hb
  have e5 : List.take pre.length x0 = pre := by rw [hl]; simp
  have e6 : decide ((pre.length : Int) ≤ (x0.length : Int)) = true := by rw [decide_eq_true_iff]; omega
  have g0 : List.getD x0 pre.length ((0, ((0, 0), 0)), (0, 0)) = x := by rw [hl]; exact getD_mid pre x r _
  rw [tube_Check.l0_clean]
  simp -implicitDefEqProofs only [Int.toNat_natCast, e1, e2, e4, e6, g0, e5, Bool.and_true, Bool.true_and, Bool.true_or, cond_true]
theorem tube_Check.l0_nil (N : Nat) (x0 : List ((Int × (Int × Int) × Int) × Int × Int)) (k1 : Nat) : tube_Check.l0 N x0 (k1 + 1) (x0.length : Int) =
    some 0 := by
  have e1 : decide ((x0.length : Int) < (x0.length : Int)) = false := by rw [decide_eq_false_iff_not]; omega
  rw [tube_Check.l0_clean]
  simp -implicitDefEqProofs only [e1, cond_false]
theorem tube_Check.eq (N : Nat) (x0 : List ((Int × (Int × Int) × Int) × Int × Int)) : tube_Check.fn N x0 =
    bif decide ((x0.length : Int) > 64) then
      some 2
    else
    bif (x0.length : Int) == 0 then
      some 3
    else
      tube_Check.l0 N x0 N 0 := by kernel_rfl

/-! ### num_DivDown: skyway/num.DivDown -/
def num_DivDown.kp : List (Nat × List (Nat × Option (TypeId × Ty))) := []
noncomputable def num_DivDown.G (N : Nat) : List (Nat × Spec) := []
noncomputable def num_DivDown.E (N : Nat) : Env := mkEnv (num_DivDown.G N) N tyTab num_DivDown.kp
noncomputable def num_DivDown.fn (N : Nat) (x : Int × Int) : Option (Int × Int) := evFn (num_DivDown.E N) Try.prog 3 Try.f112 false [.cell (.int .i64), .cell (.int .i64)] [.val (.cell (.int .i64)), .val (.cell (.int .i64))] x
noncomputable def num_DivDown.S (N : Nat) : PSpec := ⟨false, [.cell (.int .i64), .cell (.int .i64)], [.val (.cell (.int .i64)), .val (.cell (.int .i64))], num_DivDown.fn N⟩
theorem f112_enters : Enters Try.prog 112 := ⟨Try.f112, Try.func112, by kernel_rfl, by kernel_rfl⟩
theorem num_DivDown.tab (N : Nat) : TabOk Try.prog (num_DivDown.G N) := trivial
theorem num_DivDown.enters : Enters Try.prog 112 := f112_enters
theorem num_DivDown.sound (N : Nat) : Sound Try.prog 112 (num_DivDown.S N) := evFn_sound (specs_tab (num_DivDown.tab N)) (inls_tab (num_DivDown.tab N)) mixed 3 Try.func112 _ _ _
theorem num_DivDown.eq (N : Nat) (x0 : Int) (x1 : Int) : num_DivDown.fn N (x0, x1) =
    bif x1 == 0 then
      some (0, 10)
    else
    bif !(x0 == (-9223372036854775808)) || (x0 == (-9223372036854775808)) then
      bif (!(x0 == (-9223372036854775808))) || (x0 == (-9223372036854775808)) then
        bif (x0 == (-9223372036854775808)) && (x1 == (-1)) then
          some (0, 2)
        else
        bif x1 != 0 then
          bif x1 != 0 then
            bif !(!((Int.tmod x0 x1) == 0)) || (!((Int.tmod x0 x1) == 0)) then
              bif !(!((Int.tmod x0 x1) == 0)) || (!((Int.tmod x0 x1) == 0)) then
                bif !(!((Int.tmod x0 x1) == 0)) || (!((Int.tmod x0 x1) == 0)) then
                  bif !(!((Int.tmod x0 x1) == 0)) || (!((Int.tmod x0 x1) == 0)) then
                    bif (!(!((Int.tmod x0 x1) == 0))) || (!((Int.tmod x0 x1) == 0)) then
                      bif (!((Int.tmod x0 x1) == 0)) && (!((decide (x0 < 0)) == (decide (x1 < 0)))) then
                        some ((w ((w (Int.tdiv x0 x1)) - 1)), 0)
                      else
                        some ((w (Int.tdiv x0 x1)), 0)
                    else
                      none
                  else
                    none
                else
                  none
              else
                none
            else
              none
          else
            none
        else
          none
      else
        none
    else
      none := by kernel_rfl
theorem num_DivDown.clean (N : Nat) (x0 : Int) (x1 : Int) : num_DivDown.fn N (x0, x1) =
    bif x1 == 0 then
      some (0, 10)
    else
    bif (x0 == (-9223372036854775808)) && (x1 == (-1)) then
      some (0, 2)
    else
    bif x1 != 0 then
      bif x1 != 0 then
        bif (!((Int.tmod x0 x1) == 0)) && (!((decide (x0 < 0)) == (decide (x1 < 0)))) then
          some ((w ((w (Int.tdiv x0 x1)) - 1)), 0)
        else
          some ((w (Int.tdiv x0 x1)), 0)
      else
        none
    else
      none := by
  rw [num_DivDown.eq]; simp only [taut1, taut20, taut25, taut21, cond_true]

/-! ### plane_Toward: skyway/plane.Toward -/
def plane_Toward.kp : List (Nat × List (Nat × Option (TypeId × Ty))) := []
noncomputable def plane_Toward.G (N : Nat) : List (Nat × Spec) := [(21, .pure (plane_Check.S N)), (112, .pure (num_DivDown.S N))]
noncomputable def plane_Toward.E (N : Nat) : Env := mkEnv (plane_Toward.G N) N tyTab plane_Toward.kp
noncomputable def plane_Toward.fn (N : Nat) (x : (Int × Int) × (Int × Int) × Int × Int) : Option ((Int × Int) × Int) := evFn (plane_Toward.E N) Try.prog 3 Try.f92 false [.agg (.pair (.int .i64) (.int .i64)), .agg (.pair (.int .i64) (.int .i64)), .cell (.int .i64), .cell (.int .i64)] [.val (.agg (.pair (.int .i64) (.int .i64))), .val (.cell (.int .i64))] x
noncomputable def plane_Toward.S (N : Nat) : PSpec := ⟨false, [.agg (.pair (.int .i64) (.int .i64)), .agg (.pair (.int .i64) (.int .i64)), .cell (.int .i64), .cell (.int .i64)], [.val (.agg (.pair (.int .i64) (.int .i64))), .val (.cell (.int .i64))], plane_Toward.fn N⟩
theorem f92_enters : Enters Try.prog 92 := ⟨Try.f92, Try.func92, by kernel_rfl, by kernel_rfl⟩
theorem plane_Toward.tab (N : Nat) : TabOk Try.prog (plane_Toward.G N) := ⟨⟨plane_Check.enters, plane_Check.sound N⟩, ⟨num_DivDown.enters, num_DivDown.sound N⟩, trivial⟩
theorem plane_Toward.enters : Enters Try.prog 92 := f92_enters
theorem plane_Toward.sound (N : Nat) : Sound Try.prog 92 (plane_Toward.S N) := evFn_sound (specs_tab (plane_Toward.tab N)) (inls_tab (plane_Toward.tab N)) mixed 3 Try.func92 _ _ _
theorem plane_Toward.eq (N : Nat) (x0 : Int × Int) (x1 : Int × Int) (x2 : Int) (x3 : Int) : plane_Toward.fn N (x0, x1, x2, x3) =
    bif decide (x3 ≤ 0) then
      some ((0, 0), 10)
    else
    bif !(!(decide (x3 > 200000))) || (!(decide (x3 > 200000))) then
      bif (decide (x3 > 200000)) || (!(decide (x3 > 200000))) then
        bif !(!((decide (x3 > 200000)) || (decide (x2 < 0)))) || (!((decide (x3 > 200000)) || (decide (x2 < 0)))) then
          bif !(!((decide (x3 > 200000)) || (decide (x2 < 0)))) || (!((decide (x3 > 200000)) || (decide (x2 < 0)))) then
            bif ((decide (x3 > 200000)) || (decide (x2 < 0))) || (!((decide (x3 > 200000)) || (decide (x2 < 0)))) then
              bif !(!(((decide (x3 > 200000)) || (decide (x2 < 0))) || (decide (x2 > x3)))) || (!(((decide (x3 > 200000)) || (decide (x2 < 0))) || (decide (x2 > x3)))) then
                (bif (!(((decide (x3 > 200000)) || (decide (x2 < 0))) || (decide (x2 > x3)))) then plane_Check.fn N x0 else some (0)).bind fun r1 =>
                bif !(!(((decide (x3 > 200000)) || (decide (x2 < 0))) || (decide (x2 > x3)))) || (!(((decide (x3 > 200000)) || (decide (x2 < 0))) || (decide (x2 > x3)))) then
                  bif (((decide (x3 > 200000)) || (decide (x2 < 0))) || (decide (x2 > x3))) || (!(((decide (x3 > 200000)) || (decide (x2 < 0))) || (decide (x2 > x3)))) then
                    bif !(!((((decide (x3 > 200000)) || (decide (x2 < 0))) || (decide (x2 > x3))) || (!(r1 == 0)))) || (!((((decide (x3 > 200000)) || (decide (x2 < 0))) || (decide (x2 > x3))) || (!(r1 == 0)))) then
                      (bif (!((((decide (x3 > 200000)) || (decide (x2 < 0))) || (decide (x2 > x3))) || (!(r1 == 0)))) then plane_Check.fn N x1 else some (0)).bind fun r2 =>
                      bif !(!((((decide (x3 > 200000)) || (decide (x2 < 0))) || (decide (x2 > x3))) || (!(r1 == 0)))) || (!((((decide (x3 > 200000)) || (decide (x2 < 0))) || (decide (x2 > x3))) || (!(r1 == 0)))) then
                        bif ((((decide (x3 > 200000)) || (decide (x2 < 0))) || (decide (x2 > x3))) || (!(r1 == 0))) || (!((((decide (x3 > 200000)) || (decide (x2 < 0))) || (decide (x2 > x3))) || (!(r1 == 0)))) then
                          bif ((((decide (x3 > 200000)) || (decide (x2 < 0))) || (decide (x2 > x3))) || (!(r1 == 0))) || (!(r2 == 0)) then
                            some ((0, 0), 4)
                          else
                            (num_DivDown.fn N ((w ((w (x1.1 - x0.1)) * x2)), x3)).bind fun r3 =>
                            (num_DivDown.fn N ((w ((w (x1.2 - x0.2)) * x2)), x3)).bind fun r4 =>
                            some (((w (x0.1 + r3.1)), (w (x0.2 + r4.1))), 0)
                        else
                          none
                      else
                        none
                    else
                      none
                  else
                    none
                else
                  none
              else
                none
            else
              none
          else
            none
        else
          none
      else
        none
    else
      none := by kernel_rfl
theorem taut44 : ∀ p0 p1 p2 p3 : Bool, ((!(!((((p0) || (p1)) || (p2)) || (!(p3)))) || (!((((p0) || (p1)) || (p2)) || (!(p3)))))) = true := by decide
theorem taut45 : ∀ p0 p1 p2 p3 : Bool, ((((((p0) || (p1)) || (p2)) || (!(p3))) || (!((((p0) || (p1)) || (p2)) || (!(p3)))))) = true := by decide
theorem plane_Toward.clean (N : Nat) (x0 : Int × Int) (x1 : Int × Int) (x2 : Int) (x3 : Int) : plane_Toward.fn N (x0, x1, x2, x3) =
    bif decide (x3 ≤ 0) then
      some ((0, 0), 10)
    else
    (bif (!(((decide (x3 > 200000)) || (decide (x2 < 0))) || (decide (x2 > x3)))) then plane_Check.fn N x0 else some (0)).bind fun r1 =>
    (bif (!((((decide (x3 > 200000)) || (decide (x2 < 0))) || (decide (x2 > x3))) || (!(r1 == 0)))) then plane_Check.fn N x1 else some (0)).bind fun r2 =>
    bif ((((decide (x3 > 200000)) || (decide (x2 < 0))) || (decide (x2 > x3))) || (!(r1 == 0))) || (!(r2 == 0)) then
      some ((0, 0), 4)
    else
      (num_DivDown.fn N ((w ((w (x1.1 - x0.1)) * x2)), x3)).bind fun r3 =>
      (num_DivDown.fn N ((w ((w (x1.2 - x0.2)) * x2)), x3)).bind fun r4 =>
      some (((w (x0.1 + r3.1)), (w (x0.2 + r4.1))), 0) := by
  rw [plane_Toward.eq]; simp only [taut44, taut7, taut8, taut1, taut45, taut9, taut10, taut6, cond_true]

/-! ### tube_between: skyway/tube.between -/
def tube_between.kp : List (Nat × List (Nat × Option (TypeId × Ty))) := []
noncomputable def tube_between.G (N : Nat) : List (Nat × Spec) := [(112, .pure (num_DivDown.S N))]
noncomputable def tube_between.E (N : Nat) : Env := mkEnv (tube_between.G N) N tyTab tube_between.kp
noncomputable def tube_between.fn (N : Nat) (x : Int × Int × Int × Int) : Option Int := evFn (tube_between.E N) Try.prog 3 Try.f93 false [.cell (.int .i64), .cell (.int .i64), .cell (.int .i64), .cell (.int .i64)] [.val (.cell (.int .i64))] x
noncomputable def tube_between.S (N : Nat) : PSpec := ⟨false, [.cell (.int .i64), .cell (.int .i64), .cell (.int .i64), .cell (.int .i64)], [.val (.cell (.int .i64))], tube_between.fn N⟩
theorem f93_enters : Enters Try.prog 93 := ⟨Try.f93, Try.func93, by kernel_rfl, by kernel_rfl⟩
theorem tube_between.tab (N : Nat) : TabOk Try.prog (tube_between.G N) := ⟨⟨num_DivDown.enters, num_DivDown.sound N⟩, trivial⟩
theorem tube_between.enters : Enters Try.prog 93 := f93_enters
theorem tube_between.sound (N : Nat) : Sound Try.prog 93 (tube_between.S N) := evFn_sound (specs_tab (tube_between.tab N)) (inls_tab (tube_between.tab N)) mixed 3 Try.func93 _ _ _
theorem tube_between.eq (N : Nat) (x0 : Int) (x1 : Int) (x2 : Int) (x3 : Int) : tube_between.fn N (x0, x1, x2, x3) =
    (num_DivDown.fn N ((w ((w (x1 - x0)) * x2)), x3)).bind fun r1 =>
    some (w (x0 + r1.1)) := by kernel_rfl

/-! ### num_DivUp: skyway/num.DivUp -/
def num_DivUp.kp : List (Nat × List (Nat × Option (TypeId × Ty))) := []
noncomputable def num_DivUp.G (N : Nat) : List (Nat × Spec) := [(112, .pure (num_DivDown.S N))]
noncomputable def num_DivUp.E (N : Nat) : Env := mkEnv (num_DivUp.G N) N tyTab num_DivUp.kp
noncomputable def num_DivUp.fn (N : Nat) (x : Int × Int) : Option (Int × Int) := evFn (num_DivUp.E N) Try.prog 3 Try.f113 false [.cell (.int .i64), .cell (.int .i64)] [.val (.cell (.int .i64)), .val (.cell (.int .i64))] x
noncomputable def num_DivUp.S (N : Nat) : PSpec := ⟨false, [.cell (.int .i64), .cell (.int .i64)], [.val (.cell (.int .i64)), .val (.cell (.int .i64))], num_DivUp.fn N⟩
theorem f113_enters : Enters Try.prog 113 := ⟨Try.f113, Try.func113, by kernel_rfl, by kernel_rfl⟩
theorem num_DivUp.tab (N : Nat) : TabOk Try.prog (num_DivUp.G N) := ⟨⟨num_DivDown.enters, num_DivDown.sound N⟩, trivial⟩
theorem num_DivUp.enters : Enters Try.prog 113 := f113_enters
theorem num_DivUp.sound (N : Nat) : Sound Try.prog 113 (num_DivUp.S N) := evFn_sound (specs_tab (num_DivUp.tab N)) (inls_tab (num_DivUp.tab N)) mixed 3 Try.func113 _ _ _
theorem num_DivUp.eq (N : Nat) (x0 : Int) (x1 : Int) : num_DivUp.fn N (x0, x1) =
    (num_DivDown.fn N (x0, x1)).bind fun r1 =>
    bif !(r1.2 == 0) || (r1.2 == 0) then
      bif !(r1.2 == 0) || (r1.2 == 0) then
        bif (x1 != 0) || !(r1.2 == 0) then
          bif !(r1.2 == 0) || (r1.2 == 0) then
            bif (!(r1.2 == 0)) || (r1.2 == 0) then
              bif (r1.2 == 0) && (!((Int.tmod x0 x1) == 0)) then
                some ((w (r1.1 + 1)), r1.2)
              else
                some (r1.1, r1.2)
            else
              none
          else
            none
        else
          none
      else
        none
    else
      none := by kernel_rfl
theorem num_DivUp.clean (N : Nat) (x0 : Int) (x1 : Int) : num_DivUp.fn N (x0, x1) =
    (num_DivDown.fn N (x0, x1)).bind fun r1 =>
    bif (x1 != 0) || !(r1.2 == 0) then
      bif (r1.2 == 0) && (!((Int.tmod x0 x1) == 0)) then
        some ((w (r1.1 + 1)), r1.2)
      else
        some (r1.1, r1.2)
    else
      none := by
  rw [num_DivUp.eq]; simp only [taut20, taut21, cond_true]

/-! ### tube_above: skyway/tube.above -/
def tube_above.kp : List (Nat × List (Nat × Option (TypeId × Ty))) := []
noncomputable def tube_above.G (N : Nat) : List (Nat × Spec) := [(113, .pure (num_DivUp.S N))]
noncomputable def tube_above.E (N : Nat) : Env := mkEnv (tube_above.G N) N tyTab tube_above.kp
noncomputable def tube_above.fn (N : Nat) (x : Int × Int × Int × Int) : Option Int := evFn (tube_above.E N) Try.prog 3 Try.f94 false [.cell (.int .i64), .cell (.int .i64), .cell (.int .i64), .cell (.int .i64)] [.val (.cell (.int .i64))] x
noncomputable def tube_above.S (N : Nat) : PSpec := ⟨false, [.cell (.int .i64), .cell (.int .i64), .cell (.int .i64), .cell (.int .i64)], [.val (.cell (.int .i64))], tube_above.fn N⟩
theorem f94_enters : Enters Try.prog 94 := ⟨Try.f94, Try.func94, by kernel_rfl, by kernel_rfl⟩
theorem tube_above.tab (N : Nat) : TabOk Try.prog (tube_above.G N) := ⟨⟨num_DivUp.enters, num_DivUp.sound N⟩, trivial⟩
theorem tube_above.enters : Enters Try.prog 94 := f94_enters
theorem tube_above.sound (N : Nat) : Sound Try.prog 94 (tube_above.S N) := evFn_sound (specs_tab (tube_above.tab N)) (inls_tab (tube_above.tab N)) mixed 3 Try.func94 _ _ _
theorem tube_above.eq (N : Nat) (x0 : Int) (x1 : Int) (x2 : Int) (x3 : Int) : tube_above.fn N (x0, x1, x2, x3) =
    (num_DivUp.fn N ((w ((w (x1 - x0)) * x2)), x3)).bind fun r1 =>
    some (w (x0 + r1.1)) := by kernel_rfl

/-! ### tube_at: skyway/tube.at -/
def tube_at.kp : List (Nat × List (Nat × Option (TypeId × Ty))) := [(4, [(0, none), (1, none), (4, none), (6, none)])]
noncomputable def tube_at.G (N : Nat) : List (Nat × Spec) := [(92, .pure (plane_Toward.S N)), (93, .pure (tube_between.S N)), (94, .pure (tube_above.S N))]
noncomputable def tube_at.E (N : Nat) : Env := mkEnv (tube_at.G N) N tyTab tube_at.kp
noncomputable def tube_at.fn (N : Nat) (x : List ((Int × (Int × Int) × Int) × Int × Int) × Int) : Option (((Int × (Int × Int) × Int) × Int × Int) × Int) := evFn (tube_at.E N) Try.prog 3 Try.f69 false [.cell (.sl 44 (.pair (.pair (.int .i64) (.pair (.pair (.int .i64) (.int .i64)) (.int .i64))) (.pair (.int .i64) (.int .i64)))), .cell (.int .i64)] [.val (.agg (.pair (.pair (.int .i64) (.pair (.pair (.int .i64) (.int .i64)) (.int .i64))) (.pair (.int .i64) (.int .i64)))), .val (.cell (.int .i64))] x
noncomputable def tube_at.S (N : Nat) : PSpec := ⟨false, [.cell (.sl 44 (.pair (.pair (.int .i64) (.pair (.pair (.int .i64) (.int .i64)) (.int .i64))) (.pair (.int .i64) (.int .i64)))), .cell (.int .i64)], [.val (.agg (.pair (.pair (.int .i64) (.pair (.pair (.int .i64) (.int .i64)) (.int .i64))) (.pair (.int .i64) (.int .i64)))), .val (.cell (.int .i64))], tube_at.fn N⟩
theorem f69_enters : Enters Try.prog 69 := ⟨Try.f69, Try.func69, by kernel_rfl, by kernel_rfl⟩
theorem tube_at.tab (N : Nat) : TabOk Try.prog (tube_at.G N) := ⟨⟨plane_Toward.enters, plane_Toward.sound N⟩, ⟨tube_between.enters, tube_between.sound N⟩, ⟨tube_above.enters, tube_above.sound N⟩, trivial⟩
theorem tube_at.enters : Enters Try.prog 69 := f69_enters
theorem tube_at.sound (N : Nat) : Sound Try.prog 69 (tube_at.S N) := evFn_sound (specs_tab (tube_at.tab N)) (inls_tab (tube_at.tab N)) mixed 3 Try.func69 _ _ _
noncomputable def tube_at.cd (N : Nat) (p : List Nat) : St → (Ex → St → Option (((Int × (Int × Int) × Int) × Int × Int) × Int)) → Option (((Int × (Int × Int) × Int) × Int × Int) × Int) := ev (tube_at.E N) Try.prog (callD (tube_at.E N) Try.prog 3) 0 (codeAt (bodyOf Try.f69) p)
noncomputable def tube_at.fin : Ex → St → Option (((Int × (Int × Int) × Int) × Int × Int) × Int) := endK Try.prog Try.f69 [.val (.agg (.pair (.pair (.int .i64) (.pair (.pair (.int .i64) (.int .i64)) (.int .i64))) (.pair (.int .i64) (.int .i64)))), .val (.cell (.int .i64))]
noncomputable def tube_at.l0 (N : Nat) (x0 : List ((Int × (Int × Int) × Int) × Int × Int)) (x1 : Int) (k1 : Nat) (a2 : Int) : Option (((Int × (Int × Int) × Int) × Int × Int) × Int) :=
  loopN (norm ((tube_at.E N).keep 4) 0) (tube_at.cd N [1, 1, 1, 0, 0, 0]) k1
  ⟨[.ros false 44 (.pair (.pair (.int .i64) (.pair (.pair (.int .i64) (.int .i64)) (.int .i64))) (.pair (.int .i64) (.int .i64))) x0, .sc (.int .i64 x1), .any, .any, .ptr 0 0, .any, .sc (.int .i64 a2), .any, .any, .any, .any, .any, .any, .any, .any, .any, .any, .any, .any, .any, .any, .any, .any, .any, .any, .any, .any, .any, .any, .any, .any, .any, .any, .any, .any, .any, .any, .any, .any, .any, .any, .any, .any, .any, .any, .any, .any, .any, .any, .any, .any, .any, .any, .any, .any, .any, .any, .any, .any, .any, .any, .any, .any, .any, .any, .any, .any, .any, .any, .any, .any, .any, .any, .any, .any, .any, .any, .any, .any, .any, .any, .any, .any, .any, .any, .any, .any, .any, .any, .any, .any, .any, .any, .any, .any, .any, .any, .any, .any, .any, .any, .any, .any, .any, .any, .any, .any, .any, .any, .any, .any, .any, .any, .any, .any, .any, .any], [.cells [.sc (.int .i64 0), .sc (.int .i64 0), .sc (.int .i64 0), .sc (.int .i64 0), .sc (.int .i64 0), .sc (.int .i64 0)] 44]⟩
  (blockK 0 (seqK (tube_at.cd N [1, 1, 1, 1]) tube_at.fin))
theorem tube_at.l0_zero (N : Nat) (x0 : List ((Int × (Int × Int) × Int) × Int × Int)) (x1 : Int) (a2 : Int) : tube_at.l0 N x0 x1 0 a2 = none := by kernel_rfl
theorem tube_at.l0_succ (N : Nat) (x0 : List ((Int × (Int × Int) × Int) × Int × Int)) (x1 : Int) (k1 : Nat) (a2 : Int) : tube_at.l0 N x0 x1 (k1 + 1) a2 =
    bif !(decide ((w (a2 + 1)) < (x0.length : Int))) || (decide ((w (a2 + 1)) < (x0.length : Int))) then
      bif !(decide ((w (a2 + 1)) < (x0.length : Int))) || (decide ((w (a2 + 1)) < (x0.length : Int))) then
        bif !(decide ((w (a2 + 1)) < (x0.length : Int))) || (decide ((w (a2 + 1)) < (x0.length : Int))) then
          bif ((decide (0 ≤ (w (a2 + 1)))) && (decide ((w (a2 + 1)) < (x0.length : Int)))) || !(decide ((w (a2 + 1)) < (x0.length : Int))) then
            bif !(decide ((w (a2 + 1)) < (x0.length : Int))) || (decide ((w (a2 + 1)) < (x0.length : Int))) then
              bif !(decide ((w (a2 + 1)) < (x0.length : Int))) || (decide ((w (a2 + 1)) < (x0.length : Int))) then
                bif !(decide ((w (a2 + 1)) < (x0.length : Int))) || (decide ((w (a2 + 1)) < (x0.length : Int))) then
                  bif !(decide ((w (a2 + 1)) < (x0.length : Int))) || (decide ((w (a2 + 1)) < (x0.length : Int))) then
                    bif !(decide ((w (a2 + 1)) < (x0.length : Int))) || (decide ((w (a2 + 1)) < (x0.length : Int))) then
                      bif (!(decide ((w (a2 + 1)) < (x0.length : Int)))) || (decide ((w (a2 + 1)) < (x0.length : Int))) then
                        bif (decide ((w (a2 + 1)) < (x0.length : Int))) && (decide ((((List.getD x0 (Int.toNat (w (a2 + 1))) ((0, ((0, 0), 0)), (0, 0))).1).1) ≤ x1)) then
                          tube_at.l0 N x0 x1 k1 (w (a2 + 1))
                        else
                        bif (decide (0 ≤ a2)) && (decide (a2 < (x0.length : Int))) then
                          bif (((List.getD x0 (Int.toNat a2) ((0, ((0, 0), 0)), (0, 0))).1).1) == x1 then
                            some (List.getD x0 (Int.toNat a2) ((0, ((0, 0), 0)), (0, 0)), 0)
                          else
                          bif (decide (0 ≤ (w (a2 + 1)))) && (decide ((w (a2 + 1)) < (x0.length : Int))) then
                            (plane_Toward.fn N ((((List.getD x0 (Int.toNat a2) ((0, ((0, 0), 0)), (0, 0))).1).2).1, (((List.getD x0 (Int.toNat (w (a2 + 1))) ((0, ((0, 0), 0)), (0, 0))).1).2).1, (w (x1 - (((List.getD x0 (Int.toNat a2) ((0, ((0, 0), 0)), (0, 0))).1).1))), (w ((((List.getD x0 (Int.toNat (w (a2 + 1))) ((0, ((0, 0), 0)), (0, 0))).1).1) - (((List.getD x0 (Int.toNat a2) ((0, ((0, 0), 0)), (0, 0))).1).1))))).bind fun r3 =>
                            (tube_between.fn N ((((List.getD x0 (Int.toNat a2) ((0, ((0, 0), 0)), (0, 0))).1).2).2, (((List.getD x0 (Int.toNat (w (a2 + 1))) ((0, ((0, 0), 0)), (0, 0))).1).2).2, (w (x1 - (((List.getD x0 (Int.toNat a2) ((0, ((0, 0), 0)), (0, 0))).1).1))), (w ((((List.getD x0 (Int.toNat (w (a2 + 1))) ((0, ((0, 0), 0)), (0, 0))).1).1) - (((List.getD x0 (Int.toNat a2) ((0, ((0, 0), 0)), (0, 0))).1).1))))).bind fun r4 =>
                            (tube_above.fn N (((List.getD x0 (Int.toNat a2) ((0, ((0, 0), 0)), (0, 0))).2).1, ((List.getD x0 (Int.toNat (w (a2 + 1))) ((0, ((0, 0), 0)), (0, 0))).2).1, (w (x1 - (((List.getD x0 (Int.toNat a2) ((0, ((0, 0), 0)), (0, 0))).1).1))), (w ((((List.getD x0 (Int.toNat (w (a2 + 1))) ((0, ((0, 0), 0)), (0, 0))).1).1) - (((List.getD x0 (Int.toNat a2) ((0, ((0, 0), 0)), (0, 0))).1).1))))).bind fun r5 =>
                            (tube_above.fn N (((List.getD x0 (Int.toNat a2) ((0, ((0, 0), 0)), (0, 0))).2).2, ((List.getD x0 (Int.toNat (w (a2 + 1))) ((0, ((0, 0), 0)), (0, 0))).2).2, (w (x1 - (((List.getD x0 (Int.toNat a2) ((0, ((0, 0), 0)), (0, 0))).1).1))), (w ((((List.getD x0 (Int.toNat (w (a2 + 1))) ((0, ((0, 0), 0)), (0, 0))).1).1) - (((List.getD x0 (Int.toNat a2) ((0, ((0, 0), 0)), (0, 0))).1).1))))).bind fun r6 =>
                            some (((x1, (r3.1, r4)), (r5, r6)), 0)
                          else
                            none
                        else
                          none
                      else
                        none
                    else
                      none
                  else
                    none
                else
                  none
              else
                none
            else
              none
          else
            none
        else
          none
      else
        none
    else
      none := by kernel_rfl
theorem tube_at.l0_clean (N : Nat) (x0 : List ((Int × (Int × Int) × Int) × Int × Int)) (x1 : Int) (k1 : Nat) (a2 : Int) : tube_at.l0 N x0 x1 (k1 + 1) a2 =
    bif ((decide (0 ≤ (w (a2 + 1)))) && (decide ((w (a2 + 1)) < (x0.length : Int)))) || !(decide ((w (a2 + 1)) < (x0.length : Int))) then
      bif (decide ((w (a2 + 1)) < (x0.length : Int))) && (decide ((((List.getD x0 (Int.toNat (w (a2 + 1))) ((0, ((0, 0), 0)), (0, 0))).1).1) ≤ x1)) then
        tube_at.l0 N x0 x1 k1 (w (a2 + 1))
      else
      bif (decide (0 ≤ a2)) && (decide (a2 < (x0.length : Int))) then
        bif (((List.getD x0 (Int.toNat a2) ((0, ((0, 0), 0)), (0, 0))).1).1) == x1 then
          some (List.getD x0 (Int.toNat a2) ((0, ((0, 0), 0)), (0, 0)), 0)
        else
        bif (decide (0 ≤ (w (a2 + 1)))) && (decide ((w (a2 + 1)) < (x0.length : Int))) then
          (plane_Toward.fn N ((((List.getD x0 (Int.toNat a2) ((0, ((0, 0), 0)), (0, 0))).1).2).1, (((List.getD x0 (Int.toNat (w (a2 + 1))) ((0, ((0, 0), 0)), (0, 0))).1).2).1, (w (x1 - (((List.getD x0 (Int.toNat a2) ((0, ((0, 0), 0)), (0, 0))).1).1))), (w ((((List.getD x0 (Int.toNat (w (a2 + 1))) ((0, ((0, 0), 0)), (0, 0))).1).1) - (((List.getD x0 (Int.toNat a2) ((0, ((0, 0), 0)), (0, 0))).1).1))))).bind fun r3 =>
          (tube_between.fn N ((((List.getD x0 (Int.toNat a2) ((0, ((0, 0), 0)), (0, 0))).1).2).2, (((List.getD x0 (Int.toNat (w (a2 + 1))) ((0, ((0, 0), 0)), (0, 0))).1).2).2, (w (x1 - (((List.getD x0 (Int.toNat a2) ((0, ((0, 0), 0)), (0, 0))).1).1))), (w ((((List.getD x0 (Int.toNat (w (a2 + 1))) ((0, ((0, 0), 0)), (0, 0))).1).1) - (((List.getD x0 (Int.toNat a2) ((0, ((0, 0), 0)), (0, 0))).1).1))))).bind fun r4 =>
          (tube_above.fn N (((List.getD x0 (Int.toNat a2) ((0, ((0, 0), 0)), (0, 0))).2).1, ((List.getD x0 (Int.toNat (w (a2 + 1))) ((0, ((0, 0), 0)), (0, 0))).2).1, (w (x1 - (((List.getD x0 (Int.toNat a2) ((0, ((0, 0), 0)), (0, 0))).1).1))), (w ((((List.getD x0 (Int.toNat (w (a2 + 1))) ((0, ((0, 0), 0)), (0, 0))).1).1) - (((List.getD x0 (Int.toNat a2) ((0, ((0, 0), 0)), (0, 0))).1).1))))).bind fun r5 =>
          (tube_above.fn N (((List.getD x0 (Int.toNat a2) ((0, ((0, 0), 0)), (0, 0))).2).2, ((List.getD x0 (Int.toNat (w (a2 + 1))) ((0, ((0, 0), 0)), (0, 0))).2).2, (w (x1 - (((List.getD x0 (Int.toNat a2) ((0, ((0, 0), 0)), (0, 0))).1).1))), (w ((((List.getD x0 (Int.toNat (w (a2 + 1))) ((0, ((0, 0), 0)), (0, 0))).1).1) - (((List.getD x0 (Int.toNat a2) ((0, ((0, 0), 0)), (0, 0))).1).1))))).bind fun r6 =>
          some (((x1, (r3.1, r4)), (r5, r6)), 0)
        else
          none
      else
        none
    else
      none := by
  rw [tube_at.l0_succ]; simp only [taut20, taut21, cond_true]
theorem tube_at.eq (N : Nat) (x0 : List ((Int × (Int × Int) × Int) × Int × Int)) (x1 : Int) : tube_at.fn N (x0, x1) =
    bif decide (0 < (x0.length : Int)) then
      bif !(!(decide (x1 < (((List.getD x0 0 ((0, ((0, 0), 0)), (0, 0))).1).1)))) || (!(decide (x1 < (((List.getD x0 0 ((0, ((0, 0), 0)), (0, 0))).1).1)))) then
        bif !(!(decide (x1 < (((List.getD x0 0 ((0, ((0, 0), 0)), (0, 0))).1).1)))) || (!(decide (x1 < (((List.getD x0 0 ((0, ((0, 0), 0)), (0, 0))).1).1)))) then
          bif !(!(decide (x1 < (((List.getD x0 0 ((0, ((0, 0), 0)), (0, 0))).1).1)))) || (!(decide (x1 < (((List.getD x0 0 ((0, ((0, 0), 0)), (0, 0))).1).1)))) then
            bif !(!(decide (x1 < (((List.getD x0 0 ((0, ((0, 0), 0)), (0, 0))).1).1)))) || (!(decide (x1 < (((List.getD x0 0 ((0, ((0, 0), 0)), (0, 0))).1).1)))) then
              bif ((decide (0 ≤ (w ((x0.length : Int) - 1)))) && (decide ((w ((x0.length : Int) - 1)) < (x0.length : Int)))) || !(!(decide (x1 < (((List.getD x0 0 ((0, ((0, 0), 0)), (0, 0))).1).1)))) then
                bif !(!(decide (x1 < (((List.getD x0 0 ((0, ((0, 0), 0)), (0, 0))).1).1)))) || (!(decide (x1 < (((List.getD x0 0 ((0, ((0, 0), 0)), (0, 0))).1).1)))) then
                  bif !(!(decide (x1 < (((List.getD x0 0 ((0, ((0, 0), 0)), (0, 0))).1).1)))) || (!(decide (x1 < (((List.getD x0 0 ((0, ((0, 0), 0)), (0, 0))).1).1)))) then
                    bif !(!(decide (x1 < (((List.getD x0 0 ((0, ((0, 0), 0)), (0, 0))).1).1)))) || (!(decide (x1 < (((List.getD x0 0 ((0, ((0, 0), 0)), (0, 0))).1).1)))) then
                      bif !(!(decide (x1 < (((List.getD x0 0 ((0, ((0, 0), 0)), (0, 0))).1).1)))) || (!(decide (x1 < (((List.getD x0 0 ((0, ((0, 0), 0)), (0, 0))).1).1)))) then
                        bif !(!(decide (x1 < (((List.getD x0 0 ((0, ((0, 0), 0)), (0, 0))).1).1)))) || (!(decide (x1 < (((List.getD x0 0 ((0, ((0, 0), 0)), (0, 0))).1).1)))) then
                          bif (decide (x1 < (((List.getD x0 0 ((0, ((0, 0), 0)), (0, 0))).1).1))) || (!(decide (x1 < (((List.getD x0 0 ((0, ((0, 0), 0)), (0, 0))).1).1)))) then
                            bif (decide (x1 < (((List.getD x0 0 ((0, ((0, 0), 0)), (0, 0))).1).1))) || (decide (x1 > (((List.getD x0 (Int.toNat (w ((x0.length : Int) - 1))) ((0, ((0, 0), 0)), (0, 0))).1).1))) then
                              some (((0, ((0, 0), 0)), (0, 0)), 12)
                            else
                              tube_at.l0 N x0 x1 N 0
                          else
                            none
                        else
                          none
                      else
                        none
                    else
                      none
                  else
                    none
                else
                  none
              else
                none
            else
              none
          else
            none
        else
          none
      else
        none
    else
      none := by kernel_rfl
theorem tube_at.clean (N : Nat) (x0 : List ((Int × (Int × Int) × Int) × Int × Int)) (x1 : Int) : tube_at.fn N (x0, x1) =
    bif decide (0 < (x0.length : Int)) then
      bif ((decide (0 ≤ (w ((x0.length : Int) - 1)))) && (decide ((w ((x0.length : Int) - 1)) < (x0.length : Int)))) || !(!(decide (x1 < (((List.getD x0 0 ((0, ((0, 0), 0)), (0, 0))).1).1)))) then
        bif (decide (x1 < (((List.getD x0 0 ((0, ((0, 0), 0)), (0, 0))).1).1))) || (decide (x1 > (((List.getD x0 (Int.toNat (w ((x0.length : Int) - 1))) ((0, ((0, 0), 0)), (0, 0))).1).1))) then
          some (((0, ((0, 0), 0)), (0, 0)), 12)
        else
          tube_at.l0 N x0 x1 N 0
      else
        none
    else
      none := by
  rw [tube_at.eq]; simp only [taut1, taut6, cond_true]

/-! ### sector_Path: skyway/sector.Path -/
def sector_Path.kp : List (Nat × List (Nat × Option (TypeId × Ty))) := [(2, [(0, none), (1, none), (3, none), (1000000000001, some (52, .pair (.int .i64) (.pair (.int .i64) (.int .i64))))]), (2000011, [(2, none), (8, none), (38, none)])]
noncomputable def sector_Path.G (N : Nat) : List (Nat × Spec) := [(16, .pure (sector_Check.S N)), (25, .pure (tube_Check.S N)), (66, .pure (sector_Place.S N)), (69, .pure (tube_at.S N)), (68, .inl Try.f68), (91, .inl Try.f91)]
noncomputable def sector_Path.E (N : Nat) : Env := mkEnv (sector_Path.G N) N tyTab sector_Path.kp
noncomputable def sector_Path.fn (N : Nat) (x : List (ByteArray × List (List (Int × Int) × Int × Int)) × List ((Int × (Int × Int) × Int) × Int × Int)) : Option (List (Int × Int × Int) × Int) := evFn (sector_Path.E N) Try.prog 3 Try.f24 false [.cell (.sl 106 (.pair (.str) (.sl 113 (.pair (.sl 29 (.pair (.int .i64) (.int .i64))) (.pair (.int .i64) (.int .i64)))))), .cell (.sl 44 (.pair (.pair (.int .i64) (.pair (.pair (.int .i64) (.int .i64)) (.int .i64))) (.pair (.int .i64) (.int .i64))))] [.own 52 (.pair (.int .i64) (.pair (.int .i64) (.int .i64))), .val (.cell (.int .i64))] x
noncomputable def sector_Path.S (N : Nat) : PSpec := ⟨false, [.cell (.sl 106 (.pair (.str) (.sl 113 (.pair (.sl 29 (.pair (.int .i64) (.int .i64))) (.pair (.int .i64) (.int .i64)))))), .cell (.sl 44 (.pair (.pair (.int .i64) (.pair (.pair (.int .i64) (.int .i64)) (.int .i64))) (.pair (.int .i64) (.int .i64))))], [.own 52 (.pair (.int .i64) (.pair (.int .i64) (.int .i64))), .val (.cell (.int .i64))], sector_Path.fn N⟩
theorem f68_enters : Enters Try.prog 68 := ⟨Try.f68, Try.func68, by kernel_rfl, by kernel_rfl⟩
theorem f91_enters : Enters Try.prog 91 := ⟨Try.f91, Try.func91, by kernel_rfl, by kernel_rfl⟩
theorem f24_enters : Enters Try.prog 24 := ⟨Try.f24, Try.func24, by kernel_rfl, by kernel_rfl⟩
theorem sector_Path.tab (N : Nat) : TabOk Try.prog (sector_Path.G N) := ⟨⟨sector_Check.enters, sector_Check.sound N⟩, ⟨tube_Check.enters, tube_Check.sound N⟩, ⟨sector_Place.enters, sector_Place.sound N⟩, ⟨tube_at.enters, tube_at.sound N⟩, ⟨f68_enters, Try.func68⟩, ⟨f91_enters, Try.func91⟩, trivial⟩
theorem sector_Path.enters : Enters Try.prog 24 := f24_enters
theorem sector_Path.sound (N : Nat) : Sound Try.prog 24 (sector_Path.S N) := evFn_sound (specs_tab (sector_Path.tab N)) (inls_tab (sector_Path.tab N)) mixed 3 Try.func24 _ _ _
noncomputable def sector_Path.cd (N : Nat) (p : List Nat) : St → (Ex → St → Option (List (Int × Int × Int) × Int)) → Option (List (Int × Int × Int) × Int) := ev (sector_Path.E N) Try.prog (callD (sector_Path.E N) Try.prog 3) 0 (codeAt (bodyOf Try.f24) p)
noncomputable def sector_Path.cd91_2_3 (N : Nat) (p : List Nat) : St → (Ex → St → Option (List (Int × Int × Int) × Int)) → Option (List (Int × Int × Int) × Int) := ev (sector_Path.E N) Try.prog (callD (sector_Path.E N) Try.prog 2) 3 (codeAt (bodyOf Try.f91) p)
noncomputable def sector_Path.fin : Ex → St → Option (List (Int × Int × Int) × Int) := endK Try.prog Try.f24 [.own 52 (.pair (.int .i64) (.pair (.int .i64) (.int .i64))), .val (.cell (.int .i64))]
noncomputable def sector_Path.l0 (N : Nat) (x0 : List (ByteArray × List (List (Int × Int) × Int × Int))) (x1 : List ((Int × (Int × Int) × Int) × Int × Int)) (k4 : Nat) (a5 : Int) (a6 : List (Int × Int × Int)) : Option (List (Int × Int × Int) × Int) :=
  loopN (norm ((sector_Path.E N).keep 2) 3) (sector_Path.cd91_2_3 N [1, 1, 0, 0]) k4
  ⟨[.yl [.any, .any, .ptr 0 0, .any, .any, .any, .any, .any, .ptr 1 0, .any, .any, .any, .any, .any, .any, .any, .any, .any, .any, .any, .any, .any, .any, .any, .any, .any, .any, .any, .any, .any, .any, .any, .any, .any, .any, .any, .any, .any, .clo 91 [.ptr 2 0], .any, .any, .any, .any, .any, .any, .any, .any, .any, .any, .any, .any, .any, .any, .any, .any, .any, .any, .any, .any, .any, .any, .any, .any, .any, .any, .any, .any, .any, .any, .any, .any, .any, .any, .any, .any, .any, .any, .any, .any, .any, .any, .any] (rfP (codeAt (bodyOf Try.f24) [1, 1, 1, 1, 1, 0, 1, 0])) (rfA (codeAt (bodyOf Try.f24) [1, 1, 1, 1, 1, 0, 1, 0])) (rfB (codeAt (bodyOf Try.f24) [1, 1, 1, 1, 1, 0, 1, 0])), .ptr 2 0, .any, .sc (.int .i64 a5), .any, .any, .any, .any, .any, .any, .any, .any, .any, .any, .any, .any, .any, .any, .any, .any, .any, .any, .any, .any, .any, .any, .any, .any, .any, .any, .any, .any, .any, .any, .any, .any], [.cells [.ros false 106 (.pair (.str) (.sl 113 (.pair (.sl 29 (.pair (.int .i64) (.int .i64))) (.pair (.int .i64) (.int .i64))))) x0] 22, .cells [.own 3] 45, .cells [.ros false 44 (.pair (.pair (.int .i64) (.pair (.pair (.int .i64) (.int .i64)) (.int .i64))) (.pair (.int .i64) (.int .i64))) x1] 40, .rows true 52 (.pair (.int .i64) (.pair (.int .i64) (.int .i64))) a6]⟩
  (blockK 0 (retK Try.prog Try.f91 (fun vs hp => (rangeE [.any, .any, .ptr 0 0, .any, .any, .any, .any, .any, .ptr 1 0, .any, .any, .any, .any, .any, .any, .any, .any, .any, .any, .any, .any, .any, .any, .any, .any, .any, .any, .any, .any, .any, .any, .any, .any, .any, .any, .any, .any, .any, .clo 91 [.ptr 2 0], .any, .any, .any, .any, .any, .any, .any, .any, .any, .any, .any, .any, .any, .any, .any, .any, .any, .any, .any, .any, .any, .any, .any, .any, .any, .any, .any, .any, .any, .any, .any, .any, .any, .any, .any, .any, .any, .any, .any, .any, .any, .any, .any] (blockK 0 (seqK (sector_Path.cd N [1, 1, 1, 1, 1, 1]) sector_Path.fin)) (tupOf vs) hp))))
theorem sector_Path.l0_zero (N : Nat) (x0 : List (ByteArray × List (List (Int × Int) × Int × Int))) (x1 : List ((Int × (Int × Int) × Int) × Int × Int)) (a5 : Int) (a6 : List (Int × Int × Int)) : sector_Path.l0 N x0 x1 0 a5 a6 = none := by kernel_rfl
theorem sector_Path.l0_succ (N : Nat) (x0 : List (ByteArray × List (List (Int × Int) × Int × Int))) (x1 : List ((Int × (Int × Int) × Int) × Int × Int)) (k4 : Nat) (a5 : Int) (a6 : List (Int × Int × Int)) : sector_Path.l0 N x0 x1 (k4 + 1) a5 a6 =
    bif (decide (0 ≤ (w ((x1.length : Int) - 1)))) && (decide ((w ((x1.length : Int) - 1)) < (x1.length : Int))) then
      bif decide (a5 ≤ (((List.getD x1 (Int.toNat (w ((x1.length : Int) - 1))) ((0, ((0, 0), 0)), (0, 0))).1).1)) then
        (tube_at.fn N (x1, a5)).bind fun r7 =>
        (sector_Place.fn N (x0, r7.1.1.2.1, r7.1.1.2.2)).bind fun r8 =>
        bif !(decide ((a6.length : Int) > 0)) || (decide ((a6.length : Int) > 0)) then
          bif !(decide ((a6.length : Int) > 0)) || (decide ((a6.length : Int) > 0)) then
            bif !(decide ((a6.length : Int) > 0)) || (decide ((a6.length : Int) > 0)) then
              bif ((decide (0 ≤ (w ((a6.length : Int) - 1)))) && (decide ((w ((a6.length : Int) - 1)) < (a6.length : Int)))) || !(decide ((a6.length : Int) > 0)) then
                bif !(decide ((a6.length : Int) > 0)) || (decide ((a6.length : Int) > 0)) then
                  bif !(decide ((a6.length : Int) > 0)) || (decide ((a6.length : Int) > 0)) then
                    bif (decide ((Int.toNat (w ((a6.length : Int) - 1))) < a6.length)) || !(decide ((a6.length : Int) > 0)) then
                      bif !(decide ((a6.length : Int) > 0)) || (decide ((a6.length : Int) > 0)) then
                        bif !(decide ((a6.length : Int) > 0)) || (decide ((a6.length : Int) > 0)) then
                          bif (!(decide ((a6.length : Int) > 0))) || (decide ((a6.length : Int) > 0)) then
                            bif (decide ((a6.length : Int) > 0)) && (((List.getD a6 (Int.toNat (w ((a6.length : Int) - 1))) (0, (0, 0))).1) == r8) then
                              bif (decide (0 ≤ (w ((a6.length : Int) - 1)))) && (decide ((w ((a6.length : Int) - 1)) < (a6.length : Int))) then
                                bif decide ((Int.toNat (w ((a6.length : Int) - 1))) < a6.length) then
                                  sector_Path.l0 N x0 x1 k4 (w (a5 + 1)) (List.set a6 (Int.toNat (w ((a6.length : Int) - 1))) ((List.getD a6 (Int.toNat (w ((a6.length : Int) - 1))) (0, (0, 0))).1, (((List.getD a6 (Int.toNat (w ((a6.length : Int) - 1))) (0, (0, 0))).2).1, r7.1.1.1)))
                                else
                                  none
                              else
                                none
                            else
                            bif decide ((a6.length + 1) * 24 ≤ 140737488355328) && decide ((a6.length + 1) ≤ maxLen) then
                              sector_Path.l0 N x0 x1 k4 (w (a5 + 1)) (a6 ++ [(r8, (r7.1.1.1, r7.1.1.1))])
                            else
                              none
                          else
                            none
                        else
                          none
                      else
                        none
                    else
                      none
                  else
                    none
                else
                  none
              else
                none
            else
              none
          else
            none
        else
          none
      else
        some (a6, 0)
    else
      none := by kernel_rfl
theorem sector_Path.l0_clean (N : Nat) (x0 : List (ByteArray × List (List (Int × Int) × Int × Int))) (x1 : List ((Int × (Int × Int) × Int) × Int × Int)) (k4 : Nat) (a5 : Int) (a6 : List (Int × Int × Int)) : sector_Path.l0 N x0 x1 (k4 + 1) a5 a6 =
    bif (decide (0 ≤ (w ((x1.length : Int) - 1)))) && (decide ((w ((x1.length : Int) - 1)) < (x1.length : Int))) then
      bif decide (a5 ≤ (((List.getD x1 (Int.toNat (w ((x1.length : Int) - 1))) ((0, ((0, 0), 0)), (0, 0))).1).1)) then
        (tube_at.fn N (x1, a5)).bind fun r7 =>
        (sector_Place.fn N (x0, r7.1.1.2.1, r7.1.1.2.2)).bind fun r8 =>
        bif ((decide (0 ≤ (w ((a6.length : Int) - 1)))) && (decide ((w ((a6.length : Int) - 1)) < (a6.length : Int)))) || !(decide ((a6.length : Int) > 0)) then
          bif (decide ((Int.toNat (w ((a6.length : Int) - 1))) < a6.length)) || !(decide ((a6.length : Int) > 0)) then
            bif (decide ((a6.length : Int) > 0)) && (((List.getD a6 (Int.toNat (w ((a6.length : Int) - 1))) (0, (0, 0))).1) == r8) then
              bif (decide (0 ≤ (w ((a6.length : Int) - 1)))) && (decide ((w ((a6.length : Int) - 1)) < (a6.length : Int))) then
                bif decide ((Int.toNat (w ((a6.length : Int) - 1))) < a6.length) then
                  sector_Path.l0 N x0 x1 k4 (w (a5 + 1)) (List.set a6 (Int.toNat (w ((a6.length : Int) - 1))) ((List.getD a6 (Int.toNat (w ((a6.length : Int) - 1))) (0, (0, 0))).1, (((List.getD a6 (Int.toNat (w ((a6.length : Int) - 1))) (0, (0, 0))).2).1, r7.1.1.1)))
                else
                  none
              else
                none
            else
            bif decide ((a6.length + 1) * 24 ≤ 140737488355328) && decide ((a6.length + 1) ≤ maxLen) then
              sector_Path.l0 N x0 x1 k4 (w (a5 + 1)) (a6 ++ [(r8, (r7.1.1.1, r7.1.1.1))])
            else
              none
          else
            none
        else
          none
      else
        some (a6, 0)
    else
      none := by
  rw [sector_Path.l0_succ]; simp only [taut20, taut21, cond_true]
theorem sector_Path.eq (N : Nat) (x0 : List (ByteArray × List (List (Int × Int) × Int × Int))) (x1 : List ((Int × (Int × Int) × Int) × Int × Int)) : sector_Path.fn N (x0, x1) =
    (sector_Check.fn N x0).bind fun r1 =>
    bif !(r1 == 0) then
      some ([], r1)
    else
      (tube_Check.fn N x1).bind fun r2 =>
      bif !(r2 == 0) then
        some ([], r2)
      else
      bif (decide (0 ≤ (w ((x1.length : Int) - 1)))) && (decide ((w ((x1.length : Int) - 1)) < (x1.length : Int))) then
        bif decide (0 < (x1.length : Int)) then
          bif decide ((w ((((List.getD x1 (Int.toNat (w ((x1.length : Int) - 1))) ((0, ((0, 0), 0)), (0, 0))).1).1) - (((List.getD x1 0 ((0, ((0, 0), 0)), (0, 0))).1).1))) > 20000) then
            some ([], 2)
          else
            (tube_Check.fn N x1).bind fun r3 =>
            bif !(r3 == 0) then
              some ([], 0)
            else
            bif decide (0 < (x1.length : Int)) then
              sector_Path.l0 N x0 x1 N (((List.getD x1 0 ((0, ((0, 0), 0)), (0, 0))).1).1) []
            else
              none
        else
          none
      else
        none := by kernel_rfl

/-! ### slices_Equal_SectorVisit: slices.Equal[[]skyway/api.SectorVisit,skyway/api.SectorVisit] -/
def slices_Equal_SectorVisit.kp : List (Nat × List (Nat × Option (TypeId × Ty))) := [(4, [(0, none), (1, none), (12, none), (13, none)])]
noncomputable def slices_Equal_SectorVisit.G (N : Nat) : List (Nat × Spec) := []
noncomputable def slices_Equal_SectorVisit.E (N : Nat) : Env := mkEnv (slices_Equal_SectorVisit.G N) N tyTab slices_Equal_SectorVisit.kp
noncomputable def slices_Equal_SectorVisit.fn (N : Nat) (x : List (Int × Int × Int) × List (Int × Int × Int)) : Option Bool := evFn (slices_Equal_SectorVisit.E N) Try.prog 3 Try.f27 false [.cell (.sl 52 (.pair (.int .i64) (.pair (.int .i64) (.int .i64)))), .cell (.sl 52 (.pair (.int .i64) (.pair (.int .i64) (.int .i64))))] [.val (.cell (.bool))] x
noncomputable def slices_Equal_SectorVisit.S (N : Nat) : PSpec := ⟨false, [.cell (.sl 52 (.pair (.int .i64) (.pair (.int .i64) (.int .i64)))), .cell (.sl 52 (.pair (.int .i64) (.pair (.int .i64) (.int .i64))))], [.val (.cell (.bool))], slices_Equal_SectorVisit.fn N⟩
theorem f27_enters : Enters Try.prog 27 := ⟨Try.f27, Try.func27, by kernel_rfl, by kernel_rfl⟩
theorem slices_Equal_SectorVisit.tab (N : Nat) : TabOk Try.prog (slices_Equal_SectorVisit.G N) := trivial
theorem slices_Equal_SectorVisit.enters : Enters Try.prog 27 := f27_enters
theorem slices_Equal_SectorVisit.sound (N : Nat) : Sound Try.prog 27 (slices_Equal_SectorVisit.S N) := evFn_sound (specs_tab (slices_Equal_SectorVisit.tab N)) (inls_tab (slices_Equal_SectorVisit.tab N)) mixed 3 Try.func27 _ _ _
noncomputable def slices_Equal_SectorVisit.cd (N : Nat) (p : List Nat) : St → (Ex → St → Option Bool) → Option Bool := ev (slices_Equal_SectorVisit.E N) Try.prog (callD (slices_Equal_SectorVisit.E N) Try.prog 3) 0 (codeAt (bodyOf Try.f27) p)
noncomputable def slices_Equal_SectorVisit.fin : Ex → St → Option Bool := endK Try.prog Try.f27 [.val (.cell (.bool))]
noncomputable def slices_Equal_SectorVisit.l0 (N : Nat) (x0 : List (Int × Int × Int)) (x1 : List (Int × Int × Int)) (k1 : Nat) (a2 : Int) : Option Bool :=
  loopN (norm ((slices_Equal_SectorVisit.E N).keep 4) 0) (slices_Equal_SectorVisit.cd N [1, 1, 0, 1, 0, 0]) k1
  ⟨[.ros false 52 (.pair (.int .i64) (.pair (.int .i64) (.int .i64))) x0, .ros false 52 (.pair (.int .i64) (.pair (.int .i64) (.int .i64))) x1, .any, .any, .any, .any, .any, .any, .any, .any, .any, .any, .sc (.int .i64 (x0.length : Int)), .sc (.int .i64 a2), .any, .any, .any, .any, .any, .any, .any, .any, .any, .any, .any, .any], []⟩
  (blockK 0 (seqK (slices_Equal_SectorVisit.cd N [1, 1, 1]) slices_Equal_SectorVisit.fin))
theorem slices_Equal_SectorVisit.l0_zero (N : Nat) (x0 : List (Int × Int × Int)) (x1 : List (Int × Int × Int)) (a2 : Int) : slices_Equal_SectorVisit.l0 N x0 x1 0 a2 = none := by kernel_rfl
theorem slices_Equal_SectorVisit.l0_succ (N : Nat) (x0 : List (Int × Int × Int)) (x1 : List (Int × Int × Int)) (k1 : Nat) (a2 : Int) : slices_Equal_SectorVisit.l0 N x0 x1 (k1 + 1) a2 =
    bif decide (a2 < (x0.length : Int)) then
      bif (decide (0 ≤ a2)) && (decide (a2 < (x0.length : Int))) then
        bif (decide (0 ≤ a2)) && (decide (a2 < (x1.length : Int))) then
          bif !((((List.getD x0 (Int.toNat a2) (0, (0, 0))).1) == ((List.getD x1 (Int.toNat a2) (0, (0, 0))).1)) && (((((List.getD x0 (Int.toNat a2) (0, (0, 0))).2).1) == (((List.getD x1 (Int.toNat a2) (0, (0, 0))).2).1)) && (((((List.getD x0 (Int.toNat a2) (0, (0, 0))).2).2) == (((List.getD x1 (Int.toNat a2) (0, (0, 0))).2).2)) && true))) then
            some false
          else
            slices_Equal_SectorVisit.l0 N x0 x1 k1 (w (a2 + 1))
        else
          none
      else
        none
    else
      some true := by kernel_rfl
theorem slices_Equal_SectorVisit.l0_cons (N : Nat) (x0 : List (Int × Int × Int)) (x1 : List (Int × Int × Int)) (k1 : Nat) {pre r} {x} (hl : x0 = pre ++ x :: r) (hb : x0.length < 4611686018427387904) : slices_Equal_SectorVisit.l0 N x0 x1 (k1 + 1) (pre.length : Int) =
    bif decide ((pre.length : Int) < (x1.length : Int)) then
      bif !(((x.1) == ((List.getD x1 pre.length (0, (0, 0))).1)) && ((((x.2).1) == (((List.getD x1 pre.length (0, (0, 0))).2).1)) && ((((x.2).2) == (((List.getD x1 pre.length (0, (0, 0))).2).2)) && true))) then
        some false
      else
        slices_Equal_SectorVisit.l0 N x0 x1 k1 ((pre.length : Int) + 1)
    else
      none := by
  have hlen : x0.length = pre.length + 1 + r.length := by rw [hl]; simp; omega
  have e1 : decide ((pre.length : Int) < (x0.length : Int)) = true := by rw [decide_eq_true_iff]; omega
  have e2 : decide (0 ≤ (pre.length : Int)) = true := by rw [decide_eq_true_iff]; omega
  have e4 : w ((pre.length : Int) + 1) = (pre.length : Int) + 1 := w_next hl hb
  have e5 : List.take pre.length x0 = pre := by rw [hl]; simp
  have e6 : decide ((pre.length : Int) ≤ (x0.length : Int)) = true := by rw [decide_eq_true_iff]; omega
  have g0 : List.getD x0 pre.length (0, (0, 0)) = x := by rw [hl]; exact getD_mid pre x r _
  rw [slices_Equal_SectorVisit.l0_succ]
  simp -implicitDefEqProofs only [Int.toNat_natCast, e1, e2, e4, e6, g0, e5, Bool.and_true, Bool.true_and, Bool.true_or, cond_true]
theorem slices_Equal_SectorVisit.l0_nil (N : Nat) (x0 : List (Int × Int × Int)) (x1 : List (Int × Int × Int)) (k1 : Nat) : slices_Equal_SectorVisit.l0 N x0 x1 (k1 + 1) (x0.length : Int) =
    some true := by
  have e1 : decide ((x0.length : Int) < (x0.length : Int)) = false := by rw [decide_eq_false_iff_not]; omega
  rw [slices_Equal_SectorVisit.l0_succ]
  simp -implicitDefEqProofs only [e1, cond_false]
theorem slices_Equal_SectorVisit.eq (N : Nat) (x0 : List (Int × Int × Int)) (x1 : List (Int × Int × Int)) : slices_Equal_SectorVisit.fn N (x0, x1) =
    bif !((x0.length : Int) == (x1.length : Int)) then
      some false
    else
      slices_Equal_SectorVisit.l0 N x0 x1 N 0 := by kernel_rfl
theorem slices_Equal_SectorVisit.v {N : Nat} (hN : 4611686018427387904 ≤ N) (x0 x1 : List (Int × Int × Int)) (h : x0.length < 4611686018427387904) : slices_Equal_SectorVisit.fn N (x0, x1) = some (eqL (fun p q => (((p.1) == (q.1)) && ((((p.2).1) == ((q.2).1)) && ((((p.2).2) == ((q.2).2)) && true)))) x0 x1) := equal_list hN (fun p q => (((p.1) == (q.1)) && ((((p.2).1) == ((q.2).1)) && ((((p.2).2) == ((q.2).2)) && true)))) (0, (0, 0)) h (fun k i => slices_Equal_SectorVisit.l0 N x0 x1 k i) (slices_Equal_SectorVisit.eq N x0 x1) (fun k i => slices_Equal_SectorVisit.l0_succ N x0 x1 k i)
theorem slices_Equal_SectorVisit.self {N : Nat} (hN : 4611686018427387904 ≤ N) (x0 : List (Int × Int × Int)) (h : x0.length < 4611686018427387904) : slices_Equal_SectorVisit.fn N (x0, x0) = some true := by rw [slices_Equal_SectorVisit.v hN x0 x0 h]; exact congrArg some (eqL_refl (fun p => by simp [seq_self]) x0)

/-! ### law_sectorFact: skyway/skywaylaw3.sectorFact -/
def law_sectorFact.kp : List (Nat × List (Nat × Option (TypeId × Ty))) := [(999999, [(0, none)])]
noncomputable def law_sectorFact.G (N : Nat) : List (Nat × Spec) := [(16, .pure (sector_Check.S N)), (18, .pure (sector_Name.S N)), (20, .pure (sector_Find.S N)), (23, .pure (sector_Box.S N)), (24, .pure (sector_Path.S N)), (27, .pure (slices_Equal_SectorVisit.S N)), (57, .pure (law_two.S N)), (58, .pure (sector_Left.S N)), (59, .pure (law_straight.S N))]
noncomputable def law_sectorFact.E (N : Nat) : Env := mkEnv (law_sectorFact.G N) N tyTab law_sectorFact.kp
noncomputable def law_sectorFact.fn (N : Nat) (x : Unit) : Option Bool := evFn (law_sectorFact.E N) Try.prog 3 Try.f15 false [] [.val (.cell (.bool))] x
noncomputable def law_sectorFact.S (N : Nat) : PSpec := ⟨false, [], [.val (.cell (.bool))], law_sectorFact.fn N⟩
theorem f15_enters : Enters Try.prog 15 := ⟨Try.f15, Try.func15, by kernel_rfl, by kernel_rfl⟩
theorem law_sectorFact.tab (N : Nat) : TabOk Try.prog (law_sectorFact.G N) := ⟨⟨sector_Check.enters, sector_Check.sound N⟩, ⟨sector_Name.enters, sector_Name.sound N⟩, ⟨sector_Find.enters, sector_Find.sound N⟩, ⟨sector_Box.enters, sector_Box.sound N⟩, ⟨sector_Path.enters, sector_Path.sound N⟩, ⟨slices_Equal_SectorVisit.enters, slices_Equal_SectorVisit.sound N⟩, ⟨law_two.enters, law_two.sound N⟩, ⟨sector_Left.enters, sector_Left.sound N⟩, ⟨law_straight.enters, law_straight.sound N⟩, trivial⟩
theorem law_sectorFact.enters : Enters Try.prog 15 := f15_enters
theorem law_sectorFact.sound (N : Nat) : Sound Try.prog 15 (law_sectorFact.S N) := evFn_sound (specs_tab (law_sectorFact.tab N)) (inls_tab (law_sectorFact.tab N)) mixed 3 Try.func15 _ _ _
theorem law_sectorFact.eq (N : Nat) : law_sectorFact.fn N () =
    (law_two.fn N ()).bind fun r1 =>
    (sector_Find.fn N (r1, (15, 5), 50)).bind fun r2 =>
    (sector_Left.fn N (r1, ((0, 0), ((20, 10), (0, 200))))).bind fun r3 =>
    (law_straight.fn N (5, 15)).bind fun r4 =>
    (sector_Path.fn N (r1, r4)).bind fun r5 =>
    bif r2.2 == 0 then
      bif r3.2 == 0 then
        bif r5.2 == 0 then
          bif r2.1 == 1 then
            bif r3.1 == 40000 then
              bif decide (0 < (r1.length : Int)) then
                bif decide (0 < r1.length) then
                  bif decide ((r1.length + 1) * 40 ≤ 140737488355328) && decide ((r1.length + 1) ≤ maxLen) then
                    (sector_Check.fn N (r1 ++ [List.getD r1 0 ((⟨#[]⟩ : ByteArray), [])])).bind fun r6 =>
                    bif r6 == 7 then
                      (slices_Equal_SectorVisit.fn N (r5.1, [(0, (0, 5)), (1, (6, 10))])).bind fun r7 =>
                      bif r7 then
                        (sector_Name.fn N (⟨#[65, 49]⟩ : ByteArray)).bind fun r8 =>
                        bif r8 then
                          (sector_Box.fn N ((0, 0), ((0, 0), (0, 0)))).bind fun r9 =>
                          some (r9 == 4)
                        else
                          some false
                      else
                        some false
                    else
                      some false
                  else
                    none
                else
                  none
              else
                none
            else
              some false
          else
            some false
        else
          some false
      else
        some false
    else
      some false := by kernel_rfl

/-! ### ref_IsName: skyway/skywayref3.IsName -/
def ref_IsName.kp : List (Nat × List (Nat × Option (TypeId × Ty))) := [(4, [(0, none), (3, none)])]
noncomputable def ref_IsName.G (N : Nat) : List (Nat × Spec) := []
noncomputable def ref_IsName.E (N : Nat) : Env := mkEnv (ref_IsName.G N) N tyTab ref_IsName.kp
noncomputable def ref_IsName.fn (N : Nat) (x : ByteArray) : Option Bool := evFn (ref_IsName.E N) Try.prog 3 Try.f19 false [.cell (.str)] [.val (.cell (.bool))] x
noncomputable def ref_IsName.S (N : Nat) : PSpec := ⟨false, [.cell (.str)], [.val (.cell (.bool))], ref_IsName.fn N⟩
theorem f19_enters : Enters Try.prog 19 := ⟨Try.f19, Try.func19, by kernel_rfl, by kernel_rfl⟩
theorem ref_IsName.tab (N : Nat) : TabOk Try.prog (ref_IsName.G N) := trivial
theorem ref_IsName.enters : Enters Try.prog 19 := f19_enters
theorem ref_IsName.sound (N : Nat) : Sound Try.prog 19 (ref_IsName.S N) := evFn_sound (specs_tab (ref_IsName.tab N)) (inls_tab (ref_IsName.tab N)) mixed 3 Try.func19 _ _ _
noncomputable def ref_IsName.cd (N : Nat) (p : List Nat) : St → (Ex → St → Option Bool) → Option Bool := ev (ref_IsName.E N) Try.prog (callD (ref_IsName.E N) Try.prog 3) 0 (codeAt (bodyOf Try.f19) p)
noncomputable def ref_IsName.fin : Ex → St → Option Bool := endK Try.prog Try.f19 [.val (.cell (.bool))]
noncomputable def ref_IsName.l0 (N : Nat) (x0 : ByteArray) (k1 : Nat) (a2 : Int) : Option Bool :=
  loopN (norm ((ref_IsName.E N).keep 4) 0) (ref_IsName.cd N [1, 1, 0, 1, 0, 0]) k1
  ⟨[.sc (.string x0), .any, .any, .sc (.int .i64 a2), .any, .any, .any, .any, .any, .any, .any, .any, .any, .any, .any, .any, .any, .any, .any, .any, .any, .any, .any, .any, .any, .any, .any, .any, .any, .any, .any, .any, .any, .any, .any, .any, .any, .any, .any, .any, .any, .any, .any, .any, .any], []⟩
  (blockK 0 (seqK (ref_IsName.cd N [1, 1, 1]) ref_IsName.fin))
theorem ref_IsName.l0_zero (N : Nat) (x0 : ByteArray) (a2 : Int) : ref_IsName.l0 N x0 0 a2 = none := by kernel_rfl
theorem ref_IsName.l0_succ (N : Nat) (x0 : ByteArray) (k1 : Nat) (a2 : Int) : ref_IsName.l0 N x0 (k1 + 1) a2 =
    bif decide (a2 < (x0.size : Int)) then
      bif (decide (0 ≤ a2)) && (decide (a2 < (x0.size : Int))) then
        bif !(!(decide (((((ByteArray.data x0).getD (Int.toNat a2) 0).toNat : Nat) : Int) < 65))) || (!(decide (((((ByteArray.data x0).getD (Int.toNat a2) 0).toNat : Nat) : Int) < 65))) then
          bif (decide (((((ByteArray.data x0).getD (Int.toNat a2) 0).toNat : Nat) : Int) < 65)) || (!(decide (((((ByteArray.data x0).getD (Int.toNat a2) 0).toNat : Nat) : Int) < 65))) then
            bif !((decide (((((ByteArray.data x0).getD (Int.toNat a2) 0).toNat : Nat) : Int) < 65)) || (decide (((((ByteArray.data x0).getD (Int.toNat a2) 0).toNat : Nat) : Int) > 90))) || ((decide (((((ByteArray.data x0).getD (Int.toNat a2) 0).toNat : Nat) : Int) < 65)) || (decide (((((ByteArray.data x0).getD (Int.toNat a2) 0).toNat : Nat) : Int) > 90))) then
              bif !((decide (((((ByteArray.data x0).getD (Int.toNat a2) 0).toNat : Nat) : Int) < 65)) || (decide (((((ByteArray.data x0).getD (Int.toNat a2) 0).toNat : Nat) : Int) > 90))) || ((decide (((((ByteArray.data x0).getD (Int.toNat a2) 0).toNat : Nat) : Int) < 65)) || (decide (((((ByteArray.data x0).getD (Int.toNat a2) 0).toNat : Nat) : Int) > 90))) then
                bif !(((decide (((((ByteArray.data x0).getD (Int.toNat a2) 0).toNat : Nat) : Int) < 65)) || (decide (((((ByteArray.data x0).getD (Int.toNat a2) 0).toNat : Nat) : Int) > 90))) && (!(decide (((((ByteArray.data x0).getD (Int.toNat a2) 0).toNat : Nat) : Int) < 48)))) || (((decide (((((ByteArray.data x0).getD (Int.toNat a2) 0).toNat : Nat) : Int) < 65)) || (decide (((((ByteArray.data x0).getD (Int.toNat a2) 0).toNat : Nat) : Int) > 90))) && (!(decide (((((ByteArray.data x0).getD (Int.toNat a2) 0).toNat : Nat) : Int) < 48)))) then
                  bif !((decide (((((ByteArray.data x0).getD (Int.toNat a2) 0).toNat : Nat) : Int) < 65)) || (decide (((((ByteArray.data x0).getD (Int.toNat a2) 0).toNat : Nat) : Int) > 90))) || ((decide (((((ByteArray.data x0).getD (Int.toNat a2) 0).toNat : Nat) : Int) < 65)) || (decide (((((ByteArray.data x0).getD (Int.toNat a2) 0).toNat : Nat) : Int) > 90))) then
                    bif !((decide (((((ByteArray.data x0).getD (Int.toNat a2) 0).toNat : Nat) : Int) < 65)) || (decide (((((ByteArray.data x0).getD (Int.toNat a2) 0).toNat : Nat) : Int) > 90))) || ((decide (((((ByteArray.data x0).getD (Int.toNat a2) 0).toNat : Nat) : Int) < 48)) || (((decide (((((ByteArray.data x0).getD (Int.toNat a2) 0).toNat : Nat) : Int) < 65)) || (decide (((((ByteArray.data x0).getD (Int.toNat a2) 0).toNat : Nat) : Int) > 90))) && (!(decide (((((ByteArray.data x0).getD (Int.toNat a2) 0).toNat : Nat) : Int) < 48))))) then
                      bif (!((decide (((((ByteArray.data x0).getD (Int.toNat a2) 0).toNat : Nat) : Int) < 65)) || (decide (((((ByteArray.data x0).getD (Int.toNat a2) 0).toNat : Nat) : Int) > 90)))) || ((decide (((((ByteArray.data x0).getD (Int.toNat a2) 0).toNat : Nat) : Int) < 65)) || (decide (((((ByteArray.data x0).getD (Int.toNat a2) 0).toNat : Nat) : Int) > 90))) then
                        bif ((decide (((((ByteArray.data x0).getD (Int.toNat a2) 0).toNat : Nat) : Int) < 65)) || (decide (((((ByteArray.data x0).getD (Int.toNat a2) 0).toNat : Nat) : Int) > 90))) && ((decide (((((ByteArray.data x0).getD (Int.toNat a2) 0).toNat : Nat) : Int) < 48)) || (decide (((((ByteArray.data x0).getD (Int.toNat a2) 0).toNat : Nat) : Int) > 57))) then
                          some false
                        else
                          ref_IsName.l0 N x0 k1 (w (a2 + 1))
                      else
                        none
                    else
                      none
                  else
                    none
                else
                  none
              else
                none
            else
              none
          else
            none
        else
          none
      else
        none
    else
      some true := by kernel_rfl
theorem ref_IsName.l0_clean (N : Nat) (x0 : ByteArray) (k1 : Nat) (a2 : Int) : ref_IsName.l0 N x0 (k1 + 1) a2 =
    bif decide (a2 < (x0.size : Int)) then
      bif (decide (0 ≤ a2)) && (decide (a2 < (x0.size : Int))) then
        bif ((decide (((((ByteArray.data x0).getD (Int.toNat a2) 0).toNat : Nat) : Int) < 65)) || (decide (((((ByteArray.data x0).getD (Int.toNat a2) 0).toNat : Nat) : Int) > 90))) && ((decide (((((ByteArray.data x0).getD (Int.toNat a2) 0).toNat : Nat) : Int) < 48)) || (decide (((((ByteArray.data x0).getD (Int.toNat a2) 0).toNat : Nat) : Int) > 57))) then
          some false
        else
          ref_IsName.l0 N x0 k1 (w (a2 + 1))
      else
        none
    else
      some true := by
  rw [ref_IsName.l0_succ]; simp only [taut1, taut2, taut3, taut4, taut5, taut6, cond_true]
theorem ref_IsName.l0_cons (N : Nat) (x0 : ByteArray) (k1 : Nat) {pre r} {x} (hl : x0.data.toList = pre ++ x :: r) (hb : x0.size < 4611686018427387904) : ref_IsName.l0 N x0 (k1 + 1) (pre.length : Int) =
    bif ((decide (((x.toNat : Nat) : Int) < 65)) || (decide (((x.toNat : Nat) : Int) > 90))) && ((decide (((x.toNat : Nat) : Int) < 48)) || (decide (((x.toNat : Nat) : Int) > 57))) then
      some false
    else
      ref_IsName.l0 N x0 k1 ((pre.length : Int) + 1) := by
  have hlen : x0.size = pre.length + 1 + r.length := by rw [ByteArray.size, ← Array.length_toList, hl]; simp; omega
  have e1 : decide ((pre.length : Int) < (x0.size : Int)) = true := by rw [decide_eq_true_iff]; omega
  have e2 : decide (0 ≤ (pre.length : Int)) = true := by rw [decide_eq_true_iff]; omega
  have e4 : w ((pre.length : Int) + 1) = (pre.length : Int) + 1 := w_next hl (by rw [Array.length_toList]; exact hb)
  have e6 : decide ((pre.length : Int) ≤ (x0.size : Int)) = true := by rw [decide_eq_true_iff]; omega
  have g0 : (ByteArray.data x0).getD pre.length 0 = x := getD_bytes hl
  rw [ref_IsName.l0_clean]
  simp -implicitDefEqProofs only [Int.toNat_natCast, e1, e2, e4, e6, g0, Bool.and_true, Bool.true_and, Bool.true_or, cond_true]
theorem ref_IsName.l0_nil (N : Nat) (x0 : ByteArray) (k1 : Nat) : ref_IsName.l0 N x0 (k1 + 1) (x0.size : Int) =
    some true := by
  have e1 : decide ((x0.size : Int) < (x0.size : Int)) = false := by rw [decide_eq_false_iff_not]; omega
  rw [ref_IsName.l0_clean]
  simp -implicitDefEqProofs only [e1, cond_false]
theorem ref_IsName.eq (N : Nat) (x0 : ByteArray) : ref_IsName.fn N x0 =
    bif !(!(seq x0 (⟨#[]⟩ : ByteArray))) || (!(seq x0 (⟨#[]⟩ : ByteArray))) then
      bif !(!(seq x0 (⟨#[]⟩ : ByteArray))) || (!(seq x0 (⟨#[]⟩ : ByteArray))) then
        bif (seq x0 (⟨#[]⟩ : ByteArray)) || (!(seq x0 (⟨#[]⟩ : ByteArray))) then
          bif !(!((seq x0 (⟨#[]⟩ : ByteArray)) || (decide ((x0.size : Int) > 8)))) || (!((seq x0 (⟨#[]⟩ : ByteArray)) || (decide ((x0.size : Int) > 8)))) then
            bif (decide (0 < (x0.size : Int))) || !(!((seq x0 (⟨#[]⟩ : ByteArray)) || (decide ((x0.size : Int) > 8)))) then
              bif !(!((seq x0 (⟨#[]⟩ : ByteArray)) || (decide ((x0.size : Int) > 8)))) || (!((seq x0 (⟨#[]⟩ : ByteArray)) || (decide ((x0.size : Int) > 8)))) then
                bif !(!((seq x0 (⟨#[]⟩ : ByteArray)) || (decide ((x0.size : Int) > 8)))) || (!((seq x0 (⟨#[]⟩ : ByteArray)) || (decide ((x0.size : Int) > 8)))) then
                  bif !((!((seq x0 (⟨#[]⟩ : ByteArray)) || (decide ((x0.size : Int) > 8)))) && (decide (((((ByteArray.data x0).getD 0 0).toNat : Nat) : Int) ≥ 48))) || ((!((seq x0 (⟨#[]⟩ : ByteArray)) || (decide ((x0.size : Int) > 8)))) && (decide (((((ByteArray.data x0).getD 0 0).toNat : Nat) : Int) ≥ 48))) then
                    bif (decide (0 < (x0.size : Int))) || !((!((seq x0 (⟨#[]⟩ : ByteArray)) || (decide ((x0.size : Int) > 8)))) && (decide (((((ByteArray.data x0).getD 0 0).toNat : Nat) : Int) ≥ 48))) then
                      bif !((!((seq x0 (⟨#[]⟩ : ByteArray)) || (decide ((x0.size : Int) > 8)))) && (decide (((((ByteArray.data x0).getD 0 0).toNat : Nat) : Int) ≥ 48))) || ((!((seq x0 (⟨#[]⟩ : ByteArray)) || (decide ((x0.size : Int) > 8)))) && (decide (((((ByteArray.data x0).getD 0 0).toNat : Nat) : Int) ≥ 48))) then
                        bif !(!((seq x0 (⟨#[]⟩ : ByteArray)) || (decide ((x0.size : Int) > 8)))) || (!((seq x0 (⟨#[]⟩ : ByteArray)) || (decide ((x0.size : Int) > 8)))) then
                          bif !(!((seq x0 (⟨#[]⟩ : ByteArray)) || (decide ((x0.size : Int) > 8)))) || ((!(decide (((((ByteArray.data x0).getD 0 0).toNat : Nat) : Int) ≥ 48))) || ((!((seq x0 (⟨#[]⟩ : ByteArray)) || (decide ((x0.size : Int) > 8)))) && (decide (((((ByteArray.data x0).getD 0 0).toNat : Nat) : Int) ≥ 48)))) then
                            bif ((seq x0 (⟨#[]⟩ : ByteArray)) || (decide ((x0.size : Int) > 8))) || (!((seq x0 (⟨#[]⟩ : ByteArray)) || (decide ((x0.size : Int) > 8)))) then
                              bif ((seq x0 (⟨#[]⟩ : ByteArray)) || (decide ((x0.size : Int) > 8))) || ((decide (((((ByteArray.data x0).getD 0 0).toNat : Nat) : Int) ≥ 48)) && (decide (((((ByteArray.data x0).getD 0 0).toNat : Nat) : Int) ≤ 57))) then
                                some false
                              else
                                ref_IsName.l0 N x0 N 0
                            else
                              none
                          else
                            none
                        else
                          none
                      else
                        none
                    else
                      none
                  else
                    none
                else
                  none
              else
                none
            else
              none
          else
            none
        else
          none
      else
        none
    else
      none := by kernel_rfl
theorem ref_IsName.clean (N : Nat) (x0 : ByteArray) : ref_IsName.fn N x0 =
    bif (decide (0 < (x0.size : Int))) || !(!((seq x0 (⟨#[]⟩ : ByteArray)) || (decide ((x0.size : Int) > 8)))) then
      bif (decide (0 < (x0.size : Int))) || !((!((seq x0 (⟨#[]⟩ : ByteArray)) || (decide ((x0.size : Int) > 8)))) && (decide (((((ByteArray.data x0).getD 0 0).toNat : Nat) : Int) ≥ 48))) then
        bif ((seq x0 (⟨#[]⟩ : ByteArray)) || (decide ((x0.size : Int) > 8))) || ((decide (((((ByteArray.data x0).getD 0 0).toNat : Nat) : Int) ≥ 48)) && (decide (((((ByteArray.data x0).getD 0 0).toNat : Nat) : Int) ≤ 57))) then
          some false
        else
          ref_IsName.l0 N x0 N 0
      else
        none
    else
      none := by
  rw [ref_IsName.eq]; simp only [taut8, taut41, taut1, taut42, taut10, taut6, cond_true]

/-! ### ref_Has: skyway/skywayref3.Has -/
def ref_Has.kp : List (Nat × List (Nat × Option (TypeId × Ty))) := [(2, [(1, none), (7, none), (8, none), (9, none)])]
noncomputable def ref_Has.G (N : Nat) : List (Nat × Spec) := []
noncomputable def ref_Has.E (N : Nat) : Env := mkEnv (ref_Has.G N) N tyTab ref_Has.kp
noncomputable def ref_Has.fn (N : Nat) (x : List ByteArray × ByteArray) : Option Bool := evFn (ref_Has.E N) Try.prog 3 Try.f42 false [.cell (.sl 9 (.str)), .cell (.str)] [.val (.cell (.bool))] x
noncomputable def ref_Has.S (N : Nat) : PSpec := ⟨false, [.cell (.sl 9 (.str)), .cell (.str)], [.val (.cell (.bool))], ref_Has.fn N⟩
theorem f42_enters : Enters Try.prog 42 := ⟨Try.f42, Try.func42, by kernel_rfl, by kernel_rfl⟩
theorem ref_Has.tab (N : Nat) : TabOk Try.prog (ref_Has.G N) := trivial
theorem ref_Has.enters : Enters Try.prog 42 := f42_enters
theorem ref_Has.sound (N : Nat) : Sound Try.prog 42 (ref_Has.S N) := evFn_sound (specs_tab (ref_Has.tab N)) (inls_tab (ref_Has.tab N)) mixed 3 Try.func42 _ _ _
noncomputable def ref_Has.cd (N : Nat) (p : List Nat) : St → (Ex → St → Option Bool) → Option Bool := ev (ref_Has.E N) Try.prog (callD (ref_Has.E N) Try.prog 3) 0 (codeAt (bodyOf Try.f42) p)
noncomputable def ref_Has.fin : Ex → St → Option Bool := endK Try.prog Try.f42 [.val (.cell (.bool))]
noncomputable def ref_Has.l0 (N : Nat) (x0 : List ByteArray) (x1 : ByteArray) (k1 : Nat) (a2 : Int) : Option Bool :=
  loopN (norm ((ref_Has.E N).keep 2) 0) (ref_Has.cd N [1, 0, 1, 0, 0]) k1
  ⟨[.any, .sc (.string x1), .any, .any, .any, .any, .any, .ros false 9 (.str) x0, .sc (.int .i64 (x0.length : Int)), .sc (.int .i64 a2), .any, .any, .any, .any, .any, .any, .any], []⟩
  (blockK 0 (seqK (ref_Has.cd N [1, 1]) ref_Has.fin))
theorem ref_Has.l0_zero (N : Nat) (x0 : List ByteArray) (x1 : ByteArray) (a2 : Int) : ref_Has.l0 N x0 x1 0 a2 = none := by kernel_rfl
theorem ref_Has.l0_succ (N : Nat) (x0 : List ByteArray) (x1 : ByteArray) (k1 : Nat) (a2 : Int) : ref_Has.l0 N x0 x1 (k1 + 1) a2 =
    bif decide (a2 < (x0.length : Int)) then
      bif (decide (0 ≤ a2)) && (decide (a2 < (x0.length : Int))) then
        bif seq (List.getD x0 (Int.toNat a2) (⟨#[]⟩ : ByteArray)) x1 then
          some true
        else
          ref_Has.l0 N x0 x1 k1 (w (a2 + 1))
      else
        none
    else
      some false := by kernel_rfl
theorem ref_Has.l0_cons (N : Nat) (x0 : List ByteArray) (x1 : ByteArray) (k1 : Nat) {pre r} {x} (hl : x0 = pre ++ x :: r) (hb : x0.length < 4611686018427387904) : ref_Has.l0 N x0 x1 (k1 + 1) (pre.length : Int) =
    bif seq x x1 then
      some true
    else
      ref_Has.l0 N x0 x1 k1 ((pre.length : Int) + 1) := by
  have hlen : x0.length = pre.length + 1 + r.length := by rw [hl]; simp; omega
  have e1 : decide ((pre.length : Int) < (x0.length : Int)) = true := by rw [decide_eq_true_iff]; omega
  have e2 : decide (0 ≤ (pre.length : Int)) = true := by rw [decide_eq_true_iff]; omega
  have e4 : w ((pre.length : Int) + 1) = (pre.length : Int) + 1 := w_next hl hb
  have e5 : List.take pre.length x0 = pre := by rw [hl]; simp
  have e6 : decide ((pre.length : Int) ≤ (x0.length : Int)) = true := by rw [decide_eq_true_iff]; omega
  have g0 : List.getD x0 pre.length (⟨#[]⟩ : ByteArray) = x := by rw [hl]; exact getD_mid pre x r _
  rw [ref_Has.l0_succ]
  simp -implicitDefEqProofs only [Int.toNat_natCast, e1, e2, e4, e6, g0, e5, Bool.and_true, Bool.true_and, Bool.true_or, cond_true]
theorem ref_Has.l0_nil (N : Nat) (x0 : List ByteArray) (x1 : ByteArray) (k1 : Nat) : ref_Has.l0 N x0 x1 (k1 + 1) (x0.length : Int) =
    some false := by
  have e1 : decide ((x0.length : Int) < (x0.length : Int)) = false := by rw [decide_eq_false_iff_not]; omega
  rw [ref_Has.l0_succ]
  simp -implicitDefEqProofs only [e1, cond_false]
theorem ref_Has.eq (N : Nat) (x0 : List ByteArray) (x1 : ByteArray) : ref_Has.fn N (x0, x1) =
    ref_Has.l0 N x0 x1 N 0 := by kernel_rfl

/-! ### law_sectorsError: skyway/skywaylaw3.sectorsError -/
def law_sectorsError.kp : List (Nat × List (Nat × Option (TypeId × Ty))) := [(6, [(3, some (9, .str)), (4, some (113, .pair (.sl 29 (.pair (.int .i64) (.int .i64))) (.pair (.int .i64) (.int .i64)))), (17, none), (18, none), (19, none)]), (15, [(3, none), (4, none), (6, none), (17, none), (18, none), (19, none), (36, none), (37, none), (38, none)]), (26, [(4, none), (63, none), (64, none)]), (29, [(4, none), (10, none), (63, none), (64, none), (67, none), (68, none)])]
noncomputable def law_sectorsError.G (N : Nat) : List (Nat × Spec) := [(19, .pure (ref_IsName.S N)), (42, .pure (ref_Has.S N)), (63, .pure (volume_Check.S N)), (64, .pure (volume_Overlap.S N))]
noncomputable def law_sectorsError.E (N : Nat) : Env := mkEnv (law_sectorsError.G N) N tyTab law_sectorsError.kp
noncomputable def law_sectorsError.fn (N : Nat) (x : List (ByteArray × List (List (Int × Int) × Int × Int))) : Option Int := evFn (law_sectorsError.E N) Try.prog 3 Try.f17 true [.cell (.sl 106 (.pair (.str) (.sl 113 (.pair (.sl 29 (.pair (.int .i64) (.int .i64))) (.pair (.int .i64) (.int .i64))))))] [.val (.cell (.int .i64))] x
noncomputable def law_sectorsError.S (N : Nat) : PSpec := ⟨true, [.cell (.sl 106 (.pair (.str) (.sl 113 (.pair (.sl 29 (.pair (.int .i64) (.int .i64))) (.pair (.int .i64) (.int .i64))))))], [.val (.cell (.int .i64))], law_sectorsError.fn N⟩
theorem f17_enters : Enters Try.prog 17 := ⟨Try.f17, Try.func17, by kernel_rfl, by kernel_rfl⟩
theorem law_sectorsError.tab (N : Nat) : TabOk Try.prog (law_sectorsError.G N) := ⟨⟨ref_IsName.enters, ref_IsName.sound N⟩, ⟨ref_Has.enters, ref_Has.sound N⟩, ⟨volume_Check.enters, volume_Check.sound N⟩, ⟨volume_Overlap.enters, volume_Overlap.sound N⟩, trivial⟩
theorem law_sectorsError.enters : Enters Try.prog 17 := f17_enters
theorem law_sectorsError.sound (N : Nat) : Sound Try.prog 17 (law_sectorsError.S N) := evFn_sound (specs_tab (law_sectorsError.tab N)) (inls_tab (law_sectorsError.tab N)) mixed 3 Try.func17 _ _ _
noncomputable def law_sectorsError.cd (N : Nat) (p : List Nat) : St → (Ex → St → Option Int) → Option Int := ev (law_sectorsError.E N) Try.prog (callD (law_sectorsError.E N) Try.prog 3) 0 (codeAt (bodyOf Try.f17) p)
noncomputable def law_sectorsError.fin : Ex → St → Option Int := endK Try.prog Try.f17 [.val (.cell (.int .i64))]
noncomputable def law_sectorsError.l0 (N : Nat) (x0 : List (ByteArray × List (List (Int × Int) × Int × Int))) (k1 : Nat) (a2 : Int) (a3 : List ByteArray) (a4 : List (List (Int × Int) × Int × Int)) : Option Int :=
  loopN (norm ((law_sectorsError.E N).keep 6) 0) (law_sectorsError.cd N [1, 1, 1, 1, 0, 1, 0, 0]) k1
  ⟨[.any, .any, .any, .own 0, .own 1, .any, .any, .any, .any, .any, .any, .any, .any, .any, .any, .any, .any, .ros true 106 (.pair (.str) (.sl 113 (.pair (.sl 29 (.pair (.int .i64) (.int .i64))) (.pair (.int .i64) (.int .i64))))) x0, .sc (.int .i64 (x0.length : Int)), .sc (.int .i64 a2), .any, .any, .any, .any, .any, .any, .any, .any, .any, .any, .any, .any, .any, .any, .any, .any, .any, .any, .any, .any, .any, .any, .any, .any, .any, .any, .any, .any, .any, .any, .any, .any, .any, .any, .any, .any, .any, .any, .any, .any, .any, .any, .any, .any, .any, .any, .any, .any, .any, .any, .any, .any, .any, .any, .any, .any, .any, .any, .any, .any, .any, .any, .any, .any, .any, .any, .any, .any, .any, .any], [.rows true 9 (.str) a3, .rows true 113 (.pair (.sl 29 (.pair (.int .i64) (.int .i64))) (.pair (.int .i64) (.int .i64))) a4]⟩
  (blockK 0 (seqK (law_sectorsError.cd N [1, 1, 1, 1, 1]) law_sectorsError.fin))
noncomputable def law_sectorsError.l1 (N : Nat) (x0 : List (ByteArray × List (List (Int × Int) × Int × Int))) (k1 : Nat) (a2 : Int) (a3 : List ByteArray) (a4 : List (List (Int × Int) × Int × Int)) (k6 : Nat) (a7 : Int) : Option Int :=
  loopN (norm ((law_sectorsError.E N).keep 15) 0) (law_sectorsError.cd N [1, 1, 1, 1, 0, 1, 0, 0, 1, 1, 0, 0, 1, 1, 1, 1, 0, 1, 0, 0]) k6
  ⟨[.any, .any, .any, .own 0, .own 1, .any, .ptr 2 0, .any, .any, .any, .any, .any, .any, .any, .any, .any, .any, .ros true 106 (.pair (.str) (.sl 113 (.pair (.sl 29 (.pair (.int .i64) (.int .i64))) (.pair (.int .i64) (.int .i64))))) x0, .sc (.int .i64 (x0.length : Int)), .sc (.int .i64 a2), .any, .any, .any, .any, .any, .any, .any, .any, .any, .any, .any, .any, .any, .any, .any, .any, .ros true 113 (.pair (.sl 29 (.pair (.int .i64) (.int .i64))) (.pair (.int .i64) (.int .i64))) ((List.getD x0 (Int.toNat a2) ((⟨#[]⟩ : ByteArray), [])).2), .sc (.int .i64 (((List.getD x0 (Int.toNat a2) ((⟨#[]⟩ : ByteArray), [])).2).length : Int)), .sc (.int .i64 a7), .any, .any, .any, .any, .any, .any, .any, .any, .any, .any, .any, .any, .any, .any, .any, .any, .any, .any, .any, .any, .any, .any, .any, .any, .any, .any, .any, .any, .any, .any, .any, .any, .any, .any, .any, .any, .any, .any, .any, .any, .any, .any, .any, .any, .any, .any, .any, .any, .any, .any, .any], [.rows true 9 (.str) a3, .rows true 113 (.pair (.sl 29 (.pair (.int .i64) (.int .i64))) (.pair (.int .i64) (.int .i64))) a4, .cells [.sc (.string ((List.getD x0 (Int.toNat a2) ((⟨#[]⟩ : ByteArray), [])).1)), .ros true 113 (.pair (.sl 29 (.pair (.int .i64) (.int .i64))) (.pair (.int .i64) (.int .i64))) ((List.getD x0 (Int.toNat a2) ((⟨#[]⟩ : ByteArray), [])).2)] 106]⟩
  (blockK 2 (seqK (law_sectorsError.cd N [1, 1, 1, 1, 0, 1, 0, 0, 1, 1, 0, 0, 1, 1, 1, 1, 1]) (blockK 1 (seqK (law_sectorsError.cd N [1, 1, 1, 1, 0, 1, 0, 0, 1, 1, 1]) (loopK (norm ((law_sectorsError.E N).keep 6) 0) (law_sectorsError.cd N [1, 1, 1, 1, 0, 1, 0, 0]) k1 (blockK 0 (seqK (law_sectorsError.cd N [1, 1, 1, 1, 1]) law_sectorsError.fin)))))))
noncomputable def law_sectorsError.l2 (N : Nat) (a4 : List (List (Int × Int) × Int × Int)) (k10 : Nat) (a11 : Int) : Option Int :=
  loopN (norm ((law_sectorsError.E N).keep 26) 0) (law_sectorsError.cd N [1, 1, 1, 1, 1, 0, 1, 0, 0]) k10
  ⟨[.any, .any, .any, .any, .own 0, .any, .any, .any, .any, .any, .any, .any, .any, .any, .any, .any, .any, .any, .any, .any, .any, .any, .any, .any, .any, .any, .any, .any, .any, .any, .any, .any, .any, .any, .any, .any, .any, .any, .any, .any, .any, .any, .any, .any, .any, .any, .any, .any, .any, .any, .any, .any, .any, .any, .any, .any, .any, .any, .any, .any, .any, .any, .any, .sc (.int .i64 (a4.length : Int)), .sc (.int .i64 a11), .any, .any, .any, .any, .any, .any, .any, .any, .any, .any, .any, .any, .any, .any, .any, .any, .any, .any, .any, .any, .any, .any, .any, .any, .any], [.rows true 113 (.pair (.sl 29 (.pair (.int .i64) (.int .i64))) (.pair (.int .i64) (.int .i64))) a4]⟩
  (blockK 4 (seqK (law_sectorsError.cd N [1, 1, 1, 1, 1, 1]) law_sectorsError.fin))
noncomputable def law_sectorsError.l3 (N : Nat) (a4 : List (List (Int × Int) × Int × Int)) (k10 : Nat) (a11 : Int) (k12 : Nat) (a13 : Int) : Option Int :=
  loopN (norm ((law_sectorsError.E N).keep 29) 0) (law_sectorsError.cd N [1, 1, 1, 1, 1, 0, 1, 0, 0, 1, 1, 0, 0, 1, 1, 0, 0]) k12
  ⟨[.any, .any, .any, .any, .own 0, .any, .any, .any, .any, .any, .sc (.int .i64 a11), .any, .any, .any, .any, .any, .any, .any, .any, .any, .any, .any, .any, .any, .any, .any, .any, .any, .any, .any, .any, .any, .any, .any, .any, .any, .any, .any, .any, .any, .any, .any, .any, .any, .any, .any, .any, .any, .any, .any, .any, .any, .any, .any, .any, .any, .any, .any, .any, .any, .any, .any, .any, .sc (.int .i64 (a4.length : Int)), .sc (.int .i64 a11), .any, .any, .sc (.int .i64 a11), .sc (.int .i64 a13), .any, .any, .any, .any, .any, .any, .any, .any, .any, .any, .any, .any, .any, .any, .any, .any, .any, .any, .any, .any, .any], [.rows true 113 (.pair (.sl 29 (.pair (.int .i64) (.int .i64))) (.pair (.int .i64) (.int .i64))) a4]⟩
  (blockK 6 (blockK 5 (seqK (law_sectorsError.cd N [1, 1, 1, 1, 1, 0, 1, 0, 0, 1, 1, 1]) (loopK (norm ((law_sectorsError.E N).keep 26) 0) (law_sectorsError.cd N [1, 1, 1, 1, 1, 0, 1, 0, 0]) k10 (blockK 4 (seqK (law_sectorsError.cd N [1, 1, 1, 1, 1, 1]) law_sectorsError.fin))))))
theorem law_sectorsError.l3_zero (N : Nat) (a4 : List (List (Int × Int) × Int × Int)) (k10 : Nat) (a11 : Int) (a13 : Int) : law_sectorsError.l3 N a4 k10 a11 0 a13 = none := by kernel_rfl
theorem law_sectorsError.l3_succ (N : Nat) (a4 : List (List (Int × Int) × Int × Int)) (k10 : Nat) (a11 : Int) (k12 : Nat) (a13 : Int) : law_sectorsError.l3 N a4 k10 a11 (k12 + 1) a13 =
    bif decide (a13 < a11) then
      bif (decide (0 ≤ a13)) && (decide (a13 < (a4.length : Int))) then
        bif decide ((Int.toNat a13) < a4.length) then
          bif (decide (0 ≤ a11)) && (decide (a11 < (a4.length : Int))) then
            bif decide ((Int.toNat a11) < a4.length) then
              (volume_Overlap.fn N (List.getD a4 (Int.toNat a13) ([], (0, 0)), List.getD a4 (Int.toNat a11) ([], (0, 0)))).bind fun r14 =>
              bif (!(r14.2 == 0)) || (!(!(r14.2 == 0))) then
                bif (!(r14.2 == 0)) || r14.1 then
                  some 19
                else
                  law_sectorsError.l3 N a4 k10 a11 k12 (w (a13 + 1))
              else
                none
            else
              none
          else
            none
        else
          none
      else
        none
    else
      law_sectorsError.l2 N a4 k10 (w (a11 + 1)) := by kernel_rfl
theorem law_sectorsError.l2_zero (N : Nat) (a4 : List (List (Int × Int) × Int × Int)) (a11 : Int) : law_sectorsError.l2 N a4 0 a11 = none := by kernel_rfl
theorem law_sectorsError.l2_succ (N : Nat) (a4 : List (List (Int × Int) × Int × Int)) (k10 : Nat) (a11 : Int) : law_sectorsError.l2 N a4 (k10 + 1) a11 =
    bif decide (a11 < (a4.length : Int)) then
      law_sectorsError.l3 N a4 k10 a11 N 0
    else
      some 0 := by kernel_rfl
theorem law_sectorsError.l1_zero (N : Nat) (x0 : List (ByteArray × List (List (Int × Int) × Int × Int))) (k1 : Nat) (a2 : Int) (a3 : List ByteArray) (a4 : List (List (Int × Int) × Int × Int)) (a7 : Int) : law_sectorsError.l1 N x0 k1 a2 a3 a4 0 a7 = none := by kernel_rfl
theorem law_sectorsError.l1_succ (N : Nat) (x0 : List (ByteArray × List (List (Int × Int) × Int × Int))) (k1 : Nat) (a2 : Int) (a3 : List ByteArray) (a4 : List (List (Int × Int) × Int × Int)) (k6 : Nat) (a7 : Int) : law_sectorsError.l1 N x0 k1 a2 a3 a4 (k6 + 1) a7 =
    bif decide (a7 < (((List.getD x0 (Int.toNat a2) ((⟨#[]⟩ : ByteArray), [])).2).length : Int)) then
      bif (decide (0 ≤ a7)) && (decide (a7 < (((List.getD x0 (Int.toNat a2) ((⟨#[]⟩ : ByteArray), [])).2).length : Int))) then
        (volume_Check.fn N (List.getD ((List.getD x0 (Int.toNat a2) ((⟨#[]⟩ : ByteArray), [])).2) (Int.toNat a7) ([], (0, 0)))).bind fun r8 =>
        bif !(r8 == 0) then
          some r8
        else
          law_sectorsError.l1 N x0 k1 a2 a3 a4 k6 (w (a7 + 1))
      else
        none
    else
      (ref_Has.fn N (a3, (List.getD x0 (Int.toNat a2) ((⟨#[]⟩ : ByteArray), [])).1)).bind fun r9 =>
      bif r9 then
        some 7
      else
      bif decide ((a3.length + 1) * 16 ≤ 140737488355328) && decide ((a3.length + 1) ≤ maxLen) then
        bif decide ((a4.length + ((List.getD x0 (Int.toNat a2) ((⟨#[]⟩ : ByteArray), [])).2).length) * 40 ≤ 140737488355328) && decide ((a4.length + ((List.getD x0 (Int.toNat a2) ((⟨#[]⟩ : ByteArray), [])).2).length) ≤ maxLen) then
          law_sectorsError.l0 N x0 k1 (w (a2 + 1)) (a3 ++ [(List.getD x0 (Int.toNat a2) ((⟨#[]⟩ : ByteArray), [])).1]) (a4 ++ (List.getD x0 (Int.toNat a2) ((⟨#[]⟩ : ByteArray), [])).2)
        else
          none
      else
        none := by kernel_rfl
theorem law_sectorsError.l0_zero (N : Nat) (x0 : List (ByteArray × List (List (Int × Int) × Int × Int))) (a2 : Int) (a3 : List ByteArray) (a4 : List (List (Int × Int) × Int × Int)) : law_sectorsError.l0 N x0 0 a2 a3 a4 = none := by kernel_rfl
theorem law_sectorsError.l0_succ (N : Nat) (x0 : List (ByteArray × List (List (Int × Int) × Int × Int))) (k1 : Nat) (a2 : Int) (a3 : List ByteArray) (a4 : List (List (Int × Int) × Int × Int)) : law_sectorsError.l0 N x0 (k1 + 1) a2 a3 a4 =
    bif decide (a2 < (x0.length : Int)) then
      bif (decide (0 ≤ a2)) && (decide (a2 < (x0.length : Int))) then
        (ref_IsName.fn N ((List.getD x0 (Int.toNat a2) ((⟨#[]⟩ : ByteArray), [])).1)).bind fun r5 =>
        bif !r5 then
          some 3
        else
        bif (((List.getD x0 (Int.toNat a2) ((⟨#[]⟩ : ByteArray), [])).2).length : Int) == 0 then
          some 8
        else
        bif decide ((((List.getD x0 (Int.toNat a2) ((⟨#[]⟩ : ByteArray), [])).2).length : Int) > 4) then
          some 2
        else
          law_sectorsError.l1 N x0 k1 a2 a3 a4 N 0
      else
        none
    else
      law_sectorsError.l2 N a4 N 0 := by kernel_rfl
theorem taut46 : ∀ p0 : Bool, (((!(p0)) || (!(!(p0))))) = true := by decide
theorem law_sectorsError.l3_clean (N : Nat) (a4 : List (List (Int × Int) × Int × Int)) (k10 : Nat) (a11 : Int) (k12 : Nat) (a13 : Int) : law_sectorsError.l3 N a4 k10 a11 (k12 + 1) a13 =
    bif decide (a13 < a11) then
      bif (decide (0 ≤ a13)) && (decide (a13 < (a4.length : Int))) then
        bif decide ((Int.toNat a13) < a4.length) then
          bif (decide (0 ≤ a11)) && (decide (a11 < (a4.length : Int))) then
            bif decide ((Int.toNat a11) < a4.length) then
              (volume_Overlap.fn N (List.getD a4 (Int.toNat a13) ([], (0, 0)), List.getD a4 (Int.toNat a11) ([], (0, 0)))).bind fun r14 =>
              bif (!(r14.2 == 0)) || r14.1 then
                some 19
              else
                law_sectorsError.l3 N a4 k10 a11 k12 (w (a13 + 1))
            else
              none
          else
            none
        else
          none
      else
        none
    else
      law_sectorsError.l2 N a4 k10 (w (a11 + 1)) := by
  rw [law_sectorsError.l3_succ]; simp only [taut46, cond_true]
theorem law_sectorsError.l2_cons (N : Nat) (a4 : List (List (Int × Int) × Int × Int)) (k10 : Nat) {pre r} {x} (hl : a4 = pre ++ x :: r) (hb : a4.length < 4611686018427387904) : law_sectorsError.l2 N a4 (k10 + 1) (pre.length : Int) =
    law_sectorsError.l3 N a4 k10 (pre.length : Int) N 0 := by
  have hlen : a4.length = pre.length + 1 + r.length := by rw [hl]; simp; omega
  have e1 : decide ((pre.length : Int) < (a4.length : Int)) = true := by rw [decide_eq_true_iff]; omega
  have e2 : decide (0 ≤ (pre.length : Int)) = true := by rw [decide_eq_true_iff]; omega
  have e4 : w ((pre.length : Int) + 1) = (pre.length : Int) + 1 := w_next hl hb
  have e5 : List.take pre.length a4 = pre := by rw [hl]; simp
  have e6 : decide ((pre.length : Int) ≤ (a4.length : Int)) = true := by rw [decide_eq_true_iff]; omega
  rw [law_sectorsError.l2_succ]
  simp -implicitDefEqProofs only [Int.toNat_natCast, e1, e2, e4, e6, e5, Bool.and_true, Bool.true_and, Bool.true_or, cond_true]
theorem law_sectorsError.l2_nil (N : Nat) (a4 : List (List (Int × Int) × Int × Int)) (k10 : Nat) : law_sectorsError.l2 N a4 (k10 + 1) (a4.length : Int) =
    some 0 := by
  have e1 : decide ((a4.length : Int) < (a4.length : Int)) = false := by rw [decide_eq_false_iff_not]; omega
  rw [law_sectorsError.l2_succ]
  simp -implicitDefEqProofs only [e1, cond_false]
theorem law_sectorsError.l1_cons (N : Nat) (x0 : List (ByteArray × List (List (Int × Int) × Int × Int))) (k1 : Nat) (a2 : Int) (a3 : List ByteArray) (a4 : List (List (Int × Int) × Int × Int)) (k6 : Nat) {pre r} {x} (hl : ((List.getD x0 (Int.toNat a2) ((⟨#[]⟩ : ByteArray), [])).2) = pre ++ x :: r) (hb : ((List.getD x0 (Int.toNat a2) ((⟨#[]⟩ : ByteArray), [])).2).length < 4611686018427387904) : law_sectorsError.l1 N x0 k1 a2 a3 a4 (k6 + 1) (pre.length : Int) =
    (volume_Check.fn N x).bind fun r8 =>
    bif !(r8 == 0) then
      some r8
    else
      law_sectorsError.l1 N x0 k1 a2 a3 a4 k6 ((pre.length : Int) + 1) := by
  have hlen : ((List.getD x0 (Int.toNat a2) ((⟨#[]⟩ : ByteArray), [])).2).length = pre.length + 1 + r.length := by rw [hl]; simp; omega
  have e1 : decide ((pre.length : Int) < (((List.getD x0 (Int.toNat a2) ((⟨#[]⟩ : ByteArray), [])).2).length : Int)) = true := by rw [decide_eq_true_iff]; omega
  have e2 : decide (0 ≤ (pre.length : Int)) = true := by rw [decide_eq_true_iff]; omega
  have e4 : w ((pre.length : Int) + 1) = (pre.length : Int) + 1 := w_next hl hb
  have e5 : List.take pre.length ((List.getD x0 (Int.toNat a2) ((⟨#[]⟩ : ByteArray), [])).2) = pre := by rw [hl]; simp
  have e6 : decide ((pre.length : Int) ≤ (((List.getD x0 (Int.toNat a2) ((⟨#[]⟩ : ByteArray), [])).2).length : Int)) = true := by rw [decide_eq_true_iff]; omega
  have g0 : List.getD ((List.getD x0 (Int.toNat a2) ((⟨#[]⟩ : ByteArray), [])).2) pre.length ([], (0, 0)) = x := by rw [hl]; exact getD_mid pre x r _
  rw [law_sectorsError.l1_succ]
  simp -implicitDefEqProofs only [Int.toNat_natCast, e1, e2, e4, e6, g0, e5, Bool.and_true, Bool.true_and, Bool.true_or, cond_true]
theorem law_sectorsError.l1_nil (N : Nat) (x0 : List (ByteArray × List (List (Int × Int) × Int × Int))) (k1 : Nat) (a2 : Int) (a3 : List ByteArray) (a4 : List (List (Int × Int) × Int × Int)) (k6 : Nat) : law_sectorsError.l1 N x0 k1 a2 a3 a4 (k6 + 1) (((List.getD x0 (Int.toNat a2) ((⟨#[]⟩ : ByteArray), [])).2).length : Int) =
    (ref_Has.fn N (a3, (List.getD x0 (Int.toNat a2) ((⟨#[]⟩ : ByteArray), [])).1)).bind fun r9 =>
    bif r9 then
      some 7
    else
    bif decide ((a3.length + 1) * 16 ≤ 140737488355328) && decide ((a3.length + 1) ≤ maxLen) then
      bif decide ((a4.length + ((List.getD x0 (Int.toNat a2) ((⟨#[]⟩ : ByteArray), [])).2).length) * 40 ≤ 140737488355328) && decide ((a4.length + ((List.getD x0 (Int.toNat a2) ((⟨#[]⟩ : ByteArray), [])).2).length) ≤ maxLen) then
        law_sectorsError.l0 N x0 k1 (w (a2 + 1)) (a3 ++ [(List.getD x0 (Int.toNat a2) ((⟨#[]⟩ : ByteArray), [])).1]) (a4 ++ (List.getD x0 (Int.toNat a2) ((⟨#[]⟩ : ByteArray), [])).2)
      else
        none
    else
      none := by
  have e1 : decide ((((List.getD x0 (Int.toNat a2) ((⟨#[]⟩ : ByteArray), [])).2).length : Int) < (((List.getD x0 (Int.toNat a2) ((⟨#[]⟩ : ByteArray), [])).2).length : Int)) = false := by rw [decide_eq_false_iff_not]; omega
  rw [law_sectorsError.l1_succ]
  simp -implicitDefEqProofs only [e1, cond_false]
theorem law_sectorsError.l0_cons (N : Nat) (x0 : List (ByteArray × List (List (Int × Int) × Int × Int))) (k1 : Nat) (a3 : List ByteArray) (a4 : List (List (Int × Int) × Int × Int)) {pre r} {x} (hl : x0 = pre ++ x :: r) (hb : x0.length < 4611686018427387904) : law_sectorsError.l0 N x0 (k1 + 1) (pre.length : Int) a3 a4 =
    (ref_IsName.fn N (x.1)).bind fun r5 =>
    bif !r5 then
      some 3
    else
    bif ((x.2).length : Int) == 0 then
      some 8
    else
    bif decide (((x.2).length : Int) > 4) then
      some 2
    else
      law_sectorsError.l1 N x0 k1 (pre.length : Int) a3 a4 N 0 := by
  have hlen : x0.length = pre.length + 1 + r.length := by rw [hl]; simp; omega
  have e1 : decide ((pre.length : Int) < (x0.length : Int)) = true := by rw [decide_eq_true_iff]; omega
  have e2 : decide (0 ≤ (pre.length : Int)) = true := by rw [decide_eq_true_iff]; omega
  have e4 : w ((pre.length : Int) + 1) = (pre.length : Int) + 1 := w_next hl hb
  have e5 : List.take pre.length x0 = pre := by rw [hl]; simp
  have e6 : decide ((pre.length : Int) ≤ (x0.length : Int)) = true := by rw [decide_eq_true_iff]; omega
  have g0 : List.getD x0 pre.length ((⟨#[]⟩ : ByteArray), []) = x := by rw [hl]; exact getD_mid pre x r _
  rw [law_sectorsError.l0_succ]
  simp -implicitDefEqProofs only [Int.toNat_natCast, e1, e2, e4, e6, g0, e5, Bool.and_true, Bool.true_and, Bool.true_or, cond_true]
theorem law_sectorsError.l0_nil (N : Nat) (x0 : List (ByteArray × List (List (Int × Int) × Int × Int))) (k1 : Nat) (a3 : List ByteArray) (a4 : List (List (Int × Int) × Int × Int)) : law_sectorsError.l0 N x0 (k1 + 1) (x0.length : Int) a3 a4 =
    law_sectorsError.l2 N a4 N 0 := by
  have e1 : decide ((x0.length : Int) < (x0.length : Int)) = false := by rw [decide_eq_false_iff_not]; omega
  rw [law_sectorsError.l0_succ]
  simp -implicitDefEqProofs only [e1, cond_false]
theorem law_sectorsError.eq (N : Nat) (x0 : List (ByteArray × List (List (Int × Int) × Int × Int))) : law_sectorsError.fn N x0 =
    bif decide ((x0.length : Int) > 12) then
      some 2
    else
      law_sectorsError.l0 N x0 N 0 [] [] := by kernel_rfl

/-! ### law_SectorChecks: skyway/skywaylaw3.SectorChecks -/
def law_SectorChecks.kp : List (Nat × List (Nat × Option (TypeId × Ty))) := []
noncomputable def law_SectorChecks.G (N : Nat) : List (Nat × Spec) := [(15, .pure (law_sectorFact.S N)), (16, .pure (sector_Check.S N)), (17, .pure (law_sectorsError.S N)), (18, .pure (sector_Name.S N)), (19, .pure (ref_IsName.S N))]
noncomputable def law_SectorChecks.E (N : Nat) : Env := mkEnv (law_SectorChecks.G N) N tyTab law_SectorChecks.kp
noncomputable def law_SectorChecks.fn (N : Nat) (x : List (ByteArray × List (List (Int × Int) × Int × Int)) × ByteArray) : Option Bool := evFn (law_SectorChecks.E N) Try.prog 3 Try.f3 false [.cell (.sl 106 (.pair (.str) (.sl 113 (.pair (.sl 29 (.pair (.int .i64) (.int .i64))) (.pair (.int .i64) (.int .i64)))))), .cell (.str)] [.val (.cell (.bool))] x
noncomputable def law_SectorChecks.S (N : Nat) : PSpec := ⟨false, [.cell (.sl 106 (.pair (.str) (.sl 113 (.pair (.sl 29 (.pair (.int .i64) (.int .i64))) (.pair (.int .i64) (.int .i64)))))), .cell (.str)], [.val (.cell (.bool))], law_SectorChecks.fn N⟩
theorem f3_enters : Enters Try.prog 3 := ⟨Try.f3, Try.func3, by kernel_rfl, by kernel_rfl⟩
theorem law_SectorChecks.tab (N : Nat) : TabOk Try.prog (law_SectorChecks.G N) := ⟨⟨law_sectorFact.enters, law_sectorFact.sound N⟩, ⟨sector_Check.enters, sector_Check.sound N⟩, ⟨law_sectorsError.enters, law_sectorsError.sound N⟩, ⟨sector_Name.enters, sector_Name.sound N⟩, ⟨ref_IsName.enters, ref_IsName.sound N⟩, trivial⟩
theorem law_SectorChecks.enters : Enters Try.prog 3 := f3_enters
theorem law_SectorChecks.sound (N : Nat) : Sound Try.prog 3 (law_SectorChecks.S N) := evFn_sound (specs_tab (law_SectorChecks.tab N)) (inls_tab (law_SectorChecks.tab N)) mixed 3 Try.func3 _ _ _
theorem law_SectorChecks.eq (N : Nat) (x0 : List (ByteArray × List (List (Int × Int) × Int × Int))) (x1 : ByteArray) : law_SectorChecks.fn N (x0, x1) =
    (law_sectorFact.fn N ()).bind fun r1 =>
    bif !r1 || r1 then
      (bif r1 then sector_Check.fn N x0 else some (0)).bind fun r2 =>
      bif !r1 || r1 then
        (bif r1 then law_sectorsError.fn N x0 else some (0)).bind fun r3 =>
        bif !r1 || r1 then
          bif !r1 || r1 then
            bif (!r1) || r1 then
              bif !(r1 && (r2 == r3)) || (r1 && (r2 == r3)) then
                (bif (r1 && (r2 == r3)) then sector_Name.fn N x1 else some (false)).bind fun r4 =>
                bif !(r1 && (r2 == r3)) || (r1 && (r2 == r3)) then
                  (bif (r1 && (r2 == r3)) then ref_IsName.fn N x1 else some (false)).bind fun r5 =>
                  bif !(r1 && (r2 == r3)) || (r1 && (r2 == r3)) then
                    bif !(r1 && (r2 == r3)) || (r1 && (r2 == r3)) then
                      bif (!(r1 && (r2 == r3))) || (r1 && (r2 == r3)) then
                        some ((r1 && (r2 == r3)) && (r4 == r5))
                      else
                        none
                    else
                      none
                  else
                    none
                else
                  none
              else
                none
            else
              none
          else
            none
        else
          none
      else
        none
    else
      none := by kernel_rfl
theorem taut47 : ∀ p0 p1 : Bool, ((!(p0 && (p1)) || (p0 && (p1)))) = true := by decide
theorem taut48 : ∀ p0 p1 : Bool, (((!(p0 && (p1))) || (p0 && (p1)))) = true := by decide
theorem law_SectorChecks.clean (N : Nat) (x0 : List (ByteArray × List (List (Int × Int) × Int × Int))) (x1 : ByteArray) : law_SectorChecks.fn N (x0, x1) =
    (law_sectorFact.fn N ()).bind fun r1 =>
    (bif r1 then sector_Check.fn N x0 else some (0)).bind fun r2 =>
    (bif r1 then law_sectorsError.fn N x0 else some (0)).bind fun r3 =>
    (bif (r1 && (r2 == r3)) then sector_Name.fn N x1 else some (false)).bind fun r4 =>
    (bif (r1 && (r2 == r3)) then ref_IsName.fn N x1 else some (false)).bind fun r5 =>
    some ((r1 && (r2 == r3)) && (r4 == r5)) := by
  rw [law_SectorChecks.eq]; simp only [taut47, taut36, taut48, taut37, cond_true]

/-! ### law_place: skyway/skywaylaw3.place -/
def law_place.kp : List (Nat × List (Nat × Option (TypeId × Ty))) := [(3, [(0, none), (2, none), (4, none), (7, none), (8, none)]), (6, [(0, none), (2, none), (4, none), (7, none), (8, none), (24, none), (25, none), (26, none)])]
noncomputable def law_place.G (N : Nat) : List (Nat × Spec) := [(67, .pure (volume_Has.S N))]
noncomputable def law_place.E (N : Nat) : Env := mkEnv (law_place.G N) N tyTab law_place.kp
noncomputable def law_place.fn (N : Nat) (x : List (ByteArray × List (List (Int × Int) × Int × Int)) × (Int × Int) × Int) : Option Int := evFn (law_place.E N) Try.prog 3 Try.f22 false [.cell (.sl 106 (.pair (.str) (.sl 113 (.pair (.sl 29 (.pair (.int .i64) (.int .i64))) (.pair (.int .i64) (.int .i64)))))), .agg (.pair (.int .i64) (.int .i64)), .cell (.int .i64)] [.val (.cell (.int .i64))] x
noncomputable def law_place.S (N : Nat) : PSpec := ⟨false, [.cell (.sl 106 (.pair (.str) (.sl 113 (.pair (.sl 29 (.pair (.int .i64) (.int .i64))) (.pair (.int .i64) (.int .i64)))))), .agg (.pair (.int .i64) (.int .i64)), .cell (.int .i64)], [.val (.cell (.int .i64))], law_place.fn N⟩
theorem f22_enters : Enters Try.prog 22 := ⟨Try.f22, Try.func22, by kernel_rfl, by kernel_rfl⟩
theorem law_place.tab (N : Nat) : TabOk Try.prog (law_place.G N) := ⟨⟨volume_Has.enters, volume_Has.sound N⟩, trivial⟩
theorem law_place.enters : Enters Try.prog 22 := f22_enters
theorem law_place.sound (N : Nat) : Sound Try.prog 22 (law_place.S N) := evFn_sound (specs_tab (law_place.tab N)) (inls_tab (law_place.tab N)) mixed 3 Try.func22 _ _ _
noncomputable def law_place.cd (N : Nat) (p : List Nat) : St → (Ex → St → Option Int) → Option Int := ev (law_place.E N) Try.prog (callD (law_place.E N) Try.prog 3) 0 (codeAt (bodyOf Try.f22) p)
noncomputable def law_place.fin : Ex → St → Option Int := endK Try.prog Try.f22 [.val (.cell (.int .i64))]
noncomputable def law_place.l0 (N : Nat) (x0 : List (ByteArray × List (List (Int × Int) × Int × Int))) (x1 : Int × Int) (x2 : Int) (k1 : Nat) (a2 : Int) (a3 : Int) : Option Int :=
  loopN (norm ((law_place.E N).keep 3) 0) (law_place.cd N [1, 1, 0, 1, 0, 0]) k1
  ⟨[.ros false 106 (.pair (.str) (.sl 113 (.pair (.sl 29 (.pair (.int .i64) (.int .i64))) (.pair (.int .i64) (.int .i64))))) x0, .any, .sc (.int .i64 x2), .any, .ptr 0 0, .any, .any, .sc (.int .i64 a2), .sc (.int .i64 a3), .any, .any, .any, .any, .any, .any, .any, .any, .any, .any, .any, .any, .any, .any, .any, .any, .any, .any, .any, .any, .any, .any, .any, .any, .any, .any, .any, .any, .any, .any, .any, .any, .any, .any, .any, .any], [.cells [.sc (.int .i64 x1.1), .sc (.int .i64 x1.2)] 29]⟩
  (blockK 0 (seqK (law_place.cd N [1, 1, 1]) law_place.fin))
noncomputable def law_place.l1 (N : Nat) (x0 : List (ByteArray × List (List (Int × Int) × Int × Int))) (x1 : Int × Int) (x2 : Int) (k1 : Nat) (a3 : Int) (k4 : Nat) (a5 : Int) (a6 : Int) : Option Int :=
  loopN (norm ((law_place.E N).keep 6) 0) (law_place.cd N [1, 1, 0, 1, 0, 0, 1, 0, 0, 1, 0, 0]) k4
  ⟨[.ros false 106 (.pair (.str) (.sl 113 (.pair (.sl 29 (.pair (.int .i64) (.int .i64))) (.pair (.int .i64) (.int .i64))))) x0, .any, .sc (.int .i64 x2), .any, .ptr 0 0, .any, .any, .sc (.int .i64 a5), .sc (.int .i64 a3), .any, .any, .any, .any, .any, .any, .any, .any, .any, .any, .any, .any, .any, .any, .any, .ros false 113 (.pair (.sl 29 (.pair (.int .i64) (.int .i64))) (.pair (.int .i64) (.int .i64))) ((List.getD x0 (Int.toNat a3) ((⟨#[]⟩ : ByteArray), [])).2), .sc (.int .i64 (((List.getD x0 (Int.toNat a3) ((⟨#[]⟩ : ByteArray), [])).2).length : Int)), .sc (.int .i64 a6), .any, .any, .any, .any, .any, .any, .any, .any, .any, .any, .any, .any, .any, .any, .any, .any, .any, .any], [.cells [.sc (.int .i64 x1.1), .sc (.int .i64 x1.2)] 29]⟩
  (blockK 2 (blockK 1 (seqK (law_place.cd N [1, 1, 0, 1, 0, 0, 1, 1]) (loopK (norm ((law_place.E N).keep 3) 0) (law_place.cd N [1, 1, 0, 1, 0, 0]) k1 (blockK 0 (seqK (law_place.cd N [1, 1, 1]) law_place.fin))))))
theorem law_place.l1_zero (N : Nat) (x0 : List (ByteArray × List (List (Int × Int) × Int × Int))) (x1 : Int × Int) (x2 : Int) (k1 : Nat) (a3 : Int) (a5 : Int) (a6 : Int) : law_place.l1 N x0 x1 x2 k1 a3 0 a5 a6 = none := by kernel_rfl
theorem law_place.l1_succ (N : Nat) (x0 : List (ByteArray × List (List (Int × Int) × Int × Int))) (x1 : Int × Int) (x2 : Int) (k1 : Nat) (a3 : Int) (k4 : Nat) (a5 : Int) (a6 : Int) : law_place.l1 N x0 x1 x2 k1 a3 (k4 + 1) a5 a6 =
    bif decide (a6 < (((List.getD x0 (Int.toNat a3) ((⟨#[]⟩ : ByteArray), [])).2).length : Int)) then
      bif (decide (0 ≤ a6)) && (decide (a6 < (((List.getD x0 (Int.toNat a3) ((⟨#[]⟩ : ByteArray), [])).2).length : Int))) then
        (volume_Has.fn N (List.getD ((List.getD x0 (Int.toNat a3) ((⟨#[]⟩ : ByteArray), [])).2) (Int.toNat a6) ([], (0, 0)), x1, x2)).bind fun r7 =>
        bif (!(r7.2 == 0)) || (r7.2 == 0) then
          bif (r7.2 == 0) && r7.1 then
            law_place.l1 N x0 x1 x2 k1 a3 k4 a3 (w (a6 + 1))
          else
            law_place.l1 N x0 x1 x2 k1 a3 k4 a5 (w (a6 + 1))
        else
          none
      else
        none
    else
      law_place.l0 N x0 x1 x2 k1 a5 (w (a3 - 1)) := by kernel_rfl
theorem law_place.l0_zero (N : Nat) (x0 : List (ByteArray × List (List (Int × Int) × Int × Int))) (x1 : Int × Int) (x2 : Int) (a2 : Int) (a3 : Int) : law_place.l0 N x0 x1 x2 0 a2 a3 = none := by kernel_rfl
theorem law_place.l0_succ (N : Nat) (x0 : List (ByteArray × List (List (Int × Int) × Int × Int))) (x1 : Int × Int) (x2 : Int) (k1 : Nat) (a2 : Int) (a3 : Int) : law_place.l0 N x0 x1 x2 (k1 + 1) a2 a3 =
    bif decide (a3 ≥ 0) then
      bif (decide (0 ≤ a3)) && (decide (a3 < (x0.length : Int))) then
        law_place.l1 N x0 x1 x2 k1 a3 N a2 0
      else
        none
    else
      some a2 := by kernel_rfl
theorem law_place.l1_clean (N : Nat) (x0 : List (ByteArray × List (List (Int × Int) × Int × Int))) (x1 : Int × Int) (x2 : Int) (k1 : Nat) (a3 : Int) (k4 : Nat) (a5 : Int) (a6 : Int) : law_place.l1 N x0 x1 x2 k1 a3 (k4 + 1) a5 a6 =
    bif decide (a6 < (((List.getD x0 (Int.toNat a3) ((⟨#[]⟩ : ByteArray), [])).2).length : Int)) then
      bif (decide (0 ≤ a6)) && (decide (a6 < (((List.getD x0 (Int.toNat a3) ((⟨#[]⟩ : ByteArray), [])).2).length : Int))) then
        (volume_Has.fn N (List.getD ((List.getD x0 (Int.toNat a3) ((⟨#[]⟩ : ByteArray), [])).2) (Int.toNat a6) ([], (0, 0)), x1, x2)).bind fun r7 =>
        bif (r7.2 == 0) && r7.1 then
          law_place.l1 N x0 x1 x2 k1 a3 k4 a3 (w (a6 + 1))
        else
          law_place.l1 N x0 x1 x2 k1 a3 k4 a5 (w (a6 + 1))
      else
        none
    else
      law_place.l0 N x0 x1 x2 k1 a5 (w (a3 - 1)) := by
  rw [law_place.l1_succ]; simp only [taut21, cond_true]
theorem law_place.l1_cons (N : Nat) (x0 : List (ByteArray × List (List (Int × Int) × Int × Int))) (x1 : Int × Int) (x2 : Int) (k1 : Nat) (a3 : Int) (k4 : Nat) (a5 : Int) {pre r} {x} (hl : ((List.getD x0 (Int.toNat a3) ((⟨#[]⟩ : ByteArray), [])).2) = pre ++ x :: r) (hb : ((List.getD x0 (Int.toNat a3) ((⟨#[]⟩ : ByteArray), [])).2).length < 4611686018427387904) : law_place.l1 N x0 x1 x2 k1 a3 (k4 + 1) a5 (pre.length : Int) =
    (volume_Has.fn N (x, x1, x2)).bind fun r7 =>
    bif (r7.2 == 0) && r7.1 then
      law_place.l1 N x0 x1 x2 k1 a3 k4 a3 ((pre.length : Int) + 1)
    else
      law_place.l1 N x0 x1 x2 k1 a3 k4 a5 ((pre.length : Int) + 1) := by
  have hlen : ((List.getD x0 (Int.toNat a3) ((⟨#[]⟩ : ByteArray), [])).2).length = pre.length + 1 + r.length := by rw [hl]; simp; omega
  have e1 : decide ((pre.length : Int) < (((List.getD x0 (Int.toNat a3) ((⟨#[]⟩ : ByteArray), [])).2).length : Int)) = true := by rw [decide_eq_true_iff]; omega
  have e2 : decide (0 ≤ (pre.length : Int)) = true := by rw [decide_eq_true_iff]; omega
  have e4 : w ((pre.length : Int) + 1) = (pre.length : Int) + 1 := w_next hl hb
  have e5 : List.take pre.length ((List.getD x0 (Int.toNat a3) ((⟨#[]⟩ : ByteArray), [])).2) = pre := by rw [hl]; simp
  have e6 : decide ((pre.length : Int) ≤ (((List.getD x0 (Int.toNat a3) ((⟨#[]⟩ : ByteArray), [])).2).length : Int)) = true := by rw [decide_eq_true_iff]; omega
  have g0 : List.getD ((List.getD x0 (Int.toNat a3) ((⟨#[]⟩ : ByteArray), [])).2) pre.length ([], (0, 0)) = x := by rw [hl]; exact getD_mid pre x r _
  rw [law_place.l1_clean]
  simp -implicitDefEqProofs only [Int.toNat_natCast, e1, e2, e4, e6, g0, e5, Bool.and_true, Bool.true_and, Bool.true_or, cond_true]
theorem law_place.l1_nil (N : Nat) (x0 : List (ByteArray × List (List (Int × Int) × Int × Int))) (x1 : Int × Int) (x2 : Int) (k1 : Nat) (a3 : Int) (k4 : Nat) (a5 : Int) : law_place.l1 N x0 x1 x2 k1 a3 (k4 + 1) a5 (((List.getD x0 (Int.toNat a3) ((⟨#[]⟩ : ByteArray), [])).2).length : Int) =
    law_place.l0 N x0 x1 x2 k1 a5 (w (a3 - 1)) := by
  have e1 : decide ((((List.getD x0 (Int.toNat a3) ((⟨#[]⟩ : ByteArray), [])).2).length : Int) < (((List.getD x0 (Int.toNat a3) ((⟨#[]⟩ : ByteArray), [])).2).length : Int)) = false := by rw [decide_eq_false_iff_not]; omega
  rw [law_place.l1_clean]
  simp -implicitDefEqProofs only [e1, cond_false]
theorem law_place.eq (N : Nat) (x0 : List (ByteArray × List (List (Int × Int) × Int × Int))) (x1 : Int × Int) (x2 : Int) : law_place.fn N (x0, x1, x2) =
    law_place.l0 N x0 x1 x2 N (-1) (w ((x0.length : Int) - 1)) := by kernel_rfl

/-! ### law_SectorFinds: skyway/skywaylaw3.SectorFinds -/
def law_SectorFinds.kp : List (Nat × List (Nat × Option (TypeId × Ty))) := [(1000007, [(0, none), (2, none), (4, none), (7, none), (8, none), (9, none)]), (1000009, [(0, none), (2, none), (4, none), (7, none), (8, none), (9, none)])]
noncomputable def law_SectorFinds.G (N : Nat) : List (Nat × Spec) := [(15, .pure (law_sectorFact.S N)), (17, .pure (law_sectorsError.S N)), (20, .pure (sector_Find.S N)), (21, .pure (plane_Check.S N)), (22, .pure (law_place.S N))]
noncomputable def law_SectorFinds.E (N : Nat) : Env := mkEnv (law_SectorFinds.G N) N tyTab law_SectorFinds.kp
noncomputable def law_SectorFinds.fn (N : Nat) (x : List (ByteArray × List (List (Int × Int) × Int × Int)) × (Int × Int) × Int) : Option Bool := evFn (law_SectorFinds.E N) Try.prog 3 Try.f4 false [.cell (.sl 106 (.pair (.str) (.sl 113 (.pair (.sl 29 (.pair (.int .i64) (.int .i64))) (.pair (.int .i64) (.int .i64)))))), .agg (.pair (.int .i64) (.int .i64)), .cell (.int .i64)] [.val (.cell (.bool))] x
noncomputable def law_SectorFinds.S (N : Nat) : PSpec := ⟨false, [.cell (.sl 106 (.pair (.str) (.sl 113 (.pair (.sl 29 (.pair (.int .i64) (.int .i64))) (.pair (.int .i64) (.int .i64)))))), .agg (.pair (.int .i64) (.int .i64)), .cell (.int .i64)], [.val (.cell (.bool))], law_SectorFinds.fn N⟩
theorem f4_enters : Enters Try.prog 4 := ⟨Try.f4, Try.func4, by kernel_rfl, by kernel_rfl⟩
theorem law_SectorFinds.tab (N : Nat) : TabOk Try.prog (law_SectorFinds.G N) := ⟨⟨law_sectorFact.enters, law_sectorFact.sound N⟩, ⟨law_sectorsError.enters, law_sectorsError.sound N⟩, ⟨sector_Find.enters, sector_Find.sound N⟩, ⟨plane_Check.enters, plane_Check.sound N⟩, ⟨law_place.enters, law_place.sound N⟩, trivial⟩
theorem law_SectorFinds.enters : Enters Try.prog 4 := f4_enters
theorem law_SectorFinds.sound (N : Nat) : Sound Try.prog 4 (law_SectorFinds.S N) := evFn_sound (specs_tab (law_SectorFinds.tab N)) (inls_tab (law_SectorFinds.tab N)) mixed 3 Try.func4 _ _ _
noncomputable def law_SectorFinds.cd (N : Nat) (p : List Nat) : St → (Ex → St → Option Bool) → Option Bool := ev (law_SectorFinds.E N) Try.prog (callD (law_SectorFinds.E N) Try.prog 3) 0 (codeAt (bodyOf Try.f4) p)
noncomputable def law_SectorFinds.fin : Ex → St → Option Bool := endK Try.prog Try.f4 [.val (.cell (.bool))]
noncomputable def law_SectorFinds.j0 (N : Nat) (x0 : List (ByteArray × List (List (Int × Int) × Int × Int))) (x1 : Int × Int) (x2 : Int) (r2 : Int × Int) (a4 : Int) : Option Bool :=
  fuelK N (region (law_SectorFinds.E N) Try.prog (callD (law_SectorFinds.E N) Try.prog 3) (opsAt (codeAt (bodyOf Try.f4) [1, 1, 1, 1, 1, 0, 0])) false
  ⟨[.ros false 106 (.pair (.str) (.sl 113 (.pair (.sl 29 (.pair (.int .i64) (.int .i64))) (.pair (.int .i64) (.int .i64))))) x0, .any, .sc (.int .i64 x2), .any, .ptr 0 0, .any, .any, .sc (.int .i64 r2.1), .sc (.int .i64 r2.2), .sc (.int .i64 a4), .any, .any, .any, .any, .any, .any, .any, .any, .any, .any, .any, .any, .any, .any, .any, .any, .any, .any, .any, .any, .any, .any, .any, .any, .any, .any, .any, .any, .any, .any, .any, .any, .any, .any, .any, .any, .any, .any, .any, .any, .any, .any], [.cells [.sc (.int .i64 x1.1), .sc (.int .i64 x1.2)] 29]⟩
  (fun S => (seqK (law_SectorFinds.cd N [1, 1, 1, 1, 1, 0, 1]) (seqK (law_SectorFinds.cd N [1, 1, 1, 1, 1, 1]) law_SectorFinds.fin)) .normal S))
noncomputable def law_SectorFinds.j1 (N : Nat) (x0 : List (ByteArray × List (List (Int × Int) × Int × Int))) (x1 : Int × Int) (x2 : Int) (r2 : Int × Int) (a5 : Int) : Option Bool :=
  fuelK N (region (law_SectorFinds.E N) Try.prog (callD (law_SectorFinds.E N) Try.prog 3) (opsAt (codeAt (bodyOf Try.f4) [1, 1, 1, 1, 1, 1, 0])) false
  ⟨[.ros false 106 (.pair (.str) (.sl 113 (.pair (.sl 29 (.pair (.int .i64) (.int .i64))) (.pair (.int .i64) (.int .i64))))) x0, .any, .sc (.int .i64 x2), .any, .ptr 0 0, .any, .any, .sc (.int .i64 r2.1), .sc (.int .i64 r2.2), .sc (.int .i64 a5), .any, .any, .any, .any, .any, .any, .any, .any, .any, .any, .any, .any, .any, .any, .any, .any, .any, .any, .any, .any, .any, .any, .any, .any, .any, .any, .any, .any, .any, .any, .any, .any, .any, .any, .any, .any, .any, .any, .any, .any, .any, .any], [.cells [.sc (.int .i64 x1.1), .sc (.int .i64 x1.2)] 29]⟩
  (fun S => (seqK (law_SectorFinds.cd N [1, 1, 1, 1, 1, 1, 1]) law_SectorFinds.fin) .normal S))
theorem law_SectorFinds.j1_eq (N : Nat) (x0 : List (ByteArray × List (List (Int × Int) × Int × Int))) (x1 : Int × Int) (x2 : Int) (r2 : Int × Int) (a5 : Int) {M : Nat} (hM : N = M + 1) : law_SectorFinds.j1 N x0 x1 x2 r2 a5 =
    bif a5 == 0 then
      (law_place.fn N (x0, x1, x2)).bind fun r6 =>
      bif decide (r6 < 0) then
        bif !(r2.2 == 8) || (r2.2 == 8) then
          bif !(r2.2 == 8) || (r2.2 == 8) then
            bif (!(r2.2 == 8)) || (r2.2 == 8) then
              some ((r2.2 == 8) && (r2.1 == 0))
            else
              none
          else
            none
        else
          none
      else
      bif !(r2.2 == a5) || (r2.2 == a5) then
        bif !(r2.2 == a5) || (r2.2 == a5) then
          bif (!(r2.2 == a5)) || (r2.2 == a5) then
            some ((r2.2 == a5) && (r2.1 == r6))
          else
            none
        else
          none
      else
        none
    else
    bif !(r2.2 == a5) || (r2.2 == a5) then
      bif !(r2.2 == a5) || (r2.2 == a5) then
        bif (!(r2.2 == a5)) || (r2.2 == a5) then
          some ((r2.2 == a5) && (r2.1 == 0))
        else
          none
      else
        none
    else
      none := (fuelK_eq hM _).trans (by kernel_rfl)
theorem law_SectorFinds.j0_eq (N : Nat) (x0 : List (ByteArray × List (List (Int × Int) × Int × Int))) (x1 : Int × Int) (x2 : Int) (r2 : Int × Int) (a4 : Int) {M : Nat} (hM : N = M + 1) : law_SectorFinds.j0 N x0 x1 x2 r2 a4 =
    bif !(a4 == 0) || (a4 == 0) then
      bif !(a4 == 0) || (a4 == 0) then
        bif !((a4 == 0) && (!(decide (x2 < 0)))) || ((a4 == 0) && (!(decide (x2 < 0)))) then
          bif !(a4 == 0) || (a4 == 0) then
            bif !(a4 == 0) || ((decide (x2 < 0)) || ((a4 == 0) && (!(decide (x2 < 0))))) then
              bif (!(a4 == 0)) || (a4 == 0) then
                bif (a4 == 0) && ((decide (x2 < 0)) || (decide (x2 > 60000))) then
                  law_SectorFinds.j1 N x0 x1 x2 r2 4
                else
                  law_SectorFinds.j1 N x0 x1 x2 r2 a4
              else
                none
            else
              none
          else
            none
        else
          none
      else
        none
    else
      none := (fuelK_eq hM _).trans (by kernel_rfl)
theorem law_SectorFinds.j1_clean (N : Nat) (x0 : List (ByteArray × List (List (Int × Int) × Int × Int))) (x1 : Int × Int) (x2 : Int) (r2 : Int × Int) (a5 : Int) {M : Nat} (hM : N = M + 1) : law_SectorFinds.j1 N x0 x1 x2 r2 a5 =
    bif a5 == 0 then
      (law_place.fn N (x0, x1, x2)).bind fun r6 =>
      bif decide (r6 < 0) then
        some ((r2.2 == 8) && (r2.1 == 0))
      else
      some ((r2.2 == a5) && (r2.1 == r6))
    else
    some ((r2.2 == a5) && (r2.1 == 0)) := by
  rw [law_SectorFinds.j1_eq (hM := hM)]; simp only [taut20, taut21, cond_true]
theorem taut49 : ∀ p0 p1 : Bool, ((!((p0) && (!(p1))) || ((p0) && (!(p1))))) = true := by decide
theorem taut50 : ∀ p0 p1 : Bool, ((!(p0) || ((p1) || ((p0) && (!(p1)))))) = true := by decide
theorem law_SectorFinds.j0_clean (N : Nat) (x0 : List (ByteArray × List (List (Int × Int) × Int × Int))) (x1 : Int × Int) (x2 : Int) (r2 : Int × Int) (a4 : Int) {M : Nat} (hM : N = M + 1) : law_SectorFinds.j0 N x0 x1 x2 r2 a4 =
    bif (a4 == 0) && ((decide (x2 < 0)) || (decide (x2 > 60000))) then
      law_SectorFinds.j1 N x0 x1 x2 r2 4
    else
      law_SectorFinds.j1 N x0 x1 x2 r2 a4 := by
  rw [law_SectorFinds.j0_eq (hM := hM)]; simp only [taut49, taut50, taut20, taut21, cond_true]
theorem law_SectorFinds.eq (N : Nat) (x0 : List (ByteArray × List (List (Int × Int) × Int × Int))) (x1 : Int × Int) (x2 : Int) : law_SectorFinds.fn N (x0, x1, x2) =
    (law_sectorFact.fn N ()).bind fun r1 =>
    bif !r1 then
      some false
    else
      (sector_Find.fn N (x0, x1, x2)).bind fun r2 =>
      (law_sectorsError.fn N x0).bind fun r3 =>
      bif r3 == 0 then
        (plane_Check.fn N x1).bind fun r7 =>
        law_SectorFinds.j0 N x0 x1 x2 r2 r7
      else
        law_SectorFinds.j0 N x0 x1 x2 r2 r3 := by kernel_rfl

/-! ### law_SectorBoxes: skyway/skywaylaw3.SectorBoxes -/
def law_SectorBoxes.kp : List (Nat × List (Nat × Option (TypeId × Ty))) := [(1000006, [(1, none), (3, none)])]
noncomputable def law_SectorBoxes.G (N : Nat) : List (Nat × Spec) := [(15, .pure (law_sectorFact.S N)), (21, .pure (plane_Check.S N)), (23, .pure (sector_Box.S N))]
noncomputable def law_SectorBoxes.E (N : Nat) : Env := mkEnv (law_SectorBoxes.G N) N tyTab law_SectorBoxes.kp
noncomputable def law_SectorBoxes.fn (N : Nat) (x : (Int × Int) × (Int × Int) × Int × Int) : Option Bool := evFn (law_SectorBoxes.E N) Try.prog 3 Try.f5 false [.agg (.pair (.pair (.int .i64) (.int .i64)) (.pair (.pair (.int .i64) (.int .i64)) (.pair (.int .i64) (.int .i64))))] [.val (.cell (.bool))] x
noncomputable def law_SectorBoxes.S (N : Nat) : PSpec := ⟨false, [.agg (.pair (.pair (.int .i64) (.int .i64)) (.pair (.pair (.int .i64) (.int .i64)) (.pair (.int .i64) (.int .i64))))], [.val (.cell (.bool))], law_SectorBoxes.fn N⟩
theorem f5_enters : Enters Try.prog 5 := ⟨Try.f5, Try.func5, by kernel_rfl, by kernel_rfl⟩
theorem law_SectorBoxes.tab (N : Nat) : TabOk Try.prog (law_SectorBoxes.G N) := ⟨⟨law_sectorFact.enters, law_sectorFact.sound N⟩, ⟨plane_Check.enters, plane_Check.sound N⟩, ⟨sector_Box.enters, sector_Box.sound N⟩, trivial⟩
theorem law_SectorBoxes.enters : Enters Try.prog 5 := f5_enters
theorem law_SectorBoxes.sound (N : Nat) : Sound Try.prog 5 (law_SectorBoxes.S N) := evFn_sound (specs_tab (law_SectorBoxes.tab N)) (inls_tab (law_SectorBoxes.tab N)) mixed 3 Try.func5 _ _ _
noncomputable def law_SectorBoxes.cd (N : Nat) (p : List Nat) : St → (Ex → St → Option Bool) → Option Bool := ev (law_SectorBoxes.E N) Try.prog (callD (law_SectorBoxes.E N) Try.prog 3) 0 (codeAt (bodyOf Try.f5) p)
noncomputable def law_SectorBoxes.fin : Ex → St → Option Bool := endK Try.prog Try.f5 [.val (.cell (.bool))]
noncomputable def law_SectorBoxes.j0 (N : Nat) (x0 : (Int × Int) × (Int × Int) × Int × Int) (a3 : Int) : Option Bool :=
  fuelK N (region (law_SectorBoxes.E N) Try.prog (callD (law_SectorBoxes.E N) Try.prog 3) (opsAt (codeAt (bodyOf Try.f5) [1, 1, 1, 1, 0, 0])) false
  ⟨[.any, .ptr 0 0, .any, .sc (.int .i64 a3), .any, .any, .any, .any, .any, .any, .any, .any, .any, .any, .any, .any, .any, .any, .any, .any, .any, .any, .any, .any, .any, .any, .any, .any, .any, .any, .any, .any, .any, .any, .any, .any, .any, .any, .any, .any, .any, .any, .any, .any, .any, .any, .any, .any, .any, .any, .any, .any, .any, .any, .any, .any], [.cells [.sc (.int .i64 x0.1.1), .sc (.int .i64 x0.1.2), .sc (.int .i64 x0.2.1.1), .sc (.int .i64 x0.2.1.2), .sc (.int .i64 x0.2.2.1), .sc (.int .i64 x0.2.2.2)] 36]⟩
  (fun S => (seqK (law_SectorBoxes.cd N [1, 1, 1, 1, 0, 1]) (seqK (law_SectorBoxes.cd N [1, 1, 1, 1, 1]) law_SectorBoxes.fin)) .normal S))
theorem law_SectorBoxes.j0_eq (N : Nat) (x0 : (Int × Int) × (Int × Int) × Int × Int) (a3 : Int) {M : Nat} (hM : N = M + 1) : law_SectorBoxes.j0 N x0 a3 =
    bif !(a3 == 0) || (a3 == 0) then
      bif !(a3 == 0) || (a3 == 0) then
        bif !(a3 == 0) || (a3 == 0) then
          bif !(a3 == 0) || (a3 == 0) then
            bif !(a3 == 0) || (a3 == 0) then
              bif !(a3 == 0) || (a3 == 0) then
                bif !(a3 == 0) || (a3 == 0) then
                  bif !((a3 == 0) && (decide (x0.1.1 < x0.2.1.1))) || ((a3 == 0) && (decide (x0.1.1 < x0.2.1.1))) then
                    bif !((a3 == 0) && (decide (x0.1.1 < x0.2.1.1))) || ((a3 == 0) && (decide (x0.1.1 < x0.2.1.1))) then
                      bif !((a3 == 0) && (decide (x0.1.1 < x0.2.1.1))) || ((a3 == 0) && (decide (x0.1.1 < x0.2.1.1))) then
                        bif !((a3 == 0) && (decide (x0.1.1 < x0.2.1.1))) || ((a3 == 0) && (decide (x0.1.1 < x0.2.1.1))) then
                          bif !((a3 == 0) && (decide (x0.1.1 < x0.2.1.1))) || ((a3 == 0) && (decide (x0.1.1 < x0.2.1.1))) then
                            bif !((a3 == 0) && (decide (x0.1.1 < x0.2.1.1))) || ((a3 == 0) && (decide (x0.1.1 < x0.2.1.1))) then
                              bif !(a3 == 0) || (a3 == 0) then
                                bif !(a3 == 0) || ((!(decide (x0.1.1 < x0.2.1.1))) || ((a3 == 0) && (decide (x0.1.1 < x0.2.1.1)))) then
                                  bif !(a3 == 0) || (a3 == 0) then
                                    bif !((a3 == 0) && ((decide (x0.1.1 < x0.2.1.1)) && (decide (x0.1.2 < x0.2.1.2)))) || ((a3 == 0) && ((decide (x0.1.1 < x0.2.1.1)) && (decide (x0.1.2 < x0.2.1.2)))) then
                                      bif !((a3 == 0) && ((decide (x0.1.1 < x0.2.1.1)) && (decide (x0.1.2 < x0.2.1.2)))) || ((a3 == 0) && ((decide (x0.1.1 < x0.2.1.1)) && (decide (x0.1.2 < x0.2.1.2)))) then
                                        bif !(a3 == 0) || (a3 == 0) then
                                          bif !(a3 == 0) || ((!((decide (x0.1.1 < x0.2.1.1)) && (decide (x0.1.2 < x0.2.1.2)))) || ((a3 == 0) && ((decide (x0.1.1 < x0.2.1.1)) && (decide (x0.1.2 < x0.2.1.2))))) then
                                            bif !(a3 == 0) || (a3 == 0) then
                                              bif !((a3 == 0) && (((decide (x0.1.1 < x0.2.1.1)) && (decide (x0.1.2 < x0.2.1.2))) && (decide (x0.2.2.1 ≥ 0)))) || ((a3 == 0) && (((decide (x0.1.1 < x0.2.1.1)) && (decide (x0.1.2 < x0.2.1.2))) && (decide (x0.2.2.1 ≥ 0)))) then
                                                bif !((a3 == 0) && (((decide (x0.1.1 < x0.2.1.1)) && (decide (x0.1.2 < x0.2.1.2))) && (decide (x0.2.2.1 ≥ 0)))) || ((a3 == 0) && (((decide (x0.1.1 < x0.2.1.1)) && (decide (x0.1.2 < x0.2.1.2))) && (decide (x0.2.2.1 ≥ 0)))) then
                                                  bif !((a3 == 0) && (((decide (x0.1.1 < x0.2.1.1)) && (decide (x0.1.2 < x0.2.1.2))) && (decide (x0.2.2.1 ≥ 0)))) || ((a3 == 0) && (((decide (x0.1.1 < x0.2.1.1)) && (decide (x0.1.2 < x0.2.1.2))) && (decide (x0.2.2.1 ≥ 0)))) then
                                                    bif !((a3 == 0) && (((decide (x0.1.1 < x0.2.1.1)) && (decide (x0.1.2 < x0.2.1.2))) && (decide (x0.2.2.1 ≥ 0)))) || ((a3 == 0) && (((decide (x0.1.1 < x0.2.1.1)) && (decide (x0.1.2 < x0.2.1.2))) && (decide (x0.2.2.1 ≥ 0)))) then
                                                      bif !(a3 == 0) || (a3 == 0) then
                                                        bif !(a3 == 0) || ((!(((decide (x0.1.1 < x0.2.1.1)) && (decide (x0.1.2 < x0.2.1.2))) && (decide (x0.2.2.1 ≥ 0)))) || ((a3 == 0) && (((decide (x0.1.1 < x0.2.1.1)) && (decide (x0.1.2 < x0.2.1.2))) && (decide (x0.2.2.1 ≥ 0))))) then
                                                          bif !(a3 == 0) || (a3 == 0) then
                                                            bif !((a3 == 0) && ((((decide (x0.1.1 < x0.2.1.1)) && (decide (x0.1.2 < x0.2.1.2))) && (decide (x0.2.2.1 ≥ 0))) && (decide (x0.2.2.1 < x0.2.2.2)))) || ((a3 == 0) && ((((decide (x0.1.1 < x0.2.1.1)) && (decide (x0.1.2 < x0.2.1.2))) && (decide (x0.2.2.1 ≥ 0))) && (decide (x0.2.2.1 < x0.2.2.2)))) then
                                                              bif !((a3 == 0) && ((((decide (x0.1.1 < x0.2.1.1)) && (decide (x0.1.2 < x0.2.1.2))) && (decide (x0.2.2.1 ≥ 0))) && (decide (x0.2.2.1 < x0.2.2.2)))) || ((a3 == 0) && ((((decide (x0.1.1 < x0.2.1.1)) && (decide (x0.1.2 < x0.2.1.2))) && (decide (x0.2.2.1 ≥ 0))) && (decide (x0.2.2.1 < x0.2.2.2)))) then
                                                                bif !(a3 == 0) || (a3 == 0) then
                                                                  bif !(a3 == 0) || ((!((((decide (x0.1.1 < x0.2.1.1)) && (decide (x0.1.2 < x0.2.1.2))) && (decide (x0.2.2.1 ≥ 0))) && (decide (x0.2.2.1 < x0.2.2.2)))) || ((a3 == 0) && ((((decide (x0.1.1 < x0.2.1.1)) && (decide (x0.1.2 < x0.2.1.2))) && (decide (x0.2.2.1 ≥ 0))) && (decide (x0.2.2.1 < x0.2.2.2))))) then
                                                                    bif !(a3 == 0) || (a3 == 0) then
                                                                      bif (!(a3 == 0)) || (a3 == 0) then
                                                                        bif (a3 == 0) && (!(((((decide (x0.1.1 < x0.2.1.1)) && (decide (x0.1.2 < x0.2.1.2))) && (decide (x0.2.2.1 ≥ 0))) && (decide (x0.2.2.1 < x0.2.2.2))) && (decide (x0.2.2.2 ≤ 60001)))) then
                                                                          (sector_Box.fn N x0).bind fun r4 =>
                                                                          some (r4 == 4)
                                                                        else
                                                                          (sector_Box.fn N x0).bind fun r5 =>
                                                                          some (r5 == a3)
                                                                      else
                                                                        none
                                                                    else
                                                                      none
                                                                  else
                                                                    none
                                                                else
                                                                  none
                                                              else
                                                                none
                                                            else
                                                              none
                                                          else
                                                            none
                                                        else
                                                          none
                                                      else
                                                        none
                                                    else
                                                      none
                                                  else
                                                    none
                                                else
                                                  none
                                              else
                                                none
                                            else
                                              none
                                          else
                                            none
                                        else
                                          none
                                      else
                                        none
                                    else
                                      none
                                  else
                                    none
                                else
                                  none
                              else
                                none
                            else
                              none
                          else
                            none
                        else
                          none
                      else
                        none
                    else
                      none
                  else
                    none
                else
                  none
              else
                none
            else
              none
          else
            none
        else
          none
      else
        none
    else
      none := (fuelK_eq hM _).trans (by kernel_rfl)
theorem taut51 : ∀ p0 p1 p2 p3 p4 : Bool, ((!((p0) && ((((p1) && (p2)) && (p3)) && (p4))) || ((p0) && ((((p1) && (p2)) && (p3)) && (p4))))) = true := by decide
theorem taut52 : ∀ p0 p1 p2 p3 : Bool, ((!((p0) && (((p1) && (p2)) && (p3))) || ((p0) && (((p1) && (p2)) && (p3))))) = true := by decide
theorem taut53 : ∀ p0 p1 p2 : Bool, ((!((p0) && ((p1) && (p2))) || ((p0) && ((p1) && (p2))))) = true := by decide
theorem taut54 : ∀ p0 p1 p2 p3 p4 : Bool, ((!(p0) || ((!((((p1) && (p2)) && (p3)) && (p4))) || ((p0) && ((((p1) && (p2)) && (p3)) && (p4)))))) = true := by decide
theorem taut55 : ∀ p0 p1 p2 p3 : Bool, ((!(p0) || ((!(((p1) && (p2)) && (p3))) || ((p0) && (((p1) && (p2)) && (p3)))))) = true := by decide
theorem taut56 : ∀ p0 p1 p2 : Bool, ((!(p0) || ((!((p1) && (p2))) || ((p0) && ((p1) && (p2)))))) = true := by decide
theorem taut57 : ∀ p0 p1 : Bool, ((!(p0) || ((!(p1)) || ((p0) && (p1))))) = true := by decide
theorem law_SectorBoxes.j0_clean (N : Nat) (x0 : (Int × Int) × (Int × Int) × Int × Int) (a3 : Int) {M : Nat} (hM : N = M + 1) : law_SectorBoxes.j0 N x0 a3 =
    bif (a3 == 0) && (!(((((decide (x0.1.1 < x0.2.1.1)) && (decide (x0.1.2 < x0.2.1.2))) && (decide (x0.2.2.1 ≥ 0))) && (decide (x0.2.2.1 < x0.2.2.2))) && (decide (x0.2.2.2 ≤ 60001)))) then
      (sector_Box.fn N x0).bind fun r4 =>
      some (r4 == 4)
    else
      (sector_Box.fn N x0).bind fun r5 =>
      some (r5 == a3) := by
  rw [law_SectorBoxes.j0_eq (hM := hM)]; simp only [taut51, taut52, taut53, taut31, taut54, taut55, taut56, taut57, taut20, taut21, cond_true]
theorem law_SectorBoxes.eq (N : Nat) (x0 : (Int × Int) × (Int × Int) × Int × Int) : law_SectorBoxes.fn N x0 =
    (law_sectorFact.fn N ()).bind fun r1 =>
    bif !r1 then
      some false
    else
      (plane_Check.fn N x0.1).bind fun r2 =>
      bif r2 == 0 then
        (plane_Check.fn N x0.2.1).bind fun r6 =>
        law_SectorBoxes.j0 N x0 r6
      else
        law_SectorBoxes.j0 N x0 r2 := by kernel_rfl

/-! ### tube_At: skyway/tube.At -/
def tube_At.kp : List (Nat × List (Nat × Option (TypeId × Ty))) := []
noncomputable def tube_At.G (N : Nat) : List (Nat × Spec) := [(25, .pure (tube_Check.S N)), (69, .pure (tube_at.S N))]
noncomputable def tube_At.E (N : Nat) : Env := mkEnv (tube_At.G N) N tyTab tube_At.kp
noncomputable def tube_At.fn (N : Nat) (x : List ((Int × (Int × Int) × Int) × Int × Int) × Int) : Option (((Int × (Int × Int) × Int) × Int × Int) × Int) := evFn (tube_At.E N) Try.prog 3 Try.f26 false [.cell (.sl 44 (.pair (.pair (.int .i64) (.pair (.pair (.int .i64) (.int .i64)) (.int .i64))) (.pair (.int .i64) (.int .i64)))), .cell (.int .i64)] [.val (.agg (.pair (.pair (.int .i64) (.pair (.pair (.int .i64) (.int .i64)) (.int .i64))) (.pair (.int .i64) (.int .i64)))), .val (.cell (.int .i64))] x
noncomputable def tube_At.S (N : Nat) : PSpec := ⟨false, [.cell (.sl 44 (.pair (.pair (.int .i64) (.pair (.pair (.int .i64) (.int .i64)) (.int .i64))) (.pair (.int .i64) (.int .i64)))), .cell (.int .i64)], [.val (.agg (.pair (.pair (.int .i64) (.pair (.pair (.int .i64) (.int .i64)) (.int .i64))) (.pair (.int .i64) (.int .i64)))), .val (.cell (.int .i64))], tube_At.fn N⟩
theorem f26_enters : Enters Try.prog 26 := ⟨Try.f26, Try.func26, by kernel_rfl, by kernel_rfl⟩
theorem tube_At.tab (N : Nat) : TabOk Try.prog (tube_At.G N) := ⟨⟨tube_Check.enters, tube_Check.sound N⟩, ⟨tube_at.enters, tube_at.sound N⟩, trivial⟩
theorem tube_At.enters : Enters Try.prog 26 := f26_enters
theorem tube_At.sound (N : Nat) : Sound Try.prog 26 (tube_At.S N) := evFn_sound (specs_tab (tube_At.tab N)) (inls_tab (tube_At.tab N)) mixed 3 Try.func26 _ _ _
theorem tube_At.eq (N : Nat) (x0 : List ((Int × (Int × Int) × Int) × Int × Int)) (x1 : Int) : tube_At.fn N (x0, x1) =
    (tube_Check.fn N x0).bind fun r1 =>
    bif !(r1 == 0) then
      some (((0, ((0, 0), 0)), (0, 0)), r1)
    else
      (tube_at.fn N (x0, x1)).bind fun r2 =>
      some (r2.1, r2.2) := by kernel_rfl

/-! ### law_SectorPaths: skyway/skywaylaw3.SectorPaths -/
def law_SectorPaths.kp : List (Nat × List (Nat × Option (TypeId × Ty))) := [(15, [(0, none), (1, none), (5, none), (8, some (52, .pair (.int .i64) (.pair (.int .i64) (.int .i64)))), (9, none)]), (1000009, [(0, none), (1, none), (5, none), (6, none), (7, none)])]
noncomputable def law_SectorPaths.G (N : Nat) : List (Nat × Spec) := [(15, .pure (law_sectorFact.S N)), (17, .pure (law_sectorsError.S N)), (22, .pure (law_place.S N)), (24, .pure (sector_Path.S N)), (25, .pure (tube_Check.S N)), (26, .pure (tube_At.S N)), (27, .pure (slices_Equal_SectorVisit.S N))]
noncomputable def law_SectorPaths.E (N : Nat) : Env := mkEnv (law_SectorPaths.G N) N tyTab law_SectorPaths.kp
noncomputable def law_SectorPaths.fn (N : Nat) (x : List (ByteArray × List (List (Int × Int) × Int × Int)) × List ((Int × (Int × Int) × Int) × Int × Int)) : Option Bool := evFn (law_SectorPaths.E N) Try.prog 3 Try.f6 false [.cell (.sl 106 (.pair (.str) (.sl 113 (.pair (.sl 29 (.pair (.int .i64) (.int .i64))) (.pair (.int .i64) (.int .i64)))))), .cell (.sl 44 (.pair (.pair (.int .i64) (.pair (.pair (.int .i64) (.int .i64)) (.int .i64))) (.pair (.int .i64) (.int .i64))))] [.val (.cell (.bool))] x
noncomputable def law_SectorPaths.S (N : Nat) : PSpec := ⟨false, [.cell (.sl 106 (.pair (.str) (.sl 113 (.pair (.sl 29 (.pair (.int .i64) (.int .i64))) (.pair (.int .i64) (.int .i64)))))), .cell (.sl 44 (.pair (.pair (.int .i64) (.pair (.pair (.int .i64) (.int .i64)) (.int .i64))) (.pair (.int .i64) (.int .i64))))], [.val (.cell (.bool))], law_SectorPaths.fn N⟩
theorem f6_enters : Enters Try.prog 6 := ⟨Try.f6, Try.func6, by kernel_rfl, by kernel_rfl⟩
theorem law_SectorPaths.tab (N : Nat) : TabOk Try.prog (law_SectorPaths.G N) := ⟨⟨law_sectorFact.enters, law_sectorFact.sound N⟩, ⟨law_sectorsError.enters, law_sectorsError.sound N⟩, ⟨law_place.enters, law_place.sound N⟩, ⟨sector_Path.enters, sector_Path.sound N⟩, ⟨tube_Check.enters, tube_Check.sound N⟩, ⟨tube_At.enters, tube_At.sound N⟩, ⟨slices_Equal_SectorVisit.enters, slices_Equal_SectorVisit.sound N⟩, trivial⟩
theorem law_SectorPaths.enters : Enters Try.prog 6 := f6_enters
theorem law_SectorPaths.sound (N : Nat) : Sound Try.prog 6 (law_SectorPaths.S N) := evFn_sound (specs_tab (law_SectorPaths.tab N)) (inls_tab (law_SectorPaths.tab N)) mixed 3 Try.func6 _ _ _
noncomputable def law_SectorPaths.cd (N : Nat) (p : List Nat) : St → (Ex → St → Option Bool) → Option Bool := ev (law_SectorPaths.E N) Try.prog (callD (law_SectorPaths.E N) Try.prog 3) 0 (codeAt (bodyOf Try.f6) p)
noncomputable def law_SectorPaths.fin : Ex → St → Option Bool := endK Try.prog Try.f6 [.val (.cell (.bool))]
noncomputable def law_SectorPaths.j0 (N : Nat) (x0 : List (ByteArray × List (List (Int × Int) × Int × Int))) (x1 : List ((Int × (Int × Int) × Int) × Int × Int)) (r2 : List (Int × Int × Int) × Int) (a4 : Int) : Option Bool :=
  fuelK N (region (law_SectorPaths.E N) Try.prog (callD (law_SectorPaths.E N) Try.prog 3) (opsAt (codeAt (bodyOf Try.f6) [1, 1, 1, 1, 1, 1, 0, 0])) false
  ⟨[.ros false 106 (.pair (.str) (.sl 113 (.pair (.sl 29 (.pair (.int .i64) (.int .i64))) (.pair (.int .i64) (.int .i64))))) x0, .ros false 44 (.pair (.pair (.int .i64) (.pair (.pair (.int .i64) (.int .i64)) (.int .i64))) (.pair (.int .i64) (.int .i64))) x1, .any, .any, .any, .own 0, .sc (.int .i64 r2.2), .sc (.int .i64 a4), .any, .any, .any, .any, .any, .any, .any, .any, .any, .any, .any, .any, .any, .any, .any, .any, .any, .any, .any, .any, .any, .any, .any, .any, .any, .any, .any, .any, .any, .any, .any, .any, .any, .any, .any, .any, .any, .any, .any, .any, .any, .any, .any, .any, .any, .any, .any, .any, .any, .any, .any, .any, .any, .any, .any, .any, .any, .any, .any, .any, .any, .any, .any, .any, .any, .any, .any, .any, .any, .any, .any, .any, .any, .any, .any, .any, .any, .any, .any, .any, .any, .any, .any, .any, .any, .any, .any, .any, .any, .any, .any, .any, .any, .any, .any, .any, .any, .any, .any, .any, .any, .any, .any, .any, .any, .any, .any, .any, .any, .any, .any, .any, .any, .any], [.rows true 52 (.pair (.int .i64) (.pair (.int .i64) (.int .i64))) r2.1]⟩
  (fun S => (seqK (law_SectorPaths.cd N [1, 1, 1, 1, 1, 1, 0, 1]) (seqK (law_SectorPaths.cd N [1, 1, 1, 1, 1, 1, 1]) law_SectorPaths.fin)) .normal S))
noncomputable def law_SectorPaths.l1 (N : Nat) (x0 : List (ByteArray × List (List (Int × Int) × Int × Int))) (x1 : List ((Int × (Int × Int) × Int) × Int × Int)) (r2 : List (Int × Int × Int) × Int) (k5 : Nat) (a6 : Int) (a7 : List (Int × Int × Int)) : Option Bool :=
  loopN (norm ((law_SectorPaths.E N).keep 15) 0) (law_SectorPaths.cd N [1, 1, 1, 1, 1, 1, 1, 1, 1, 0, 1, 0, 0]) k5
  ⟨[.ros false 106 (.pair (.str) (.sl 113 (.pair (.sl 29 (.pair (.int .i64) (.int .i64))) (.pair (.int .i64) (.int .i64))))) x0, .ros false 44 (.pair (.pair (.int .i64) (.pair (.pair (.int .i64) (.int .i64)) (.int .i64))) (.pair (.int .i64) (.int .i64))) x1, .any, .any, .any, .own 0, .any, .any, .own 1, .sc (.int .i64 a6), .any, .any, .any, .any, .any, .any, .any, .any, .any, .any, .any, .any, .any, .any, .any, .any, .any, .any, .any, .any, .any, .any, .any, .any, .any, .any, .any, .any, .any, .any, .any, .any, .any, .any, .any, .any, .any, .any, .any, .any, .any, .any, .any, .any, .any, .any, .any, .any, .any, .any, .any, .any, .any, .any, .any, .any, .any, .any, .any, .any, .any, .any, .any, .any, .any, .any, .any, .any, .any, .any, .any, .any, .any, .any, .any, .any, .any, .any, .any, .any, .any, .any, .any, .any, .any, .any, .any, .any, .any, .any, .any, .any, .any, .any, .any, .any, .any, .any, .any, .any, .any, .any, .any, .any, .any, .any, .any, .any, .any, .any, .any, .any], [.rows true 52 (.pair (.int .i64) (.pair (.int .i64) (.int .i64))) r2.1, .rows true 52 (.pair (.int .i64) (.pair (.int .i64) (.int .i64))) a7]⟩
  (blockK 0 (seqK (law_SectorPaths.cd N [1, 1, 1, 1, 1, 1, 1, 1, 1, 1]) law_SectorPaths.fin))
theorem law_SectorPaths.l1_zero (N : Nat) (x0 : List (ByteArray × List (List (Int × Int) × Int × Int))) (x1 : List ((Int × (Int × Int) × Int) × Int × Int)) (r2 : List (Int × Int × Int) × Int) (a6 : Int) (a7 : List (Int × Int × Int)) : law_SectorPaths.l1 N x0 x1 r2 0 a6 a7 = none := by kernel_rfl
theorem law_SectorPaths.l1_succ (N : Nat) (x0 : List (ByteArray × List (List (Int × Int) × Int × Int))) (x1 : List ((Int × (Int × Int) × Int) × Int × Int)) (r2 : List (Int × Int × Int) × Int) (k5 : Nat) (a6 : Int) (a7 : List (Int × Int × Int)) : law_SectorPaths.l1 N x0 x1 r2 (k5 + 1) a6 a7 =
    bif (decide (0 ≤ (w ((x1.length : Int) - 1)))) && (decide ((w ((x1.length : Int) - 1)) < (x1.length : Int))) then
      bif decide (a6 ≤ (((List.getD x1 (Int.toNat (w ((x1.length : Int) - 1))) ((0, ((0, 0), 0)), (0, 0))).1).1)) then
        (tube_At.fn N (x1, a6)).bind fun r8 =>
        bif !(r8.2 == 0) then
          some false
        else
          (law_place.fn N (x0, r8.1.1.2.1, r8.1.1.2.2)).bind fun r9 =>
          bif !(decide ((w ((a7.length : Int) - 1)) ≥ 0)) || (decide ((w ((a7.length : Int) - 1)) ≥ 0)) then
            bif !(decide ((w ((a7.length : Int) - 1)) ≥ 0)) || (decide ((w ((a7.length : Int) - 1)) ≥ 0)) then
              bif ((decide (0 ≤ (w ((a7.length : Int) - 1)))) && (decide ((w ((a7.length : Int) - 1)) < (a7.length : Int)))) || !(decide ((w ((a7.length : Int) - 1)) ≥ 0)) then
                bif !(decide ((w ((a7.length : Int) - 1)) ≥ 0)) || (decide ((w ((a7.length : Int) - 1)) ≥ 0)) then
                  bif !(decide ((w ((a7.length : Int) - 1)) ≥ 0)) || (decide ((w ((a7.length : Int) - 1)) ≥ 0)) then
                    bif (decide ((Int.toNat (w ((a7.length : Int) - 1))) < a7.length)) || !(decide ((w ((a7.length : Int) - 1)) ≥ 0)) then
                      bif !(decide ((w ((a7.length : Int) - 1)) ≥ 0)) || (decide ((w ((a7.length : Int) - 1)) ≥ 0)) then
                        bif !(decide ((w ((a7.length : Int) - 1)) ≥ 0)) || (decide ((w ((a7.length : Int) - 1)) ≥ 0)) then
                          bif (!(decide ((w ((a7.length : Int) - 1)) ≥ 0))) || (decide ((w ((a7.length : Int) - 1)) ≥ 0)) then
                            bif (decide ((w ((a7.length : Int) - 1)) ≥ 0)) && (((List.getD a7 (Int.toNat (w ((a7.length : Int) - 1))) (0, (0, 0))).1) == r9) then
                              bif (decide (0 ≤ (w ((a7.length : Int) - 1)))) && (decide ((w ((a7.length : Int) - 1)) < (a7.length : Int))) then
                                bif decide ((Int.toNat (w ((a7.length : Int) - 1))) < a7.length) then
                                  law_SectorPaths.l1 N x0 x1 r2 k5 (w (a6 + 1)) (List.set a7 (Int.toNat (w ((a7.length : Int) - 1))) ((List.getD a7 (Int.toNat (w ((a7.length : Int) - 1))) (0, (0, 0))).1, (((List.getD a7 (Int.toNat (w ((a7.length : Int) - 1))) (0, (0, 0))).2).1, a6)))
                                else
                                  none
                              else
                                none
                            else
                            bif decide ((a7.length + 1) * 24 ≤ 140737488355328) && decide ((a7.length + 1) ≤ maxLen) then
                              law_SectorPaths.l1 N x0 x1 r2 k5 (w (a6 + 1)) (a7 ++ [(r9, (a6, a6))])
                            else
                              none
                          else
                            none
                        else
                          none
                      else
                        none
                    else
                      none
                  else
                    none
                else
                  none
              else
                none
            else
              none
          else
            none
      else
        (slices_Equal_SectorVisit.fn N (r2.1, a7)).bind fun r10 =>
        some r10
    else
      none := by kernel_rfl
theorem law_SectorPaths.j0_eq (N : Nat) (x0 : List (ByteArray × List (List (Int × Int) × Int × Int))) (x1 : List ((Int × (Int × Int) × Int) × Int × Int)) (r2 : List (Int × Int × Int) × Int) (a4 : Int) {M : Nat} (hM : N = M + 1) : law_SectorPaths.j0 N x0 x1 r2 a4 =
    bif !(a4 == 0) then
      bif !(r2.2 == a4) || (r2.2 == a4) then
        bif !(r2.2 == a4) || (r2.2 == a4) then
          bif (!(r2.2 == a4)) || (r2.2 == a4) then
            some ((r2.2 == a4) && ((r2.1.length : Int) == 0))
          else
            none
        else
          none
      else
        none
    else
    bif !(r2.2 == 0) then
      some false
    else
    bif decide (0 < (x1.length : Int)) then
      law_SectorPaths.l1 N x0 x1 r2 N (((List.getD x1 0 ((0, ((0, 0), 0)), (0, 0))).1).1) []
    else
      none := (fuelK_eq hM _).trans (by kernel_rfl)
theorem law_SectorPaths.l1_clean (N : Nat) (x0 : List (ByteArray × List (List (Int × Int) × Int × Int))) (x1 : List ((Int × (Int × Int) × Int) × Int × Int)) (r2 : List (Int × Int × Int) × Int) (k5 : Nat) (a6 : Int) (a7 : List (Int × Int × Int)) : law_SectorPaths.l1 N x0 x1 r2 (k5 + 1) a6 a7 =
    bif (decide (0 ≤ (w ((x1.length : Int) - 1)))) && (decide ((w ((x1.length : Int) - 1)) < (x1.length : Int))) then
      bif decide (a6 ≤ (((List.getD x1 (Int.toNat (w ((x1.length : Int) - 1))) ((0, ((0, 0), 0)), (0, 0))).1).1)) then
        (tube_At.fn N (x1, a6)).bind fun r8 =>
        bif !(r8.2 == 0) then
          some false
        else
          (law_place.fn N (x0, r8.1.1.2.1, r8.1.1.2.2)).bind fun r9 =>
          bif ((decide (0 ≤ (w ((a7.length : Int) - 1)))) && (decide ((w ((a7.length : Int) - 1)) < (a7.length : Int)))) || !(decide ((w ((a7.length : Int) - 1)) ≥ 0)) then
            bif (decide ((Int.toNat (w ((a7.length : Int) - 1))) < a7.length)) || !(decide ((w ((a7.length : Int) - 1)) ≥ 0)) then
              bif (decide ((w ((a7.length : Int) - 1)) ≥ 0)) && (((List.getD a7 (Int.toNat (w ((a7.length : Int) - 1))) (0, (0, 0))).1) == r9) then
                bif (decide (0 ≤ (w ((a7.length : Int) - 1)))) && (decide ((w ((a7.length : Int) - 1)) < (a7.length : Int))) then
                  bif decide ((Int.toNat (w ((a7.length : Int) - 1))) < a7.length) then
                    law_SectorPaths.l1 N x0 x1 r2 k5 (w (a6 + 1)) (List.set a7 (Int.toNat (w ((a7.length : Int) - 1))) ((List.getD a7 (Int.toNat (w ((a7.length : Int) - 1))) (0, (0, 0))).1, (((List.getD a7 (Int.toNat (w ((a7.length : Int) - 1))) (0, (0, 0))).2).1, a6)))
                  else
                    none
                else
                  none
              else
              bif decide ((a7.length + 1) * 24 ≤ 140737488355328) && decide ((a7.length + 1) ≤ maxLen) then
                law_SectorPaths.l1 N x0 x1 r2 k5 (w (a6 + 1)) (a7 ++ [(r9, (a6, a6))])
              else
                none
            else
              none
          else
            none
      else
        (slices_Equal_SectorVisit.fn N (r2.1, a7)).bind fun r10 =>
        some r10
    else
      none := by
  rw [law_SectorPaths.l1_succ]; simp only [taut20, taut21, cond_true]
theorem law_SectorPaths.j0_clean (N : Nat) (x0 : List (ByteArray × List (List (Int × Int) × Int × Int))) (x1 : List ((Int × (Int × Int) × Int) × Int × Int)) (r2 : List (Int × Int × Int) × Int) (a4 : Int) {M : Nat} (hM : N = M + 1) : law_SectorPaths.j0 N x0 x1 r2 a4 =
    bif !(a4 == 0) then
      some ((r2.2 == a4) && ((r2.1.length : Int) == 0))
    else
    bif !(r2.2 == 0) then
      some false
    else
    bif decide (0 < (x1.length : Int)) then
      law_SectorPaths.l1 N x0 x1 r2 N (((List.getD x1 0 ((0, ((0, 0), 0)), (0, 0))).1).1) []
    else
      none := by
  rw [law_SectorPaths.j0_eq (hM := hM)]; simp only [taut20, taut21, cond_true]
theorem law_SectorPaths.eq (N : Nat) (x0 : List (ByteArray × List (List (Int × Int) × Int × Int))) (x1 : List ((Int × (Int × Int) × Int) × Int × Int)) : law_SectorPaths.fn N (x0, x1) =
    (law_sectorFact.fn N ()).bind fun r1 =>
    bif !r1 then
      some false
    else
    bif !(decide ((x1.length : Int) > 0)) || (decide ((x1.length : Int) > 0)) then
      bif !(decide ((x1.length : Int) > 0)) || (decide ((x1.length : Int) > 0)) then
        bif !(decide ((x1.length : Int) > 0)) || (decide ((x1.length : Int) > 0)) then
          bif !(decide ((x1.length : Int) > 0)) || (decide ((x1.length : Int) > 0)) then
            bif ((decide (0 ≤ (w ((x1.length : Int) - 1)))) && (decide ((w ((x1.length : Int) - 1)) < (x1.length : Int)))) || !(decide ((x1.length : Int) > 0)) then
              bif !(decide ((x1.length : Int) > 0)) || (decide ((x1.length : Int) > 0)) then
                bif !(decide ((x1.length : Int) > 0)) || (decide ((x1.length : Int) > 0)) then
                  bif !(decide ((x1.length : Int) > 0)) || (decide ((x1.length : Int) > 0)) then
                    bif !(decide ((x1.length : Int) > 0)) || (decide ((x1.length : Int) > 0)) then
                      bif (decide (0 < (x1.length : Int))) || !(decide ((x1.length : Int) > 0)) then
                        bif !(decide ((x1.length : Int) > 0)) || (decide ((x1.length : Int) > 0)) then
                          bif !(decide ((x1.length : Int) > 0)) || (decide ((x1.length : Int) > 0)) then
                            bif !(decide ((x1.length : Int) > 0)) || (decide ((x1.length : Int) > 0)) then
                              bif !(decide ((x1.length : Int) > 0)) || (decide ((x1.length : Int) > 0)) then
                                bif !(decide ((x1.length : Int) > 0)) || (decide ((x1.length : Int) > 0)) then
                                  bif !(decide ((x1.length : Int) > 0)) || (decide ((x1.length : Int) > 0)) then
                                    bif (!(decide ((x1.length : Int) > 0))) || (decide ((x1.length : Int) > 0)) then
                                      bif (decide ((x1.length : Int) > 0)) && (decide ((w ((((List.getD x1 (Int.toNat (w ((x1.length : Int) - 1))) ((0, ((0, 0), 0)), (0, 0))).1).1) - (((List.getD x1 0 ((0, ((0, 0), 0)), (0, 0))).1).1))) > 400)) then
                                        some true
                                      else
                                        (sector_Path.fn N (x0, x1)).bind fun r2 =>
                                        (law_sectorsError.fn N x0).bind fun r3 =>
                                        bif r3 == 0 then
                                          (tube_Check.fn N x1).bind fun r11 =>
                                          law_SectorPaths.j0 N x0 x1 r2 r11
                                        else
                                          law_SectorPaths.j0 N x0 x1 r2 r3
                                    else
                                      none
                                  else
                                    none
                                else
                                  none
                              else
                                none
                            else
                              none
                          else
                            none
                        else
                          none
                      else
                        none
                    else
                      none
                  else
                    none
                else
                  none
              else
                none
            else
              none
          else
            none
        else
          none
      else
        none
    else
      none := by kernel_rfl
theorem law_SectorPaths.clean (N : Nat) (x0 : List (ByteArray × List (List (Int × Int) × Int × Int))) (x1 : List ((Int × (Int × Int) × Int) × Int × Int)) : law_SectorPaths.fn N (x0, x1) =
    (law_sectorFact.fn N ()).bind fun r1 =>
    bif !r1 then
      some false
    else
    bif ((decide (0 ≤ (w ((x1.length : Int) - 1)))) && (decide ((w ((x1.length : Int) - 1)) < (x1.length : Int)))) || !(decide ((x1.length : Int) > 0)) then
      bif (decide (0 < (x1.length : Int))) || !(decide ((x1.length : Int) > 0)) then
        bif (decide ((x1.length : Int) > 0)) && (decide ((w ((((List.getD x1 (Int.toNat (w ((x1.length : Int) - 1))) ((0, ((0, 0), 0)), (0, 0))).1).1) - (((List.getD x1 0 ((0, ((0, 0), 0)), (0, 0))).1).1))) > 400)) then
          some true
        else
          (sector_Path.fn N (x0, x1)).bind fun r2 =>
          (law_sectorsError.fn N x0).bind fun r3 =>
          bif r3 == 0 then
            (tube_Check.fn N x1).bind fun r11 =>
            law_SectorPaths.j0 N x0 x1 r2 r11
          else
            law_SectorPaths.j0 N x0 x1 r2 r3
      else
        none
    else
      none := by
  rw [law_SectorPaths.eq]; simp only [taut20, taut21, cond_true]

end Go.Proofs.Ytjojikhfmlceoaa.Sk
