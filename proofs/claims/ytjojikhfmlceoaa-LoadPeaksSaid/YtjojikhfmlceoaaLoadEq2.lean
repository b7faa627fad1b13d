/- PRINTED by gen.py: what the functions answer, part 2. Not trusted: Lean checks it. -/
import Derived.Test.YtjojikhfmlceoaaLoadEq1
set_option linter.unusedVariables false
set_option linter.unusedSimpArgs false
set_option maxRecDepth 100000
namespace Go.Proofs.Ytjojikhfmlceoaa.Sk
open Go
/-! ### plane_Toward: skyway/plane.Toward -/
def plane_Toward.kp : List (Nat × List (Nat × Option (TypeId × Ty))) := []
noncomputable def plane_Toward.G (N : Nat) : List (Nat × Spec) := [(21, .pure (plane_Check.S N)), (112, .pure (num_DivDown.S N))]
noncomputable def plane_Toward.E (N : Nat) : Env := mkEnv (plane_Toward.G N) N tyTab plane_Toward.kp
noncomputable def plane_Toward.fn (N : Nat) (x : (Int × Int) × (Int × Int) × Int × Int) : Option ((Int × Int) × Int) := evFn (plane_Toward.E N) Try.prog 3 Try.f92 false [.agg (.pair (.int .i64) (.int .i64)), .agg (.pair (.int .i64) (.int .i64)), .cell (.int .i64), .cell (.int .i64)] [.val (.agg (.pair (.int .i64) (.int .i64))), .val (.cell (.int .i64))] x
noncomputable def plane_Toward.S (N : Nat) : PSpec := ⟨false, [.agg (.pair (.int .i64) (.int .i64)), .agg (.pair (.int .i64) (.int .i64)), .cell (.int .i64), .cell (.int .i64)], [.val (.agg (.pair (.int .i64) (.int .i64))), .val (.cell (.int .i64))], plane_Toward.fn N⟩
theorem f92_enters : Enters Try.prog 92 := ⟨Try.f92, Try.func92, by kernel_rfl, by kernel_rfl⟩
theorem plane_Toward.tab (N : Nat) : TabOk Try.prog (plane_Toward.G N) := ⟨⟨plane_Check.enters, plane_Check.sound N⟩, ⟨num_DivDown.enters, num_DivDown.sound N⟩, trivial⟩
theorem plane_Toward.enters : Enters Try.prog 92 := f92_enters
theorem plane_Toward.sound (N : Nat) : Sound Try.prog 92 (plane_Toward.S N) := evFn_sound (specs_tab (plane_Toward.tab N)) (inls_tab (plane_Toward.tab N)) mixed 3 Try.func92 _ _ _
theorem plane_Toward.eq (N : Nat) (x0 : Int × Int) (x1 : Int × Int) (x2 : Int) (x3 : Int) : plane_Toward.fn N (x0, x1, x2, x3) =
    bif decide (x3 ≤ 0) then
      some ((0, 0), 10)
    else
    bif !(!(decide (x3 > 200000))) || (!(decide (x3 > 200000))) then
      bif (decide (x3 > 200000)) || (!(decide (x3 > 200000))) then
        bif !(!((decide (x3 > 200000)) || (decide (x2 < 0)))) || (!((decide (x3 > 200000)) || (decide (x2 < 0)))) then
          bif !(!((decide (x3 > 200000)) || (decide (x2 < 0)))) || (!((decide (x3 > 200000)) || (decide (x2 < 0)))) then
            bif ((decide (x3 > 200000)) || (decide (x2 < 0))) || (!((decide (x3 > 200000)) || (decide (x2 < 0)))) then
              bif !(!(((decide (x3 > 200000)) || (decide (x2 < 0))) || (decide (x2 > x3)))) || (!(((decide (x3 > 200000)) || (decide (x2 < 0))) || (decide (x2 > x3)))) then
                (bif (!(((decide (x3 > 200000)) || (decide (x2 < 0))) || (decide (x2 > x3)))) then plane_Check.fn N x0 else some (0)).bind fun r1 =>
                bif !(!(((decide (x3 > 200000)) || (decide (x2 < 0))) || (decide (x2 > x3)))) || (!(((decide (x3 > 200000)) || (decide (x2 < 0))) || (decide (x2 > x3)))) then
                  bif (((decide (x3 > 200000)) || (decide (x2 < 0))) || (decide (x2 > x3))) || (!(((decide (x3 > 200000)) || (decide (x2 < 0))) || (decide (x2 > x3)))) then
                    bif !(!((((decide (x3 > 200000)) || (decide (x2 < 0))) || (decide (x2 > x3))) || (!(r1 == 0)))) || (!((((decide (x3 > 200000)) || (decide (x2 < 0))) || (decide (x2 > x3))) || (!(r1 == 0)))) then
                      (bif (!((((decide (x3 > 200000)) || (decide (x2 < 0))) || (decide (x2 > x3))) || (!(r1 == 0)))) then plane_Check.fn N x1 else some (0)).bind fun r2 =>
                      bif !(!((((decide (x3 > 200000)) || (decide (x2 < 0))) || (decide (x2 > x3))) || (!(r1 == 0)))) || (!((((decide (x3 > 200000)) || (decide (x2 < 0))) || (decide (x2 > x3))) || (!(r1 == 0)))) then
                        bif ((((decide (x3 > 200000)) || (decide (x2 < 0))) || (decide (x2 > x3))) || (!(r1 == 0))) || (!((((decide (x3 > 200000)) || (decide (x2 < 0))) || (decide (x2 > x3))) || (!(r1 == 0)))) then
                          bif ((((decide (x3 > 200000)) || (decide (x2 < 0))) || (decide (x2 > x3))) || (!(r1 == 0))) || (!(r2 == 0)) then
                            some ((0, 0), 4)
                          else
                            (num_DivDown.fn N ((w ((w (x1.1 - x0.1)) * x2)), x3)).bind fun r3 =>
                            (num_DivDown.fn N ((w ((w (x1.2 - x0.2)) * x2)), x3)).bind fun r4 =>
                            some (((w (x0.1 + r3.1)), (w (x0.2 + r4.1))), 0)
                        else
                          none
                      else
                        none
                    else
                      none
                  else
                    none
                else
                  none
              else
                none
            else
              none
          else
            none
        else
          none
      else
        none
    else
      none := by kernel_rfl
theorem taut42 : ∀ p0 p1 p2 p3 : Bool, ((!(!((((p0) || (p1)) || (p2)) || (!(p3)))) || (!((((p0) || (p1)) || (p2)) || (!(p3)))))) = true := by decide
theorem taut43 : ∀ p0 p1 p2 p3 : Bool, ((((((p0) || (p1)) || (p2)) || (!(p3))) || (!((((p0) || (p1)) || (p2)) || (!(p3)))))) = true := by decide
theorem plane_Toward.clean (N : Nat) (x0 : Int × Int) (x1 : Int × Int) (x2 : Int) (x3 : Int) : plane_Toward.fn N (x0, x1, x2, x3) =
    bif decide (x3 ≤ 0) then
      some ((0, 0), 10)
    else
    (bif (!(((decide (x3 > 200000)) || (decide (x2 < 0))) || (decide (x2 > x3)))) then plane_Check.fn N x0 else some (0)).bind fun r1 =>
    (bif (!((((decide (x3 > 200000)) || (decide (x2 < 0))) || (decide (x2 > x3))) || (!(r1 == 0)))) then plane_Check.fn N x1 else some (0)).bind fun r2 =>
    bif ((((decide (x3 > 200000)) || (decide (x2 < 0))) || (decide (x2 > x3))) || (!(r1 == 0))) || (!(r2 == 0)) then
      some ((0, 0), 4)
    else
      (num_DivDown.fn N ((w ((w (x1.1 - x0.1)) * x2)), x3)).bind fun r3 =>
      (num_DivDown.fn N ((w ((w (x1.2 - x0.2)) * x2)), x3)).bind fun r4 =>
      some (((w (x0.1 + r3.1)), (w (x0.2 + r4.1))), 0) := by
  rw [plane_Toward.eq]; simp only [taut42, taut7, taut8, taut1, taut43, taut9, taut10, taut6, cond_true]

/-! ### tube_between: skyway/tube.between -/
def tube_between.kp : List (Nat × List (Nat × Option (TypeId × Ty))) := []
noncomputable def tube_between.G (N : Nat) : List (Nat × Spec) := [(112, .pure (num_DivDown.S N))]
noncomputable def tube_between.E (N : Nat) : Env := mkEnv (tube_between.G N) N tyTab tube_between.kp
noncomputable def tube_between.fn (N : Nat) (x : Int × Int × Int × Int) : Option Int := evFn (tube_between.E N) Try.prog 3 Try.f93 false [.cell (.int .i64), .cell (.int .i64), .cell (.int .i64), .cell (.int .i64)] [.val (.cell (.int .i64))] x
noncomputable def tube_between.S (N : Nat) : PSpec := ⟨false, [.cell (.int .i64), .cell (.int .i64), .cell (.int .i64), .cell (.int .i64)], [.val (.cell (.int .i64))], tube_between.fn N⟩
theorem f93_enters : Enters Try.prog 93 := ⟨Try.f93, Try.func93, by kernel_rfl, by kernel_rfl⟩
theorem tube_between.tab (N : Nat) : TabOk Try.prog (tube_between.G N) := ⟨⟨num_DivDown.enters, num_DivDown.sound N⟩, trivial⟩
theorem tube_between.enters : Enters Try.prog 93 := f93_enters
theorem tube_between.sound (N : Nat) : Sound Try.prog 93 (tube_between.S N) := evFn_sound (specs_tab (tube_between.tab N)) (inls_tab (tube_between.tab N)) mixed 3 Try.func93 _ _ _
theorem tube_between.eq (N : Nat) (x0 : Int) (x1 : Int) (x2 : Int) (x3 : Int) : tube_between.fn N (x0, x1, x2, x3) =
    (num_DivDown.fn N ((w ((w (x1 - x0)) * x2)), x3)).bind fun r1 =>
    some (w (x0 + r1.1)) := by kernel_rfl

/-! ### num_DivUp: skyway/num.DivUp -/
def num_DivUp.kp : List (Nat × List (Nat × Option (TypeId × Ty))) := []
noncomputable def num_DivUp.G (N : Nat) : List (Nat × Spec) := [(112, .pure (num_DivDown.S N))]
noncomputable def num_DivUp.E (N : Nat) : Env := mkEnv (num_DivUp.G N) N tyTab num_DivUp.kp
noncomputable def num_DivUp.fn (N : Nat) (x : Int × Int) : Option (Int × Int) := evFn (num_DivUp.E N) Try.prog 3 Try.f113 false [.cell (.int .i64), .cell (.int .i64)] [.val (.cell (.int .i64)), .val (.cell (.int .i64))] x
noncomputable def num_DivUp.S (N : Nat) : PSpec := ⟨false, [.cell (.int .i64), .cell (.int .i64)], [.val (.cell (.int .i64)), .val (.cell (.int .i64))], num_DivUp.fn N⟩
theorem f113_enters : Enters Try.prog 113 := ⟨Try.f113, Try.func113, by kernel_rfl, by kernel_rfl⟩
theorem num_DivUp.tab (N : Nat) : TabOk Try.prog (num_DivUp.G N) := ⟨⟨num_DivDown.enters, num_DivDown.sound N⟩, trivial⟩
theorem num_DivUp.enters : Enters Try.prog 113 := f113_enters
theorem num_DivUp.sound (N : Nat) : Sound Try.prog 113 (num_DivUp.S N) := evFn_sound (specs_tab (num_DivUp.tab N)) (inls_tab (num_DivUp.tab N)) mixed 3 Try.func113 _ _ _
theorem num_DivUp.eq (N : Nat) (x0 : Int) (x1 : Int) : num_DivUp.fn N (x0, x1) =
    (num_DivDown.fn N (x0, x1)).bind fun r1 =>
    bif !(r1.2 == 0) || (r1.2 == 0) then
      bif !(r1.2 == 0) || (r1.2 == 0) then
        bif (x1 != 0) || !(r1.2 == 0) then
          bif !(r1.2 == 0) || (r1.2 == 0) then
            bif (!(r1.2 == 0)) || (r1.2 == 0) then
              bif (r1.2 == 0) && (!((Int.tmod x0 x1) == 0)) then
                some ((w (r1.1 + 1)), r1.2)
              else
                some (r1.1, r1.2)
            else
              none
          else
            none
        else
          none
      else
        none
    else
      none := by kernel_rfl
theorem num_DivUp.clean (N : Nat) (x0 : Int) (x1 : Int) : num_DivUp.fn N (x0, x1) =
    (num_DivDown.fn N (x0, x1)).bind fun r1 =>
    bif (x1 != 0) || !(r1.2 == 0) then
      bif (r1.2 == 0) && (!((Int.tmod x0 x1) == 0)) then
        some ((w (r1.1 + 1)), r1.2)
      else
        some (r1.1, r1.2)
    else
      none := by
  rw [num_DivUp.eq]; simp only [taut20, taut21, cond_true]

/-! ### tube_above: skyway/tube.above -/
def tube_above.kp : List (Nat × List (Nat × Option (TypeId × Ty))) := []
noncomputable def tube_above.G (N : Nat) : List (Nat × Spec) := [(113, .pure (num_DivUp.S N))]
noncomputable def tube_above.E (N : Nat) : Env := mkEnv (tube_above.G N) N tyTab tube_above.kp
noncomputable def tube_above.fn (N : Nat) (x : Int × Int × Int × Int) : Option Int := evFn (tube_above.E N) Try.prog 3 Try.f94 false [.cell (.int .i64), .cell (.int .i64), .cell (.int .i64), .cell (.int .i64)] [.val (.cell (.int .i64))] x
noncomputable def tube_above.S (N : Nat) : PSpec := ⟨false, [.cell (.int .i64), .cell (.int .i64), .cell (.int .i64), .cell (.int .i64)], [.val (.cell (.int .i64))], tube_above.fn N⟩
theorem f94_enters : Enters Try.prog 94 := ⟨Try.f94, Try.func94, by kernel_rfl, by kernel_rfl⟩
theorem tube_above.tab (N : Nat) : TabOk Try.prog (tube_above.G N) := ⟨⟨num_DivUp.enters, num_DivUp.sound N⟩, trivial⟩
theorem tube_above.enters : Enters Try.prog 94 := f94_enters
theorem tube_above.sound (N : Nat) : Sound Try.prog 94 (tube_above.S N) := evFn_sound (specs_tab (tube_above.tab N)) (inls_tab (tube_above.tab N)) mixed 3 Try.func94 _ _ _
theorem tube_above.eq (N : Nat) (x0 : Int) (x1 : Int) (x2 : Int) (x3 : Int) : tube_above.fn N (x0, x1, x2, x3) =
    (num_DivUp.fn N ((w ((w (x1 - x0)) * x2)), x3)).bind fun r1 =>
    some (w (x0 + r1.1)) := by kernel_rfl

/-! ### tube_at: skyway/tube.at -/
def tube_at.kp : List (Nat × List (Nat × Option (TypeId × Ty))) := [(4, [(0, none), (1, none), (4, none), (6, none)])]
noncomputable def tube_at.G (N : Nat) : List (Nat × Spec) := [(92, .pure (plane_Toward.S N)), (93, .pure (tube_between.S N)), (94, .pure (tube_above.S N))]
noncomputable def tube_at.E (N : Nat) : Env := mkEnv (tube_at.G N) N tyTab tube_at.kp
noncomputable def tube_at.fn (N : Nat) (x : List ((Int × (Int × Int) × Int) × Int × Int) × Int) : Option (((Int × (Int × Int) × Int) × Int × Int) × Int) := evFn (tube_at.E N) Try.prog 3 Try.f69 false [.cell (.sl 44 (.pair (.pair (.int .i64) (.pair (.pair (.int .i64) (.int .i64)) (.int .i64))) (.pair (.int .i64) (.int .i64)))), .cell (.int .i64)] [.val (.agg (.pair (.pair (.int .i64) (.pair (.pair (.int .i64) (.int .i64)) (.int .i64))) (.pair (.int .i64) (.int .i64)))), .val (.cell (.int .i64))] x
noncomputable def tube_at.S (N : Nat) : PSpec := ⟨false, [.cell (.sl 44 (.pair (.pair (.int .i64) (.pair (.pair (.int .i64) (.int .i64)) (.int .i64))) (.pair (.int .i64) (.int .i64)))), .cell (.int .i64)], [.val (.agg (.pair (.pair (.int .i64) (.pair (.pair (.int .i64) (.int .i64)) (.int .i64))) (.pair (.int .i64) (.int .i64)))), .val (.cell (.int .i64))], tube_at.fn N⟩
theorem f69_enters : Enters Try.prog 69 := ⟨Try.f69, Try.func69, by kernel_rfl, by kernel_rfl⟩
theorem tube_at.tab (N : Nat) : TabOk Try.prog (tube_at.G N) := ⟨⟨plane_Toward.enters, plane_Toward.sound N⟩, ⟨tube_between.enters, tube_between.sound N⟩, ⟨tube_above.enters, tube_above.sound N⟩, trivial⟩
theorem tube_at.enters : Enters Try.prog 69 := f69_enters
theorem tube_at.sound (N : Nat) : Sound Try.prog 69 (tube_at.S N) := evFn_sound (specs_tab (tube_at.tab N)) (inls_tab (tube_at.tab N)) mixed 3 Try.func69 _ _ _
noncomputable def tube_at.cd (N : Nat) (p : List Nat) : St → (Ex → St → Option (((Int × (Int × Int) × Int) × Int × Int) × Int)) → Option (((Int × (Int × Int) × Int) × Int × Int) × Int) := ev (tube_at.E N) Try.prog (callD (tube_at.E N) Try.prog 3) 0 (codeAt (bodyOf Try.f69) p)
noncomputable def tube_at.fin : Ex → St → Option (((Int × (Int × Int) × Int) × Int × Int) × Int) := endK Try.prog Try.f69 [.val (.agg (.pair (.pair (.int .i64) (.pair (.pair (.int .i64) (.int .i64)) (.int .i64))) (.pair (.int .i64) (.int .i64)))), .val (.cell (.int .i64))]
noncomputable def tube_at.l0 (N : Nat) (x0 : List ((Int × (Int × Int) × Int) × Int × Int)) (x1 : Int) (k1 : Nat) (a2 : Int) : Option (((Int × (Int × Int) × Int) × Int × Int) × Int) :=
  loopN (norm ((tube_at.E N).keep 4) 0) (tube_at.cd N [1, 1, 1, 0, 0, 0]) k1
  ⟨[.ros false 44 (.pair (.pair (.int .i64) (.pair (.pair (.int .i64) (.int .i64)) (.int .i64))) (.pair (.int .i64) (.int .i64))) x0, .sc (.int .i64 x1), .any, .any, .ptr 0 0, .any, .sc (.int .i64 a2), .any, .any, .any, .any, .any, .any, .any, .any, .any, .any, .any, .any, .any, .any, .any, .any, .any, .any, .any, .any, .any, .any, .any, .any, .any, .any, .any, .any, .any, .any, .any, .any, .any, .any, .any, .any, .any, .any, .any, .any, .any, .any, .any, .any, .any, .any, .any, .any, .any, .any, .any, .any, .any, .any, .any, .any, .any, .any, .any, .any, .any, .any, .any, .any, .any, .any, .any, .any, .any, .any, .any, .any, .any, .any, .any, .any, .any, .any, .any, .any, .any, .any, .any, .any, .any, .any, .any, .any, .any, .any, .any, .any, .any, .any, .any, .any, .any, .any, .any, .any, .any, .any, .any, .any, .any, .any, .any, .any, .any, .any], [.cells [.sc (.int .i64 0), .sc (.int .i64 0), .sc (.int .i64 0), .sc (.int .i64 0), .sc (.int .i64 0), .sc (.int .i64 0)] 44]⟩
  (blockK 0 (seqK (tube_at.cd N [1, 1, 1, 1]) tube_at.fin))
theorem tube_at.l0_zero (N : Nat) (x0 : List ((Int × (Int × Int) × Int) × Int × Int)) (x1 : Int) (a2 : Int) : tube_at.l0 N x0 x1 0 a2 = none := by kernel_rfl
theorem tube_at.l0_succ (N : Nat) (x0 : List ((Int × (Int × Int) × Int) × Int × Int)) (x1 : Int) (k1 : Nat) (a2 : Int) : tube_at.l0 N x0 x1 (k1 + 1) a2 =
    bif !(decide ((w (a2 + 1)) < (x0.length : Int))) || (decide ((w (a2 + 1)) < (x0.length : Int))) then
      bif !(decide ((w (a2 + 1)) < (x0.length : Int))) || (decide ((w (a2 + 1)) < (x0.length : Int))) then
        bif !(decide ((w (a2 + 1)) < (x0.length : Int))) || (decide ((w (a2 + 1)) < (x0.length : Int))) then
          bif ((decide (0 ≤ (w (a2 + 1)))) && (decide ((w (a2 + 1)) < (x0.length : Int)))) || !(decide ((w (a2 + 1)) < (x0.length : Int))) then
            bif !(decide ((w (a2 + 1)) < (x0.length : Int))) || (decide ((w (a2 + 1)) < (x0.length : Int))) then
              bif !(decide ((w (a2 + 1)) < (x0.length : Int))) || (decide ((w (a2 + 1)) < (x0.length : Int))) then
                bif !(decide ((w (a2 + 1)) < (x0.length : Int))) || (decide ((w (a2 + 1)) < (x0.length : Int))) then
                  bif !(decide ((w (a2 + 1)) < (x0.length : Int))) || (decide ((w (a2 + 1)) < (x0.length : Int))) then
                    bif !(decide ((w (a2 + 1)) < (x0.length : Int))) || (decide ((w (a2 + 1)) < (x0.length : Int))) then
                      bif (!(decide ((w (a2 + 1)) < (x0.length : Int)))) || (decide ((w (a2 + 1)) < (x0.length : Int))) then
                        bif (decide ((w (a2 + 1)) < (x0.length : Int))) && (decide ((((List.getD x0 (Int.toNat (w (a2 + 1))) ((0, ((0, 0), 0)), (0, 0))).1).1) ≤ x1)) then
                          tube_at.l0 N x0 x1 k1 (w (a2 + 1))
                        else
                        bif (decide (0 ≤ a2)) && (decide (a2 < (x0.length : Int))) then
                          bif (((List.getD x0 (Int.toNat a2) ((0, ((0, 0), 0)), (0, 0))).1).1) == x1 then
                            some (List.getD x0 (Int.toNat a2) ((0, ((0, 0), 0)), (0, 0)), 0)
                          else
                          bif (decide (0 ≤ (w (a2 + 1)))) && (decide ((w (a2 + 1)) < (x0.length : Int))) then
                            (plane_Toward.fn N ((((List.getD x0 (Int.toNat a2) ((0, ((0, 0), 0)), (0, 0))).1).2).1, (((List.getD x0 (Int.toNat (w (a2 + 1))) ((0, ((0, 0), 0)), (0, 0))).1).2).1, (w (x1 - (((List.getD x0 (Int.toNat a2) ((0, ((0, 0), 0)), (0, 0))).1).1))), (w ((((List.getD x0 (Int.toNat (w (a2 + 1))) ((0, ((0, 0), 0)), (0, 0))).1).1) - (((List.getD x0 (Int.toNat a2) ((0, ((0, 0), 0)), (0, 0))).1).1))))).bind fun r3 =>
                            (tube_between.fn N ((((List.getD x0 (Int.toNat a2) ((0, ((0, 0), 0)), (0, 0))).1).2).2, (((List.getD x0 (Int.toNat (w (a2 + 1))) ((0, ((0, 0), 0)), (0, 0))).1).2).2, (w (x1 - (((List.getD x0 (Int.toNat a2) ((0, ((0, 0), 0)), (0, 0))).1).1))), (w ((((List.getD x0 (Int.toNat (w (a2 + 1))) ((0, ((0, 0), 0)), (0, 0))).1).1) - (((List.getD x0 (Int.toNat a2) ((0, ((0, 0), 0)), (0, 0))).1).1))))).bind fun r4 =>
                            (tube_above.fn N (((List.getD x0 (Int.toNat a2) ((0, ((0, 0), 0)), (0, 0))).2).1, ((List.getD x0 (Int.toNat (w (a2 + 1))) ((0, ((0, 0), 0)), (0, 0))).2).1, (w (x1 - (((List.getD x0 (Int.toNat a2) ((0, ((0, 0), 0)), (0, 0))).1).1))), (w ((((List.getD x0 (Int.toNat (w (a2 + 1))) ((0, ((0, 0), 0)), (0, 0))).1).1) - (((List.getD x0 (Int.toNat a2) ((0, ((0, 0), 0)), (0, 0))).1).1))))).bind fun r5 =>
                            (tube_above.fn N (((List.getD x0 (Int.toNat a2) ((0, ((0, 0), 0)), (0, 0))).2).2, ((List.getD x0 (Int.toNat (w (a2 + 1))) ((0, ((0, 0), 0)), (0, 0))).2).2, (w (x1 - (((List.getD x0 (Int.toNat a2) ((0, ((0, 0), 0)), (0, 0))).1).1))), (w ((((List.getD x0 (Int.toNat (w (a2 + 1))) ((0, ((0, 0), 0)), (0, 0))).1).1) - (((List.getD x0 (Int.toNat a2) ((0, ((0, 0), 0)), (0, 0))).1).1))))).bind fun r6 =>
                            some (((x1, (r3.1, r4)), (r5, r6)), 0)
                          else
                            none
                        else
                          none
                      else
                        none
                    else
                      none
                  else
                    none
                else
                  none
              else
                none
            else
              none
          else
            none
        else
          none
      else
        none
    else
      none := by kernel_rfl
theorem tube_at.l0_clean (N : Nat) (x0 : List ((Int × (Int × Int) × Int) × Int × Int)) (x1 : Int) (k1 : Nat) (a2 : Int) : tube_at.l0 N x0 x1 (k1 + 1) a2 =
    bif ((decide (0 ≤ (w (a2 + 1)))) && (decide ((w (a2 + 1)) < (x0.length : Int)))) || !(decide ((w (a2 + 1)) < (x0.length : Int))) then
      bif (decide ((w (a2 + 1)) < (x0.length : Int))) && (decide ((((List.getD x0 (Int.toNat (w (a2 + 1))) ((0, ((0, 0), 0)), (0, 0))).1).1) ≤ x1)) then
        tube_at.l0 N x0 x1 k1 (w (a2 + 1))
      else
      bif (decide (0 ≤ a2)) && (decide (a2 < (x0.length : Int))) then
        bif (((List.getD x0 (Int.toNat a2) ((0, ((0, 0), 0)), (0, 0))).1).1) == x1 then
          some (List.getD x0 (Int.toNat a2) ((0, ((0, 0), 0)), (0, 0)), 0)
        else
        bif (decide (0 ≤ (w (a2 + 1)))) && (decide ((w (a2 + 1)) < (x0.length : Int))) then
          (plane_Toward.fn N ((((List.getD x0 (Int.toNat a2) ((0, ((0, 0), 0)), (0, 0))).1).2).1, (((List.getD x0 (Int.toNat (w (a2 + 1))) ((0, ((0, 0), 0)), (0, 0))).1).2).1, (w (x1 - (((List.getD x0 (Int.toNat a2) ((0, ((0, 0), 0)), (0, 0))).1).1))), (w ((((List.getD x0 (Int.toNat (w (a2 + 1))) ((0, ((0, 0), 0)), (0, 0))).1).1) - (((List.getD x0 (Int.toNat a2) ((0, ((0, 0), 0)), (0, 0))).1).1))))).bind fun r3 =>
          (tube_between.fn N ((((List.getD x0 (Int.toNat a2) ((0, ((0, 0), 0)), (0, 0))).1).2).2, (((List.getD x0 (Int.toNat (w (a2 + 1))) ((0, ((0, 0), 0)), (0, 0))).1).2).2, (w (x1 - (((List.getD x0 (Int.toNat a2) ((0, ((0, 0), 0)), (0, 0))).1).1))), (w ((((List.getD x0 (Int.toNat (w (a2 + 1))) ((0, ((0, 0), 0)), (0, 0))).1).1) - (((List.getD x0 (Int.toNat a2) ((0, ((0, 0), 0)), (0, 0))).1).1))))).bind fun r4 =>
          (tube_above.fn N (((List.getD x0 (Int.toNat a2) ((0, ((0, 0), 0)), (0, 0))).2).1, ((List.getD x0 (Int.toNat (w (a2 + 1))) ((0, ((0, 0), 0)), (0, 0))).2).1, (w (x1 - (((List.getD x0 (Int.toNat a2) ((0, ((0, 0), 0)), (0, 0))).1).1))), (w ((((List.getD x0 (Int.toNat (w (a2 + 1))) ((0, ((0, 0), 0)), (0, 0))).1).1) - (((List.getD x0 (Int.toNat a2) ((0, ((0, 0), 0)), (0, 0))).1).1))))).bind fun r5 =>
          (tube_above.fn N (((List.getD x0 (Int.toNat a2) ((0, ((0, 0), 0)), (0, 0))).2).2, ((List.getD x0 (Int.toNat (w (a2 + 1))) ((0, ((0, 0), 0)), (0, 0))).2).2, (w (x1 - (((List.getD x0 (Int.toNat a2) ((0, ((0, 0), 0)), (0, 0))).1).1))), (w ((((List.getD x0 (Int.toNat (w (a2 + 1))) ((0, ((0, 0), 0)), (0, 0))).1).1) - (((List.getD x0 (Int.toNat a2) ((0, ((0, 0), 0)), (0, 0))).1).1))))).bind fun r6 =>
          some (((x1, (r3.1, r4)), (r5, r6)), 0)
        else
          none
      else
        none
    else
      none := by
  rw [tube_at.l0_succ]; simp only [taut20, taut21, cond_true]
theorem tube_at.eq (N : Nat) (x0 : List ((Int × (Int × Int) × Int) × Int × Int)) (x1 : Int) : tube_at.fn N (x0, x1) =
    bif decide (0 < (x0.length : Int)) then
      bif !(!(decide (x1 < (((List.getD x0 0 ((0, ((0, 0), 0)), (0, 0))).1).1)))) || (!(decide (x1 < (((List.getD x0 0 ((0, ((0, 0), 0)), (0, 0))).1).1)))) then
        bif !(!(decide (x1 < (((List.getD x0 0 ((0, ((0, 0), 0)), (0, 0))).1).1)))) || (!(decide (x1 < (((List.getD x0 0 ((0, ((0, 0), 0)), (0, 0))).1).1)))) then
          bif !(!(decide (x1 < (((List.getD x0 0 ((0, ((0, 0), 0)), (0, 0))).1).1)))) || (!(decide (x1 < (((List.getD x0 0 ((0, ((0, 0), 0)), (0, 0))).1).1)))) then
            bif !(!(decide (x1 < (((List.getD x0 0 ((0, ((0, 0), 0)), (0, 0))).1).1)))) || (!(decide (x1 < (((List.getD x0 0 ((0, ((0, 0), 0)), (0, 0))).1).1)))) then
              bif ((decide (0 ≤ (w ((x0.length : Int) - 1)))) && (decide ((w ((x0.length : Int) - 1)) < (x0.length : Int)))) || !(!(decide (x1 < (((List.getD x0 0 ((0, ((0, 0), 0)), (0, 0))).1).1)))) then
                bif !(!(decide (x1 < (((List.getD x0 0 ((0, ((0, 0), 0)), (0, 0))).1).1)))) || (!(decide (x1 < (((List.getD x0 0 ((0, ((0, 0), 0)), (0, 0))).1).1)))) then
                  bif !(!(decide (x1 < (((List.getD x0 0 ((0, ((0, 0), 0)), (0, 0))).1).1)))) || (!(decide (x1 < (((List.getD x0 0 ((0, ((0, 0), 0)), (0, 0))).1).1)))) then
                    bif !(!(decide (x1 < (((List.getD x0 0 ((0, ((0, 0), 0)), (0, 0))).1).1)))) || (!(decide (x1 < (((List.getD x0 0 ((0, ((0, 0), 0)), (0, 0))).1).1)))) then
                      bif !(!(decide (x1 < (((List.getD x0 0 ((0, ((0, 0), 0)), (0, 0))).1).1)))) || (!(decide (x1 < (((List.getD x0 0 ((0, ((0, 0), 0)), (0, 0))).1).1)))) then
                        bif !(!(decide (x1 < (((List.getD x0 0 ((0, ((0, 0), 0)), (0, 0))).1).1)))) || (!(decide (x1 < (((List.getD x0 0 ((0, ((0, 0), 0)), (0, 0))).1).1)))) then
                          bif (decide (x1 < (((List.getD x0 0 ((0, ((0, 0), 0)), (0, 0))).1).1))) || (!(decide (x1 < (((List.getD x0 0 ((0, ((0, 0), 0)), (0, 0))).1).1)))) then
                            bif (decide (x1 < (((List.getD x0 0 ((0, ((0, 0), 0)), (0, 0))).1).1))) || (decide (x1 > (((List.getD x0 (Int.toNat (w ((x0.length : Int) - 1))) ((0, ((0, 0), 0)), (0, 0))).1).1))) then
                              some (((0, ((0, 0), 0)), (0, 0)), 12)
                            else
                              tube_at.l0 N x0 x1 N 0
                          else
                            none
                        else
                          none
                      else
                        none
                    else
                      none
                  else
                    none
                else
                  none
              else
                none
            else
              none
          else
            none
        else
          none
      else
        none
    else
      none := by kernel_rfl
theorem tube_at.clean (N : Nat) (x0 : List ((Int × (Int × Int) × Int) × Int × Int)) (x1 : Int) : tube_at.fn N (x0, x1) =
    bif decide (0 < (x0.length : Int)) then
      bif ((decide (0 ≤ (w ((x0.length : Int) - 1)))) && (decide ((w ((x0.length : Int) - 1)) < (x0.length : Int)))) || !(!(decide (x1 < (((List.getD x0 0 ((0, ((0, 0), 0)), (0, 0))).1).1)))) then
        bif (decide (x1 < (((List.getD x0 0 ((0, ((0, 0), 0)), (0, 0))).1).1))) || (decide (x1 > (((List.getD x0 (Int.toNat (w ((x0.length : Int) - 1))) ((0, ((0, 0), 0)), (0, 0))).1).1))) then
          some (((0, ((0, 0), 0)), (0, 0)), 12)
        else
          tube_at.l0 N x0 x1 N 0
      else
        none
    else
      none := by
  rw [tube_at.eq]; simp only [taut1, taut6, cond_true]

/-! ### tube_Point: skyway/tube.Point -/
def tube_Point.kp : List (Nat × List (Nat × Option (TypeId × Ty))) := []
noncomputable def tube_Point.G (N : Nat) : List (Nat × Spec) := [(69, .pure (tube_at.S N))]
noncomputable def tube_Point.E (N : Nat) : Env := mkEnv (tube_Point.G N) N tyTab tube_Point.kp
noncomputable def tube_Point.fn (N : Nat) (x : List ((Int × (Int × Int) × Int) × Int × Int) × Int) : Option ((Int × (Int × Int) × Int) × Int × Int) := evFn (tube_Point.E N) Try.prog 3 Try.f95 false [.cell (.sl 44 (.pair (.pair (.int .i64) (.pair (.pair (.int .i64) (.int .i64)) (.int .i64))) (.pair (.int .i64) (.int .i64)))), .cell (.int .i64)] [.val (.agg (.pair (.pair (.int .i64) (.pair (.pair (.int .i64) (.int .i64)) (.int .i64))) (.pair (.int .i64) (.int .i64))))] x
noncomputable def tube_Point.S (N : Nat) : PSpec := ⟨false, [.cell (.sl 44 (.pair (.pair (.int .i64) (.pair (.pair (.int .i64) (.int .i64)) (.int .i64))) (.pair (.int .i64) (.int .i64)))), .cell (.int .i64)], [.val (.agg (.pair (.pair (.int .i64) (.pair (.pair (.int .i64) (.int .i64)) (.int .i64))) (.pair (.int .i64) (.int .i64))))], tube_Point.fn N⟩
theorem f95_enters : Enters Try.prog 95 := ⟨Try.f95, Try.func95, by kernel_rfl, by kernel_rfl⟩
theorem tube_Point.tab (N : Nat) : TabOk Try.prog (tube_Point.G N) := ⟨⟨tube_at.enters, tube_at.sound N⟩, trivial⟩
theorem tube_Point.enters : Enters Try.prog 95 := f95_enters
theorem tube_Point.sound (N : Nat) : Sound Try.prog 95 (tube_Point.S N) := evFn_sound (specs_tab (tube_Point.tab N)) (inls_tab (tube_Point.tab N)) mixed 3 Try.func95 _ _ _
theorem tube_Point.eq (N : Nat) (x0 : List ((Int × (Int × Int) × Int) × Int × Int)) (x1 : Int) : tube_Point.fn N (x0, x1) =
    (tube_at.fn N (x0, x1)).bind fun r1 =>
    some r1.1 := by kernel_rfl

/-! ### polygon_Locate: skyway/polygon.Locate -/
def polygon_Locate.kp : List (Nat × List (Nat × Option (TypeId × Ty))) := []
noncomputable def polygon_Locate.G (N : Nat) : List (Nat × Spec) := [(21, .pure (plane_Check.S N)), (88, .pure (polygon_Check.S N)), (111, .pure (polygon_locate.S N))]
noncomputable def polygon_Locate.E (N : Nat) : Env := mkEnv (polygon_Locate.G N) N tyTab polygon_Locate.kp
noncomputable def polygon_Locate.fn (N : Nat) (x : List (Int × Int) × Int × Int) : Option (Int × Int) := evFn (polygon_Locate.E N) Try.prog 3 Try.f90 false [.cell (.sl 29 (.pair (.int .i64) (.int .i64))), .agg (.pair (.int .i64) (.int .i64))] [.val (.cell (.int .i64)), .val (.cell (.int .i64))] x
noncomputable def polygon_Locate.S (N : Nat) : PSpec := ⟨false, [.cell (.sl 29 (.pair (.int .i64) (.int .i64))), .agg (.pair (.int .i64) (.int .i64))], [.val (.cell (.int .i64)), .val (.cell (.int .i64))], polygon_Locate.fn N⟩
theorem f90_enters : Enters Try.prog 90 := ⟨Try.f90, Try.func90, by kernel_rfl, by kernel_rfl⟩
theorem polygon_Locate.tab (N : Nat) : TabOk Try.prog (polygon_Locate.G N) := ⟨⟨plane_Check.enters, plane_Check.sound N⟩, ⟨polygon_Check.enters, polygon_Check.sound N⟩, ⟨polygon_locate.enters, polygon_locate.sound N⟩, trivial⟩
theorem polygon_Locate.enters : Enters Try.prog 90 := f90_enters
theorem polygon_Locate.sound (N : Nat) : Sound Try.prog 90 (polygon_Locate.S N) := evFn_sound (specs_tab (polygon_Locate.tab N)) (inls_tab (polygon_Locate.tab N)) mixed 3 Try.func90 _ _ _
theorem polygon_Locate.eq (N : Nat) (x0 : List (Int × Int)) (x1 : Int × Int) : polygon_Locate.fn N (x0, x1) =
    (polygon_Check.fn N x0).bind fun r1 =>
    bif !(r1 == 0) then
      some (0, r1)
    else
      (plane_Check.fn N x1).bind fun r2 =>
      bif !(r2 == 0) then
        some (0, r2)
      else
        (polygon_locate.fn N (x0, x1)).bind fun r3 =>
        some (r3, 0) := by kernel_rfl

/-! ### volume_Has: skyway/volume.Has -/
def volume_Has.kp : List (Nat × List (Nat × Option (TypeId × Ty))) := []
noncomputable def volume_Has.G (N : Nat) : List (Nat × Spec) := [(21, .pure (plane_Check.S N)), (63, .pure (volume_Check.S N)), (90, .pure (polygon_Locate.S N))]
noncomputable def volume_Has.E (N : Nat) : Env := mkEnv (volume_Has.G N) N tyTab volume_Has.kp
noncomputable def volume_Has.fn (N : Nat) (x : (List (Int × Int) × Int × Int) × (Int × Int) × Int) : Option (Bool × Int) := evFn (volume_Has.E N) Try.prog 3 Try.f67 false [.agg (.pair (.sl 29 (.pair (.int .i64) (.int .i64))) (.pair (.int .i64) (.int .i64))), .agg (.pair (.int .i64) (.int .i64)), .cell (.int .i64)] [.val (.cell (.bool)), .val (.cell (.int .i64))] x
noncomputable def volume_Has.S (N : Nat) : PSpec := ⟨false, [.agg (.pair (.sl 29 (.pair (.int .i64) (.int .i64))) (.pair (.int .i64) (.int .i64))), .agg (.pair (.int .i64) (.int .i64)), .cell (.int .i64)], [.val (.cell (.bool)), .val (.cell (.int .i64))], volume_Has.fn N⟩
theorem f67_enters : Enters Try.prog 67 := ⟨Try.f67, Try.func67, by kernel_rfl, by kernel_rfl⟩
theorem volume_Has.tab (N : Nat) : TabOk Try.prog (volume_Has.G N) := ⟨⟨plane_Check.enters, plane_Check.sound N⟩, ⟨volume_Check.enters, volume_Check.sound N⟩, ⟨polygon_Locate.enters, polygon_Locate.sound N⟩, trivial⟩
theorem volume_Has.enters : Enters Try.prog 67 := f67_enters
theorem volume_Has.sound (N : Nat) : Sound Try.prog 67 (volume_Has.S N) := evFn_sound (specs_tab (volume_Has.tab N)) (inls_tab (volume_Has.tab N)) mixed 3 Try.func67 _ _ _
theorem volume_Has.eq (N : Nat) (x0 : List (Int × Int) × Int × Int) (x1 : Int × Int) (x2 : Int) : volume_Has.fn N (x0, x1, x2) =
    (volume_Check.fn N x0).bind fun r1 =>
    bif !(r1 == 0) then
      some (false, r1)
    else
      (plane_Check.fn N x1).bind fun r2 =>
      bif !(r2 == 0) then
        some (false, r2)
      else
      bif !(!(decide (x2 < 0))) || (!(decide (x2 < 0))) then
        bif (decide (x2 < 0)) || (!(decide (x2 < 0))) then
          bif (decide (x2 < 0)) || (decide (x2 > 60000)) then
            some (false, 4)
          else
            (polygon_Locate.fn N (x0.1, x1)).bind fun r3 =>
            bif !(decide (r3.1 ≥ 0)) || (decide (r3.1 ≥ 0)) then
              bif !(decide (r3.1 ≥ 0)) || (decide (r3.1 ≥ 0)) then
                bif !(decide (r3.1 ≥ 0)) || (decide (r3.1 ≥ 0)) then
                  bif (!(decide (r3.1 ≥ 0))) || (decide (r3.1 ≥ 0)) then
                    bif !((decide (r3.1 ≥ 0)) && (decide (x2 ≥ x0.2.1))) || ((decide (r3.1 ≥ 0)) && (decide (x2 ≥ x0.2.1))) then
                      bif !((decide (r3.1 ≥ 0)) && (decide (x2 ≥ x0.2.1))) || ((decide (r3.1 ≥ 0)) && (decide (x2 ≥ x0.2.1))) then
                        bif !((decide (r3.1 ≥ 0)) && (decide (x2 ≥ x0.2.1))) || ((decide (r3.1 ≥ 0)) && (decide (x2 ≥ x0.2.1))) then
                          bif (!((decide (r3.1 ≥ 0)) && (decide (x2 ≥ x0.2.1)))) || ((decide (r3.1 ≥ 0)) && (decide (x2 ≥ x0.2.1))) then
                            some ((((decide (r3.1 ≥ 0)) && (decide (x2 ≥ x0.2.1))) && (decide (x2 < x0.2.2))), r3.2)
                          else
                            none
                        else
                          none
                      else
                        none
                    else
                      none
                  else
                    none
                else
                  none
              else
                none
            else
              none
        else
          none
      else
        none := by kernel_rfl
theorem volume_Has.clean (N : Nat) (x0 : List (Int × Int) × Int × Int) (x1 : Int × Int) (x2 : Int) : volume_Has.fn N (x0, x1, x2) =
    (volume_Check.fn N x0).bind fun r1 =>
    bif !(r1 == 0) then
      some (false, r1)
    else
      (plane_Check.fn N x1).bind fun r2 =>
      bif !(r2 == 0) then
        some (false, r2)
      else
      bif (decide (x2 < 0)) || (decide (x2 > 60000)) then
        some (false, 4)
      else
        (polygon_Locate.fn N (x0.1, x1)).bind fun r3 =>
        some ((((decide (r3.1 ≥ 0)) && (decide (x2 ≥ x0.2.1))) && (decide (x2 < x0.2.2))), r3.2) := by
  rw [volume_Has.eq]; simp only [taut1, taut31, taut20, taut32, taut21, taut6, cond_true]

/-! ### sector_Place: skyway/sector.Place -/
def sector_Place.kp : List (Nat × List (Nat × Option (TypeId × Ty))) := [(2, [(2, none), (4, none), (13, none), (14, none), (15, none)]), (5, [(2, none), (4, none), (7, none), (13, none), (14, none), (15, none), (21, none), (22, none), (23, none)])]
noncomputable def sector_Place.G (N : Nat) : List (Nat × Spec) := [(67, .pure (volume_Has.S N))]
noncomputable def sector_Place.E (N : Nat) : Env := mkEnv (sector_Place.G N) N tyTab sector_Place.kp
noncomputable def sector_Place.fn (N : Nat) (x : List (ByteArray × List (List (Int × Int) × Int × Int)) × (Int × Int) × Int) : Option Int := evFn (sector_Place.E N) Try.prog 3 Try.f66 false [.cell (.sl 106 (.pair (.str) (.sl 113 (.pair (.sl 29 (.pair (.int .i64) (.int .i64))) (.pair (.int .i64) (.int .i64)))))), .agg (.pair (.int .i64) (.int .i64)), .cell (.int .i64)] [.val (.cell (.int .i64))] x
noncomputable def sector_Place.S (N : Nat) : PSpec := ⟨false, [.cell (.sl 106 (.pair (.str) (.sl 113 (.pair (.sl 29 (.pair (.int .i64) (.int .i64))) (.pair (.int .i64) (.int .i64)))))), .agg (.pair (.int .i64) (.int .i64)), .cell (.int .i64)], [.val (.cell (.int .i64))], sector_Place.fn N⟩
theorem f66_enters : Enters Try.prog 66 := ⟨Try.f66, Try.func66, by kernel_rfl, by kernel_rfl⟩
theorem sector_Place.tab (N : Nat) : TabOk Try.prog (sector_Place.G N) := ⟨⟨volume_Has.enters, volume_Has.sound N⟩, trivial⟩
theorem sector_Place.enters : Enters Try.prog 66 := f66_enters
theorem sector_Place.sound (N : Nat) : Sound Try.prog 66 (sector_Place.S N) := evFn_sound (specs_tab (sector_Place.tab N)) (inls_tab (sector_Place.tab N)) mixed 3 Try.func66 _ _ _
noncomputable def sector_Place.cd (N : Nat) (p : List Nat) : St → (Ex → St → Option Int) → Option Int := ev (sector_Place.E N) Try.prog (callD (sector_Place.E N) Try.prog 3) 0 (codeAt (bodyOf Try.f66) p)
noncomputable def sector_Place.fin : Ex → St → Option Int := endK Try.prog Try.f66 [.val (.cell (.int .i64))]
noncomputable def sector_Place.l0 (N : Nat) (x0 : List (ByteArray × List (List (Int × Int) × Int × Int))) (x1 : Int × Int) (x2 : Int) (k1 : Nat) (a2 : Int) : Option Int :=
  loopN (norm ((sector_Place.E N).keep 2) 0) (sector_Place.cd N [1, 0, 1, 0, 0]) k1
  ⟨[.any, .any, .sc (.int .i64 x2), .any, .ptr 0 0, .any, .any, .any, .any, .any, .any, .any, .any, .ros false 106 (.pair (.str) (.sl 113 (.pair (.sl 29 (.pair (.int .i64) (.int .i64))) (.pair (.int .i64) (.int .i64))))) x0, .sc (.int .i64 (x0.length : Int)), .sc (.int .i64 a2), .any, .any, .any, .any, .any, .any, .any, .any, .any, .any, .any, .any, .any, .any, .any, .any, .any, .any, .any, .any, .any, .any, .any, .any, .any, .any], [.cells [.sc (.int .i64 x1.1), .sc (.int .i64 x1.2)] 29]⟩
  (blockK 0 (seqK (sector_Place.cd N [1, 1]) sector_Place.fin))
noncomputable def sector_Place.l1 (N : Nat) (x0 : List (ByteArray × List (List (Int × Int) × Int × Int))) (x1 : Int × Int) (x2 : Int) (k1 : Nat) (a2 : Int) (k3 : Nat) (a4 : Int) : Option Int :=
  loopN (norm ((sector_Place.E N).keep 5) 0) (sector_Place.cd N [1, 0, 1, 0, 0, 1, 1, 0, 0, 1, 1, 0, 0]) k3
  ⟨[.any, .any, .sc (.int .i64 x2), .any, .ptr 0 0, .any, .any, .sc (.int .i64 a2), .any, .any, .any, .any, .any, .ros false 106 (.pair (.str) (.sl 113 (.pair (.sl 29 (.pair (.int .i64) (.int .i64))) (.pair (.int .i64) (.int .i64))))) x0, .sc (.int .i64 (x0.length : Int)), .sc (.int .i64 a2), .any, .any, .any, .any, .any, .ros false 113 (.pair (.sl 29 (.pair (.int .i64) (.int .i64))) (.pair (.int .i64) (.int .i64))) ((List.getD x0 (Int.toNat a2) ((⟨#[]⟩ : ByteArray), [])).2), .sc (.int .i64 (((List.getD x0 (Int.toNat a2) ((⟨#[]⟩ : ByteArray), [])).2).length : Int)), .sc (.int .i64 a4), .any, .any, .any, .any, .any, .any, .any, .any, .any, .any, .any, .any, .any, .any, .any, .any, .any, .any], [.cells [.sc (.int .i64 x1.1), .sc (.int .i64 x1.2)] 29]⟩
  (blockK 2 (blockK 1 (seqK (sector_Place.cd N [1, 0, 1, 0, 0, 1, 1, 1]) (loopK (norm ((sector_Place.E N).keep 2) 0) (sector_Place.cd N [1, 0, 1, 0, 0]) k1 (blockK 0 (seqK (sector_Place.cd N [1, 1]) sector_Place.fin))))))
theorem sector_Place.l1_zero (N : Nat) (x0 : List (ByteArray × List (List (Int × Int) × Int × Int))) (x1 : Int × Int) (x2 : Int) (k1 : Nat) (a2 : Int) (a4 : Int) : sector_Place.l1 N x0 x1 x2 k1 a2 0 a4 = none := by kernel_rfl
theorem sector_Place.l1_succ (N : Nat) (x0 : List (ByteArray × List (List (Int × Int) × Int × Int))) (x1 : Int × Int) (x2 : Int) (k1 : Nat) (a2 : Int) (k3 : Nat) (a4 : Int) : sector_Place.l1 N x0 x1 x2 k1 a2 (k3 + 1) a4 =
    bif decide (a4 < (((List.getD x0 (Int.toNat a2) ((⟨#[]⟩ : ByteArray), [])).2).length : Int)) then
      bif (decide (0 ≤ a4)) && (decide (a4 < (((List.getD x0 (Int.toNat a2) ((⟨#[]⟩ : ByteArray), [])).2).length : Int))) then
        (volume_Has.fn N (List.getD ((List.getD x0 (Int.toNat a2) ((⟨#[]⟩ : ByteArray), [])).2) (Int.toNat a4) ([], (0, 0)), x1, x2)).bind fun r5 =>
        bif !r5.1 || r5.1 then
          bif (!r5.1) || r5.1 then
            bif r5.1 && (r5.2 == 0) then
              some a2
            else
              sector_Place.l1 N x0 x1 x2 k1 a2 k3 (w (a4 + 1))
          else
            none
        else
          none
      else
        none
    else
      sector_Place.l0 N x0 x1 x2 k1 (w (a2 + 1)) := by kernel_rfl
theorem sector_Place.l0_zero (N : Nat) (x0 : List (ByteArray × List (List (Int × Int) × Int × Int))) (x1 : Int × Int) (x2 : Int) (a2 : Int) : sector_Place.l0 N x0 x1 x2 0 a2 = none := by kernel_rfl
theorem sector_Place.l0_succ (N : Nat) (x0 : List (ByteArray × List (List (Int × Int) × Int × Int))) (x1 : Int × Int) (x2 : Int) (k1 : Nat) (a2 : Int) : sector_Place.l0 N x0 x1 x2 (k1 + 1) a2 =
    bif decide (a2 < (x0.length : Int)) then
      bif (decide (0 ≤ a2)) && (decide (a2 < (x0.length : Int))) then
        sector_Place.l1 N x0 x1 x2 k1 a2 N 0
      else
        none
    else
      some (-1) := by kernel_rfl
theorem taut44 : ∀ p0 : Bool, ((!p0 || p0)) = true := by decide
theorem taut45 : ∀ p0 : Bool, (((!p0) || p0)) = true := by decide
theorem sector_Place.l1_clean (N : Nat) (x0 : List (ByteArray × List (List (Int × Int) × Int × Int))) (x1 : Int × Int) (x2 : Int) (k1 : Nat) (a2 : Int) (k3 : Nat) (a4 : Int) : sector_Place.l1 N x0 x1 x2 k1 a2 (k3 + 1) a4 =
    bif decide (a4 < (((List.getD x0 (Int.toNat a2) ((⟨#[]⟩ : ByteArray), [])).2).length : Int)) then
      bif (decide (0 ≤ a4)) && (decide (a4 < (((List.getD x0 (Int.toNat a2) ((⟨#[]⟩ : ByteArray), [])).2).length : Int))) then
        (volume_Has.fn N (List.getD ((List.getD x0 (Int.toNat a2) ((⟨#[]⟩ : ByteArray), [])).2) (Int.toNat a4) ([], (0, 0)), x1, x2)).bind fun r5 =>
        bif r5.1 && (r5.2 == 0) then
          some a2
        else
          sector_Place.l1 N x0 x1 x2 k1 a2 k3 (w (a4 + 1))
      else
        none
    else
      sector_Place.l0 N x0 x1 x2 k1 (w (a2 + 1)) := by
  rw [sector_Place.l1_succ]; simp only [taut44, taut45, cond_true]
theorem sector_Place.l1_cons (N : Nat) (x0 : List (ByteArray × List (List (Int × Int) × Int × Int))) (x1 : Int × Int) (x2 : Int) (k1 : Nat) (a2 : Int) (k3 : Nat) {pre r} {x} (hl : ((List.getD x0 (Int.toNat a2) ((⟨#[]⟩ : ByteArray), [])).2) = pre ++ x :: r) (hb : ((List.getD x0 (Int.toNat a2) ((⟨#[]⟩ : ByteArray), [])).2).length < 4611686018427387904) : sector_Place.l1 N x0 x1 x2 k1 a2 (k3 + 1) (pre.length : Int) =
    (volume_Has.fn N (x, x1, x2)).bind fun r5 =>
    bif r5.1 && (r5.2 == 0) then
      some a2
    else
      sector_Place.l1 N x0 x1 x2 k1 a2 k3 ((pre.length : Int) + 1) := by
  have hlen : ((List.getD x0 (Int.toNat a2) ((⟨#[]⟩ : ByteArray), [])).2).length = pre.length + 1 + r.length := by rw [hl]; simp; omega
  have e1 : decide ((pre.length : Int) < (((List.getD x0 (Int.toNat a2) ((⟨#[]⟩ : ByteArray), [])).2).length : Int)) = true := by rw [decide_eq_true_iff]; omega
  have e2 : decide (0 ≤ (pre.length : Int)) = true := by rw [decide_eq_true_iff]; omega
  have e4 : w ((pre.length : Int) + 1) = (pre.length : Int) + 1 := w_next hl hb
  have e5 : List.take pre.length ((List.getD x0 (Int.toNat a2) ((⟨#[]⟩ : ByteArray), [])).2) = pre := by rw [hl]; simp
  have e6 : decide ((pre.length : Int) ≤ (((List.getD x0 (Int.toNat a2) ((⟨#[]⟩ : ByteArray), [])).2).length : Int)) = true := by rw [decide_eq_true_iff]; omega
  have g0 : List.getD ((List.getD x0 (Int.toNat a2) ((⟨#[]⟩ : ByteArray), [])).2) pre.length ([], (0, 0)) = x := by rw [hl]; exact getD_mid pre x r _
  rw [sector_Place.l1_clean]
  simp -implicitDefEqProofs only [Int.toNat_natCast, e1, e2, e4, e6, g0, e5, Bool.and_true, Bool.true_and, Bool.true_or, cond_true]
theorem sector_Place.l1_nil (N : Nat) (x0 : List (ByteArray × List (List (Int × Int) × Int × Int))) (x1 : Int × Int) (x2 : Int) (k1 : Nat) (a2 : Int) (k3 : Nat) : sector_Place.l1 N x0 x1 x2 k1 a2 (k3 + 1) (((List.getD x0 (Int.toNat a2) ((⟨#[]⟩ : ByteArray), [])).2).length : Int) =
    sector_Place.l0 N x0 x1 x2 k1 (w (a2 + 1)) := by
  have e1 : decide ((((List.getD x0 (Int.toNat a2) ((⟨#[]⟩ : ByteArray), [])).2).length : Int) < (((List.getD x0 (Int.toNat a2) ((⟨#[]⟩ : ByteArray), [])).2).length : Int)) = false := by rw [decide_eq_false_iff_not]; omega
  rw [sector_Place.l1_clean]
  simp -implicitDefEqProofs only [e1, cond_false]
theorem sector_Place.l0_cons (N : Nat) (x0 : List (ByteArray × List (List (Int × Int) × Int × Int))) (x1 : Int × Int) (x2 : Int) (k1 : Nat) {pre r} {x} (hl : x0 = pre ++ x :: r) (hb : x0.length < 4611686018427387904) : sector_Place.l0 N x0 x1 x2 (k1 + 1) (pre.length : Int) =
    sector_Place.l1 N x0 x1 x2 k1 (pre.length : Int) N 0 := by
  have hlen : x0.length = pre.length + 1 + r.length := by rw [hl]; simp; omega
  have e1 : decide ((pre.length : Int) < (x0.length : Int)) = true := by rw [decide_eq_true_iff]; omega
  have e2 : decide (0 ≤ (pre.length : Int)) = true := by rw [decide_eq_true_iff]; omega
  have e4 : w ((pre.length : Int) + 1) = (pre.length : Int) + 1 := w_next hl hb
  have e5 : List.take pre.length x0 = pre := by rw [hl]; simp
  have e6 : decide ((pre.length : Int) ≤ (x0.length : Int)) = true := by rw [decide_eq_true_iff]; omega
  rw [sector_Place.l0_succ]
  simp -implicitDefEqProofs only [Int.toNat_natCast, e1, e2, e4, e6, e5, Bool.and_true, Bool.true_and, Bool.true_or, cond_true]
theorem sector_Place.l0_nil (N : Nat) (x0 : List (ByteArray × List (List (Int × Int) × Int × Int))) (x1 : Int × Int) (x2 : Int) (k1 : Nat) : sector_Place.l0 N x0 x1 x2 (k1 + 1) (x0.length : Int) =
    some (-1) := by
  have e1 : decide ((x0.length : Int) < (x0.length : Int)) = false := by rw [decide_eq_false_iff_not]; omega
  rw [sector_Place.l0_succ]
  simp -implicitDefEqProofs only [e1, cond_false]
theorem sector_Place.eq (N : Nat) (x0 : List (ByteArray × List (List (Int × Int) × Int × Int))) (x1 : Int × Int) (x2 : Int) : sector_Place.fn N (x0, x1, x2) =
    sector_Place.l0 N x0 x1 x2 N 0 := by kernel_rfl

/-! ### load_count: skyway/load.count -/
def load_count.kp : List (Nat × List (Nat × Option (TypeId × Ty))) := [(3, [(0, none), (2, none), (7, none), (16, none), (17, none), (18, none)])]
noncomputable def load_count.G (N : Nat) : List (Nat × Spec) := [(66, .pure (sector_Place.S N)), (95, .pure (tube_Point.S N))]
noncomputable def load_count.E (N : Nat) : Env := mkEnv (load_count.G N) N tyTab load_count.kp
noncomputable def load_count.fn (N : Nat) (x : List (ByteArray × List (List (Int × Int) × Int × Int)) × List (List ((Int × (Int × Int) × Int) × Int × Int)) × Int) : Option (List Int) := evFn (load_count.E N) Try.prog 3 Try.f73 false [.cell (.sl 106 (.pair (.str) (.sl 113 (.pair (.sl 29 (.pair (.int .i64) (.int .i64))) (.pair (.int .i64) (.int .i64)))))), .cell (.sl 40 (.sl 44 (.pair (.pair (.int .i64) (.pair (.pair (.int .i64) (.int .i64)) (.int .i64))) (.pair (.int .i64) (.int .i64))))), .cell (.int .i64)] [.own 3 (.int .i64)] x
noncomputable def load_count.S (N : Nat) : PSpec := ⟨false, [.cell (.sl 106 (.pair (.str) (.sl 113 (.pair (.sl 29 (.pair (.int .i64) (.int .i64))) (.pair (.int .i64) (.int .i64)))))), .cell (.sl 40 (.sl 44 (.pair (.pair (.int .i64) (.pair (.pair (.int .i64) (.int .i64)) (.int .i64))) (.pair (.int .i64) (.int .i64))))), .cell (.int .i64)], [.own 3 (.int .i64)], load_count.fn N⟩
theorem f73_enters : Enters Try.prog 73 := ⟨Try.f73, Try.func73, by kernel_rfl, by kernel_rfl⟩
theorem load_count.tab (N : Nat) : TabOk Try.prog (load_count.G N) := ⟨⟨sector_Place.enters, sector_Place.sound N⟩, ⟨tube_Point.enters, tube_Point.sound N⟩, trivial⟩
theorem load_count.enters : Enters Try.prog 73 := f73_enters
theorem load_count.sound (N : Nat) : Sound Try.prog 73 (load_count.S N) := evFn_sound (specs_tab (load_count.tab N)) (inls_tab (load_count.tab N)) mixed 3 Try.func73 _ _ _
noncomputable def load_count.cd (N : Nat) (p : List Nat) : St → (Ex → St → Option (List Int)) → Option (List Int) := ev (load_count.E N) Try.prog (callD (load_count.E N) Try.prog 3) 0 (codeAt (bodyOf Try.f73) p)
noncomputable def load_count.fin : Ex → St → Option (List Int) := endK Try.prog Try.f73 [.own 3 (.int .i64)]
noncomputable def load_count.l0 (N : Nat) (x0 : List (ByteArray × List (List (Int × Int) × Int × Int))) (x1 : List (List ((Int × (Int × Int) × Int) × Int × Int))) (x2 : Int) (k1 : Nat) (a2 : Int) (a3 : List Int) : Option (List Int) :=
  loopN (norm ((load_count.E N).keep 3) 0) (load_count.cd N [1, 1, 0, 1, 0, 0]) k1
  ⟨[.ros false 106 (.pair (.str) (.sl 113 (.pair (.sl 29 (.pair (.int .i64) (.int .i64))) (.pair (.int .i64) (.int .i64))))) x0, .any, .sc (.int .i64 x2), .any, .any, .any, .any, .own 0, .any, .any, .any, .any, .any, .any, .any, .any, .ros false 40 (.sl 44 (.pair (.pair (.int .i64) (.pair (.pair (.int .i64) (.int .i64)) (.int .i64))) (.pair (.int .i64) (.int .i64)))) x1, .sc (.int .i64 (x1.length : Int)), .sc (.int .i64 a2), .any, .any, .any, .any, .any, .any, .any, .any, .any, .any, .any, .any, .any, .any, .any, .any, .any, .any, .any, .any, .any, .any, .any, .any, .any, .any, .any, .any, .any, .any, .any, .any, .any, .any, .any, .any, .any, .any, .any, .any, .any, .any, .any, .any, .any], [.rows true 3 (.int .i64) a3]⟩
  (blockK 0 (seqK (load_count.cd N [1, 1, 1]) load_count.fin))
theorem load_count.l0_zero (N : Nat) (x0 : List (ByteArray × List (List (Int × Int) × Int × Int))) (x1 : List (List ((Int × (Int × Int) × Int) × Int × Int))) (x2 : Int) (a2 : Int) (a3 : List Int) : load_count.l0 N x0 x1 x2 0 a2 a3 = none := by kernel_rfl
theorem load_count.l0_succ (N : Nat) (x0 : List (ByteArray × List (List (Int × Int) × Int × Int))) (x1 : List (List ((Int × (Int × Int) × Int) × Int × Int))) (x2 : Int) (k1 : Nat) (a2 : Int) (a3 : List Int) : load_count.l0 N x0 x1 x2 (k1 + 1) a2 a3 =
    bif decide (a2 < (x1.length : Int)) then
      bif (decide (0 ≤ a2)) && (decide (a2 < (x1.length : Int))) then
        bif decide (0 < ((List.getD x1 (Int.toNat a2) []).length : Int)) then
          bif !(!(decide (x2 < (((List.getD (List.getD x1 (Int.toNat a2) []) 0 ((0, ((0, 0), 0)), (0, 0))).1).1)))) || (!(decide (x2 < (((List.getD (List.getD x1 (Int.toNat a2) []) 0 ((0, ((0, 0), 0)), (0, 0))).1).1)))) then
            bif !(!(decide (x2 < (((List.getD (List.getD x1 (Int.toNat a2) []) 0 ((0, ((0, 0), 0)), (0, 0))).1).1)))) || (!(decide (x2 < (((List.getD (List.getD x1 (Int.toNat a2) []) 0 ((0, ((0, 0), 0)), (0, 0))).1).1)))) then
              bif !(!(decide (x2 < (((List.getD (List.getD x1 (Int.toNat a2) []) 0 ((0, ((0, 0), 0)), (0, 0))).1).1)))) || (!(decide (x2 < (((List.getD (List.getD x1 (Int.toNat a2) []) 0 ((0, ((0, 0), 0)), (0, 0))).1).1)))) then
                bif !(!(decide (x2 < (((List.getD (List.getD x1 (Int.toNat a2) []) 0 ((0, ((0, 0), 0)), (0, 0))).1).1)))) || (!(decide (x2 < (((List.getD (List.getD x1 (Int.toNat a2) []) 0 ((0, ((0, 0), 0)), (0, 0))).1).1)))) then
                  bif ((decide (0 ≤ (w (((List.getD x1 (Int.toNat a2) []).length : Int) - 1)))) && (decide ((w (((List.getD x1 (Int.toNat a2) []).length : Int) - 1)) < ((List.getD x1 (Int.toNat a2) []).length : Int)))) || !(!(decide (x2 < (((List.getD (List.getD x1 (Int.toNat a2) []) 0 ((0, ((0, 0), 0)), (0, 0))).1).1)))) then
                    bif !(!(decide (x2 < (((List.getD (List.getD x1 (Int.toNat a2) []) 0 ((0, ((0, 0), 0)), (0, 0))).1).1)))) || (!(decide (x2 < (((List.getD (List.getD x1 (Int.toNat a2) []) 0 ((0, ((0, 0), 0)), (0, 0))).1).1)))) then
                      bif !(!(decide (x2 < (((List.getD (List.getD x1 (Int.toNat a2) []) 0 ((0, ((0, 0), 0)), (0, 0))).1).1)))) || (!(decide (x2 < (((List.getD (List.getD x1 (Int.toNat a2) []) 0 ((0, ((0, 0), 0)), (0, 0))).1).1)))) then
                        bif !(!(decide (x2 < (((List.getD (List.getD x1 (Int.toNat a2) []) 0 ((0, ((0, 0), 0)), (0, 0))).1).1)))) || (!(decide (x2 < (((List.getD (List.getD x1 (Int.toNat a2) []) 0 ((0, ((0, 0), 0)), (0, 0))).1).1)))) then
                          bif !(!(decide (x2 < (((List.getD (List.getD x1 (Int.toNat a2) []) 0 ((0, ((0, 0), 0)), (0, 0))).1).1)))) || (!(decide (x2 < (((List.getD (List.getD x1 (Int.toNat a2) []) 0 ((0, ((0, 0), 0)), (0, 0))).1).1)))) then
                            bif !(!(decide (x2 < (((List.getD (List.getD x1 (Int.toNat a2) []) 0 ((0, ((0, 0), 0)), (0, 0))).1).1)))) || (!(decide (x2 < (((List.getD (List.getD x1 (Int.toNat a2) []) 0 ((0, ((0, 0), 0)), (0, 0))).1).1)))) then
                              bif (decide (x2 < (((List.getD (List.getD x1 (Int.toNat a2) []) 0 ((0, ((0, 0), 0)), (0, 0))).1).1))) || (!(decide (x2 < (((List.getD (List.getD x1 (Int.toNat a2) []) 0 ((0, ((0, 0), 0)), (0, 0))).1).1)))) then
                                bif (decide (x2 < (((List.getD (List.getD x1 (Int.toNat a2) []) 0 ((0, ((0, 0), 0)), (0, 0))).1).1))) || (decide (x2 > (((List.getD (List.getD x1 (Int.toNat a2) []) (Int.toNat (w (((List.getD x1 (Int.toNat a2) []).length : Int) - 1))) ((0, ((0, 0), 0)), (0, 0))).1).1))) then
                                  load_count.l0 N x0 x1 x2 k1 (w (a2 + 1)) a3
                                else
                                  (tube_Point.fn N ((List.getD x1 (Int.toNat a2) []), x2)).bind fun r4 =>
                                  (sector_Place.fn N (x0, r4.1.2.1, r4.1.2.2)).bind fun r5 =>
                                  bif decide (r5 < 0) then
                                    bif (decide (0 ≤ (x0.length : Int))) && (decide ((x0.length : Int) < (a3.length : Int))) then
                                      bif decide ((Int.toNat (x0.length : Int)) < a3.length) then
                                        bif (decide (0 ≤ (x0.length : Int))) && (decide ((x0.length : Int) < (a3.length : Int))) then
                                          bif decide ((Int.toNat (x0.length : Int)) < a3.length) then
                                            load_count.l0 N x0 x1 x2 k1 (w (a2 + 1)) (List.set a3 (Int.toNat (x0.length : Int)) (w ((List.getD a3 (Int.toNat (x0.length : Int)) 0) + 1)))
                                          else
                                            none
                                        else
                                          none
                                      else
                                        none
                                    else
                                      none
                                  else
                                  bif (decide (0 ≤ r5)) && (decide (r5 < (a3.length : Int))) then
                                    bif decide ((Int.toNat r5) < a3.length) then
                                      bif (decide (0 ≤ r5)) && (decide (r5 < (a3.length : Int))) then
                                        bif decide ((Int.toNat r5) < a3.length) then
                                          load_count.l0 N x0 x1 x2 k1 (w (a2 + 1)) (List.set a3 (Int.toNat r5) (w ((List.getD a3 (Int.toNat r5) 0) + 1)))
                                        else
                                          none
                                      else
                                        none
                                    else
                                      none
                                  else
                                    none
                              else
                                none
                            else
                              none
                          else
                            none
                        else
                          none
                      else
                        none
                    else
                      none
                  else
                    none
                else
                  none
              else
                none
            else
              none
          else
            none
        else
          none
      else
        none
    else
      some a3 := by kernel_rfl
theorem load_count.l0_clean (N : Nat) (x0 : List (ByteArray × List (List (Int × Int) × Int × Int))) (x1 : List (List ((Int × (Int × Int) × Int) × Int × Int))) (x2 : Int) (k1 : Nat) (a2 : Int) (a3 : List Int) : load_count.l0 N x0 x1 x2 (k1 + 1) a2 a3 =
    bif decide (a2 < (x1.length : Int)) then
      bif (decide (0 ≤ a2)) && (decide (a2 < (x1.length : Int))) then
        bif decide (0 < ((List.getD x1 (Int.toNat a2) []).length : Int)) then
          bif ((decide (0 ≤ (w (((List.getD x1 (Int.toNat a2) []).length : Int) - 1)))) && (decide ((w (((List.getD x1 (Int.toNat a2) []).length : Int) - 1)) < ((List.getD x1 (Int.toNat a2) []).length : Int)))) || !(!(decide (x2 < (((List.getD (List.getD x1 (Int.toNat a2) []) 0 ((0, ((0, 0), 0)), (0, 0))).1).1)))) then
            bif (decide (x2 < (((List.getD (List.getD x1 (Int.toNat a2) []) 0 ((0, ((0, 0), 0)), (0, 0))).1).1))) || (decide (x2 > (((List.getD (List.getD x1 (Int.toNat a2) []) (Int.toNat (w (((List.getD x1 (Int.toNat a2) []).length : Int) - 1))) ((0, ((0, 0), 0)), (0, 0))).1).1))) then
              load_count.l0 N x0 x1 x2 k1 (w (a2 + 1)) a3
            else
              (tube_Point.fn N ((List.getD x1 (Int.toNat a2) []), x2)).bind fun r4 =>
              (sector_Place.fn N (x0, r4.1.2.1, r4.1.2.2)).bind fun r5 =>
              bif decide (r5 < 0) then
                bif (decide (0 ≤ (x0.length : Int))) && (decide ((x0.length : Int) < (a3.length : Int))) then
                  bif decide ((Int.toNat (x0.length : Int)) < a3.length) then
                    bif (decide (0 ≤ (x0.length : Int))) && (decide ((x0.length : Int) < (a3.length : Int))) then
                      bif decide ((Int.toNat (x0.length : Int)) < a3.length) then
                        load_count.l0 N x0 x1 x2 k1 (w (a2 + 1)) (List.set a3 (Int.toNat (x0.length : Int)) (w ((List.getD a3 (Int.toNat (x0.length : Int)) 0) + 1)))
                      else
                        none
                    else
                      none
                  else
                    none
                else
                  none
              else
              bif (decide (0 ≤ r5)) && (decide (r5 < (a3.length : Int))) then
                bif decide ((Int.toNat r5) < a3.length) then
                  bif (decide (0 ≤ r5)) && (decide (r5 < (a3.length : Int))) then
                    bif decide ((Int.toNat r5) < a3.length) then
                      load_count.l0 N x0 x1 x2 k1 (w (a2 + 1)) (List.set a3 (Int.toNat r5) (w ((List.getD a3 (Int.toNat r5) 0) + 1)))
                    else
                      none
                  else
                    none
                else
                  none
              else
                none
          else
            none
        else
          none
      else
        none
    else
      some a3 := by
  rw [load_count.l0_succ]; simp only [taut1, taut6, cond_true]
theorem load_count.l0_cons (N : Nat) (x0 : List (ByteArray × List (List (Int × Int) × Int × Int))) (x1 : List (List ((Int × (Int × Int) × Int) × Int × Int))) (x2 : Int) (k1 : Nat) (a3 : List Int) {pre r} {x} (hl : x1 = pre ++ x :: r) (hb : x1.length < 4611686018427387904) : load_count.l0 N x0 x1 x2 (k1 + 1) (pre.length : Int) a3 =
    bif decide (0 < (x.length : Int)) then
      bif ((decide (0 ≤ (w ((x.length : Int) - 1)))) && (decide ((w ((x.length : Int) - 1)) < (x.length : Int)))) || !(!(decide (x2 < (((List.getD x 0 ((0, ((0, 0), 0)), (0, 0))).1).1)))) then
        bif (decide (x2 < (((List.getD x 0 ((0, ((0, 0), 0)), (0, 0))).1).1))) || (decide (x2 > (((List.getD x (Int.toNat (w ((x.length : Int) - 1))) ((0, ((0, 0), 0)), (0, 0))).1).1))) then
          load_count.l0 N x0 x1 x2 k1 ((pre.length : Int) + 1) a3
        else
          (tube_Point.fn N (x, x2)).bind fun r4 =>
          (sector_Place.fn N (x0, r4.1.2.1, r4.1.2.2)).bind fun r5 =>
          bif decide (r5 < 0) then
            bif (decide (0 ≤ (x0.length : Int))) && (decide ((x0.length : Int) < (a3.length : Int))) then
              bif decide ((Int.toNat (x0.length : Int)) < a3.length) then
                bif (decide (0 ≤ (x0.length : Int))) && (decide ((x0.length : Int) < (a3.length : Int))) then
                  bif decide ((Int.toNat (x0.length : Int)) < a3.length) then
                    load_count.l0 N x0 x1 x2 k1 ((pre.length : Int) + 1) (List.set a3 (Int.toNat (x0.length : Int)) (w ((List.getD a3 (Int.toNat (x0.length : Int)) 0) + 1)))
                  else
                    none
                else
                  none
              else
                none
            else
              none
          else
          bif (decide (0 ≤ r5)) && (decide (r5 < (a3.length : Int))) then
            bif decide ((Int.toNat r5) < a3.length) then
              bif (decide (0 ≤ r5)) && (decide (r5 < (a3.length : Int))) then
                bif decide ((Int.toNat r5) < a3.length) then
                  load_count.l0 N x0 x1 x2 k1 ((pre.length : Int) + 1) (List.set a3 (Int.toNat r5) (w ((List.getD a3 (Int.toNat r5) 0) + 1)))
                else
                  none
              else
                none
            else
              none
          else
            none
      else
        none
    else
      none := by
  have hlen : x1.length = pre.length + 1 + r.length := by rw [hl]; simp; omega
  have e1 : decide ((pre.length : Int) < (x1.length : Int)) = true := by rw [decide_eq_true_iff]; omega
  have e2 : decide (0 ≤ (pre.length : Int)) = true := by rw [decide_eq_true_iff]; omega
  have e4 : w ((pre.length : Int) + 1) = (pre.length : Int) + 1 := w_next hl hb
  have e5 : List.take pre.length x1 = pre := by rw [hl]; simp
  have e6 : decide ((pre.length : Int) ≤ (x1.length : Int)) = true := by rw [decide_eq_true_iff]; omega
  have g0 : List.getD x1 pre.length [] = x := by rw [hl]; exact getD_mid pre x r _
  rw [load_count.l0_clean]
  simp -implicitDefEqProofs only [Int.toNat_natCast, e1, e2, e4, e6, g0, e5, Bool.and_true, Bool.true_and, Bool.true_or, cond_true]
theorem load_count.l0_nil (N : Nat) (x0 : List (ByteArray × List (List (Int × Int) × Int × Int))) (x1 : List (List ((Int × (Int × Int) × Int) × Int × Int))) (x2 : Int) (k1 : Nat) (a3 : List Int) : load_count.l0 N x0 x1 x2 (k1 + 1) (x1.length : Int) a3 =
    some a3 := by
  have e1 : decide ((x1.length : Int) < (x1.length : Int)) = false := by rw [decide_eq_false_iff_not]; omega
  rw [load_count.l0_clean]
  simp -implicitDefEqProofs only [e1, cond_false]
theorem load_count.eq (N : Nat) (x0 : List (ByteArray × List (List (Int × Int) × Int × Int))) (x1 : List (List ((Int × (Int × Int) × Int) × Int × Int))) (x2 : Int) : load_count.fn N (x0, x1, x2) =
    bif (((decide (0 ≤ (w ((x0.length : Int) + 1)))) && ((w ((x0.length : Int) + 1)) == (w ((x0.length : Int) + 1)))) && (decide ((w ((x0.length : Int) + 1)) ≤ 9223372036854775807))) && (decide (((w ((x0.length : Int) + 1)) * 8) ≤ 140737488355328)) then
      load_count.l0 N x0 x1 x2 N 0 (List.replicate (Int.toNat (w ((x0.length : Int) + 1))) (0 : Int))
    else
      none := by kernel_rfl

/-! ### load_Count: skyway/load.Count -/
def load_Count.kp : List (Nat × List (Nat × Option (TypeId × Ty))) := []
noncomputable def load_Count.G (N : Nat) : List (Nat × Spec) := [(72, .pure (load_check.S N)), (73, .pure (load_count.S N))]
noncomputable def load_Count.E (N : Nat) : Env := mkEnv (load_Count.G N) N tyTab load_Count.kp
noncomputable def load_Count.fn (N : Nat) (x : List (ByteArray × List (List (Int × Int) × Int × Int)) × List (List ((Int × (Int × Int) × Int) × Int × Int)) × Int) : Option (List Int × Int × Int) := evFn (load_Count.E N) Try.prog 3 Try.f29 false [.cell (.sl 106 (.pair (.str) (.sl 113 (.pair (.sl 29 (.pair (.int .i64) (.int .i64))) (.pair (.int .i64) (.int .i64)))))), .cell (.sl 40 (.sl 44 (.pair (.pair (.int .i64) (.pair (.pair (.int .i64) (.int .i64)) (.int .i64))) (.pair (.int .i64) (.int .i64))))), .cell (.int .i64)] [.own 3 (.int .i64), .val (.cell (.int .i64)), .val (.cell (.int .i64))] x
noncomputable def load_Count.S (N : Nat) : PSpec := ⟨false, [.cell (.sl 106 (.pair (.str) (.sl 113 (.pair (.sl 29 (.pair (.int .i64) (.int .i64))) (.pair (.int .i64) (.int .i64)))))), .cell (.sl 40 (.sl 44 (.pair (.pair (.int .i64) (.pair (.pair (.int .i64) (.int .i64)) (.int .i64))) (.pair (.int .i64) (.int .i64))))), .cell (.int .i64)], [.own 3 (.int .i64), .val (.cell (.int .i64)), .val (.cell (.int .i64))], load_Count.fn N⟩
theorem f29_enters : Enters Try.prog 29 := ⟨Try.f29, Try.func29, by kernel_rfl, by kernel_rfl⟩
theorem load_Count.tab (N : Nat) : TabOk Try.prog (load_Count.G N) := ⟨⟨load_check.enters, load_check.sound N⟩, ⟨load_count.enters, load_count.sound N⟩, trivial⟩
theorem load_Count.enters : Enters Try.prog 29 := f29_enters
theorem load_Count.sound (N : Nat) : Sound Try.prog 29 (load_Count.S N) := evFn_sound (specs_tab (load_Count.tab N)) (inls_tab (load_Count.tab N)) mixed 3 Try.func29 _ _ _
theorem load_Count.eq (N : Nat) (x0 : List (ByteArray × List (List (Int × Int) × Int × Int))) (x1 : List (List ((Int × (Int × Int) × Int) × Int × Int))) (x2 : Int) : load_Count.fn N (x0, x1, x2) =
    (load_check.fn N (x0, x1)).bind fun r1 =>
    bif !(r1 == 0) then
      some ([], 0, r1)
    else
    bif !(!(decide (x2 < 0))) || (!(decide (x2 < 0))) then
      bif (decide (x2 < 0)) || (!(decide (x2 < 0))) then
        bif (decide (x2 < 0)) || (decide (x2 > 200000)) then
          some ([], 0, 12)
        else
          (load_count.fn N (x0, x1, x2)).bind fun r2 =>
          bif (decide (0 ≤ (x0.length : Int))) && (decide (0 + (Int.toNat (x0.length : Int)) ≤ r2.length)) then
            bif (decide (0 ≤ (x0.length : Int))) && (decide ((x0.length : Int) < (r2.length : Int))) then
              bif decide ((Int.toNat (x0.length : Int)) < r2.length) then
                some ((List.take (Int.toNat (x0.length : Int)) r2), (List.getD r2 (Int.toNat (x0.length : Int)) 0), 0)
              else
                none
            else
              none
          else
            none
      else
        none
    else
      none := by kernel_rfl
theorem load_Count.clean (N : Nat) (x0 : List (ByteArray × List (List (Int × Int) × Int × Int))) (x1 : List (List ((Int × (Int × Int) × Int) × Int × Int))) (x2 : Int) : load_Count.fn N (x0, x1, x2) =
    (load_check.fn N (x0, x1)).bind fun r1 =>
    bif !(r1 == 0) then
      some ([], 0, r1)
    else
    bif (decide (x2 < 0)) || (decide (x2 > 200000)) then
      some ([], 0, 12)
    else
      (load_count.fn N (x0, x1, x2)).bind fun r2 =>
      bif (decide (0 ≤ (x0.length : Int))) && (decide (0 + (Int.toNat (x0.length : Int)) ≤ r2.length)) then
        bif (decide (0 ≤ (x0.length : Int))) && (decide ((x0.length : Int) < (r2.length : Int))) then
          bif decide ((Int.toNat (x0.length : Int)) < r2.length) then
            some ((List.take (Int.toNat (x0.length : Int)) r2), (List.getD r2 (Int.toNat (x0.length : Int)) 0), 0)
          else
            none
        else
          none
      else
        none := by
  rw [load_Count.eq]; simp only [taut1, taut6, cond_true]

/-! ### load_span: skyway/load.span -/
def load_span.kp : List (Nat × List (Nat × Option (TypeId × Ty))) := []
noncomputable def load_span.G (N : Nat) : List (Nat × Spec) := []
noncomputable def load_span.E (N : Nat) : Env := mkEnv (load_span.G N) N tyTab load_span.kp
noncomputable def load_span.fn (N : Nat) (x : Int × Int) : Option Int := evFn (load_span.E N) Try.prog 3 Try.f74 false [.agg (.pair (.int .i64) (.int .i64))] [.val (.cell (.int .i64))] x
noncomputable def load_span.S (N : Nat) : PSpec := ⟨false, [.agg (.pair (.int .i64) (.int .i64))], [.val (.cell (.int .i64))], load_span.fn N⟩
theorem f74_enters : Enters Try.prog 74 := ⟨Try.f74, Try.func74, by kernel_rfl, by kernel_rfl⟩
theorem load_span.tab (N : Nat) : TabOk Try.prog (load_span.G N) := trivial
theorem load_span.enters : Enters Try.prog 74 := f74_enters
theorem load_span.sound (N : Nat) : Sound Try.prog 74 (load_span.S N) := evFn_sound (specs_tab (load_span.tab N)) (inls_tab (load_span.tab N)) mixed 3 Try.func74 _ _ _
theorem load_span.eq (N : Nat) (x0 : Int × Int) : load_span.fn N x0 =
    bif !(!(decide (x0.1 < 0))) || (!(decide (x0.1 < 0))) then
      bif !(!(decide (x0.1 < 0))) || (!(decide (x0.1 < 0))) then
        bif (decide (x0.1 < 0)) || (!(decide (x0.1 < 0))) then
          bif !(!((decide (x0.1 < 0)) || (decide (x0.2 > 200001)))) || (!((decide (x0.1 < 0)) || (decide (x0.2 > 200001)))) then
            bif !(!((decide (x0.1 < 0)) || (decide (x0.2 > 200001)))) || (!((decide (x0.1 < 0)) || (decide (x0.2 > 200001)))) then
              bif !(!((decide (x0.1 < 0)) || (decide (x0.2 > 200001)))) || (!((decide (x0.1 < 0)) || (decide (x0.2 > 200001)))) then
                bif !(!((decide (x0.1 < 0)) || (decide (x0.2 > 200001)))) || (!((decide (x0.1 < 0)) || (decide (x0.2 > 200001)))) then
                  bif ((decide (x0.1 < 0)) || (decide (x0.2 > 200001))) || (!((decide (x0.1 < 0)) || (decide (x0.2 > 200001)))) then
                    bif ((decide (x0.1 < 0)) || (decide (x0.2 > 200001))) || (decide (x0.1 ≥ x0.2)) then
                      some 12
                    else
                    bif decide ((w (x0.2 - x0.1)) > 2000) then
                      some 2
                    else
                      some 0
                  else
                    none
                else
                  none
              else
                none
            else
              none
          else
            none
        else
          none
      else
        none
    else
      none := by kernel_rfl
theorem load_span.clean (N : Nat) (x0 : Int × Int) : load_span.fn N x0 =
    bif ((decide (x0.1 < 0)) || (decide (x0.2 > 200001))) || (decide (x0.1 ≥ x0.2)) then
      some 12
    else
    bif decide ((w (x0.2 - x0.1)) > 2000) then
      some 2
    else
      some 0 := by
  rw [load_span.eq]; simp only [taut8, taut1, taut10, taut6, cond_true]

/-! ### load_Peaks: skyway/load.Peaks -/
def load_Peaks.kp : List (Nat × List (Nat × Option (TypeId × Ty))) := [(9, [(0, none), (1, none), (5, none), (11, none), (12, none), (35, none), (36, none)]), (14, [(0, none), (1, none), (5, none), (11, none), (12, none), (14, none)]), (17, [(0, none), (1, none), (5, none), (11, none), (12, none), (14, none), (59, none), (60, none), (61, none)])]
noncomputable def load_Peaks.G (N : Nat) : List (Nat × Spec) := [(72, .pure (load_check.S N)), (73, .pure (load_count.S N)), (74, .pure (load_span.S N))]
noncomputable def load_Peaks.E (N : Nat) : Env := mkEnv (load_Peaks.G N) N tyTab load_Peaks.kp
noncomputable def load_Peaks.fn (N : Nat) (x : List (ByteArray × List (List (Int × Int) × Int × Int)) × List (List ((Int × (Int × Int) × Int) × Int × Int)) × Int × Int) : Option (List Int × List Int × Int) := evFn (load_Peaks.E N) Try.prog 3 Try.f32 false [.cell (.sl 106 (.pair (.str) (.sl 113 (.pair (.sl 29 (.pair (.int .i64) (.int .i64))) (.pair (.int .i64) (.int .i64)))))), .cell (.sl 40 (.sl 44 (.pair (.pair (.int .i64) (.pair (.pair (.int .i64) (.int .i64)) (.int .i64))) (.pair (.int .i64) (.int .i64))))), .agg (.pair (.int .i64) (.int .i64))] [.own 3 (.int .i64), .own 3 (.int .i64), .val (.cell (.int .i64))] x
noncomputable def load_Peaks.S (N : Nat) : PSpec := ⟨false, [.cell (.sl 106 (.pair (.str) (.sl 113 (.pair (.sl 29 (.pair (.int .i64) (.int .i64))) (.pair (.int .i64) (.int .i64)))))), .cell (.sl 40 (.sl 44 (.pair (.pair (.int .i64) (.pair (.pair (.int .i64) (.int .i64)) (.int .i64))) (.pair (.int .i64) (.int .i64))))), .agg (.pair (.int .i64) (.int .i64))], [.own 3 (.int .i64), .own 3 (.int .i64), .val (.cell (.int .i64))], load_Peaks.fn N⟩
theorem f32_enters : Enters Try.prog 32 := ⟨Try.f32, Try.func32, by kernel_rfl, by kernel_rfl⟩
theorem load_Peaks.tab (N : Nat) : TabOk Try.prog (load_Peaks.G N) := ⟨⟨load_check.enters, load_check.sound N⟩, ⟨load_count.enters, load_count.sound N⟩, ⟨load_span.enters, load_span.sound N⟩, trivial⟩
theorem load_Peaks.enters : Enters Try.prog 32 := f32_enters
theorem load_Peaks.sound (N : Nat) : Sound Try.prog 32 (load_Peaks.S N) := evFn_sound (specs_tab (load_Peaks.tab N)) (inls_tab (load_Peaks.tab N)) mixed 3 Try.func32 _ _ _
noncomputable def load_Peaks.cd (N : Nat) (p : List Nat) : St → (Ex → St → Option (List Int × List Int × Int)) → Option (List Int × List Int × Int) := ev (load_Peaks.E N) Try.prog (callD (load_Peaks.E N) Try.prog 3) 0 (codeAt (bodyOf Try.f32) p)
noncomputable def load_Peaks.fin : Ex → St → Option (List Int × List Int × Int) := endK Try.prog Try.f32 [.own 3 (.int .i64), .own 3 (.int .i64), .val (.cell (.int .i64))]
noncomputable def load_Peaks.l0 (N : Nat) (x0 : List (ByteArray × List (List (Int × Int) × Int × Int))) (x1 : List (List ((Int × (Int × Int) × Int) × Int × Int))) (x2 : Int × Int) (k3 : Nat) (a4 : Int) (a5 : List Int) : Option (List Int × List Int × Int) :=
  loopN (norm ((load_Peaks.E N).keep 9) 0) (load_Peaks.cd N [1, 1, 1, 1, 0, 1, 0, 0]) k3
  ⟨[.ros false 106 (.pair (.str) (.sl 113 (.pair (.sl 29 (.pair (.int .i64) (.int .i64))) (.pair (.int .i64) (.int .i64))))) x0, .ros false 40 (.sl 44 (.pair (.pair (.int .i64) (.pair (.pair (.int .i64) (.int .i64)) (.int .i64))) (.pair (.int .i64) (.int .i64)))) x1, .any, .any, .any, .ptr 0 0, .any, .any, .any, .any, .any, .own 1, .own 2, .any, .any, .any, .any, .any, .any, .any, .any, .any, .any, .any, .any, .any, .any, .any, .any, .any, .any, .any, .any, .any, .any, .sc (.int .i64 ((List.replicate (Int.toNat (x0.length : Int)) (0 : Int)).length : Int)), .sc (.int .i64 a4), .any, .any, .any, .any, .any, .any, .any, .any, .any, .any, .any, .any, .any, .any, .any, .any, .any, .any, .any, .any, .any, .any, .any, .any, .any, .any, .any, .any, .any, .any, .any, .any, .any, .any, .any, .any, .any, .any, .any, .any, .any, .any, .any, .any, .any, .any], [.cells [.sc (.int .i64 x2.1), .sc (.int .i64 x2.2)] 63, .rows true 3 (.int .i64) (List.replicate (Int.toNat (x0.length : Int)) (0 : Int)), .rows true 3 (.int .i64) a5]⟩
  (blockK 0 (seqK (load_Peaks.cd N [1, 1, 1, 1, 1]) load_Peaks.fin))
noncomputable def load_Peaks.l1 (N : Nat) (x0 : List (ByteArray × List (List (Int × Int) × Int × Int))) (x1 : List (List ((Int × (Int × Int) × Int) × Int × Int))) (x2 : Int × Int) (k6 : Nat) (a7 : Int) (a8 : List Int) (a9 : List Int) : Option (List Int × List Int × Int) :=
  loopN (norm ((load_Peaks.E N).keep 14) 0) (load_Peaks.cd N [1, 1, 1, 1, 1, 0, 1, 0, 0]) k6
  ⟨[.ros false 106 (.pair (.str) (.sl 113 (.pair (.sl 29 (.pair (.int .i64) (.int .i64))) (.pair (.int .i64) (.int .i64))))) x0, .ros false 40 (.sl 44 (.pair (.pair (.int .i64) (.pair (.pair (.int .i64) (.int .i64)) (.int .i64))) (.pair (.int .i64) (.int .i64)))) x1, .any, .any, .any, .ptr 0 0, .any, .any, .any, .any, .any, .own 1, .own 2, .any, .sc (.int .i64 a7), .any, .any, .any, .any, .any, .any, .any, .any, .any, .any, .any, .any, .any, .any, .any, .any, .any, .any, .any, .any, .any, .any, .any, .any, .any, .any, .any, .any, .any, .any, .any, .any, .any, .any, .any, .any, .any, .any, .any, .any, .any, .any, .any, .any, .any, .any, .any, .any, .any, .any, .any, .any, .any, .any, .any, .any, .any, .any, .any, .any, .any, .any, .any, .any, .any, .any, .any, .any], [.cells [.sc (.int .i64 x2.1), .sc (.int .i64 x2.2)] 63, .rows true 3 (.int .i64) a8, .rows true 3 (.int .i64) a9]⟩
  (blockK 2 (seqK (load_Peaks.cd N [1, 1, 1, 1, 1, 1]) load_Peaks.fin))
noncomputable def load_Peaks.l2 (N : Nat) (x0 : List (ByteArray × List (List (Int × Int) × Int × Int))) (x1 : List (List ((Int × (Int × Int) × Int) × Int × Int))) (x2 : Int × Int) (k6 : Nat) (a7 : Int) (r10 : List Int) (k11 : Nat) (a12 : Int) (a13 : List Int) (a14 : List Int) : Option (List Int × List Int × Int) :=
  loopN (norm ((load_Peaks.E N).keep 17) 0) (load_Peaks.cd N [1, 1, 1, 1, 1, 0, 1, 0, 0, 1, 0, 0, 1, 0, 0]) k11
  ⟨[.ros false 106 (.pair (.str) (.sl 113 (.pair (.sl 29 (.pair (.int .i64) (.int .i64))) (.pair (.int .i64) (.int .i64))))) x0, .ros false 40 (.sl 44 (.pair (.pair (.int .i64) (.pair (.pair (.int .i64) (.int .i64)) (.int .i64))) (.pair (.int .i64) (.int .i64)))) x1, .any, .any, .any, .ptr 0 0, .any, .any, .any, .any, .any, .own 1, .own 2, .any, .sc (.int .i64 a7), .any, .any, .any, .any, .any, .any, .any, .any, .any, .any, .any, .any, .any, .any, .any, .any, .any, .any, .any, .any, .any, .any, .any, .any, .any, .any, .any, .any, .any, .any, .any, .any, .any, .any, .any, .any, .any, .any, .any, .any, .any, .any, .any, .any, .osl 3 0 (Int.toNat (x0.length : Int)), .sc (.int .i64 ((Int.toNat (x0.length : Int) : Nat) : Int)), .sc (.int .i64 a12), .any, .any, .any, .any, .any, .any, .any, .any, .any, .any, .any, .any, .any, .any, .any, .any, .any, .any, .any, .any, .any], [.cells [.sc (.int .i64 x2.1), .sc (.int .i64 x2.2)] 63, .rows true 3 (.int .i64) a13, .rows true 3 (.int .i64) a14, .rows true 3 (.int .i64) r10]⟩
  (blockK 4 (blockK 3 (seqK (load_Peaks.cd N [1, 1, 1, 1, 1, 0, 1, 0, 0, 1, 1]) (loopK (norm ((load_Peaks.E N).keep 14) 0) (load_Peaks.cd N [1, 1, 1, 1, 1, 0, 1, 0, 0]) k6 (blockK 2 (seqK (load_Peaks.cd N [1, 1, 1, 1, 1, 1]) load_Peaks.fin))))))
theorem load_Peaks.l2_zero (N : Nat) (x0 : List (ByteArray × List (List (Int × Int) × Int × Int))) (x1 : List (List ((Int × (Int × Int) × Int) × Int × Int))) (x2 : Int × Int) (k6 : Nat) (a7 : Int) (r10 : List Int) (a12 : Int) (a13 : List Int) (a14 : List Int) : load_Peaks.l2 N x0 x1 x2 k6 a7 r10 0 a12 a13 a14 = none := by kernel_rfl
theorem load_Peaks.l2_succ (N : Nat) (x0 : List (ByteArray × List (List (Int × Int) × Int × Int))) (x1 : List (List ((Int × (Int × Int) × Int) × Int × Int))) (x2 : Int × Int) (k6 : Nat) (a7 : Int) (r10 : List Int) (k11 : Nat) (a12 : Int) (a13 : List Int) (a14 : List Int) : load_Peaks.l2 N x0 x1 x2 k6 a7 r10 (k11 + 1) a12 a13 a14 =
    bif decide (a12 < ((Int.toNat (x0.length : Int) : Nat) : Int)) then
      bif (decide (0 ≤ a12)) && (decide (a12 < ((Int.toNat (x0.length : Int) : Nat) : Int))) then
        bif decide ((0 + (Int.toNat a12)) < r10.length) then
          bif (decide (0 ≤ a12)) && (decide (a12 < (a13.length : Int))) then
            bif decide ((Int.toNat a12) < a13.length) then
              bif decide ((List.getD r10 (0 + (Int.toNat a12)) 0) > (List.getD a13 (Int.toNat a12) 0)) then
                bif (decide (0 ≤ a12)) && (decide (a12 < (a13.length : Int))) then
                  bif decide ((Int.toNat a12) < a13.length) then
                    bif (decide (0 ≤ a12)) && (decide (a12 < (a14.length : Int))) then
                      bif decide ((Int.toNat a12) < a14.length) then
                        load_Peaks.l2 N x0 x1 x2 k6 a7 r10 k11 (w (a12 + 1)) (List.set a13 (Int.toNat a12) (List.getD r10 (0 + (Int.toNat a12)) 0)) (List.set a14 (Int.toNat a12) a7)
                      else
                        none
                    else
                      none
                  else
                    none
                else
                  none
              else
                load_Peaks.l2 N x0 x1 x2 k6 a7 r10 k11 (w (a12 + 1)) a13 a14
            else
              none
          else
            none
        else
          none
      else
        none
    else
      load_Peaks.l1 N x0 x1 x2 k6 (w (a7 + 1)) a13 a14 := by kernel_rfl
theorem load_Peaks.l1_zero (N : Nat) (x0 : List (ByteArray × List (List (Int × Int) × Int × Int))) (x1 : List (List ((Int × (Int × Int) × Int) × Int × Int))) (x2 : Int × Int) (a7 : Int) (a8 : List Int) (a9 : List Int) : load_Peaks.l1 N x0 x1 x2 0 a7 a8 a9 = none := by kernel_rfl
theorem load_Peaks.l1_succ (N : Nat) (x0 : List (ByteArray × List (List (Int × Int) × Int × Int))) (x1 : List (List ((Int × (Int × Int) × Int) × Int × Int))) (x2 : Int × Int) (k6 : Nat) (a7 : Int) (a8 : List Int) (a9 : List Int) : load_Peaks.l1 N x0 x1 x2 (k6 + 1) a7 a8 a9 =
    bif decide (a7 < x2.2) then
      (load_count.fn N (x0, x1, a7)).bind fun r10 =>
      bif (decide (0 ≤ (x0.length : Int))) && (decide (0 + (Int.toNat (x0.length : Int)) ≤ r10.length)) then
        load_Peaks.l2 N x0 x1 x2 k6 a7 r10 N 0 a8 a9
      else
        none
    else
      some (a8, a9, 0) := by kernel_rfl
theorem load_Peaks.l0_zero (N : Nat) (x0 : List (ByteArray × List (List (Int × Int) × Int × Int))) (x1 : List (List ((Int × (Int × Int) × Int) × Int × Int))) (x2 : Int × Int) (a4 : Int) (a5 : List Int) : load_Peaks.l0 N x0 x1 x2 0 a4 a5 = none := by kernel_rfl
theorem load_Peaks.l0_succ (N : Nat) (x0 : List (ByteArray × List (List (Int × Int) × Int × Int))) (x1 : List (List ((Int × (Int × Int) × Int) × Int × Int))) (x2 : Int × Int) (k3 : Nat) (a4 : Int) (a5 : List Int) : load_Peaks.l0 N x0 x1 x2 (k3 + 1) a4 a5 =
    bif decide (a4 < ((List.replicate (Int.toNat (x0.length : Int)) (0 : Int)).length : Int)) then
      bif (decide (0 ≤ a4)) && (decide (a4 < (a5.length : Int))) then
        bif decide ((Int.toNat a4) < a5.length) then
          load_Peaks.l0 N x0 x1 x2 k3 (w (a4 + 1)) (List.set a5 (Int.toNat a4) x2.1)
        else
          none
      else
        none
    else
      load_Peaks.l1 N x0 x1 x2 N x2.1 (List.replicate (Int.toNat (x0.length : Int)) (0 : Int)) a5 := by kernel_rfl
theorem load_Peaks.eq (N : Nat) (x0 : List (ByteArray × List (List (Int × Int) × Int × Int))) (x1 : List (List ((Int × (Int × Int) × Int) × Int × Int))) (x2 : Int × Int) : load_Peaks.fn N (x0, x1, x2) =
    (load_check.fn N (x0, x1)).bind fun r1 =>
    bif !(r1 == 0) then
      some ([], [], r1)
    else
      (load_span.fn N x2).bind fun r2 =>
      bif !(r2 == 0) then
        some ([], [], r2)
      else
      bif (((decide (0 ≤ (x0.length : Int))) && ((x0.length : Int) == (x0.length : Int))) && (decide ((x0.length : Int) ≤ 9223372036854775807))) && (decide (((x0.length : Int) * 8) ≤ 140737488355328)) then
        bif (((decide (0 ≤ (x0.length : Int))) && ((x0.length : Int) == (x0.length : Int))) && (decide ((x0.length : Int) ≤ 9223372036854775807))) && (decide (((x0.length : Int) * 8) ≤ 140737488355328)) then
          load_Peaks.l0 N x0 x1 x2 N 0 (List.replicate (Int.toNat (x0.length : Int)) (0 : Int))
        else
          none
      else
        none := by kernel_rfl

/-! ### load_Over: skyway/load.Over -/
def load_Over.kp : List (Nat × List (Nat × Option (TypeId × Ty))) := [(12, [(0, none), (1, none), (2, none), (7, none), (12, some (73, .pair (.int .i64) (.pair (.int .i64) (.int .i64)))), (13, none), (14, none)]), (15, [(0, none), (1, none), (2, none), (7, none), (12, none), (13, none), (14, none), (50, none), (51, none), (52, none)])]
noncomputable def load_Over.G (N : Nat) : List (Nat × Spec) := [(72, .pure (load_check.S N)), (73, .pure (load_count.S N)), (74, .pure (load_span.S N))]
noncomputable def load_Over.E (N : Nat) : Env := mkEnv (load_Over.G N) N tyTab load_Over.kp
noncomputable def load_Over.fn (N : Nat) (x : List (ByteArray × List (List (Int × Int) × Int × Int)) × List (List ((Int × (Int × Int) × Int) × Int × Int)) × List Int × Int × Int) : Option (List (Int × Int × Int) × Int) := evFn (load_Over.E N) Try.prog 3 Try.f35 false [.cell (.sl 106 (.pair (.str) (.sl 113 (.pair (.sl 29 (.pair (.int .i64) (.int .i64))) (.pair (.int .i64) (.int .i64)))))), .cell (.sl 40 (.sl 44 (.pair (.pair (.int .i64) (.pair (.pair (.int .i64) (.int .i64)) (.int .i64))) (.pair (.int .i64) (.int .i64))))), .cell (.sl 3 (.int .i64)), .agg (.pair (.int .i64) (.int .i64))] [.own 73 (.pair (.int .i64) (.pair (.int .i64) (.int .i64))), .val (.cell (.int .i64))] x
noncomputable def load_Over.S (N : Nat) : PSpec := ⟨false, [.cell (.sl 106 (.pair (.str) (.sl 113 (.pair (.sl 29 (.pair (.int .i64) (.int .i64))) (.pair (.int .i64) (.int .i64)))))), .cell (.sl 40 (.sl 44 (.pair (.pair (.int .i64) (.pair (.pair (.int .i64) (.int .i64)) (.int .i64))) (.pair (.int .i64) (.int .i64))))), .cell (.sl 3 (.int .i64)), .agg (.pair (.int .i64) (.int .i64))], [.own 73 (.pair (.int .i64) (.pair (.int .i64) (.int .i64))), .val (.cell (.int .i64))], load_Over.fn N⟩
theorem f35_enters : Enters Try.prog 35 := ⟨Try.f35, Try.func35, by kernel_rfl, by kernel_rfl⟩
theorem load_Over.tab (N : Nat) : TabOk Try.prog (load_Over.G N) := ⟨⟨load_check.enters, load_check.sound N⟩, ⟨load_count.enters, load_count.sound N⟩, ⟨load_span.enters, load_span.sound N⟩, trivial⟩
theorem load_Over.enters : Enters Try.prog 35 := f35_enters
theorem load_Over.sound (N : Nat) : Sound Try.prog 35 (load_Over.S N) := evFn_sound (specs_tab (load_Over.tab N)) (inls_tab (load_Over.tab N)) mixed 3 Try.func35 _ _ _
noncomputable def load_Over.cd (N : Nat) (p : List Nat) : St → (Ex → St → Option (List (Int × Int × Int) × Int)) → Option (List (Int × Int × Int) × Int) := ev (load_Over.E N) Try.prog (callD (load_Over.E N) Try.prog 3) 0 (codeAt (bodyOf Try.f35) p)
noncomputable def load_Over.fin : Ex → St → Option (List (Int × Int × Int) × Int) := endK Try.prog Try.f35 [.own 73 (.pair (.int .i64) (.pair (.int .i64) (.int .i64))), .val (.cell (.int .i64))]
noncomputable def load_Over.l0 (N : Nat) (x0 : List (ByteArray × List (List (Int × Int) × Int × Int))) (x1 : List (List ((Int × (Int × Int) × Int) × Int × Int))) (x2 : List Int) (x3 : Int × Int) (k3 : Nat) (a4 : Int) (a5 : List (Int × Int × Int)) (a6 : List Int) : Option (List (Int × Int × Int) × Int) :=
  loopN (norm ((load_Over.E N).keep 12) 0) (load_Over.cd N [1, 1, 1, 1, 1, 1, 0, 1, 0, 0]) k3
  ⟨[.ros false 106 (.pair (.str) (.sl 113 (.pair (.sl 29 (.pair (.int .i64) (.int .i64))) (.pair (.int .i64) (.int .i64))))) x0, .ros false 40 (.sl 44 (.pair (.pair (.int .i64) (.pair (.pair (.int .i64) (.int .i64)) (.int .i64))) (.pair (.int .i64) (.int .i64)))) x1, .ros false 3 (.int .i64) x2, .any, .any, .any, .any, .ptr 0 0, .any, .any, .any, .any, .own 1, .own 2, .sc (.int .i64 a4), .any, .any, .any, .any, .any, .any, .any, .any, .any, .any, .any, .any, .any, .any, .any, .any, .any, .any, .any, .any, .any, .any, .any, .any, .any, .any, .any, .any, .any, .any, .any, .any, .any, .any, .any, .any, .any, .any, .any, .any, .any, .any, .any, .any, .any, .any, .any, .any, .any, .any, .any, .any, .any, .any, .any, .any, .any, .any, .any, .any, .any, .any, .any, .any, .any, .any, .any, .any, .any, .any, .any, .any, .any, .any, .any, .any, .any, .any, .any, .any, .any], [.cells [.sc (.int .i64 x3.1), .sc (.int .i64 x3.2)] 63, .rows true 73 (.pair (.int .i64) (.pair (.int .i64) (.int .i64))) a5, .rows true 3 (.int .i64) a6]⟩
  (blockK 0 (seqK (load_Over.cd N [1, 1, 1, 1, 1, 1, 1]) load_Over.fin))
noncomputable def load_Over.l1 (N : Nat) (x0 : List (ByteArray × List (List (Int × Int) × Int × Int))) (x1 : List (List ((Int × (Int × Int) × Int) × Int × Int))) (x2 : List Int) (x3 : Int × Int) (k3 : Nat) (a4 : Int) (r7 : List Int) (k8 : Nat) (a9 : Int) (a10 : List (Int × Int × Int)) (a11 : List Int) : Option (List (Int × Int × Int) × Int) :=
  loopN (norm ((load_Over.E N).keep 15) 0) (load_Over.cd N [1, 1, 1, 1, 1, 1, 0, 1, 0, 0, 1, 0, 0, 1, 0, 0]) k8
  ⟨[.ros false 106 (.pair (.str) (.sl 113 (.pair (.sl 29 (.pair (.int .i64) (.int .i64))) (.pair (.int .i64) (.int .i64))))) x0, .ros false 40 (.sl 44 (.pair (.pair (.int .i64) (.pair (.pair (.int .i64) (.int .i64)) (.int .i64))) (.pair (.int .i64) (.int .i64)))) x1, .ros false 3 (.int .i64) x2, .any, .any, .any, .any, .ptr 0 0, .any, .any, .any, .any, .own 1, .own 2, .sc (.int .i64 a4), .any, .any, .any, .any, .any, .any, .any, .any, .any, .any, .any, .any, .any, .any, .any, .any, .any, .any, .any, .any, .any, .any, .any, .any, .any, .any, .any, .any, .any, .any, .any, .any, .any, .any, .any, .osl 3 0 (Int.toNat (x0.length : Int)), .sc (.int .i64 ((Int.toNat (x0.length : Int) : Nat) : Int)), .sc (.int .i64 a9), .any, .any, .any, .any, .any, .any, .any, .any, .any, .any, .any, .any, .any, .any, .any, .any, .any, .any, .any, .any, .any, .any, .any, .any, .any, .any, .any, .any, .any, .any, .any, .any, .any, .any, .any, .any, .any, .any, .any, .any, .any, .any, .any], [.cells [.sc (.int .i64 x3.1), .sc (.int .i64 x3.2)] 63, .rows true 73 (.pair (.int .i64) (.pair (.int .i64) (.int .i64))) a10, .rows true 3 (.int .i64) a11, .rows true 3 (.int .i64) r7]⟩
  (blockK 2 (blockK 1 (seqK (load_Over.cd N [1, 1, 1, 1, 1, 1, 0, 1, 0, 0, 1, 1]) (loopK (norm ((load_Over.E N).keep 12) 0) (load_Over.cd N [1, 1, 1, 1, 1, 1, 0, 1, 0, 0]) k3 (blockK 0 (seqK (load_Over.cd N [1, 1, 1, 1, 1, 1, 1]) load_Over.fin))))))
theorem load_Over.l1_zero (N : Nat) (x0 : List (ByteArray × List (List (Int × Int) × Int × Int))) (x1 : List (List ((Int × (Int × Int) × Int) × Int × Int))) (x2 : List Int) (x3 : Int × Int) (k3 : Nat) (a4 : Int) (r7 : List Int) (a9 : Int) (a10 : List (Int × Int × Int)) (a11 : List Int) : load_Over.l1 N x0 x1 x2 x3 k3 a4 r7 0 a9 a10 a11 = none := by kernel_rfl
theorem load_Over.l1_succ (N : Nat) (x0 : List (ByteArray × List (List (Int × Int) × Int × Int))) (x1 : List (List ((Int × (Int × Int) × Int) × Int × Int))) (x2 : List Int) (x3 : Int × Int) (k3 : Nat) (a4 : Int) (r7 : List Int) (k8 : Nat) (a9 : Int) (a10 : List (Int × Int × Int)) (a11 : List Int) : load_Over.l1 N x0 x1 x2 x3 k3 a4 r7 (k8 + 1) a9 a10 a11 =
    bif decide (a9 < ((Int.toNat (x0.length : Int) : Nat) : Int)) then
      bif (decide (0 ≤ a9)) && (decide (a9 < ((Int.toNat (x0.length : Int) : Nat) : Int))) then
        bif decide ((0 + (Int.toNat a9)) < r7.length) then
          bif (decide (0 ≤ a9)) && (decide (a9 < (x2.length : Int))) then
            bif decide ((List.getD r7 (0 + (Int.toNat a9)) 0) ≤ (List.getD x2 (Int.toNat a9) 0)) then
              bif (decide (0 ≤ a9)) && (decide (a9 < (a11.length : Int))) then
                bif decide ((Int.toNat a9) < a11.length) then
                  load_Over.l1 N x0 x1 x2 x3 k3 a4 r7 k8 (w (a9 + 1)) a10 (List.set a11 (Int.toNat a9) 0)
                else
                  none
              else
                none
            else
            bif (decide (0 ≤ a9)) && (decide (a9 < (a11.length : Int))) then
              bif decide ((Int.toNat a9) < a11.length) then
                bif decide ((List.getD a11 (Int.toNat a9) 0) > 0) then
                  bif (decide (0 ≤ a9)) && (decide (a9 < (a11.length : Int))) then
                    bif decide ((Int.toNat a9) < a11.length) then
                      bif (decide (0 ≤ (w ((List.getD a11 (Int.toNat a9) 0) - 1)))) && (decide ((w ((List.getD a11 (Int.toNat a9) 0) - 1)) < (a10.length : Int))) then
                        bif decide ((Int.toNat (w ((List.getD a11 (Int.toNat a9) 0) - 1))) < a10.length) then
                          load_Over.l1 N x0 x1 x2 x3 k3 a4 r7 k8 (w (a9 + 1)) (List.set a10 (Int.toNat (w ((List.getD a11 (Int.toNat a9) 0) - 1))) ((List.getD a10 (Int.toNat (w ((List.getD a11 (Int.toNat a9) 0) - 1))) (0, (0, 0))).1, (((List.getD a10 (Int.toNat (w ((List.getD a11 (Int.toNat a9) 0) - 1))) (0, (0, 0))).2).1, a4))) a11
                        else
                          none
                      else
                        none
                    else
                      none
                  else
                    none
                else
                bif decide ((a10.length + 1) * 24 ≤ 140737488355328) && decide ((a10.length + 1) ≤ maxLen) then
                  bif (decide (0 ≤ a9)) && (decide (a9 < (a11.length : Int))) then
                    bif decide ((Int.toNat a9) < a11.length) then
                      load_Over.l1 N x0 x1 x2 x3 k3 a4 r7 k8 (w (a9 + 1)) (a10 ++ [(a9, (a4, a4))]) (List.set a11 (Int.toNat a9) ((a10 ++ [(a9, (a4, a4))]).length : Int))
                    else
                      none
                  else
                    none
                else
                  none
              else
                none
            else
              none
          else
            none
        else
          none
      else
        none
    else
      load_Over.l0 N x0 x1 x2 x3 k3 (w (a4 + 1)) a10 a11 := by kernel_rfl
theorem load_Over.l0_zero (N : Nat) (x0 : List (ByteArray × List (List (Int × Int) × Int × Int))) (x1 : List (List ((Int × (Int × Int) × Int) × Int × Int))) (x2 : List Int) (x3 : Int × Int) (a4 : Int) (a5 : List (Int × Int × Int)) (a6 : List Int) : load_Over.l0 N x0 x1 x2 x3 0 a4 a5 a6 = none := by kernel_rfl
theorem load_Over.l0_succ (N : Nat) (x0 : List (ByteArray × List (List (Int × Int) × Int × Int))) (x1 : List (List ((Int × (Int × Int) × Int) × Int × Int))) (x2 : List Int) (x3 : Int × Int) (k3 : Nat) (a4 : Int) (a5 : List (Int × Int × Int)) (a6 : List Int) : load_Over.l0 N x0 x1 x2 x3 (k3 + 1) a4 a5 a6 =
    bif decide (a4 < x3.2) then
      (load_count.fn N (x0, x1, a4)).bind fun r7 =>
      bif (decide (0 ≤ (x0.length : Int))) && (decide (0 + (Int.toNat (x0.length : Int)) ≤ r7.length)) then
        load_Over.l1 N x0 x1 x2 x3 k3 a4 r7 N 0 a5 a6
      else
        none
    else
      some (a5, 0) := by kernel_rfl
theorem load_Over.eq (N : Nat) (x0 : List (ByteArray × List (List (Int × Int) × Int × Int))) (x1 : List (List ((Int × (Int × Int) × Int) × Int × Int))) (x2 : List Int) (x3 : Int × Int) : load_Over.fn N (x0, x1, x2, x3) =
    (load_check.fn N (x0, x1)).bind fun r1 =>
    bif !(r1 == 0) then
      some ([], r1)
    else
    bif !((x2.length : Int) == (x0.length : Int)) then
      some ([], 3)
    else
      (load_span.fn N x3).bind fun r2 =>
      bif !(r2 == 0) then
        some ([], r2)
      else
      bif (((decide (0 ≤ (x0.length : Int))) && ((x0.length : Int) == (x0.length : Int))) && (decide ((x0.length : Int) ≤ 9223372036854775807))) && (decide (((x0.length : Int) * 8) ≤ 140737488355328)) then
        load_Over.l0 N x0 x1 x2 x3 N x3.1 [] (List.replicate (Int.toNat (x0.length : Int)) (0 : Int))
      else
        none := by kernel_rfl

/-! ### sector_Path: skyway/sector.Path -/
def sector_Path.kp : List (Nat × List (Nat × Option (TypeId × Ty))) := [(2, [(0, none), (1, none), (3, none), (1000000000001, some (52, .pair (.int .i64) (.pair (.int .i64) (.int .i64))))]), (2000011, [(2, none), (8, none), (38, none)])]
noncomputable def sector_Path.G (N : Nat) : List (Nat × Spec) := [(16, .pure (sector_Check.S N)), (25, .pure (tube_Check.S N)), (66, .pure (sector_Place.S N)), (69, .pure (tube_at.S N)), (68, .inl Try.f68), (91, .inl Try.f91)]
noncomputable def sector_Path.E (N : Nat) : Env := mkEnv (sector_Path.G N) N tyTab sector_Path.kp
noncomputable def sector_Path.fn (N : Nat) (x : List (ByteArray × List (List (Int × Int) × Int × Int)) × List ((Int × (Int × Int) × Int) × Int × Int)) : Option (List (Int × Int × Int) × Int) := evFn (sector_Path.E N) Try.prog 3 Try.f24 false [.cell (.sl 106 (.pair (.str) (.sl 113 (.pair (.sl 29 (.pair (.int .i64) (.int .i64))) (.pair (.int .i64) (.int .i64)))))), .cell (.sl 44 (.pair (.pair (.int .i64) (.pair (.pair (.int .i64) (.int .i64)) (.int .i64))) (.pair (.int .i64) (.int .i64))))] [.own 52 (.pair (.int .i64) (.pair (.int .i64) (.int .i64))), .val (.cell (.int .i64))] x
noncomputable def sector_Path.S (N : Nat) : PSpec := ⟨false, [.cell (.sl 106 (.pair (.str) (.sl 113 (.pair (.sl 29 (.pair (.int .i64) (.int .i64))) (.pair (.int .i64) (.int .i64)))))), .cell (.sl 44 (.pair (.pair (.int .i64) (.pair (.pair (.int .i64) (.int .i64)) (.int .i64))) (.pair (.int .i64) (.int .i64))))], [.own 52 (.pair (.int .i64) (.pair (.int .i64) (.int .i64))), .val (.cell (.int .i64))], sector_Path.fn N⟩
theorem f68_enters : Enters Try.prog 68 := ⟨Try.f68, Try.func68, by kernel_rfl, by kernel_rfl⟩
theorem f91_enters : Enters Try.prog 91 := ⟨Try.f91, Try.func91, by kernel_rfl, by kernel_rfl⟩
theorem f24_enters : Enters Try.prog 24 := ⟨Try.f24, Try.func24, by kernel_rfl, by kernel_rfl⟩
theorem sector_Path.tab (N : Nat) : TabOk Try.prog (sector_Path.G N) := ⟨⟨sector_Check.enters, sector_Check.sound N⟩, ⟨tube_Check.enters, tube_Check.sound N⟩, ⟨sector_Place.enters, sector_Place.sound N⟩, ⟨tube_at.enters, tube_at.sound N⟩, ⟨f68_enters, Try.func68⟩, ⟨f91_enters, Try.func91⟩, trivial⟩
theorem sector_Path.enters : Enters Try.prog 24 := f24_enters
theorem sector_Path.sound (N : Nat) : Sound Try.prog 24 (sector_Path.S N) := evFn_sound (specs_tab (sector_Path.tab N)) (inls_tab (sector_Path.tab N)) mixed 3 Try.func24 _ _ _
noncomputable def sector_Path.cd (N : Nat) (p : List Nat) : St → (Ex → St → Option (List (Int × Int × Int) × Int)) → Option (List (Int × Int × Int) × Int) := ev (sector_Path.E N) Try.prog (callD (sector_Path.E N) Try.prog 3) 0 (codeAt (bodyOf Try.f24) p)
noncomputable def sector_Path.cd91_2_3 (N : Nat) (p : List Nat) : St → (Ex → St → Option (List (Int × Int × Int) × Int)) → Option (List (Int × Int × Int) × Int) := ev (sector_Path.E N) Try.prog (callD (sector_Path.E N) Try.prog 2) 3 (codeAt (bodyOf Try.f91) p)
noncomputable def sector_Path.fin : Ex → St → Option (List (Int × Int × Int) × Int) := endK Try.prog Try.f24 [.own 52 (.pair (.int .i64) (.pair (.int .i64) (.int .i64))), .val (.cell (.int .i64))]
noncomputable def sector_Path.l0 (N : Nat) (x0 : List (ByteArray × List (List (Int × Int) × Int × Int))) (x1 : List ((Int × (Int × Int) × Int) × Int × Int)) (k4 : Nat) (a5 : Int) (a6 : List (Int × Int × Int)) : Option (List (Int × Int × Int) × Int) :=
  loopN (norm ((sector_Path.E N).keep 2) 3) (sector_Path.cd91_2_3 N [1, 1, 0, 0]) k4
  ⟨[.yl [.any, .any, .ptr 0 0, .any, .any, .any, .any, .any, .ptr 1 0, .any, .any, .any, .any, .any, .any, .any, .any, .any, .any, .any, .any, .any, .any, .any, .any, .any, .any, .any, .any, .any, .any, .any, .any, .any, .any, .any, .any, .any, .clo 91 [.ptr 2 0], .any, .any, .any, .any, .any, .any, .any, .any, .any, .any, .any, .any, .any, .any, .any, .any, .any, .any, .any, .any, .any, .any, .any, .any, .any, .any, .any, .any, .any, .any, .any, .any, .any, .any, .any, .any, .any, .any, .any, .any, .any, .any, .any] (rfP (codeAt (bodyOf Try.f24) [1, 1, 1, 1, 1, 0, 1, 0])) (rfA (codeAt (bodyOf Try.f24) [1, 1, 1, 1, 1, 0, 1, 0])) (rfB (codeAt (bodyOf Try.f24) [1, 1, 1, 1, 1, 0, 1, 0])), .ptr 2 0, .any, .sc (.int .i64 a5), .any, .any, .any, .any, .any, .any, .any, .any, .any, .any, .any, .any, .any, .any, .any, .any, .any, .any, .any, .any, .any, .any, .any, .any, .any, .any, .any, .any, .any, .any, .any, .any], [.cells [.ros false 106 (.pair (.str) (.sl 113 (.pair (.sl 29 (.pair (.int .i64) (.int .i64))) (.pair (.int .i64) (.int .i64))))) x0] 22, .cells [.own 3] 45, .cells [.ros false 44 (.pair (.pair (.int .i64) (.pair (.pair (.int .i64) (.int .i64)) (.int .i64))) (.pair (.int .i64) (.int .i64))) x1] 40, .rows true 52 (.pair (.int .i64) (.pair (.int .i64) (.int .i64))) a6]⟩
  (blockK 0 (retK Try.prog Try.f91 (fun vs hp => (rangeE [.any, .any, .ptr 0 0, .any, .any, .any, .any, .any, .ptr 1 0, .any, .any, .any, .any, .any, .any, .any, .any, .any, .any, .any, .any, .any, .any, .any, .any, .any, .any, .any, .any, .any, .any, .any, .any, .any, .any, .any, .any, .any, .clo 91 [.ptr 2 0], .any, .any, .any, .any, .any, .any, .any, .any, .any, .any, .any, .any, .any, .any, .any, .any, .any, .any, .any, .any, .any, .any, .any, .any, .any, .any, .any, .any, .any, .any, .any, .any, .any, .any, .any, .any, .any, .any, .any, .any, .any, .any, .any] (blockK 0 (seqK (sector_Path.cd N [1, 1, 1, 1, 1, 1]) sector_Path.fin)) (tupOf vs) hp))))
theorem sector_Path.l0_zero (N : Nat) (x0 : List (ByteArray × List (List (Int × Int) × Int × Int))) (x1 : List ((Int × (Int × Int) × Int) × Int × Int)) (a5 : Int) (a6 : List (Int × Int × Int)) : sector_Path.l0 N x0 x1 0 a5 a6 = none := by kernel_rfl
theorem sector_Path.l0_succ (N : Nat) (x0 : List (ByteArray × List (List (Int × Int) × Int × Int))) (x1 : List ((Int × (Int × Int) × Int) × Int × Int)) (k4 : Nat) (a5 : Int) (a6 : List (Int × Int × Int)) : sector_Path.l0 N x0 x1 (k4 + 1) a5 a6 =
    bif (decide (0 ≤ (w ((x1.length : Int) - 1)))) && (decide ((w ((x1.length : Int) - 1)) < (x1.length : Int))) then
      bif decide (a5 ≤ (((List.getD x1 (Int.toNat (w ((x1.length : Int) - 1))) ((0, ((0, 0), 0)), (0, 0))).1).1)) then
        (tube_at.fn N (x1, a5)).bind fun r7 =>
        (sector_Place.fn N (x0, r7.1.1.2.1, r7.1.1.2.2)).bind fun r8 =>
        bif !(decide ((a6.length : Int) > 0)) || (decide ((a6.length : Int) > 0)) then
          bif !(decide ((a6.length : Int) > 0)) || (decide ((a6.length : Int) > 0)) then
            bif !(decide ((a6.length : Int) > 0)) || (decide ((a6.length : Int) > 0)) then
              bif ((decide (0 ≤ (w ((a6.length : Int) - 1)))) && (decide ((w ((a6.length : Int) - 1)) < (a6.length : Int)))) || !(decide ((a6.length : Int) > 0)) then
                bif !(decide ((a6.length : Int) > 0)) || (decide ((a6.length : Int) > 0)) then
                  bif !(decide ((a6.length : Int) > 0)) || (decide ((a6.length : Int) > 0)) then
                    bif (decide ((Int.toNat (w ((a6.length : Int) - 1))) < a6.length)) || !(decide ((a6.length : Int) > 0)) then
                      bif !(decide ((a6.length : Int) > 0)) || (decide ((a6.length : Int) > 0)) then
                        bif !(decide ((a6.length : Int) > 0)) || (decide ((a6.length : Int) > 0)) then
                          bif (!(decide ((a6.length : Int) > 0))) || (decide ((a6.length : Int) > 0)) then
                            bif (decide ((a6.length : Int) > 0)) && (((List.getD a6 (Int.toNat (w ((a6.length : Int) - 1))) (0, (0, 0))).1) == r8) then
                              bif (decide (0 ≤ (w ((a6.length : Int) - 1)))) && (decide ((w ((a6.length : Int) - 1)) < (a6.length : Int))) then
                                bif decide ((Int.toNat (w ((a6.length : Int) - 1))) < a6.length) then
                                  sector_Path.l0 N x0 x1 k4 (w (a5 + 1)) (List.set a6 (Int.toNat (w ((a6.length : Int) - 1))) ((List.getD a6 (Int.toNat (w ((a6.length : Int) - 1))) (0, (0, 0))).1, (((List.getD a6 (Int.toNat (w ((a6.length : Int) - 1))) (0, (0, 0))).2).1, r7.1.1.1)))
                                else
                                  none
                              else
                                none
                            else
                            bif decide ((a6.length + 1) * 24 ≤ 140737488355328) && decide ((a6.length + 1) ≤ maxLen) then
                              sector_Path.l0 N x0 x1 k4 (w (a5 + 1)) (a6 ++ [(r8, (r7.1.1.1, r7.1.1.1))])
                            else
                              none
                          else
                            none
                        else
                          none
                      else
                        none
                    else
                      none
                  else
                    none
                else
                  none
              else
                none
            else
              none
          else
            none
        else
          none
      else
        some (a6, 0)
    else
      none := by kernel_rfl
theorem sector_Path.l0_clean (N : Nat) (x0 : List (ByteArray × List (List (Int × Int) × Int × Int))) (x1 : List ((Int × (Int × Int) × Int) × Int × Int)) (k4 : Nat) (a5 : Int) (a6 : List (Int × Int × Int)) : sector_Path.l0 N x0 x1 (k4 + 1) a5 a6 =
    bif (decide (0 ≤ (w ((x1.length : Int) - 1)))) && (decide ((w ((x1.length : Int) - 1)) < (x1.length : Int))) then
      bif decide (a5 ≤ (((List.getD x1 (Int.toNat (w ((x1.length : Int) - 1))) ((0, ((0, 0), 0)), (0, 0))).1).1)) then
        (tube_at.fn N (x1, a5)).bind fun r7 =>
        (sector_Place.fn N (x0, r7.1.1.2.1, r7.1.1.2.2)).bind fun r8 =>
        bif ((decide (0 ≤ (w ((a6.length : Int) - 1)))) && (decide ((w ((a6.length : Int) - 1)) < (a6.length : Int)))) || !(decide ((a6.length : Int) > 0)) then
          bif (decide ((Int.toNat (w ((a6.length : Int) - 1))) < a6.length)) || !(decide ((a6.length : Int) > 0)) then
            bif (decide ((a6.length : Int) > 0)) && (((List.getD a6 (Int.toNat (w ((a6.length : Int) - 1))) (0, (0, 0))).1) == r8) then
              bif (decide (0 ≤ (w ((a6.length : Int) - 1)))) && (decide ((w ((a6.length : Int) - 1)) < (a6.length : Int))) then
                bif decide ((Int.toNat (w ((a6.length : Int) - 1))) < a6.length) then
                  sector_Path.l0 N x0 x1 k4 (w (a5 + 1)) (List.set a6 (Int.toNat (w ((a6.length : Int) - 1))) ((List.getD a6 (Int.toNat (w ((a6.length : Int) - 1))) (0, (0, 0))).1, (((List.getD a6 (Int.toNat (w ((a6.length : Int) - 1))) (0, (0, 0))).2).1, r7.1.1.1)))
                else
                  none
              else
                none
            else
            bif decide ((a6.length + 1) * 24 ≤ 140737488355328) && decide ((a6.length + 1) ≤ maxLen) then
              sector_Path.l0 N x0 x1 k4 (w (a5 + 1)) (a6 ++ [(r8, (r7.1.1.1, r7.1.1.1))])
            else
              none
          else
            none
        else
          none
      else
        some (a6, 0)
    else
      none := by
  rw [sector_Path.l0_succ]; simp only [taut20, taut21, cond_true]
theorem sector_Path.eq (N : Nat) (x0 : List (ByteArray × List (List (Int × Int) × Int × Int))) (x1 : List ((Int × (Int × Int) × Int) × Int × Int)) : sector_Path.fn N (x0, x1) =
    (sector_Check.fn N x0).bind fun r1 =>
    bif !(r1 == 0) then
      some ([], r1)
    else
      (tube_Check.fn N x1).bind fun r2 =>
      bif !(r2 == 0) then
        some ([], r2)
      else
      bif (decide (0 ≤ (w ((x1.length : Int) - 1)))) && (decide ((w ((x1.length : Int) - 1)) < (x1.length : Int))) then
        bif decide (0 < (x1.length : Int)) then
          bif decide ((w ((((List.getD x1 (Int.toNat (w ((x1.length : Int) - 1))) ((0, ((0, 0), 0)), (0, 0))).1).1) - (((List.getD x1 0 ((0, ((0, 0), 0)), (0, 0))).1).1))) > 20000) then
            some ([], 2)
          else
            (tube_Check.fn N x1).bind fun r3 =>
            bif !(r3 == 0) then
              some ([], 0)
            else
            bif decide (0 < (x1.length : Int)) then
              sector_Path.l0 N x0 x1 N (((List.getD x1 0 ((0, ((0, 0), 0)), (0, 0))).1).1) []
            else
              none
        else
          none
      else
        none := by kernel_rfl

/-! ### load_Entries: skyway/load.Entries -/
def load_Entries.kp : List (Nat × List (Nat × Option (TypeId × Ty))) := [(6, [(0, none), (7, none), (23, none), (24, none), (25, none)]), (12, [(0, none), (7, none), (23, none), (24, none), (25, none), (38, none), (39, none), (40, none)])]
noncomputable def load_Entries.G (N : Nat) : List (Nat × Spec) := [(24, .pure (sector_Path.S N)), (72, .pure (load_check.S N))]
noncomputable def load_Entries.E (N : Nat) : Env := mkEnv (load_Entries.G N) N tyTab load_Entries.kp
noncomputable def load_Entries.fn (N : Nat) (x : List (ByteArray × List (List (Int × Int) × Int × Int)) × List (List ((Int × (Int × Int) × Int) × Int × Int))) : Option (List Int × Int) := evFn (load_Entries.E N) Try.prog 3 Try.f70 false [.cell (.sl 106 (.pair (.str) (.sl 113 (.pair (.sl 29 (.pair (.int .i64) (.int .i64))) (.pair (.int .i64) (.int .i64)))))), .cell (.sl 40 (.sl 44 (.pair (.pair (.int .i64) (.pair (.pair (.int .i64) (.int .i64)) (.int .i64))) (.pair (.int .i64) (.int .i64)))))] [.own 3 (.int .i64), .val (.cell (.int .i64))] x
noncomputable def load_Entries.S (N : Nat) : PSpec := ⟨false, [.cell (.sl 106 (.pair (.str) (.sl 113 (.pair (.sl 29 (.pair (.int .i64) (.int .i64))) (.pair (.int .i64) (.int .i64)))))), .cell (.sl 40 (.sl 44 (.pair (.pair (.int .i64) (.pair (.pair (.int .i64) (.int .i64)) (.int .i64))) (.pair (.int .i64) (.int .i64)))))], [.own 3 (.int .i64), .val (.cell (.int .i64))], load_Entries.fn N⟩
theorem f70_enters : Enters Try.prog 70 := ⟨Try.f70, Try.func70, by kernel_rfl, by kernel_rfl⟩
theorem load_Entries.tab (N : Nat) : TabOk Try.prog (load_Entries.G N) := ⟨⟨sector_Path.enters, sector_Path.sound N⟩, ⟨load_check.enters, load_check.sound N⟩, trivial⟩
theorem load_Entries.enters : Enters Try.prog 70 := f70_enters
theorem load_Entries.sound (N : Nat) : Sound Try.prog 70 (load_Entries.S N) := evFn_sound (specs_tab (load_Entries.tab N)) (inls_tab (load_Entries.tab N)) mixed 3 Try.func70 _ _ _
noncomputable def load_Entries.cd (N : Nat) (p : List Nat) : St → (Ex → St → Option (List Int × Int)) → Option (List Int × Int) := ev (load_Entries.E N) Try.prog (callD (load_Entries.E N) Try.prog 3) 0 (codeAt (bodyOf Try.f70) p)
noncomputable def load_Entries.fin : Ex → St → Option (List Int × Int) := endK Try.prog Try.f70 [.own 3 (.int .i64), .val (.cell (.int .i64))]
noncomputable def load_Entries.l0 (N : Nat) (x0 : List (ByteArray × List (List (Int × Int) × Int × Int))) (x1 : List (List ((Int × (Int × Int) × Int) × Int × Int))) (k2 : Nat) (a3 : Int) (a4 : List Int) : Option (List Int × Int) :=
  loopN (norm ((load_Entries.E N).keep 6) 0) (load_Entries.cd N [1, 1, 1, 0, 1, 0, 0]) k2
  ⟨[.ros false 106 (.pair (.str) (.sl 113 (.pair (.sl 29 (.pair (.int .i64) (.int .i64))) (.pair (.int .i64) (.int .i64))))) x0, .any, .any, .any, .any, .any, .any, .own 0, .any, .any, .any, .any, .any, .any, .any, .any, .any, .any, .any, .any, .any, .any, .any, .ros false 40 (.sl 44 (.pair (.pair (.int .i64) (.pair (.pair (.int .i64) (.int .i64)) (.int .i64))) (.pair (.int .i64) (.int .i64)))) x1, .sc (.int .i64 (x1.length : Int)), .sc (.int .i64 a3), .any, .any, .any, .any, .any, .any, .any, .any, .any, .any, .any, .any, .any, .any, .any, .any, .any, .any, .any, .any, .any, .any, .any, .any, .any, .any, .any, .any, .any, .any, .any], [.rows true 3 (.int .i64) a4]⟩
  (blockK 0 (seqK (load_Entries.cd N [1, 1, 1, 1]) load_Entries.fin))
noncomputable def load_Entries.l1 (N : Nat) (x0 : List (ByteArray × List (List (Int × Int) × Int × Int))) (x1 : List (List ((Int × (Int × Int) × Int) × Int × Int))) (k2 : Nat) (a3 : Int) (r5 : List (Int × Int × Int) × Int) (k6 : Nat) (a7 : Int) (a8 : List Int) : Option (List Int × Int) :=
  loopN (norm ((load_Entries.E N).keep 12) 0) (load_Entries.cd N [1, 1, 1, 0, 1, 0, 0, 1, 1, 0, 0, 1, 1, 1, 1, 0, 0]) k6
  ⟨[.ros false 106 (.pair (.str) (.sl 113 (.pair (.sl 29 (.pair (.int .i64) (.int .i64))) (.pair (.int .i64) (.int .i64))))) x0, .any, .any, .any, .any, .any, .any, .own 0, .any, .any, .any, .any, .any, .any, .any, .any, .any, .any, .any, .any, .any, .any, .any, .ros false 40 (.sl 44 (.pair (.pair (.int .i64) (.pair (.pair (.int .i64) (.int .i64)) (.int .i64))) (.pair (.int .i64) (.int .i64)))) x1, .sc (.int .i64 (x1.length : Int)), .sc (.int .i64 a3), .any, .any, .any, .any, .any, .any, .any, .any, .any, .any, .any, .any, .own 1, .sc (.int .i64 (r5.1.length : Int)), .sc (.int .i64 a7), .any, .any, .any, .any, .any, .any, .any, .any, .any, .any, .any, .any, .any, .any, .any, .any], [.rows true 3 (.int .i64) a8, .rows true 52 (.pair (.int .i64) (.pair (.int .i64) (.int .i64))) r5.1]⟩
  (blockK 2 (blockK 1 (seqK (load_Entries.cd N [1, 1, 1, 0, 1, 0, 0, 1, 1, 1]) (loopK (norm ((load_Entries.E N).keep 6) 0) (load_Entries.cd N [1, 1, 1, 0, 1, 0, 0]) k2 (blockK 0 (seqK (load_Entries.cd N [1, 1, 1, 1]) load_Entries.fin))))))
theorem load_Entries.l1_zero (N : Nat) (x0 : List (ByteArray × List (List (Int × Int) × Int × Int))) (x1 : List (List ((Int × (Int × Int) × Int) × Int × Int))) (k2 : Nat) (a3 : Int) (r5 : List (Int × Int × Int) × Int) (a7 : Int) (a8 : List Int) : load_Entries.l1 N x0 x1 k2 a3 r5 0 a7 a8 = none := by kernel_rfl
theorem load_Entries.l1_succ (N : Nat) (x0 : List (ByteArray × List (List (Int × Int) × Int × Int))) (x1 : List (List ((Int × (Int × Int) × Int) × Int × Int))) (k2 : Nat) (a3 : Int) (r5 : List (Int × Int × Int) × Int) (k6 : Nat) (a7 : Int) (a8 : List Int) : load_Entries.l1 N x0 x1 k2 a3 r5 (k6 + 1) a7 a8 =
    bif decide (a7 < (r5.1.length : Int)) then
      bif (decide (0 ≤ a7)) && (decide (a7 < (r5.1.length : Int))) then
        bif decide ((Int.toNat a7) < r5.1.length) then
          bif decide (((List.getD r5.1 (Int.toNat a7) (0, (0, 0))).1) ≥ 0) then
            bif (decide (0 ≤ ((List.getD r5.1 (Int.toNat a7) (0, (0, 0))).1))) && (decide (((List.getD r5.1 (Int.toNat a7) (0, (0, 0))).1) < (a8.length : Int))) then
              bif decide ((Int.toNat ((List.getD r5.1 (Int.toNat a7) (0, (0, 0))).1)) < a8.length) then
                bif (decide (0 ≤ ((List.getD r5.1 (Int.toNat a7) (0, (0, 0))).1))) && (decide (((List.getD r5.1 (Int.toNat a7) (0, (0, 0))).1) < (a8.length : Int))) then
                  bif decide ((Int.toNat ((List.getD r5.1 (Int.toNat a7) (0, (0, 0))).1)) < a8.length) then
                    load_Entries.l1 N x0 x1 k2 a3 r5 k6 (w (a7 + 1)) (List.set a8 (Int.toNat ((List.getD r5.1 (Int.toNat a7) (0, (0, 0))).1)) (w ((List.getD a8 (Int.toNat ((List.getD r5.1 (Int.toNat a7) (0, (0, 0))).1)) 0) + 1)))
                  else
                    none
                else
                  none
              else
                none
            else
              none
          else
            load_Entries.l1 N x0 x1 k2 a3 r5 k6 (w (a7 + 1)) a8
        else
          none
      else
        none
    else
      load_Entries.l0 N x0 x1 k2 (w (a3 + 1)) a8 := by kernel_rfl
theorem load_Entries.l0_zero (N : Nat) (x0 : List (ByteArray × List (List (Int × Int) × Int × Int))) (x1 : List (List ((Int × (Int × Int) × Int) × Int × Int))) (a3 : Int) (a4 : List Int) : load_Entries.l0 N x0 x1 0 a3 a4 = none := by kernel_rfl
theorem load_Entries.l0_succ (N : Nat) (x0 : List (ByteArray × List (List (Int × Int) × Int × Int))) (x1 : List (List ((Int × (Int × Int) × Int) × Int × Int))) (k2 : Nat) (a3 : Int) (a4 : List Int) : load_Entries.l0 N x0 x1 (k2 + 1) a3 a4 =
    bif decide (a3 < (x1.length : Int)) then
      bif (decide (0 ≤ a3)) && (decide (a3 < (x1.length : Int))) then
        (sector_Path.fn N (x0, (List.getD x1 (Int.toNat a3) []))).bind fun r5 =>
        bif !(r5.2 == 0) then
          some ([], r5.2)
        else
          load_Entries.l1 N x0 x1 k2 a3 r5 N 0 a4
      else
        none
    else
      some (a4, 0) := by kernel_rfl
theorem load_Entries.l1_cons (N : Nat) (x0 : List (ByteArray × List (List (Int × Int) × Int × Int))) (x1 : List (List ((Int × (Int × Int) × Int) × Int × Int))) (k2 : Nat) (a3 : Int) (r5 : List (Int × Int × Int) × Int) (k6 : Nat) (a8 : List Int) {pre r} {x} (hl : r5.1 = pre ++ x :: r) (hb : r5.1.length < 4611686018427387904) : load_Entries.l1 N x0 x1 k2 a3 r5 (k6 + 1) (pre.length : Int) a8 =
    bif decide (pre.length < r5.1.length) then
      bif decide ((x.1) ≥ 0) then
        bif (decide (0 ≤ (x.1))) && (decide ((x.1) < (a8.length : Int))) then
          bif decide ((Int.toNat (x.1)) < a8.length) then
            bif (decide (0 ≤ (x.1))) && (decide ((x.1) < (a8.length : Int))) then
              bif decide ((Int.toNat (x.1)) < a8.length) then
                load_Entries.l1 N x0 x1 k2 a3 r5 k6 ((pre.length : Int) + 1) (List.set a8 (Int.toNat (x.1)) (w ((List.getD a8 (Int.toNat (x.1)) 0) + 1)))
              else
                none
            else
              none
          else
            none
        else
          none
      else
        load_Entries.l1 N x0 x1 k2 a3 r5 k6 ((pre.length : Int) + 1) a8
    else
      none := by
  have hlen : r5.1.length = pre.length + 1 + r.length := by rw [hl]; simp; omega
  have e1 : decide ((pre.length : Int) < (r5.1.length : Int)) = true := by rw [decide_eq_true_iff]; omega
  have e2 : decide (0 ≤ (pre.length : Int)) = true := by rw [decide_eq_true_iff]; omega
  have e4 : w ((pre.length : Int) + 1) = (pre.length : Int) + 1 := w_next hl hb
  have e5 : List.take pre.length r5.1 = pre := by rw [hl]; simp
  have e6 : decide ((pre.length : Int) ≤ (r5.1.length : Int)) = true := by rw [decide_eq_true_iff]; omega
  have g0 : List.getD r5.1 pre.length (0, (0, 0)) = x := by rw [hl]; exact getD_mid pre x r _
  rw [load_Entries.l1_succ]
  simp -implicitDefEqProofs only [Int.toNat_natCast, e1, e2, e4, e6, g0, e5, Bool.and_true, Bool.true_and, Bool.true_or, cond_true]
theorem load_Entries.l1_nil (N : Nat) (x0 : List (ByteArray × List (List (Int × Int) × Int × Int))) (x1 : List (List ((Int × (Int × Int) × Int) × Int × Int))) (k2 : Nat) (a3 : Int) (r5 : List (Int × Int × Int) × Int) (k6 : Nat) (a8 : List Int) : load_Entries.l1 N x0 x1 k2 a3 r5 (k6 + 1) (r5.1.length : Int) a8 =
    load_Entries.l0 N x0 x1 k2 (w (a3 + 1)) a8 := by
  have e1 : decide ((r5.1.length : Int) < (r5.1.length : Int)) = false := by rw [decide_eq_false_iff_not]; omega
  rw [load_Entries.l1_succ]
  simp -implicitDefEqProofs only [e1, cond_false]
theorem load_Entries.l0_cons (N : Nat) (x0 : List (ByteArray × List (List (Int × Int) × Int × Int))) (x1 : List (List ((Int × (Int × Int) × Int) × Int × Int))) (k2 : Nat) (a4 : List Int) {pre r} {x} (hl : x1 = pre ++ x :: r) (hb : x1.length < 4611686018427387904) : load_Entries.l0 N x0 x1 (k2 + 1) (pre.length : Int) a4 =
    (sector_Path.fn N (x0, x)).bind fun r5 =>
    bif !(r5.2 == 0) then
      some ([], r5.2)
    else
      load_Entries.l1 N x0 x1 k2 (pre.length : Int) r5 N 0 a4 := by
  have hlen : x1.length = pre.length + 1 + r.length := by rw [hl]; simp; omega
  have e1 : decide ((pre.length : Int) < (x1.length : Int)) = true := by rw [decide_eq_true_iff]; omega
  have e2 : decide (0 ≤ (pre.length : Int)) = true := by rw [decide_eq_true_iff]; omega
  have e4 : w ((pre.length : Int) + 1) = (pre.length : Int) + 1 := w_next hl hb
  have e5 : List.take pre.length x1 = pre := by rw [hl]; simp
  have e6 : decide ((pre.length : Int) ≤ (x1.length : Int)) = true := by rw [decide_eq_true_iff]; omega
  have g0 : List.getD x1 pre.length [] = x := by rw [hl]; exact getD_mid pre x r _
  rw [load_Entries.l0_succ]
  simp -implicitDefEqProofs only [Int.toNat_natCast, e1, e2, e4, e6, g0, e5, Bool.and_true, Bool.true_and, Bool.true_or, cond_true]
theorem load_Entries.l0_nil (N : Nat) (x0 : List (ByteArray × List (List (Int × Int) × Int × Int))) (x1 : List (List ((Int × (Int × Int) × Int) × Int × Int))) (k2 : Nat) (a4 : List Int) : load_Entries.l0 N x0 x1 (k2 + 1) (x1.length : Int) a4 =
    some (a4, 0) := by
  have e1 : decide ((x1.length : Int) < (x1.length : Int)) = false := by rw [decide_eq_false_iff_not]; omega
  rw [load_Entries.l0_succ]
  simp -implicitDefEqProofs only [e1, cond_false]
theorem load_Entries.eq (N : Nat) (x0 : List (ByteArray × List (List (Int × Int) × Int × Int))) (x1 : List (List ((Int × (Int × Int) × Int) × Int × Int))) : load_Entries.fn N (x0, x1) =
    (load_check.fn N (x0, x1)).bind fun r1 =>
    bif !(r1 == 0) then
      some ([], r1)
    else
    bif (((decide (0 ≤ (x0.length : Int))) && ((x0.length : Int) == (x0.length : Int))) && (decide ((x0.length : Int) ≤ 9223372036854775807))) && (decide (((x0.length : Int) * 8) ≤ 140737488355328)) then
      load_Entries.l0 N x0 x1 N 0 (List.replicate (Int.toNat (x0.length : Int)) (0 : Int))
    else
      none := by kernel_rfl

/-! ### slices_Equal_int: slices.Equal[[]int,int] -/
def slices_Equal_int.kp : List (Nat × List (Nat × Option (TypeId × Ty))) := [(4, [(0, none), (1, none), (12, none), (13, none)])]
noncomputable def slices_Equal_int.G (N : Nat) : List (Nat × Spec) := []
noncomputable def slices_Equal_int.E (N : Nat) : Env := mkEnv (slices_Equal_int.G N) N tyTab slices_Equal_int.kp
noncomputable def slices_Equal_int.fn (N : Nat) (x : List Int × List Int) : Option Bool := evFn (slices_Equal_int.E N) Try.prog 3 Try.f31 false [.cell (.sl 3 (.int .i64)), .cell (.sl 3 (.int .i64))] [.val (.cell (.bool))] x
noncomputable def slices_Equal_int.S (N : Nat) : PSpec := ⟨false, [.cell (.sl 3 (.int .i64)), .cell (.sl 3 (.int .i64))], [.val (.cell (.bool))], slices_Equal_int.fn N⟩
theorem f31_enters : Enters Try.prog 31 := ⟨Try.f31, Try.func31, by kernel_rfl, by kernel_rfl⟩
theorem slices_Equal_int.tab (N : Nat) : TabOk Try.prog (slices_Equal_int.G N) := trivial
theorem slices_Equal_int.enters : Enters Try.prog 31 := f31_enters
theorem slices_Equal_int.sound (N : Nat) : Sound Try.prog 31 (slices_Equal_int.S N) := evFn_sound (specs_tab (slices_Equal_int.tab N)) (inls_tab (slices_Equal_int.tab N)) mixed 3 Try.func31 _ _ _
noncomputable def slices_Equal_int.cd (N : Nat) (p : List Nat) : St → (Ex → St → Option Bool) → Option Bool := ev (slices_Equal_int.E N) Try.prog (callD (slices_Equal_int.E N) Try.prog 3) 0 (codeAt (bodyOf Try.f31) p)
noncomputable def slices_Equal_int.fin : Ex → St → Option Bool := endK Try.prog Try.f31 [.val (.cell (.bool))]
noncomputable def slices_Equal_int.l0 (N : Nat) (x0 : List Int) (x1 : List Int) (k1 : Nat) (a2 : Int) : Option Bool :=
  loopN (norm ((slices_Equal_int.E N).keep 4) 0) (slices_Equal_int.cd N [1, 1, 0, 1, 0, 0]) k1
  ⟨[.ros false 3 (.int .i64) x0, .ros false 3 (.int .i64) x1, .any, .any, .any, .any, .any, .any, .any, .any, .any, .any, .sc (.int .i64 (x0.length : Int)), .sc (.int .i64 a2), .any, .any, .any, .any, .any, .any, .any, .any, .any, .any, .any, .any], []⟩
  (blockK 0 (seqK (slices_Equal_int.cd N [1, 1, 1]) slices_Equal_int.fin))
theorem slices_Equal_int.l0_zero (N : Nat) (x0 : List Int) (x1 : List Int) (a2 : Int) : slices_Equal_int.l0 N x0 x1 0 a2 = none := by kernel_rfl
theorem slices_Equal_int.l0_succ (N : Nat) (x0 : List Int) (x1 : List Int) (k1 : Nat) (a2 : Int) : slices_Equal_int.l0 N x0 x1 (k1 + 1) a2 =
    bif decide (a2 < (x0.length : Int)) then
      bif (decide (0 ≤ a2)) && (decide (a2 < (x0.length : Int))) then
        bif (decide (0 ≤ a2)) && (decide (a2 < (x1.length : Int))) then
          bif !((List.getD x0 (Int.toNat a2) 0) == (List.getD x1 (Int.toNat a2) 0)) then
            some false
          else
            slices_Equal_int.l0 N x0 x1 k1 (w (a2 + 1))
        else
          none
      else
        none
    else
      some true := by kernel_rfl
theorem slices_Equal_int.l0_cons (N : Nat) (x0 : List Int) (x1 : List Int) (k1 : Nat) {pre r} {x} (hl : x0 = pre ++ x :: r) (hb : x0.length < 4611686018427387904) : slices_Equal_int.l0 N x0 x1 (k1 + 1) (pre.length : Int) =
    bif decide ((pre.length : Int) < (x1.length : Int)) then
      bif !(x == (List.getD x1 pre.length 0)) then
        some false
      else
        slices_Equal_int.l0 N x0 x1 k1 ((pre.length : Int) + 1)
    else
      none := by
  have hlen : x0.length = pre.length + 1 + r.length := by rw [hl]; simp; omega
  have e1 : decide ((pre.length : Int) < (x0.length : Int)) = true := by rw [decide_eq_true_iff]; omega
  have e2 : decide (0 ≤ (pre.length : Int)) = true := by rw [decide_eq_true_iff]; omega
  have e4 : w ((pre.length : Int) + 1) = (pre.length : Int) + 1 := w_next hl hb
  have e5 : List.take pre.length x0 = pre := by rw [hl]; simp
  have e6 : decide ((pre.length : Int) ≤ (x0.length : Int)) = true := by rw [decide_eq_true_iff]; omega
  have g0 : List.getD x0 pre.length 0 = x := by rw [hl]; exact getD_mid pre x r _
  rw [slices_Equal_int.l0_succ]
  simp -implicitDefEqProofs only [Int.toNat_natCast, e1, e2, e4, e6, g0, e5, Bool.and_true, Bool.true_and, Bool.true_or, cond_true]
theorem slices_Equal_int.l0_nil (N : Nat) (x0 : List Int) (x1 : List Int) (k1 : Nat) : slices_Equal_int.l0 N x0 x1 (k1 + 1) (x0.length : Int) =
    some true := by
  have e1 : decide ((x0.length : Int) < (x0.length : Int)) = false := by rw [decide_eq_false_iff_not]; omega
  rw [slices_Equal_int.l0_succ]
  simp -implicitDefEqProofs only [e1, cond_false]
theorem slices_Equal_int.eq (N : Nat) (x0 : List Int) (x1 : List Int) : slices_Equal_int.fn N (x0, x1) =
    bif !((x0.length : Int) == (x1.length : Int)) then
      some false
    else
      slices_Equal_int.l0 N x0 x1 N 0 := by kernel_rfl
theorem slices_Equal_int.v {N : Nat} (hN : 4611686018427387904 ≤ N) (x0 x1 : List Int) (h : x0.length < 4611686018427387904) : slices_Equal_int.fn N (x0, x1) = some (eqL (fun p q => (p == q)) x0 x1) := equal_list hN (fun p q => (p == q)) 0 h (fun k i => slices_Equal_int.l0 N x0 x1 k i) (slices_Equal_int.eq N x0 x1) (fun k i => slices_Equal_int.l0_succ N x0 x1 k i)
theorem slices_Equal_int.self {N : Nat} (hN : 4611686018427387904 ≤ N) (x0 : List Int) (h : x0.length < 4611686018427387904) : slices_Equal_int.fn N (x0, x0) = some true := by rw [slices_Equal_int.v hN x0 x0 h]; exact congrArg some (eqL_refl (fun p => by simp [seq_self]) x0)

/-! ### slices_Equal_LoadOver: slices.Equal[[]skyway/api.LoadOver,skyway/api.LoadOver] -/
def slices_Equal_LoadOver.kp : List (Nat × List (Nat × Option (TypeId × Ty))) := [(4, [(0, none), (1, none), (12, none), (13, none)])]
noncomputable def slices_Equal_LoadOver.G (N : Nat) : List (Nat × Spec) := []
noncomputable def slices_Equal_LoadOver.E (N : Nat) : Env := mkEnv (slices_Equal_LoadOver.G N) N tyTab slices_Equal_LoadOver.kp
noncomputable def slices_Equal_LoadOver.fn (N : Nat) (x : List (Int × Int × Int) × List (Int × Int × Int)) : Option Bool := evFn (slices_Equal_LoadOver.E N) Try.prog 3 Try.f71 false [.cell (.sl 73 (.pair (.int .i64) (.pair (.int .i64) (.int .i64)))), .cell (.sl 73 (.pair (.int .i64) (.pair (.int .i64) (.int .i64))))] [.val (.cell (.bool))] x
noncomputable def slices_Equal_LoadOver.S (N : Nat) : PSpec := ⟨false, [.cell (.sl 73 (.pair (.int .i64) (.pair (.int .i64) (.int .i64)))), .cell (.sl 73 (.pair (.int .i64) (.pair (.int .i64) (.int .i64))))], [.val (.cell (.bool))], slices_Equal_LoadOver.fn N⟩
theorem f71_enters : Enters Try.prog 71 := ⟨Try.f71, Try.func71, by kernel_rfl, by kernel_rfl⟩
theorem slices_Equal_LoadOver.tab (N : Nat) : TabOk Try.prog (slices_Equal_LoadOver.G N) := trivial
theorem slices_Equal_LoadOver.enters : Enters Try.prog 71 := f71_enters
theorem slices_Equal_LoadOver.sound (N : Nat) : Sound Try.prog 71 (slices_Equal_LoadOver.S N) := evFn_sound (specs_tab (slices_Equal_LoadOver.tab N)) (inls_tab (slices_Equal_LoadOver.tab N)) mixed 3 Try.func71 _ _ _
noncomputable def slices_Equal_LoadOver.cd (N : Nat) (p : List Nat) : St → (Ex → St → Option Bool) → Option Bool := ev (slices_Equal_LoadOver.E N) Try.prog (callD (slices_Equal_LoadOver.E N) Try.prog 3) 0 (codeAt (bodyOf Try.f71) p)
noncomputable def slices_Equal_LoadOver.fin : Ex → St → Option Bool := endK Try.prog Try.f71 [.val (.cell (.bool))]
noncomputable def slices_Equal_LoadOver.l0 (N : Nat) (x0 : List (Int × Int × Int)) (x1 : List (Int × Int × Int)) (k1 : Nat) (a2 : Int) : Option Bool :=
  loopN (norm ((slices_Equal_LoadOver.E N).keep 4) 0) (slices_Equal_LoadOver.cd N [1, 1, 0, 1, 0, 0]) k1
  ⟨[.ros false 73 (.pair (.int .i64) (.pair (.int .i64) (.int .i64))) x0, .ros false 73 (.pair (.int .i64) (.pair (.int .i64) (.int .i64))) x1, .any, .any, .any, .any, .any, .any, .any, .any, .any, .any, .sc (.int .i64 (x0.length : Int)), .sc (.int .i64 a2), .any, .any, .any, .any, .any, .any, .any, .any, .any, .any, .any, .any], []⟩
  (blockK 0 (seqK (slices_Equal_LoadOver.cd N [1, 1, 1]) slices_Equal_LoadOver.fin))
theorem slices_Equal_LoadOver.l0_zero (N : Nat) (x0 : List (Int × Int × Int)) (x1 : List (Int × Int × Int)) (a2 : Int) : slices_Equal_LoadOver.l0 N x0 x1 0 a2 = none := by kernel_rfl
theorem slices_Equal_LoadOver.l0_succ (N : Nat) (x0 : List (Int × Int × Int)) (x1 : List (Int × Int × Int)) (k1 : Nat) (a2 : Int) : slices_Equal_LoadOver.l0 N x0 x1 (k1 + 1) a2 =
    bif decide (a2 < (x0.length : Int)) then
      bif (decide (0 ≤ a2)) && (decide (a2 < (x0.length : Int))) then
        bif (decide (0 ≤ a2)) && (decide (a2 < (x1.length : Int))) then
          bif !((((List.getD x0 (Int.toNat a2) (0, (0, 0))).1) == ((List.getD x1 (Int.toNat a2) (0, (0, 0))).1)) && (((((List.getD x0 (Int.toNat a2) (0, (0, 0))).2).1) == (((List.getD x1 (Int.toNat a2) (0, (0, 0))).2).1)) && (((((List.getD x0 (Int.toNat a2) (0, (0, 0))).2).2) == (((List.getD x1 (Int.toNat a2) (0, (0, 0))).2).2)) && true))) then
            some false
          else
            slices_Equal_LoadOver.l0 N x0 x1 k1 (w (a2 + 1))
        else
          none
      else
        none
    else
      some true := by kernel_rfl
theorem slices_Equal_LoadOver.l0_cons (N : Nat) (x0 : List (Int × Int × Int)) (x1 : List (Int × Int × Int)) (k1 : Nat) {pre r} {x} (hl : x0 = pre ++ x :: r) (hb : x0.length < 4611686018427387904) : slices_Equal_LoadOver.l0 N x0 x1 (k1 + 1) (pre.length : Int) =
    bif decide ((pre.length : Int) < (x1.length : Int)) then
      bif !(((x.1) == ((List.getD x1 pre.length (0, (0, 0))).1)) && ((((x.2).1) == (((List.getD x1 pre.length (0, (0, 0))).2).1)) && ((((x.2).2) == (((List.getD x1 pre.length (0, (0, 0))).2).2)) && true))) then
        some false
      else
        slices_Equal_LoadOver.l0 N x0 x1 k1 ((pre.length : Int) + 1)
    else
      none := by
  have hlen : x0.length = pre.length + 1 + r.length := by rw [hl]; simp; omega
  have e1 : decide ((pre.length : Int) < (x0.length : Int)) = true := by rw [decide_eq_true_iff]; omega
  have e2 : decide (0 ≤ (pre.length : Int)) = true := by rw [decide_eq_true_iff]; omega
  have e4 : w ((pre.length : Int) + 1) = (pre.length : Int) + 1 := w_next hl hb
  have e5 : List.take pre.length x0 = pre := by rw [hl]; simp
  have e6 : decide ((pre.length : Int) ≤ (x0.length : Int)) = true := by rw [decide_eq_true_iff]; omega
  have g0 : List.getD x0 pre.length (0, (0, 0)) = x := by rw [hl]; exact getD_mid pre x r _
  rw [slices_Equal_LoadOver.l0_succ]
  simp -implicitDefEqProofs only [Int.toNat_natCast, e1, e2, e4, e6, g0, e5, Bool.and_true, Bool.true_and, Bool.true_or, cond_true]
theorem slices_Equal_LoadOver.l0_nil (N : Nat) (x0 : List (Int × Int × Int)) (x1 : List (Int × Int × Int)) (k1 : Nat) : slices_Equal_LoadOver.l0 N x0 x1 (k1 + 1) (x0.length : Int) =
    some true := by
  have e1 : decide ((x0.length : Int) < (x0.length : Int)) = false := by rw [decide_eq_false_iff_not]; omega
  rw [slices_Equal_LoadOver.l0_succ]
  simp -implicitDefEqProofs only [e1, cond_false]
theorem slices_Equal_LoadOver.eq (N : Nat) (x0 : List (Int × Int × Int)) (x1 : List (Int × Int × Int)) : slices_Equal_LoadOver.fn N (x0, x1) =
    bif !((x0.length : Int) == (x1.length : Int)) then
      some false
    else
      slices_Equal_LoadOver.l0 N x0 x1 N 0 := by kernel_rfl
theorem slices_Equal_LoadOver.v {N : Nat} (hN : 4611686018427387904 ≤ N) (x0 x1 : List (Int × Int × Int)) (h : x0.length < 4611686018427387904) : slices_Equal_LoadOver.fn N (x0, x1) = some (eqL (fun p q => (((p.1) == (q.1)) && ((((p.2).1) == ((q.2).1)) && ((((p.2).2) == ((q.2).2)) && true)))) x0 x1) := equal_list hN (fun p q => (((p.1) == (q.1)) && ((((p.2).1) == ((q.2).1)) && ((((p.2).2) == ((q.2).2)) && true)))) (0, (0, 0)) h (fun k i => slices_Equal_LoadOver.l0 N x0 x1 k i) (slices_Equal_LoadOver.eq N x0 x1) (fun k i => slices_Equal_LoadOver.l0_succ N x0 x1 k i)
theorem slices_Equal_LoadOver.self {N : Nat} (hN : 4611686018427387904 ≤ N) (x0 : List (Int × Int × Int)) (h : x0.length < 4611686018427387904) : slices_Equal_LoadOver.fn N (x0, x0) = some true := by rw [slices_Equal_LoadOver.v hN x0 x0 h]; exact congrArg some (eqL_refl (fun p => by simp [seq_self]) x0)

/-! ### law_loadFact: skyway/skywaylaw3.loadFact -/
def law_loadFact.kp : List (Nat × List (Nat × Option (TypeId × Ty))) := [(999999, [(0, none)])]
noncomputable def law_loadFact.G (N : Nat) : List (Nat × Spec) := [(29, .pure (load_Count.S N)), (31, .pure (slices_Equal_int.S N)), (32, .pure (load_Peaks.S N)), (35, .pure (load_Over.S N)), (57, .pure (law_two.S N)), (59, .pure (law_straight.S N)), (70, .pure (load_Entries.S N)), (71, .pure (slices_Equal_LoadOver.S N))]
noncomputable def law_loadFact.E (N : Nat) : Env := mkEnv (law_loadFact.G N) N tyTab law_loadFact.kp
noncomputable def law_loadFact.fn (N : Nat) (x : Unit) : Option Bool := evFn (law_loadFact.E N) Try.prog 3 Try.f28 false [] [.val (.cell (.bool))] x
noncomputable def law_loadFact.S (N : Nat) : PSpec := ⟨false, [], [.val (.cell (.bool))], law_loadFact.fn N⟩
theorem f28_enters : Enters Try.prog 28 := ⟨Try.f28, Try.func28, by kernel_rfl, by kernel_rfl⟩
theorem law_loadFact.tab (N : Nat) : TabOk Try.prog (law_loadFact.G N) := ⟨⟨load_Count.enters, load_Count.sound N⟩, ⟨slices_Equal_int.enters, slices_Equal_int.sound N⟩, ⟨load_Peaks.enters, load_Peaks.sound N⟩, ⟨load_Over.enters, load_Over.sound N⟩, ⟨law_two.enters, law_two.sound N⟩, ⟨law_straight.enters, law_straight.sound N⟩, ⟨load_Entries.enters, load_Entries.sound N⟩, ⟨slices_Equal_LoadOver.enters, slices_Equal_LoadOver.sound N⟩, trivial⟩
theorem law_loadFact.enters : Enters Try.prog 28 := f28_enters
theorem law_loadFact.sound (N : Nat) : Sound Try.prog 28 (law_loadFact.S N) := evFn_sound (specs_tab (law_loadFact.tab N)) (inls_tab (law_loadFact.tab N)) mixed 3 Try.func28 _ _ _
theorem law_loadFact.eq (N : Nat) : law_loadFact.fn N () =
    (law_two.fn N ()).bind fun r1 =>
    (law_straight.fn N (5, 15)).bind fun r2 =>
    (load_Count.fn N (r1, [r2], 3)).bind fun r3 =>
    (load_Peaks.fn N (r1, [r2], (0, 11))).bind fun r4 =>
    (load_Over.fn N (r1, [r2], [0, 1], (0, 11))).bind fun r5 =>
    (load_Entries.fn N (r1, [r2])).bind fun r6 =>
    bif r3.2.2 == 0 then
      bif r4.2.2 == 0 then
        bif r5.2 == 0 then
          bif r6.2 == 0 then
            (slices_Equal_int.fn N (r3.1, [1, 0])).bind fun r7 =>
            bif r7 then
              bif r3.2.1 == 0 then
                (slices_Equal_int.fn N (r4.1, [1, 1])).bind fun r8 =>
                bif r8 then
                  (slices_Equal_int.fn N (r4.2.1, [0, 6])).bind fun r9 =>
                  bif r9 then
                    (slices_Equal_LoadOver.fn N (r5.1, [(0, (0, 5))])).bind fun r10 =>
                    bif r10 then
                      (slices_Equal_int.fn N (r6.1, [1, 1])).bind fun r11 =>
                      some r11
                    else
                      some false
                  else
                    some false
                else
                  some false
              else
                some false
            else
              some false
          else
            some false
        else
          some false
      else
        some false
    else
      some false := by kernel_rfl

/-! ### ref_IsName: skyway/skywayref3.IsName -/
def ref_IsName.kp : List (Nat × List (Nat × Option (TypeId × Ty))) := [(4, [(0, none), (3, none)])]
noncomputable def ref_IsName.G (N : Nat) : List (Nat × Spec) := []
noncomputable def ref_IsName.E (N : Nat) : Env := mkEnv (ref_IsName.G N) N tyTab ref_IsName.kp
noncomputable def ref_IsName.fn (N : Nat) (x : ByteArray) : Option Bool := evFn (ref_IsName.E N) Try.prog 3 Try.f19 false [.cell (.str)] [.val (.cell (.bool))] x
noncomputable def ref_IsName.S (N : Nat) : PSpec := ⟨false, [.cell (.str)], [.val (.cell (.bool))], ref_IsName.fn N⟩
theorem f19_enters : Enters Try.prog 19 := ⟨Try.f19, Try.func19, by kernel_rfl, by kernel_rfl⟩
theorem ref_IsName.tab (N : Nat) : TabOk Try.prog (ref_IsName.G N) := trivial
theorem ref_IsName.enters : Enters Try.prog 19 := f19_enters
theorem ref_IsName.sound (N : Nat) : Sound Try.prog 19 (ref_IsName.S N) := evFn_sound (specs_tab (ref_IsName.tab N)) (inls_tab (ref_IsName.tab N)) mixed 3 Try.func19 _ _ _
noncomputable def ref_IsName.cd (N : Nat) (p : List Nat) : St → (Ex → St → Option Bool) → Option Bool := ev (ref_IsName.E N) Try.prog (callD (ref_IsName.E N) Try.prog 3) 0 (codeAt (bodyOf Try.f19) p)
noncomputable def ref_IsName.fin : Ex → St → Option Bool := endK Try.prog Try.f19 [.val (.cell (.bool))]
noncomputable def ref_IsName.l0 (N : Nat) (x0 : ByteArray) (k1 : Nat) (a2 : Int) : Option Bool :=
  loopN (norm ((ref_IsName.E N).keep 4) 0) (ref_IsName.cd N [1, 1, 0, 1, 0, 0]) k1
  ⟨[.sc (.string x0), .any, .any, .sc (.int .i64 a2), .any, .any, .any, .any, .any, .any, .any, .any, .any, .any, .any, .any, .any, .any, .any, .any, .any, .any, .any, .any, .any, .any, .any, .any, .any, .any, .any, .any, .any, .any, .any, .any, .any, .any, .any, .any, .any, .any, .any, .any, .any], []⟩
  (blockK 0 (seqK (ref_IsName.cd N [1, 1, 1]) ref_IsName.fin))
theorem ref_IsName.l0_zero (N : Nat) (x0 : ByteArray) (a2 : Int) : ref_IsName.l0 N x0 0 a2 = none := by kernel_rfl
theorem ref_IsName.l0_succ (N : Nat) (x0 : ByteArray) (k1 : Nat) (a2 : Int) : ref_IsName.l0 N x0 (k1 + 1) a2 =
    bif decide (a2 < (x0.size : Int)) then
      bif (decide (0 ≤ a2)) && (decide (a2 < (x0.size : Int))) then
        bif !(!(decide (((((ByteArray.data x0).getD (Int.toNat a2) 0).toNat : Nat) : Int) < 65))) || (!(decide (((((ByteArray.data x0).getD (Int.toNat a2) 0).toNat : Nat) : Int) < 65))) then
          bif (decide (((((ByteArray.data x0).getD (Int.toNat a2) 0).toNat : Nat) : Int) < 65)) || (!(decide (((((ByteArray.data x0).getD (Int.toNat a2) 0).toNat : Nat) : Int) < 65))) then
            bif !((decide (((((ByteArray.data x0).getD (Int.toNat a2) 0).toNat : Nat) : Int) < 65)) || (decide (((((ByteArray.data x0).getD (Int.toNat a2) 0).toNat : Nat) : Int) > 90))) || ((decide (((((ByteArray.data x0).getD (Int.toNat a2) 0).toNat : Nat) : Int) < 65)) || (decide (((((ByteArray.data x0).getD (Int.toNat a2) 0).toNat : Nat) : Int) > 90))) then
              bif !((decide (((((ByteArray.data x0).getD (Int.toNat a2) 0).toNat : Nat) : Int) < 65)) || (decide (((((ByteArray.data x0).getD (Int.toNat a2) 0).toNat : Nat) : Int) > 90))) || ((decide (((((ByteArray.data x0).getD (Int.toNat a2) 0).toNat : Nat) : Int) < 65)) || (decide (((((ByteArray.data x0).getD (Int.toNat a2) 0).toNat : Nat) : Int) > 90))) then
                bif !(((decide (((((ByteArray.data x0).getD (Int.toNat a2) 0).toNat : Nat) : Int) < 65)) || (decide (((((ByteArray.data x0).getD (Int.toNat a2) 0).toNat : Nat) : Int) > 90))) && (!(decide (((((ByteArray.data x0).getD (Int.toNat a2) 0).toNat : Nat) : Int) < 48)))) || (((decide (((((ByteArray.data x0).getD (Int.toNat a2) 0).toNat : Nat) : Int) < 65)) || (decide (((((ByteArray.data x0).getD (Int.toNat a2) 0).toNat : Nat) : Int) > 90))) && (!(decide (((((ByteArray.data x0).getD (Int.toNat a2) 0).toNat : Nat) : Int) < 48)))) then
                  bif !((decide (((((ByteArray.data x0).getD (Int.toNat a2) 0).toNat : Nat) : Int) < 65)) || (decide (((((ByteArray.data x0).getD (Int.toNat a2) 0).toNat : Nat) : Int) > 90))) || ((decide (((((ByteArray.data x0).getD (Int.toNat a2) 0).toNat : Nat) : Int) < 65)) || (decide (((((ByteArray.data x0).getD (Int.toNat a2) 0).toNat : Nat) : Int) > 90))) then
                    bif !((decide (((((ByteArray.data x0).getD (Int.toNat a2) 0).toNat : Nat) : Int) < 65)) || (decide (((((ByteArray.data x0).getD (Int.toNat a2) 0).toNat : Nat) : Int) > 90))) || ((decide (((((ByteArray.data x0).getD (Int.toNat a2) 0).toNat : Nat) : Int) < 48)) || (((decide (((((ByteArray.data x0).getD (Int.toNat a2) 0).toNat : Nat) : Int) < 65)) || (decide (((((ByteArray.data x0).getD (Int.toNat a2) 0).toNat : Nat) : Int) > 90))) && (!(decide (((((ByteArray.data x0).getD (Int.toNat a2) 0).toNat : Nat) : Int) < 48))))) then
                      bif (!((decide (((((ByteArray.data x0).getD (Int.toNat a2) 0).toNat : Nat) : Int) < 65)) || (decide (((((ByteArray.data x0).getD (Int.toNat a2) 0).toNat : Nat) : Int) > 90)))) || ((decide (((((ByteArray.data x0).getD (Int.toNat a2) 0).toNat : Nat) : Int) < 65)) || (decide (((((ByteArray.data x0).getD (Int.toNat a2) 0).toNat : Nat) : Int) > 90))) then
                        bif ((decide (((((ByteArray.data x0).getD (Int.toNat a2) 0).toNat : Nat) : Int) < 65)) || (decide (((((ByteArray.data x0).getD (Int.toNat a2) 0).toNat : Nat) : Int) > 90))) && ((decide (((((ByteArray.data x0).getD (Int.toNat a2) 0).toNat : Nat) : Int) < 48)) || (decide (((((ByteArray.data x0).getD (Int.toNat a2) 0).toNat : Nat) : Int) > 57))) then
                          some false
                        else
                          ref_IsName.l0 N x0 k1 (w (a2 + 1))
                      else
                        none
                    else
                      none
                  else
                    none
                else
                  none
              else
                none
            else
              none
          else
            none
        else
          none
      else
        none
    else
      some true := by kernel_rfl
theorem ref_IsName.l0_clean (N : Nat) (x0 : ByteArray) (k1 : Nat) (a2 : Int) : ref_IsName.l0 N x0 (k1 + 1) a2 =
    bif decide (a2 < (x0.size : Int)) then
      bif (decide (0 ≤ a2)) && (decide (a2 < (x0.size : Int))) then
        bif ((decide (((((ByteArray.data x0).getD (Int.toNat a2) 0).toNat : Nat) : Int) < 65)) || (decide (((((ByteArray.data x0).getD (Int.toNat a2) 0).toNat : Nat) : Int) > 90))) && ((decide (((((ByteArray.data x0).getD (Int.toNat a2) 0).toNat : Nat) : Int) < 48)) || (decide (((((ByteArray.data x0).getD (Int.toNat a2) 0).toNat : Nat) : Int) > 57))) then
          some false
        else
          ref_IsName.l0 N x0 k1 (w (a2 + 1))
      else
        none
    else
      some true := by
  rw [ref_IsName.l0_succ]; simp only [taut1, taut2, taut3, taut4, taut5, taut6, cond_true]
theorem ref_IsName.l0_cons (N : Nat) (x0 : ByteArray) (k1 : Nat) {pre r} {x} (hl : x0.data.toList = pre ++ x :: r) (hb : x0.size < 4611686018427387904) : ref_IsName.l0 N x0 (k1 + 1) (pre.length : Int) =
    bif ((decide (((x.toNat : Nat) : Int) < 65)) || (decide (((x.toNat : Nat) : Int) > 90))) && ((decide (((x.toNat : Nat) : Int) < 48)) || (decide (((x.toNat : Nat) : Int) > 57))) then
      some false
    else
      ref_IsName.l0 N x0 k1 ((pre.length : Int) + 1) := by
  have hlen : x0.size = pre.length + 1 + r.length := by rw [ByteArray.size, ← Array.length_toList, hl]; simp; omega
  have e1 : decide ((pre.length : Int) < (x0.size : Int)) = true := by rw [decide_eq_true_iff]; omega
  have e2 : decide (0 ≤ (pre.length : Int)) = true := by rw [decide_eq_true_iff]; omega
  have e4 : w ((pre.length : Int) + 1) = (pre.length : Int) + 1 := w_next hl (by rw [Array.length_toList]; exact hb)
  have e6 : decide ((pre.length : Int) ≤ (x0.size : Int)) = true := by rw [decide_eq_true_iff]; omega
  have g0 : (ByteArray.data x0).getD pre.length 0 = x := getD_bytes hl
  rw [ref_IsName.l0_clean]
  simp -implicitDefEqProofs only [Int.toNat_natCast, e1, e2, e4, e6, g0, Bool.and_true, Bool.true_and, Bool.true_or, cond_true]
theorem ref_IsName.l0_nil (N : Nat) (x0 : ByteArray) (k1 : Nat) : ref_IsName.l0 N x0 (k1 + 1) (x0.size : Int) =
    some true := by
  have e1 : decide ((x0.size : Int) < (x0.size : Int)) = false := by rw [decide_eq_false_iff_not]; omega
  rw [ref_IsName.l0_clean]
  simp -implicitDefEqProofs only [e1, cond_false]
theorem ref_IsName.eq (N : Nat) (x0 : ByteArray) : ref_IsName.fn N x0 =
    bif !(!(seq x0 (⟨#[]⟩ : ByteArray))) || (!(seq x0 (⟨#[]⟩ : ByteArray))) then
      bif !(!(seq x0 (⟨#[]⟩ : ByteArray))) || (!(seq x0 (⟨#[]⟩ : ByteArray))) then
        bif (seq x0 (⟨#[]⟩ : ByteArray)) || (!(seq x0 (⟨#[]⟩ : ByteArray))) then
          bif !(!((seq x0 (⟨#[]⟩ : ByteArray)) || (decide ((x0.size : Int) > 8)))) || (!((seq x0 (⟨#[]⟩ : ByteArray)) || (decide ((x0.size : Int) > 8)))) then
            bif (decide (0 < (x0.size : Int))) || !(!((seq x0 (⟨#[]⟩ : ByteArray)) || (decide ((x0.size : Int) > 8)))) then
              bif !(!((seq x0 (⟨#[]⟩ : ByteArray)) || (decide ((x0.size : Int) > 8)))) || (!((seq x0 (⟨#[]⟩ : ByteArray)) || (decide ((x0.size : Int) > 8)))) then
                bif !(!((seq x0 (⟨#[]⟩ : ByteArray)) || (decide ((x0.size : Int) > 8)))) || (!((seq x0 (⟨#[]⟩ : ByteArray)) || (decide ((x0.size : Int) > 8)))) then
                  bif !((!((seq x0 (⟨#[]⟩ : ByteArray)) || (decide ((x0.size : Int) > 8)))) && (decide (((((ByteArray.data x0).getD 0 0).toNat : Nat) : Int) ≥ 48))) || ((!((seq x0 (⟨#[]⟩ : ByteArray)) || (decide ((x0.size : Int) > 8)))) && (decide (((((ByteArray.data x0).getD 0 0).toNat : Nat) : Int) ≥ 48))) then
                    bif (decide (0 < (x0.size : Int))) || !((!((seq x0 (⟨#[]⟩ : ByteArray)) || (decide ((x0.size : Int) > 8)))) && (decide (((((ByteArray.data x0).getD 0 0).toNat : Nat) : Int) ≥ 48))) then
                      bif !((!((seq x0 (⟨#[]⟩ : ByteArray)) || (decide ((x0.size : Int) > 8)))) && (decide (((((ByteArray.data x0).getD 0 0).toNat : Nat) : Int) ≥ 48))) || ((!((seq x0 (⟨#[]⟩ : ByteArray)) || (decide ((x0.size : Int) > 8)))) && (decide (((((ByteArray.data x0).getD 0 0).toNat : Nat) : Int) ≥ 48))) then
                        bif !(!((seq x0 (⟨#[]⟩ : ByteArray)) || (decide ((x0.size : Int) > 8)))) || (!((seq x0 (⟨#[]⟩ : ByteArray)) || (decide ((x0.size : Int) > 8)))) then
                          bif !(!((seq x0 (⟨#[]⟩ : ByteArray)) || (decide ((x0.size : Int) > 8)))) || ((!(decide (((((ByteArray.data x0).getD 0 0).toNat : Nat) : Int) ≥ 48))) || ((!((seq x0 (⟨#[]⟩ : ByteArray)) || (decide ((x0.size : Int) > 8)))) && (decide (((((ByteArray.data x0).getD 0 0).toNat : Nat) : Int) ≥ 48)))) then
                            bif ((seq x0 (⟨#[]⟩ : ByteArray)) || (decide ((x0.size : Int) > 8))) || (!((seq x0 (⟨#[]⟩ : ByteArray)) || (decide ((x0.size : Int) > 8)))) then
                              bif ((seq x0 (⟨#[]⟩ : ByteArray)) || (decide ((x0.size : Int) > 8))) || ((decide (((((ByteArray.data x0).getD 0 0).toNat : Nat) : Int) ≥ 48)) && (decide (((((ByteArray.data x0).getD 0 0).toNat : Nat) : Int) ≤ 57))) then
                                some false
                              else
                                ref_IsName.l0 N x0 N 0
                            else
                              none
                          else
                            none
                        else
                          none
                      else
                        none
                    else
                      none
                  else
                    none
                else
                  none
              else
                none
            else
              none
          else
            none
        else
          none
      else
        none
    else
      none := by kernel_rfl
theorem ref_IsName.clean (N : Nat) (x0 : ByteArray) : ref_IsName.fn N x0 =
    bif (decide (0 < (x0.size : Int))) || !(!((seq x0 (⟨#[]⟩ : ByteArray)) || (decide ((x0.size : Int) > 8)))) then
      bif (decide (0 < (x0.size : Int))) || !((!((seq x0 (⟨#[]⟩ : ByteArray)) || (decide ((x0.size : Int) > 8)))) && (decide (((((ByteArray.data x0).getD 0 0).toNat : Nat) : Int) ≥ 48))) then
        bif ((seq x0 (⟨#[]⟩ : ByteArray)) || (decide ((x0.size : Int) > 8))) || ((decide (((((ByteArray.data x0).getD 0 0).toNat : Nat) : Int) ≥ 48)) && (decide (((((ByteArray.data x0).getD 0 0).toNat : Nat) : Int) ≤ 57))) then
          some false
        else
          ref_IsName.l0 N x0 N 0
      else
        none
    else
      none := by
  rw [ref_IsName.eq]; simp only [taut8, taut38, taut1, taut39, taut10, taut6, cond_true]

/-! ### ref_Has: skyway/skywayref3.Has -/
def ref_Has.kp : List (Nat × List (Nat × Option (TypeId × Ty))) := [(2, [(1, none), (7, none), (8, none), (9, none)])]
noncomputable def ref_Has.G (N : Nat) : List (Nat × Spec) := []
noncomputable def ref_Has.E (N : Nat) : Env := mkEnv (ref_Has.G N) N tyTab ref_Has.kp
noncomputable def ref_Has.fn (N : Nat) (x : List ByteArray × ByteArray) : Option Bool := evFn (ref_Has.E N) Try.prog 3 Try.f42 false [.cell (.sl 9 (.str)), .cell (.str)] [.val (.cell (.bool))] x
noncomputable def ref_Has.S (N : Nat) : PSpec := ⟨false, [.cell (.sl 9 (.str)), .cell (.str)], [.val (.cell (.bool))], ref_Has.fn N⟩
theorem f42_enters : Enters Try.prog 42 := ⟨Try.f42, Try.func42, by kernel_rfl, by kernel_rfl⟩
theorem ref_Has.tab (N : Nat) : TabOk Try.prog (ref_Has.G N) := trivial
theorem ref_Has.enters : Enters Try.prog 42 := f42_enters
theorem ref_Has.sound (N : Nat) : Sound Try.prog 42 (ref_Has.S N) := evFn_sound (specs_tab (ref_Has.tab N)) (inls_tab (ref_Has.tab N)) mixed 3 Try.func42 _ _ _
noncomputable def ref_Has.cd (N : Nat) (p : List Nat) : St → (Ex → St → Option Bool) → Option Bool := ev (ref_Has.E N) Try.prog (callD (ref_Has.E N) Try.prog 3) 0 (codeAt (bodyOf Try.f42) p)
noncomputable def ref_Has.fin : Ex → St → Option Bool := endK Try.prog Try.f42 [.val (.cell (.bool))]
noncomputable def ref_Has.l0 (N : Nat) (x0 : List ByteArray) (x1 : ByteArray) (k1 : Nat) (a2 : Int) : Option Bool :=
  loopN (norm ((ref_Has.E N).keep 2) 0) (ref_Has.cd N [1, 0, 1, 0, 0]) k1
  ⟨[.any, .sc (.string x1), .any, .any, .any, .any, .any, .ros false 9 (.str) x0, .sc (.int .i64 (x0.length : Int)), .sc (.int .i64 a2), .any, .any, .any, .any, .any, .any, .any], []⟩
  (blockK 0 (seqK (ref_Has.cd N [1, 1]) ref_Has.fin))
theorem ref_Has.l0_zero (N : Nat) (x0 : List ByteArray) (x1 : ByteArray) (a2 : Int) : ref_Has.l0 N x0 x1 0 a2 = none := by kernel_rfl
theorem ref_Has.l0_succ (N : Nat) (x0 : List ByteArray) (x1 : ByteArray) (k1 : Nat) (a2 : Int) : ref_Has.l0 N x0 x1 (k1 + 1) a2 =
    bif decide (a2 < (x0.length : Int)) then
      bif (decide (0 ≤ a2)) && (decide (a2 < (x0.length : Int))) then
        bif seq (List.getD x0 (Int.toNat a2) (⟨#[]⟩ : ByteArray)) x1 then
          some true
        else
          ref_Has.l0 N x0 x1 k1 (w (a2 + 1))
      else
        none
    else
      some false := by kernel_rfl
theorem ref_Has.l0_cons (N : Nat) (x0 : List ByteArray) (x1 : ByteArray) (k1 : Nat) {pre r} {x} (hl : x0 = pre ++ x :: r) (hb : x0.length < 4611686018427387904) : ref_Has.l0 N x0 x1 (k1 + 1) (pre.length : Int) =
    bif seq x x1 then
      some true
    else
      ref_Has.l0 N x0 x1 k1 ((pre.length : Int) + 1) := by
  have hlen : x0.length = pre.length + 1 + r.length := by rw [hl]; simp; omega
  have e1 : decide ((pre.length : Int) < (x0.length : Int)) = true := by rw [decide_eq_true_iff]; omega
  have e2 : decide (0 ≤ (pre.length : Int)) = true := by rw [decide_eq_true_iff]; omega
  have e4 : w ((pre.length : Int) + 1) = (pre.length : Int) + 1 := w_next hl hb
  have e5 : List.take pre.length x0 = pre := by rw [hl]; simp
  have e6 : decide ((pre.length : Int) ≤ (x0.length : Int)) = true := by rw [decide_eq_true_iff]; omega
  have g0 : List.getD x0 pre.length (⟨#[]⟩ : ByteArray) = x := by rw [hl]; exact getD_mid pre x r _
  rw [ref_Has.l0_succ]
  simp -implicitDefEqProofs only [Int.toNat_natCast, e1, e2, e4, e6, g0, e5, Bool.and_true, Bool.true_and, Bool.true_or, cond_true]
theorem ref_Has.l0_nil (N : Nat) (x0 : List ByteArray) (x1 : ByteArray) (k1 : Nat) : ref_Has.l0 N x0 x1 (k1 + 1) (x0.length : Int) =
    some false := by
  have e1 : decide ((x0.length : Int) < (x0.length : Int)) = false := by rw [decide_eq_false_iff_not]; omega
  rw [ref_Has.l0_succ]
  simp -implicitDefEqProofs only [e1, cond_false]
theorem ref_Has.eq (N : Nat) (x0 : List ByteArray) (x1 : ByteArray) : ref_Has.fn N (x0, x1) =
    ref_Has.l0 N x0 x1 N 0 := by kernel_rfl

/-! ### law_sectorsError: skyway/skywaylaw3.sectorsError -/
def law_sectorsError.kp : List (Nat × List (Nat × Option (TypeId × Ty))) := [(6, [(3, some (9, .str)), (4, some (113, .pair (.sl 29 (.pair (.int .i64) (.int .i64))) (.pair (.int .i64) (.int .i64)))), (17, none), (18, none), (19, none)]), (15, [(3, none), (4, none), (6, none), (17, none), (18, none), (19, none), (36, none), (37, none), (38, none)]), (26, [(4, none), (63, none), (64, none)]), (29, [(4, none), (10, none), (63, none), (64, none), (67, none), (68, none)])]
noncomputable def law_sectorsError.G (N : Nat) : List (Nat × Spec) := [(19, .pure (ref_IsName.S N)), (42, .pure (ref_Has.S N)), (63, .pure (volume_Check.S N)), (64, .pure (volume_Overlap.S N))]
noncomputable def law_sectorsError.E (N : Nat) : Env := mkEnv (law_sectorsError.G N) N tyTab law_sectorsError.kp
noncomputable def law_sectorsError.fn (N : Nat) (x : List (ByteArray × List (List (Int × Int) × Int × Int))) : Option Int := evFn (law_sectorsError.E N) Try.prog 3 Try.f17 true [.cell (.sl 106 (.pair (.str) (.sl 113 (.pair (.sl 29 (.pair (.int .i64) (.int .i64))) (.pair (.int .i64) (.int .i64))))))] [.val (.cell (.int .i64))] x
noncomputable def law_sectorsError.S (N : Nat) : PSpec := ⟨true, [.cell (.sl 106 (.pair (.str) (.sl 113 (.pair (.sl 29 (.pair (.int .i64) (.int .i64))) (.pair (.int .i64) (.int .i64))))))], [.val (.cell (.int .i64))], law_sectorsError.fn N⟩
theorem f17_enters : Enters Try.prog 17 := ⟨Try.f17, Try.func17, by kernel_rfl, by kernel_rfl⟩
theorem law_sectorsError.tab (N : Nat) : TabOk Try.prog (law_sectorsError.G N) := ⟨⟨ref_IsName.enters, ref_IsName.sound N⟩, ⟨ref_Has.enters, ref_Has.sound N⟩, ⟨volume_Check.enters, volume_Check.sound N⟩, ⟨volume_Overlap.enters, volume_Overlap.sound N⟩, trivial⟩
theorem law_sectorsError.enters : Enters Try.prog 17 := f17_enters
theorem law_sectorsError.sound (N : Nat) : Sound Try.prog 17 (law_sectorsError.S N) := evFn_sound (specs_tab (law_sectorsError.tab N)) (inls_tab (law_sectorsError.tab N)) mixed 3 Try.func17 _ _ _
noncomputable def law_sectorsError.cd (N : Nat) (p : List Nat) : St → (Ex → St → Option Int) → Option Int := ev (law_sectorsError.E N) Try.prog (callD (law_sectorsError.E N) Try.prog 3) 0 (codeAt (bodyOf Try.f17) p)
noncomputable def law_sectorsError.fin : Ex → St → Option Int := endK Try.prog Try.f17 [.val (.cell (.int .i64))]
noncomputable def law_sectorsError.l0 (N : Nat) (x0 : List (ByteArray × List (List (Int × Int) × Int × Int))) (k1 : Nat) (a2 : Int) (a3 : List ByteArray) (a4 : List (List (Int × Int) × Int × Int)) : Option Int :=
  loopN (norm ((law_sectorsError.E N).keep 6) 0) (law_sectorsError.cd N [1, 1, 1, 1, 0, 1, 0, 0]) k1
  ⟨[.any, .any, .any, .own 0, .own 1, .any, .any, .any, .any, .any, .any, .any, .any, .any, .any, .any, .any, .ros true 106 (.pair (.str) (.sl 113 (.pair (.sl 29 (.pair (.int .i64) (.int .i64))) (.pair (.int .i64) (.int .i64))))) x0, .sc (.int .i64 (x0.length : Int)), .sc (.int .i64 a2), .any, .any, .any, .any, .any, .any, .any, .any, .any, .any, .any, .any, .any, .any, .any, .any, .any, .any, .any, .any, .any, .any, .any, .any, .any, .any, .any, .any, .any, .any, .any, .any, .any, .any, .any, .any, .any, .any, .any, .any, .any, .any, .any, .any, .any, .any, .any, .any, .any, .any, .any, .any, .any, .any, .any, .any, .any, .any, .any, .any, .any, .any, .any, .any, .any, .any, .any, .any, .any, .any], [.rows true 9 (.str) a3, .rows true 113 (.pair (.sl 29 (.pair (.int .i64) (.int .i64))) (.pair (.int .i64) (.int .i64))) a4]⟩
  (blockK 0 (seqK (law_sectorsError.cd N [1, 1, 1, 1, 1]) law_sectorsError.fin))
noncomputable def law_sectorsError.l1 (N : Nat) (x0 : List (ByteArray × List (List (Int × Int) × Int × Int))) (k1 : Nat) (a2 : Int) (a3 : List ByteArray) (a4 : List (List (Int × Int) × Int × Int)) (k6 : Nat) (a7 : Int) : Option Int :=
  loopN (norm ((law_sectorsError.E N).keep 15) 0) (law_sectorsError.cd N [1, 1, 1, 1, 0, 1, 0, 0, 1, 1, 0, 0, 1, 1, 1, 1, 0, 1, 0, 0]) k6
  ⟨[.any, .any, .any, .own 0, .own 1, .any, .ptr 2 0, .any, .any, .any, .any, .any, .any, .any, .any, .any, .any, .ros true 106 (.pair (.str) (.sl 113 (.pair (.sl 29 (.pair (.int .i64) (.int .i64))) (.pair (.int .i64) (.int .i64))))) x0, .sc (.int .i64 (x0.length : Int)), .sc (.int .i64 a2), .any, .any, .any, .any, .any, .any, .any, .any, .any, .any, .any, .any, .any, .any, .any, .any, .ros true 113 (.pair (.sl 29 (.pair (.int .i64) (.int .i64))) (.pair (.int .i64) (.int .i64))) ((List.getD x0 (Int.toNat a2) ((⟨#[]⟩ : ByteArray), [])).2), .sc (.int .i64 (((List.getD x0 (Int.toNat a2) ((⟨#[]⟩ : ByteArray), [])).2).length : Int)), .sc (.int .i64 a7), .any, .any, .any, .any, .any, .any, .any, .any, .any, .any, .any, .any, .any, .any, .any, .any, .any, .any, .any, .any, .any, .any, .any, .any, .any, .any, .any, .any, .any, .any, .any, .any, .any, .any, .any, .any, .any, .any, .any, .any, .any, .any, .any, .any, .any, .any, .any, .any, .any, .any, .any], [.rows true 9 (.str) a3, .rows true 113 (.pair (.sl 29 (.pair (.int .i64) (.int .i64))) (.pair (.int .i64) (.int .i64))) a4, .cells [.sc (.string ((List.getD x0 (Int.toNat a2) ((⟨#[]⟩ : ByteArray), [])).1)), .ros true 113 (.pair (.sl 29 (.pair (.int .i64) (.int .i64))) (.pair (.int .i64) (.int .i64))) ((List.getD x0 (Int.toNat a2) ((⟨#[]⟩ : ByteArray), [])).2)] 106]⟩
  (blockK 2 (seqK (law_sectorsError.cd N [1, 1, 1, 1, 0, 1, 0, 0, 1, 1, 0, 0, 1, 1, 1, 1, 1]) (blockK 1 (seqK (law_sectorsError.cd N [1, 1, 1, 1, 0, 1, 0, 0, 1, 1, 1]) (loopK (norm ((law_sectorsError.E N).keep 6) 0) (law_sectorsError.cd N [1, 1, 1, 1, 0, 1, 0, 0]) k1 (blockK 0 (seqK (law_sectorsError.cd N [1, 1, 1, 1, 1]) law_sectorsError.fin)))))))
noncomputable def law_sectorsError.l2 (N : Nat) (a4 : List (List (Int × Int) × Int × Int)) (k10 : Nat) (a11 : Int) : Option Int :=
  loopN (norm ((law_sectorsError.E N).keep 26) 0) (law_sectorsError.cd N [1, 1, 1, 1, 1, 0, 1, 0, 0]) k10
  ⟨[.any, .any, .any, .any, .own 0, .any, .any, .any, .any, .any, .any, .any, .any, .any, .any, .any, .any, .any, .any, .any, .any, .any, .any, .any, .any, .any, .any, .any, .any, .any, .any, .any, .any, .any, .any, .any, .any, .any, .any, .any, .any, .any, .any, .any, .any, .any, .any, .any, .any, .any, .any, .any, .any, .any, .any, .any, .any, .any, .any, .any, .any, .any, .any, .sc (.int .i64 (a4.length : Int)), .sc (.int .i64 a11), .any, .any, .any, .any, .any, .any, .any, .any, .any, .any, .any, .any, .any, .any, .any, .any, .any, .any, .any, .any, .any, .any, .any, .any, .any], [.rows true 113 (.pair (.sl 29 (.pair (.int .i64) (.int .i64))) (.pair (.int .i64) (.int .i64))) a4]⟩
  (blockK 4 (seqK (law_sectorsError.cd N [1, 1, 1, 1, 1, 1]) law_sectorsError.fin))
noncomputable def law_sectorsError.l3 (N : Nat) (a4 : List (List (Int × Int) × Int × Int)) (k10 : Nat) (a11 : Int) (k12 : Nat) (a13 : Int) : Option Int :=
  loopN (norm ((law_sectorsError.E N).keep 29) 0) (law_sectorsError.cd N [1, 1, 1, 1, 1, 0, 1, 0, 0, 1, 1, 0, 0, 1, 1, 0, 0]) k12
  ⟨[.any, .any, .any, .any, .own 0, .any, .any, .any, .any, .any, .sc (.int .i64 a11), .any, .any, .any, .any, .any, .any, .any, .any, .any, .any, .any, .any, .any, .any, .any, .any, .any, .any, .any, .any, .any, .any, .any, .any, .any, .any, .any, .any, .any, .any, .any, .any, .any, .any, .any, .any, .any, .any, .any, .any, .any, .any, .any, .any, .any, .any, .any, .any, .any, .any, .any, .any, .sc (.int .i64 (a4.length : Int)), .sc (.int .i64 a11), .any, .any, .sc (.int .i64 a11), .sc (.int .i64 a13), .any, .any, .any, .any, .any, .any, .any, .any, .any, .any, .any, .any, .any, .any, .any, .any, .any, .any, .any, .any, .any], [.rows true 113 (.pair (.sl 29 (.pair (.int .i64) (.int .i64))) (.pair (.int .i64) (.int .i64))) a4]⟩
  (blockK 6 (blockK 5 (seqK (law_sectorsError.cd N [1, 1, 1, 1, 1, 0, 1, 0, 0, 1, 1, 1]) (loopK (norm ((law_sectorsError.E N).keep 26) 0) (law_sectorsError.cd N [1, 1, 1, 1, 1, 0, 1, 0, 0]) k10 (blockK 4 (seqK (law_sectorsError.cd N [1, 1, 1, 1, 1, 1]) law_sectorsError.fin))))))
theorem law_sectorsError.l3_zero (N : Nat) (a4 : List (List (Int × Int) × Int × Int)) (k10 : Nat) (a11 : Int) (a13 : Int) : law_sectorsError.l3 N a4 k10 a11 0 a13 = none := by kernel_rfl
theorem law_sectorsError.l3_succ (N : Nat) (a4 : List (List (Int × Int) × Int × Int)) (k10 : Nat) (a11 : Int) (k12 : Nat) (a13 : Int) : law_sectorsError.l3 N a4 k10 a11 (k12 + 1) a13 =
    bif decide (a13 < a11) then
      bif (decide (0 ≤ a13)) && (decide (a13 < (a4.length : Int))) then
        bif decide ((Int.toNat a13) < a4.length) then
          bif (decide (0 ≤ a11)) && (decide (a11 < (a4.length : Int))) then
            bif decide ((Int.toNat a11) < a4.length) then
              (volume_Overlap.fn N (List.getD a4 (Int.toNat a13) ([], (0, 0)), List.getD a4 (Int.toNat a11) ([], (0, 0)))).bind fun r14 =>
              bif (!(r14.2 == 0)) || (!(!(r14.2 == 0))) then
                bif (!(r14.2 == 0)) || r14.1 then
                  some 19
                else
                  law_sectorsError.l3 N a4 k10 a11 k12 (w (a13 + 1))
              else
                none
            else
              none
          else
            none
        else
          none
      else
        none
    else
      law_sectorsError.l2 N a4 k10 (w (a11 + 1)) := by kernel_rfl
theorem law_sectorsError.l2_zero (N : Nat) (a4 : List (List (Int × Int) × Int × Int)) (a11 : Int) : law_sectorsError.l2 N a4 0 a11 = none := by kernel_rfl
theorem law_sectorsError.l2_succ (N : Nat) (a4 : List (List (Int × Int) × Int × Int)) (k10 : Nat) (a11 : Int) : law_sectorsError.l2 N a4 (k10 + 1) a11 =
    bif decide (a11 < (a4.length : Int)) then
      law_sectorsError.l3 N a4 k10 a11 N 0
    else
      some 0 := by kernel_rfl
theorem law_sectorsError.l1_zero (N : Nat) (x0 : List (ByteArray × List (List (Int × Int) × Int × Int))) (k1 : Nat) (a2 : Int) (a3 : List ByteArray) (a4 : List (List (Int × Int) × Int × Int)) (a7 : Int) : law_sectorsError.l1 N x0 k1 a2 a3 a4 0 a7 = none := by kernel_rfl
theorem law_sectorsError.l1_succ (N : Nat) (x0 : List (ByteArray × List (List (Int × Int) × Int × Int))) (k1 : Nat) (a2 : Int) (a3 : List ByteArray) (a4 : List (List (Int × Int) × Int × Int)) (k6 : Nat) (a7 : Int) : law_sectorsError.l1 N x0 k1 a2 a3 a4 (k6 + 1) a7 =
    bif decide (a7 < (((List.getD x0 (Int.toNat a2) ((⟨#[]⟩ : ByteArray), [])).2).length : Int)) then
      bif (decide (0 ≤ a7)) && (decide (a7 < (((List.getD x0 (Int.toNat a2) ((⟨#[]⟩ : ByteArray), [])).2).length : Int))) then
        (volume_Check.fn N (List.getD ((List.getD x0 (Int.toNat a2) ((⟨#[]⟩ : ByteArray), [])).2) (Int.toNat a7) ([], (0, 0)))).bind fun r8 =>
        bif !(r8 == 0) then
          some r8
        else
          law_sectorsError.l1 N x0 k1 a2 a3 a4 k6 (w (a7 + 1))
      else
        none
    else
      (ref_Has.fn N (a3, (List.getD x0 (Int.toNat a2) ((⟨#[]⟩ : ByteArray), [])).1)).bind fun r9 =>
      bif r9 then
        some 7
      else
      bif decide ((a3.length + 1) * 16 ≤ 140737488355328) && decide ((a3.length + 1) ≤ maxLen) then
        bif decide ((a4.length + ((List.getD x0 (Int.toNat a2) ((⟨#[]⟩ : ByteArray), [])).2).length) * 40 ≤ 140737488355328) && decide ((a4.length + ((List.getD x0 (Int.toNat a2) ((⟨#[]⟩ : ByteArray), [])).2).length) ≤ maxLen) then
          law_sectorsError.l0 N x0 k1 (w (a2 + 1)) (a3 ++ [(List.getD x0 (Int.toNat a2) ((⟨#[]⟩ : ByteArray), [])).1]) (a4 ++ (List.getD x0 (Int.toNat a2) ((⟨#[]⟩ : ByteArray), [])).2)
        else
          none
      else
        none := by kernel_rfl
theorem law_sectorsError.l0_zero (N : Nat) (x0 : List (ByteArray × List (List (Int × Int) × Int × Int))) (a2 : Int) (a3 : List ByteArray) (a4 : List (List (Int × Int) × Int × Int)) : law_sectorsError.l0 N x0 0 a2 a3 a4 = none := by kernel_rfl
theorem law_sectorsError.l0_succ (N : Nat) (x0 : List (ByteArray × List (List (Int × Int) × Int × Int))) (k1 : Nat) (a2 : Int) (a3 : List ByteArray) (a4 : List (List (Int × Int) × Int × Int)) : law_sectorsError.l0 N x0 (k1 + 1) a2 a3 a4 =
    bif decide (a2 < (x0.length : Int)) then
      bif (decide (0 ≤ a2)) && (decide (a2 < (x0.length : Int))) then
        (ref_IsName.fn N ((List.getD x0 (Int.toNat a2) ((⟨#[]⟩ : ByteArray), [])).1)).bind fun r5 =>
        bif !r5 then
          some 3
        else
        bif (((List.getD x0 (Int.toNat a2) ((⟨#[]⟩ : ByteArray), [])).2).length : Int) == 0 then
          some 8
        else
        bif decide ((((List.getD x0 (Int.toNat a2) ((⟨#[]⟩ : ByteArray), [])).2).length : Int) > 4) then
          some 2
        else
          law_sectorsError.l1 N x0 k1 a2 a3 a4 N 0
      else
        none
    else
      law_sectorsError.l2 N a4 N 0 := by kernel_rfl
theorem taut46 : ∀ p0 : Bool, (((!(p0)) || (!(!(p0))))) = true := by decide
theorem law_sectorsError.l3_clean (N : Nat) (a4 : List (List (Int × Int) × Int × Int)) (k10 : Nat) (a11 : Int) (k12 : Nat) (a13 : Int) : law_sectorsError.l3 N a4 k10 a11 (k12 + 1) a13 =
    bif decide (a13 < a11) then
      bif (decide (0 ≤ a13)) && (decide (a13 < (a4.length : Int))) then
        bif decide ((Int.toNat a13) < a4.length) then
          bif (decide (0 ≤ a11)) && (decide (a11 < (a4.length : Int))) then
            bif decide ((Int.toNat a11) < a4.length) then
              (volume_Overlap.fn N (List.getD a4 (Int.toNat a13) ([], (0, 0)), List.getD a4 (Int.toNat a11) ([], (0, 0)))).bind fun r14 =>
              bif (!(r14.2 == 0)) || r14.1 then
                some 19
              else
                law_sectorsError.l3 N a4 k10 a11 k12 (w (a13 + 1))
            else
              none
          else
            none
        else
          none
      else
        none
    else
      law_sectorsError.l2 N a4 k10 (w (a11 + 1)) := by
  rw [law_sectorsError.l3_succ]; simp only [taut46, cond_true]
theorem law_sectorsError.l2_cons (N : Nat) (a4 : List (List (Int × Int) × Int × Int)) (k10 : Nat) {pre r} {x} (hl : a4 = pre ++ x :: r) (hb : a4.length < 4611686018427387904) : law_sectorsError.l2 N a4 (k10 + 1) (pre.length : Int) =
    law_sectorsError.l3 N a4 k10 (pre.length : Int) N 0 := by
  have hlen : a4.length = pre.length + 1 + r.length := by rw [hl]; simp; omega
  have e1 : decide ((pre.length : Int) < (a4.length : Int)) = true := by rw [decide_eq_true_iff]; omega
  have e2 : decide (0 ≤ (pre.length : Int)) = true := by rw [decide_eq_true_iff]; omega
  have e4 : w ((pre.length : Int) + 1) = (pre.length : Int) + 1 := w_next hl hb
  have e5 : List.take pre.length a4 = pre := by rw [hl]; simp
  have e6 : decide ((pre.length : Int) ≤ (a4.length : Int)) = true := by rw [decide_eq_true_iff]; omega
  rw [law_sectorsError.l2_succ]
  simp -implicitDefEqProofs only [Int.toNat_natCast, e1, e2, e4, e6, e5, Bool.and_true, Bool.true_and, Bool.true_or, cond_true]
theorem law_sectorsError.l2_nil (N : Nat) (a4 : List (List (Int × Int) × Int × Int)) (k10 : Nat) : law_sectorsError.l2 N a4 (k10 + 1) (a4.length : Int) =
    some 0 := by
  have e1 : decide ((a4.length : Int) < (a4.length : Int)) = false := by rw [decide_eq_false_iff_not]; omega
  rw [law_sectorsError.l2_succ]
  simp -implicitDefEqProofs only [e1, cond_false]
theorem law_sectorsError.l1_cons (N : Nat) (x0 : List (ByteArray × List (List (Int × Int) × Int × Int))) (k1 : Nat) (a2 : Int) (a3 : List ByteArray) (a4 : List (List (Int × Int) × Int × Int)) (k6 : Nat) {pre r} {x} (hl : ((List.getD x0 (Int.toNat a2) ((⟨#[]⟩ : ByteArray), [])).2) = pre ++ x :: r) (hb : ((List.getD x0 (Int.toNat a2) ((⟨#[]⟩ : ByteArray), [])).2).length < 4611686018427387904) : law_sectorsError.l1 N x0 k1 a2 a3 a4 (k6 + 1) (pre.length : Int) =
    (volume_Check.fn N x).bind fun r8 =>
    bif !(r8 == 0) then
      some r8
    else
      law_sectorsError.l1 N x0 k1 a2 a3 a4 k6 ((pre.length : Int) + 1) := by
  have hlen : ((List.getD x0 (Int.toNat a2) ((⟨#[]⟩ : ByteArray), [])).2).length = pre.length + 1 + r.length := by rw [hl]; simp; omega
  have e1 : decide ((pre.length : Int) < (((List.getD x0 (Int.toNat a2) ((⟨#[]⟩ : ByteArray), [])).2).length : Int)) = true := by rw [decide_eq_true_iff]; omega
  have e2 : decide (0 ≤ (pre.length : Int)) = true := by rw [decide_eq_true_iff]; omega
  have e4 : w ((pre.length : Int) + 1) = (pre.length : Int) + 1 := w_next hl hb
  have e5 : List.take pre.length ((List.getD x0 (Int.toNat a2) ((⟨#[]⟩ : ByteArray), [])).2) = pre := by rw [hl]; simp
  have e6 : decide ((pre.length : Int) ≤ (((List.getD x0 (Int.toNat a2) ((⟨#[]⟩ : ByteArray), [])).2).length : Int)) = true := by rw [decide_eq_true_iff]; omega
  have g0 : List.getD ((List.getD x0 (Int.toNat a2) ((⟨#[]⟩ : ByteArray), [])).2) pre.length ([], (0, 0)) = x := by rw [hl]; exact getD_mid pre x r _
  rw [law_sectorsError.l1_succ]
  simp -implicitDefEqProofs only [Int.toNat_natCast, e1, e2, e4, e6, g0, e5, Bool.and_true, Bool.true_and, Bool.true_or, cond_true]
theorem law_sectorsError.l1_nil (N : Nat) (x0 : List (ByteArray × List (List (Int × Int) × Int × Int))) (k1 : Nat) (a2 : Int) (a3 : List ByteArray) (a4 : List (List (Int × Int) × Int × Int)) (k6 : Nat) : law_sectorsError.l1 N x0 k1 a2 a3 a4 (k6 + 1) (((List.getD x0 (Int.toNat a2) ((⟨#[]⟩ : ByteArray), [])).2).length : Int) =
    (ref_Has.fn N (a3, (List.getD x0 (Int.toNat a2) ((⟨#[]⟩ : ByteArray), [])).1)).bind fun r9 =>
    bif r9 then
      some 7
    else
    bif decide ((a3.length + 1) * 16 ≤ 140737488355328) && decide ((a3.length + 1) ≤ maxLen) then
      bif decide ((a4.length + ((List.getD x0 (Int.toNat a2) ((⟨#[]⟩ : ByteArray), [])).2).length) * 40 ≤ 140737488355328) && decide ((a4.length + ((List.getD x0 (Int.toNat a2) ((⟨#[]⟩ : ByteArray), [])).2).length) ≤ maxLen) then
        law_sectorsError.l0 N x0 k1 (w (a2 + 1)) (a3 ++ [(List.getD x0 (Int.toNat a2) ((⟨#[]⟩ : ByteArray), [])).1]) (a4 ++ (List.getD x0 (Int.toNat a2) ((⟨#[]⟩ : ByteArray), [])).2)
      else
        none
    else
      none := by
  have e1 : decide ((((List.getD x0 (Int.toNat a2) ((⟨#[]⟩ : ByteArray), [])).2).length : Int) < (((List.getD x0 (Int.toNat a2) ((⟨#[]⟩ : ByteArray), [])).2).length : Int)) = false := by rw [decide_eq_false_iff_not]; omega
  rw [law_sectorsError.l1_succ]
  simp -implicitDefEqProofs only [e1, cond_false]
theorem law_sectorsError.l0_cons (N : Nat) (x0 : List (ByteArray × List (List (Int × Int) × Int × Int))) (k1 : Nat) (a3 : List ByteArray) (a4 : List (List (Int × Int) × Int × Int)) {pre r} {x} (hl : x0 = pre ++ x :: r) (hb : x0.length < 4611686018427387904) : law_sectorsError.l0 N x0 (k1 + 1) (pre.length : Int) a3 a4 =
    (ref_IsName.fn N (x.1)).bind fun r5 =>
    bif !r5 then
      some 3
    else
    bif ((x.2).length : Int) == 0 then
      some 8
    else
    bif decide (((x.2).length : Int) > 4) then
      some 2
    else
      law_sectorsError.l1 N x0 k1 (pre.length : Int) a3 a4 N 0 := by
  have hlen : x0.length = pre.length + 1 + r.length := by rw [hl]; simp; omega
  have e1 : decide ((pre.length : Int) < (x0.length : Int)) = true := by rw [decide_eq_true_iff]; omega
  have e2 : decide (0 ≤ (pre.length : Int)) = true := by rw [decide_eq_true_iff]; omega
  have e4 : w ((pre.length : Int) + 1) = (pre.length : Int) + 1 := w_next hl hb
  have e5 : List.take pre.length x0 = pre := by rw [hl]; simp
  have e6 : decide ((pre.length : Int) ≤ (x0.length : Int)) = true := by rw [decide_eq_true_iff]; omega
  have g0 : List.getD x0 pre.length ((⟨#[]⟩ : ByteArray), []) = x := by rw [hl]; exact getD_mid pre x r _
  rw [law_sectorsError.l0_succ]
  simp -implicitDefEqProofs only [Int.toNat_natCast, e1, e2, e4, e6, g0, e5, Bool.and_true, Bool.true_and, Bool.true_or, cond_true]
theorem law_sectorsError.l0_nil (N : Nat) (x0 : List (ByteArray × List (List (Int × Int) × Int × Int))) (k1 : Nat) (a3 : List ByteArray) (a4 : List (List (Int × Int) × Int × Int)) : law_sectorsError.l0 N x0 (k1 + 1) (x0.length : Int) a3 a4 =
    law_sectorsError.l2 N a4 N 0 := by
  have e1 : decide ((x0.length : Int) < (x0.length : Int)) = false := by rw [decide_eq_false_iff_not]; omega
  rw [law_sectorsError.l0_succ]
  simp -implicitDefEqProofs only [e1, cond_false]
theorem law_sectorsError.eq (N : Nat) (x0 : List (ByteArray × List (List (Int × Int) × Int × Int))) : law_sectorsError.fn N x0 =
    bif decide ((x0.length : Int) > 12) then
      some 2
    else
      law_sectorsError.l0 N x0 N 0 [] [] := by kernel_rfl

/-! ### law_loadError: skyway/skywaylaw3.loadError -/
def law_loadError.kp : List (Nat × List (Nat × Option (TypeId × Ty))) := [(7, [(17, none), (18, none), (19, none)])]
noncomputable def law_loadError.G (N : Nat) : List (Nat × Spec) := [(17, .pure (law_sectorsError.S N)), (25, .pure (tube_Check.S N))]
noncomputable def law_loadError.E (N : Nat) : Env := mkEnv (law_loadError.G N) N tyTab law_loadError.kp
noncomputable def law_loadError.fn (N : Nat) (x : List (ByteArray × List (List (Int × Int) × Int × Int)) × List (List ((Int × (Int × Int) × Int) × Int × Int))) : Option Int := evFn (law_loadError.E N) Try.prog 3 Try.f30 false [.cell (.sl 106 (.pair (.str) (.sl 113 (.pair (.sl 29 (.pair (.int .i64) (.int .i64))) (.pair (.int .i64) (.int .i64)))))), .cell (.sl 40 (.sl 44 (.pair (.pair (.int .i64) (.pair (.pair (.int .i64) (.int .i64)) (.int .i64))) (.pair (.int .i64) (.int .i64)))))] [.val (.cell (.int .i64))] x
noncomputable def law_loadError.S (N : Nat) : PSpec := ⟨false, [.cell (.sl 106 (.pair (.str) (.sl 113 (.pair (.sl 29 (.pair (.int .i64) (.int .i64))) (.pair (.int .i64) (.int .i64)))))), .cell (.sl 40 (.sl 44 (.pair (.pair (.int .i64) (.pair (.pair (.int .i64) (.int .i64)) (.int .i64))) (.pair (.int .i64) (.int .i64)))))], [.val (.cell (.int .i64))], law_loadError.fn N⟩
theorem f30_enters : Enters Try.prog 30 := ⟨Try.f30, Try.func30, by kernel_rfl, by kernel_rfl⟩
theorem law_loadError.tab (N : Nat) : TabOk Try.prog (law_loadError.G N) := ⟨⟨law_sectorsError.enters, law_sectorsError.sound N⟩, ⟨tube_Check.enters, tube_Check.sound N⟩, trivial⟩
theorem law_loadError.enters : Enters Try.prog 30 := f30_enters
theorem law_loadError.sound (N : Nat) : Sound Try.prog 30 (law_loadError.S N) := evFn_sound (specs_tab (law_loadError.tab N)) (inls_tab (law_loadError.tab N)) mixed 3 Try.func30 _ _ _
noncomputable def law_loadError.cd (N : Nat) (p : List Nat) : St → (Ex → St → Option Int) → Option Int := ev (law_loadError.E N) Try.prog (callD (law_loadError.E N) Try.prog 3) 0 (codeAt (bodyOf Try.f30) p)
noncomputable def law_loadError.fin : Ex → St → Option Int := endK Try.prog Try.f30 [.val (.cell (.int .i64))]
noncomputable def law_loadError.l0 (N : Nat) (x1 : List (List ((Int × (Int × Int) × Int) × Int × Int))) (k2 : Nat) (a3 : Int) : Option Int :=
  loopN (norm ((law_loadError.E N).keep 7) 0) (law_loadError.cd N [1, 1, 1, 0, 1, 0, 0]) k2
  ⟨[.any, .any, .any, .any, .any, .any, .any, .any, .any, .any, .any, .any, .any, .any, .any, .any, .any, .ros false 40 (.sl 44 (.pair (.pair (.int .i64) (.pair (.pair (.int .i64) (.int .i64)) (.int .i64))) (.pair (.int .i64) (.int .i64)))) x1, .sc (.int .i64 (x1.length : Int)), .sc (.int .i64 a3), .any, .any, .any, .any, .any, .any, .any, .any, .any], []⟩
  (blockK 0 (seqK (law_loadError.cd N [1, 1, 1, 1]) law_loadError.fin))
theorem law_loadError.l0_zero (N : Nat) (x1 : List (List ((Int × (Int × Int) × Int) × Int × Int))) (a3 : Int) : law_loadError.l0 N x1 0 a3 = none := by kernel_rfl
theorem law_loadError.l0_succ (N : Nat) (x1 : List (List ((Int × (Int × Int) × Int) × Int × Int))) (k2 : Nat) (a3 : Int) : law_loadError.l0 N x1 (k2 + 1) a3 =
    bif decide (a3 < (x1.length : Int)) then
      bif (decide (0 ≤ a3)) && (decide (a3 < (x1.length : Int))) then
        (tube_Check.fn N (List.getD x1 (Int.toNat a3) [])).bind fun r4 =>
        bif !(r4 == 0) then
          some r4
        else
          law_loadError.l0 N x1 k2 (w (a3 + 1))
      else
        none
    else
      some 0 := by kernel_rfl
theorem law_loadError.l0_cons (N : Nat) (x1 : List (List ((Int × (Int × Int) × Int) × Int × Int))) (k2 : Nat) {pre r} {x} (hl : x1 = pre ++ x :: r) (hb : x1.length < 4611686018427387904) : law_loadError.l0 N x1 (k2 + 1) (pre.length : Int) =
    (tube_Check.fn N x).bind fun r4 =>
    bif !(r4 == 0) then
      some r4
    else
      law_loadError.l0 N x1 k2 ((pre.length : Int) + 1) := by
  have hlen : x1.length = pre.length + 1 + r.length := by rw [hl]; simp; omega
  have e1 : decide ((pre.length : Int) < (x1.length : Int)) = true := by rw [decide_eq_true_iff]; omega
  have e2 : decide (0 ≤ (pre.length : Int)) = true := by rw [decide_eq_true_iff]; omega
  have e4 : w ((pre.length : Int) + 1) = (pre.length : Int) + 1 := w_next hl hb
  have e5 : List.take pre.length x1 = pre := by rw [hl]; simp
  have e6 : decide ((pre.length : Int) ≤ (x1.length : Int)) = true := by rw [decide_eq_true_iff]; omega
  have g0 : List.getD x1 pre.length [] = x := by rw [hl]; exact getD_mid pre x r _
  rw [law_loadError.l0_succ]
  simp -implicitDefEqProofs only [Int.toNat_natCast, e1, e2, e4, e6, g0, e5, Bool.and_true, Bool.true_and, Bool.true_or, cond_true]
theorem law_loadError.l0_nil (N : Nat) (x1 : List (List ((Int × (Int × Int) × Int) × Int × Int))) (k2 : Nat) : law_loadError.l0 N x1 (k2 + 1) (x1.length : Int) =
    some 0 := by
  have e1 : decide ((x1.length : Int) < (x1.length : Int)) = false := by rw [decide_eq_false_iff_not]; omega
  rw [law_loadError.l0_succ]
  simp -implicitDefEqProofs only [e1, cond_false]
theorem law_loadError.eq (N : Nat) (x0 : List (ByteArray × List (List (Int × Int) × Int × Int))) (x1 : List (List ((Int × (Int × Int) × Int) × Int × Int))) : law_loadError.fn N (x0, x1) =
    (law_sectorsError.fn N x0).bind fun r1 =>
    bif !(r1 == 0) then
      some r1
    else
    bif decide ((x1.length : Int) > 24) then
      some 2
    else
      law_loadError.l0 N x1 N 0 := by kernel_rfl

/-! ### tube_At: skyway/tube.At -/
def tube_At.kp : List (Nat × List (Nat × Option (TypeId × Ty))) := []
noncomputable def tube_At.G (N : Nat) : List (Nat × Spec) := [(25, .pure (tube_Check.S N)), (69, .pure (tube_at.S N))]
noncomputable def tube_At.E (N : Nat) : Env := mkEnv (tube_At.G N) N tyTab tube_At.kp
noncomputable def tube_At.fn (N : Nat) (x : List ((Int × (Int × Int) × Int) × Int × Int) × Int) : Option (((Int × (Int × Int) × Int) × Int × Int) × Int) := evFn (tube_At.E N) Try.prog 3 Try.f26 false [.cell (.sl 44 (.pair (.pair (.int .i64) (.pair (.pair (.int .i64) (.int .i64)) (.int .i64))) (.pair (.int .i64) (.int .i64)))), .cell (.int .i64)] [.val (.agg (.pair (.pair (.int .i64) (.pair (.pair (.int .i64) (.int .i64)) (.int .i64))) (.pair (.int .i64) (.int .i64)))), .val (.cell (.int .i64))] x
noncomputable def tube_At.S (N : Nat) : PSpec := ⟨false, [.cell (.sl 44 (.pair (.pair (.int .i64) (.pair (.pair (.int .i64) (.int .i64)) (.int .i64))) (.pair (.int .i64) (.int .i64)))), .cell (.int .i64)], [.val (.agg (.pair (.pair (.int .i64) (.pair (.pair (.int .i64) (.int .i64)) (.int .i64))) (.pair (.int .i64) (.int .i64)))), .val (.cell (.int .i64))], tube_At.fn N⟩
theorem f26_enters : Enters Try.prog 26 := ⟨Try.f26, Try.func26, by kernel_rfl, by kernel_rfl⟩
theorem tube_At.tab (N : Nat) : TabOk Try.prog (tube_At.G N) := ⟨⟨tube_Check.enters, tube_Check.sound N⟩, ⟨tube_at.enters, tube_at.sound N⟩, trivial⟩
theorem tube_At.enters : Enters Try.prog 26 := f26_enters
theorem tube_At.sound (N : Nat) : Sound Try.prog 26 (tube_At.S N) := evFn_sound (specs_tab (tube_At.tab N)) (inls_tab (tube_At.tab N)) mixed 3 Try.func26 _ _ _
theorem tube_At.eq (N : Nat) (x0 : List ((Int × (Int × Int) × Int) × Int × Int)) (x1 : Int) : tube_At.fn N (x0, x1) =
    (tube_Check.fn N x0).bind fun r1 =>
    bif !(r1 == 0) then
      some (((0, ((0, 0), 0)), (0, 0)), r1)
    else
      (tube_at.fn N (x0, x1)).bind fun r2 =>
      some (r2.1, r2.2) := by kernel_rfl

/-! ### law_place: skyway/skywaylaw3.place -/
def law_place.kp : List (Nat × List (Nat × Option (TypeId × Ty))) := [(3, [(0, none), (2, none), (4, none), (7, none), (8, none)]), (6, [(0, none), (2, none), (4, none), (7, none), (8, none), (24, none), (25, none), (26, none)])]
noncomputable def law_place.G (N : Nat) : List (Nat × Spec) := [(67, .pure (volume_Has.S N))]
noncomputable def law_place.E (N : Nat) : Env := mkEnv (law_place.G N) N tyTab law_place.kp
noncomputable def law_place.fn (N : Nat) (x : List (ByteArray × List (List (Int × Int) × Int × Int)) × (Int × Int) × Int) : Option Int := evFn (law_place.E N) Try.prog 3 Try.f22 false [.cell (.sl 106 (.pair (.str) (.sl 113 (.pair (.sl 29 (.pair (.int .i64) (.int .i64))) (.pair (.int .i64) (.int .i64)))))), .agg (.pair (.int .i64) (.int .i64)), .cell (.int .i64)] [.val (.cell (.int .i64))] x
noncomputable def law_place.S (N : Nat) : PSpec := ⟨false, [.cell (.sl 106 (.pair (.str) (.sl 113 (.pair (.sl 29 (.pair (.int .i64) (.int .i64))) (.pair (.int .i64) (.int .i64)))))), .agg (.pair (.int .i64) (.int .i64)), .cell (.int .i64)], [.val (.cell (.int .i64))], law_place.fn N⟩
theorem f22_enters : Enters Try.prog 22 := ⟨Try.f22, Try.func22, by kernel_rfl, by kernel_rfl⟩
theorem law_place.tab (N : Nat) : TabOk Try.prog (law_place.G N) := ⟨⟨volume_Has.enters, volume_Has.sound N⟩, trivial⟩
theorem law_place.enters : Enters Try.prog 22 := f22_enters
theorem law_place.sound (N : Nat) : Sound Try.prog 22 (law_place.S N) := evFn_sound (specs_tab (law_place.tab N)) (inls_tab (law_place.tab N)) mixed 3 Try.func22 _ _ _
noncomputable def law_place.cd (N : Nat) (p : List Nat) : St → (Ex → St → Option Int) → Option Int := ev (law_place.E N) Try.prog (callD (law_place.E N) Try.prog 3) 0 (codeAt (bodyOf Try.f22) p)
noncomputable def law_place.fin : Ex → St → Option Int := endK Try.prog Try.f22 [.val (.cell (.int .i64))]
noncomputable def law_place.l0 (N : Nat) (x0 : List (ByteArray × List (List (Int × Int) × Int × Int))) (x1 : Int × Int) (x2 : Int) (k1 : Nat) (a2 : Int) (a3 : Int) : Option Int :=
  loopN (norm ((law_place.E N).keep 3) 0) (law_place.cd N [1, 1, 0, 1, 0, 0]) k1
  ⟨[.ros false 106 (.pair (.str) (.sl 113 (.pair (.sl 29 (.pair (.int .i64) (.int .i64))) (.pair (.int .i64) (.int .i64))))) x0, .any, .sc (.int .i64 x2), .any, .ptr 0 0, .any, .any, .sc (.int .i64 a2), .sc (.int .i64 a3), .any, .any, .any, .any, .any, .any, .any, .any, .any, .any, .any, .any, .any, .any, .any, .any, .any, .any, .any, .any, .any, .any, .any, .any, .any, .any, .any, .any, .any, .any, .any, .any, .any, .any, .any, .any], [.cells [.sc (.int .i64 x1.1), .sc (.int .i64 x1.2)] 29]⟩
  (blockK 0 (seqK (law_place.cd N [1, 1, 1]) law_place.fin))
noncomputable def law_place.l1 (N : Nat) (x0 : List (ByteArray × List (List (Int × Int) × Int × Int))) (x1 : Int × Int) (x2 : Int) (k1 : Nat) (a3 : Int) (k4 : Nat) (a5 : Int) (a6 : Int) : Option Int :=
  loopN (norm ((law_place.E N).keep 6) 0) (law_place.cd N [1, 1, 0, 1, 0, 0, 1, 0, 0, 1, 0, 0]) k4
  ⟨[.ros false 106 (.pair (.str) (.sl 113 (.pair (.sl 29 (.pair (.int .i64) (.int .i64))) (.pair (.int .i64) (.int .i64))))) x0, .any, .sc (.int .i64 x2), .any, .ptr 0 0, .any, .any, .sc (.int .i64 a5), .sc (.int .i64 a3), .any, .any, .any, .any, .any, .any, .any, .any, .any, .any, .any, .any, .any, .any, .any, .ros false 113 (.pair (.sl 29 (.pair (.int .i64) (.int .i64))) (.pair (.int .i64) (.int .i64))) ((List.getD x0 (Int.toNat a3) ((⟨#[]⟩ : ByteArray), [])).2), .sc (.int .i64 (((List.getD x0 (Int.toNat a3) ((⟨#[]⟩ : ByteArray), [])).2).length : Int)), .sc (.int .i64 a6), .any, .any, .any, .any, .any, .any, .any, .any, .any, .any, .any, .any, .any, .any, .any, .any, .any, .any], [.cells [.sc (.int .i64 x1.1), .sc (.int .i64 x1.2)] 29]⟩
  (blockK 2 (blockK 1 (seqK (law_place.cd N [1, 1, 0, 1, 0, 0, 1, 1]) (loopK (norm ((law_place.E N).keep 3) 0) (law_place.cd N [1, 1, 0, 1, 0, 0]) k1 (blockK 0 (seqK (law_place.cd N [1, 1, 1]) law_place.fin))))))
theorem law_place.l1_zero (N : Nat) (x0 : List (ByteArray × List (List (Int × Int) × Int × Int))) (x1 : Int × Int) (x2 : Int) (k1 : Nat) (a3 : Int) (a5 : Int) (a6 : Int) : law_place.l1 N x0 x1 x2 k1 a3 0 a5 a6 = none := by kernel_rfl
theorem law_place.l1_succ (N : Nat) (x0 : List (ByteArray × List (List (Int × Int) × Int × Int))) (x1 : Int × Int) (x2 : Int) (k1 : Nat) (a3 : Int) (k4 : Nat) (a5 : Int) (a6 : Int) : law_place.l1 N x0 x1 x2 k1 a3 (k4 + 1) a5 a6 =
    bif decide (a6 < (((List.getD x0 (Int.toNat a3) ((⟨#[]⟩ : ByteArray), [])).2).length : Int)) then
      bif (decide (0 ≤ a6)) && (decide (a6 < (((List.getD x0 (Int.toNat a3) ((⟨#[]⟩ : ByteArray), [])).2).length : Int))) then
        (volume_Has.fn N (List.getD ((List.getD x0 (Int.toNat a3) ((⟨#[]⟩ : ByteArray), [])).2) (Int.toNat a6) ([], (0, 0)), x1, x2)).bind fun r7 =>
        bif (!(r7.2 == 0)) || (r7.2 == 0) then
          bif (r7.2 == 0) && r7.1 then
            law_place.l1 N x0 x1 x2 k1 a3 k4 a3 (w (a6 + 1))
          else
            law_place.l1 N x0 x1 x2 k1 a3 k4 a5 (w (a6 + 1))
        else
          none
      else
        none
    else
      law_place.l0 N x0 x1 x2 k1 a5 (w (a3 - 1)) := by kernel_rfl
theorem law_place.l0_zero (N : Nat) (x0 : List (ByteArray × List (List (Int × Int) × Int × Int))) (x1 : Int × Int) (x2 : Int) (a2 : Int) (a3 : Int) : law_place.l0 N x0 x1 x2 0 a2 a3 = none := by kernel_rfl
theorem law_place.l0_succ (N : Nat) (x0 : List (ByteArray × List (List (Int × Int) × Int × Int))) (x1 : Int × Int) (x2 : Int) (k1 : Nat) (a2 : Int) (a3 : Int) : law_place.l0 N x0 x1 x2 (k1 + 1) a2 a3 =
    bif decide (a3 ≥ 0) then
      bif (decide (0 ≤ a3)) && (decide (a3 < (x0.length : Int))) then
        law_place.l1 N x0 x1 x2 k1 a3 N a2 0
      else
        none
    else
      some a2 := by kernel_rfl
theorem law_place.l1_clean (N : Nat) (x0 : List (ByteArray × List (List (Int × Int) × Int × Int))) (x1 : Int × Int) (x2 : Int) (k1 : Nat) (a3 : Int) (k4 : Nat) (a5 : Int) (a6 : Int) : law_place.l1 N x0 x1 x2 k1 a3 (k4 + 1) a5 a6 =
    bif decide (a6 < (((List.getD x0 (Int.toNat a3) ((⟨#[]⟩ : ByteArray), [])).2).length : Int)) then
      bif (decide (0 ≤ a6)) && (decide (a6 < (((List.getD x0 (Int.toNat a3) ((⟨#[]⟩ : ByteArray), [])).2).length : Int))) then
        (volume_Has.fn N (List.getD ((List.getD x0 (Int.toNat a3) ((⟨#[]⟩ : ByteArray), [])).2) (Int.toNat a6) ([], (0, 0)), x1, x2)).bind fun r7 =>
        bif (r7.2 == 0) && r7.1 then
          law_place.l1 N x0 x1 x2 k1 a3 k4 a3 (w (a6 + 1))
        else
          law_place.l1 N x0 x1 x2 k1 a3 k4 a5 (w (a6 + 1))
      else
        none
    else
      law_place.l0 N x0 x1 x2 k1 a5 (w (a3 - 1)) := by
  rw [law_place.l1_succ]; simp only [taut21, cond_true]
theorem law_place.l1_cons (N : Nat) (x0 : List (ByteArray × List (List (Int × Int) × Int × Int))) (x1 : Int × Int) (x2 : Int) (k1 : Nat) (a3 : Int) (k4 : Nat) (a5 : Int) {pre r} {x} (hl : ((List.getD x0 (Int.toNat a3) ((⟨#[]⟩ : ByteArray), [])).2) = pre ++ x :: r) (hb : ((List.getD x0 (Int.toNat a3) ((⟨#[]⟩ : ByteArray), [])).2).length < 4611686018427387904) : law_place.l1 N x0 x1 x2 k1 a3 (k4 + 1) a5 (pre.length : Int) =
    (volume_Has.fn N (x, x1, x2)).bind fun r7 =>
    bif (r7.2 == 0) && r7.1 then
      law_place.l1 N x0 x1 x2 k1 a3 k4 a3 ((pre.length : Int) + 1)
    else
      law_place.l1 N x0 x1 x2 k1 a3 k4 a5 ((pre.length : Int) + 1) := by
  have hlen : ((List.getD x0 (Int.toNat a3) ((⟨#[]⟩ : ByteArray), [])).2).length = pre.length + 1 + r.length := by rw [hl]; simp; omega
  have e1 : decide ((pre.length : Int) < (((List.getD x0 (Int.toNat a3) ((⟨#[]⟩ : ByteArray), [])).2).length : Int)) = true := by rw [decide_eq_true_iff]; omega
  have e2 : decide (0 ≤ (pre.length : Int)) = true := by rw [decide_eq_true_iff]; omega
  have e4 : w ((pre.length : Int) + 1) = (pre.length : Int) + 1 := w_next hl hb
  have e5 : List.take pre.length ((List.getD x0 (Int.toNat a3) ((⟨#[]⟩ : ByteArray), [])).2) = pre := by rw [hl]; simp
  have e6 : decide ((pre.length : Int) ≤ (((List.getD x0 (Int.toNat a3) ((⟨#[]⟩ : ByteArray), [])).2).length : Int)) = true := by rw [decide_eq_true_iff]; omega
  have g0 : List.getD ((List.getD x0 (Int.toNat a3) ((⟨#[]⟩ : ByteArray), [])).2) pre.length ([], (0, 0)) = x := by rw [hl]; exact getD_mid pre x r _
  rw [law_place.l1_clean]
  simp -implicitDefEqProofs only [Int.toNat_natCast, e1, e2, e4, e6, g0, e5, Bool.and_true, Bool.true_and, Bool.true_or, cond_true]
theorem law_place.l1_nil (N : Nat) (x0 : List (ByteArray × List (List (Int × Int) × Int × Int))) (x1 : Int × Int) (x2 : Int) (k1 : Nat) (a3 : Int) (k4 : Nat) (a5 : Int) : law_place.l1 N x0 x1 x2 k1 a3 (k4 + 1) a5 (((List.getD x0 (Int.toNat a3) ((⟨#[]⟩ : ByteArray), [])).2).length : Int) =
    law_place.l0 N x0 x1 x2 k1 a5 (w (a3 - 1)) := by
  have e1 : decide ((((List.getD x0 (Int.toNat a3) ((⟨#[]⟩ : ByteArray), [])).2).length : Int) < (((List.getD x0 (Int.toNat a3) ((⟨#[]⟩ : ByteArray), [])).2).length : Int)) = false := by rw [decide_eq_false_iff_not]; omega
  rw [law_place.l1_clean]
  simp -implicitDefEqProofs only [e1, cond_false]
theorem law_place.eq (N : Nat) (x0 : List (ByteArray × List (List (Int × Int) × Int × Int))) (x1 : Int × Int) (x2 : Int) : law_place.fn N (x0, x1, x2) =
    law_place.l0 N x0 x1 x2 N (-1) (w ((x0.length : Int) - 1)) := by kernel_rfl

/-! ### law_LoadCounts: skyway/skywaylaw3.LoadCounts -/
def law_LoadCounts.kp : List (Nat × List (Nat × Option (TypeId × Ty))) := [(11, [(0, none), (2, none), (7, none), (8, none), (9, none), (11, none), (12, none), (58, none), (59, none), (60, none)]), (1000007, [(0, none), (1, none), (2, none), (7, none), (8, none), (9, none), (10, none)])]
noncomputable def law_LoadCounts.G (N : Nat) : List (Nat × Spec) := [(22, .pure (law_place.S N)), (26, .pure (tube_At.S N)), (28, .pure (law_loadFact.S N)), (29, .pure (load_Count.S N)), (30, .pure (law_loadError.S N)), (31, .pure (slices_Equal_int.S N))]
noncomputable def law_LoadCounts.E (N : Nat) : Env := mkEnv (law_LoadCounts.G N) N tyTab law_LoadCounts.kp
noncomputable def law_LoadCounts.fn (N : Nat) (x : List (ByteArray × List (List (Int × Int) × Int × Int)) × List (List ((Int × (Int × Int) × Int) × Int × Int)) × Int) : Option Bool := evFn (law_LoadCounts.E N) Try.prog 3 Try.f7 false [.cell (.sl 106 (.pair (.str) (.sl 113 (.pair (.sl 29 (.pair (.int .i64) (.int .i64))) (.pair (.int .i64) (.int .i64)))))), .cell (.sl 40 (.sl 44 (.pair (.pair (.int .i64) (.pair (.pair (.int .i64) (.int .i64)) (.int .i64))) (.pair (.int .i64) (.int .i64))))), .cell (.int .i64)] [.val (.cell (.bool))] x
noncomputable def law_LoadCounts.S (N : Nat) : PSpec := ⟨false, [.cell (.sl 106 (.pair (.str) (.sl 113 (.pair (.sl 29 (.pair (.int .i64) (.int .i64))) (.pair (.int .i64) (.int .i64)))))), .cell (.sl 40 (.sl 44 (.pair (.pair (.int .i64) (.pair (.pair (.int .i64) (.int .i64)) (.int .i64))) (.pair (.int .i64) (.int .i64))))), .cell (.int .i64)], [.val (.cell (.bool))], law_LoadCounts.fn N⟩
theorem f7_enters : Enters Try.prog 7 := ⟨Try.f7, Try.func7, by kernel_rfl, by kernel_rfl⟩
theorem law_LoadCounts.tab (N : Nat) : TabOk Try.prog (law_LoadCounts.G N) := ⟨⟨law_place.enters, law_place.sound N⟩, ⟨tube_At.enters, tube_At.sound N⟩, ⟨law_loadFact.enters, law_loadFact.sound N⟩, ⟨load_Count.enters, load_Count.sound N⟩, ⟨law_loadError.enters, law_loadError.sound N⟩, ⟨slices_Equal_int.enters, slices_Equal_int.sound N⟩, trivial⟩
theorem law_LoadCounts.enters : Enters Try.prog 7 := f7_enters
theorem law_LoadCounts.sound (N : Nat) : Sound Try.prog 7 (law_LoadCounts.S N) := evFn_sound (specs_tab (law_LoadCounts.tab N)) (inls_tab (law_LoadCounts.tab N)) mixed 3 Try.func7 _ _ _
noncomputable def law_LoadCounts.cd (N : Nat) (p : List Nat) : St → (Ex → St → Option Bool) → Option Bool := ev (law_LoadCounts.E N) Try.prog (callD (law_LoadCounts.E N) Try.prog 3) 0 (codeAt (bodyOf Try.f7) p)
noncomputable def law_LoadCounts.fin : Ex → St → Option Bool := endK Try.prog Try.f7 [.val (.cell (.bool))]
noncomputable def law_LoadCounts.j0 (N : Nat) (x0 : List (ByteArray × List (List (Int × Int) × Int × Int))) (x1 : List (List ((Int × (Int × Int) × Int) × Int × Int))) (x2 : Int) (r2 : List Int × Int × Int) (a4 : Int) : Option Bool :=
  fuelK N (region (law_LoadCounts.E N) Try.prog (callD (law_LoadCounts.E N) Try.prog 3) (opsAt (codeAt (bodyOf Try.f7) [1, 1, 1, 1, 1, 0, 0])) false
  ⟨[.ros false 106 (.pair (.str) (.sl 113 (.pair (.sl 29 (.pair (.int .i64) (.int .i64))) (.pair (.int .i64) (.int .i64))))) x0, .ros false 40 (.sl 44 (.pair (.pair (.int .i64) (.pair (.pair (.int .i64) (.int .i64)) (.int .i64))) (.pair (.int .i64) (.int .i64)))) x1, .sc (.int .i64 x2), .any, .any, .any, .any, .own 0, .sc (.int .i64 r2.2.1), .sc (.int .i64 r2.2.2), .sc (.int .i64 a4), .any, .any, .any, .any, .any, .any, .any, .any, .any, .any, .any, .any, .any, .any, .any, .any, .any, .any, .any, .any, .any, .any, .any, .any, .any, .any, .any, .any, .any, .any, .any, .any, .any, .any, .any, .any, .any, .any, .any, .any, .any, .any, .any, .any, .any, .any, .any, .any, .any, .any, .any, .any, .any, .any, .any, .any, .any, .any, .any, .any, .any, .any, .any, .any, .any, .any, .any, .any, .any, .any, .any, .any, .any, .any, .any, .any, .any, .any, .any, .any, .any, .any, .any, .any, .any, .any, .any, .any, .any, .any, .any, .any], [.rows true 3 (.int .i64) r2.1]⟩
  (fun S => (seqK (law_LoadCounts.cd N [1, 1, 1, 1, 1, 0, 1]) (seqK (law_LoadCounts.cd N [1, 1, 1, 1, 1, 1]) law_LoadCounts.fin)) .normal S))
noncomputable def law_LoadCounts.l1 (N : Nat) (x0 : List (ByteArray × List (List (Int × Int) × Int × Int))) (x1 : List (List ((Int × (Int × Int) × Int) × Int × Int))) (x2 : Int) (r2 : List Int × Int × Int) (k5 : Nat) (a6 : Int) (a7 : Int) (a8 : List Int) : Option Bool :=
  loopN (norm ((law_LoadCounts.E N).keep 11) 0) (law_LoadCounts.cd N [1, 1, 1, 1, 1, 1, 1, 0, 1, 0, 0]) k5
  ⟨[.ros false 106 (.pair (.str) (.sl 113 (.pair (.sl 29 (.pair (.int .i64) (.int .i64))) (.pair (.int .i64) (.int .i64))))) x0, .any, .sc (.int .i64 x2), .any, .any, .any, .any, .own 0, .sc (.int .i64 r2.2.1), .sc (.int .i64 r2.2.2), .any, .own 1, .sc (.int .i64 a6), .any, .any, .any, .any, .any, .any, .any, .any, .any, .any, .any, .any, .any, .any, .any, .any, .any, .any, .any, .any, .any, .any, .any, .any, .any, .any, .any, .any, .any, .any, .any, .any, .any, .any, .any, .any, .any, .any, .any, .any, .any, .any, .any, .any, .any, .ros false 40 (.sl 44 (.pair (.pair (.int .i64) (.pair (.pair (.int .i64) (.int .i64)) (.int .i64))) (.pair (.int .i64) (.int .i64)))) x1, .sc (.int .i64 (x1.length : Int)), .sc (.int .i64 a7), .any, .any, .any, .any, .any, .any, .any, .any, .any, .any, .any, .any, .any, .any, .any, .any, .any, .any, .any, .any, .any, .any, .any, .any, .any, .any, .any, .any, .any, .any, .any, .any, .any, .any, .any, .any, .any, .any, .any, .any, .any, .any], [.rows true 3 (.int .i64) r2.1, .rows true 3 (.int .i64) a8]⟩
  (blockK 0 (seqK (law_LoadCounts.cd N [1, 1, 1, 1, 1, 1, 1, 1]) law_LoadCounts.fin))
theorem law_LoadCounts.l1_zero (N : Nat) (x0 : List (ByteArray × List (List (Int × Int) × Int × Int))) (x1 : List (List ((Int × (Int × Int) × Int) × Int × Int))) (x2 : Int) (r2 : List Int × Int × Int) (a6 : Int) (a7 : Int) (a8 : List Int) : law_LoadCounts.l1 N x0 x1 x2 r2 0 a6 a7 a8 = none := by kernel_rfl
theorem law_LoadCounts.l1_succ (N : Nat) (x0 : List (ByteArray × List (List (Int × Int) × Int × Int))) (x1 : List (List ((Int × (Int × Int) × Int) × Int × Int))) (x2 : Int) (r2 : List Int × Int × Int) (k5 : Nat) (a6 : Int) (a7 : Int) (a8 : List Int) : law_LoadCounts.l1 N x0 x1 x2 r2 (k5 + 1) a6 a7 a8 =
    bif decide (a7 < (x1.length : Int)) then
      bif (decide (0 ≤ a7)) && (decide (a7 < (x1.length : Int))) then
        (tube_At.fn N ((List.getD x1 (Int.toNat a7) []), x2)).bind fun r9 =>
        bif !(r9.2 == 0) then
          law_LoadCounts.l1 N x0 x1 x2 r2 k5 a6 (w (a7 + 1)) a8
        else
          (law_place.fn N (x0, r9.1.1.2.1, r9.1.1.2.2)).bind fun r10 =>
          bif decide (r10 ≥ 0) then
            bif (decide (0 ≤ r10)) && (decide (r10 < (a8.length : Int))) then
              bif decide ((Int.toNat r10) < a8.length) then
                bif (decide (0 ≤ r10)) && (decide (r10 < (a8.length : Int))) then
                  bif decide ((Int.toNat r10) < a8.length) then
                    law_LoadCounts.l1 N x0 x1 x2 r2 k5 a6 (w (a7 + 1)) (List.set a8 (Int.toNat r10) (w ((List.getD a8 (Int.toNat r10) 0) + 1)))
                  else
                    none
                else
                  none
              else
                none
            else
              none
          else
            law_LoadCounts.l1 N x0 x1 x2 r2 k5 (w (a6 + 1)) (w (a7 + 1)) a8
      else
        none
    else
    bif !(r2.2.2 == 0) || (r2.2.2 == 0) then
      bif !(r2.2.2 == 0) || (r2.2.2 == 0) then
        (bif (r2.2.2 == 0) then slices_Equal_int.fn N (r2.1, a8) else some (false)).bind fun r11 =>
        bif (!(r2.2.2 == 0)) || (r2.2.2 == 0) then
          bif !((r2.2.2 == 0) && r11) || ((r2.2.2 == 0) && r11) then
            bif !((r2.2.2 == 0) && r11) || ((r2.2.2 == 0) && r11) then
              bif (!((r2.2.2 == 0) && r11)) || ((r2.2.2 == 0) && r11) then
                some (((r2.2.2 == 0) && r11) && (r2.2.1 == a6))
              else
                none
            else
              none
          else
            none
        else
          none
      else
        none
    else
      none := by kernel_rfl
theorem law_LoadCounts.j0_eq (N : Nat) (x0 : List (ByteArray × List (List (Int × Int) × Int × Int))) (x1 : List (List ((Int × (Int × Int) × Int) × Int × Int))) (x2 : Int) (r2 : List Int × Int × Int) (a4 : Int) {M : Nat} (hM : N = M + 1) : law_LoadCounts.j0 N x0 x1 x2 r2 a4 =
    bif !(a4 == 0) then
      bif !(r2.2.2 == a4) || (r2.2.2 == a4) then
        bif !(r2.2.2 == a4) || (r2.2.2 == a4) then
          bif (!(r2.2.2 == a4)) || (r2.2.2 == a4) then
            bif !((r2.2.2 == a4) && ((r2.1.length : Int) == 0)) || ((r2.2.2 == a4) && ((r2.1.length : Int) == 0)) then
              bif (!((r2.2.2 == a4) && ((r2.1.length : Int) == 0))) || ((r2.2.2 == a4) && ((r2.1.length : Int) == 0)) then
                some (((r2.2.2 == a4) && ((r2.1.length : Int) == 0)) && (r2.2.1 == 0))
              else
                none
            else
              none
          else
            none
        else
          none
      else
        none
    else
    bif (((decide (0 ≤ (x0.length : Int))) && ((x0.length : Int) == (x0.length : Int))) && (decide ((x0.length : Int) ≤ 9223372036854775807))) && (decide (((x0.length : Int) * 8) ≤ 140737488355328)) then
      law_LoadCounts.l1 N x0 x1 x2 r2 N 0 0 (List.replicate (Int.toNat (x0.length : Int)) (0 : Int))
    else
      none := (fuelK_eq hM _).trans (by kernel_rfl)
theorem taut47 : ∀ p0 p1 : Bool, ((!((p0) && p1) || ((p0) && p1))) = true := by decide
theorem taut48 : ∀ p0 p1 : Bool, (((!((p0) && p1)) || ((p0) && p1))) = true := by decide
theorem law_LoadCounts.l1_clean (N : Nat) (x0 : List (ByteArray × List (List (Int × Int) × Int × Int))) (x1 : List (List ((Int × (Int × Int) × Int) × Int × Int))) (x2 : Int) (r2 : List Int × Int × Int) (k5 : Nat) (a6 : Int) (a7 : Int) (a8 : List Int) : law_LoadCounts.l1 N x0 x1 x2 r2 (k5 + 1) a6 a7 a8 =
    bif decide (a7 < (x1.length : Int)) then
      bif (decide (0 ≤ a7)) && (decide (a7 < (x1.length : Int))) then
        (tube_At.fn N ((List.getD x1 (Int.toNat a7) []), x2)).bind fun r9 =>
        bif !(r9.2 == 0) then
          law_LoadCounts.l1 N x0 x1 x2 r2 k5 a6 (w (a7 + 1)) a8
        else
          (law_place.fn N (x0, r9.1.1.2.1, r9.1.1.2.2)).bind fun r10 =>
          bif decide (r10 ≥ 0) then
            bif (decide (0 ≤ r10)) && (decide (r10 < (a8.length : Int))) then
              bif decide ((Int.toNat r10) < a8.length) then
                bif (decide (0 ≤ r10)) && (decide (r10 < (a8.length : Int))) then
                  bif decide ((Int.toNat r10) < a8.length) then
                    law_LoadCounts.l1 N x0 x1 x2 r2 k5 a6 (w (a7 + 1)) (List.set a8 (Int.toNat r10) (w ((List.getD a8 (Int.toNat r10) 0) + 1)))
                  else
                    none
                else
                  none
              else
                none
            else
              none
          else
            law_LoadCounts.l1 N x0 x1 x2 r2 k5 (w (a6 + 1)) (w (a7 + 1)) a8
      else
        none
    else
    (bif (r2.2.2 == 0) then slices_Equal_int.fn N (r2.1, a8) else some (false)).bind fun r11 =>
    some (((r2.2.2 == 0) && r11) && (r2.2.1 == a6)) := by
  rw [law_LoadCounts.l1_succ]; simp only [taut47, taut20, taut48, taut21, cond_true]
theorem law_LoadCounts.j0_clean (N : Nat) (x0 : List (ByteArray × List (List (Int × Int) × Int × Int))) (x1 : List (List ((Int × (Int × Int) × Int) × Int × Int))) (x2 : Int) (r2 : List Int × Int × Int) (a4 : Int) {M : Nat} (hM : N = M + 1) : law_LoadCounts.j0 N x0 x1 x2 r2 a4 =
    bif !(a4 == 0) then
      some (((r2.2.2 == a4) && ((r2.1.length : Int) == 0)) && (r2.2.1 == 0))
    else
    bif (((decide (0 ≤ (x0.length : Int))) && ((x0.length : Int) == (x0.length : Int))) && (decide ((x0.length : Int) ≤ 9223372036854775807))) && (decide (((x0.length : Int) * 8) ≤ 140737488355328)) then
      law_LoadCounts.l1 N x0 x1 x2 r2 N 0 0 (List.replicate (Int.toNat (x0.length : Int)) (0 : Int))
    else
      none := by
  rw [law_LoadCounts.j0_eq (hM := hM)]; simp only [taut31, taut20, taut32, taut21, cond_true]
theorem law_LoadCounts.l1_cons (N : Nat) (x0 : List (ByteArray × List (List (Int × Int) × Int × Int))) (x1 : List (List ((Int × (Int × Int) × Int) × Int × Int))) (x2 : Int) (r2 : List Int × Int × Int) (k5 : Nat) (a6 : Int) (a8 : List Int) {pre r} {x} (hl : x1 = pre ++ x :: r) (hb : x1.length < 4611686018427387904) : law_LoadCounts.l1 N x0 x1 x2 r2 (k5 + 1) a6 (pre.length : Int) a8 =
    (tube_At.fn N (x, x2)).bind fun r9 =>
    bif !(r9.2 == 0) then
      law_LoadCounts.l1 N x0 x1 x2 r2 k5 a6 ((pre.length : Int) + 1) a8
    else
      (law_place.fn N (x0, r9.1.1.2.1, r9.1.1.2.2)).bind fun r10 =>
      bif decide (r10 ≥ 0) then
        bif (decide (0 ≤ r10)) && (decide (r10 < (a8.length : Int))) then
          bif decide ((Int.toNat r10) < a8.length) then
            bif (decide (0 ≤ r10)) && (decide (r10 < (a8.length : Int))) then
              bif decide ((Int.toNat r10) < a8.length) then
                law_LoadCounts.l1 N x0 x1 x2 r2 k5 a6 ((pre.length : Int) + 1) (List.set a8 (Int.toNat r10) (w ((List.getD a8 (Int.toNat r10) 0) + 1)))
              else
                none
            else
              none
          else
            none
        else
          none
      else
        law_LoadCounts.l1 N x0 x1 x2 r2 k5 (w (a6 + 1)) ((pre.length : Int) + 1) a8 := by
  have hlen : x1.length = pre.length + 1 + r.length := by rw [hl]; simp; omega
  have e1 : decide ((pre.length : Int) < (x1.length : Int)) = true := by rw [decide_eq_true_iff]; omega
  have e2 : decide (0 ≤ (pre.length : Int)) = true := by rw [decide_eq_true_iff]; omega
  have e4 : w ((pre.length : Int) + 1) = (pre.length : Int) + 1 := w_next hl hb
  have e5 : List.take pre.length x1 = pre := by rw [hl]; simp
  have e6 : decide ((pre.length : Int) ≤ (x1.length : Int)) = true := by rw [decide_eq_true_iff]; omega
  have g0 : List.getD x1 pre.length [] = x := by rw [hl]; exact getD_mid pre x r _
  rw [law_LoadCounts.l1_clean]
  simp -implicitDefEqProofs only [Int.toNat_natCast, e1, e2, e4, e6, g0, e5, Bool.and_true, Bool.true_and, Bool.true_or, cond_true]
theorem law_LoadCounts.l1_nil (N : Nat) (x0 : List (ByteArray × List (List (Int × Int) × Int × Int))) (x1 : List (List ((Int × (Int × Int) × Int) × Int × Int))) (x2 : Int) (r2 : List Int × Int × Int) (k5 : Nat) (a6 : Int) (a8 : List Int) : law_LoadCounts.l1 N x0 x1 x2 r2 (k5 + 1) a6 (x1.length : Int) a8 =
    (bif (r2.2.2 == 0) then slices_Equal_int.fn N (r2.1, a8) else some (false)).bind fun r11 =>
    some (((r2.2.2 == 0) && r11) && (r2.2.1 == a6)) := by
  have e1 : decide ((x1.length : Int) < (x1.length : Int)) = false := by rw [decide_eq_false_iff_not]; omega
  rw [law_LoadCounts.l1_clean]
  simp -implicitDefEqProofs only [e1, cond_false]
theorem law_LoadCounts.eq (N : Nat) (x0 : List (ByteArray × List (List (Int × Int) × Int × Int))) (x1 : List (List ((Int × (Int × Int) × Int) × Int × Int))) (x2 : Int) : law_LoadCounts.fn N (x0, x1, x2) =
    (law_loadFact.fn N ()).bind fun r1 =>
    bif !r1 then
      some false
    else
      (load_Count.fn N (x0, x1, x2)).bind fun r2 =>
      (law_loadError.fn N (x0, x1)).bind fun r3 =>
      bif !(r3 == 0) || (r3 == 0) then
        bif !(r3 == 0) || (r3 == 0) then
          bif !((r3 == 0) && (!(decide (x2 < 0)))) || ((r3 == 0) && (!(decide (x2 < 0)))) then
            bif !(r3 == 0) || (r3 == 0) then
              bif !(r3 == 0) || ((decide (x2 < 0)) || ((r3 == 0) && (!(decide (x2 < 0))))) then
                bif (!(r3 == 0)) || (r3 == 0) then
                  bif (r3 == 0) && ((decide (x2 < 0)) || (decide (x2 > 200000))) then
                    law_LoadCounts.j0 N x0 x1 x2 r2 12
                  else
                    law_LoadCounts.j0 N x0 x1 x2 r2 r3
                else
                  none
              else
                none
            else
              none
          else
            none
        else
          none
      else
        none := by kernel_rfl
theorem taut49 : ∀ p0 p1 : Bool, ((!((p0) && (!(p1))) || ((p0) && (!(p1))))) = true := by decide
theorem taut50 : ∀ p0 p1 : Bool, ((!(p0) || ((p1) || ((p0) && (!(p1)))))) = true := by decide
theorem law_LoadCounts.clean (N : Nat) (x0 : List (ByteArray × List (List (Int × Int) × Int × Int))) (x1 : List (List ((Int × (Int × Int) × Int) × Int × Int))) (x2 : Int) : law_LoadCounts.fn N (x0, x1, x2) =
    (law_loadFact.fn N ()).bind fun r1 =>
    bif !r1 then
      some false
    else
      (load_Count.fn N (x0, x1, x2)).bind fun r2 =>
      (law_loadError.fn N (x0, x1)).bind fun r3 =>
      bif (r3 == 0) && ((decide (x2 < 0)) || (decide (x2 > 200000))) then
        law_LoadCounts.j0 N x0 x1 x2 r2 12
      else
        law_LoadCounts.j0 N x0 x1 x2 r2 r3 := by
  rw [law_LoadCounts.eq]; simp only [taut49, taut50, taut20, taut21, cond_true]

/-! ### law_spanError: skyway/skywaylaw3.spanError -/
def law_spanError.kp : List (Nat × List (Nat × Option (TypeId × Ty))) := []
noncomputable def law_spanError.G (N : Nat) : List (Nat × Spec) := []
noncomputable def law_spanError.E (N : Nat) : Env := mkEnv (law_spanError.G N) N tyTab law_spanError.kp
noncomputable def law_spanError.fn (N : Nat) (x : Int × Int) : Option Int := evFn (law_spanError.E N) Try.prog 3 Try.f33 false [.agg (.pair (.int .i64) (.int .i64))] [.val (.cell (.int .i64))] x
noncomputable def law_spanError.S (N : Nat) : PSpec := ⟨false, [.agg (.pair (.int .i64) (.int .i64))], [.val (.cell (.int .i64))], law_spanError.fn N⟩
theorem f33_enters : Enters Try.prog 33 := ⟨Try.f33, Try.func33, by kernel_rfl, by kernel_rfl⟩
theorem law_spanError.tab (N : Nat) : TabOk Try.prog (law_spanError.G N) := trivial
theorem law_spanError.enters : Enters Try.prog 33 := f33_enters
theorem law_spanError.sound (N : Nat) : Sound Try.prog 33 (law_spanError.S N) := evFn_sound (specs_tab (law_spanError.tab N)) (inls_tab (law_spanError.tab N)) mixed 3 Try.func33 _ _ _
theorem law_spanError.eq (N : Nat) (x0 : Int × Int) : law_spanError.fn N x0 =
    bif !(!(decide (x0.1 < 0))) || (!(decide (x0.1 < 0))) then
      bif !(!(decide (x0.1 < 0))) || (!(decide (x0.1 < 0))) then
        bif (decide (x0.1 < 0)) || (!(decide (x0.1 < 0))) then
          bif !(!((decide (x0.1 < 0)) || (decide (x0.2 > 200001)))) || (!((decide (x0.1 < 0)) || (decide (x0.2 > 200001)))) then
            bif !(!((decide (x0.1 < 0)) || (decide (x0.2 > 200001)))) || (!((decide (x0.1 < 0)) || (decide (x0.2 > 200001)))) then
              bif !(!((decide (x0.1 < 0)) || (decide (x0.2 > 200001)))) || (!((decide (x0.1 < 0)) || (decide (x0.2 > 200001)))) then
                bif !(!((decide (x0.1 < 0)) || (decide (x0.2 > 200001)))) || (!((decide (x0.1 < 0)) || (decide (x0.2 > 200001)))) then
                  bif ((decide (x0.1 < 0)) || (decide (x0.2 > 200001))) || (!((decide (x0.1 < 0)) || (decide (x0.2 > 200001)))) then
                    bif ((decide (x0.1 < 0)) || (decide (x0.2 > 200001))) || (decide (x0.2 ≤ x0.1)) then
                      some 12
                    else
                    bif decide ((w (x0.2 - x0.1)) > 2000) then
                      some 2
                    else
                      some 0
                  else
                    none
                else
                  none
              else
                none
            else
              none
          else
            none
        else
          none
      else
        none
    else
      none := by kernel_rfl
theorem law_spanError.clean (N : Nat) (x0 : Int × Int) : law_spanError.fn N x0 =
    bif ((decide (x0.1 < 0)) || (decide (x0.2 > 200001))) || (decide (x0.2 ≤ x0.1)) then
      some 12
    else
    bif decide ((w (x0.2 - x0.1)) > 2000) then
      some 2
    else
      some 0 := by
  rw [law_spanError.eq]; simp only [taut8, taut1, taut10, taut6, cond_true]

/-! ### slices_Index_bool: slices.Index[[]bool,bool] -/
def slices_Index_bool.kp : List (Nat × List (Nat × Option (TypeId × Ty))) := [(2, [(0, none), (1, none), (7, none), (8, none)])]
noncomputable def slices_Index_bool.G (N : Nat) : List (Nat × Spec) := []
noncomputable def slices_Index_bool.E (N : Nat) : Env := mkEnv (slices_Index_bool.G N) N tyTab slices_Index_bool.kp
noncomputable def slices_Index_bool.fn (N : Nat) (x : List Bool × Bool) : Option Int := evFn (slices_Index_bool.E N) Try.prog 3 Try.f75 false [.cell (.sl 4 (.bool)), .cell (.bool)] [.val (.cell (.int .i64))] x
noncomputable def slices_Index_bool.S (N : Nat) : PSpec := ⟨false, [.cell (.sl 4 (.bool)), .cell (.bool)], [.val (.cell (.int .i64))], slices_Index_bool.fn N⟩
theorem f75_enters : Enters Try.prog 75 := ⟨Try.f75, Try.func75, by kernel_rfl, by kernel_rfl⟩
theorem slices_Index_bool.tab (N : Nat) : TabOk Try.prog (slices_Index_bool.G N) := trivial
theorem slices_Index_bool.enters : Enters Try.prog 75 := f75_enters
theorem slices_Index_bool.sound (N : Nat) : Sound Try.prog 75 (slices_Index_bool.S N) := evFn_sound (specs_tab (slices_Index_bool.tab N)) (inls_tab (slices_Index_bool.tab N)) mixed 3 Try.func75 _ _ _
noncomputable def slices_Index_bool.cd (N : Nat) (p : List Nat) : St → (Ex → St → Option Int) → Option Int := ev (slices_Index_bool.E N) Try.prog (callD (slices_Index_bool.E N) Try.prog 3) 0 (codeAt (bodyOf Try.f75) p)
noncomputable def slices_Index_bool.fin : Ex → St → Option Int := endK Try.prog Try.f75 [.val (.cell (.int .i64))]
noncomputable def slices_Index_bool.l0 (N : Nat) (x0 : List Bool) (x1 : Bool) (k1 : Nat) (a2 : Int) : Option Int :=
  loopN (norm ((slices_Index_bool.E N).keep 2) 0) (slices_Index_bool.cd N [1, 0, 1, 0, 0]) k1
  ⟨[.ros false 4 (.bool) x0, .sc (.bool x1), .any, .any, .any, .any, .any, .sc (.int .i64 (x0.length : Int)), .sc (.int .i64 a2), .any, .any, .any, .any, .any, .any, .any, .any, .any, .any], []⟩
  (blockK 0 (seqK (slices_Index_bool.cd N [1, 1]) slices_Index_bool.fin))
theorem slices_Index_bool.l0_zero (N : Nat) (x0 : List Bool) (x1 : Bool) (a2 : Int) : slices_Index_bool.l0 N x0 x1 0 a2 = none := by kernel_rfl
theorem slices_Index_bool.l0_succ (N : Nat) (x0 : List Bool) (x1 : Bool) (k1 : Nat) (a2 : Int) : slices_Index_bool.l0 N x0 x1 (k1 + 1) a2 =
    bif decide (a2 < (x0.length : Int)) then
      bif (decide (0 ≤ a2)) && (decide (a2 < (x0.length : Int))) then
        bif x1 == (List.getD x0 (Int.toNat a2) false) then
          some a2
        else
          slices_Index_bool.l0 N x0 x1 k1 (w (a2 + 1))
      else
        none
    else
      some (-1) := by kernel_rfl
theorem slices_Index_bool.l0_cons (N : Nat) (x0 : List Bool) (x1 : Bool) (k1 : Nat) {pre r} {x} (hl : x0 = pre ++ x :: r) (hb : x0.length < 4611686018427387904) : slices_Index_bool.l0 N x0 x1 (k1 + 1) (pre.length : Int) =
    bif x1 == x then
      some (pre.length : Int)
    else
      slices_Index_bool.l0 N x0 x1 k1 ((pre.length : Int) + 1) := by
  have hlen : x0.length = pre.length + 1 + r.length := by rw [hl]; simp; omega
  have e1 : decide ((pre.length : Int) < (x0.length : Int)) = true := by rw [decide_eq_true_iff]; omega
  have e2 : decide (0 ≤ (pre.length : Int)) = true := by rw [decide_eq_true_iff]; omega
  have e4 : w ((pre.length : Int) + 1) = (pre.length : Int) + 1 := w_next hl hb
  have e5 : List.take pre.length x0 = pre := by rw [hl]; simp
  have e6 : decide ((pre.length : Int) ≤ (x0.length : Int)) = true := by rw [decide_eq_true_iff]; omega
  have g0 : List.getD x0 pre.length false = x := by rw [hl]; exact getD_mid pre x r _
  rw [slices_Index_bool.l0_succ]
  simp -implicitDefEqProofs only [Int.toNat_natCast, e1, e2, e4, e6, g0, e5, Bool.and_true, Bool.true_and, Bool.true_or, cond_true]
theorem slices_Index_bool.l0_nil (N : Nat) (x0 : List Bool) (x1 : Bool) (k1 : Nat) : slices_Index_bool.l0 N x0 x1 (k1 + 1) (x0.length : Int) =
    some (-1) := by
  have e1 : decide ((x0.length : Int) < (x0.length : Int)) = false := by rw [decide_eq_false_iff_not]; omega
  rw [slices_Index_bool.l0_succ]
  simp -implicitDefEqProofs only [e1, cond_false]
theorem slices_Index_bool.eq (N : Nat) (x0 : List Bool) (x1 : Bool) : slices_Index_bool.fn N (x0, x1) =
    slices_Index_bool.l0 N x0 x1 N 0 := by kernel_rfl

/-! ### slices_Contains_bool: slices.Contains[[]bool,bool] -/
def slices_Contains_bool.kp : List (Nat × List (Nat × Option (TypeId × Ty))) := []
noncomputable def slices_Contains_bool.G (N : Nat) : List (Nat × Spec) := [(75, .pure (slices_Index_bool.S N))]
noncomputable def slices_Contains_bool.E (N : Nat) : Env := mkEnv (slices_Contains_bool.G N) N tyTab slices_Contains_bool.kp
noncomputable def slices_Contains_bool.fn (N : Nat) (x : List Bool × Bool) : Option Bool := evFn (slices_Contains_bool.E N) Try.prog 3 Try.f34 false [.cell (.sl 4 (.bool)), .cell (.bool)] [.val (.cell (.bool))] x
noncomputable def slices_Contains_bool.S (N : Nat) : PSpec := ⟨false, [.cell (.sl 4 (.bool)), .cell (.bool)], [.val (.cell (.bool))], slices_Contains_bool.fn N⟩
theorem f34_enters : Enters Try.prog 34 := ⟨Try.f34, Try.func34, by kernel_rfl, by kernel_rfl⟩
theorem slices_Contains_bool.tab (N : Nat) : TabOk Try.prog (slices_Contains_bool.G N) := ⟨⟨slices_Index_bool.enters, slices_Index_bool.sound N⟩, trivial⟩
theorem slices_Contains_bool.enters : Enters Try.prog 34 := f34_enters
theorem slices_Contains_bool.sound (N : Nat) : Sound Try.prog 34 (slices_Contains_bool.S N) := evFn_sound (specs_tab (slices_Contains_bool.tab N)) (inls_tab (slices_Contains_bool.tab N)) mixed 3 Try.func34 _ _ _
theorem slices_Contains_bool.eq (N : Nat) (x0 : List Bool) (x1 : Bool) : slices_Contains_bool.fn N (x0, x1) =
    (slices_Index_bool.fn N (x0, x1)).bind fun r1 =>
    some (decide (r1 ≥ 0)) := by kernel_rfl

end Go.Proofs.Ytjojikhfmlceoaa.Sk
