/- PRINTED by gen.py: what the functions answer. Not trusted: Lean checks it. -/
import Derived.Test.YtalaepaomnfgjaaSkTab
set_option linter.unusedVariables false
set_option linter.unusedSimpArgs false
set_option maxRecDepth 100000
namespace Go.Proofs.Ytalaepaomnfgjaa.Sk
open Go
def tyTab : TypeId → Option Ty := tyOf [(3, .int .i64), (9, .str), (64, .pair (.pair (.int .i64) (.int .i64)) (.int .i64)), (89, .pair (.int .i64) (.str))]
theorem mixed : Try.prog.follows .mixedOrders = true := by kernel_rfl
/-! ### F63: skyway/handover.Begin -/
noncomputable def F63.G (N : Nat) : List (Nat × Spec) := []
def F63.kp : List (Nat × List (Nat × Option (TypeId × Ty))) := []
noncomputable def F63.E (N : Nat) : Env := mkEnv (F63.G N) N tyTab F63.kp
noncomputable def F63.fn (N : Nat) (x : Unit) : Option ((Int × Int) × Int × Int) := evFn (F63.E N) Try.prog 3 Try.f63 false [] [.val (.agg (.pair (.int .i64) (.int .i64))), .val (.agg (.pair (.int .i64) (.int .i64)))] x
noncomputable def F63.S (N : Nat) : PSpec := ⟨false, [], [.val (.agg (.pair (.int .i64) (.int .i64))), .val (.agg (.pair (.int .i64) (.int .i64)))], F63.fn N⟩
theorem f63_enters : Enters Try.prog 63 := ⟨Try.f63, Try.func63, by kernel_rfl, by kernel_rfl⟩
theorem F63.tab (N : Nat) : TabOk Try.prog (F63.G N) := trivial
theorem F63.enters : Enters Try.prog 63 := f63_enters
theorem F63.sound (N : Nat) : Sound Try.prog 63 (F63.S N) := evFn_sound (specs_tab (F63.tab N)) (inls_tab (F63.tab N)) mixed 3 Try.func63 _ _ _
theorem F63.eq (N : Nat) : F63.fn N () =
    some ((1, 0), (0, 0)) := by kernel_rfl

/-! ### F18: skyway/handover.Check -/
noncomputable def F18.G (N : Nat) : List (Nat × Spec) := []
def F18.kp : List (Nat × List (Nat × Option (TypeId × Ty))) := []
noncomputable def F18.E (N : Nat) : Env := mkEnv (F18.G N) N tyTab F18.kp
noncomputable def F18.fn (N : Nat) (x : Int × Int) : Option Int := evFn (F18.E N) Try.prog 3 Try.f18 false [.agg (.pair (.int .i64) (.int .i64))] [.val (.cell (.int .i64))] x
noncomputable def F18.S (N : Nat) : PSpec := ⟨false, [.agg (.pair (.int .i64) (.int .i64))], [.val (.cell (.int .i64))], F18.fn N⟩
theorem f18_enters : Enters Try.prog 18 := ⟨Try.f18, Try.func18, by kernel_rfl, by kernel_rfl⟩
theorem F18.tab (N : Nat) : TabOk Try.prog (F18.G N) := trivial
theorem F18.enters : Enters Try.prog 18 := f18_enters
theorem F18.sound (N : Nat) : Sound Try.prog 18 (F18.S N) := evFn_sound (specs_tab (F18.tab N)) (inls_tab (F18.tab N)) mixed 3 Try.func18 _ _ _
theorem F18.eq (N : Nat) (x0 : Int × Int) : F18.fn N x0 =
    bif !(!(decide (x0.1 < 0))) || (!(decide (x0.1 < 0))) then
      bif !(!(decide (x0.1 < 0))) || (!(decide (x0.1 < 0))) then
        bif (decide (x0.1 < 0)) || (!(decide (x0.1 < 0))) then
          bif cond (decide (x0.1 < 0)) true (decide (x0.1 > 2)) then
            some 1
          else
          bif !(!(decide (x0.2 < 0))) || (!(decide (x0.2 < 0))) then
            bif !(!(decide (x0.2 < 0))) || (!(decide (x0.2 < 0))) then
              bif (decide (x0.2 < 0)) || (!(decide (x0.2 < 0))) then
                bif cond (decide (x0.2 < 0)) true (decide (x0.2 > 2000)) then
                  some 4
                else
                  some 0
              else
                none
            else
              none
          else
            none
        else
          none
      else
        none
    else
      none := by kernel_rfl
theorem taut1 : ∀ p0 : Bool, ((!(!(p0)) || (!(p0)))) = true := by decide
theorem taut2 : ∀ p0 : Bool, (((p0) || (!(p0)))) = true := by decide
theorem F18.clean (N : Nat) (x0 : Int × Int) : F18.fn N x0 =
    bif cond (decide (x0.1 < 0)) true (decide (x0.1 > 2)) then
      some 1
    else
    bif cond (decide (x0.2 < 0)) true (decide (x0.2 > 2000)) then
      some 4
    else
      some 0 := by
  rw [F18.eq]; simp only [taut1, taut2, cond_true]

/-! ### F15: skyway/handover.Give -/
noncomputable def F15.G (N : Nat) : List (Nat × Spec) := [(18, .pure (F18.S N))]
def F15.kp : List (Nat × List (Nat × Option (TypeId × Ty))) := []
noncomputable def F15.E (N : Nat) : Env := mkEnv (F15.G N) N tyTab F15.kp
noncomputable def F15.fn (N : Nat) (x : Int × Int) : Option ((Int × Int) × (Bool × Int) × Int) := evFn (F15.E N) Try.prog 3 Try.f15 false [.agg (.pair (.int .i64) (.int .i64))] [.val (.agg (.pair (.int .i64) (.int .i64))), .val (.agg (.pair (.bool) (.int .i64))), .val (.cell (.int .i64))] x
noncomputable def F15.S (N : Nat) : PSpec := ⟨false, [.agg (.pair (.int .i64) (.int .i64))], [.val (.agg (.pair (.int .i64) (.int .i64))), .val (.agg (.pair (.bool) (.int .i64))), .val (.cell (.int .i64))], F15.fn N⟩
theorem f15_enters : Enters Try.prog 15 := ⟨Try.f15, Try.func15, by kernel_rfl, by kernel_rfl⟩
theorem F15.tab (N : Nat) : TabOk Try.prog (F15.G N) := ⟨⟨F18.enters, F18.sound N⟩, trivial⟩
theorem F15.enters : Enters Try.prog 15 := f15_enters
theorem F15.sound (N : Nat) : Sound Try.prog 15 (F15.S N) := evFn_sound (specs_tab (F15.tab N)) (inls_tab (F15.tab N)) mixed 3 Try.func15 _ _ _
theorem F15.eq (N : Nat) (x0 : Int × Int) : F15.fn N x0 =
    (F18.fn N (x0.1, x0.2)).bind fun r1 =>
    bif !(r1 == 0) then
      some ((0, 0), (false, 0), r1)
    else
    bif !(x0.1 == 1) then
      some ((0, 0), (false, 0), 11)
    else
    bif x0.2 == 2000 then
      some ((0, 0), (false, 0), 2)
    else
      some ((2, x0.2), (false, (w (x0.2 + 1))), 0) := by kernel_rfl

/-! ### F16: skyway/handover.Again -/
noncomputable def F16.G (N : Nat) : List (Nat × Spec) := [(18, .pure (F18.S N))]
def F16.kp : List (Nat × List (Nat × Option (TypeId × Ty))) := []
noncomputable def F16.E (N : Nat) : Env := mkEnv (F16.G N) N tyTab F16.kp
noncomputable def F16.fn (N : Nat) (x : Int × Int) : Option ((Bool × Int) × Int) := evFn (F16.E N) Try.prog 3 Try.f16 false [.agg (.pair (.int .i64) (.int .i64))] [.val (.agg (.pair (.bool) (.int .i64))), .val (.cell (.int .i64))] x
noncomputable def F16.S (N : Nat) : PSpec := ⟨false, [.agg (.pair (.int .i64) (.int .i64))], [.val (.agg (.pair (.bool) (.int .i64))), .val (.cell (.int .i64))], F16.fn N⟩
theorem f16_enters : Enters Try.prog 16 := ⟨Try.f16, Try.func16, by kernel_rfl, by kernel_rfl⟩
theorem F16.tab (N : Nat) : TabOk Try.prog (F16.G N) := ⟨⟨F18.enters, F18.sound N⟩, trivial⟩
theorem F16.enters : Enters Try.prog 16 := f16_enters
theorem F16.sound (N : Nat) : Sound Try.prog 16 (F16.S N) := evFn_sound (specs_tab (F16.tab N)) (inls_tab (F16.tab N)) mixed 3 Try.func16 _ _ _
theorem F16.eq (N : Nat) (x0 : Int × Int) : F16.fn N x0 =
    (F18.fn N (x0.1, x0.2)).bind fun r1 =>
    bif !(r1 == 0) then
      some ((false, 0), r1)
    else
    bif !(x0.1 == 2) then
      some ((false, 0), 11)
    else
      some ((false, (w (x0.2 + 1))), 0) := by kernel_rfl

/-! ### F64: skyway/handover.hearAck -/
noncomputable def F64.G (N : Nat) : List (Nat × Spec) := []
def F64.kp : List (Nat × List (Nat × Option (TypeId × Ty))) := []
noncomputable def F64.E (N : Nat) : Env := mkEnv (F64.G N) N tyTab F64.kp
noncomputable def F64.fn (N : Nat) (x : (Int × Int) × Int) : Option (Int × Int) := evFn (F64.E N) Try.prog 3 Try.f64 false [.agg (.pair (.int .i64) (.int .i64)), .cell (.int .i64)] [.val (.agg (.pair (.int .i64) (.int .i64)))] x
noncomputable def F64.S (N : Nat) : PSpec := ⟨false, [.agg (.pair (.int .i64) (.int .i64)), .cell (.int .i64)], [.val (.agg (.pair (.int .i64) (.int .i64)))], F64.fn N⟩
theorem f64_enters : Enters Try.prog 64 := ⟨Try.f64, Try.func64, by kernel_rfl, by kernel_rfl⟩
theorem F64.tab (N : Nat) : TabOk Try.prog (F64.G N) := trivial
theorem F64.enters : Enters Try.prog 64 := f64_enters
theorem F64.sound (N : Nat) : Sound Try.prog 64 (F64.S N) := evFn_sound (specs_tab (F64.tab N)) (inls_tab (F64.tab N)) mixed 3 Try.func64 _ _ _
theorem F64.eq (N : Nat) (x0 : Int × Int) (x1 : Int) : F64.fn N (x0, x1) =
    bif !(x0.1 == 2) || (x0.1 == 2) then
      bif !(x0.1 == 2) || (x0.1 == 2) then
        bif !(x0.1 == 2) || (x0.1 == 2) then
          bif !(x0.1 == 2) || (x0.1 == 2) then
            bif (!(x0.1 == 2)) || (x0.1 == 2) then
              bif cond (x0.1 == 2) (x1 == (w (x0.2 + 1))) false then
                some (0, x1)
              else
                some (x0.1, x0.2)
            else
              none
          else
            none
        else
          none
      else
        none
    else
      none := by kernel_rfl
theorem taut3 : ∀ p0 : Bool, ((!(p0) || (p0))) = true := by decide
theorem taut4 : ∀ p0 : Bool, (((!(p0)) || (p0))) = true := by decide
theorem F64.clean (N : Nat) (x0 : Int × Int) (x1 : Int) : F64.fn N (x0, x1) =
    bif cond (x0.1 == 2) (x1 == (w (x0.2 + 1))) false then
      some (0, x1)
    else
      some (x0.1, x0.2) := by
  rw [F64.eq]; simp only [taut3, taut4, cond_true]

/-! ### F19: skyway/handover.Hear -/
noncomputable def F19.G (N : Nat) : List (Nat × Spec) := [(18, .pure (F18.S N)), (64, .pure (F64.S N))]
def F19.kp : List (Nat × List (Nat × Option (TypeId × Ty))) := []
noncomputable def F19.E (N : Nat) : Env := mkEnv (F19.G N) N tyTab F19.kp
noncomputable def F19.fn (N : Nat) (x : (Int × Int) × Bool × Int) : Option ((Int × Int) × (Bool × Int) × Bool × Int) := evFn (F19.E N) Try.prog 3 Try.f19 false [.agg (.pair (.int .i64) (.int .i64)), .agg (.pair (.bool) (.int .i64))] [.val (.agg (.pair (.int .i64) (.int .i64))), .val (.agg (.pair (.bool) (.int .i64))), .val (.cell (.bool)), .val (.cell (.int .i64))] x
noncomputable def F19.S (N : Nat) : PSpec := ⟨false, [.agg (.pair (.int .i64) (.int .i64)), .agg (.pair (.bool) (.int .i64))], [.val (.agg (.pair (.int .i64) (.int .i64))), .val (.agg (.pair (.bool) (.int .i64))), .val (.cell (.bool)), .val (.cell (.int .i64))], F19.fn N⟩
theorem f19_enters : Enters Try.prog 19 := ⟨Try.f19, Try.func19, by kernel_rfl, by kernel_rfl⟩
theorem F19.tab (N : Nat) : TabOk Try.prog (F19.G N) := ⟨⟨F18.enters, F18.sound N⟩, ⟨F64.enters, F64.sound N⟩, trivial⟩
theorem F19.enters : Enters Try.prog 19 := f19_enters
theorem F19.sound (N : Nat) : Sound Try.prog 19 (F19.S N) := evFn_sound (specs_tab (F19.tab N)) (inls_tab (F19.tab N)) mixed 3 Try.func19 _ _ _
theorem F19.eq (N : Nat) (x0 : Int × Int) (x1 : Bool × Int) : F19.fn N (x0, x1) =
    (F18.fn N (x0.1, x0.2)).bind fun r1 =>
    bif !(r1 == 0) then
      some ((0, 0), (false, 0), false, r1)
    else
    bif !(!(decide (x1.2 < 1))) || (!(decide (x1.2 < 1))) then
      bif !(!(decide (x1.2 < 1))) || (!(decide (x1.2 < 1))) then
        bif (decide (x1.2 < 1)) || (!(decide (x1.2 < 1))) then
          bif cond (decide (x1.2 < 1)) true (decide (x1.2 > 2000)) then
            some ((0, 0), (false, 0), false, 4)
          else
          bif x1.1 then
            (F64.fn N ((x0.1, x0.2), x1.2)).bind fun r2 =>
            some ((r2.1, r2.2), (false, 0), false, 0)
          else
          bif !(x0.1 == 2) || (x0.1 == 2) then
            bif !(x0.1 == 2) || (x0.1 == 2) then
              bif !(x0.1 == 2) || (x0.1 == 2) then
                bif !(x0.1 == 2) || (x0.1 == 2) then
                  bif !(x0.1 == 2) || (x0.1 == 2) then
                    bif (!(x0.1 == 2)) || (x0.1 == 2) then
                      bif cond (x0.1 == 2) (x1.2 == (w (x0.2 + 2))) false then
                        bif x1.2 == (w ((w (x0.2 + 1)) + 1)) then
                          bif decide (x1.2 ≤ x1.2) then
                            some ((1, x1.2), (true, x1.2), true, 0)
                          else
                            some ((1, x1.2), (false, 0), false, 0)
                        else
                        bif decide (x1.2 ≤ (w (x0.2 + 1))) then
                          some ((0, (w (x0.2 + 1))), (true, x1.2), true, 0)
                        else
                          some ((0, (w (x0.2 + 1))), (false, 0), false, 0)
                      else
                      bif !(x0.1 == 0) || (x0.1 == 0) then
                        bif !(x0.1 == 0) || (x0.1 == 0) then
                          bif !(x0.1 == 0) || (x0.1 == 0) then
                            bif !(x0.1 == 0) || (x0.1 == 0) then
                              bif !(x0.1 == 0) || (x0.1 == 0) then
                                bif (!(x0.1 == 0)) || (x0.1 == 0) then
                                  bif cond (x0.1 == 0) (x1.2 == (w (x0.2 + 1))) false then
                                    bif decide (x1.2 ≤ x1.2) then
                                      some ((1, x1.2), (true, x1.2), true, 0)
                                    else
                                      some ((1, x1.2), (false, 0), false, 0)
                                  else
                                  bif decide (x1.2 ≤ x0.2) then
                                    some ((x0.1, x0.2), (true, x1.2), true, 0)
                                  else
                                    some ((x0.1, x0.2), (false, 0), false, 0)
                                else
                                  none
                              else
                                none
                            else
                              none
                          else
                            none
                        else
                          none
                      else
                        none
                    else
                      none
                  else
                    none
                else
                  none
              else
                none
            else
              none
          else
            none
        else
          none
      else
        none
    else
      none := by kernel_rfl
theorem F19.clean (N : Nat) (x0 : Int × Int) (x1 : Bool × Int) : F19.fn N (x0, x1) =
    (F18.fn N (x0.1, x0.2)).bind fun r1 =>
    bif !(r1 == 0) then
      some ((0, 0), (false, 0), false, r1)
    else
    bif cond (decide (x1.2 < 1)) true (decide (x1.2 > 2000)) then
      some ((0, 0), (false, 0), false, 4)
    else
    bif x1.1 then
      (F64.fn N ((x0.1, x0.2), x1.2)).bind fun r2 =>
      some ((r2.1, r2.2), (false, 0), false, 0)
    else
    bif cond (x0.1 == 2) (x1.2 == (w (x0.2 + 2))) false then
      bif x1.2 == (w ((w (x0.2 + 1)) + 1)) then
        bif decide (x1.2 ≤ x1.2) then
          some ((1, x1.2), (true, x1.2), true, 0)
        else
          some ((1, x1.2), (false, 0), false, 0)
      else
      bif decide (x1.2 ≤ (w (x0.2 + 1))) then
        some ((0, (w (x0.2 + 1))), (true, x1.2), true, 0)
      else
        some ((0, (w (x0.2 + 1))), (false, 0), false, 0)
    else
    bif cond (x0.1 == 0) (x1.2 == (w (x0.2 + 1))) false then
      bif decide (x1.2 ≤ x1.2) then
        some ((1, x1.2), (true, x1.2), true, 0)
      else
        some ((1, x1.2), (false, 0), false, 0)
    else
    bif decide (x1.2 ≤ x0.2) then
      some ((x0.1, x0.2), (true, x1.2), true, 0)
    else
      some ((x0.1, x0.2), (false, 0), false, 0) := by
  rw [F19.eq]; simp only [taut1, taut3, taut4, taut2, cond_true]

/-! ### F65: skyway/handover.rank -/
noncomputable def F65.G (N : Nat) : List (Nat × Spec) := []
def F65.kp : List (Nat × List (Nat × Option (TypeId × Ty))) := []
noncomputable def F65.E (N : Nat) : Env := mkEnv (F65.G N) N tyTab F65.kp
noncomputable def F65.fn (N : Nat) (x : Int × Int) : Option Int := evFn (F65.E N) Try.prog 3 Try.f65 false [.agg (.pair (.int .i64) (.int .i64))] [.val (.cell (.int .i64))] x
noncomputable def F65.S (N : Nat) : PSpec := ⟨false, [.agg (.pair (.int .i64) (.int .i64))], [.val (.cell (.int .i64))], F65.fn N⟩
theorem f65_enters : Enters Try.prog 65 := ⟨Try.f65, Try.func65, by kernel_rfl, by kernel_rfl⟩
theorem F65.tab (N : Nat) : TabOk Try.prog (F65.G N) := trivial
theorem F65.enters : Enters Try.prog 65 := f65_enters
theorem F65.sound (N : Nat) : Sound Try.prog 65 (F65.S N) := evFn_sound (specs_tab (F65.tab N)) (inls_tab (F65.tab N)) mixed 3 Try.func65 _ _ _
theorem F65.eq (N : Nat) (x0 : Int × Int) : F65.fn N x0 =
    bif !(x0.1 == 0) then
      some (w ((w (2 * x0.2)) + 1))
    else
      some (w (2 * x0.2)) := by kernel_rfl

/-! ### F21: skyway/handover.Responsible -/
noncomputable def F21.G (N : Nat) : List (Nat × Spec) := [(18, .pure (F18.S N)), (65, .pure (F65.S N))]
def F21.kp : List (Nat × List (Nat × Option (TypeId × Ty))) := []
noncomputable def F21.E (N : Nat) : Env := mkEnv (F21.G N) N tyTab F21.kp
noncomputable def F21.fn (N : Nat) (x : (Int × Int) × Int × Int) : Option (Int × Int) := evFn (F21.E N) Try.prog 3 Try.f21 false [.agg (.pair (.int .i64) (.int .i64)), .agg (.pair (.int .i64) (.int .i64))] [.val (.cell (.int .i64)), .val (.cell (.int .i64))] x
noncomputable def F21.S (N : Nat) : PSpec := ⟨false, [.agg (.pair (.int .i64) (.int .i64)), .agg (.pair (.int .i64) (.int .i64))], [.val (.cell (.int .i64)), .val (.cell (.int .i64))], F21.fn N⟩
theorem f21_enters : Enters Try.prog 21 := ⟨Try.f21, Try.func21, by kernel_rfl, by kernel_rfl⟩
theorem F21.tab (N : Nat) : TabOk Try.prog (F21.G N) := ⟨⟨F18.enters, F18.sound N⟩, ⟨F65.enters, F65.sound N⟩, trivial⟩
theorem F21.enters : Enters Try.prog 21 := f21_enters
theorem F21.sound (N : Nat) : Sound Try.prog 21 (F21.S N) := evFn_sound (specs_tab (F21.tab N)) (inls_tab (F21.tab N)) mixed 3 Try.func21 _ _ _
theorem F21.eq (N : Nat) (x0 : Int × Int) (x1 : Int × Int) : F21.fn N (x0, x1) =
    (F18.fn N (x0.1, x0.2)).bind fun r1 =>
    bif !(r1 == 0) then
      some (0, r1)
    else
      (F18.fn N (x1.1, x1.2)).bind fun r2 =>
      bif !(r2 == 0) then
        some (0, r2)
      else
        (F65.fn N (x0.1, x0.2)).bind fun r3 =>
        (F65.fn N (x1.1, x1.2)).bind fun r4 =>
        bif decide (r3 > r4) then
          some (0, 0)
        else
        bif decide (r4 > r3) then
          some (1, 0)
        else
          some (0, 11) := by kernel_rfl

/-! ### F23: skyway/handover.Acts -/
noncomputable def F23.G (N : Nat) : List (Nat × Spec) := [(18, .pure (F18.S N))]
def F23.kp : List (Nat × List (Nat × Option (TypeId × Ty))) := []
noncomputable def F23.E (N : Nat) : Env := mkEnv (F23.G N) N tyTab F23.kp
noncomputable def F23.fn (N : Nat) (x : Int × Int) : Option Bool := evFn (F23.E N) Try.prog 3 Try.f23 false [.agg (.pair (.int .i64) (.int .i64))] [.val (.cell (.bool))] x
noncomputable def F23.S (N : Nat) : PSpec := ⟨false, [.agg (.pair (.int .i64) (.int .i64))], [.val (.cell (.bool))], F23.fn N⟩
theorem f23_enters : Enters Try.prog 23 := ⟨Try.f23, Try.func23, by kernel_rfl, by kernel_rfl⟩
theorem F23.tab (N : Nat) : TabOk Try.prog (F23.G N) := ⟨⟨F18.enters, F18.sound N⟩, trivial⟩
theorem F23.enters : Enters Try.prog 23 := f23_enters
theorem F23.sound (N : Nat) : Sound Try.prog 23 (F23.S N) := evFn_sound (specs_tab (F23.tab N)) (inls_tab (F23.tab N)) mixed 3 Try.func23 _ _ _
theorem F23.eq (N : Nat) (x0 : Int × Int) : F23.fn N x0 =
    (F18.fn N (x0.1, x0.2)).bind fun r1 =>
    bif !(r1 == 0) || (r1 == 0) then
      bif !(r1 == 0) || (r1 == 0) then
        bif (!(r1 == 0)) || (r1 == 0) then
          some (cond (r1 == 0) (x0.1 == 1) false)
        else
          none
      else
        none
    else
      none := by kernel_rfl
theorem F23.clean (N : Nat) (x0 : Int × Int) : F23.fn N x0 =
    (F18.fn N (x0.1, x0.2)).bind fun r1 =>
    some (cond (r1 == 0) (x0.1 == 1) false) := by
  rw [F23.eq]; simp only [taut3, taut4, cond_true]

/-! ### F14: skyway/skywaylaw3.handoverFact -/
noncomputable def F14.G (N : Nat) : List (Nat × Spec) := [(15, .pure (F15.S N)), (16, .pure (F16.S N)), (18, .pure (F18.S N)), (19, .pure (F19.S N)), (21, .pure (F21.S N)), (23, .pure (F23.S N)), (63, .pure (F63.S N))]
def F14.kp : List (Nat × List (Nat × Option (TypeId × Ty))) := []
noncomputable def F14.E (N : Nat) : Env := mkEnv (F14.G N) N tyTab F14.kp
noncomputable def F14.fn (N : Nat) (x : Unit) : Option Bool := evFn (F14.E N) Try.prog 3 Try.f14 false [] [.val (.cell (.bool))] x
noncomputable def F14.S (N : Nat) : PSpec := ⟨false, [], [.val (.cell (.bool))], F14.fn N⟩
theorem f14_enters : Enters Try.prog 14 := ⟨Try.f14, Try.func14, by kernel_rfl, by kernel_rfl⟩
theorem F14.tab (N : Nat) : TabOk Try.prog (F14.G N) := ⟨⟨F15.enters, F15.sound N⟩, ⟨F16.enters, F16.sound N⟩, ⟨F18.enters, F18.sound N⟩, ⟨F19.enters, F19.sound N⟩, ⟨F21.enters, F21.sound N⟩, ⟨F23.enters, F23.sound N⟩, ⟨F63.enters, F63.sound N⟩, trivial⟩
theorem F14.enters : Enters Try.prog 14 := f14_enters
theorem F14.sound (N : Nat) : Sound Try.prog 14 (F14.S N) := evFn_sound (specs_tab (F14.tab N)) (inls_tab (F14.tab N)) mixed 3 Try.func14 _ _ _
theorem F14.eq (N : Nat) : F14.fn N () =
    (F63.fn N ()).bind fun r1 =>
    (F15.fn N (r1.1.1, r1.1.2)).bind fun r2 =>
    (F16.fn N (r2.1.1, r2.1.2)).bind fun r3 =>
    (F19.fn N ((r1.2.1, r1.2.2), (r2.2.1.1, r2.2.1.2))).bind fun r4 =>
    (F21.fn N ((r2.1.1, r2.1.2), (r4.1.1, r4.1.2))).bind fun r5 =>
    (F19.fn N ((r2.1.1, r2.1.2), (r4.2.1.1, r4.2.1.2))).bind fun r6 =>
    bif !(r2.2.2 == 0) || (r2.2.2 == 0) then
      bif (!(r2.2.2 == 0)) || (r2.2.2 == 0) then
        bif !(cond (r2.2.2 == 0) (r3.2 == 0) false) || (cond (r2.2.2 == 0) (r3.2 == 0) false) then
          bif (!(cond (r2.2.2 == 0) (r3.2 == 0) false)) || (cond (r2.2.2 == 0) (r3.2 == 0) false) then
            bif !(cond (cond (r2.2.2 == 0) (r3.2 == 0) false) (r4.2.2.2 == 0) false) || (cond (cond (r2.2.2 == 0) (r3.2 == 0) false) (r4.2.2.2 == 0) false) then
              bif (!(cond (cond (r2.2.2 == 0) (r3.2 == 0) false) (r4.2.2.2 == 0) false)) || (cond (cond (r2.2.2 == 0) (r3.2 == 0) false) (r4.2.2.2 == 0) false) then
                bif !(cond (cond (cond (r2.2.2 == 0) (r3.2 == 0) false) (r4.2.2.2 == 0) false) (r5.2 == 0) false) || (cond (cond (cond (r2.2.2 == 0) (r3.2 == 0) false) (r4.2.2.2 == 0) false) (r5.2 == 0) false) then
                  bif (!(cond (cond (cond (r2.2.2 == 0) (r3.2 == 0) false) (r4.2.2.2 == 0) false) (r5.2 == 0) false)) || (cond (cond (cond (r2.2.2 == 0) (r3.2 == 0) false) (r4.2.2.2 == 0) false) (r5.2 == 0) false) then
                    bif !(cond (cond (cond (cond (r2.2.2 == 0) (r3.2 == 0) false) (r4.2.2.2 == 0) false) (r5.2 == 0) false) (r6.2.2.2 == 0) false) || (cond (cond (cond (cond (r2.2.2 == 0) (r3.2 == 0) false) (r4.2.2.2 == 0) false) (r5.2 == 0) false) (r6.2.2.2 == 0) false) then
                      bif !(cond (cond (cond (cond (r2.2.2 == 0) (r3.2 == 0) false) (r4.2.2.2 == 0) false) (r5.2 == 0) false) (r6.2.2.2 == 0) false) || (cond (cond (cond (cond (r2.2.2 == 0) (r3.2 == 0) false) (r4.2.2.2 == 0) false) (r5.2 == 0) false) (r6.2.2.2 == 0) false) then
                        bif (!(cond (cond (cond (cond (r2.2.2 == 0) (r3.2 == 0) false) (r4.2.2.2 == 0) false) (r5.2 == 0) false) (r6.2.2.2 == 0) false)) || (cond (cond (cond (cond (r2.2.2 == 0) (r3.2 == 0) false) (r4.2.2.2 == 0) false) (r5.2 == 0) false) (r6.2.2.2 == 0) false) then
                          bif !(cond (cond (cond (cond (cond (r2.2.2 == 0) (r3.2 == 0) false) (r4.2.2.2 == 0) false) (r5.2 == 0) false) (r6.2.2.2 == 0) false) ((r2.2.1.1 == false) && ((r2.2.1.2 == 1) && true)) false) || (cond (cond (cond (cond (cond (r2.2.2 == 0) (r3.2 == 0) false) (r4.2.2.2 == 0) false) (r5.2 == 0) false) (r6.2.2.2 == 0) false) ((r2.2.1.1 == false) && ((r2.2.1.2 == 1) && true)) false) then
                            bif !(cond (cond (cond (cond (cond (r2.2.2 == 0) (r3.2 == 0) false) (r4.2.2.2 == 0) false) (r5.2 == 0) false) (r6.2.2.2 == 0) false) ((r2.2.1.1 == false) && ((r2.2.1.2 == 1) && true)) false) || (cond (cond (cond (cond (cond (r2.2.2 == 0) (r3.2 == 0) false) (r4.2.2.2 == 0) false) (r5.2 == 0) false) (r6.2.2.2 == 0) false) ((r2.2.1.1 == false) && ((r2.2.1.2 == 1) && true)) false) then
                              bif (!(cond (cond (cond (cond (cond (r2.2.2 == 0) (r3.2 == 0) false) (r4.2.2.2 == 0) false) (r5.2 == 0) false) (r6.2.2.2 == 0) false) ((r2.2.1.1 == false) && ((r2.2.1.2 == 1) && true)) false)) || (cond (cond (cond (cond (cond (r2.2.2 == 0) (r3.2 == 0) false) (r4.2.2.2 == 0) false) (r5.2 == 0) false) (r6.2.2.2 == 0) false) ((r2.2.1.1 == false) && ((r2.2.1.2 == 1) && true)) false) then
                                bif (!(cond (cond (cond (cond (cond (cond (r2.2.2 == 0) (r3.2 == 0) false) (r4.2.2.2 == 0) false) (r5.2 == 0) false) (r6.2.2.2 == 0) false) ((r2.2.1.1 == false) && ((r2.2.1.2 == 1) && true)) false) ((r3.1.1 == r2.2.1.1) && ((r3.1.2 == r2.2.1.2) && true)) false)) || (cond (cond (cond (cond (cond (cond (r2.2.2 == 0) (r3.2 == 0) false) (r4.2.2.2 == 0) false) (r5.2 == 0) false) (r6.2.2.2 == 0) false) ((r2.2.1.1 == false) && ((r2.2.1.2 == 1) && true)) false) ((r3.1.1 == r2.2.1.1) && ((r3.1.2 == r2.2.1.2) && true)) false) then
                                  bif !(cond (cond (cond (cond (cond (cond (cond (r2.2.2 == 0) (r3.2 == 0) false) (r4.2.2.2 == 0) false) (r5.2 == 0) false) (r6.2.2.2 == 0) false) ((r2.2.1.1 == false) && ((r2.2.1.2 == 1) && true)) false) ((r3.1.1 == r2.2.1.1) && ((r3.1.2 == r2.2.1.2) && true)) false) r4.2.2.1 false) || (cond (cond (cond (cond (cond (cond (cond (r2.2.2 == 0) (r3.2 == 0) false) (r4.2.2.2 == 0) false) (r5.2 == 0) false) (r6.2.2.2 == 0) false) ((r2.2.1.1 == false) && ((r2.2.1.2 == 1) && true)) false) ((r3.1.1 == r2.2.1.1) && ((r3.1.2 == r2.2.1.2) && true)) false) r4.2.2.1 false) then
                                    bif (!(cond (cond (cond (cond (cond (cond (cond (r2.2.2 == 0) (r3.2 == 0) false) (r4.2.2.2 == 0) false) (r5.2 == 0) false) (r6.2.2.2 == 0) false) ((r2.2.1.1 == false) && ((r2.2.1.2 == 1) && true)) false) ((r3.1.1 == r2.2.1.1) && ((r3.1.2 == r2.2.1.2) && true)) false) r4.2.2.1 false)) || (cond (cond (cond (cond (cond (cond (cond (r2.2.2 == 0) (r3.2 == 0) false) (r4.2.2.2 == 0) false) (r5.2 == 0) false) (r6.2.2.2 == 0) false) ((r2.2.1.1 == false) && ((r2.2.1.2 == 1) && true)) false) ((r3.1.1 == r2.2.1.1) && ((r3.1.2 == r2.2.1.2) && true)) false) r4.2.2.1 false) then
                                      bif !(cond (cond (cond (cond (cond (cond (cond (cond (r2.2.2 == 0) (r3.2 == 0) false) (r4.2.2.2 == 0) false) (r5.2 == 0) false) (r6.2.2.2 == 0) false) ((r2.2.1.1 == false) && ((r2.2.1.2 == 1) && true)) false) ((r3.1.1 == r2.2.1.1) && ((r3.1.2 == r2.2.1.2) && true)) false) r4.2.2.1 false) (!r6.2.2.1) false) || (cond (cond (cond (cond (cond (cond (cond (cond (r2.2.2 == 0) (r3.2 == 0) false) (r4.2.2.2 == 0) false) (r5.2 == 0) false) (r6.2.2.2 == 0) false) ((r2.2.1.1 == false) && ((r2.2.1.2 == 1) && true)) false) ((r3.1.1 == r2.2.1.1) && ((r3.1.2 == r2.2.1.2) && true)) false) r4.2.2.1 false) (!r6.2.2.1) false) then
                                        bif !(cond (cond (cond (cond (cond (cond (cond (cond (r2.2.2 == 0) (r3.2 == 0) false) (r4.2.2.2 == 0) false) (r5.2 == 0) false) (r6.2.2.2 == 0) false) ((r2.2.1.1 == false) && ((r2.2.1.2 == 1) && true)) false) ((r3.1.1 == r2.2.1.1) && ((r3.1.2 == r2.2.1.2) && true)) false) r4.2.2.1 false) (!r6.2.2.1) false) || (cond (cond (cond (cond (cond (cond (cond (cond (r2.2.2 == 0) (r3.2 == 0) false) (r4.2.2.2 == 0) false) (r5.2 == 0) false) (r6.2.2.2 == 0) false) ((r2.2.1.1 == false) && ((r2.2.1.2 == 1) && true)) false) ((r3.1.1 == r2.2.1.1) && ((r3.1.2 == r2.2.1.2) && true)) false) r4.2.2.1 false) (!r6.2.2.1) false) then
                                          bif (!(cond (cond (cond (cond (cond (cond (cond (cond (r2.2.2 == 0) (r3.2 == 0) false) (r4.2.2.2 == 0) false) (r5.2 == 0) false) (r6.2.2.2 == 0) false) ((r2.2.1.1 == false) && ((r2.2.1.2 == 1) && true)) false) ((r3.1.1 == r2.2.1.1) && ((r3.1.2 == r2.2.1.2) && true)) false) r4.2.2.1 false) (!r6.2.2.1) false)) || (cond (cond (cond (cond (cond (cond (cond (cond (r2.2.2 == 0) (r3.2 == 0) false) (r4.2.2.2 == 0) false) (r5.2 == 0) false) (r6.2.2.2 == 0) false) ((r2.2.1.1 == false) && ((r2.2.1.2 == 1) && true)) false) ((r3.1.1 == r2.2.1.1) && ((r3.1.2 == r2.2.1.2) && true)) false) r4.2.2.1 false) (!r6.2.2.1) false) then
                                            bif !(cond (cond (cond (cond (cond (cond (cond (cond (cond (r2.2.2 == 0) (r3.2 == 0) false) (r4.2.2.2 == 0) false) (r5.2 == 0) false) (r6.2.2.2 == 0) false) ((r2.2.1.1 == false) && ((r2.2.1.2 == 1) && true)) false) ((r3.1.1 == r2.2.1.1) && ((r3.1.2 == r2.2.1.2) && true)) false) r4.2.2.1 false) (!r6.2.2.1) false) ((r4.1.1 == 1) && ((r4.1.2 == 1) && true)) false) || (cond (cond (cond (cond (cond (cond (cond (cond (cond (r2.2.2 == 0) (r3.2 == 0) false) (r4.2.2.2 == 0) false) (r5.2 == 0) false) (r6.2.2.2 == 0) false) ((r2.2.1.1 == false) && ((r2.2.1.2 == 1) && true)) false) ((r3.1.1 == r2.2.1.1) && ((r3.1.2 == r2.2.1.2) && true)) false) r4.2.2.1 false) (!r6.2.2.1) false) ((r4.1.1 == 1) && ((r4.1.2 == 1) && true)) false) then
                                              bif !(cond (cond (cond (cond (cond (cond (cond (cond (cond (r2.2.2 == 0) (r3.2 == 0) false) (r4.2.2.2 == 0) false) (r5.2 == 0) false) (r6.2.2.2 == 0) false) ((r2.2.1.1 == false) && ((r2.2.1.2 == 1) && true)) false) ((r3.1.1 == r2.2.1.1) && ((r3.1.2 == r2.2.1.2) && true)) false) r4.2.2.1 false) (!r6.2.2.1) false) ((r4.1.1 == 1) && ((r4.1.2 == 1) && true)) false) || (cond (cond (cond (cond (cond (cond (cond (cond (cond (r2.2.2 == 0) (r3.2 == 0) false) (r4.2.2.2 == 0) false) (r5.2 == 0) false) (r6.2.2.2 == 0) false) ((r2.2.1.1 == false) && ((r2.2.1.2 == 1) && true)) false) ((r3.1.1 == r2.2.1.1) && ((r3.1.2 == r2.2.1.2) && true)) false) r4.2.2.1 false) (!r6.2.2.1) false) ((r4.1.1 == 1) && ((r4.1.2 == 1) && true)) false) then
                                                bif (!(cond (cond (cond (cond (cond (cond (cond (cond (cond (r2.2.2 == 0) (r3.2 == 0) false) (r4.2.2.2 == 0) false) (r5.2 == 0) false) (r6.2.2.2 == 0) false) ((r2.2.1.1 == false) && ((r2.2.1.2 == 1) && true)) false) ((r3.1.1 == r2.2.1.1) && ((r3.1.2 == r2.2.1.2) && true)) false) r4.2.2.1 false) (!r6.2.2.1) false) ((r4.1.1 == 1) && ((r4.1.2 == 1) && true)) false)) || (cond (cond (cond (cond (cond (cond (cond (cond (cond (r2.2.2 == 0) (r3.2 == 0) false) (r4.2.2.2 == 0) false) (r5.2 == 0) false) (r6.2.2.2 == 0) false) ((r2.2.1.1 == false) && ((r2.2.1.2 == 1) && true)) false) ((r3.1.1 == r2.2.1.1) && ((r3.1.2 == r2.2.1.2) && true)) false) r4.2.2.1 false) (!r6.2.2.1) false) ((r4.1.1 == 1) && ((r4.1.2 == 1) && true)) false) then
                                                  bif !(cond (cond (cond (cond (cond (cond (cond (cond (cond (cond (r2.2.2 == 0) (r3.2 == 0) false) (r4.2.2.2 == 0) false) (r5.2 == 0) false) (r6.2.2.2 == 0) false) ((r2.2.1.1 == false) && ((r2.2.1.2 == 1) && true)) false) ((r3.1.1 == r2.2.1.1) && ((r3.1.2 == r2.2.1.2) && true)) false) r4.2.2.1 false) (!r6.2.2.1) false) ((r4.1.1 == 1) && ((r4.1.2 == 1) && true)) false) ((r4.2.1.1 == true) && ((r4.2.1.2 == 1) && true)) false) || (cond (cond (cond (cond (cond (cond (cond (cond (cond (cond (r2.2.2 == 0) (r3.2 == 0) false) (r4.2.2.2 == 0) false) (r5.2 == 0) false) (r6.2.2.2 == 0) false) ((r2.2.1.1 == false) && ((r2.2.1.2 == 1) && true)) false) ((r3.1.1 == r2.2.1.1) && ((r3.1.2 == r2.2.1.2) && true)) false) r4.2.2.1 false) (!r6.2.2.1) false) ((r4.1.1 == 1) && ((r4.1.2 == 1) && true)) false) ((r4.2.1.1 == true) && ((r4.2.1.2 == 1) && true)) false) then
                                                    bif (!(cond (cond (cond (cond (cond (cond (cond (cond (cond (cond (r2.2.2 == 0) (r3.2 == 0) false) (r4.2.2.2 == 0) false) (r5.2 == 0) false) (r6.2.2.2 == 0) false) ((r2.2.1.1 == false) && ((r2.2.1.2 == 1) && true)) false) ((r3.1.1 == r2.2.1.1) && ((r3.1.2 == r2.2.1.2) && true)) false) r4.2.2.1 false) (!r6.2.2.1) false) ((r4.1.1 == 1) && ((r4.1.2 == 1) && true)) false) ((r4.2.1.1 == true) && ((r4.2.1.2 == 1) && true)) false)) || (cond (cond (cond (cond (cond (cond (cond (cond (cond (cond (r2.2.2 == 0) (r3.2 == 0) false) (r4.2.2.2 == 0) false) (r5.2 == 0) false) (r6.2.2.2 == 0) false) ((r2.2.1.1 == false) && ((r2.2.1.2 == 1) && true)) false) ((r3.1.1 == r2.2.1.1) && ((r3.1.2 == r2.2.1.2) && true)) false) r4.2.2.1 false) (!r6.2.2.1) false) ((r4.1.1 == 1) && ((r4.1.2 == 1) && true)) false) ((r4.2.1.1 == true) && ((r4.2.1.2 == 1) && true)) false) then
                                                      bif !(cond (cond (cond (cond (cond (cond (cond (cond (cond (cond (cond (r2.2.2 == 0) (r3.2 == 0) false) (r4.2.2.2 == 0) false) (r5.2 == 0) false) (r6.2.2.2 == 0) false) ((r2.2.1.1 == false) && ((r2.2.1.2 == 1) && true)) false) ((r3.1.1 == r2.2.1.1) && ((r3.1.2 == r2.2.1.2) && true)) false) r4.2.2.1 false) (!r6.2.2.1) false) ((r4.1.1 == 1) && ((r4.1.2 == 1) && true)) false) ((r4.2.1.1 == true) && ((r4.2.1.2 == 1) && true)) false) (r5.1 == 1) false) || (cond (cond (cond (cond (cond (cond (cond (cond (cond (cond (cond (r2.2.2 == 0) (r3.2 == 0) false) (r4.2.2.2 == 0) false) (r5.2 == 0) false) (r6.2.2.2 == 0) false) ((r2.2.1.1 == false) && ((r2.2.1.2 == 1) && true)) false) ((r3.1.1 == r2.2.1.1) && ((r3.1.2 == r2.2.1.2) && true)) false) r4.2.2.1 false) (!r6.2.2.1) false) ((r4.1.1 == 1) && ((r4.1.2 == 1) && true)) false) ((r4.2.1.1 == true) && ((r4.2.1.2 == 1) && true)) false) (r5.1 == 1) false) then
                                                        bif !(cond (cond (cond (cond (cond (cond (cond (cond (cond (cond (cond (r2.2.2 == 0) (r3.2 == 0) false) (r4.2.2.2 == 0) false) (r5.2 == 0) false) (r6.2.2.2 == 0) false) ((r2.2.1.1 == false) && ((r2.2.1.2 == 1) && true)) false) ((r3.1.1 == r2.2.1.1) && ((r3.1.2 == r2.2.1.2) && true)) false) r4.2.2.1 false) (!r6.2.2.1) false) ((r4.1.1 == 1) && ((r4.1.2 == 1) && true)) false) ((r4.2.1.1 == true) && ((r4.2.1.2 == 1) && true)) false) (r5.1 == 1) false) || (cond (cond (cond (cond (cond (cond (cond (cond (cond (cond (cond (r2.2.2 == 0) (r3.2 == 0) false) (r4.2.2.2 == 0) false) (r5.2 == 0) false) (r6.2.2.2 == 0) false) ((r2.2.1.1 == false) && ((r2.2.1.2 == 1) && true)) false) ((r3.1.1 == r2.2.1.1) && ((r3.1.2 == r2.2.1.2) && true)) false) r4.2.2.1 false) (!r6.2.2.1) false) ((r4.1.1 == 1) && ((r4.1.2 == 1) && true)) false) ((r4.2.1.1 == true) && ((r4.2.1.2 == 1) && true)) false) (r5.1 == 1) false) then
                                                          bif (!(cond (cond (cond (cond (cond (cond (cond (cond (cond (cond (cond (r2.2.2 == 0) (r3.2 == 0) false) (r4.2.2.2 == 0) false) (r5.2 == 0) false) (r6.2.2.2 == 0) false) ((r2.2.1.1 == false) && ((r2.2.1.2 == 1) && true)) false) ((r3.1.1 == r2.2.1.1) && ((r3.1.2 == r2.2.1.2) && true)) false) r4.2.2.1 false) (!r6.2.2.1) false) ((r4.1.1 == 1) && ((r4.1.2 == 1) && true)) false) ((r4.2.1.1 == true) && ((r4.2.1.2 == 1) && true)) false) (r5.1 == 1) false)) || (cond (cond (cond (cond (cond (cond (cond (cond (cond (cond (cond (r2.2.2 == 0) (r3.2 == 0) false) (r4.2.2.2 == 0) false) (r5.2 == 0) false) (r6.2.2.2 == 0) false) ((r2.2.1.1 == false) && ((r2.2.1.2 == 1) && true)) false) ((r3.1.1 == r2.2.1.1) && ((r3.1.2 == r2.2.1.2) && true)) false) r4.2.2.1 false) (!r6.2.2.1) false) ((r4.1.1 == 1) && ((r4.1.2 == 1) && true)) false) ((r4.2.1.1 == true) && ((r4.2.1.2 == 1) && true)) false) (r5.1 == 1) false) then
                                                            bif !(cond (cond (cond (cond (cond (cond (cond (cond (cond (cond (cond (cond (r2.2.2 == 0) (r3.2 == 0) false) (r4.2.2.2 == 0) false) (r5.2 == 0) false) (r6.2.2.2 == 0) false) ((r2.2.1.1 == false) && ((r2.2.1.2 == 1) && true)) false) ((r3.1.1 == r2.2.1.1) && ((r3.1.2 == r2.2.1.2) && true)) false) r4.2.2.1 false) (!r6.2.2.1) false) ((r4.1.1 == 1) && ((r4.1.2 == 1) && true)) false) ((r4.2.1.1 == true) && ((r4.2.1.2 == 1) && true)) false) (r5.1 == 1) false) ((r6.1.1 == 0) && ((r6.1.2 == 1) && true)) false) || (cond (cond (cond (cond (cond (cond (cond (cond (cond (cond (cond (cond (r2.2.2 == 0) (r3.2 == 0) false) (r4.2.2.2 == 0) false) (r5.2 == 0) false) (r6.2.2.2 == 0) false) ((r2.2.1.1 == false) && ((r2.2.1.2 == 1) && true)) false) ((r3.1.1 == r2.2.1.1) && ((r3.1.2 == r2.2.1.2) && true)) false) r4.2.2.1 false) (!r6.2.2.1) false) ((r4.1.1 == 1) && ((r4.1.2 == 1) && true)) false) ((r4.2.1.1 == true) && ((r4.2.1.2 == 1) && true)) false) (r5.1 == 1) false) ((r6.1.1 == 0) && ((r6.1.2 == 1) && true)) false) then
                                                              (bif (cond (cond (cond (cond (cond (cond (cond (cond (cond (cond (cond (cond (r2.2.2 == 0) (r3.2 == 0) false) (r4.2.2.2 == 0) false) (r5.2 == 0) false) (r6.2.2.2 == 0) false) ((r2.2.1.1 == false) && ((r2.2.1.2 == 1) && true)) false) ((r3.1.1 == r2.2.1.1) && ((r3.1.2 == r2.2.1.2) && true)) false) r4.2.2.1 false) (!r6.2.2.1) false) ((r4.1.1 == 1) && ((r4.1.2 == 1) && true)) false) ((r4.2.1.1 == true) && ((r4.2.1.2 == 1) && true)) false) (r5.1 == 1) false) ((r6.1.1 == 0) && ((r6.1.2 == 1) && true)) false) then F23.fn N (r4.1.1, r4.1.2) else some (false)).bind fun r7 =>
                                                              bif (!(cond (cond (cond (cond (cond (cond (cond (cond (cond (cond (cond (cond (r2.2.2 == 0) (r3.2 == 0) false) (r4.2.2.2 == 0) false) (r5.2 == 0) false) (r6.2.2.2 == 0) false) ((r2.2.1.1 == false) && ((r2.2.1.2 == 1) && true)) false) ((r3.1.1 == r2.2.1.1) && ((r3.1.2 == r2.2.1.2) && true)) false) r4.2.2.1 false) (!r6.2.2.1) false) ((r4.1.1 == 1) && ((r4.1.2 == 1) && true)) false) ((r4.2.1.1 == true) && ((r4.2.1.2 == 1) && true)) false) (r5.1 == 1) false) ((r6.1.1 == 0) && ((r6.1.2 == 1) && true)) false)) || (cond (cond (cond (cond (cond (cond (cond (cond (cond (cond (cond (cond (r2.2.2 == 0) (r3.2 == 0) false) (r4.2.2.2 == 0) false) (r5.2 == 0) false) (r6.2.2.2 == 0) false) ((r2.2.1.1 == false) && ((r2.2.1.2 == 1) && true)) false) ((r3.1.1 == r2.2.1.1) && ((r3.1.2 == r2.2.1.2) && true)) false) r4.2.2.1 false) (!r6.2.2.1) false) ((r4.1.1 == 1) && ((r4.1.2 == 1) && true)) false) ((r4.2.1.1 == true) && ((r4.2.1.2 == 1) && true)) false) (r5.1 == 1) false) ((r6.1.1 == 0) && ((r6.1.2 == 1) && true)) false) then
                                                                bif !(cond (cond (cond (cond (cond (cond (cond (cond (cond (cond (cond (cond (cond (r2.2.2 == 0) (r3.2 == 0) false) (r4.2.2.2 == 0) false) (r5.2 == 0) false) (r6.2.2.2 == 0) false) ((r2.2.1.1 == false) && ((r2.2.1.2 == 1) && true)) false) ((r3.1.1 == r2.2.1.1) && ((r3.1.2 == r2.2.1.2) && true)) false) r4.2.2.1 false) (!r6.2.2.1) false) ((r4.1.1 == 1) && ((r4.1.2 == 1) && true)) false) ((r4.2.1.1 == true) && ((r4.2.1.2 == 1) && true)) false) (r5.1 == 1) false) ((r6.1.1 == 0) && ((r6.1.2 == 1) && true)) false) r7 false) || (cond (cond (cond (cond (cond (cond (cond (cond (cond (cond (cond (cond (cond (r2.2.2 == 0) (r3.2 == 0) false) (r4.2.2.2 == 0) false) (r5.2 == 0) false) (r6.2.2.2 == 0) false) ((r2.2.1.1 == false) && ((r2.2.1.2 == 1) && true)) false) ((r3.1.1 == r2.2.1.1) && ((r3.1.2 == r2.2.1.2) && true)) false) r4.2.2.1 false) (!r6.2.2.1) false) ((r4.1.1 == 1) && ((r4.1.2 == 1) && true)) false) ((r4.2.1.1 == true) && ((r4.2.1.2 == 1) && true)) false) (r5.1 == 1) false) ((r6.1.1 == 0) && ((r6.1.2 == 1) && true)) false) r7 false) then
                                                                  (bif (cond (cond (cond (cond (cond (cond (cond (cond (cond (cond (cond (cond (cond (r2.2.2 == 0) (r3.2 == 0) false) (r4.2.2.2 == 0) false) (r5.2 == 0) false) (r6.2.2.2 == 0) false) ((r2.2.1.1 == false) && ((r2.2.1.2 == 1) && true)) false) ((r3.1.1 == r2.2.1.1) && ((r3.1.2 == r2.2.1.2) && true)) false) r4.2.2.1 false) (!r6.2.2.1) false) ((r4.1.1 == 1) && ((r4.1.2 == 1) && true)) false) ((r4.2.1.1 == true) && ((r4.2.1.2 == 1) && true)) false) (r5.1 == 1) false) ((r6.1.1 == 0) && ((r6.1.2 == 1) && true)) false) r7 false) then F23.fn N (r2.1.1, r2.1.2) else some (false)).bind fun r8 =>
                                                                  bif !(cond (cond (cond (cond (cond (cond (cond (cond (cond (cond (cond (cond (cond (r2.2.2 == 0) (r3.2 == 0) false) (r4.2.2.2 == 0) false) (r5.2 == 0) false) (r6.2.2.2 == 0) false) ((r2.2.1.1 == false) && ((r2.2.1.2 == 1) && true)) false) ((r3.1.1 == r2.2.1.1) && ((r3.1.2 == r2.2.1.2) && true)) false) r4.2.2.1 false) (!r6.2.2.1) false) ((r4.1.1 == 1) && ((r4.1.2 == 1) && true)) false) ((r4.2.1.1 == true) && ((r4.2.1.2 == 1) && true)) false) (r5.1 == 1) false) ((r6.1.1 == 0) && ((r6.1.2 == 1) && true)) false) r7 false) || (cond (cond (cond (cond (cond (cond (cond (cond (cond (cond (cond (cond (cond (r2.2.2 == 0) (r3.2 == 0) false) (r4.2.2.2 == 0) false) (r5.2 == 0) false) (r6.2.2.2 == 0) false) ((r2.2.1.1 == false) && ((r2.2.1.2 == 1) && true)) false) ((r3.1.1 == r2.2.1.1) && ((r3.1.2 == r2.2.1.2) && true)) false) r4.2.2.1 false) (!r6.2.2.1) false) ((r4.1.1 == 1) && ((r4.1.2 == 1) && true)) false) ((r4.2.1.1 == true) && ((r4.2.1.2 == 1) && true)) false) (r5.1 == 1) false) ((r6.1.1 == 0) && ((r6.1.2 == 1) && true)) false) r7 false) then
                                                                    bif (!(cond (cond (cond (cond (cond (cond (cond (cond (cond (cond (cond (cond (cond (r2.2.2 == 0) (r3.2 == 0) false) (r4.2.2.2 == 0) false) (r5.2 == 0) false) (r6.2.2.2 == 0) false) ((r2.2.1.1 == false) && ((r2.2.1.2 == 1) && true)) false) ((r3.1.1 == r2.2.1.1) && ((r3.1.2 == r2.2.1.2) && true)) false) r4.2.2.1 false) (!r6.2.2.1) false) ((r4.1.1 == 1) && ((r4.1.2 == 1) && true)) false) ((r4.2.1.1 == true) && ((r4.2.1.2 == 1) && true)) false) (r5.1 == 1) false) ((r6.1.1 == 0) && ((r6.1.2 == 1) && true)) false) r7 false)) || (cond (cond (cond (cond (cond (cond (cond (cond (cond (cond (cond (cond (cond (r2.2.2 == 0) (r3.2 == 0) false) (r4.2.2.2 == 0) false) (r5.2 == 0) false) (r6.2.2.2 == 0) false) ((r2.2.1.1 == false) && ((r2.2.1.2 == 1) && true)) false) ((r3.1.1 == r2.2.1.1) && ((r3.1.2 == r2.2.1.2) && true)) false) r4.2.2.1 false) (!r6.2.2.1) false) ((r4.1.1 == 1) && ((r4.1.2 == 1) && true)) false) ((r4.2.1.1 == true) && ((r4.2.1.2 == 1) && true)) false) (r5.1 == 1) false) ((r6.1.1 == 0) && ((r6.1.2 == 1) && true)) false) r7 false) then
                                                                      bif !(cond (cond (cond (cond (cond (cond (cond (cond (cond (cond (cond (cond (cond (cond (r2.2.2 == 0) (r3.2 == 0) false) (r4.2.2.2 == 0) false) (r5.2 == 0) false) (r6.2.2.2 == 0) false) ((r2.2.1.1 == false) && ((r2.2.1.2 == 1) && true)) false) ((r3.1.1 == r2.2.1.1) && ((r3.1.2 == r2.2.1.2) && true)) false) r4.2.2.1 false) (!r6.2.2.1) false) ((r4.1.1 == 1) && ((r4.1.2 == 1) && true)) false) ((r4.2.1.1 == true) && ((r4.2.1.2 == 1) && true)) false) (r5.1 == 1) false) ((r6.1.1 == 0) && ((r6.1.2 == 1) && true)) false) r7 false) (!r8) false) || (cond (cond (cond (cond (cond (cond (cond (cond (cond (cond (cond (cond (cond (cond (r2.2.2 == 0) (r3.2 == 0) false) (r4.2.2.2 == 0) false) (r5.2 == 0) false) (r6.2.2.2 == 0) false) ((r2.2.1.1 == false) && ((r2.2.1.2 == 1) && true)) false) ((r3.1.1 == r2.2.1.1) && ((r3.1.2 == r2.2.1.2) && true)) false) r4.2.2.1 false) (!r6.2.2.1) false) ((r4.1.1 == 1) && ((r4.1.2 == 1) && true)) false) ((r4.2.1.1 == true) && ((r4.2.1.2 == 1) && true)) false) (r5.1 == 1) false) ((r6.1.1 == 0) && ((r6.1.2 == 1) && true)) false) r7 false) (!r8) false) then
                                                                        (bif (cond (cond (cond (cond (cond (cond (cond (cond (cond (cond (cond (cond (cond (cond (r2.2.2 == 0) (r3.2 == 0) false) (r4.2.2.2 == 0) false) (r5.2 == 0) false) (r6.2.2.2 == 0) false) ((r2.2.1.1 == false) && ((r2.2.1.2 == 1) && true)) false) ((r3.1.1 == r2.2.1.1) && ((r3.1.2 == r2.2.1.2) && true)) false) r4.2.2.1 false) (!r6.2.2.1) false) ((r4.1.1 == 1) && ((r4.1.2 == 1) && true)) false) ((r4.2.1.1 == true) && ((r4.2.1.2 == 1) && true)) false) (r5.1 == 1) false) ((r6.1.1 == 0) && ((r6.1.2 == 1) && true)) false) r7 false) (!r8) false) then F18.fn N (3, 0) else some (0)).bind fun r9 =>
                                                                        bif !(cond (cond (cond (cond (cond (cond (cond (cond (cond (cond (cond (cond (cond (cond (r2.2.2 == 0) (r3.2 == 0) false) (r4.2.2.2 == 0) false) (r5.2 == 0) false) (r6.2.2.2 == 0) false) ((r2.2.1.1 == false) && ((r2.2.1.2 == 1) && true)) false) ((r3.1.1 == r2.2.1.1) && ((r3.1.2 == r2.2.1.2) && true)) false) r4.2.2.1 false) (!r6.2.2.1) false) ((r4.1.1 == 1) && ((r4.1.2 == 1) && true)) false) ((r4.2.1.1 == true) && ((r4.2.1.2 == 1) && true)) false) (r5.1 == 1) false) ((r6.1.1 == 0) && ((r6.1.2 == 1) && true)) false) r7 false) (!r8) false) || (cond (cond (cond (cond (cond (cond (cond (cond (cond (cond (cond (cond (cond (cond (r2.2.2 == 0) (r3.2 == 0) false) (r4.2.2.2 == 0) false) (r5.2 == 0) false) (r6.2.2.2 == 0) false) ((r2.2.1.1 == false) && ((r2.2.1.2 == 1) && true)) false) ((r3.1.1 == r2.2.1.1) && ((r3.1.2 == r2.2.1.2) && true)) false) r4.2.2.1 false) (!r6.2.2.1) false) ((r4.1.1 == 1) && ((r4.1.2 == 1) && true)) false) ((r4.2.1.1 == true) && ((r4.2.1.2 == 1) && true)) false) (r5.1 == 1) false) ((r6.1.1 == 0) && ((r6.1.2 == 1) && true)) false) r7 false) (!r8) false) then
                                                                          bif (!(cond (cond (cond (cond (cond (cond (cond (cond (cond (cond (cond (cond (cond (cond (r2.2.2 == 0) (r3.2 == 0) false) (r4.2.2.2 == 0) false) (r5.2 == 0) false) (r6.2.2.2 == 0) false) ((r2.2.1.1 == false) && ((r2.2.1.2 == 1) && true)) false) ((r3.1.1 == r2.2.1.1) && ((r3.1.2 == r2.2.1.2) && true)) false) r4.2.2.1 false) (!r6.2.2.1) false) ((r4.1.1 == 1) && ((r4.1.2 == 1) && true)) false) ((r4.2.1.1 == true) && ((r4.2.1.2 == 1) && true)) false) (r5.1 == 1) false) ((r6.1.1 == 0) && ((r6.1.2 == 1) && true)) false) r7 false) (!r8) false)) || (cond (cond (cond (cond (cond (cond (cond (cond (cond (cond (cond (cond (cond (cond (r2.2.2 == 0) (r3.2 == 0) false) (r4.2.2.2 == 0) false) (r5.2 == 0) false) (r6.2.2.2 == 0) false) ((r2.2.1.1 == false) && ((r2.2.1.2 == 1) && true)) false) ((r3.1.1 == r2.2.1.1) && ((r3.1.2 == r2.2.1.2) && true)) false) r4.2.2.1 false) (!r6.2.2.1) false) ((r4.1.1 == 1) && ((r4.1.2 == 1) && true)) false) ((r4.2.1.1 == true) && ((r4.2.1.2 == 1) && true)) false) (r5.1 == 1) false) ((r6.1.1 == 0) && ((r6.1.2 == 1) && true)) false) r7 false) (!r8) false) then
                                                                            some (cond (cond (cond (cond (cond (cond (cond (cond (cond (cond (cond (cond (cond (cond (cond (r2.2.2 == 0) (r3.2 == 0) false) (r4.2.2.2 == 0) false) (r5.2 == 0) false) (r6.2.2.2 == 0) false) ((r2.2.1.1 == false) && ((r2.2.1.2 == 1) && true)) false) ((r3.1.1 == r2.2.1.1) && ((r3.1.2 == r2.2.1.2) && true)) false) r4.2.2.1 false) (!r6.2.2.1) false) ((r4.1.1 == 1) && ((r4.1.2 == 1) && true)) false) ((r4.2.1.1 == true) && ((r4.2.1.2 == 1) && true)) false) (r5.1 == 1) false) ((r6.1.1 == 0) && ((r6.1.2 == 1) && true)) false) r7 false) (!r8) false) (r9 == 1) false)
                                                                          else
                                                                            none
                                                                        else
                                                                          none
                                                                      else
                                                                        none
                                                                    else
                                                                      none
                                                                  else
                                                                    none
                                                                else
                                                                  none
                                                              else
                                                                none
                                                            else
                                                              none
                                                          else
                                                            none
                                                        else
                                                          none
                                                      else
                                                        none
                                                    else
                                                      none
                                                  else
                                                    none
                                                else
                                                  none
                                              else
                                                none
                                            else
                                              none
                                          else
                                            none
                                        else
                                          none
                                      else
                                        none
                                    else
                                      none
                                  else
                                    none
                                else
                                  none
                              else
                                none
                            else
                              none
                          else
                            none
                        else
                          none
                      else
                        none
                    else
                      none
                  else
                    none
                else
                  none
              else
                none
            else
              none
          else
            none
        else
          none
      else
        none
    else
      none := by kernel_rfl
theorem taut5 : ∀ p0 p1 p2 p3 p4 p5 p6 p7 p8 p9 : Bool, ((!(cond (cond (cond (cond (cond (cond (cond (p0) (p1) false) (p2) false) (p3) false) (p4) false) ((p5) && ((p6) && true)) false) ((p7) && ((p8) && true)) false) p9 false) || (cond (cond (cond (cond (cond (cond (cond (p0) (p1) false) (p2) false) (p3) false) (p4) false) ((p5) && ((p6) && true)) false) ((p7) && ((p8) && true)) false) p9 false))) = true := by decide
theorem taut6 : ∀ p0 p1 p2 p3 p4 p5 p6 : Bool, ((!(cond (cond (cond (cond (cond (p0) (p1) false) (p2) false) (p3) false) (p4) false) ((p5) && ((p6) && true)) false) || (cond (cond (cond (cond (cond (p0) (p1) false) (p2) false) (p3) false) (p4) false) ((p5) && ((p6) && true)) false))) = true := by decide
theorem taut7 : ∀ p0 p1 p2 p3 p4 : Bool, ((!(cond (cond (cond (cond (p0) (p1) false) (p2) false) (p3) false) (p4) false) || (cond (cond (cond (cond (p0) (p1) false) (p2) false) (p3) false) (p4) false))) = true := by decide
theorem taut8 : ∀ p0 p1 p2 p3 : Bool, ((!(cond (cond (cond (p0) (p1) false) (p2) false) (p3) false) || (cond (cond (cond (p0) (p1) false) (p2) false) (p3) false))) = true := by decide
theorem taut9 : ∀ p0 p1 p2 : Bool, ((!(cond (cond (p0) (p1) false) (p2) false) || (cond (cond (p0) (p1) false) (p2) false))) = true := by decide
theorem taut10 : ∀ p0 p1 : Bool, ((!(cond (p0) (p1) false) || (cond (p0) (p1) false))) = true := by decide
theorem taut11 : ∀ p0 p1 p2 p3 p4 p5 p6 p7 p8 p9 : Bool, (((!(cond (cond (cond (cond (cond (cond (cond (p0) (p1) false) (p2) false) (p3) false) (p4) false) ((p5) && ((p6) && true)) false) ((p7) && ((p8) && true)) false) p9 false)) || (cond (cond (cond (cond (cond (cond (cond (p0) (p1) false) (p2) false) (p3) false) (p4) false) ((p5) && ((p6) && true)) false) ((p7) && ((p8) && true)) false) p9 false))) = true := by decide
theorem taut12 : ∀ p0 p1 p2 p3 p4 p5 p6 p7 p8 : Bool, (((!(cond (cond (cond (cond (cond (cond (p0) (p1) false) (p2) false) (p3) false) (p4) false) ((p5) && ((p6) && true)) false) ((p7) && ((p8) && true)) false)) || (cond (cond (cond (cond (cond (cond (p0) (p1) false) (p2) false) (p3) false) (p4) false) ((p5) && ((p6) && true)) false) ((p7) && ((p8) && true)) false))) = true := by decide
theorem taut13 : ∀ p0 p1 p2 p3 p4 p5 p6 : Bool, (((!(cond (cond (cond (cond (cond (p0) (p1) false) (p2) false) (p3) false) (p4) false) ((p5) && ((p6) && true)) false)) || (cond (cond (cond (cond (cond (p0) (p1) false) (p2) false) (p3) false) (p4) false) ((p5) && ((p6) && true)) false))) = true := by decide
theorem taut14 : ∀ p0 p1 p2 p3 p4 : Bool, (((!(cond (cond (cond (cond (p0) (p1) false) (p2) false) (p3) false) (p4) false)) || (cond (cond (cond (cond (p0) (p1) false) (p2) false) (p3) false) (p4) false))) = true := by decide
theorem taut15 : ∀ p0 p1 p2 p3 : Bool, (((!(cond (cond (cond (p0) (p1) false) (p2) false) (p3) false)) || (cond (cond (cond (p0) (p1) false) (p2) false) (p3) false))) = true := by decide
theorem taut16 : ∀ p0 p1 p2 : Bool, (((!(cond (cond (p0) (p1) false) (p2) false)) || (cond (cond (p0) (p1) false) (p2) false))) = true := by decide
theorem taut17 : ∀ p0 p1 : Bool, (((!(cond (p0) (p1) false)) || (cond (p0) (p1) false))) = true := by decide
theorem F14.clean (N : Nat) : F14.fn N () =
    (F63.fn N ()).bind fun r1 =>
    (F15.fn N (r1.1.1, r1.1.2)).bind fun r2 =>
    (F16.fn N (r2.1.1, r2.1.2)).bind fun r3 =>
    (F19.fn N ((r1.2.1, r1.2.2), (r2.2.1.1, r2.2.1.2))).bind fun r4 =>
    (F21.fn N ((r2.1.1, r2.1.2), (r4.1.1, r4.1.2))).bind fun r5 =>
    (F19.fn N ((r2.1.1, r2.1.2), (r4.2.1.1, r4.2.1.2))).bind fun r6 =>
    bif !(cond (cond (cond (cond (cond (cond (cond (cond (r2.2.2 == 0) (r3.2 == 0) false) (r4.2.2.2 == 0) false) (r5.2 == 0) false) (r6.2.2.2 == 0) false) ((r2.2.1.1 == false) && ((r2.2.1.2 == 1) && true)) false) ((r3.1.1 == r2.2.1.1) && ((r3.1.2 == r2.2.1.2) && true)) false) r4.2.2.1 false) (!r6.2.2.1) false) || (cond (cond (cond (cond (cond (cond (cond (cond (r2.2.2 == 0) (r3.2 == 0) false) (r4.2.2.2 == 0) false) (r5.2 == 0) false) (r6.2.2.2 == 0) false) ((r2.2.1.1 == false) && ((r2.2.1.2 == 1) && true)) false) ((r3.1.1 == r2.2.1.1) && ((r3.1.2 == r2.2.1.2) && true)) false) r4.2.2.1 false) (!r6.2.2.1) false) then
      bif !(cond (cond (cond (cond (cond (cond (cond (cond (r2.2.2 == 0) (r3.2 == 0) false) (r4.2.2.2 == 0) false) (r5.2 == 0) false) (r6.2.2.2 == 0) false) ((r2.2.1.1 == false) && ((r2.2.1.2 == 1) && true)) false) ((r3.1.1 == r2.2.1.1) && ((r3.1.2 == r2.2.1.2) && true)) false) r4.2.2.1 false) (!r6.2.2.1) false) || (cond (cond (cond (cond (cond (cond (cond (cond (r2.2.2 == 0) (r3.2 == 0) false) (r4.2.2.2 == 0) false) (r5.2 == 0) false) (r6.2.2.2 == 0) false) ((r2.2.1.1 == false) && ((r2.2.1.2 == 1) && true)) false) ((r3.1.1 == r2.2.1.1) && ((r3.1.2 == r2.2.1.2) && true)) false) r4.2.2.1 false) (!r6.2.2.1) false) then
        bif (!(cond (cond (cond (cond (cond (cond (cond (cond (r2.2.2 == 0) (r3.2 == 0) false) (r4.2.2.2 == 0) false) (r5.2 == 0) false) (r6.2.2.2 == 0) false) ((r2.2.1.1 == false) && ((r2.2.1.2 == 1) && true)) false) ((r3.1.1 == r2.2.1.1) && ((r3.1.2 == r2.2.1.2) && true)) false) r4.2.2.1 false) (!r6.2.2.1) false)) || (cond (cond (cond (cond (cond (cond (cond (cond (r2.2.2 == 0) (r3.2 == 0) false) (r4.2.2.2 == 0) false) (r5.2 == 0) false) (r6.2.2.2 == 0) false) ((r2.2.1.1 == false) && ((r2.2.1.2 == 1) && true)) false) ((r3.1.1 == r2.2.1.1) && ((r3.1.2 == r2.2.1.2) && true)) false) r4.2.2.1 false) (!r6.2.2.1) false) then
          bif !(cond (cond (cond (cond (cond (cond (cond (cond (cond (r2.2.2 == 0) (r3.2 == 0) false) (r4.2.2.2 == 0) false) (r5.2 == 0) false) (r6.2.2.2 == 0) false) ((r2.2.1.1 == false) && ((r2.2.1.2 == 1) && true)) false) ((r3.1.1 == r2.2.1.1) && ((r3.1.2 == r2.2.1.2) && true)) false) r4.2.2.1 false) (!r6.2.2.1) false) ((r4.1.1 == 1) && ((r4.1.2 == 1) && true)) false) || (cond (cond (cond (cond (cond (cond (cond (cond (cond (r2.2.2 == 0) (r3.2 == 0) false) (r4.2.2.2 == 0) false) (r5.2 == 0) false) (r6.2.2.2 == 0) false) ((r2.2.1.1 == false) && ((r2.2.1.2 == 1) && true)) false) ((r3.1.1 == r2.2.1.1) && ((r3.1.2 == r2.2.1.2) && true)) false) r4.2.2.1 false) (!r6.2.2.1) false) ((r4.1.1 == 1) && ((r4.1.2 == 1) && true)) false) then
            bif !(cond (cond (cond (cond (cond (cond (cond (cond (cond (r2.2.2 == 0) (r3.2 == 0) false) (r4.2.2.2 == 0) false) (r5.2 == 0) false) (r6.2.2.2 == 0) false) ((r2.2.1.1 == false) && ((r2.2.1.2 == 1) && true)) false) ((r3.1.1 == r2.2.1.1) && ((r3.1.2 == r2.2.1.2) && true)) false) r4.2.2.1 false) (!r6.2.2.1) false) ((r4.1.1 == 1) && ((r4.1.2 == 1) && true)) false) || (cond (cond (cond (cond (cond (cond (cond (cond (cond (r2.2.2 == 0) (r3.2 == 0) false) (r4.2.2.2 == 0) false) (r5.2 == 0) false) (r6.2.2.2 == 0) false) ((r2.2.1.1 == false) && ((r2.2.1.2 == 1) && true)) false) ((r3.1.1 == r2.2.1.1) && ((r3.1.2 == r2.2.1.2) && true)) false) r4.2.2.1 false) (!r6.2.2.1) false) ((r4.1.1 == 1) && ((r4.1.2 == 1) && true)) false) then
              bif (!(cond (cond (cond (cond (cond (cond (cond (cond (cond (r2.2.2 == 0) (r3.2 == 0) false) (r4.2.2.2 == 0) false) (r5.2 == 0) false) (r6.2.2.2 == 0) false) ((r2.2.1.1 == false) && ((r2.2.1.2 == 1) && true)) false) ((r3.1.1 == r2.2.1.1) && ((r3.1.2 == r2.2.1.2) && true)) false) r4.2.2.1 false) (!r6.2.2.1) false) ((r4.1.1 == 1) && ((r4.1.2 == 1) && true)) false)) || (cond (cond (cond (cond (cond (cond (cond (cond (cond (r2.2.2 == 0) (r3.2 == 0) false) (r4.2.2.2 == 0) false) (r5.2 == 0) false) (r6.2.2.2 == 0) false) ((r2.2.1.1 == false) && ((r2.2.1.2 == 1) && true)) false) ((r3.1.1 == r2.2.1.1) && ((r3.1.2 == r2.2.1.2) && true)) false) r4.2.2.1 false) (!r6.2.2.1) false) ((r4.1.1 == 1) && ((r4.1.2 == 1) && true)) false) then
                bif !(cond (cond (cond (cond (cond (cond (cond (cond (cond (cond (r2.2.2 == 0) (r3.2 == 0) false) (r4.2.2.2 == 0) false) (r5.2 == 0) false) (r6.2.2.2 == 0) false) ((r2.2.1.1 == false) && ((r2.2.1.2 == 1) && true)) false) ((r3.1.1 == r2.2.1.1) && ((r3.1.2 == r2.2.1.2) && true)) false) r4.2.2.1 false) (!r6.2.2.1) false) ((r4.1.1 == 1) && ((r4.1.2 == 1) && true)) false) ((r4.2.1.1 == true) && ((r4.2.1.2 == 1) && true)) false) || (cond (cond (cond (cond (cond (cond (cond (cond (cond (cond (r2.2.2 == 0) (r3.2 == 0) false) (r4.2.2.2 == 0) false) (r5.2 == 0) false) (r6.2.2.2 == 0) false) ((r2.2.1.1 == false) && ((r2.2.1.2 == 1) && true)) false) ((r3.1.1 == r2.2.1.1) && ((r3.1.2 == r2.2.1.2) && true)) false) r4.2.2.1 false) (!r6.2.2.1) false) ((r4.1.1 == 1) && ((r4.1.2 == 1) && true)) false) ((r4.2.1.1 == true) && ((r4.2.1.2 == 1) && true)) false) then
                  bif (!(cond (cond (cond (cond (cond (cond (cond (cond (cond (cond (r2.2.2 == 0) (r3.2 == 0) false) (r4.2.2.2 == 0) false) (r5.2 == 0) false) (r6.2.2.2 == 0) false) ((r2.2.1.1 == false) && ((r2.2.1.2 == 1) && true)) false) ((r3.1.1 == r2.2.1.1) && ((r3.1.2 == r2.2.1.2) && true)) false) r4.2.2.1 false) (!r6.2.2.1) false) ((r4.1.1 == 1) && ((r4.1.2 == 1) && true)) false) ((r4.2.1.1 == true) && ((r4.2.1.2 == 1) && true)) false)) || (cond (cond (cond (cond (cond (cond (cond (cond (cond (cond (r2.2.2 == 0) (r3.2 == 0) false) (r4.2.2.2 == 0) false) (r5.2 == 0) false) (r6.2.2.2 == 0) false) ((r2.2.1.1 == false) && ((r2.2.1.2 == 1) && true)) false) ((r3.1.1 == r2.2.1.1) && ((r3.1.2 == r2.2.1.2) && true)) false) r4.2.2.1 false) (!r6.2.2.1) false) ((r4.1.1 == 1) && ((r4.1.2 == 1) && true)) false) ((r4.2.1.1 == true) && ((r4.2.1.2 == 1) && true)) false) then
                    bif !(cond (cond (cond (cond (cond (cond (cond (cond (cond (cond (cond (r2.2.2 == 0) (r3.2 == 0) false) (r4.2.2.2 == 0) false) (r5.2 == 0) false) (r6.2.2.2 == 0) false) ((r2.2.1.1 == false) && ((r2.2.1.2 == 1) && true)) false) ((r3.1.1 == r2.2.1.1) && ((r3.1.2 == r2.2.1.2) && true)) false) r4.2.2.1 false) (!r6.2.2.1) false) ((r4.1.1 == 1) && ((r4.1.2 == 1) && true)) false) ((r4.2.1.1 == true) && ((r4.2.1.2 == 1) && true)) false) (r5.1 == 1) false) || (cond (cond (cond (cond (cond (cond (cond (cond (cond (cond (cond (r2.2.2 == 0) (r3.2 == 0) false) (r4.2.2.2 == 0) false) (r5.2 == 0) false) (r6.2.2.2 == 0) false) ((r2.2.1.1 == false) && ((r2.2.1.2 == 1) && true)) false) ((r3.1.1 == r2.2.1.1) && ((r3.1.2 == r2.2.1.2) && true)) false) r4.2.2.1 false) (!r6.2.2.1) false) ((r4.1.1 == 1) && ((r4.1.2 == 1) && true)) false) ((r4.2.1.1 == true) && ((r4.2.1.2 == 1) && true)) false) (r5.1 == 1) false) then
                      bif !(cond (cond (cond (cond (cond (cond (cond (cond (cond (cond (cond (r2.2.2 == 0) (r3.2 == 0) false) (r4.2.2.2 == 0) false) (r5.2 == 0) false) (r6.2.2.2 == 0) false) ((r2.2.1.1 == false) && ((r2.2.1.2 == 1) && true)) false) ((r3.1.1 == r2.2.1.1) && ((r3.1.2 == r2.2.1.2) && true)) false) r4.2.2.1 false) (!r6.2.2.1) false) ((r4.1.1 == 1) && ((r4.1.2 == 1) && true)) false) ((r4.2.1.1 == true) && ((r4.2.1.2 == 1) && true)) false) (r5.1 == 1) false) || (cond (cond (cond (cond (cond (cond (cond (cond (cond (cond (cond (r2.2.2 == 0) (r3.2 == 0) false) (r4.2.2.2 == 0) false) (r5.2 == 0) false) (r6.2.2.2 == 0) false) ((r2.2.1.1 == false) && ((r2.2.1.2 == 1) && true)) false) ((r3.1.1 == r2.2.1.1) && ((r3.1.2 == r2.2.1.2) && true)) false) r4.2.2.1 false) (!r6.2.2.1) false) ((r4.1.1 == 1) && ((r4.1.2 == 1) && true)) false) ((r4.2.1.1 == true) && ((r4.2.1.2 == 1) && true)) false) (r5.1 == 1) false) then
                        bif (!(cond (cond (cond (cond (cond (cond (cond (cond (cond (cond (cond (r2.2.2 == 0) (r3.2 == 0) false) (r4.2.2.2 == 0) false) (r5.2 == 0) false) (r6.2.2.2 == 0) false) ((r2.2.1.1 == false) && ((r2.2.1.2 == 1) && true)) false) ((r3.1.1 == r2.2.1.1) && ((r3.1.2 == r2.2.1.2) && true)) false) r4.2.2.1 false) (!r6.2.2.1) false) ((r4.1.1 == 1) && ((r4.1.2 == 1) && true)) false) ((r4.2.1.1 == true) && ((r4.2.1.2 == 1) && true)) false) (r5.1 == 1) false)) || (cond (cond (cond (cond (cond (cond (cond (cond (cond (cond (cond (r2.2.2 == 0) (r3.2 == 0) false) (r4.2.2.2 == 0) false) (r5.2 == 0) false) (r6.2.2.2 == 0) false) ((r2.2.1.1 == false) && ((r2.2.1.2 == 1) && true)) false) ((r3.1.1 == r2.2.1.1) && ((r3.1.2 == r2.2.1.2) && true)) false) r4.2.2.1 false) (!r6.2.2.1) false) ((r4.1.1 == 1) && ((r4.1.2 == 1) && true)) false) ((r4.2.1.1 == true) && ((r4.2.1.2 == 1) && true)) false) (r5.1 == 1) false) then
                          bif !(cond (cond (cond (cond (cond (cond (cond (cond (cond (cond (cond (cond (r2.2.2 == 0) (r3.2 == 0) false) (r4.2.2.2 == 0) false) (r5.2 == 0) false) (r6.2.2.2 == 0) false) ((r2.2.1.1 == false) && ((r2.2.1.2 == 1) && true)) false) ((r3.1.1 == r2.2.1.1) && ((r3.1.2 == r2.2.1.2) && true)) false) r4.2.2.1 false) (!r6.2.2.1) false) ((r4.1.1 == 1) && ((r4.1.2 == 1) && true)) false) ((r4.2.1.1 == true) && ((r4.2.1.2 == 1) && true)) false) (r5.1 == 1) false) ((r6.1.1 == 0) && ((r6.1.2 == 1) && true)) false) || (cond (cond (cond (cond (cond (cond (cond (cond (cond (cond (cond (cond (r2.2.2 == 0) (r3.2 == 0) false) (r4.2.2.2 == 0) false) (r5.2 == 0) false) (r6.2.2.2 == 0) false) ((r2.2.1.1 == false) && ((r2.2.1.2 == 1) && true)) false) ((r3.1.1 == r2.2.1.1) && ((r3.1.2 == r2.2.1.2) && true)) false) r4.2.2.1 false) (!r6.2.2.1) false) ((r4.1.1 == 1) && ((r4.1.2 == 1) && true)) false) ((r4.2.1.1 == true) && ((r4.2.1.2 == 1) && true)) false) (r5.1 == 1) false) ((r6.1.1 == 0) && ((r6.1.2 == 1) && true)) false) then
                            (bif (cond (cond (cond (cond (cond (cond (cond (cond (cond (cond (cond (cond (r2.2.2 == 0) (r3.2 == 0) false) (r4.2.2.2 == 0) false) (r5.2 == 0) false) (r6.2.2.2 == 0) false) ((r2.2.1.1 == false) && ((r2.2.1.2 == 1) && true)) false) ((r3.1.1 == r2.2.1.1) && ((r3.1.2 == r2.2.1.2) && true)) false) r4.2.2.1 false) (!r6.2.2.1) false) ((r4.1.1 == 1) && ((r4.1.2 == 1) && true)) false) ((r4.2.1.1 == true) && ((r4.2.1.2 == 1) && true)) false) (r5.1 == 1) false) ((r6.1.1 == 0) && ((r6.1.2 == 1) && true)) false) then F23.fn N (r4.1.1, r4.1.2) else some (false)).bind fun r7 =>
                            bif (!(cond (cond (cond (cond (cond (cond (cond (cond (cond (cond (cond (cond (r2.2.2 == 0) (r3.2 == 0) false) (r4.2.2.2 == 0) false) (r5.2 == 0) false) (r6.2.2.2 == 0) false) ((r2.2.1.1 == false) && ((r2.2.1.2 == 1) && true)) false) ((r3.1.1 == r2.2.1.1) && ((r3.1.2 == r2.2.1.2) && true)) false) r4.2.2.1 false) (!r6.2.2.1) false) ((r4.1.1 == 1) && ((r4.1.2 == 1) && true)) false) ((r4.2.1.1 == true) && ((r4.2.1.2 == 1) && true)) false) (r5.1 == 1) false) ((r6.1.1 == 0) && ((r6.1.2 == 1) && true)) false)) || (cond (cond (cond (cond (cond (cond (cond (cond (cond (cond (cond (cond (r2.2.2 == 0) (r3.2 == 0) false) (r4.2.2.2 == 0) false) (r5.2 == 0) false) (r6.2.2.2 == 0) false) ((r2.2.1.1 == false) && ((r2.2.1.2 == 1) && true)) false) ((r3.1.1 == r2.2.1.1) && ((r3.1.2 == r2.2.1.2) && true)) false) r4.2.2.1 false) (!r6.2.2.1) false) ((r4.1.1 == 1) && ((r4.1.2 == 1) && true)) false) ((r4.2.1.1 == true) && ((r4.2.1.2 == 1) && true)) false) (r5.1 == 1) false) ((r6.1.1 == 0) && ((r6.1.2 == 1) && true)) false) then
                              bif !(cond (cond (cond (cond (cond (cond (cond (cond (cond (cond (cond (cond (cond (r2.2.2 == 0) (r3.2 == 0) false) (r4.2.2.2 == 0) false) (r5.2 == 0) false) (r6.2.2.2 == 0) false) ((r2.2.1.1 == false) && ((r2.2.1.2 == 1) && true)) false) ((r3.1.1 == r2.2.1.1) && ((r3.1.2 == r2.2.1.2) && true)) false) r4.2.2.1 false) (!r6.2.2.1) false) ((r4.1.1 == 1) && ((r4.1.2 == 1) && true)) false) ((r4.2.1.1 == true) && ((r4.2.1.2 == 1) && true)) false) (r5.1 == 1) false) ((r6.1.1 == 0) && ((r6.1.2 == 1) && true)) false) r7 false) || (cond (cond (cond (cond (cond (cond (cond (cond (cond (cond (cond (cond (cond (r2.2.2 == 0) (r3.2 == 0) false) (r4.2.2.2 == 0) false) (r5.2 == 0) false) (r6.2.2.2 == 0) false) ((r2.2.1.1 == false) && ((r2.2.1.2 == 1) && true)) false) ((r3.1.1 == r2.2.1.1) && ((r3.1.2 == r2.2.1.2) && true)) false) r4.2.2.1 false) (!r6.2.2.1) false) ((r4.1.1 == 1) && ((r4.1.2 == 1) && true)) false) ((r4.2.1.1 == true) && ((r4.2.1.2 == 1) && true)) false) (r5.1 == 1) false) ((r6.1.1 == 0) && ((r6.1.2 == 1) && true)) false) r7 false) then
                                (bif (cond (cond (cond (cond (cond (cond (cond (cond (cond (cond (cond (cond (cond (r2.2.2 == 0) (r3.2 == 0) false) (r4.2.2.2 == 0) false) (r5.2 == 0) false) (r6.2.2.2 == 0) false) ((r2.2.1.1 == false) && ((r2.2.1.2 == 1) && true)) false) ((r3.1.1 == r2.2.1.1) && ((r3.1.2 == r2.2.1.2) && true)) false) r4.2.2.1 false) (!r6.2.2.1) false) ((r4.1.1 == 1) && ((r4.1.2 == 1) && true)) false) ((r4.2.1.1 == true) && ((r4.2.1.2 == 1) && true)) false) (r5.1 == 1) false) ((r6.1.1 == 0) && ((r6.1.2 == 1) && true)) false) r7 false) then F23.fn N (r2.1.1, r2.1.2) else some (false)).bind fun r8 =>
                                bif !(cond (cond (cond (cond (cond (cond (cond (cond (cond (cond (cond (cond (cond (r2.2.2 == 0) (r3.2 == 0) false) (r4.2.2.2 == 0) false) (r5.2 == 0) false) (r6.2.2.2 == 0) false) ((r2.2.1.1 == false) && ((r2.2.1.2 == 1) && true)) false) ((r3.1.1 == r2.2.1.1) && ((r3.1.2 == r2.2.1.2) && true)) false) r4.2.2.1 false) (!r6.2.2.1) false) ((r4.1.1 == 1) && ((r4.1.2 == 1) && true)) false) ((r4.2.1.1 == true) && ((r4.2.1.2 == 1) && true)) false) (r5.1 == 1) false) ((r6.1.1 == 0) && ((r6.1.2 == 1) && true)) false) r7 false) || (cond (cond (cond (cond (cond (cond (cond (cond (cond (cond (cond (cond (cond (r2.2.2 == 0) (r3.2 == 0) false) (r4.2.2.2 == 0) false) (r5.2 == 0) false) (r6.2.2.2 == 0) false) ((r2.2.1.1 == false) && ((r2.2.1.2 == 1) && true)) false) ((r3.1.1 == r2.2.1.1) && ((r3.1.2 == r2.2.1.2) && true)) false) r4.2.2.1 false) (!r6.2.2.1) false) ((r4.1.1 == 1) && ((r4.1.2 == 1) && true)) false) ((r4.2.1.1 == true) && ((r4.2.1.2 == 1) && true)) false) (r5.1 == 1) false) ((r6.1.1 == 0) && ((r6.1.2 == 1) && true)) false) r7 false) then
                                  bif (!(cond (cond (cond (cond (cond (cond (cond (cond (cond (cond (cond (cond (cond (r2.2.2 == 0) (r3.2 == 0) false) (r4.2.2.2 == 0) false) (r5.2 == 0) false) (r6.2.2.2 == 0) false) ((r2.2.1.1 == false) && ((r2.2.1.2 == 1) && true)) false) ((r3.1.1 == r2.2.1.1) && ((r3.1.2 == r2.2.1.2) && true)) false) r4.2.2.1 false) (!r6.2.2.1) false) ((r4.1.1 == 1) && ((r4.1.2 == 1) && true)) false) ((r4.2.1.1 == true) && ((r4.2.1.2 == 1) && true)) false) (r5.1 == 1) false) ((r6.1.1 == 0) && ((r6.1.2 == 1) && true)) false) r7 false)) || (cond (cond (cond (cond (cond (cond (cond (cond (cond (cond (cond (cond (cond (r2.2.2 == 0) (r3.2 == 0) false) (r4.2.2.2 == 0) false) (r5.2 == 0) false) (r6.2.2.2 == 0) false) ((r2.2.1.1 == false) && ((r2.2.1.2 == 1) && true)) false) ((r3.1.1 == r2.2.1.1) && ((r3.1.2 == r2.2.1.2) && true)) false) r4.2.2.1 false) (!r6.2.2.1) false) ((r4.1.1 == 1) && ((r4.1.2 == 1) && true)) false) ((r4.2.1.1 == true) && ((r4.2.1.2 == 1) && true)) false) (r5.1 == 1) false) ((r6.1.1 == 0) && ((r6.1.2 == 1) && true)) false) r7 false) then
                                    bif !(cond (cond (cond (cond (cond (cond (cond (cond (cond (cond (cond (cond (cond (cond (r2.2.2 == 0) (r3.2 == 0) false) (r4.2.2.2 == 0) false) (r5.2 == 0) false) (r6.2.2.2 == 0) false) ((r2.2.1.1 == false) && ((r2.2.1.2 == 1) && true)) false) ((r3.1.1 == r2.2.1.1) && ((r3.1.2 == r2.2.1.2) && true)) false) r4.2.2.1 false) (!r6.2.2.1) false) ((r4.1.1 == 1) && ((r4.1.2 == 1) && true)) false) ((r4.2.1.1 == true) && ((r4.2.1.2 == 1) && true)) false) (r5.1 == 1) false) ((r6.1.1 == 0) && ((r6.1.2 == 1) && true)) false) r7 false) (!r8) false) || (cond (cond (cond (cond (cond (cond (cond (cond (cond (cond (cond (cond (cond (cond (r2.2.2 == 0) (r3.2 == 0) false) (r4.2.2.2 == 0) false) (r5.2 == 0) false) (r6.2.2.2 == 0) false) ((r2.2.1.1 == false) && ((r2.2.1.2 == 1) && true)) false) ((r3.1.1 == r2.2.1.1) && ((r3.1.2 == r2.2.1.2) && true)) false) r4.2.2.1 false) (!r6.2.2.1) false) ((r4.1.1 == 1) && ((r4.1.2 == 1) && true)) false) ((r4.2.1.1 == true) && ((r4.2.1.2 == 1) && true)) false) (r5.1 == 1) false) ((r6.1.1 == 0) && ((r6.1.2 == 1) && true)) false) r7 false) (!r8) false) then
                                      (bif (cond (cond (cond (cond (cond (cond (cond (cond (cond (cond (cond (cond (cond (cond (r2.2.2 == 0) (r3.2 == 0) false) (r4.2.2.2 == 0) false) (r5.2 == 0) false) (r6.2.2.2 == 0) false) ((r2.2.1.1 == false) && ((r2.2.1.2 == 1) && true)) false) ((r3.1.1 == r2.2.1.1) && ((r3.1.2 == r2.2.1.2) && true)) false) r4.2.2.1 false) (!r6.2.2.1) false) ((r4.1.1 == 1) && ((r4.1.2 == 1) && true)) false) ((r4.2.1.1 == true) && ((r4.2.1.2 == 1) && true)) false) (r5.1 == 1) false) ((r6.1.1 == 0) && ((r6.1.2 == 1) && true)) false) r7 false) (!r8) false) then F18.fn N (3, 0) else some (0)).bind fun r9 =>
                                      bif !(cond (cond (cond (cond (cond (cond (cond (cond (cond (cond (cond (cond (cond (cond (r2.2.2 == 0) (r3.2 == 0) false) (r4.2.2.2 == 0) false) (r5.2 == 0) false) (r6.2.2.2 == 0) false) ((r2.2.1.1 == false) && ((r2.2.1.2 == 1) && true)) false) ((r3.1.1 == r2.2.1.1) && ((r3.1.2 == r2.2.1.2) && true)) false) r4.2.2.1 false) (!r6.2.2.1) false) ((r4.1.1 == 1) && ((r4.1.2 == 1) && true)) false) ((r4.2.1.1 == true) && ((r4.2.1.2 == 1) && true)) false) (r5.1 == 1) false) ((r6.1.1 == 0) && ((r6.1.2 == 1) && true)) false) r7 false) (!r8) false) || (cond (cond (cond (cond (cond (cond (cond (cond (cond (cond (cond (cond (cond (cond (r2.2.2 == 0) (r3.2 == 0) false) (r4.2.2.2 == 0) false) (r5.2 == 0) false) (r6.2.2.2 == 0) false) ((r2.2.1.1 == false) && ((r2.2.1.2 == 1) && true)) false) ((r3.1.1 == r2.2.1.1) && ((r3.1.2 == r2.2.1.2) && true)) false) r4.2.2.1 false) (!r6.2.2.1) false) ((r4.1.1 == 1) && ((r4.1.2 == 1) && true)) false) ((r4.2.1.1 == true) && ((r4.2.1.2 == 1) && true)) false) (r5.1 == 1) false) ((r6.1.1 == 0) && ((r6.1.2 == 1) && true)) false) r7 false) (!r8) false) then
                                        bif (!(cond (cond (cond (cond (cond (cond (cond (cond (cond (cond (cond (cond (cond (cond (r2.2.2 == 0) (r3.2 == 0) false) (r4.2.2.2 == 0) false) (r5.2 == 0) false) (r6.2.2.2 == 0) false) ((r2.2.1.1 == false) && ((r2.2.1.2 == 1) && true)) false) ((r3.1.1 == r2.2.1.1) && ((r3.1.2 == r2.2.1.2) && true)) false) r4.2.2.1 false) (!r6.2.2.1) false) ((r4.1.1 == 1) && ((r4.1.2 == 1) && true)) false) ((r4.2.1.1 == true) && ((r4.2.1.2 == 1) && true)) false) (r5.1 == 1) false) ((r6.1.1 == 0) && ((r6.1.2 == 1) && true)) false) r7 false) (!r8) false)) || (cond (cond (cond (cond (cond (cond (cond (cond (cond (cond (cond (cond (cond (cond (r2.2.2 == 0) (r3.2 == 0) false) (r4.2.2.2 == 0) false) (r5.2 == 0) false) (r6.2.2.2 == 0) false) ((r2.2.1.1 == false) && ((r2.2.1.2 == 1) && true)) false) ((r3.1.1 == r2.2.1.1) && ((r3.1.2 == r2.2.1.2) && true)) false) r4.2.2.1 false) (!r6.2.2.1) false) ((r4.1.1 == 1) && ((r4.1.2 == 1) && true)) false) ((r4.2.1.1 == true) && ((r4.2.1.2 == 1) && true)) false) (r5.1 == 1) false) ((r6.1.1 == 0) && ((r6.1.2 == 1) && true)) false) r7 false) (!r8) false) then
                                          some (cond (cond (cond (cond (cond (cond (cond (cond (cond (cond (cond (cond (cond (cond (cond (r2.2.2 == 0) (r3.2 == 0) false) (r4.2.2.2 == 0) false) (r5.2 == 0) false) (r6.2.2.2 == 0) false) ((r2.2.1.1 == false) && ((r2.2.1.2 == 1) && true)) false) ((r3.1.1 == r2.2.1.1) && ((r3.1.2 == r2.2.1.2) && true)) false) r4.2.2.1 false) (!r6.2.2.1) false) ((r4.1.1 == 1) && ((r4.1.2 == 1) && true)) false) ((r4.2.1.1 == true) && ((r4.2.1.2 == 1) && true)) false) (r5.1 == 1) false) ((r6.1.1 == 0) && ((r6.1.2 == 1) && true)) false) r7 false) (!r8) false) (r9 == 1) false)
                                        else
                                          none
                                      else
                                        none
                                    else
                                      none
                                  else
                                    none
                                else
                                  none
                              else
                                none
                            else
                              none
                          else
                            none
                        else
                          none
                      else
                        none
                    else
                      none
                  else
                    none
                else
                  none
              else
                none
            else
              none
          else
            none
        else
          none
      else
        none
    else
      none := by
  rw [F14.eq]; simp only [taut5, taut6, taut7, taut8, taut9, taut10, taut3, taut11, taut12, taut13, taut14, taut15, taut16, taut17, taut4, cond_true]

/-! ### F17: skyway/skywaylaw3.sideError -/
noncomputable def F17.G (N : Nat) : List (Nat × Spec) := []
def F17.kp : List (Nat × List (Nat × Option (TypeId × Ty))) := []
noncomputable def F17.E (N : Nat) : Env := mkEnv (F17.G N) N tyTab F17.kp
noncomputable def F17.fn (N : Nat) (x : Int × Int) : Option Int := evFn (F17.E N) Try.prog 3 Try.f17 false [.agg (.pair (.int .i64) (.int .i64))] [.val (.cell (.int .i64))] x
noncomputable def F17.S (N : Nat) : PSpec := ⟨false, [.agg (.pair (.int .i64) (.int .i64))], [.val (.cell (.int .i64))], F17.fn N⟩
theorem f17_enters : Enters Try.prog 17 := ⟨Try.f17, Try.func17, by kernel_rfl, by kernel_rfl⟩
theorem F17.tab (N : Nat) : TabOk Try.prog (F17.G N) := trivial
theorem F17.enters : Enters Try.prog 17 := f17_enters
theorem F17.sound (N : Nat) : Sound Try.prog 17 (F17.S N) := evFn_sound (specs_tab (F17.tab N)) (inls_tab (F17.tab N)) mixed 3 Try.func17 _ _ _
theorem F17.eq (N : Nat) (x0 : Int × Int) : F17.fn N x0 =
    bif !(!(decide (x0.1 < 0))) || (!(decide (x0.1 < 0))) then
      bif !(!(decide (x0.1 < 0))) || (!(decide (x0.1 < 0))) then
        bif (decide (x0.1 < 0)) || (!(decide (x0.1 < 0))) then
          bif cond (decide (x0.1 < 0)) true (decide (x0.1 > 2)) then
            some 1
          else
          bif !(!(decide (x0.2 < 0))) || (!(decide (x0.2 < 0))) then
            bif !(!(decide (x0.2 < 0))) || (!(decide (x0.2 < 0))) then
              bif (decide (x0.2 < 0)) || (!(decide (x0.2 < 0))) then
                bif cond (decide (x0.2 < 0)) true (decide (x0.2 > 2000)) then
                  some 4
                else
                  some 0
              else
                none
            else
              none
          else
            none
        else
          none
      else
        none
    else
      none := by kernel_rfl
theorem F17.clean (N : Nat) (x0 : Int × Int) : F17.fn N x0 =
    bif cond (decide (x0.1 < 0)) true (decide (x0.1 > 2)) then
      some 1
    else
    bif cond (decide (x0.2 < 0)) true (decide (x0.2 > 2000)) then
      some 4
    else
      some 0 := by
  rw [F17.eq]; simp only [taut1, taut2, cond_true]

/-! ### F3: skyway/skywaylaw3.HandoverGives -/
noncomputable def F3.G (N : Nat) : List (Nat × Spec) := [(14, .pure (F14.S N)), (15, .pure (F15.S N)), (16, .pure (F16.S N)), (17, .pure (F17.S N)), (18, .pure (F18.S N))]
def F3.kp : List (Nat × List (Nat × Option (TypeId × Ty))) := []
noncomputable def F3.E (N : Nat) : Env := mkEnv (F3.G N) N tyTab F3.kp
noncomputable def F3.fn (N : Nat) (x : Int × Int) : Option Bool := evFn (F3.E N) Try.prog 3 Try.f3 false [.agg (.pair (.int .i64) (.int .i64))] [.val (.cell (.bool))] x
noncomputable def F3.S (N : Nat) : PSpec := ⟨false, [.agg (.pair (.int .i64) (.int .i64))], [.val (.cell (.bool))], F3.fn N⟩
theorem f3_enters : Enters Try.prog 3 := ⟨Try.f3, Try.func3, by kernel_rfl, by kernel_rfl⟩
theorem F3.tab (N : Nat) : TabOk Try.prog (F3.G N) := ⟨⟨F14.enters, F14.sound N⟩, ⟨F15.enters, F15.sound N⟩, ⟨F16.enters, F16.sound N⟩, ⟨F17.enters, F17.sound N⟩, ⟨F18.enters, F18.sound N⟩, trivial⟩
theorem F3.enters : Enters Try.prog 3 := f3_enters
theorem F3.sound (N : Nat) : Sound Try.prog 3 (F3.S N) := evFn_sound (specs_tab (F3.tab N)) (inls_tab (F3.tab N)) mixed 3 Try.func3 _ _ _
theorem F3.eq (N : Nat) (x0 : Int × Int) : F3.fn N x0 =
    (F14.fn N ()).bind fun r1 =>
    bif !r1 then
      some false
    else
      (F15.fn N (x0.1, x0.2)).bind fun r2 =>
      (F16.fn N (x0.1, x0.2)).bind fun r3 =>
      (F17.fn N (x0.1, x0.2)).bind fun r4 =>
      (F18.fn N (x0.1, x0.2)).bind fun r5 =>
      bif !(r5 == r4) then
        some false
      else
      bif !(r4 == 0) || (r4 == 0) then
        bif !(r4 == 0) || (r4 == 0) then
          bif (!(r4 == 0)) || (r4 == 0) then
            bif cond (r4 == 0) (!(x0.1 == 2)) false then
              bif !(r4 == 0) || (r4 == 0) then
                bif !(r4 == 0) || (r4 == 0) then
                  bif (!(r4 == 0)) || (r4 == 0) then
                    bif cond (r4 == 0) (!(x0.1 == 1)) false then
                      bif !(r2.2.2 == 11) || (r2.2.2 == 11) then
                        bif !(r2.2.2 == 11) || (r2.2.2 == 11) then
                          bif (!(r2.2.2 == 11)) || (r2.2.2 == 11) then
                            bif !(cond (r2.2.2 == 11) ((r2.1.1 == 0) && ((r2.1.2 == 0) && true)) false) || (cond (r2.2.2 == 11) ((r2.1.1 == 0) && ((r2.1.2 == 0) && true)) false) then
                              bif !(cond (r2.2.2 == 11) ((r2.1.1 == 0) && ((r2.1.2 == 0) && true)) false) || (cond (r2.2.2 == 11) ((r2.1.1 == 0) && ((r2.1.2 == 0) && true)) false) then
                                bif (!(cond (r2.2.2 == 11) ((r2.1.1 == 0) && ((r2.1.2 == 0) && true)) false)) || (cond (r2.2.2 == 11) ((r2.1.1 == 0) && ((r2.1.2 == 0) && true)) false) then
                                  bif !(cond (cond (r2.2.2 == 11) ((r2.1.1 == 0) && ((r2.1.2 == 0) && true)) false) ((r2.2.1.1 == false) && ((r2.2.1.2 == 0) && true)) false) || (cond (cond (r2.2.2 == 11) ((r2.1.1 == 0) && ((r2.1.2 == 0) && true)) false) ((r2.2.1.1 == false) && ((r2.2.1.2 == 0) && true)) false) then
                                    bif !(cond (cond (r2.2.2 == 11) ((r2.1.1 == 0) && ((r2.1.2 == 0) && true)) false) ((r2.2.1.1 == false) && ((r2.2.1.2 == 0) && true)) false) || (cond (cond (r2.2.2 == 11) ((r2.1.1 == 0) && ((r2.1.2 == 0) && true)) false) ((r2.2.1.1 == false) && ((r2.2.1.2 == 0) && true)) false) then
                                      bif (!(cond (cond (r2.2.2 == 11) ((r2.1.1 == 0) && ((r2.1.2 == 0) && true)) false) ((r2.2.1.1 == false) && ((r2.2.1.2 == 0) && true)) false)) || (cond (cond (r2.2.2 == 11) ((r2.1.1 == 0) && ((r2.1.2 == 0) && true)) false) ((r2.2.1.1 == false) && ((r2.2.1.2 == 0) && true)) false) then
                                        bif !(cond (cond (cond (r2.2.2 == 11) ((r2.1.1 == 0) && ((r2.1.2 == 0) && true)) false) ((r2.2.1.1 == false) && ((r2.2.1.2 == 0) && true)) false) (r3.2 == 11) false) || (cond (cond (cond (r2.2.2 == 11) ((r2.1.1 == 0) && ((r2.1.2 == 0) && true)) false) ((r2.2.1.1 == false) && ((r2.2.1.2 == 0) && true)) false) (r3.2 == 11) false) then
                                          bif !(cond (cond (cond (r2.2.2 == 11) ((r2.1.1 == 0) && ((r2.1.2 == 0) && true)) false) ((r2.2.1.1 == false) && ((r2.2.1.2 == 0) && true)) false) (r3.2 == 11) false) || (cond (cond (cond (r2.2.2 == 11) ((r2.1.1 == 0) && ((r2.1.2 == 0) && true)) false) ((r2.2.1.1 == false) && ((r2.2.1.2 == 0) && true)) false) (r3.2 == 11) false) then
                                            bif !((cond (cond (cond (r2.2.2 == 11) ((r2.1.1 == 0) && ((r2.1.2 == 0) && true)) false) ((r2.2.1.1 == false) && ((r2.2.1.2 == 0) && true)) false) (r3.2 == 11) false) && true) || ((cond (cond (cond (r2.2.2 == 11) ((r2.1.1 == 0) && ((r2.1.2 == 0) && true)) false) ((r2.2.1.1 == false) && ((r2.2.1.2 == 0) && true)) false) (r3.2 == 11) false) && true) then
                                              bif !((cond (cond (cond (r2.2.2 == 11) ((r2.1.1 == 0) && ((r2.1.2 == 0) && true)) false) ((r2.2.1.1 == false) && ((r2.2.1.2 == 0) && true)) false) (r3.2 == 11) false) && true) || ((cond (cond (cond (r2.2.2 == 11) ((r2.1.1 == 0) && ((r2.1.2 == 0) && true)) false) ((r2.2.1.1 == false) && ((r2.2.1.2 == 0) && true)) false) (r3.2 == 11) false) && true) then
                                                bif !(cond (cond (cond (r2.2.2 == 11) ((r2.1.1 == 0) && ((r2.1.2 == 0) && true)) false) ((r2.2.1.1 == false) && ((r2.2.1.2 == 0) && true)) false) (r3.2 == 11) false) || (cond (cond (cond (r2.2.2 == 11) ((r2.1.1 == 0) && ((r2.1.2 == 0) && true)) false) ((r2.2.1.1 == false) && ((r2.2.1.2 == 0) && true)) false) (r3.2 == 11) false) then
                                                  bif !(cond (cond (cond (r2.2.2 == 11) ((r2.1.1 == 0) && ((r2.1.2 == 0) && true)) false) ((r2.2.1.1 == false) && ((r2.2.1.2 == 0) && true)) false) (r3.2 == 11) false) || ((cond (cond (cond (r2.2.2 == 11) ((r2.1.1 == 0) && ((r2.1.2 == 0) && true)) false) ((r2.2.1.1 == false) && ((r2.2.1.2 == 0) && true)) false) (r3.2 == 11) false) && true) then
                                                    bif !(cond (cond (cond (r2.2.2 == 11) ((r2.1.1 == 0) && ((r2.1.2 == 0) && true)) false) ((r2.2.1.1 == false) && ((r2.2.1.2 == 0) && true)) false) (r3.2 == 11) false) || (cond (cond (cond (r2.2.2 == 11) ((r2.1.1 == 0) && ((r2.1.2 == 0) && true)) false) ((r2.2.1.1 == false) && ((r2.2.1.2 == 0) && true)) false) (r3.2 == 11) false) then
                                                      bif !((cond (cond (cond (r2.2.2 == 11) ((r2.1.1 == 0) && ((r2.1.2 == 0) && true)) false) ((r2.2.1.1 == false) && ((r2.2.1.2 == 0) && true)) false) (r3.2 == 11) false) && (!((r3.1.1 == false) && ((r3.1.2 == 0) && true)))) || ((cond (cond (cond (r2.2.2 == 11) ((r2.1.1 == 0) && ((r2.1.2 == 0) && true)) false) ((r2.2.1.1 == false) && ((r2.2.1.2 == 0) && true)) false) (r3.2 == 11) false) && (!((r3.1.1 == false) && ((r3.1.2 == 0) && true)))) then
                                                        bif !((cond (cond (cond (r2.2.2 == 11) ((r2.1.1 == 0) && ((r2.1.2 == 0) && true)) false) ((r2.2.1.1 == false) && ((r2.2.1.2 == 0) && true)) false) (r3.2 == 11) false) && (!((r3.1.1 == false) && ((r3.1.2 == 0) && true)))) || ((cond (cond (cond (r2.2.2 == 11) ((r2.1.1 == 0) && ((r2.1.2 == 0) && true)) false) ((r2.2.1.1 == false) && ((r2.2.1.2 == 0) && true)) false) (r3.2 == 11) false) && (!((r3.1.1 == false) && ((r3.1.2 == 0) && true)))) then
                                                          bif !(((cond (cond (cond (r2.2.2 == 11) ((r2.1.1 == 0) && ((r2.1.2 == 0) && true)) false) ((r2.2.1.1 == false) && ((r2.2.1.2 == 0) && true)) false) (r3.2 == 11) false) && (!((r3.1.1 == false) && ((r3.1.2 == 0) && true)))) && false) || (((cond (cond (cond (r2.2.2 == 11) ((r2.1.1 == 0) && ((r2.1.2 == 0) && true)) false) ((r2.2.1.1 == false) && ((r2.2.1.2 == 0) && true)) false) (r3.2 == 11) false) && (!((r3.1.1 == false) && ((r3.1.2 == 0) && true)))) && false) then
                                                            bif !(((cond (cond (cond (r2.2.2 == 11) ((r2.1.1 == 0) && ((r2.1.2 == 0) && true)) false) ((r2.2.1.1 == false) && ((r2.2.1.2 == 0) && true)) false) (r3.2 == 11) false) && (!((r3.1.1 == false) && ((r3.1.2 == 0) && true)))) && false) || (((cond (cond (cond (r2.2.2 == 11) ((r2.1.1 == 0) && ((r2.1.2 == 0) && true)) false) ((r2.2.1.1 == false) && ((r2.2.1.2 == 0) && true)) false) (r3.2 == 11) false) && (!((r3.1.1 == false) && ((r3.1.2 == 0) && true)))) && false) then
                                                              bif !((cond (cond (cond (r2.2.2 == 11) ((r2.1.1 == 0) && ((r2.1.2 == 0) && true)) false) ((r2.2.1.1 == false) && ((r2.2.1.2 == 0) && true)) false) (r3.2 == 11) false) && (!((r3.1.1 == false) && ((r3.1.2 == 0) && true)))) || ((cond (cond (cond (r2.2.2 == 11) ((r2.1.1 == 0) && ((r2.1.2 == 0) && true)) false) ((r2.2.1.1 == false) && ((r2.2.1.2 == 0) && true)) false) (r3.2 == 11) false) && (!((r3.1.1 == false) && ((r3.1.2 == 0) && true)))) then
                                                                bif !((cond (cond (cond (r2.2.2 == 11) ((r2.1.1 == 0) && ((r2.1.2 == 0) && true)) false) ((r2.2.1.1 == false) && ((r2.2.1.2 == 0) && true)) false) (r3.2 == 11) false) && (!((r3.1.1 == false) && ((r3.1.2 == 0) && true)))) || true then
                                                                  bif !(cond (cond (cond (r2.2.2 == 11) ((r2.1.1 == 0) && ((r2.1.2 == 0) && true)) false) ((r2.2.1.1 == false) && ((r2.2.1.2 == 0) && true)) false) (r3.2 == 11) false) || (cond (cond (cond (r2.2.2 == 11) ((r2.1.1 == 0) && ((r2.1.2 == 0) && true)) false) ((r2.2.1.1 == false) && ((r2.2.1.2 == 0) && true)) false) (r3.2 == 11) false) then
                                                                    bif !(cond (cond (cond (r2.2.2 == 11) ((r2.1.1 == 0) && ((r2.1.2 == 0) && true)) false) ((r2.2.1.1 == false) && ((r2.2.1.2 == 0) && true)) false) (r3.2 == 11) false) || (((r3.1.1 == false) && ((r3.1.2 == 0) && true)) || ((cond (cond (cond (r2.2.2 == 11) ((r2.1.1 == 0) && ((r2.1.2 == 0) && true)) false) ((r2.2.1.1 == false) && ((r2.2.1.2 == 0) && true)) false) (r3.2 == 11) false) && (!((r3.1.1 == false) && ((r3.1.2 == 0) && true))))) then
                                                                      bif (!(cond (cond (cond (r2.2.2 == 11) ((r2.1.1 == 0) && ((r2.1.2 == 0) && true)) false) ((r2.2.1.1 == false) && ((r2.2.1.2 == 0) && true)) false) (r3.2 == 11) false)) || (cond (cond (cond (r2.2.2 == 11) ((r2.1.1 == 0) && ((r2.1.2 == 0) && true)) false) ((r2.2.1.1 == false) && ((r2.2.1.2 == 0) && true)) false) (r3.2 == 11) false) then
                                                                        some (cond (cond (cond (cond (r2.2.2 == 11) ((r2.1.1 == 0) && ((r2.1.2 == 0) && true)) false) ((r2.2.1.1 == false) && ((r2.2.1.2 == 0) && true)) false) (r3.2 == 11) false) (cond ((r3.1.1 == false) && ((r3.1.2 == 0) && true)) true false) false)
                                                                      else
                                                                        none
                                                                    else
                                                                      none
                                                                  else
                                                                    none
                                                                else
                                                                  none
                                                              else
                                                                none
                                                            else
                                                              none
                                                          else
                                                            none
                                                        else
                                                          none
                                                      else
                                                        none
                                                    else
                                                      none
                                                  else
                                                    none
                                                else
                                                  none
                                              else
                                                none
                                            else
                                              none
                                          else
                                            none
                                        else
                                          none
                                      else
                                        none
                                    else
                                      none
                                  else
                                    none
                                else
                                  none
                              else
                                none
                            else
                              none
                          else
                            none
                        else
                          none
                      else
                        none
                    else
                    bif !(r4 == 0) || (r4 == 0) then
                      bif !(r4 == 0) || (r4 == 0) then
                        bif (!(r4 == 0)) || (r4 == 0) then
                          bif cond (r4 == 0) (x0.2 == 2000) false then
                            bif !(r2.2.2 == 2) || (r2.2.2 == 2) then
                              bif !(r2.2.2 == 2) || (r2.2.2 == 2) then
                                bif (!(r2.2.2 == 2)) || (r2.2.2 == 2) then
                                  bif !(cond (r2.2.2 == 2) ((r2.1.1 == 0) && ((r2.1.2 == 0) && true)) false) || (cond (r2.2.2 == 2) ((r2.1.1 == 0) && ((r2.1.2 == 0) && true)) false) then
                                    bif !(cond (r2.2.2 == 2) ((r2.1.1 == 0) && ((r2.1.2 == 0) && true)) false) || (cond (r2.2.2 == 2) ((r2.1.1 == 0) && ((r2.1.2 == 0) && true)) false) then
                                      bif (!(cond (r2.2.2 == 2) ((r2.1.1 == 0) && ((r2.1.2 == 0) && true)) false)) || (cond (r2.2.2 == 2) ((r2.1.1 == 0) && ((r2.1.2 == 0) && true)) false) then
                                        bif !(cond (cond (r2.2.2 == 2) ((r2.1.1 == 0) && ((r2.1.2 == 0) && true)) false) ((r2.2.1.1 == false) && ((r2.2.1.2 == 0) && true)) false) || (cond (cond (r2.2.2 == 2) ((r2.1.1 == 0) && ((r2.1.2 == 0) && true)) false) ((r2.2.1.1 == false) && ((r2.2.1.2 == 0) && true)) false) then
                                          bif !(cond (cond (r2.2.2 == 2) ((r2.1.1 == 0) && ((r2.1.2 == 0) && true)) false) ((r2.2.1.1 == false) && ((r2.2.1.2 == 0) && true)) false) || (cond (cond (r2.2.2 == 2) ((r2.1.1 == 0) && ((r2.1.2 == 0) && true)) false) ((r2.2.1.1 == false) && ((r2.2.1.2 == 0) && true)) false) then
                                            bif (!(cond (cond (r2.2.2 == 2) ((r2.1.1 == 0) && ((r2.1.2 == 0) && true)) false) ((r2.2.1.1 == false) && ((r2.2.1.2 == 0) && true)) false)) || (cond (cond (r2.2.2 == 2) ((r2.1.1 == 0) && ((r2.1.2 == 0) && true)) false) ((r2.2.1.1 == false) && ((r2.2.1.2 == 0) && true)) false) then
                                              bif !(cond (cond (cond (r2.2.2 == 2) ((r2.1.1 == 0) && ((r2.1.2 == 0) && true)) false) ((r2.2.1.1 == false) && ((r2.2.1.2 == 0) && true)) false) (r3.2 == 11) false) || (cond (cond (cond (r2.2.2 == 2) ((r2.1.1 == 0) && ((r2.1.2 == 0) && true)) false) ((r2.2.1.1 == false) && ((r2.2.1.2 == 0) && true)) false) (r3.2 == 11) false) then
                                                bif !(cond (cond (cond (r2.2.2 == 2) ((r2.1.1 == 0) && ((r2.1.2 == 0) && true)) false) ((r2.2.1.1 == false) && ((r2.2.1.2 == 0) && true)) false) (r3.2 == 11) false) || (cond (cond (cond (r2.2.2 == 2) ((r2.1.1 == 0) && ((r2.1.2 == 0) && true)) false) ((r2.2.1.1 == false) && ((r2.2.1.2 == 0) && true)) false) (r3.2 == 11) false) then
                                                  bif !((cond (cond (cond (r2.2.2 == 2) ((r2.1.1 == 0) && ((r2.1.2 == 0) && true)) false) ((r2.2.1.1 == false) && ((r2.2.1.2 == 0) && true)) false) (r3.2 == 11) false) && true) || ((cond (cond (cond (r2.2.2 == 2) ((r2.1.1 == 0) && ((r2.1.2 == 0) && true)) false) ((r2.2.1.1 == false) && ((r2.2.1.2 == 0) && true)) false) (r3.2 == 11) false) && true) then
                                                    bif !((cond (cond (cond (r2.2.2 == 2) ((r2.1.1 == 0) && ((r2.1.2 == 0) && true)) false) ((r2.2.1.1 == false) && ((r2.2.1.2 == 0) && true)) false) (r3.2 == 11) false) && true) || ((cond (cond (cond (r2.2.2 == 2) ((r2.1.1 == 0) && ((r2.1.2 == 0) && true)) false) ((r2.2.1.1 == false) && ((r2.2.1.2 == 0) && true)) false) (r3.2 == 11) false) && true) then
                                                      bif !(cond (cond (cond (r2.2.2 == 2) ((r2.1.1 == 0) && ((r2.1.2 == 0) && true)) false) ((r2.2.1.1 == false) && ((r2.2.1.2 == 0) && true)) false) (r3.2 == 11) false) || (cond (cond (cond (r2.2.2 == 2) ((r2.1.1 == 0) && ((r2.1.2 == 0) && true)) false) ((r2.2.1.1 == false) && ((r2.2.1.2 == 0) && true)) false) (r3.2 == 11) false) then
                                                        bif !(cond (cond (cond (r2.2.2 == 2) ((r2.1.1 == 0) && ((r2.1.2 == 0) && true)) false) ((r2.2.1.1 == false) && ((r2.2.1.2 == 0) && true)) false) (r3.2 == 11) false) || ((cond (cond (cond (r2.2.2 == 2) ((r2.1.1 == 0) && ((r2.1.2 == 0) && true)) false) ((r2.2.1.1 == false) && ((r2.2.1.2 == 0) && true)) false) (r3.2 == 11) false) && true) then
                                                          bif !(cond (cond (cond (r2.2.2 == 2) ((r2.1.1 == 0) && ((r2.1.2 == 0) && true)) false) ((r2.2.1.1 == false) && ((r2.2.1.2 == 0) && true)) false) (r3.2 == 11) false) || (cond (cond (cond (r2.2.2 == 2) ((r2.1.1 == 0) && ((r2.1.2 == 0) && true)) false) ((r2.2.1.1 == false) && ((r2.2.1.2 == 0) && true)) false) (r3.2 == 11) false) then
                                                            bif !((cond (cond (cond (r2.2.2 == 2) ((r2.1.1 == 0) && ((r2.1.2 == 0) && true)) false) ((r2.2.1.1 == false) && ((r2.2.1.2 == 0) && true)) false) (r3.2 == 11) false) && (!((r3.1.1 == false) && ((r3.1.2 == 0) && true)))) || ((cond (cond (cond (r2.2.2 == 2) ((r2.1.1 == 0) && ((r2.1.2 == 0) && true)) false) ((r2.2.1.1 == false) && ((r2.2.1.2 == 0) && true)) false) (r3.2 == 11) false) && (!((r3.1.1 == false) && ((r3.1.2 == 0) && true)))) then
                                                              bif !((cond (cond (cond (r2.2.2 == 2) ((r2.1.1 == 0) && ((r2.1.2 == 0) && true)) false) ((r2.2.1.1 == false) && ((r2.2.1.2 == 0) && true)) false) (r3.2 == 11) false) && (!((r3.1.1 == false) && ((r3.1.2 == 0) && true)))) || ((cond (cond (cond (r2.2.2 == 2) ((r2.1.1 == 0) && ((r2.1.2 == 0) && true)) false) ((r2.2.1.1 == false) && ((r2.2.1.2 == 0) && true)) false) (r3.2 == 11) false) && (!((r3.1.1 == false) && ((r3.1.2 == 0) && true)))) then
                                                                bif !(((cond (cond (cond (r2.2.2 == 2) ((r2.1.1 == 0) && ((r2.1.2 == 0) && true)) false) ((r2.2.1.1 == false) && ((r2.2.1.2 == 0) && true)) false) (r3.2 == 11) false) && (!((r3.1.1 == false) && ((r3.1.2 == 0) && true)))) && false) || (((cond (cond (cond (r2.2.2 == 2) ((r2.1.1 == 0) && ((r2.1.2 == 0) && true)) false) ((r2.2.1.1 == false) && ((r2.2.1.2 == 0) && true)) false) (r3.2 == 11) false) && (!((r3.1.1 == false) && ((r3.1.2 == 0) && true)))) && false) then
                                                                  bif !(((cond (cond (cond (r2.2.2 == 2) ((r2.1.1 == 0) && ((r2.1.2 == 0) && true)) false) ((r2.2.1.1 == false) && ((r2.2.1.2 == 0) && true)) false) (r3.2 == 11) false) && (!((r3.1.1 == false) && ((r3.1.2 == 0) && true)))) && false) || (((cond (cond (cond (r2.2.2 == 2) ((r2.1.1 == 0) && ((r2.1.2 == 0) && true)) false) ((r2.2.1.1 == false) && ((r2.2.1.2 == 0) && true)) false) (r3.2 == 11) false) && (!((r3.1.1 == false) && ((r3.1.2 == 0) && true)))) && false) then
                                                                    bif !((cond (cond (cond (r2.2.2 == 2) ((r2.1.1 == 0) && ((r2.1.2 == 0) && true)) false) ((r2.2.1.1 == false) && ((r2.2.1.2 == 0) && true)) false) (r3.2 == 11) false) && (!((r3.1.1 == false) && ((r3.1.2 == 0) && true)))) || ((cond (cond (cond (r2.2.2 == 2) ((r2.1.1 == 0) && ((r2.1.2 == 0) && true)) false) ((r2.2.1.1 == false) && ((r2.2.1.2 == 0) && true)) false) (r3.2 == 11) false) && (!((r3.1.1 == false) && ((r3.1.2 == 0) && true)))) then
                                                                      bif !((cond (cond (cond (r2.2.2 == 2) ((r2.1.1 == 0) && ((r2.1.2 == 0) && true)) false) ((r2.2.1.1 == false) && ((r2.2.1.2 == 0) && true)) false) (r3.2 == 11) false) && (!((r3.1.1 == false) && ((r3.1.2 == 0) && true)))) || true then
                                                                        bif !(cond (cond (cond (r2.2.2 == 2) ((r2.1.1 == 0) && ((r2.1.2 == 0) && true)) false) ((r2.2.1.1 == false) && ((r2.2.1.2 == 0) && true)) false) (r3.2 == 11) false) || (cond (cond (cond (r2.2.2 == 2) ((r2.1.1 == 0) && ((r2.1.2 == 0) && true)) false) ((r2.2.1.1 == false) && ((r2.2.1.2 == 0) && true)) false) (r3.2 == 11) false) then
                                                                          bif !(cond (cond (cond (r2.2.2 == 2) ((r2.1.1 == 0) && ((r2.1.2 == 0) && true)) false) ((r2.2.1.1 == false) && ((r2.2.1.2 == 0) && true)) false) (r3.2 == 11) false) || (((r3.1.1 == false) && ((r3.1.2 == 0) && true)) || ((cond (cond (cond (r2.2.2 == 2) ((r2.1.1 == 0) && ((r2.1.2 == 0) && true)) false) ((r2.2.1.1 == false) && ((r2.2.1.2 == 0) && true)) false) (r3.2 == 11) false) && (!((r3.1.1 == false) && ((r3.1.2 == 0) && true))))) then
                                                                            bif (!(cond (cond (cond (r2.2.2 == 2) ((r2.1.1 == 0) && ((r2.1.2 == 0) && true)) false) ((r2.2.1.1 == false) && ((r2.2.1.2 == 0) && true)) false) (r3.2 == 11) false)) || (cond (cond (cond (r2.2.2 == 2) ((r2.1.1 == 0) && ((r2.1.2 == 0) && true)) false) ((r2.2.1.1 == false) && ((r2.2.1.2 == 0) && true)) false) (r3.2 == 11) false) then
                                                                              some (cond (cond (cond (cond (r2.2.2 == 2) ((r2.1.1 == 0) && ((r2.1.2 == 0) && true)) false) ((r2.2.1.1 == false) && ((r2.2.1.2 == 0) && true)) false) (r3.2 == 11) false) (cond ((r3.1.1 == false) && ((r3.1.2 == 0) && true)) true false) false)
                                                                            else
                                                                              none
                                                                          else
                                                                            none
                                                                        else
                                                                          none
                                                                      else
                                                                        none
                                                                    else
                                                                      none
                                                                  else
                                                                    none
                                                                else
                                                                  none
                                                              else
                                                                none
                                                            else
                                                              none
                                                          else
                                                            none
                                                        else
                                                          none
                                                      else
                                                        none
                                                    else
                                                      none
                                                  else
                                                    none
                                                else
                                                  none
                                              else
                                                none
                                            else
                                              none
                                          else
                                            none
                                        else
                                          none
                                      else
                                        none
                                    else
                                      none
                                  else
                                    none
                                else
                                  none
                              else
                                none
                            else
                              none
                          else
                          bif !(r4 == 0) then
                            bif !(r2.2.2 == r4) || (r2.2.2 == r4) then
                              bif !(r2.2.2 == r4) || (r2.2.2 == r4) then
                                bif (!(r2.2.2 == r4)) || (r2.2.2 == r4) then
                                  bif !(cond (r2.2.2 == r4) ((r2.1.1 == 0) && ((r2.1.2 == 0) && true)) false) || (cond (r2.2.2 == r4) ((r2.1.1 == 0) && ((r2.1.2 == 0) && true)) false) then
                                    bif !(cond (r2.2.2 == r4) ((r2.1.1 == 0) && ((r2.1.2 == 0) && true)) false) || (cond (r2.2.2 == r4) ((r2.1.1 == 0) && ((r2.1.2 == 0) && true)) false) then
                                      bif (!(cond (r2.2.2 == r4) ((r2.1.1 == 0) && ((r2.1.2 == 0) && true)) false)) || (cond (r2.2.2 == r4) ((r2.1.1 == 0) && ((r2.1.2 == 0) && true)) false) then
                                        bif !(cond (cond (r2.2.2 == r4) ((r2.1.1 == 0) && ((r2.1.2 == 0) && true)) false) ((r2.2.1.1 == false) && ((r2.2.1.2 == 0) && true)) false) || (cond (cond (r2.2.2 == r4) ((r2.1.1 == 0) && ((r2.1.2 == 0) && true)) false) ((r2.2.1.1 == false) && ((r2.2.1.2 == 0) && true)) false) then
                                          bif !(cond (cond (r2.2.2 == r4) ((r2.1.1 == 0) && ((r2.1.2 == 0) && true)) false) ((r2.2.1.1 == false) && ((r2.2.1.2 == 0) && true)) false) || (cond (cond (r2.2.2 == r4) ((r2.1.1 == 0) && ((r2.1.2 == 0) && true)) false) ((r2.2.1.1 == false) && ((r2.2.1.2 == 0) && true)) false) then
                                            bif (!(cond (cond (r2.2.2 == r4) ((r2.1.1 == 0) && ((r2.1.2 == 0) && true)) false) ((r2.2.1.1 == false) && ((r2.2.1.2 == 0) && true)) false)) || (cond (cond (r2.2.2 == r4) ((r2.1.1 == 0) && ((r2.1.2 == 0) && true)) false) ((r2.2.1.1 == false) && ((r2.2.1.2 == 0) && true)) false) then
                                              bif !(cond (cond (cond (r2.2.2 == r4) ((r2.1.1 == 0) && ((r2.1.2 == 0) && true)) false) ((r2.2.1.1 == false) && ((r2.2.1.2 == 0) && true)) false) (r3.2 == 11) false) || (cond (cond (cond (r2.2.2 == r4) ((r2.1.1 == 0) && ((r2.1.2 == 0) && true)) false) ((r2.2.1.1 == false) && ((r2.2.1.2 == 0) && true)) false) (r3.2 == 11) false) then
                                                bif !(cond (cond (cond (r2.2.2 == r4) ((r2.1.1 == 0) && ((r2.1.2 == 0) && true)) false) ((r2.2.1.1 == false) && ((r2.2.1.2 == 0) && true)) false) (r3.2 == 11) false) || (cond (cond (cond (r2.2.2 == r4) ((r2.1.1 == 0) && ((r2.1.2 == 0) && true)) false) ((r2.2.1.1 == false) && ((r2.2.1.2 == 0) && true)) false) (r3.2 == 11) false) then
                                                  bif !((cond (cond (cond (r2.2.2 == r4) ((r2.1.1 == 0) && ((r2.1.2 == 0) && true)) false) ((r2.2.1.1 == false) && ((r2.2.1.2 == 0) && true)) false) (r3.2 == 11) false) && true) || ((cond (cond (cond (r2.2.2 == r4) ((r2.1.1 == 0) && ((r2.1.2 == 0) && true)) false) ((r2.2.1.1 == false) && ((r2.2.1.2 == 0) && true)) false) (r3.2 == 11) false) && true) then
                                                    bif !((cond (cond (cond (r2.2.2 == r4) ((r2.1.1 == 0) && ((r2.1.2 == 0) && true)) false) ((r2.2.1.1 == false) && ((r2.2.1.2 == 0) && true)) false) (r3.2 == 11) false) && true) || ((cond (cond (cond (r2.2.2 == r4) ((r2.1.1 == 0) && ((r2.1.2 == 0) && true)) false) ((r2.2.1.1 == false) && ((r2.2.1.2 == 0) && true)) false) (r3.2 == 11) false) && true) then
                                                      bif !(cond (cond (cond (r2.2.2 == r4) ((r2.1.1 == 0) && ((r2.1.2 == 0) && true)) false) ((r2.2.1.1 == false) && ((r2.2.1.2 == 0) && true)) false) (r3.2 == 11) false) || (cond (cond (cond (r2.2.2 == r4) ((r2.1.1 == 0) && ((r2.1.2 == 0) && true)) false) ((r2.2.1.1 == false) && ((r2.2.1.2 == 0) && true)) false) (r3.2 == 11) false) then
                                                        bif !(cond (cond (cond (r2.2.2 == r4) ((r2.1.1 == 0) && ((r2.1.2 == 0) && true)) false) ((r2.2.1.1 == false) && ((r2.2.1.2 == 0) && true)) false) (r3.2 == 11) false) || ((cond (cond (cond (r2.2.2 == r4) ((r2.1.1 == 0) && ((r2.1.2 == 0) && true)) false) ((r2.2.1.1 == false) && ((r2.2.1.2 == 0) && true)) false) (r3.2 == 11) false) && true) then
                                                          bif !(cond (cond (cond (r2.2.2 == r4) ((r2.1.1 == 0) && ((r2.1.2 == 0) && true)) false) ((r2.2.1.1 == false) && ((r2.2.1.2 == 0) && true)) false) (r3.2 == 11) false) || (cond (cond (cond (r2.2.2 == r4) ((r2.1.1 == 0) && ((r2.1.2 == 0) && true)) false) ((r2.2.1.1 == false) && ((r2.2.1.2 == 0) && true)) false) (r3.2 == 11) false) then
                                                            bif !((cond (cond (cond (r2.2.2 == r4) ((r2.1.1 == 0) && ((r2.1.2 == 0) && true)) false) ((r2.2.1.1 == false) && ((r2.2.1.2 == 0) && true)) false) (r3.2 == 11) false) && (!((r3.1.1 == false) && ((r3.1.2 == 0) && true)))) || ((cond (cond (cond (r2.2.2 == r4) ((r2.1.1 == 0) && ((r2.1.2 == 0) && true)) false) ((r2.2.1.1 == false) && ((r2.2.1.2 == 0) && true)) false) (r3.2 == 11) false) && (!((r3.1.1 == false) && ((r3.1.2 == 0) && true)))) then
                                                              bif !((cond (cond (cond (r2.2.2 == r4) ((r2.1.1 == 0) && ((r2.1.2 == 0) && true)) false) ((r2.2.1.1 == false) && ((r2.2.1.2 == 0) && true)) false) (r3.2 == 11) false) && (!((r3.1.1 == false) && ((r3.1.2 == 0) && true)))) || ((cond (cond (cond (r2.2.2 == r4) ((r2.1.1 == 0) && ((r2.1.2 == 0) && true)) false) ((r2.2.1.1 == false) && ((r2.2.1.2 == 0) && true)) false) (r3.2 == 11) false) && (!((r3.1.1 == false) && ((r3.1.2 == 0) && true)))) then
                                                                bif !(((cond (cond (cond (r2.2.2 == r4) ((r2.1.1 == 0) && ((r2.1.2 == 0) && true)) false) ((r2.2.1.1 == false) && ((r2.2.1.2 == 0) && true)) false) (r3.2 == 11) false) && (!((r3.1.1 == false) && ((r3.1.2 == 0) && true)))) && false) || (((cond (cond (cond (r2.2.2 == r4) ((r2.1.1 == 0) && ((r2.1.2 == 0) && true)) false) ((r2.2.1.1 == false) && ((r2.2.1.2 == 0) && true)) false) (r3.2 == 11) false) && (!((r3.1.1 == false) && ((r3.1.2 == 0) && true)))) && false) then
                                                                  bif !(((cond (cond (cond (r2.2.2 == r4) ((r2.1.1 == 0) && ((r2.1.2 == 0) && true)) false) ((r2.2.1.1 == false) && ((r2.2.1.2 == 0) && true)) false) (r3.2 == 11) false) && (!((r3.1.1 == false) && ((r3.1.2 == 0) && true)))) && false) || (((cond (cond (cond (r2.2.2 == r4) ((r2.1.1 == 0) && ((r2.1.2 == 0) && true)) false) ((r2.2.1.1 == false) && ((r2.2.1.2 == 0) && true)) false) (r3.2 == 11) false) && (!((r3.1.1 == false) && ((r3.1.2 == 0) && true)))) && false) then
                                                                    bif !((cond (cond (cond (r2.2.2 == r4) ((r2.1.1 == 0) && ((r2.1.2 == 0) && true)) false) ((r2.2.1.1 == false) && ((r2.2.1.2 == 0) && true)) false) (r3.2 == 11) false) && (!((r3.1.1 == false) && ((r3.1.2 == 0) && true)))) || ((cond (cond (cond (r2.2.2 == r4) ((r2.1.1 == 0) && ((r2.1.2 == 0) && true)) false) ((r2.2.1.1 == false) && ((r2.2.1.2 == 0) && true)) false) (r3.2 == 11) false) && (!((r3.1.1 == false) && ((r3.1.2 == 0) && true)))) then
                                                                      bif !((cond (cond (cond (r2.2.2 == r4) ((r2.1.1 == 0) && ((r2.1.2 == 0) && true)) false) ((r2.2.1.1 == false) && ((r2.2.1.2 == 0) && true)) false) (r3.2 == 11) false) && (!((r3.1.1 == false) && ((r3.1.2 == 0) && true)))) || true then
                                                                        bif !(cond (cond (cond (r2.2.2 == r4) ((r2.1.1 == 0) && ((r2.1.2 == 0) && true)) false) ((r2.2.1.1 == false) && ((r2.2.1.2 == 0) && true)) false) (r3.2 == 11) false) || (cond (cond (cond (r2.2.2 == r4) ((r2.1.1 == 0) && ((r2.1.2 == 0) && true)) false) ((r2.2.1.1 == false) && ((r2.2.1.2 == 0) && true)) false) (r3.2 == 11) false) then
                                                                          bif !(cond (cond (cond (r2.2.2 == r4) ((r2.1.1 == 0) && ((r2.1.2 == 0) && true)) false) ((r2.2.1.1 == false) && ((r2.2.1.2 == 0) && true)) false) (r3.2 == 11) false) || (((r3.1.1 == false) && ((r3.1.2 == 0) && true)) || ((cond (cond (cond (r2.2.2 == r4) ((r2.1.1 == 0) && ((r2.1.2 == 0) && true)) false) ((r2.2.1.1 == false) && ((r2.2.1.2 == 0) && true)) false) (r3.2 == 11) false) && (!((r3.1.1 == false) && ((r3.1.2 == 0) && true))))) then
                                                                            bif (!(cond (cond (cond (r2.2.2 == r4) ((r2.1.1 == 0) && ((r2.1.2 == 0) && true)) false) ((r2.2.1.1 == false) && ((r2.2.1.2 == 0) && true)) false) (r3.2 == 11) false)) || (cond (cond (cond (r2.2.2 == r4) ((r2.1.1 == 0) && ((r2.1.2 == 0) && true)) false) ((r2.2.1.1 == false) && ((r2.2.1.2 == 0) && true)) false) (r3.2 == 11) false) then
                                                                              some (cond (cond (cond (cond (r2.2.2 == r4) ((r2.1.1 == 0) && ((r2.1.2 == 0) && true)) false) ((r2.2.1.1 == false) && ((r2.2.1.2 == 0) && true)) false) (r3.2 == 11) false) (cond ((r3.1.1 == false) && ((r3.1.2 == 0) && true)) true false) false)
                                                                            else
                                                                              none
                                                                          else
                                                                            none
                                                                        else
                                                                          none
                                                                      else
                                                                        none
                                                                    else
                                                                      none
                                                                  else
                                                                    none
                                                                else
                                                                  none
                                                              else
                                                                none
                                                            else
                                                              none
                                                          else
                                                            none
                                                        else
                                                          none
                                                      else
                                                        none
                                                    else
                                                      none
                                                  else
                                                    none
                                                else
                                                  none
                                              else
                                                none
                                            else
                                              none
                                          else
                                            none
                                        else
                                          none
                                      else
                                        none
                                    else
                                      none
                                  else
                                    none
                                else
                                  none
                              else
                                none
                            else
                              none
                          else
                          bif !(r2.2.2 == 0) || (r2.2.2 == 0) then
                            bif !(r2.2.2 == 0) || (r2.2.2 == 0) then
                              bif !(r2.2.2 == 0) || (r2.2.2 == 0) then
                                bif !(r2.2.2 == 0) || (r2.2.2 == 0) then
                                  bif (!(r2.2.2 == 0)) || (r2.2.2 == 0) then
                                    bif !(cond (r2.2.2 == 0) ((r2.1.1 == 2) && ((r2.1.2 == x0.2) && true)) false) || (cond (r2.2.2 == 0) ((r2.1.1 == 2) && ((r2.1.2 == x0.2) && true)) false) then
                                      bif !(cond (r2.2.2 == 0) ((r2.1.1 == 2) && ((r2.1.2 == x0.2) && true)) false) || (cond (r2.2.2 == 0) ((r2.1.1 == 2) && ((r2.1.2 == x0.2) && true)) false) then
                                        bif (!(cond (r2.2.2 == 0) ((r2.1.1 == 2) && ((r2.1.2 == x0.2) && true)) false)) || (cond (r2.2.2 == 0) ((r2.1.1 == 2) && ((r2.1.2 == x0.2) && true)) false) then
                                          bif !(cond (cond (r2.2.2 == 0) ((r2.1.1 == 2) && ((r2.1.2 == x0.2) && true)) false) ((r2.2.1.1 == false) && ((r2.2.1.2 == (w (x0.2 + 1))) && true)) false) || (cond (cond (r2.2.2 == 0) ((r2.1.1 == 2) && ((r2.1.2 == x0.2) && true)) false) ((r2.2.1.1 == false) && ((r2.2.1.2 == (w (x0.2 + 1))) && true)) false) then
                                            bif (!(cond (cond (r2.2.2 == 0) ((r2.1.1 == 2) && ((r2.1.2 == x0.2) && true)) false) ((r2.2.1.1 == false) && ((r2.2.1.2 == (w (x0.2 + 1))) && true)) false)) || (cond (cond (r2.2.2 == 0) ((r2.1.1 == 2) && ((r2.1.2 == x0.2) && true)) false) ((r2.2.1.1 == false) && ((r2.2.1.2 == (w (x0.2 + 1))) && true)) false) then
                                              bif !(cond (cond (cond (r2.2.2 == 0) ((r2.1.1 == 2) && ((r2.1.2 == x0.2) && true)) false) ((r2.2.1.1 == false) && ((r2.2.1.2 == (w (x0.2 + 1))) && true)) false) (r3.2 == 11) false) || (cond (cond (cond (r2.2.2 == 0) ((r2.1.1 == 2) && ((r2.1.2 == x0.2) && true)) false) ((r2.2.1.1 == false) && ((r2.2.1.2 == (w (x0.2 + 1))) && true)) false) (r3.2 == 11) false) then
                                                bif !(cond (cond (cond (r2.2.2 == 0) ((r2.1.1 == 2) && ((r2.1.2 == x0.2) && true)) false) ((r2.2.1.1 == false) && ((r2.2.1.2 == (w (x0.2 + 1))) && true)) false) (r3.2 == 11) false) || (cond (cond (cond (r2.2.2 == 0) ((r2.1.1 == 2) && ((r2.1.2 == x0.2) && true)) false) ((r2.2.1.1 == false) && ((r2.2.1.2 == (w (x0.2 + 1))) && true)) false) (r3.2 == 11) false) then
                                                  bif (!(cond (cond (cond (r2.2.2 == 0) ((r2.1.1 == 2) && ((r2.1.2 == x0.2) && true)) false) ((r2.2.1.1 == false) && ((r2.2.1.2 == (w (x0.2 + 1))) && true)) false) (r3.2 == 11) false)) || (cond (cond (cond (r2.2.2 == 0) ((r2.1.1 == 2) && ((r2.1.2 == x0.2) && true)) false) ((r2.2.1.1 == false) && ((r2.2.1.2 == (w (x0.2 + 1))) && true)) false) (r3.2 == 11) false) then
                                                    some (cond (cond (cond (cond (r2.2.2 == 0) ((r2.1.1 == 2) && ((r2.1.2 == x0.2) && true)) false) ((r2.2.1.1 == false) && ((r2.2.1.2 == (w (x0.2 + 1))) && true)) false) (r3.2 == 11) false) ((r3.1.1 == false) && ((r3.1.2 == 0) && true)) false)
                                                  else
                                                    none
                                                else
                                                  none
                                              else
                                                none
                                            else
                                              none
                                          else
                                            none
                                        else
                                          none
                                      else
                                        none
                                    else
                                      none
                                  else
                                    none
                                else
                                  none
                              else
                                none
                            else
                              none
                          else
                            none
                        else
                          none
                      else
                        none
                    else
                      none
                  else
                    none
                else
                  none
              else
                none
            else
            bif !(r4 == 0) || (r4 == 0) then
              bif !(r4 == 0) || (r4 == 0) then
                bif (!(r4 == 0)) || (r4 == 0) then
                  bif cond (r4 == 0) (!(x0.1 == 1)) false then
                    bif !(r2.2.2 == 11) || (r2.2.2 == 11) then
                      bif !(r2.2.2 == 11) || (r2.2.2 == 11) then
                        bif (!(r2.2.2 == 11)) || (r2.2.2 == 11) then
                          bif !(cond (r2.2.2 == 11) ((r2.1.1 == 0) && ((r2.1.2 == 0) && true)) false) || (cond (r2.2.2 == 11) ((r2.1.1 == 0) && ((r2.1.2 == 0) && true)) false) then
                            bif !(cond (r2.2.2 == 11) ((r2.1.1 == 0) && ((r2.1.2 == 0) && true)) false) || (cond (r2.2.2 == 11) ((r2.1.1 == 0) && ((r2.1.2 == 0) && true)) false) then
                              bif (!(cond (r2.2.2 == 11) ((r2.1.1 == 0) && ((r2.1.2 == 0) && true)) false)) || (cond (r2.2.2 == 11) ((r2.1.1 == 0) && ((r2.1.2 == 0) && true)) false) then
                                bif !(cond (cond (r2.2.2 == 11) ((r2.1.1 == 0) && ((r2.1.2 == 0) && true)) false) ((r2.2.1.1 == false) && ((r2.2.1.2 == 0) && true)) false) || (cond (cond (r2.2.2 == 11) ((r2.1.1 == 0) && ((r2.1.2 == 0) && true)) false) ((r2.2.1.1 == false) && ((r2.2.1.2 == 0) && true)) false) then
                                  bif !(cond (cond (r2.2.2 == 11) ((r2.1.1 == 0) && ((r2.1.2 == 0) && true)) false) ((r2.2.1.1 == false) && ((r2.2.1.2 == 0) && true)) false) || (cond (cond (r2.2.2 == 11) ((r2.1.1 == 0) && ((r2.1.2 == 0) && true)) false) ((r2.2.1.1 == false) && ((r2.2.1.2 == 0) && true)) false) then
                                    bif (!(cond (cond (r2.2.2 == 11) ((r2.1.1 == 0) && ((r2.1.2 == 0) && true)) false) ((r2.2.1.1 == false) && ((r2.2.1.2 == 0) && true)) false)) || (cond (cond (r2.2.2 == 11) ((r2.1.1 == 0) && ((r2.1.2 == 0) && true)) false) ((r2.2.1.1 == false) && ((r2.2.1.2 == 0) && true)) false) then
                                      bif !(cond (cond (cond (r2.2.2 == 11) ((r2.1.1 == 0) && ((r2.1.2 == 0) && true)) false) ((r2.2.1.1 == false) && ((r2.2.1.2 == 0) && true)) false) (r3.2 == r4) false) || (cond (cond (cond (r2.2.2 == 11) ((r2.1.1 == 0) && ((r2.1.2 == 0) && true)) false) ((r2.2.1.1 == false) && ((r2.2.1.2 == 0) && true)) false) (r3.2 == r4) false) then
                                        bif !(cond (cond (cond (r2.2.2 == 11) ((r2.1.1 == 0) && ((r2.1.2 == 0) && true)) false) ((r2.2.1.1 == false) && ((r2.2.1.2 == 0) && true)) false) (r3.2 == r4) false) || (cond (cond (cond (r2.2.2 == 11) ((r2.1.1 == 0) && ((r2.1.2 == 0) && true)) false) ((r2.2.1.1 == false) && ((r2.2.1.2 == 0) && true)) false) (r3.2 == r4) false) then
                                          bif !((cond (cond (cond (r2.2.2 == 11) ((r2.1.1 == 0) && ((r2.1.2 == 0) && true)) false) ((r2.2.1.1 == false) && ((r2.2.1.2 == 0) && true)) false) (r3.2 == r4) false) && (!(r4 == 0))) || ((cond (cond (cond (r2.2.2 == 11) ((r2.1.1 == 0) && ((r2.1.2 == 0) && true)) false) ((r2.2.1.1 == false) && ((r2.2.1.2 == 0) && true)) false) (r3.2 == r4) false) && (!(r4 == 0))) then
                                            bif !((cond (cond (cond (r2.2.2 == 11) ((r2.1.1 == 0) && ((r2.1.2 == 0) && true)) false) ((r2.2.1.1 == false) && ((r2.2.1.2 == 0) && true)) false) (r3.2 == r4) false) && (!(r4 == 0))) || ((cond (cond (cond (r2.2.2 == 11) ((r2.1.1 == 0) && ((r2.1.2 == 0) && true)) false) ((r2.2.1.1 == false) && ((r2.2.1.2 == 0) && true)) false) (r3.2 == r4) false) && (!(r4 == 0))) then
                                              bif !(cond (cond (cond (r2.2.2 == 11) ((r2.1.1 == 0) && ((r2.1.2 == 0) && true)) false) ((r2.2.1.1 == false) && ((r2.2.1.2 == 0) && true)) false) (r3.2 == r4) false) || (cond (cond (cond (r2.2.2 == 11) ((r2.1.1 == 0) && ((r2.1.2 == 0) && true)) false) ((r2.2.1.1 == false) && ((r2.2.1.2 == 0) && true)) false) (r3.2 == r4) false) then
                                                bif !(cond (cond (cond (r2.2.2 == 11) ((r2.1.1 == 0) && ((r2.1.2 == 0) && true)) false) ((r2.2.1.1 == false) && ((r2.2.1.2 == 0) && true)) false) (r3.2 == r4) false) || ((!(!(r4 == 0))) || ((cond (cond (cond (r2.2.2 == 11) ((r2.1.1 == 0) && ((r2.1.2 == 0) && true)) false) ((r2.2.1.1 == false) && ((r2.2.1.2 == 0) && true)) false) (r3.2 == r4) false) && (!(r4 == 0)))) then
                                                  bif !(cond (cond (cond (r2.2.2 == 11) ((r2.1.1 == 0) && ((r2.1.2 == 0) && true)) false) ((r2.2.1.1 == false) && ((r2.2.1.2 == 0) && true)) false) (r3.2 == r4) false) || (cond (cond (cond (r2.2.2 == 11) ((r2.1.1 == 0) && ((r2.1.2 == 0) && true)) false) ((r2.2.1.1 == false) && ((r2.2.1.2 == 0) && true)) false) (r3.2 == r4) false) then
                                                    bif !((cond (cond (cond (r2.2.2 == 11) ((r2.1.1 == 0) && ((r2.1.2 == 0) && true)) false) ((r2.2.1.1 == false) && ((r2.2.1.2 == 0) && true)) false) (r3.2 == r4) false) && (!(cond (!(r4 == 0)) ((r3.1.1 == false) && ((r3.1.2 == 0) && true)) false))) || ((cond (cond (cond (r2.2.2 == 11) ((r2.1.1 == 0) && ((r2.1.2 == 0) && true)) false) ((r2.2.1.1 == false) && ((r2.2.1.2 == 0) && true)) false) (r3.2 == r4) false) && (!(cond (!(r4 == 0)) ((r3.1.1 == false) && ((r3.1.2 == 0) && true)) false))) then
                                                      bif !((cond (cond (cond (r2.2.2 == 11) ((r2.1.1 == 0) && ((r2.1.2 == 0) && true)) false) ((r2.2.1.1 == false) && ((r2.2.1.2 == 0) && true)) false) (r3.2 == r4) false) && (!(cond (!(r4 == 0)) ((r3.1.1 == false) && ((r3.1.2 == 0) && true)) false))) || ((cond (cond (cond (r2.2.2 == 11) ((r2.1.1 == 0) && ((r2.1.2 == 0) && true)) false) ((r2.2.1.1 == false) && ((r2.2.1.2 == 0) && true)) false) (r3.2 == r4) false) && (!(cond (!(r4 == 0)) ((r3.1.1 == false) && ((r3.1.2 == 0) && true)) false))) then
                                                        bif !(((cond (cond (cond (r2.2.2 == 11) ((r2.1.1 == 0) && ((r2.1.2 == 0) && true)) false) ((r2.2.1.1 == false) && ((r2.2.1.2 == 0) && true)) false) (r3.2 == r4) false) && (!(cond (!(r4 == 0)) ((r3.1.1 == false) && ((r3.1.2 == 0) && true)) false))) && (r4 == 0)) || (((cond (cond (cond (r2.2.2 == 11) ((r2.1.1 == 0) && ((r2.1.2 == 0) && true)) false) ((r2.2.1.1 == false) && ((r2.2.1.2 == 0) && true)) false) (r3.2 == r4) false) && (!(cond (!(r4 == 0)) ((r3.1.1 == false) && ((r3.1.2 == 0) && true)) false))) && (r4 == 0)) then
                                                          bif !(((cond (cond (cond (r2.2.2 == 11) ((r2.1.1 == 0) && ((r2.1.2 == 0) && true)) false) ((r2.2.1.1 == false) && ((r2.2.1.2 == 0) && true)) false) (r3.2 == r4) false) && (!(cond (!(r4 == 0)) ((r3.1.1 == false) && ((r3.1.2 == 0) && true)) false))) && (r4 == 0)) || (((cond (cond (cond (r2.2.2 == 11) ((r2.1.1 == 0) && ((r2.1.2 == 0) && true)) false) ((r2.2.1.1 == false) && ((r2.2.1.2 == 0) && true)) false) (r3.2 == r4) false) && (!(cond (!(r4 == 0)) ((r3.1.1 == false) && ((r3.1.2 == 0) && true)) false))) && (r4 == 0)) then
                                                            bif !((cond (cond (cond (r2.2.2 == 11) ((r2.1.1 == 0) && ((r2.1.2 == 0) && true)) false) ((r2.2.1.1 == false) && ((r2.2.1.2 == 0) && true)) false) (r3.2 == r4) false) && (!(cond (!(r4 == 0)) ((r3.1.1 == false) && ((r3.1.2 == 0) && true)) false))) || ((cond (cond (cond (r2.2.2 == 11) ((r2.1.1 == 0) && ((r2.1.2 == 0) && true)) false) ((r2.2.1.1 == false) && ((r2.2.1.2 == 0) && true)) false) (r3.2 == r4) false) && (!(cond (!(r4 == 0)) ((r3.1.1 == false) && ((r3.1.2 == 0) && true)) false))) then
                                                              bif !((cond (cond (cond (r2.2.2 == 11) ((r2.1.1 == 0) && ((r2.1.2 == 0) && true)) false) ((r2.2.1.1 == false) && ((r2.2.1.2 == 0) && true)) false) (r3.2 == r4) false) && (!(cond (!(r4 == 0)) ((r3.1.1 == false) && ((r3.1.2 == 0) && true)) false))) || ((!(r4 == 0)) || (((cond (cond (cond (r2.2.2 == 11) ((r2.1.1 == 0) && ((r2.1.2 == 0) && true)) false) ((r2.2.1.1 == false) && ((r2.2.1.2 == 0) && true)) false) (r3.2 == r4) false) && (!(cond (!(r4 == 0)) ((r3.1.1 == false) && ((r3.1.2 == 0) && true)) false))) && (r4 == 0))) then
                                                                bif !(cond (cond (cond (r2.2.2 == 11) ((r2.1.1 == 0) && ((r2.1.2 == 0) && true)) false) ((r2.2.1.1 == false) && ((r2.2.1.2 == 0) && true)) false) (r3.2 == r4) false) || (cond (cond (cond (r2.2.2 == 11) ((r2.1.1 == 0) && ((r2.1.2 == 0) && true)) false) ((r2.2.1.1 == false) && ((r2.2.1.2 == 0) && true)) false) (r3.2 == r4) false) then
                                                                  bif !(cond (cond (cond (r2.2.2 == 11) ((r2.1.1 == 0) && ((r2.1.2 == 0) && true)) false) ((r2.2.1.1 == false) && ((r2.2.1.2 == 0) && true)) false) (r3.2 == r4) false) || ((cond (!(r4 == 0)) ((r3.1.1 == false) && ((r3.1.2 == 0) && true)) false) || ((cond (cond (cond (r2.2.2 == 11) ((r2.1.1 == 0) && ((r2.1.2 == 0) && true)) false) ((r2.2.1.1 == false) && ((r2.2.1.2 == 0) && true)) false) (r3.2 == r4) false) && (!(cond (!(r4 == 0)) ((r3.1.1 == false) && ((r3.1.2 == 0) && true)) false)))) then
                                                                    bif (!(cond (cond (cond (r2.2.2 == 11) ((r2.1.1 == 0) && ((r2.1.2 == 0) && true)) false) ((r2.2.1.1 == false) && ((r2.2.1.2 == 0) && true)) false) (r3.2 == r4) false)) || (cond (cond (cond (r2.2.2 == 11) ((r2.1.1 == 0) && ((r2.1.2 == 0) && true)) false) ((r2.2.1.1 == false) && ((r2.2.1.2 == 0) && true)) false) (r3.2 == r4) false) then
                                                                      some (cond (cond (cond (cond (r2.2.2 == 11) ((r2.1.1 == 0) && ((r2.1.2 == 0) && true)) false) ((r2.2.1.1 == false) && ((r2.2.1.2 == 0) && true)) false) (r3.2 == r4) false) (cond (cond (!(r4 == 0)) ((r3.1.1 == false) && ((r3.1.2 == 0) && true)) false) true (cond (r4 == 0) ((r3.1.1 == false) && ((r3.1.2 == (w (x0.2 + 1))) && true)) false)) false)
                                                                    else
                                                                      none
                                                                  else
                                                                    none
                                                                else
                                                                  none
                                                              else
                                                                none
                                                            else
                                                              none
                                                          else
                                                            none
                                                        else
                                                          none
                                                      else
                                                        none
                                                    else
                                                      none
                                                  else
                                                    none
                                                else
                                                  none
                                              else
                                                none
                                            else
                                              none
                                          else
                                            none
                                        else
                                          none
                                      else
                                        none
                                    else
                                      none
                                  else
                                    none
                                else
                                  none
                              else
                                none
                            else
                              none
                          else
                            none
                        else
                          none
                      else
                        none
                    else
                      none
                  else
                  bif !(r4 == 0) || (r4 == 0) then
                    bif !(r4 == 0) || (r4 == 0) then
                      bif (!(r4 == 0)) || (r4 == 0) then
                        bif cond (r4 == 0) (x0.2 == 2000) false then
                          bif !(r2.2.2 == 2) || (r2.2.2 == 2) then
                            bif !(r2.2.2 == 2) || (r2.2.2 == 2) then
                              bif (!(r2.2.2 == 2)) || (r2.2.2 == 2) then
                                bif !(cond (r2.2.2 == 2) ((r2.1.1 == 0) && ((r2.1.2 == 0) && true)) false) || (cond (r2.2.2 == 2) ((r2.1.1 == 0) && ((r2.1.2 == 0) && true)) false) then
                                  bif !(cond (r2.2.2 == 2) ((r2.1.1 == 0) && ((r2.1.2 == 0) && true)) false) || (cond (r2.2.2 == 2) ((r2.1.1 == 0) && ((r2.1.2 == 0) && true)) false) then
                                    bif (!(cond (r2.2.2 == 2) ((r2.1.1 == 0) && ((r2.1.2 == 0) && true)) false)) || (cond (r2.2.2 == 2) ((r2.1.1 == 0) && ((r2.1.2 == 0) && true)) false) then
                                      bif !(cond (cond (r2.2.2 == 2) ((r2.1.1 == 0) && ((r2.1.2 == 0) && true)) false) ((r2.2.1.1 == false) && ((r2.2.1.2 == 0) && true)) false) || (cond (cond (r2.2.2 == 2) ((r2.1.1 == 0) && ((r2.1.2 == 0) && true)) false) ((r2.2.1.1 == false) && ((r2.2.1.2 == 0) && true)) false) then
                                        bif !(cond (cond (r2.2.2 == 2) ((r2.1.1 == 0) && ((r2.1.2 == 0) && true)) false) ((r2.2.1.1 == false) && ((r2.2.1.2 == 0) && true)) false) || (cond (cond (r2.2.2 == 2) ((r2.1.1 == 0) && ((r2.1.2 == 0) && true)) false) ((r2.2.1.1 == false) && ((r2.2.1.2 == 0) && true)) false) then
                                          bif (!(cond (cond (r2.2.2 == 2) ((r2.1.1 == 0) && ((r2.1.2 == 0) && true)) false) ((r2.2.1.1 == false) && ((r2.2.1.2 == 0) && true)) false)) || (cond (cond (r2.2.2 == 2) ((r2.1.1 == 0) && ((r2.1.2 == 0) && true)) false) ((r2.2.1.1 == false) && ((r2.2.1.2 == 0) && true)) false) then
                                            bif !(cond (cond (cond (r2.2.2 == 2) ((r2.1.1 == 0) && ((r2.1.2 == 0) && true)) false) ((r2.2.1.1 == false) && ((r2.2.1.2 == 0) && true)) false) (r3.2 == r4) false) || (cond (cond (cond (r2.2.2 == 2) ((r2.1.1 == 0) && ((r2.1.2 == 0) && true)) false) ((r2.2.1.1 == false) && ((r2.2.1.2 == 0) && true)) false) (r3.2 == r4) false) then
                                              bif !(cond (cond (cond (r2.2.2 == 2) ((r2.1.1 == 0) && ((r2.1.2 == 0) && true)) false) ((r2.2.1.1 == false) && ((r2.2.1.2 == 0) && true)) false) (r3.2 == r4) false) || (cond (cond (cond (r2.2.2 == 2) ((r2.1.1 == 0) && ((r2.1.2 == 0) && true)) false) ((r2.2.1.1 == false) && ((r2.2.1.2 == 0) && true)) false) (r3.2 == r4) false) then
                                                bif !((cond (cond (cond (r2.2.2 == 2) ((r2.1.1 == 0) && ((r2.1.2 == 0) && true)) false) ((r2.2.1.1 == false) && ((r2.2.1.2 == 0) && true)) false) (r3.2 == r4) false) && (!(r4 == 0))) || ((cond (cond (cond (r2.2.2 == 2) ((r2.1.1 == 0) && ((r2.1.2 == 0) && true)) false) ((r2.2.1.1 == false) && ((r2.2.1.2 == 0) && true)) false) (r3.2 == r4) false) && (!(r4 == 0))) then
                                                  bif !((cond (cond (cond (r2.2.2 == 2) ((r2.1.1 == 0) && ((r2.1.2 == 0) && true)) false) ((r2.2.1.1 == false) && ((r2.2.1.2 == 0) && true)) false) (r3.2 == r4) false) && (!(r4 == 0))) || ((cond (cond (cond (r2.2.2 == 2) ((r2.1.1 == 0) && ((r2.1.2 == 0) && true)) false) ((r2.2.1.1 == false) && ((r2.2.1.2 == 0) && true)) false) (r3.2 == r4) false) && (!(r4 == 0))) then
                                                    bif !(cond (cond (cond (r2.2.2 == 2) ((r2.1.1 == 0) && ((r2.1.2 == 0) && true)) false) ((r2.2.1.1 == false) && ((r2.2.1.2 == 0) && true)) false) (r3.2 == r4) false) || (cond (cond (cond (r2.2.2 == 2) ((r2.1.1 == 0) && ((r2.1.2 == 0) && true)) false) ((r2.2.1.1 == false) && ((r2.2.1.2 == 0) && true)) false) (r3.2 == r4) false) then
                                                      bif !(cond (cond (cond (r2.2.2 == 2) ((r2.1.1 == 0) && ((r2.1.2 == 0) && true)) false) ((r2.2.1.1 == false) && ((r2.2.1.2 == 0) && true)) false) (r3.2 == r4) false) || ((!(!(r4 == 0))) || ((cond (cond (cond (r2.2.2 == 2) ((r2.1.1 == 0) && ((r2.1.2 == 0) && true)) false) ((r2.2.1.1 == false) && ((r2.2.1.2 == 0) && true)) false) (r3.2 == r4) false) && (!(r4 == 0)))) then
                                                        bif !(cond (cond (cond (r2.2.2 == 2) ((r2.1.1 == 0) && ((r2.1.2 == 0) && true)) false) ((r2.2.1.1 == false) && ((r2.2.1.2 == 0) && true)) false) (r3.2 == r4) false) || (cond (cond (cond (r2.2.2 == 2) ((r2.1.1 == 0) && ((r2.1.2 == 0) && true)) false) ((r2.2.1.1 == false) && ((r2.2.1.2 == 0) && true)) false) (r3.2 == r4) false) then
                                                          bif !((cond (cond (cond (r2.2.2 == 2) ((r2.1.1 == 0) && ((r2.1.2 == 0) && true)) false) ((r2.2.1.1 == false) && ((r2.2.1.2 == 0) && true)) false) (r3.2 == r4) false) && (!(cond (!(r4 == 0)) ((r3.1.1 == false) && ((r3.1.2 == 0) && true)) false))) || ((cond (cond (cond (r2.2.2 == 2) ((r2.1.1 == 0) && ((r2.1.2 == 0) && true)) false) ((r2.2.1.1 == false) && ((r2.2.1.2 == 0) && true)) false) (r3.2 == r4) false) && (!(cond (!(r4 == 0)) ((r3.1.1 == false) && ((r3.1.2 == 0) && true)) false))) then
                                                            bif !((cond (cond (cond (r2.2.2 == 2) ((r2.1.1 == 0) && ((r2.1.2 == 0) && true)) false) ((r2.2.1.1 == false) && ((r2.2.1.2 == 0) && true)) false) (r3.2 == r4) false) && (!(cond (!(r4 == 0)) ((r3.1.1 == false) && ((r3.1.2 == 0) && true)) false))) || ((cond (cond (cond (r2.2.2 == 2) ((r2.1.1 == 0) && ((r2.1.2 == 0) && true)) false) ((r2.2.1.1 == false) && ((r2.2.1.2 == 0) && true)) false) (r3.2 == r4) false) && (!(cond (!(r4 == 0)) ((r3.1.1 == false) && ((r3.1.2 == 0) && true)) false))) then
                                                              bif !(((cond (cond (cond (r2.2.2 == 2) ((r2.1.1 == 0) && ((r2.1.2 == 0) && true)) false) ((r2.2.1.1 == false) && ((r2.2.1.2 == 0) && true)) false) (r3.2 == r4) false) && (!(cond (!(r4 == 0)) ((r3.1.1 == false) && ((r3.1.2 == 0) && true)) false))) && (r4 == 0)) || (((cond (cond (cond (r2.2.2 == 2) ((r2.1.1 == 0) && ((r2.1.2 == 0) && true)) false) ((r2.2.1.1 == false) && ((r2.2.1.2 == 0) && true)) false) (r3.2 == r4) false) && (!(cond (!(r4 == 0)) ((r3.1.1 == false) && ((r3.1.2 == 0) && true)) false))) && (r4 == 0)) then
                                                                bif !(((cond (cond (cond (r2.2.2 == 2) ((r2.1.1 == 0) && ((r2.1.2 == 0) && true)) false) ((r2.2.1.1 == false) && ((r2.2.1.2 == 0) && true)) false) (r3.2 == r4) false) && (!(cond (!(r4 == 0)) ((r3.1.1 == false) && ((r3.1.2 == 0) && true)) false))) && (r4 == 0)) || (((cond (cond (cond (r2.2.2 == 2) ((r2.1.1 == 0) && ((r2.1.2 == 0) && true)) false) ((r2.2.1.1 == false) && ((r2.2.1.2 == 0) && true)) false) (r3.2 == r4) false) && (!(cond (!(r4 == 0)) ((r3.1.1 == false) && ((r3.1.2 == 0) && true)) false))) && (r4 == 0)) then
                                                                  bif !((cond (cond (cond (r2.2.2 == 2) ((r2.1.1 == 0) && ((r2.1.2 == 0) && true)) false) ((r2.2.1.1 == false) && ((r2.2.1.2 == 0) && true)) false) (r3.2 == r4) false) && (!(cond (!(r4 == 0)) ((r3.1.1 == false) && ((r3.1.2 == 0) && true)) false))) || ((cond (cond (cond (r2.2.2 == 2) ((r2.1.1 == 0) && ((r2.1.2 == 0) && true)) false) ((r2.2.1.1 == false) && ((r2.2.1.2 == 0) && true)) false) (r3.2 == r4) false) && (!(cond (!(r4 == 0)) ((r3.1.1 == false) && ((r3.1.2 == 0) && true)) false))) then
                                                                    bif !((cond (cond (cond (r2.2.2 == 2) ((r2.1.1 == 0) && ((r2.1.2 == 0) && true)) false) ((r2.2.1.1 == false) && ((r2.2.1.2 == 0) && true)) false) (r3.2 == r4) false) && (!(cond (!(r4 == 0)) ((r3.1.1 == false) && ((r3.1.2 == 0) && true)) false))) || ((!(r4 == 0)) || (((cond (cond (cond (r2.2.2 == 2) ((r2.1.1 == 0) && ((r2.1.2 == 0) && true)) false) ((r2.2.1.1 == false) && ((r2.2.1.2 == 0) && true)) false) (r3.2 == r4) false) && (!(cond (!(r4 == 0)) ((r3.1.1 == false) && ((r3.1.2 == 0) && true)) false))) && (r4 == 0))) then
                                                                      bif !(cond (cond (cond (r2.2.2 == 2) ((r2.1.1 == 0) && ((r2.1.2 == 0) && true)) false) ((r2.2.1.1 == false) && ((r2.2.1.2 == 0) && true)) false) (r3.2 == r4) false) || (cond (cond (cond (r2.2.2 == 2) ((r2.1.1 == 0) && ((r2.1.2 == 0) && true)) false) ((r2.2.1.1 == false) && ((r2.2.1.2 == 0) && true)) false) (r3.2 == r4) false) then
                                                                        bif !(cond (cond (cond (r2.2.2 == 2) ((r2.1.1 == 0) && ((r2.1.2 == 0) && true)) false) ((r2.2.1.1 == false) && ((r2.2.1.2 == 0) && true)) false) (r3.2 == r4) false) || ((cond (!(r4 == 0)) ((r3.1.1 == false) && ((r3.1.2 == 0) && true)) false) || ((cond (cond (cond (r2.2.2 == 2) ((r2.1.1 == 0) && ((r2.1.2 == 0) && true)) false) ((r2.2.1.1 == false) && ((r2.2.1.2 == 0) && true)) false) (r3.2 == r4) false) && (!(cond (!(r4 == 0)) ((r3.1.1 == false) && ((r3.1.2 == 0) && true)) false)))) then
                                                                          bif (!(cond (cond (cond (r2.2.2 == 2) ((r2.1.1 == 0) && ((r2.1.2 == 0) && true)) false) ((r2.2.1.1 == false) && ((r2.2.1.2 == 0) && true)) false) (r3.2 == r4) false)) || (cond (cond (cond (r2.2.2 == 2) ((r2.1.1 == 0) && ((r2.1.2 == 0) && true)) false) ((r2.2.1.1 == false) && ((r2.2.1.2 == 0) && true)) false) (r3.2 == r4) false) then
                                                                            some (cond (cond (cond (cond (r2.2.2 == 2) ((r2.1.1 == 0) && ((r2.1.2 == 0) && true)) false) ((r2.2.1.1 == false) && ((r2.2.1.2 == 0) && true)) false) (r3.2 == r4) false) (cond (cond (!(r4 == 0)) ((r3.1.1 == false) && ((r3.1.2 == 0) && true)) false) true (cond (r4 == 0) ((r3.1.1 == false) && ((r3.1.2 == (w (x0.2 + 1))) && true)) false)) false)
                                                                          else
                                                                            none
                                                                        else
                                                                          none
                                                                      else
                                                                        none
                                                                    else
                                                                      none
                                                                  else
                                                                    none
                                                                else
                                                                  none
                                                              else
                                                                none
                                                            else
                                                              none
                                                          else
                                                            none
                                                        else
                                                          none
                                                      else
                                                        none
                                                    else
                                                      none
                                                  else
                                                    none
                                                else
                                                  none
                                              else
                                                none
                                            else
                                              none
                                          else
                                            none
                                        else
                                          none
                                      else
                                        none
                                    else
                                      none
                                  else
                                    none
                                else
                                  none
                              else
                                none
                            else
                              none
                          else
                            none
                        else
                        bif !(r4 == 0) then
                          bif !(r2.2.2 == r4) || (r2.2.2 == r4) then
                            bif !(r2.2.2 == r4) || (r2.2.2 == r4) then
                              bif (!(r2.2.2 == r4)) || (r2.2.2 == r4) then
                                bif !(cond (r2.2.2 == r4) ((r2.1.1 == 0) && ((r2.1.2 == 0) && true)) false) || (cond (r2.2.2 == r4) ((r2.1.1 == 0) && ((r2.1.2 == 0) && true)) false) then
                                  bif !(cond (r2.2.2 == r4) ((r2.1.1 == 0) && ((r2.1.2 == 0) && true)) false) || (cond (r2.2.2 == r4) ((r2.1.1 == 0) && ((r2.1.2 == 0) && true)) false) then
                                    bif (!(cond (r2.2.2 == r4) ((r2.1.1 == 0) && ((r2.1.2 == 0) && true)) false)) || (cond (r2.2.2 == r4) ((r2.1.1 == 0) && ((r2.1.2 == 0) && true)) false) then
                                      bif !(cond (cond (r2.2.2 == r4) ((r2.1.1 == 0) && ((r2.1.2 == 0) && true)) false) ((r2.2.1.1 == false) && ((r2.2.1.2 == 0) && true)) false) || (cond (cond (r2.2.2 == r4) ((r2.1.1 == 0) && ((r2.1.2 == 0) && true)) false) ((r2.2.1.1 == false) && ((r2.2.1.2 == 0) && true)) false) then
                                        bif !(cond (cond (r2.2.2 == r4) ((r2.1.1 == 0) && ((r2.1.2 == 0) && true)) false) ((r2.2.1.1 == false) && ((r2.2.1.2 == 0) && true)) false) || (cond (cond (r2.2.2 == r4) ((r2.1.1 == 0) && ((r2.1.2 == 0) && true)) false) ((r2.2.1.1 == false) && ((r2.2.1.2 == 0) && true)) false) then
                                          bif (!(cond (cond (r2.2.2 == r4) ((r2.1.1 == 0) && ((r2.1.2 == 0) && true)) false) ((r2.2.1.1 == false) && ((r2.2.1.2 == 0) && true)) false)) || (cond (cond (r2.2.2 == r4) ((r2.1.1 == 0) && ((r2.1.2 == 0) && true)) false) ((r2.2.1.1 == false) && ((r2.2.1.2 == 0) && true)) false) then
                                            bif !(cond (cond (cond (r2.2.2 == r4) ((r2.1.1 == 0) && ((r2.1.2 == 0) && true)) false) ((r2.2.1.1 == false) && ((r2.2.1.2 == 0) && true)) false) (r3.2 == r4) false) || (cond (cond (cond (r2.2.2 == r4) ((r2.1.1 == 0) && ((r2.1.2 == 0) && true)) false) ((r2.2.1.1 == false) && ((r2.2.1.2 == 0) && true)) false) (r3.2 == r4) false) then
                                              bif !(cond (cond (cond (r2.2.2 == r4) ((r2.1.1 == 0) && ((r2.1.2 == 0) && true)) false) ((r2.2.1.1 == false) && ((r2.2.1.2 == 0) && true)) false) (r3.2 == r4) false) || (cond (cond (cond (r2.2.2 == r4) ((r2.1.1 == 0) && ((r2.1.2 == 0) && true)) false) ((r2.2.1.1 == false) && ((r2.2.1.2 == 0) && true)) false) (r3.2 == r4) false) then
                                                bif !((cond (cond (cond (r2.2.2 == r4) ((r2.1.1 == 0) && ((r2.1.2 == 0) && true)) false) ((r2.2.1.1 == false) && ((r2.2.1.2 == 0) && true)) false) (r3.2 == r4) false) && (!(r4 == 0))) || ((cond (cond (cond (r2.2.2 == r4) ((r2.1.1 == 0) && ((r2.1.2 == 0) && true)) false) ((r2.2.1.1 == false) && ((r2.2.1.2 == 0) && true)) false) (r3.2 == r4) false) && (!(r4 == 0))) then
                                                  bif !((cond (cond (cond (r2.2.2 == r4) ((r2.1.1 == 0) && ((r2.1.2 == 0) && true)) false) ((r2.2.1.1 == false) && ((r2.2.1.2 == 0) && true)) false) (r3.2 == r4) false) && (!(r4 == 0))) || ((cond (cond (cond (r2.2.2 == r4) ((r2.1.1 == 0) && ((r2.1.2 == 0) && true)) false) ((r2.2.1.1 == false) && ((r2.2.1.2 == 0) && true)) false) (r3.2 == r4) false) && (!(r4 == 0))) then
                                                    bif !(cond (cond (cond (r2.2.2 == r4) ((r2.1.1 == 0) && ((r2.1.2 == 0) && true)) false) ((r2.2.1.1 == false) && ((r2.2.1.2 == 0) && true)) false) (r3.2 == r4) false) || (cond (cond (cond (r2.2.2 == r4) ((r2.1.1 == 0) && ((r2.1.2 == 0) && true)) false) ((r2.2.1.1 == false) && ((r2.2.1.2 == 0) && true)) false) (r3.2 == r4) false) then
                                                      bif !(cond (cond (cond (r2.2.2 == r4) ((r2.1.1 == 0) && ((r2.1.2 == 0) && true)) false) ((r2.2.1.1 == false) && ((r2.2.1.2 == 0) && true)) false) (r3.2 == r4) false) || ((!(!(r4 == 0))) || ((cond (cond (cond (r2.2.2 == r4) ((r2.1.1 == 0) && ((r2.1.2 == 0) && true)) false) ((r2.2.1.1 == false) && ((r2.2.1.2 == 0) && true)) false) (r3.2 == r4) false) && (!(r4 == 0)))) then
                                                        bif !(cond (cond (cond (r2.2.2 == r4) ((r2.1.1 == 0) && ((r2.1.2 == 0) && true)) false) ((r2.2.1.1 == false) && ((r2.2.1.2 == 0) && true)) false) (r3.2 == r4) false) || (cond (cond (cond (r2.2.2 == r4) ((r2.1.1 == 0) && ((r2.1.2 == 0) && true)) false) ((r2.2.1.1 == false) && ((r2.2.1.2 == 0) && true)) false) (r3.2 == r4) false) then
                                                          bif !((cond (cond (cond (r2.2.2 == r4) ((r2.1.1 == 0) && ((r2.1.2 == 0) && true)) false) ((r2.2.1.1 == false) && ((r2.2.1.2 == 0) && true)) false) (r3.2 == r4) false) && (!(cond (!(r4 == 0)) ((r3.1.1 == false) && ((r3.1.2 == 0) && true)) false))) || ((cond (cond (cond (r2.2.2 == r4) ((r2.1.1 == 0) && ((r2.1.2 == 0) && true)) false) ((r2.2.1.1 == false) && ((r2.2.1.2 == 0) && true)) false) (r3.2 == r4) false) && (!(cond (!(r4 == 0)) ((r3.1.1 == false) && ((r3.1.2 == 0) && true)) false))) then
                                                            bif !((cond (cond (cond (r2.2.2 == r4) ((r2.1.1 == 0) && ((r2.1.2 == 0) && true)) false) ((r2.2.1.1 == false) && ((r2.2.1.2 == 0) && true)) false) (r3.2 == r4) false) && (!(cond (!(r4 == 0)) ((r3.1.1 == false) && ((r3.1.2 == 0) && true)) false))) || ((cond (cond (cond (r2.2.2 == r4) ((r2.1.1 == 0) && ((r2.1.2 == 0) && true)) false) ((r2.2.1.1 == false) && ((r2.2.1.2 == 0) && true)) false) (r3.2 == r4) false) && (!(cond (!(r4 == 0)) ((r3.1.1 == false) && ((r3.1.2 == 0) && true)) false))) then
                                                              bif !(((cond (cond (cond (r2.2.2 == r4) ((r2.1.1 == 0) && ((r2.1.2 == 0) && true)) false) ((r2.2.1.1 == false) && ((r2.2.1.2 == 0) && true)) false) (r3.2 == r4) false) && (!(cond (!(r4 == 0)) ((r3.1.1 == false) && ((r3.1.2 == 0) && true)) false))) && (r4 == 0)) || (((cond (cond (cond (r2.2.2 == r4) ((r2.1.1 == 0) && ((r2.1.2 == 0) && true)) false) ((r2.2.1.1 == false) && ((r2.2.1.2 == 0) && true)) false) (r3.2 == r4) false) && (!(cond (!(r4 == 0)) ((r3.1.1 == false) && ((r3.1.2 == 0) && true)) false))) && (r4 == 0)) then
                                                                bif !(((cond (cond (cond (r2.2.2 == r4) ((r2.1.1 == 0) && ((r2.1.2 == 0) && true)) false) ((r2.2.1.1 == false) && ((r2.2.1.2 == 0) && true)) false) (r3.2 == r4) false) && (!(cond (!(r4 == 0)) ((r3.1.1 == false) && ((r3.1.2 == 0) && true)) false))) && (r4 == 0)) || (((cond (cond (cond (r2.2.2 == r4) ((r2.1.1 == 0) && ((r2.1.2 == 0) && true)) false) ((r2.2.1.1 == false) && ((r2.2.1.2 == 0) && true)) false) (r3.2 == r4) false) && (!(cond (!(r4 == 0)) ((r3.1.1 == false) && ((r3.1.2 == 0) && true)) false))) && (r4 == 0)) then
                                                                  bif !((cond (cond (cond (r2.2.2 == r4) ((r2.1.1 == 0) && ((r2.1.2 == 0) && true)) false) ((r2.2.1.1 == false) && ((r2.2.1.2 == 0) && true)) false) (r3.2 == r4) false) && (!(cond (!(r4 == 0)) ((r3.1.1 == false) && ((r3.1.2 == 0) && true)) false))) || ((cond (cond (cond (r2.2.2 == r4) ((r2.1.1 == 0) && ((r2.1.2 == 0) && true)) false) ((r2.2.1.1 == false) && ((r2.2.1.2 == 0) && true)) false) (r3.2 == r4) false) && (!(cond (!(r4 == 0)) ((r3.1.1 == false) && ((r3.1.2 == 0) && true)) false))) then
                                                                    bif !((cond (cond (cond (r2.2.2 == r4) ((r2.1.1 == 0) && ((r2.1.2 == 0) && true)) false) ((r2.2.1.1 == false) && ((r2.2.1.2 == 0) && true)) false) (r3.2 == r4) false) && (!(cond (!(r4 == 0)) ((r3.1.1 == false) && ((r3.1.2 == 0) && true)) false))) || ((!(r4 == 0)) || (((cond (cond (cond (r2.2.2 == r4) ((r2.1.1 == 0) && ((r2.1.2 == 0) && true)) false) ((r2.2.1.1 == false) && ((r2.2.1.2 == 0) && true)) false) (r3.2 == r4) false) && (!(cond (!(r4 == 0)) ((r3.1.1 == false) && ((r3.1.2 == 0) && true)) false))) && (r4 == 0))) then
                                                                      bif !(cond (cond (cond (r2.2.2 == r4) ((r2.1.1 == 0) && ((r2.1.2 == 0) && true)) false) ((r2.2.1.1 == false) && ((r2.2.1.2 == 0) && true)) false) (r3.2 == r4) false) || (cond (cond (cond (r2.2.2 == r4) ((r2.1.1 == 0) && ((r2.1.2 == 0) && true)) false) ((r2.2.1.1 == false) && ((r2.2.1.2 == 0) && true)) false) (r3.2 == r4) false) then
                                                                        bif !(cond (cond (cond (r2.2.2 == r4) ((r2.1.1 == 0) && ((r2.1.2 == 0) && true)) false) ((r2.2.1.1 == false) && ((r2.2.1.2 == 0) && true)) false) (r3.2 == r4) false) || ((cond (!(r4 == 0)) ((r3.1.1 == false) && ((r3.1.2 == 0) && true)) false) || ((cond (cond (cond (r2.2.2 == r4) ((r2.1.1 == 0) && ((r2.1.2 == 0) && true)) false) ((r2.2.1.1 == false) && ((r2.2.1.2 == 0) && true)) false) (r3.2 == r4) false) && (!(cond (!(r4 == 0)) ((r3.1.1 == false) && ((r3.1.2 == 0) && true)) false)))) then
                                                                          bif (!(cond (cond (cond (r2.2.2 == r4) ((r2.1.1 == 0) && ((r2.1.2 == 0) && true)) false) ((r2.2.1.1 == false) && ((r2.2.1.2 == 0) && true)) false) (r3.2 == r4) false)) || (cond (cond (cond (r2.2.2 == r4) ((r2.1.1 == 0) && ((r2.1.2 == 0) && true)) false) ((r2.2.1.1 == false) && ((r2.2.1.2 == 0) && true)) false) (r3.2 == r4) false) then
                                                                            some (cond (cond (cond (cond (r2.2.2 == r4) ((r2.1.1 == 0) && ((r2.1.2 == 0) && true)) false) ((r2.2.1.1 == false) && ((r2.2.1.2 == 0) && true)) false) (r3.2 == r4) false) (cond (cond (!(r4 == 0)) ((r3.1.1 == false) && ((r3.1.2 == 0) && true)) false) true (cond (r4 == 0) ((r3.1.1 == false) && ((r3.1.2 == (w (x0.2 + 1))) && true)) false)) false)
                                                                          else
                                                                            none
                                                                        else
                                                                          none
                                                                      else
                                                                        none
                                                                    else
                                                                      none
                                                                  else
                                                                    none
                                                                else
                                                                  none
                                                              else
                                                                none
                                                            else
                                                              none
                                                          else
                                                            none
                                                        else
                                                          none
                                                      else
                                                        none
                                                    else
                                                      none
                                                  else
                                                    none
                                                else
                                                  none
                                              else
                                                none
                                            else
                                              none
                                          else
                                            none
                                        else
                                          none
                                      else
                                        none
                                    else
                                      none
                                  else
                                    none
                                else
                                  none
                              else
                                none
                            else
                              none
                          else
                            none
                        else
                        bif !(r2.2.2 == 0) || (r2.2.2 == 0) then
                          bif !(r2.2.2 == 0) || (r2.2.2 == 0) then
                            bif !(r2.2.2 == 0) || (r2.2.2 == 0) then
                              bif !(r2.2.2 == 0) || (r2.2.2 == 0) then
                                bif (!(r2.2.2 == 0)) || (r2.2.2 == 0) then
                                  bif !(cond (r2.2.2 == 0) ((r2.1.1 == 2) && ((r2.1.2 == x0.2) && true)) false) || (cond (r2.2.2 == 0) ((r2.1.1 == 2) && ((r2.1.2 == x0.2) && true)) false) then
                                    bif !(cond (r2.2.2 == 0) ((r2.1.1 == 2) && ((r2.1.2 == x0.2) && true)) false) || (cond (r2.2.2 == 0) ((r2.1.1 == 2) && ((r2.1.2 == x0.2) && true)) false) then
                                      bif (!(cond (r2.2.2 == 0) ((r2.1.1 == 2) && ((r2.1.2 == x0.2) && true)) false)) || (cond (r2.2.2 == 0) ((r2.1.1 == 2) && ((r2.1.2 == x0.2) && true)) false) then
                                        bif !(cond (cond (r2.2.2 == 0) ((r2.1.1 == 2) && ((r2.1.2 == x0.2) && true)) false) ((r2.2.1.1 == false) && ((r2.2.1.2 == (w (x0.2 + 1))) && true)) false) || (cond (cond (r2.2.2 == 0) ((r2.1.1 == 2) && ((r2.1.2 == x0.2) && true)) false) ((r2.2.1.1 == false) && ((r2.2.1.2 == (w (x0.2 + 1))) && true)) false) then
                                          bif (!(cond (cond (r2.2.2 == 0) ((r2.1.1 == 2) && ((r2.1.2 == x0.2) && true)) false) ((r2.2.1.1 == false) && ((r2.2.1.2 == (w (x0.2 + 1))) && true)) false)) || (cond (cond (r2.2.2 == 0) ((r2.1.1 == 2) && ((r2.1.2 == x0.2) && true)) false) ((r2.2.1.1 == false) && ((r2.2.1.2 == (w (x0.2 + 1))) && true)) false) then
                                            bif !(cond (cond (cond (r2.2.2 == 0) ((r2.1.1 == 2) && ((r2.1.2 == x0.2) && true)) false) ((r2.2.1.1 == false) && ((r2.2.1.2 == (w (x0.2 + 1))) && true)) false) (r3.2 == 11) false) || (cond (cond (cond (r2.2.2 == 0) ((r2.1.1 == 2) && ((r2.1.2 == x0.2) && true)) false) ((r2.2.1.1 == false) && ((r2.2.1.2 == (w (x0.2 + 1))) && true)) false) (r3.2 == 11) false) then
                                              bif !(cond (cond (cond (r2.2.2 == 0) ((r2.1.1 == 2) && ((r2.1.2 == x0.2) && true)) false) ((r2.2.1.1 == false) && ((r2.2.1.2 == (w (x0.2 + 1))) && true)) false) (r3.2 == 11) false) || (cond (cond (cond (r2.2.2 == 0) ((r2.1.1 == 2) && ((r2.1.2 == x0.2) && true)) false) ((r2.2.1.1 == false) && ((r2.2.1.2 == (w (x0.2 + 1))) && true)) false) (r3.2 == 11) false) then
                                                bif (!(cond (cond (cond (r2.2.2 == 0) ((r2.1.1 == 2) && ((r2.1.2 == x0.2) && true)) false) ((r2.2.1.1 == false) && ((r2.2.1.2 == (w (x0.2 + 1))) && true)) false) (r3.2 == 11) false)) || (cond (cond (cond (r2.2.2 == 0) ((r2.1.1 == 2) && ((r2.1.2 == x0.2) && true)) false) ((r2.2.1.1 == false) && ((r2.2.1.2 == (w (x0.2 + 1))) && true)) false) (r3.2 == 11) false) then
                                                  some (cond (cond (cond (cond (r2.2.2 == 0) ((r2.1.1 == 2) && ((r2.1.2 == x0.2) && true)) false) ((r2.2.1.1 == false) && ((r2.2.1.2 == (w (x0.2 + 1))) && true)) false) (r3.2 == 11) false) ((r3.1.1 == false) && ((r3.1.2 == 0) && true)) false)
                                                else
                                                  none
                                              else
                                                none
                                            else
                                              none
                                          else
                                            none
                                        else
                                          none
                                      else
                                        none
                                    else
                                      none
                                  else
                                    none
                                else
                                  none
                              else
                                none
                            else
                              none
                          else
                            none
                        else
                          none
                      else
                        none
                    else
                      none
                  else
                    none
                else
                  none
              else
                none
            else
              none
          else
            none
        else
          none
      else
        none := by kernel_rfl
theorem taut18 : ∀ p0 p1 p2 p3 p4 p5 p6 p7 : Bool, ((!(((cond (cond (cond (p0) ((p1) && ((p2) && true)) false) ((p3) && ((p4) && true)) false) (p5) false) && (!((p6) && ((p7) && true)))) && false) || (((cond (cond (cond (p0) ((p1) && ((p2) && true)) false) ((p3) && ((p4) && true)) false) (p5) false) && (!((p6) && ((p7) && true)))) && false))) = true := by decide
theorem taut19 : ∀ p0 p1 p2 p3 p4 p5 p6 p7 p8 : Bool, ((!(((cond (cond (cond (p0) ((p1) && ((p2) && true)) false) ((p3) && ((p4) && true)) false) (p5) false) && (!(cond (!(p6)) ((p7) && ((p8) && true)) false))) && (p6)) || (((cond (cond (cond (p0) ((p1) && ((p2) && true)) false) ((p3) && ((p4) && true)) false) (p5) false) && (!(cond (!(p6)) ((p7) && ((p8) && true)) false))) && (p6)))) = true := by decide
theorem taut20 : ∀ p0 p1 p2 p3 p4 p5 p6 p7 : Bool, ((!((cond (cond (cond (p0) ((p1) && ((p2) && true)) false) ((p3) && ((p4) && true)) false) (p5) false) && (!((p6) && ((p7) && true)))) || ((cond (cond (cond (p0) ((p1) && ((p2) && true)) false) ((p3) && ((p4) && true)) false) (p5) false) && (!((p6) && ((p7) && true)))))) = true := by decide
theorem taut21 : ∀ p0 p1 p2 p3 p4 p5 p6 p7 : Bool, ((!((cond (cond (cond (p0) ((p1) && ((p2) && true)) false) ((p3) && ((p4) && true)) false) (p5) false) && (!((p6) && ((p7) && true)))) || true)) = true := by decide
theorem taut22 : ∀ p0 p1 p2 p3 p4 p5 p6 p7 p8 : Bool, ((!((cond (cond (cond (p0) ((p1) && ((p2) && true)) false) ((p3) && ((p4) && true)) false) (p5) false) && (!(cond (!(p6)) ((p7) && ((p8) && true)) false))) || ((!(p6)) || (((cond (cond (cond (p0) ((p1) && ((p2) && true)) false) ((p3) && ((p4) && true)) false) (p5) false) && (!(cond (!(p6)) ((p7) && ((p8) && true)) false))) && (p6))))) = true := by decide
theorem taut23 : ∀ p0 p1 p2 p3 p4 p5 p6 p7 p8 : Bool, ((!((cond (cond (cond (p0) ((p1) && ((p2) && true)) false) ((p3) && ((p4) && true)) false) (p5) false) && (!(cond (!(p6)) ((p7) && ((p8) && true)) false))) || ((cond (cond (cond (p0) ((p1) && ((p2) && true)) false) ((p3) && ((p4) && true)) false) (p5) false) && (!(cond (!(p6)) ((p7) && ((p8) && true)) false))))) = true := by decide
theorem taut24 : ∀ p0 p1 p2 p3 p4 p5 p6 : Bool, ((!((cond (cond (cond (p0) ((p1) && ((p2) && true)) false) ((p3) && ((p4) && true)) false) (p5) false) && (!(p6))) || ((cond (cond (cond (p0) ((p1) && ((p2) && true)) false) ((p3) && ((p4) && true)) false) (p5) false) && (!(p6))))) = true := by decide
theorem taut25 : ∀ p0 p1 p2 p3 p4 p5 : Bool, ((!((cond (cond (cond (p0) ((p1) && ((p2) && true)) false) ((p3) && ((p4) && true)) false) (p5) false) && true) || ((cond (cond (cond (p0) ((p1) && ((p2) && true)) false) ((p3) && ((p4) && true)) false) (p5) false) && true))) = true := by decide
theorem taut26 : ∀ p0 p1 p2 p3 p4 p5 p6 : Bool, ((!(cond (cond (cond (p0) ((p1) && ((p2) && true)) false) ((p3) && ((p4) && true)) false) (p5) false) || ((!(!(p6))) || ((cond (cond (cond (p0) ((p1) && ((p2) && true)) false) ((p3) && ((p4) && true)) false) (p5) false) && (!(p6)))))) = true := by decide
theorem taut27 : ∀ p0 p1 p2 p3 p4 p5 p6 p7 : Bool, ((!(cond (cond (cond (p0) ((p1) && ((p2) && true)) false) ((p3) && ((p4) && true)) false) (p5) false) || (((p6) && ((p7) && true)) || ((cond (cond (cond (p0) ((p1) && ((p2) && true)) false) ((p3) && ((p4) && true)) false) (p5) false) && (!((p6) && ((p7) && true))))))) = true := by decide
theorem taut28 : ∀ p0 p1 p2 p3 p4 p5 p6 p7 p8 : Bool, ((!(cond (cond (cond (p0) ((p1) && ((p2) && true)) false) ((p3) && ((p4) && true)) false) (p5) false) || ((cond (!(p6)) ((p7) && ((p8) && true)) false) || ((cond (cond (cond (p0) ((p1) && ((p2) && true)) false) ((p3) && ((p4) && true)) false) (p5) false) && (!(cond (!(p6)) ((p7) && ((p8) && true)) false)))))) = true := by decide
theorem taut29 : ∀ p0 p1 p2 p3 p4 p5 : Bool, ((!(cond (cond (cond (p0) ((p1) && ((p2) && true)) false) ((p3) && ((p4) && true)) false) (p5) false) || ((cond (cond (cond (p0) ((p1) && ((p2) && true)) false) ((p3) && ((p4) && true)) false) (p5) false) && true))) = true := by decide
theorem taut30 : ∀ p0 p1 p2 p3 p4 p5 : Bool, ((!(cond (cond (cond (p0) ((p1) && ((p2) && true)) false) ((p3) && ((p4) && true)) false) (p5) false) || (cond (cond (cond (p0) ((p1) && ((p2) && true)) false) ((p3) && ((p4) && true)) false) (p5) false))) = true := by decide
theorem taut31 : ∀ p0 p1 p2 p3 p4 : Bool, ((!(cond (cond (p0) ((p1) && ((p2) && true)) false) ((p3) && ((p4) && true)) false) || (cond (cond (p0) ((p1) && ((p2) && true)) false) ((p3) && ((p4) && true)) false))) = true := by decide
theorem taut32 : ∀ p0 p1 p2 : Bool, ((!(cond (p0) ((p1) && ((p2) && true)) false) || (cond (p0) ((p1) && ((p2) && true)) false))) = true := by decide
theorem taut33 : ∀ p0 p1 p2 p3 p4 p5 : Bool, (((!(cond (cond (cond (p0) ((p1) && ((p2) && true)) false) ((p3) && ((p4) && true)) false) (p5) false)) || (cond (cond (cond (p0) ((p1) && ((p2) && true)) false) ((p3) && ((p4) && true)) false) (p5) false))) = true := by decide
theorem taut34 : ∀ p0 p1 p2 p3 p4 : Bool, (((!(cond (cond (p0) ((p1) && ((p2) && true)) false) ((p3) && ((p4) && true)) false)) || (cond (cond (p0) ((p1) && ((p2) && true)) false) ((p3) && ((p4) && true)) false))) = true := by decide
theorem taut35 : ∀ p0 p1 p2 : Bool, (((!(cond (p0) ((p1) && ((p2) && true)) false)) || (cond (p0) ((p1) && ((p2) && true)) false))) = true := by decide
theorem F3.clean (N : Nat) (x0 : Int × Int) : F3.fn N x0 =
    (F14.fn N ()).bind fun r1 =>
    bif !r1 then
      some false
    else
      (F15.fn N (x0.1, x0.2)).bind fun r2 =>
      (F16.fn N (x0.1, x0.2)).bind fun r3 =>
      (F17.fn N (x0.1, x0.2)).bind fun r4 =>
      (F18.fn N (x0.1, x0.2)).bind fun r5 =>
      bif !(r5 == r4) then
        some false
      else
      bif cond (r4 == 0) (!(x0.1 == 2)) false then
        bif cond (r4 == 0) (!(x0.1 == 1)) false then
          some (cond (cond (cond (cond (r2.2.2 == 11) ((r2.1.1 == 0) && ((r2.1.2 == 0) && true)) false) ((r2.2.1.1 == false) && ((r2.2.1.2 == 0) && true)) false) (r3.2 == 11) false) (cond ((r3.1.1 == false) && ((r3.1.2 == 0) && true)) true false) false)
        else
        bif cond (r4 == 0) (x0.2 == 2000) false then
          some (cond (cond (cond (cond (r2.2.2 == 2) ((r2.1.1 == 0) && ((r2.1.2 == 0) && true)) false) ((r2.2.1.1 == false) && ((r2.2.1.2 == 0) && true)) false) (r3.2 == 11) false) (cond ((r3.1.1 == false) && ((r3.1.2 == 0) && true)) true false) false)
        else
        bif !(r4 == 0) then
          some (cond (cond (cond (cond (r2.2.2 == r4) ((r2.1.1 == 0) && ((r2.1.2 == 0) && true)) false) ((r2.2.1.1 == false) && ((r2.2.1.2 == 0) && true)) false) (r3.2 == 11) false) (cond ((r3.1.1 == false) && ((r3.1.2 == 0) && true)) true false) false)
        else
        some (cond (cond (cond (cond (r2.2.2 == 0) ((r2.1.1 == 2) && ((r2.1.2 == x0.2) && true)) false) ((r2.2.1.1 == false) && ((r2.2.1.2 == (w (x0.2 + 1))) && true)) false) (r3.2 == 11) false) ((r3.1.1 == false) && ((r3.1.2 == 0) && true)) false)
      else
      bif cond (r4 == 0) (!(x0.1 == 1)) false then
        some (cond (cond (cond (cond (r2.2.2 == 11) ((r2.1.1 == 0) && ((r2.1.2 == 0) && true)) false) ((r2.2.1.1 == false) && ((r2.2.1.2 == 0) && true)) false) (r3.2 == r4) false) (cond (cond (!(r4 == 0)) ((r3.1.1 == false) && ((r3.1.2 == 0) && true)) false) true (cond (r4 == 0) ((r3.1.1 == false) && ((r3.1.2 == (w (x0.2 + 1))) && true)) false)) false)
      else
      bif cond (r4 == 0) (x0.2 == 2000) false then
        some (cond (cond (cond (cond (r2.2.2 == 2) ((r2.1.1 == 0) && ((r2.1.2 == 0) && true)) false) ((r2.2.1.1 == false) && ((r2.2.1.2 == 0) && true)) false) (r3.2 == r4) false) (cond (cond (!(r4 == 0)) ((r3.1.1 == false) && ((r3.1.2 == 0) && true)) false) true (cond (r4 == 0) ((r3.1.1 == false) && ((r3.1.2 == (w (x0.2 + 1))) && true)) false)) false)
      else
      bif !(r4 == 0) then
        some (cond (cond (cond (cond (r2.2.2 == r4) ((r2.1.1 == 0) && ((r2.1.2 == 0) && true)) false) ((r2.2.1.1 == false) && ((r2.2.1.2 == 0) && true)) false) (r3.2 == r4) false) (cond (cond (!(r4 == 0)) ((r3.1.1 == false) && ((r3.1.2 == 0) && true)) false) true (cond (r4 == 0) ((r3.1.1 == false) && ((r3.1.2 == (w (x0.2 + 1))) && true)) false)) false)
      else
      some (cond (cond (cond (cond (r2.2.2 == 0) ((r2.1.1 == 2) && ((r2.1.2 == x0.2) && true)) false) ((r2.2.1.1 == false) && ((r2.2.1.2 == (w (x0.2 + 1))) && true)) false) (r3.2 == 11) false) ((r3.1.1 == false) && ((r3.1.2 == 0) && true)) false) := by
  rw [F3.eq]; simp only [taut18, taut19, taut20, taut21, taut22, taut23, taut24, taut25, taut26, taut27, taut28, taut29, taut30, taut31, taut32, taut3, taut33, taut34, taut35, taut4, cond_true]

end Go.Proofs.Ytalaepaomnfgjaa.Sk
