/- PRINTED by gen.py: what the functions answer. Not trusted: Lean checks it. -/
import Derived.Test.YtalaepaomnfgjaaSkTab
set_option linter.unusedVariables false
set_option linter.unusedSimpArgs false
set_option maxRecDepth 100000
namespace Go.Proofs.Ytalaepaomnfgjaa.Sk
open Go
def tyTab : TypeId → Option Ty := tyOf [(3, .int .i64), (9, .str), (64, .pair (.pair (.int .i64) (.int .i64)) (.int .i64)), (89, .pair (.int .i64) (.str))]
theorem mixed : Try.prog.follows .mixedOrders = true := by kernel_rfl
/-! ### F71: skyway/link.Begin -/
def F71.kp : List (Nat × List (Nat × Option (TypeId × Ty))) := []
noncomputable def F71.G (N : Nat) : List (Nat × Spec) := []
noncomputable def F71.E (N : Nat) : Env := mkEnv (F71.G N) N tyTab F71.kp
noncomputable def F71.fn (N : Nat) (x : Unit) : Option (Int × List ByteArray) := evFn (F71.E N) Try.prog 3 Try.f71 false [] [.val (.agg (.pair (.int .i64) (.sl 9 (.str))))] x
noncomputable def F71.S (N : Nat) : PSpec := ⟨false, [], [.val (.agg (.pair (.int .i64) (.sl 9 (.str))))], F71.fn N⟩
theorem f71_enters : Enters Try.prog 71 := ⟨Try.f71, Try.func71, by kernel_rfl, by kernel_rfl⟩
theorem F71.tab (N : Nat) : TabOk Try.prog (F71.G N) := trivial
theorem F71.enters : Enters Try.prog 71 := f71_enters
theorem F71.sound (N : Nat) : Sound Try.prog 71 (F71.S N) := evFn_sound (specs_tab (F71.tab N)) (inls_tab (F71.tab N)) mixed 3 Try.func71 _ _ _
theorem F71.eq (N : Nat) : F71.fn N () =
    some (1, []) := by kernel_rfl

/-! ### F51: skyway/link.Check -/
def F51.kp : List (Nat × List (Nat × Option (TypeId × Ty))) := [(6, [(22, none), (23, none), (24, none)])]
noncomputable def F51.G (N : Nat) : List (Nat × Spec) := []
noncomputable def F51.E (N : Nat) : Env := mkEnv (F51.G N) N tyTab F51.kp
noncomputable def F51.fn (N : Nat) (x : Int × List ByteArray) : Option Int := evFn (F51.E N) Try.prog 3 Try.f51 false [.agg (.pair (.int .i64) (.sl 9 (.str)))] [.val (.cell (.int .i64))] x
noncomputable def F51.S (N : Nat) : PSpec := ⟨false, [.agg (.pair (.int .i64) (.sl 9 (.str)))], [.val (.cell (.int .i64))], F51.fn N⟩
theorem f51_enters : Enters Try.prog 51 := ⟨Try.f51, Try.func51, by kernel_rfl, by kernel_rfl⟩
theorem F51.tab (N : Nat) : TabOk Try.prog (F51.G N) := trivial
theorem F51.enters : Enters Try.prog 51 := f51_enters
theorem F51.sound (N : Nat) : Sound Try.prog 51 (F51.S N) := evFn_sound (specs_tab (F51.tab N)) (inls_tab (F51.tab N)) mixed 3 Try.func51 _ _ _
noncomputable def F51.cd (N : Nat) (p : List Nat) : St → (Ex → St → Option Int) → Option Int := ev (F51.E N) Try.prog (callD (F51.E N) Try.prog 3) 0 (codeAt (bodyOf Try.f51) p)
noncomputable def F51.fin : Ex → St → Option Int := endK Try.prog Try.f51 [.val (.cell (.int .i64))]
noncomputable def F51.l0 (N : Nat) (x0 : Int × List ByteArray) (k1 : Nat) (a2 : Int) : Option Int :=
  loopN (norm ((F51.E N).keep 6) 0) (F51.cd N [1, 1, 1, 0, 1, 0, 0]) k1
  ⟨[.any, .any, .any, .any, .any, .any, .any, .any, .any, .any, .any, .any, .any, .any, .any, .any, .any, .any, .any, .any, .any, .any, .ros false 9 (.str) x0.2, .sc (.int .i64 (x0.2.length : Int)), .sc (.int .i64 a2), .any, .any, .any, .any, .any, .any, .any], []⟩
  (blockK 0 (seqK (F51.cd N [1, 1, 1, 1]) F51.fin))
theorem F51.l0_zero (N : Nat) (x0 : Int × List ByteArray) (a2 : Int) : F51.l0 N x0 0 a2 = none := by kernel_rfl
theorem F51.l0_succ (N : Nat) (x0 : Int × List ByteArray) (k1 : Nat) (a2 : Int) : F51.l0 N x0 (k1 + 1) a2 =
    bif decide (a2 < (x0.2.length : Int)) then
      bif (decide (0 ≤ a2)) && (decide (a2 < (x0.2.length : Int))) then
        bif decide (((List.getD x0.2 (Int.toNat a2) (⟨#[]⟩ : ByteArray)).size : Int) > 120) then
          some 2
        else
          F51.l0 N x0 k1 (w (a2 + 1))
      else
        none
    else
      some 0 := by kernel_rfl
theorem F51.eq (N : Nat) (x0 : Int × List ByteArray) : F51.fn N x0 =
    bif decide ((x0.2.length : Int) > 32) then
      some 2
    else
    bif !(!(decide (x0.1 < 1))) || (!(decide (x0.1 < 1))) then
      bif !(!(decide (x0.1 < 1))) || (!(decide (x0.1 < 1))) then
        bif !(!(decide (x0.1 < 1))) || (!(decide (x0.1 < 1))) then
          bif !(!(decide (x0.1 < 1))) || (!(decide (x0.1 < 1))) then
            bif !(!(decide (x0.1 < 1))) || (!(decide (x0.1 < 1))) then
              bif !(!(decide (x0.1 < 1))) || (!(decide (x0.1 < 1))) then
                bif (decide (x0.1 < 1)) || (!(decide (x0.1 < 1))) then
                  bif (decide (x0.1 < 1)) || (decide (x0.1 > (w (100000 - (x0.2.length : Int))))) then
                    some 4
                  else
                    F51.l0 N x0 N 0
                else
                  none
              else
                none
            else
              none
          else
            none
        else
          none
      else
        none
    else
      none := by kernel_rfl
theorem taut1 : ∀ p0 : Bool, ((!(!(p0)) || (!(p0)))) = true := by decide
theorem taut2 : ∀ p0 : Bool, (((p0) || (!(p0)))) = true := by decide
theorem F51.clean (N : Nat) (x0 : Int × List ByteArray) : F51.fn N x0 =
    bif decide ((x0.2.length : Int) > 32) then
      some 2
    else
    bif (decide (x0.1 < 1)) || (decide (x0.1 > (w (100000 - (x0.2.length : Int))))) then
      some 4
    else
      F51.l0 N x0 N 0 := by
  rw [F51.eq]; simp only [taut1, taut2, cond_true]

/-! ### F53: slices.Clone[[]string,string] -/
def F53.kp : List (Nat × List (Nat × Option (TypeId × Ty))) := []
noncomputable def F53.G (N : Nat) : List (Nat × Spec) := []
noncomputable def F53.E (N : Nat) : Env := mkEnv (F53.G N) N tyTab F53.kp
noncomputable def F53.fn (N : Nat) (x : List ByteArray) : Option (List ByteArray) := evFn (F53.E N) Try.prog 3 Try.f53 false [.cell (.sl 9 (.str))] [.own 9 (.str)] x
noncomputable def F53.S (N : Nat) : PSpec := ⟨false, [.cell (.sl 9 (.str))], [.own 9 (.str)], F53.fn N⟩
theorem f53_enters : Enters Try.prog 53 := ⟨Try.f53, Try.func53, by kernel_rfl, by kernel_rfl⟩
theorem F53.tab (N : Nat) : TabOk Try.prog (F53.G N) := trivial
theorem F53.enters : Enters Try.prog 53 := f53_enters
theorem F53.sound (N : Nat) : Sound Try.prog 53 (F53.S N) := evFn_sound (specs_tab (F53.tab N)) (inls_tab (F53.tab N)) mixed 3 Try.func53 _ _ _
theorem F53.eq (N : Nat) (x0 : List ByteArray) : F53.fn N x0 =
    bif x0.isEmpty then
      agree (
        some []) (
        bif decide ((0 + x0.length) * 16 ≤ 140737488355328) && decide ((0 + x0.length) ≤ maxLen) then
          some x0
        else
          none)
    else
    bif decide ((0 + x0.length) * 16 ≤ 140737488355328) && decide ((0 + x0.length) ≤ maxLen) then
      some x0
    else
      none := by kernel_rfl

/-! ### F48: skyway/link.Put -/
def F48.kp : List (Nat × List (Nat × Option (TypeId × Ty))) := []
noncomputable def F48.G (N : Nat) : List (Nat × Spec) := [(51, .pure (F51.S N)), (53, .pure (F53.S N))]
noncomputable def F48.E (N : Nat) : Env := mkEnv (F48.G N) N tyTab F48.kp
noncomputable def F48.fn (N : Nat) (x : (Int × List ByteArray) × ByteArray) : Option ((Int × List ByteArray) × Int) := evFn (F48.E N) Try.prog 3 Try.f48 false [.agg (.pair (.int .i64) (.sl 9 (.str))), .cell (.str)] [.val (.agg (.pair (.int .i64) (.sl 9 (.str)))), .val (.cell (.int .i64))] x
noncomputable def F48.S (N : Nat) : PSpec := ⟨false, [.agg (.pair (.int .i64) (.sl 9 (.str))), .cell (.str)], [.val (.agg (.pair (.int .i64) (.sl 9 (.str)))), .val (.cell (.int .i64))], F48.fn N⟩
theorem f48_enters : Enters Try.prog 48 := ⟨Try.f48, Try.func48, by kernel_rfl, by kernel_rfl⟩
theorem F48.tab (N : Nat) : TabOk Try.prog (F48.G N) := ⟨⟨F51.enters, F51.sound N⟩, ⟨F53.enters, F53.sound N⟩, trivial⟩
theorem F48.enters : Enters Try.prog 48 := f48_enters
theorem F48.sound (N : Nat) : Sound Try.prog 48 (F48.S N) := evFn_sound (specs_tab (F48.tab N)) (inls_tab (F48.tab N)) mixed 3 Try.func48 _ _ _
theorem F48.eq (N : Nat) (x0 : Int × List ByteArray) (x1 : ByteArray) : F48.fn N (x0, x1) =
    (F51.fn N (x0.1, x0.2)).bind fun r1 =>
    bif !(r1 == 0) then
      some ((0, []), r1)
    else
    bif decide ((x1.size : Int) > 120) then
      some ((0, []), 2)
    else
    bif !(!((x0.2.length : Int) == 32)) || (!((x0.2.length : Int) == 32)) then
      bif !(!((x0.2.length : Int) == 32)) || (!((x0.2.length : Int) == 32)) then
        bif !(!((x0.2.length : Int) == 32)) || (!((x0.2.length : Int) == 32)) then
          bif !(!((x0.2.length : Int) == 32)) || (!((x0.2.length : Int) == 32)) then
            bif !(!((x0.2.length : Int) == 32)) || (!((x0.2.length : Int) == 32)) then
              bif !(!((x0.2.length : Int) == 32)) || (!((x0.2.length : Int) == 32)) then
                bif ((x0.2.length : Int) == 32) || (!((x0.2.length : Int) == 32)) then
                  bif ((x0.2.length : Int) == 32) || ((w (x0.1 + (x0.2.length : Int))) == 100000) then
                    some ((0, []), 9)
                  else
                    (F53.fn N x0.2).bind fun r2 =>
                    bif decide ((r2.length + 1) * 16 ≤ 140737488355328) && decide ((r2.length + 1) ≤ maxLen) then
                      some ((x0.1, (r2 ++ [x1])), 0)
                    else
                      none
                else
                  none
              else
                none
            else
              none
          else
            none
        else
          none
      else
        none
    else
      none := by kernel_rfl
theorem F48.clean (N : Nat) (x0 : Int × List ByteArray) (x1 : ByteArray) : F48.fn N (x0, x1) =
    (F51.fn N (x0.1, x0.2)).bind fun r1 =>
    bif !(r1 == 0) then
      some ((0, []), r1)
    else
    bif decide ((x1.size : Int) > 120) then
      some ((0, []), 2)
    else
    bif ((x0.2.length : Int) == 32) || ((w (x0.1 + (x0.2.length : Int))) == 100000) then
      some ((0, []), 9)
    else
      (F53.fn N x0.2).bind fun r2 =>
      bif decide ((r2.length + 1) * 16 ≤ 140737488355328) && decide ((r2.length + 1) ≤ maxLen) then
        some ((x0.1, (r2 ++ [x1])), 0)
      else
        none := by
  rw [F48.eq]; simp only [taut1, taut2, cond_true]

/-! ### F49: skyway/link.Frames -/
def F49.kp : List (Nat × List (Nat × Option (TypeId × Ty))) := [(6, [(1, none), (5, some (89, .pair (.int .i64) (.str))), (19, none), (20, none), (21, none)])]
noncomputable def F49.G (N : Nat) : List (Nat × Spec) := [(51, .pure (F51.S N))]
noncomputable def F49.E (N : Nat) : Env := mkEnv (F49.G N) N tyTab F49.kp
noncomputable def F49.fn (N : Nat) (x : Int × List ByteArray) : Option (List (Int × ByteArray) × Int) := evFn (F49.E N) Try.prog 3 Try.f49 false [.agg (.pair (.int .i64) (.sl 9 (.str)))] [.own 89 (.pair (.int .i64) (.str)), .val (.cell (.int .i64))] x
noncomputable def F49.S (N : Nat) : PSpec := ⟨false, [.agg (.pair (.int .i64) (.sl 9 (.str)))], [.own 89 (.pair (.int .i64) (.str)), .val (.cell (.int .i64))], F49.fn N⟩
theorem f49_enters : Enters Try.prog 49 := ⟨Try.f49, Try.func49, by kernel_rfl, by kernel_rfl⟩
theorem F49.tab (N : Nat) : TabOk Try.prog (F49.G N) := ⟨⟨F51.enters, F51.sound N⟩, trivial⟩
theorem F49.enters : Enters Try.prog 49 := f49_enters
theorem F49.sound (N : Nat) : Sound Try.prog 49 (F49.S N) := evFn_sound (specs_tab (F49.tab N)) (inls_tab (F49.tab N)) mixed 3 Try.func49 _ _ _
noncomputable def F49.cd (N : Nat) (p : List Nat) : St → (Ex → St → Option (List (Int × ByteArray) × Int)) → Option (List (Int × ByteArray) × Int) := ev (F49.E N) Try.prog (callD (F49.E N) Try.prog 3) 0 (codeAt (bodyOf Try.f49) p)
noncomputable def F49.fin : Ex → St → Option (List (Int × ByteArray) × Int) := endK Try.prog Try.f49 [.own 89 (.pair (.int .i64) (.str)), .val (.cell (.int .i64))]
noncomputable def F49.l0 (N : Nat) (x0 : Int × List ByteArray) (k2 : Nat) (a3 : Int) (a4 : List (Int × ByteArray)) : Option (List (Int × ByteArray) × Int) :=
  loopN (norm ((F49.E N).keep 6) 0) (F49.cd N [1, 1, 1, 0, 1, 0, 0]) k2
  ⟨[.any, .ptr 0 0, .any, .any, .any, .own 1, .any, .any, .any, .any, .any, .any, .any, .any, .any, .any, .any, .any, .any, .ros false 9 (.str) (List.take (Int.toNat (if 4 < (x0.2.length : Int) then 4 else (x0.2.length : Int))) x0.2), .sc (.int .i64 ((List.take (Int.toNat (if 4 < (x0.2.length : Int) then 4 else (x0.2.length : Int))) x0.2).length : Int)), .sc (.int .i64 a3), .any, .any, .any, .any, .any, .any, .any, .any, .any, .any, .any, .any, .any, .any, .any], [.cells [.sc (.int .i64 x0.1), .ros false 9 (.str) x0.2] 81, .rows true 89 (.pair (.int .i64) (.str)) a4]⟩
  (blockK 0 (seqK (F49.cd N [1, 1, 1, 1]) F49.fin))
theorem F49.l0_zero (N : Nat) (x0 : Int × List ByteArray) (a3 : Int) (a4 : List (Int × ByteArray)) : F49.l0 N x0 0 a3 a4 = none := by kernel_rfl
theorem F49.l0_succ (N : Nat) (x0 : Int × List ByteArray) (k2 : Nat) (a3 : Int) (a4 : List (Int × ByteArray)) : F49.l0 N x0 (k2 + 1) a3 a4 =
    bif decide (a3 < ((List.take (Int.toNat (if 4 < (x0.2.length : Int) then 4 else (x0.2.length : Int))) x0.2).length : Int)) then
      bif (decide (0 ≤ a3)) && (decide (a3 < ((List.take (Int.toNat (if 4 < (x0.2.length : Int) then 4 else (x0.2.length : Int))) x0.2).length : Int))) then
        bif decide ((a4.length + 1) * 24 ≤ 140737488355328) && decide ((a4.length + 1) ≤ maxLen) then
          F49.l0 N x0 k2 (w (a3 + 1)) (a4 ++ [((w (x0.1 + a3)), (List.getD (List.take (Int.toNat (if 4 < (x0.2.length : Int) then 4 else (x0.2.length : Int))) x0.2) (Int.toNat a3) (⟨#[]⟩ : ByteArray)))])
        else
          none
      else
        none
    else
      some (a4, 0) := by kernel_rfl
theorem F49.eq (N : Nat) (x0 : Int × List ByteArray) : F49.fn N x0 =
    (F51.fn N (x0.1, x0.2)).bind fun r1 =>
    bif !(r1 == 0) then
      some ([], r1)
    else
    bif (decide (0 ≤ (if 4 < (x0.2.length : Int) then 4 else (x0.2.length : Int)))) && (decide ((if 4 < (x0.2.length : Int) then 4 else (x0.2.length : Int)) ≤ (x0.2.length : Int))) then
      F49.l0 N x0 N 0 []
    else
      none := by kernel_rfl

/-! ### F55: skyway/link.Take -/
def F55.kp : List (Nat × List (Nat × Option (TypeId × Ty))) := []
noncomputable def F55.G (N : Nat) : List (Nat × Spec) := []
noncomputable def F55.E (N : Nat) : Env := mkEnv (F55.G N) N tyTab F55.kp
noncomputable def F55.fn (N : Nat) (x : Int × Int × ByteArray) : Option (Int × Bool × Int) := evFn (F55.E N) Try.prog 3 Try.f55 false [.cell (.int .i64), .agg (.pair (.int .i64) (.str))] [.val (.cell (.int .i64)), .val (.cell (.bool)), .val (.cell (.int .i64))] x
noncomputable def F55.S (N : Nat) : PSpec := ⟨false, [.cell (.int .i64), .agg (.pair (.int .i64) (.str))], [.val (.cell (.int .i64)), .val (.cell (.bool)), .val (.cell (.int .i64))], F55.fn N⟩
theorem f55_enters : Enters Try.prog 55 := ⟨Try.f55, Try.func55, by kernel_rfl, by kernel_rfl⟩
theorem F55.tab (N : Nat) : TabOk Try.prog (F55.G N) := trivial
theorem F55.enters : Enters Try.prog 55 := f55_enters
theorem F55.sound (N : Nat) : Sound Try.prog 55 (F55.S N) := evFn_sound (specs_tab (F55.tab N)) (inls_tab (F55.tab N)) mixed 3 Try.func55 _ _ _
theorem F55.eq (N : Nat) (x0 : Int) (x1 : Int × ByteArray) : F55.fn N (x0, x1) =
    bif !(!(decide (x0 < 1))) || (!(decide (x0 < 1))) then
      bif (decide (x0 < 1)) || (!(decide (x0 < 1))) then
        bif !(!((decide (x0 < 1)) || (decide (x0 ≥ 100000)))) || (!((decide (x0 < 1)) || (decide (x0 ≥ 100000)))) then
          bif !(!((decide (x0 < 1)) || (decide (x0 ≥ 100000)))) || (!((decide (x0 < 1)) || (decide (x0 ≥ 100000)))) then
            bif ((decide (x0 < 1)) || (decide (x0 ≥ 100000))) || (!((decide (x0 < 1)) || (decide (x0 ≥ 100000)))) then
              bif !(!(((decide (x0 < 1)) || (decide (x0 ≥ 100000))) || (decide (x1.1 < 1)))) || (!(((decide (x0 < 1)) || (decide (x0 ≥ 100000))) || (decide (x1.1 < 1)))) then
                bif !(!(((decide (x0 < 1)) || (decide (x0 ≥ 100000))) || (decide (x1.1 < 1)))) || (!(((decide (x0 < 1)) || (decide (x0 ≥ 100000))) || (decide (x1.1 < 1)))) then
                  bif (((decide (x0 < 1)) || (decide (x0 ≥ 100000))) || (decide (x1.1 < 1))) || (!(((decide (x0 < 1)) || (decide (x0 ≥ 100000))) || (decide (x1.1 < 1)))) then
                    bif (((decide (x0 < 1)) || (decide (x0 ≥ 100000))) || (decide (x1.1 < 1))) || (decide (x1.1 ≥ 100000)) then
                      some (0, false, 4)
                    else
                    bif decide ((x1.2.size : Int) > 120) then
                      some (0, false, 2)
                    else
                    bif !(x1.1 == x0) then
                      some (x0, false, 0)
                    else
                      some ((w (x0 + 1)), true, 0)
                  else
                    none
                else
                  none
              else
                none
            else
              none
          else
            none
        else
          none
      else
        none
    else
      none := by kernel_rfl
theorem taut3 : ∀ p0 p1 p2 : Bool, ((!(!(((p0) || (p1)) || (p2))) || (!(((p0) || (p1)) || (p2))))) = true := by decide
theorem taut4 : ∀ p0 p1 : Bool, ((!(!((p0) || (p1))) || (!((p0) || (p1))))) = true := by decide
theorem taut5 : ∀ p0 p1 p2 : Bool, (((((p0) || (p1)) || (p2)) || (!(((p0) || (p1)) || (p2))))) = true := by decide
theorem taut6 : ∀ p0 p1 : Bool, ((((p0) || (p1)) || (!((p0) || (p1))))) = true := by decide
theorem F55.clean (N : Nat) (x0 : Int) (x1 : Int × ByteArray) : F55.fn N (x0, x1) =
    bif (((decide (x0 < 1)) || (decide (x0 ≥ 100000))) || (decide (x1.1 < 1))) || (decide (x1.1 ≥ 100000)) then
      some (0, false, 4)
    else
    bif decide ((x1.2.size : Int) > 120) then
      some (0, false, 2)
    else
    bif !(x1.1 == x0) then
      some (x0, false, 0)
    else
      some ((w (x0 + 1)), true, 0) := by
  rw [F55.eq]; simp only [taut3, taut4, taut1, taut5, taut6, taut2, cond_true]

/-! ### F54: skyway/link.Heard -/
def F54.kp : List (Nat × List (Nat × Option (TypeId × Ty))) := []
noncomputable def F54.G (N : Nat) : List (Nat × Spec) := [(51, .pure (F51.S N)), (53, .pure (F53.S N))]
noncomputable def F54.E (N : Nat) : Env := mkEnv (F54.G N) N tyTab F54.kp
noncomputable def F54.fn (N : Nat) (x : (Int × List ByteArray) × Int) : Option ((Int × List ByteArray) × Int) := evFn (F54.E N) Try.prog 3 Try.f54 false [.agg (.pair (.int .i64) (.sl 9 (.str))), .cell (.int .i64)] [.val (.agg (.pair (.int .i64) (.sl 9 (.str)))), .val (.cell (.int .i64))] x
noncomputable def F54.S (N : Nat) : PSpec := ⟨false, [.agg (.pair (.int .i64) (.sl 9 (.str))), .cell (.int .i64)], [.val (.agg (.pair (.int .i64) (.sl 9 (.str)))), .val (.cell (.int .i64))], F54.fn N⟩
theorem f54_enters : Enters Try.prog 54 := ⟨Try.f54, Try.func54, by kernel_rfl, by kernel_rfl⟩
theorem F54.tab (N : Nat) : TabOk Try.prog (F54.G N) := ⟨⟨F51.enters, F51.sound N⟩, ⟨F53.enters, F53.sound N⟩, trivial⟩
theorem F54.enters : Enters Try.prog 54 := f54_enters
theorem F54.sound (N : Nat) : Sound Try.prog 54 (F54.S N) := evFn_sound (specs_tab (F54.tab N)) (inls_tab (F54.tab N)) mixed 3 Try.func54 _ _ _
theorem F54.eq (N : Nat) (x0 : Int × List ByteArray) (x1 : Int) : F54.fn N (x0, x1) =
    (F51.fn N (x0.1, x0.2)).bind fun r1 =>
    bif !(r1 == 0) then
      some ((0, []), r1)
    else
    bif !(!(decide (x1 < 1))) || (!(decide (x1 < 1))) then
      bif !(!(decide (x1 < 1))) || (!(decide (x1 < 1))) then
        bif !(!(decide (x1 < 1))) || (!(decide (x1 < 1))) then
          bif !(!(decide (x1 < 1))) || (!(decide (x1 < 1))) then
            bif !(!(decide (x1 < 1))) || (!(decide (x1 < 1))) then
              bif !(!(decide (x1 < 1))) || (!(decide (x1 < 1))) then
                bif !(!(decide (x1 < 1))) || (!(decide (x1 < 1))) then
                  bif (decide (x1 < 1)) || (!(decide (x1 < 1))) then
                    bif (decide (x1 < 1)) || (decide (x1 > (w (x0.1 + (x0.2.length : Int))))) then
                      some ((0, []), 4)
                    else
                    bif (decide (0 ≤ (if 0 > (w (x1 - x0.1)) then 0 else (w (x1 - x0.1))))) && (decide ((if 0 > (w (x1 - x0.1)) then 0 else (w (x1 - x0.1))) ≤ (x0.2.length : Int))) then
                      (F53.fn N (List.drop (Int.toNat (if 0 > (w (x1 - x0.1)) then 0 else (w (x1 - x0.1)))) x0.2)).bind fun r2 =>
                      some (((w (x0.1 + (if 0 > (w (x1 - x0.1)) then 0 else (w (x1 - x0.1))))), r2), 0)
                    else
                      none
                  else
                    none
                else
                  none
              else
                none
            else
              none
          else
            none
        else
          none
      else
        none
    else
      none := by kernel_rfl
theorem F54.clean (N : Nat) (x0 : Int × List ByteArray) (x1 : Int) : F54.fn N (x0, x1) =
    (F51.fn N (x0.1, x0.2)).bind fun r1 =>
    bif !(r1 == 0) then
      some ((0, []), r1)
    else
    bif (decide (x1 < 1)) || (decide (x1 > (w (x0.1 + (x0.2.length : Int))))) then
      some ((0, []), 4)
    else
    bif (decide (0 ≤ (if 0 > (w (x1 - x0.1)) then 0 else (w (x1 - x0.1))))) && (decide ((if 0 > (w (x1 - x0.1)) then 0 else (w (x1 - x0.1))) ≤ (x0.2.length : Int))) then
      (F53.fn N (List.drop (Int.toNat (if 0 > (w (x1 - x0.1)) then 0 else (w (x1 - x0.1)))) x0.2)).bind fun r2 =>
      some (((w (x0.1 + (if 0 > (w (x1 - x0.1)) then 0 else (w (x1 - x0.1))))), r2), 0)
    else
      none := by
  rw [F54.eq]; simp only [taut1, taut2, cond_true]

/-! ### F72: slices.Equal[[]skyway/api.LinkFrame,skyway/api.LinkFrame] -/
def F72.kp : List (Nat × List (Nat × Option (TypeId × Ty))) := [(4, [(0, none), (1, none), (12, none), (13, none)])]
noncomputable def F72.G (N : Nat) : List (Nat × Spec) := []
noncomputable def F72.E (N : Nat) : Env := mkEnv (F72.G N) N tyTab F72.kp
noncomputable def F72.fn (N : Nat) (x : List (Int × ByteArray) × List (Int × ByteArray)) : Option Bool := evFn (F72.E N) Try.prog 3 Try.f72 false [.cell (.sl 89 (.pair (.int .i64) (.str))), .cell (.sl 89 (.pair (.int .i64) (.str)))] [.val (.cell (.bool))] x
noncomputable def F72.S (N : Nat) : PSpec := ⟨false, [.cell (.sl 89 (.pair (.int .i64) (.str))), .cell (.sl 89 (.pair (.int .i64) (.str)))], [.val (.cell (.bool))], F72.fn N⟩
theorem f72_enters : Enters Try.prog 72 := ⟨Try.f72, Try.func72, by kernel_rfl, by kernel_rfl⟩
theorem F72.tab (N : Nat) : TabOk Try.prog (F72.G N) := trivial
theorem F72.enters : Enters Try.prog 72 := f72_enters
theorem F72.sound (N : Nat) : Sound Try.prog 72 (F72.S N) := evFn_sound (specs_tab (F72.tab N)) (inls_tab (F72.tab N)) mixed 3 Try.func72 _ _ _
noncomputable def F72.cd (N : Nat) (p : List Nat) : St → (Ex → St → Option Bool) → Option Bool := ev (F72.E N) Try.prog (callD (F72.E N) Try.prog 3) 0 (codeAt (bodyOf Try.f72) p)
noncomputable def F72.fin : Ex → St → Option Bool := endK Try.prog Try.f72 [.val (.cell (.bool))]
noncomputable def F72.l0 (N : Nat) (x0 : List (Int × ByteArray)) (x1 : List (Int × ByteArray)) (k1 : Nat) (a2 : Int) : Option Bool :=
  loopN (norm ((F72.E N).keep 4) 0) (F72.cd N [1, 1, 0, 1, 0, 0]) k1
  ⟨[.ros false 89 (.pair (.int .i64) (.str)) x0, .ros false 89 (.pair (.int .i64) (.str)) x1, .any, .any, .any, .any, .any, .any, .any, .any, .any, .any, .sc (.int .i64 (x0.length : Int)), .sc (.int .i64 a2), .any, .any, .any, .any, .any, .any, .any, .any, .any, .any, .any, .any], []⟩
  (blockK 0 (seqK (F72.cd N [1, 1, 1]) F72.fin))
theorem F72.l0_zero (N : Nat) (x0 : List (Int × ByteArray)) (x1 : List (Int × ByteArray)) (a2 : Int) : F72.l0 N x0 x1 0 a2 = none := by kernel_rfl
theorem F72.l0_succ (N : Nat) (x0 : List (Int × ByteArray)) (x1 : List (Int × ByteArray)) (k1 : Nat) (a2 : Int) : F72.l0 N x0 x1 (k1 + 1) a2 =
    bif decide (a2 < (x0.length : Int)) then
      bif (decide (0 ≤ a2)) && (decide (a2 < (x0.length : Int))) then
        bif (decide (0 ≤ a2)) && (decide (a2 < (x1.length : Int))) then
          bif !((((List.getD x0 (Int.toNat a2) (0, (⟨#[]⟩ : ByteArray))).1) == ((List.getD x1 (Int.toNat a2) (0, (⟨#[]⟩ : ByteArray))).1)) && ((seq ((List.getD x0 (Int.toNat a2) (0, (⟨#[]⟩ : ByteArray))).2) ((List.getD x1 (Int.toNat a2) (0, (⟨#[]⟩ : ByteArray))).2)) && true)) then
            some false
          else
            F72.l0 N x0 x1 k1 (w (a2 + 1))
        else
          none
      else
        none
    else
      some true := by kernel_rfl
theorem F72.eq (N : Nat) (x0 : List (Int × ByteArray)) (x1 : List (Int × ByteArray)) : F72.fn N (x0, x1) =
    bif !((x0.length : Int) == (x1.length : Int)) then
      some false
    else
      F72.l0 N x0 x1 N 0 := by kernel_rfl

/-! ### F52: slices.Equal[[]string,string] -/
def F52.kp : List (Nat × List (Nat × Option (TypeId × Ty))) := [(4, [(0, none), (1, none), (12, none), (13, none)])]
noncomputable def F52.G (N : Nat) : List (Nat × Spec) := []
noncomputable def F52.E (N : Nat) : Env := mkEnv (F52.G N) N tyTab F52.kp
noncomputable def F52.fn (N : Nat) (x : List ByteArray × List ByteArray) : Option Bool := evFn (F52.E N) Try.prog 3 Try.f52 false [.cell (.sl 9 (.str)), .cell (.sl 9 (.str))] [.val (.cell (.bool))] x
noncomputable def F52.S (N : Nat) : PSpec := ⟨false, [.cell (.sl 9 (.str)), .cell (.sl 9 (.str))], [.val (.cell (.bool))], F52.fn N⟩
theorem f52_enters : Enters Try.prog 52 := ⟨Try.f52, Try.func52, by kernel_rfl, by kernel_rfl⟩
theorem F52.tab (N : Nat) : TabOk Try.prog (F52.G N) := trivial
theorem F52.enters : Enters Try.prog 52 := f52_enters
theorem F52.sound (N : Nat) : Sound Try.prog 52 (F52.S N) := evFn_sound (specs_tab (F52.tab N)) (inls_tab (F52.tab N)) mixed 3 Try.func52 _ _ _
noncomputable def F52.cd (N : Nat) (p : List Nat) : St → (Ex → St → Option Bool) → Option Bool := ev (F52.E N) Try.prog (callD (F52.E N) Try.prog 3) 0 (codeAt (bodyOf Try.f52) p)
noncomputable def F52.fin : Ex → St → Option Bool := endK Try.prog Try.f52 [.val (.cell (.bool))]
noncomputable def F52.l0 (N : Nat) (x0 : List ByteArray) (x1 : List ByteArray) (k1 : Nat) (a2 : Int) : Option Bool :=
  loopN (norm ((F52.E N).keep 4) 0) (F52.cd N [1, 1, 0, 1, 0, 0]) k1
  ⟨[.ros false 9 (.str) x0, .ros false 9 (.str) x1, .any, .any, .any, .any, .any, .any, .any, .any, .any, .any, .sc (.int .i64 (x0.length : Int)), .sc (.int .i64 a2), .any, .any, .any, .any, .any, .any, .any, .any, .any, .any, .any, .any], []⟩
  (blockK 0 (seqK (F52.cd N [1, 1, 1]) F52.fin))
theorem F52.l0_zero (N : Nat) (x0 : List ByteArray) (x1 : List ByteArray) (a2 : Int) : F52.l0 N x0 x1 0 a2 = none := by kernel_rfl
theorem F52.l0_succ (N : Nat) (x0 : List ByteArray) (x1 : List ByteArray) (k1 : Nat) (a2 : Int) : F52.l0 N x0 x1 (k1 + 1) a2 =
    bif decide (a2 < (x0.length : Int)) then
      bif (decide (0 ≤ a2)) && (decide (a2 < (x0.length : Int))) then
        bif (decide (0 ≤ a2)) && (decide (a2 < (x1.length : Int))) then
          bif !(seq (List.getD x0 (Int.toNat a2) (⟨#[]⟩ : ByteArray)) (List.getD x1 (Int.toNat a2) (⟨#[]⟩ : ByteArray))) then
            some false
          else
            F52.l0 N x0 x1 k1 (w (a2 + 1))
        else
          none
      else
        none
    else
      some true := by kernel_rfl
theorem F52.eq (N : Nat) (x0 : List ByteArray) (x1 : List ByteArray) : F52.fn N (x0, x1) =
    bif !((x0.length : Int) == (x1.length : Int)) then
      some false
    else
      F52.l0 N x0 x1 N 0 := by kernel_rfl

/-! ### F47: skyway/skywaylaw3.linkFact -/
def F47.kp : List (Nat × List (Nat × Option (TypeId × Ty))) := []
noncomputable def F47.G (N : Nat) : List (Nat × Spec) := [(48, .pure (F48.S N)), (49, .pure (F49.S N)), (51, .pure (F51.S N)), (52, .pure (F52.S N)), (54, .pure (F54.S N)), (55, .pure (F55.S N)), (71, .pure (F71.S N)), (72, .pure (F72.S N)), (56, .inl Try.f56), (58, .inl Try.f58), (59, .inl Try.f59), (60, .inl Try.f60), (61, .inl Try.f61), (62, .inl Try.f62), (73, .inl Try.f73), (74, .inl Try.f74)]
noncomputable def F47.E (N : Nat) : Env := mkEnv (F47.G N) N tyTab F47.kp
noncomputable def F47.fn (N : Nat) (x : Unit) : Option Bool := evFn (F47.E N) Try.prog 3 Try.f47 false [] [.val (.cell (.bool))] x
noncomputable def F47.S (N : Nat) : PSpec := ⟨false, [], [.val (.cell (.bool))], F47.fn N⟩
theorem f56_enters : Enters Try.prog 56 := ⟨Try.f56, Try.func56, by kernel_rfl, by kernel_rfl⟩
theorem f58_enters : Enters Try.prog 58 := ⟨Try.f58, Try.func58, by kernel_rfl, by kernel_rfl⟩
theorem f59_enters : Enters Try.prog 59 := ⟨Try.f59, Try.func59, by kernel_rfl, by kernel_rfl⟩
theorem f60_enters : Enters Try.prog 60 := ⟨Try.f60, Try.func60, by kernel_rfl, by kernel_rfl⟩
theorem f61_enters : Enters Try.prog 61 := ⟨Try.f61, Try.func61, by kernel_rfl, by kernel_rfl⟩
theorem f62_enters : Enters Try.prog 62 := ⟨Try.f62, Try.func62, by kernel_rfl, by kernel_rfl⟩
theorem f73_enters : Enters Try.prog 73 := ⟨Try.f73, Try.func73, by kernel_rfl, by kernel_rfl⟩
theorem f74_enters : Enters Try.prog 74 := ⟨Try.f74, Try.func74, by kernel_rfl, by kernel_rfl⟩
theorem f47_enters : Enters Try.prog 47 := ⟨Try.f47, Try.func47, by kernel_rfl, by kernel_rfl⟩
theorem F47.tab (N : Nat) : TabOk Try.prog (F47.G N) := ⟨⟨F48.enters, F48.sound N⟩, ⟨F49.enters, F49.sound N⟩, ⟨F51.enters, F51.sound N⟩, ⟨F52.enters, F52.sound N⟩, ⟨F54.enters, F54.sound N⟩, ⟨F55.enters, F55.sound N⟩, ⟨F71.enters, F71.sound N⟩, ⟨F72.enters, F72.sound N⟩, ⟨f56_enters, Try.func56⟩, ⟨f58_enters, Try.func58⟩, ⟨f59_enters, Try.func59⟩, ⟨f60_enters, Try.func60⟩, ⟨f61_enters, Try.func61⟩, ⟨f62_enters, Try.func62⟩, ⟨f73_enters, Try.func73⟩, ⟨f74_enters, Try.func74⟩, trivial⟩
theorem F47.enters : Enters Try.prog 47 := f47_enters
theorem F47.sound (N : Nat) : Sound Try.prog 47 (F47.S N) := evFn_sound (specs_tab (F47.tab N)) (inls_tab (F47.tab N)) mixed 3 Try.func47 _ _ _
theorem F47.eq (N : Nat) : F47.fn N () =
    (F71.fn N ()).bind fun r1 =>
    (F48.fn N ((r1.1, r1.2), (⟨#[97]⟩ : ByteArray))).bind fun r2 =>
    (F48.fn N ((r2.1.1, r2.1.2), (⟨#[98]⟩ : ByteArray))).bind fun r3 =>
    (F49.fn N (r3.1.1, r3.1.2)).bind fun r4 =>
    (F55.fn N (1, (1, (⟨#[97]⟩ : ByteArray)))).bind fun r5 =>
    (F54.fn N ((r3.1.1, r3.1.2), 2)).bind fun r6 =>
    (F51.fn N (0, [])).bind fun r7 =>
    bif !(r7 == 4) then
      some false
    else
    bif !(r2.2 == 0) || (r2.2 == 0) then
      bif (!(r2.2 == 0)) || (r2.2 == 0) then
        bif !((r2.2 == 0) && (r3.2 == 0)) || ((r2.2 == 0) && (r3.2 == 0)) then
          bif (!((r2.2 == 0) && (r3.2 == 0))) || ((r2.2 == 0) && (r3.2 == 0)) then
            bif !(((r2.2 == 0) && (r3.2 == 0)) && (r4.2 == 0)) || (((r2.2 == 0) && (r3.2 == 0)) && (r4.2 == 0)) then
              bif (!(((r2.2 == 0) && (r3.2 == 0)) && (r4.2 == 0))) || (((r2.2 == 0) && (r3.2 == 0)) && (r4.2 == 0)) then
                bif !((((r2.2 == 0) && (r3.2 == 0)) && (r4.2 == 0)) && (r5.2.2 == 0)) || ((((r2.2 == 0) && (r3.2 == 0)) && (r4.2 == 0)) && (r5.2.2 == 0)) then
                  bif (!((((r2.2 == 0) && (r3.2 == 0)) && (r4.2 == 0)) && (r5.2.2 == 0))) || ((((r2.2 == 0) && (r3.2 == 0)) && (r4.2 == 0)) && (r5.2.2 == 0)) then
                    bif !(((((r2.2 == 0) && (r3.2 == 0)) && (r4.2 == 0)) && (r5.2.2 == 0)) && (r6.2 == 0)) || (((((r2.2 == 0) && (r3.2 == 0)) && (r4.2 == 0)) && (r5.2.2 == 0)) && (r6.2 == 0)) then
                      bif (!(((((r2.2 == 0) && (r3.2 == 0)) && (r4.2 == 0)) && (r5.2.2 == 0)) && (r6.2 == 0))) || (((((r2.2 == 0) && (r3.2 == 0)) && (r4.2 == 0)) && (r5.2.2 == 0)) && (r6.2 == 0)) then
                        bif !(cond (((((r2.2 == 0) && (r3.2 == 0)) && (r4.2 == 0)) && (r5.2.2 == 0)) && (r6.2 == 0)) true false) || (cond (((((r2.2 == 0) && (r3.2 == 0)) && (r4.2 == 0)) && (r5.2.2 == 0)) && (r6.2 == 0)) true false) then
                          bif (!(cond (((((r2.2 == 0) && (r3.2 == 0)) && (r4.2 == 0)) && (r5.2.2 == 0)) && (r6.2 == 0)) true false)) || (cond (((((r2.2 == 0) && (r3.2 == 0)) && (r4.2 == 0)) && (r5.2.2 == 0)) && (r6.2 == 0)) true false) then
                            bif !(cond (cond (((((r2.2 == 0) && (r3.2 == 0)) && (r4.2 == 0)) && (r5.2.2 == 0)) && (r6.2 == 0)) true false) true false) || (cond (cond (((((r2.2 == 0) && (r3.2 == 0)) && (r4.2 == 0)) && (r5.2.2 == 0)) && (r6.2 == 0)) true false) true false) then
                              bif (!(cond (cond (((((r2.2 == 0) && (r3.2 == 0)) && (r4.2 == 0)) && (r5.2.2 == 0)) && (r6.2 == 0)) true false) true false)) || (cond (cond (((((r2.2 == 0) && (r3.2 == 0)) && (r4.2 == 0)) && (r5.2.2 == 0)) && (r6.2 == 0)) true false) true false) then
                                bif !(cond (cond (cond (((((r2.2 == 0) && (r3.2 == 0)) && (r4.2 == 0)) && (r5.2.2 == 0)) && (r6.2 == 0)) true false) true false) true false) || (cond (cond (cond (((((r2.2 == 0) && (r3.2 == 0)) && (r4.2 == 0)) && (r5.2.2 == 0)) && (r6.2 == 0)) true false) true false) true false) then
                                  bif (!(cond (cond (cond (((((r2.2 == 0) && (r3.2 == 0)) && (r4.2 == 0)) && (r5.2.2 == 0)) && (r6.2 == 0)) true false) true false) true false)) || (cond (cond (cond (((((r2.2 == 0) && (r3.2 == 0)) && (r4.2 == 0)) && (r5.2.2 == 0)) && (r6.2 == 0)) true false) true false) true false) then
                                    bif cond (cond (cond (cond (((((r2.2 == 0) && (r3.2 == 0)) && (r4.2 == 0)) && (r5.2.2 == 0)) && (r6.2 == 0)) true false) true false) true false) true false then
                                      bif cond (cond (cond (cond (((((r2.2 == 0) && (r3.2 == 0)) && (r4.2 == 0)) && (r5.2.2 == 0)) && (r6.2 == 0)) true false) true false) true false) true false then
                                        bif cond (cond (cond (cond (((((r2.2 == 0) && (r3.2 == 0)) && (r4.2 == 0)) && (r5.2.2 == 0)) && (r6.2 == 0)) true false) true false) true false) true false then
                                          bif cond (cond (cond (cond (((((r2.2 == 0) && (r3.2 == 0)) && (r4.2 == 0)) && (r5.2.2 == 0)) && (r6.2 == 0)) true false) true false) true false) true false then
                                            (F72.fn N (r4.1, [(1, (⟨#[97]⟩ : ByteArray)), (2, (⟨#[98]⟩ : ByteArray))])).bind fun r8 =>
                                            bif !r8 || r8 then
                                              bif (!r8) || r8 then
                                                bif (!(r8 && (r5.1 == 2))) || (r8 && (r5.1 == 2)) then
                                                  bif !((r8 && (r5.1 == 2)) && r5.2.1) || ((r8 && (r5.1 == 2)) && r5.2.1) then
                                                    bif !((r8 && (r5.1 == 2)) && r5.2.1) || ((r8 && (r5.1 == 2)) && r5.2.1) then
                                                      bif (!((r8 && (r5.1 == 2)) && r5.2.1)) || ((r8 && (r5.1 == 2)) && r5.2.1) then
                                                        bif !(((r8 && (r5.1 == 2)) && r5.2.1) && (r6.1.1 == 2)) || (((r8 && (r5.1 == 2)) && r5.2.1) && (r6.1.1 == 2)) then
                                                          bif ((r8 && (r5.1 == 2)) && r5.2.1) && (r6.1.1 == 2) then
                                                            bif ((r8 && (r5.1 == 2)) && r5.2.1) && (r6.1.1 == 2) then
                                                              (F52.fn N (r6.1.2, [(⟨#[98]⟩ : ByteArray)])).bind fun r9 =>
                                                              bif !r9 || r9 then
                                                                bif (!r9) || r9 then
                                                                  bif cond r9 true false then
                                                                    bif cond r9 true false then
                                                                      some true
                                                                    else
                                                                      none
                                                                  else
                                                                    some false
                                                                else
                                                                  none
                                                              else
                                                                none
                                                            else
                                                              none
                                                          else
                                                            some false
                                                        else
                                                          none
                                                      else
                                                        none
                                                    else
                                                      none
                                                  else
                                                    none
                                                else
                                                  none
                                              else
                                                none
                                            else
                                              none
                                          else
                                            none
                                        else
                                          none
                                      else
                                        none
                                    else
                                      some false
                                  else
                                    none
                                else
                                  none
                              else
                                none
                            else
                              none
                          else
                            none
                        else
                          none
                      else
                        none
                    else
                      none
                  else
                    none
                else
                  none
              else
                none
            else
              none
          else
            none
        else
          none
      else
        none
    else
      none := by kernel_rfl
theorem taut7 : ∀ p0 p1 p2 p3 p4 : Bool, ((!(((((p0) && (p1)) && (p2)) && (p3)) && (p4)) || (((((p0) && (p1)) && (p2)) && (p3)) && (p4)))) = true := by decide
theorem taut8 : ∀ p0 p1 p2 p3 : Bool, ((!((((p0) && (p1)) && (p2)) && (p3)) || ((((p0) && (p1)) && (p2)) && (p3)))) = true := by decide
theorem taut9 : ∀ p0 p1 p2 p3 : Bool, ((!(((p0 && (p1)) && p2) && (p3)) || (((p0 && (p1)) && p2) && (p3)))) = true := by decide
theorem taut10 : ∀ p0 p1 p2 : Bool, ((!(((p0) && (p1)) && (p2)) || (((p0) && (p1)) && (p2)))) = true := by decide
theorem taut11 : ∀ p0 p1 p2 : Bool, ((!((p0 && (p1)) && p2) || ((p0 && (p1)) && p2))) = true := by decide
theorem taut12 : ∀ p0 p1 : Bool, ((!((p0) && (p1)) || ((p0) && (p1)))) = true := by decide
theorem taut13 : ∀ p0 p1 p2 p3 p4 : Bool, ((!(cond (((((p0) && (p1)) && (p2)) && (p3)) && (p4)) true false) || (cond (((((p0) && (p1)) && (p2)) && (p3)) && (p4)) true false))) = true := by decide
theorem taut14 : ∀ p0 p1 p2 p3 p4 : Bool, ((!(cond (cond (((((p0) && (p1)) && (p2)) && (p3)) && (p4)) true false) true false) || (cond (cond (((((p0) && (p1)) && (p2)) && (p3)) && (p4)) true false) true false))) = true := by decide
theorem taut15 : ∀ p0 p1 p2 p3 p4 : Bool, ((!(cond (cond (cond (((((p0) && (p1)) && (p2)) && (p3)) && (p4)) true false) true false) true false) || (cond (cond (cond (((((p0) && (p1)) && (p2)) && (p3)) && (p4)) true false) true false) true false))) = true := by decide
theorem taut16 : ∀ p0 : Bool, ((!(p0) || (p0))) = true := by decide
theorem taut17 : ∀ p0 : Bool, ((!p0 || p0)) = true := by decide
theorem taut18 : ∀ p0 p1 p2 p3 p4 : Bool, (((!(((((p0) && (p1)) && (p2)) && (p3)) && (p4))) || (((((p0) && (p1)) && (p2)) && (p3)) && (p4)))) = true := by decide
theorem taut19 : ∀ p0 p1 p2 p3 : Bool, (((!((((p0) && (p1)) && (p2)) && (p3))) || ((((p0) && (p1)) && (p2)) && (p3)))) = true := by decide
theorem taut20 : ∀ p0 p1 p2 : Bool, (((!(((p0) && (p1)) && (p2))) || (((p0) && (p1)) && (p2)))) = true := by decide
theorem taut21 : ∀ p0 p1 p2 : Bool, (((!((p0 && (p1)) && p2)) || ((p0 && (p1)) && p2))) = true := by decide
theorem taut22 : ∀ p0 p1 : Bool, (((!((p0) && (p1))) || ((p0) && (p1)))) = true := by decide
theorem taut23 : ∀ p0 p1 p2 p3 p4 : Bool, (((!(cond (((((p0) && (p1)) && (p2)) && (p3)) && (p4)) true false)) || (cond (((((p0) && (p1)) && (p2)) && (p3)) && (p4)) true false))) = true := by decide
theorem taut24 : ∀ p0 p1 p2 p3 p4 : Bool, (((!(cond (cond (((((p0) && (p1)) && (p2)) && (p3)) && (p4)) true false) true false)) || (cond (cond (((((p0) && (p1)) && (p2)) && (p3)) && (p4)) true false) true false))) = true := by decide
theorem taut25 : ∀ p0 p1 p2 p3 p4 : Bool, (((!(cond (cond (cond (((((p0) && (p1)) && (p2)) && (p3)) && (p4)) true false) true false) true false)) || (cond (cond (cond (((((p0) && (p1)) && (p2)) && (p3)) && (p4)) true false) true false) true false))) = true := by decide
theorem taut26 : ∀ p0 p1 : Bool, (((!(p0 && (p1))) || (p0 && (p1)))) = true := by decide
theorem taut27 : ∀ p0 : Bool, (((!(p0)) || (p0))) = true := by decide
theorem taut28 : ∀ p0 : Bool, (((!p0) || p0)) = true := by decide
theorem F47.clean (N : Nat) : F47.fn N () =
    (F71.fn N ()).bind fun r1 =>
    (F48.fn N ((r1.1, r1.2), (⟨#[97]⟩ : ByteArray))).bind fun r2 =>
    (F48.fn N ((r2.1.1, r2.1.2), (⟨#[98]⟩ : ByteArray))).bind fun r3 =>
    (F49.fn N (r3.1.1, r3.1.2)).bind fun r4 =>
    (F55.fn N (1, (1, (⟨#[97]⟩ : ByteArray)))).bind fun r5 =>
    (F54.fn N ((r3.1.1, r3.1.2), 2)).bind fun r6 =>
    (F51.fn N (0, [])).bind fun r7 =>
    bif !(r7 == 4) then
      some false
    else
    bif cond (cond (cond (cond (((((r2.2 == 0) && (r3.2 == 0)) && (r4.2 == 0)) && (r5.2.2 == 0)) && (r6.2 == 0)) true false) true false) true false) true false then
      bif cond (cond (cond (cond (((((r2.2 == 0) && (r3.2 == 0)) && (r4.2 == 0)) && (r5.2.2 == 0)) && (r6.2 == 0)) true false) true false) true false) true false then
        bif cond (cond (cond (cond (((((r2.2 == 0) && (r3.2 == 0)) && (r4.2 == 0)) && (r5.2.2 == 0)) && (r6.2 == 0)) true false) true false) true false) true false then
          bif cond (cond (cond (cond (((((r2.2 == 0) && (r3.2 == 0)) && (r4.2 == 0)) && (r5.2.2 == 0)) && (r6.2 == 0)) true false) true false) true false) true false then
            (F72.fn N (r4.1, [(1, (⟨#[97]⟩ : ByteArray)), (2, (⟨#[98]⟩ : ByteArray))])).bind fun r8 =>
            bif ((r8 && (r5.1 == 2)) && r5.2.1) && (r6.1.1 == 2) then
              bif ((r8 && (r5.1 == 2)) && r5.2.1) && (r6.1.1 == 2) then
                (F52.fn N (r6.1.2, [(⟨#[98]⟩ : ByteArray)])).bind fun r9 =>
                bif cond r9 true false then
                  bif cond r9 true false then
                    some true
                  else
                    none
                else
                  some false
              else
                none
            else
              some false
          else
            none
        else
          none
      else
        none
    else
      some false := by
  rw [F47.eq]; simp only [taut7, taut8, taut9, taut10, taut11, taut12, taut13, taut14, taut15, taut16, taut17, taut18, taut19, taut20, taut21, taut22, taut23, taut24, taut25, taut26, taut27, taut28, cond_true]

/-! ### F50: skyway/skywaylaw3.senderError -/
def F50.kp : List (Nat × List (Nat × Option (TypeId × Ty))) := [(6, [(27, none), (28, none), (29, none)])]
noncomputable def F50.G (N : Nat) : List (Nat × Spec) := []
noncomputable def F50.E (N : Nat) : Env := mkEnv (F50.G N) N tyTab F50.kp
noncomputable def F50.fn (N : Nat) (x : Int × List ByteArray) : Option Int := evFn (F50.E N) Try.prog 3 Try.f50 false [.agg (.pair (.int .i64) (.sl 9 (.str)))] [.val (.cell (.int .i64))] x
noncomputable def F50.S (N : Nat) : PSpec := ⟨false, [.agg (.pair (.int .i64) (.sl 9 (.str)))], [.val (.cell (.int .i64))], F50.fn N⟩
theorem f50_enters : Enters Try.prog 50 := ⟨Try.f50, Try.func50, by kernel_rfl, by kernel_rfl⟩
theorem F50.tab (N : Nat) : TabOk Try.prog (F50.G N) := trivial
theorem F50.enters : Enters Try.prog 50 := f50_enters
theorem F50.sound (N : Nat) : Sound Try.prog 50 (F50.S N) := evFn_sound (specs_tab (F50.tab N)) (inls_tab (F50.tab N)) mixed 3 Try.func50 _ _ _
noncomputable def F50.cd (N : Nat) (p : List Nat) : St → (Ex → St → Option Int) → Option Int := ev (F50.E N) Try.prog (callD (F50.E N) Try.prog 3) 0 (codeAt (bodyOf Try.f50) p)
noncomputable def F50.fin : Ex → St → Option Int := endK Try.prog Try.f50 [.val (.cell (.int .i64))]
noncomputable def F50.l0 (N : Nat) (x0 : Int × List ByteArray) (k1 : Nat) (a2 : Int) : Option Int :=
  loopN (norm ((F50.E N).keep 6) 0) (F50.cd N [1, 1, 1, 0, 1, 0, 0]) k1
  ⟨[.any, .any, .any, .any, .any, .any, .any, .any, .any, .any, .any, .any, .any, .any, .any, .any, .any, .any, .any, .any, .any, .any, .any, .any, .any, .any, .any, .ros false 9 (.str) x0.2, .sc (.int .i64 (x0.2.length : Int)), .sc (.int .i64 a2), .any, .any, .any, .any, .any, .any, .any], []⟩
  (blockK 0 (seqK (F50.cd N [1, 1, 1, 1]) F50.fin))
theorem F50.l0_zero (N : Nat) (x0 : Int × List ByteArray) (a2 : Int) : F50.l0 N x0 0 a2 = none := by kernel_rfl
theorem F50.l0_succ (N : Nat) (x0 : Int × List ByteArray) (k1 : Nat) (a2 : Int) : F50.l0 N x0 (k1 + 1) a2 =
    bif decide (a2 < (x0.2.length : Int)) then
      bif (decide (0 ≤ a2)) && (decide (a2 < (x0.2.length : Int))) then
        bif decide (((List.getD x0.2 (Int.toNat a2) (⟨#[]⟩ : ByteArray)).size : Int) > 120) then
          some 2
        else
          F50.l0 N x0 k1 (w (a2 + 1))
      else
        none
    else
      some 0 := by kernel_rfl
theorem F50.eq (N : Nat) (x0 : Int × List ByteArray) : F50.fn N x0 =
    bif decide ((x0.2.length : Int) > 32) then
      some 2
    else
    bif !(!(decide (x0.1 < 1))) || (!(decide (x0.1 < 1))) then
      bif !(!(decide (x0.1 < 1))) || (!(decide (x0.1 < 1))) then
        bif (decide (x0.1 < 1)) || (!(decide (x0.1 < 1))) then
          bif !(!((decide (x0.1 < 1)) || (decide (x0.1 > 100000)))) || (!((decide (x0.1 < 1)) || (decide (x0.1 > 100000)))) then
            bif !(!((decide (x0.1 < 1)) || (decide (x0.1 > 100000)))) || (!((decide (x0.1 < 1)) || (decide (x0.1 > 100000)))) then
              bif !(!((decide (x0.1 < 1)) || (decide (x0.1 > 100000)))) || (!((decide (x0.1 < 1)) || (decide (x0.1 > 100000)))) then
                bif !(!((decide (x0.1 < 1)) || (decide (x0.1 > 100000)))) || (!((decide (x0.1 < 1)) || (decide (x0.1 > 100000)))) then
                  bif !(!((decide (x0.1 < 1)) || (decide (x0.1 > 100000)))) || (!((decide (x0.1 < 1)) || (decide (x0.1 > 100000)))) then
                    bif !(!((decide (x0.1 < 1)) || (decide (x0.1 > 100000)))) || (!((decide (x0.1 < 1)) || (decide (x0.1 > 100000)))) then
                      bif ((decide (x0.1 < 1)) || (decide (x0.1 > 100000))) || (!((decide (x0.1 < 1)) || (decide (x0.1 > 100000)))) then
                        bif ((decide (x0.1 < 1)) || (decide (x0.1 > 100000))) || (decide ((w (x0.1 + (x0.2.length : Int))) > 100000)) then
                          some 4
                        else
                          F50.l0 N x0 N 0
                      else
                        none
                    else
                      none
                  else
                    none
                else
                  none
              else
                none
            else
              none
          else
            none
        else
          none
      else
        none
    else
      none := by kernel_rfl
theorem F50.clean (N : Nat) (x0 : Int × List ByteArray) : F50.fn N x0 =
    bif decide ((x0.2.length : Int) > 32) then
      some 2
    else
    bif ((decide (x0.1 < 1)) || (decide (x0.1 > 100000))) || (decide ((w (x0.1 + (x0.2.length : Int))) > 100000)) then
      some 4
    else
      F50.l0 N x0 N 0 := by
  rw [F50.eq]; simp only [taut4, taut1, taut6, taut2, cond_true]

/-! ### F11: skyway/skywaylaw3.LinkSends -/
def F11.kp : List (Nat × List (Nat × Option (TypeId × Ty))) := [(9, [(1, none), (2, none), (5, none), (6, none), (7, none), (9, none), (36, none), (37, none), (38, none)]), (1000018, [(1, none), (2, none), (5, none), (6, none), (9, none)])]
noncomputable def F11.G (N : Nat) : List (Nat × Spec) := [(47, .pure (F47.S N)), (48, .pure (F48.S N)), (49, .pure (F49.S N)), (50, .pure (F50.S N)), (51, .pure (F51.S N)), (52, .pure (F52.S N)), (53, .pure (F53.S N))]
noncomputable def F11.E (N : Nat) : Env := mkEnv (F11.G N) N tyTab F11.kp
noncomputable def F11.fn (N : Nat) (x : (Int × List ByteArray) × ByteArray) : Option Bool := evFn (F11.E N) Try.prog 3 Try.f11 false [.agg (.pair (.int .i64) (.sl 9 (.str))), .cell (.str)] [.val (.cell (.bool))] x
noncomputable def F11.S (N : Nat) : PSpec := ⟨false, [.agg (.pair (.int .i64) (.sl 9 (.str))), .cell (.str)], [.val (.cell (.bool))], F11.fn N⟩
theorem f11_enters : Enters Try.prog 11 := ⟨Try.f11, Try.func11, by kernel_rfl, by kernel_rfl⟩
theorem F11.tab (N : Nat) : TabOk Try.prog (F11.G N) := ⟨⟨F47.enters, F47.sound N⟩, ⟨F48.enters, F48.sound N⟩, ⟨F49.enters, F49.sound N⟩, ⟨F50.enters, F50.sound N⟩, ⟨F51.enters, F51.sound N⟩, ⟨F52.enters, F52.sound N⟩, ⟨F53.enters, F53.sound N⟩, trivial⟩
theorem F11.enters : Enters Try.prog 11 := f11_enters
theorem F11.sound (N : Nat) : Sound Try.prog 11 (F11.S N) := evFn_sound (specs_tab (F11.tab N)) (inls_tab (F11.tab N)) mixed 3 Try.func11 _ _ _
noncomputable def F11.cd (N : Nat) (p : List Nat) : St → (Ex → St → Option Bool) → Option Bool := ev (F11.E N) Try.prog (callD (F11.E N) Try.prog 3) 0 (codeAt (bodyOf Try.f11) p)
noncomputable def F11.fin : Ex → St → Option Bool := endK Try.prog Try.f11 [.val (.cell (.bool))]
noncomputable def F11.l0 (N : Nat) (x0 : Int × List ByteArray) (x1 : ByteArray) (r2 : (Int × List ByteArray) × Int) (r3 : List (Int × ByteArray) × Int) (r4 : Int) (k6 : Nat) (a7 : Int) : Option Bool :=
  loopN (norm ((F11.E N).keep 9) 0) (F11.cd N [1, 1, 1, 1, 1, 1, 0, 1, 0, 0]) k6
  ⟨[.any, .sc (.string x1), .ptr 0 0, .any, .any, .ptr 1 0, .sc (.int .i64 r2.2), .own 2, .any, .sc (.int .i64 r4), .any, .any, .any, .any, .any, .any, .any, .any, .any, .any, .any, .any, .any, .any, .any, .any, .any, .any, .any, .any, .any, .any, .any, .any, .any, .any, .own 2, .sc (.int .i64 (r3.1.length : Int)), .sc (.int .i64 a7), .any, .any, .any, .any, .any, .any, .any, .any, .any, .any, .any, .any, .any, .any, .any, .any, .any, .any, .any, .any, .any, .any, .any, .any, .any, .any, .any, .any, .any, .any, .any, .any, .any, .any, .any, .any, .any, .any, .any, .any, .any, .any, .any, .any, .any, .any, .any, .any, .any, .any, .any, .any, .any, .any, .any, .any, .any, .any, .any, .any, .any, .any, .any, .any, .any, .any, .any, .any, .any, .any, .any, .any, .any, .any, .any, .any, .any, .any, .any, .any, .any, .any, .any, .any, .any, .any, .any, .any, .any, .any, .any, .any, .any, .any, .any, .any, .any, .any, .any, .any, .any, .any, .any, .any, .any, .any, .any, .any], [.cells [.sc (.int .i64 x0.1), .ros false 9 (.str) x0.2] 81, .cells [.sc (.int .i64 r2.1.1), .ros true 9 (.str) r2.1.2] 81, .rows true 89 (.pair (.int .i64) (.str)) r3.1]⟩
  (blockK 0 (seqK (F11.cd N [1, 1, 1, 1, 1, 1, 1]) F11.fin))
noncomputable def F11.j1 (N : Nat) (x0 : Int × List ByteArray) (x1 : ByteArray) (r2 : (Int × List ByteArray) × Int) (a8 : Int) : Option Bool :=
  fuelK N (region (F11.E N) Try.prog (callD (F11.E N) Try.prog 3) (opsAt (codeAt (bodyOf Try.f11) [1, 1, 1, 1, 1, 1, 1, 1, 1, 0, 0])) false
  ⟨[.any, .sc (.string x1), .ptr 0 0, .any, .any, .ptr 1 0, .sc (.int .i64 r2.2), .any, .any, .sc (.int .i64 a8), .any, .any, .any, .any, .any, .any, .any, .any, .any, .any, .any, .any, .any, .any, .any, .any, .any, .any, .any, .any, .any, .any, .any, .any, .any, .any, .any, .any, .any, .any, .any, .any, .any, .any, .any, .any, .any, .any, .any, .any, .any, .any, .any, .any, .any, .any, .any, .any, .any, .any, .any, .any, .any, .any, .any, .any, .any, .any, .any, .any, .any, .any, .any, .any, .any, .any, .any, .any, .any, .any, .any, .any, .any, .any, .any, .any, .any, .any, .any, .any, .any, .any, .any, .any, .any, .any, .any, .any, .any, .any, .any, .any, .any, .any, .any, .any, .any, .any, .any, .any, .any, .any, .any, .any, .any, .any, .any, .any, .any, .any, .any, .any, .any, .any, .any, .any, .any, .any, .any, .any, .any, .any, .any, .any, .any, .any, .any, .any, .any, .any, .any, .any, .any, .any, .any, .any, .any], [.cells [.sc (.int .i64 x0.1), .ros false 9 (.str) x0.2] 81, .cells [.sc (.int .i64 r2.1.1), .ros true 9 (.str) r2.1.2] 81]⟩
  (fun S => (seqK (F11.cd N [1, 1, 1, 1, 1, 1, 1, 1, 1, 0, 1]) (seqK (F11.cd N [1, 1, 1, 1, 1, 1, 1, 1, 1, 1]) F11.fin)) .normal S))
theorem F11.j1_eq (N : Nat) (x0 : Int × List ByteArray) (x1 : ByteArray) (r2 : (Int × List ByteArray) × Int) (a8 : Int) {M : Nat} (hM : N = M + 1) : F11.j1 N x0 x1 r2 a8 =
    bif !(a8 == 0) || (a8 == 0) then
      bif !(a8 == 0) || (a8 == 0) then
        bif !(a8 == 0) || (a8 == 0) then
          bif !(a8 == 0) || (a8 == 0) then
            bif !((a8 == 0) && (!((x0.2.length : Int) == 32))) || ((a8 == 0) && (!((x0.2.length : Int) == 32))) then
              bif !((a8 == 0) && (!((x0.2.length : Int) == 32))) || ((a8 == 0) && (!((x0.2.length : Int) == 32))) then
                bif !((a8 == 0) && (!((x0.2.length : Int) == 32))) || ((a8 == 0) && (!((x0.2.length : Int) == 32))) then
                  bif !((a8 == 0) && (!((x0.2.length : Int) == 32))) || ((a8 == 0) && (!((x0.2.length : Int) == 32))) then
                    bif !((a8 == 0) && (!((x0.2.length : Int) == 32))) || ((a8 == 0) && (!((x0.2.length : Int) == 32))) then
                      bif !((a8 == 0) && (!((x0.2.length : Int) == 32))) || ((a8 == 0) && (!((x0.2.length : Int) == 32))) then
                        bif !(a8 == 0) || (a8 == 0) then
                          bif !(a8 == 0) || (((x0.2.length : Int) == 32) || ((a8 == 0) && (!((x0.2.length : Int) == 32)))) then
                            bif (!(a8 == 0)) || (a8 == 0) then
                              bif (a8 == 0) && (((x0.2.length : Int) == 32) || ((w (x0.1 + (x0.2.length : Int))) == 100000)) then
                                bif !(r2.2 == 9) || (r2.2 == 9) then
                                  bif !(r2.2 == 9) || (r2.2 == 9) then
                                    bif (!(r2.2 == 9)) || (r2.2 == 9) then
                                      bif !((r2.2 == 9) && (r2.1.1 == 0)) || ((r2.2 == 9) && (r2.1.1 == 0)) then
                                        bif !((r2.2 == 9) && (r2.1.1 == 0)) || ((r2.2 == 9) && (r2.1.1 == 0)) then
                                          bif !((r2.2 == 9) && (r2.1.1 == 0)) || ((r2.2 == 9) && (r2.1.1 == 0)) then
                                            bif (!((r2.2 == 9) && (r2.1.1 == 0))) || ((r2.2 == 9) && (r2.1.1 == 0)) then
                                              some (((r2.2 == 9) && (r2.1.1 == 0)) && ((r2.1.2.length : Int) == 0))
                                            else
                                              none
                                          else
                                            none
                                        else
                                          none
                                      else
                                        none
                                    else
                                      none
                                  else
                                    none
                                else
                                  none
                              else
                              bif !(a8 == 0) then
                                bif !(r2.2 == a8) || (r2.2 == a8) then
                                  bif !(r2.2 == a8) || (r2.2 == a8) then
                                    bif (!(r2.2 == a8)) || (r2.2 == a8) then
                                      bif !((r2.2 == a8) && (r2.1.1 == 0)) || ((r2.2 == a8) && (r2.1.1 == 0)) then
                                        bif !((r2.2 == a8) && (r2.1.1 == 0)) || ((r2.2 == a8) && (r2.1.1 == 0)) then
                                          bif !((r2.2 == a8) && (r2.1.1 == 0)) || ((r2.2 == a8) && (r2.1.1 == 0)) then
                                            bif (!((r2.2 == a8) && (r2.1.1 == 0))) || ((r2.2 == a8) && (r2.1.1 == 0)) then
                                              some (((r2.2 == a8) && (r2.1.1 == 0)) && ((r2.1.2.length : Int) == 0))
                                            else
                                              none
                                          else
                                            none
                                        else
                                          none
                                      else
                                        none
                                    else
                                      none
                                  else
                                    none
                                else
                                  none
                              else
                              bif !(r2.2 == 0) || (r2.2 == 0) then
                                bif !(r2.2 == 0) || (r2.2 == 0) then
                                  bif !(r2.2 == 0) || (r2.2 == 0) then
                                    bif !(r2.2 == 0) || (r2.2 == 0) then
                                      bif (!(r2.2 == 0)) || (r2.2 == 0) then
                                        bif !((r2.2 == 0) && (r2.1.1 == x0.1)) || ((r2.2 == 0) && (r2.1.1 == x0.1)) then
                                          bif !((r2.2 == 0) && (r2.1.1 == x0.1)) || ((r2.2 == 0) && (r2.1.1 == x0.1)) then
                                            bif (r2.2 == 0) && (r2.1.1 == x0.1) then
                                              bif (r2.2 == 0) && (r2.1.1 == x0.1) then
                                                (F53.fn N x0.2).bind fun r9 =>
                                                bif decide ((r9.length + 1) * 16 ≤ 140737488355328) && decide ((r9.length + 1) ≤ maxLen) then
                                                  bif (r2.2 == 0) && (r2.1.1 == x0.1) then
                                                    (F52.fn N (r2.1.2, (r9 ++ [x1]))).bind fun r10 =>
                                                    some r10
                                                  else
                                                    none
                                                else
                                                  none
                                              else
                                                none
                                            else
                                              some false
                                          else
                                            none
                                        else
                                          none
                                      else
                                        none
                                    else
                                      none
                                  else
                                    none
                                else
                                  none
                              else
                                none
                            else
                              none
                          else
                            none
                        else
                          none
                      else
                        none
                    else
                      none
                  else
                    none
                else
                  none
              else
                none
            else
              none
          else
            none
        else
          none
      else
        none
    else
      none := (fuelK_eq hM _).trans (by kernel_rfl)
theorem F11.l0_zero (N : Nat) (x0 : Int × List ByteArray) (x1 : ByteArray) (r2 : (Int × List ByteArray) × Int) (r3 : List (Int × ByteArray) × Int) (r4 : Int) (a7 : Int) : F11.l0 N x0 x1 r2 r3 r4 0 a7 = none := by kernel_rfl
theorem F11.l0_succ (N : Nat) (x0 : Int × List ByteArray) (x1 : ByteArray) (r2 : (Int × List ByteArray) × Int) (r3 : List (Int × ByteArray) × Int) (r4 : Int) (k6 : Nat) (a7 : Int) : F11.l0 N x0 x1 r2 r3 r4 (k6 + 1) a7 =
    bif decide (a7 < (r3.1.length : Int)) then
      bif (decide (0 ≤ a7)) && (decide (a7 < (r3.1.length : Int))) then
        bif decide ((Int.toNat a7) < r3.1.length) then
          bif !(!(!(r4 == 0))) || (!(!(r4 == 0))) then
            bif (!(r4 == 0)) || (!(!(r4 == 0))) then
              bif !(!((!(r4 == 0)) || (decide (a7 > 3)))) || (!((!(r4 == 0)) || (decide (a7 > 3)))) then
                bif !(!((!(r4 == 0)) || (decide (a7 > 3)))) || (!((!(r4 == 0)) || (decide (a7 > 3)))) then
                  bif !(!((!(r4 == 0)) || (decide (a7 > 3)))) || (!((!(r4 == 0)) || (decide (a7 > 3)))) then
                    bif !(!((!(r4 == 0)) || (decide (a7 > 3)))) || (!((!(r4 == 0)) || (decide (a7 > 3)))) then
                      bif ((!(r4 == 0)) || (decide (a7 > 3))) || (!((!(r4 == 0)) || (decide (a7 > 3)))) then
                        bif !(!(((!(r4 == 0)) || (decide (a7 > 3))) || (decide (a7 ≥ (x0.2.length : Int))))) || (!(((!(r4 == 0)) || (decide (a7 > 3))) || (decide (a7 ≥ (x0.2.length : Int))))) then
                          bif !(!(((!(r4 == 0)) || (decide (a7 > 3))) || (decide (a7 ≥ (x0.2.length : Int))))) || (!(((!(r4 == 0)) || (decide (a7 > 3))) || (decide (a7 ≥ (x0.2.length : Int))))) then
                            bif !(!(((!(r4 == 0)) || (decide (a7 > 3))) || (decide (a7 ≥ (x0.2.length : Int))))) || (!(((!(r4 == 0)) || (decide (a7 > 3))) || (decide (a7 ≥ (x0.2.length : Int))))) then
                              bif !(!(((!(r4 == 0)) || (decide (a7 > 3))) || (decide (a7 ≥ (x0.2.length : Int))))) || (!(((!(r4 == 0)) || (decide (a7 > 3))) || (decide (a7 ≥ (x0.2.length : Int))))) then
                                bif !(!(((!(r4 == 0)) || (decide (a7 > 3))) || (decide (a7 ≥ (x0.2.length : Int))))) || (!(((!(r4 == 0)) || (decide (a7 > 3))) || (decide (a7 ≥ (x0.2.length : Int))))) then
                                  bif !(!(((!(r4 == 0)) || (decide (a7 > 3))) || (decide (a7 ≥ (x0.2.length : Int))))) || (!(((!(r4 == 0)) || (decide (a7 > 3))) || (decide (a7 ≥ (x0.2.length : Int))))) then
                                    bif (((!(r4 == 0)) || (decide (a7 > 3))) || (decide (a7 ≥ (x0.2.length : Int)))) || (!(((!(r4 == 0)) || (decide (a7 > 3))) || (decide (a7 ≥ (x0.2.length : Int))))) then
                                      bif !(!((((!(r4 == 0)) || (decide (a7 > 3))) || (decide (a7 ≥ (x0.2.length : Int)))) || (!(((List.getD r3.1 (Int.toNat a7) (0, (⟨#[]⟩ : ByteArray))).1) == (w (x0.1 + a7)))))) || (!((((!(r4 == 0)) || (decide (a7 > 3))) || (decide (a7 ≥ (x0.2.length : Int)))) || (!(((List.getD r3.1 (Int.toNat a7) (0, (⟨#[]⟩ : ByteArray))).1) == (w (x0.1 + a7)))))) then
                                        bif !(!((((!(r4 == 0)) || (decide (a7 > 3))) || (decide (a7 ≥ (x0.2.length : Int)))) || (!(((List.getD r3.1 (Int.toNat a7) (0, (⟨#[]⟩ : ByteArray))).1) == (w (x0.1 + a7)))))) || (!((((!(r4 == 0)) || (decide (a7 > 3))) || (decide (a7 ≥ (x0.2.length : Int)))) || (!(((List.getD r3.1 (Int.toNat a7) (0, (⟨#[]⟩ : ByteArray))).1) == (w (x0.1 + a7)))))) then
                                          bif !(!((((!(r4 == 0)) || (decide (a7 > 3))) || (decide (a7 ≥ (x0.2.length : Int)))) || (!(((List.getD r3.1 (Int.toNat a7) (0, (⟨#[]⟩ : ByteArray))).1) == (w (x0.1 + a7)))))) || (!((((!(r4 == 0)) || (decide (a7 > 3))) || (decide (a7 ≥ (x0.2.length : Int)))) || (!(((List.getD r3.1 (Int.toNat a7) (0, (⟨#[]⟩ : ByteArray))).1) == (w (x0.1 + a7)))))) then
                                            bif !(!((((!(r4 == 0)) || (decide (a7 > 3))) || (decide (a7 ≥ (x0.2.length : Int)))) || (!(((List.getD r3.1 (Int.toNat a7) (0, (⟨#[]⟩ : ByteArray))).1) == (w (x0.1 + a7)))))) || (!((((!(r4 == 0)) || (decide (a7 > 3))) || (decide (a7 ≥ (x0.2.length : Int)))) || (!(((List.getD r3.1 (Int.toNat a7) (0, (⟨#[]⟩ : ByteArray))).1) == (w (x0.1 + a7)))))) then
                                              bif ((decide (0 ≤ a7)) && (decide (a7 < (x0.2.length : Int)))) || !(!((((!(r4 == 0)) || (decide (a7 > 3))) || (decide (a7 ≥ (x0.2.length : Int)))) || (!(((List.getD r3.1 (Int.toNat a7) (0, (⟨#[]⟩ : ByteArray))).1) == (w (x0.1 + a7)))))) then
                                                bif !(!((((!(r4 == 0)) || (decide (a7 > 3))) || (decide (a7 ≥ (x0.2.length : Int)))) || (!(((List.getD r3.1 (Int.toNat a7) (0, (⟨#[]⟩ : ByteArray))).1) == (w (x0.1 + a7)))))) || (!((((!(r4 == 0)) || (decide (a7 > 3))) || (decide (a7 ≥ (x0.2.length : Int)))) || (!(((List.getD r3.1 (Int.toNat a7) (0, (⟨#[]⟩ : ByteArray))).1) == (w (x0.1 + a7)))))) then
                                                  bif !(!((((!(r4 == 0)) || (decide (a7 > 3))) || (decide (a7 ≥ (x0.2.length : Int)))) || (!(((List.getD r3.1 (Int.toNat a7) (0, (⟨#[]⟩ : ByteArray))).1) == (w (x0.1 + a7)))))) || (!((((!(r4 == 0)) || (decide (a7 > 3))) || (decide (a7 ≥ (x0.2.length : Int)))) || (!(((List.getD r3.1 (Int.toNat a7) (0, (⟨#[]⟩ : ByteArray))).1) == (w (x0.1 + a7)))))) then
                                                    bif !(!((((!(r4 == 0)) || (decide (a7 > 3))) || (decide (a7 ≥ (x0.2.length : Int)))) || (!(((List.getD r3.1 (Int.toNat a7) (0, (⟨#[]⟩ : ByteArray))).1) == (w (x0.1 + a7)))))) || (!((((!(r4 == 0)) || (decide (a7 > 3))) || (decide (a7 ≥ (x0.2.length : Int)))) || (!(((List.getD r3.1 (Int.toNat a7) (0, (⟨#[]⟩ : ByteArray))).1) == (w (x0.1 + a7)))))) then
                                                      bif ((((!(r4 == 0)) || (decide (a7 > 3))) || (decide (a7 ≥ (x0.2.length : Int)))) || (!(((List.getD r3.1 (Int.toNat a7) (0, (⟨#[]⟩ : ByteArray))).1) == (w (x0.1 + a7))))) || (!((((!(r4 == 0)) || (decide (a7 > 3))) || (decide (a7 ≥ (x0.2.length : Int)))) || (!(((List.getD r3.1 (Int.toNat a7) (0, (⟨#[]⟩ : ByteArray))).1) == (w (x0.1 + a7)))))) then
                                                        bif ((((!(r4 == 0)) || (decide (a7 > 3))) || (decide (a7 ≥ (x0.2.length : Int)))) || (!(((List.getD r3.1 (Int.toNat a7) (0, (⟨#[]⟩ : ByteArray))).1) == (w (x0.1 + a7))))) || (!(seq ((List.getD r3.1 (Int.toNat a7) (0, (⟨#[]⟩ : ByteArray))).2) (List.getD x0.2 (Int.toNat a7) (⟨#[]⟩ : ByteArray)))) then
                                                          some false
                                                        else
                                                          F11.l0 N x0 x1 r2 r3 r4 k6 (w (a7 + 1))
                                                      else
                                                        none
                                                    else
                                                      none
                                                  else
                                                    none
                                                else
                                                  none
                                              else
                                                none
                                            else
                                              none
                                          else
                                            none
                                        else
                                          none
                                      else
                                        none
                                    else
                                      none
                                  else
                                    none
                                else
                                  none
                              else
                                none
                            else
                              none
                          else
                            none
                        else
                          none
                      else
                        none
                    else
                      none
                  else
                    none
                else
                  none
              else
                none
            else
              none
          else
            none
        else
          none
      else
        none
    else
    bif !(r4 == 0) || (r4 == 0) then
      bif !(r4 == 0) || (r4 == 0) then
        bif !(r4 == 0) || (r4 == 0) then
          bif !(r4 == 0) || (r4 == 0) then
            bif !(r4 == 0) || (r4 == 0) then
              bif !(r4 == 0) || (r4 == 0) then
                bif (!(r4 == 0)) || (r4 == 0) then
                  bif (r4 == 0) && (!((r3.1.length : Int) == (if (x0.2.length : Int) < 4 then (x0.2.length : Int) else 4))) then
                    some false
                  else
                  bif !(r4 == 0) || (r4 == 0) then
                    bif !(r4 == 0) || (r4 == 0) then
                      bif (!(r4 == 0)) || (r4 == 0) then
                        bif (r4 == 0) && (decide ((x1.size : Int) > 120)) then
                          F11.j1 N x0 x1 r2 2
                        else
                          F11.j1 N x0 x1 r2 r4
                      else
                        none
                    else
                      none
                  else
                    none
                else
                  none
              else
                none
            else
              none
          else
            none
        else
          none
      else
        none
    else
      none := by kernel_rfl
theorem taut29 : ∀ p0 p1 : Bool, ((!((p0) && (!(p1))) || ((p0) && (!(p1))))) = true := by decide
theorem taut30 : ∀ p0 p1 : Bool, ((!(p0) || ((p1) || ((p0) && (!(p1)))))) = true := by decide
theorem F11.j1_clean (N : Nat) (x0 : Int × List ByteArray) (x1 : ByteArray) (r2 : (Int × List ByteArray) × Int) (a8 : Int) {M : Nat} (hM : N = M + 1) : F11.j1 N x0 x1 r2 a8 =
    bif (a8 == 0) && (((x0.2.length : Int) == 32) || ((w (x0.1 + (x0.2.length : Int))) == 100000)) then
      some (((r2.2 == 9) && (r2.1.1 == 0)) && ((r2.1.2.length : Int) == 0))
    else
    bif !(a8 == 0) then
      some (((r2.2 == a8) && (r2.1.1 == 0)) && ((r2.1.2.length : Int) == 0))
    else
    bif (r2.2 == 0) && (r2.1.1 == x0.1) then
      bif (r2.2 == 0) && (r2.1.1 == x0.1) then
        (F53.fn N x0.2).bind fun r9 =>
        bif decide ((r9.length + 1) * 16 ≤ 140737488355328) && decide ((r9.length + 1) ≤ maxLen) then
          bif (r2.2 == 0) && (r2.1.1 == x0.1) then
            (F52.fn N (r2.1.2, (r9 ++ [x1]))).bind fun r10 =>
            some r10
          else
            none
        else
          none
      else
        none
    else
      some false := by
  rw [F11.j1_eq (hM := hM)]; simp only [taut29, taut12, taut30, taut16, taut22, taut27, cond_true]
theorem taut31 : ∀ p0 : Bool, ((!(!(!(p0))) || (!(!(p0))))) = true := by decide
theorem taut32 : ∀ p0 p1 : Bool, ((!(!((!(p0)) || (p1))) || (!((!(p0)) || (p1))))) = true := by decide
theorem taut33 : ∀ p0 p1 p2 : Bool, ((!(!(((!(p0)) || (p1)) || (p2))) || (!(((!(p0)) || (p1)) || (p2))))) = true := by decide
theorem taut34 : ∀ p0 p1 p2 p3 : Bool, ((!(!((((!(p0)) || (p1)) || (p2)) || (!(p3)))) || (!((((!(p0)) || (p1)) || (p2)) || (!(p3)))))) = true := by decide
theorem taut35 : ∀ p0 : Bool, (((!(p0)) || (!(!(p0))))) = true := by decide
theorem taut36 : ∀ p0 p1 : Bool, ((((!(p0)) || (p1)) || (!((!(p0)) || (p1))))) = true := by decide
theorem taut37 : ∀ p0 p1 p2 : Bool, (((((!(p0)) || (p1)) || (p2)) || (!(((!(p0)) || (p1)) || (p2))))) = true := by decide
theorem taut38 : ∀ p0 p1 p2 p3 : Bool, ((((((!(p0)) || (p1)) || (p2)) || (!(p3))) || (!((((!(p0)) || (p1)) || (p2)) || (!(p3)))))) = true := by decide
theorem F11.l0_clean (N : Nat) (x0 : Int × List ByteArray) (x1 : ByteArray) (r2 : (Int × List ByteArray) × Int) (r3 : List (Int × ByteArray) × Int) (r4 : Int) (k6 : Nat) (a7 : Int) : F11.l0 N x0 x1 r2 r3 r4 (k6 + 1) a7 =
    bif decide (a7 < (r3.1.length : Int)) then
      bif (decide (0 ≤ a7)) && (decide (a7 < (r3.1.length : Int))) then
        bif decide ((Int.toNat a7) < r3.1.length) then
          bif ((decide (0 ≤ a7)) && (decide (a7 < (x0.2.length : Int)))) || !(!((((!(r4 == 0)) || (decide (a7 > 3))) || (decide (a7 ≥ (x0.2.length : Int)))) || (!(((List.getD r3.1 (Int.toNat a7) (0, (⟨#[]⟩ : ByteArray))).1) == (w (x0.1 + a7)))))) then
            bif ((((!(r4 == 0)) || (decide (a7 > 3))) || (decide (a7 ≥ (x0.2.length : Int)))) || (!(((List.getD r3.1 (Int.toNat a7) (0, (⟨#[]⟩ : ByteArray))).1) == (w (x0.1 + a7))))) || (!(seq ((List.getD r3.1 (Int.toNat a7) (0, (⟨#[]⟩ : ByteArray))).2) (List.getD x0.2 (Int.toNat a7) (⟨#[]⟩ : ByteArray)))) then
              some false
            else
              F11.l0 N x0 x1 r2 r3 r4 k6 (w (a7 + 1))
          else
            none
        else
          none
      else
        none
    else
    bif (r4 == 0) && (!((r3.1.length : Int) == (if (x0.2.length : Int) < 4 then (x0.2.length : Int) else 4))) then
      some false
    else
    bif (r4 == 0) && (decide ((x1.size : Int) > 120)) then
      F11.j1 N x0 x1 r2 2
    else
      F11.j1 N x0 x1 r2 r4 := by
  rw [F11.l0_succ]; simp only [taut31, taut32, taut33, taut34, taut16, taut35, taut27, taut36, taut37, taut38, cond_true]
theorem F11.eq (N : Nat) (x0 : Int × List ByteArray) (x1 : ByteArray) : F11.fn N (x0, x1) =
    (F47.fn N ()).bind fun r1 =>
    bif !r1 then
      some false
    else
      (F48.fn N ((x0.1, x0.2), x1)).bind fun r2 =>
      (F49.fn N (x0.1, x0.2)).bind fun r3 =>
      (F50.fn N (x0.1, x0.2)).bind fun r4 =>
      (F51.fn N (x0.1, x0.2)).bind fun r5 =>
      bif !(!(!(r5 == r4))) || (!(!(r5 == r4))) then
        bif !(!(!(r5 == r4))) || (!(!(r5 == r4))) then
          bif (!(r5 == r4)) || (!(!(r5 == r4))) then
            bif (!(r5 == r4)) || (!(r3.2 == r4)) then
              some false
            else
              F11.l0 N x0 x1 r2 r3 r4 N 0
          else
            none
        else
          none
      else
        none := by kernel_rfl
theorem F11.clean (N : Nat) (x0 : Int × List ByteArray) (x1 : ByteArray) : F11.fn N (x0, x1) =
    (F47.fn N ()).bind fun r1 =>
    bif !r1 then
      some false
    else
      (F48.fn N ((x0.1, x0.2), x1)).bind fun r2 =>
      (F49.fn N (x0.1, x0.2)).bind fun r3 =>
      (F50.fn N (x0.1, x0.2)).bind fun r4 =>
      (F51.fn N (x0.1, x0.2)).bind fun r5 =>
      bif (!(r5 == r4)) || (!(r3.2 == r4)) then
        some false
      else
        F11.l0 N x0 x1 r2 r3 r4 N 0 := by
  rw [F11.eq]; simp only [taut31, taut35, cond_true]

/-! ### F12: skyway/skywaylaw3.LinkHears -/
def F12.kp : List (Nat × List (Nat × Option (TypeId × Ty))) := [(1000010, [(1, none), (3, none), (5, none), (7, none), (8, none), (9, none), (10, none), (11, none), (12, none)]), (1000015, [(1, none), (3, none), (7, none), (8, none), (13, none)])]
noncomputable def F12.G (N : Nat) : List (Nat × Spec) := [(47, .pure (F47.S N)), (50, .pure (F50.S N)), (52, .pure (F52.S N)), (54, .pure (F54.S N)), (55, .pure (F55.S N))]
noncomputable def F12.E (N : Nat) : Env := mkEnv (F12.G N) N tyTab F12.kp
noncomputable def F12.fn (N : Nat) (x : (Int × List ByteArray) × Int × Int × ByteArray) : Option Bool := evFn (F12.E N) Try.prog 3 Try.f12 false [.agg (.pair (.int .i64) (.sl 9 (.str))), .cell (.int .i64), .agg (.pair (.int .i64) (.str))] [.val (.cell (.bool))] x
noncomputable def F12.S (N : Nat) : PSpec := ⟨false, [.agg (.pair (.int .i64) (.sl 9 (.str))), .cell (.int .i64), .agg (.pair (.int .i64) (.str))], [.val (.cell (.bool))], F12.fn N⟩
theorem f12_enters : Enters Try.prog 12 := ⟨Try.f12, Try.func12, by kernel_rfl, by kernel_rfl⟩
theorem F12.tab (N : Nat) : TabOk Try.prog (F12.G N) := ⟨⟨F47.enters, F47.sound N⟩, ⟨F50.enters, F50.sound N⟩, ⟨F52.enters, F52.sound N⟩, ⟨F54.enters, F54.sound N⟩, ⟨F55.enters, F55.sound N⟩, trivial⟩
theorem F12.enters : Enters Try.prog 12 := f12_enters
theorem F12.sound (N : Nat) : Sound Try.prog 12 (F12.S N) := evFn_sound (specs_tab (F12.tab N)) (inls_tab (F12.tab N)) mixed 3 Try.func12 _ _ _
noncomputable def F12.cd (N : Nat) (p : List Nat) : St → (Ex → St → Option Bool) → Option Bool := ev (F12.E N) Try.prog (callD (F12.E N) Try.prog 3) 0 (codeAt (bodyOf Try.f12) p)
noncomputable def F12.fin : Ex → St → Option Bool := endK Try.prog Try.f12 [.val (.cell (.bool))]
noncomputable def F12.j0 (N : Nat) (x0 : Int × List ByteArray) (x1 : Int) (x2 : Int × ByteArray) (r2 : (Int × List ByteArray) × Int) (r3 : Int × Bool × Int) (a4 : Int) : Option Bool :=
  fuelK N (region (F12.E N) Try.prog (callD (F12.E N) Try.prog 3) (opsAt (codeAt (bodyOf Try.f12) [1, 1, 1, 1, 1, 1, 0, 0])) false
  ⟨[.any, .sc (.int .i64 x1), .any, .ptr 0 0, .any, .ptr 1 0, .any, .ptr 2 0, .sc (.int .i64 r2.2), .sc (.int .i64 r3.1), .sc (.bool r3.2.1), .sc (.int .i64 r3.2.2), .sc (.int .i64 a4), .any, .any, .any, .any, .any, .any, .any, .any, .any, .any, .any, .any, .any, .any, .any, .any, .any, .any, .any, .any, .any, .any, .any, .any, .any, .any, .any, .any, .any, .any, .any, .any, .any, .any, .any, .any, .any, .any, .any, .any, .any, .any, .any, .any, .any, .any, .any, .any, .any, .any, .any, .any, .any, .any, .any, .any, .any, .any, .any, .any, .any, .any, .any, .any, .any, .any, .any, .any, .any, .any, .any, .any, .any, .any, .any, .any, .any, .any, .any, .any, .any, .any, .any, .any, .any, .any, .any, .any, .any, .any, .any, .any, .any, .any, .any, .any, .any, .any, .any, .any, .any, .any, .any, .any, .any, .any, .any, .any, .any, .any, .any, .any, .any, .any, .any, .any, .any, .any, .any, .any, .any, .any, .any, .any, .any, .any, .any, .any, .any, .any, .any, .any, .any, .any, .any, .any, .any, .any, .any], [.cells [.sc (.int .i64 x0.1), .ros false 9 (.str) x0.2] 81, .cells [.sc (.int .i64 x2.1), .sc (.string x2.2)] 89, .cells [.sc (.int .i64 r2.1.1), .ros true 9 (.str) r2.1.2] 81]⟩
  (fun S => (seqK (F12.cd N [1, 1, 1, 1, 1, 1, 0, 1]) (seqK (F12.cd N [1, 1, 1, 1, 1, 1, 1]) F12.fin)) .normal S))
noncomputable def F12.j1 (N : Nat) (x0 : Int × List ByteArray) (x1 : Int) (r2 : (Int × List ByteArray) × Int) (a6 : Int) : Option Bool :=
  fuelK N (region (F12.E N) Try.prog (callD (F12.E N) Try.prog 3) (opsAt (codeAt (bodyOf Try.f12) [1, 1, 1, 1, 1, 1, 1, 1, 1, 0, 0])) false
  ⟨[.any, .sc (.int .i64 x1), .any, .ptr 0 0, .any, .any, .any, .ptr 1 0, .sc (.int .i64 r2.2), .any, .any, .any, .any, .sc (.int .i64 a6), .any, .any, .any, .any, .any, .any, .any, .any, .any, .any, .any, .any, .any, .any, .any, .any, .any, .any, .any, .any, .any, .any, .any, .any, .any, .any, .any, .any, .any, .any, .any, .any, .any, .any, .any, .any, .any, .any, .any, .any, .any, .any, .any, .any, .any, .any, .any, .any, .any, .any, .any, .any, .any, .any, .any, .any, .any, .any, .any, .any, .any, .any, .any, .any, .any, .any, .any, .any, .any, .any, .any, .any, .any, .any, .any, .any, .any, .any, .any, .any, .any, .any, .any, .any, .any, .any, .any, .any, .any, .any, .any, .any, .any, .any, .any, .any, .any, .any, .any, .any, .any, .any, .any, .any, .any, .any, .any, .any, .any, .any, .any, .any, .any, .any, .any, .any, .any, .any, .any, .any, .any, .any, .any, .any, .any, .any, .any, .any, .any, .any, .any, .any, .any, .any, .any, .any, .any, .any], [.cells [.sc (.int .i64 x0.1), .ros false 9 (.str) x0.2] 81, .cells [.sc (.int .i64 r2.1.1), .ros true 9 (.str) r2.1.2] 81]⟩
  (fun S => (seqK (F12.cd N [1, 1, 1, 1, 1, 1, 1, 1, 1, 0, 1]) (seqK (F12.cd N [1, 1, 1, 1, 1, 1, 1, 1, 1, 1]) F12.fin)) .normal S))
theorem F12.j1_eq (N : Nat) (x0 : Int × List ByteArray) (x1 : Int) (r2 : (Int × List ByteArray) × Int) (a6 : Int) {M : Nat} (hM : N = M + 1) : F12.j1 N x0 x1 r2 a6 =
    bif !(a6 == 0) then
      bif !(r2.2 == a6) || (r2.2 == a6) then
        bif !(r2.2 == a6) || (r2.2 == a6) then
          bif (!(r2.2 == a6)) || (r2.2 == a6) then
            bif !((r2.2 == a6) && (r2.1.1 == 0)) || ((r2.2 == a6) && (r2.1.1 == 0)) then
              bif !((r2.2 == a6) && (r2.1.1 == 0)) || ((r2.2 == a6) && (r2.1.1 == 0)) then
                bif !((r2.2 == a6) && (r2.1.1 == 0)) || ((r2.2 == a6) && (r2.1.1 == 0)) then
                  bif (!((r2.2 == a6) && (r2.1.1 == 0))) || ((r2.2 == a6) && (r2.1.1 == 0)) then
                    some (((r2.2 == a6) && (r2.1.1 == 0)) && ((r2.1.2.length : Int) == 0))
                  else
                    none
                else
                  none
              else
                none
            else
              none
          else
            none
        else
          none
      else
        none
    else
    bif !(r2.2 == 0) || (r2.2 == 0) then
      bif !(r2.2 == 0) || (r2.2 == 0) then
        bif !(r2.2 == 0) || (r2.2 == 0) then
          bif (!(r2.2 == 0)) || (r2.2 == 0) then
            bif !((r2.2 == 0) && (r2.1.1 == (if x1 > x0.1 then x1 else x0.1))) || ((r2.2 == 0) && (r2.1.1 == (if x1 > x0.1 then x1 else x0.1))) then
              bif !((r2.2 == 0) && (r2.1.1 == (if x1 > x0.1 then x1 else x0.1))) || ((r2.2 == 0) && (r2.1.1 == (if x1 > x0.1 then x1 else x0.1))) then
                bif !((r2.2 == 0) && (r2.1.1 == (if x1 > x0.1 then x1 else x0.1))) || ((r2.2 == 0) && (r2.1.1 == (if x1 > x0.1 then x1 else x0.1))) then
                  bif !((r2.2 == 0) && (r2.1.1 == (if x1 > x0.1 then x1 else x0.1))) || ((r2.2 == 0) && (r2.1.1 == (if x1 > x0.1 then x1 else x0.1))) then
                    bif !((r2.2 == 0) && (r2.1.1 == (if x1 > x0.1 then x1 else x0.1))) || ((r2.2 == 0) && (r2.1.1 == (if x1 > x0.1 then x1 else x0.1))) then
                      bif !((r2.2 == 0) && (r2.1.1 == (if x1 > x0.1 then x1 else x0.1))) || ((r2.2 == 0) && (r2.1.1 == (if x1 > x0.1 then x1 else x0.1))) then
                        bif !((r2.2 == 0) && (r2.1.1 == (if x1 > x0.1 then x1 else x0.1))) || ((r2.2 == 0) && (r2.1.1 == (if x1 > x0.1 then x1 else x0.1))) then
                          bif ((decide (0 ≤ (w ((if x1 > x0.1 then x1 else x0.1) - x0.1)))) && (decide ((w ((if x1 > x0.1 then x1 else x0.1) - x0.1)) ≤ (x0.2.length : Int)))) || !((r2.2 == 0) && (r2.1.1 == (if x1 > x0.1 then x1 else x0.1))) then
                            bif !((r2.2 == 0) && (r2.1.1 == (if x1 > x0.1 then x1 else x0.1))) || ((r2.2 == 0) && (r2.1.1 == (if x1 > x0.1 then x1 else x0.1))) then
                              bif !((r2.2 == 0) && (r2.1.1 == (if x1 > x0.1 then x1 else x0.1))) || ((r2.2 == 0) && (r2.1.1 == (if x1 > x0.1 then x1 else x0.1))) then
                                (bif ((r2.2 == 0) && (r2.1.1 == (if x1 > x0.1 then x1 else x0.1))) then F52.fn N (r2.1.2, (List.drop (Int.toNat (w ((if x1 > x0.1 then x1 else x0.1) - x0.1))) x0.2)) else some (false)).bind fun r7 =>
                                bif (!((r2.2 == 0) && (r2.1.1 == (if x1 > x0.1 then x1 else x0.1)))) || ((r2.2 == 0) && (r2.1.1 == (if x1 > x0.1 then x1 else x0.1))) then
                                  some (((r2.2 == 0) && (r2.1.1 == (if x1 > x0.1 then x1 else x0.1))) && r7)
                                else
                                  none
                              else
                                none
                            else
                              none
                          else
                            none
                        else
                          none
                      else
                        none
                    else
                      none
                  else
                    none
                else
                  none
              else
                none
            else
              none
          else
            none
        else
          none
      else
        none
    else
      none := (fuelK_eq hM _).trans (by kernel_rfl)
theorem F12.j0_eq (N : Nat) (x0 : Int × List ByteArray) (x1 : Int) (x2 : Int × ByteArray) (r2 : (Int × List ByteArray) × Int) (r3 : Int × Bool × Int) (a4 : Int) {M : Nat} (hM : N = M + 1) : F12.j0 N x0 x1 x2 r2 r3 a4 =
    bif !(!(!(r3.2.2 == a4))) || (!(!(r3.2.2 == a4))) then
      bif !(!(!(r3.2.2 == a4))) || (!(!(r3.2.2 == a4))) then
        bif !((!(!(r3.2.2 == a4))) && (!(a4 == 0))) || ((!(!(r3.2.2 == a4))) && (!(a4 == 0))) then
          bif !((!(!(r3.2.2 == a4))) && (!(a4 == 0))) || ((!(!(r3.2.2 == a4))) && (!(a4 == 0))) then
            bif !((!(!(r3.2.2 == a4))) && (!(a4 == 0))) || ((!(!(r3.2.2 == a4))) && (!(a4 == 0))) then
              bif !((!(!(r3.2.2 == a4))) && (!(a4 == 0))) || ((!(r3.1 == 0)) || (((!(!(r3.2.2 == a4))) && (!(a4 == 0))) && (!(!(r3.1 == 0))))) then
                bif !(!(!(r3.2.2 == a4))) || (!(!(r3.2.2 == a4))) then
                  bif !(!(!(r3.2.2 == a4))) || ((!(!(a4 == 0))) || ((!(!(r3.2.2 == a4))) && (!(a4 == 0)))) then
                    bif (!(r3.2.2 == a4)) || (!(!(r3.2.2 == a4))) then
                      bif !(!((!(r3.2.2 == a4)) || ((!(a4 == 0)) && ((!(r3.1 == 0)) || r3.2.1)))) || (!((!(r3.2.2 == a4)) || ((!(a4 == 0)) && ((!(r3.1 == 0)) || r3.2.1)))) then
                        bif !(!((!(r3.2.2 == a4)) || ((!(a4 == 0)) && ((!(r3.1 == 0)) || r3.2.1)))) || (!((!(r3.2.2 == a4)) || ((!(a4 == 0)) && ((!(r3.1 == 0)) || r3.2.1)))) then
                          bif !((!((!(r3.2.2 == a4)) || ((!(a4 == 0)) && ((!(r3.1 == 0)) || r3.2.1)))) && (a4 == 0)) || ((!((!(r3.2.2 == a4)) || ((!(a4 == 0)) && ((!(r3.1 == 0)) || r3.2.1)))) && (a4 == 0)) then
                            bif !((!((!(r3.2.2 == a4)) || ((!(a4 == 0)) && ((!(r3.1 == 0)) || r3.2.1)))) && (a4 == 0)) || ((!((!(r3.2.2 == a4)) || ((!(a4 == 0)) && ((!(r3.1 == 0)) || r3.2.1)))) && (a4 == 0)) then
                              bif !((!((!(r3.2.2 == a4)) || ((!(a4 == 0)) && ((!(r3.1 == 0)) || r3.2.1)))) && (a4 == 0)) || ((!((!(r3.2.2 == a4)) || ((!(a4 == 0)) && ((!(r3.1 == 0)) || r3.2.1)))) && (a4 == 0)) then
                                bif !((!((!(r3.2.2 == a4)) || ((!(a4 == 0)) && ((!(r3.1 == 0)) || r3.2.1)))) && (a4 == 0)) || ((!((!(r3.2.2 == a4)) || ((!(a4 == 0)) && ((!(r3.1 == 0)) || r3.2.1)))) && (a4 == 0)) then
                                  bif !((!((!(r3.2.2 == a4)) || ((!(a4 == 0)) && ((!(r3.1 == 0)) || r3.2.1)))) && (a4 == 0)) || ((!((!(r3.2.2 == a4)) || ((!(a4 == 0)) && ((!(r3.1 == 0)) || r3.2.1)))) && (a4 == 0)) then
                                    bif !((!((!(r3.2.2 == a4)) || ((!(a4 == 0)) && ((!(r3.1 == 0)) || r3.2.1)))) && (a4 == 0)) || ((!((!(r3.2.2 == a4)) || ((!(a4 == 0)) && ((!(r3.1 == 0)) || r3.2.1)))) && (a4 == 0)) then
                                      bif !(((!((!(r3.2.2 == a4)) || ((!(a4 == 0)) && ((!(r3.1 == 0)) || r3.2.1)))) && (a4 == 0)) && (!(!(r3.2.1 == (x2.1 == x1))))) || (((!((!(r3.2.2 == a4)) || ((!(a4 == 0)) && ((!(r3.1 == 0)) || r3.2.1)))) && (a4 == 0)) && (!(!(r3.2.1 == (x2.1 == x1))))) then
                                        bif !((((!((!(r3.2.2 == a4)) || ((!(a4 == 0)) && ((!(r3.1 == 0)) || r3.2.1)))) && (a4 == 0)) && (!(!(r3.2.1 == (x2.1 == x1))))) && r3.2.1) || ((((!((!(r3.2.2 == a4)) || ((!(a4 == 0)) && ((!(r3.1 == 0)) || r3.2.1)))) && (a4 == 0)) && (!(!(r3.2.1 == (x2.1 == x1))))) && r3.2.1) then
                                          bif !((((!((!(r3.2.2 == a4)) || ((!(a4 == 0)) && ((!(r3.1 == 0)) || r3.2.1)))) && (a4 == 0)) && (!(!(r3.2.1 == (x2.1 == x1))))) && r3.2.1) || ((((!((!(r3.2.2 == a4)) || ((!(a4 == 0)) && ((!(r3.1 == 0)) || r3.2.1)))) && (a4 == 0)) && (!(!(r3.2.1 == (x2.1 == x1))))) && r3.2.1) then
                                            bif !((((!((!(r3.2.2 == a4)) || ((!(a4 == 0)) && ((!(r3.1 == 0)) || r3.2.1)))) && (a4 == 0)) && (!(!(r3.2.1 == (x2.1 == x1))))) && r3.2.1) || ((((!((!(r3.2.2 == a4)) || ((!(a4 == 0)) && ((!(r3.1 == 0)) || r3.2.1)))) && (a4 == 0)) && (!(!(r3.2.1 == (x2.1 == x1))))) && r3.2.1) then
                                              bif !(((!((!(r3.2.2 == a4)) || ((!(a4 == 0)) && ((!(r3.1 == 0)) || r3.2.1)))) && (a4 == 0)) && (!(!(r3.2.1 == (x2.1 == x1))))) || (((!((!(r3.2.2 == a4)) || ((!(a4 == 0)) && ((!(r3.1 == 0)) || r3.2.1)))) && (a4 == 0)) && (!(!(r3.2.1 == (x2.1 == x1))))) then
                                                bif !(((!((!(r3.2.2 == a4)) || ((!(a4 == 0)) && ((!(r3.1 == 0)) || r3.2.1)))) && (a4 == 0)) && (!(!(r3.2.1 == (x2.1 == x1))))) || ((!r3.2.1) || ((((!((!(r3.2.2 == a4)) || ((!(a4 == 0)) && ((!(r3.1 == 0)) || r3.2.1)))) && (a4 == 0)) && (!(!(r3.2.1 == (x2.1 == x1))))) && r3.2.1)) then
                                                  bif !((!((!(r3.2.2 == a4)) || ((!(a4 == 0)) && ((!(r3.1 == 0)) || r3.2.1)))) && (a4 == 0)) || ((!((!(r3.2.2 == a4)) || ((!(a4 == 0)) && ((!(r3.1 == 0)) || r3.2.1)))) && (a4 == 0)) then
                                                    bif !((!((!(r3.2.2 == a4)) || ((!(a4 == 0)) && ((!(r3.1 == 0)) || r3.2.1)))) && (a4 == 0)) || ((!(r3.2.1 == (x2.1 == x1))) || (((!((!(r3.2.2 == a4)) || ((!(a4 == 0)) && ((!(r3.1 == 0)) || r3.2.1)))) && (a4 == 0)) && (!(!(r3.2.1 == (x2.1 == x1)))))) then
                                                      bif !((!((!(r3.2.2 == a4)) || ((!(a4 == 0)) && ((!(r3.1 == 0)) || r3.2.1)))) && (a4 == 0)) || ((!((!(r3.2.2 == a4)) || ((!(a4 == 0)) && ((!(r3.1 == 0)) || r3.2.1)))) && (a4 == 0)) then
                                                        bif !(((!((!(r3.2.2 == a4)) || ((!(a4 == 0)) && ((!(r3.1 == 0)) || r3.2.1)))) && (a4 == 0)) && (!((!(r3.2.1 == (x2.1 == x1))) || (r3.2.1 && (!(r3.1 == (w (x1 + 1)))))))) || (((!((!(r3.2.2 == a4)) || ((!(a4 == 0)) && ((!(r3.1 == 0)) || r3.2.1)))) && (a4 == 0)) && (!((!(r3.2.1 == (x2.1 == x1))) || (r3.2.1 && (!(r3.1 == (w (x1 + 1)))))))) then
                                                          bif !(((!((!(r3.2.2 == a4)) || ((!(a4 == 0)) && ((!(r3.1 == 0)) || r3.2.1)))) && (a4 == 0)) && (!((!(r3.2.1 == (x2.1 == x1))) || (r3.2.1 && (!(r3.1 == (w (x1 + 1)))))))) || (((!((!(r3.2.2 == a4)) || ((!(a4 == 0)) && ((!(r3.1 == 0)) || r3.2.1)))) && (a4 == 0)) && (!((!(r3.2.1 == (x2.1 == x1))) || (r3.2.1 && (!(r3.1 == (w (x1 + 1)))))))) then
                                                            bif !((((!((!(r3.2.2 == a4)) || ((!(a4 == 0)) && ((!(r3.1 == 0)) || r3.2.1)))) && (a4 == 0)) && (!((!(r3.2.1 == (x2.1 == x1))) || (r3.2.1 && (!(r3.1 == (w (x1 + 1)))))))) && (!r3.2.1)) || ((((!((!(r3.2.2 == a4)) || ((!(a4 == 0)) && ((!(r3.1 == 0)) || r3.2.1)))) && (a4 == 0)) && (!((!(r3.2.1 == (x2.1 == x1))) || (r3.2.1 && (!(r3.1 == (w (x1 + 1)))))))) && (!r3.2.1)) then
                                                              bif !((((!((!(r3.2.2 == a4)) || ((!(a4 == 0)) && ((!(r3.1 == 0)) || r3.2.1)))) && (a4 == 0)) && (!((!(r3.2.1 == (x2.1 == x1))) || (r3.2.1 && (!(r3.1 == (w (x1 + 1)))))))) && (!r3.2.1)) || ((((!((!(r3.2.2 == a4)) || ((!(a4 == 0)) && ((!(r3.1 == 0)) || r3.2.1)))) && (a4 == 0)) && (!((!(r3.2.1 == (x2.1 == x1))) || (r3.2.1 && (!(r3.1 == (w (x1 + 1)))))))) && (!r3.2.1)) then
                                                                bif !(((!((!(r3.2.2 == a4)) || ((!(a4 == 0)) && ((!(r3.1 == 0)) || r3.2.1)))) && (a4 == 0)) && (!((!(r3.2.1 == (x2.1 == x1))) || (r3.2.1 && (!(r3.1 == (w (x1 + 1)))))))) || (((!((!(r3.2.2 == a4)) || ((!(a4 == 0)) && ((!(r3.1 == 0)) || r3.2.1)))) && (a4 == 0)) && (!((!(r3.2.1 == (x2.1 == x1))) || (r3.2.1 && (!(r3.1 == (w (x1 + 1)))))))) then
                                                                  bif !(((!((!(r3.2.2 == a4)) || ((!(a4 == 0)) && ((!(r3.1 == 0)) || r3.2.1)))) && (a4 == 0)) && (!((!(r3.2.1 == (x2.1 == x1))) || (r3.2.1 && (!(r3.1 == (w (x1 + 1)))))))) || ((!(!r3.2.1)) || ((((!((!(r3.2.2 == a4)) || ((!(a4 == 0)) && ((!(r3.1 == 0)) || r3.2.1)))) && (a4 == 0)) && (!((!(r3.2.1 == (x2.1 == x1))) || (r3.2.1 && (!(r3.1 == (w (x1 + 1)))))))) && (!r3.2.1))) then
                                                                    bif !((!((!(r3.2.2 == a4)) || ((!(a4 == 0)) && ((!(r3.1 == 0)) || r3.2.1)))) && (a4 == 0)) || ((!((!(r3.2.2 == a4)) || ((!(a4 == 0)) && ((!(r3.1 == 0)) || r3.2.1)))) && (a4 == 0)) then
                                                                      bif !((!((!(r3.2.2 == a4)) || ((!(a4 == 0)) && ((!(r3.1 == 0)) || r3.2.1)))) && (a4 == 0)) || (((!(r3.2.1 == (x2.1 == x1))) || (r3.2.1 && (!(r3.1 == (w (x1 + 1)))))) || (((!((!(r3.2.2 == a4)) || ((!(a4 == 0)) && ((!(r3.1 == 0)) || r3.2.1)))) && (a4 == 0)) && (!((!(r3.2.1 == (x2.1 == x1))) || (r3.2.1 && (!(r3.1 == (w (x1 + 1))))))))) then
                                                                        bif !(!((!(r3.2.2 == a4)) || ((!(a4 == 0)) && ((!(r3.1 == 0)) || r3.2.1)))) || (!((!(r3.2.2 == a4)) || ((!(a4 == 0)) && ((!(r3.1 == 0)) || r3.2.1)))) then
                                                                          bif !(!((!(r3.2.2 == a4)) || ((!(a4 == 0)) && ((!(r3.1 == 0)) || r3.2.1)))) || ((!(a4 == 0)) || ((!((!(r3.2.2 == a4)) || ((!(a4 == 0)) && ((!(r3.1 == 0)) || r3.2.1)))) && (a4 == 0))) then
                                                                            bif ((!(r3.2.2 == a4)) || ((!(a4 == 0)) && ((!(r3.1 == 0)) || r3.2.1))) || (!((!(r3.2.2 == a4)) || ((!(a4 == 0)) && ((!(r3.1 == 0)) || r3.2.1)))) then
                                                                              bif ((!(r3.2.2 == a4)) || ((!(a4 == 0)) && ((!(r3.1 == 0)) || r3.2.1))) || ((a4 == 0) && (((!(r3.2.1 == (x2.1 == x1))) || (r3.2.1 && (!(r3.1 == (w (x1 + 1)))))) || ((!r3.2.1) && (!(r3.1 == x1))))) then
                                                                                some false
                                                                              else
                                                                                (F50.fn N (x0.1, x0.2)).bind fun r5 =>
                                                                                bif !(r5 == 0) || (r5 == 0) then
                                                                                  bif !(r5 == 0) || (r5 == 0) then
                                                                                    bif !((r5 == 0) && (!(decide (x1 < 1)))) || ((r5 == 0) && (!(decide (x1 < 1)))) then
                                                                                      bif !((r5 == 0) && (!(decide (x1 < 1)))) || ((r5 == 0) && (!(decide (x1 < 1)))) then
                                                                                        bif !((r5 == 0) && (!(decide (x1 < 1)))) || ((r5 == 0) && (!(decide (x1 < 1)))) then
                                                                                          bif !((r5 == 0) && (!(decide (x1 < 1)))) || ((r5 == 0) && (!(decide (x1 < 1)))) then
                                                                                            bif !((r5 == 0) && (!(decide (x1 < 1)))) || ((r5 == 0) && (!(decide (x1 < 1)))) then
                                                                                              bif !((r5 == 0) && (!(decide (x1 < 1)))) || ((r5 == 0) && (!(decide (x1 < 1)))) then
                                                                                                bif !((r5 == 0) && (!(decide (x1 < 1)))) || ((r5 == 0) && (!(decide (x1 < 1)))) then
                                                                                                  bif !(r5 == 0) || (r5 == 0) then
                                                                                                    bif !(r5 == 0) || ((decide (x1 < 1)) || ((r5 == 0) && (!(decide (x1 < 1))))) then
                                                                                                      bif (!(r5 == 0)) || (r5 == 0) then
                                                                                                        bif (r5 == 0) && ((decide (x1 < 1)) || (decide (x1 > (w (x0.1 + (x0.2.length : Int)))))) then
                                                                                                          F12.j1 N x0 x1 r2 4
                                                                                                        else
                                                                                                          F12.j1 N x0 x1 r2 r5
                                                                                                      else
                                                                                                        none
                                                                                                    else
                                                                                                      none
                                                                                                  else
                                                                                                    none
                                                                                                else
                                                                                                  none
                                                                                              else
                                                                                                none
                                                                                            else
                                                                                              none
                                                                                          else
                                                                                            none
                                                                                        else
                                                                                          none
                                                                                      else
                                                                                        none
                                                                                    else
                                                                                      none
                                                                                  else
                                                                                    none
                                                                                else
                                                                                  none
                                                                            else
                                                                              none
                                                                          else
                                                                            none
                                                                        else
                                                                          none
                                                                      else
                                                                        none
                                                                    else
                                                                      none
                                                                  else
                                                                    none
                                                                else
                                                                  none
                                                              else
                                                                none
                                                            else
                                                              none
                                                          else
                                                            none
                                                        else
                                                          none
                                                      else
                                                        none
                                                    else
                                                      none
                                                  else
                                                    none
                                                else
                                                  none
                                              else
                                                none
                                            else
                                              none
                                          else
                                            none
                                        else
                                          none
                                      else
                                        none
                                    else
                                      none
                                  else
                                    none
                                else
                                  none
                              else
                                none
                            else
                              none
                          else
                            none
                        else
                          none
                      else
                        none
                    else
                      none
                  else
                    none
                else
                  none
              else
                none
            else
              none
          else
            none
        else
          none
      else
        none
    else
      none := (fuelK_eq hM _).trans (by kernel_rfl)
theorem F12.j1_clean (N : Nat) (x0 : Int × List ByteArray) (x1 : Int) (r2 : (Int × List ByteArray) × Int) (a6 : Int) {M : Nat} (hM : N = M + 1) : F12.j1 N x0 x1 r2 a6 =
    bif !(a6 == 0) then
      some (((r2.2 == a6) && (r2.1.1 == 0)) && ((r2.1.2.length : Int) == 0))
    else
    bif ((decide (0 ≤ (w ((if x1 > x0.1 then x1 else x0.1) - x0.1)))) && (decide ((w ((if x1 > x0.1 then x1 else x0.1) - x0.1)) ≤ (x0.2.length : Int)))) || !((r2.2 == 0) && (r2.1.1 == (if x1 > x0.1 then x1 else x0.1))) then
      (bif ((r2.2 == 0) && (r2.1.1 == (if x1 > x0.1 then x1 else x0.1))) then F52.fn N (r2.1.2, (List.drop (Int.toNat (w ((if x1 > x0.1 then x1 else x0.1) - x0.1))) x0.2)) else some (false)).bind fun r7 =>
      some (((r2.2 == 0) && (r2.1.1 == (if x1 > x0.1 then x1 else x0.1))) && r7)
    else
      none := by
  rw [F12.j1_eq (hM := hM)]; simp only [taut12, taut16, taut22, taut27, cond_true]
theorem taut39 : ∀ p0 p1 : Bool, ((!(!(!(p0))) || ((!(!(p1))) || ((!(!(p0))) && (!(p1)))))) = true := by decide
theorem taut40 : ∀ p0 p1 p2 p3 : Bool, ((!(!((!(p0)) || ((!(p1)) && ((!(p2)) || p3)))) || (!((!(p0)) || ((!(p1)) && ((!(p2)) || p3)))))) = true := by decide
theorem taut41 : ∀ p0 p1 p2 p3 : Bool, ((!(!((!(p0)) || ((!(p1)) && ((!(p2)) || p3)))) || ((!(p1)) || ((!((!(p0)) || ((!(p1)) && ((!(p2)) || p3)))) && (p1))))) = true := by decide
theorem taut42 : ∀ p0 p1 : Bool, ((!((!(!(p0))) && (!(p1))) || ((!(!(p0))) && (!(p1))))) = true := by decide
theorem taut43 : ∀ p0 p1 p2 : Bool, ((!((!(!(p0))) && (!(p1))) || ((!(p2)) || (((!(!(p0))) && (!(p1))) && (!(!(p2))))))) = true := by decide
theorem taut44 : ∀ p0 p1 p2 p3 : Bool, ((!((!((!(p0)) || ((!(p1)) && ((!(p2)) || p3)))) && (p1)) || ((!((!(p0)) || ((!(p1)) && ((!(p2)) || p3)))) && (p1)))) = true := by decide
theorem taut45 : ∀ p0 p1 p2 p3 p4 : Bool, ((!((!((!(p0)) || ((!(p1)) && ((!(p2)) || p3)))) && (p1)) || ((!(p4)) || (((!((!(p0)) || ((!(p1)) && ((!(p2)) || p3)))) && (p1)) && (!(!(p4))))))) = true := by decide
theorem taut46 : ∀ p0 p1 p2 p3 p4 p5 : Bool, ((!((!((!(p0)) || ((!(p1)) && ((!(p2)) || p3)))) && (p1)) || (((!(p4)) || (p3 && (!(p5)))) || (((!((!(p0)) || ((!(p1)) && ((!(p2)) || p3)))) && (p1)) && (!((!(p4)) || (p3 && (!(p5))))))))) = true := by decide
theorem taut47 : ∀ p0 p1 p2 p3 p4 : Bool, ((!(((!((!(p0)) || ((!(p1)) && ((!(p2)) || p3)))) && (p1)) && (!(!(p4)))) || ((!p3) || ((((!((!(p0)) || ((!(p1)) && ((!(p2)) || p3)))) && (p1)) && (!(!(p4)))) && p3)))) = true := by decide
theorem taut48 : ∀ p0 p1 p2 p3 p4 : Bool, ((!(((!((!(p0)) || ((!(p1)) && ((!(p2)) || p3)))) && (p1)) && (!(!(p4)))) || (((!((!(p0)) || ((!(p1)) && ((!(p2)) || p3)))) && (p1)) && (!(!(p4)))))) = true := by decide
theorem taut49 : ∀ p0 p1 p2 p3 p4 p5 : Bool, ((!(((!((!(p0)) || ((!(p1)) && ((!(p2)) || p3)))) && (p1)) && (!((!(p4)) || (p3 && (!(p5)))))) || ((!(!p3)) || ((((!((!(p0)) || ((!(p1)) && ((!(p2)) || p3)))) && (p1)) && (!((!(p4)) || (p3 && (!(p5)))))) && (!p3))))) = true := by decide
theorem taut50 : ∀ p0 p1 p2 p3 p4 p5 : Bool, ((!(((!((!(p0)) || ((!(p1)) && ((!(p2)) || p3)))) && (p1)) && (!((!(p4)) || (p3 && (!(p5)))))) || (((!((!(p0)) || ((!(p1)) && ((!(p2)) || p3)))) && (p1)) && (!((!(p4)) || (p3 && (!(p5)))))))) = true := by decide
theorem taut51 : ∀ p0 p1 p2 p3 p4 : Bool, ((!((((!((!(p0)) || ((!(p1)) && ((!(p2)) || p3)))) && (p1)) && (!(!(p4)))) && p3) || ((((!((!(p0)) || ((!(p1)) && ((!(p2)) || p3)))) && (p1)) && (!(!(p4)))) && p3))) = true := by decide
theorem taut52 : ∀ p0 p1 p2 p3 p4 p5 : Bool, ((!((((!((!(p0)) || ((!(p1)) && ((!(p2)) || p3)))) && (p1)) && (!((!(p4)) || (p3 && (!(p5)))))) && (!p3)) || ((((!((!(p0)) || ((!(p1)) && ((!(p2)) || p3)))) && (p1)) && (!((!(p4)) || (p3 && (!(p5)))))) && (!p3)))) = true := by decide
theorem taut53 : ∀ p0 p1 p2 p3 : Bool, ((((!(p0)) || ((!(p1)) && ((!(p2)) || p3))) || (!((!(p0)) || ((!(p1)) && ((!(p2)) || p3)))))) = true := by decide
theorem F12.j0_clean (N : Nat) (x0 : Int × List ByteArray) (x1 : Int) (x2 : Int × ByteArray) (r2 : (Int × List ByteArray) × Int) (r3 : Int × Bool × Int) (a4 : Int) {M : Nat} (hM : N = M + 1) : F12.j0 N x0 x1 x2 r2 r3 a4 =
    bif ((!(r3.2.2 == a4)) || ((!(a4 == 0)) && ((!(r3.1 == 0)) || r3.2.1))) || ((a4 == 0) && (((!(r3.2.1 == (x2.1 == x1))) || (r3.2.1 && (!(r3.1 == (w (x1 + 1)))))) || ((!r3.2.1) && (!(r3.1 == x1))))) then
      some false
    else
      (F50.fn N (x0.1, x0.2)).bind fun r5 =>
      bif (r5 == 0) && ((decide (x1 < 1)) || (decide (x1 > (w (x0.1 + (x0.2.length : Int)))))) then
        F12.j1 N x0 x1 r2 4
      else
        F12.j1 N x0 x1 r2 r5 := by
  rw [F12.j0_eq (hM := hM)]; simp only [taut31, taut39, taut40, taut41, taut42, taut43, taut44, taut45, taut46, taut47, taut48, taut49, taut50, taut51, taut52, taut29, taut30, taut16, taut35, taut27, taut53, cond_true]
theorem F12.eq (N : Nat) (x0 : Int × List ByteArray) (x1 : Int) (x2 : Int × ByteArray) : F12.fn N (x0, x1, x2) =
    (F47.fn N ()).bind fun r1 =>
    bif !r1 then
      some false
    else
      (F54.fn N ((x0.1, x0.2), x1)).bind fun r2 =>
      (F55.fn N (x1, (x2.1, x2.2))).bind fun r3 =>
      bif !(!(decide (x1 < 1))) || (!(decide (x1 < 1))) then
        bif (decide (x1 < 1)) || (!(decide (x1 < 1))) then
          bif !(!((decide (x1 < 1)) || (decide (x1 > 99999)))) || (!((decide (x1 < 1)) || (decide (x1 > 99999)))) then
            bif !(!((decide (x1 < 1)) || (decide (x1 > 99999)))) || (!((decide (x1 < 1)) || (decide (x1 > 99999)))) then
              bif ((decide (x1 < 1)) || (decide (x1 > 99999))) || (!((decide (x1 < 1)) || (decide (x1 > 99999)))) then
                bif !(!(((decide (x1 < 1)) || (decide (x1 > 99999))) || (decide (x2.1 < 1)))) || (!(((decide (x1 < 1)) || (decide (x1 > 99999))) || (decide (x2.1 < 1)))) then
                  bif !(!(((decide (x1 < 1)) || (decide (x1 > 99999))) || (decide (x2.1 < 1)))) || (!(((decide (x1 < 1)) || (decide (x1 > 99999))) || (decide (x2.1 < 1)))) then
                    bif (((decide (x1 < 1)) || (decide (x1 > 99999))) || (decide (x2.1 < 1))) || (!(((decide (x1 < 1)) || (decide (x1 > 99999))) || (decide (x2.1 < 1)))) then
                      bif (((decide (x1 < 1)) || (decide (x1 > 99999))) || (decide (x2.1 < 1))) || (decide (x2.1 > 99999)) then
                        F12.j0 N x0 x1 x2 r2 r3 4
                      else
                      bif decide ((x2.2.size : Int) > 120) then
                        F12.j0 N x0 x1 x2 r2 r3 2
                      else
                        F12.j0 N x0 x1 x2 r2 r3 0
                    else
                      none
                  else
                    none
                else
                  none
              else
                none
            else
              none
          else
            none
        else
          none
      else
        none := by kernel_rfl
theorem F12.clean (N : Nat) (x0 : Int × List ByteArray) (x1 : Int) (x2 : Int × ByteArray) : F12.fn N (x0, x1, x2) =
    (F47.fn N ()).bind fun r1 =>
    bif !r1 then
      some false
    else
      (F54.fn N ((x0.1, x0.2), x1)).bind fun r2 =>
      (F55.fn N (x1, (x2.1, x2.2))).bind fun r3 =>
      bif (((decide (x1 < 1)) || (decide (x1 > 99999))) || (decide (x2.1 < 1))) || (decide (x2.1 > 99999)) then
        F12.j0 N x0 x1 x2 r2 r3 4
      else
      bif decide ((x2.2.size : Int) > 120) then
        F12.j0 N x0 x1 x2 r2 r3 2
      else
        F12.j0 N x0 x1 x2 r2 r3 0 := by
  rw [F12.eq]; simp only [taut3, taut4, taut1, taut5, taut6, taut2, cond_true]

/-! ### F57: skyway/skywayref3.Dec -/
def F57.kp : List (Nat × List (Nat × Option (TypeId × Ty))) := []
noncomputable def F57.R (N : Nat) : Nat → Int → Option ByteArray
  | 0 => fun _ => none
  | D + 1 => evFn (mkEnv [(57, .pure ⟨false, [.cell (.int .i64)], [.val (.cell (.str))], F57.R N D⟩)] N tyTab F57.kp) Try.prog 3 Try.f57 false [.cell (.int .i64)] [.val (.cell (.str))]
noncomputable def F57.G (N D : Nat) : List (Nat × Spec) := [(57, .pure ⟨false, [.cell (.int .i64)], [.val (.cell (.str))], F57.R N D⟩)]
noncomputable def F57.E (N D : Nat) : Env := mkEnv (F57.G N D) N tyTab F57.kp
noncomputable def F57.fn (N : Nat) (x : Int) : Option ByteArray := F57.R N N x
noncomputable def F57.S (N : Nat) : PSpec := ⟨false, [.cell (.int .i64)], [.val (.cell (.str))], F57.fn N⟩
theorem f57_enters : Enters Try.prog 57 := ⟨Try.f57, Try.func57, by kernel_rfl, by kernel_rfl⟩
theorem F57.soundR (N : Nat) : ∀ D, Sound Try.prog 57 ⟨false, [.cell (.int .i64)], [.val (.cell (.str))], F57.R N D⟩
  | 0 => fun _ _ _ _ _ _ _ _ _ _ _ _ _ h => nomatch h
  | D + 1 => evFn_sound (specs_tab (G := F57.G N D) ⟨⟨f57_enters, F57.soundR N D⟩, trivial⟩) (inls_tab (G := F57.G N D) ⟨⟨f57_enters, F57.soundR N D⟩, trivial⟩) mixed 3 Try.func57 _ _ _
theorem F57.enters : Enters Try.prog 57 := f57_enters
theorem F57.sound (N : Nat) : Sound Try.prog 57 (F57.S N) := F57.soundR N N
theorem F57.eq (N D : Nat) (x0 : Int) : F57.R N (D + 1) x0 =
    bif decide (x0 < 0) then
      (F57.R N D (w (-x0))).bind fun r1 =>
      bif decide ((((⟨#[45]⟩ : ByteArray).size + r1.size : Nat) : Int) ≤ 9223372036854775807) then
        some ((⟨#[45]⟩ : ByteArray) ++ r1)
      else
        none
    else
    bif decide (x0 < 10) then
      bif ((decide (0 ≤ x0)) && (decide (x0 ≤ (w (x0 + 1))))) && (decide ((w (x0 + 1)) ≤ ((⟨#[48, 49, 50, 51, 52, 53, 54, 55, 56, 57]⟩ : ByteArray).size : Int))) then
        some (ByteArray.extract (⟨#[48, 49, 50, 51, 52, 53, 54, 55, 56, 57]⟩ : ByteArray) (Int.toNat x0) (Int.toNat (w (x0 + 1))))
      else
        none
    else
      (F57.R N D (w (Int.tdiv x0 10))).bind fun r2 =>
      (F57.R N D (Int.tmod x0 10)).bind fun r3 =>
      bif decide (((r2.size + r3.size : Nat) : Int) ≤ 9223372036854775807) then
        some (r2 ++ r3)
      else
        none := by kernel_rfl

/-! ### F13: skyway/skywaylaw3.LinkChannels -/
def F13.kp : List (Nat × List (Nat × Option (TypeId × Ty))) := [(10, [(3, none), (4, some (9, .str)), (23, none), (24, none), (25, none), (1000003, some (9, .str))]), (1000020, [(3, none), (4, none), (8, none), (14, none), (23, none), (24, none), (25, none)]), (1000037, [(3, none), (4, none), (7, none), (8, none), (9, none), (12, none), (13, none), (23, none), (24, none), (25, none)])]
noncomputable def F13.G (N : Nat) : List (Nat × Spec) := [(47, .pure (F47.S N)), (53, .pure (F53.S N)), (57, .pure (F57.S N)), (56, .inl Try.f56), (58, .inl Try.f58), (59, .inl Try.f59), (60, .inl Try.f60), (61, .inl Try.f61), (62, .inl Try.f62), (73, .inl Try.f73), (74, .inl Try.f74)]
noncomputable def F13.E (N : Nat) : Env := mkEnv (F13.G N) N tyTab F13.kp
noncomputable def F13.fn (N : Nat) (x : List Int) : Option Bool := evFn (F13.E N) Try.prog 3 Try.f13 false [.cell (.sl 3 (.int .i64))] [.val (.cell (.bool))] x
noncomputable def F13.S (N : Nat) : PSpec := ⟨false, [.cell (.sl 3 (.int .i64))], [.val (.cell (.bool))], F13.fn N⟩








theorem f13_enters : Enters Try.prog 13 := ⟨Try.f13, Try.func13, by kernel_rfl, by kernel_rfl⟩
theorem F13.tab (N : Nat) : TabOk Try.prog (F13.G N) := ⟨⟨F47.enters, F47.sound N⟩, ⟨F53.enters, F53.sound N⟩, ⟨F57.enters, F57.sound N⟩, ⟨f56_enters, Try.func56⟩, ⟨f58_enters, Try.func58⟩, ⟨f59_enters, Try.func59⟩, ⟨f60_enters, Try.func60⟩, ⟨f61_enters, Try.func61⟩, ⟨f62_enters, Try.func62⟩, ⟨f73_enters, Try.func73⟩, ⟨f74_enters, Try.func74⟩, trivial⟩
theorem F13.enters : Enters Try.prog 13 := f13_enters
theorem F13.sound (N : Nat) : Sound Try.prog 13 (F13.S N) := evFn_sound (specs_tab (F13.tab N)) (inls_tab (F13.tab N)) mixed 3 Try.func13 _ _ _
noncomputable def F13.cd (N : Nat) (p : List Nat) : St → (Ex → St → Option Bool) → Option Bool := ev (F13.E N) Try.prog (callD (F13.E N) Try.prog 3) 0 (codeAt (bodyOf Try.f13) p)
noncomputable def F13.fin : Ex → St → Option Bool := endK Try.prog Try.f13 [.val (.cell (.bool))]
noncomputable def F13.l0 (N : Nat) (x0 : List Int) (k2 : Nat) (a3 : Int) (a4 : List ByteArray) (a5 : List ByteArray) : Option Bool :=
  loopN (norm ((F13.E N).keep 10) 0) (F13.cd N [1, 1, 1, 1, 1, 1, 0, 1, 0, 0]) k2
  ⟨[.any, .any, .any, .ptr 0 0, .own 2, .any, .any, .any, .any, .any, .any, .any, .any, .any, .any, .any, .any, .any, .any, .any, .any, .any, .any, .ros false 3 (.int .i64) x0, .sc (.int .i64 (x0.length : Int)), .sc (.int .i64 a3), .any, .any, .any, .any, .any, .any, .any, .any, .any, .any, .any, .any, .any, .any, .any, .any, .any, .any, .any, .any, .any, .any, .any, .any, .any, .any, .any, .any, .any, .any, .any, .any, .any, .any, .any, .any, .any, .any, .any, .any, .any, .any, .any, .any, .any, .any, .any, .any, .any, .any, .any, .any, .any, .any, .any, .any, .any, .any, .any, .any, .any, .any, .any, .any, .any, .any, .any, .any, .any, .any, .any, .any, .any, .any, .any, .any, .any, .any, .any, .any, .any, .any, .any, .any, .any, .any, .any, .any, .any, .any, .any, .any, .any, .any, .any, .any, .any, .any, .any, .any, .any, .any, .any, .any, .any, .any, .any, .any, .any, .any, .any], [.cells [.own 1] 116, .rows true 9 (.str) a4, .rows true 9 (.str) a5]⟩
  (blockK 0 (seqK (F13.cd N [1, 1, 1, 1, 1, 1, 1]) F13.fin))
noncomputable def F13.j1 (N : Nat) (x0 : List Int) (k2 : Nat) (a3 : Int) (a5 : List ByteArray) (a7 : Int) (a8 : Int) (a9 : Bool) (a10 : ByteArray) (a11 : Int) (a12 : List ByteArray) : Option Bool :=
  fuelK N (region (F13.E N) Try.prog (callD (F13.E N) Try.prog 3) (opsAt (codeAt (bodyOf Try.f13) [1, 1, 1, 1, 1, 1, 0, 1, 0, 0, 1, 1, 0, 0, 1, 1, 1, 0, 1, 0, 1, 1, 1, 0, 1, 1, 0, 0])) false
  ⟨[.any, .any, .any, .ptr 0 0, .own 2, .any, .any, .sc (.int .i64 a7), .sc (.int .i64 a8), .sc (.bool a9), .any, .any, .sc (.string a10), .sc (.int .i64 a11), .any, .any, .any, .any, .any, .any, .any, .any, .any, .ros false 3 (.int .i64) x0, .sc (.int .i64 (x0.length : Int)), .sc (.int .i64 a3), .any, .any, .any, .any, .any, .any, .any, .any, .any, .any, .any, .any, .any, .any, .any, .any, .any, .any, .any, .any, .any, .any, .any, .any, .any, .any, .any, .any, .any, .any, .any, .any, .any, .any, .any, .any, .any, .any, .any, .any, .any, .any, .any, .any, .any, .any, .any, .any, .any, .any, .any, .any, .any, .any, .any, .any, .any, .any, .any, .any, .any, .any, .any, .any, .any, .any, .any, .any, .any, .any, .any, .any, .any, .any, .any, .any, .any, .any, .any, .any, .any, .any, .any, .any, .any, .any, .any, .any, .any, .any, .any, .any, .any, .any, .any, .any, .any, .any, .any, .any, .any, .any, .any, .any, .any, .any, .any, .any, .any, .any, .any], [.cells [.own 1] 116, .rows true 9 (.str) a12, .rows true 9 (.str) a5]⟩
  (fun S => (seqK (F13.cd N [1, 1, 1, 1, 1, 1, 0, 1, 0, 0, 1, 1, 0, 0, 1, 1, 1, 0, 1, 0, 1, 1, 1, 0, 1, 1, 0, 1]) (seqK (F13.cd N [1, 1, 1, 1, 1, 1, 0, 1, 0, 0, 1, 1, 0, 0, 1, 1, 1, 0, 1, 0, 1, 1, 1, 0, 1, 1, 1]) (blockK 2 (seqK (F13.cd N [1, 1, 1, 1, 1, 1, 0, 1, 0, 0, 1, 1, 0, 0, 1, 1, 1, 1]) (blockK 1 (seqK (F13.cd N [1, 1, 1, 1, 1, 1, 0, 1, 0, 0, 1, 1, 1]) (loopK (norm ((F13.E N).keep 10) 0) (F13.cd N [1, 1, 1, 1, 1, 1, 0, 1, 0, 0]) k2 (blockK 0 (seqK (F13.cd N [1, 1, 1, 1, 1, 1, 1]) F13.fin))))))))) .normal S))
noncomputable def F13.j2 (N : Nat) (x0 : List Int) (k2 : Nat) (a3 : Int) (a4 : List ByteArray) (a5 : List ByteArray) (a14 : Int) (a15 : Int) : Option Bool :=
  fuelK N (region (F13.E N) Try.prog (callD (F13.E N) Try.prog 3) (opsAt (codeAt (bodyOf Try.f13) [1, 1, 1, 1, 1, 1, 0, 1, 0, 0, 1, 1, 0, 0, 1, 1, 1, 0, 1, 0, 1, 1, 1, 1, 1, 1, 0, 0])) false
  ⟨[.any, .any, .any, .ptr 0 0, .own 2, .any, .any, .any, .sc (.int .i64 a14), .any, .any, .any, .any, .any, .sc (.int .i64 a15), .any, .any, .any, .any, .any, .any, .any, .any, .ros false 3 (.int .i64) x0, .sc (.int .i64 (x0.length : Int)), .sc (.int .i64 a3), .any, .any, .any, .any, .any, .any, .any, .any, .any, .any, .any, .any, .any, .any, .any, .any, .any, .any, .any, .any, .any, .any, .any, .any, .any, .any, .any, .any, .any, .any, .any, .any, .any, .any, .any, .any, .any, .any, .any, .any, .any, .any, .any, .any, .any, .any, .any, .any, .any, .any, .any, .any, .any, .any, .any, .any, .any, .any, .any, .any, .any, .any, .any, .any, .any, .any, .any, .any, .any, .any, .any, .any, .any, .any, .any, .any, .any, .any, .any, .any, .any, .any, .any, .any, .any, .any, .any, .any, .any, .any, .any, .any, .any, .any, .any, .any, .any, .any, .any, .any, .any, .any, .any, .any, .any, .any, .any, .any, .any, .any, .any], [.cells [.own 1] 116, .rows true 9 (.str) a4, .rows true 9 (.str) a5]⟩
  (fun S => (seqK (F13.cd N [1, 1, 1, 1, 1, 1, 0, 1, 0, 0, 1, 1, 0, 0, 1, 1, 1, 0, 1, 0, 1, 1, 1, 1, 1, 1, 0, 1]) (seqK (F13.cd N [1, 1, 1, 1, 1, 1, 0, 1, 0, 0, 1, 1, 0, 0, 1, 1, 1, 0, 1, 0, 1, 1, 1, 1, 1, 1, 1]) (blockK 2 (seqK (F13.cd N [1, 1, 1, 1, 1, 1, 0, 1, 0, 0, 1, 1, 0, 0, 1, 1, 1, 1]) (blockK 1 (seqK (F13.cd N [1, 1, 1, 1, 1, 1, 0, 1, 0, 0, 1, 1, 1]) (loopK (norm ((F13.E N).keep 10) 0) (F13.cd N [1, 1, 1, 1, 1, 1, 0, 1, 0, 0]) k2 (blockK 0 (seqK (F13.cd N [1, 1, 1, 1, 1, 1, 1]) F13.fin))))))))) .normal S))
noncomputable def F13.j3 (N : Nat) (x0 : List Int) (k2 : Nat) (a3 : Int) (a5 : List ByteArray) (a16 : Int) (a17 : Int) (a18 : Bool) (a19 : ByteArray) (a20 : Int) (a21 : List ByteArray) : Option Bool :=
  fuelK N (region (F13.E N) Try.prog (callD (F13.E N) Try.prog 3) (opsAt (codeAt (bodyOf Try.f13) [1, 1, 1, 1, 1, 1, 0, 1, 0, 0, 1, 1, 0, 0, 1, 1, 1, 0, 1, 0, 1, 1, 1, 0, 1, 1, 0, 0])) false
  ⟨[.any, .any, .any, .ptr 0 0, .own 2, .any, .any, .sc (.int .i64 a16), .sc (.int .i64 a17), .sc (.bool a18), .any, .any, .sc (.string a19), .sc (.int .i64 a20), .any, .any, .any, .any, .any, .any, .any, .any, .any, .ros false 3 (.int .i64) x0, .sc (.int .i64 (x0.length : Int)), .sc (.int .i64 a3), .any, .any, .any, .any, .any, .any, .any, .any, .any, .any, .any, .any, .any, .any, .any, .any, .any, .any, .any, .any, .any, .any, .any, .any, .any, .any, .any, .any, .any, .any, .any, .any, .any, .any, .any, .any, .any, .any, .any, .any, .any, .any, .any, .any, .any, .any, .any, .any, .any, .any, .any, .any, .any, .any, .any, .any, .any, .any, .any, .any, .any, .any, .any, .any, .any, .any, .any, .any, .any, .any, .any, .any, .any, .any, .any, .any, .any, .any, .any, .any, .any, .any, .any, .any, .any, .any, .any, .any, .any, .any, .any, .any, .any, .any, .any, .any, .any, .any, .any, .any, .any, .any, .any, .any, .any, .any, .any, .any, .any, .any, .any], [.cells [.own 1] 116, .rows true 9 (.str) a21, .rows true 9 (.str) a5]⟩
  (fun S => (seqK (F13.cd N [1, 1, 1, 1, 1, 1, 0, 1, 0, 0, 1, 1, 0, 0, 1, 1, 1, 0, 1, 0, 1, 1, 1, 0, 1, 1, 0, 1]) (seqK (F13.cd N [1, 1, 1, 1, 1, 1, 0, 1, 0, 0, 1, 1, 0, 0, 1, 1, 1, 0, 1, 0, 1, 1, 1, 0, 1, 1, 1]) (blockK 2 (seqK (F13.cd N [1, 1, 1, 1, 1, 1, 0, 1, 0, 0, 1, 1, 0, 0, 1, 1, 1, 1]) (blockK 1 (seqK (F13.cd N [1, 1, 1, 1, 1, 1, 0, 1, 0, 0, 1, 1, 1]) (loopK (norm ((F13.E N).keep 10) 0) (F13.cd N [1, 1, 1, 1, 1, 1, 0, 1, 0, 0]) k2 (blockK 0 (seqK (F13.cd N [1, 1, 1, 1, 1, 1, 1]) F13.fin))))))))) .normal S))
noncomputable def F13.j4 (N : Nat) (x0 : List Int) (k2 : Nat) (a3 : Int) (a4 : List ByteArray) (a5 : List ByteArray) (a23 : Int) (a24 : Int) : Option Bool :=
  fuelK N (region (F13.E N) Try.prog (callD (F13.E N) Try.prog 3) (opsAt (codeAt (bodyOf Try.f13) [1, 1, 1, 1, 1, 1, 0, 1, 0, 0, 1, 1, 0, 0, 1, 1, 1, 0, 1, 0, 1, 1, 1, 1, 1, 1, 0, 0])) false
  ⟨[.any, .any, .any, .ptr 0 0, .own 2, .any, .any, .any, .sc (.int .i64 a23), .any, .any, .any, .any, .any, .sc (.int .i64 a24), .any, .any, .any, .any, .any, .any, .any, .any, .ros false 3 (.int .i64) x0, .sc (.int .i64 (x0.length : Int)), .sc (.int .i64 a3), .any, .any, .any, .any, .any, .any, .any, .any, .any, .any, .any, .any, .any, .any, .any, .any, .any, .any, .any, .any, .any, .any, .any, .any, .any, .any, .any, .any, .any, .any, .any, .any, .any, .any, .any, .any, .any, .any, .any, .any, .any, .any, .any, .any, .any, .any, .any, .any, .any, .any, .any, .any, .any, .any, .any, .any, .any, .any, .any, .any, .any, .any, .any, .any, .any, .any, .any, .any, .any, .any, .any, .any, .any, .any, .any, .any, .any, .any, .any, .any, .any, .any, .any, .any, .any, .any, .any, .any, .any, .any, .any, .any, .any, .any, .any, .any, .any, .any, .any, .any, .any, .any, .any, .any, .any, .any, .any, .any, .any, .any, .any], [.cells [.own 1] 116, .rows true 9 (.str) a4, .rows true 9 (.str) a5]⟩
  (fun S => (seqK (F13.cd N [1, 1, 1, 1, 1, 1, 0, 1, 0, 0, 1, 1, 0, 0, 1, 1, 1, 0, 1, 0, 1, 1, 1, 1, 1, 1, 0, 1]) (seqK (F13.cd N [1, 1, 1, 1, 1, 1, 0, 1, 0, 0, 1, 1, 0, 0, 1, 1, 1, 0, 1, 0, 1, 1, 1, 1, 1, 1, 1]) (blockK 2 (seqK (F13.cd N [1, 1, 1, 1, 1, 1, 0, 1, 0, 0, 1, 1, 0, 0, 1, 1, 1, 1]) (blockK 1 (seqK (F13.cd N [1, 1, 1, 1, 1, 1, 0, 1, 0, 0, 1, 1, 1]) (loopK (norm ((F13.E N).keep 10) 0) (F13.cd N [1, 1, 1, 1, 1, 1, 0, 1, 0, 0]) k2 (blockK 0 (seqK (F13.cd N [1, 1, 1, 1, 1, 1, 1]) F13.fin))))))))) .normal S))
theorem F13.j4_eq (N : Nat) (x0 : List Int) (k2 : Nat) (a3 : Int) (a4 : List ByteArray) (a5 : List ByteArray) (a23 : Int) (a24 : Int) {M : Nat} (hM : N = M + 1) : F13.j4 N x0 k2 a3 a4 a5 a23 a24 =
    bif !(!(decide (a23 < 0))) || (!(decide (a23 < 0))) then
      bif !(!(decide (a23 < 0))) || (!(decide (a23 < 0))) then
        bif !(!(decide (a23 < 0))) || (!(decide (a23 < 0))) then
          bif !(!(decide (a23 < 0))) || (!(decide (a23 < 0))) then
            bif !(!(decide (a23 < 0))) || (!(decide (a23 < 0))) then
              bif !(!(decide (a23 < 0))) || (!(decide (a23 < 0))) then
                bif (decide (a23 < 0)) || (!(decide (a23 < 0))) then
                  bif (decide (a23 < 0)) || (decide (a23 ≥ (a4.length : Int))) then
                    bif !(8 == a24) then
                      some false
                    else
                    bif a24 == 0 then
                      bif (decide (0 ≤ a23)) && (decide (a23 < (a5.length : Int))) then
                        bif decide ((Int.toNat a23) < a5.length) then
                          bif decide ((a5.length + 1) * 16 ≤ 140737488355328) && decide ((a5.length + 1) ≤ maxLen) then
                            bif !((a4.length : Int) == ((a5 ++ [(List.getD a5 (Int.toNat a23) (⟨#[]⟩ : ByteArray))]).length : Int)) then
                              some false
                            else
                              F13.l0 N x0 k2 (w (a3 + 1)) a4 (a5 ++ [(List.getD a5 (Int.toNat a23) (⟨#[]⟩ : ByteArray))])
                          else
                            none
                        else
                          none
                      else
                        none
                    else
                    bif !((a4.length : Int) == (a5.length : Int)) then
                      some false
                    else
                      F13.l0 N x0 k2 (w (a3 + 1)) a4 a5
                  else
                  bif (decide (0 ≤ a23)) && (decide (a23 < (a4.length : Int))) then
                    bif decide ((Int.toNat a23) < a4.length) then
                      bif decide (((List.getD a4 (Int.toNat a23) (⟨#[]⟩ : ByteArray)).size : Int) > 120) then
                        bif !(2 == a24) then
                          some false
                        else
                        bif a24 == 0 then
                          bif (decide (0 ≤ a23)) && (decide (a23 < (a5.length : Int))) then
                            bif decide ((Int.toNat a23) < a5.length) then
                              bif decide ((a5.length + 1) * 16 ≤ 140737488355328) && decide ((a5.length + 1) ≤ maxLen) then
                                bif !((a4.length : Int) == ((a5 ++ [(List.getD a5 (Int.toNat a23) (⟨#[]⟩ : ByteArray))]).length : Int)) then
                                  some false
                                else
                                  F13.l0 N x0 k2 (w (a3 + 1)) a4 (a5 ++ [(List.getD a5 (Int.toNat a23) (⟨#[]⟩ : ByteArray))])
                              else
                                none
                            else
                              none
                          else
                            none
                        else
                        bif !((a4.length : Int) == (a5.length : Int)) then
                          some false
                        else
                          F13.l0 N x0 k2 (w (a3 + 1)) a4 a5
                      else
                      bif decide ((a4.length : Int) ≥ 64) then
                        bif !(9 == a24) then
                          some false
                        else
                        bif a24 == 0 then
                          bif (decide (0 ≤ a23)) && (decide (a23 < (a5.length : Int))) then
                            bif decide ((Int.toNat a23) < a5.length) then
                              bif decide ((a5.length + 1) * 16 ≤ 140737488355328) && decide ((a5.length + 1) ≤ maxLen) then
                                bif !((a4.length : Int) == ((a5 ++ [(List.getD a5 (Int.toNat a23) (⟨#[]⟩ : ByteArray))]).length : Int)) then
                                  some false
                                else
                                  F13.l0 N x0 k2 (w (a3 + 1)) a4 (a5 ++ [(List.getD a5 (Int.toNat a23) (⟨#[]⟩ : ByteArray))])
                              else
                                none
                            else
                              none
                          else
                            none
                        else
                        bif !((a4.length : Int) == (a5.length : Int)) then
                          some false
                        else
                          F13.l0 N x0 k2 (w (a3 + 1)) a4 a5
                      else
                      bif decide ((a4.length + 1) * 16 ≤ 140737488355328) && decide ((a4.length + 1) ≤ maxLen) then
                        bif !(0 == a24) then
                          some false
                        else
                        bif a24 == 0 then
                          bif (decide (0 ≤ a23)) && (decide (a23 < (a5.length : Int))) then
                            bif decide ((Int.toNat a23) < a5.length) then
                              bif decide ((a5.length + 1) * 16 ≤ 140737488355328) && decide ((a5.length + 1) ≤ maxLen) then
                                bif !(((a4 ++ [(List.getD a4 (Int.toNat a23) (⟨#[]⟩ : ByteArray))]).length : Int) == ((a5 ++ [(List.getD a5 (Int.toNat a23) (⟨#[]⟩ : ByteArray))]).length : Int)) then
                                  some false
                                else
                                  F13.l0 N x0 k2 (w (a3 + 1)) (a4 ++ [(List.getD a4 (Int.toNat a23) (⟨#[]⟩ : ByteArray))]) (a5 ++ [(List.getD a5 (Int.toNat a23) (⟨#[]⟩ : ByteArray))])
                              else
                                none
                            else
                              none
                          else
                            none
                        else
                        bif !(((a4 ++ [(List.getD a4 (Int.toNat a23) (⟨#[]⟩ : ByteArray))]).length : Int) == (a5.length : Int)) then
                          some false
                        else
                          F13.l0 N x0 k2 (w (a3 + 1)) (a4 ++ [(List.getD a4 (Int.toNat a23) (⟨#[]⟩ : ByteArray))]) a5
                      else
                        none
                    else
                      none
                  else
                    none
                else
                  none
              else
                none
            else
              none
          else
            none
        else
          none
      else
        none
    else
      none := (fuelK_eq hM _).trans (by kernel_rfl)
theorem F13.j3_eq (N : Nat) (x0 : List Int) (k2 : Nat) (a3 : Int) (a5 : List ByteArray) (a16 : Int) (a17 : Int) (a18 : Bool) (a19 : ByteArray) (a20 : Int) (a21 : List ByteArray) {M : Nat} (hM : N = M + 1) : F13.j3 N x0 k2 a3 a5 a16 a17 a18 a19 a20 a21 =
    bif !a18 then
      bif !(!(!(a20 == 8))) || (!(!(a20 == 8))) then
        bif (!(a20 == 8)) || (!(!(a20 == 8))) then
          bif (!(a20 == 8)) || (!(seq a19 (⟨#[]⟩ : ByteArray))) then
            some false
          else
            F13.l0 N x0 k2 (w (a3 + 1)) a21 a5
        else
          none
      else
        none
    else
    bif !(!(!(a20 == 0))) || (!(!(a20 == 0))) then
      bif !(!(!(a20 == 0))) || (!(!(a20 == 0))) then
        bif !((!(!(a20 == 0))) && (a16 == 1)) || ((!(!(a20 == 0))) && (a16 == 1)) then
          bif !((!(!(a20 == 0))) && (a16 == 1)) || ((!(!(a20 == 0))) && (a16 == 1)) then
            bif ((decide (0 ≤ a17)) && (decide (a17 < (a5.length : Int)))) || !((!(!(a20 == 0))) && (a16 == 1)) then
              bif !((!(!(a20 == 0))) && (a16 == 1)) || ((!(!(a20 == 0))) && (a16 == 1)) then
                bif (decide ((Int.toNat a17) < a5.length)) || !((!(!(a20 == 0))) && (a16 == 1)) then
                  bif !((!(!(a20 == 0))) && (a16 == 1)) || ((!(!(a20 == 0))) && (a16 == 1)) then
                    bif !((!(!(a20 == 0))) && (a16 == 1)) || ((!(!(a20 == 0))) && (a16 == 1)) then
                      bif !(!(!(a20 == 0))) || (!(!(a20 == 0))) then
                        bif !(!(!(a20 == 0))) || ((!(a16 == 1)) || ((!(!(a20 == 0))) && (a16 == 1))) then
                          bif (!(a20 == 0)) || (!(!(a20 == 0))) then
                            bif (!(a20 == 0)) || ((a16 == 1) && (!(seq a19 (List.getD a5 (Int.toNat a17) (⟨#[]⟩ : ByteArray))))) then
                              some false
                            else
                            bif (decide (0 ≤ a17)) && (decide (0 + (Int.toNat a17) ≤ a5.length)) then
                              (F53.fn N (List.take (Int.toNat a17) a5)).bind fun r22 =>
                              bif (decide (0 ≤ (w (a17 + 1)))) && (decide ((w (a17 + 1)) ≤ ((a5.length : Nat) : Int))) then
                                bif decide ((r22.length + (List.take (a5.length - (Int.toNat (w (a17 + 1)))) (List.drop (0 + (Int.toNat (w (a17 + 1)))) a5)).length) * 16 ≤ 140737488355328) && decide ((r22.length + (List.take (a5.length - (Int.toNat (w (a17 + 1)))) (List.drop (0 + (Int.toNat (w (a17 + 1)))) a5)).length) ≤ maxLen) then
                                  bif !((a21.length : Int) == ((r22 ++ (List.take (a5.length - (Int.toNat (w (a17 + 1)))) (List.drop (0 + (Int.toNat (w (a17 + 1)))) a5))).length : Int)) then
                                    some false
                                  else
                                    F13.l0 N x0 k2 (w (a3 + 1)) a21 (r22 ++ (List.take (a5.length - (Int.toNat (w (a17 + 1)))) (List.drop (0 + (Int.toNat (w (a17 + 1)))) a5)))
                                else
                                  none
                              else
                                none
                            else
                              none
                          else
                            none
                        else
                          none
                      else
                        none
                    else
                      none
                  else
                    none
                else
                  none
              else
                none
            else
              none
          else
            none
        else
          none
      else
        none
    else
      none := (fuelK_eq hM _).trans (by kernel_rfl)
theorem F13.j2_eq (N : Nat) (x0 : List Int) (k2 : Nat) (a3 : Int) (a4 : List ByteArray) (a5 : List ByteArray) (a14 : Int) (a15 : Int) {M : Nat} (hM : N = M + 1) : F13.j2 N x0 k2 a3 a4 a5 a14 a15 =
    bif !(!(decide (a14 < 0))) || (!(decide (a14 < 0))) then
      bif !(!(decide (a14 < 0))) || (!(decide (a14 < 0))) then
        bif !(!(decide (a14 < 0))) || (!(decide (a14 < 0))) then
          bif !(!(decide (a14 < 0))) || (!(decide (a14 < 0))) then
            bif !(!(decide (a14 < 0))) || (!(decide (a14 < 0))) then
              bif !(!(decide (a14 < 0))) || (!(decide (a14 < 0))) then
                bif (decide (a14 < 0)) || (!(decide (a14 < 0))) then
                  bif (decide (a14 < 0)) || (decide (a14 ≥ (a4.length : Int))) then
                    bif !(8 == a15) then
                      some false
                    else
                    bif a15 == 0 then
                      bif (decide (0 ≤ a14)) && (decide (a14 < (a5.length : Int))) then
                        bif decide ((Int.toNat a14) < a5.length) then
                          bif decide ((a5.length + 1) * 16 ≤ 140737488355328) && decide ((a5.length + 1) ≤ maxLen) then
                            bif !((a4.length : Int) == ((a5 ++ [(List.getD a5 (Int.toNat a14) (⟨#[]⟩ : ByteArray))]).length : Int)) then
                              some false
                            else
                              F13.l0 N x0 k2 (w (a3 + 1)) a4 (a5 ++ [(List.getD a5 (Int.toNat a14) (⟨#[]⟩ : ByteArray))])
                          else
                            none
                        else
                          none
                      else
                        none
                    else
                    bif !((a4.length : Int) == (a5.length : Int)) then
                      some false
                    else
                      F13.l0 N x0 k2 (w (a3 + 1)) a4 a5
                  else
                  bif (decide (0 ≤ a14)) && (decide (a14 < (a4.length : Int))) then
                    bif decide ((Int.toNat a14) < a4.length) then
                      bif decide (((List.getD a4 (Int.toNat a14) (⟨#[]⟩ : ByteArray)).size : Int) > 120) then
                        bif !(2 == a15) then
                          some false
                        else
                        bif a15 == 0 then
                          bif (decide (0 ≤ a14)) && (decide (a14 < (a5.length : Int))) then
                            bif decide ((Int.toNat a14) < a5.length) then
                              bif decide ((a5.length + 1) * 16 ≤ 140737488355328) && decide ((a5.length + 1) ≤ maxLen) then
                                bif !((a4.length : Int) == ((a5 ++ [(List.getD a5 (Int.toNat a14) (⟨#[]⟩ : ByteArray))]).length : Int)) then
                                  some false
                                else
                                  F13.l0 N x0 k2 (w (a3 + 1)) a4 (a5 ++ [(List.getD a5 (Int.toNat a14) (⟨#[]⟩ : ByteArray))])
                              else
                                none
                            else
                              none
                          else
                            none
                        else
                        bif !((a4.length : Int) == (a5.length : Int)) then
                          some false
                        else
                          F13.l0 N x0 k2 (w (a3 + 1)) a4 a5
                      else
                      bif decide ((a4.length : Int) ≥ 64) then
                        bif !(9 == a15) then
                          some false
                        else
                        bif a15 == 0 then
                          bif (decide (0 ≤ a14)) && (decide (a14 < (a5.length : Int))) then
                            bif decide ((Int.toNat a14) < a5.length) then
                              bif decide ((a5.length + 1) * 16 ≤ 140737488355328) && decide ((a5.length + 1) ≤ maxLen) then
                                bif !((a4.length : Int) == ((a5 ++ [(List.getD a5 (Int.toNat a14) (⟨#[]⟩ : ByteArray))]).length : Int)) then
                                  some false
                                else
                                  F13.l0 N x0 k2 (w (a3 + 1)) a4 (a5 ++ [(List.getD a5 (Int.toNat a14) (⟨#[]⟩ : ByteArray))])
                              else
                                none
                            else
                              none
                          else
                            none
                        else
                        bif !((a4.length : Int) == (a5.length : Int)) then
                          some false
                        else
                          F13.l0 N x0 k2 (w (a3 + 1)) a4 a5
                      else
                      bif decide ((a4.length + 1) * 16 ≤ 140737488355328) && decide ((a4.length + 1) ≤ maxLen) then
                        bif !(0 == a15) then
                          some false
                        else
                        bif a15 == 0 then
                          bif (decide (0 ≤ a14)) && (decide (a14 < (a5.length : Int))) then
                            bif decide ((Int.toNat a14) < a5.length) then
                              bif decide ((a5.length + 1) * 16 ≤ 140737488355328) && decide ((a5.length + 1) ≤ maxLen) then
                                bif !(((a4 ++ [(List.getD a4 (Int.toNat a14) (⟨#[]⟩ : ByteArray))]).length : Int) == ((a5 ++ [(List.getD a5 (Int.toNat a14) (⟨#[]⟩ : ByteArray))]).length : Int)) then
                                  some false
                                else
                                  F13.l0 N x0 k2 (w (a3 + 1)) (a4 ++ [(List.getD a4 (Int.toNat a14) (⟨#[]⟩ : ByteArray))]) (a5 ++ [(List.getD a5 (Int.toNat a14) (⟨#[]⟩ : ByteArray))])
                              else
                                none
                            else
                              none
                          else
                            none
                        else
                        bif !(((a4 ++ [(List.getD a4 (Int.toNat a14) (⟨#[]⟩ : ByteArray))]).length : Int) == (a5.length : Int)) then
                          some false
                        else
                          F13.l0 N x0 k2 (w (a3 + 1)) (a4 ++ [(List.getD a4 (Int.toNat a14) (⟨#[]⟩ : ByteArray))]) a5
                      else
                        none
                    else
                      none
                  else
                    none
                else
                  none
              else
                none
            else
              none
          else
            none
        else
          none
      else
        none
    else
      none := (fuelK_eq hM _).trans (by kernel_rfl)
theorem F13.j1_eq (N : Nat) (x0 : List Int) (k2 : Nat) (a3 : Int) (a5 : List ByteArray) (a7 : Int) (a8 : Int) (a9 : Bool) (a10 : ByteArray) (a11 : Int) (a12 : List ByteArray) {M : Nat} (hM : N = M + 1) : F13.j1 N x0 k2 a3 a5 a7 a8 a9 a10 a11 a12 =
    bif !a9 then
      bif !(!(!(a11 == 8))) || (!(!(a11 == 8))) then
        bif (!(a11 == 8)) || (!(!(a11 == 8))) then
          bif (!(a11 == 8)) || (!(seq a10 (⟨#[]⟩ : ByteArray))) then
            some false
          else
            F13.l0 N x0 k2 (w (a3 + 1)) a12 a5
        else
          none
      else
        none
    else
    bif !(!(!(a11 == 0))) || (!(!(a11 == 0))) then
      bif !(!(!(a11 == 0))) || (!(!(a11 == 0))) then
        bif !((!(!(a11 == 0))) && (a7 == 1)) || ((!(!(a11 == 0))) && (a7 == 1)) then
          bif !((!(!(a11 == 0))) && (a7 == 1)) || ((!(!(a11 == 0))) && (a7 == 1)) then
            bif ((decide (0 ≤ a8)) && (decide (a8 < (a5.length : Int)))) || !((!(!(a11 == 0))) && (a7 == 1)) then
              bif !((!(!(a11 == 0))) && (a7 == 1)) || ((!(!(a11 == 0))) && (a7 == 1)) then
                bif (decide ((Int.toNat a8) < a5.length)) || !((!(!(a11 == 0))) && (a7 == 1)) then
                  bif !((!(!(a11 == 0))) && (a7 == 1)) || ((!(!(a11 == 0))) && (a7 == 1)) then
                    bif !((!(!(a11 == 0))) && (a7 == 1)) || ((!(!(a11 == 0))) && (a7 == 1)) then
                      bif !(!(!(a11 == 0))) || (!(!(a11 == 0))) then
                        bif !(!(!(a11 == 0))) || ((!(a7 == 1)) || ((!(!(a11 == 0))) && (a7 == 1))) then
                          bif (!(a11 == 0)) || (!(!(a11 == 0))) then
                            bif (!(a11 == 0)) || ((a7 == 1) && (!(seq a10 (List.getD a5 (Int.toNat a8) (⟨#[]⟩ : ByteArray))))) then
                              some false
                            else
                            bif (decide (0 ≤ a8)) && (decide (0 + (Int.toNat a8) ≤ a5.length)) then
                              (F53.fn N (List.take (Int.toNat a8) a5)).bind fun r13 =>
                              bif (decide (0 ≤ (w (a8 + 1)))) && (decide ((w (a8 + 1)) ≤ ((a5.length : Nat) : Int))) then
                                bif decide ((r13.length + (List.take (a5.length - (Int.toNat (w (a8 + 1)))) (List.drop (0 + (Int.toNat (w (a8 + 1)))) a5)).length) * 16 ≤ 140737488355328) && decide ((r13.length + (List.take (a5.length - (Int.toNat (w (a8 + 1)))) (List.drop (0 + (Int.toNat (w (a8 + 1)))) a5)).length) ≤ maxLen) then
                                  bif !((a12.length : Int) == ((r13 ++ (List.take (a5.length - (Int.toNat (w (a8 + 1)))) (List.drop (0 + (Int.toNat (w (a8 + 1)))) a5))).length : Int)) then
                                    some false
                                  else
                                    F13.l0 N x0 k2 (w (a3 + 1)) a12 (r13 ++ (List.take (a5.length - (Int.toNat (w (a8 + 1)))) (List.drop (0 + (Int.toNat (w (a8 + 1)))) a5)))
                                else
                                  none
                              else
                                none
                            else
                              none
                          else
                            none
                        else
                          none
                      else
                        none
                    else
                      none
                  else
                    none
                else
                  none
              else
                none
            else
              none
          else
            none
        else
          none
      else
        none
    else
      none := (fuelK_eq hM _).trans (by kernel_rfl)
theorem F13.l0_zero (N : Nat) (x0 : List Int) (a3 : Int) (a4 : List ByteArray) (a5 : List ByteArray) : F13.l0 N x0 0 a3 a4 a5 = none := by kernel_rfl
theorem F13.l0_succ (N : Nat) (x0 : List Int) (k2 : Nat) (a3 : Int) (a4 : List ByteArray) (a5 : List ByteArray) : F13.l0 N x0 (k2 + 1) a3 a4 a5 =
    bif decide (a3 < (x0.length : Int)) then
      bif (decide (0 ≤ a3)) && (decide (a3 < (x0.length : Int))) then
        bif (bandI .i64 (List.getD x0 (Int.toNat a3) 0) 3) == 0 then
          (F57.fn N a3).bind fun r6 =>
          bif decide ((r6.size : Int) > 120) then
            bif !(!(!(false == (decide ((a5.length : Int) < 64))))) || (!(!(false == (decide ((a5.length : Int) < 64))))) then
              bif !(!(!(false == (decide ((a5.length : Int) < 64))))) || (!(!(false == (decide ((a5.length : Int) < 64))))) then
                bif !((!(!(false == (decide ((a5.length : Int) < 64))))) && true) || ((!(!(false == (decide ((a5.length : Int) < 64))))) && true) then
                  bif !(!(!(false == (decide ((a5.length : Int) < 64))))) || (!(!(false == (decide ((a5.length : Int) < 64))))) then
                    bif !(!(!(false == (decide ((a5.length : Int) < 64))))) || ((!(!(false == (decide ((a5.length : Int) < 64))))) && true) then
                      bif (!(false == (decide ((a5.length : Int) < 64)))) || (!(!(false == (decide ((a5.length : Int) < 64))))) then
                        bif cond (!(false == (decide ((a5.length : Int) < 64)))) true true then
                          some false
                        else
                        bif !((a4.length : Int) == (a5.length : Int)) then
                          some false
                        else
                          F13.l0 N x0 k2 (w (a3 + 1)) a4 a5
                      else
                        none
                    else
                      none
                  else
                    none
                else
                  none
              else
                none
            else
              none
          else
          bif decide ((a4.length : Int) ≥ 64) then
            bif !(!(!(false == (decide ((a5.length : Int) < 64))))) || (!(!(false == (decide ((a5.length : Int) < 64))))) then
              bif !(!(!(false == (decide ((a5.length : Int) < 64))))) || (!(!(false == (decide ((a5.length : Int) < 64))))) then
                bif !((!(!(false == (decide ((a5.length : Int) < 64))))) && true) || ((!(!(false == (decide ((a5.length : Int) < 64))))) && true) then
                  bif !(!(!(false == (decide ((a5.length : Int) < 64))))) || (!(!(false == (decide ((a5.length : Int) < 64))))) then
                    bif !(!(!(false == (decide ((a5.length : Int) < 64))))) || ((!(!(false == (decide ((a5.length : Int) < 64))))) && true) then
                      bif (!(false == (decide ((a5.length : Int) < 64)))) || (!(!(false == (decide ((a5.length : Int) < 64))))) then
                        bif cond (!(false == (decide ((a5.length : Int) < 64)))) true false then
                          some false
                        else
                        bif !((a4.length : Int) == (a5.length : Int)) then
                          some false
                        else
                          F13.l0 N x0 k2 (w (a3 + 1)) a4 a5
                      else
                        none
                    else
                      none
                  else
                    none
                else
                  none
              else
                none
            else
              none
          else
          bif decide ((a4.length + 1) * 16 ≤ 140737488355328) && decide ((a4.length + 1) ≤ maxLen) then
            bif !(!(!(true == (decide ((a5.length : Int) < 64))))) || (!(!(true == (decide ((a5.length : Int) < 64))))) then
              bif !(!(!(true == (decide ((a5.length : Int) < 64))))) || (!(!(true == (decide ((a5.length : Int) < 64))))) then
                bif !((!(!(true == (decide ((a5.length : Int) < 64))))) && false) || ((!(!(true == (decide ((a5.length : Int) < 64))))) && false) then
                  bif !(!(!(true == (decide ((a5.length : Int) < 64))))) || (!(!(true == (decide ((a5.length : Int) < 64))))) then
                    bif !(!(!(true == (decide ((a5.length : Int) < 64))))) || true then
                      bif (!(true == (decide ((a5.length : Int) < 64)))) || (!(!(true == (decide ((a5.length : Int) < 64))))) then
                        bif cond (!(true == (decide ((a5.length : Int) < 64)))) true false then
                          some false
                        else
                        bif decide ((a5.length + 1) * 16 ≤ 140737488355328) && decide ((a5.length + 1) ≤ maxLen) then
                          bif !(((a4 ++ [r6]).length : Int) == ((a5 ++ [r6]).length : Int)) then
                            some false
                          else
                            F13.l0 N x0 k2 (w (a3 + 1)) (a4 ++ [r6]) (a5 ++ [r6])
                        else
                          none
                      else
                        none
                    else
                      none
                  else
                    none
                else
                  none
              else
                none
            else
              none
          else
            none
        else
        bif (bandI .i64 (List.getD x0 (Int.toNat a3) 0) 3) == 1 then
          bif (bandI .i64 (List.getD x0 (Int.toNat a3) 0) 3) == 1 then
            bif (bandI .i64 (List.getD x0 (Int.toNat a3) 0) 3) == 1 then
              bif !(!(decide ((bandI .i64 (shrI .i64 (List.getD x0 (Int.toNat a3) 0) 2) 127) < 0))) || (!(decide ((bandI .i64 (shrI .i64 (List.getD x0 (Int.toNat a3) 0) 2) 127) < 0))) then
                bif !(!(decide ((bandI .i64 (shrI .i64 (List.getD x0 (Int.toNat a3) 0) 2) 127) < 0))) || (!(decide ((bandI .i64 (shrI .i64 (List.getD x0 (Int.toNat a3) 0) 2) 127) < 0))) then
                  bif !(!(decide ((bandI .i64 (shrI .i64 (List.getD x0 (Int.toNat a3) 0) 2) 127) < 0))) || (!(decide ((bandI .i64 (shrI .i64 (List.getD x0 (Int.toNat a3) 0) 2) 127) < 0))) then
                    bif !(!(decide ((bandI .i64 (shrI .i64 (List.getD x0 (Int.toNat a3) 0) 2) 127) < 0))) || (!(decide ((bandI .i64 (shrI .i64 (List.getD x0 (Int.toNat a3) 0) 2) 127) < 0))) then
                      bif !(!(decide ((bandI .i64 (shrI .i64 (List.getD x0 (Int.toNat a3) 0) 2) 127) < 0))) || (!(decide ((bandI .i64 (shrI .i64 (List.getD x0 (Int.toNat a3) 0) 2) 127) < 0))) then
                        bif !(!(decide ((bandI .i64 (shrI .i64 (List.getD x0 (Int.toNat a3) 0) 2) 127) < 0))) || (!(decide ((bandI .i64 (shrI .i64 (List.getD x0 (Int.toNat a3) 0) 2) 127) < 0))) then
                          bif (decide ((bandI .i64 (shrI .i64 (List.getD x0 (Int.toNat a3) 0) 2) 127) < 0)) || (!(decide ((bandI .i64 (shrI .i64 (List.getD x0 (Int.toNat a3) 0) 2) 127) < 0))) then
                            bif (decide ((bandI .i64 (shrI .i64 (List.getD x0 (Int.toNat a3) 0) 2) 127) < 0)) || (decide ((bandI .i64 (shrI .i64 (List.getD x0 (Int.toNat a3) 0) 2) 127) ≥ (a4.length : Int))) then
                              F13.j1 N x0 k2 a3 a5 (bandI .i64 (List.getD x0 (Int.toNat a3) 0) 3) (bandI .i64 (shrI .i64 (List.getD x0 (Int.toNat a3) 0) 2) 127) (decide ((bandI .i64 (shrI .i64 (List.getD x0 (Int.toNat a3) 0) 2) 127) < (a5.length : Int))) (⟨#[]⟩ : ByteArray) 8 a4
                            else
                            bif (decide (0 ≤ (bandI .i64 (shrI .i64 (List.getD x0 (Int.toNat a3) 0) 2) 127))) && (decide ((bandI .i64 (shrI .i64 (List.getD x0 (Int.toNat a3) 0) 2) 127) < (a4.length : Int))) then
                              bif decide ((Int.toNat (bandI .i64 (shrI .i64 (List.getD x0 (Int.toNat a3) 0) 2) 127)) < a4.length) then
                                bif (((decide (0 ≤ (bandI .i64 (shrI .i64 (List.getD x0 (Int.toNat a3) 0) 2) 127))) && (decide ((bandI .i64 (shrI .i64 (List.getD x0 (Int.toNat a3) 0) 2) 127) ≤ (w ((bandI .i64 (shrI .i64 (List.getD x0 (Int.toNat a3) 0) 2) 127) + 1))))) && (decide ((w ((bandI .i64 (shrI .i64 (List.getD x0 (Int.toNat a3) 0) 2) 127) + 1)) ≤ (a4.length : Int)))) && (decide ((a4.length : Int) ≤ (a4.length : Int))) then
                                  bif (bandI .i64 (shrI .i64 (List.getD x0 (Int.toNat a3) 0) 2) 127) == (w ((bandI .i64 (shrI .i64 (List.getD x0 (Int.toNat a3) 0) 2) 127) + 1)) then
                                    F13.j1 N x0 k2 a3 a5 (bandI .i64 (List.getD x0 (Int.toNat a3) 0) 3) (bandI .i64 (shrI .i64 (List.getD x0 (Int.toNat a3) 0) 2) 127) (decide ((bandI .i64 (shrI .i64 (List.getD x0 (Int.toNat a3) 0) 2) 127) < (a5.length : Int))) (List.getD a4 (Int.toNat (bandI .i64 (shrI .i64 (List.getD x0 (Int.toNat a3) 0) 2) 127)) (⟨#[]⟩ : ByteArray)) 0 a4
                                  else
                                  bif (decide (0 ≤ (bandI .i64 (shrI .i64 (List.getD x0 (Int.toNat a3) 0) 2) 127))) && (decide (0 + (Int.toNat (bandI .i64 (shrI .i64 (List.getD x0 (Int.toNat a3) 0) 2) 127)) ≤ a4.length)) then
                                    bif (decide (0 ≤ (w ((bandI .i64 (shrI .i64 (List.getD x0 (Int.toNat a3) 0) 2) 127) + 1)))) && (decide ((w ((bandI .i64 (shrI .i64 (List.getD x0 (Int.toNat a3) 0) 2) 127) + 1)) ≤ ((a4.length : Nat) : Int))) then
                                      bif decide (((List.take (Int.toNat (bandI .i64 (shrI .i64 (List.getD x0 (Int.toNat a3) 0) 2) 127)) a4).length + (List.take (a4.length - (Int.toNat (w ((bandI .i64 (shrI .i64 (List.getD x0 (Int.toNat a3) 0) 2) 127) + 1)))) (List.drop (0 + (Int.toNat (w ((bandI .i64 (shrI .i64 (List.getD x0 (Int.toNat a3) 0) 2) 127) + 1)))) a4)).length) * 16 ≤ 140737488355328) && decide (((List.take (Int.toNat (bandI .i64 (shrI .i64 (List.getD x0 (Int.toNat a3) 0) 2) 127)) a4).length + (List.take (a4.length - (Int.toNat (w ((bandI .i64 (shrI .i64 (List.getD x0 (Int.toNat a3) 0) 2) 127) + 1)))) (List.drop (0 + (Int.toNat (w ((bandI .i64 (shrI .i64 (List.getD x0 (Int.toNat a3) 0) 2) 127) + 1)))) a4)).length) ≤ maxLen) then
                                        bif decide ((Int.toNat (bandI .i64 (shrI .i64 (List.getD x0 (Int.toNat a3) 0) 2) 127)) + (List.take (a4.length - (Int.toNat (w ((bandI .i64 (shrI .i64 (List.getD x0 (Int.toNat a3) 0) 2) 127) + 1)))) (List.drop (0 + (Int.toNat (w ((bandI .i64 (shrI .i64 (List.getD x0 (Int.toNat a3) 0) 2) 127) + 1)))) a4)).length ≤ a4.length) then
                                          bif ((decide (0 ≤ (((Int.toNat (bandI .i64 (shrI .i64 (List.getD x0 (Int.toNat a3) 0) 2) 127)) + (List.take (a4.length - (Int.toNat (w ((bandI .i64 (shrI .i64 (List.getD x0 (Int.toNat a3) 0) 2) 127) + 1)))) (List.drop (0 + (Int.toNat (w ((bandI .i64 (shrI .i64 (List.getD x0 (Int.toNat a3) 0) 2) 127) + 1)))) a4)).length : Nat) : Int))) && (decide ((((Int.toNat (bandI .i64 (shrI .i64 (List.getD x0 (Int.toNat a3) 0) 2) 127)) + (List.take (a4.length - (Int.toNat (w ((bandI .i64 (shrI .i64 (List.getD x0 (Int.toNat a3) 0) 2) 127) + 1)))) (List.drop (0 + (Int.toNat (w ((bandI .i64 (shrI .i64 (List.getD x0 (Int.toNat a3) 0) 2) 127) + 1)))) a4)).length : Nat) : Int) ≤ (a4.length : Int)))) && (decide (0 + (Int.toNat (a4.length : Int)) ≤ ((List.take (Int.toNat (bandI .i64 (shrI .i64 (List.getD x0 (Int.toNat a3) 0) 2) 127)) a4) ++ (List.take (a4.length - (Int.toNat (w ((bandI .i64 (shrI .i64 (List.getD x0 (Int.toNat a3) 0) 2) 127) + 1)))) (List.drop (0 + (Int.toNat (w ((bandI .i64 (shrI .i64 (List.getD x0 (Int.toNat a3) 0) 2) 127) + 1)))) a4)) ++ (List.drop ((Int.toNat (bandI .i64 (shrI .i64 (List.getD x0 (Int.toNat a3) 0) 2) 127)) + (List.take (a4.length - (Int.toNat (w ((bandI .i64 (shrI .i64 (List.getD x0 (Int.toNat a3) 0) 2) 127) + 1)))) (List.drop (0 + (Int.toNat (w ((bandI .i64 (shrI .i64 (List.getD x0 (Int.toNat a3) 0) 2) 127) + 1)))) a4)).length) a4)).length)) then
                                            F13.j1 N x0 k2 a3 a5 (bandI .i64 (List.getD x0 (Int.toNat a3) 0) 3) (bandI .i64 (shrI .i64 (List.getD x0 (Int.toNat a3) 0) 2) 127) (decide ((bandI .i64 (shrI .i64 (List.getD x0 (Int.toNat a3) 0) 2) 127) < (a5.length : Int))) (List.getD a4 (Int.toNat (bandI .i64 (shrI .i64 (List.getD x0 (Int.toNat a3) 0) 2) 127)) (⟨#[]⟩ : ByteArray)) 0 (List.take ((Int.toNat (bandI .i64 (shrI .i64 (List.getD x0 (Int.toNat a3) 0) 2) 127)) + (List.take (a4.length - (Int.toNat (w ((bandI .i64 (shrI .i64 (List.getD x0 (Int.toNat a3) 0) 2) 127) + 1)))) (List.drop (0 + (Int.toNat (w ((bandI .i64 (shrI .i64 (List.getD x0 (Int.toNat a3) 0) 2) 127) + 1)))) a4)).length) (fillL ((List.take (Int.toNat (bandI .i64 (shrI .i64 (List.getD x0 (Int.toNat a3) 0) 2) 127)) a4) ++ (List.take (a4.length - (Int.toNat (w ((bandI .i64 (shrI .i64 (List.getD x0 (Int.toNat a3) 0) 2) 127) + 1)))) (List.drop (0 + (Int.toNat (w ((bandI .i64 (shrI .i64 (List.getD x0 (Int.toNat a3) 0) 2) 127) + 1)))) a4)) ++ (List.drop ((Int.toNat (bandI .i64 (shrI .i64 (List.getD x0 (Int.toNat a3) 0) 2) 127)) + (List.take (a4.length - (Int.toNat (w ((bandI .i64 (shrI .i64 (List.getD x0 (Int.toNat a3) 0) 2) 127) + 1)))) (List.drop (0 + (Int.toNat (w ((bandI .i64 (shrI .i64 (List.getD x0 (Int.toNat a3) 0) 2) 127) + 1)))) a4)).length) a4)) (0 + (Int.toNat (((Int.toNat (bandI .i64 (shrI .i64 (List.getD x0 (Int.toNat a3) 0) 2) 127)) + (List.take (a4.length - (Int.toNat (w ((bandI .i64 (shrI .i64 (List.getD x0 (Int.toNat a3) 0) 2) 127) + 1)))) (List.drop (0 + (Int.toNat (w ((bandI .i64 (shrI .i64 (List.getD x0 (Int.toNat a3) 0) 2) 127) + 1)))) a4)).length : Nat) : Int))) ((Int.toNat (a4.length : Int)) - (Int.toNat (((Int.toNat (bandI .i64 (shrI .i64 (List.getD x0 (Int.toNat a3) 0) 2) 127)) + (List.take (a4.length - (Int.toNat (w ((bandI .i64 (shrI .i64 (List.getD x0 (Int.toNat a3) 0) 2) 127) + 1)))) (List.drop (0 + (Int.toNat (w ((bandI .i64 (shrI .i64 (List.getD x0 (Int.toNat a3) 0) 2) 127) + 1)))) a4)).length : Nat) : Int))) (⟨#[]⟩ : ByteArray)))
                                          else
                                            none
                                        else
                                          none
                                      else
                                        none
                                    else
                                      none
                                  else
                                    none
                                else
                                  none
                              else
                                none
                            else
                              none
                          else
                            none
                        else
                          none
                      else
                        none
                    else
                      none
                  else
                    none
                else
                  none
              else
                none
            else
            bif !(!(decide ((bandI .i64 (shrI .i64 (List.getD x0 (Int.toNat a3) 0) 2) 127) < 0))) || (!(decide ((bandI .i64 (shrI .i64 (List.getD x0 (Int.toNat a3) 0) 2) 127) < 0))) then
              bif !(!(decide ((bandI .i64 (shrI .i64 (List.getD x0 (Int.toNat a3) 0) 2) 127) < 0))) || (!(decide ((bandI .i64 (shrI .i64 (List.getD x0 (Int.toNat a3) 0) 2) 127) < 0))) then
                bif !(!(decide ((bandI .i64 (shrI .i64 (List.getD x0 (Int.toNat a3) 0) 2) 127) < 0))) || (!(decide ((bandI .i64 (shrI .i64 (List.getD x0 (Int.toNat a3) 0) 2) 127) < 0))) then
                  bif !(!(decide ((bandI .i64 (shrI .i64 (List.getD x0 (Int.toNat a3) 0) 2) 127) < 0))) || (!(decide ((bandI .i64 (shrI .i64 (List.getD x0 (Int.toNat a3) 0) 2) 127) < 0))) then
                    bif !(!(decide ((bandI .i64 (shrI .i64 (List.getD x0 (Int.toNat a3) 0) 2) 127) < 0))) || (!(decide ((bandI .i64 (shrI .i64 (List.getD x0 (Int.toNat a3) 0) 2) 127) < 0))) then
                      bif !(!(decide ((bandI .i64 (shrI .i64 (List.getD x0 (Int.toNat a3) 0) 2) 127) < 0))) || (!(decide ((bandI .i64 (shrI .i64 (List.getD x0 (Int.toNat a3) 0) 2) 127) < 0))) then
                        bif (decide ((bandI .i64 (shrI .i64 (List.getD x0 (Int.toNat a3) 0) 2) 127) < 0)) || (!(decide ((bandI .i64 (shrI .i64 (List.getD x0 (Int.toNat a3) 0) 2) 127) < 0))) then
                          bif (decide ((bandI .i64 (shrI .i64 (List.getD x0 (Int.toNat a3) 0) 2) 127) < 0)) || (decide ((bandI .i64 (shrI .i64 (List.getD x0 (Int.toNat a3) 0) 2) 127) ≥ (a4.length : Int))) then
                            F13.j1 N x0 k2 a3 a5 (bandI .i64 (List.getD x0 (Int.toNat a3) 0) 3) (bandI .i64 (shrI .i64 (List.getD x0 (Int.toNat a3) 0) 2) 127) (decide ((bandI .i64 (shrI .i64 (List.getD x0 (Int.toNat a3) 0) 2) 127) < (a5.length : Int))) (⟨#[]⟩ : ByteArray) 8 a4
                          else
                          bif (decide (0 ≤ (bandI .i64 (shrI .i64 (List.getD x0 (Int.toNat a3) 0) 2) 127))) && (decide ((bandI .i64 (shrI .i64 (List.getD x0 (Int.toNat a3) 0) 2) 127) < (a4.length : Int))) then
                            bif decide ((Int.toNat (bandI .i64 (shrI .i64 (List.getD x0 (Int.toNat a3) 0) 2) 127)) < a4.length) then
                              bif (((decide (0 ≤ (bandI .i64 (shrI .i64 (List.getD x0 (Int.toNat a3) 0) 2) 127))) && (decide ((bandI .i64 (shrI .i64 (List.getD x0 (Int.toNat a3) 0) 2) 127) ≤ (w ((bandI .i64 (shrI .i64 (List.getD x0 (Int.toNat a3) 0) 2) 127) + 1))))) && (decide ((w ((bandI .i64 (shrI .i64 (List.getD x0 (Int.toNat a3) 0) 2) 127) + 1)) ≤ (a4.length : Int)))) && (decide ((a4.length : Int) ≤ (a4.length : Int))) then
                                bif (bandI .i64 (shrI .i64 (List.getD x0 (Int.toNat a3) 0) 2) 127) == (w ((bandI .i64 (shrI .i64 (List.getD x0 (Int.toNat a3) 0) 2) 127) + 1)) then
                                  F13.j1 N x0 k2 a3 a5 (bandI .i64 (List.getD x0 (Int.toNat a3) 0) 3) (bandI .i64 (shrI .i64 (List.getD x0 (Int.toNat a3) 0) 2) 127) (decide ((bandI .i64 (shrI .i64 (List.getD x0 (Int.toNat a3) 0) 2) 127) < (a5.length : Int))) (⟨#[]⟩ : ByteArray) 0 a4
                                else
                                bif (decide (0 ≤ (bandI .i64 (shrI .i64 (List.getD x0 (Int.toNat a3) 0) 2) 127))) && (decide (0 + (Int.toNat (bandI .i64 (shrI .i64 (List.getD x0 (Int.toNat a3) 0) 2) 127)) ≤ a4.length)) then
                                  bif (decide (0 ≤ (w ((bandI .i64 (shrI .i64 (List.getD x0 (Int.toNat a3) 0) 2) 127) + 1)))) && (decide ((w ((bandI .i64 (shrI .i64 (List.getD x0 (Int.toNat a3) 0) 2) 127) + 1)) ≤ ((a4.length : Nat) : Int))) then
                                    bif decide (((List.take (Int.toNat (bandI .i64 (shrI .i64 (List.getD x0 (Int.toNat a3) 0) 2) 127)) a4).length + (List.take (a4.length - (Int.toNat (w ((bandI .i64 (shrI .i64 (List.getD x0 (Int.toNat a3) 0) 2) 127) + 1)))) (List.drop (0 + (Int.toNat (w ((bandI .i64 (shrI .i64 (List.getD x0 (Int.toNat a3) 0) 2) 127) + 1)))) a4)).length) * 16 ≤ 140737488355328) && decide (((List.take (Int.toNat (bandI .i64 (shrI .i64 (List.getD x0 (Int.toNat a3) 0) 2) 127)) a4).length + (List.take (a4.length - (Int.toNat (w ((bandI .i64 (shrI .i64 (List.getD x0 (Int.toNat a3) 0) 2) 127) + 1)))) (List.drop (0 + (Int.toNat (w ((bandI .i64 (shrI .i64 (List.getD x0 (Int.toNat a3) 0) 2) 127) + 1)))) a4)).length) ≤ maxLen) then
                                      bif decide ((Int.toNat (bandI .i64 (shrI .i64 (List.getD x0 (Int.toNat a3) 0) 2) 127)) + (List.take (a4.length - (Int.toNat (w ((bandI .i64 (shrI .i64 (List.getD x0 (Int.toNat a3) 0) 2) 127) + 1)))) (List.drop (0 + (Int.toNat (w ((bandI .i64 (shrI .i64 (List.getD x0 (Int.toNat a3) 0) 2) 127) + 1)))) a4)).length ≤ a4.length) then
                                        bif ((decide (0 ≤ (((Int.toNat (bandI .i64 (shrI .i64 (List.getD x0 (Int.toNat a3) 0) 2) 127)) + (List.take (a4.length - (Int.toNat (w ((bandI .i64 (shrI .i64 (List.getD x0 (Int.toNat a3) 0) 2) 127) + 1)))) (List.drop (0 + (Int.toNat (w ((bandI .i64 (shrI .i64 (List.getD x0 (Int.toNat a3) 0) 2) 127) + 1)))) a4)).length : Nat) : Int))) && (decide ((((Int.toNat (bandI .i64 (shrI .i64 (List.getD x0 (Int.toNat a3) 0) 2) 127)) + (List.take (a4.length - (Int.toNat (w ((bandI .i64 (shrI .i64 (List.getD x0 (Int.toNat a3) 0) 2) 127) + 1)))) (List.drop (0 + (Int.toNat (w ((bandI .i64 (shrI .i64 (List.getD x0 (Int.toNat a3) 0) 2) 127) + 1)))) a4)).length : Nat) : Int) ≤ (a4.length : Int)))) && (decide (0 + (Int.toNat (a4.length : Int)) ≤ ((List.take (Int.toNat (bandI .i64 (shrI .i64 (List.getD x0 (Int.toNat a3) 0) 2) 127)) a4) ++ (List.take (a4.length - (Int.toNat (w ((bandI .i64 (shrI .i64 (List.getD x0 (Int.toNat a3) 0) 2) 127) + 1)))) (List.drop (0 + (Int.toNat (w ((bandI .i64 (shrI .i64 (List.getD x0 (Int.toNat a3) 0) 2) 127) + 1)))) a4)) ++ (List.drop ((Int.toNat (bandI .i64 (shrI .i64 (List.getD x0 (Int.toNat a3) 0) 2) 127)) + (List.take (a4.length - (Int.toNat (w ((bandI .i64 (shrI .i64 (List.getD x0 (Int.toNat a3) 0) 2) 127) + 1)))) (List.drop (0 + (Int.toNat (w ((bandI .i64 (shrI .i64 (List.getD x0 (Int.toNat a3) 0) 2) 127) + 1)))) a4)).length) a4)).length)) then
                                          F13.j1 N x0 k2 a3 a5 (bandI .i64 (List.getD x0 (Int.toNat a3) 0) 3) (bandI .i64 (shrI .i64 (List.getD x0 (Int.toNat a3) 0) 2) 127) (decide ((bandI .i64 (shrI .i64 (List.getD x0 (Int.toNat a3) 0) 2) 127) < (a5.length : Int))) (⟨#[]⟩ : ByteArray) 0 (List.take ((Int.toNat (bandI .i64 (shrI .i64 (List.getD x0 (Int.toNat a3) 0) 2) 127)) + (List.take (a4.length - (Int.toNat (w ((bandI .i64 (shrI .i64 (List.getD x0 (Int.toNat a3) 0) 2) 127) + 1)))) (List.drop (0 + (Int.toNat (w ((bandI .i64 (shrI .i64 (List.getD x0 (Int.toNat a3) 0) 2) 127) + 1)))) a4)).length) (fillL ((List.take (Int.toNat (bandI .i64 (shrI .i64 (List.getD x0 (Int.toNat a3) 0) 2) 127)) a4) ++ (List.take (a4.length - (Int.toNat (w ((bandI .i64 (shrI .i64 (List.getD x0 (Int.toNat a3) 0) 2) 127) + 1)))) (List.drop (0 + (Int.toNat (w ((bandI .i64 (shrI .i64 (List.getD x0 (Int.toNat a3) 0) 2) 127) + 1)))) a4)) ++ (List.drop ((Int.toNat (bandI .i64 (shrI .i64 (List.getD x0 (Int.toNat a3) 0) 2) 127)) + (List.take (a4.length - (Int.toNat (w ((bandI .i64 (shrI .i64 (List.getD x0 (Int.toNat a3) 0) 2) 127) + 1)))) (List.drop (0 + (Int.toNat (w ((bandI .i64 (shrI .i64 (List.getD x0 (Int.toNat a3) 0) 2) 127) + 1)))) a4)).length) a4)) (0 + (Int.toNat (((Int.toNat (bandI .i64 (shrI .i64 (List.getD x0 (Int.toNat a3) 0) 2) 127)) + (List.take (a4.length - (Int.toNat (w ((bandI .i64 (shrI .i64 (List.getD x0 (Int.toNat a3) 0) 2) 127) + 1)))) (List.drop (0 + (Int.toNat (w ((bandI .i64 (shrI .i64 (List.getD x0 (Int.toNat a3) 0) 2) 127) + 1)))) a4)).length : Nat) : Int))) ((Int.toNat (a4.length : Int)) - (Int.toNat (((Int.toNat (bandI .i64 (shrI .i64 (List.getD x0 (Int.toNat a3) 0) 2) 127)) + (List.take (a4.length - (Int.toNat (w ((bandI .i64 (shrI .i64 (List.getD x0 (Int.toNat a3) 0) 2) 127) + 1)))) (List.drop (0 + (Int.toNat (w ((bandI .i64 (shrI .i64 (List.getD x0 (Int.toNat a3) 0) 2) 127) + 1)))) a4)).length : Nat) : Int))) (⟨#[]⟩ : ByteArray)))
                                        else
                                          none
                                      else
                                        none
                                    else
                                      none
                                  else
                                    none
                                else
                                  none
                              else
                                none
                            else
                              none
                          else
                            none
                        else
                          none
                      else
                        none
                    else
                      none
                  else
                    none
                else
                  none
              else
                none
            else
              none
          else
          bif !(decide ((bandI .i64 (shrI .i64 (List.getD x0 (Int.toNat a3) 0) 2) 127) < (a5.length : Int))) then
            F13.j2 N x0 k2 a3 a4 a5 (bandI .i64 (shrI .i64 (List.getD x0 (Int.toNat a3) 0) 2) 127) 8
          else
          bif (a5.length : Int) == 64 then
            F13.j2 N x0 k2 a3 a4 a5 (bandI .i64 (shrI .i64 (List.getD x0 (Int.toNat a3) 0) 2) 127) 9
          else
            F13.j2 N x0 k2 a3 a4 a5 (bandI .i64 (shrI .i64 (List.getD x0 (Int.toNat a3) 0) 2) 127) 0
        else
        bif (bandI .i64 (List.getD x0 (Int.toNat a3) 0) 3) == 2 then
          bif (bandI .i64 (List.getD x0 (Int.toNat a3) 0) 3) == 1 then
            bif !(!(decide ((bandI .i64 (shrI .i64 (List.getD x0 (Int.toNat a3) 0) 2) 127) < 0))) || (!(decide ((bandI .i64 (shrI .i64 (List.getD x0 (Int.toNat a3) 0) 2) 127) < 0))) then
              bif !(!(decide ((bandI .i64 (shrI .i64 (List.getD x0 (Int.toNat a3) 0) 2) 127) < 0))) || (!(decide ((bandI .i64 (shrI .i64 (List.getD x0 (Int.toNat a3) 0) 2) 127) < 0))) then
                bif !(!(decide ((bandI .i64 (shrI .i64 (List.getD x0 (Int.toNat a3) 0) 2) 127) < 0))) || (!(decide ((bandI .i64 (shrI .i64 (List.getD x0 (Int.toNat a3) 0) 2) 127) < 0))) then
                  bif !(!(decide ((bandI .i64 (shrI .i64 (List.getD x0 (Int.toNat a3) 0) 2) 127) < 0))) || (!(decide ((bandI .i64 (shrI .i64 (List.getD x0 (Int.toNat a3) 0) 2) 127) < 0))) then
                    bif !(!(decide ((bandI .i64 (shrI .i64 (List.getD x0 (Int.toNat a3) 0) 2) 127) < 0))) || (!(decide ((bandI .i64 (shrI .i64 (List.getD x0 (Int.toNat a3) 0) 2) 127) < 0))) then
                      bif !(!(decide ((bandI .i64 (shrI .i64 (List.getD x0 (Int.toNat a3) 0) 2) 127) < 0))) || (!(decide ((bandI .i64 (shrI .i64 (List.getD x0 (Int.toNat a3) 0) 2) 127) < 0))) then
                        bif (decide ((bandI .i64 (shrI .i64 (List.getD x0 (Int.toNat a3) 0) 2) 127) < 0)) || (!(decide ((bandI .i64 (shrI .i64 (List.getD x0 (Int.toNat a3) 0) 2) 127) < 0))) then
                          bif (decide ((bandI .i64 (shrI .i64 (List.getD x0 (Int.toNat a3) 0) 2) 127) < 0)) || (decide ((bandI .i64 (shrI .i64 (List.getD x0 (Int.toNat a3) 0) 2) 127) ≥ (a4.length : Int))) then
                            F13.j3 N x0 k2 a3 a5 (bandI .i64 (List.getD x0 (Int.toNat a3) 0) 3) (bandI .i64 (shrI .i64 (List.getD x0 (Int.toNat a3) 0) 2) 127) (decide ((bandI .i64 (shrI .i64 (List.getD x0 (Int.toNat a3) 0) 2) 127) < (a5.length : Int))) (⟨#[]⟩ : ByteArray) 8 a4
                          else
                          bif (decide (0 ≤ (bandI .i64 (shrI .i64 (List.getD x0 (Int.toNat a3) 0) 2) 127))) && (decide ((bandI .i64 (shrI .i64 (List.getD x0 (Int.toNat a3) 0) 2) 127) < (a4.length : Int))) then
                            bif decide ((Int.toNat (bandI .i64 (shrI .i64 (List.getD x0 (Int.toNat a3) 0) 2) 127)) < a4.length) then
                              bif (((decide (0 ≤ (bandI .i64 (shrI .i64 (List.getD x0 (Int.toNat a3) 0) 2) 127))) && (decide ((bandI .i64 (shrI .i64 (List.getD x0 (Int.toNat a3) 0) 2) 127) ≤ (w ((bandI .i64 (shrI .i64 (List.getD x0 (Int.toNat a3) 0) 2) 127) + 1))))) && (decide ((w ((bandI .i64 (shrI .i64 (List.getD x0 (Int.toNat a3) 0) 2) 127) + 1)) ≤ (a4.length : Int)))) && (decide ((a4.length : Int) ≤ (a4.length : Int))) then
                                bif (bandI .i64 (shrI .i64 (List.getD x0 (Int.toNat a3) 0) 2) 127) == (w ((bandI .i64 (shrI .i64 (List.getD x0 (Int.toNat a3) 0) 2) 127) + 1)) then
                                  F13.j3 N x0 k2 a3 a5 (bandI .i64 (List.getD x0 (Int.toNat a3) 0) 3) (bandI .i64 (shrI .i64 (List.getD x0 (Int.toNat a3) 0) 2) 127) (decide ((bandI .i64 (shrI .i64 (List.getD x0 (Int.toNat a3) 0) 2) 127) < (a5.length : Int))) (List.getD a4 (Int.toNat (bandI .i64 (shrI .i64 (List.getD x0 (Int.toNat a3) 0) 2) 127)) (⟨#[]⟩ : ByteArray)) 0 a4
                                else
                                bif (decide (0 ≤ (bandI .i64 (shrI .i64 (List.getD x0 (Int.toNat a3) 0) 2) 127))) && (decide (0 + (Int.toNat (bandI .i64 (shrI .i64 (List.getD x0 (Int.toNat a3) 0) 2) 127)) ≤ a4.length)) then
                                  bif (decide (0 ≤ (w ((bandI .i64 (shrI .i64 (List.getD x0 (Int.toNat a3) 0) 2) 127) + 1)))) && (decide ((w ((bandI .i64 (shrI .i64 (List.getD x0 (Int.toNat a3) 0) 2) 127) + 1)) ≤ ((a4.length : Nat) : Int))) then
                                    bif decide (((List.take (Int.toNat (bandI .i64 (shrI .i64 (List.getD x0 (Int.toNat a3) 0) 2) 127)) a4).length + (List.take (a4.length - (Int.toNat (w ((bandI .i64 (shrI .i64 (List.getD x0 (Int.toNat a3) 0) 2) 127) + 1)))) (List.drop (0 + (Int.toNat (w ((bandI .i64 (shrI .i64 (List.getD x0 (Int.toNat a3) 0) 2) 127) + 1)))) a4)).length) * 16 ≤ 140737488355328) && decide (((List.take (Int.toNat (bandI .i64 (shrI .i64 (List.getD x0 (Int.toNat a3) 0) 2) 127)) a4).length + (List.take (a4.length - (Int.toNat (w ((bandI .i64 (shrI .i64 (List.getD x0 (Int.toNat a3) 0) 2) 127) + 1)))) (List.drop (0 + (Int.toNat (w ((bandI .i64 (shrI .i64 (List.getD x0 (Int.toNat a3) 0) 2) 127) + 1)))) a4)).length) ≤ maxLen) then
                                      bif decide ((Int.toNat (bandI .i64 (shrI .i64 (List.getD x0 (Int.toNat a3) 0) 2) 127)) + (List.take (a4.length - (Int.toNat (w ((bandI .i64 (shrI .i64 (List.getD x0 (Int.toNat a3) 0) 2) 127) + 1)))) (List.drop (0 + (Int.toNat (w ((bandI .i64 (shrI .i64 (List.getD x0 (Int.toNat a3) 0) 2) 127) + 1)))) a4)).length ≤ a4.length) then
                                        bif ((decide (0 ≤ (((Int.toNat (bandI .i64 (shrI .i64 (List.getD x0 (Int.toNat a3) 0) 2) 127)) + (List.take (a4.length - (Int.toNat (w ((bandI .i64 (shrI .i64 (List.getD x0 (Int.toNat a3) 0) 2) 127) + 1)))) (List.drop (0 + (Int.toNat (w ((bandI .i64 (shrI .i64 (List.getD x0 (Int.toNat a3) 0) 2) 127) + 1)))) a4)).length : Nat) : Int))) && (decide ((((Int.toNat (bandI .i64 (shrI .i64 (List.getD x0 (Int.toNat a3) 0) 2) 127)) + (List.take (a4.length - (Int.toNat (w ((bandI .i64 (shrI .i64 (List.getD x0 (Int.toNat a3) 0) 2) 127) + 1)))) (List.drop (0 + (Int.toNat (w ((bandI .i64 (shrI .i64 (List.getD x0 (Int.toNat a3) 0) 2) 127) + 1)))) a4)).length : Nat) : Int) ≤ (a4.length : Int)))) && (decide (0 + (Int.toNat (a4.length : Int)) ≤ ((List.take (Int.toNat (bandI .i64 (shrI .i64 (List.getD x0 (Int.toNat a3) 0) 2) 127)) a4) ++ (List.take (a4.length - (Int.toNat (w ((bandI .i64 (shrI .i64 (List.getD x0 (Int.toNat a3) 0) 2) 127) + 1)))) (List.drop (0 + (Int.toNat (w ((bandI .i64 (shrI .i64 (List.getD x0 (Int.toNat a3) 0) 2) 127) + 1)))) a4)) ++ (List.drop ((Int.toNat (bandI .i64 (shrI .i64 (List.getD x0 (Int.toNat a3) 0) 2) 127)) + (List.take (a4.length - (Int.toNat (w ((bandI .i64 (shrI .i64 (List.getD x0 (Int.toNat a3) 0) 2) 127) + 1)))) (List.drop (0 + (Int.toNat (w ((bandI .i64 (shrI .i64 (List.getD x0 (Int.toNat a3) 0) 2) 127) + 1)))) a4)).length) a4)).length)) then
                                          F13.j3 N x0 k2 a3 a5 (bandI .i64 (List.getD x0 (Int.toNat a3) 0) 3) (bandI .i64 (shrI .i64 (List.getD x0 (Int.toNat a3) 0) 2) 127) (decide ((bandI .i64 (shrI .i64 (List.getD x0 (Int.toNat a3) 0) 2) 127) < (a5.length : Int))) (List.getD a4 (Int.toNat (bandI .i64 (shrI .i64 (List.getD x0 (Int.toNat a3) 0) 2) 127)) (⟨#[]⟩ : ByteArray)) 0 (List.take ((Int.toNat (bandI .i64 (shrI .i64 (List.getD x0 (Int.toNat a3) 0) 2) 127)) + (List.take (a4.length - (Int.toNat (w ((bandI .i64 (shrI .i64 (List.getD x0 (Int.toNat a3) 0) 2) 127) + 1)))) (List.drop (0 + (Int.toNat (w ((bandI .i64 (shrI .i64 (List.getD x0 (Int.toNat a3) 0) 2) 127) + 1)))) a4)).length) (fillL ((List.take (Int.toNat (bandI .i64 (shrI .i64 (List.getD x0 (Int.toNat a3) 0) 2) 127)) a4) ++ (List.take (a4.length - (Int.toNat (w ((bandI .i64 (shrI .i64 (List.getD x0 (Int.toNat a3) 0) 2) 127) + 1)))) (List.drop (0 + (Int.toNat (w ((bandI .i64 (shrI .i64 (List.getD x0 (Int.toNat a3) 0) 2) 127) + 1)))) a4)) ++ (List.drop ((Int.toNat (bandI .i64 (shrI .i64 (List.getD x0 (Int.toNat a3) 0) 2) 127)) + (List.take (a4.length - (Int.toNat (w ((bandI .i64 (shrI .i64 (List.getD x0 (Int.toNat a3) 0) 2) 127) + 1)))) (List.drop (0 + (Int.toNat (w ((bandI .i64 (shrI .i64 (List.getD x0 (Int.toNat a3) 0) 2) 127) + 1)))) a4)).length) a4)) (0 + (Int.toNat (((Int.toNat (bandI .i64 (shrI .i64 (List.getD x0 (Int.toNat a3) 0) 2) 127)) + (List.take (a4.length - (Int.toNat (w ((bandI .i64 (shrI .i64 (List.getD x0 (Int.toNat a3) 0) 2) 127) + 1)))) (List.drop (0 + (Int.toNat (w ((bandI .i64 (shrI .i64 (List.getD x0 (Int.toNat a3) 0) 2) 127) + 1)))) a4)).length : Nat) : Int))) ((Int.toNat (a4.length : Int)) - (Int.toNat (((Int.toNat (bandI .i64 (shrI .i64 (List.getD x0 (Int.toNat a3) 0) 2) 127)) + (List.take (a4.length - (Int.toNat (w ((bandI .i64 (shrI .i64 (List.getD x0 (Int.toNat a3) 0) 2) 127) + 1)))) (List.drop (0 + (Int.toNat (w ((bandI .i64 (shrI .i64 (List.getD x0 (Int.toNat a3) 0) 2) 127) + 1)))) a4)).length : Nat) : Int))) (⟨#[]⟩ : ByteArray)))
                                        else
                                          none
                                      else
                                        none
                                    else
                                      none
                                  else
                                    none
                                else
                                  none
                              else
                                none
                            else
                              none
                          else
                            none
                        else
                          none
                      else
                        none
                    else
                      none
                  else
                    none
                else
                  none
              else
                none
            else
              none
          else
          bif !(!(decide ((bandI .i64 (shrI .i64 (List.getD x0 (Int.toNat a3) 0) 2) 127) < 0))) || (!(decide ((bandI .i64 (shrI .i64 (List.getD x0 (Int.toNat a3) 0) 2) 127) < 0))) then
            bif !(!(decide ((bandI .i64 (shrI .i64 (List.getD x0 (Int.toNat a3) 0) 2) 127) < 0))) || (!(decide ((bandI .i64 (shrI .i64 (List.getD x0 (Int.toNat a3) 0) 2) 127) < 0))) then
              bif !(!(decide ((bandI .i64 (shrI .i64 (List.getD x0 (Int.toNat a3) 0) 2) 127) < 0))) || (!(decide ((bandI .i64 (shrI .i64 (List.getD x0 (Int.toNat a3) 0) 2) 127) < 0))) then
                bif !(!(decide ((bandI .i64 (shrI .i64 (List.getD x0 (Int.toNat a3) 0) 2) 127) < 0))) || (!(decide ((bandI .i64 (shrI .i64 (List.getD x0 (Int.toNat a3) 0) 2) 127) < 0))) then
                  bif !(!(decide ((bandI .i64 (shrI .i64 (List.getD x0 (Int.toNat a3) 0) 2) 127) < 0))) || (!(decide ((bandI .i64 (shrI .i64 (List.getD x0 (Int.toNat a3) 0) 2) 127) < 0))) then
                    bif !(!(decide ((bandI .i64 (shrI .i64 (List.getD x0 (Int.toNat a3) 0) 2) 127) < 0))) || (!(decide ((bandI .i64 (shrI .i64 (List.getD x0 (Int.toNat a3) 0) 2) 127) < 0))) then
                      bif (decide ((bandI .i64 (shrI .i64 (List.getD x0 (Int.toNat a3) 0) 2) 127) < 0)) || (!(decide ((bandI .i64 (shrI .i64 (List.getD x0 (Int.toNat a3) 0) 2) 127) < 0))) then
                        bif (decide ((bandI .i64 (shrI .i64 (List.getD x0 (Int.toNat a3) 0) 2) 127) < 0)) || (decide ((bandI .i64 (shrI .i64 (List.getD x0 (Int.toNat a3) 0) 2) 127) ≥ (a4.length : Int))) then
                          F13.j3 N x0 k2 a3 a5 (bandI .i64 (List.getD x0 (Int.toNat a3) 0) 3) (bandI .i64 (shrI .i64 (List.getD x0 (Int.toNat a3) 0) 2) 127) (decide ((bandI .i64 (shrI .i64 (List.getD x0 (Int.toNat a3) 0) 2) 127) < (a5.length : Int))) (⟨#[]⟩ : ByteArray) 8 a4
                        else
                        bif (decide (0 ≤ (bandI .i64 (shrI .i64 (List.getD x0 (Int.toNat a3) 0) 2) 127))) && (decide ((bandI .i64 (shrI .i64 (List.getD x0 (Int.toNat a3) 0) 2) 127) < (a4.length : Int))) then
                          bif decide ((Int.toNat (bandI .i64 (shrI .i64 (List.getD x0 (Int.toNat a3) 0) 2) 127)) < a4.length) then
                            bif (((decide (0 ≤ (bandI .i64 (shrI .i64 (List.getD x0 (Int.toNat a3) 0) 2) 127))) && (decide ((bandI .i64 (shrI .i64 (List.getD x0 (Int.toNat a3) 0) 2) 127) ≤ (w ((bandI .i64 (shrI .i64 (List.getD x0 (Int.toNat a3) 0) 2) 127) + 1))))) && (decide ((w ((bandI .i64 (shrI .i64 (List.getD x0 (Int.toNat a3) 0) 2) 127) + 1)) ≤ (a4.length : Int)))) && (decide ((a4.length : Int) ≤ (a4.length : Int))) then
                              bif (bandI .i64 (shrI .i64 (List.getD x0 (Int.toNat a3) 0) 2) 127) == (w ((bandI .i64 (shrI .i64 (List.getD x0 (Int.toNat a3) 0) 2) 127) + 1)) then
                                F13.j3 N x0 k2 a3 a5 (bandI .i64 (List.getD x0 (Int.toNat a3) 0) 3) (bandI .i64 (shrI .i64 (List.getD x0 (Int.toNat a3) 0) 2) 127) (decide ((bandI .i64 (shrI .i64 (List.getD x0 (Int.toNat a3) 0) 2) 127) < (a5.length : Int))) (⟨#[]⟩ : ByteArray) 0 a4
                              else
                              bif (decide (0 ≤ (bandI .i64 (shrI .i64 (List.getD x0 (Int.toNat a3) 0) 2) 127))) && (decide (0 + (Int.toNat (bandI .i64 (shrI .i64 (List.getD x0 (Int.toNat a3) 0) 2) 127)) ≤ a4.length)) then
                                bif (decide (0 ≤ (w ((bandI .i64 (shrI .i64 (List.getD x0 (Int.toNat a3) 0) 2) 127) + 1)))) && (decide ((w ((bandI .i64 (shrI .i64 (List.getD x0 (Int.toNat a3) 0) 2) 127) + 1)) ≤ ((a4.length : Nat) : Int))) then
                                  bif decide (((List.take (Int.toNat (bandI .i64 (shrI .i64 (List.getD x0 (Int.toNat a3) 0) 2) 127)) a4).length + (List.take (a4.length - (Int.toNat (w ((bandI .i64 (shrI .i64 (List.getD x0 (Int.toNat a3) 0) 2) 127) + 1)))) (List.drop (0 + (Int.toNat (w ((bandI .i64 (shrI .i64 (List.getD x0 (Int.toNat a3) 0) 2) 127) + 1)))) a4)).length) * 16 ≤ 140737488355328) && decide (((List.take (Int.toNat (bandI .i64 (shrI .i64 (List.getD x0 (Int.toNat a3) 0) 2) 127)) a4).length + (List.take (a4.length - (Int.toNat (w ((bandI .i64 (shrI .i64 (List.getD x0 (Int.toNat a3) 0) 2) 127) + 1)))) (List.drop (0 + (Int.toNat (w ((bandI .i64 (shrI .i64 (List.getD x0 (Int.toNat a3) 0) 2) 127) + 1)))) a4)).length) ≤ maxLen) then
                                    bif decide ((Int.toNat (bandI .i64 (shrI .i64 (List.getD x0 (Int.toNat a3) 0) 2) 127)) + (List.take (a4.length - (Int.toNat (w ((bandI .i64 (shrI .i64 (List.getD x0 (Int.toNat a3) 0) 2) 127) + 1)))) (List.drop (0 + (Int.toNat (w ((bandI .i64 (shrI .i64 (List.getD x0 (Int.toNat a3) 0) 2) 127) + 1)))) a4)).length ≤ a4.length) then
                                      bif ((decide (0 ≤ (((Int.toNat (bandI .i64 (shrI .i64 (List.getD x0 (Int.toNat a3) 0) 2) 127)) + (List.take (a4.length - (Int.toNat (w ((bandI .i64 (shrI .i64 (List.getD x0 (Int.toNat a3) 0) 2) 127) + 1)))) (List.drop (0 + (Int.toNat (w ((bandI .i64 (shrI .i64 (List.getD x0 (Int.toNat a3) 0) 2) 127) + 1)))) a4)).length : Nat) : Int))) && (decide ((((Int.toNat (bandI .i64 (shrI .i64 (List.getD x0 (Int.toNat a3) 0) 2) 127)) + (List.take (a4.length - (Int.toNat (w ((bandI .i64 (shrI .i64 (List.getD x0 (Int.toNat a3) 0) 2) 127) + 1)))) (List.drop (0 + (Int.toNat (w ((bandI .i64 (shrI .i64 (List.getD x0 (Int.toNat a3) 0) 2) 127) + 1)))) a4)).length : Nat) : Int) ≤ (a4.length : Int)))) && (decide (0 + (Int.toNat (a4.length : Int)) ≤ ((List.take (Int.toNat (bandI .i64 (shrI .i64 (List.getD x0 (Int.toNat a3) 0) 2) 127)) a4) ++ (List.take (a4.length - (Int.toNat (w ((bandI .i64 (shrI .i64 (List.getD x0 (Int.toNat a3) 0) 2) 127) + 1)))) (List.drop (0 + (Int.toNat (w ((bandI .i64 (shrI .i64 (List.getD x0 (Int.toNat a3) 0) 2) 127) + 1)))) a4)) ++ (List.drop ((Int.toNat (bandI .i64 (shrI .i64 (List.getD x0 (Int.toNat a3) 0) 2) 127)) + (List.take (a4.length - (Int.toNat (w ((bandI .i64 (shrI .i64 (List.getD x0 (Int.toNat a3) 0) 2) 127) + 1)))) (List.drop (0 + (Int.toNat (w ((bandI .i64 (shrI .i64 (List.getD x0 (Int.toNat a3) 0) 2) 127) + 1)))) a4)).length) a4)).length)) then
                                        F13.j3 N x0 k2 a3 a5 (bandI .i64 (List.getD x0 (Int.toNat a3) 0) 3) (bandI .i64 (shrI .i64 (List.getD x0 (Int.toNat a3) 0) 2) 127) (decide ((bandI .i64 (shrI .i64 (List.getD x0 (Int.toNat a3) 0) 2) 127) < (a5.length : Int))) (⟨#[]⟩ : ByteArray) 0 (List.take ((Int.toNat (bandI .i64 (shrI .i64 (List.getD x0 (Int.toNat a3) 0) 2) 127)) + (List.take (a4.length - (Int.toNat (w ((bandI .i64 (shrI .i64 (List.getD x0 (Int.toNat a3) 0) 2) 127) + 1)))) (List.drop (0 + (Int.toNat (w ((bandI .i64 (shrI .i64 (List.getD x0 (Int.toNat a3) 0) 2) 127) + 1)))) a4)).length) (fillL ((List.take (Int.toNat (bandI .i64 (shrI .i64 (List.getD x0 (Int.toNat a3) 0) 2) 127)) a4) ++ (List.take (a4.length - (Int.toNat (w ((bandI .i64 (shrI .i64 (List.getD x0 (Int.toNat a3) 0) 2) 127) + 1)))) (List.drop (0 + (Int.toNat (w ((bandI .i64 (shrI .i64 (List.getD x0 (Int.toNat a3) 0) 2) 127) + 1)))) a4)) ++ (List.drop ((Int.toNat (bandI .i64 (shrI .i64 (List.getD x0 (Int.toNat a3) 0) 2) 127)) + (List.take (a4.length - (Int.toNat (w ((bandI .i64 (shrI .i64 (List.getD x0 (Int.toNat a3) 0) 2) 127) + 1)))) (List.drop (0 + (Int.toNat (w ((bandI .i64 (shrI .i64 (List.getD x0 (Int.toNat a3) 0) 2) 127) + 1)))) a4)).length) a4)) (0 + (Int.toNat (((Int.toNat (bandI .i64 (shrI .i64 (List.getD x0 (Int.toNat a3) 0) 2) 127)) + (List.take (a4.length - (Int.toNat (w ((bandI .i64 (shrI .i64 (List.getD x0 (Int.toNat a3) 0) 2) 127) + 1)))) (List.drop (0 + (Int.toNat (w ((bandI .i64 (shrI .i64 (List.getD x0 (Int.toNat a3) 0) 2) 127) + 1)))) a4)).length : Nat) : Int))) ((Int.toNat (a4.length : Int)) - (Int.toNat (((Int.toNat (bandI .i64 (shrI .i64 (List.getD x0 (Int.toNat a3) 0) 2) 127)) + (List.take (a4.length - (Int.toNat (w ((bandI .i64 (shrI .i64 (List.getD x0 (Int.toNat a3) 0) 2) 127) + 1)))) (List.drop (0 + (Int.toNat (w ((bandI .i64 (shrI .i64 (List.getD x0 (Int.toNat a3) 0) 2) 127) + 1)))) a4)).length : Nat) : Int))) (⟨#[]⟩ : ByteArray)))
                                      else
                                        none
                                    else
                                      none
                                  else
                                    none
                                else
                                  none
                              else
                                none
                            else
                              none
                          else
                            none
                        else
                          none
                      else
                        none
                    else
                      none
                  else
                    none
                else
                  none
              else
                none
            else
              none
          else
            none
        else
        bif !(decide ((bandI .i64 (shrI .i64 (List.getD x0 (Int.toNat a3) 0) 2) 127) < (a5.length : Int))) then
          F13.j4 N x0 k2 a3 a4 a5 (bandI .i64 (shrI .i64 (List.getD x0 (Int.toNat a3) 0) 2) 127) 8
        else
        bif (a5.length : Int) == 64 then
          F13.j4 N x0 k2 a3 a4 a5 (bandI .i64 (shrI .i64 (List.getD x0 (Int.toNat a3) 0) 2) 127) 9
        else
          F13.j4 N x0 k2 a3 a4 a5 (bandI .i64 (shrI .i64 (List.getD x0 (Int.toNat a3) 0) 2) 127) 0
      else
        none
    else
      some true := by kernel_rfl
theorem F13.j4_clean (N : Nat) (x0 : List Int) (k2 : Nat) (a3 : Int) (a4 : List ByteArray) (a5 : List ByteArray) (a23 : Int) (a24 : Int) {M : Nat} (hM : N = M + 1) : F13.j4 N x0 k2 a3 a4 a5 a23 a24 =
    bif (decide (a23 < 0)) || (decide (a23 ≥ (a4.length : Int))) then
      bif !(8 == a24) then
        some false
      else
      bif a24 == 0 then
        bif (decide (0 ≤ a23)) && (decide (a23 < (a5.length : Int))) then
          bif decide ((Int.toNat a23) < a5.length) then
            bif decide ((a5.length + 1) * 16 ≤ 140737488355328) && decide ((a5.length + 1) ≤ maxLen) then
              bif !((a4.length : Int) == ((a5 ++ [(List.getD a5 (Int.toNat a23) (⟨#[]⟩ : ByteArray))]).length : Int)) then
                some false
              else
                F13.l0 N x0 k2 (w (a3 + 1)) a4 (a5 ++ [(List.getD a5 (Int.toNat a23) (⟨#[]⟩ : ByteArray))])
            else
              none
          else
            none
        else
          none
      else
      bif !((a4.length : Int) == (a5.length : Int)) then
        some false
      else
        F13.l0 N x0 k2 (w (a3 + 1)) a4 a5
    else
    bif (decide (0 ≤ a23)) && (decide (a23 < (a4.length : Int))) then
      bif decide ((Int.toNat a23) < a4.length) then
        bif decide (((List.getD a4 (Int.toNat a23) (⟨#[]⟩ : ByteArray)).size : Int) > 120) then
          bif !(2 == a24) then
            some false
          else
          bif a24 == 0 then
            bif (decide (0 ≤ a23)) && (decide (a23 < (a5.length : Int))) then
              bif decide ((Int.toNat a23) < a5.length) then
                bif decide ((a5.length + 1) * 16 ≤ 140737488355328) && decide ((a5.length + 1) ≤ maxLen) then
                  bif !((a4.length : Int) == ((a5 ++ [(List.getD a5 (Int.toNat a23) (⟨#[]⟩ : ByteArray))]).length : Int)) then
                    some false
                  else
                    F13.l0 N x0 k2 (w (a3 + 1)) a4 (a5 ++ [(List.getD a5 (Int.toNat a23) (⟨#[]⟩ : ByteArray))])
                else
                  none
              else
                none
            else
              none
          else
          bif !((a4.length : Int) == (a5.length : Int)) then
            some false
          else
            F13.l0 N x0 k2 (w (a3 + 1)) a4 a5
        else
        bif decide ((a4.length : Int) ≥ 64) then
          bif !(9 == a24) then
            some false
          else
          bif a24 == 0 then
            bif (decide (0 ≤ a23)) && (decide (a23 < (a5.length : Int))) then
              bif decide ((Int.toNat a23) < a5.length) then
                bif decide ((a5.length + 1) * 16 ≤ 140737488355328) && decide ((a5.length + 1) ≤ maxLen) then
                  bif !((a4.length : Int) == ((a5 ++ [(List.getD a5 (Int.toNat a23) (⟨#[]⟩ : ByteArray))]).length : Int)) then
                    some false
                  else
                    F13.l0 N x0 k2 (w (a3 + 1)) a4 (a5 ++ [(List.getD a5 (Int.toNat a23) (⟨#[]⟩ : ByteArray))])
                else
                  none
              else
                none
            else
              none
          else
          bif !((a4.length : Int) == (a5.length : Int)) then
            some false
          else
            F13.l0 N x0 k2 (w (a3 + 1)) a4 a5
        else
        bif decide ((a4.length + 1) * 16 ≤ 140737488355328) && decide ((a4.length + 1) ≤ maxLen) then
          bif !(0 == a24) then
            some false
          else
          bif a24 == 0 then
            bif (decide (0 ≤ a23)) && (decide (a23 < (a5.length : Int))) then
              bif decide ((Int.toNat a23) < a5.length) then
                bif decide ((a5.length + 1) * 16 ≤ 140737488355328) && decide ((a5.length + 1) ≤ maxLen) then
                  bif !(((a4 ++ [(List.getD a4 (Int.toNat a23) (⟨#[]⟩ : ByteArray))]).length : Int) == ((a5 ++ [(List.getD a5 (Int.toNat a23) (⟨#[]⟩ : ByteArray))]).length : Int)) then
                    some false
                  else
                    F13.l0 N x0 k2 (w (a3 + 1)) (a4 ++ [(List.getD a4 (Int.toNat a23) (⟨#[]⟩ : ByteArray))]) (a5 ++ [(List.getD a5 (Int.toNat a23) (⟨#[]⟩ : ByteArray))])
                else
                  none
              else
                none
            else
              none
          else
          bif !(((a4 ++ [(List.getD a4 (Int.toNat a23) (⟨#[]⟩ : ByteArray))]).length : Int) == (a5.length : Int)) then
            some false
          else
            F13.l0 N x0 k2 (w (a3 + 1)) (a4 ++ [(List.getD a4 (Int.toNat a23) (⟨#[]⟩ : ByteArray))]) a5
        else
          none
      else
        none
    else
      none := by
  rw [F13.j4_eq (hM := hM)]; simp only [taut1, taut2, cond_true]
theorem taut54 : ∀ p0 p1 : Bool, ((!(!(!(p0))) || ((!(p1)) || ((!(!(p0))) && (p1))))) = true := by decide
theorem taut55 : ∀ p0 p1 : Bool, ((!((!(!(p0))) && (p1)) || ((!(!(p0))) && (p1)))) = true := by decide
theorem F13.j3_clean (N : Nat) (x0 : List Int) (k2 : Nat) (a3 : Int) (a5 : List ByteArray) (a16 : Int) (a17 : Int) (a18 : Bool) (a19 : ByteArray) (a20 : Int) (a21 : List ByteArray) {M : Nat} (hM : N = M + 1) : F13.j3 N x0 k2 a3 a5 a16 a17 a18 a19 a20 a21 =
    bif !a18 then
      bif (!(a20 == 8)) || (!(seq a19 (⟨#[]⟩ : ByteArray))) then
        some false
      else
        F13.l0 N x0 k2 (w (a3 + 1)) a21 a5
    else
    bif ((decide (0 ≤ a17)) && (decide (a17 < (a5.length : Int)))) || !((!(!(a20 == 0))) && (a16 == 1)) then
      bif (decide ((Int.toNat a17) < a5.length)) || !((!(!(a20 == 0))) && (a16 == 1)) then
        bif (!(a20 == 0)) || ((a16 == 1) && (!(seq a19 (List.getD a5 (Int.toNat a17) (⟨#[]⟩ : ByteArray))))) then
          some false
        else
        bif (decide (0 ≤ a17)) && (decide (0 + (Int.toNat a17) ≤ a5.length)) then
          (F53.fn N (List.take (Int.toNat a17) a5)).bind fun r22 =>
          bif (decide (0 ≤ (w (a17 + 1)))) && (decide ((w (a17 + 1)) ≤ ((a5.length : Nat) : Int))) then
            bif decide ((r22.length + (List.take (a5.length - (Int.toNat (w (a17 + 1)))) (List.drop (0 + (Int.toNat (w (a17 + 1)))) a5)).length) * 16 ≤ 140737488355328) && decide ((r22.length + (List.take (a5.length - (Int.toNat (w (a17 + 1)))) (List.drop (0 + (Int.toNat (w (a17 + 1)))) a5)).length) ≤ maxLen) then
              bif !((a21.length : Int) == ((r22 ++ (List.take (a5.length - (Int.toNat (w (a17 + 1)))) (List.drop (0 + (Int.toNat (w (a17 + 1)))) a5))).length : Int)) then
                some false
              else
                F13.l0 N x0 k2 (w (a3 + 1)) a21 (r22 ++ (List.take (a5.length - (Int.toNat (w (a17 + 1)))) (List.drop (0 + (Int.toNat (w (a17 + 1)))) a5)))
            else
              none
          else
            none
        else
          none
      else
        none
    else
      none := by
  rw [F13.j3_eq (hM := hM)]; simp only [taut31, taut54, taut55, taut35, cond_true]
theorem F13.j2_clean (N : Nat) (x0 : List Int) (k2 : Nat) (a3 : Int) (a4 : List ByteArray) (a5 : List ByteArray) (a14 : Int) (a15 : Int) {M : Nat} (hM : N = M + 1) : F13.j2 N x0 k2 a3 a4 a5 a14 a15 =
    bif (decide (a14 < 0)) || (decide (a14 ≥ (a4.length : Int))) then
      bif !(8 == a15) then
        some false
      else
      bif a15 == 0 then
        bif (decide (0 ≤ a14)) && (decide (a14 < (a5.length : Int))) then
          bif decide ((Int.toNat a14) < a5.length) then
            bif decide ((a5.length + 1) * 16 ≤ 140737488355328) && decide ((a5.length + 1) ≤ maxLen) then
              bif !((a4.length : Int) == ((a5 ++ [(List.getD a5 (Int.toNat a14) (⟨#[]⟩ : ByteArray))]).length : Int)) then
                some false
              else
                F13.l0 N x0 k2 (w (a3 + 1)) a4 (a5 ++ [(List.getD a5 (Int.toNat a14) (⟨#[]⟩ : ByteArray))])
            else
              none
          else
            none
        else
          none
      else
      bif !((a4.length : Int) == (a5.length : Int)) then
        some false
      else
        F13.l0 N x0 k2 (w (a3 + 1)) a4 a5
    else
    bif (decide (0 ≤ a14)) && (decide (a14 < (a4.length : Int))) then
      bif decide ((Int.toNat a14) < a4.length) then
        bif decide (((List.getD a4 (Int.toNat a14) (⟨#[]⟩ : ByteArray)).size : Int) > 120) then
          bif !(2 == a15) then
            some false
          else
          bif a15 == 0 then
            bif (decide (0 ≤ a14)) && (decide (a14 < (a5.length : Int))) then
              bif decide ((Int.toNat a14) < a5.length) then
                bif decide ((a5.length + 1) * 16 ≤ 140737488355328) && decide ((a5.length + 1) ≤ maxLen) then
                  bif !((a4.length : Int) == ((a5 ++ [(List.getD a5 (Int.toNat a14) (⟨#[]⟩ : ByteArray))]).length : Int)) then
                    some false
                  else
                    F13.l0 N x0 k2 (w (a3 + 1)) a4 (a5 ++ [(List.getD a5 (Int.toNat a14) (⟨#[]⟩ : ByteArray))])
                else
                  none
              else
                none
            else
              none
          else
          bif !((a4.length : Int) == (a5.length : Int)) then
            some false
          else
            F13.l0 N x0 k2 (w (a3 + 1)) a4 a5
        else
        bif decide ((a4.length : Int) ≥ 64) then
          bif !(9 == a15) then
            some false
          else
          bif a15 == 0 then
            bif (decide (0 ≤ a14)) && (decide (a14 < (a5.length : Int))) then
              bif decide ((Int.toNat a14) < a5.length) then
                bif decide ((a5.length + 1) * 16 ≤ 140737488355328) && decide ((a5.length + 1) ≤ maxLen) then
                  bif !((a4.length : Int) == ((a5 ++ [(List.getD a5 (Int.toNat a14) (⟨#[]⟩ : ByteArray))]).length : Int)) then
                    some false
                  else
                    F13.l0 N x0 k2 (w (a3 + 1)) a4 (a5 ++ [(List.getD a5 (Int.toNat a14) (⟨#[]⟩ : ByteArray))])
                else
                  none
              else
                none
            else
              none
          else
          bif !((a4.length : Int) == (a5.length : Int)) then
            some false
          else
            F13.l0 N x0 k2 (w (a3 + 1)) a4 a5
        else
        bif decide ((a4.length + 1) * 16 ≤ 140737488355328) && decide ((a4.length + 1) ≤ maxLen) then
          bif !(0 == a15) then
            some false
          else
          bif a15 == 0 then
            bif (decide (0 ≤ a14)) && (decide (a14 < (a5.length : Int))) then
              bif decide ((Int.toNat a14) < a5.length) then
                bif decide ((a5.length + 1) * 16 ≤ 140737488355328) && decide ((a5.length + 1) ≤ maxLen) then
                  bif !(((a4 ++ [(List.getD a4 (Int.toNat a14) (⟨#[]⟩ : ByteArray))]).length : Int) == ((a5 ++ [(List.getD a5 (Int.toNat a14) (⟨#[]⟩ : ByteArray))]).length : Int)) then
                    some false
                  else
                    F13.l0 N x0 k2 (w (a3 + 1)) (a4 ++ [(List.getD a4 (Int.toNat a14) (⟨#[]⟩ : ByteArray))]) (a5 ++ [(List.getD a5 (Int.toNat a14) (⟨#[]⟩ : ByteArray))])
                else
                  none
              else
                none
            else
              none
          else
          bif !(((a4 ++ [(List.getD a4 (Int.toNat a14) (⟨#[]⟩ : ByteArray))]).length : Int) == (a5.length : Int)) then
            some false
          else
            F13.l0 N x0 k2 (w (a3 + 1)) (a4 ++ [(List.getD a4 (Int.toNat a14) (⟨#[]⟩ : ByteArray))]) a5
        else
          none
      else
        none
    else
      none := by
  rw [F13.j2_eq (hM := hM)]; simp only [taut1, taut2, cond_true]
theorem F13.j1_clean (N : Nat) (x0 : List Int) (k2 : Nat) (a3 : Int) (a5 : List ByteArray) (a7 : Int) (a8 : Int) (a9 : Bool) (a10 : ByteArray) (a11 : Int) (a12 : List ByteArray) {M : Nat} (hM : N = M + 1) : F13.j1 N x0 k2 a3 a5 a7 a8 a9 a10 a11 a12 =
    bif !a9 then
      bif (!(a11 == 8)) || (!(seq a10 (⟨#[]⟩ : ByteArray))) then
        some false
      else
        F13.l0 N x0 k2 (w (a3 + 1)) a12 a5
    else
    bif ((decide (0 ≤ a8)) && (decide (a8 < (a5.length : Int)))) || !((!(!(a11 == 0))) && (a7 == 1)) then
      bif (decide ((Int.toNat a8) < a5.length)) || !((!(!(a11 == 0))) && (a7 == 1)) then
        bif (!(a11 == 0)) || ((a7 == 1) && (!(seq a10 (List.getD a5 (Int.toNat a8) (⟨#[]⟩ : ByteArray))))) then
          some false
        else
        bif (decide (0 ≤ a8)) && (decide (0 + (Int.toNat a8) ≤ a5.length)) then
          (F53.fn N (List.take (Int.toNat a8) a5)).bind fun r13 =>
          bif (decide (0 ≤ (w (a8 + 1)))) && (decide ((w (a8 + 1)) ≤ ((a5.length : Nat) : Int))) then
            bif decide ((r13.length + (List.take (a5.length - (Int.toNat (w (a8 + 1)))) (List.drop (0 + (Int.toNat (w (a8 + 1)))) a5)).length) * 16 ≤ 140737488355328) && decide ((r13.length + (List.take (a5.length - (Int.toNat (w (a8 + 1)))) (List.drop (0 + (Int.toNat (w (a8 + 1)))) a5)).length) ≤ maxLen) then
              bif !((a12.length : Int) == ((r13 ++ (List.take (a5.length - (Int.toNat (w (a8 + 1)))) (List.drop (0 + (Int.toNat (w (a8 + 1)))) a5))).length : Int)) then
                some false
              else
                F13.l0 N x0 k2 (w (a3 + 1)) a12 (r13 ++ (List.take (a5.length - (Int.toNat (w (a8 + 1)))) (List.drop (0 + (Int.toNat (w (a8 + 1)))) a5)))
            else
              none
          else
            none
        else
          none
      else
        none
    else
      none := by
  rw [F13.j1_eq (hM := hM)]; simp only [taut31, taut54, taut55, taut35, cond_true]
theorem taut56 : ∀ p0 : Bool, ((!(!(!(p0))) || ((!(!(p0))) && true))) = true := by decide
theorem taut57 : ∀ p0 : Bool, ((!(!(!(p0))) || true)) = true := by decide
theorem taut58 : ∀ p0 : Bool, ((!((!(!(p0))) && false) || ((!(!(p0))) && false))) = true := by decide
theorem taut59 : ∀ p0 : Bool, ((!((!(!(p0))) && true) || ((!(!(p0))) && true))) = true := by decide
theorem F13.l0_clean (N : Nat) (x0 : List Int) (k2 : Nat) (a3 : Int) (a4 : List ByteArray) (a5 : List ByteArray) : F13.l0 N x0 (k2 + 1) a3 a4 a5 =
    bif decide (a3 < (x0.length : Int)) then
      bif (decide (0 ≤ a3)) && (decide (a3 < (x0.length : Int))) then
        bif (bandI .i64 (List.getD x0 (Int.toNat a3) 0) 3) == 0 then
          (F57.fn N a3).bind fun r6 =>
          bif decide ((r6.size : Int) > 120) then
            bif cond (!(false == (decide ((a5.length : Int) < 64)))) true true then
              some false
            else
            bif !((a4.length : Int) == (a5.length : Int)) then
              some false
            else
              F13.l0 N x0 k2 (w (a3 + 1)) a4 a5
          else
          bif decide ((a4.length : Int) ≥ 64) then
            bif cond (!(false == (decide ((a5.length : Int) < 64)))) true false then
              some false
            else
            bif !((a4.length : Int) == (a5.length : Int)) then
              some false
            else
              F13.l0 N x0 k2 (w (a3 + 1)) a4 a5
          else
          bif decide ((a4.length + 1) * 16 ≤ 140737488355328) && decide ((a4.length + 1) ≤ maxLen) then
            bif cond (!(true == (decide ((a5.length : Int) < 64)))) true false then
              some false
            else
            bif decide ((a5.length + 1) * 16 ≤ 140737488355328) && decide ((a5.length + 1) ≤ maxLen) then
              bif !(((a4 ++ [r6]).length : Int) == ((a5 ++ [r6]).length : Int)) then
                some false
              else
                F13.l0 N x0 k2 (w (a3 + 1)) (a4 ++ [r6]) (a5 ++ [r6])
            else
              none
          else
            none
        else
        bif (bandI .i64 (List.getD x0 (Int.toNat a3) 0) 3) == 1 then
          bif (bandI .i64 (List.getD x0 (Int.toNat a3) 0) 3) == 1 then
            bif (bandI .i64 (List.getD x0 (Int.toNat a3) 0) 3) == 1 then
              bif (decide ((bandI .i64 (shrI .i64 (List.getD x0 (Int.toNat a3) 0) 2) 127) < 0)) || (decide ((bandI .i64 (shrI .i64 (List.getD x0 (Int.toNat a3) 0) 2) 127) ≥ (a4.length : Int))) then
                F13.j1 N x0 k2 a3 a5 (bandI .i64 (List.getD x0 (Int.toNat a3) 0) 3) (bandI .i64 (shrI .i64 (List.getD x0 (Int.toNat a3) 0) 2) 127) (decide ((bandI .i64 (shrI .i64 (List.getD x0 (Int.toNat a3) 0) 2) 127) < (a5.length : Int))) (⟨#[]⟩ : ByteArray) 8 a4
              else
              bif (decide (0 ≤ (bandI .i64 (shrI .i64 (List.getD x0 (Int.toNat a3) 0) 2) 127))) && (decide ((bandI .i64 (shrI .i64 (List.getD x0 (Int.toNat a3) 0) 2) 127) < (a4.length : Int))) then
                bif decide ((Int.toNat (bandI .i64 (shrI .i64 (List.getD x0 (Int.toNat a3) 0) 2) 127)) < a4.length) then
                  bif (((decide (0 ≤ (bandI .i64 (shrI .i64 (List.getD x0 (Int.toNat a3) 0) 2) 127))) && (decide ((bandI .i64 (shrI .i64 (List.getD x0 (Int.toNat a3) 0) 2) 127) ≤ (w ((bandI .i64 (shrI .i64 (List.getD x0 (Int.toNat a3) 0) 2) 127) + 1))))) && (decide ((w ((bandI .i64 (shrI .i64 (List.getD x0 (Int.toNat a3) 0) 2) 127) + 1)) ≤ (a4.length : Int)))) && (decide ((a4.length : Int) ≤ (a4.length : Int))) then
                    bif (bandI .i64 (shrI .i64 (List.getD x0 (Int.toNat a3) 0) 2) 127) == (w ((bandI .i64 (shrI .i64 (List.getD x0 (Int.toNat a3) 0) 2) 127) + 1)) then
                      F13.j1 N x0 k2 a3 a5 (bandI .i64 (List.getD x0 (Int.toNat a3) 0) 3) (bandI .i64 (shrI .i64 (List.getD x0 (Int.toNat a3) 0) 2) 127) (decide ((bandI .i64 (shrI .i64 (List.getD x0 (Int.toNat a3) 0) 2) 127) < (a5.length : Int))) (List.getD a4 (Int.toNat (bandI .i64 (shrI .i64 (List.getD x0 (Int.toNat a3) 0) 2) 127)) (⟨#[]⟩ : ByteArray)) 0 a4
                    else
                    bif (decide (0 ≤ (bandI .i64 (shrI .i64 (List.getD x0 (Int.toNat a3) 0) 2) 127))) && (decide (0 + (Int.toNat (bandI .i64 (shrI .i64 (List.getD x0 (Int.toNat a3) 0) 2) 127)) ≤ a4.length)) then
                      bif (decide (0 ≤ (w ((bandI .i64 (shrI .i64 (List.getD x0 (Int.toNat a3) 0) 2) 127) + 1)))) && (decide ((w ((bandI .i64 (shrI .i64 (List.getD x0 (Int.toNat a3) 0) 2) 127) + 1)) ≤ ((a4.length : Nat) : Int))) then
                        bif decide (((List.take (Int.toNat (bandI .i64 (shrI .i64 (List.getD x0 (Int.toNat a3) 0) 2) 127)) a4).length + (List.take (a4.length - (Int.toNat (w ((bandI .i64 (shrI .i64 (List.getD x0 (Int.toNat a3) 0) 2) 127) + 1)))) (List.drop (0 + (Int.toNat (w ((bandI .i64 (shrI .i64 (List.getD x0 (Int.toNat a3) 0) 2) 127) + 1)))) a4)).length) * 16 ≤ 140737488355328) && decide (((List.take (Int.toNat (bandI .i64 (shrI .i64 (List.getD x0 (Int.toNat a3) 0) 2) 127)) a4).length + (List.take (a4.length - (Int.toNat (w ((bandI .i64 (shrI .i64 (List.getD x0 (Int.toNat a3) 0) 2) 127) + 1)))) (List.drop (0 + (Int.toNat (w ((bandI .i64 (shrI .i64 (List.getD x0 (Int.toNat a3) 0) 2) 127) + 1)))) a4)).length) ≤ maxLen) then
                          bif decide ((Int.toNat (bandI .i64 (shrI .i64 (List.getD x0 (Int.toNat a3) 0) 2) 127)) + (List.take (a4.length - (Int.toNat (w ((bandI .i64 (shrI .i64 (List.getD x0 (Int.toNat a3) 0) 2) 127) + 1)))) (List.drop (0 + (Int.toNat (w ((bandI .i64 (shrI .i64 (List.getD x0 (Int.toNat a3) 0) 2) 127) + 1)))) a4)).length ≤ a4.length) then
                            bif ((decide (0 ≤ (((Int.toNat (bandI .i64 (shrI .i64 (List.getD x0 (Int.toNat a3) 0) 2) 127)) + (List.take (a4.length - (Int.toNat (w ((bandI .i64 (shrI .i64 (List.getD x0 (Int.toNat a3) 0) 2) 127) + 1)))) (List.drop (0 + (Int.toNat (w ((bandI .i64 (shrI .i64 (List.getD x0 (Int.toNat a3) 0) 2) 127) + 1)))) a4)).length : Nat) : Int))) && (decide ((((Int.toNat (bandI .i64 (shrI .i64 (List.getD x0 (Int.toNat a3) 0) 2) 127)) + (List.take (a4.length - (Int.toNat (w ((bandI .i64 (shrI .i64 (List.getD x0 (Int.toNat a3) 0) 2) 127) + 1)))) (List.drop (0 + (Int.toNat (w ((bandI .i64 (shrI .i64 (List.getD x0 (Int.toNat a3) 0) 2) 127) + 1)))) a4)).length : Nat) : Int) ≤ (a4.length : Int)))) && (decide (0 + (Int.toNat (a4.length : Int)) ≤ ((List.take (Int.toNat (bandI .i64 (shrI .i64 (List.getD x0 (Int.toNat a3) 0) 2) 127)) a4) ++ (List.take (a4.length - (Int.toNat (w ((bandI .i64 (shrI .i64 (List.getD x0 (Int.toNat a3) 0) 2) 127) + 1)))) (List.drop (0 + (Int.toNat (w ((bandI .i64 (shrI .i64 (List.getD x0 (Int.toNat a3) 0) 2) 127) + 1)))) a4)) ++ (List.drop ((Int.toNat (bandI .i64 (shrI .i64 (List.getD x0 (Int.toNat a3) 0) 2) 127)) + (List.take (a4.length - (Int.toNat (w ((bandI .i64 (shrI .i64 (List.getD x0 (Int.toNat a3) 0) 2) 127) + 1)))) (List.drop (0 + (Int.toNat (w ((bandI .i64 (shrI .i64 (List.getD x0 (Int.toNat a3) 0) 2) 127) + 1)))) a4)).length) a4)).length)) then
                              F13.j1 N x0 k2 a3 a5 (bandI .i64 (List.getD x0 (Int.toNat a3) 0) 3) (bandI .i64 (shrI .i64 (List.getD x0 (Int.toNat a3) 0) 2) 127) (decide ((bandI .i64 (shrI .i64 (List.getD x0 (Int.toNat a3) 0) 2) 127) < (a5.length : Int))) (List.getD a4 (Int.toNat (bandI .i64 (shrI .i64 (List.getD x0 (Int.toNat a3) 0) 2) 127)) (⟨#[]⟩ : ByteArray)) 0 (List.take ((Int.toNat (bandI .i64 (shrI .i64 (List.getD x0 (Int.toNat a3) 0) 2) 127)) + (List.take (a4.length - (Int.toNat (w ((bandI .i64 (shrI .i64 (List.getD x0 (Int.toNat a3) 0) 2) 127) + 1)))) (List.drop (0 + (Int.toNat (w ((bandI .i64 (shrI .i64 (List.getD x0 (Int.toNat a3) 0) 2) 127) + 1)))) a4)).length) (fillL ((List.take (Int.toNat (bandI .i64 (shrI .i64 (List.getD x0 (Int.toNat a3) 0) 2) 127)) a4) ++ (List.take (a4.length - (Int.toNat (w ((bandI .i64 (shrI .i64 (List.getD x0 (Int.toNat a3) 0) 2) 127) + 1)))) (List.drop (0 + (Int.toNat (w ((bandI .i64 (shrI .i64 (List.getD x0 (Int.toNat a3) 0) 2) 127) + 1)))) a4)) ++ (List.drop ((Int.toNat (bandI .i64 (shrI .i64 (List.getD x0 (Int.toNat a3) 0) 2) 127)) + (List.take (a4.length - (Int.toNat (w ((bandI .i64 (shrI .i64 (List.getD x0 (Int.toNat a3) 0) 2) 127) + 1)))) (List.drop (0 + (Int.toNat (w ((bandI .i64 (shrI .i64 (List.getD x0 (Int.toNat a3) 0) 2) 127) + 1)))) a4)).length) a4)) (0 + (Int.toNat (((Int.toNat (bandI .i64 (shrI .i64 (List.getD x0 (Int.toNat a3) 0) 2) 127)) + (List.take (a4.length - (Int.toNat (w ((bandI .i64 (shrI .i64 (List.getD x0 (Int.toNat a3) 0) 2) 127) + 1)))) (List.drop (0 + (Int.toNat (w ((bandI .i64 (shrI .i64 (List.getD x0 (Int.toNat a3) 0) 2) 127) + 1)))) a4)).length : Nat) : Int))) ((Int.toNat (a4.length : Int)) - (Int.toNat (((Int.toNat (bandI .i64 (shrI .i64 (List.getD x0 (Int.toNat a3) 0) 2) 127)) + (List.take (a4.length - (Int.toNat (w ((bandI .i64 (shrI .i64 (List.getD x0 (Int.toNat a3) 0) 2) 127) + 1)))) (List.drop (0 + (Int.toNat (w ((bandI .i64 (shrI .i64 (List.getD x0 (Int.toNat a3) 0) 2) 127) + 1)))) a4)).length : Nat) : Int))) (⟨#[]⟩ : ByteArray)))
                            else
                              none
                          else
                            none
                        else
                          none
                      else
                        none
                    else
                      none
                  else
                    none
                else
                  none
              else
                none
            else
            bif (decide ((bandI .i64 (shrI .i64 (List.getD x0 (Int.toNat a3) 0) 2) 127) < 0)) || (decide ((bandI .i64 (shrI .i64 (List.getD x0 (Int.toNat a3) 0) 2) 127) ≥ (a4.length : Int))) then
              F13.j1 N x0 k2 a3 a5 (bandI .i64 (List.getD x0 (Int.toNat a3) 0) 3) (bandI .i64 (shrI .i64 (List.getD x0 (Int.toNat a3) 0) 2) 127) (decide ((bandI .i64 (shrI .i64 (List.getD x0 (Int.toNat a3) 0) 2) 127) < (a5.length : Int))) (⟨#[]⟩ : ByteArray) 8 a4
            else
            bif (decide (0 ≤ (bandI .i64 (shrI .i64 (List.getD x0 (Int.toNat a3) 0) 2) 127))) && (decide ((bandI .i64 (shrI .i64 (List.getD x0 (Int.toNat a3) 0) 2) 127) < (a4.length : Int))) then
              bif decide ((Int.toNat (bandI .i64 (shrI .i64 (List.getD x0 (Int.toNat a3) 0) 2) 127)) < a4.length) then
                bif (((decide (0 ≤ (bandI .i64 (shrI .i64 (List.getD x0 (Int.toNat a3) 0) 2) 127))) && (decide ((bandI .i64 (shrI .i64 (List.getD x0 (Int.toNat a3) 0) 2) 127) ≤ (w ((bandI .i64 (shrI .i64 (List.getD x0 (Int.toNat a3) 0) 2) 127) + 1))))) && (decide ((w ((bandI .i64 (shrI .i64 (List.getD x0 (Int.toNat a3) 0) 2) 127) + 1)) ≤ (a4.length : Int)))) && (decide ((a4.length : Int) ≤ (a4.length : Int))) then
                  bif (bandI .i64 (shrI .i64 (List.getD x0 (Int.toNat a3) 0) 2) 127) == (w ((bandI .i64 (shrI .i64 (List.getD x0 (Int.toNat a3) 0) 2) 127) + 1)) then
                    F13.j1 N x0 k2 a3 a5 (bandI .i64 (List.getD x0 (Int.toNat a3) 0) 3) (bandI .i64 (shrI .i64 (List.getD x0 (Int.toNat a3) 0) 2) 127) (decide ((bandI .i64 (shrI .i64 (List.getD x0 (Int.toNat a3) 0) 2) 127) < (a5.length : Int))) (⟨#[]⟩ : ByteArray) 0 a4
                  else
                  bif (decide (0 ≤ (bandI .i64 (shrI .i64 (List.getD x0 (Int.toNat a3) 0) 2) 127))) && (decide (0 + (Int.toNat (bandI .i64 (shrI .i64 (List.getD x0 (Int.toNat a3) 0) 2) 127)) ≤ a4.length)) then
                    bif (decide (0 ≤ (w ((bandI .i64 (shrI .i64 (List.getD x0 (Int.toNat a3) 0) 2) 127) + 1)))) && (decide ((w ((bandI .i64 (shrI .i64 (List.getD x0 (Int.toNat a3) 0) 2) 127) + 1)) ≤ ((a4.length : Nat) : Int))) then
                      bif decide (((List.take (Int.toNat (bandI .i64 (shrI .i64 (List.getD x0 (Int.toNat a3) 0) 2) 127)) a4).length + (List.take (a4.length - (Int.toNat (w ((bandI .i64 (shrI .i64 (List.getD x0 (Int.toNat a3) 0) 2) 127) + 1)))) (List.drop (0 + (Int.toNat (w ((bandI .i64 (shrI .i64 (List.getD x0 (Int.toNat a3) 0) 2) 127) + 1)))) a4)).length) * 16 ≤ 140737488355328) && decide (((List.take (Int.toNat (bandI .i64 (shrI .i64 (List.getD x0 (Int.toNat a3) 0) 2) 127)) a4).length + (List.take (a4.length - (Int.toNat (w ((bandI .i64 (shrI .i64 (List.getD x0 (Int.toNat a3) 0) 2) 127) + 1)))) (List.drop (0 + (Int.toNat (w ((bandI .i64 (shrI .i64 (List.getD x0 (Int.toNat a3) 0) 2) 127) + 1)))) a4)).length) ≤ maxLen) then
                        bif decide ((Int.toNat (bandI .i64 (shrI .i64 (List.getD x0 (Int.toNat a3) 0) 2) 127)) + (List.take (a4.length - (Int.toNat (w ((bandI .i64 (shrI .i64 (List.getD x0 (Int.toNat a3) 0) 2) 127) + 1)))) (List.drop (0 + (Int.toNat (w ((bandI .i64 (shrI .i64 (List.getD x0 (Int.toNat a3) 0) 2) 127) + 1)))) a4)).length ≤ a4.length) then
                          bif ((decide (0 ≤ (((Int.toNat (bandI .i64 (shrI .i64 (List.getD x0 (Int.toNat a3) 0) 2) 127)) + (List.take (a4.length - (Int.toNat (w ((bandI .i64 (shrI .i64 (List.getD x0 (Int.toNat a3) 0) 2) 127) + 1)))) (List.drop (0 + (Int.toNat (w ((bandI .i64 (shrI .i64 (List.getD x0 (Int.toNat a3) 0) 2) 127) + 1)))) a4)).length : Nat) : Int))) && (decide ((((Int.toNat (bandI .i64 (shrI .i64 (List.getD x0 (Int.toNat a3) 0) 2) 127)) + (List.take (a4.length - (Int.toNat (w ((bandI .i64 (shrI .i64 (List.getD x0 (Int.toNat a3) 0) 2) 127) + 1)))) (List.drop (0 + (Int.toNat (w ((bandI .i64 (shrI .i64 (List.getD x0 (Int.toNat a3) 0) 2) 127) + 1)))) a4)).length : Nat) : Int) ≤ (a4.length : Int)))) && (decide (0 + (Int.toNat (a4.length : Int)) ≤ ((List.take (Int.toNat (bandI .i64 (shrI .i64 (List.getD x0 (Int.toNat a3) 0) 2) 127)) a4) ++ (List.take (a4.length - (Int.toNat (w ((bandI .i64 (shrI .i64 (List.getD x0 (Int.toNat a3) 0) 2) 127) + 1)))) (List.drop (0 + (Int.toNat (w ((bandI .i64 (shrI .i64 (List.getD x0 (Int.toNat a3) 0) 2) 127) + 1)))) a4)) ++ (List.drop ((Int.toNat (bandI .i64 (shrI .i64 (List.getD x0 (Int.toNat a3) 0) 2) 127)) + (List.take (a4.length - (Int.toNat (w ((bandI .i64 (shrI .i64 (List.getD x0 (Int.toNat a3) 0) 2) 127) + 1)))) (List.drop (0 + (Int.toNat (w ((bandI .i64 (shrI .i64 (List.getD x0 (Int.toNat a3) 0) 2) 127) + 1)))) a4)).length) a4)).length)) then
                            F13.j1 N x0 k2 a3 a5 (bandI .i64 (List.getD x0 (Int.toNat a3) 0) 3) (bandI .i64 (shrI .i64 (List.getD x0 (Int.toNat a3) 0) 2) 127) (decide ((bandI .i64 (shrI .i64 (List.getD x0 (Int.toNat a3) 0) 2) 127) < (a5.length : Int))) (⟨#[]⟩ : ByteArray) 0 (List.take ((Int.toNat (bandI .i64 (shrI .i64 (List.getD x0 (Int.toNat a3) 0) 2) 127)) + (List.take (a4.length - (Int.toNat (w ((bandI .i64 (shrI .i64 (List.getD x0 (Int.toNat a3) 0) 2) 127) + 1)))) (List.drop (0 + (Int.toNat (w ((bandI .i64 (shrI .i64 (List.getD x0 (Int.toNat a3) 0) 2) 127) + 1)))) a4)).length) (fillL ((List.take (Int.toNat (bandI .i64 (shrI .i64 (List.getD x0 (Int.toNat a3) 0) 2) 127)) a4) ++ (List.take (a4.length - (Int.toNat (w ((bandI .i64 (shrI .i64 (List.getD x0 (Int.toNat a3) 0) 2) 127) + 1)))) (List.drop (0 + (Int.toNat (w ((bandI .i64 (shrI .i64 (List.getD x0 (Int.toNat a3) 0) 2) 127) + 1)))) a4)) ++ (List.drop ((Int.toNat (bandI .i64 (shrI .i64 (List.getD x0 (Int.toNat a3) 0) 2) 127)) + (List.take (a4.length - (Int.toNat (w ((bandI .i64 (shrI .i64 (List.getD x0 (Int.toNat a3) 0) 2) 127) + 1)))) (List.drop (0 + (Int.toNat (w ((bandI .i64 (shrI .i64 (List.getD x0 (Int.toNat a3) 0) 2) 127) + 1)))) a4)).length) a4)) (0 + (Int.toNat (((Int.toNat (bandI .i64 (shrI .i64 (List.getD x0 (Int.toNat a3) 0) 2) 127)) + (List.take (a4.length - (Int.toNat (w ((bandI .i64 (shrI .i64 (List.getD x0 (Int.toNat a3) 0) 2) 127) + 1)))) (List.drop (0 + (Int.toNat (w ((bandI .i64 (shrI .i64 (List.getD x0 (Int.toNat a3) 0) 2) 127) + 1)))) a4)).length : Nat) : Int))) ((Int.toNat (a4.length : Int)) - (Int.toNat (((Int.toNat (bandI .i64 (shrI .i64 (List.getD x0 (Int.toNat a3) 0) 2) 127)) + (List.take (a4.length - (Int.toNat (w ((bandI .i64 (shrI .i64 (List.getD x0 (Int.toNat a3) 0) 2) 127) + 1)))) (List.drop (0 + (Int.toNat (w ((bandI .i64 (shrI .i64 (List.getD x0 (Int.toNat a3) 0) 2) 127) + 1)))) a4)).length : Nat) : Int))) (⟨#[]⟩ : ByteArray)))
                          else
                            none
                        else
                          none
                      else
                        none
                    else
                      none
                  else
                    none
                else
                  none
              else
                none
            else
              none
          else
          bif !(decide ((bandI .i64 (shrI .i64 (List.getD x0 (Int.toNat a3) 0) 2) 127) < (a5.length : Int))) then
            F13.j2 N x0 k2 a3 a4 a5 (bandI .i64 (shrI .i64 (List.getD x0 (Int.toNat a3) 0) 2) 127) 8
          else
          bif (a5.length : Int) == 64 then
            F13.j2 N x0 k2 a3 a4 a5 (bandI .i64 (shrI .i64 (List.getD x0 (Int.toNat a3) 0) 2) 127) 9
          else
            F13.j2 N x0 k2 a3 a4 a5 (bandI .i64 (shrI .i64 (List.getD x0 (Int.toNat a3) 0) 2) 127) 0
        else
        bif (bandI .i64 (List.getD x0 (Int.toNat a3) 0) 3) == 2 then
          bif (bandI .i64 (List.getD x0 (Int.toNat a3) 0) 3) == 1 then
            bif (decide ((bandI .i64 (shrI .i64 (List.getD x0 (Int.toNat a3) 0) 2) 127) < 0)) || (decide ((bandI .i64 (shrI .i64 (List.getD x0 (Int.toNat a3) 0) 2) 127) ≥ (a4.length : Int))) then
              F13.j3 N x0 k2 a3 a5 (bandI .i64 (List.getD x0 (Int.toNat a3) 0) 3) (bandI .i64 (shrI .i64 (List.getD x0 (Int.toNat a3) 0) 2) 127) (decide ((bandI .i64 (shrI .i64 (List.getD x0 (Int.toNat a3) 0) 2) 127) < (a5.length : Int))) (⟨#[]⟩ : ByteArray) 8 a4
            else
            bif (decide (0 ≤ (bandI .i64 (shrI .i64 (List.getD x0 (Int.toNat a3) 0) 2) 127))) && (decide ((bandI .i64 (shrI .i64 (List.getD x0 (Int.toNat a3) 0) 2) 127) < (a4.length : Int))) then
              bif decide ((Int.toNat (bandI .i64 (shrI .i64 (List.getD x0 (Int.toNat a3) 0) 2) 127)) < a4.length) then
                bif (((decide (0 ≤ (bandI .i64 (shrI .i64 (List.getD x0 (Int.toNat a3) 0) 2) 127))) && (decide ((bandI .i64 (shrI .i64 (List.getD x0 (Int.toNat a3) 0) 2) 127) ≤ (w ((bandI .i64 (shrI .i64 (List.getD x0 (Int.toNat a3) 0) 2) 127) + 1))))) && (decide ((w ((bandI .i64 (shrI .i64 (List.getD x0 (Int.toNat a3) 0) 2) 127) + 1)) ≤ (a4.length : Int)))) && (decide ((a4.length : Int) ≤ (a4.length : Int))) then
                  bif (bandI .i64 (shrI .i64 (List.getD x0 (Int.toNat a3) 0) 2) 127) == (w ((bandI .i64 (shrI .i64 (List.getD x0 (Int.toNat a3) 0) 2) 127) + 1)) then
                    F13.j3 N x0 k2 a3 a5 (bandI .i64 (List.getD x0 (Int.toNat a3) 0) 3) (bandI .i64 (shrI .i64 (List.getD x0 (Int.toNat a3) 0) 2) 127) (decide ((bandI .i64 (shrI .i64 (List.getD x0 (Int.toNat a3) 0) 2) 127) < (a5.length : Int))) (List.getD a4 (Int.toNat (bandI .i64 (shrI .i64 (List.getD x0 (Int.toNat a3) 0) 2) 127)) (⟨#[]⟩ : ByteArray)) 0 a4
                  else
                  bif (decide (0 ≤ (bandI .i64 (shrI .i64 (List.getD x0 (Int.toNat a3) 0) 2) 127))) && (decide (0 + (Int.toNat (bandI .i64 (shrI .i64 (List.getD x0 (Int.toNat a3) 0) 2) 127)) ≤ a4.length)) then
                    bif (decide (0 ≤ (w ((bandI .i64 (shrI .i64 (List.getD x0 (Int.toNat a3) 0) 2) 127) + 1)))) && (decide ((w ((bandI .i64 (shrI .i64 (List.getD x0 (Int.toNat a3) 0) 2) 127) + 1)) ≤ ((a4.length : Nat) : Int))) then
                      bif decide (((List.take (Int.toNat (bandI .i64 (shrI .i64 (List.getD x0 (Int.toNat a3) 0) 2) 127)) a4).length + (List.take (a4.length - (Int.toNat (w ((bandI .i64 (shrI .i64 (List.getD x0 (Int.toNat a3) 0) 2) 127) + 1)))) (List.drop (0 + (Int.toNat (w ((bandI .i64 (shrI .i64 (List.getD x0 (Int.toNat a3) 0) 2) 127) + 1)))) a4)).length) * 16 ≤ 140737488355328) && decide (((List.take (Int.toNat (bandI .i64 (shrI .i64 (List.getD x0 (Int.toNat a3) 0) 2) 127)) a4).length + (List.take (a4.length - (Int.toNat (w ((bandI .i64 (shrI .i64 (List.getD x0 (Int.toNat a3) 0) 2) 127) + 1)))) (List.drop (0 + (Int.toNat (w ((bandI .i64 (shrI .i64 (List.getD x0 (Int.toNat a3) 0) 2) 127) + 1)))) a4)).length) ≤ maxLen) then
                        bif decide ((Int.toNat (bandI .i64 (shrI .i64 (List.getD x0 (Int.toNat a3) 0) 2) 127)) + (List.take (a4.length - (Int.toNat (w ((bandI .i64 (shrI .i64 (List.getD x0 (Int.toNat a3) 0) 2) 127) + 1)))) (List.drop (0 + (Int.toNat (w ((bandI .i64 (shrI .i64 (List.getD x0 (Int.toNat a3) 0) 2) 127) + 1)))) a4)).length ≤ a4.length) then
                          bif ((decide (0 ≤ (((Int.toNat (bandI .i64 (shrI .i64 (List.getD x0 (Int.toNat a3) 0) 2) 127)) + (List.take (a4.length - (Int.toNat (w ((bandI .i64 (shrI .i64 (List.getD x0 (Int.toNat a3) 0) 2) 127) + 1)))) (List.drop (0 + (Int.toNat (w ((bandI .i64 (shrI .i64 (List.getD x0 (Int.toNat a3) 0) 2) 127) + 1)))) a4)).length : Nat) : Int))) && (decide ((((Int.toNat (bandI .i64 (shrI .i64 (List.getD x0 (Int.toNat a3) 0) 2) 127)) + (List.take (a4.length - (Int.toNat (w ((bandI .i64 (shrI .i64 (List.getD x0 (Int.toNat a3) 0) 2) 127) + 1)))) (List.drop (0 + (Int.toNat (w ((bandI .i64 (shrI .i64 (List.getD x0 (Int.toNat a3) 0) 2) 127) + 1)))) a4)).length : Nat) : Int) ≤ (a4.length : Int)))) && (decide (0 + (Int.toNat (a4.length : Int)) ≤ ((List.take (Int.toNat (bandI .i64 (shrI .i64 (List.getD x0 (Int.toNat a3) 0) 2) 127)) a4) ++ (List.take (a4.length - (Int.toNat (w ((bandI .i64 (shrI .i64 (List.getD x0 (Int.toNat a3) 0) 2) 127) + 1)))) (List.drop (0 + (Int.toNat (w ((bandI .i64 (shrI .i64 (List.getD x0 (Int.toNat a3) 0) 2) 127) + 1)))) a4)) ++ (List.drop ((Int.toNat (bandI .i64 (shrI .i64 (List.getD x0 (Int.toNat a3) 0) 2) 127)) + (List.take (a4.length - (Int.toNat (w ((bandI .i64 (shrI .i64 (List.getD x0 (Int.toNat a3) 0) 2) 127) + 1)))) (List.drop (0 + (Int.toNat (w ((bandI .i64 (shrI .i64 (List.getD x0 (Int.toNat a3) 0) 2) 127) + 1)))) a4)).length) a4)).length)) then
                            F13.j3 N x0 k2 a3 a5 (bandI .i64 (List.getD x0 (Int.toNat a3) 0) 3) (bandI .i64 (shrI .i64 (List.getD x0 (Int.toNat a3) 0) 2) 127) (decide ((bandI .i64 (shrI .i64 (List.getD x0 (Int.toNat a3) 0) 2) 127) < (a5.length : Int))) (List.getD a4 (Int.toNat (bandI .i64 (shrI .i64 (List.getD x0 (Int.toNat a3) 0) 2) 127)) (⟨#[]⟩ : ByteArray)) 0 (List.take ((Int.toNat (bandI .i64 (shrI .i64 (List.getD x0 (Int.toNat a3) 0) 2) 127)) + (List.take (a4.length - (Int.toNat (w ((bandI .i64 (shrI .i64 (List.getD x0 (Int.toNat a3) 0) 2) 127) + 1)))) (List.drop (0 + (Int.toNat (w ((bandI .i64 (shrI .i64 (List.getD x0 (Int.toNat a3) 0) 2) 127) + 1)))) a4)).length) (fillL ((List.take (Int.toNat (bandI .i64 (shrI .i64 (List.getD x0 (Int.toNat a3) 0) 2) 127)) a4) ++ (List.take (a4.length - (Int.toNat (w ((bandI .i64 (shrI .i64 (List.getD x0 (Int.toNat a3) 0) 2) 127) + 1)))) (List.drop (0 + (Int.toNat (w ((bandI .i64 (shrI .i64 (List.getD x0 (Int.toNat a3) 0) 2) 127) + 1)))) a4)) ++ (List.drop ((Int.toNat (bandI .i64 (shrI .i64 (List.getD x0 (Int.toNat a3) 0) 2) 127)) + (List.take (a4.length - (Int.toNat (w ((bandI .i64 (shrI .i64 (List.getD x0 (Int.toNat a3) 0) 2) 127) + 1)))) (List.drop (0 + (Int.toNat (w ((bandI .i64 (shrI .i64 (List.getD x0 (Int.toNat a3) 0) 2) 127) + 1)))) a4)).length) a4)) (0 + (Int.toNat (((Int.toNat (bandI .i64 (shrI .i64 (List.getD x0 (Int.toNat a3) 0) 2) 127)) + (List.take (a4.length - (Int.toNat (w ((bandI .i64 (shrI .i64 (List.getD x0 (Int.toNat a3) 0) 2) 127) + 1)))) (List.drop (0 + (Int.toNat (w ((bandI .i64 (shrI .i64 (List.getD x0 (Int.toNat a3) 0) 2) 127) + 1)))) a4)).length : Nat) : Int))) ((Int.toNat (a4.length : Int)) - (Int.toNat (((Int.toNat (bandI .i64 (shrI .i64 (List.getD x0 (Int.toNat a3) 0) 2) 127)) + (List.take (a4.length - (Int.toNat (w ((bandI .i64 (shrI .i64 (List.getD x0 (Int.toNat a3) 0) 2) 127) + 1)))) (List.drop (0 + (Int.toNat (w ((bandI .i64 (shrI .i64 (List.getD x0 (Int.toNat a3) 0) 2) 127) + 1)))) a4)).length : Nat) : Int))) (⟨#[]⟩ : ByteArray)))
                          else
                            none
                        else
                          none
                      else
                        none
                    else
                      none
                  else
                    none
                else
                  none
              else
                none
            else
              none
          else
          bif (decide ((bandI .i64 (shrI .i64 (List.getD x0 (Int.toNat a3) 0) 2) 127) < 0)) || (decide ((bandI .i64 (shrI .i64 (List.getD x0 (Int.toNat a3) 0) 2) 127) ≥ (a4.length : Int))) then
            F13.j3 N x0 k2 a3 a5 (bandI .i64 (List.getD x0 (Int.toNat a3) 0) 3) (bandI .i64 (shrI .i64 (List.getD x0 (Int.toNat a3) 0) 2) 127) (decide ((bandI .i64 (shrI .i64 (List.getD x0 (Int.toNat a3) 0) 2) 127) < (a5.length : Int))) (⟨#[]⟩ : ByteArray) 8 a4
          else
          bif (decide (0 ≤ (bandI .i64 (shrI .i64 (List.getD x0 (Int.toNat a3) 0) 2) 127))) && (decide ((bandI .i64 (shrI .i64 (List.getD x0 (Int.toNat a3) 0) 2) 127) < (a4.length : Int))) then
            bif decide ((Int.toNat (bandI .i64 (shrI .i64 (List.getD x0 (Int.toNat a3) 0) 2) 127)) < a4.length) then
              bif (((decide (0 ≤ (bandI .i64 (shrI .i64 (List.getD x0 (Int.toNat a3) 0) 2) 127))) && (decide ((bandI .i64 (shrI .i64 (List.getD x0 (Int.toNat a3) 0) 2) 127) ≤ (w ((bandI .i64 (shrI .i64 (List.getD x0 (Int.toNat a3) 0) 2) 127) + 1))))) && (decide ((w ((bandI .i64 (shrI .i64 (List.getD x0 (Int.toNat a3) 0) 2) 127) + 1)) ≤ (a4.length : Int)))) && (decide ((a4.length : Int) ≤ (a4.length : Int))) then
                bif (bandI .i64 (shrI .i64 (List.getD x0 (Int.toNat a3) 0) 2) 127) == (w ((bandI .i64 (shrI .i64 (List.getD x0 (Int.toNat a3) 0) 2) 127) + 1)) then
                  F13.j3 N x0 k2 a3 a5 (bandI .i64 (List.getD x0 (Int.toNat a3) 0) 3) (bandI .i64 (shrI .i64 (List.getD x0 (Int.toNat a3) 0) 2) 127) (decide ((bandI .i64 (shrI .i64 (List.getD x0 (Int.toNat a3) 0) 2) 127) < (a5.length : Int))) (⟨#[]⟩ : ByteArray) 0 a4
                else
                bif (decide (0 ≤ (bandI .i64 (shrI .i64 (List.getD x0 (Int.toNat a3) 0) 2) 127))) && (decide (0 + (Int.toNat (bandI .i64 (shrI .i64 (List.getD x0 (Int.toNat a3) 0) 2) 127)) ≤ a4.length)) then
                  bif (decide (0 ≤ (w ((bandI .i64 (shrI .i64 (List.getD x0 (Int.toNat a3) 0) 2) 127) + 1)))) && (decide ((w ((bandI .i64 (shrI .i64 (List.getD x0 (Int.toNat a3) 0) 2) 127) + 1)) ≤ ((a4.length : Nat) : Int))) then
                    bif decide (((List.take (Int.toNat (bandI .i64 (shrI .i64 (List.getD x0 (Int.toNat a3) 0) 2) 127)) a4).length + (List.take (a4.length - (Int.toNat (w ((bandI .i64 (shrI .i64 (List.getD x0 (Int.toNat a3) 0) 2) 127) + 1)))) (List.drop (0 + (Int.toNat (w ((bandI .i64 (shrI .i64 (List.getD x0 (Int.toNat a3) 0) 2) 127) + 1)))) a4)).length) * 16 ≤ 140737488355328) && decide (((List.take (Int.toNat (bandI .i64 (shrI .i64 (List.getD x0 (Int.toNat a3) 0) 2) 127)) a4).length + (List.take (a4.length - (Int.toNat (w ((bandI .i64 (shrI .i64 (List.getD x0 (Int.toNat a3) 0) 2) 127) + 1)))) (List.drop (0 + (Int.toNat (w ((bandI .i64 (shrI .i64 (List.getD x0 (Int.toNat a3) 0) 2) 127) + 1)))) a4)).length) ≤ maxLen) then
                      bif decide ((Int.toNat (bandI .i64 (shrI .i64 (List.getD x0 (Int.toNat a3) 0) 2) 127)) + (List.take (a4.length - (Int.toNat (w ((bandI .i64 (shrI .i64 (List.getD x0 (Int.toNat a3) 0) 2) 127) + 1)))) (List.drop (0 + (Int.toNat (w ((bandI .i64 (shrI .i64 (List.getD x0 (Int.toNat a3) 0) 2) 127) + 1)))) a4)).length ≤ a4.length) then
                        bif ((decide (0 ≤ (((Int.toNat (bandI .i64 (shrI .i64 (List.getD x0 (Int.toNat a3) 0) 2) 127)) + (List.take (a4.length - (Int.toNat (w ((bandI .i64 (shrI .i64 (List.getD x0 (Int.toNat a3) 0) 2) 127) + 1)))) (List.drop (0 + (Int.toNat (w ((bandI .i64 (shrI .i64 (List.getD x0 (Int.toNat a3) 0) 2) 127) + 1)))) a4)).length : Nat) : Int))) && (decide ((((Int.toNat (bandI .i64 (shrI .i64 (List.getD x0 (Int.toNat a3) 0) 2) 127)) + (List.take (a4.length - (Int.toNat (w ((bandI .i64 (shrI .i64 (List.getD x0 (Int.toNat a3) 0) 2) 127) + 1)))) (List.drop (0 + (Int.toNat (w ((bandI .i64 (shrI .i64 (List.getD x0 (Int.toNat a3) 0) 2) 127) + 1)))) a4)).length : Nat) : Int) ≤ (a4.length : Int)))) && (decide (0 + (Int.toNat (a4.length : Int)) ≤ ((List.take (Int.toNat (bandI .i64 (shrI .i64 (List.getD x0 (Int.toNat a3) 0) 2) 127)) a4) ++ (List.take (a4.length - (Int.toNat (w ((bandI .i64 (shrI .i64 (List.getD x0 (Int.toNat a3) 0) 2) 127) + 1)))) (List.drop (0 + (Int.toNat (w ((bandI .i64 (shrI .i64 (List.getD x0 (Int.toNat a3) 0) 2) 127) + 1)))) a4)) ++ (List.drop ((Int.toNat (bandI .i64 (shrI .i64 (List.getD x0 (Int.toNat a3) 0) 2) 127)) + (List.take (a4.length - (Int.toNat (w ((bandI .i64 (shrI .i64 (List.getD x0 (Int.toNat a3) 0) 2) 127) + 1)))) (List.drop (0 + (Int.toNat (w ((bandI .i64 (shrI .i64 (List.getD x0 (Int.toNat a3) 0) 2) 127) + 1)))) a4)).length) a4)).length)) then
                          F13.j3 N x0 k2 a3 a5 (bandI .i64 (List.getD x0 (Int.toNat a3) 0) 3) (bandI .i64 (shrI .i64 (List.getD x0 (Int.toNat a3) 0) 2) 127) (decide ((bandI .i64 (shrI .i64 (List.getD x0 (Int.toNat a3) 0) 2) 127) < (a5.length : Int))) (⟨#[]⟩ : ByteArray) 0 (List.take ((Int.toNat (bandI .i64 (shrI .i64 (List.getD x0 (Int.toNat a3) 0) 2) 127)) + (List.take (a4.length - (Int.toNat (w ((bandI .i64 (shrI .i64 (List.getD x0 (Int.toNat a3) 0) 2) 127) + 1)))) (List.drop (0 + (Int.toNat (w ((bandI .i64 (shrI .i64 (List.getD x0 (Int.toNat a3) 0) 2) 127) + 1)))) a4)).length) (fillL ((List.take (Int.toNat (bandI .i64 (shrI .i64 (List.getD x0 (Int.toNat a3) 0) 2) 127)) a4) ++ (List.take (a4.length - (Int.toNat (w ((bandI .i64 (shrI .i64 (List.getD x0 (Int.toNat a3) 0) 2) 127) + 1)))) (List.drop (0 + (Int.toNat (w ((bandI .i64 (shrI .i64 (List.getD x0 (Int.toNat a3) 0) 2) 127) + 1)))) a4)) ++ (List.drop ((Int.toNat (bandI .i64 (shrI .i64 (List.getD x0 (Int.toNat a3) 0) 2) 127)) + (List.take (a4.length - (Int.toNat (w ((bandI .i64 (shrI .i64 (List.getD x0 (Int.toNat a3) 0) 2) 127) + 1)))) (List.drop (0 + (Int.toNat (w ((bandI .i64 (shrI .i64 (List.getD x0 (Int.toNat a3) 0) 2) 127) + 1)))) a4)).length) a4)) (0 + (Int.toNat (((Int.toNat (bandI .i64 (shrI .i64 (List.getD x0 (Int.toNat a3) 0) 2) 127)) + (List.take (a4.length - (Int.toNat (w ((bandI .i64 (shrI .i64 (List.getD x0 (Int.toNat a3) 0) 2) 127) + 1)))) (List.drop (0 + (Int.toNat (w ((bandI .i64 (shrI .i64 (List.getD x0 (Int.toNat a3) 0) 2) 127) + 1)))) a4)).length : Nat) : Int))) ((Int.toNat (a4.length : Int)) - (Int.toNat (((Int.toNat (bandI .i64 (shrI .i64 (List.getD x0 (Int.toNat a3) 0) 2) 127)) + (List.take (a4.length - (Int.toNat (w ((bandI .i64 (shrI .i64 (List.getD x0 (Int.toNat a3) 0) 2) 127) + 1)))) (List.drop (0 + (Int.toNat (w ((bandI .i64 (shrI .i64 (List.getD x0 (Int.toNat a3) 0) 2) 127) + 1)))) a4)).length : Nat) : Int))) (⟨#[]⟩ : ByteArray)))
                        else
                          none
                      else
                        none
                    else
                      none
                  else
                    none
                else
                  none
              else
                none
            else
              none
          else
            none
        else
        bif !(decide ((bandI .i64 (shrI .i64 (List.getD x0 (Int.toNat a3) 0) 2) 127) < (a5.length : Int))) then
          F13.j4 N x0 k2 a3 a4 a5 (bandI .i64 (shrI .i64 (List.getD x0 (Int.toNat a3) 0) 2) 127) 8
        else
        bif (a5.length : Int) == 64 then
          F13.j4 N x0 k2 a3 a4 a5 (bandI .i64 (shrI .i64 (List.getD x0 (Int.toNat a3) 0) 2) 127) 9
        else
          F13.j4 N x0 k2 a3 a4 a5 (bandI .i64 (shrI .i64 (List.getD x0 (Int.toNat a3) 0) 2) 127) 0
      else
        none
    else
      some true := by
  rw [F13.l0_succ]; simp only [taut31, taut56, taut57, taut1, taut58, taut59, taut35, taut2, cond_true]
theorem F13.eq (N : Nat) (x0 : List Int) : F13.fn N x0 =
    (F47.fn N ()).bind fun r1 =>
    bif !r1 then
      some false
    else
    bif decide ((x0.length : Int) > 200) then
      some true
    else
      F13.l0 N x0 N 0 [] [] := by kernel_rfl

end Go.Proofs.Ytalaepaomnfgjaa.Sk
