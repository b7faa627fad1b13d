/- PRINTED by gen.py: what the functions answer. Not trusted: Lean checks it. -/
import Derived.Test.YtalaepaomnfgjaaSkTab
set_option linter.unusedVariables false
set_option linter.unusedSimpArgs false
set_option maxRecDepth 100000
namespace Go.Proofs.Ytalaepaomnfgjaa.Sk
open Go
def tyTab : TypeId → Option Ty := tyOf [(3, .int .i64), (9, .str), (64, .pair (.pair (.int .i64) (.int .i64)) (.int .i64)), (89, .pair (.int .i64) (.str))]
theorem mixed : Try.prog.follows .mixedOrders = true := by kernel_rfl
/-! ### F67: skyway/skywaylaw3.caps -/
def F67.kp : List (Nat × List (Nat × Option (TypeId × Ty))) := []
noncomputable def F67.G (N : Nat) : List (Nat × Spec) := []
noncomputable def F67.E (N : Nat) : Env := mkEnv (F67.G N) N tyTab F67.kp
noncomputable def F67.fn (N : Nat) (x : Unit) : Option (List ((Int × Int) × Int)) := evFn (F67.E N) Try.prog 3 Try.f67 false [] [.own 64 (.pair (.pair (.int .i64) (.int .i64)) (.int .i64))] x
noncomputable def F67.S (N : Nat) : PSpec := ⟨false, [], [.own 64 (.pair (.pair (.int .i64) (.int .i64)) (.int .i64))], F67.fn N⟩
theorem f67_enters : Enters Try.prog 67 := ⟨Try.f67, Try.func67, by kernel_rfl, by kernel_rfl⟩
theorem F67.tab (N : Nat) : TabOk Try.prog (F67.G N) := trivial
theorem F67.enters : Enters Try.prog 67 := f67_enters
theorem F67.sound (N : Nat) : Sound Try.prog 67 (F67.S N) := evFn_sound (specs_tab (F67.tab N)) (inls_tab (F67.tab N)) mixed 3 Try.func67 _ _ _
theorem F67.eq (N : Nat) : F67.fn N () =
    some [((0, 10), 1), ((10, 20), 1)] := by kernel_rfl

/-! ### F37: skyway/flow.Check -/
def F37.kp : List (Nat × List (Nat × Option (TypeId × Ty))) := [(4, [(0, none), (8, none), (9, none), (10, none)])]
noncomputable def F37.G (N : Nat) : List (Nat × Spec) := []
noncomputable def F37.E (N : Nat) : Env := mkEnv (F37.G N) N tyTab F37.kp
noncomputable def F37.fn (N : Nat) (x : List ((Int × Int) × Int)) : Option Int := evFn (F37.E N) Try.prog 3 Try.f37 false [.cell (.sl 64 (.pair (.pair (.int .i64) (.int .i64)) (.int .i64)))] [.val (.cell (.int .i64))] x
noncomputable def F37.S (N : Nat) : PSpec := ⟨false, [.cell (.sl 64 (.pair (.pair (.int .i64) (.int .i64)) (.int .i64)))], [.val (.cell (.int .i64))], F37.fn N⟩
theorem f37_enters : Enters Try.prog 37 := ⟨Try.f37, Try.func37, by kernel_rfl, by kernel_rfl⟩
theorem F37.tab (N : Nat) : TabOk Try.prog (F37.G N) := trivial
theorem F37.enters : Enters Try.prog 37 := f37_enters
theorem F37.sound (N : Nat) : Sound Try.prog 37 (F37.S N) := evFn_sound (specs_tab (F37.tab N)) (inls_tab (F37.tab N)) mixed 3 Try.func37 _ _ _
noncomputable def F37.cd (N : Nat) (p : List Nat) : St → (Ex → St → Option Int) → Option Int := ev (F37.E N) Try.prog (callD (F37.E N) Try.prog 3) 0 (codeAt (bodyOf Try.f37) p)
noncomputable def F37.fin : Ex → St → Option Int := endK Try.prog Try.f37 [.val (.cell (.int .i64))]
noncomputable def F37.l0 (N : Nat) (x0 : List ((Int × Int) × Int)) (k1 : Nat) (a2 : Int) : Option Int :=
  loopN (norm ((F37.E N).keep 4) 0) (F37.cd N [1, 1, 0, 1, 0, 0]) k1
  ⟨[.ros false 64 (.pair (.pair (.int .i64) (.int .i64)) (.int .i64)) x0, .any, .any, .any, .any, .any, .any, .any, .ros false 64 (.pair (.pair (.int .i64) (.int .i64)) (.int .i64)) x0, .sc (.int .i64 (x0.length : Int)), .sc (.int .i64 a2), .any, .any, .any, .any, .any, .any, .any, .any, .any, .any, .any, .any, .any, .any, .any, .any, .any, .any, .any, .any, .any, .any, .any, .any, .any, .any, .any, .any, .any, .any, .any, .any, .any, .any, .any, .any, .any, .any, .any, .any, .any, .any, .any, .any, .any, .any, .any], []⟩
  (blockK 0 (seqK (F37.cd N [1, 1, 1]) F37.fin))
theorem F37.l0_zero (N : Nat) (x0 : List ((Int × Int) × Int)) (a2 : Int) : F37.l0 N x0 0 a2 = none := by kernel_rfl
theorem F37.l0_succ (N : Nat) (x0 : List ((Int × Int) × Int)) (k1 : Nat) (a2 : Int) : F37.l0 N x0 (k1 + 1) a2 =
    bif decide (a2 < (x0.length : Int)) then
      bif (decide (0 ≤ a2)) && (decide (a2 < (x0.length : Int))) then
        bif !(!(decide ((((List.getD x0 (Int.toNat a2) ((0, 0), 0)).1).1) < 0))) || (!(decide ((((List.getD x0 (Int.toNat a2) ((0, 0), 0)).1).1) < 0))) then
          bif !(!(decide ((((List.getD x0 (Int.toNat a2) ((0, 0), 0)).1).1) < 0))) || (!(decide ((((List.getD x0 (Int.toNat a2) ((0, 0), 0)).1).1) < 0))) then
            bif !(!(decide ((((List.getD x0 (Int.toNat a2) ((0, 0), 0)).1).1) < 0))) || (!(decide ((((List.getD x0 (Int.toNat a2) ((0, 0), 0)).1).1) < 0))) then
              bif (decide ((((List.getD x0 (Int.toNat a2) ((0, 0), 0)).1).1) < 0)) || (!(decide ((((List.getD x0 (Int.toNat a2) ((0, 0), 0)).1).1) < 0))) then
                bif !(!((decide ((((List.getD x0 (Int.toNat a2) ((0, 0), 0)).1).1) < 0)) || (decide ((((List.getD x0 (Int.toNat a2) ((0, 0), 0)).1).2) > 200000)))) || (!((decide ((((List.getD x0 (Int.toNat a2) ((0, 0), 0)).1).1) < 0)) || (decide ((((List.getD x0 (Int.toNat a2) ((0, 0), 0)).1).2) > 200000)))) then
                  bif !(!((decide ((((List.getD x0 (Int.toNat a2) ((0, 0), 0)).1).1) < 0)) || (decide ((((List.getD x0 (Int.toNat a2) ((0, 0), 0)).1).2) > 200000)))) || (!((decide ((((List.getD x0 (Int.toNat a2) ((0, 0), 0)).1).1) < 0)) || (decide ((((List.getD x0 (Int.toNat a2) ((0, 0), 0)).1).2) > 200000)))) then
                    bif !(!((decide ((((List.getD x0 (Int.toNat a2) ((0, 0), 0)).1).1) < 0)) || (decide ((((List.getD x0 (Int.toNat a2) ((0, 0), 0)).1).2) > 200000)))) || (!((decide ((((List.getD x0 (Int.toNat a2) ((0, 0), 0)).1).1) < 0)) || (decide ((((List.getD x0 (Int.toNat a2) ((0, 0), 0)).1).2) > 200000)))) then
                      bif !(!((decide ((((List.getD x0 (Int.toNat a2) ((0, 0), 0)).1).1) < 0)) || (decide ((((List.getD x0 (Int.toNat a2) ((0, 0), 0)).1).2) > 200000)))) || (!((decide ((((List.getD x0 (Int.toNat a2) ((0, 0), 0)).1).1) < 0)) || (decide ((((List.getD x0 (Int.toNat a2) ((0, 0), 0)).1).2) > 200000)))) then
                        bif !(!((decide ((((List.getD x0 (Int.toNat a2) ((0, 0), 0)).1).1) < 0)) || (decide ((((List.getD x0 (Int.toNat a2) ((0, 0), 0)).1).2) > 200000)))) || (!((decide ((((List.getD x0 (Int.toNat a2) ((0, 0), 0)).1).1) < 0)) || (decide ((((List.getD x0 (Int.toNat a2) ((0, 0), 0)).1).2) > 200000)))) then
                          bif !(!((decide ((((List.getD x0 (Int.toNat a2) ((0, 0), 0)).1).1) < 0)) || (decide ((((List.getD x0 (Int.toNat a2) ((0, 0), 0)).1).2) > 200000)))) || (!((decide ((((List.getD x0 (Int.toNat a2) ((0, 0), 0)).1).1) < 0)) || (decide ((((List.getD x0 (Int.toNat a2) ((0, 0), 0)).1).2) > 200000)))) then
                            bif ((decide ((((List.getD x0 (Int.toNat a2) ((0, 0), 0)).1).1) < 0)) || (decide ((((List.getD x0 (Int.toNat a2) ((0, 0), 0)).1).2) > 200000))) || (!((decide ((((List.getD x0 (Int.toNat a2) ((0, 0), 0)).1).1) < 0)) || (decide ((((List.getD x0 (Int.toNat a2) ((0, 0), 0)).1).2) > 200000)))) then
                              bif ((decide ((((List.getD x0 (Int.toNat a2) ((0, 0), 0)).1).1) < 0)) || (decide ((((List.getD x0 (Int.toNat a2) ((0, 0), 0)).1).2) > 200000))) || (decide ((((List.getD x0 (Int.toNat a2) ((0, 0), 0)).1).1) ≥ (((List.getD x0 (Int.toNat a2) ((0, 0), 0)).1).2))) then
                                some 4
                              else
                              bif !(!(decide (((List.getD x0 (Int.toNat a2) ((0, 0), 0)).2) < 0))) || (!(decide (((List.getD x0 (Int.toNat a2) ((0, 0), 0)).2) < 0))) then
                                bif !(!(decide (((List.getD x0 (Int.toNat a2) ((0, 0), 0)).2) < 0))) || (!(decide (((List.getD x0 (Int.toNat a2) ((0, 0), 0)).2) < 0))) then
                                  bif (decide (((List.getD x0 (Int.toNat a2) ((0, 0), 0)).2) < 0)) || (!(decide (((List.getD x0 (Int.toNat a2) ((0, 0), 0)).2) < 0))) then
                                    bif (decide (((List.getD x0 (Int.toNat a2) ((0, 0), 0)).2) < 0)) || (decide (((List.getD x0 (Int.toNat a2) ((0, 0), 0)).2) > 24)) then
                                      some 4
                                    else
                                    bif !(decide (a2 > 0)) || (decide (a2 > 0)) then
                                      bif !(decide (a2 > 0)) || (decide (a2 > 0)) then
                                        bif !(decide (a2 > 0)) || (decide (a2 > 0)) then
                                          bif !(decide (a2 > 0)) || (decide (a2 > 0)) then
                                            bif !(decide (a2 > 0)) || (decide (a2 > 0)) then
                                              bif ((decide (0 ≤ (w (a2 - 1)))) && (decide ((w (a2 - 1)) < (x0.length : Int)))) || !(decide (a2 > 0)) then
                                                bif !(decide (a2 > 0)) || (decide (a2 > 0)) then
                                                  bif !(decide (a2 > 0)) || (decide (a2 > 0)) then
                                                    bif !(decide (a2 > 0)) || (decide (a2 > 0)) then
                                                      bif !(decide (a2 > 0)) || (decide (a2 > 0)) then
                                                        bif !(decide (a2 > 0)) || (decide (a2 > 0)) then
                                                          bif (!(decide (a2 > 0))) || (decide (a2 > 0)) then
                                                            bif (decide (a2 > 0)) && (decide ((((List.getD x0 (Int.toNat a2) ((0, 0), 0)).1).1) < (((List.getD x0 (Int.toNat (w (a2 - 1))) ((0, 0), 0)).1).2))) then
                                                              some 12
                                                            else
                                                              F37.l0 N x0 k1 (w (a2 + 1))
                                                          else
                                                            none
                                                        else
                                                          none
                                                      else
                                                        none
                                                    else
                                                      none
                                                  else
                                                    none
                                                else
                                                  none
                                              else
                                                none
                                            else
                                              none
                                          else
                                            none
                                        else
                                          none
                                      else
                                        none
                                    else
                                      none
                                  else
                                    none
                                else
                                  none
                              else
                                none
                            else
                              none
                          else
                            none
                        else
                          none
                      else
                        none
                    else
                      none
                  else
                    none
                else
                  none
              else
                none
            else
              none
          else
            none
        else
          none
      else
        none
    else
      some 0 := by kernel_rfl
theorem taut1 : ∀ p0 p1 : Bool, ((!(!((p0) || (p1))) || (!((p0) || (p1))))) = true := by decide
theorem taut2 : ∀ p0 : Bool, ((!(!(p0)) || (!(p0)))) = true := by decide
theorem taut3 : ∀ p0 : Bool, ((!(p0) || (p0))) = true := by decide
theorem taut4 : ∀ p0 : Bool, (((!(p0)) || (p0))) = true := by decide
theorem taut5 : ∀ p0 p1 : Bool, ((((p0) || (p1)) || (!((p0) || (p1))))) = true := by decide
theorem taut6 : ∀ p0 : Bool, (((p0) || (!(p0)))) = true := by decide
theorem F37.l0_clean (N : Nat) (x0 : List ((Int × Int) × Int)) (k1 : Nat) (a2 : Int) : F37.l0 N x0 (k1 + 1) a2 =
    bif decide (a2 < (x0.length : Int)) then
      bif (decide (0 ≤ a2)) && (decide (a2 < (x0.length : Int))) then
        bif ((decide ((((List.getD x0 (Int.toNat a2) ((0, 0), 0)).1).1) < 0)) || (decide ((((List.getD x0 (Int.toNat a2) ((0, 0), 0)).1).2) > 200000))) || (decide ((((List.getD x0 (Int.toNat a2) ((0, 0), 0)).1).1) ≥ (((List.getD x0 (Int.toNat a2) ((0, 0), 0)).1).2))) then
          some 4
        else
        bif (decide (((List.getD x0 (Int.toNat a2) ((0, 0), 0)).2) < 0)) || (decide (((List.getD x0 (Int.toNat a2) ((0, 0), 0)).2) > 24)) then
          some 4
        else
        bif ((decide (0 ≤ (w (a2 - 1)))) && (decide ((w (a2 - 1)) < (x0.length : Int)))) || !(decide (a2 > 0)) then
          bif (decide (a2 > 0)) && (decide ((((List.getD x0 (Int.toNat a2) ((0, 0), 0)).1).1) < (((List.getD x0 (Int.toNat (w (a2 - 1))) ((0, 0), 0)).1).2))) then
            some 12
          else
            F37.l0 N x0 k1 (w (a2 + 1))
        else
          none
      else
        none
    else
      some 0 := by
  rw [F37.l0_succ]; simp only [taut1, taut2, taut3, taut4, taut5, taut6, cond_true]
theorem F37.eq (N : Nat) (x0 : List ((Int × Int) × Int)) : F37.fn N x0 =
    bif decide ((x0.length : Int) > 256) then
      some 2
    else
      F37.l0 N x0 N 0 := by kernel_rfl

/-! ### F68: skyway/flow.within -/
def F68.kp : List (Nat × List (Nat × Option (TypeId × Ty))) := [(2, [(1, none), (7, none), (8, none), (9, none)])]
noncomputable def F68.G (N : Nat) : List (Nat × Spec) := []
noncomputable def F68.E (N : Nat) : Env := mkEnv (F68.G N) N tyTab F68.kp
noncomputable def F68.fn (N : Nat) (x : List ((Int × Int) × Int) × Int) : Option Int := evFn (F68.E N) Try.prog 3 Try.f68 false [.cell (.sl 64 (.pair (.pair (.int .i64) (.int .i64)) (.int .i64))), .cell (.int .i64)] [.val (.cell (.int .i64))] x
noncomputable def F68.S (N : Nat) : PSpec := ⟨false, [.cell (.sl 64 (.pair (.pair (.int .i64) (.int .i64)) (.int .i64))), .cell (.int .i64)], [.val (.cell (.int .i64))], F68.fn N⟩
theorem f68_enters : Enters Try.prog 68 := ⟨Try.f68, Try.func68, by kernel_rfl, by kernel_rfl⟩
theorem F68.tab (N : Nat) : TabOk Try.prog (F68.G N) := trivial
theorem F68.enters : Enters Try.prog 68 := f68_enters
theorem F68.sound (N : Nat) : Sound Try.prog 68 (F68.S N) := evFn_sound (specs_tab (F68.tab N)) (inls_tab (F68.tab N)) mixed 3 Try.func68 _ _ _
noncomputable def F68.cd (N : Nat) (p : List Nat) : St → (Ex → St → Option Int) → Option Int := ev (F68.E N) Try.prog (callD (F68.E N) Try.prog 3) 0 (codeAt (bodyOf Try.f68) p)
noncomputable def F68.fin : Ex → St → Option Int := endK Try.prog Try.f68 [.val (.cell (.int .i64))]
noncomputable def F68.l0 (N : Nat) (x0 : List ((Int × Int) × Int)) (x1 : Int) (k1 : Nat) (a2 : Int) : Option Int :=
  loopN (norm ((F68.E N).keep 2) 0) (F68.cd N [1, 0, 1, 0, 0]) k1
  ⟨[.any, .sc (.int .i64 x1), .any, .any, .any, .any, .any, .ros false 64 (.pair (.pair (.int .i64) (.int .i64)) (.int .i64)) x0, .sc (.int .i64 (x0.length : Int)), .sc (.int .i64 a2), .any, .any, .any, .any, .any, .any, .any, .any, .any, .any, .any, .any, .any, .any, .any, .any, .any, .any], []⟩
  (blockK 0 (seqK (F68.cd N [1, 1]) F68.fin))
theorem F68.l0_zero (N : Nat) (x0 : List ((Int × Int) × Int)) (x1 : Int) (a2 : Int) : F68.l0 N x0 x1 0 a2 = none := by kernel_rfl
theorem F68.l0_succ (N : Nat) (x0 : List ((Int × Int) × Int)) (x1 : Int) (k1 : Nat) (a2 : Int) : F68.l0 N x0 x1 (k1 + 1) a2 =
    bif decide (a2 < (x0.length : Int)) then
      bif (decide (0 ≤ a2)) && (decide (a2 < (x0.length : Int))) then
        bif !(decide (x1 ≥ (((List.getD x0 (Int.toNat a2) ((0, 0), 0)).1).1))) || (decide (x1 ≥ (((List.getD x0 (Int.toNat a2) ((0, 0), 0)).1).1))) then
          bif !(decide (x1 ≥ (((List.getD x0 (Int.toNat a2) ((0, 0), 0)).1).1))) || (decide (x1 ≥ (((List.getD x0 (Int.toNat a2) ((0, 0), 0)).1).1))) then
            bif !(decide (x1 ≥ (((List.getD x0 (Int.toNat a2) ((0, 0), 0)).1).1))) || (decide (x1 ≥ (((List.getD x0 (Int.toNat a2) ((0, 0), 0)).1).1))) then
              bif !(decide (x1 ≥ (((List.getD x0 (Int.toNat a2) ((0, 0), 0)).1).1))) || (decide (x1 ≥ (((List.getD x0 (Int.toNat a2) ((0, 0), 0)).1).1))) then
                bif (!(decide (x1 ≥ (((List.getD x0 (Int.toNat a2) ((0, 0), 0)).1).1)))) || (decide (x1 ≥ (((List.getD x0 (Int.toNat a2) ((0, 0), 0)).1).1))) then
                  bif (decide (x1 ≥ (((List.getD x0 (Int.toNat a2) ((0, 0), 0)).1).1))) && (decide (x1 < (((List.getD x0 (Int.toNat a2) ((0, 0), 0)).1).2))) then
                    some a2
                  else
                    F68.l0 N x0 x1 k1 (w (a2 + 1))
                else
                  none
              else
                none
            else
              none
          else
            none
        else
          none
      else
        none
    else
      some (-1) := by kernel_rfl
theorem F68.l0_clean (N : Nat) (x0 : List ((Int × Int) × Int)) (x1 : Int) (k1 : Nat) (a2 : Int) : F68.l0 N x0 x1 (k1 + 1) a2 =
    bif decide (a2 < (x0.length : Int)) then
      bif (decide (0 ≤ a2)) && (decide (a2 < (x0.length : Int))) then
        bif (decide (x1 ≥ (((List.getD x0 (Int.toNat a2) ((0, 0), 0)).1).1))) && (decide (x1 < (((List.getD x0 (Int.toNat a2) ((0, 0), 0)).1).2))) then
          some a2
        else
          F68.l0 N x0 x1 k1 (w (a2 + 1))
      else
        none
    else
      some (-1) := by
  rw [F68.l0_succ]; simp only [taut3, taut4, cond_true]
theorem F68.eq (N : Nat) (x0 : List ((Int × Int) × Int)) (x1 : Int) : F68.fn N (x0, x1) =
    F68.l0 N x0 x1 N 0 := by kernel_rfl

/-! ### F33: skyway/flow.At -/
def F33.kp : List (Nat × List (Nat × Option (TypeId × Ty))) := []
noncomputable def F33.G (N : Nat) : List (Nat × Spec) := [(37, .pure (F37.S N)), (68, .pure (F68.S N))]
noncomputable def F33.E (N : Nat) : Env := mkEnv (F33.G N) N tyTab F33.kp
noncomputable def F33.fn (N : Nat) (x : List ((Int × Int) × Int) × Int) : Option (Int × Int) := evFn (F33.E N) Try.prog 3 Try.f33 false [.cell (.sl 64 (.pair (.pair (.int .i64) (.int .i64)) (.int .i64))), .cell (.int .i64)] [.val (.cell (.int .i64)), .val (.cell (.int .i64))] x
noncomputable def F33.S (N : Nat) : PSpec := ⟨false, [.cell (.sl 64 (.pair (.pair (.int .i64) (.int .i64)) (.int .i64))), .cell (.int .i64)], [.val (.cell (.int .i64)), .val (.cell (.int .i64))], F33.fn N⟩
theorem f33_enters : Enters Try.prog 33 := ⟨Try.f33, Try.func33, by kernel_rfl, by kernel_rfl⟩
theorem F33.tab (N : Nat) : TabOk Try.prog (F33.G N) := ⟨⟨F37.enters, F37.sound N⟩, ⟨F68.enters, F68.sound N⟩, trivial⟩
theorem F33.enters : Enters Try.prog 33 := f33_enters
theorem F33.sound (N : Nat) : Sound Try.prog 33 (F33.S N) := evFn_sound (specs_tab (F33.tab N)) (inls_tab (F33.tab N)) mixed 3 Try.func33 _ _ _
theorem F33.eq (N : Nat) (x0 : List ((Int × Int) × Int)) (x1 : Int) : F33.fn N (x0, x1) =
    (F37.fn N x0).bind fun r1 =>
    bif !(r1 == 0) then
      some (0, r1)
    else
      (F68.fn N (x0, x1)).bind fun r2 =>
      bif decide (r2 ≥ 0) then
        some (r2, 0)
      else
        some (0, 8) := by kernel_rfl

/-! ### F69: skyway/flow.times -/
def F69.kp : List (Nat × List (Nat × Option (TypeId × Ty))) := [(4, [(8, none), (9, none), (10, none)])]
noncomputable def F69.G (N : Nat) : List (Nat × Spec) := []
noncomputable def F69.E (N : Nat) : Env := mkEnv (F69.G N) N tyTab F69.kp
noncomputable def F69.fn (N : Nat) (x : List Int) : Option Int := evFn (F69.E N) Try.prog 3 Try.f69 false [.cell (.sl 3 (.int .i64))] [.val (.cell (.int .i64))] x
noncomputable def F69.S (N : Nat) : PSpec := ⟨false, [.cell (.sl 3 (.int .i64))], [.val (.cell (.int .i64))], F69.fn N⟩
theorem f69_enters : Enters Try.prog 69 := ⟨Try.f69, Try.func69, by kernel_rfl, by kernel_rfl⟩
theorem F69.tab (N : Nat) : TabOk Try.prog (F69.G N) := trivial
theorem F69.enters : Enters Try.prog 69 := f69_enters
theorem F69.sound (N : Nat) : Sound Try.prog 69 (F69.S N) := evFn_sound (specs_tab (F69.tab N)) (inls_tab (F69.tab N)) mixed 3 Try.func69 _ _ _
noncomputable def F69.cd (N : Nat) (p : List Nat) : St → (Ex → St → Option Int) → Option Int := ev (F69.E N) Try.prog (callD (F69.E N) Try.prog 3) 0 (codeAt (bodyOf Try.f69) p)
noncomputable def F69.fin : Ex → St → Option Int := endK Try.prog Try.f69 [.val (.cell (.int .i64))]
noncomputable def F69.l0 (N : Nat) (x0 : List Int) (k1 : Nat) (a2 : Int) : Option Int :=
  loopN (norm ((F69.E N).keep 4) 0) (F69.cd N [1, 1, 0, 1, 0, 0]) k1
  ⟨[.any, .any, .any, .any, .any, .any, .any, .any, .ros false 3 (.int .i64) x0, .sc (.int .i64 (x0.length : Int)), .sc (.int .i64 a2), .any, .any, .any, .any, .any, .any, .any, .any, .any, .any], []⟩
  (blockK 0 (seqK (F69.cd N [1, 1, 1]) F69.fin))
theorem F69.l0_zero (N : Nat) (x0 : List Int) (a2 : Int) : F69.l0 N x0 0 a2 = none := by kernel_rfl
theorem F69.l0_succ (N : Nat) (x0 : List Int) (k1 : Nat) (a2 : Int) : F69.l0 N x0 (k1 + 1) a2 =
    bif decide (a2 < (x0.length : Int)) then
      bif (decide (0 ≤ a2)) && (decide (a2 < (x0.length : Int))) then
        bif !(!(decide ((List.getD x0 (Int.toNat a2) 0) < 0))) || (!(decide ((List.getD x0 (Int.toNat a2) 0) < 0))) then
          bif (decide ((List.getD x0 (Int.toNat a2) 0) < 0)) || (!(decide ((List.getD x0 (Int.toNat a2) 0) < 0))) then
            bif (decide ((List.getD x0 (Int.toNat a2) 0) < 0)) || (decide ((List.getD x0 (Int.toNat a2) 0) > 200000)) then
              some 12
            else
              F69.l0 N x0 k1 (w (a2 + 1))
          else
            none
        else
          none
      else
        none
    else
      some 0 := by kernel_rfl
theorem F69.l0_clean (N : Nat) (x0 : List Int) (k1 : Nat) (a2 : Int) : F69.l0 N x0 (k1 + 1) a2 =
    bif decide (a2 < (x0.length : Int)) then
      bif (decide (0 ≤ a2)) && (decide (a2 < (x0.length : Int))) then
        bif (decide ((List.getD x0 (Int.toNat a2) 0) < 0)) || (decide ((List.getD x0 (Int.toNat a2) 0) > 200000)) then
          some 12
        else
          F69.l0 N x0 k1 (w (a2 + 1))
      else
        none
    else
      some 0 := by
  rw [F69.l0_succ]; simp only [taut2, taut6, cond_true]
theorem F69.eq (N : Nat) (x0 : List Int) : F69.fn N x0 =
    bif decide ((x0.length : Int) > 256) then
      some 2
    else
      F69.l0 N x0 N 0 := by kernel_rfl

/-! ### F41: skyway/flow.Demand -/
def F41.kp : List (Nat × List (Nat × Option (TypeId × Ty))) := [(10, [(0, none), (9, none), (10, none), (27, none), (28, none), (29, none)])]
noncomputable def F41.G (N : Nat) : List (Nat × Spec) := [(37, .pure (F37.S N)), (68, .pure (F68.S N)), (69, .pure (F69.S N))]
noncomputable def F41.E (N : Nat) : Env := mkEnv (F41.G N) N tyTab F41.kp
noncomputable def F41.fn (N : Nat) (x : List ((Int × Int) × Int) × List Int) : Option (List Int × Int × Int) := evFn (F41.E N) Try.prog 3 Try.f41 false [.cell (.sl 64 (.pair (.pair (.int .i64) (.int .i64)) (.int .i64))), .cell (.sl 3 (.int .i64))] [.own 3 (.int .i64), .val (.cell (.int .i64)), .val (.cell (.int .i64))] x
noncomputable def F41.S (N : Nat) : PSpec := ⟨false, [.cell (.sl 64 (.pair (.pair (.int .i64) (.int .i64)) (.int .i64))), .cell (.sl 3 (.int .i64))], [.own 3 (.int .i64), .val (.cell (.int .i64)), .val (.cell (.int .i64))], F41.fn N⟩
theorem f41_enters : Enters Try.prog 41 := ⟨Try.f41, Try.func41, by kernel_rfl, by kernel_rfl⟩
theorem F41.tab (N : Nat) : TabOk Try.prog (F41.G N) := ⟨⟨F37.enters, F37.sound N⟩, ⟨F68.enters, F68.sound N⟩, ⟨F69.enters, F69.sound N⟩, trivial⟩
theorem F41.enters : Enters Try.prog 41 := f41_enters
theorem F41.sound (N : Nat) : Sound Try.prog 41 (F41.S N) := evFn_sound (specs_tab (F41.tab N)) (inls_tab (F41.tab N)) mixed 3 Try.func41 _ _ _
noncomputable def F41.cd (N : Nat) (p : List Nat) : St → (Ex → St → Option (List Int × Int × Int)) → Option (List Int × Int × Int) := ev (F41.E N) Try.prog (callD (F41.E N) Try.prog 3) 0 (codeAt (bodyOf Try.f41) p)
noncomputable def F41.fin : Ex → St → Option (List Int × Int × Int) := endK Try.prog Try.f41 [.own 3 (.int .i64), .val (.cell (.int .i64)), .val (.cell (.int .i64))]
noncomputable def F41.l0 (N : Nat) (x0 : List ((Int × Int) × Int)) (x1 : List Int) (k3 : Nat) (a4 : Int) (a5 : Int) (a6 : List Int) : Option (List Int × Int × Int) :=
  loopN (norm ((F41.E N).keep 10) 0) (F41.cd N [1, 1, 1, 1, 1, 0, 1, 0, 0]) k3
  ⟨[.ros false 64 (.pair (.pair (.int .i64) (.int .i64)) (.int .i64)) x0, .any, .any, .any, .any, .any, .any, .any, .any, .own 0, .sc (.int .i64 a4), .any, .any, .any, .any, .any, .any, .any, .any, .any, .any, .any, .any, .any, .any, .any, .any, .ros false 3 (.int .i64) x1, .sc (.int .i64 (x1.length : Int)), .sc (.int .i64 a5), .any, .any, .any, .any, .any, .any, .any, .any, .any, .any, .any, .any, .any, .any, .any, .any, .any, .any, .any], [.rows true 3 (.int .i64) a6]⟩
  (blockK 0 (seqK (F41.cd N [1, 1, 1, 1, 1, 1]) F41.fin))
theorem F41.l0_zero (N : Nat) (x0 : List ((Int × Int) × Int)) (x1 : List Int) (a4 : Int) (a5 : Int) (a6 : List Int) : F41.l0 N x0 x1 0 a4 a5 a6 = none := by kernel_rfl
theorem F41.l0_succ (N : Nat) (x0 : List ((Int × Int) × Int)) (x1 : List Int) (k3 : Nat) (a4 : Int) (a5 : Int) (a6 : List Int) : F41.l0 N x0 x1 (k3 + 1) a4 a5 a6 =
    bif decide (a5 < (x1.length : Int)) then
      bif (decide (0 ≤ a5)) && (decide (a5 < (x1.length : Int))) then
        (F68.fn N (x0, (List.getD x1 (Int.toNat a5) 0))).bind fun r7 =>
        bif decide (r7 ≥ 0) then
          bif (decide (0 ≤ r7)) && (decide (r7 < (a6.length : Int))) then
            bif decide ((Int.toNat r7) < a6.length) then
              bif (decide (0 ≤ r7)) && (decide (r7 < (a6.length : Int))) then
                bif decide ((Int.toNat r7) < a6.length) then
                  F41.l0 N x0 x1 k3 a4 (w (a5 + 1)) (List.set a6 (Int.toNat r7) (w ((List.getD a6 (Int.toNat r7) 0) + 1)))
                else
                  none
              else
                none
            else
              none
          else
            none
        else
          F41.l0 N x0 x1 k3 (w (a4 + 1)) (w (a5 + 1)) a6
      else
        none
    else
      some (a6, a4, 0) := by kernel_rfl
theorem F41.eq (N : Nat) (x0 : List ((Int × Int) × Int)) (x1 : List Int) : F41.fn N (x0, x1) =
    (F37.fn N x0).bind fun r1 =>
    bif !(r1 == 0) then
      some ([], 0, r1)
    else
      (F69.fn N x1).bind fun r2 =>
      bif !(r2 == 0) then
        some ([], 0, r2)
      else
      bif (((decide (0 ≤ (x0.length : Int))) && ((x0.length : Int) == (x0.length : Int))) && (decide ((x0.length : Int) ≤ 9223372036854775807))) && (decide (((x0.length : Int) * 8) ≤ 140737488355328)) then
        F41.l0 N x0 x1 N 0 0 (List.replicate (Int.toNat (x0.length : Int)) 0)
      else
        none := by kernel_rfl

/-! ### F42: skyway/flow.Over -/
def F42.kp : List (Nat × List (Nat × Option (TypeId × Ty))) := [(6, [(6, none), (9, some (3, .int .i64)), (22, none), (23, none), (24, none)])]
noncomputable def F42.G (N : Nat) : List (Nat × Spec) := [(41, .pure (F41.S N))]
noncomputable def F42.E (N : Nat) : Env := mkEnv (F42.G N) N tyTab F42.kp
noncomputable def F42.fn (N : Nat) (x : List ((Int × Int) × Int) × List Int) : Option (List Int × Int) := evFn (F42.E N) Try.prog 3 Try.f42 false [.cell (.sl 64 (.pair (.pair (.int .i64) (.int .i64)) (.int .i64))), .cell (.sl 3 (.int .i64))] [.own 3 (.int .i64), .val (.cell (.int .i64))] x
noncomputable def F42.S (N : Nat) : PSpec := ⟨false, [.cell (.sl 64 (.pair (.pair (.int .i64) (.int .i64)) (.int .i64))), .cell (.sl 3 (.int .i64))], [.own 3 (.int .i64), .val (.cell (.int .i64))], F42.fn N⟩
theorem f42_enters : Enters Try.prog 42 := ⟨Try.f42, Try.func42, by kernel_rfl, by kernel_rfl⟩
theorem F42.tab (N : Nat) : TabOk Try.prog (F42.G N) := ⟨⟨F41.enters, F41.sound N⟩, trivial⟩
theorem F42.enters : Enters Try.prog 42 := f42_enters
theorem F42.sound (N : Nat) : Sound Try.prog 42 (F42.S N) := evFn_sound (specs_tab (F42.tab N)) (inls_tab (F42.tab N)) mixed 3 Try.func42 _ _ _
noncomputable def F42.cd (N : Nat) (p : List Nat) : St → (Ex → St → Option (List Int × Int)) → Option (List Int × Int) := ev (F42.E N) Try.prog (callD (F42.E N) Try.prog 3) 0 (codeAt (bodyOf Try.f42) p)
noncomputable def F42.fin : Ex → St → Option (List Int × Int) := endK Try.prog Try.f42 [.own 3 (.int .i64), .val (.cell (.int .i64))]
noncomputable def F42.l0 (N : Nat) (x0 : List ((Int × Int) × Int)) (r1 : List Int × Int × Int) (k2 : Nat) (a3 : Int) (a4 : List Int) : Option (List Int × Int) :=
  loopN (norm ((F42.E N).keep 6) 0) (F42.cd N [1, 1, 1, 1, 0, 1, 0, 0]) k2
  ⟨[.any, .any, .any, .any, .any, .any, .own 0, .any, .any, .own 1, .any, .any, .any, .any, .any, .any, .any, .any, .any, .any, .any, .any, .ros false 64 (.pair (.pair (.int .i64) (.int .i64)) (.int .i64)) x0, .sc (.int .i64 (x0.length : Int)), .sc (.int .i64 a3), .any, .any, .any, .any, .any, .any, .any, .any, .any, .any, .any, .any, .any, .any, .any, .any, .any], [.rows true 3 (.int .i64) r1.1, .rows true 3 (.int .i64) a4]⟩
  (blockK 0 (seqK (F42.cd N [1, 1, 1, 1, 1]) F42.fin))
theorem F42.l0_zero (N : Nat) (x0 : List ((Int × Int) × Int)) (r1 : List Int × Int × Int) (a3 : Int) (a4 : List Int) : F42.l0 N x0 r1 0 a3 a4 = none := by kernel_rfl
theorem F42.l0_succ (N : Nat) (x0 : List ((Int × Int) × Int)) (r1 : List Int × Int × Int) (k2 : Nat) (a3 : Int) (a4 : List Int) : F42.l0 N x0 r1 (k2 + 1) a3 a4 =
    bif decide (a3 < (x0.length : Int)) then
      bif (decide (0 ≤ a3)) && (decide (a3 < (x0.length : Int))) then
        bif (decide (0 ≤ a3)) && (decide (a3 < (r1.1.length : Int))) then
          bif decide ((Int.toNat a3) < r1.1.length) then
            bif decide ((List.getD r1.1 (Int.toNat a3) 0) > ((List.getD x0 (Int.toNat a3) ((0, 0), 0)).2)) then
              bif decide ((a4.length + 1) * 8 ≤ 140737488355328) && decide ((a4.length + 1) ≤ maxLen) then
                F42.l0 N x0 r1 k2 (w (a3 + 1)) (a4 ++ [a3])
              else
                none
            else
              F42.l0 N x0 r1 k2 (w (a3 + 1)) a4
          else
            none
        else
          none
      else
        none
    else
      some (a4, 0) := by kernel_rfl
theorem F42.eq (N : Nat) (x0 : List ((Int × Int) × Int)) (x1 : List Int) : F42.fn N (x0, x1) =
    (F41.fn N (x0, x1)).bind fun r1 =>
    bif !(r1.2.2 == 0) then
      some ([], r1.2.2)
    else
      F42.l0 N x0 r1 N 0 [] := by kernel_rfl

/-! ### F34: skyway/flow.Room -/
def F34.kp : List (Nat × List (Nat × Option (TypeId × Ty))) := [(6, [(1, none), (7, none), (15, none), (16, none), (17, none)])]
noncomputable def F34.G (N : Nat) : List (Nat × Spec) := [(37, .pure (F37.S N))]
noncomputable def F34.E (N : Nat) : Env := mkEnv (F34.G N) N tyTab F34.kp
noncomputable def F34.fn (N : Nat) (x : List ((Int × Int) × Int) × Int) : Option (Int × Int) := evFn (F34.E N) Try.prog 3 Try.f34 false [.cell (.sl 64 (.pair (.pair (.int .i64) (.int .i64)) (.int .i64))), .cell (.int .i64)] [.val (.cell (.int .i64)), .val (.cell (.int .i64))] x
noncomputable def F34.S (N : Nat) : PSpec := ⟨false, [.cell (.sl 64 (.pair (.pair (.int .i64) (.int .i64)) (.int .i64))), .cell (.int .i64)], [.val (.cell (.int .i64)), .val (.cell (.int .i64))], F34.fn N⟩
theorem f34_enters : Enters Try.prog 34 := ⟨Try.f34, Try.func34, by kernel_rfl, by kernel_rfl⟩
theorem F34.tab (N : Nat) : TabOk Try.prog (F34.G N) := ⟨⟨F37.enters, F37.sound N⟩, trivial⟩
theorem F34.enters : Enters Try.prog 34 := f34_enters
theorem F34.sound (N : Nat) : Sound Try.prog 34 (F34.S N) := evFn_sound (specs_tab (F34.tab N)) (inls_tab (F34.tab N)) mixed 3 Try.func34 _ _ _
noncomputable def F34.cd (N : Nat) (p : List Nat) : St → (Ex → St → Option (Int × Int)) → Option (Int × Int) := ev (F34.E N) Try.prog (callD (F34.E N) Try.prog 3) 0 (codeAt (bodyOf Try.f34) p)
noncomputable def F34.fin : Ex → St → Option (Int × Int) := endK Try.prog Try.f34 [.val (.cell (.int .i64)), .val (.cell (.int .i64))]
noncomputable def F34.l0 (N : Nat) (x0 : List ((Int × Int) × Int)) (x1 : Int) (k2 : Nat) (a3 : Int) (a4 : Int) : Option (Int × Int) :=
  loopN (norm ((F34.E N).keep 6) 0) (F34.cd N [1, 1, 1, 0, 1, 0, 0]) k2
  ⟨[.any, .sc (.int .i64 x1), .any, .any, .any, .any, .any, .sc (.int .i64 a3), .any, .any, .any, .any, .any, .any, .any, .ros false 64 (.pair (.pair (.int .i64) (.int .i64)) (.int .i64)) x0, .sc (.int .i64 (x0.length : Int)), .sc (.int .i64 a4), .any, .any, .any, .any, .any, .any, .any, .any, .any, .any, .any, .any, .any, .any], []⟩
  (blockK 0 (seqK (F34.cd N [1, 1, 1, 1]) F34.fin))
theorem F34.l0_zero (N : Nat) (x0 : List ((Int × Int) × Int)) (x1 : Int) (a3 : Int) (a4 : Int) : F34.l0 N x0 x1 0 a3 a4 = none := by kernel_rfl
theorem F34.l0_succ (N : Nat) (x0 : List ((Int × Int) × Int)) (x1 : Int) (k2 : Nat) (a3 : Int) (a4 : Int) : F34.l0 N x0 x1 (k2 + 1) a3 a4 =
    bif decide (a4 < (x0.length : Int)) then
      bif (decide (0 ≤ a4)) && (decide (a4 < (x0.length : Int))) then
        bif decide ((((List.getD x0 (Int.toNat a4) ((0, 0), 0)).1).2) > x1) then
          F34.l0 N x0 x1 k2 (w (a3 + ((List.getD x0 (Int.toNat a4) ((0, 0), 0)).2))) (w (a4 + 1))
        else
          F34.l0 N x0 x1 k2 a3 (w (a4 + 1))
      else
        none
    else
      some (a3, 0) := by kernel_rfl
theorem F34.eq (N : Nat) (x0 : List ((Int × Int) × Int)) (x1 : Int) : F34.fn N (x0, x1) =
    (F37.fn N x0).bind fun r1 =>
    bif !(r1 == 0) then
      some (0, r1)
    else
      F34.l0 N x0 x1 N 0 0 := by kernel_rfl

/-! ### F35: skyway/flow.Less -/
def F35.kp : List (Nat × List (Nat × Option (TypeId × Ty))) := []
noncomputable def F35.G (N : Nat) : List (Nat × Spec) := [(33, .pure (F33.S N))]
noncomputable def F35.E (N : Nat) : Env := mkEnv (F35.G N) N tyTab F35.kp
noncomputable def F35.fn (N : Nat) (x : List ((Int × Int) × Int) × Int) : Option (List ((Int × Int) × Int) × Int) := evFn (F35.E N) Try.prog 3 Try.f35 false [.cell (.sl 64 (.pair (.pair (.int .i64) (.int .i64)) (.int .i64))), .cell (.int .i64)] [.own 64 (.pair (.pair (.int .i64) (.int .i64)) (.int .i64)), .val (.cell (.int .i64))] x
noncomputable def F35.S (N : Nat) : PSpec := ⟨false, [.cell (.sl 64 (.pair (.pair (.int .i64) (.int .i64)) (.int .i64))), .cell (.int .i64)], [.own 64 (.pair (.pair (.int .i64) (.int .i64)) (.int .i64)), .val (.cell (.int .i64))], F35.fn N⟩
theorem f35_enters : Enters Try.prog 35 := ⟨Try.f35, Try.func35, by kernel_rfl, by kernel_rfl⟩
theorem F35.tab (N : Nat) : TabOk Try.prog (F35.G N) := ⟨⟨F33.enters, F33.sound N⟩, trivial⟩
theorem F35.enters : Enters Try.prog 35 := f35_enters
theorem F35.sound (N : Nat) : Sound Try.prog 35 (F35.S N) := evFn_sound (specs_tab (F35.tab N)) (inls_tab (F35.tab N)) mixed 3 Try.func35 _ _ _
theorem F35.eq (N : Nat) (x0 : List ((Int × Int) × Int)) (x1 : Int) : F35.fn N (x0, x1) =
    (F33.fn N (x0, x1)).bind fun r1 =>
    bif !(r1.2 == 0) then
      some ([], r1.2)
    else
    bif (decide (0 ≤ r1.1)) && (decide (r1.1 < (x0.length : Int))) then
      bif ((List.getD x0 (Int.toNat r1.1) ((0, 0), 0)).2) == 0 then
        some ([], 18)
      else
      bif decide ((0 + x0.length) * 24 ≤ 140737488355328) && decide ((0 + x0.length) ≤ maxLen) then
        bif (decide (0 ≤ r1.1)) && (decide (r1.1 < (x0.length : Int))) then
          bif decide ((Int.toNat r1.1) < x0.length) then
            bif (decide (0 ≤ r1.1)) && (decide (r1.1 < (x0.length : Int))) then
              bif decide ((Int.toNat r1.1) < x0.length) then
                some ((List.set x0 (Int.toNat r1.1) ((((List.getD x0 (Int.toNat r1.1) ((0, 0), 0)).1).1, ((List.getD x0 (Int.toNat r1.1) ((0, 0), 0)).1).2), (w (((List.getD x0 (Int.toNat r1.1) ((0, 0), 0)).2) - 1)))), 0)
              else
                none
            else
              none
          else
            none
        else
          none
      else
        none
    else
      none := by kernel_rfl

/-! ### F46: slices.Equal[[]int,int] -/
def F46.kp : List (Nat × List (Nat × Option (TypeId × Ty))) := [(4, [(0, none), (1, none), (12, none), (13, none)])]
noncomputable def F46.G (N : Nat) : List (Nat × Spec) := []
noncomputable def F46.E (N : Nat) : Env := mkEnv (F46.G N) N tyTab F46.kp
noncomputable def F46.fn (N : Nat) (x : List Int × List Int) : Option Bool := evFn (F46.E N) Try.prog 3 Try.f46 false [.cell (.sl 3 (.int .i64)), .cell (.sl 3 (.int .i64))] [.val (.cell (.bool))] x
noncomputable def F46.S (N : Nat) : PSpec := ⟨false, [.cell (.sl 3 (.int .i64)), .cell (.sl 3 (.int .i64))], [.val (.cell (.bool))], F46.fn N⟩
theorem f46_enters : Enters Try.prog 46 := ⟨Try.f46, Try.func46, by kernel_rfl, by kernel_rfl⟩
theorem F46.tab (N : Nat) : TabOk Try.prog (F46.G N) := trivial
theorem F46.enters : Enters Try.prog 46 := f46_enters
theorem F46.sound (N : Nat) : Sound Try.prog 46 (F46.S N) := evFn_sound (specs_tab (F46.tab N)) (inls_tab (F46.tab N)) mixed 3 Try.func46 _ _ _
noncomputable def F46.cd (N : Nat) (p : List Nat) : St → (Ex → St → Option Bool) → Option Bool := ev (F46.E N) Try.prog (callD (F46.E N) Try.prog 3) 0 (codeAt (bodyOf Try.f46) p)
noncomputable def F46.fin : Ex → St → Option Bool := endK Try.prog Try.f46 [.val (.cell (.bool))]
noncomputable def F46.l0 (N : Nat) (x0 : List Int) (x1 : List Int) (k1 : Nat) (a2 : Int) : Option Bool :=
  loopN (norm ((F46.E N).keep 4) 0) (F46.cd N [1, 1, 0, 1, 0, 0]) k1
  ⟨[.ros false 3 (.int .i64) x0, .ros false 3 (.int .i64) x1, .any, .any, .any, .any, .any, .any, .any, .any, .any, .any, .sc (.int .i64 (x0.length : Int)), .sc (.int .i64 a2), .any, .any, .any, .any, .any, .any, .any, .any, .any, .any, .any, .any], []⟩
  (blockK 0 (seqK (F46.cd N [1, 1, 1]) F46.fin))
theorem F46.l0_zero (N : Nat) (x0 : List Int) (x1 : List Int) (a2 : Int) : F46.l0 N x0 x1 0 a2 = none := by kernel_rfl
theorem F46.l0_succ (N : Nat) (x0 : List Int) (x1 : List Int) (k1 : Nat) (a2 : Int) : F46.l0 N x0 x1 (k1 + 1) a2 =
    bif decide (a2 < (x0.length : Int)) then
      bif (decide (0 ≤ a2)) && (decide (a2 < (x0.length : Int))) then
        bif (decide (0 ≤ a2)) && (decide (a2 < (x1.length : Int))) then
          bif !((List.getD x0 (Int.toNat a2) 0) == (List.getD x1 (Int.toNat a2) 0)) then
            some false
          else
            F46.l0 N x0 x1 k1 (w (a2 + 1))
        else
          none
      else
        none
    else
      some true := by kernel_rfl
theorem F46.eq (N : Nat) (x0 : List Int) (x1 : List Int) : F46.fn N (x0, x1) =
    bif !((x0.length : Int) == (x1.length : Int)) then
      some false
    else
      F46.l0 N x0 x1 N 0 := by kernel_rfl

/-! ### F32: skyway/skywaylaw3.flowFact -/
def F32.kp : List (Nat × List (Nat × Option (TypeId × Ty))) := []
noncomputable def F32.G (N : Nat) : List (Nat × Spec) := [(33, .pure (F33.S N)), (34, .pure (F34.S N)), (35, .pure (F35.S N)), (37, .pure (F37.S N)), (41, .pure (F41.S N)), (42, .pure (F42.S N)), (46, .pure (F46.S N)), (67, .pure (F67.S N))]
noncomputable def F32.E (N : Nat) : Env := mkEnv (F32.G N) N tyTab F32.kp
noncomputable def F32.fn (N : Nat) (x : Unit) : Option Bool := evFn (F32.E N) Try.prog 3 Try.f32 false [] [.val (.cell (.bool))] x
noncomputable def F32.S (N : Nat) : PSpec := ⟨false, [], [.val (.cell (.bool))], F32.fn N⟩
theorem f32_enters : Enters Try.prog 32 := ⟨Try.f32, Try.func32, by kernel_rfl, by kernel_rfl⟩
theorem F32.tab (N : Nat) : TabOk Try.prog (F32.G N) := ⟨⟨F33.enters, F33.sound N⟩, ⟨F34.enters, F34.sound N⟩, ⟨F35.enters, F35.sound N⟩, ⟨F37.enters, F37.sound N⟩, ⟨F41.enters, F41.sound N⟩, ⟨F42.enters, F42.sound N⟩, ⟨F46.enters, F46.sound N⟩, ⟨F67.enters, F67.sound N⟩, trivial⟩
theorem F32.enters : Enters Try.prog 32 := f32_enters
theorem F32.sound (N : Nat) : Sound Try.prog 32 (F32.S N) := evFn_sound (specs_tab (F32.tab N)) (inls_tab (F32.tab N)) mixed 3 Try.func32 _ _ _
theorem F32.eq (N : Nat) : F32.fn N () =
    (F67.fn N ()).bind fun r1 =>
    (F33.fn N (r1, 10)).bind fun r2 =>
    (F67.fn N ()).bind fun r3 =>
    (F41.fn N (r3, [3, 4, 20])).bind fun r4 =>
    (F67.fn N ()).bind fun r5 =>
    (F42.fn N (r5, [3, 4, 20])).bind fun r6 =>
    (F67.fn N ()).bind fun r7 =>
    (F34.fn N (r7, 10)).bind fun r8 =>
    (F67.fn N ()).bind fun r9 =>
    (F35.fn N (r9, 3)).bind fun r10 =>
    bif !(r2.2 == 0) || (r2.2 == 0) then
      bif (!(r2.2 == 0)) || (r2.2 == 0) then
        bif !((r2.2 == 0) && (r4.2.2 == 0)) || ((r2.2 == 0) && (r4.2.2 == 0)) then
          bif (!((r2.2 == 0) && (r4.2.2 == 0))) || ((r2.2 == 0) && (r4.2.2 == 0)) then
            bif !(((r2.2 == 0) && (r4.2.2 == 0)) && (r6.2 == 0)) || (((r2.2 == 0) && (r4.2.2 == 0)) && (r6.2 == 0)) then
              bif (!(((r2.2 == 0) && (r4.2.2 == 0)) && (r6.2 == 0))) || (((r2.2 == 0) && (r4.2.2 == 0)) && (r6.2 == 0)) then
                bif !((((r2.2 == 0) && (r4.2.2 == 0)) && (r6.2 == 0)) && (r8.2 == 0)) || ((((r2.2 == 0) && (r4.2.2 == 0)) && (r6.2 == 0)) && (r8.2 == 0)) then
                  bif (!((((r2.2 == 0) && (r4.2.2 == 0)) && (r6.2 == 0)) && (r8.2 == 0))) || ((((r2.2 == 0) && (r4.2.2 == 0)) && (r6.2 == 0)) && (r8.2 == 0)) then
                    bif !(((((r2.2 == 0) && (r4.2.2 == 0)) && (r6.2 == 0)) && (r8.2 == 0)) && (r10.2 == 0)) || (((((r2.2 == 0) && (r4.2.2 == 0)) && (r6.2 == 0)) && (r8.2 == 0)) && (r10.2 == 0)) then
                      bif (!(((((r2.2 == 0) && (r4.2.2 == 0)) && (r6.2 == 0)) && (r8.2 == 0)) && (r10.2 == 0))) || (((((r2.2 == 0) && (r4.2.2 == 0)) && (r6.2 == 0)) && (r8.2 == 0)) && (r10.2 == 0)) then
                        bif (((((r2.2 == 0) && (r4.2.2 == 0)) && (r6.2 == 0)) && (r8.2 == 0)) && (r10.2 == 0)) && (r2.1 == 1) then
                          bif (((((r2.2 == 0) && (r4.2.2 == 0)) && (r6.2 == 0)) && (r8.2 == 0)) && (r10.2 == 0)) && (r2.1 == 1) then
                            (F46.fn N (r4.1, [2, 0])).bind fun r11 =>
                            bif !r11 || r11 then
                              bif (!r11) || r11 then
                                bif r11 && (r4.2.1 == 1) then
                                  bif r11 && (r4.2.1 == 1) then
                                    (F46.fn N (r6.1, [0])).bind fun r12 =>
                                    bif !r12 || r12 then
                                      bif (!r12) || r12 then
                                        bif !(r12 && (r8.1 == 1)) || (r12 && (r8.1 == 1)) then
                                          bif !(r12 && (r8.1 == 1)) || (r12 && (r8.1 == 1)) then
                                            bif (!(r12 && (r8.1 == 1))) || (r12 && (r8.1 == 1)) then
                                              bif !((r12 && (r8.1 == 1)) && ((r10.1.length : Int) == 2)) || ((r12 && (r8.1 == 1)) && ((r10.1.length : Int) == 2)) then
                                                bif (decide (0 < (r10.1.length : Int))) || !((r12 && (r8.1 == 1)) && ((r10.1.length : Int) == 2)) then
                                                  bif !((r12 && (r8.1 == 1)) && ((r10.1.length : Int) == 2)) || ((r12 && (r8.1 == 1)) && ((r10.1.length : Int) == 2)) then
                                                    bif !((r12 && (r8.1 == 1)) && ((r10.1.length : Int) == 2)) || ((r12 && (r8.1 == 1)) && ((r10.1.length : Int) == 2)) then
                                                      bif (decide (0 < r10.1.length)) || !((r12 && (r8.1 == 1)) && ((r10.1.length : Int) == 2)) then
                                                        bif !((r12 && (r8.1 == 1)) && ((r10.1.length : Int) == 2)) || ((r12 && (r8.1 == 1)) && ((r10.1.length : Int) == 2)) then
                                                          bif (!((r12 && (r8.1 == 1)) && ((r10.1.length : Int) == 2))) || ((r12 && (r8.1 == 1)) && ((r10.1.length : Int) == 2)) then
                                                            bif !(((r12 && (r8.1 == 1)) && ((r10.1.length : Int) == 2)) && (((List.getD r10.1 0 ((0, 0), 0)).2) == 0)) || (((r12 && (r8.1 == 1)) && ((r10.1.length : Int) == 2)) && (((List.getD r10.1 0 ((0, 0), 0)).2) == 0)) then
                                                              bif (decide (1 < (r10.1.length : Int))) || !(((r12 && (r8.1 == 1)) && ((r10.1.length : Int) == 2)) && (((List.getD r10.1 0 ((0, 0), 0)).2) == 0)) then
                                                                bif !(((r12 && (r8.1 == 1)) && ((r10.1.length : Int) == 2)) && (((List.getD r10.1 0 ((0, 0), 0)).2) == 0)) || (((r12 && (r8.1 == 1)) && ((r10.1.length : Int) == 2)) && (((List.getD r10.1 0 ((0, 0), 0)).2) == 0)) then
                                                                  bif !(((r12 && (r8.1 == 1)) && ((r10.1.length : Int) == 2)) && (((List.getD r10.1 0 ((0, 0), 0)).2) == 0)) || (((r12 && (r8.1 == 1)) && ((r10.1.length : Int) == 2)) && (((List.getD r10.1 0 ((0, 0), 0)).2) == 0)) then
                                                                    bif (decide (1 < r10.1.length)) || !(((r12 && (r8.1 == 1)) && ((r10.1.length : Int) == 2)) && (((List.getD r10.1 0 ((0, 0), 0)).2) == 0)) then
                                                                      bif !(((r12 && (r8.1 == 1)) && ((r10.1.length : Int) == 2)) && (((List.getD r10.1 0 ((0, 0), 0)).2) == 0)) || (((r12 && (r8.1 == 1)) && ((r10.1.length : Int) == 2)) && (((List.getD r10.1 0 ((0, 0), 0)).2) == 0)) then
                                                                        bif (!(((r12 && (r8.1 == 1)) && ((r10.1.length : Int) == 2)) && (((List.getD r10.1 0 ((0, 0), 0)).2) == 0))) || (((r12 && (r8.1 == 1)) && ((r10.1.length : Int) == 2)) && (((List.getD r10.1 0 ((0, 0), 0)).2) == 0)) then
                                                                          bif (((r12 && (r8.1 == 1)) && ((r10.1.length : Int) == 2)) && (((List.getD r10.1 0 ((0, 0), 0)).2) == 0)) && (((List.getD r10.1 1 ((0, 0), 0)).2) == 1) then
                                                                            bif (((r12 && (r8.1 == 1)) && ((r10.1.length : Int) == 2)) && (((List.getD r10.1 0 ((0, 0), 0)).2) == 0)) && (((List.getD r10.1 1 ((0, 0), 0)).2) == 1) then
                                                                              (F37.fn N [((0, 0), 0)]).bind fun r13 =>
                                                                              some (r13 == 4)
                                                                            else
                                                                              none
                                                                          else
                                                                            some false
                                                                        else
                                                                          none
                                                                      else
                                                                        none
                                                                    else
                                                                      none
                                                                  else
                                                                    none
                                                                else
                                                                  none
                                                              else
                                                                none
                                                            else
                                                              none
                                                          else
                                                            none
                                                        else
                                                          none
                                                      else
                                                        none
                                                    else
                                                      none
                                                  else
                                                    none
                                                else
                                                  none
                                              else
                                                none
                                            else
                                              none
                                          else
                                            none
                                        else
                                          none
                                      else
                                        none
                                    else
                                      none
                                  else
                                    none
                                else
                                bif (decide (0 < (r10.1.length : Int))) || true then
                                  bif (decide (0 < r10.1.length)) || true then
                                    bif (decide (1 < (r10.1.length : Int))) || true then
                                      bif (decide (1 < r10.1.length)) || true then
                                        some false
                                      else
                                        none
                                    else
                                      none
                                  else
                                    none
                                else
                                  none
                              else
                                none
                            else
                              none
                          else
                            none
                        else
                        bif (decide (0 < (r10.1.length : Int))) || true then
                          bif (decide (0 < r10.1.length)) || true then
                            bif (decide (1 < (r10.1.length : Int))) || true then
                              bif (decide (1 < r10.1.length)) || true then
                                some false
                              else
                                none
                            else
                              none
                          else
                            none
                        else
                          none
                      else
                        none
                    else
                      none
                  else
                    none
                else
                  none
              else
                none
            else
              none
          else
            none
        else
          none
      else
        none
    else
      none := by kernel_rfl
theorem taut7 : ∀ p0 p1 p2 p3 p4 : Bool, ((!(((((p0) && (p1)) && (p2)) && (p3)) && (p4)) || (((((p0) && (p1)) && (p2)) && (p3)) && (p4)))) = true := by decide
theorem taut8 : ∀ p0 p1 p2 p3 : Bool, ((!((((p0) && (p1)) && (p2)) && (p3)) || ((((p0) && (p1)) && (p2)) && (p3)))) = true := by decide
theorem taut9 : ∀ p0 p1 p2 p3 : Bool, ((!(((p0 && (p1)) && (p2)) && (p3)) || (((p0 && (p1)) && (p2)) && (p3)))) = true := by decide
theorem taut10 : ∀ p0 p1 p2 : Bool, ((!(((p0) && (p1)) && (p2)) || (((p0) && (p1)) && (p2)))) = true := by decide
theorem taut11 : ∀ p0 p1 p2 : Bool, ((!((p0 && (p1)) && (p2)) || ((p0 && (p1)) && (p2)))) = true := by decide
theorem taut12 : ∀ p0 p1 : Bool, ((!((p0) && (p1)) || ((p0) && (p1)))) = true := by decide
theorem taut13 : ∀ p0 p1 : Bool, ((!(p0 && (p1)) || (p0 && (p1)))) = true := by decide
theorem taut14 : ∀ p0 : Bool, ((!p0 || p0)) = true := by decide
theorem taut15 : ∀ p0 p1 p2 p3 p4 : Bool, (((!(((((p0) && (p1)) && (p2)) && (p3)) && (p4))) || (((((p0) && (p1)) && (p2)) && (p3)) && (p4)))) = true := by decide
theorem taut16 : ∀ p0 p1 p2 p3 : Bool, (((!((((p0) && (p1)) && (p2)) && (p3))) || ((((p0) && (p1)) && (p2)) && (p3)))) = true := by decide
theorem taut17 : ∀ p0 p1 p2 p3 : Bool, (((!(((p0 && (p1)) && (p2)) && (p3))) || (((p0 && (p1)) && (p2)) && (p3)))) = true := by decide
theorem taut18 : ∀ p0 p1 p2 : Bool, (((!(((p0) && (p1)) && (p2))) || (((p0) && (p1)) && (p2)))) = true := by decide
theorem taut19 : ∀ p0 p1 p2 : Bool, (((!((p0 && (p1)) && (p2))) || ((p0 && (p1)) && (p2)))) = true := by decide
theorem taut20 : ∀ p0 p1 : Bool, (((!((p0) && (p1))) || ((p0) && (p1)))) = true := by decide
theorem taut21 : ∀ p0 p1 : Bool, (((!(p0 && (p1))) || (p0 && (p1)))) = true := by decide
theorem taut22 : ∀ p0 : Bool, (((!p0) || p0)) = true := by decide
theorem taut23 : ∀ p0 : Bool, (((p0) || true)) = true := by decide
theorem F32.clean (N : Nat) : F32.fn N () =
    (F67.fn N ()).bind fun r1 =>
    (F33.fn N (r1, 10)).bind fun r2 =>
    (F67.fn N ()).bind fun r3 =>
    (F41.fn N (r3, [3, 4, 20])).bind fun r4 =>
    (F67.fn N ()).bind fun r5 =>
    (F42.fn N (r5, [3, 4, 20])).bind fun r6 =>
    (F67.fn N ()).bind fun r7 =>
    (F34.fn N (r7, 10)).bind fun r8 =>
    (F67.fn N ()).bind fun r9 =>
    (F35.fn N (r9, 3)).bind fun r10 =>
    bif (((((r2.2 == 0) && (r4.2.2 == 0)) && (r6.2 == 0)) && (r8.2 == 0)) && (r10.2 == 0)) && (r2.1 == 1) then
      bif (((((r2.2 == 0) && (r4.2.2 == 0)) && (r6.2 == 0)) && (r8.2 == 0)) && (r10.2 == 0)) && (r2.1 == 1) then
        (F46.fn N (r4.1, [2, 0])).bind fun r11 =>
        bif r11 && (r4.2.1 == 1) then
          bif r11 && (r4.2.1 == 1) then
            (F46.fn N (r6.1, [0])).bind fun r12 =>
            bif (decide (0 < (r10.1.length : Int))) || !((r12 && (r8.1 == 1)) && ((r10.1.length : Int) == 2)) then
              bif (decide (0 < r10.1.length)) || !((r12 && (r8.1 == 1)) && ((r10.1.length : Int) == 2)) then
                bif (decide (1 < (r10.1.length : Int))) || !(((r12 && (r8.1 == 1)) && ((r10.1.length : Int) == 2)) && (((List.getD r10.1 0 ((0, 0), 0)).2) == 0)) then
                  bif (decide (1 < r10.1.length)) || !(((r12 && (r8.1 == 1)) && ((r10.1.length : Int) == 2)) && (((List.getD r10.1 0 ((0, 0), 0)).2) == 0)) then
                    bif (((r12 && (r8.1 == 1)) && ((r10.1.length : Int) == 2)) && (((List.getD r10.1 0 ((0, 0), 0)).2) == 0)) && (((List.getD r10.1 1 ((0, 0), 0)).2) == 1) then
                      bif (((r12 && (r8.1 == 1)) && ((r10.1.length : Int) == 2)) && (((List.getD r10.1 0 ((0, 0), 0)).2) == 0)) && (((List.getD r10.1 1 ((0, 0), 0)).2) == 1) then
                        (F37.fn N [((0, 0), 0)]).bind fun r13 =>
                        some (r13 == 4)
                      else
                        none
                    else
                      some false
                  else
                    none
                else
                  none
              else
                none
            else
              none
          else
            none
        else
        some false
      else
        none
    else
    some false := by
  rw [F32.eq]; simp only [taut7, taut8, taut9, taut10, taut11, taut12, taut13, taut3, taut14, taut15, taut16, taut17, taut18, taut19, taut20, taut21, taut4, taut22, taut23, cond_true]

/-! ### F36: skyway/skywayref3.CapsError -/
def F36.kp : List (Nat × List (Nat × Option (TypeId × Ty))) := [(5, [(3, none), (9, none), (10, none), (11, none)])]
noncomputable def F36.G (N : Nat) : List (Nat × Spec) := []
noncomputable def F36.E (N : Nat) : Env := mkEnv (F36.G N) N tyTab F36.kp
noncomputable def F36.fn (N : Nat) (x : List ((Int × Int) × Int)) : Option Int := evFn (F36.E N) Try.prog 3 Try.f36 false [.cell (.sl 64 (.pair (.pair (.int .i64) (.int .i64)) (.int .i64)))] [.val (.cell (.int .i64))] x
noncomputable def F36.S (N : Nat) : PSpec := ⟨false, [.cell (.sl 64 (.pair (.pair (.int .i64) (.int .i64)) (.int .i64)))], [.val (.cell (.int .i64))], F36.fn N⟩
theorem f36_enters : Enters Try.prog 36 := ⟨Try.f36, Try.func36, by kernel_rfl, by kernel_rfl⟩
theorem F36.tab (N : Nat) : TabOk Try.prog (F36.G N) := trivial
theorem F36.enters : Enters Try.prog 36 := f36_enters
theorem F36.sound (N : Nat) : Sound Try.prog 36 (F36.S N) := evFn_sound (specs_tab (F36.tab N)) (inls_tab (F36.tab N)) mixed 3 Try.func36 _ _ _
noncomputable def F36.cd (N : Nat) (p : List Nat) : St → (Ex → St → Option Int) → Option Int := ev (F36.E N) Try.prog (callD (F36.E N) Try.prog 3) 0 (codeAt (bodyOf Try.f36) p)
noncomputable def F36.fin : Ex → St → Option Int := endK Try.prog Try.f36 [.val (.cell (.int .i64))]
noncomputable def F36.l0 (N : Nat) (x0 : List ((Int × Int) × Int)) (k1 : Nat) (a2 : Int) (a3 : Int) : Option Int :=
  loopN (norm ((F36.E N).keep 5) 0) (F36.cd N [1, 1, 1, 0, 1, 0, 0]) k1
  ⟨[.any, .any, .any, .sc (.int .i64 a2), .any, .any, .any, .any, .any, .ros false 64 (.pair (.pair (.int .i64) (.int .i64)) (.int .i64)) x0, .sc (.int .i64 (x0.length : Int)), .sc (.int .i64 a3), .any, .any, .any, .any, .any, .any, .any, .any, .any, .any, .any, .any, .any, .any, .any, .any, .any, .any, .any, .any, .any, .any, .any, .any, .any, .any, .any, .any, .any, .any, .any, .any, .any, .any, .any, .any, .any, .any, .any, .any, .any], []⟩
  (blockK 0 (seqK (F36.cd N [1, 1, 1, 1]) F36.fin))
theorem F36.l0_zero (N : Nat) (x0 : List ((Int × Int) × Int)) (a2 : Int) (a3 : Int) : F36.l0 N x0 0 a2 a3 = none := by kernel_rfl
theorem F36.l0_succ (N : Nat) (x0 : List ((Int × Int) × Int)) (k1 : Nat) (a2 : Int) (a3 : Int) : F36.l0 N x0 (k1 + 1) a2 a3 =
    bif decide (a3 < (x0.length : Int)) then
      bif (decide (0 ≤ a3)) && (decide (a3 < (x0.length : Int))) then
        bif !(!(decide ((((List.getD x0 (Int.toNat a3) ((0, 0), 0)).1).1) < 0))) || (!(decide ((((List.getD x0 (Int.toNat a3) ((0, 0), 0)).1).1) < 0))) then
          bif !(!(decide ((((List.getD x0 (Int.toNat a3) ((0, 0), 0)).1).1) < 0))) || (!(decide ((((List.getD x0 (Int.toNat a3) ((0, 0), 0)).1).1) < 0))) then
            bif !(!(decide ((((List.getD x0 (Int.toNat a3) ((0, 0), 0)).1).1) < 0))) || (!(decide ((((List.getD x0 (Int.toNat a3) ((0, 0), 0)).1).1) < 0))) then
              bif (decide ((((List.getD x0 (Int.toNat a3) ((0, 0), 0)).1).1) < 0)) || (!(decide ((((List.getD x0 (Int.toNat a3) ((0, 0), 0)).1).1) < 0))) then
                bif !(!((decide ((((List.getD x0 (Int.toNat a3) ((0, 0), 0)).1).1) < 0)) || (decide ((((List.getD x0 (Int.toNat a3) ((0, 0), 0)).1).2) > 200000)))) || (!((decide ((((List.getD x0 (Int.toNat a3) ((0, 0), 0)).1).1) < 0)) || (decide ((((List.getD x0 (Int.toNat a3) ((0, 0), 0)).1).2) > 200000)))) then
                  bif !(!((decide ((((List.getD x0 (Int.toNat a3) ((0, 0), 0)).1).1) < 0)) || (decide ((((List.getD x0 (Int.toNat a3) ((0, 0), 0)).1).2) > 200000)))) || (!((decide ((((List.getD x0 (Int.toNat a3) ((0, 0), 0)).1).1) < 0)) || (decide ((((List.getD x0 (Int.toNat a3) ((0, 0), 0)).1).2) > 200000)))) then
                    bif !(!((decide ((((List.getD x0 (Int.toNat a3) ((0, 0), 0)).1).1) < 0)) || (decide ((((List.getD x0 (Int.toNat a3) ((0, 0), 0)).1).2) > 200000)))) || (!((decide ((((List.getD x0 (Int.toNat a3) ((0, 0), 0)).1).1) < 0)) || (decide ((((List.getD x0 (Int.toNat a3) ((0, 0), 0)).1).2) > 200000)))) then
                      bif !(!((decide ((((List.getD x0 (Int.toNat a3) ((0, 0), 0)).1).1) < 0)) || (decide ((((List.getD x0 (Int.toNat a3) ((0, 0), 0)).1).2) > 200000)))) || (!((decide ((((List.getD x0 (Int.toNat a3) ((0, 0), 0)).1).1) < 0)) || (decide ((((List.getD x0 (Int.toNat a3) ((0, 0), 0)).1).2) > 200000)))) then
                        bif !(!((decide ((((List.getD x0 (Int.toNat a3) ((0, 0), 0)).1).1) < 0)) || (decide ((((List.getD x0 (Int.toNat a3) ((0, 0), 0)).1).2) > 200000)))) || (!((decide ((((List.getD x0 (Int.toNat a3) ((0, 0), 0)).1).1) < 0)) || (decide ((((List.getD x0 (Int.toNat a3) ((0, 0), 0)).1).2) > 200000)))) then
                          bif !(!((decide ((((List.getD x0 (Int.toNat a3) ((0, 0), 0)).1).1) < 0)) || (decide ((((List.getD x0 (Int.toNat a3) ((0, 0), 0)).1).2) > 200000)))) || (!((decide ((((List.getD x0 (Int.toNat a3) ((0, 0), 0)).1).1) < 0)) || (decide ((((List.getD x0 (Int.toNat a3) ((0, 0), 0)).1).2) > 200000)))) then
                            bif ((decide ((((List.getD x0 (Int.toNat a3) ((0, 0), 0)).1).1) < 0)) || (decide ((((List.getD x0 (Int.toNat a3) ((0, 0), 0)).1).2) > 200000))) || (!((decide ((((List.getD x0 (Int.toNat a3) ((0, 0), 0)).1).1) < 0)) || (decide ((((List.getD x0 (Int.toNat a3) ((0, 0), 0)).1).2) > 200000)))) then
                              bif !(!(((decide ((((List.getD x0 (Int.toNat a3) ((0, 0), 0)).1).1) < 0)) || (decide ((((List.getD x0 (Int.toNat a3) ((0, 0), 0)).1).2) > 200000))) || (decide ((((List.getD x0 (Int.toNat a3) ((0, 0), 0)).1).2) ≤ (((List.getD x0 (Int.toNat a3) ((0, 0), 0)).1).1))))) || (!(((decide ((((List.getD x0 (Int.toNat a3) ((0, 0), 0)).1).1) < 0)) || (decide ((((List.getD x0 (Int.toNat a3) ((0, 0), 0)).1).2) > 200000))) || (decide ((((List.getD x0 (Int.toNat a3) ((0, 0), 0)).1).2) ≤ (((List.getD x0 (Int.toNat a3) ((0, 0), 0)).1).1))))) then
                                bif !(!(((decide ((((List.getD x0 (Int.toNat a3) ((0, 0), 0)).1).1) < 0)) || (decide ((((List.getD x0 (Int.toNat a3) ((0, 0), 0)).1).2) > 200000))) || (decide ((((List.getD x0 (Int.toNat a3) ((0, 0), 0)).1).2) ≤ (((List.getD x0 (Int.toNat a3) ((0, 0), 0)).1).1))))) || (!(((decide ((((List.getD x0 (Int.toNat a3) ((0, 0), 0)).1).1) < 0)) || (decide ((((List.getD x0 (Int.toNat a3) ((0, 0), 0)).1).2) > 200000))) || (decide ((((List.getD x0 (Int.toNat a3) ((0, 0), 0)).1).2) ≤ (((List.getD x0 (Int.toNat a3) ((0, 0), 0)).1).1))))) then
                                  bif (((decide ((((List.getD x0 (Int.toNat a3) ((0, 0), 0)).1).1) < 0)) || (decide ((((List.getD x0 (Int.toNat a3) ((0, 0), 0)).1).2) > 200000))) || (decide ((((List.getD x0 (Int.toNat a3) ((0, 0), 0)).1).2) ≤ (((List.getD x0 (Int.toNat a3) ((0, 0), 0)).1).1)))) || (!(((decide ((((List.getD x0 (Int.toNat a3) ((0, 0), 0)).1).1) < 0)) || (decide ((((List.getD x0 (Int.toNat a3) ((0, 0), 0)).1).2) > 200000))) || (decide ((((List.getD x0 (Int.toNat a3) ((0, 0), 0)).1).2) ≤ (((List.getD x0 (Int.toNat a3) ((0, 0), 0)).1).1))))) then
                                    bif !(!((((decide ((((List.getD x0 (Int.toNat a3) ((0, 0), 0)).1).1) < 0)) || (decide ((((List.getD x0 (Int.toNat a3) ((0, 0), 0)).1).2) > 200000))) || (decide ((((List.getD x0 (Int.toNat a3) ((0, 0), 0)).1).2) ≤ (((List.getD x0 (Int.toNat a3) ((0, 0), 0)).1).1)))) || (decide (((List.getD x0 (Int.toNat a3) ((0, 0), 0)).2) < 0)))) || (!((((decide ((((List.getD x0 (Int.toNat a3) ((0, 0), 0)).1).1) < 0)) || (decide ((((List.getD x0 (Int.toNat a3) ((0, 0), 0)).1).2) > 200000))) || (decide ((((List.getD x0 (Int.toNat a3) ((0, 0), 0)).1).2) ≤ (((List.getD x0 (Int.toNat a3) ((0, 0), 0)).1).1)))) || (decide (((List.getD x0 (Int.toNat a3) ((0, 0), 0)).2) < 0)))) then
                                      bif !(!((((decide ((((List.getD x0 (Int.toNat a3) ((0, 0), 0)).1).1) < 0)) || (decide ((((List.getD x0 (Int.toNat a3) ((0, 0), 0)).1).2) > 200000))) || (decide ((((List.getD x0 (Int.toNat a3) ((0, 0), 0)).1).2) ≤ (((List.getD x0 (Int.toNat a3) ((0, 0), 0)).1).1)))) || (decide (((List.getD x0 (Int.toNat a3) ((0, 0), 0)).2) < 0)))) || (!((((decide ((((List.getD x0 (Int.toNat a3) ((0, 0), 0)).1).1) < 0)) || (decide ((((List.getD x0 (Int.toNat a3) ((0, 0), 0)).1).2) > 200000))) || (decide ((((List.getD x0 (Int.toNat a3) ((0, 0), 0)).1).2) ≤ (((List.getD x0 (Int.toNat a3) ((0, 0), 0)).1).1)))) || (decide (((List.getD x0 (Int.toNat a3) ((0, 0), 0)).2) < 0)))) then
                                        bif ((((decide ((((List.getD x0 (Int.toNat a3) ((0, 0), 0)).1).1) < 0)) || (decide ((((List.getD x0 (Int.toNat a3) ((0, 0), 0)).1).2) > 200000))) || (decide ((((List.getD x0 (Int.toNat a3) ((0, 0), 0)).1).2) ≤ (((List.getD x0 (Int.toNat a3) ((0, 0), 0)).1).1)))) || (decide (((List.getD x0 (Int.toNat a3) ((0, 0), 0)).2) < 0))) || (!((((decide ((((List.getD x0 (Int.toNat a3) ((0, 0), 0)).1).1) < 0)) || (decide ((((List.getD x0 (Int.toNat a3) ((0, 0), 0)).1).2) > 200000))) || (decide ((((List.getD x0 (Int.toNat a3) ((0, 0), 0)).1).2) ≤ (((List.getD x0 (Int.toNat a3) ((0, 0), 0)).1).1)))) || (decide (((List.getD x0 (Int.toNat a3) ((0, 0), 0)).2) < 0)))) then
                                          bif ((((decide ((((List.getD x0 (Int.toNat a3) ((0, 0), 0)).1).1) < 0)) || (decide ((((List.getD x0 (Int.toNat a3) ((0, 0), 0)).1).2) > 200000))) || (decide ((((List.getD x0 (Int.toNat a3) ((0, 0), 0)).1).2) ≤ (((List.getD x0 (Int.toNat a3) ((0, 0), 0)).1).1)))) || (decide (((List.getD x0 (Int.toNat a3) ((0, 0), 0)).2) < 0))) || (decide (((List.getD x0 (Int.toNat a3) ((0, 0), 0)).2) > 24)) then
                                            some 4
                                          else
                                          bif decide ((((List.getD x0 (Int.toNat a3) ((0, 0), 0)).1).1) < a2) then
                                            some 12
                                          else
                                            F36.l0 N x0 k1 (((List.getD x0 (Int.toNat a3) ((0, 0), 0)).1).2) (w (a3 + 1))
                                        else
                                          none
                                      else
                                        none
                                    else
                                      none
                                  else
                                    none
                                else
                                  none
                              else
                                none
                            else
                              none
                          else
                            none
                        else
                          none
                      else
                        none
                    else
                      none
                  else
                    none
                else
                  none
              else
                none
            else
              none
          else
            none
        else
          none
      else
        none
    else
      some 0 := by kernel_rfl
theorem taut24 : ∀ p0 p1 p2 p3 : Bool, ((!(!((((p0) || (p1)) || (p2)) || (p3))) || (!((((p0) || (p1)) || (p2)) || (p3))))) = true := by decide
theorem taut25 : ∀ p0 p1 p2 : Bool, ((!(!(((p0) || (p1)) || (p2))) || (!(((p0) || (p1)) || (p2))))) = true := by decide
theorem taut26 : ∀ p0 p1 p2 p3 : Bool, ((((((p0) || (p1)) || (p2)) || (p3)) || (!((((p0) || (p1)) || (p2)) || (p3))))) = true := by decide
theorem taut27 : ∀ p0 p1 p2 : Bool, (((((p0) || (p1)) || (p2)) || (!(((p0) || (p1)) || (p2))))) = true := by decide
theorem F36.l0_clean (N : Nat) (x0 : List ((Int × Int) × Int)) (k1 : Nat) (a2 : Int) (a3 : Int) : F36.l0 N x0 (k1 + 1) a2 a3 =
    bif decide (a3 < (x0.length : Int)) then
      bif (decide (0 ≤ a3)) && (decide (a3 < (x0.length : Int))) then
        bif ((((decide ((((List.getD x0 (Int.toNat a3) ((0, 0), 0)).1).1) < 0)) || (decide ((((List.getD x0 (Int.toNat a3) ((0, 0), 0)).1).2) > 200000))) || (decide ((((List.getD x0 (Int.toNat a3) ((0, 0), 0)).1).2) ≤ (((List.getD x0 (Int.toNat a3) ((0, 0), 0)).1).1)))) || (decide (((List.getD x0 (Int.toNat a3) ((0, 0), 0)).2) < 0))) || (decide (((List.getD x0 (Int.toNat a3) ((0, 0), 0)).2) > 24)) then
          some 4
        else
        bif decide ((((List.getD x0 (Int.toNat a3) ((0, 0), 0)).1).1) < a2) then
          some 12
        else
          F36.l0 N x0 k1 (((List.getD x0 (Int.toNat a3) ((0, 0), 0)).1).2) (w (a3 + 1))
      else
        none
    else
      some 0 := by
  rw [F36.l0_succ]; simp only [taut24, taut25, taut1, taut2, taut26, taut27, taut5, taut6, cond_true]
theorem F36.eq (N : Nat) (x0 : List ((Int × Int) × Int)) : F36.fn N x0 =
    bif decide ((x0.length : Int) > 256) then
      some 2
    else
      F36.l0 N x0 N 0 0 := by kernel_rfl

/-! ### F38: skyway/skywayref3.CapAt -/
def F38.kp : List (Nat × List (Nat × Option (TypeId × Ty))) := [(3, [(1, none), (5, none), (8, none), (9, none), (10, none)])]
noncomputable def F38.G (N : Nat) : List (Nat × Spec) := []
noncomputable def F38.E (N : Nat) : Env := mkEnv (F38.G N) N tyTab F38.kp
noncomputable def F38.fn (N : Nat) (x : List ((Int × Int) × Int) × Int) : Option Int := evFn (F38.E N) Try.prog 3 Try.f38 false [.cell (.sl 64 (.pair (.pair (.int .i64) (.int .i64)) (.int .i64))), .cell (.int .i64)] [.val (.cell (.int .i64))] x
noncomputable def F38.S (N : Nat) : PSpec := ⟨false, [.cell (.sl 64 (.pair (.pair (.int .i64) (.int .i64)) (.int .i64))), .cell (.int .i64)], [.val (.cell (.int .i64))], F38.fn N⟩
theorem f38_enters : Enters Try.prog 38 := ⟨Try.f38, Try.func38, by kernel_rfl, by kernel_rfl⟩
theorem F38.tab (N : Nat) : TabOk Try.prog (F38.G N) := trivial
theorem F38.enters : Enters Try.prog 38 := f38_enters
theorem F38.sound (N : Nat) : Sound Try.prog 38 (F38.S N) := evFn_sound (specs_tab (F38.tab N)) (inls_tab (F38.tab N)) mixed 3 Try.func38 _ _ _
noncomputable def F38.cd (N : Nat) (p : List Nat) : St → (Ex → St → Option Int) → Option Int := ev (F38.E N) Try.prog (callD (F38.E N) Try.prog 3) 0 (codeAt (bodyOf Try.f38) p)
noncomputable def F38.fin : Ex → St → Option Int := endK Try.prog Try.f38 [.val (.cell (.int .i64))]
noncomputable def F38.l0 (N : Nat) (x0 : List ((Int × Int) × Int)) (x1 : Int) (k1 : Nat) (a2 : Int) (a3 : Int) : Option Int :=
  loopN (norm ((F38.E N).keep 3) 0) (F38.cd N [1, 1, 0, 1, 0, 0]) k1
  ⟨[.any, .sc (.int .i64 x1), .any, .any, .any, .sc (.int .i64 a2), .any, .any, .ros false 64 (.pair (.pair (.int .i64) (.int .i64)) (.int .i64)) x0, .sc (.int .i64 (x0.length : Int)), .sc (.int .i64 a3), .any, .any, .any, .any, .any, .any, .any, .any, .any, .any, .any, .any, .any, .any, .any, .any, .any, .any, .any, .any], []⟩
  (blockK 0 (seqK (F38.cd N [1, 1, 1]) F38.fin))
theorem F38.l0_zero (N : Nat) (x0 : List ((Int × Int) × Int)) (x1 : Int) (a2 : Int) (a3 : Int) : F38.l0 N x0 x1 0 a2 a3 = none := by kernel_rfl
theorem F38.l0_succ (N : Nat) (x0 : List ((Int × Int) × Int)) (x1 : Int) (k1 : Nat) (a2 : Int) (a3 : Int) : F38.l0 N x0 x1 (k1 + 1) a2 a3 =
    bif decide (a3 < (x0.length : Int)) then
      bif (decide (0 ≤ a3)) && (decide (a3 < (x0.length : Int))) then
        bif !(!(decide (x1 < (((List.getD x0 (Int.toNat a3) ((0, 0), 0)).1).1)))) || (!(decide (x1 < (((List.getD x0 (Int.toNat a3) ((0, 0), 0)).1).1)))) then
          bif !(!(decide (x1 < (((List.getD x0 (Int.toNat a3) ((0, 0), 0)).1).1)))) || (!(decide (x1 < (((List.getD x0 (Int.toNat a3) ((0, 0), 0)).1).1)))) then
            bif !(!(decide (x1 < (((List.getD x0 (Int.toNat a3) ((0, 0), 0)).1).1)))) || (!(decide (x1 < (((List.getD x0 (Int.toNat a3) ((0, 0), 0)).1).1)))) then
              bif !(!(decide (x1 < (((List.getD x0 (Int.toNat a3) ((0, 0), 0)).1).1)))) || (!(decide (x1 < (((List.getD x0 (Int.toNat a3) ((0, 0), 0)).1).1)))) then
                bif (decide (x1 < (((List.getD x0 (Int.toNat a3) ((0, 0), 0)).1).1))) || (!(decide (x1 < (((List.getD x0 (Int.toNat a3) ((0, 0), 0)).1).1)))) then
                  bif !((decide (x1 < (((List.getD x0 (Int.toNat a3) ((0, 0), 0)).1).1))) || (decide (x1 ≥ (((List.getD x0 (Int.toNat a3) ((0, 0), 0)).1).2)))) then
                    F38.l0 N x0 x1 k1 a3 (w (a3 + 1))
                  else
                    F38.l0 N x0 x1 k1 a2 (w (a3 + 1))
                else
                  none
              else
                none
            else
              none
          else
            none
        else
          none
      else
        none
    else
      some a2 := by kernel_rfl
theorem F38.l0_clean (N : Nat) (x0 : List ((Int × Int) × Int)) (x1 : Int) (k1 : Nat) (a2 : Int) (a3 : Int) : F38.l0 N x0 x1 (k1 + 1) a2 a3 =
    bif decide (a3 < (x0.length : Int)) then
      bif (decide (0 ≤ a3)) && (decide (a3 < (x0.length : Int))) then
        bif !((decide (x1 < (((List.getD x0 (Int.toNat a3) ((0, 0), 0)).1).1))) || (decide (x1 ≥ (((List.getD x0 (Int.toNat a3) ((0, 0), 0)).1).2)))) then
          F38.l0 N x0 x1 k1 a3 (w (a3 + 1))
        else
          F38.l0 N x0 x1 k1 a2 (w (a3 + 1))
      else
        none
    else
      some a2 := by
  rw [F38.l0_succ]; simp only [taut2, taut6, cond_true]
theorem F38.eq (N : Nat) (x0 : List ((Int × Int) × Int)) (x1 : Int) : F38.fn N (x0, x1) =
    F38.l0 N x0 x1 N (-1) 0 := by kernel_rfl

/-! ### F39: slices.Clone[[]skyway/api.FlowCap,skyway/api.FlowCap] -/
def F39.kp : List (Nat × List (Nat × Option (TypeId × Ty))) := []
noncomputable def F39.G (N : Nat) : List (Nat × Spec) := []
noncomputable def F39.E (N : Nat) : Env := mkEnv (F39.G N) N tyTab F39.kp
noncomputable def F39.fn (N : Nat) (x : List ((Int × Int) × Int)) : Option (List ((Int × Int) × Int)) := evFn (F39.E N) Try.prog 3 Try.f39 false [.cell (.sl 64 (.pair (.pair (.int .i64) (.int .i64)) (.int .i64)))] [.own 64 (.pair (.pair (.int .i64) (.int .i64)) (.int .i64))] x
noncomputable def F39.S (N : Nat) : PSpec := ⟨false, [.cell (.sl 64 (.pair (.pair (.int .i64) (.int .i64)) (.int .i64)))], [.own 64 (.pair (.pair (.int .i64) (.int .i64)) (.int .i64))], F39.fn N⟩
theorem f39_enters : Enters Try.prog 39 := ⟨Try.f39, Try.func39, by kernel_rfl, by kernel_rfl⟩
theorem F39.tab (N : Nat) : TabOk Try.prog (F39.G N) := trivial
theorem F39.enters : Enters Try.prog 39 := f39_enters
theorem F39.sound (N : Nat) : Sound Try.prog 39 (F39.S N) := evFn_sound (specs_tab (F39.tab N)) (inls_tab (F39.tab N)) mixed 3 Try.func39 _ _ _
theorem F39.eq (N : Nat) (x0 : List ((Int × Int) × Int)) : F39.fn N x0 =
    bif x0.isEmpty then
      agree (
        some []) (
        bif decide ((0 + x0.length) * 24 ≤ 140737488355328) && decide ((0 + x0.length) ≤ maxLen) then
          some x0
        else
          none)
    else
    bif decide ((0 + x0.length) * 24 ≤ 140737488355328) && decide ((0 + x0.length) ≤ maxLen) then
      some x0
    else
      none := by kernel_rfl

/-! ### F40: slices.Equal[[]skyway/api.FlowCap,skyway/api.FlowCap] -/
def F40.kp : List (Nat × List (Nat × Option (TypeId × Ty))) := [(4, [(0, none), (1, none), (12, none), (13, none)])]
noncomputable def F40.G (N : Nat) : List (Nat × Spec) := []
noncomputable def F40.E (N : Nat) : Env := mkEnv (F40.G N) N tyTab F40.kp
noncomputable def F40.fn (N : Nat) (x : List ((Int × Int) × Int) × List ((Int × Int) × Int)) : Option Bool := evFn (F40.E N) Try.prog 3 Try.f40 false [.cell (.sl 64 (.pair (.pair (.int .i64) (.int .i64)) (.int .i64))), .cell (.sl 64 (.pair (.pair (.int .i64) (.int .i64)) (.int .i64)))] [.val (.cell (.bool))] x
noncomputable def F40.S (N : Nat) : PSpec := ⟨false, [.cell (.sl 64 (.pair (.pair (.int .i64) (.int .i64)) (.int .i64))), .cell (.sl 64 (.pair (.pair (.int .i64) (.int .i64)) (.int .i64)))], [.val (.cell (.bool))], F40.fn N⟩
theorem f40_enters : Enters Try.prog 40 := ⟨Try.f40, Try.func40, by kernel_rfl, by kernel_rfl⟩
theorem F40.tab (N : Nat) : TabOk Try.prog (F40.G N) := trivial
theorem F40.enters : Enters Try.prog 40 := f40_enters
theorem F40.sound (N : Nat) : Sound Try.prog 40 (F40.S N) := evFn_sound (specs_tab (F40.tab N)) (inls_tab (F40.tab N)) mixed 3 Try.func40 _ _ _
noncomputable def F40.cd (N : Nat) (p : List Nat) : St → (Ex → St → Option Bool) → Option Bool := ev (F40.E N) Try.prog (callD (F40.E N) Try.prog 3) 0 (codeAt (bodyOf Try.f40) p)
noncomputable def F40.fin : Ex → St → Option Bool := endK Try.prog Try.f40 [.val (.cell (.bool))]
noncomputable def F40.l0 (N : Nat) (x0 : List ((Int × Int) × Int)) (x1 : List ((Int × Int) × Int)) (k1 : Nat) (a2 : Int) : Option Bool :=
  loopN (norm ((F40.E N).keep 4) 0) (F40.cd N [1, 1, 0, 1, 0, 0]) k1
  ⟨[.ros false 64 (.pair (.pair (.int .i64) (.int .i64)) (.int .i64)) x0, .ros false 64 (.pair (.pair (.int .i64) (.int .i64)) (.int .i64)) x1, .any, .any, .any, .any, .any, .any, .any, .any, .any, .any, .sc (.int .i64 (x0.length : Int)), .sc (.int .i64 a2), .any, .any, .any, .any, .any, .any, .any, .any, .any, .any, .any, .any], []⟩
  (blockK 0 (seqK (F40.cd N [1, 1, 1]) F40.fin))
theorem F40.l0_zero (N : Nat) (x0 : List ((Int × Int) × Int)) (x1 : List ((Int × Int) × Int)) (a2 : Int) : F40.l0 N x0 x1 0 a2 = none := by kernel_rfl
theorem F40.l0_succ (N : Nat) (x0 : List ((Int × Int) × Int)) (x1 : List ((Int × Int) × Int)) (k1 : Nat) (a2 : Int) : F40.l0 N x0 x1 (k1 + 1) a2 =
    bif decide (a2 < (x0.length : Int)) then
      bif (decide (0 ≤ a2)) && (decide (a2 < (x0.length : Int))) then
        bif (decide (0 ≤ a2)) && (decide (a2 < (x1.length : Int))) then
          bif !((((((List.getD x0 (Int.toNat a2) ((0, 0), 0)).1).1) == (((List.getD x1 (Int.toNat a2) ((0, 0), 0)).1).1)) && (((((List.getD x0 (Int.toNat a2) ((0, 0), 0)).1).2) == (((List.getD x1 (Int.toNat a2) ((0, 0), 0)).1).2)) && true)) && ((((List.getD x0 (Int.toNat a2) ((0, 0), 0)).2) == ((List.getD x1 (Int.toNat a2) ((0, 0), 0)).2)) && true)) then
            some false
          else
            F40.l0 N x0 x1 k1 (w (a2 + 1))
        else
          none
      else
        none
    else
      some true := by kernel_rfl
theorem F40.eq (N : Nat) (x0 : List ((Int × Int) × Int)) (x1 : List ((Int × Int) × Int)) : F40.fn N (x0, x1) =
    bif !((x0.length : Int) == (x1.length : Int)) then
      some false
    else
      F40.l0 N x0 x1 N 0 := by kernel_rfl

/-! ### F9: skyway/skywaylaw3.FlowAsks -/
def F9.kp : List (Nat × List (Nat × Option (TypeId × Ty))) := [(13, [(0, none), (1, none), (5, none), (6, none), (7, none), (9, none), (10, none), (12, none), (71, none), (72, none), (73, none)])]
noncomputable def F9.G (N : Nat) : List (Nat × Spec) := [(32, .pure (F32.S N)), (33, .pure (F33.S N)), (34, .pure (F34.S N)), (35, .pure (F35.S N)), (36, .pure (F36.S N)), (37, .pure (F37.S N)), (38, .pure (F38.S N)), (39, .pure (F39.S N)), (40, .pure (F40.S N))]
noncomputable def F9.E (N : Nat) : Env := mkEnv (F9.G N) N tyTab F9.kp
noncomputable def F9.fn (N : Nat) (x : List ((Int × Int) × Int) × Int) : Option Bool := evFn (F9.E N) Try.prog 3 Try.f9 false [.cell (.sl 64 (.pair (.pair (.int .i64) (.int .i64)) (.int .i64))), .cell (.int .i64)] [.val (.cell (.bool))] x
noncomputable def F9.S (N : Nat) : PSpec := ⟨false, [.cell (.sl 64 (.pair (.pair (.int .i64) (.int .i64)) (.int .i64))), .cell (.int .i64)], [.val (.cell (.bool))], F9.fn N⟩
theorem f9_enters : Enters Try.prog 9 := ⟨Try.f9, Try.func9, by kernel_rfl, by kernel_rfl⟩
theorem F9.tab (N : Nat) : TabOk Try.prog (F9.G N) := ⟨⟨F32.enters, F32.sound N⟩, ⟨F33.enters, F33.sound N⟩, ⟨F34.enters, F34.sound N⟩, ⟨F35.enters, F35.sound N⟩, ⟨F36.enters, F36.sound N⟩, ⟨F37.enters, F37.sound N⟩, ⟨F38.enters, F38.sound N⟩, ⟨F39.enters, F39.sound N⟩, ⟨F40.enters, F40.sound N⟩, trivial⟩
theorem F9.enters : Enters Try.prog 9 := f9_enters
theorem F9.sound (N : Nat) : Sound Try.prog 9 (F9.S N) := evFn_sound (specs_tab (F9.tab N)) (inls_tab (F9.tab N)) mixed 3 Try.func9 _ _ _
noncomputable def F9.cd (N : Nat) (p : List Nat) : St → (Ex → St → Option Bool) → Option Bool := ev (F9.E N) Try.prog (callD (F9.E N) Try.prog 3) 0 (codeAt (bodyOf Try.f9) p)
noncomputable def F9.fin : Ex → St → Option Bool := endK Try.prog Try.f9 [.val (.cell (.bool))]
noncomputable def F9.l0 (N : Nat) (x0 : List ((Int × Int) × Int)) (x1 : Int) (r2 : Int × Int) (r3 : Int × Int) (r4 : List ((Int × Int) × Int) × Int) (k7 : Nat) (a8 : Int) (a9 : Int) : Option Bool :=
  loopN (norm ((F9.E N).keep 13) 0) (F9.cd N [1, 1, 1, 1, 1, 1, 1, 1, 1, 0, 1, 0, 0]) k7
  ⟨[.ros false 64 (.pair (.pair (.int .i64) (.int .i64)) (.int .i64)) x0, .sc (.int .i64 x1), .any, .any, .any, .sc (.int .i64 r2.1), .sc (.int .i64 r2.2), .sc (.int .i64 r3.1), .any, .own 0, .sc (.int .i64 r4.2), .any, .sc (.int .i64 a8), .any, .any, .any, .any, .any, .any, .any, .any, .any, .any, .any, .any, .any, .any, .any, .any, .any, .any, .any, .any, .any, .any, .any, .any, .any, .any, .any, .any, .any, .any, .any, .any, .any, .any, .any, .any, .any, .any, .any, .any, .any, .any, .any, .any, .any, .any, .any, .any, .any, .any, .any, .any, .any, .any, .any, .any, .any, .any, .ros false 64 (.pair (.pair (.int .i64) (.int .i64)) (.int .i64)) x0, .sc (.int .i64 (x0.length : Int)), .sc (.int .i64 a9), .any, .any, .any, .any, .any, .any, .any, .any, .any, .any, .any, .any, .any, .any, .any, .any, .any, .any, .any, .any, .any, .any, .any, .any, .any, .any, .any, .any, .any, .any, .any, .any, .any, .any, .any, .any, .any, .any, .any, .any, .any, .any, .any, .any, .any, .any, .any, .any, .any, .any, .any, .any, .any, .any, .any, .any, .any, .any, .any, .any, .any, .any, .any, .any, .any, .any, .any, .any, .any, .any, .any, .any, .any], [.rows true 64 (.pair (.pair (.int .i64) (.int .i64)) (.int .i64)) r4.1]⟩
  (blockK 0 (seqK (F9.cd N [1, 1, 1, 1, 1, 1, 1, 1, 1, 1]) F9.fin))
theorem F9.l0_zero (N : Nat) (x0 : List ((Int × Int) × Int)) (x1 : Int) (r2 : Int × Int) (r3 : Int × Int) (r4 : List ((Int × Int) × Int) × Int) (a8 : Int) (a9 : Int) : F9.l0 N x0 x1 r2 r3 r4 0 a8 a9 = none := by kernel_rfl
theorem F9.l0_succ (N : Nat) (x0 : List ((Int × Int) × Int)) (x1 : Int) (r2 : Int × Int) (r3 : Int × Int) (r4 : List ((Int × Int) × Int) × Int) (k7 : Nat) (a8 : Int) (a9 : Int) : F9.l0 N x0 x1 r2 r3 r4 (k7 + 1) a8 a9 =
    bif decide (a9 < (x0.length : Int)) then
      bif (decide (0 ≤ a9)) && (decide (a9 < (x0.length : Int))) then
        bif decide (x1 < (((List.getD x0 (Int.toNat a9) ((0, 0), 0)).1).2)) then
          F9.l0 N x0 x1 r2 r3 r4 k7 (w (a8 + ((List.getD x0 (Int.toNat a9) ((0, 0), 0)).2))) (w (a9 + 1))
        else
          F9.l0 N x0 x1 r2 r3 r4 k7 a8 (w (a9 + 1))
      else
        none
    else
    bif !(r3.1 == a8) then
      some false
    else
      (F38.fn N (x0, x1)).bind fun r10 =>
      bif decide (r10 < 0) then
        bif !(r2.2 == 8) || (r2.2 == 8) then
          bif (!(r2.2 == 8)) || (r2.2 == 8) then
            bif !((r2.2 == 8) && (r4.2 == 8)) || ((r2.2 == 8) && (r4.2 == 8)) then
              bif (!((r2.2 == 8) && (r4.2 == 8))) || ((r2.2 == 8) && (r4.2 == 8)) then
                bif !(((r2.2 == 8) && (r4.2 == 8)) && (r2.1 == 0)) || (((r2.2 == 8) && (r4.2 == 8)) && (r2.1 == 0)) then
                  bif !(((r2.2 == 8) && (r4.2 == 8)) && (r2.1 == 0)) || (((r2.2 == 8) && (r4.2 == 8)) && (r2.1 == 0)) then
                    bif (!(((r2.2 == 8) && (r4.2 == 8)) && (r2.1 == 0))) || (((r2.2 == 8) && (r4.2 == 8)) && (r2.1 == 0)) then
                      some ((((r2.2 == 8) && (r4.2 == 8)) && (r2.1 == 0)) && ((r4.1.length : Int) == 0))
                    else
                      none
                  else
                    none
                else
                  none
              else
                none
            else
              none
          else
            none
        else
          none
      else
      bif !(!(!(r2.2 == 0))) || (!(!(r2.2 == 0))) then
        bif !(!(!(r2.2 == 0))) || (!(!(r2.2 == 0))) then
          bif (!(r2.2 == 0)) || (!(!(r2.2 == 0))) then
            bif (!(r2.2 == 0)) || (!(r2.1 == r10)) then
              some false
            else
            bif (decide (0 ≤ r10)) && (decide (r10 < (x0.length : Int))) then
              bif ((List.getD x0 (Int.toNat r10) ((0, 0), 0)).2) == 0 then
                bif !(r4.2 == 18) || (r4.2 == 18) then
                  bif !(r4.2 == 18) || (r4.2 == 18) then
                    bif (!(r4.2 == 18)) || (r4.2 == 18) then
                      some ((r4.2 == 18) && ((r4.1.length : Int) == 0))
                    else
                      none
                  else
                    none
                else
                  none
              else
                (F39.fn N x0).bind fun r11 =>
                bif (decide (0 ≤ r10)) && (decide (r10 < (r11.length : Int))) then
                  bif decide ((Int.toNat r10) < r11.length) then
                    bif (decide (0 ≤ r10)) && (decide (r10 < (r11.length : Int))) then
                      bif decide ((Int.toNat r10) < r11.length) then
                        bif !(r4.2 == 0) || (r4.2 == 0) then
                          bif !(r4.2 == 0) || (r4.2 == 0) then
                            (bif (r4.2 == 0) then F40.fn N (r4.1, (List.set r11 (Int.toNat r10) ((((List.getD r11 (Int.toNat r10) ((0, 0), 0)).1).1, ((List.getD r11 (Int.toNat r10) ((0, 0), 0)).1).2), (w (((List.getD r11 (Int.toNat r10) ((0, 0), 0)).2) - 1))))) else some (false)).bind fun r12 =>
                            bif (!(r4.2 == 0)) || (r4.2 == 0) then
                              some ((r4.2 == 0) && r12)
                            else
                              none
                          else
                            none
                        else
                          none
                      else
                        none
                    else
                      none
                  else
                    none
                else
                  none
            else
              none
          else
            none
        else
          none
      else
        none := by kernel_rfl
theorem taut28 : ∀ p0 : Bool, ((!(!(!(p0))) || (!(!(p0))))) = true := by decide
theorem taut29 : ∀ p0 : Bool, (((!(p0)) || (!(!(p0))))) = true := by decide
theorem F9.l0_clean (N : Nat) (x0 : List ((Int × Int) × Int)) (x1 : Int) (r2 : Int × Int) (r3 : Int × Int) (r4 : List ((Int × Int) × Int) × Int) (k7 : Nat) (a8 : Int) (a9 : Int) : F9.l0 N x0 x1 r2 r3 r4 (k7 + 1) a8 a9 =
    bif decide (a9 < (x0.length : Int)) then
      bif (decide (0 ≤ a9)) && (decide (a9 < (x0.length : Int))) then
        bif decide (x1 < (((List.getD x0 (Int.toNat a9) ((0, 0), 0)).1).2)) then
          F9.l0 N x0 x1 r2 r3 r4 k7 (w (a8 + ((List.getD x0 (Int.toNat a9) ((0, 0), 0)).2))) (w (a9 + 1))
        else
          F9.l0 N x0 x1 r2 r3 r4 k7 a8 (w (a9 + 1))
      else
        none
    else
    bif !(r3.1 == a8) then
      some false
    else
      (F38.fn N (x0, x1)).bind fun r10 =>
      bif decide (r10 < 0) then
        some ((((r2.2 == 8) && (r4.2 == 8)) && (r2.1 == 0)) && ((r4.1.length : Int) == 0))
      else
      bif (!(r2.2 == 0)) || (!(r2.1 == r10)) then
        some false
      else
      bif (decide (0 ≤ r10)) && (decide (r10 < (x0.length : Int))) then
        bif ((List.getD x0 (Int.toNat r10) ((0, 0), 0)).2) == 0 then
          some ((r4.2 == 18) && ((r4.1.length : Int) == 0))
        else
          (F39.fn N x0).bind fun r11 =>
          bif (decide (0 ≤ r10)) && (decide (r10 < (r11.length : Int))) then
            bif decide ((Int.toNat r10) < r11.length) then
              bif (decide (0 ≤ r10)) && (decide (r10 < (r11.length : Int))) then
                bif decide ((Int.toNat r10) < r11.length) then
                  (bif (r4.2 == 0) then F40.fn N (r4.1, (List.set r11 (Int.toNat r10) ((((List.getD r11 (Int.toNat r10) ((0, 0), 0)).1).1, ((List.getD r11 (Int.toNat r10) ((0, 0), 0)).1).2), (w (((List.getD r11 (Int.toNat r10) ((0, 0), 0)).2) - 1))))) else some (false)).bind fun r12 =>
                  some ((r4.2 == 0) && r12)
                else
                  none
              else
                none
            else
              none
          else
            none
      else
        none := by
  rw [F9.l0_succ]; simp only [taut28, taut10, taut12, taut3, taut18, taut20, taut29, taut4, cond_true]
theorem F9.eq (N : Nat) (x0 : List ((Int × Int) × Int)) (x1 : Int) : F9.fn N (x0, x1) =
    (F32.fn N ()).bind fun r1 =>
    bif !r1 then
      some false
    else
      (F33.fn N (x0, x1)).bind fun r2 =>
      (F34.fn N (x0, x1)).bind fun r3 =>
      (F35.fn N (x0, x1)).bind fun r4 =>
      (F36.fn N x0).bind fun r5 =>
      (F37.fn N x0).bind fun r6 =>
      bif !(!(!(r6 == r5))) || (!(!(r6 == r5))) then
        bif !(!(!(r6 == r5))) || (!(!(r6 == r5))) then
          bif (!(r6 == r5)) || (!(!(r6 == r5))) then
            bif (!(r6 == r5)) || (!(r3.2 == r5)) then
              some false
            else
            bif !(r5 == 0) then
              bif !(r2.2 == r5) || (r2.2 == r5) then
                bif !(r2.2 == r5) || (r2.2 == r5) then
                  bif (!(r2.2 == r5)) || (r2.2 == r5) then
                    bif !((r2.2 == r5) && (r4.2 == r5)) || ((r2.2 == r5) && (r4.2 == r5)) then
                      bif (!((r2.2 == r5) && (r4.2 == r5))) || ((r2.2 == r5) && (r4.2 == r5)) then
                        bif !(((r2.2 == r5) && (r4.2 == r5)) && (r2.1 == 0)) || (((r2.2 == r5) && (r4.2 == r5)) && (r2.1 == 0)) then
                          bif (!(((r2.2 == r5) && (r4.2 == r5)) && (r2.1 == 0))) || (((r2.2 == r5) && (r4.2 == r5)) && (r2.1 == 0)) then
                            bif !((((r2.2 == r5) && (r4.2 == r5)) && (r2.1 == 0)) && (r3.1 == 0)) || ((((r2.2 == r5) && (r4.2 == r5)) && (r2.1 == 0)) && (r3.1 == 0)) then
                              bif !((((r2.2 == r5) && (r4.2 == r5)) && (r2.1 == 0)) && (r3.1 == 0)) || ((((r2.2 == r5) && (r4.2 == r5)) && (r2.1 == 0)) && (r3.1 == 0)) then
                                bif (!((((r2.2 == r5) && (r4.2 == r5)) && (r2.1 == 0)) && (r3.1 == 0))) || ((((r2.2 == r5) && (r4.2 == r5)) && (r2.1 == 0)) && (r3.1 == 0)) then
                                  some (((((r2.2 == r5) && (r4.2 == r5)) && (r2.1 == 0)) && (r3.1 == 0)) && ((r4.1.length : Int) == 0))
                                else
                                  none
                              else
                                none
                            else
                              none
                          else
                            none
                        else
                          none
                      else
                        none
                    else
                      none
                  else
                    none
                else
                  none
              else
                none
            else
              F9.l0 N x0 x1 r2 r3 r4 N 0 0
          else
            none
        else
          none
      else
        none := by kernel_rfl
theorem F9.clean (N : Nat) (x0 : List ((Int × Int) × Int)) (x1 : Int) : F9.fn N (x0, x1) =
    (F32.fn N ()).bind fun r1 =>
    bif !r1 then
      some false
    else
      (F33.fn N (x0, x1)).bind fun r2 =>
      (F34.fn N (x0, x1)).bind fun r3 =>
      (F35.fn N (x0, x1)).bind fun r4 =>
      (F36.fn N x0).bind fun r5 =>
      (F37.fn N x0).bind fun r6 =>
      bif (!(r6 == r5)) || (!(r3.2 == r5)) then
        some false
      else
      bif !(r5 == 0) then
        some (((((r2.2 == r5) && (r4.2 == r5)) && (r2.1 == 0)) && (r3.1 == 0)) && ((r4.1.length : Int) == 0))
      else
        F9.l0 N x0 x1 r2 r3 r4 N 0 0 := by
  rw [F9.eq]; simp only [taut28, taut8, taut10, taut12, taut3, taut16, taut18, taut20, taut29, taut4, cond_true]

/-! ### F44: skyway/skywaylaw3.FlowDemands$1 -/
def F44.kp : List (Nat × List (Nat × Option (TypeId × Ty))) := []
noncomputable def F44.G (N : Nat) : List (Nat × Spec) := []
noncomputable def F44.E (N : Nat) : Env := mkEnv (F44.G N) N tyTab F44.kp
noncomputable def F44.fn (N : Nat) (x : Int) : Option Bool := evFn (F44.E N) Try.prog 3 Try.f44 false [.cell (.int .i64)] [.val (.cell (.bool))] x
noncomputable def F44.S (N : Nat) : PSpec := ⟨false, [.cell (.int .i64)], [.val (.cell (.bool))], F44.fn N⟩
theorem f44_enters : Enters Try.prog 44 := ⟨Try.f44, Try.func44, by kernel_rfl, by kernel_rfl⟩
theorem F44.tab (N : Nat) : TabOk Try.prog (F44.G N) := trivial
theorem F44.enters : Enters Try.prog 44 := f44_enters
theorem F44.sound (N : Nat) : Sound Try.prog 44 (F44.S N) := evFn_sound (specs_tab (F44.tab N)) (inls_tab (F44.tab N)) mixed 3 Try.func44 _ _ _
theorem F44.eq (N : Nat) (x0 : Int) : F44.fn N x0 =
    bif !(!(decide (x0 < 0))) || (!(decide (x0 < 0))) then
      bif (decide (x0 < 0)) || (!(decide (x0 < 0))) then
        some ((decide (x0 < 0)) || (decide (x0 > 200000)))
      else
        none
    else
      none := by kernel_rfl
theorem F44.clean (N : Nat) (x0 : Int) : F44.fn N x0 =
    some ((decide (x0 < 0)) || (decide (x0 > 200000))) := by
  rw [F44.eq]; simp only [taut2, taut6, cond_true]

/-! ### F45: skyway/skywayref3.CapDemand -/
def F45.kp : List (Nat × List (Nat × Option (TypeId × Ty))) := [(4, [(0, none), (1, none), (6, some (3, .int .i64)), (7, none), (15, none), (16, none)]), (8, [(0, none), (1, none), (6, none), (7, none), (8, none), (9, none), (15, none), (16, none), (19, none), (20, none), (21, none)])]
noncomputable def F45.G (N : Nat) : List (Nat × Spec) := [(38, .pure (F38.S N))]
noncomputable def F45.E (N : Nat) : Env := mkEnv (F45.G N) N tyTab F45.kp
noncomputable def F45.fn (N : Nat) (x : List ((Int × Int) × Int) × List Int) : Option (List Int × Int) := evFn (F45.E N) Try.prog 3 Try.f45 false [.cell (.sl 64 (.pair (.pair (.int .i64) (.int .i64)) (.int .i64))), .cell (.sl 3 (.int .i64))] [.own 3 (.int .i64), .val (.cell (.int .i64))] x
noncomputable def F45.S (N : Nat) : PSpec := ⟨false, [.cell (.sl 64 (.pair (.pair (.int .i64) (.int .i64)) (.int .i64))), .cell (.sl 3 (.int .i64))], [.own 3 (.int .i64), .val (.cell (.int .i64))], F45.fn N⟩
theorem f45_enters : Enters Try.prog 45 := ⟨Try.f45, Try.func45, by kernel_rfl, by kernel_rfl⟩
theorem F45.tab (N : Nat) : TabOk Try.prog (F45.G N) := ⟨⟨F38.enters, F38.sound N⟩, trivial⟩
theorem F45.enters : Enters Try.prog 45 := f45_enters
theorem F45.sound (N : Nat) : Sound Try.prog 45 (F45.S N) := evFn_sound (specs_tab (F45.tab N)) (inls_tab (F45.tab N)) mixed 3 Try.func45 _ _ _
noncomputable def F45.cd (N : Nat) (p : List Nat) : St → (Ex → St → Option (List Int × Int)) → Option (List Int × Int) := ev (F45.E N) Try.prog (callD (F45.E N) Try.prog 3) 0 (codeAt (bodyOf Try.f45) p)
noncomputable def F45.fin : Ex → St → Option (List Int × Int) := endK Try.prog Try.f45 [.own 3 (.int .i64), .val (.cell (.int .i64))]
noncomputable def F45.l0 (N : Nat) (x0 : List ((Int × Int) × Int)) (x1 : List Int) (k1 : Nat) (a2 : Int) (a3 : Int) (a4 : List Int) : Option (List Int × Int) :=
  loopN (norm ((F45.E N).keep 4) 0) (F45.cd N [1, 1, 1, 0, 1, 0, 0]) k1
  ⟨[.ros false 64 (.pair (.pair (.int .i64) (.int .i64)) (.int .i64)) x0, .ros false 3 (.int .i64) x1, .any, .any, .any, .any, .own 0, .sc (.int .i64 a2), .any, .any, .any, .any, .any, .any, .any, .sc (.int .i64 (x0.length : Int)), .sc (.int .i64 a3), .any, .any, .any, .any, .any, .any, .any, .any, .any, .any, .any, .any, .any, .any, .any, .any, .any, .any, .any, .any, .any, .any, .any, .any, .any, .any], [.rows true 3 (.int .i64) a4]⟩
  (blockK 0 (seqK (F45.cd N [1, 1, 1, 1]) F45.fin))
noncomputable def F45.l1 (N : Nat) (x0 : List ((Int × Int) × Int)) (x1 : List Int) (k1 : Nat) (a2 : Int) (a3 : Int) (a4 : List Int) (k5 : Nat) (a6 : Int) (a7 : Int) : Option (List Int × Int) :=
  loopN (norm ((F45.E N).keep 8) 0) (F45.cd N [1, 1, 1, 0, 1, 0, 0, 1, 1, 0, 0, 1, 1, 0, 1, 0, 0]) k5
  ⟨[.ros false 64 (.pair (.pair (.int .i64) (.int .i64)) (.int .i64)) x0, .ros false 3 (.int .i64) x1, .any, .any, .any, .any, .own 0, .sc (.int .i64 a2), .sc (.int .i64 a3), .sc (.int .i64 a6), .any, .any, .any, .any, .any, .sc (.int .i64 (x0.length : Int)), .sc (.int .i64 a3), .any, .any, .ros false 3 (.int .i64) x1, .sc (.int .i64 (x1.length : Int)), .sc (.int .i64 a7), .any, .any, .any, .any, .any, .any, .any, .any, .any, .any, .any, .any, .any, .any, .any, .any, .any, .any, .any, .any, .any], [.rows true 3 (.int .i64) a4]⟩
  (blockK 2 (seqK (F45.cd N [1, 1, 1, 0, 1, 0, 0, 1, 1, 0, 0, 1, 1, 1]) (blockK 1 (seqK (F45.cd N [1, 1, 1, 0, 1, 0, 0, 1, 1, 1]) (loopK (norm ((F45.E N).keep 4) 0) (F45.cd N [1, 1, 1, 0, 1, 0, 0]) k1 (blockK 0 (seqK (F45.cd N [1, 1, 1, 1]) F45.fin)))))))
theorem F45.l1_zero (N : Nat) (x0 : List ((Int × Int) × Int)) (x1 : List Int) (k1 : Nat) (a2 : Int) (a3 : Int) (a4 : List Int) (a6 : Int) (a7 : Int) : F45.l1 N x0 x1 k1 a2 a3 a4 0 a6 a7 = none := by kernel_rfl
theorem F45.l1_succ (N : Nat) (x0 : List ((Int × Int) × Int)) (x1 : List Int) (k1 : Nat) (a2 : Int) (a3 : Int) (a4 : List Int) (k5 : Nat) (a6 : Int) (a7 : Int) : F45.l1 N x0 x1 k1 a2 a3 a4 (k5 + 1) a6 a7 =
    bif decide (a7 < (x1.length : Int)) then
      bif (decide (0 ≤ a7)) && (decide (a7 < (x1.length : Int))) then
        (F38.fn N (x0, (List.getD x1 (Int.toNat a7) 0))).bind fun r8 =>
        bif r8 == a3 then
          F45.l1 N x0 x1 k1 a2 a3 a4 k5 (w (a6 + 1)) (w (a7 + 1))
        else
          F45.l1 N x0 x1 k1 a2 a3 a4 k5 a6 (w (a7 + 1))
      else
        none
    else
    bif decide ((a4.length + 1) * 8 ≤ 140737488355328) && decide ((a4.length + 1) ≤ maxLen) then
      F45.l0 N x0 x1 k1 (w (a2 - a6)) (w (a3 + 1)) (a4 ++ [a6])
    else
      none := by kernel_rfl
theorem F45.l0_zero (N : Nat) (x0 : List ((Int × Int) × Int)) (x1 : List Int) (a2 : Int) (a3 : Int) (a4 : List Int) : F45.l0 N x0 x1 0 a2 a3 a4 = none := by kernel_rfl
theorem F45.l0_succ (N : Nat) (x0 : List ((Int × Int) × Int)) (x1 : List Int) (k1 : Nat) (a2 : Int) (a3 : Int) (a4 : List Int) : F45.l0 N x0 x1 (k1 + 1) a2 a3 a4 =
    bif decide (a3 < (x0.length : Int)) then
      F45.l1 N x0 x1 k1 a2 a3 a4 N 0 0
    else
      some (a4, a2) := by kernel_rfl
theorem F45.eq (N : Nat) (x0 : List ((Int × Int) × Int)) (x1 : List Int) : F45.fn N (x0, x1) =
    F45.l0 N x0 x1 N (x1.length : Int) 0 [] := by kernel_rfl

/-! ### F10: skyway/skywaylaw3.FlowDemands -/
def F10.kp : List (Nat × List (Nat × Option (TypeId × Ty))) := [(2, [(0, none), (1, none), (7, none), (8, none)]), (15, [(0, none), (5, none), (6, none), (7, none), (8, none), (9, none), (11, none), (12, none), (13, some (3, .int .i64)), (74, none), (75, none)]), (1000008, [(0, none), (1, none), (5, none), (6, none), (7, none), (8, none), (9, none), (10, none)])]
noncomputable def F10.G (N : Nat) : List (Nat × Spec) := [(32, .pure (F32.S N)), (36, .pure (F36.S N)), (41, .pure (F41.S N)), (42, .pure (F42.S N)), (44, .pure (F44.S N)), (45, .pure (F45.S N)), (46, .pure (F46.S N)), (43, .inl Try.f43), (70, .inl Try.f70)]
noncomputable def F10.E (N : Nat) : Env := mkEnv (F10.G N) N tyTab F10.kp
noncomputable def F10.fn (N : Nat) (x : List ((Int × Int) × Int) × List Int) : Option Bool := evFn (F10.E N) Try.prog 3 Try.f10 false [.cell (.sl 64 (.pair (.pair (.int .i64) (.int .i64)) (.int .i64))), .cell (.sl 3 (.int .i64))] [.val (.cell (.bool))] x
noncomputable def F10.S (N : Nat) : PSpec := ⟨false, [.cell (.sl 64 (.pair (.pair (.int .i64) (.int .i64)) (.int .i64))), .cell (.sl 3 (.int .i64))], [.val (.cell (.bool))], F10.fn N⟩
theorem f43_enters : Enters Try.prog 43 := ⟨Try.f43, Try.func43, by kernel_rfl, by kernel_rfl⟩
theorem f70_enters : Enters Try.prog 70 := ⟨Try.f70, Try.func70, by kernel_rfl, by kernel_rfl⟩
theorem f10_enters : Enters Try.prog 10 := ⟨Try.f10, Try.func10, by kernel_rfl, by kernel_rfl⟩
theorem F10.tab (N : Nat) : TabOk Try.prog (F10.G N) := ⟨⟨F32.enters, F32.sound N⟩, ⟨F36.enters, F36.sound N⟩, ⟨F41.enters, F41.sound N⟩, ⟨F42.enters, F42.sound N⟩, ⟨F44.enters, F44.sound N⟩, ⟨F45.enters, F45.sound N⟩, ⟨F46.enters, F46.sound N⟩, ⟨f43_enters, Try.func43⟩, ⟨f70_enters, Try.func70⟩, trivial⟩
theorem F10.enters : Enters Try.prog 10 := f10_enters
theorem F10.sound (N : Nat) : Sound Try.prog 10 (F10.S N) := evFn_sound (specs_tab (F10.tab N)) (inls_tab (F10.tab N)) mixed 3 Try.func10 _ _ _
noncomputable def F10.cd (N : Nat) (p : List Nat) : St → (Ex → St → Option Bool) → Option Bool := ev (F10.E N) Try.prog (callD (F10.E N) Try.prog 3) 0 (codeAt (bodyOf Try.f10) p)
noncomputable def F10.cd43_2_2 (N : Nat) (p : List Nat) : St → (Ex → St → Option Bool) → Option Bool := ev (F10.E N) Try.prog (callD (F10.E N) Try.prog 2) 2 (codeAt (bodyOf Try.f43) p)
noncomputable def F10.cd70_1_2 (N : Nat) (p : List Nat) : St → (Ex → St → Option Bool) → Option Bool := ev (F10.E N) Try.prog (callD (F10.E N) Try.prog 1) 2 (codeAt (bodyOf Try.f70) p)
noncomputable def F10.fin : Ex → St → Option Bool := endK Try.prog Try.f10 [.val (.cell (.bool))]
noncomputable def F10.j0 (N : Nat) (x0 : List ((Int × Int) × Int)) (x1 : List Int) (r2 : List Int × Int × Int) (r3 : List Int × Int) (a5 : Int) : Option Bool :=
  fuelK N (region (F10.E N) Try.prog (callD (F10.E N) Try.prog 3) (opsAt (codeAt (bodyOf Try.f10) [1, 1, 1, 1, 1, 1, 0, 0])) false
  ⟨[.ros false 64 (.pair (.pair (.int .i64) (.int .i64)) (.int .i64)) x0, .ros false 3 (.int .i64) x1, .any, .any, .any, .own 0, .sc (.int .i64 r2.2.1), .sc (.int .i64 r2.2.2), .own 1, .sc (.int .i64 r3.2), .sc (.int .i64 a5), .any, .any, .any, .any, .any, .any, .any, .any, .any, .any, .any, .any, .any, .any, .any, .any, .any, .any, .any, .any, .any, .any, .any, .any, .any, .any, .any, .any, .any, .any, .any, .any, .any, .any, .any, .any, .any, .any, .any, .any, .any, .any, .any, .any, .any, .any, .any, .any, .any, .any, .any, .any, .any, .any, .any, .any, .any, .any, .any, .any, .any, .any, .any, .any, .any, .any, .any, .any, .any, .any, .any, .any, .any, .any, .any, .any, .any, .any, .any, .any, .any, .any, .any, .any, .any, .any, .any, .any, .any, .any, .any, .any, .any, .any, .any, .any, .any, .any, .any, .any, .any, .any, .any], [.rows true 3 (.int .i64) r2.1, .rows true 3 (.int .i64) r3.1]⟩
  (fun S => (seqK (F10.cd N [1, 1, 1, 1, 1, 1, 0, 1]) (seqK (F10.cd N [1, 1, 1, 1, 1, 1, 1]) F10.fin)) .normal S))
noncomputable def F10.l1 (N : Nat) (x0 : List ((Int × Int) × Int)) (x1 : List Int) (r2 : List Int × Int × Int) (r3 : List Int × Int) (a5 : Int) (k6 : Nat) (a7 : Int) : Option Bool :=
  loopN (norm ((F10.E N).keep 2) 2) (F10.cd70_1_2 N [1, 0, 1, 0, 0]) k6
  ⟨[.ros false 3 (.int .i64) x1, .clo 44 [], .any, .any, .any, .any, .any, .sc (.int .i64 (x1.length : Int)), .sc (.int .i64 a7), .any, .any, .any, .any, .any, .any, .any, .any, .any, .any], [.rows true 3 (.int .i64) r2.1, .rows true 3 (.int .i64) r3.1]⟩
  (blockK 0 (seqK (F10.cd70_1_2 N [1, 1]) (retK Try.prog Try.f70 (fun vs hp => (reg (F10.E N) Try.prog (callD (F10.E N) Try.prog 2) (opsAt (codeAt (bodyOf Try.f43) [1, 0])) [] (List.drop 3 (opsAt (codeAt (bodyOf Try.f43) [1, 0]))) (St.put ⟨[.ros false 3 (.int .i64) x1, .clo 44 [], .any, .any, .sc (.bool false), .ros false 3 (.int .i64) x1, .clo 44 [], .any, .any], hp⟩ (some 7) (tupOf vs)) (fun S => (seqK (F10.cd43_2_2 N [1, 1]) (retK Try.prog Try.f43 (fun vs hp => (reg (F10.E N) Try.prog (callD (F10.E N) Try.prog 3) (opsAt (codeAt (bodyOf Try.f10) [1, 1, 1, 1, 1, 1, 0, 0])) [41] (List.drop 5 (opsAt (codeAt (bodyOf Try.f10) [1, 1, 1, 1, 1, 1, 0, 0]))) (St.put ⟨[.ros false 64 (.pair (.pair (.int .i64) (.int .i64)) (.int .i64)) x0, .ros false 3 (.int .i64) x1, .any, .any, .any, .own 0, .sc (.int .i64 r2.2.1), .sc (.int .i64 r2.2.2), .own 1, .sc (.int .i64 r3.2), .sc (.int .i64 a5), .any, .any, .any, .any, .any, .any, .any, .any, .any, .any, .any, .any, .any, .any, .any, .any, .any, .any, .any, .any, .any, .any, .any, .any, .any, .any, .any, .any, .sc (.int .i64 a5), .sc (.bool (a5 == 0)), .sc (.bool true), .gd (a5 == 0) (.ros false 3 (.int .i64) x1), .any, .any, .any, .any, .any, .any, .any, .any, .any, .any, .any, .any, .any, .any, .any, .any, .any, .any, .any, .any, .any, .any, .any, .any, .any, .any, .any, .any, .any, .any, .any, .any, .any, .any, .any, .any, .any, .any, .any, .any, .any, .any, .any, .any, .any, .any, .any, .any, .any, .any, .any, .any, .any, .any, .any, .any, .any, .any, .any, .any, .any, .any, .any, .any, .any, .any, .any, .any, .any, .any, .any], hp⟩ (some 43) (tupOf vs)) (fun S => (seqK (F10.cd N [1, 1, 1, 1, 1, 1, 0, 1]) (seqK (F10.cd N [1, 1, 1, 1, 1, 1, 1]) F10.fin)) .normal S))))) .normal S))))))
noncomputable def F10.l2 (N : Nat) (x0 : List ((Int × Int) × Int)) (r2 : List Int × Int × Int) (r3 : List Int × Int) (r9 : List Int × Int) (k10 : Nat) (a11 : Int) (a12 : List Int) : Option Bool :=
  loopN (norm ((F10.E N).keep 15) 0) (F10.cd N [1, 1, 1, 1, 1, 1, 1, 1, 1, 1, 0, 1, 0, 0]) k10
  ⟨[.ros false 64 (.pair (.pair (.int .i64) (.int .i64)) (.int .i64)) x0, .any, .any, .any, .any, .own 0, .sc (.int .i64 r2.2.1), .sc (.int .i64 r2.2.2), .own 1, .sc (.int .i64 r3.2), .any, .own 2, .sc (.int .i64 r9.2), .own 3, .any, .any, .any, .any, .any, .any, .any, .any, .any, .any, .any, .any, .any, .any, .any, .any, .any, .any, .any, .any, .any, .any, .any, .any, .any, .any, .any, .any, .any, .any, .any, .any, .any, .any, .any, .any, .any, .any, .any, .any, .any, .any, .any, .any, .any, .any, .any, .any, .any, .any, .any, .any, .any, .any, .any, .any, .any, .any, .any, .any, .sc (.int .i64 (x0.length : Int)), .sc (.int .i64 a11), .any, .any, .any, .any, .any, .any, .any, .any, .any, .any, .any, .any, .any, .any, .any, .any, .any, .any, .any, .any, .any, .any, .any, .any, .any, .any, .any, .any, .any, .any, .any, .any, .any, .any, .any, .any, .any, .any], [.rows true 3 (.int .i64) r2.1, .rows true 3 (.int .i64) r3.1, .rows true 3 (.int .i64) r9.1, .rows true 3 (.int .i64) a12]⟩
  (blockK 0 (seqK (F10.cd N [1, 1, 1, 1, 1, 1, 1, 1, 1, 1, 1]) F10.fin))
noncomputable def F10.l3 (N : Nat) (x0 : List ((Int × Int) × Int)) (r2 : List Int × Int × Int) (r3 : List Int × Int) (r15 : List Int × Int) (k16 : Nat) (a17 : Int) (a18 : List Int) : Option Bool :=
  loopN (norm ((F10.E N).keep 15) 0) (F10.cd N [1, 1, 1, 1, 1, 1, 1, 1, 1, 1, 0, 1, 0, 0]) k16
  ⟨[.ros false 64 (.pair (.pair (.int .i64) (.int .i64)) (.int .i64)) x0, .any, .any, .any, .any, .own 0, .sc (.int .i64 r2.2.1), .sc (.int .i64 r2.2.2), .own 1, .sc (.int .i64 r3.2), .any, .own 2, .sc (.int .i64 r15.2), .own 3, .any, .any, .any, .any, .any, .any, .any, .any, .any, .any, .any, .any, .any, .any, .any, .any, .any, .any, .any, .any, .any, .any, .any, .any, .any, .any, .any, .any, .any, .any, .any, .any, .any, .any, .any, .any, .any, .any, .any, .any, .any, .any, .any, .any, .any, .any, .any, .any, .any, .any, .any, .any, .any, .any, .any, .any, .any, .any, .any, .any, .sc (.int .i64 (x0.length : Int)), .sc (.int .i64 a17), .any, .any, .any, .any, .any, .any, .any, .any, .any, .any, .any, .any, .any, .any, .any, .any, .any, .any, .any, .any, .any, .any, .any, .any, .any, .any, .any, .any, .any, .any, .any, .any, .any, .any, .any, .any, .any, .any], [.rows true 3 (.int .i64) r2.1, .rows true 3 (.int .i64) r3.1, .rows true 3 (.int .i64) r15.1, .rows true 3 (.int .i64) a18]⟩
  (blockK 0 (seqK (F10.cd N [1, 1, 1, 1, 1, 1, 1, 1, 1, 1, 1]) F10.fin))
noncomputable def F10.l4 (N : Nat) (x0 : List ((Int × Int) × Int)) (r2 : List Int × Int × Int) (r3 : List Int × Int) (r21 : List Int × Int) (k22 : Nat) (a23 : Int) (a24 : List Int) : Option Bool :=
  loopN (norm ((F10.E N).keep 15) 0) (F10.cd N [1, 1, 1, 1, 1, 1, 1, 1, 1, 1, 0, 1, 0, 0]) k22
  ⟨[.ros false 64 (.pair (.pair (.int .i64) (.int .i64)) (.int .i64)) x0, .any, .any, .any, .any, .own 0, .sc (.int .i64 r2.2.1), .sc (.int .i64 r2.2.2), .own 1, .sc (.int .i64 r3.2), .any, .own 2, .sc (.int .i64 r21.2), .own 3, .any, .any, .any, .any, .any, .any, .any, .any, .any, .any, .any, .any, .any, .any, .any, .any, .any, .any, .any, .any, .any, .any, .any, .any, .any, .any, .any, .any, .any, .any, .any, .any, .any, .any, .any, .any, .any, .any, .any, .any, .any, .any, .any, .any, .any, .any, .any, .any, .any, .any, .any, .any, .any, .any, .any, .any, .any, .any, .any, .any, .sc (.int .i64 (x0.length : Int)), .sc (.int .i64 a23), .any, .any, .any, .any, .any, .any, .any, .any, .any, .any, .any, .any, .any, .any, .any, .any, .any, .any, .any, .any, .any, .any, .any, .any, .any, .any, .any, .any, .any, .any, .any, .any, .any, .any, .any, .any, .any, .any], [.rows true 3 (.int .i64) r2.1, .rows true 3 (.int .i64) r3.1, .rows true 3 (.int .i64) r21.1, .rows true 3 (.int .i64) a24]⟩
  (blockK 0 (seqK (F10.cd N [1, 1, 1, 1, 1, 1, 1, 1, 1, 1, 1]) F10.fin))
theorem F10.l4_zero (N : Nat) (x0 : List ((Int × Int) × Int)) (r2 : List Int × Int × Int) (r3 : List Int × Int) (r21 : List Int × Int) (a23 : Int) (a24 : List Int) : F10.l4 N x0 r2 r3 r21 0 a23 a24 = none := by kernel_rfl
theorem F10.l4_succ (N : Nat) (x0 : List ((Int × Int) × Int)) (r2 : List Int × Int × Int) (r3 : List Int × Int) (r21 : List Int × Int) (k22 : Nat) (a23 : Int) (a24 : List Int) : F10.l4 N x0 r2 r3 r21 (k22 + 1) a23 a24 =
    bif decide (a23 < (x0.length : Int)) then
      bif (decide (0 ≤ a23)) && (decide (a23 < (r21.1.length : Int))) then
        bif decide ((Int.toNat a23) < r21.1.length) then
          bif (decide (0 ≤ a23)) && (decide (a23 < (x0.length : Int))) then
            bif decide ((List.getD r21.1 (Int.toNat a23) 0) > ((List.getD x0 (Int.toNat a23) ((0, 0), 0)).2)) then
              bif decide ((a24.length + 1) * 8 ≤ 140737488355328) && decide ((a24.length + 1) ≤ maxLen) then
                F10.l4 N x0 r2 r3 r21 k22 (w (a23 + 1)) (a24 ++ [a23])
              else
                none
            else
              F10.l4 N x0 r2 r3 r21 k22 (w (a23 + 1)) a24
          else
            none
        else
          none
      else
        none
    else
    bif !(r2.2.2 == 0) || (r2.2.2 == 0) then
      bif (!(r2.2.2 == 0)) || (r2.2.2 == 0) then
        bif !((r2.2.2 == 0) && (r3.2 == 0)) || ((r2.2.2 == 0) && (r3.2 == 0)) then
          bif !((r2.2.2 == 0) && (r3.2 == 0)) || ((r2.2.2 == 0) && (r3.2 == 0)) then
            (bif ((r2.2.2 == 0) && (r3.2 == 0)) then F46.fn N (r2.1, r21.1) else some (false)).bind fun r25 =>
            bif (!((r2.2.2 == 0) && (r3.2 == 0))) || ((r2.2.2 == 0) && (r3.2 == 0)) then
              bif !(((r2.2.2 == 0) && (r3.2 == 0)) && r25) || (((r2.2.2 == 0) && (r3.2 == 0)) && r25) then
                bif !(((r2.2.2 == 0) && (r3.2 == 0)) && r25) || (((r2.2.2 == 0) && (r3.2 == 0)) && r25) then
                  bif (!(((r2.2.2 == 0) && (r3.2 == 0)) && r25)) || (((r2.2.2 == 0) && (r3.2 == 0)) && r25) then
                    bif !((((r2.2.2 == 0) && (r3.2 == 0)) && r25) && (r2.2.1 == r21.2)) || ((((r2.2.2 == 0) && (r3.2 == 0)) && r25) && (r2.2.1 == r21.2)) then
                      bif !((((r2.2.2 == 0) && (r3.2 == 0)) && r25) && (r2.2.1 == r21.2)) || ((((r2.2.2 == 0) && (r3.2 == 0)) && r25) && (r2.2.1 == r21.2)) then
                        (bif ((((r2.2.2 == 0) && (r3.2 == 0)) && r25) && (r2.2.1 == r21.2)) then F46.fn N (r3.1, a24) else some (false)).bind fun r26 =>
                        bif (!((((r2.2.2 == 0) && (r3.2 == 0)) && r25) && (r2.2.1 == r21.2))) || ((((r2.2.2 == 0) && (r3.2 == 0)) && r25) && (r2.2.1 == r21.2)) then
                          some (((((r2.2.2 == 0) && (r3.2 == 0)) && r25) && (r2.2.1 == r21.2)) && r26)
                        else
                          none
                      else
                        none
                    else
                      none
                  else
                    none
                else
                  none
              else
                none
            else
              none
          else
            none
        else
          none
      else
        none
    else
      none := by kernel_rfl
theorem F10.l3_zero (N : Nat) (x0 : List ((Int × Int) × Int)) (r2 : List Int × Int × Int) (r3 : List Int × Int) (r15 : List Int × Int) (a17 : Int) (a18 : List Int) : F10.l3 N x0 r2 r3 r15 0 a17 a18 = none := by kernel_rfl
theorem F10.l3_succ (N : Nat) (x0 : List ((Int × Int) × Int)) (r2 : List Int × Int × Int) (r3 : List Int × Int) (r15 : List Int × Int) (k16 : Nat) (a17 : Int) (a18 : List Int) : F10.l3 N x0 r2 r3 r15 (k16 + 1) a17 a18 =
    bif decide (a17 < (x0.length : Int)) then
      bif (decide (0 ≤ a17)) && (decide (a17 < (r15.1.length : Int))) then
        bif decide ((Int.toNat a17) < r15.1.length) then
          bif (decide (0 ≤ a17)) && (decide (a17 < (x0.length : Int))) then
            bif decide ((List.getD r15.1 (Int.toNat a17) 0) > ((List.getD x0 (Int.toNat a17) ((0, 0), 0)).2)) then
              bif decide ((a18.length + 1) * 8 ≤ 140737488355328) && decide ((a18.length + 1) ≤ maxLen) then
                F10.l3 N x0 r2 r3 r15 k16 (w (a17 + 1)) (a18 ++ [a17])
              else
                none
            else
              F10.l3 N x0 r2 r3 r15 k16 (w (a17 + 1)) a18
          else
            none
        else
          none
      else
        none
    else
    bif !(r2.2.2 == 0) || (r2.2.2 == 0) then
      bif (!(r2.2.2 == 0)) || (r2.2.2 == 0) then
        bif !((r2.2.2 == 0) && (r3.2 == 0)) || ((r2.2.2 == 0) && (r3.2 == 0)) then
          bif !((r2.2.2 == 0) && (r3.2 == 0)) || ((r2.2.2 == 0) && (r3.2 == 0)) then
            (bif ((r2.2.2 == 0) && (r3.2 == 0)) then F46.fn N (r2.1, r15.1) else some (false)).bind fun r19 =>
            bif (!((r2.2.2 == 0) && (r3.2 == 0))) || ((r2.2.2 == 0) && (r3.2 == 0)) then
              bif !(((r2.2.2 == 0) && (r3.2 == 0)) && r19) || (((r2.2.2 == 0) && (r3.2 == 0)) && r19) then
                bif !(((r2.2.2 == 0) && (r3.2 == 0)) && r19) || (((r2.2.2 == 0) && (r3.2 == 0)) && r19) then
                  bif (!(((r2.2.2 == 0) && (r3.2 == 0)) && r19)) || (((r2.2.2 == 0) && (r3.2 == 0)) && r19) then
                    bif !((((r2.2.2 == 0) && (r3.2 == 0)) && r19) && (r2.2.1 == r15.2)) || ((((r2.2.2 == 0) && (r3.2 == 0)) && r19) && (r2.2.1 == r15.2)) then
                      bif !((((r2.2.2 == 0) && (r3.2 == 0)) && r19) && (r2.2.1 == r15.2)) || ((((r2.2.2 == 0) && (r3.2 == 0)) && r19) && (r2.2.1 == r15.2)) then
                        (bif ((((r2.2.2 == 0) && (r3.2 == 0)) && r19) && (r2.2.1 == r15.2)) then F46.fn N (r3.1, a18) else some (false)).bind fun r20 =>
                        bif (!((((r2.2.2 == 0) && (r3.2 == 0)) && r19) && (r2.2.1 == r15.2))) || ((((r2.2.2 == 0) && (r3.2 == 0)) && r19) && (r2.2.1 == r15.2)) then
                          some (((((r2.2.2 == 0) && (r3.2 == 0)) && r19) && (r2.2.1 == r15.2)) && r20)
                        else
                          none
                      else
                        none
                    else
                      none
                  else
                    none
                else
                  none
              else
                none
            else
              none
          else
            none
        else
          none
      else
        none
    else
      none := by kernel_rfl
theorem F10.l2_zero (N : Nat) (x0 : List ((Int × Int) × Int)) (r2 : List Int × Int × Int) (r3 : List Int × Int) (r9 : List Int × Int) (a11 : Int) (a12 : List Int) : F10.l2 N x0 r2 r3 r9 0 a11 a12 = none := by kernel_rfl
theorem F10.l2_succ (N : Nat) (x0 : List ((Int × Int) × Int)) (r2 : List Int × Int × Int) (r3 : List Int × Int) (r9 : List Int × Int) (k10 : Nat) (a11 : Int) (a12 : List Int) : F10.l2 N x0 r2 r3 r9 (k10 + 1) a11 a12 =
    bif decide (a11 < (x0.length : Int)) then
      bif (decide (0 ≤ a11)) && (decide (a11 < (r9.1.length : Int))) then
        bif decide ((Int.toNat a11) < r9.1.length) then
          bif (decide (0 ≤ a11)) && (decide (a11 < (x0.length : Int))) then
            bif decide ((List.getD r9.1 (Int.toNat a11) 0) > ((List.getD x0 (Int.toNat a11) ((0, 0), 0)).2)) then
              bif decide ((a12.length + 1) * 8 ≤ 140737488355328) && decide ((a12.length + 1) ≤ maxLen) then
                F10.l2 N x0 r2 r3 r9 k10 (w (a11 + 1)) (a12 ++ [a11])
              else
                none
            else
              F10.l2 N x0 r2 r3 r9 k10 (w (a11 + 1)) a12
          else
            none
        else
          none
      else
        none
    else
    bif !(r2.2.2 == 0) || (r2.2.2 == 0) then
      bif (!(r2.2.2 == 0)) || (r2.2.2 == 0) then
        bif !((r2.2.2 == 0) && (r3.2 == 0)) || ((r2.2.2 == 0) && (r3.2 == 0)) then
          bif !((r2.2.2 == 0) && (r3.2 == 0)) || ((r2.2.2 == 0) && (r3.2 == 0)) then
            (bif ((r2.2.2 == 0) && (r3.2 == 0)) then F46.fn N (r2.1, r9.1) else some (false)).bind fun r13 =>
            bif (!((r2.2.2 == 0) && (r3.2 == 0))) || ((r2.2.2 == 0) && (r3.2 == 0)) then
              bif !(((r2.2.2 == 0) && (r3.2 == 0)) && r13) || (((r2.2.2 == 0) && (r3.2 == 0)) && r13) then
                bif !(((r2.2.2 == 0) && (r3.2 == 0)) && r13) || (((r2.2.2 == 0) && (r3.2 == 0)) && r13) then
                  bif (!(((r2.2.2 == 0) && (r3.2 == 0)) && r13)) || (((r2.2.2 == 0) && (r3.2 == 0)) && r13) then
                    bif !((((r2.2.2 == 0) && (r3.2 == 0)) && r13) && (r2.2.1 == r9.2)) || ((((r2.2.2 == 0) && (r3.2 == 0)) && r13) && (r2.2.1 == r9.2)) then
                      bif !((((r2.2.2 == 0) && (r3.2 == 0)) && r13) && (r2.2.1 == r9.2)) || ((((r2.2.2 == 0) && (r3.2 == 0)) && r13) && (r2.2.1 == r9.2)) then
                        (bif ((((r2.2.2 == 0) && (r3.2 == 0)) && r13) && (r2.2.1 == r9.2)) then F46.fn N (r3.1, a12) else some (false)).bind fun r14 =>
                        bif (!((((r2.2.2 == 0) && (r3.2 == 0)) && r13) && (r2.2.1 == r9.2))) || ((((r2.2.2 == 0) && (r3.2 == 0)) && r13) && (r2.2.1 == r9.2)) then
                          some (((((r2.2.2 == 0) && (r3.2 == 0)) && r13) && (r2.2.1 == r9.2)) && r14)
                        else
                          none
                      else
                        none
                    else
                      none
                  else
                    none
                else
                  none
              else
                none
            else
              none
          else
            none
        else
          none
      else
        none
    else
      none := by kernel_rfl
theorem F10.l1_zero (N : Nat) (x0 : List ((Int × Int) × Int)) (x1 : List Int) (r2 : List Int × Int × Int) (r3 : List Int × Int) (a5 : Int) (a7 : Int) : F10.l1 N x0 x1 r2 r3 a5 0 a7 = none := by kernel_rfl
theorem F10.l1_succ (N : Nat) (x0 : List ((Int × Int) × Int)) (x1 : List Int) (r2 : List Int × Int × Int) (r3 : List Int × Int) (a5 : Int) (k6 : Nat) (a7 : Int) : F10.l1 N x0 x1 r2 r3 a5 (k6 + 1) a7 =
    bif decide (a7 < (x1.length : Int)) then
      bif (decide (0 ≤ a7)) && (decide (a7 < (x1.length : Int))) then
        (F44.fn N (List.getD x1 (Int.toNat a7) 0)).bind fun r8 =>
        bif r8 then
          bif decide (a7 ≥ 0) then
            bif !(r2.2.2 == 12) || (r2.2.2 == 12) then
              bif !(r2.2.2 == 12) || (r2.2.2 == 12) then
                bif (!(r2.2.2 == 12)) || (r2.2.2 == 12) then
                  bif !((r2.2.2 == 12) && (r3.2 == 12)) || ((r2.2.2 == 12) && (r3.2 == 12)) then
                    bif !((r2.2.2 == 12) && (r3.2 == 12)) || ((r2.2.2 == 12) && (r3.2 == 12)) then
                      bif !((r2.2.2 == 12) && (r3.2 == 12)) || ((r2.2.2 == 12) && (r3.2 == 12)) then
                        bif !((r2.2.2 == 12) && (r3.2 == 12)) || ((r2.2.2 == 12) && (r3.2 == 12)) then
                          bif !((r2.2.2 == 12) && (r3.2 == 12)) || ((r2.2.2 == 12) && (r3.2 == 12)) then
                            bif (!((r2.2.2 == 12) && (r3.2 == 12))) || ((r2.2.2 == 12) && (r3.2 == 12)) then
                              bif !(((r2.2.2 == 12) && (r3.2 == 12)) && ((w ((r2.1.length : Int) + (r3.1.length : Int))) == 0)) || (((r2.2.2 == 12) && (r3.2 == 12)) && ((w ((r2.1.length : Int) + (r3.1.length : Int))) == 0)) then
                                bif (!(((r2.2.2 == 12) && (r3.2 == 12)) && ((w ((r2.1.length : Int) + (r3.1.length : Int))) == 0))) || (((r2.2.2 == 12) && (r3.2 == 12)) && ((w ((r2.1.length : Int) + (r3.1.length : Int))) == 0)) then
                                  some ((((r2.2.2 == 12) && (r3.2 == 12)) && ((w ((r2.1.length : Int) + (r3.1.length : Int))) == 0)) && (r2.2.1 == 0))
                                else
                                  none
                              else
                                none
                            else
                              none
                          else
                            none
                        else
                          none
                      else
                        none
                    else
                      none
                  else
                    none
                else
                  none
              else
                none
            else
              none
          else
          bif !(a5 == 0) then
            bif !(r2.2.2 == a5) || (r2.2.2 == a5) then
              bif !(r2.2.2 == a5) || (r2.2.2 == a5) then
                bif (!(r2.2.2 == a5)) || (r2.2.2 == a5) then
                  bif !((r2.2.2 == a5) && (r3.2 == a5)) || ((r2.2.2 == a5) && (r3.2 == a5)) then
                    bif !((r2.2.2 == a5) && (r3.2 == a5)) || ((r2.2.2 == a5) && (r3.2 == a5)) then
                      bif !((r2.2.2 == a5) && (r3.2 == a5)) || ((r2.2.2 == a5) && (r3.2 == a5)) then
                        bif !((r2.2.2 == a5) && (r3.2 == a5)) || ((r2.2.2 == a5) && (r3.2 == a5)) then
                          bif !((r2.2.2 == a5) && (r3.2 == a5)) || ((r2.2.2 == a5) && (r3.2 == a5)) then
                            bif (!((r2.2.2 == a5) && (r3.2 == a5))) || ((r2.2.2 == a5) && (r3.2 == a5)) then
                              bif !(((r2.2.2 == a5) && (r3.2 == a5)) && ((w ((r2.1.length : Int) + (r3.1.length : Int))) == 0)) || (((r2.2.2 == a5) && (r3.2 == a5)) && ((w ((r2.1.length : Int) + (r3.1.length : Int))) == 0)) then
                                bif (!(((r2.2.2 == a5) && (r3.2 == a5)) && ((w ((r2.1.length : Int) + (r3.1.length : Int))) == 0))) || (((r2.2.2 == a5) && (r3.2 == a5)) && ((w ((r2.1.length : Int) + (r3.1.length : Int))) == 0)) then
                                  some ((((r2.2.2 == a5) && (r3.2 == a5)) && ((w ((r2.1.length : Int) + (r3.1.length : Int))) == 0)) && (r2.2.1 == 0))
                                else
                                  none
                              else
                                none
                            else
                              none
                          else
                            none
                        else
                          none
                      else
                        none
                    else
                      none
                  else
                    none
                else
                  none
              else
                none
            else
              none
          else
            (F45.fn N (x0, x1)).bind fun r9 =>
            F10.l2 N x0 r2 r3 r9 N 0 []
        else
          F10.l1 N x0 x1 r2 r3 a5 k6 (w (a7 + 1))
      else
        none
    else
    bif !(a5 == 0) then
      bif !(r2.2.2 == a5) || (r2.2.2 == a5) then
        bif !(r2.2.2 == a5) || (r2.2.2 == a5) then
          bif (!(r2.2.2 == a5)) || (r2.2.2 == a5) then
            bif !((r2.2.2 == a5) && (r3.2 == a5)) || ((r2.2.2 == a5) && (r3.2 == a5)) then
              bif !((r2.2.2 == a5) && (r3.2 == a5)) || ((r2.2.2 == a5) && (r3.2 == a5)) then
                bif !((r2.2.2 == a5) && (r3.2 == a5)) || ((r2.2.2 == a5) && (r3.2 == a5)) then
                  bif !((r2.2.2 == a5) && (r3.2 == a5)) || ((r2.2.2 == a5) && (r3.2 == a5)) then
                    bif !((r2.2.2 == a5) && (r3.2 == a5)) || ((r2.2.2 == a5) && (r3.2 == a5)) then
                      bif (!((r2.2.2 == a5) && (r3.2 == a5))) || ((r2.2.2 == a5) && (r3.2 == a5)) then
                        bif !(((r2.2.2 == a5) && (r3.2 == a5)) && ((w ((r2.1.length : Int) + (r3.1.length : Int))) == 0)) || (((r2.2.2 == a5) && (r3.2 == a5)) && ((w ((r2.1.length : Int) + (r3.1.length : Int))) == 0)) then
                          bif (!(((r2.2.2 == a5) && (r3.2 == a5)) && ((w ((r2.1.length : Int) + (r3.1.length : Int))) == 0))) || (((r2.2.2 == a5) && (r3.2 == a5)) && ((w ((r2.1.length : Int) + (r3.1.length : Int))) == 0)) then
                            some ((((r2.2.2 == a5) && (r3.2 == a5)) && ((w ((r2.1.length : Int) + (r3.1.length : Int))) == 0)) && (r2.2.1 == 0))
                          else
                            none
                        else
                          none
                      else
                        none
                    else
                      none
                  else
                    none
                else
                  none
              else
                none
            else
              none
          else
            none
        else
          none
      else
        none
    else
      (F45.fn N (x0, x1)).bind fun r15 =>
      F10.l3 N x0 r2 r3 r15 N 0 [] := by kernel_rfl
theorem F10.j0_eq (N : Nat) (x0 : List ((Int × Int) × Int)) (x1 : List Int) (r2 : List Int × Int × Int) (r3 : List Int × Int) (a5 : Int) {M : Nat} (hM : N = M + 1) : F10.j0 N x0 x1 r2 r3 a5 =
    bif a5 == 0 then
      bif a5 == 0 then
        F10.l1 N x0 x1 r2 r3 a5 N 0
      else
        none
    else
    bif !(a5 == 0) then
      bif !(r2.2.2 == a5) || (r2.2.2 == a5) then
        bif !(r2.2.2 == a5) || (r2.2.2 == a5) then
          bif (!(r2.2.2 == a5)) || (r2.2.2 == a5) then
            bif !((r2.2.2 == a5) && (r3.2 == a5)) || ((r2.2.2 == a5) && (r3.2 == a5)) then
              bif !((r2.2.2 == a5) && (r3.2 == a5)) || ((r2.2.2 == a5) && (r3.2 == a5)) then
                bif !((r2.2.2 == a5) && (r3.2 == a5)) || ((r2.2.2 == a5) && (r3.2 == a5)) then
                  bif !((r2.2.2 == a5) && (r3.2 == a5)) || ((r2.2.2 == a5) && (r3.2 == a5)) then
                    bif !((r2.2.2 == a5) && (r3.2 == a5)) || ((r2.2.2 == a5) && (r3.2 == a5)) then
                      bif (!((r2.2.2 == a5) && (r3.2 == a5))) || ((r2.2.2 == a5) && (r3.2 == a5)) then
                        bif !(((r2.2.2 == a5) && (r3.2 == a5)) && ((w ((r2.1.length : Int) + (r3.1.length : Int))) == 0)) || (((r2.2.2 == a5) && (r3.2 == a5)) && ((w ((r2.1.length : Int) + (r3.1.length : Int))) == 0)) then
                          bif (!(((r2.2.2 == a5) && (r3.2 == a5)) && ((w ((r2.1.length : Int) + (r3.1.length : Int))) == 0))) || (((r2.2.2 == a5) && (r3.2 == a5)) && ((w ((r2.1.length : Int) + (r3.1.length : Int))) == 0)) then
                            some ((((r2.2.2 == a5) && (r3.2 == a5)) && ((w ((r2.1.length : Int) + (r3.1.length : Int))) == 0)) && (r2.2.1 == 0))
                          else
                            none
                        else
                          none
                      else
                        none
                    else
                      none
                  else
                    none
                else
                  none
              else
                none
            else
              none
          else
            none
        else
          none
      else
        none
    else
      (F45.fn N (x0, x1)).bind fun r21 =>
      F10.l4 N x0 r2 r3 r21 N 0 [] := (fuelK_eq hM _).trans (by kernel_rfl)
theorem taut30 : ∀ p0 p1 p2 p3 : Bool, ((!((((p0) && (p1)) && p2) && (p3)) || ((((p0) && (p1)) && p2) && (p3)))) = true := by decide
theorem taut31 : ∀ p0 p1 p2 : Bool, ((!(((p0) && (p1)) && p2) || (((p0) && (p1)) && p2))) = true := by decide
theorem taut32 : ∀ p0 p1 p2 p3 : Bool, (((!((((p0) && (p1)) && p2) && (p3))) || ((((p0) && (p1)) && p2) && (p3)))) = true := by decide
theorem taut33 : ∀ p0 p1 p2 : Bool, (((!(((p0) && (p1)) && p2)) || (((p0) && (p1)) && p2))) = true := by decide
theorem F10.l4_clean (N : Nat) (x0 : List ((Int × Int) × Int)) (r2 : List Int × Int × Int) (r3 : List Int × Int) (r21 : List Int × Int) (k22 : Nat) (a23 : Int) (a24 : List Int) : F10.l4 N x0 r2 r3 r21 (k22 + 1) a23 a24 =
    bif decide (a23 < (x0.length : Int)) then
      bif (decide (0 ≤ a23)) && (decide (a23 < (r21.1.length : Int))) then
        bif decide ((Int.toNat a23) < r21.1.length) then
          bif (decide (0 ≤ a23)) && (decide (a23 < (x0.length : Int))) then
            bif decide ((List.getD r21.1 (Int.toNat a23) 0) > ((List.getD x0 (Int.toNat a23) ((0, 0), 0)).2)) then
              bif decide ((a24.length + 1) * 8 ≤ 140737488355328) && decide ((a24.length + 1) ≤ maxLen) then
                F10.l4 N x0 r2 r3 r21 k22 (w (a23 + 1)) (a24 ++ [a23])
              else
                none
            else
              F10.l4 N x0 r2 r3 r21 k22 (w (a23 + 1)) a24
          else
            none
        else
          none
      else
        none
    else
    (bif ((r2.2.2 == 0) && (r3.2 == 0)) then F46.fn N (r2.1, r21.1) else some (false)).bind fun r25 =>
    (bif ((((r2.2.2 == 0) && (r3.2 == 0)) && r25) && (r2.2.1 == r21.2)) then F46.fn N (r3.1, a24) else some (false)).bind fun r26 =>
    some (((((r2.2.2 == 0) && (r3.2 == 0)) && r25) && (r2.2.1 == r21.2)) && r26) := by
  rw [F10.l4_succ]; simp only [taut30, taut31, taut12, taut3, taut32, taut33, taut20, taut4, cond_true]
theorem F10.l3_clean (N : Nat) (x0 : List ((Int × Int) × Int)) (r2 : List Int × Int × Int) (r3 : List Int × Int) (r15 : List Int × Int) (k16 : Nat) (a17 : Int) (a18 : List Int) : F10.l3 N x0 r2 r3 r15 (k16 + 1) a17 a18 =
    bif decide (a17 < (x0.length : Int)) then
      bif (decide (0 ≤ a17)) && (decide (a17 < (r15.1.length : Int))) then
        bif decide ((Int.toNat a17) < r15.1.length) then
          bif (decide (0 ≤ a17)) && (decide (a17 < (x0.length : Int))) then
            bif decide ((List.getD r15.1 (Int.toNat a17) 0) > ((List.getD x0 (Int.toNat a17) ((0, 0), 0)).2)) then
              bif decide ((a18.length + 1) * 8 ≤ 140737488355328) && decide ((a18.length + 1) ≤ maxLen) then
                F10.l3 N x0 r2 r3 r15 k16 (w (a17 + 1)) (a18 ++ [a17])
              else
                none
            else
              F10.l3 N x0 r2 r3 r15 k16 (w (a17 + 1)) a18
          else
            none
        else
          none
      else
        none
    else
    (bif ((r2.2.2 == 0) && (r3.2 == 0)) then F46.fn N (r2.1, r15.1) else some (false)).bind fun r19 =>
    (bif ((((r2.2.2 == 0) && (r3.2 == 0)) && r19) && (r2.2.1 == r15.2)) then F46.fn N (r3.1, a18) else some (false)).bind fun r20 =>
    some (((((r2.2.2 == 0) && (r3.2 == 0)) && r19) && (r2.2.1 == r15.2)) && r20) := by
  rw [F10.l3_succ]; simp only [taut30, taut31, taut12, taut3, taut32, taut33, taut20, taut4, cond_true]
theorem F10.l2_clean (N : Nat) (x0 : List ((Int × Int) × Int)) (r2 : List Int × Int × Int) (r3 : List Int × Int) (r9 : List Int × Int) (k10 : Nat) (a11 : Int) (a12 : List Int) : F10.l2 N x0 r2 r3 r9 (k10 + 1) a11 a12 =
    bif decide (a11 < (x0.length : Int)) then
      bif (decide (0 ≤ a11)) && (decide (a11 < (r9.1.length : Int))) then
        bif decide ((Int.toNat a11) < r9.1.length) then
          bif (decide (0 ≤ a11)) && (decide (a11 < (x0.length : Int))) then
            bif decide ((List.getD r9.1 (Int.toNat a11) 0) > ((List.getD x0 (Int.toNat a11) ((0, 0), 0)).2)) then
              bif decide ((a12.length + 1) * 8 ≤ 140737488355328) && decide ((a12.length + 1) ≤ maxLen) then
                F10.l2 N x0 r2 r3 r9 k10 (w (a11 + 1)) (a12 ++ [a11])
              else
                none
            else
              F10.l2 N x0 r2 r3 r9 k10 (w (a11 + 1)) a12
          else
            none
        else
          none
      else
        none
    else
    (bif ((r2.2.2 == 0) && (r3.2 == 0)) then F46.fn N (r2.1, r9.1) else some (false)).bind fun r13 =>
    (bif ((((r2.2.2 == 0) && (r3.2 == 0)) && r13) && (r2.2.1 == r9.2)) then F46.fn N (r3.1, a12) else some (false)).bind fun r14 =>
    some (((((r2.2.2 == 0) && (r3.2 == 0)) && r13) && (r2.2.1 == r9.2)) && r14) := by
  rw [F10.l2_succ]; simp only [taut30, taut31, taut12, taut3, taut32, taut33, taut20, taut4, cond_true]
theorem F10.l1_clean (N : Nat) (x0 : List ((Int × Int) × Int)) (x1 : List Int) (r2 : List Int × Int × Int) (r3 : List Int × Int) (a5 : Int) (k6 : Nat) (a7 : Int) : F10.l1 N x0 x1 r2 r3 a5 (k6 + 1) a7 =
    bif decide (a7 < (x1.length : Int)) then
      bif (decide (0 ≤ a7)) && (decide (a7 < (x1.length : Int))) then
        (F44.fn N (List.getD x1 (Int.toNat a7) 0)).bind fun r8 =>
        bif r8 then
          bif decide (a7 ≥ 0) then
            some ((((r2.2.2 == 12) && (r3.2 == 12)) && ((w ((r2.1.length : Int) + (r3.1.length : Int))) == 0)) && (r2.2.1 == 0))
          else
          bif !(a5 == 0) then
            some ((((r2.2.2 == a5) && (r3.2 == a5)) && ((w ((r2.1.length : Int) + (r3.1.length : Int))) == 0)) && (r2.2.1 == 0))
          else
            (F45.fn N (x0, x1)).bind fun r9 =>
            F10.l2 N x0 r2 r3 r9 N 0 []
        else
          F10.l1 N x0 x1 r2 r3 a5 k6 (w (a7 + 1))
      else
        none
    else
    bif !(a5 == 0) then
      some ((((r2.2.2 == a5) && (r3.2 == a5)) && ((w ((r2.1.length : Int) + (r3.1.length : Int))) == 0)) && (r2.2.1 == 0))
    else
      (F45.fn N (x0, x1)).bind fun r15 =>
      F10.l3 N x0 r2 r3 r15 N 0 [] := by
  rw [F10.l1_succ]; simp only [taut10, taut12, taut3, taut18, taut20, taut4, cond_true]
theorem F10.j0_clean (N : Nat) (x0 : List ((Int × Int) × Int)) (x1 : List Int) (r2 : List Int × Int × Int) (r3 : List Int × Int) (a5 : Int) {M : Nat} (hM : N = M + 1) : F10.j0 N x0 x1 r2 r3 a5 =
    bif a5 == 0 then
      bif a5 == 0 then
        F10.l1 N x0 x1 r2 r3 a5 N 0
      else
        none
    else
    bif !(a5 == 0) then
      some ((((r2.2.2 == a5) && (r3.2 == a5)) && ((w ((r2.1.length : Int) + (r3.1.length : Int))) == 0)) && (r2.2.1 == 0))
    else
      (F45.fn N (x0, x1)).bind fun r21 =>
      F10.l4 N x0 r2 r3 r21 N 0 [] := by
  rw [F10.j0_eq (hM := hM)]; simp only [taut10, taut12, taut3, taut18, taut20, taut4, cond_true]
theorem F10.eq (N : Nat) (x0 : List ((Int × Int) × Int)) (x1 : List Int) : F10.fn N (x0, x1) =
    (F32.fn N ()).bind fun r1 =>
    bif !r1 then
      some false
    else
      (F41.fn N (x0, x1)).bind fun r2 =>
      (F42.fn N (x0, x1)).bind fun r3 =>
      (F36.fn N x0).bind fun r4 =>
      bif !(r4 == 0) || (r4 == 0) then
        bif !(r4 == 0) || (r4 == 0) then
          bif (!(r4 == 0)) || (r4 == 0) then
            bif (r4 == 0) && (decide ((x1.length : Int) > 256)) then
              F10.j0 N x0 x1 r2 r3 2
            else
              F10.j0 N x0 x1 r2 r3 r4
          else
            none
        else
          none
      else
        none := by kernel_rfl
theorem F10.clean (N : Nat) (x0 : List ((Int × Int) × Int)) (x1 : List Int) : F10.fn N (x0, x1) =
    (F32.fn N ()).bind fun r1 =>
    bif !r1 then
      some false
    else
      (F41.fn N (x0, x1)).bind fun r2 =>
      (F42.fn N (x0, x1)).bind fun r3 =>
      (F36.fn N x0).bind fun r4 =>
      bif (r4 == 0) && (decide ((x1.length : Int) > 256)) then
        F10.j0 N x0 x1 r2 r3 2
      else
        F10.j0 N x0 x1 r2 r3 r4 := by
  rw [F10.eq]; simp only [taut3, taut4, cond_true]

end Go.Proofs.Ytalaepaomnfgjaa.Sk
