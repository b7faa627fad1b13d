/- PRINTED by gen.py: what the functions answer, part 2. Not trusted: Lean checks it. -/
import Derived.Test.YtmaeakelhjmfeaaRunwayEq1
set_option linter.unusedVariables false
set_option linter.unusedSimpArgs false
set_option maxRecDepth 100000
namespace Go.Proofs.Ytmaeakelhjmfeaa.Sk
open Go
/-! ### law_classesError: skyway/skywaylaw3.classesError -/
def law_classesError.kp : List (Nat × List (Nat × Option (TypeId × Ty))) := [(2, [(5, none), (6, none), (7, none)])]
noncomputable def law_classesError.G (N : Nat) : List (Nat × Spec) := []
noncomputable def law_classesError.E (N : Nat) : Env := mkEnv (law_classesError.G N) N tyTab law_classesError.kp
noncomputable def law_classesError.fn (N : Nat) (x : List Int) : Option Int := evFn (law_classesError.E N) Try.prog 3 Try.f29 false [.cell (.sl 3 (.int .i64))] [.val (.cell (.int .i64))] x
noncomputable def law_classesError.S (N : Nat) : PSpec := ⟨false, [.cell (.sl 3 (.int .i64))], [.val (.cell (.int .i64))], law_classesError.fn N⟩
theorem f29_enters : Enters Try.prog 29 := ⟨Try.f29, Try.func29, by kernel_rfl, by kernel_rfl⟩
theorem law_classesError.tab (N : Nat) : TabOk Try.prog (law_classesError.G N) := trivial
theorem law_classesError.enters : Enters Try.prog 29 := f29_enters
theorem law_classesError.sound (N : Nat) : Sound Try.prog 29 (law_classesError.S N) := evFn_sound (specs_tab (law_classesError.tab N)) (inls_tab (law_classesError.tab N)) mixed 3 Try.func29 _ _ _
noncomputable def law_classesError.cd (N : Nat) (p : List Nat) : St → (Ex → St → Option Int) → Option Int := ev (law_classesError.E N) Try.prog (callD (law_classesError.E N) Try.prog 3) 0 (codeAt (bodyOf Try.f29) p)
noncomputable def law_classesError.fin : Ex → St → Option Int := endK Try.prog Try.f29 [.val (.cell (.int .i64))]
noncomputable def law_classesError.l0 (N : Nat) (x0 : List Int) (k1 : Nat) (a2 : Int) : Option Int :=
  loopN (norm ((law_classesError.E N).keep 2) 0) (law_classesError.cd N [1, 0, 1, 0, 0]) k1
  ⟨[.any, .any, .any, .any, .any, .ros false 3 (.int .i64) x0, .sc (.int .i64 (x0.length : Int)), .sc (.int .i64 a2), .any, .any, .any, .any, .any, .any, .any, .any, .any, .any], []⟩
  (blockK 0 (seqK (law_classesError.cd N [1, 1]) law_classesError.fin))
theorem law_classesError.l0_zero (N : Nat) (x0 : List Int) (a2 : Int) : law_classesError.l0 N x0 0 a2 = none := by kernel_rfl
theorem law_classesError.l0_succ (N : Nat) (x0 : List Int) (k1 : Nat) (a2 : Int) : law_classesError.l0 N x0 (k1 + 1) a2 =
    bif decide (a2 < (x0.length : Int)) then
      bif (decide (0 ≤ a2)) && (decide (a2 < (x0.length : Int))) then
        bif !(!(decide ((List.getD x0 (Int.toNat a2) 0) < 0))) || (!(decide ((List.getD x0 (Int.toNat a2) 0) < 0))) then
          bif (decide ((List.getD x0 (Int.toNat a2) 0) < 0)) || (!(decide ((List.getD x0 (Int.toNat a2) 0) < 0))) then
            bif (decide ((List.getD x0 (Int.toNat a2) 0) < 0)) || (decide ((List.getD x0 (Int.toNat a2) 0) > 3)) then
              some 1
            else
              law_classesError.l0 N x0 k1 (w (a2 + 1))
          else
            none
        else
          none
      else
        none
    else
      some 0 := by kernel_rfl
theorem law_classesError.l0_clean (N : Nat) (x0 : List Int) (k1 : Nat) (a2 : Int) : law_classesError.l0 N x0 (k1 + 1) a2 =
    bif decide (a2 < (x0.length : Int)) then
      bif (decide (0 ≤ a2)) && (decide (a2 < (x0.length : Int))) then
        bif (decide ((List.getD x0 (Int.toNat a2) 0) < 0)) || (decide ((List.getD x0 (Int.toNat a2) 0) > 3)) then
          some 1
        else
          law_classesError.l0 N x0 k1 (w (a2 + 1))
      else
        none
    else
      some 0 := by
  rw [law_classesError.l0_succ]; simp only [taut1, taut2, cond_true]
theorem law_classesError.l0_cons (N : Nat) (x0 : List Int) (k1 : Nat) {pre r} {x} (hl : x0 = pre ++ x :: r) (hb : x0.length < 4611686018427387904) : law_classesError.l0 N x0 (k1 + 1) (pre.length : Int) =
    bif (decide (x < 0)) || (decide (x > 3)) then
      some 1
    else
      law_classesError.l0 N x0 k1 ((pre.length : Int) + 1) := by
  have hlen : x0.length = pre.length + 1 + r.length := by rw [hl]; simp; omega
  have e1 : decide ((pre.length : Int) < (x0.length : Int)) = true := by rw [decide_eq_true_iff]; omega
  have e2 : decide (0 ≤ (pre.length : Int)) = true := by rw [decide_eq_true_iff]; omega
  have e4 : w ((pre.length : Int) + 1) = (pre.length : Int) + 1 := w_next hl hb
  have e5 : List.take pre.length x0 = pre := by rw [hl]; simp
  have e6 : decide ((pre.length : Int) ≤ (x0.length : Int)) = true := by rw [decide_eq_true_iff]; omega
  have g0 : List.getD x0 pre.length 0 = x := by rw [hl]; exact getD_mid pre x r _
  rw [law_classesError.l0_clean]
  simp -implicitDefEqProofs only [Int.toNat_natCast, e1, e2, e4, e6, g0, e5, Bool.and_true, Bool.true_and, Bool.true_or, cond_true]
theorem law_classesError.l0_nil (N : Nat) (x0 : List Int) (k1 : Nat) : law_classesError.l0 N x0 (k1 + 1) (x0.length : Int) =
    some 0 := by
  have e1 : decide ((x0.length : Int) < (x0.length : Int)) = false := by rw [decide_eq_false_iff_not]; omega
  rw [law_classesError.l0_clean]
  simp -implicitDefEqProofs only [e1, cond_false]
theorem law_classesError.eq (N : Nat) (x0 : List Int) : law_classesError.fn N x0 =
    law_classesError.l0 N x0 N 0 := by kernel_rfl

/-! ### ref_Fits: skyway/skywayref3.Fits -/
def ref_Fits.kp : List (Nat × List (Nat × Option (TypeId × Ty))) := [(4, [(6, none), (7, none), (18, none), (19, none), (20, none)])]
noncomputable def ref_Fits.G (N : Nat) : List (Nat × Spec) := [(20, .pure (ref_EndAt.S N)), (23, .pure (ref_Apart.S N))]
noncomputable def ref_Fits.E (N : Nat) : Env := mkEnv (ref_Fits.G N) N tyTab ref_Fits.kp
noncomputable def ref_Fits.fn (N : Nat) (x : List (Int × Int × Bool × Int) × List (Int × Int) × List Int × Int × Int × Bool × Int) : Option Bool := evFn (ref_Fits.E N) Try.prog 3 Try.f88 false [.cell (.sl 35 (.pair (.int .i64) (.pair (.int .i64) (.pair (.bool) (.int .i64))))), .cell (.sl 60 (.pair (.int .i64) (.int .i64))), .agg (.vec 16 .i64), .agg (.pair (.int .i64) (.pair (.int .i64) (.pair (.bool) (.int .i64))))] [.val (.cell (.bool))] x
noncomputable def ref_Fits.S (N : Nat) : PSpec := ⟨false, [.cell (.sl 35 (.pair (.int .i64) (.pair (.int .i64) (.pair (.bool) (.int .i64))))), .cell (.sl 60 (.pair (.int .i64) (.int .i64))), .agg (.vec 16 .i64), .agg (.pair (.int .i64) (.pair (.int .i64) (.pair (.bool) (.int .i64))))], [.val (.cell (.bool))], ref_Fits.fn N⟩
theorem f88_enters : Enters Try.prog 88 := ⟨Try.f88, Try.func88, by kernel_rfl, by kernel_rfl⟩
theorem ref_Fits.tab (N : Nat) : TabOk Try.prog (ref_Fits.G N) := ⟨⟨ref_EndAt.enters, ref_EndAt.sound N⟩, ⟨ref_Apart.enters, ref_Apart.sound N⟩, trivial⟩
theorem ref_Fits.enters : Enters Try.prog 88 := f88_enters
theorem ref_Fits.sound (N : Nat) : Sound Try.prog 88 (ref_Fits.S N) := evFn_sound (specs_tab (ref_Fits.tab N)) (inls_tab (ref_Fits.tab N)) mixed 3 Try.func88 _ _ _
noncomputable def ref_Fits.cd (N : Nat) (p : List Nat) : St → (Ex → St → Option Bool) → Option Bool := ev (ref_Fits.E N) Try.prog (callD (ref_Fits.E N) Try.prog 3) 0 (codeAt (bodyOf Try.f88) p)
noncomputable def ref_Fits.fin : Ex → St → Option Bool := endK Try.prog Try.f88 [.val (.cell (.bool))]
noncomputable def ref_Fits.l0 (N : Nat) (x0 : List (Int × Int × Bool × Int)) (x2 : List Int) (x3 : Int × Int × Bool × Int) (k2 : Nat) (a3 : Int) : Option Bool :=
  loopN (norm ((ref_Fits.E N).keep 4) 0) (ref_Fits.cd N [1, 1, 0, 1, 0, 0]) k2
  ⟨[.any, .any, .any, .any, .any, .any, .ptr 0 0, .ptr 1 0, .any, .any, .any, .any, .any, .any, .any, .any, .any, .any, .ros false 35 (.pair (.int .i64) (.pair (.int .i64) (.pair (.bool) (.int .i64)))) x0, .sc (.int .i64 (x0.length : Int)), .sc (.int .i64 a3), .any, .any, .any, .any, .any, .any, .any, .any, .any, .any, .any, .any, .any, .any, .any, .any, .any, .any, .any, .any, .any, .any, .any, .any, .any, .any, .any, .any, .any, .any, .any, .any, .any, .any, .any, .any, .any, .any, .any, .any], [.cells [.sc (.int .i64 (List.getD x2 0 0)), .sc (.int .i64 (List.getD x2 1 0)), .sc (.int .i64 (List.getD x2 2 0)), .sc (.int .i64 (List.getD x2 3 0)), .sc (.int .i64 (List.getD x2 4 0)), .sc (.int .i64 (List.getD x2 5 0)), .sc (.int .i64 (List.getD x2 6 0)), .sc (.int .i64 (List.getD x2 7 0)), .sc (.int .i64 (List.getD x2 8 0)), .sc (.int .i64 (List.getD x2 9 0)), .sc (.int .i64 (List.getD x2 10 0)), .sc (.int .i64 (List.getD x2 11 0)), .sc (.int .i64 (List.getD x2 12 0)), .sc (.int .i64 (List.getD x2 13 0)), .sc (.int .i64 (List.getD x2 14 0)), .sc (.int .i64 (List.getD x2 15 0))] 26, .cells [.sc (.int .i64 x3.1), .sc (.int .i64 x3.2.1), .sc (.bool x3.2.2.1), .sc (.int .i64 x3.2.2.2)] 35]⟩
  (blockK 0 (seqK (ref_Fits.cd N [1, 1, 1]) ref_Fits.fin))
theorem ref_Fits.l0_zero (N : Nat) (x0 : List (Int × Int × Bool × Int)) (x2 : List Int) (x3 : Int × Int × Bool × Int) (a3 : Int) : ref_Fits.l0 N x0 x2 x3 0 a3 = none := by kernel_rfl
theorem ref_Fits.l0_succ (N : Nat) (x0 : List (Int × Int × Bool × Int)) (x2 : List Int) (x3 : Int × Int × Bool × Int) (k2 : Nat) (a3 : Int) : ref_Fits.l0 N x0 x2 x3 (k2 + 1) a3 =
    bif decide (a3 < (x0.length : Int)) then
      bif (decide (0 ≤ a3)) && (decide (a3 < (x0.length : Int))) then
        bif !(decide (((List.getD x0 (Int.toNat a3) (0, (0, (false, 0)))).1) ≤ x3.1)) || (decide (((List.getD x0 (Int.toNat a3) (0, (0, (false, 0)))).1) ≤ x3.1)) then
          bif !(decide (((List.getD x0 (Int.toNat a3) (0, (0, (false, 0)))).1) ≤ x3.1)) || (decide (((List.getD x0 (Int.toNat a3) (0, (0, (false, 0)))).1) ≤ x3.1)) then
            bif !(decide (((List.getD x0 (Int.toNat a3) (0, (0, (false, 0)))).1) ≤ x3.1)) || (decide (((List.getD x0 (Int.toNat a3) (0, (0, (false, 0)))).1) ≤ x3.1)) then
              bif !(decide (((List.getD x0 (Int.toNat a3) (0, (0, (false, 0)))).1) ≤ x3.1)) || (decide (((List.getD x0 (Int.toNat a3) (0, (0, (false, 0)))).1) ≤ x3.1)) then
                bif !(decide (((List.getD x0 (Int.toNat a3) (0, (0, (false, 0)))).1) ≤ x3.1)) || (decide (((List.getD x0 (Int.toNat a3) (0, (0, (false, 0)))).1) ≤ x3.1)) then
                  bif !(decide (((List.getD x0 (Int.toNat a3) (0, (0, (false, 0)))).1) ≤ x3.1)) || (decide (((List.getD x0 (Int.toNat a3) (0, (0, (false, 0)))).1) ≤ x3.1)) then
                    bif !(decide (((List.getD x0 (Int.toNat a3) (0, (0, (false, 0)))).1) ≤ x3.1)) || (decide (((List.getD x0 (Int.toNat a3) (0, (0, (false, 0)))).1) ≤ x3.1)) then
                      (bif (decide (((List.getD x0 (Int.toNat a3) (0, (0, (false, 0)))).1) ≤ x3.1)) then ref_Apart.fn N ((vl 16 x2), List.getD x0 (Int.toNat a3) (0, (0, (false, 0))), x3) else some (0)).bind fun r4 =>
                      bif !(decide (((List.getD x0 (Int.toNat a3) (0, (0, (false, 0)))).1) ≤ x3.1)) || (decide (((List.getD x0 (Int.toNat a3) (0, (0, (false, 0)))).1) ≤ x3.1)) then
                        bif !(decide (((List.getD x0 (Int.toNat a3) (0, (0, (false, 0)))).1) ≤ x3.1)) || (decide (((List.getD x0 (Int.toNat a3) (0, (0, (false, 0)))).1) ≤ x3.1)) then
                          bif (!(decide (((List.getD x0 (Int.toNat a3) (0, (0, (false, 0)))).1) ≤ x3.1))) || (decide (((List.getD x0 (Int.toNat a3) (0, (0, (false, 0)))).1) ≤ x3.1)) then
                            bif !(!((decide (((List.getD x0 (Int.toNat a3) (0, (0, (false, 0)))).1) ≤ x3.1)) && (decide ((w (x3.1 - ((List.getD x0 (Int.toNat a3) (0, (0, (false, 0)))).1))) < r4)))) || (!((decide (((List.getD x0 (Int.toNat a3) (0, (0, (false, 0)))).1) ≤ x3.1)) && (decide ((w (x3.1 - ((List.getD x0 (Int.toNat a3) (0, (0, (false, 0)))).1))) < r4)))) then
                              bif !(!((decide (((List.getD x0 (Int.toNat a3) (0, (0, (false, 0)))).1) ≤ x3.1)) && (decide ((w (x3.1 - ((List.getD x0 (Int.toNat a3) (0, (0, (false, 0)))).1))) < r4)))) || (!((decide (((List.getD x0 (Int.toNat a3) (0, (0, (false, 0)))).1) ≤ x3.1)) && (decide ((w (x3.1 - ((List.getD x0 (Int.toNat a3) (0, (0, (false, 0)))).1))) < r4)))) then
                                bif !(!((decide (((List.getD x0 (Int.toNat a3) (0, (0, (false, 0)))).1) ≤ x3.1)) && (decide ((w (x3.1 - ((List.getD x0 (Int.toNat a3) (0, (0, (false, 0)))).1))) < r4)))) || (!((decide (((List.getD x0 (Int.toNat a3) (0, (0, (false, 0)))).1) ≤ x3.1)) && (decide ((w (x3.1 - ((List.getD x0 (Int.toNat a3) (0, (0, (false, 0)))).1))) < r4)))) then
                                  bif !(!((decide (((List.getD x0 (Int.toNat a3) (0, (0, (false, 0)))).1) ≤ x3.1)) && (decide ((w (x3.1 - ((List.getD x0 (Int.toNat a3) (0, (0, (false, 0)))).1))) < r4)))) || (!((decide (((List.getD x0 (Int.toNat a3) (0, (0, (false, 0)))).1) ≤ x3.1)) && (decide ((w (x3.1 - ((List.getD x0 (Int.toNat a3) (0, (0, (false, 0)))).1))) < r4)))) then
                                    bif !(!((decide (((List.getD x0 (Int.toNat a3) (0, (0, (false, 0)))).1) ≤ x3.1)) && (decide ((w (x3.1 - ((List.getD x0 (Int.toNat a3) (0, (0, (false, 0)))).1))) < r4)))) || (!((decide (((List.getD x0 (Int.toNat a3) (0, (0, (false, 0)))).1) ≤ x3.1)) && (decide ((w (x3.1 - ((List.getD x0 (Int.toNat a3) (0, (0, (false, 0)))).1))) < r4)))) then
                                      bif !((!((decide (((List.getD x0 (Int.toNat a3) (0, (0, (false, 0)))).1) ≤ x3.1)) && (decide ((w (x3.1 - ((List.getD x0 (Int.toNat a3) (0, (0, (false, 0)))).1))) < r4)))) && (decide (((List.getD x0 (Int.toNat a3) (0, (0, (false, 0)))).1) > x3.1))) || ((!((decide (((List.getD x0 (Int.toNat a3) (0, (0, (false, 0)))).1) ≤ x3.1)) && (decide ((w (x3.1 - ((List.getD x0 (Int.toNat a3) (0, (0, (false, 0)))).1))) < r4)))) && (decide (((List.getD x0 (Int.toNat a3) (0, (0, (false, 0)))).1) > x3.1))) then
                                        bif !((!((decide (((List.getD x0 (Int.toNat a3) (0, (0, (false, 0)))).1) ≤ x3.1)) && (decide ((w (x3.1 - ((List.getD x0 (Int.toNat a3) (0, (0, (false, 0)))).1))) < r4)))) && (decide (((List.getD x0 (Int.toNat a3) (0, (0, (false, 0)))).1) > x3.1))) || ((!((decide (((List.getD x0 (Int.toNat a3) (0, (0, (false, 0)))).1) ≤ x3.1)) && (decide ((w (x3.1 - ((List.getD x0 (Int.toNat a3) (0, (0, (false, 0)))).1))) < r4)))) && (decide (((List.getD x0 (Int.toNat a3) (0, (0, (false, 0)))).1) > x3.1))) then
                                          bif !((!((decide (((List.getD x0 (Int.toNat a3) (0, (0, (false, 0)))).1) ≤ x3.1)) && (decide ((w (x3.1 - ((List.getD x0 (Int.toNat a3) (0, (0, (false, 0)))).1))) < r4)))) && (decide (((List.getD x0 (Int.toNat a3) (0, (0, (false, 0)))).1) > x3.1))) || ((!((decide (((List.getD x0 (Int.toNat a3) (0, (0, (false, 0)))).1) ≤ x3.1)) && (decide ((w (x3.1 - ((List.getD x0 (Int.toNat a3) (0, (0, (false, 0)))).1))) < r4)))) && (decide (((List.getD x0 (Int.toNat a3) (0, (0, (false, 0)))).1) > x3.1))) then
                                            bif !((!((decide (((List.getD x0 (Int.toNat a3) (0, (0, (false, 0)))).1) ≤ x3.1)) && (decide ((w (x3.1 - ((List.getD x0 (Int.toNat a3) (0, (0, (false, 0)))).1))) < r4)))) && (decide (((List.getD x0 (Int.toNat a3) (0, (0, (false, 0)))).1) > x3.1))) || ((!((decide (((List.getD x0 (Int.toNat a3) (0, (0, (false, 0)))).1) ≤ x3.1)) && (decide ((w (x3.1 - ((List.getD x0 (Int.toNat a3) (0, (0, (false, 0)))).1))) < r4)))) && (decide (((List.getD x0 (Int.toNat a3) (0, (0, (false, 0)))).1) > x3.1))) then
                                              bif !((!((decide (((List.getD x0 (Int.toNat a3) (0, (0, (false, 0)))).1) ≤ x3.1)) && (decide ((w (x3.1 - ((List.getD x0 (Int.toNat a3) (0, (0, (false, 0)))).1))) < r4)))) && (decide (((List.getD x0 (Int.toNat a3) (0, (0, (false, 0)))).1) > x3.1))) || ((!((decide (((List.getD x0 (Int.toNat a3) (0, (0, (false, 0)))).1) ≤ x3.1)) && (decide ((w (x3.1 - ((List.getD x0 (Int.toNat a3) (0, (0, (false, 0)))).1))) < r4)))) && (decide (((List.getD x0 (Int.toNat a3) (0, (0, (false, 0)))).1) > x3.1))) then
                                                bif !((!((decide (((List.getD x0 (Int.toNat a3) (0, (0, (false, 0)))).1) ≤ x3.1)) && (decide ((w (x3.1 - ((List.getD x0 (Int.toNat a3) (0, (0, (false, 0)))).1))) < r4)))) && (decide (((List.getD x0 (Int.toNat a3) (0, (0, (false, 0)))).1) > x3.1))) || ((!((decide (((List.getD x0 (Int.toNat a3) (0, (0, (false, 0)))).1) ≤ x3.1)) && (decide ((w (x3.1 - ((List.getD x0 (Int.toNat a3) (0, (0, (false, 0)))).1))) < r4)))) && (decide (((List.getD x0 (Int.toNat a3) (0, (0, (false, 0)))).1) > x3.1))) then
                                                  bif !((!((decide (((List.getD x0 (Int.toNat a3) (0, (0, (false, 0)))).1) ≤ x3.1)) && (decide ((w (x3.1 - ((List.getD x0 (Int.toNat a3) (0, (0, (false, 0)))).1))) < r4)))) && (decide (((List.getD x0 (Int.toNat a3) (0, (0, (false, 0)))).1) > x3.1))) || ((!((decide (((List.getD x0 (Int.toNat a3) (0, (0, (false, 0)))).1) ≤ x3.1)) && (decide ((w (x3.1 - ((List.getD x0 (Int.toNat a3) (0, (0, (false, 0)))).1))) < r4)))) && (decide (((List.getD x0 (Int.toNat a3) (0, (0, (false, 0)))).1) > x3.1))) then
                                                    (bif ((!((decide (((List.getD x0 (Int.toNat a3) (0, (0, (false, 0)))).1) ≤ x3.1)) && (decide ((w (x3.1 - ((List.getD x0 (Int.toNat a3) (0, (0, (false, 0)))).1))) < r4)))) && (decide (((List.getD x0 (Int.toNat a3) (0, (0, (false, 0)))).1) > x3.1))) then ref_Apart.fn N ((vl 16 x2), x3, List.getD x0 (Int.toNat a3) (0, (0, (false, 0)))) else some (0)).bind fun r5 =>
                                                    bif !((!((decide (((List.getD x0 (Int.toNat a3) (0, (0, (false, 0)))).1) ≤ x3.1)) && (decide ((w (x3.1 - ((List.getD x0 (Int.toNat a3) (0, (0, (false, 0)))).1))) < r4)))) && (decide (((List.getD x0 (Int.toNat a3) (0, (0, (false, 0)))).1) > x3.1))) || ((!((decide (((List.getD x0 (Int.toNat a3) (0, (0, (false, 0)))).1) ≤ x3.1)) && (decide ((w (x3.1 - ((List.getD x0 (Int.toNat a3) (0, (0, (false, 0)))).1))) < r4)))) && (decide (((List.getD x0 (Int.toNat a3) (0, (0, (false, 0)))).1) > x3.1))) then
                                                      bif !((!((decide (((List.getD x0 (Int.toNat a3) (0, (0, (false, 0)))).1) ≤ x3.1)) && (decide ((w (x3.1 - ((List.getD x0 (Int.toNat a3) (0, (0, (false, 0)))).1))) < r4)))) && (decide (((List.getD x0 (Int.toNat a3) (0, (0, (false, 0)))).1) > x3.1))) || ((!((decide (((List.getD x0 (Int.toNat a3) (0, (0, (false, 0)))).1) ≤ x3.1)) && (decide ((w (x3.1 - ((List.getD x0 (Int.toNat a3) (0, (0, (false, 0)))).1))) < r4)))) && (decide (((List.getD x0 (Int.toNat a3) (0, (0, (false, 0)))).1) > x3.1))) then
                                                        bif !(!((decide (((List.getD x0 (Int.toNat a3) (0, (0, (false, 0)))).1) ≤ x3.1)) && (decide ((w (x3.1 - ((List.getD x0 (Int.toNat a3) (0, (0, (false, 0)))).1))) < r4)))) || (!((decide (((List.getD x0 (Int.toNat a3) (0, (0, (false, 0)))).1) ≤ x3.1)) && (decide ((w (x3.1 - ((List.getD x0 (Int.toNat a3) (0, (0, (false, 0)))).1))) < r4)))) then
                                                          bif !(!((decide (((List.getD x0 (Int.toNat a3) (0, (0, (false, 0)))).1) ≤ x3.1)) && (decide ((w (x3.1 - ((List.getD x0 (Int.toNat a3) (0, (0, (false, 0)))).1))) < r4)))) || ((!(decide (((List.getD x0 (Int.toNat a3) (0, (0, (false, 0)))).1) > x3.1))) || ((!((decide (((List.getD x0 (Int.toNat a3) (0, (0, (false, 0)))).1) ≤ x3.1)) && (decide ((w (x3.1 - ((List.getD x0 (Int.toNat a3) (0, (0, (false, 0)))).1))) < r4)))) && (decide (((List.getD x0 (Int.toNat a3) (0, (0, (false, 0)))).1) > x3.1)))) then
                                                            bif ((decide (((List.getD x0 (Int.toNat a3) (0, (0, (false, 0)))).1) ≤ x3.1)) && (decide ((w (x3.1 - ((List.getD x0 (Int.toNat a3) (0, (0, (false, 0)))).1))) < r4))) || (!((decide (((List.getD x0 (Int.toNat a3) (0, (0, (false, 0)))).1) ≤ x3.1)) && (decide ((w (x3.1 - ((List.getD x0 (Int.toNat a3) (0, (0, (false, 0)))).1))) < r4)))) then
                                                              bif ((decide (((List.getD x0 (Int.toNat a3) (0, (0, (false, 0)))).1) ≤ x3.1)) && (decide ((w (x3.1 - ((List.getD x0 (Int.toNat a3) (0, (0, (false, 0)))).1))) < r4))) || ((decide (((List.getD x0 (Int.toNat a3) (0, (0, (false, 0)))).1) > x3.1)) && (decide ((w (((List.getD x0 (Int.toNat a3) (0, (0, (false, 0)))).1) - x3.1)) < r5))) then
                                                                some false
                                                              else
                                                                ref_Fits.l0 N x0 x2 x3 k2 (w (a3 + 1))
                                                            else
                                                              none
                                                          else
                                                            none
                                                        else
                                                          none
                                                      else
                                                        none
                                                    else
                                                      none
                                                  else
                                                    none
                                                else
                                                  none
                                              else
                                                none
                                            else
                                              none
                                          else
                                            none
                                        else
                                          none
                                      else
                                        none
                                    else
                                      none
                                  else
                                    none
                                else
                                  none
                              else
                                none
                            else
                              none
                          else
                            none
                        else
                          none
                      else
                        none
                    else
                      none
                  else
                    none
                else
                  none
              else
                none
            else
              none
          else
            none
        else
          none
      else
        none
    else
      some true := by kernel_rfl
theorem ref_Fits.l0_clean (N : Nat) (x0 : List (Int × Int × Bool × Int)) (x2 : List Int) (x3 : Int × Int × Bool × Int) (k2 : Nat) (a3 : Int) : ref_Fits.l0 N x0 x2 x3 (k2 + 1) a3 =
    bif decide (a3 < (x0.length : Int)) then
      bif (decide (0 ≤ a3)) && (decide (a3 < (x0.length : Int))) then
        (bif (decide (((List.getD x0 (Int.toNat a3) (0, (0, (false, 0)))).1) ≤ x3.1)) then ref_Apart.fn N ((vl 16 x2), List.getD x0 (Int.toNat a3) (0, (0, (false, 0))), x3) else some (0)).bind fun r4 =>
        (bif ((!((decide (((List.getD x0 (Int.toNat a3) (0, (0, (false, 0)))).1) ≤ x3.1)) && (decide ((w (x3.1 - ((List.getD x0 (Int.toNat a3) (0, (0, (false, 0)))).1))) < r4)))) && (decide (((List.getD x0 (Int.toNat a3) (0, (0, (false, 0)))).1) > x3.1))) then ref_Apart.fn N ((vl 16 x2), x3, List.getD x0 (Int.toNat a3) (0, (0, (false, 0)))) else some (0)).bind fun r5 =>
        bif ((decide (((List.getD x0 (Int.toNat a3) (0, (0, (false, 0)))).1) ≤ x3.1)) && (decide ((w (x3.1 - ((List.getD x0 (Int.toNat a3) (0, (0, (false, 0)))).1))) < r4))) || ((decide (((List.getD x0 (Int.toNat a3) (0, (0, (false, 0)))).1) > x3.1)) && (decide ((w (((List.getD x0 (Int.toNat a3) (0, (0, (false, 0)))).1) - x3.1)) < r5))) then
          some false
        else
          ref_Fits.l0 N x0 x2 x3 k2 (w (a3 + 1))
      else
        none
    else
      some true := by
  rw [ref_Fits.l0_succ]; simp only [taut9, taut10, taut11, taut7, taut8, taut12, cond_true]
theorem ref_Fits.l0_cons (N : Nat) (x0 : List (Int × Int × Bool × Int)) (x2 : List Int) (x3 : Int × Int × Bool × Int) (k2 : Nat) {pre r} {x} (hl : x0 = pre ++ x :: r) (hb : x0.length < 4611686018427387904) : ref_Fits.l0 N x0 x2 x3 (k2 + 1) (pre.length : Int) =
    (bif (decide ((x.1) ≤ x3.1)) then ref_Apart.fn N ((vl 16 x2), x, x3) else some (0)).bind fun r4 =>
    (bif ((!((decide ((x.1) ≤ x3.1)) && (decide ((w (x3.1 - (x.1))) < r4)))) && (decide ((x.1) > x3.1))) then ref_Apart.fn N ((vl 16 x2), x3, x) else some (0)).bind fun r5 =>
    bif ((decide ((x.1) ≤ x3.1)) && (decide ((w (x3.1 - (x.1))) < r4))) || ((decide ((x.1) > x3.1)) && (decide ((w ((x.1) - x3.1)) < r5))) then
      some false
    else
      ref_Fits.l0 N x0 x2 x3 k2 ((pre.length : Int) + 1) := by
  have hlen : x0.length = pre.length + 1 + r.length := by rw [hl]; simp; omega
  have e1 : decide ((pre.length : Int) < (x0.length : Int)) = true := by rw [decide_eq_true_iff]; omega
  have e2 : decide (0 ≤ (pre.length : Int)) = true := by rw [decide_eq_true_iff]; omega
  have e4 : w ((pre.length : Int) + 1) = (pre.length : Int) + 1 := w_next hl hb
  have e5 : List.take pre.length x0 = pre := by rw [hl]; simp
  have e6 : decide ((pre.length : Int) ≤ (x0.length : Int)) = true := by rw [decide_eq_true_iff]; omega
  have g0 : List.getD x0 pre.length (0, (0, (false, 0))) = x := by rw [hl]; exact getD_mid pre x r _
  rw [ref_Fits.l0_clean]
  simp -implicitDefEqProofs only [Int.toNat_natCast, e1, e2, e4, e6, g0, e5, Bool.and_true, Bool.true_and, Bool.true_or, cond_true]
theorem ref_Fits.l0_nil (N : Nat) (x0 : List (Int × Int × Bool × Int)) (x2 : List Int) (x3 : Int × Int × Bool × Int) (k2 : Nat) : ref_Fits.l0 N x0 x2 x3 (k2 + 1) (x0.length : Int) =
    some true := by
  have e1 : decide ((x0.length : Int) < (x0.length : Int)) = false := by rw [decide_eq_false_iff_not]; omega
  rw [ref_Fits.l0_clean]
  simp -implicitDefEqProofs only [e1, cond_false]
theorem ref_Fits.eq (N : Nat) (x0 : List (Int × Int × Bool × Int)) (x1 : List (Int × Int)) (x2 : List Int) (x3 : Int × Int × Bool × Int) : ref_Fits.fn N (x0, x1, x2, x3) =
    (ref_EndAt.fn N (x1, x3.1)).bind fun r1 =>
    bif !(r1 == x3.2.2.2) then
      some false
    else
      ref_Fits.l0 N x0 x2 x3 N 0 := by kernel_rfl

/-! ### ref_Departed: skyway/skywayref3.Departed -/
def ref_Departed.kp : List (Nat × List (Nat × Option (TypeId × Ty))) := [(2, [(0, none), (1, none), (4, none), (7, none), (8, none), (10, none), (12, none)])]
noncomputable def ref_Departed.G (N : Nat) : List (Nat × Spec) := [(20, .pure (ref_EndAt.S N)), (88, .pure (ref_Fits.S N))]
noncomputable def ref_Departed.E (N : Nat) : Env := mkEnv (ref_Departed.G N) N tyTab ref_Departed.kp
noncomputable def ref_Departed.fn (N : Nat) (x : List (Int × Int × Bool × Int) × List (Int × Int) × List Int × (Int × Int) × Int) : Option ((Int × Int × Bool × Int) × Bool) := evFn (ref_Departed.E N) Try.prog 3 Try.f30 false [.cell (.sl 35 (.pair (.int .i64) (.pair (.int .i64) (.pair (.bool) (.int .i64))))), .cell (.sl 60 (.pair (.int .i64) (.int .i64))), .agg (.vec 16 .i64), .agg (.pair (.int .i64) (.int .i64)), .cell (.int .i64)] [.val (.agg (.pair (.int .i64) (.pair (.int .i64) (.pair (.bool) (.int .i64))))), .val (.cell (.bool))] x
noncomputable def ref_Departed.S (N : Nat) : PSpec := ⟨false, [.cell (.sl 35 (.pair (.int .i64) (.pair (.int .i64) (.pair (.bool) (.int .i64))))), .cell (.sl 60 (.pair (.int .i64) (.int .i64))), .agg (.vec 16 .i64), .agg (.pair (.int .i64) (.int .i64)), .cell (.int .i64)], [.val (.agg (.pair (.int .i64) (.pair (.int .i64) (.pair (.bool) (.int .i64))))), .val (.cell (.bool))], ref_Departed.fn N⟩
theorem f30_enters : Enters Try.prog 30 := ⟨Try.f30, Try.func30, by kernel_rfl, by kernel_rfl⟩
theorem ref_Departed.tab (N : Nat) : TabOk Try.prog (ref_Departed.G N) := ⟨⟨ref_EndAt.enters, ref_EndAt.sound N⟩, ⟨ref_Fits.enters, ref_Fits.sound N⟩, trivial⟩
theorem ref_Departed.enters : Enters Try.prog 30 := f30_enters
theorem ref_Departed.sound (N : Nat) : Sound Try.prog 30 (ref_Departed.S N) := evFn_sound (specs_tab (ref_Departed.tab N)) (inls_tab (ref_Departed.tab N)) mixed 3 Try.func30 _ _ _
noncomputable def ref_Departed.cd (N : Nat) (p : List Nat) : St → (Ex → St → Option ((Int × Int × Bool × Int) × Bool)) → Option ((Int × Int × Bool × Int) × Bool) := ev (ref_Departed.E N) Try.prog (callD (ref_Departed.E N) Try.prog 3) 0 (codeAt (bodyOf Try.f30) p)
noncomputable def ref_Departed.fin : Ex → St → Option ((Int × Int × Bool × Int) × Bool) := endK Try.prog Try.f30 [.val (.agg (.pair (.int .i64) (.pair (.int .i64) (.pair (.bool) (.int .i64))))), .val (.cell (.bool))]
noncomputable def ref_Departed.l0 (N : Nat) (x0 : List (Int × Int × Bool × Int)) (x1 : List (Int × Int)) (x2 : List Int) (x3 : Int × Int) (x4 : Int) (k1 : Nat) (a2 : Int) : Option ((Int × Int × Bool × Int) × Bool) :=
  loopN (norm ((ref_Departed.E N).keep 2) 0) (ref_Departed.cd N [1, 0, 1, 0, 0]) k1
  ⟨[.ros false 35 (.pair (.int .i64) (.pair (.int .i64) (.pair (.bool) (.int .i64)))) x0, .ros false 60 (.pair (.int .i64) (.int .i64)) x1, .any, .any, .sc (.int .i64 x4), .any, .any, .ptr 0 0, .ptr 1 0, .any, .ptr 2 0, .any, .sc (.int .i64 a2), .any, .any, .any, .any, .any, .any, .any, .any, .any, .any, .any, .any, .any, .any, .any, .any, .any, .any, .any, .any, .any, .any, .any, .any, .any, .any, .any], [.cells [.sc (.int .i64 (List.getD x2 0 0)), .sc (.int .i64 (List.getD x2 1 0)), .sc (.int .i64 (List.getD x2 2 0)), .sc (.int .i64 (List.getD x2 3 0)), .sc (.int .i64 (List.getD x2 4 0)), .sc (.int .i64 (List.getD x2 5 0)), .sc (.int .i64 (List.getD x2 6 0)), .sc (.int .i64 (List.getD x2 7 0)), .sc (.int .i64 (List.getD x2 8 0)), .sc (.int .i64 (List.getD x2 9 0)), .sc (.int .i64 (List.getD x2 10 0)), .sc (.int .i64 (List.getD x2 11 0)), .sc (.int .i64 (List.getD x2 12 0)), .sc (.int .i64 (List.getD x2 13 0)), .sc (.int .i64 (List.getD x2 14 0)), .sc (.int .i64 (List.getD x2 15 0))] 26, .cells [.sc (.int .i64 x3.1), .sc (.int .i64 x3.2)] 49, .cells [.sc (.int .i64 0), .sc (.int .i64 0), .sc (.bool false), .sc (.int .i64 0)] 35]⟩
  (blockK 0 (seqK (ref_Departed.cd N [1, 1]) ref_Departed.fin))
theorem ref_Departed.l0_zero (N : Nat) (x0 : List (Int × Int × Bool × Int)) (x1 : List (Int × Int)) (x2 : List Int) (x3 : Int × Int) (x4 : Int) (a2 : Int) : ref_Departed.l0 N x0 x1 x2 x3 x4 0 a2 = none := by kernel_rfl
theorem ref_Departed.l0_succ (N : Nat) (x0 : List (Int × Int × Bool × Int)) (x1 : List (Int × Int)) (x2 : List Int) (x3 : Int × Int) (x4 : Int) (k1 : Nat) (a2 : Int) : ref_Departed.l0 N x0 x1 x2 x3 x4 (k1 + 1) a2 =
    bif decide (a2 ≤ x4) then
      (ref_EndAt.fn N (x1, a2)).bind fun r3 =>
      bif !(decide (r3 ≥ 0)) || (decide (r3 ≥ 0)) then
        bif !(decide (r3 ≥ 0)) || (decide (r3 ≥ 0)) then
          bif !(decide (r3 ≥ 0)) || (decide (r3 ≥ 0)) then
            bif !(decide (r3 ≥ 0)) || (decide (r3 ≥ 0)) then
              (bif (decide (r3 ≥ 0)) then ref_Fits.fn N (x0, x1, (vl 16 x2), (a2, (x3.2, (true, r3)))) else some (false)).bind fun r4 =>
              bif (!(decide (r3 ≥ 0))) || (decide (r3 ≥ 0)) then
                bif (decide (r3 ≥ 0)) && r4 then
                  some ((a2, (x3.2, (true, r3))), true)
                else
                  ref_Departed.l0 N x0 x1 x2 x3 x4 k1 (w (a2 + 1))
              else
                none
            else
              none
          else
            none
        else
          none
      else
        none
    else
      some ((0, (0, (false, 0))), false) := by kernel_rfl
theorem ref_Departed.l0_clean (N : Nat) (x0 : List (Int × Int × Bool × Int)) (x1 : List (Int × Int)) (x2 : List Int) (x3 : Int × Int) (x4 : Int) (k1 : Nat) (a2 : Int) : ref_Departed.l0 N x0 x1 x2 x3 x4 (k1 + 1) a2 =
    bif decide (a2 ≤ x4) then
      (ref_EndAt.fn N (x1, a2)).bind fun r3 =>
      (bif (decide (r3 ≥ 0)) then ref_Fits.fn N (x0, x1, (vl 16 x2), (a2, (x3.2, (true, r3)))) else some (false)).bind fun r4 =>
      bif (decide (r3 ≥ 0)) && r4 then
        some ((a2, (x3.2, (true, r3))), true)
      else
        ref_Departed.l0 N x0 x1 x2 x3 x4 k1 (w (a2 + 1))
    else
      some ((0, (0, (false, 0))), false) := by
  rw [ref_Departed.l0_succ]; simp only [taut7, taut8, cond_true]
theorem ref_Departed.eq (N : Nat) (x0 : List (Int × Int × Bool × Int)) (x1 : List (Int × Int)) (x2 : List Int) (x3 : Int × Int) (x4 : Int) : ref_Departed.fn N (x0, x1, x2, x3, x4) =
    ref_Departed.l0 N x0 x1 x2 x3 x4 N x3.1 := by kernel_rfl

/-! ### slices_Equal_RunwayMove: slices.Equal[[]skyway/api.RunwayMove,skyway/api.RunwayMove] -/
def slices_Equal_RunwayMove.kp : List (Nat × List (Nat × Option (TypeId × Ty))) := [(4, [(0, none), (1, none), (12, none), (13, none)])]
noncomputable def slices_Equal_RunwayMove.G (N : Nat) : List (Nat × Spec) := []
noncomputable def slices_Equal_RunwayMove.E (N : Nat) : Env := mkEnv (slices_Equal_RunwayMove.G N) N tyTab slices_Equal_RunwayMove.kp
noncomputable def slices_Equal_RunwayMove.fn (N : Nat) (x : List (Int × Int × Bool × Int) × List (Int × Int × Bool × Int)) : Option Bool := evFn (slices_Equal_RunwayMove.E N) Try.prog 3 Try.f32 false [.cell (.sl 35 (.pair (.int .i64) (.pair (.int .i64) (.pair (.bool) (.int .i64))))), .cell (.sl 35 (.pair (.int .i64) (.pair (.int .i64) (.pair (.bool) (.int .i64)))))] [.val (.cell (.bool))] x
noncomputable def slices_Equal_RunwayMove.S (N : Nat) : PSpec := ⟨false, [.cell (.sl 35 (.pair (.int .i64) (.pair (.int .i64) (.pair (.bool) (.int .i64))))), .cell (.sl 35 (.pair (.int .i64) (.pair (.int .i64) (.pair (.bool) (.int .i64)))))], [.val (.cell (.bool))], slices_Equal_RunwayMove.fn N⟩
theorem f32_enters : Enters Try.prog 32 := ⟨Try.f32, Try.func32, by kernel_rfl, by kernel_rfl⟩
theorem slices_Equal_RunwayMove.tab (N : Nat) : TabOk Try.prog (slices_Equal_RunwayMove.G N) := trivial
theorem slices_Equal_RunwayMove.enters : Enters Try.prog 32 := f32_enters
theorem slices_Equal_RunwayMove.sound (N : Nat) : Sound Try.prog 32 (slices_Equal_RunwayMove.S N) := evFn_sound (specs_tab (slices_Equal_RunwayMove.tab N)) (inls_tab (slices_Equal_RunwayMove.tab N)) mixed 3 Try.func32 _ _ _
noncomputable def slices_Equal_RunwayMove.cd (N : Nat) (p : List Nat) : St → (Ex → St → Option Bool) → Option Bool := ev (slices_Equal_RunwayMove.E N) Try.prog (callD (slices_Equal_RunwayMove.E N) Try.prog 3) 0 (codeAt (bodyOf Try.f32) p)
noncomputable def slices_Equal_RunwayMove.fin : Ex → St → Option Bool := endK Try.prog Try.f32 [.val (.cell (.bool))]
noncomputable def slices_Equal_RunwayMove.l0 (N : Nat) (x0 : List (Int × Int × Bool × Int)) (x1 : List (Int × Int × Bool × Int)) (k1 : Nat) (a2 : Int) : Option Bool :=
  loopN (norm ((slices_Equal_RunwayMove.E N).keep 4) 0) (slices_Equal_RunwayMove.cd N [1, 1, 0, 1, 0, 0]) k1
  ⟨[.ros false 35 (.pair (.int .i64) (.pair (.int .i64) (.pair (.bool) (.int .i64)))) x0, .ros false 35 (.pair (.int .i64) (.pair (.int .i64) (.pair (.bool) (.int .i64)))) x1, .any, .any, .any, .any, .any, .any, .any, .any, .any, .any, .sc (.int .i64 (x0.length : Int)), .sc (.int .i64 a2), .any, .any, .any, .any, .any, .any, .any, .any, .any, .any, .any, .any], []⟩
  (blockK 0 (seqK (slices_Equal_RunwayMove.cd N [1, 1, 1]) slices_Equal_RunwayMove.fin))
theorem slices_Equal_RunwayMove.l0_zero (N : Nat) (x0 : List (Int × Int × Bool × Int)) (x1 : List (Int × Int × Bool × Int)) (a2 : Int) : slices_Equal_RunwayMove.l0 N x0 x1 0 a2 = none := by kernel_rfl
theorem slices_Equal_RunwayMove.l0_succ (N : Nat) (x0 : List (Int × Int × Bool × Int)) (x1 : List (Int × Int × Bool × Int)) (k1 : Nat) (a2 : Int) : slices_Equal_RunwayMove.l0 N x0 x1 (k1 + 1) a2 =
    bif decide (a2 < (x0.length : Int)) then
      bif (decide (0 ≤ a2)) && (decide (a2 < (x0.length : Int))) then
        bif (decide (0 ≤ a2)) && (decide (a2 < (x1.length : Int))) then
          bif !((((List.getD x0 (Int.toNat a2) (0, (0, (false, 0)))).1) == ((List.getD x1 (Int.toNat a2) (0, (0, (false, 0)))).1)) && (((((List.getD x0 (Int.toNat a2) (0, (0, (false, 0)))).2).1) == (((List.getD x1 (Int.toNat a2) (0, (0, (false, 0)))).2).1)) && ((((((List.getD x0 (Int.toNat a2) (0, (0, (false, 0)))).2).2).1) == ((((List.getD x1 (Int.toNat a2) (0, (0, (false, 0)))).2).2).1)) && ((((((List.getD x0 (Int.toNat a2) (0, (0, (false, 0)))).2).2).2) == ((((List.getD x1 (Int.toNat a2) (0, (0, (false, 0)))).2).2).2)) && true)))) then
            some false
          else
            slices_Equal_RunwayMove.l0 N x0 x1 k1 (w (a2 + 1))
        else
          none
      else
        none
    else
      some true := by kernel_rfl
theorem slices_Equal_RunwayMove.l0_cons (N : Nat) (x0 : List (Int × Int × Bool × Int)) (x1 : List (Int × Int × Bool × Int)) (k1 : Nat) {pre r} {x} (hl : x0 = pre ++ x :: r) (hb : x0.length < 4611686018427387904) : slices_Equal_RunwayMove.l0 N x0 x1 (k1 + 1) (pre.length : Int) =
    bif decide ((pre.length : Int) < (x1.length : Int)) then
      bif !(((x.1) == ((List.getD x1 pre.length (0, (0, (false, 0)))).1)) && ((((x.2).1) == (((List.getD x1 pre.length (0, (0, (false, 0)))).2).1)) && (((((x.2).2).1) == ((((List.getD x1 pre.length (0, (0, (false, 0)))).2).2).1)) && (((((x.2).2).2) == ((((List.getD x1 pre.length (0, (0, (false, 0)))).2).2).2)) && true)))) then
        some false
      else
        slices_Equal_RunwayMove.l0 N x0 x1 k1 ((pre.length : Int) + 1)
    else
      none := by
  have hlen : x0.length = pre.length + 1 + r.length := by rw [hl]; simp; omega
  have e1 : decide ((pre.length : Int) < (x0.length : Int)) = true := by rw [decide_eq_true_iff]; omega
  have e2 : decide (0 ≤ (pre.length : Int)) = true := by rw [decide_eq_true_iff]; omega
  have e4 : w ((pre.length : Int) + 1) = (pre.length : Int) + 1 := w_next hl hb
  have e5 : List.take pre.length x0 = pre := by rw [hl]; simp
  have e6 : decide ((pre.length : Int) ≤ (x0.length : Int)) = true := by rw [decide_eq_true_iff]; omega
  have g0 : List.getD x0 pre.length (0, (0, (false, 0))) = x := by rw [hl]; exact getD_mid pre x r _
  rw [slices_Equal_RunwayMove.l0_succ]
  simp -implicitDefEqProofs only [Int.toNat_natCast, e1, e2, e4, e6, g0, e5, Bool.and_true, Bool.true_and, Bool.true_or, cond_true]
theorem slices_Equal_RunwayMove.l0_nil (N : Nat) (x0 : List (Int × Int × Bool × Int)) (x1 : List (Int × Int × Bool × Int)) (k1 : Nat) : slices_Equal_RunwayMove.l0 N x0 x1 (k1 + 1) (x0.length : Int) =
    some true := by
  have e1 : decide ((x0.length : Int) < (x0.length : Int)) = false := by rw [decide_eq_false_iff_not]; omega
  rw [slices_Equal_RunwayMove.l0_succ]
  simp -implicitDefEqProofs only [e1, cond_false]
theorem slices_Equal_RunwayMove.eq (N : Nat) (x0 : List (Int × Int × Bool × Int)) (x1 : List (Int × Int × Bool × Int)) : slices_Equal_RunwayMove.fn N (x0, x1) =
    bif !((x0.length : Int) == (x1.length : Int)) then
      some false
    else
      slices_Equal_RunwayMove.l0 N x0 x1 N 0 := by kernel_rfl
theorem slices_Equal_RunwayMove.v {N : Nat} (hN : 4611686018427387904 ≤ N) (x0 x1 : List (Int × Int × Bool × Int)) (h : x0.length < 4611686018427387904) : slices_Equal_RunwayMove.fn N (x0, x1) = some (eqL (fun p q => (((p.1) == (q.1)) && ((((p.2).1) == ((q.2).1)) && (((((p.2).2).1) == (((q.2).2).1)) && (((((p.2).2).2) == (((q.2).2).2)) && true))))) x0 x1) := equal_list hN (fun p q => (((p.1) == (q.1)) && ((((p.2).1) == ((q.2).1)) && (((((p.2).2).1) == (((q.2).2).1)) && (((((p.2).2).2) == (((q.2).2).2)) && true))))) (0, (0, (false, 0))) h (fun k i => slices_Equal_RunwayMove.l0 N x0 x1 k i) (slices_Equal_RunwayMove.eq N x0 x1) (fun k i => slices_Equal_RunwayMove.l0_succ N x0 x1 k i)
theorem slices_Equal_RunwayMove.self {N : Nat} (hN : 4611686018427387904 ≤ N) (x0 : List (Int × Int × Bool × Int)) (h : x0.length < 4611686018427387904) : slices_Equal_RunwayMove.fn N (x0, x0) = some true := by rw [slices_Equal_RunwayMove.v hN x0 x0 h]; exact congrArg some (eqL_refl (fun p => by simp [seq_self]) x0)

/-! ### law_RunwayInserts: skyway/skywaylaw3.RunwayInserts -/

def law_RunwayInserts.kp : List (Nat × List (Nat × Option (TypeId × Ty))) := [(11, [(1, none), (3, none), (6, none), (9, none), (10, none), (11, none), (12, none), (13, none)]), (23, [(1, none), (3, none), (6, none), (9, none), (10, none), (11, none), (12, none), (13, none), (14, none), (16, none)]), (1000007, [(0, none), (1, none), (3, none), (6, none), (9, none), (10, none), (11, none)]), (1000009, [(0, none), (1, none), (3, none), (6, none), (9, none), (10, none), (11, none)])]
noncomputable def law_RunwayInserts.G (N : Nat) : List (Nat × Spec) := [(14, .pure (law_runwayFact.S N)), (25, .pure (law_planError.S N)), (26, .pure (ref_Wrong.S N)), (27, .pure (runway_Insert.S N)), (28, .pure (slices_Clone_RunwayMove.S N)), (29, .pure (law_classesError.S N)), (30, .pure (ref_Departed.S N)), (31, .mac (insM Try.prog 35 (.pair (.int .i64) (.pair (.int .i64) (.pair (.bool) (.int .i64)))))), (32, .pure (slices_Equal_RunwayMove.S N))]
noncomputable def law_RunwayInserts.E (N : Nat) : Env := mkEnv (law_RunwayInserts.G N) N tyTab law_RunwayInserts.kp
noncomputable def law_RunwayInserts.fn (N : Nat) (x : List (Int × Int × Bool × Int) × List (Int × Int) × List Int × List (Int × Int)) : Option Bool := evFn (law_RunwayInserts.E N) Try.prog 3 Try.f5 false [.cell (.sl 35 (.pair (.int .i64) (.pair (.int .i64) (.pair (.bool) (.int .i64))))), .cell (.sl 60 (.pair (.int .i64) (.int .i64))), .agg (.vec 16 .i64), .cell (.sl 49 (.pair (.int .i64) (.int .i64)))] [.val (.cell (.bool))] x
noncomputable def law_RunwayInserts.S (N : Nat) : PSpec := ⟨false, [.cell (.sl 35 (.pair (.int .i64) (.pair (.int .i64) (.pair (.bool) (.int .i64))))), .cell (.sl 60 (.pair (.int .i64) (.int .i64))), .agg (.vec 16 .i64), .cell (.sl 49 (.pair (.int .i64) (.int .i64)))], [.val (.cell (.bool))], law_RunwayInserts.fn N⟩
theorem f5_enters : Enters Try.prog 5 := ⟨Try.f5, Try.func5, by kernel_rfl, by kernel_rfl⟩
theorem law_RunwayInserts.tab (N : Nat) : TabOk Try.prog (law_RunwayInserts.G N) := ⟨⟨law_runwayFact.enters, law_runwayFact.sound N⟩, ⟨law_planError.enters, law_planError.sound N⟩, ⟨ref_Wrong.enters, ref_Wrong.sound N⟩, ⟨runway_Insert.enters, runway_Insert.sound N⟩, ⟨slices_Clone_RunwayMove.enters, slices_Clone_RunwayMove.sound N⟩, ⟨law_classesError.enters, law_classesError.sound N⟩, ⟨ref_Departed.enters, ref_Departed.sound N⟩, ⟨f31_enters, ins_sound (T := 22) (by kernel_rfl) Ins31.insC⟩, ⟨slices_Equal_RunwayMove.enters, slices_Equal_RunwayMove.sound N⟩, trivial⟩
theorem law_RunwayInserts.enters : Enters Try.prog 5 := f5_enters
theorem law_RunwayInserts.sound (N : Nat) : Sound Try.prog 5 (law_RunwayInserts.S N) := evFn_sound (specs_tab (law_RunwayInserts.tab N)) (inls_tab (law_RunwayInserts.tab N)) mixed 3 Try.func5 _ _ _
noncomputable def law_RunwayInserts.cd (N : Nat) (p : List Nat) : St → (Ex → St → Option Bool) → Option Bool := ev (law_RunwayInserts.E N) Try.prog (callD (law_RunwayInserts.E N) Try.prog 3) 0 (codeAt (bodyOf Try.f5) p)
noncomputable def law_RunwayInserts.fin : Ex → St → Option Bool := endK Try.prog Try.f5 [.val (.cell (.bool))]
noncomputable def law_RunwayInserts.j0 (N : Nat) (x0 : List (Int × Int × Bool × Int)) (x1 : List (Int × Int)) (x2 : List Int) (x3 : List (Int × Int)) (r2 : List (Int × Int × Bool × Int) × Int) (a4 : Int) : Option Bool :=
  fuelK N (region (law_RunwayInserts.E N) Try.prog (callD (law_RunwayInserts.E N) Try.prog 3) (opsAt (codeAt (bodyOf Try.f5) [1, 1, 1, 1, 1, 0, 0])) false
  ⟨[.ros false 35 (.pair (.int .i64) (.pair (.int .i64) (.pair (.bool) (.int .i64)))) x0, .ros false 60 (.pair (.int .i64) (.int .i64)) x1, .any, .ros false 49 (.pair (.int .i64) (.int .i64)) x3, .any, .any, .ptr 0 0, .any, .any, .own 1, .sc (.int .i64 r2.2), .sc (.int .i64 a4), .any, .any, .any, .any, .any, .any, .any, .any, .any, .any, .any, .any, .any, .any, .any, .any, .any, .any, .any, .any, .any, .any, .any, .any, .any, .any, .any, .any, .any, .any, .any, .any, .any, .any, .any, .any, .any, .any, .any, .any, .any, .any, .any, .any, .any, .any, .any, .any, .any, .any, .any, .any, .any, .any, .any, .any, .any, .any, .any, .any, .any, .any, .any, .any, .any, .any, .any, .any, .any, .any, .any, .any, .any, .any, .any, .any, .any, .any, .any, .any, .any, .any, .any, .any, .any, .any, .any, .any, .any, .any, .any, .any, .any, .any, .any, .any, .any, .any, .any, .any, .any, .any, .any, .any, .any, .any, .any, .any, .any, .any, .any, .any, .any, .any, .any, .any, .any, .any, .any, .any, .any, .any, .any, .any, .any, .any, .any, .any, .any, .any, .any, .any, .any, .any, .any, .any, .any, .any, .any, .any, .any, .any], [.cells [.sc (.int .i64 (List.getD x2 0 0)), .sc (.int .i64 (List.getD x2 1 0)), .sc (.int .i64 (List.getD x2 2 0)), .sc (.int .i64 (List.getD x2 3 0)), .sc (.int .i64 (List.getD x2 4 0)), .sc (.int .i64 (List.getD x2 5 0)), .sc (.int .i64 (List.getD x2 6 0)), .sc (.int .i64 (List.getD x2 7 0)), .sc (.int .i64 (List.getD x2 8 0)), .sc (.int .i64 (List.getD x2 9 0)), .sc (.int .i64 (List.getD x2 10 0)), .sc (.int .i64 (List.getD x2 11 0)), .sc (.int .i64 (List.getD x2 12 0)), .sc (.int .i64 (List.getD x2 13 0)), .sc (.int .i64 (List.getD x2 14 0)), .sc (.int .i64 (List.getD x2 15 0))] 26, .rows true 35 (.pair (.int .i64) (.pair (.int .i64) (.pair (.bool) (.int .i64)))) r2.1]⟩
  (fun S => (seqK (law_RunwayInserts.cd N [1, 1, 1, 1, 1, 0, 1]) (seqK (law_RunwayInserts.cd N [1, 1, 1, 1, 1, 1]) law_RunwayInserts.fin)) .normal S))
noncomputable def law_RunwayInserts.j1 (N : Nat) (x0 : List (Int × Int × Bool × Int)) (x1 : List (Int × Int)) (x2 : List Int) (x3 : List (Int × Int)) (r2 : List (Int × Int × Bool × Int) × Int) (a5 : Int) : Option Bool :=
  fuelK N (region (law_RunwayInserts.E N) Try.prog (callD (law_RunwayInserts.E N) Try.prog 3) (opsAt (codeAt (bodyOf Try.f5) [1, 1, 1, 1, 1, 1, 0])) false
  ⟨[.ros false 35 (.pair (.int .i64) (.pair (.int .i64) (.pair (.bool) (.int .i64)))) x0, .ros false 60 (.pair (.int .i64) (.int .i64)) x1, .any, .ros false 49 (.pair (.int .i64) (.int .i64)) x3, .any, .any, .ptr 0 0, .any, .any, .own 1, .sc (.int .i64 r2.2), .sc (.int .i64 a5), .any, .any, .any, .any, .any, .any, .any, .any, .any, .any, .any, .any, .any, .any, .any, .any, .any, .any, .any, .any, .any, .any, .any, .any, .any, .any, .any, .any, .any, .any, .any, .any, .any, .any, .any, .any, .any, .any, .any, .any, .any, .any, .any, .any, .any, .any, .any, .any, .any, .any, .any, .any, .any, .any, .any, .any, .any, .any, .any, .any, .any, .any, .any, .any, .any, .any, .any, .any, .any, .any, .any, .any, .any, .any, .any, .any, .any, .any, .any, .any, .any, .any, .any, .any, .any, .any, .any, .any, .any, .any, .any, .any, .any, .any, .any, .any, .any, .any, .any, .any, .any, .any, .any, .any, .any, .any, .any, .any, .any, .any, .any, .any, .any, .any, .any, .any, .any, .any, .any, .any, .any, .any, .any, .any, .any, .any, .any, .any, .any, .any, .any, .any, .any, .any, .any, .any, .any, .any, .any, .any, .any, .any], [.cells [.sc (.int .i64 (List.getD x2 0 0)), .sc (.int .i64 (List.getD x2 1 0)), .sc (.int .i64 (List.getD x2 2 0)), .sc (.int .i64 (List.getD x2 3 0)), .sc (.int .i64 (List.getD x2 4 0)), .sc (.int .i64 (List.getD x2 5 0)), .sc (.int .i64 (List.getD x2 6 0)), .sc (.int .i64 (List.getD x2 7 0)), .sc (.int .i64 (List.getD x2 8 0)), .sc (.int .i64 (List.getD x2 9 0)), .sc (.int .i64 (List.getD x2 10 0)), .sc (.int .i64 (List.getD x2 11 0)), .sc (.int .i64 (List.getD x2 12 0)), .sc (.int .i64 (List.getD x2 13 0)), .sc (.int .i64 (List.getD x2 14 0)), .sc (.int .i64 (List.getD x2 15 0))] 26, .rows true 35 (.pair (.int .i64) (.pair (.int .i64) (.pair (.bool) (.int .i64)))) r2.1]⟩
  (fun S => (seqK (law_RunwayInserts.cd N [1, 1, 1, 1, 1, 1, 1]) law_RunwayInserts.fin) .normal S))
noncomputable def law_RunwayInserts.l2 (N : Nat) (x1 : List (Int × Int)) (x2 : List Int) (x3 : List (Int × Int)) (r2 : List (Int × Int × Bool × Int) × Int) (k7 : Nat) (a8 : Int) (a9 : Int) (a10 : List (Int × Int × Bool × Int)) : Option Bool :=
  loopN (norm ((law_RunwayInserts.E N).keep 11) 0) (law_RunwayInserts.cd N [1, 1, 1, 1, 1, 1, 1, 0, 1, 0, 0]) k7
  ⟨[.any, .ros false 60 (.pair (.int .i64) (.int .i64)) x1, .any, .ros false 49 (.pair (.int .i64) (.int .i64)) x3, .any, .any, .ptr 0 0, .any, .any, .own 1, .sc (.int .i64 r2.2), .sc (.int .i64 a8), .own 2, .sc (.int .i64 a9), .any, .any, .any, .any, .any, .any, .any, .any, .any, .any, .any, .any, .any, .any, .any, .any, .any, .any, .any, .any, .any, .any, .any, .any, .any, .any, .any, .any, .any, .any, .any, .any, .any, .any, .any, .any, .any, .any, .any, .any, .any, .any, .any, .any, .any, .any, .any, .any, .any, .any, .any, .any, .any, .any, .any, .any, .any, .any, .any, .any, .any, .any, .any, .any, .any, .any, .any, .any, .any, .any, .any, .any, .any, .any, .any, .any, .any, .any, .any, .any, .any, .any, .any, .any, .any, .any, .any, .any, .any, .any, .any, .any, .any, .any, .any, .any, .any, .any, .any, .any, .any, .any, .any, .any, .any, .any, .any, .any, .any, .any, .any, .any, .any, .any, .any, .any, .any, .any, .any, .any, .any, .any, .any, .any, .any, .any, .any, .any, .any, .any, .any, .any, .any, .any, .any, .any, .any, .any, .any, .any], [.cells [.sc (.int .i64 (List.getD x2 0 0)), .sc (.int .i64 (List.getD x2 1 0)), .sc (.int .i64 (List.getD x2 2 0)), .sc (.int .i64 (List.getD x2 3 0)), .sc (.int .i64 (List.getD x2 4 0)), .sc (.int .i64 (List.getD x2 5 0)), .sc (.int .i64 (List.getD x2 6 0)), .sc (.int .i64 (List.getD x2 7 0)), .sc (.int .i64 (List.getD x2 8 0)), .sc (.int .i64 (List.getD x2 9 0)), .sc (.int .i64 (List.getD x2 10 0)), .sc (.int .i64 (List.getD x2 11 0)), .sc (.int .i64 (List.getD x2 12 0)), .sc (.int .i64 (List.getD x2 13 0)), .sc (.int .i64 (List.getD x2 14 0)), .sc (.int .i64 (List.getD x2 15 0))] 26, .rows true 35 (.pair (.int .i64) (.pair (.int .i64) (.pair (.bool) (.int .i64)))) r2.1, .rows true 35 (.pair (.int .i64) (.pair (.int .i64) (.pair (.bool) (.int .i64)))) a10]⟩
  (blockK 0 (seqK (law_RunwayInserts.cd N [1, 1, 1, 1, 1, 1, 1, 1]) law_RunwayInserts.fin))
noncomputable def law_RunwayInserts.l3 (N : Nat) (x1 : List (Int × Int)) (x2 : List Int) (x3 : List (Int × Int)) (r2 : List (Int × Int × Bool × Int) × Int) (k7 : Nat) (a9 : Int) (a10 : List (Int × Int × Bool × Int)) (r11 : Int) (r12 : (Int × Int × Bool × Int) × Bool) (k13 : Nat) (a14 : Int) : Option Bool :=
  loopN (norm ((law_RunwayInserts.E N).keep 23) 0) (law_RunwayInserts.cd N [1, 1, 1, 1, 1, 1, 1, 0, 1, 0, 0, 1, 0, 0, 1, 1, 1, 1, 1, 1, 0, 0, 0]) k13
  ⟨[.any, .ros false 60 (.pair (.int .i64) (.int .i64)) x1, .any, .ros false 49 (.pair (.int .i64) (.int .i64)) x3, .any, .any, .ptr 0 0, .any, .any, .own 1, .sc (.int .i64 r2.2), .sc (.int .i64 r11), .own 2, .sc (.int .i64 a9), .ptr 3 0, .any, .sc (.int .i64 a14), .any, .any, .any, .any, .any, .any, .any, .any, .any, .any, .any, .any, .any, .any, .any, .any, .any, .any, .any, .any, .any, .any, .any, .any, .any, .any, .any, .any, .any, .any, .any, .any, .any, .any, .any, .any, .any, .any, .any, .any, .any, .any, .any, .any, .any, .any, .any, .any, .any, .any, .any, .any, .any, .any, .any, .any, .any, .any, .any, .any, .any, .any, .any, .any, .any, .any, .any, .any, .any, .any, .any, .any, .any, .any, .any, .any, .any, .any, .any, .any, .any, .any, .any, .any, .any, .any, .any, .any, .any, .any, .any, .any, .any, .any, .any, .any, .any, .any, .any, .any, .any, .any, .any, .any, .any, .any, .any, .any, .any, .any, .any, .any, .any, .any, .any, .any, .any, .any, .any, .any, .any, .any, .any, .any, .any, .any, .any, .any, .any, .any, .any, .any, .any, .any, .any, .any, .any], [.cells [.sc (.int .i64 (List.getD x2 0 0)), .sc (.int .i64 (List.getD x2 1 0)), .sc (.int .i64 (List.getD x2 2 0)), .sc (.int .i64 (List.getD x2 3 0)), .sc (.int .i64 (List.getD x2 4 0)), .sc (.int .i64 (List.getD x2 5 0)), .sc (.int .i64 (List.getD x2 6 0)), .sc (.int .i64 (List.getD x2 7 0)), .sc (.int .i64 (List.getD x2 8 0)), .sc (.int .i64 (List.getD x2 9 0)), .sc (.int .i64 (List.getD x2 10 0)), .sc (.int .i64 (List.getD x2 11 0)), .sc (.int .i64 (List.getD x2 12 0)), .sc (.int .i64 (List.getD x2 13 0)), .sc (.int .i64 (List.getD x2 14 0)), .sc (.int .i64 (List.getD x2 15 0))] 26, .rows true 35 (.pair (.int .i64) (.pair (.int .i64) (.pair (.bool) (.int .i64)))) r2.1, .rows true 35 (.pair (.int .i64) (.pair (.int .i64) (.pair (.bool) (.int .i64)))) a10, .cells [.sc (.int .i64 r12.1.1), .sc (.int .i64 r12.1.2.1), .sc (.bool r12.1.2.2.1), .sc (.int .i64 r12.1.2.2.2)] 35]⟩
  (blockK 2 (seqK (law_RunwayInserts.cd N [1, 1, 1, 1, 1, 1, 1, 0, 1, 0, 0, 1, 0, 0, 1, 1, 1, 1, 1, 1, 1]) (blockK 1 (seqK (law_RunwayInserts.cd N [1, 1, 1, 1, 1, 1, 1, 0, 1, 0, 0, 1, 1]) (loopK (norm ((law_RunwayInserts.E N).keep 11) 0) (law_RunwayInserts.cd N [1, 1, 1, 1, 1, 1, 1, 0, 1, 0, 0]) k7 (blockK 0 (seqK (law_RunwayInserts.cd N [1, 1, 1, 1, 1, 1, 1, 1]) law_RunwayInserts.fin)))))))
theorem law_RunwayInserts.l3_zero (N : Nat) (x1 : List (Int × Int)) (x2 : List Int) (x3 : List (Int × Int)) (r2 : List (Int × Int × Bool × Int) × Int) (k7 : Nat) (a9 : Int) (a10 : List (Int × Int × Bool × Int)) (r11 : Int) (r12 : (Int × Int × Bool × Int) × Bool) (a14 : Int) : law_RunwayInserts.l3 N x1 x2 x3 r2 k7 a9 a10 r11 r12 0 a14 = none := by kernel_rfl
theorem law_RunwayInserts.l3_succ (N : Nat) (x1 : List (Int × Int)) (x2 : List Int) (x3 : List (Int × Int)) (r2 : List (Int × Int × Bool × Int) × Int) (k7 : Nat) (a9 : Int) (a10 : List (Int × Int × Bool × Int)) (r11 : Int) (r12 : (Int × Int × Bool × Int) × Bool) (k13 : Nat) (a14 : Int) : law_RunwayInserts.l3 N x1 x2 x3 r2 k7 a9 a10 r11 r12 (k13 + 1) a14 =
    bif !(decide (a14 < (a10.length : Int))) || (decide (a14 < (a10.length : Int))) then
      bif !(decide (a14 < (a10.length : Int))) || (decide (a14 < (a10.length : Int))) then
        bif ((decide (0 ≤ a14)) && (decide (a14 < (a10.length : Int)))) || !(decide (a14 < (a10.length : Int))) then
          bif !(decide (a14 < (a10.length : Int))) || (decide (a14 < (a10.length : Int))) then
            bif !(decide (a14 < (a10.length : Int))) || (decide (a14 < (a10.length : Int))) then
              bif (decide ((Int.toNat a14) < a10.length)) || !(decide (a14 < (a10.length : Int))) then
                bif !(decide (a14 < (a10.length : Int))) || (decide (a14 < (a10.length : Int))) then
                  bif !(decide (a14 < (a10.length : Int))) || (decide (a14 < (a10.length : Int))) then
                    bif !(decide (a14 < (a10.length : Int))) || (decide (a14 < (a10.length : Int))) then
                      bif (!(decide (a14 < (a10.length : Int)))) || (decide (a14 < (a10.length : Int))) then
                        bif (decide (a14 < (a10.length : Int))) && (decide (((List.getD a10 (Int.toNat a14) (0, (0, (false, 0)))).1) < r12.1.1)) then
                          law_RunwayInserts.l3 N x1 x2 x3 r2 k7 a9 a10 r11 r12 k13 (w (a14 + 1))
                        else
                        bif (decide (0 ≤ a14)) && (decide (a14 ≤ (a10.length : Int))) then
                          bif decide ((a10.length + 1) * 32 ≤ 140737488355328) && decide (a10.length + 1 ≤ maxLen) then
                            law_RunwayInserts.l2 N x1 x2 x3 r2 k7 r11 (w (a9 + 1)) ((List.take (Int.toNat a14) a10) ++ [r12.1] ++ (List.drop (Int.toNat a14) a10))
                          else
                            none
                        else
                          none
                      else
                        none
                    else
                      none
                  else
                    none
                else
                  none
              else
                none
            else
              none
          else
            none
        else
          none
      else
        none
    else
      none := by kernel_rfl
theorem law_RunwayInserts.l2_zero (N : Nat) (x1 : List (Int × Int)) (x2 : List Int) (x3 : List (Int × Int)) (r2 : List (Int × Int × Bool × Int) × Int) (a8 : Int) (a9 : Int) (a10 : List (Int × Int × Bool × Int)) : law_RunwayInserts.l2 N x1 x2 x3 r2 0 a8 a9 a10 = none := by kernel_rfl
theorem law_RunwayInserts.l2_succ (N : Nat) (x1 : List (Int × Int)) (x2 : List Int) (x3 : List (Int × Int)) (r2 : List (Int × Int × Bool × Int) × Int) (k7 : Nat) (a8 : Int) (a9 : Int) (a10 : List (Int × Int × Bool × Int)) : law_RunwayInserts.l2 N x1 x2 x3 r2 (k7 + 1) a8 a9 a10 =
    bif !(decide (a9 < (x3.length : Int))) || (decide (a9 < (x3.length : Int))) then
      bif (!(decide (a9 < (x3.length : Int)))) || (decide (a9 < (x3.length : Int))) then
        bif (decide (a9 < (x3.length : Int))) && (a8 == 0) then
          bif (decide (0 ≤ a9)) && (decide (a9 < (x3.length : Int))) then
            bif !(!(decide (((List.getD x3 (Int.toNat a9) (0, 0)).1) < 0))) || (!(decide (((List.getD x3 (Int.toNat a9) (0, 0)).1) < 0))) then
              bif !(!(decide (((List.getD x3 (Int.toNat a9) (0, 0)).1) < 0))) || (!(decide (((List.getD x3 (Int.toNat a9) (0, 0)).1) < 0))) then
                bif ((decide (0 ≤ a9)) && (decide (a9 < (x3.length : Int)))) || !(!(decide (((List.getD x3 (Int.toNat a9) (0, 0)).1) < 0))) then
                  bif !(!(decide (((List.getD x3 (Int.toNat a9) (0, 0)).1) < 0))) || (!(decide (((List.getD x3 (Int.toNat a9) (0, 0)).1) < 0))) then
                    bif !(!(decide (((List.getD x3 (Int.toNat a9) (0, 0)).1) < 0))) || (!(decide (((List.getD x3 (Int.toNat a9) (0, 0)).1) < 0))) then
                      bif !(!(decide (((List.getD x3 (Int.toNat a9) (0, 0)).1) < 0))) || (!(decide (((List.getD x3 (Int.toNat a9) (0, 0)).1) < 0))) then
                        bif (decide (((List.getD x3 (Int.toNat a9) (0, 0)).1) < 0)) || (!(decide (((List.getD x3 (Int.toNat a9) (0, 0)).1) < 0))) then
                          bif (decide (((List.getD x3 (Int.toNat a9) (0, 0)).1) < 0)) || (decide (((List.getD x3 (Int.toNat a9) (0, 0)).1) > 200000)) then
                            law_RunwayInserts.l2 N x1 x2 x3 r2 k7 12 (w (a9 + 1)) a10
                          else
                          bif (decide (0 ≤ a9)) && (decide (a9 < (x3.length : Int))) then
                            (law_classesError.fn N [(List.getD x3 (Int.toNat a9) (0, 0)).2]).bind fun r11 =>
                            bif !(r11 == 0) then
                              law_RunwayInserts.l2 N x1 x2 x3 r2 k7 r11 (w (a9 + 1)) a10
                            else
                            bif (decide (0 ≤ a9)) && (decide (a9 < (x3.length : Int))) then
                              bif (decide (0 ≤ a9)) && (decide (a9 < (x3.length : Int))) then
                                (ref_Departed.fn N (a10, x1, (vl 16 x2), List.getD x3 (Int.toNat a9) (0, 0), (if (w (((List.getD x3 (Int.toNat a9) (0, 0)).1) + 3000)) < 200000 then (w (((List.getD x3 (Int.toNat a9) (0, 0)).1) + 3000)) else 200000))).bind fun r12 =>
                                bif !(!r12.2) || (!r12.2) then
                                  bif !(!r12.2) || (!r12.2) then
                                    bif ((decide (0 ≤ a9)) && (decide (a9 < (x3.length : Int)))) || !(!r12.2) then
                                      bif !(!r12.2) || (!r12.2) then
                                        bif !(!r12.2) || (!r12.2) then
                                          bif !(!r12.2) || (!r12.2) then
                                            bif (!(!r12.2)) || (!r12.2) then
                                              bif (!r12.2) && (decide (((List.getD x3 (Int.toNat a9) (0, 0)).1) < 197000)) then
                                                some true
                                              else
                                              bif !r12.2 then
                                                law_RunwayInserts.l2 N x1 x2 x3 r2 k7 8 (w (a9 + 1)) a10
                                              else
                                                law_RunwayInserts.l3 N x1 x2 x3 r2 k7 a9 a10 r11 r12 N 0
                                            else
                                              none
                                          else
                                            none
                                        else
                                          none
                                      else
                                        none
                                    else
                                      none
                                  else
                                    none
                                else
                                  none
                              else
                                none
                            else
                              none
                          else
                            none
                        else
                          none
                      else
                        none
                    else
                      none
                  else
                    none
                else
                  none
              else
                none
            else
              none
          else
            none
        else
        bif !(a8 == 0) then
          bif !(r2.2 == a8) || (r2.2 == a8) then
            bif !(r2.2 == a8) || (r2.2 == a8) then
              bif (!(r2.2 == a8)) || (r2.2 == a8) then
                some ((r2.2 == a8) && ((r2.1.length : Int) == 0))
              else
                none
            else
              none
          else
            none
        else
        bif !(r2.2 == 0) || (r2.2 == 0) then
          bif !(r2.2 == 0) || (r2.2 == 0) then
            (bif (r2.2 == 0) then slices_Equal_RunwayMove.fn N (r2.1, a10) else some (false)).bind fun r15 =>
            bif (!(r2.2 == 0)) || (r2.2 == 0) then
              some ((r2.2 == 0) && r15)
            else
              none
          else
            none
        else
          none
      else
        none
    else
      none := by kernel_rfl
theorem law_RunwayInserts.j1_eq (N : Nat) (x0 : List (Int × Int × Bool × Int)) (x1 : List (Int × Int)) (x2 : List Int) (x3 : List (Int × Int)) (r2 : List (Int × Int × Bool × Int) × Int) (a5 : Int) {M : Nat} (hM : N = M + 1) : law_RunwayInserts.j1 N x0 x1 x2 x3 r2 a5 =
    (slices_Clone_RunwayMove.fn N x0).bind fun r6 =>
    law_RunwayInserts.l2 N x1 x2 x3 r2 N a5 0 r6 := (fuelK_eq hM _).trans (by kernel_rfl)
theorem law_RunwayInserts.j0_eq (N : Nat) (x0 : List (Int × Int × Bool × Int)) (x1 : List (Int × Int)) (x2 : List Int) (x3 : List (Int × Int)) (r2 : List (Int × Int × Bool × Int) × Int) (a4 : Int) {M : Nat} (hM : N = M + 1) : law_RunwayInserts.j0 N x0 x1 x2 x3 r2 a4 =
    bif !(a4 == 0) || (a4 == 0) then
      bif !(a4 == 0) || (a4 == 0) then
        bif !(a4 == 0) || (a4 == 0) then
          bif !(a4 == 0) || (a4 == 0) then
            bif !(a4 == 0) || (a4 == 0) then
              bif (!(a4 == 0)) || (a4 == 0) then
                bif (a4 == 0) && (decide ((w ((x0.length : Int) + (x3.length : Int))) > 24)) then
                  law_RunwayInserts.j1 N x0 x1 x2 x3 r2 2
                else
                  law_RunwayInserts.j1 N x0 x1 x2 x3 r2 a4
              else
                none
            else
              none
          else
            none
        else
          none
      else
        none
    else
      none := (fuelK_eq hM _).trans (by kernel_rfl)
theorem law_RunwayInserts.l3_clean (N : Nat) (x1 : List (Int × Int)) (x2 : List Int) (x3 : List (Int × Int)) (r2 : List (Int × Int × Bool × Int) × Int) (k7 : Nat) (a9 : Int) (a10 : List (Int × Int × Bool × Int)) (r11 : Int) (r12 : (Int × Int × Bool × Int) × Bool) (k13 : Nat) (a14 : Int) : law_RunwayInserts.l3 N x1 x2 x3 r2 k7 a9 a10 r11 r12 (k13 + 1) a14 =
    bif ((decide (0 ≤ a14)) && (decide (a14 < (a10.length : Int)))) || !(decide (a14 < (a10.length : Int))) then
      bif (decide ((Int.toNat a14) < a10.length)) || !(decide (a14 < (a10.length : Int))) then
        bif (decide (a14 < (a10.length : Int))) && (decide (((List.getD a10 (Int.toNat a14) (0, (0, (false, 0)))).1) < r12.1.1)) then
          law_RunwayInserts.l3 N x1 x2 x3 r2 k7 a9 a10 r11 r12 k13 (w (a14 + 1))
        else
        bif (decide (0 ≤ a14)) && (decide (a14 ≤ (a10.length : Int))) then
          bif decide ((a10.length + 1) * 32 ≤ 140737488355328) && decide (a10.length + 1 ≤ maxLen) then
            law_RunwayInserts.l2 N x1 x2 x3 r2 k7 r11 (w (a9 + 1)) ((List.take (Int.toNat a14) a10) ++ [r12.1] ++ (List.drop (Int.toNat a14) a10))
          else
            none
        else
          none
      else
        none
    else
      none := by
  rw [law_RunwayInserts.l3_succ]; simp only [taut7, taut8, cond_true]
theorem taut22 : ∀ p0 : Bool, ((!(!p0) || (!p0))) = true := by decide
theorem taut23 : ∀ p0 : Bool, (((!(!p0)) || (!p0))) = true := by decide
theorem law_RunwayInserts.l2_clean (N : Nat) (x1 : List (Int × Int)) (x2 : List Int) (x3 : List (Int × Int)) (r2 : List (Int × Int × Bool × Int) × Int) (k7 : Nat) (a8 : Int) (a9 : Int) (a10 : List (Int × Int × Bool × Int)) : law_RunwayInserts.l2 N x1 x2 x3 r2 (k7 + 1) a8 a9 a10 =
    bif (decide (a9 < (x3.length : Int))) && (a8 == 0) then
      bif (decide (0 ≤ a9)) && (decide (a9 < (x3.length : Int))) then
        bif ((decide (0 ≤ a9)) && (decide (a9 < (x3.length : Int)))) || !(!(decide (((List.getD x3 (Int.toNat a9) (0, 0)).1) < 0))) then
          bif (decide (((List.getD x3 (Int.toNat a9) (0, 0)).1) < 0)) || (decide (((List.getD x3 (Int.toNat a9) (0, 0)).1) > 200000)) then
            law_RunwayInserts.l2 N x1 x2 x3 r2 k7 12 (w (a9 + 1)) a10
          else
          bif (decide (0 ≤ a9)) && (decide (a9 < (x3.length : Int))) then
            (law_classesError.fn N [(List.getD x3 (Int.toNat a9) (0, 0)).2]).bind fun r11 =>
            bif !(r11 == 0) then
              law_RunwayInserts.l2 N x1 x2 x3 r2 k7 r11 (w (a9 + 1)) a10
            else
            bif (decide (0 ≤ a9)) && (decide (a9 < (x3.length : Int))) then
              bif (decide (0 ≤ a9)) && (decide (a9 < (x3.length : Int))) then
                (ref_Departed.fn N (a10, x1, (vl 16 x2), List.getD x3 (Int.toNat a9) (0, 0), (if (w (((List.getD x3 (Int.toNat a9) (0, 0)).1) + 3000)) < 200000 then (w (((List.getD x3 (Int.toNat a9) (0, 0)).1) + 3000)) else 200000))).bind fun r12 =>
                bif ((decide (0 ≤ a9)) && (decide (a9 < (x3.length : Int)))) || !(!r12.2) then
                  bif (!r12.2) && (decide (((List.getD x3 (Int.toNat a9) (0, 0)).1) < 197000)) then
                    some true
                  else
                  bif !r12.2 then
                    law_RunwayInserts.l2 N x1 x2 x3 r2 k7 8 (w (a9 + 1)) a10
                  else
                    law_RunwayInserts.l3 N x1 x2 x3 r2 k7 a9 a10 r11 r12 N 0
                else
                  none
              else
                none
            else
              none
          else
            none
        else
          none
      else
        none
    else
    bif !(a8 == 0) then
      some ((r2.2 == a8) && ((r2.1.length : Int) == 0))
    else
    (bif (r2.2 == 0) then slices_Equal_RunwayMove.fn N (r2.1, a10) else some (false)).bind fun r15 =>
    some ((r2.2 == 0) && r15) := by
  rw [law_RunwayInserts.l2_succ]; simp only [taut1, taut22, taut7, taut23, taut8, taut2, cond_true]
theorem law_RunwayInserts.j0_clean (N : Nat) (x0 : List (Int × Int × Bool × Int)) (x1 : List (Int × Int)) (x2 : List Int) (x3 : List (Int × Int)) (r2 : List (Int × Int × Bool × Int) × Int) (a4 : Int) {M : Nat} (hM : N = M + 1) : law_RunwayInserts.j0 N x0 x1 x2 x3 r2 a4 =
    bif (a4 == 0) && (decide ((w ((x0.length : Int) + (x3.length : Int))) > 24)) then
      law_RunwayInserts.j1 N x0 x1 x2 x3 r2 2
    else
      law_RunwayInserts.j1 N x0 x1 x2 x3 r2 a4 := by
  rw [law_RunwayInserts.j0_eq (hM := hM)]; simp only [taut7, taut8, cond_true]
theorem law_RunwayInserts.eq (N : Nat) (x0 : List (Int × Int × Bool × Int)) (x1 : List (Int × Int)) (x2 : List Int) (x3 : List (Int × Int)) : law_RunwayInserts.fn N (x0, x1, x2, x3) =
    (law_runwayFact.fn N ()).bind fun r1 =>
    bif !r1 then
      some false
    else
      (runway_Insert.fn N (x0, x1, (vl 16 x2), x3)).bind fun r2 =>
      (law_planError.fn N (x0, x1, (vl 16 x2))).bind fun r3 =>
      bif r3 == 0 then
        (ref_Wrong.fn N (x0, x1, (vl 16 x2))).bind fun r16 =>
        law_RunwayInserts.j0 N x0 x1 x2 x3 r2 r16.2.2
      else
        law_RunwayInserts.j0 N x0 x1 x2 x3 r2 r3 := by kernel_rfl

/-! ### law_RunwayChanges_1: skyway/skywaylaw3.RunwayChanges$1 -/
def law_RunwayChanges_1.kp : List (Nat × List (Nat × Option (TypeId × Ty))) := []
noncomputable def law_RunwayChanges_1.G (N : Nat) : List (Nat × Spec) := []
noncomputable def law_RunwayChanges_1.E (N : Nat) : Env := mkEnv (law_RunwayChanges_1.G N) N tyTab law_RunwayChanges_1.kp
noncomputable def law_RunwayChanges_1.fn (N : Nat) (x : (Int × Int × Bool × Int) × Int) : Option Bool := evFn (law_RunwayChanges_1.E N) Try.prog 3 Try.f35 false [.agg (.pair (.int .i64) (.pair (.int .i64) (.pair (.bool) (.int .i64)))), .box (.int .i64)] [.val (.cell (.bool))] x
noncomputable def law_RunwayChanges_1.S (N : Nat) : PSpec := ⟨false, [.agg (.pair (.int .i64) (.pair (.int .i64) (.pair (.bool) (.int .i64)))), .box (.int .i64)], [.val (.cell (.bool))], law_RunwayChanges_1.fn N⟩
theorem f35_enters : Enters Try.prog 35 := ⟨Try.f35, Try.func35, by kernel_rfl, by kernel_rfl⟩
theorem law_RunwayChanges_1.tab (N : Nat) : TabOk Try.prog (law_RunwayChanges_1.G N) := trivial
theorem law_RunwayChanges_1.enters : Enters Try.prog 35 := f35_enters
theorem law_RunwayChanges_1.sound (N : Nat) : Sound Try.prog 35 (law_RunwayChanges_1.S N) := evFn_sound (specs_tab (law_RunwayChanges_1.tab N)) (inls_tab (law_RunwayChanges_1.tab N)) mixed 3 Try.func35 _ _ _
theorem law_RunwayChanges_1.eq (N : Nat) (x0 : Int × Int × Bool × Int) (x1 : Int) : law_RunwayChanges_1.fn N (x0, x1) =
    some (decide ((w (x0.1 + 180)) > x1)) := by kernel_rfl

/-! ### slices_Equal_RunwaySpan: slices.Equal[[]skyway/api.RunwaySpan,skyway/api.RunwaySpan] -/
def slices_Equal_RunwaySpan.kp : List (Nat × List (Nat × Option (TypeId × Ty))) := [(4, [(0, none), (1, none), (12, none), (13, none)])]
noncomputable def slices_Equal_RunwaySpan.G (N : Nat) : List (Nat × Spec) := []
noncomputable def slices_Equal_RunwaySpan.E (N : Nat) : Env := mkEnv (slices_Equal_RunwaySpan.G N) N tyTab slices_Equal_RunwaySpan.kp
noncomputable def slices_Equal_RunwaySpan.fn (N : Nat) (x : List (Int × Int) × List (Int × Int)) : Option Bool := evFn (slices_Equal_RunwaySpan.E N) Try.prog 3 Try.f36 false [.cell (.sl 60 (.pair (.int .i64) (.int .i64))), .cell (.sl 60 (.pair (.int .i64) (.int .i64)))] [.val (.cell (.bool))] x
noncomputable def slices_Equal_RunwaySpan.S (N : Nat) : PSpec := ⟨false, [.cell (.sl 60 (.pair (.int .i64) (.int .i64))), .cell (.sl 60 (.pair (.int .i64) (.int .i64)))], [.val (.cell (.bool))], slices_Equal_RunwaySpan.fn N⟩
theorem f36_enters : Enters Try.prog 36 := ⟨Try.f36, Try.func36, by kernel_rfl, by kernel_rfl⟩
theorem slices_Equal_RunwaySpan.tab (N : Nat) : TabOk Try.prog (slices_Equal_RunwaySpan.G N) := trivial
theorem slices_Equal_RunwaySpan.enters : Enters Try.prog 36 := f36_enters
theorem slices_Equal_RunwaySpan.sound (N : Nat) : Sound Try.prog 36 (slices_Equal_RunwaySpan.S N) := evFn_sound (specs_tab (slices_Equal_RunwaySpan.tab N)) (inls_tab (slices_Equal_RunwaySpan.tab N)) mixed 3 Try.func36 _ _ _
noncomputable def slices_Equal_RunwaySpan.cd (N : Nat) (p : List Nat) : St → (Ex → St → Option Bool) → Option Bool := ev (slices_Equal_RunwaySpan.E N) Try.prog (callD (slices_Equal_RunwaySpan.E N) Try.prog 3) 0 (codeAt (bodyOf Try.f36) p)
noncomputable def slices_Equal_RunwaySpan.fin : Ex → St → Option Bool := endK Try.prog Try.f36 [.val (.cell (.bool))]
noncomputable def slices_Equal_RunwaySpan.l0 (N : Nat) (x0 : List (Int × Int)) (x1 : List (Int × Int)) (k1 : Nat) (a2 : Int) : Option Bool :=
  loopN (norm ((slices_Equal_RunwaySpan.E N).keep 4) 0) (slices_Equal_RunwaySpan.cd N [1, 1, 0, 1, 0, 0]) k1
  ⟨[.ros false 60 (.pair (.int .i64) (.int .i64)) x0, .ros false 60 (.pair (.int .i64) (.int .i64)) x1, .any, .any, .any, .any, .any, .any, .any, .any, .any, .any, .sc (.int .i64 (x0.length : Int)), .sc (.int .i64 a2), .any, .any, .any, .any, .any, .any, .any, .any, .any, .any, .any, .any], []⟩
  (blockK 0 (seqK (slices_Equal_RunwaySpan.cd N [1, 1, 1]) slices_Equal_RunwaySpan.fin))
theorem slices_Equal_RunwaySpan.l0_zero (N : Nat) (x0 : List (Int × Int)) (x1 : List (Int × Int)) (a2 : Int) : slices_Equal_RunwaySpan.l0 N x0 x1 0 a2 = none := by kernel_rfl
theorem slices_Equal_RunwaySpan.l0_succ (N : Nat) (x0 : List (Int × Int)) (x1 : List (Int × Int)) (k1 : Nat) (a2 : Int) : slices_Equal_RunwaySpan.l0 N x0 x1 (k1 + 1) a2 =
    bif decide (a2 < (x0.length : Int)) then
      bif (decide (0 ≤ a2)) && (decide (a2 < (x0.length : Int))) then
        bif (decide (0 ≤ a2)) && (decide (a2 < (x1.length : Int))) then
          bif !((((List.getD x0 (Int.toNat a2) (0, 0)).1) == ((List.getD x1 (Int.toNat a2) (0, 0)).1)) && ((((List.getD x0 (Int.toNat a2) (0, 0)).2) == ((List.getD x1 (Int.toNat a2) (0, 0)).2)) && true)) then
            some false
          else
            slices_Equal_RunwaySpan.l0 N x0 x1 k1 (w (a2 + 1))
        else
          none
      else
        none
    else
      some true := by kernel_rfl
theorem slices_Equal_RunwaySpan.l0_cons (N : Nat) (x0 : List (Int × Int)) (x1 : List (Int × Int)) (k1 : Nat) {pre r} {x} (hl : x0 = pre ++ x :: r) (hb : x0.length < 4611686018427387904) : slices_Equal_RunwaySpan.l0 N x0 x1 (k1 + 1) (pre.length : Int) =
    bif decide ((pre.length : Int) < (x1.length : Int)) then
      bif !(((x.1) == ((List.getD x1 pre.length (0, 0)).1)) && (((x.2) == ((List.getD x1 pre.length (0, 0)).2)) && true)) then
        some false
      else
        slices_Equal_RunwaySpan.l0 N x0 x1 k1 ((pre.length : Int) + 1)
    else
      none := by
  have hlen : x0.length = pre.length + 1 + r.length := by rw [hl]; simp; omega
  have e1 : decide ((pre.length : Int) < (x0.length : Int)) = true := by rw [decide_eq_true_iff]; omega
  have e2 : decide (0 ≤ (pre.length : Int)) = true := by rw [decide_eq_true_iff]; omega
  have e4 : w ((pre.length : Int) + 1) = (pre.length : Int) + 1 := w_next hl hb
  have e5 : List.take pre.length x0 = pre := by rw [hl]; simp
  have e6 : decide ((pre.length : Int) ≤ (x0.length : Int)) = true := by rw [decide_eq_true_iff]; omega
  have g0 : List.getD x0 pre.length (0, 0) = x := by rw [hl]; exact getD_mid pre x r _
  rw [slices_Equal_RunwaySpan.l0_succ]
  simp -implicitDefEqProofs only [Int.toNat_natCast, e1, e2, e4, e6, g0, e5, Bool.and_true, Bool.true_and, Bool.true_or, cond_true]
theorem slices_Equal_RunwaySpan.l0_nil (N : Nat) (x0 : List (Int × Int)) (x1 : List (Int × Int)) (k1 : Nat) : slices_Equal_RunwaySpan.l0 N x0 x1 (k1 + 1) (x0.length : Int) =
    some true := by
  have e1 : decide ((x0.length : Int) < (x0.length : Int)) = false := by rw [decide_eq_false_iff_not]; omega
  rw [slices_Equal_RunwaySpan.l0_succ]
  simp -implicitDefEqProofs only [e1, cond_false]
theorem slices_Equal_RunwaySpan.eq (N : Nat) (x0 : List (Int × Int)) (x1 : List (Int × Int)) : slices_Equal_RunwaySpan.fn N (x0, x1) =
    bif !((x0.length : Int) == (x1.length : Int)) then
      some false
    else
      slices_Equal_RunwaySpan.l0 N x0 x1 N 0 := by kernel_rfl
theorem slices_Equal_RunwaySpan.v {N : Nat} (hN : 4611686018427387904 ≤ N) (x0 x1 : List (Int × Int)) (h : x0.length < 4611686018427387904) : slices_Equal_RunwaySpan.fn N (x0, x1) = some (eqL (fun p q => (((p.1) == (q.1)) && (((p.2) == (q.2)) && true))) x0 x1) := equal_list hN (fun p q => (((p.1) == (q.1)) && (((p.2) == (q.2)) && true))) (0, 0) h (fun k i => slices_Equal_RunwaySpan.l0 N x0 x1 k i) (slices_Equal_RunwaySpan.eq N x0 x1) (fun k i => slices_Equal_RunwaySpan.l0_succ N x0 x1 k i)
theorem slices_Equal_RunwaySpan.self {N : Nat} (hN : 4611686018427387904 ≤ N) (x0 : List (Int × Int)) (h : x0.length < 4611686018427387904) : slices_Equal_RunwaySpan.fn N (x0, x0) = some true := by rw [slices_Equal_RunwaySpan.v hN x0 x0 h]; exact congrArg some (eqL_refl (fun p => by simp [seq_self]) x0)

/-! ### law_RunwayChanges: skyway/skywaylaw3.RunwayChanges -/
def law_RunwayChanges.kp : List (Nat × List (Nat × Option (TypeId × Ty))) := [(2, [(0, none), (1, none), (7, none), (8, none)]), (1000009, [(0, none), (1, none), (5, none), (7, none), (8, none), (9, none)]), (1000011, [(0, none), (1, none), (5, none), (7, none), (8, none), (9, none)]), (1000013, [(1, none), (5, none), (7, none), (8, none), (9, none)])]
noncomputable def law_RunwayChanges.G (N : Nat) : List (Nat × Spec) := [(14, .pure (law_runwayFact.S N)), (16, .pure (ref_EndsError.S N)), (18, .pure (ref_MovesError.S N)), (33, .pure (runway_Change.S N)), (35, .pure (law_RunwayChanges_1.S N)), (36, .pure (slices_Equal_RunwaySpan.S N)), (37, .pure (slices_Clone_RunwaySpan.S N)), (34, .inl Try.f34), (91, .inl Try.f91)]
noncomputable def law_RunwayChanges.E (N : Nat) : Env := mkEnv (law_RunwayChanges.G N) N tyTab law_RunwayChanges.kp
noncomputable def law_RunwayChanges.fn (N : Nat) (x : List (Int × Int × Bool × Int) × List (Int × Int) × Int) : Option Bool := evFn (law_RunwayChanges.E N) Try.prog 3 Try.f6 false [.cell (.sl 35 (.pair (.int .i64) (.pair (.int .i64) (.pair (.bool) (.int .i64))))), .cell (.sl 60 (.pair (.int .i64) (.int .i64))), .cell (.int .i64)] [.val (.cell (.bool))] x
noncomputable def law_RunwayChanges.S (N : Nat) : PSpec := ⟨false, [.cell (.sl 35 (.pair (.int .i64) (.pair (.int .i64) (.pair (.bool) (.int .i64))))), .cell (.sl 60 (.pair (.int .i64) (.int .i64))), .cell (.int .i64)], [.val (.cell (.bool))], law_RunwayChanges.fn N⟩
theorem f34_enters : Enters Try.prog 34 := ⟨Try.f34, Try.func34, by kernel_rfl, by kernel_rfl⟩
theorem f91_enters : Enters Try.prog 91 := ⟨Try.f91, Try.func91, by kernel_rfl, by kernel_rfl⟩
theorem f6_enters : Enters Try.prog 6 := ⟨Try.f6, Try.func6, by kernel_rfl, by kernel_rfl⟩
theorem law_RunwayChanges.tab (N : Nat) : TabOk Try.prog (law_RunwayChanges.G N) := ⟨⟨law_runwayFact.enters, law_runwayFact.sound N⟩, ⟨ref_EndsError.enters, ref_EndsError.sound N⟩, ⟨ref_MovesError.enters, ref_MovesError.sound N⟩, ⟨runway_Change.enters, runway_Change.sound N⟩, ⟨law_RunwayChanges_1.enters, law_RunwayChanges_1.sound N⟩, ⟨slices_Equal_RunwaySpan.enters, slices_Equal_RunwaySpan.sound N⟩, ⟨slices_Clone_RunwaySpan.enters, slices_Clone_RunwaySpan.sound N⟩, ⟨f34_enters, Try.func34⟩, ⟨f91_enters, Try.func91⟩, trivial⟩
theorem law_RunwayChanges.enters : Enters Try.prog 6 := f6_enters
theorem law_RunwayChanges.sound (N : Nat) : Sound Try.prog 6 (law_RunwayChanges.S N) := evFn_sound (specs_tab (law_RunwayChanges.tab N)) (inls_tab (law_RunwayChanges.tab N)) mixed 3 Try.func6 _ _ _
noncomputable def law_RunwayChanges.cd (N : Nat) (p : List Nat) : St → (Ex → St → Option Bool) → Option Bool := ev (law_RunwayChanges.E N) Try.prog (callD (law_RunwayChanges.E N) Try.prog 3) 0 (codeAt (bodyOf Try.f6) p)
noncomputable def law_RunwayChanges.cd34_2_2 (N : Nat) (p : List Nat) : St → (Ex → St → Option Bool) → Option Bool := ev (law_RunwayChanges.E N) Try.prog (callD (law_RunwayChanges.E N) Try.prog 2) 2 (codeAt (bodyOf Try.f34) p)
noncomputable def law_RunwayChanges.cd91_1_2 (N : Nat) (p : List Nat) : St → (Ex → St → Option Bool) → Option Bool := ev (law_RunwayChanges.E N) Try.prog (callD (law_RunwayChanges.E N) Try.prog 1) 2 (codeAt (bodyOf Try.f91) p)
noncomputable def law_RunwayChanges.fin : Ex → St → Option Bool := endK Try.prog Try.f6 [.val (.cell (.bool))]
noncomputable def law_RunwayChanges.j0 (N : Nat) (x0 : List (Int × Int × Bool × Int)) (x1 : List (Int × Int)) (x2 : Int) (r2 : List (Int × Int) × Int) (a5 : Int) : Option Bool :=
  fuelK N (region (law_RunwayChanges.E N) Try.prog (callD (law_RunwayChanges.E N) Try.prog 3) (opsAt (codeAt (bodyOf Try.f6) [1, 1, 1, 1, 1, 1, 0, 0])) true
  ⟨[.ros false 35 (.pair (.int .i64) (.pair (.int .i64) (.pair (.bool) (.int .i64)))) x0, .ros false 60 (.pair (.int .i64) (.int .i64)) x1, .any, .any, .any, .ptr 0 0, .any, .own 1, .sc (.int .i64 r2.2), .sc (.int .i64 a5), .any, .any, .any, .any, .any, .any, .any, .any, .any, .any, .any, .any, .any, .any, .any, .any, .any, .any, .any, .any, .any, .any, .any, .any, .any, .any, .any, .any, .any, .any, .any, .any, .any, .any, .any, .any, .any, .any, .any, .any, .any, .any, .any, .any, .any, .any, .any, .any, .any, .any, .any, .any, .any, .any, .any, .any, .any, .any, .any, .any, .any, .any, .any, .any, .any, .any, .any, .any, .any, .any, .any, .any, .any, .any, .any, .any, .any, .any, .any, .any, .any], [.cells [.sc (.int .i64 x2)] 3, .rows true 60 (.pair (.int .i64) (.int .i64)) r2.1]⟩
  (fun S => (seqK (law_RunwayChanges.cd N [1, 1, 1, 1, 1, 1, 0, 1]) (seqK (law_RunwayChanges.cd N [1, 1, 1, 1, 1, 1, 1]) law_RunwayChanges.fin)) .normal S))
noncomputable def law_RunwayChanges.j1 (N : Nat) (x0 : List (Int × Int × Bool × Int)) (x1 : List (Int × Int)) (x2 : Int) (r2 : List (Int × Int) × Int) (a6 : Int) : Option Bool :=
  fuelK N (region (law_RunwayChanges.E N) Try.prog (callD (law_RunwayChanges.E N) Try.prog 3) (opsAt (codeAt (bodyOf Try.f6) [1, 1, 1, 1, 1, 1, 1, 0, 0])) false
  ⟨[.ros false 35 (.pair (.int .i64) (.pair (.int .i64) (.pair (.bool) (.int .i64)))) x0, .ros false 60 (.pair (.int .i64) (.int .i64)) x1, .any, .any, .any, .ptr 0 0, .any, .own 1, .sc (.int .i64 r2.2), .sc (.int .i64 a6), .any, .any, .any, .any, .any, .any, .any, .any, .any, .any, .any, .any, .any, .any, .any, .any, .any, .any, .any, .any, .any, .any, .any, .any, .any, .any, .any, .any, .any, .any, .any, .any, .any, .any, .any, .any, .any, .any, .any, .any, .any, .any, .any, .any, .any, .any, .any, .any, .any, .any, .any, .any, .any, .any, .any, .any, .any, .any, .any, .any, .any, .any, .any, .any, .any, .any, .any, .any, .any, .any, .any, .any, .any, .any, .any, .any, .any, .any, .any, .any, .any], [.cells [.sc (.int .i64 x2)] 3, .rows true 60 (.pair (.int .i64) (.int .i64)) r2.1]⟩
  (fun S => (seqK (law_RunwayChanges.cd N [1, 1, 1, 1, 1, 1, 1, 0, 1]) (seqK (law_RunwayChanges.cd N [1, 1, 1, 1, 1, 1, 1, 1]) law_RunwayChanges.fin)) .normal S))
noncomputable def law_RunwayChanges.j2 (N : Nat) (x1 : List (Int × Int)) (x2 : Int) (r2 : List (Int × Int) × Int) (a7 : Int) : Option Bool :=
  fuelK N (region (law_RunwayChanges.E N) Try.prog (callD (law_RunwayChanges.E N) Try.prog 3) (opsAt (codeAt (bodyOf Try.f6) [1, 1, 1, 1, 1, 1, 1, 1, 0, 0])) false
  ⟨[.any, .ros false 60 (.pair (.int .i64) (.int .i64)) x1, .any, .any, .any, .ptr 0 0, .any, .own 1, .sc (.int .i64 r2.2), .sc (.int .i64 a7), .any, .any, .any, .any, .any, .any, .any, .any, .any, .any, .any, .any, .any, .any, .any, .any, .any, .any, .any, .any, .any, .any, .any, .any, .any, .any, .any, .any, .any, .any, .any, .any, .any, .any, .any, .any, .any, .any, .any, .any, .any, .any, .any, .any, .any, .any, .any, .any, .any, .any, .any, .any, .any, .any, .any, .any, .any, .any, .any, .any, .any, .any, .any, .any, .any, .any, .any, .any, .any, .any, .any, .any, .any, .any, .any, .any, .any, .any, .any, .any, .any], [.cells [.sc (.int .i64 x2)] 3, .rows true 60 (.pair (.int .i64) (.int .i64)) r2.1]⟩
  (fun S => (seqK (law_RunwayChanges.cd N [1, 1, 1, 1, 1, 1, 1, 1, 0, 1]) (seqK (law_RunwayChanges.cd N [1, 1, 1, 1, 1, 1, 1, 1, 1]) law_RunwayChanges.fin)) .normal S))
noncomputable def law_RunwayChanges.l3 (N : Nat) (x0 : List (Int × Int × Bool × Int)) (x1 : List (Int × Int)) (x2 : Int) (r2 : List (Int × Int) × Int) (a6 : Int) (k10 : Nat) (a11 : Int) : Option Bool :=
  loopN (norm ((law_RunwayChanges.E N).keep 2) 2) (law_RunwayChanges.cd91_1_2 N [1, 0, 1, 0, 0]) k10
  ⟨[.ros false 35 (.pair (.int .i64) (.pair (.int .i64) (.pair (.bool) (.int .i64)))) x0, .clo 35 [.ptr 0 0], .any, .any, .any, .any, .any, .sc (.int .i64 (x0.length : Int)), .sc (.int .i64 a11), .any, .any, .any, .any, .any, .any, .any, .any, .any, .any], [.cells [.sc (.int .i64 x2)] 3, .rows true 60 (.pair (.int .i64) (.int .i64)) r2.1]⟩
  (blockK 0 (seqK (law_RunwayChanges.cd91_1_2 N [1, 1]) (retK Try.prog Try.f91 (fun vs hp => (reg (law_RunwayChanges.E N) Try.prog (callD (law_RunwayChanges.E N) Try.prog 2) (opsAt (codeAt (bodyOf Try.f34) [1, 0])) [] (List.drop 3 (opsAt (codeAt (bodyOf Try.f34) [1, 0]))) (St.put ⟨[.ros false 35 (.pair (.int .i64) (.pair (.int .i64) (.pair (.bool) (.int .i64)))) x0, .clo 35 [.ptr 0 0], .any, .any, .sc (.bool false), .ros false 35 (.pair (.int .i64) (.pair (.int .i64) (.pair (.bool) (.int .i64)))) x0, .clo 35 [.ptr 0 0], .any, .any], hp⟩ (some 7) (tupOf vs)) (fun S => (seqK (law_RunwayChanges.cd34_2_2 N [1, 1]) (retK Try.prog Try.f34 (fun vs hp => (reg (law_RunwayChanges.E N) Try.prog (callD (law_RunwayChanges.E N) Try.prog 3) (opsAt (codeAt (bodyOf Try.f6) [1, 1, 1, 1, 1, 1, 1, 0, 0])) [56] (List.drop 6 (opsAt (codeAt (bodyOf Try.f6) [1, 1, 1, 1, 1, 1, 1, 0, 0]))) (St.put ⟨[.ros false 35 (.pair (.int .i64) (.pair (.int .i64) (.pair (.bool) (.int .i64)))) x0, .ros false 60 (.pair (.int .i64) (.int .i64)) x1, .any, .any, .any, .ptr 0 0, .any, .own 1, .sc (.int .i64 r2.2), .sc (.int .i64 a6), .any, .any, .any, .any, .any, .any, .any, .any, .any, .any, .any, .any, .any, .any, .any, .any, .any, .any, .any, .any, .any, .any, .any, .any, .any, .any, .any, .any, .any, .any, .any, .any, .any, .any, .any, .any, .any, .any, .any, .any, .any, .any, .any, .any, .sc (.int .i64 a6), .sc (.bool (a6 == 0)), .sc (.bool true), .gd (a6 == 0) (.ros false 35 (.pair (.int .i64) (.pair (.int .i64) (.pair (.bool) (.int .i64)))) x0), .gd (a6 == 0) (.clo 35 [.ptr 0 0]), .any, .any, .any, .any, .any, .any, .any, .any, .any, .any, .any, .any, .any, .any, .any, .any, .any, .any, .any, .any, .any, .any, .any, .any, .any, .any, .any, .any, .any, .any, .any, .any], hp⟩ (some 59) (tupOf vs)) (fun S => (seqK (law_RunwayChanges.cd N [1, 1, 1, 1, 1, 1, 1, 0, 1]) (seqK (law_RunwayChanges.cd N [1, 1, 1, 1, 1, 1, 1, 1]) law_RunwayChanges.fin)) .normal S))))) .normal S))))))
noncomputable def law_RunwayChanges.j4 (N : Nat) (x0 : List (Int × Int × Bool × Int)) (x1 : List (Int × Int)) (x2 : Int) (r2 : List (Int × Int) × Int) (a13 : Int) : Option Bool :=
  fuelK N (region (law_RunwayChanges.E N) Try.prog (callD (law_RunwayChanges.E N) Try.prog 3) (opsAt (codeAt (bodyOf Try.f6) [1, 1, 1, 1, 1, 1, 0, 0])) true
  ⟨[.ros false 35 (.pair (.int .i64) (.pair (.int .i64) (.pair (.bool) (.int .i64)))) x0, .ros false 60 (.pair (.int .i64) (.int .i64)) x1, .any, .any, .any, .ptr 0 0, .any, .own 1, .sc (.int .i64 r2.2), .sc (.int .i64 a13), .any, .any, .any, .any, .any, .any, .any, .any, .any, .any, .any, .any, .any, .any, .any, .any, .any, .any, .any, .any, .any, .any, .any, .any, .any, .any, .any, .any, .any, .any, .any, .any, .any, .any, .any, .any, .any, .any, .any, .any, .any, .any, .any, .any, .any, .any, .any, .any, .any, .any, .any, .any, .any, .any, .any, .any, .any, .any, .any, .any, .any, .any, .any, .any, .any, .any, .any, .any, .any, .any, .any, .any, .any, .any, .any, .any, .any, .any, .any, .any, .any], [.cells [.sc (.int .i64 x2)] 3, .rows true 60 (.pair (.int .i64) (.int .i64)) r2.1]⟩
  (fun S => (seqK (law_RunwayChanges.cd N [1, 1, 1, 1, 1, 1, 0, 1]) (seqK (law_RunwayChanges.cd N [1, 1, 1, 1, 1, 1, 1]) law_RunwayChanges.fin)) .normal S))
noncomputable def law_RunwayChanges.j5 (N : Nat) (x0 : List (Int × Int × Bool × Int)) (x1 : List (Int × Int)) (x2 : Int) (r2 : List (Int × Int) × Int) (a14 : Int) : Option Bool :=
  fuelK N (region (law_RunwayChanges.E N) Try.prog (callD (law_RunwayChanges.E N) Try.prog 3) (opsAt (codeAt (bodyOf Try.f6) [1, 1, 1, 1, 1, 1, 1, 0, 0])) false
  ⟨[.ros false 35 (.pair (.int .i64) (.pair (.int .i64) (.pair (.bool) (.int .i64)))) x0, .ros false 60 (.pair (.int .i64) (.int .i64)) x1, .any, .any, .any, .ptr 0 0, .any, .own 1, .sc (.int .i64 r2.2), .sc (.int .i64 a14), .any, .any, .any, .any, .any, .any, .any, .any, .any, .any, .any, .any, .any, .any, .any, .any, .any, .any, .any, .any, .any, .any, .any, .any, .any, .any, .any, .any, .any, .any, .any, .any, .any, .any, .any, .any, .any, .any, .any, .any, .any, .any, .any, .any, .any, .any, .any, .any, .any, .any, .any, .any, .any, .any, .any, .any, .any, .any, .any, .any, .any, .any, .any, .any, .any, .any, .any, .any, .any, .any, .any, .any, .any, .any, .any, .any, .any, .any, .any, .any, .any], [.cells [.sc (.int .i64 x2)] 3, .rows true 60 (.pair (.int .i64) (.int .i64)) r2.1]⟩
  (fun S => (seqK (law_RunwayChanges.cd N [1, 1, 1, 1, 1, 1, 1, 0, 1]) (seqK (law_RunwayChanges.cd N [1, 1, 1, 1, 1, 1, 1, 1]) law_RunwayChanges.fin)) .normal S))
noncomputable def law_RunwayChanges.j6 (N : Nat) (x1 : List (Int × Int)) (x2 : Int) (r2 : List (Int × Int) × Int) (a15 : Int) : Option Bool :=
  fuelK N (region (law_RunwayChanges.E N) Try.prog (callD (law_RunwayChanges.E N) Try.prog 3) (opsAt (codeAt (bodyOf Try.f6) [1, 1, 1, 1, 1, 1, 1, 1, 0, 0])) false
  ⟨[.any, .ros false 60 (.pair (.int .i64) (.int .i64)) x1, .any, .any, .any, .ptr 0 0, .any, .own 1, .sc (.int .i64 r2.2), .sc (.int .i64 a15), .any, .any, .any, .any, .any, .any, .any, .any, .any, .any, .any, .any, .any, .any, .any, .any, .any, .any, .any, .any, .any, .any, .any, .any, .any, .any, .any, .any, .any, .any, .any, .any, .any, .any, .any, .any, .any, .any, .any, .any, .any, .any, .any, .any, .any, .any, .any, .any, .any, .any, .any, .any, .any, .any, .any, .any, .any, .any, .any, .any, .any, .any, .any, .any, .any, .any, .any, .any, .any, .any, .any, .any, .any, .any, .any, .any, .any, .any, .any, .any, .any], [.cells [.sc (.int .i64 x2)] 3, .rows true 60 (.pair (.int .i64) (.int .i64)) r2.1]⟩
  (fun S => (seqK (law_RunwayChanges.cd N [1, 1, 1, 1, 1, 1, 1, 1, 0, 1]) (seqK (law_RunwayChanges.cd N [1, 1, 1, 1, 1, 1, 1, 1, 1]) law_RunwayChanges.fin)) .normal S))
noncomputable def law_RunwayChanges.l7 (N : Nat) (x0 : List (Int × Int × Bool × Int)) (x1 : List (Int × Int)) (x2 : Int) (r2 : List (Int × Int) × Int) (a14 : Int) (k18 : Nat) (a19 : Int) : Option Bool :=
  loopN (norm ((law_RunwayChanges.E N).keep 2) 2) (law_RunwayChanges.cd91_1_2 N [1, 0, 1, 0, 0]) k18
  ⟨[.ros false 35 (.pair (.int .i64) (.pair (.int .i64) (.pair (.bool) (.int .i64)))) x0, .clo 35 [.ptr 0 0], .any, .any, .any, .any, .any, .sc (.int .i64 (x0.length : Int)), .sc (.int .i64 a19), .any, .any, .any, .any, .any, .any, .any, .any, .any, .any], [.cells [.sc (.int .i64 x2)] 3, .rows true 60 (.pair (.int .i64) (.int .i64)) r2.1]⟩
  (blockK 0 (seqK (law_RunwayChanges.cd91_1_2 N [1, 1]) (retK Try.prog Try.f91 (fun vs hp => (reg (law_RunwayChanges.E N) Try.prog (callD (law_RunwayChanges.E N) Try.prog 2) (opsAt (codeAt (bodyOf Try.f34) [1, 0])) [] (List.drop 3 (opsAt (codeAt (bodyOf Try.f34) [1, 0]))) (St.put ⟨[.ros false 35 (.pair (.int .i64) (.pair (.int .i64) (.pair (.bool) (.int .i64)))) x0, .clo 35 [.ptr 0 0], .any, .any, .sc (.bool false), .ros false 35 (.pair (.int .i64) (.pair (.int .i64) (.pair (.bool) (.int .i64)))) x0, .clo 35 [.ptr 0 0], .any, .any], hp⟩ (some 7) (tupOf vs)) (fun S => (seqK (law_RunwayChanges.cd34_2_2 N [1, 1]) (retK Try.prog Try.f34 (fun vs hp => (reg (law_RunwayChanges.E N) Try.prog (callD (law_RunwayChanges.E N) Try.prog 3) (opsAt (codeAt (bodyOf Try.f6) [1, 1, 1, 1, 1, 1, 1, 0, 0])) [56] (List.drop 6 (opsAt (codeAt (bodyOf Try.f6) [1, 1, 1, 1, 1, 1, 1, 0, 0]))) (St.put ⟨[.ros false 35 (.pair (.int .i64) (.pair (.int .i64) (.pair (.bool) (.int .i64)))) x0, .ros false 60 (.pair (.int .i64) (.int .i64)) x1, .any, .any, .any, .ptr 0 0, .any, .own 1, .sc (.int .i64 r2.2), .sc (.int .i64 a14), .any, .any, .any, .any, .any, .any, .any, .any, .any, .any, .any, .any, .any, .any, .any, .any, .any, .any, .any, .any, .any, .any, .any, .any, .any, .any, .any, .any, .any, .any, .any, .any, .any, .any, .any, .any, .any, .any, .any, .any, .any, .any, .any, .any, .sc (.int .i64 a14), .sc (.bool (a14 == 0)), .sc (.bool true), .gd (a14 == 0) (.ros false 35 (.pair (.int .i64) (.pair (.int .i64) (.pair (.bool) (.int .i64)))) x0), .gd (a14 == 0) (.clo 35 [.ptr 0 0]), .any, .any, .any, .any, .any, .any, .any, .any, .any, .any, .any, .any, .any, .any, .any, .any, .any, .any, .any, .any, .any, .any, .any, .any, .any, .any, .any, .any, .any, .any, .any, .any], hp⟩ (some 59) (tupOf vs)) (fun S => (seqK (law_RunwayChanges.cd N [1, 1, 1, 1, 1, 1, 1, 0, 1]) (seqK (law_RunwayChanges.cd N [1, 1, 1, 1, 1, 1, 1, 1]) law_RunwayChanges.fin)) .normal S))))) .normal S))))))
theorem law_RunwayChanges.l7_zero (N : Nat) (x0 : List (Int × Int × Bool × Int)) (x1 : List (Int × Int)) (x2 : Int) (r2 : List (Int × Int) × Int) (a14 : Int) (a19 : Int) : law_RunwayChanges.l7 N x0 x1 x2 r2 a14 0 a19 = none := by kernel_rfl
theorem law_RunwayChanges.l7_succ (N : Nat) (x0 : List (Int × Int × Bool × Int)) (x1 : List (Int × Int)) (x2 : Int) (r2 : List (Int × Int) × Int) (a14 : Int) (k18 : Nat) (a19 : Int) : law_RunwayChanges.l7 N x0 x1 x2 r2 a14 (k18 + 1) a19 =
    bif decide (a19 < (x0.length : Int)) then
      bif (decide (0 ≤ a19)) && (decide (a19 < (x0.length : Int))) then
        (law_RunwayChanges_1.fn N (List.getD x0 (Int.toNat a19) (0, (0, (false, 0))), x2)).bind fun r20 =>
        bif r20 then
          bif decide (a19 ≥ 0) then
            law_RunwayChanges.j6 N x1 x2 r2 15
          else
            law_RunwayChanges.j6 N x1 x2 r2 a14
        else
          law_RunwayChanges.l7 N x0 x1 x2 r2 a14 k18 (w (a19 + 1))
      else
        none
    else
      law_RunwayChanges.j6 N x1 x2 r2 a14 := by kernel_rfl
theorem law_RunwayChanges.j6_eq (N : Nat) (x1 : List (Int × Int)) (x2 : Int) (r2 : List (Int × Int) × Int) (a15 : Int) {M : Nat} (hM : N = M + 1) : law_RunwayChanges.j6 N x1 x2 r2 a15 =
    bif !(a15 == 0) then
      bif !(r2.2 == a15) || (r2.2 == a15) then
        bif !(r2.2 == a15) || (r2.2 == a15) then
          bif (!(r2.2 == a15)) || (r2.2 == a15) then
            some ((r2.2 == a15) && ((r2.1.length : Int) == 0))
          else
            none
        else
          none
      else
        none
    else
    bif r2.2 == 0 then
      bif r2.2 == 0 then
        (slices_Clone_RunwaySpan.fn N x1).bind fun r16 =>
        bif (decide (0 ≤ (w ((x1.length : Int) - 1)))) && (decide ((w ((x1.length : Int) - 1)) < (x1.length : Int))) then
          bif decide ((r16.length + 1) * 16 ≤ 140737488355328) && decide ((r16.length + 1) ≤ maxLen) then
            bif r2.2 == 0 then
              (slices_Equal_RunwaySpan.fn N (r2.1, (r16 ++ [(x2, (w (1 - ((List.getD x1 (Int.toNat (w ((x1.length : Int) - 1))) (0, 0)).2))))]))).bind fun r17 =>
              some r17
            else
              none
          else
            none
        else
          none
      else
        none
    else
      some false := (fuelK_eq hM _).trans (by kernel_rfl)
theorem law_RunwayChanges.j5_eq (N : Nat) (x0 : List (Int × Int × Bool × Int)) (x1 : List (Int × Int)) (x2 : Int) (r2 : List (Int × Int) × Int) (a14 : Int) {M : Nat} (hM : N = M + 1) : law_RunwayChanges.j5 N x0 x1 x2 r2 a14 =
    bif a14 == 0 then
      bif a14 == 0 then
        bif a14 == 0 then
          law_RunwayChanges.l7 N x0 x1 x2 r2 a14 N 0
        else
          none
      else
        none
    else
      law_RunwayChanges.j6 N x1 x2 r2 a14 := (fuelK_eq hM _).trans (by kernel_rfl)
theorem law_RunwayChanges.j4_eq (N : Nat) (x0 : List (Int × Int × Bool × Int)) (x1 : List (Int × Int)) (x2 : Int) (r2 : List (Int × Int) × Int) (a13 : Int) {M : Nat} (hM : N = M + 1) : law_RunwayChanges.j4 N x0 x1 x2 r2 a13 =
    bif !(a13 == 0) || (a13 == 0) then
      bif !(a13 == 0) || (a13 == 0) then
        bif !((a13 == 0) && (!(decide (x2 < 0)))) || ((a13 == 0) && (!(decide (x2 < 0)))) then
          bif !(a13 == 0) || (a13 == 0) then
            bif !(a13 == 0) || ((decide (x2 < 0)) || ((a13 == 0) && (!(decide (x2 < 0))))) then
              bif !(a13 == 0) || (a13 == 0) then
                bif !((a13 == 0) && (!((decide (x2 < 0)) || (decide (x2 > 200000))))) || ((a13 == 0) && (!((decide (x2 < 0)) || (decide (x2 > 200000))))) then
                  bif !((a13 == 0) && (!((decide (x2 < 0)) || (decide (x2 > 200000))))) || ((a13 == 0) && (!((decide (x2 < 0)) || (decide (x2 > 200000))))) then
                    bif !((a13 == 0) && (!((decide (x2 < 0)) || (decide (x2 > 200000))))) || ((a13 == 0) && (!((decide (x2 < 0)) || (decide (x2 > 200000))))) then
                      bif !((a13 == 0) && (!((decide (x2 < 0)) || (decide (x2 > 200000))))) || ((a13 == 0) && (!((decide (x2 < 0)) || (decide (x2 > 200000))))) then
                        bif ((decide (0 ≤ (w ((x1.length : Int) - 1)))) && (decide ((w ((x1.length : Int) - 1)) < (x1.length : Int)))) || !((a13 == 0) && (!((decide (x2 < 0)) || (decide (x2 > 200000))))) then
                          bif !((a13 == 0) && (!((decide (x2 < 0)) || (decide (x2 > 200000))))) || ((a13 == 0) && (!((decide (x2 < 0)) || (decide (x2 > 200000))))) then
                            bif !((a13 == 0) && (!((decide (x2 < 0)) || (decide (x2 > 200000))))) || ((a13 == 0) && (!((decide (x2 < 0)) || (decide (x2 > 200000))))) then
                              bif !((a13 == 0) && (!((decide (x2 < 0)) || (decide (x2 > 200000))))) || ((a13 == 0) && (!((decide (x2 < 0)) || (decide (x2 > 200000))))) then
                                bif !((a13 == 0) && (!((decide (x2 < 0)) || (decide (x2 > 200000))))) || ((a13 == 0) && (!((decide (x2 < 0)) || (decide (x2 > 200000))))) then
                                  bif !((a13 == 0) && (!((decide (x2 < 0)) || (decide (x2 > 200000))))) || ((a13 == 0) && (!((decide (x2 < 0)) || (decide (x2 > 200000))))) then
                                    bif !(a13 == 0) || (a13 == 0) then
                                      bif !(a13 == 0) || (((decide (x2 < 0)) || (decide (x2 > 200000))) || ((a13 == 0) && (!((decide (x2 < 0)) || (decide (x2 > 200000)))))) then
                                        bif (!(a13 == 0)) || (a13 == 0) then
                                          bif (a13 == 0) && (((decide (x2 < 0)) || (decide (x2 > 200000))) || (decide (x2 < (w (((List.getD x1 (Int.toNat (w ((x1.length : Int) - 1))) (0, 0)).1) + 360))))) then
                                            law_RunwayChanges.j5 N x0 x1 x2 r2 12
                                          else
                                            law_RunwayChanges.j5 N x0 x1 x2 r2 a13
                                        else
                                          none
                                      else
                                        none
                                    else
                                      none
                                  else
                                    none
                                else
                                  none
                              else
                                none
                            else
                              none
                          else
                            none
                        else
                          none
                      else
                        none
                    else
                      none
                  else
                    none
                else
                  none
              else
                none
            else
              none
          else
            none
        else
          none
      else
        none
    else
      none := (fuelK_eq hM _).trans (by kernel_rfl)
theorem law_RunwayChanges.l3_zero (N : Nat) (x0 : List (Int × Int × Bool × Int)) (x1 : List (Int × Int)) (x2 : Int) (r2 : List (Int × Int) × Int) (a6 : Int) (a11 : Int) : law_RunwayChanges.l3 N x0 x1 x2 r2 a6 0 a11 = none := by kernel_rfl
theorem law_RunwayChanges.l3_succ (N : Nat) (x0 : List (Int × Int × Bool × Int)) (x1 : List (Int × Int)) (x2 : Int) (r2 : List (Int × Int) × Int) (a6 : Int) (k10 : Nat) (a11 : Int) : law_RunwayChanges.l3 N x0 x1 x2 r2 a6 (k10 + 1) a11 =
    bif decide (a11 < (x0.length : Int)) then
      bif (decide (0 ≤ a11)) && (decide (a11 < (x0.length : Int))) then
        (law_RunwayChanges_1.fn N (List.getD x0 (Int.toNat a11) (0, (0, (false, 0))), x2)).bind fun r12 =>
        bif r12 then
          bif decide (a11 ≥ 0) then
            law_RunwayChanges.j2 N x1 x2 r2 15
          else
            law_RunwayChanges.j2 N x1 x2 r2 a6
        else
          law_RunwayChanges.l3 N x0 x1 x2 r2 a6 k10 (w (a11 + 1))
      else
        none
    else
      law_RunwayChanges.j2 N x1 x2 r2 a6 := by kernel_rfl
theorem law_RunwayChanges.j2_eq (N : Nat) (x1 : List (Int × Int)) (x2 : Int) (r2 : List (Int × Int) × Int) (a7 : Int) {M : Nat} (hM : N = M + 1) : law_RunwayChanges.j2 N x1 x2 r2 a7 =
    bif !(a7 == 0) then
      bif !(r2.2 == a7) || (r2.2 == a7) then
        bif !(r2.2 == a7) || (r2.2 == a7) then
          bif (!(r2.2 == a7)) || (r2.2 == a7) then
            some ((r2.2 == a7) && ((r2.1.length : Int) == 0))
          else
            none
        else
          none
      else
        none
    else
    bif r2.2 == 0 then
      bif r2.2 == 0 then
        (slices_Clone_RunwaySpan.fn N x1).bind fun r8 =>
        bif (decide (0 ≤ (w ((x1.length : Int) - 1)))) && (decide ((w ((x1.length : Int) - 1)) < (x1.length : Int))) then
          bif decide ((r8.length + 1) * 16 ≤ 140737488355328) && decide ((r8.length + 1) ≤ maxLen) then
            bif r2.2 == 0 then
              (slices_Equal_RunwaySpan.fn N (r2.1, (r8 ++ [(x2, (w (1 - ((List.getD x1 (Int.toNat (w ((x1.length : Int) - 1))) (0, 0)).2))))]))).bind fun r9 =>
              some r9
            else
              none
          else
            none
        else
          none
      else
        none
    else
      some false := (fuelK_eq hM _).trans (by kernel_rfl)
theorem law_RunwayChanges.j1_eq (N : Nat) (x0 : List (Int × Int × Bool × Int)) (x1 : List (Int × Int)) (x2 : Int) (r2 : List (Int × Int) × Int) (a6 : Int) {M : Nat} (hM : N = M + 1) : law_RunwayChanges.j1 N x0 x1 x2 r2 a6 =
    bif a6 == 0 then
      bif a6 == 0 then
        bif a6 == 0 then
          law_RunwayChanges.l3 N x0 x1 x2 r2 a6 N 0
        else
          none
      else
        none
    else
      law_RunwayChanges.j2 N x1 x2 r2 a6 := (fuelK_eq hM _).trans (by kernel_rfl)
theorem law_RunwayChanges.j0_eq (N : Nat) (x0 : List (Int × Int × Bool × Int)) (x1 : List (Int × Int)) (x2 : Int) (r2 : List (Int × Int) × Int) (a5 : Int) {M : Nat} (hM : N = M + 1) : law_RunwayChanges.j0 N x0 x1 x2 r2 a5 =
    bif !(a5 == 0) || (a5 == 0) then
      bif !(a5 == 0) || (a5 == 0) then
        bif !((a5 == 0) && (!(decide (x2 < 0)))) || ((a5 == 0) && (!(decide (x2 < 0)))) then
          bif !(a5 == 0) || (a5 == 0) then
            bif !(a5 == 0) || ((decide (x2 < 0)) || ((a5 == 0) && (!(decide (x2 < 0))))) then
              bif !(a5 == 0) || (a5 == 0) then
                bif !((a5 == 0) && (!((decide (x2 < 0)) || (decide (x2 > 200000))))) || ((a5 == 0) && (!((decide (x2 < 0)) || (decide (x2 > 200000))))) then
                  bif !((a5 == 0) && (!((decide (x2 < 0)) || (decide (x2 > 200000))))) || ((a5 == 0) && (!((decide (x2 < 0)) || (decide (x2 > 200000))))) then
                    bif !((a5 == 0) && (!((decide (x2 < 0)) || (decide (x2 > 200000))))) || ((a5 == 0) && (!((decide (x2 < 0)) || (decide (x2 > 200000))))) then
                      bif !((a5 == 0) && (!((decide (x2 < 0)) || (decide (x2 > 200000))))) || ((a5 == 0) && (!((decide (x2 < 0)) || (decide (x2 > 200000))))) then
                        bif ((decide (0 ≤ (w ((x1.length : Int) - 1)))) && (decide ((w ((x1.length : Int) - 1)) < (x1.length : Int)))) || !((a5 == 0) && (!((decide (x2 < 0)) || (decide (x2 > 200000))))) then
                          bif !((a5 == 0) && (!((decide (x2 < 0)) || (decide (x2 > 200000))))) || ((a5 == 0) && (!((decide (x2 < 0)) || (decide (x2 > 200000))))) then
                            bif !((a5 == 0) && (!((decide (x2 < 0)) || (decide (x2 > 200000))))) || ((a5 == 0) && (!((decide (x2 < 0)) || (decide (x2 > 200000))))) then
                              bif !((a5 == 0) && (!((decide (x2 < 0)) || (decide (x2 > 200000))))) || ((a5 == 0) && (!((decide (x2 < 0)) || (decide (x2 > 200000))))) then
                                bif !((a5 == 0) && (!((decide (x2 < 0)) || (decide (x2 > 200000))))) || ((a5 == 0) && (!((decide (x2 < 0)) || (decide (x2 > 200000))))) then
                                  bif !((a5 == 0) && (!((decide (x2 < 0)) || (decide (x2 > 200000))))) || ((a5 == 0) && (!((decide (x2 < 0)) || (decide (x2 > 200000))))) then
                                    bif !(a5 == 0) || (a5 == 0) then
                                      bif !(a5 == 0) || (((decide (x2 < 0)) || (decide (x2 > 200000))) || ((a5 == 0) && (!((decide (x2 < 0)) || (decide (x2 > 200000)))))) then
                                        bif (!(a5 == 0)) || (a5 == 0) then
                                          bif (a5 == 0) && (((decide (x2 < 0)) || (decide (x2 > 200000))) || (decide (x2 < (w (((List.getD x1 (Int.toNat (w ((x1.length : Int) - 1))) (0, 0)).1) + 360))))) then
                                            law_RunwayChanges.j1 N x0 x1 x2 r2 12
                                          else
                                            law_RunwayChanges.j1 N x0 x1 x2 r2 a5
                                        else
                                          none
                                      else
                                        none
                                    else
                                      none
                                  else
                                    none
                                else
                                  none
                              else
                                none
                            else
                              none
                          else
                            none
                        else
                          none
                      else
                        none
                    else
                      none
                  else
                    none
                else
                  none
              else
                none
            else
              none
          else
            none
        else
          none
      else
        none
    else
      none := (fuelK_eq hM _).trans (by kernel_rfl)
theorem law_RunwayChanges.j6_clean (N : Nat) (x1 : List (Int × Int)) (x2 : Int) (r2 : List (Int × Int) × Int) (a15 : Int) {M : Nat} (hM : N = M + 1) : law_RunwayChanges.j6 N x1 x2 r2 a15 =
    bif !(a15 == 0) then
      some ((r2.2 == a15) && ((r2.1.length : Int) == 0))
    else
    bif r2.2 == 0 then
      bif r2.2 == 0 then
        (slices_Clone_RunwaySpan.fn N x1).bind fun r16 =>
        bif (decide (0 ≤ (w ((x1.length : Int) - 1)))) && (decide ((w ((x1.length : Int) - 1)) < (x1.length : Int))) then
          bif decide ((r16.length + 1) * 16 ≤ 140737488355328) && decide ((r16.length + 1) ≤ maxLen) then
            bif r2.2 == 0 then
              (slices_Equal_RunwaySpan.fn N (r2.1, (r16 ++ [(x2, (w (1 - ((List.getD x1 (Int.toNat (w ((x1.length : Int) - 1))) (0, 0)).2))))]))).bind fun r17 =>
              some r17
            else
              none
          else
            none
        else
          none
      else
        none
    else
      some false := by
  rw [law_RunwayChanges.j6_eq (hM := hM)]; simp only [taut7, taut8, cond_true]
theorem taut24 : ∀ p0 p1 p2 : Bool, ((!((p0) && (!((p1) || (p2)))) || ((p0) && (!((p1) || (p2)))))) = true := by decide
theorem taut25 : ∀ p0 p1 p2 : Bool, ((!(p0) || (((p1) || (p2)) || ((p0) && (!((p1) || (p2))))))) = true := by decide
theorem law_RunwayChanges.j4_clean (N : Nat) (x0 : List (Int × Int × Bool × Int)) (x1 : List (Int × Int)) (x2 : Int) (r2 : List (Int × Int) × Int) (a13 : Int) {M : Nat} (hM : N = M + 1) : law_RunwayChanges.j4 N x0 x1 x2 r2 a13 =
    bif ((decide (0 ≤ (w ((x1.length : Int) - 1)))) && (decide ((w ((x1.length : Int) - 1)) < (x1.length : Int)))) || !((a13 == 0) && (!((decide (x2 < 0)) || (decide (x2 > 200000))))) then
      bif (a13 == 0) && (((decide (x2 < 0)) || (decide (x2 > 200000))) || (decide (x2 < (w (((List.getD x1 (Int.toNat (w ((x1.length : Int) - 1))) (0, 0)).1) + 360))))) then
        law_RunwayChanges.j5 N x0 x1 x2 r2 12
      else
        law_RunwayChanges.j5 N x0 x1 x2 r2 a13
    else
      none := by
  rw [law_RunwayChanges.j4_eq (hM := hM)]; simp only [taut24, taut20, taut25, taut21, taut7, taut8, cond_true]
theorem law_RunwayChanges.j2_clean (N : Nat) (x1 : List (Int × Int)) (x2 : Int) (r2 : List (Int × Int) × Int) (a7 : Int) {M : Nat} (hM : N = M + 1) : law_RunwayChanges.j2 N x1 x2 r2 a7 =
    bif !(a7 == 0) then
      some ((r2.2 == a7) && ((r2.1.length : Int) == 0))
    else
    bif r2.2 == 0 then
      bif r2.2 == 0 then
        (slices_Clone_RunwaySpan.fn N x1).bind fun r8 =>
        bif (decide (0 ≤ (w ((x1.length : Int) - 1)))) && (decide ((w ((x1.length : Int) - 1)) < (x1.length : Int))) then
          bif decide ((r8.length + 1) * 16 ≤ 140737488355328) && decide ((r8.length + 1) ≤ maxLen) then
            bif r2.2 == 0 then
              (slices_Equal_RunwaySpan.fn N (r2.1, (r8 ++ [(x2, (w (1 - ((List.getD x1 (Int.toNat (w ((x1.length : Int) - 1))) (0, 0)).2))))]))).bind fun r9 =>
              some r9
            else
              none
          else
            none
        else
          none
      else
        none
    else
      some false := by
  rw [law_RunwayChanges.j2_eq (hM := hM)]; simp only [taut7, taut8, cond_true]
theorem law_RunwayChanges.j0_clean (N : Nat) (x0 : List (Int × Int × Bool × Int)) (x1 : List (Int × Int)) (x2 : Int) (r2 : List (Int × Int) × Int) (a5 : Int) {M : Nat} (hM : N = M + 1) : law_RunwayChanges.j0 N x0 x1 x2 r2 a5 =
    bif ((decide (0 ≤ (w ((x1.length : Int) - 1)))) && (decide ((w ((x1.length : Int) - 1)) < (x1.length : Int)))) || !((a5 == 0) && (!((decide (x2 < 0)) || (decide (x2 > 200000))))) then
      bif (a5 == 0) && (((decide (x2 < 0)) || (decide (x2 > 200000))) || (decide (x2 < (w (((List.getD x1 (Int.toNat (w ((x1.length : Int) - 1))) (0, 0)).1) + 360))))) then
        law_RunwayChanges.j1 N x0 x1 x2 r2 12
      else
        law_RunwayChanges.j1 N x0 x1 x2 r2 a5
    else
      none := by
  rw [law_RunwayChanges.j0_eq (hM := hM)]; simp only [taut24, taut20, taut25, taut21, taut7, taut8, cond_true]
theorem law_RunwayChanges.l7_cons (N : Nat) (x0 : List (Int × Int × Bool × Int)) (x1 : List (Int × Int)) (x2 : Int) (r2 : List (Int × Int) × Int) (a14 : Int) (k18 : Nat) {pre r} {x} (hl : x0 = pre ++ x :: r) (hb : x0.length < 4611686018427387904) : law_RunwayChanges.l7 N x0 x1 x2 r2 a14 (k18 + 1) (pre.length : Int) =
    (law_RunwayChanges_1.fn N (x, x2)).bind fun r20 =>
    bif r20 then
      bif decide ((pre.length : Int) ≥ 0) then
        law_RunwayChanges.j6 N x1 x2 r2 15
      else
        law_RunwayChanges.j6 N x1 x2 r2 a14
    else
      law_RunwayChanges.l7 N x0 x1 x2 r2 a14 k18 ((pre.length : Int) + 1) := by
  have hlen : x0.length = pre.length + 1 + r.length := by rw [hl]; simp; omega
  have e1 : decide ((pre.length : Int) < (x0.length : Int)) = true := by rw [decide_eq_true_iff]; omega
  have e2 : decide (0 ≤ (pre.length : Int)) = true := by rw [decide_eq_true_iff]; omega
  have e4 : w ((pre.length : Int) + 1) = (pre.length : Int) + 1 := w_next hl hb
  have e5 : List.take pre.length x0 = pre := by rw [hl]; simp
  have e6 : decide ((pre.length : Int) ≤ (x0.length : Int)) = true := by rw [decide_eq_true_iff]; omega
  have g0 : List.getD x0 pre.length (0, (0, (false, 0))) = x := by rw [hl]; exact getD_mid pre x r _
  rw [law_RunwayChanges.l7_succ]
  simp -implicitDefEqProofs only [Int.toNat_natCast, e1, e2, e4, e6, g0, e5, Bool.and_true, Bool.true_and, Bool.true_or, cond_true]
theorem law_RunwayChanges.l7_nil (N : Nat) (x0 : List (Int × Int × Bool × Int)) (x1 : List (Int × Int)) (x2 : Int) (r2 : List (Int × Int) × Int) (a14 : Int) (k18 : Nat) : law_RunwayChanges.l7 N x0 x1 x2 r2 a14 (k18 + 1) (x0.length : Int) =
    law_RunwayChanges.j6 N x1 x2 r2 a14 := by
  have e1 : decide ((x0.length : Int) < (x0.length : Int)) = false := by rw [decide_eq_false_iff_not]; omega
  rw [law_RunwayChanges.l7_succ]
  simp -implicitDefEqProofs only [e1, cond_false]
theorem law_RunwayChanges.l3_cons (N : Nat) (x0 : List (Int × Int × Bool × Int)) (x1 : List (Int × Int)) (x2 : Int) (r2 : List (Int × Int) × Int) (a6 : Int) (k10 : Nat) {pre r} {x} (hl : x0 = pre ++ x :: r) (hb : x0.length < 4611686018427387904) : law_RunwayChanges.l3 N x0 x1 x2 r2 a6 (k10 + 1) (pre.length : Int) =
    (law_RunwayChanges_1.fn N (x, x2)).bind fun r12 =>
    bif r12 then
      bif decide ((pre.length : Int) ≥ 0) then
        law_RunwayChanges.j2 N x1 x2 r2 15
      else
        law_RunwayChanges.j2 N x1 x2 r2 a6
    else
      law_RunwayChanges.l3 N x0 x1 x2 r2 a6 k10 ((pre.length : Int) + 1) := by
  have hlen : x0.length = pre.length + 1 + r.length := by rw [hl]; simp; omega
  have e1 : decide ((pre.length : Int) < (x0.length : Int)) = true := by rw [decide_eq_true_iff]; omega
  have e2 : decide (0 ≤ (pre.length : Int)) = true := by rw [decide_eq_true_iff]; omega
  have e4 : w ((pre.length : Int) + 1) = (pre.length : Int) + 1 := w_next hl hb
  have e5 : List.take pre.length x0 = pre := by rw [hl]; simp
  have e6 : decide ((pre.length : Int) ≤ (x0.length : Int)) = true := by rw [decide_eq_true_iff]; omega
  have g0 : List.getD x0 pre.length (0, (0, (false, 0))) = x := by rw [hl]; exact getD_mid pre x r _
  rw [law_RunwayChanges.l3_succ]
  simp -implicitDefEqProofs only [Int.toNat_natCast, e1, e2, e4, e6, g0, e5, Bool.and_true, Bool.true_and, Bool.true_or, cond_true]
theorem law_RunwayChanges.l3_nil (N : Nat) (x0 : List (Int × Int × Bool × Int)) (x1 : List (Int × Int)) (x2 : Int) (r2 : List (Int × Int) × Int) (a6 : Int) (k10 : Nat) : law_RunwayChanges.l3 N x0 x1 x2 r2 a6 (k10 + 1) (x0.length : Int) =
    law_RunwayChanges.j2 N x1 x2 r2 a6 := by
  have e1 : decide ((x0.length : Int) < (x0.length : Int)) = false := by rw [decide_eq_false_iff_not]; omega
  rw [law_RunwayChanges.l3_succ]
  simp -implicitDefEqProofs only [e1, cond_false]
theorem law_RunwayChanges.eq (N : Nat) (x0 : List (Int × Int × Bool × Int)) (x1 : List (Int × Int)) (x2 : Int) : law_RunwayChanges.fn N (x0, x1, x2) =
    (law_runwayFact.fn N ()).bind fun r1 =>
    bif !r1 then
      some false
    else
      (runway_Change.fn N (x0, x1, x2)).bind fun r2 =>
      (ref_MovesError.fn N x0).bind fun r3 =>
      bif r3 == 0 then
        (ref_EndsError.fn N x1).bind fun r4 =>
        bif !(r4 == 0) || (r4 == 0) then
          bif !(r4 == 0) || (r4 == 0) then
            bif (!(r4 == 0)) || (r4 == 0) then
              bif (r4 == 0) && ((x1.length : Int) == 24) then
                law_RunwayChanges.j0 N x0 x1 x2 r2 9
              else
                law_RunwayChanges.j0 N x0 x1 x2 r2 r4
            else
              none
          else
            none
        else
          none
      else
      bif !(r3 == 0) || (r3 == 0) then
        bif !(r3 == 0) || (r3 == 0) then
          bif (!(r3 == 0)) || (r3 == 0) then
            bif (r3 == 0) && ((x1.length : Int) == 24) then
              law_RunwayChanges.j4 N x0 x1 x2 r2 9
            else
              law_RunwayChanges.j4 N x0 x1 x2 r2 r3
          else
            none
        else
          none
      else
        none := by kernel_rfl
theorem law_RunwayChanges.clean (N : Nat) (x0 : List (Int × Int × Bool × Int)) (x1 : List (Int × Int)) (x2 : Int) : law_RunwayChanges.fn N (x0, x1, x2) =
    (law_runwayFact.fn N ()).bind fun r1 =>
    bif !r1 then
      some false
    else
      (runway_Change.fn N (x0, x1, x2)).bind fun r2 =>
      (ref_MovesError.fn N x0).bind fun r3 =>
      bif r3 == 0 then
        (ref_EndsError.fn N x1).bind fun r4 =>
        bif (r4 == 0) && ((x1.length : Int) == 24) then
          law_RunwayChanges.j0 N x0 x1 x2 r2 9
        else
          law_RunwayChanges.j0 N x0 x1 x2 r2 r4
      else
      bif (r3 == 0) && ((x1.length : Int) == 24) then
        law_RunwayChanges.j4 N x0 x1 x2 r2 9
      else
        law_RunwayChanges.j4 N x0 x1 x2 r2 r3 := by
  rw [law_RunwayChanges.eq]; simp only [taut7, taut8, cond_true]

end Go.Proofs.Ytmaeakelhjmfeaa.Sk
