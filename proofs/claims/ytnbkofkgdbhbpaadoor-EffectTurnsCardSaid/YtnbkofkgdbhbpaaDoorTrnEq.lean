/- PRINTED by gen.py: what the functions answer, part 3. Not trusted: Lean checks it. -/
import Derived.Test.YtnbkofkgdbhbpaaDoorTrnEq2
set_option linter.unusedVariables false
set_option linter.unusedSimpArgs false
set_option maxRecDepth 100000
namespace Go.Proofs.YtnbkofkgdbhbpaaDoor.Sk
open Go
/-! ### slices_Equal_TubeNode: slices.Equal[skyway/api.Tube,skyway/api.TubeNode] -/
def slices_Equal_TubeNode.kp : List (Nat × List (Nat × Option (TypeId × Ty))) := [(4, [(0, none), (1, none), (12, none), (13, none)])]
noncomputable def slices_Equal_TubeNode.G (N : Nat) : List (Nat × Spec) := []
noncomputable def slices_Equal_TubeNode.E (N : Nat) : Env := mkEnv (slices_Equal_TubeNode.G N) N tyTab slices_Equal_TubeNode.kp
noncomputable def slices_Equal_TubeNode.fn (N : Nat) (x : List ((Int × (Int × Int) × Int) × Int × Int) × List ((Int × (Int × Int) × Int) × Int × Int)) : Option Bool := evFn (slices_Equal_TubeNode.E N) Tryd.prog 3 Tryd.f8 false [.cell (.sl 39 (.pair (.pair (.int .i64) (.pair (.pair (.int .i64) (.int .i64)) (.int .i64))) (.pair (.int .i64) (.int .i64)))), .cell (.sl 39 (.pair (.pair (.int .i64) (.pair (.pair (.int .i64) (.int .i64)) (.int .i64))) (.pair (.int .i64) (.int .i64))))] [.val (.cell (.bool))] x
noncomputable def slices_Equal_TubeNode.S (N : Nat) : PSpec := ⟨false, [.cell (.sl 39 (.pair (.pair (.int .i64) (.pair (.pair (.int .i64) (.int .i64)) (.int .i64))) (.pair (.int .i64) (.int .i64)))), .cell (.sl 39 (.pair (.pair (.int .i64) (.pair (.pair (.int .i64) (.int .i64)) (.int .i64))) (.pair (.int .i64) (.int .i64))))], [.val (.cell (.bool))], slices_Equal_TubeNode.fn N⟩
theorem f8_enters : Enters Tryd.prog 8 := ⟨Tryd.f8, Tryd.func8, by kernel_rfl, by kernel_rfl⟩
theorem slices_Equal_TubeNode.tab (N : Nat) : TabOk Tryd.prog (slices_Equal_TubeNode.G N) := trivial
theorem slices_Equal_TubeNode.enters : Enters Tryd.prog 8 := f8_enters
theorem slices_Equal_TubeNode.sound (N : Nat) : Sound Tryd.prog 8 (slices_Equal_TubeNode.S N) := evFn_sound (specs_tab (slices_Equal_TubeNode.tab N)) (inls_tab (slices_Equal_TubeNode.tab N)) mixed 3 Tryd.func8 _ _ _
noncomputable def slices_Equal_TubeNode.cd (N : Nat) (p : List Nat) : St → (Ex → St → Option Bool) → Option Bool := ev (slices_Equal_TubeNode.E N) Tryd.prog (callD (slices_Equal_TubeNode.E N) Tryd.prog 3) 0 (codeAt (bodyOf Tryd.f8) p)
noncomputable def slices_Equal_TubeNode.fin : Ex → St → Option Bool := endK Tryd.prog Tryd.f8 [.val (.cell (.bool))]
noncomputable def slices_Equal_TubeNode.l0 (N : Nat) (x0 : List ((Int × (Int × Int) × Int) × Int × Int)) (x1 : List ((Int × (Int × Int) × Int) × Int × Int)) (k1 : Nat) (a2 : Int) : Option Bool :=
  loopN (norm ((slices_Equal_TubeNode.E N).keep 4) 0) (slices_Equal_TubeNode.cd N [1, 1, 0, 1, 0, 0]) k1
  ⟨[.ros false 39 (.pair (.pair (.int .i64) (.pair (.pair (.int .i64) (.int .i64)) (.int .i64))) (.pair (.int .i64) (.int .i64))) x0, .ros false 39 (.pair (.pair (.int .i64) (.pair (.pair (.int .i64) (.int .i64)) (.int .i64))) (.pair (.int .i64) (.int .i64))) x1, .any, .any, .any, .any, .any, .any, .any, .any, .any, .any, .sc (.int .i64 (x0.length : Int)), .sc (.int .i64 a2), .any, .any, .any, .any, .any, .any, .any, .any, .any, .any, .any, .any], []⟩
  (blockK 0 (seqK (slices_Equal_TubeNode.cd N [1, 1, 1]) slices_Equal_TubeNode.fin))
theorem slices_Equal_TubeNode.l0_zero (N : Nat) (x0 : List ((Int × (Int × Int) × Int) × Int × Int)) (x1 : List ((Int × (Int × Int) × Int) × Int × Int)) (a2 : Int) : slices_Equal_TubeNode.l0 N x0 x1 0 a2 = none := by kernel_rfl
theorem slices_Equal_TubeNode.l0_succ (N : Nat) (x0 : List ((Int × (Int × Int) × Int) × Int × Int)) (x1 : List ((Int × (Int × Int) × Int) × Int × Int)) (k1 : Nat) (a2 : Int) : slices_Equal_TubeNode.l0 N x0 x1 (k1 + 1) a2 =
    bif decide (a2 < (x0.length : Int)) then
      bif (decide (0 ≤ a2)) && (decide (a2 < (x0.length : Int))) then
        bif (decide (0 ≤ a2)) && (decide (a2 < (x1.length : Int))) then
          bif !((((((List.getD x0 (Int.toNat a2) ((0, ((0, 0), 0)), (0, 0))).1).1) == (((List.getD x1 (Int.toNat a2) ((0, ((0, 0), 0)), (0, 0))).1).1)) && ((((((((List.getD x0 (Int.toNat a2) ((0, ((0, 0), 0)), (0, 0))).1).2).1).1) == (((((List.getD x1 (Int.toNat a2) ((0, ((0, 0), 0)), (0, 0))).1).2).1).1)) && (((((((List.getD x0 (Int.toNat a2) ((0, ((0, 0), 0)), (0, 0))).1).2).1).2) == (((((List.getD x1 (Int.toNat a2) ((0, ((0, 0), 0)), (0, 0))).1).2).1).2)) && true)) && ((((((List.getD x0 (Int.toNat a2) ((0, ((0, 0), 0)), (0, 0))).1).2).2) == ((((List.getD x1 (Int.toNat a2) ((0, ((0, 0), 0)), (0, 0))).1).2).2)) && true))) && (((((List.getD x0 (Int.toNat a2) ((0, ((0, 0), 0)), (0, 0))).2).1) == (((List.getD x1 (Int.toNat a2) ((0, ((0, 0), 0)), (0, 0))).2).1)) && (((((List.getD x0 (Int.toNat a2) ((0, ((0, 0), 0)), (0, 0))).2).2) == (((List.getD x1 (Int.toNat a2) ((0, ((0, 0), 0)), (0, 0))).2).2)) && true))) then
            some false
          else
            slices_Equal_TubeNode.l0 N x0 x1 k1 (w (a2 + 1))
        else
          none
      else
        none
    else
      some true := by kernel_rfl
theorem slices_Equal_TubeNode.l0_cons (N : Nat) (x0 : List ((Int × (Int × Int) × Int) × Int × Int)) (x1 : List ((Int × (Int × Int) × Int) × Int × Int)) (k1 : Nat) {pre r} {x} (hl : x0 = pre ++ x :: r) (hb : x0.length < 4611686018427387904) : slices_Equal_TubeNode.l0 N x0 x1 (k1 + 1) (pre.length : Int) =
    bif decide ((pre.length : Int) < (x1.length : Int)) then
      bif !(((((x.1).1) == (((List.getD x1 pre.length ((0, ((0, 0), 0)), (0, 0))).1).1)) && (((((((x.1).2).1).1) == (((((List.getD x1 pre.length ((0, ((0, 0), 0)), (0, 0))).1).2).1).1)) && ((((((x.1).2).1).2) == (((((List.getD x1 pre.length ((0, ((0, 0), 0)), (0, 0))).1).2).1).2)) && true)) && (((((x.1).2).2) == ((((List.getD x1 pre.length ((0, ((0, 0), 0)), (0, 0))).1).2).2)) && true))) && ((((x.2).1) == (((List.getD x1 pre.length ((0, ((0, 0), 0)), (0, 0))).2).1)) && ((((x.2).2) == (((List.getD x1 pre.length ((0, ((0, 0), 0)), (0, 0))).2).2)) && true))) then
        some false
      else
        slices_Equal_TubeNode.l0 N x0 x1 k1 ((pre.length : Int) + 1)
    else
      none := by
  have hlen : x0.length = pre.length + 1 + r.length := by rw [hl]; simp; omega
  have e1 : decide ((pre.length : Int) < (x0.length : Int)) = true := by rw [decide_eq_true_iff]; omega
  have e2 : decide (0 ≤ (pre.length : Int)) = true := by rw [decide_eq_true_iff]; omega
  have e4 : w ((pre.length : Int) + 1) = (pre.length : Int) + 1 := w_next hl hb
  have e5 : List.take pre.length x0 = pre := by rw [hl]; simp
  have e6 : decide ((pre.length : Int) ≤ (x0.length : Int)) = true := by rw [decide_eq_true_iff]; omega
  have g0 : List.getD x0 pre.length ((0, ((0, 0), 0)), (0, 0)) = x := by rw [hl]; exact getD_mid pre x r _
  rw [slices_Equal_TubeNode.l0_succ]
  simp -implicitDefEqProofs only [Int.toNat_natCast, e1, e2, e4, e6, g0, e5, Bool.and_true, Bool.true_and, Bool.true_or, cond_true]
theorem slices_Equal_TubeNode.l0_nil (N : Nat) (x0 : List ((Int × (Int × Int) × Int) × Int × Int)) (x1 : List ((Int × (Int × Int) × Int) × Int × Int)) (k1 : Nat) : slices_Equal_TubeNode.l0 N x0 x1 (k1 + 1) (x0.length : Int) =
    some true := by
  have e1 : decide ((x0.length : Int) < (x0.length : Int)) = false := by rw [decide_eq_false_iff_not]; omega
  rw [slices_Equal_TubeNode.l0_succ]
  simp -implicitDefEqProofs only [e1, cond_false]
theorem slices_Equal_TubeNode.eq (N : Nat) (x0 : List ((Int × (Int × Int) × Int) × Int × Int)) (x1 : List ((Int × (Int × Int) × Int) × Int × Int)) : slices_Equal_TubeNode.fn N (x0, x1) =
    bif !((x0.length : Int) == (x1.length : Int)) then
      some false
    else
      slices_Equal_TubeNode.l0 N x0 x1 N 0 := by kernel_rfl
theorem slices_Equal_TubeNode.v {N : Nat} (hN : 4611686018427387904 ≤ N) (x0 x1 : List ((Int × (Int × Int) × Int) × Int × Int)) (h : x0.length < 4611686018427387904) : slices_Equal_TubeNode.fn N (x0, x1) = some (eqL (fun p q => (((((p.1).1) == ((q.1).1)) && (((((((p.1).2).1).1) == ((((q.1).2).1).1)) && ((((((p.1).2).1).2) == ((((q.1).2).1).2)) && true)) && (((((p.1).2).2) == (((q.1).2).2)) && true))) && ((((p.2).1) == ((q.2).1)) && ((((p.2).2) == ((q.2).2)) && true)))) x0 x1) := equal_list hN (fun p q => (((((p.1).1) == ((q.1).1)) && (((((((p.1).2).1).1) == ((((q.1).2).1).1)) && ((((((p.1).2).1).2) == ((((q.1).2).1).2)) && true)) && (((((p.1).2).2) == (((q.1).2).2)) && true))) && ((((p.2).1) == ((q.2).1)) && ((((p.2).2) == ((q.2).2)) && true)))) ((0, ((0, 0), 0)), (0, 0)) h (fun k i => slices_Equal_TubeNode.l0 N x0 x1 k i) (slices_Equal_TubeNode.eq N x0 x1) (fun k i => slices_Equal_TubeNode.l0_succ N x0 x1 k i)
theorem slices_Equal_TubeNode.self {N : Nat} (hN : 4611686018427387904 ≤ N) (x0 : List ((Int × (Int × Int) × Int) × Int × Int)) (h : x0.length < 4611686018427387904) : slices_Equal_TubeNode.fn N (x0, x0) = some true := by rw [slices_Equal_TubeNode.v hN x0 x0 h]; exact congrArg some (eqL_refl (fun p => by simp [seq_self]) x0)

/-! ### law_EffectTurns: skyway/skywaylaw3.EffectTurns -/
def law_EffectTurns.kp : List (Nat × List (Nat × Option (TypeId × Ty))) := []
noncomputable def law_EffectTurns.G (N : Nat) : List (Nat × Spec) := [(4, .pure (law_effectFact.S N)), (5, .pure (effect_Of.S N)), (6, .pure (law_effectError.S N)), (7, .pure (law_expected.S N)), (8, .pure (slices_Equal_TubeNode.S N))]
noncomputable def law_EffectTurns.E (N : Nat) : Env := mkEnv (law_EffectTurns.G N) N tyTab law_EffectTurns.kp
noncomputable def law_EffectTurns.fn (N : Nat) (x : List ((Int × (Int × Int) × Int) × Int × Int) × (ByteArray × Int × Int × ByteArray) × Int × (ByteArray × Int × Int × Int × Int × Int × Int) × Int × Int) : Option Bool := evFn (law_EffectTurns.E N) Tryd.prog 3 Tryd.f3 false [.cell (.sl 39 (.pair (.pair (.int .i64) (.pair (.pair (.int .i64) (.int .i64)) (.int .i64))) (.pair (.int .i64) (.int .i64)))), .agg (.pair (.str) (.pair (.int .i64) (.pair (.int .i64) (.str)))), .cell (.int .i64), .agg (.pair (.str) (.pair (.int .i64) (.pair (.int .i64) (.pair (.int .i64) (.pair (.int .i64) (.pair (.int .i64) (.int .i64))))))), .agg (.pair (.int .i64) (.int .i64))] [.val (.cell (.bool))] x
noncomputable def law_EffectTurns.S (N : Nat) : PSpec := ⟨false, [.cell (.sl 39 (.pair (.pair (.int .i64) (.pair (.pair (.int .i64) (.int .i64)) (.int .i64))) (.pair (.int .i64) (.int .i64)))), .agg (.pair (.str) (.pair (.int .i64) (.pair (.int .i64) (.str)))), .cell (.int .i64), .agg (.pair (.str) (.pair (.int .i64) (.pair (.int .i64) (.pair (.int .i64) (.pair (.int .i64) (.pair (.int .i64) (.int .i64))))))), .agg (.pair (.int .i64) (.int .i64))], [.val (.cell (.bool))], law_EffectTurns.fn N⟩
theorem f3_enters : Enters Tryd.prog 3 := ⟨Tryd.f3, Tryd.func3, by kernel_rfl, by kernel_rfl⟩
theorem law_EffectTurns.tab (N : Nat) : TabOk Tryd.prog (law_EffectTurns.G N) := ⟨⟨law_effectFact.enters, law_effectFact.sound N⟩, ⟨effect_Of.enters, effect_Of.sound N⟩, ⟨law_effectError.enters, law_effectError.sound N⟩, ⟨law_expected.enters, law_expected.sound N⟩, ⟨slices_Equal_TubeNode.enters, slices_Equal_TubeNode.sound N⟩, trivial⟩
theorem law_EffectTurns.enters : Enters Tryd.prog 3 := f3_enters
theorem law_EffectTurns.sound (N : Nat) : Sound Tryd.prog 3 (law_EffectTurns.S N) := evFn_sound (specs_tab (law_EffectTurns.tab N)) (inls_tab (law_EffectTurns.tab N)) mixed 3 Tryd.func3 _ _ _
theorem law_EffectTurns.eq (N : Nat) (x0 : List ((Int × (Int × Int) × Int) × Int × Int)) (x1 : ByteArray × Int × Int × ByteArray) (x2 : Int) (x3 : ByteArray × Int × Int × Int × Int × Int × Int) (x4 : Int × Int) : law_EffectTurns.fn N (x0, x1, x2, x3, x4) =
    (law_effectFact.fn N ()).bind fun r1 =>
    bif !r1 then
      some false
    else
    bif x1.2.1 == 0 then
      some true
    else
      (effect_Of.fn N (x0, x1, x2, x3, x4)).bind fun r2 =>
      (law_effectError.fn N (x0, x1, x2, x3, x4)).bind fun r3 =>
      bif r3 == 0 then
        (law_expected.fn N (x0, x1, x2, x3, x4)).bind fun r4 =>
        bif !(r4.2 == 0) || (r4.2 == 0) then
          bif !(r4.2 == 0) || (r4.2 == 0) then
            bif (!(r4.2 == 0)) || (r4.2 == 0) then
              bif (r4.2 == 0) && (decide ((r4.1.length : Int) > 64)) then
                bif !(r2.2 == 2) || (r2.2 == 2) then
                  bif !(r2.2 == 2) || (r2.2 == 2) then
                    (bif (r2.2 == 2) then slices_Equal_TubeNode.fn N (r2.1, []) else some (false)).bind fun r5 =>
                    bif (!(r2.2 == 2)) || (r2.2 == 2) then
                      some ((r2.2 == 2) && r5)
                    else
                      none
                  else
                    none
                else
                  none
              else
              bif !(r4.2 == 0) then
                bif !(r2.2 == r4.2) || (r2.2 == r4.2) then
                  bif !(r2.2 == r4.2) || (r2.2 == r4.2) then
                    (bif (r2.2 == r4.2) then slices_Equal_TubeNode.fn N (r2.1, []) else some (false)).bind fun r6 =>
                    bif (!(r2.2 == r4.2)) || (r2.2 == r4.2) then
                      some ((r2.2 == r4.2) && r6)
                    else
                      none
                  else
                    none
                else
                  none
              else
              bif !(r2.2 == r4.2) || (r2.2 == r4.2) then
                bif !(r2.2 == r4.2) || (r2.2 == r4.2) then
                  (bif (r2.2 == r4.2) then slices_Equal_TubeNode.fn N (r2.1, r4.1) else some (false)).bind fun r7 =>
                  bif (!(r2.2 == r4.2)) || (r2.2 == r4.2) then
                    some ((r2.2 == r4.2) && r7)
                  else
                    none
                else
                  none
              else
                none
            else
              none
          else
            none
        else
          none
      else
      bif !(r3 == 0) || (r3 == 0) then
        bif !(r3 == 0) || (r3 == 0) then
          bif (!(r3 == 0)) || (r3 == 0) then
            bif cond (r3 == 0) false false then
              bif !(r2.2 == 2) || (r2.2 == 2) then
                bif !(r2.2 == 2) || (r2.2 == 2) then
                  (bif (r2.2 == 2) then slices_Equal_TubeNode.fn N (r2.1, []) else some (false)).bind fun r8 =>
                  bif (!(r2.2 == 2)) || (r2.2 == 2) then
                    some ((r2.2 == 2) && r8)
                  else
                    none
                else
                  none
              else
                none
            else
            bif !(r3 == 0) then
              bif !(r2.2 == r3) || (r2.2 == r3) then
                bif !(r2.2 == r3) || (r2.2 == r3) then
                  (bif (r2.2 == r3) then slices_Equal_TubeNode.fn N (r2.1, []) else some (false)).bind fun r9 =>
                  bif (!(r2.2 == r3)) || (r2.2 == r3) then
                    some ((r2.2 == r3) && r9)
                  else
                    none
                else
                  none
              else
                none
            else
            bif !(r2.2 == r3) || (r2.2 == r3) then
              bif !(r2.2 == r3) || (r2.2 == r3) then
                (bif (r2.2 == r3) then slices_Equal_TubeNode.fn N (r2.1, []) else some (false)).bind fun r10 =>
                bif (!(r2.2 == r3)) || (r2.2 == r3) then
                  some ((r2.2 == r3) && r10)
                else
                  none
              else
                none
            else
              none
          else
            none
        else
          none
      else
        none := by kernel_rfl
theorem law_EffectTurns.clean (N : Nat) (x0 : List ((Int × (Int × Int) × Int) × Int × Int)) (x1 : ByteArray × Int × Int × ByteArray) (x2 : Int) (x3 : ByteArray × Int × Int × Int × Int × Int × Int) (x4 : Int × Int) : law_EffectTurns.fn N (x0, x1, x2, x3, x4) =
    (law_effectFact.fn N ()).bind fun r1 =>
    bif !r1 then
      some false
    else
    bif x1.2.1 == 0 then
      some true
    else
      (effect_Of.fn N (x0, x1, x2, x3, x4)).bind fun r2 =>
      (law_effectError.fn N (x0, x1, x2, x3, x4)).bind fun r3 =>
      bif r3 == 0 then
        (law_expected.fn N (x0, x1, x2, x3, x4)).bind fun r4 =>
        bif (r4.2 == 0) && (decide ((r4.1.length : Int) > 64)) then
          (bif (r2.2 == 2) then slices_Equal_TubeNode.fn N (r2.1, []) else some (false)).bind fun r5 =>
          some ((r2.2 == 2) && r5)
        else
        bif !(r4.2 == 0) then
          (bif (r2.2 == r4.2) then slices_Equal_TubeNode.fn N (r2.1, []) else some (false)).bind fun r6 =>
          some ((r2.2 == r4.2) && r6)
        else
        (bif (r2.2 == r4.2) then slices_Equal_TubeNode.fn N (r2.1, r4.1) else some (false)).bind fun r7 =>
        some ((r2.2 == r4.2) && r7)
      else
      bif cond (r3 == 0) false false then
        (bif (r2.2 == 2) then slices_Equal_TubeNode.fn N (r2.1, []) else some (false)).bind fun r8 =>
        some ((r2.2 == 2) && r8)
      else
      bif !(r3 == 0) then
        (bif (r2.2 == r3) then slices_Equal_TubeNode.fn N (r2.1, []) else some (false)).bind fun r9 =>
        some ((r2.2 == r3) && r9)
      else
      (bif (r2.2 == r3) then slices_Equal_TubeNode.fn N (r2.1, []) else some (false)).bind fun r10 =>
      some ((r2.2 == r3) && r10) := by
  rw [law_EffectTurns.eq]; simp only [taut21, taut23, cond_true]

end Go.Proofs.YtnbkofkgdbhbpaaDoor.Sk
