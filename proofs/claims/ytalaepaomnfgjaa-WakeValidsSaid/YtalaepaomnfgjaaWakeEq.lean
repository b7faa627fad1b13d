/- PRINTED by gen.py: what the functions answer. Not trusted: Lean checks it. -/
import Derived.Test.YtalaepaomnfgjaaSkTab
set_option linter.unusedVariables false
set_option linter.unusedSimpArgs false
set_option maxRecDepth 100000
namespace Go.Proofs.Ytalaepaomnfgjaa.Sk
open Go
def tyTab : TypeId → Option Ty := tyOf [(3, .int .i64), (9, .str), (64, .pair (.pair (.int .i64) (.int .i64)) (.int .i64)), (89, .pair (.int .i64) (.str))]
theorem mixed : Try.prog.follows .mixedOrders = true := by kernel_rfl
/-! ### F66: skyway/wake.Standard -/
def F66.kp : List (Nat × List (Nat × Option (TypeId × Ty))) := []
noncomputable def F66.G (N : Nat) : List (Nat × Spec) := []
noncomputable def F66.E (N : Nat) : Env := mkEnv (F66.G N) N tyTab F66.kp
noncomputable def F66.fn (N : Nat) (x : Unit) : Option (List Int) := evFn (F66.E N) Try.prog 3 Try.f66 false [] [.val (.agg (.vec 16 .i64))] x
noncomputable def F66.S (N : Nat) : PSpec := ⟨false, [], [.val (.agg (.vec 16 .i64))], F66.fn N⟩
theorem f66_enters : Enters Try.prog 66 := ⟨Try.f66, Try.func66, by kernel_rfl, by kernel_rfl⟩
theorem F66.tab (N : Nat) : TabOk Try.prog (F66.G N) := trivial
theorem F66.enters : Enters Try.prog 66 := f66_enters
theorem F66.sound (N : Nat) : Sound Try.prog 66 (F66.S N) := evFn_sound (specs_tab (F66.tab N)) (inls_tab (F66.tab N)) mixed 3 Try.func66 _ _ _
theorem F66.eq (N : Nat) : F66.fn N () =
    some [60, 60, 60, 60, 120, 60, 60, 60, 180, 120, 90, 60, 240, 180, 120, 120] := by kernel_rfl

/-! ### F27: skyway/wake.Check -/
def F27.kp : List (Nat × List (Nat × Option (TypeId × Ty))) := [(2, [(1, none), (10, none), (11, none)]), (5, [(1, none), (10, none), (11, none), (14, none), (15, none)]), (12, [(1, none), (26, none)]), (15, [(1, none), (7, none), (26, none), (29, none)]), (18, [(1, none), (7, none), (8, none), (26, none), (29, none), (32, none)])]
noncomputable def F27.G (N : Nat) : List (Nat × Spec) := []
noncomputable def F27.E (N : Nat) : Env := mkEnv (F27.G N) N tyTab F27.kp
noncomputable def F27.fn (N : Nat) (x : List Int) : Option Int := evFn (F27.E N) Try.prog 3 Try.f27 false [.agg (.vec 16 .i64)] [.val (.cell (.int .i64))] x
noncomputable def F27.S (N : Nat) : PSpec := ⟨false, [.agg (.vec 16 .i64)], [.val (.cell (.int .i64))], F27.fn N⟩
theorem f27_enters : Enters Try.prog 27 := ⟨Try.f27, Try.func27, by kernel_rfl, by kernel_rfl⟩
theorem F27.tab (N : Nat) : TabOk Try.prog (F27.G N) := trivial
theorem F27.enters : Enters Try.prog 27 := f27_enters
theorem F27.sound (N : Nat) : Sound Try.prog 27 (F27.S N) := evFn_sound (specs_tab (F27.tab N)) (inls_tab (F27.tab N)) mixed 3 Try.func27 _ _ _
noncomputable def F27.cd (N : Nat) (p : List Nat) : St → (Ex → St → Option Int) → Option Int := ev (F27.E N) Try.prog (callD (F27.E N) Try.prog 3) 0 (codeAt (bodyOf Try.f27) p)
noncomputable def F27.fin : Ex → St → Option Int := endK Try.prog Try.f27 [.val (.cell (.int .i64))]
noncomputable def F27.l0 (N : Nat) (x0 : List Int) (k1 : Nat) (a2 : Int) : Option Int :=
  loopN (norm ((F27.E N).keep 2) 0) (F27.cd N [1, 0, 1, 0, 0]) k1
  ⟨[.any, .ptr 0 0, .any, .any, .any, .any, .any, .any, .any, .any, .agg [.sc (.int .i64 (List.getD x0 0 0)), .sc (.int .i64 (List.getD x0 1 0)), .sc (.int .i64 (List.getD x0 2 0)), .sc (.int .i64 (List.getD x0 3 0)), .sc (.int .i64 (List.getD x0 4 0)), .sc (.int .i64 (List.getD x0 5 0)), .sc (.int .i64 (List.getD x0 6 0)), .sc (.int .i64 (List.getD x0 7 0)), .sc (.int .i64 (List.getD x0 8 0)), .sc (.int .i64 (List.getD x0 9 0)), .sc (.int .i64 (List.getD x0 10 0)), .sc (.int .i64 (List.getD x0 11 0)), .sc (.int .i64 (List.getD x0 12 0)), .sc (.int .i64 (List.getD x0 13 0)), .sc (.int .i64 (List.getD x0 14 0)), .sc (.int .i64 (List.getD x0 15 0))], .sc (.int .i64 a2), .any, .any, .any, .any, .any, .any, .any, .any, .any, .any, .any, .any, .any, .any, .any, .any, .any, .any, .any, .any, .any, .any, .any, .any, .any, .any, .any, .any, .any, .any, .any, .any, .any, .any, .any, .any, .any, .any, .any, .any, .any, .any, .any], [.cells [.sc (.int .i64 (List.getD x0 0 0)), .sc (.int .i64 (List.getD x0 1 0)), .sc (.int .i64 (List.getD x0 2 0)), .sc (.int .i64 (List.getD x0 3 0)), .sc (.int .i64 (List.getD x0 4 0)), .sc (.int .i64 (List.getD x0 5 0)), .sc (.int .i64 (List.getD x0 6 0)), .sc (.int .i64 (List.getD x0 7 0)), .sc (.int .i64 (List.getD x0 8 0)), .sc (.int .i64 (List.getD x0 9 0)), .sc (.int .i64 (List.getD x0 10 0)), .sc (.int .i64 (List.getD x0 11 0)), .sc (.int .i64 (List.getD x0 12 0)), .sc (.int .i64 (List.getD x0 13 0)), .sc (.int .i64 (List.getD x0 14 0)), .sc (.int .i64 (List.getD x0 15 0))] 44]⟩
  (blockK 0 (seqK (F27.cd N [1, 1]) F27.fin))
noncomputable def F27.l1 (N : Nat) (x0 : List Int) (k1 : Nat) (a2 : Int) (k3 : Nat) (a4 : Int) : Option Int :=
  loopN (norm ((F27.E N).keep 5) 0) (F27.cd N [1, 0, 1, 0, 0, 1, 1, 0, 0, 1, 1, 0, 0]) k3
  ⟨[.any, .ptr 0 0, .any, .any, .any, .any, .any, .any, .any, .any, .agg [.sc (.int .i64 (List.getD x0 0 0)), .sc (.int .i64 (List.getD x0 1 0)), .sc (.int .i64 (List.getD x0 2 0)), .sc (.int .i64 (List.getD x0 3 0)), .sc (.int .i64 (List.getD x0 4 0)), .sc (.int .i64 (List.getD x0 5 0)), .sc (.int .i64 (List.getD x0 6 0)), .sc (.int .i64 (List.getD x0 7 0)), .sc (.int .i64 (List.getD x0 8 0)), .sc (.int .i64 (List.getD x0 9 0)), .sc (.int .i64 (List.getD x0 10 0)), .sc (.int .i64 (List.getD x0 11 0)), .sc (.int .i64 (List.getD x0 12 0)), .sc (.int .i64 (List.getD x0 13 0)), .sc (.int .i64 (List.getD x0 14 0)), .sc (.int .i64 (List.getD x0 15 0))], .sc (.int .i64 a2), .any, .any, .agg [.sc (.int .i64 (List.getD (vl 16 x0) (((Int.toNat a2) * 4) + 0) 0)), .sc (.int .i64 (List.getD (vl 16 x0) (((Int.toNat a2) * 4) + 1) 0)), .sc (.int .i64 (List.getD (vl 16 x0) (((Int.toNat a2) * 4) + 2) 0)), .sc (.int .i64 (List.getD (vl 16 x0) (((Int.toNat a2) * 4) + 3) 0))], .sc (.int .i64 a4), .any, .any, .any, .any, .any, .any, .any, .any, .any, .any, .any, .any, .any, .any, .any, .any, .any, .any, .any, .any, .any, .any, .any, .any, .any, .any, .any, .any, .any, .any, .any, .any, .any, .any, .any, .any, .any, .any, .any], [.cells [.sc (.int .i64 (List.getD x0 0 0)), .sc (.int .i64 (List.getD x0 1 0)), .sc (.int .i64 (List.getD x0 2 0)), .sc (.int .i64 (List.getD x0 3 0)), .sc (.int .i64 (List.getD x0 4 0)), .sc (.int .i64 (List.getD x0 5 0)), .sc (.int .i64 (List.getD x0 6 0)), .sc (.int .i64 (List.getD x0 7 0)), .sc (.int .i64 (List.getD x0 8 0)), .sc (.int .i64 (List.getD x0 9 0)), .sc (.int .i64 (List.getD x0 10 0)), .sc (.int .i64 (List.getD x0 11 0)), .sc (.int .i64 (List.getD x0 12 0)), .sc (.int .i64 (List.getD x0 13 0)), .sc (.int .i64 (List.getD x0 14 0)), .sc (.int .i64 (List.getD x0 15 0))] 44]⟩
  (blockK 2 (blockK 1 (seqK (F27.cd N [1, 0, 1, 0, 0, 1, 1, 1]) (loopK (norm ((F27.E N).keep 2) 0) (F27.cd N [1, 0, 1, 0, 0]) k1 (blockK 0 (seqK (F27.cd N [1, 1]) F27.fin))))))
noncomputable def F27.l2 (N : Nat) (x0 : List Int) (k5 : Nat) (a6 : Int) : Option Int :=
  loopN (norm ((F27.E N).keep 12) 0) (F27.cd N [1, 1, 0, 1, 0, 0]) k5
  ⟨[.any, .ptr 0 0, .any, .any, .any, .any, .any, .any, .any, .any, .any, .any, .any, .any, .any, .any, .any, .any, .any, .any, .any, .any, .any, .any, .any, .any, .sc (.int .i64 a6), .any, .any, .any, .any, .any, .any, .any, .any, .any, .any, .any, .any, .any, .any, .any, .any, .any, .any, .any, .any, .any, .any, .any, .any, .any, .any, .any, .any], [.cells [.sc (.int .i64 (List.getD x0 0 0)), .sc (.int .i64 (List.getD x0 1 0)), .sc (.int .i64 (List.getD x0 2 0)), .sc (.int .i64 (List.getD x0 3 0)), .sc (.int .i64 (List.getD x0 4 0)), .sc (.int .i64 (List.getD x0 5 0)), .sc (.int .i64 (List.getD x0 6 0)), .sc (.int .i64 (List.getD x0 7 0)), .sc (.int .i64 (List.getD x0 8 0)), .sc (.int .i64 (List.getD x0 9 0)), .sc (.int .i64 (List.getD x0 10 0)), .sc (.int .i64 (List.getD x0 11 0)), .sc (.int .i64 (List.getD x0 12 0)), .sc (.int .i64 (List.getD x0 13 0)), .sc (.int .i64 (List.getD x0 14 0)), .sc (.int .i64 (List.getD x0 15 0))] 44]⟩
  (blockK 4 (seqK (F27.cd N [1, 1, 1]) F27.fin))
noncomputable def F27.l3 (N : Nat) (x0 : List Int) (k5 : Nat) (a6 : Int) (k7 : Nat) (a8 : Int) : Option Int :=
  loopN (norm ((F27.E N).keep 15) 0) (F27.cd N [1, 1, 0, 1, 0, 0, 1, 1, 0, 0, 1, 1, 0, 0]) k7
  ⟨[.any, .ptr 0 0, .any, .any, .any, .any, .any, .sc (.int .i64 a6), .any, .any, .any, .any, .any, .any, .any, .any, .any, .any, .any, .any, .any, .any, .any, .any, .any, .any, .sc (.int .i64 a6), .any, .any, .sc (.int .i64 a8), .any, .any, .any, .any, .any, .any, .any, .any, .any, .any, .any, .any, .any, .any, .any, .any, .any, .any, .any, .any, .any, .any, .any, .any, .any], [.cells [.sc (.int .i64 (List.getD x0 0 0)), .sc (.int .i64 (List.getD x0 1 0)), .sc (.int .i64 (List.getD x0 2 0)), .sc (.int .i64 (List.getD x0 3 0)), .sc (.int .i64 (List.getD x0 4 0)), .sc (.int .i64 (List.getD x0 5 0)), .sc (.int .i64 (List.getD x0 6 0)), .sc (.int .i64 (List.getD x0 7 0)), .sc (.int .i64 (List.getD x0 8 0)), .sc (.int .i64 (List.getD x0 9 0)), .sc (.int .i64 (List.getD x0 10 0)), .sc (.int .i64 (List.getD x0 11 0)), .sc (.int .i64 (List.getD x0 12 0)), .sc (.int .i64 (List.getD x0 13 0)), .sc (.int .i64 (List.getD x0 14 0)), .sc (.int .i64 (List.getD x0 15 0))] 44]⟩
  (blockK 6 (blockK 5 (seqK (F27.cd N [1, 1, 0, 1, 0, 0, 1, 1, 1]) (loopK (norm ((F27.E N).keep 12) 0) (F27.cd N [1, 1, 0, 1, 0, 0]) k5 (blockK 4 (seqK (F27.cd N [1, 1, 1]) F27.fin))))))
noncomputable def F27.l4 (N : Nat) (x0 : List Int) (k5 : Nat) (a6 : Int) (k7 : Nat) (a8 : Int) (k9 : Nat) (a10 : Int) : Option Int :=
  loopN (norm ((F27.E N).keep 18) 0) (F27.cd N [1, 1, 0, 1, 0, 0, 1, 1, 0, 0, 1, 1, 0, 0, 1, 1, 0, 0, 1, 1, 0, 0]) k9
  ⟨[.any, .ptr 0 0, .any, .any, .any, .any, .any, .sc (.int .i64 a6), .sc (.int .i64 a8), .any, .any, .any, .any, .any, .any, .any, .any, .any, .any, .any, .any, .any, .any, .any, .any, .any, .sc (.int .i64 a6), .any, .any, .sc (.int .i64 a8), .any, .any, .sc (.int .i64 a10), .any, .any, .any, .any, .any, .any, .any, .any, .any, .any, .any, .any, .any, .any, .any, .any, .any, .any, .any, .any, .any, .any], [.cells [.sc (.int .i64 (List.getD x0 0 0)), .sc (.int .i64 (List.getD x0 1 0)), .sc (.int .i64 (List.getD x0 2 0)), .sc (.int .i64 (List.getD x0 3 0)), .sc (.int .i64 (List.getD x0 4 0)), .sc (.int .i64 (List.getD x0 5 0)), .sc (.int .i64 (List.getD x0 6 0)), .sc (.int .i64 (List.getD x0 7 0)), .sc (.int .i64 (List.getD x0 8 0)), .sc (.int .i64 (List.getD x0 9 0)), .sc (.int .i64 (List.getD x0 10 0)), .sc (.int .i64 (List.getD x0 11 0)), .sc (.int .i64 (List.getD x0 12 0)), .sc (.int .i64 (List.getD x0 13 0)), .sc (.int .i64 (List.getD x0 14 0)), .sc (.int .i64 (List.getD x0 15 0))] 44]⟩
  (blockK 8 (blockK 7 (seqK (F27.cd N [1, 1, 0, 1, 0, 0, 1, 1, 0, 0, 1, 1, 0, 0, 1, 1, 1]) (loopK (norm ((F27.E N).keep 15) 0) (F27.cd N [1, 1, 0, 1, 0, 0, 1, 1, 0, 0, 1, 1, 0, 0]) k7 (blockK 6 (blockK 5 (seqK (F27.cd N [1, 1, 0, 1, 0, 0, 1, 1, 1]) (loopK (norm ((F27.E N).keep 12) 0) (F27.cd N [1, 1, 0, 1, 0, 0]) k5 (blockK 4 (seqK (F27.cd N [1, 1, 1]) F27.fin))))))))))
theorem F27.l4_zero (N : Nat) (x0 : List Int) (k5 : Nat) (a6 : Int) (k7 : Nat) (a8 : Int) (a10 : Int) : F27.l4 N x0 k5 a6 k7 a8 0 a10 = none := by kernel_rfl
theorem F27.l4_succ (N : Nat) (x0 : List Int) (k5 : Nat) (a6 : Int) (k7 : Nat) (a8 : Int) (k9 : Nat) (a10 : Int) : F27.l4 N x0 k5 a6 k7 a8 (k9 + 1) a10 =
    bif decide (a10 < 4) then
      bif (decide (0 ≤ a6)) && (decide (a6 < 4)) then
        bif (decide (0 ≤ a10)) && (decide (a10 < 4)) then
          bif decide (((0 + ((Int.toNat a6) * 4)) + ((Int.toNat a10) * 1)) < 16) then
            bif (decide (0 ≤ a6)) && (decide (a6 < 4)) then
              bif (decide (0 ≤ a8)) && (decide (a8 < 4)) then
                bif decide (((0 + ((Int.toNat a6) * 4)) + ((Int.toNat a8) * 1)) < 16) then
                  bif (decide (0 ≤ a8)) && (decide (a8 < 4)) then
                    bif (decide (0 ≤ a10)) && (decide (a10 < 4)) then
                      bif decide (((0 + ((Int.toNat a8) * 4)) + ((Int.toNat a10) * 1)) < 16) then
                        bif decide ((List.getD (vl 16 x0) ((0 + ((Int.toNat a6) * 4)) + ((Int.toNat a10) * 1)) 0) > (w ((List.getD (vl 16 x0) ((0 + ((Int.toNat a6) * 4)) + ((Int.toNat a8) * 1)) 0) + (List.getD (vl 16 x0) ((0 + ((Int.toNat a8) * 4)) + ((Int.toNat a10) * 1)) 0)))) then
                          some 3
                        else
                          F27.l4 N x0 k5 a6 k7 a8 k9 (w (a10 + 1))
                      else
                        none
                    else
                      none
                  else
                    none
                else
                  none
              else
                none
            else
              none
          else
            none
        else
          none
      else
        none
    else
      F27.l3 N x0 k5 a6 k7 (w (a8 + 1)) := by kernel_rfl
theorem F27.l3_zero (N : Nat) (x0 : List Int) (k5 : Nat) (a6 : Int) (a8 : Int) : F27.l3 N x0 k5 a6 0 a8 = none := by kernel_rfl
theorem F27.l3_succ (N : Nat) (x0 : List Int) (k5 : Nat) (a6 : Int) (k7 : Nat) (a8 : Int) : F27.l3 N x0 k5 a6 (k7 + 1) a8 =
    bif decide (a8 < 4) then
      F27.l4 N x0 k5 a6 k7 a8 N 0
    else
      F27.l2 N x0 k5 (w (a6 + 1)) := by kernel_rfl
theorem F27.l2_zero (N : Nat) (x0 : List Int) (a6 : Int) : F27.l2 N x0 0 a6 = none := by kernel_rfl
theorem F27.l2_succ (N : Nat) (x0 : List Int) (k5 : Nat) (a6 : Int) : F27.l2 N x0 (k5 + 1) a6 =
    bif decide (a6 < 4) then
      F27.l3 N x0 k5 a6 N 0
    else
      some 0 := by kernel_rfl
theorem F27.l1_zero (N : Nat) (x0 : List Int) (k1 : Nat) (a2 : Int) (a4 : Int) : F27.l1 N x0 k1 a2 0 a4 = none := by kernel_rfl
theorem F27.l1_succ (N : Nat) (x0 : List Int) (k1 : Nat) (a2 : Int) (k3 : Nat) (a4 : Int) : F27.l1 N x0 k1 a2 (k3 + 1) a4 =
    bif decide (a4 < 4) then
      bif (decide (0 ≤ a4)) && (decide (a4 < 4)) then
        bif decide (((Int.toNat a4) * 1) < 4) then
          bif !(!(decide ((List.getD [(List.getD (vl 16 x0) (((Int.toNat a2) * 4) + 0) 0), (List.getD (vl 16 x0) (((Int.toNat a2) * 4) + 1) 0), (List.getD (vl 16 x0) (((Int.toNat a2) * 4) + 2) 0), (List.getD (vl 16 x0) (((Int.toNat a2) * 4) + 3) 0)] ((Int.toNat a4) * 1) 0) < 30))) || (!(decide ((List.getD [(List.getD (vl 16 x0) (((Int.toNat a2) * 4) + 0) 0), (List.getD (vl 16 x0) (((Int.toNat a2) * 4) + 1) 0), (List.getD (vl 16 x0) (((Int.toNat a2) * 4) + 2) 0), (List.getD (vl 16 x0) (((Int.toNat a2) * 4) + 3) 0)] ((Int.toNat a4) * 1) 0) < 30))) then
            bif (decide ((List.getD [(List.getD (vl 16 x0) (((Int.toNat a2) * 4) + 0) 0), (List.getD (vl 16 x0) (((Int.toNat a2) * 4) + 1) 0), (List.getD (vl 16 x0) (((Int.toNat a2) * 4) + 2) 0), (List.getD (vl 16 x0) (((Int.toNat a2) * 4) + 3) 0)] ((Int.toNat a4) * 1) 0) < 30)) || (!(decide ((List.getD [(List.getD (vl 16 x0) (((Int.toNat a2) * 4) + 0) 0), (List.getD (vl 16 x0) (((Int.toNat a2) * 4) + 1) 0), (List.getD (vl 16 x0) (((Int.toNat a2) * 4) + 2) 0), (List.getD (vl 16 x0) (((Int.toNat a2) * 4) + 3) 0)] ((Int.toNat a4) * 1) 0) < 30))) then
              bif (decide ((List.getD [(List.getD (vl 16 x0) (((Int.toNat a2) * 4) + 0) 0), (List.getD (vl 16 x0) (((Int.toNat a2) * 4) + 1) 0), (List.getD (vl 16 x0) (((Int.toNat a2) * 4) + 2) 0), (List.getD (vl 16 x0) (((Int.toNat a2) * 4) + 3) 0)] ((Int.toNat a4) * 1) 0) < 30)) || (decide ((List.getD [(List.getD (vl 16 x0) (((Int.toNat a2) * 4) + 0) 0), (List.getD (vl 16 x0) (((Int.toNat a2) * 4) + 1) 0), (List.getD (vl 16 x0) (((Int.toNat a2) * 4) + 2) 0), (List.getD (vl 16 x0) (((Int.toNat a2) * 4) + 3) 0)] ((Int.toNat a4) * 1) 0) > 600)) then
                some 4
              else
                F27.l1 N x0 k1 a2 k3 (w (a4 + 1))
            else
              none
          else
            none
        else
          none
      else
        none
    else
      F27.l0 N x0 k1 (w (a2 + 1)) := by kernel_rfl
theorem F27.l0_zero (N : Nat) (x0 : List Int) (a2 : Int) : F27.l0 N x0 0 a2 = none := by kernel_rfl
theorem F27.l0_succ (N : Nat) (x0 : List Int) (k1 : Nat) (a2 : Int) : F27.l0 N x0 (k1 + 1) a2 =
    bif decide (a2 < 4) then
      bif (decide (0 ≤ a2)) && (decide (a2 < 4)) then
        bif decide (((Int.toNat a2) * 4) + 4 ≤ 16) then
          F27.l1 N x0 k1 a2 N 0
        else
          none
      else
        none
    else
      F27.l2 N x0 N 0 := by kernel_rfl
theorem taut1 : ∀ p0 : Bool, ((!(!(p0)) || (!(p0)))) = true := by decide
theorem taut2 : ∀ p0 : Bool, (((p0) || (!(p0)))) = true := by decide
theorem F27.l1_clean (N : Nat) (x0 : List Int) (k1 : Nat) (a2 : Int) (k3 : Nat) (a4 : Int) : F27.l1 N x0 k1 a2 (k3 + 1) a4 =
    bif decide (a4 < 4) then
      bif (decide (0 ≤ a4)) && (decide (a4 < 4)) then
        bif decide (((Int.toNat a4) * 1) < 4) then
          bif (decide ((List.getD [(List.getD (vl 16 x0) (((Int.toNat a2) * 4) + 0) 0), (List.getD (vl 16 x0) (((Int.toNat a2) * 4) + 1) 0), (List.getD (vl 16 x0) (((Int.toNat a2) * 4) + 2) 0), (List.getD (vl 16 x0) (((Int.toNat a2) * 4) + 3) 0)] ((Int.toNat a4) * 1) 0) < 30)) || (decide ((List.getD [(List.getD (vl 16 x0) (((Int.toNat a2) * 4) + 0) 0), (List.getD (vl 16 x0) (((Int.toNat a2) * 4) + 1) 0), (List.getD (vl 16 x0) (((Int.toNat a2) * 4) + 2) 0), (List.getD (vl 16 x0) (((Int.toNat a2) * 4) + 3) 0)] ((Int.toNat a4) * 1) 0) > 600)) then
            some 4
          else
            F27.l1 N x0 k1 a2 k3 (w (a4 + 1))
        else
          none
      else
        none
    else
      F27.l0 N x0 k1 (w (a2 + 1)) := by
  rw [F27.l1_succ]; simp only [taut1, taut2, cond_true]
theorem F27.eq (N : Nat) (x0 : List Int) : F27.fn N x0 =
    F27.l0 N x0 N 0 := by kernel_rfl

/-! ### F30: skyway/wake.Class -/
def F30.kp : List (Nat × List (Nat × Option (TypeId × Ty))) := []
noncomputable def F30.G (N : Nat) : List (Nat × Spec) := []
noncomputable def F30.E (N : Nat) : Env := mkEnv (F30.G N) N tyTab F30.kp
noncomputable def F30.fn (N : Nat) (x : Int) : Option Int := evFn (F30.E N) Try.prog 3 Try.f30 false [.cell (.int .i64)] [.val (.cell (.int .i64))] x
noncomputable def F30.S (N : Nat) : PSpec := ⟨false, [.cell (.int .i64)], [.val (.cell (.int .i64))], F30.fn N⟩
theorem f30_enters : Enters Try.prog 30 := ⟨Try.f30, Try.func30, by kernel_rfl, by kernel_rfl⟩
theorem F30.tab (N : Nat) : TabOk Try.prog (F30.G N) := trivial
theorem F30.enters : Enters Try.prog 30 := f30_enters
theorem F30.sound (N : Nat) : Sound Try.prog 30 (F30.S N) := evFn_sound (specs_tab (F30.tab N)) (inls_tab (F30.tab N)) mixed 3 Try.func30 _ _ _
theorem F30.eq (N : Nat) (x0 : Int) : F30.fn N x0 =
    bif !(!(decide (x0 < 0))) || (!(decide (x0 < 0))) then
      bif (decide (x0 < 0)) || (!(decide (x0 < 0))) then
        bif (decide (x0 < 0)) || (decide (x0 > 3)) then
          some 1
        else
          some 0
      else
        none
    else
      none := by kernel_rfl
theorem F30.clean (N : Nat) (x0 : Int) : F30.fn N x0 =
    bif (decide (x0 < 0)) || (decide (x0 > 3)) then
      some 1
    else
      some 0 := by
  rw [F30.eq]; simp only [taut1, taut2, cond_true]

/-! ### F29: skyway/wake.Gap -/
def F29.kp : List (Nat × List (Nat × Option (TypeId × Ty))) := []
noncomputable def F29.G (N : Nat) : List (Nat × Spec) := [(27, .pure (F27.S N)), (30, .pure (F30.S N))]
noncomputable def F29.E (N : Nat) : Env := mkEnv (F29.G N) N tyTab F29.kp
noncomputable def F29.fn (N : Nat) (x : List Int × Int × Int) : Option (Int × Int) := evFn (F29.E N) Try.prog 3 Try.f29 false [.agg (.vec 16 .i64), .cell (.int .i64), .cell (.int .i64)] [.val (.cell (.int .i64)), .val (.cell (.int .i64))] x
noncomputable def F29.S (N : Nat) : PSpec := ⟨false, [.agg (.vec 16 .i64), .cell (.int .i64), .cell (.int .i64)], [.val (.cell (.int .i64)), .val (.cell (.int .i64))], F29.fn N⟩
theorem f29_enters : Enters Try.prog 29 := ⟨Try.f29, Try.func29, by kernel_rfl, by kernel_rfl⟩
theorem F29.tab (N : Nat) : TabOk Try.prog (F29.G N) := ⟨⟨F27.enters, F27.sound N⟩, ⟨F30.enters, F30.sound N⟩, trivial⟩
theorem F29.enters : Enters Try.prog 29 := f29_enters
theorem F29.sound (N : Nat) : Sound Try.prog 29 (F29.S N) := evFn_sound (specs_tab (F29.tab N)) (inls_tab (F29.tab N)) mixed 3 Try.func29 _ _ _
theorem F29.eq (N : Nat) (x0 : List Int) (x1 : Int) (x2 : Int) : F29.fn N (x0, x1, x2) =
    (F27.fn N (vl 16 x0)).bind fun r1 =>
    bif !(r1 == 0) then
      some (0, r1)
    else
      (F30.fn N x1).bind fun r2 =>
      bif !(r2 == 0) then
        some (0, r2)
      else
        (F30.fn N x2).bind fun r3 =>
        bif !(r3 == 0) then
          some (0, r3)
        else
        bif (decide (0 ≤ x1)) && (decide (x1 < 4)) then
          bif (decide (0 ≤ x2)) && (decide (x2 < 4)) then
            bif decide (((0 + ((Int.toNat x1) * 4)) + ((Int.toNat x2) * 1)) < 16) then
              some ((List.getD (vl 16 x0) ((0 + ((Int.toNat x1) * 4)) + ((Int.toNat x2) * 1)) 0), 0)
            else
              none
          else
            none
        else
          none := by kernel_rfl

/-! ### F25: skyway/wake.Least -/
def F25.kp : List (Nat × List (Nat × Option (TypeId × Ty))) := [(8, [(1, none), (2, none), (7, none), (19, none), (20, none), (21, none)])]
noncomputable def F25.G (N : Nat) : List (Nat × Spec) := [(27, .pure (F27.S N)), (30, .pure (F30.S N))]
noncomputable def F25.E (N : Nat) : Env := mkEnv (F25.G N) N tyTab F25.kp
noncomputable def F25.fn (N : Nat) (x : List Int × List Int) : Option (Int × Int) := evFn (F25.E N) Try.prog 3 Try.f25 false [.agg (.vec 16 .i64), .cell (.sl 3 (.int .i64))] [.val (.cell (.int .i64)), .val (.cell (.int .i64))] x
noncomputable def F25.S (N : Nat) : PSpec := ⟨false, [.agg (.vec 16 .i64), .cell (.sl 3 (.int .i64))], [.val (.cell (.int .i64)), .val (.cell (.int .i64))], F25.fn N⟩
theorem f25_enters : Enters Try.prog 25 := ⟨Try.f25, Try.func25, by kernel_rfl, by kernel_rfl⟩
theorem F25.tab (N : Nat) : TabOk Try.prog (F25.G N) := ⟨⟨F27.enters, F27.sound N⟩, ⟨F30.enters, F30.sound N⟩, trivial⟩
theorem F25.enters : Enters Try.prog 25 := f25_enters
theorem F25.sound (N : Nat) : Sound Try.prog 25 (F25.S N) := evFn_sound (specs_tab (F25.tab N)) (inls_tab (F25.tab N)) mixed 3 Try.func25 _ _ _
noncomputable def F25.cd (N : Nat) (p : List Nat) : St → (Ex → St → Option (Int × Int)) → Option (Int × Int) := ev (F25.E N) Try.prog (callD (F25.E N) Try.prog 3) 0 (codeAt (bodyOf Try.f25) p)
noncomputable def F25.fin : Ex → St → Option (Int × Int) := endK Try.prog Try.f25 [.val (.cell (.int .i64)), .val (.cell (.int .i64))]
noncomputable def F25.l0 (N : Nat) (x0 : List Int) (x1 : List Int) (k2 : Nat) (a3 : Int) (a4 : Int) : Option (Int × Int) :=
  loopN (norm ((F25.E N).keep 8) 0) (F25.cd N [1, 1, 1, 1, 0, 1, 0, 0]) k2
  ⟨[.any, .ros false 3 (.int .i64) x1, .ptr 0 0, .any, .any, .any, .any, .sc (.int .i64 a3), .any, .any, .any, .any, .any, .any, .any, .any, .any, .any, .any, .ros false 3 (.int .i64) x1, .sc (.int .i64 (x1.length : Int)), .sc (.int .i64 a4), .any, .any, .any, .any, .any, .any, .any, .any, .any, .any, .any, .any, .any, .any, .any, .any, .any, .any, .any, .any, .any, .any, .any, .any], [.cells [.sc (.int .i64 (List.getD x0 0 0)), .sc (.int .i64 (List.getD x0 1 0)), .sc (.int .i64 (List.getD x0 2 0)), .sc (.int .i64 (List.getD x0 3 0)), .sc (.int .i64 (List.getD x0 4 0)), .sc (.int .i64 (List.getD x0 5 0)), .sc (.int .i64 (List.getD x0 6 0)), .sc (.int .i64 (List.getD x0 7 0)), .sc (.int .i64 (List.getD x0 8 0)), .sc (.int .i64 (List.getD x0 9 0)), .sc (.int .i64 (List.getD x0 10 0)), .sc (.int .i64 (List.getD x0 11 0)), .sc (.int .i64 (List.getD x0 12 0)), .sc (.int .i64 (List.getD x0 13 0)), .sc (.int .i64 (List.getD x0 14 0)), .sc (.int .i64 (List.getD x0 15 0))] 44]⟩
  (blockK 0 (seqK (F25.cd N [1, 1, 1, 1, 1]) F25.fin))
theorem F25.l0_zero (N : Nat) (x0 : List Int) (x1 : List Int) (a3 : Int) (a4 : Int) : F25.l0 N x0 x1 0 a3 a4 = none := by kernel_rfl
theorem F25.l0_succ (N : Nat) (x0 : List Int) (x1 : List Int) (k2 : Nat) (a3 : Int) (a4 : Int) : F25.l0 N x0 x1 (k2 + 1) a3 a4 =
    bif decide (a4 < (x1.length : Int)) then
      bif (decide (0 ≤ a4)) && (decide (a4 < (x1.length : Int))) then
        (F30.fn N (List.getD x1 (Int.toNat a4) 0)).bind fun r5 =>
        bif !(r5 == 0) then
          some (0, r5)
        else
        bif decide (a4 > 0) then
          bif (decide (0 ≤ (w (a4 - 1)))) && (decide ((w (a4 - 1)) < (x1.length : Int))) then
            bif (decide (0 ≤ (List.getD x1 (Int.toNat (w (a4 - 1))) 0))) && (decide ((List.getD x1 (Int.toNat (w (a4 - 1))) 0) < 4)) then
              bif (decide (0 ≤ (List.getD x1 (Int.toNat a4) 0))) && (decide ((List.getD x1 (Int.toNat a4) 0) < 4)) then
                bif decide (((0 + ((Int.toNat (List.getD x1 (Int.toNat (w (a4 - 1))) 0)) * 4)) + ((Int.toNat (List.getD x1 (Int.toNat a4) 0)) * 1)) < 16) then
                  F25.l0 N x0 x1 k2 (w (a3 + (List.getD (vl 16 x0) ((0 + ((Int.toNat (List.getD x1 (Int.toNat (w (a4 - 1))) 0)) * 4)) + ((Int.toNat (List.getD x1 (Int.toNat a4) 0)) * 1)) 0))) (w (a4 + 1))
                else
                  none
              else
                none
            else
              none
          else
            none
        else
          F25.l0 N x0 x1 k2 a3 (w (a4 + 1))
      else
        none
    else
      some (a3, 0) := by kernel_rfl
theorem F25.eq (N : Nat) (x0 : List Int) (x1 : List Int) : F25.fn N (x0, x1) =
    (F27.fn N (vl 16 x0)).bind fun r1 =>
    bif !(r1 == 0) then
      some (0, r1)
    else
    bif decide ((x1.length : Int) > 256) then
      some (0, 2)
    else
      F25.l0 N x0 x1 N 0 0 := by kernel_rfl

/-! ### F31: skyway/wake.Valid -/
def F31.kp : List (Nat × List (Nat × Option (TypeId × Ty))) := [(9, [(1, none), (2, none), (3, none), (31, none), (32, none), (33, none)]), (18, [(1, none), (2, none), (3, none), (12, none)])]
noncomputable def F31.G (N : Nat) : List (Nat × Spec) := [(27, .pure (F27.S N)), (30, .pure (F30.S N))]
noncomputable def F31.E (N : Nat) : Env := mkEnv (F31.G N) N tyTab F31.kp
noncomputable def F31.fn (N : Nat) (x : List Int × List Int × List Int) : Option (Bool × Int) := evFn (F31.E N) Try.prog 3 Try.f31 false [.agg (.vec 16 .i64), .cell (.sl 3 (.int .i64)), .cell (.sl 3 (.int .i64))] [.val (.cell (.bool)), .val (.cell (.int .i64))] x
noncomputable def F31.S (N : Nat) : PSpec := ⟨false, [.agg (.vec 16 .i64), .cell (.sl 3 (.int .i64)), .cell (.sl 3 (.int .i64))], [.val (.cell (.bool)), .val (.cell (.int .i64))], F31.fn N⟩
theorem f31_enters : Enters Try.prog 31 := ⟨Try.f31, Try.func31, by kernel_rfl, by kernel_rfl⟩
theorem F31.tab (N : Nat) : TabOk Try.prog (F31.G N) := ⟨⟨F27.enters, F27.sound N⟩, ⟨F30.enters, F30.sound N⟩, trivial⟩
theorem F31.enters : Enters Try.prog 31 := f31_enters
theorem F31.sound (N : Nat) : Sound Try.prog 31 (F31.S N) := evFn_sound (specs_tab (F31.tab N)) (inls_tab (F31.tab N)) mixed 3 Try.func31 _ _ _
noncomputable def F31.cd (N : Nat) (p : List Nat) : St → (Ex → St → Option (Bool × Int)) → Option (Bool × Int) := ev (F31.E N) Try.prog (callD (F31.E N) Try.prog 3) 0 (codeAt (bodyOf Try.f31) p)
noncomputable def F31.fin : Ex → St → Option (Bool × Int) := endK Try.prog Try.f31 [.val (.cell (.bool)), .val (.cell (.int .i64))]
noncomputable def F31.l0 (N : Nat) (x0 : List Int) (x1 : List Int) (x2 : List Int) (k2 : Nat) (a3 : Int) : Option (Bool × Int) :=
  loopN (norm ((F31.E N).keep 9) 0) (F31.cd N [1, 1, 1, 1, 0, 1, 0, 0]) k2
  ⟨[.any, .ros false 3 (.int .i64) x1, .ros false 3 (.int .i64) x2, .ptr 0 0, .any, .any, .any, .any, .any, .any, .any, .any, .any, .any, .any, .any, .any, .any, .any, .any, .any, .any, .any, .any, .any, .any, .any, .any, .any, .any, .any, .ros false 3 (.int .i64) x1, .sc (.int .i64 (x1.length : Int)), .sc (.int .i64 a3), .any, .any, .any, .any, .any, .any, .any, .any, .any, .any, .any, .any, .any, .any, .any, .any, .any, .any, .any, .any, .any, .any, .any, .any, .any, .any, .any, .any, .any, .any, .any, .any, .any, .any, .any, .any, .any, .any, .any, .any, .any, .any, .any, .any, .any, .any, .any, .any, .any, .any, .any], [.cells [.sc (.int .i64 (List.getD x0 0 0)), .sc (.int .i64 (List.getD x0 1 0)), .sc (.int .i64 (List.getD x0 2 0)), .sc (.int .i64 (List.getD x0 3 0)), .sc (.int .i64 (List.getD x0 4 0)), .sc (.int .i64 (List.getD x0 5 0)), .sc (.int .i64 (List.getD x0 6 0)), .sc (.int .i64 (List.getD x0 7 0)), .sc (.int .i64 (List.getD x0 8 0)), .sc (.int .i64 (List.getD x0 9 0)), .sc (.int .i64 (List.getD x0 10 0)), .sc (.int .i64 (List.getD x0 11 0)), .sc (.int .i64 (List.getD x0 12 0)), .sc (.int .i64 (List.getD x0 13 0)), .sc (.int .i64 (List.getD x0 14 0)), .sc (.int .i64 (List.getD x0 15 0))] 44]⟩
  (blockK 0 (seqK (F31.cd N [1, 1, 1, 1, 1]) F31.fin))
noncomputable def F31.l1 (N : Nat) (x0 : List Int) (x1 : List Int) (x2 : List Int) (k5 : Nat) (a6 : Int) : Option (Bool × Int) :=
  loopN (norm ((F31.E N).keep 18) 0) (F31.cd N [1, 1, 1, 1, 1, 0, 1, 0, 0]) k5
  ⟨[.any, .ros false 3 (.int .i64) x1, .ros false 3 (.int .i64) x2, .ptr 0 0, .any, .any, .any, .any, .any, .any, .any, .any, .sc (.int .i64 a6), .any, .any, .any, .any, .any, .any, .any, .any, .any, .any, .any, .any, .any, .any, .any, .any, .any, .any, .any, .any, .any, .any, .any, .any, .any, .any, .any, .any, .any, .any, .any, .any, .any, .any, .any, .any, .any, .any, .any, .any, .any, .any, .any, .any, .any, .any, .any, .any, .any, .any, .any, .any, .any, .any, .any, .any, .any, .any, .any, .any, .any, .any, .any, .any, .any, .any, .any, .any, .any, .any, .any, .any], [.cells [.sc (.int .i64 (List.getD x0 0 0)), .sc (.int .i64 (List.getD x0 1 0)), .sc (.int .i64 (List.getD x0 2 0)), .sc (.int .i64 (List.getD x0 3 0)), .sc (.int .i64 (List.getD x0 4 0)), .sc (.int .i64 (List.getD x0 5 0)), .sc (.int .i64 (List.getD x0 6 0)), .sc (.int .i64 (List.getD x0 7 0)), .sc (.int .i64 (List.getD x0 8 0)), .sc (.int .i64 (List.getD x0 9 0)), .sc (.int .i64 (List.getD x0 10 0)), .sc (.int .i64 (List.getD x0 11 0)), .sc (.int .i64 (List.getD x0 12 0)), .sc (.int .i64 (List.getD x0 13 0)), .sc (.int .i64 (List.getD x0 14 0)), .sc (.int .i64 (List.getD x0 15 0))] 44]⟩
  (blockK 2 (seqK (F31.cd N [1, 1, 1, 1, 1, 1]) F31.fin))
theorem F31.l1_zero (N : Nat) (x0 : List Int) (x1 : List Int) (x2 : List Int) (a6 : Int) : F31.l1 N x0 x1 x2 0 a6 = none := by kernel_rfl
theorem F31.l1_succ (N : Nat) (x0 : List Int) (x1 : List Int) (x2 : List Int) (k5 : Nat) (a6 : Int) : F31.l1 N x0 x1 x2 (k5 + 1) a6 =
    bif decide (a6 < (x2.length : Int)) then
      bif (decide (0 ≤ a6)) && (decide (a6 < (x2.length : Int))) then
        bif (decide (0 ≤ (w (a6 - 1)))) && (decide ((w (a6 - 1)) < (x2.length : Int))) then
          bif (decide (0 ≤ (w (a6 - 1)))) && (decide ((w (a6 - 1)) < (x1.length : Int))) then
            bif (decide (0 ≤ a6)) && (decide (a6 < (x1.length : Int))) then
              bif (decide (0 ≤ (List.getD x1 (Int.toNat (w (a6 - 1))) 0))) && (decide ((List.getD x1 (Int.toNat (w (a6 - 1))) 0) < 4)) then
                bif (decide (0 ≤ (List.getD x1 (Int.toNat a6) 0))) && (decide ((List.getD x1 (Int.toNat a6) 0) < 4)) then
                  bif decide (((0 + ((Int.toNat (List.getD x1 (Int.toNat (w (a6 - 1))) 0)) * 4)) + ((Int.toNat (List.getD x1 (Int.toNat a6) 0)) * 1)) < 16) then
                    bif decide ((w ((List.getD x2 (Int.toNat a6) 0) - (List.getD x2 (Int.toNat (w (a6 - 1))) 0))) < (List.getD (vl 16 x0) ((0 + ((Int.toNat (List.getD x1 (Int.toNat (w (a6 - 1))) 0)) * 4)) + ((Int.toNat (List.getD x1 (Int.toNat a6) 0)) * 1)) 0)) then
                      some (false, 0)
                    else
                      F31.l1 N x0 x1 x2 k5 (w (a6 + 1))
                  else
                    none
                else
                  none
              else
                none
            else
              none
          else
            none
        else
          none
      else
        none
    else
      some (true, 0) := by kernel_rfl
theorem F31.l0_zero (N : Nat) (x0 : List Int) (x1 : List Int) (x2 : List Int) (a3 : Int) : F31.l0 N x0 x1 x2 0 a3 = none := by kernel_rfl
theorem F31.l0_succ (N : Nat) (x0 : List Int) (x1 : List Int) (x2 : List Int) (k2 : Nat) (a3 : Int) : F31.l0 N x0 x1 x2 (k2 + 1) a3 =
    bif decide (a3 < (x1.length : Int)) then
      bif (decide (0 ≤ a3)) && (decide (a3 < (x1.length : Int))) then
        (F30.fn N (List.getD x1 (Int.toNat a3) 0)).bind fun r4 =>
        bif !(r4 == 0) then
          some (false, r4)
        else
        bif (decide (0 ≤ a3)) && (decide (a3 < (x2.length : Int))) then
          bif !(!(decide ((List.getD x2 (Int.toNat a3) 0) < 0))) || (!(decide ((List.getD x2 (Int.toNat a3) 0) < 0))) then
            bif !(!(decide ((List.getD x2 (Int.toNat a3) 0) < 0))) || (!(decide ((List.getD x2 (Int.toNat a3) 0) < 0))) then
              bif ((decide (0 ≤ a3)) && (decide (a3 < (x2.length : Int)))) || !(!(decide ((List.getD x2 (Int.toNat a3) 0) < 0))) then
                bif !(!(decide ((List.getD x2 (Int.toNat a3) 0) < 0))) || (!(decide ((List.getD x2 (Int.toNat a3) 0) < 0))) then
                  bif !(!(decide ((List.getD x2 (Int.toNat a3) 0) < 0))) || (!(decide ((List.getD x2 (Int.toNat a3) 0) < 0))) then
                    bif (decide ((List.getD x2 (Int.toNat a3) 0) < 0)) || (!(decide ((List.getD x2 (Int.toNat a3) 0) < 0))) then
                      bif (decide ((List.getD x2 (Int.toNat a3) 0) < 0)) || (decide ((List.getD x2 (Int.toNat a3) 0) > 200000)) then
                        some (false, 12)
                      else
                        F31.l0 N x0 x1 x2 k2 (w (a3 + 1))
                    else
                      none
                  else
                    none
                else
                  none
              else
                none
            else
              none
          else
            none
        else
          none
      else
        none
    else
      F31.l1 N x0 x1 x2 N 1 := by kernel_rfl
theorem F31.l0_clean (N : Nat) (x0 : List Int) (x1 : List Int) (x2 : List Int) (k2 : Nat) (a3 : Int) : F31.l0 N x0 x1 x2 (k2 + 1) a3 =
    bif decide (a3 < (x1.length : Int)) then
      bif (decide (0 ≤ a3)) && (decide (a3 < (x1.length : Int))) then
        (F30.fn N (List.getD x1 (Int.toNat a3) 0)).bind fun r4 =>
        bif !(r4 == 0) then
          some (false, r4)
        else
        bif (decide (0 ≤ a3)) && (decide (a3 < (x2.length : Int))) then
          bif ((decide (0 ≤ a3)) && (decide (a3 < (x2.length : Int)))) || !(!(decide ((List.getD x2 (Int.toNat a3) 0) < 0))) then
            bif (decide ((List.getD x2 (Int.toNat a3) 0) < 0)) || (decide ((List.getD x2 (Int.toNat a3) 0) > 200000)) then
              some (false, 12)
            else
              F31.l0 N x0 x1 x2 k2 (w (a3 + 1))
          else
            none
        else
          none
      else
        none
    else
      F31.l1 N x0 x1 x2 N 1 := by
  rw [F31.l0_succ]; simp only [taut1, taut2, cond_true]
theorem F31.eq (N : Nat) (x0 : List Int) (x1 : List Int) (x2 : List Int) : F31.fn N (x0, x1, x2) =
    (F27.fn N (vl 16 x0)).bind fun r1 =>
    bif !(r1 == 0) then
      some (false, r1)
    else
    bif !(!(decide ((x1.length : Int) > 256))) || (!(decide ((x1.length : Int) > 256))) then
      bif !(!(decide ((x1.length : Int) > 256))) || (!(decide ((x1.length : Int) > 256))) then
        bif (decide ((x1.length : Int) > 256)) || (!(decide ((x1.length : Int) > 256))) then
          bif (decide ((x1.length : Int) > 256)) || (decide ((x2.length : Int) > 256)) then
            some (false, 2)
          else
          bif !((x1.length : Int) == (x2.length : Int)) then
            some (false, 3)
          else
            F31.l0 N x0 x1 x2 N 0
        else
          none
      else
        none
    else
      none := by kernel_rfl
theorem F31.clean (N : Nat) (x0 : List Int) (x1 : List Int) (x2 : List Int) : F31.fn N (x0, x1, x2) =
    (F27.fn N (vl 16 x0)).bind fun r1 =>
    bif !(r1 == 0) then
      some (false, r1)
    else
    bif (decide ((x1.length : Int) > 256)) || (decide ((x2.length : Int) > 256)) then
      some (false, 2)
    else
    bif !((x1.length : Int) == (x2.length : Int)) then
      some (false, 3)
    else
      F31.l0 N x0 x1 x2 N 0 := by
  rw [F31.eq]; simp only [taut1, taut2, cond_true]

/-! ### F24: skyway/skywaylaw3.wakeFact -/
def F24.kp : List (Nat × List (Nat × Option (TypeId × Ty))) := []
noncomputable def F24.G (N : Nat) : List (Nat × Spec) := [(25, .pure (F25.S N)), (27, .pure (F27.S N)), (29, .pure (F29.S N)), (30, .pure (F30.S N)), (31, .pure (F31.S N)), (66, .pure (F66.S N))]
noncomputable def F24.E (N : Nat) : Env := mkEnv (F24.G N) N tyTab F24.kp
noncomputable def F24.fn (N : Nat) (x : Unit) : Option Bool := evFn (F24.E N) Try.prog 3 Try.f24 false [] [.val (.cell (.bool))] x
noncomputable def F24.S (N : Nat) : PSpec := ⟨false, [], [.val (.cell (.bool))], F24.fn N⟩
theorem f24_enters : Enters Try.prog 24 := ⟨Try.f24, Try.func24, by kernel_rfl, by kernel_rfl⟩
theorem F24.tab (N : Nat) : TabOk Try.prog (F24.G N) := ⟨⟨F25.enters, F25.sound N⟩, ⟨F27.enters, F27.sound N⟩, ⟨F29.enters, F29.sound N⟩, ⟨F30.enters, F30.sound N⟩, ⟨F31.enters, F31.sound N⟩, ⟨F66.enters, F66.sound N⟩, trivial⟩
theorem F24.enters : Enters Try.prog 24 := f24_enters
theorem F24.sound (N : Nat) : Sound Try.prog 24 (F24.S N) := evFn_sound (specs_tab (F24.tab N)) (inls_tab (F24.tab N)) mixed 3 Try.func24 _ _ _
theorem F24.eq (N : Nat) : F24.fn N () =
    (F66.fn N ()).bind fun r1 =>
    (F29.fn N ((vl 16 r1), 2, 0)).bind fun r2 =>
    (F25.fn N ((vl 16 r1), [2, 0, 0])).bind fun r3 =>
    (F31.fn N ((vl 16 r1), [2, 0], [5, 185])).bind fun r4 =>
    (F31.fn N ((vl 16 r1), [2, 0], [5, 184])).bind fun r5 =>
    bif !(r2.2 == 0) || (r2.2 == 0) then
      bif (!(r2.2 == 0)) || (r2.2 == 0) then
        bif !((r2.2 == 0) && (r3.2 == 0)) || ((r2.2 == 0) && (r3.2 == 0)) then
          bif (!((r2.2 == 0) && (r3.2 == 0))) || ((r2.2 == 0) && (r3.2 == 0)) then
            bif !(((r2.2 == 0) && (r3.2 == 0)) && (r4.2 == 0)) || (((r2.2 == 0) && (r3.2 == 0)) && (r4.2 == 0)) then
              bif (!(((r2.2 == 0) && (r3.2 == 0)) && (r4.2 == 0))) || (((r2.2 == 0) && (r3.2 == 0)) && (r4.2 == 0)) then
                bif !((((r2.2 == 0) && (r3.2 == 0)) && (r4.2 == 0)) && (r5.2 == 0)) || ((((r2.2 == 0) && (r3.2 == 0)) && (r4.2 == 0)) && (r5.2 == 0)) then
                  bif (!((((r2.2 == 0) && (r3.2 == 0)) && (r4.2 == 0)) && (r5.2 == 0))) || ((((r2.2 == 0) && (r3.2 == 0)) && (r4.2 == 0)) && (r5.2 == 0)) then
                    bif !(((((r2.2 == 0) && (r3.2 == 0)) && (r4.2 == 0)) && (r5.2 == 0)) && (r2.1 == 180)) || (((((r2.2 == 0) && (r3.2 == 0)) && (r4.2 == 0)) && (r5.2 == 0)) && (r2.1 == 180)) then
                      bif (!(((((r2.2 == 0) && (r3.2 == 0)) && (r4.2 == 0)) && (r5.2 == 0)) && (r2.1 == 180))) || (((((r2.2 == 0) && (r3.2 == 0)) && (r4.2 == 0)) && (r5.2 == 0)) && (r2.1 == 180)) then
                        bif (!((((((r2.2 == 0) && (r3.2 == 0)) && (r4.2 == 0)) && (r5.2 == 0)) && (r2.1 == 180)) && (r3.1 == 240))) || ((((((r2.2 == 0) && (r3.2 == 0)) && (r4.2 == 0)) && (r5.2 == 0)) && (r2.1 == 180)) && (r3.1 == 240)) then
                          bif !(((((((r2.2 == 0) && (r3.2 == 0)) && (r4.2 == 0)) && (r5.2 == 0)) && (r2.1 == 180)) && (r3.1 == 240)) && r4.1) || (((((((r2.2 == 0) && (r3.2 == 0)) && (r4.2 == 0)) && (r5.2 == 0)) && (r2.1 == 180)) && (r3.1 == 240)) && r4.1) then
                            bif (!(((((((r2.2 == 0) && (r3.2 == 0)) && (r4.2 == 0)) && (r5.2 == 0)) && (r2.1 == 180)) && (r3.1 == 240)) && r4.1)) || (((((((r2.2 == 0) && (r3.2 == 0)) && (r4.2 == 0)) && (r5.2 == 0)) && (r2.1 == 180)) && (r3.1 == 240)) && r4.1) then
                              bif !((((((((r2.2 == 0) && (r3.2 == 0)) && (r4.2 == 0)) && (r5.2 == 0)) && (r2.1 == 180)) && (r3.1 == 240)) && r4.1) && (!r5.1)) || ((((((((r2.2 == 0) && (r3.2 == 0)) && (r4.2 == 0)) && (r5.2 == 0)) && (r2.1 == 180)) && (r3.1 == 240)) && r4.1) && (!r5.1)) then
                                (bif ((((((((r2.2 == 0) && (r3.2 == 0)) && (r4.2 == 0)) && (r5.2 == 0)) && (r2.1 == 180)) && (r3.1 == 240)) && r4.1) && (!r5.1)) then F27.fn N [0, 0, 0, 0, 0, 0, 0, 0, 0, 0, 0, 0, 0, 0, 0, 0] else some (0)).bind fun r6 =>
                                bif !((((((((r2.2 == 0) && (r3.2 == 0)) && (r4.2 == 0)) && (r5.2 == 0)) && (r2.1 == 180)) && (r3.1 == 240)) && r4.1) && (!r5.1)) || ((((((((r2.2 == 0) && (r3.2 == 0)) && (r4.2 == 0)) && (r5.2 == 0)) && (r2.1 == 180)) && (r3.1 == 240)) && r4.1) && (!r5.1)) then
                                  bif (!((((((((r2.2 == 0) && (r3.2 == 0)) && (r4.2 == 0)) && (r5.2 == 0)) && (r2.1 == 180)) && (r3.1 == 240)) && r4.1) && (!r5.1))) || ((((((((r2.2 == 0) && (r3.2 == 0)) && (r4.2 == 0)) && (r5.2 == 0)) && (r2.1 == 180)) && (r3.1 == 240)) && r4.1) && (!r5.1)) then
                                    (bif (((((((((r2.2 == 0) && (r3.2 == 0)) && (r4.2 == 0)) && (r5.2 == 0)) && (r2.1 == 180)) && (r3.1 == 240)) && r4.1) && (!r5.1)) && (r6 == 4)) then F30.fn N 4 else some (0)).bind fun r7 =>
                                    bif !(((((((((r2.2 == 0) && (r3.2 == 0)) && (r4.2 == 0)) && (r5.2 == 0)) && (r2.1 == 180)) && (r3.1 == 240)) && r4.1) && (!r5.1)) && (r6 == 4)) || (((((((((r2.2 == 0) && (r3.2 == 0)) && (r4.2 == 0)) && (r5.2 == 0)) && (r2.1 == 180)) && (r3.1 == 240)) && r4.1) && (!r5.1)) && (r6 == 4)) then
                                      bif (!(((((((((r2.2 == 0) && (r3.2 == 0)) && (r4.2 == 0)) && (r5.2 == 0)) && (r2.1 == 180)) && (r3.1 == 240)) && r4.1) && (!r5.1)) && (r6 == 4))) || (((((((((r2.2 == 0) && (r3.2 == 0)) && (r4.2 == 0)) && (r5.2 == 0)) && (r2.1 == 180)) && (r3.1 == 240)) && r4.1) && (!r5.1)) && (r6 == 4)) then
                                        bif !((((((((((r2.2 == 0) && (r3.2 == 0)) && (r4.2 == 0)) && (r5.2 == 0)) && (r2.1 == 180)) && (r3.1 == 240)) && r4.1) && (!r5.1)) && (r6 == 4)) && (r7 == 1)) || ((((((((((r2.2 == 0) && (r3.2 == 0)) && (r4.2 == 0)) && (r5.2 == 0)) && (r2.1 == 180)) && (r3.1 == 240)) && r4.1) && (!r5.1)) && (r6 == 4)) && (r7 == 1)) then
                                          bif !((((((((((r2.2 == 0) && (r3.2 == 0)) && (r4.2 == 0)) && (r5.2 == 0)) && (r2.1 == 180)) && (r3.1 == 240)) && r4.1) && (!r5.1)) && (r6 == 4)) && (r7 == 1)) || ((((((((((r2.2 == 0) && (r3.2 == 0)) && (r4.2 == 0)) && (r5.2 == 0)) && (r2.1 == 180)) && (r3.1 == 240)) && r4.1) && (!r5.1)) && (r6 == 4)) && (r7 == 1)) then
                                            bif !((((((((((r2.2 == 0) && (r3.2 == 0)) && (r4.2 == 0)) && (r5.2 == 0)) && (r2.1 == 180)) && (r3.1 == 240)) && r4.1) && (!r5.1)) && (r6 == 4)) && (r7 == 1)) || ((((((((((r2.2 == 0) && (r3.2 == 0)) && (r4.2 == 0)) && (r5.2 == 0)) && (r2.1 == 180)) && (r3.1 == 240)) && r4.1) && (!r5.1)) && (r6 == 4)) && (r7 == 1)) then
                                              bif (!((((((((((r2.2 == 0) && (r3.2 == 0)) && (r4.2 == 0)) && (r5.2 == 0)) && (r2.1 == 180)) && (r3.1 == 240)) && r4.1) && (!r5.1)) && (r6 == 4)) && (r7 == 1))) || ((((((((((r2.2 == 0) && (r3.2 == 0)) && (r4.2 == 0)) && (r5.2 == 0)) && (r2.1 == 180)) && (r3.1 == 240)) && r4.1) && (!r5.1)) && (r6 == 4)) && (r7 == 1)) then
                                                some (((((((((((r2.2 == 0) && (r3.2 == 0)) && (r4.2 == 0)) && (r5.2 == 0)) && (r2.1 == 180)) && (r3.1 == 240)) && r4.1) && (!r5.1)) && (r6 == 4)) && (r7 == 1)) && ((List.getD r1 12 0) == 240))
                                              else
                                                none
                                            else
                                              none
                                          else
                                            none
                                        else
                                          none
                                      else
                                        none
                                    else
                                      none
                                  else
                                    none
                                else
                                  none
                              else
                                none
                            else
                              none
                          else
                            none
                        else
                          none
                      else
                        none
                    else
                      none
                  else
                    none
                else
                  none
              else
                none
            else
              none
          else
            none
        else
          none
      else
        none
    else
      none := by kernel_rfl
theorem taut3 : ∀ p0 p1 p2 p3 p4 p5 p6 p7 p8 p9 : Bool, ((!((((((((((p0) && (p1)) && (p2)) && (p3)) && (p4)) && (p5)) && p6) && (!p7)) && (p8)) && (p9)) || ((((((((((p0) && (p1)) && (p2)) && (p3)) && (p4)) && (p5)) && p6) && (!p7)) && (p8)) && (p9)))) = true := by decide
theorem taut4 : ∀ p0 p1 p2 p3 p4 p5 p6 p7 p8 : Bool, ((!(((((((((p0) && (p1)) && (p2)) && (p3)) && (p4)) && (p5)) && p6) && (!p7)) && (p8)) || (((((((((p0) && (p1)) && (p2)) && (p3)) && (p4)) && (p5)) && p6) && (!p7)) && (p8)))) = true := by decide
theorem taut5 : ∀ p0 p1 p2 p3 p4 p5 p6 p7 : Bool, ((!((((((((p0) && (p1)) && (p2)) && (p3)) && (p4)) && (p5)) && p6) && (!p7)) || ((((((((p0) && (p1)) && (p2)) && (p3)) && (p4)) && (p5)) && p6) && (!p7)))) = true := by decide
theorem taut6 : ∀ p0 p1 p2 p3 p4 p5 p6 : Bool, ((!(((((((p0) && (p1)) && (p2)) && (p3)) && (p4)) && (p5)) && p6) || (((((((p0) && (p1)) && (p2)) && (p3)) && (p4)) && (p5)) && p6))) = true := by decide
theorem taut7 : ∀ p0 p1 p2 p3 p4 : Bool, ((!(((((p0) && (p1)) && (p2)) && (p3)) && (p4)) || (((((p0) && (p1)) && (p2)) && (p3)) && (p4)))) = true := by decide
theorem taut8 : ∀ p0 p1 p2 p3 : Bool, ((!((((p0) && (p1)) && (p2)) && (p3)) || ((((p0) && (p1)) && (p2)) && (p3)))) = true := by decide
theorem taut9 : ∀ p0 p1 p2 : Bool, ((!(((p0) && (p1)) && (p2)) || (((p0) && (p1)) && (p2)))) = true := by decide
theorem taut10 : ∀ p0 p1 : Bool, ((!((p0) && (p1)) || ((p0) && (p1)))) = true := by decide
theorem taut11 : ∀ p0 : Bool, ((!(p0) || (p0))) = true := by decide
theorem taut12 : ∀ p0 p1 p2 p3 p4 p5 p6 p7 p8 p9 : Bool, (((!((((((((((p0) && (p1)) && (p2)) && (p3)) && (p4)) && (p5)) && p6) && (!p7)) && (p8)) && (p9))) || ((((((((((p0) && (p1)) && (p2)) && (p3)) && (p4)) && (p5)) && p6) && (!p7)) && (p8)) && (p9)))) = true := by decide
theorem taut13 : ∀ p0 p1 p2 p3 p4 p5 p6 p7 p8 : Bool, (((!(((((((((p0) && (p1)) && (p2)) && (p3)) && (p4)) && (p5)) && p6) && (!p7)) && (p8))) || (((((((((p0) && (p1)) && (p2)) && (p3)) && (p4)) && (p5)) && p6) && (!p7)) && (p8)))) = true := by decide
theorem taut14 : ∀ p0 p1 p2 p3 p4 p5 p6 p7 : Bool, (((!((((((((p0) && (p1)) && (p2)) && (p3)) && (p4)) && (p5)) && p6) && (!p7))) || ((((((((p0) && (p1)) && (p2)) && (p3)) && (p4)) && (p5)) && p6) && (!p7)))) = true := by decide
theorem taut15 : ∀ p0 p1 p2 p3 p4 p5 p6 : Bool, (((!(((((((p0) && (p1)) && (p2)) && (p3)) && (p4)) && (p5)) && p6)) || (((((((p0) && (p1)) && (p2)) && (p3)) && (p4)) && (p5)) && p6))) = true := by decide
theorem taut16 : ∀ p0 p1 p2 p3 p4 p5 : Bool, (((!((((((p0) && (p1)) && (p2)) && (p3)) && (p4)) && (p5))) || ((((((p0) && (p1)) && (p2)) && (p3)) && (p4)) && (p5)))) = true := by decide
theorem taut17 : ∀ p0 p1 p2 p3 p4 : Bool, (((!(((((p0) && (p1)) && (p2)) && (p3)) && (p4))) || (((((p0) && (p1)) && (p2)) && (p3)) && (p4)))) = true := by decide
theorem taut18 : ∀ p0 p1 p2 p3 : Bool, (((!((((p0) && (p1)) && (p2)) && (p3))) || ((((p0) && (p1)) && (p2)) && (p3)))) = true := by decide
theorem taut19 : ∀ p0 p1 p2 : Bool, (((!(((p0) && (p1)) && (p2))) || (((p0) && (p1)) && (p2)))) = true := by decide
theorem taut20 : ∀ p0 p1 : Bool, (((!((p0) && (p1))) || ((p0) && (p1)))) = true := by decide
theorem taut21 : ∀ p0 : Bool, (((!(p0)) || (p0))) = true := by decide
theorem F24.clean (N : Nat) : F24.fn N () =
    (F66.fn N ()).bind fun r1 =>
    (F29.fn N ((vl 16 r1), 2, 0)).bind fun r2 =>
    (F25.fn N ((vl 16 r1), [2, 0, 0])).bind fun r3 =>
    (F31.fn N ((vl 16 r1), [2, 0], [5, 185])).bind fun r4 =>
    (F31.fn N ((vl 16 r1), [2, 0], [5, 184])).bind fun r5 =>
    (bif ((((((((r2.2 == 0) && (r3.2 == 0)) && (r4.2 == 0)) && (r5.2 == 0)) && (r2.1 == 180)) && (r3.1 == 240)) && r4.1) && (!r5.1)) then F27.fn N [0, 0, 0, 0, 0, 0, 0, 0, 0, 0, 0, 0, 0, 0, 0, 0] else some (0)).bind fun r6 =>
    (bif (((((((((r2.2 == 0) && (r3.2 == 0)) && (r4.2 == 0)) && (r5.2 == 0)) && (r2.1 == 180)) && (r3.1 == 240)) && r4.1) && (!r5.1)) && (r6 == 4)) then F30.fn N 4 else some (0)).bind fun r7 =>
    some (((((((((((r2.2 == 0) && (r3.2 == 0)) && (r4.2 == 0)) && (r5.2 == 0)) && (r2.1 == 180)) && (r3.1 == 240)) && r4.1) && (!r5.1)) && (r6 == 4)) && (r7 == 1)) && ((List.getD r1 12 0) == 240)) := by
  rw [F24.eq]; simp only [taut3, taut4, taut5, taut6, taut7, taut8, taut9, taut10, taut11, taut12, taut13, taut14, taut15, taut16, taut17, taut18, taut19, taut20, taut21, cond_true]

/-! ### F26: skyway/skywayref3.TableError -/
def F26.kp : List (Nat × List (Nat × Option (TypeId × Ty))) := [(2, [(1, none), (8, none)]), (8, [(1, none), (30, none)])]
noncomputable def F26.G (N : Nat) : List (Nat × Spec) := []
noncomputable def F26.E (N : Nat) : Env := mkEnv (F26.G N) N tyTab F26.kp
noncomputable def F26.fn (N : Nat) (x : List Int) : Option Int := evFn (F26.E N) Try.prog 3 Try.f26 false [.agg (.vec 16 .i64)] [.val (.cell (.int .i64))] x
noncomputable def F26.S (N : Nat) : PSpec := ⟨false, [.agg (.vec 16 .i64)], [.val (.cell (.int .i64))], F26.fn N⟩
theorem f26_enters : Enters Try.prog 26 := ⟨Try.f26, Try.func26, by kernel_rfl, by kernel_rfl⟩
theorem F26.tab (N : Nat) : TabOk Try.prog (F26.G N) := trivial
theorem F26.enters : Enters Try.prog 26 := f26_enters
theorem F26.sound (N : Nat) : Sound Try.prog 26 (F26.S N) := evFn_sound (specs_tab (F26.tab N)) (inls_tab (F26.tab N)) mixed 3 Try.func26 _ _ _
noncomputable def F26.cd (N : Nat) (p : List Nat) : St → (Ex → St → Option Int) → Option Int := ev (F26.E N) Try.prog (callD (F26.E N) Try.prog 3) 0 (codeAt (bodyOf Try.f26) p)
noncomputable def F26.fin : Ex → St → Option Int := endK Try.prog Try.f26 [.val (.cell (.int .i64))]
noncomputable def F26.l0 (N : Nat) (x0 : List Int) (k1 : Nat) (a2 : Int) : Option Int :=
  loopN (norm ((F26.E N).keep 2) 0) (F26.cd N [1, 0, 1, 0, 0]) k1
  ⟨[.any, .ptr 0 0, .any, .any, .any, .any, .any, .any, .sc (.int .i64 a2), .any, .any, .any, .any, .any, .any, .any, .any, .any, .any, .any, .any, .any, .any, .any, .any, .any, .any, .any, .any, .any, .any, .any, .any, .any, .any, .any, .any, .any, .any, .any, .any, .any, .any, .any, .any, .any, .any, .any, .any, .any, .any, .any, .any, .any, .any, .any, .any, .any], [.cells [.sc (.int .i64 (List.getD x0 0 0)), .sc (.int .i64 (List.getD x0 1 0)), .sc (.int .i64 (List.getD x0 2 0)), .sc (.int .i64 (List.getD x0 3 0)), .sc (.int .i64 (List.getD x0 4 0)), .sc (.int .i64 (List.getD x0 5 0)), .sc (.int .i64 (List.getD x0 6 0)), .sc (.int .i64 (List.getD x0 7 0)), .sc (.int .i64 (List.getD x0 8 0)), .sc (.int .i64 (List.getD x0 9 0)), .sc (.int .i64 (List.getD x0 10 0)), .sc (.int .i64 (List.getD x0 11 0)), .sc (.int .i64 (List.getD x0 12 0)), .sc (.int .i64 (List.getD x0 13 0)), .sc (.int .i64 (List.getD x0 14 0)), .sc (.int .i64 (List.getD x0 15 0))] 44]⟩
  (blockK 0 (seqK (F26.cd N [1, 1]) F26.fin))
noncomputable def F26.l1 (N : Nat) (x0 : List Int) (k3 : Nat) (a4 : Int) : Option Int :=
  loopN (norm ((F26.E N).keep 8) 0) (F26.cd N [1, 1, 0, 1, 0, 0]) k3
  ⟨[.any, .ptr 0 0, .any, .any, .any, .any, .any, .any, .any, .any, .any, .any, .any, .any, .any, .any, .any, .any, .any, .any, .any, .any, .any, .any, .any, .any, .any, .any, .any, .any, .sc (.int .i64 a4), .any, .any, .any, .any, .any, .any, .any, .any, .any, .any, .any, .any, .any, .any, .any, .any, .any, .any, .any, .any, .any, .any, .any, .any, .any, .any, .any], [.cells [.sc (.int .i64 (List.getD x0 0 0)), .sc (.int .i64 (List.getD x0 1 0)), .sc (.int .i64 (List.getD x0 2 0)), .sc (.int .i64 (List.getD x0 3 0)), .sc (.int .i64 (List.getD x0 4 0)), .sc (.int .i64 (List.getD x0 5 0)), .sc (.int .i64 (List.getD x0 6 0)), .sc (.int .i64 (List.getD x0 7 0)), .sc (.int .i64 (List.getD x0 8 0)), .sc (.int .i64 (List.getD x0 9 0)), .sc (.int .i64 (List.getD x0 10 0)), .sc (.int .i64 (List.getD x0 11 0)), .sc (.int .i64 (List.getD x0 12 0)), .sc (.int .i64 (List.getD x0 13 0)), .sc (.int .i64 (List.getD x0 14 0)), .sc (.int .i64 (List.getD x0 15 0))] 44]⟩
  (blockK 2 (seqK (F26.cd N [1, 1, 1]) F26.fin))
theorem F26.l1_zero (N : Nat) (x0 : List Int) (a4 : Int) : F26.l1 N x0 0 a4 = none := by kernel_rfl
theorem F26.l1_succ (N : Nat) (x0 : List Int) (k3 : Nat) (a4 : Int) : F26.l1 N x0 (k3 + 1) a4 =
    bif decide (a4 < 64) then
      bif (decide (0 ≤ (w (Int.tdiv a4 16)))) && (decide ((w (Int.tdiv a4 16)) < 4)) then
        bif (decide (0 ≤ (Int.tmod (w (Int.tdiv a4 4)) 4))) && (decide ((Int.tmod (w (Int.tdiv a4 4)) 4) < 4)) then
          bif decide (((0 + ((Int.toNat (w (Int.tdiv a4 16))) * 4)) + ((Int.toNat (Int.tmod (w (Int.tdiv a4 4)) 4)) * 1)) < 16) then
            bif (decide (0 ≤ (Int.tmod (w (Int.tdiv a4 4)) 4))) && (decide ((Int.tmod (w (Int.tdiv a4 4)) 4) < 4)) then
              bif (decide (0 ≤ (Int.tmod a4 4))) && (decide ((Int.tmod a4 4) < 4)) then
                bif decide (((0 + ((Int.toNat (Int.tmod (w (Int.tdiv a4 4)) 4)) * 4)) + ((Int.toNat (Int.tmod a4 4)) * 1)) < 16) then
                  bif (decide (0 ≤ (w (Int.tdiv a4 16)))) && (decide ((w (Int.tdiv a4 16)) < 4)) then
                    bif (decide (0 ≤ (Int.tmod a4 4))) && (decide ((Int.tmod a4 4) < 4)) then
                      bif decide (((0 + ((Int.toNat (w (Int.tdiv a4 16))) * 4)) + ((Int.toNat (Int.tmod a4 4)) * 1)) < 16) then
                        bif decide ((w ((List.getD (vl 16 x0) ((0 + ((Int.toNat (w (Int.tdiv a4 16))) * 4)) + ((Int.toNat (Int.tmod (w (Int.tdiv a4 4)) 4)) * 1)) 0) + (List.getD (vl 16 x0) ((0 + ((Int.toNat (Int.tmod (w (Int.tdiv a4 4)) 4)) * 4)) + ((Int.toNat (Int.tmod a4 4)) * 1)) 0))) < (List.getD (vl 16 x0) ((0 + ((Int.toNat (w (Int.tdiv a4 16))) * 4)) + ((Int.toNat (Int.tmod a4 4)) * 1)) 0)) then
                          some 3
                        else
                          F26.l1 N x0 k3 (w (a4 + 1))
                      else
                        none
                    else
                      none
                  else
                    none
                else
                  none
              else
                none
            else
              none
          else
            none
        else
          none
      else
        none
    else
      some 0 := by kernel_rfl
theorem F26.l0_zero (N : Nat) (x0 : List Int) (a2 : Int) : F26.l0 N x0 0 a2 = none := by kernel_rfl
theorem F26.l0_succ (N : Nat) (x0 : List Int) (k1 : Nat) (a2 : Int) : F26.l0 N x0 (k1 + 1) a2 =
    bif decide (a2 < 16) then
      bif (decide (0 ≤ (w (Int.tdiv a2 4)))) && (decide ((w (Int.tdiv a2 4)) < 4)) then
        bif (decide (0 ≤ (Int.tmod a2 4))) && (decide ((Int.tmod a2 4) < 4)) then
          bif decide (((0 + ((Int.toNat (w (Int.tdiv a2 4))) * 4)) + ((Int.toNat (Int.tmod a2 4)) * 1)) < 16) then
            bif !(!(decide ((List.getD (vl 16 x0) ((0 + ((Int.toNat (w (Int.tdiv a2 4))) * 4)) + ((Int.toNat (Int.tmod a2 4)) * 1)) 0) < 30))) || (!(decide ((List.getD (vl 16 x0) ((0 + ((Int.toNat (w (Int.tdiv a2 4))) * 4)) + ((Int.toNat (Int.tmod a2 4)) * 1)) 0) < 30))) then
              bif !(!(decide ((List.getD (vl 16 x0) ((0 + ((Int.toNat (w (Int.tdiv a2 4))) * 4)) + ((Int.toNat (Int.tmod a2 4)) * 1)) 0) < 30))) || (!(decide ((List.getD (vl 16 x0) ((0 + ((Int.toNat (w (Int.tdiv a2 4))) * 4)) + ((Int.toNat (Int.tmod a2 4)) * 1)) 0) < 30))) then
                bif !(!(decide ((List.getD (vl 16 x0) ((0 + ((Int.toNat (w (Int.tdiv a2 4))) * 4)) + ((Int.toNat (Int.tmod a2 4)) * 1)) 0) < 30))) || (!(decide ((List.getD (vl 16 x0) ((0 + ((Int.toNat (w (Int.tdiv a2 4))) * 4)) + ((Int.toNat (Int.tmod a2 4)) * 1)) 0) < 30))) then
                  bif ((decide (0 ≤ (w (Int.tdiv a2 4)))) && (decide ((w (Int.tdiv a2 4)) < 4))) || !(!(decide ((List.getD (vl 16 x0) ((0 + ((Int.toNat (w (Int.tdiv a2 4))) * 4)) + ((Int.toNat (Int.tmod a2 4)) * 1)) 0) < 30))) then
                    bif !(!(decide ((List.getD (vl 16 x0) ((0 + ((Int.toNat (w (Int.tdiv a2 4))) * 4)) + ((Int.toNat (Int.tmod a2 4)) * 1)) 0) < 30))) || (!(decide ((List.getD (vl 16 x0) ((0 + ((Int.toNat (w (Int.tdiv a2 4))) * 4)) + ((Int.toNat (Int.tmod a2 4)) * 1)) 0) < 30))) then
                      bif !(!(decide ((List.getD (vl 16 x0) ((0 + ((Int.toNat (w (Int.tdiv a2 4))) * 4)) + ((Int.toNat (Int.tmod a2 4)) * 1)) 0) < 30))) || (!(decide ((List.getD (vl 16 x0) ((0 + ((Int.toNat (w (Int.tdiv a2 4))) * 4)) + ((Int.toNat (Int.tmod a2 4)) * 1)) 0) < 30))) then
                        bif ((decide (0 ≤ (Int.tmod a2 4))) && (decide ((Int.tmod a2 4) < 4))) || !(!(decide ((List.getD (vl 16 x0) ((0 + ((Int.toNat (w (Int.tdiv a2 4))) * 4)) + ((Int.toNat (Int.tmod a2 4)) * 1)) 0) < 30))) then
                          bif !(!(decide ((List.getD (vl 16 x0) ((0 + ((Int.toNat (w (Int.tdiv a2 4))) * 4)) + ((Int.toNat (Int.tmod a2 4)) * 1)) 0) < 30))) || (!(decide ((List.getD (vl 16 x0) ((0 + ((Int.toNat (w (Int.tdiv a2 4))) * 4)) + ((Int.toNat (Int.tmod a2 4)) * 1)) 0) < 30))) then
                            bif (decide (((0 + ((Int.toNat (w (Int.tdiv a2 4))) * 4)) + ((Int.toNat (Int.tmod a2 4)) * 1)) < 16)) || !(!(decide ((List.getD (vl 16 x0) ((0 + ((Int.toNat (w (Int.tdiv a2 4))) * 4)) + ((Int.toNat (Int.tmod a2 4)) * 1)) 0) < 30))) then
                              bif !(!(decide ((List.getD (vl 16 x0) ((0 + ((Int.toNat (w (Int.tdiv a2 4))) * 4)) + ((Int.toNat (Int.tmod a2 4)) * 1)) 0) < 30))) || (!(decide ((List.getD (vl 16 x0) ((0 + ((Int.toNat (w (Int.tdiv a2 4))) * 4)) + ((Int.toNat (Int.tmod a2 4)) * 1)) 0) < 30))) then
                                bif (decide ((List.getD (vl 16 x0) ((0 + ((Int.toNat (w (Int.tdiv a2 4))) * 4)) + ((Int.toNat (Int.tmod a2 4)) * 1)) 0) < 30)) || (!(decide ((List.getD (vl 16 x0) ((0 + ((Int.toNat (w (Int.tdiv a2 4))) * 4)) + ((Int.toNat (Int.tmod a2 4)) * 1)) 0) < 30))) then
                                  bif (decide ((List.getD (vl 16 x0) ((0 + ((Int.toNat (w (Int.tdiv a2 4))) * 4)) + ((Int.toNat (Int.tmod a2 4)) * 1)) 0) < 30)) || (decide ((List.getD (vl 16 x0) ((0 + ((Int.toNat (w (Int.tdiv a2 4))) * 4)) + ((Int.toNat (Int.tmod a2 4)) * 1)) 0) > 600)) then
                                    some 4
                                  else
                                    F26.l0 N x0 k1 (w (a2 + 1))
                                else
                                  none
                              else
                                none
                            else
                              none
                          else
                            none
                        else
                          none
                      else
                        none
                    else
                      none
                  else
                    none
                else
                  none
              else
                none
            else
              none
          else
            none
        else
          none
      else
        none
    else
      F26.l1 N x0 N 0 := by kernel_rfl
theorem F26.l0_clean (N : Nat) (x0 : List Int) (k1 : Nat) (a2 : Int) : F26.l0 N x0 (k1 + 1) a2 =
    bif decide (a2 < 16) then
      bif (decide (0 ≤ (w (Int.tdiv a2 4)))) && (decide ((w (Int.tdiv a2 4)) < 4)) then
        bif (decide (0 ≤ (Int.tmod a2 4))) && (decide ((Int.tmod a2 4) < 4)) then
          bif decide (((0 + ((Int.toNat (w (Int.tdiv a2 4))) * 4)) + ((Int.toNat (Int.tmod a2 4)) * 1)) < 16) then
            bif ((decide (0 ≤ (w (Int.tdiv a2 4)))) && (decide ((w (Int.tdiv a2 4)) < 4))) || !(!(decide ((List.getD (vl 16 x0) ((0 + ((Int.toNat (w (Int.tdiv a2 4))) * 4)) + ((Int.toNat (Int.tmod a2 4)) * 1)) 0) < 30))) then
              bif ((decide (0 ≤ (Int.tmod a2 4))) && (decide ((Int.tmod a2 4) < 4))) || !(!(decide ((List.getD (vl 16 x0) ((0 + ((Int.toNat (w (Int.tdiv a2 4))) * 4)) + ((Int.toNat (Int.tmod a2 4)) * 1)) 0) < 30))) then
                bif (decide (((0 + ((Int.toNat (w (Int.tdiv a2 4))) * 4)) + ((Int.toNat (Int.tmod a2 4)) * 1)) < 16)) || !(!(decide ((List.getD (vl 16 x0) ((0 + ((Int.toNat (w (Int.tdiv a2 4))) * 4)) + ((Int.toNat (Int.tmod a2 4)) * 1)) 0) < 30))) then
                  bif (decide ((List.getD (vl 16 x0) ((0 + ((Int.toNat (w (Int.tdiv a2 4))) * 4)) + ((Int.toNat (Int.tmod a2 4)) * 1)) 0) < 30)) || (decide ((List.getD (vl 16 x0) ((0 + ((Int.toNat (w (Int.tdiv a2 4))) * 4)) + ((Int.toNat (Int.tmod a2 4)) * 1)) 0) > 600)) then
                    some 4
                  else
                    F26.l0 N x0 k1 (w (a2 + 1))
                else
                  none
              else
                none
            else
              none
          else
            none
        else
          none
      else
        none
    else
      F26.l1 N x0 N 0 := by
  rw [F26.l0_succ]; simp only [taut1, taut2, cond_true]
theorem F26.eq (N : Nat) (x0 : List Int) : F26.fn N x0 =
    F26.l0 N x0 N 0 := by kernel_rfl

/-! ### F28: skyway/skywaylaw3.classesError -/
def F28.kp : List (Nat × List (Nat × Option (TypeId × Ty))) := [(2, [(5, none), (6, none), (7, none)])]
noncomputable def F28.G (N : Nat) : List (Nat × Spec) := []
noncomputable def F28.E (N : Nat) : Env := mkEnv (F28.G N) N tyTab F28.kp
noncomputable def F28.fn (N : Nat) (x : List Int) : Option Int := evFn (F28.E N) Try.prog 3 Try.f28 false [.cell (.sl 3 (.int .i64))] [.val (.cell (.int .i64))] x
noncomputable def F28.S (N : Nat) : PSpec := ⟨false, [.cell (.sl 3 (.int .i64))], [.val (.cell (.int .i64))], F28.fn N⟩
theorem f28_enters : Enters Try.prog 28 := ⟨Try.f28, Try.func28, by kernel_rfl, by kernel_rfl⟩
theorem F28.tab (N : Nat) : TabOk Try.prog (F28.G N) := trivial
theorem F28.enters : Enters Try.prog 28 := f28_enters
theorem F28.sound (N : Nat) : Sound Try.prog 28 (F28.S N) := evFn_sound (specs_tab (F28.tab N)) (inls_tab (F28.tab N)) mixed 3 Try.func28 _ _ _
noncomputable def F28.cd (N : Nat) (p : List Nat) : St → (Ex → St → Option Int) → Option Int := ev (F28.E N) Try.prog (callD (F28.E N) Try.prog 3) 0 (codeAt (bodyOf Try.f28) p)
noncomputable def F28.fin : Ex → St → Option Int := endK Try.prog Try.f28 [.val (.cell (.int .i64))]
noncomputable def F28.l0 (N : Nat) (x0 : List Int) (k1 : Nat) (a2 : Int) : Option Int :=
  loopN (norm ((F28.E N).keep 2) 0) (F28.cd N [1, 0, 1, 0, 0]) k1
  ⟨[.any, .any, .any, .any, .any, .ros false 3 (.int .i64) x0, .sc (.int .i64 (x0.length : Int)), .sc (.int .i64 a2), .any, .any, .any, .any, .any, .any, .any, .any, .any, .any], []⟩
  (blockK 0 (seqK (F28.cd N [1, 1]) F28.fin))
theorem F28.l0_zero (N : Nat) (x0 : List Int) (a2 : Int) : F28.l0 N x0 0 a2 = none := by kernel_rfl
theorem F28.l0_succ (N : Nat) (x0 : List Int) (k1 : Nat) (a2 : Int) : F28.l0 N x0 (k1 + 1) a2 =
    bif decide (a2 < (x0.length : Int)) then
      bif (decide (0 ≤ a2)) && (decide (a2 < (x0.length : Int))) then
        bif !(!(decide ((List.getD x0 (Int.toNat a2) 0) < 0))) || (!(decide ((List.getD x0 (Int.toNat a2) 0) < 0))) then
          bif (decide ((List.getD x0 (Int.toNat a2) 0) < 0)) || (!(decide ((List.getD x0 (Int.toNat a2) 0) < 0))) then
            bif (decide ((List.getD x0 (Int.toNat a2) 0) < 0)) || (decide ((List.getD x0 (Int.toNat a2) 0) > 3)) then
              some 1
            else
              F28.l0 N x0 k1 (w (a2 + 1))
          else
            none
        else
          none
      else
        none
    else
      some 0 := by kernel_rfl
theorem F28.l0_clean (N : Nat) (x0 : List Int) (k1 : Nat) (a2 : Int) : F28.l0 N x0 (k1 + 1) a2 =
    bif decide (a2 < (x0.length : Int)) then
      bif (decide (0 ≤ a2)) && (decide (a2 < (x0.length : Int))) then
        bif (decide ((List.getD x0 (Int.toNat a2) 0) < 0)) || (decide ((List.getD x0 (Int.toNat a2) 0) > 3)) then
          some 1
        else
          F28.l0 N x0 k1 (w (a2 + 1))
      else
        none
    else
      some 0 := by
  rw [F28.l0_succ]; simp only [taut1, taut2, cond_true]
theorem F28.eq (N : Nat) (x0 : List Int) : F28.fn N x0 =
    F28.l0 N x0 N 0 := by kernel_rfl

/-! ### F6: skyway/skywaylaw3.WakeGaps -/
def F6.kp : List (Nat × List (Nat × Option (TypeId × Ty))) := [(15, [(1, none), (2, none), (5, none), (6, none), (8, none), (9, none)]), (1000009, [(1, none), (2, none), (5, none), (6, none), (7, none)])]
noncomputable def F6.G (N : Nat) : List (Nat × Spec) := [(24, .pure (F24.S N)), (25, .pure (F25.S N)), (26, .pure (F26.S N)), (27, .pure (F27.S N)), (28, .pure (F28.S N)), (29, .pure (F29.S N))]
noncomputable def F6.E (N : Nat) : Env := mkEnv (F6.G N) N tyTab F6.kp
noncomputable def F6.fn (N : Nat) (x : List Int × List Int) : Option Bool := evFn (F6.E N) Try.prog 3 Try.f6 false [.agg (.vec 16 .i64), .cell (.sl 3 (.int .i64))] [.val (.cell (.bool))] x
noncomputable def F6.S (N : Nat) : PSpec := ⟨false, [.agg (.vec 16 .i64), .cell (.sl 3 (.int .i64))], [.val (.cell (.bool))], F6.fn N⟩
theorem f6_enters : Enters Try.prog 6 := ⟨Try.f6, Try.func6, by kernel_rfl, by kernel_rfl⟩
theorem F6.tab (N : Nat) : TabOk Try.prog (F6.G N) := ⟨⟨F24.enters, F24.sound N⟩, ⟨F25.enters, F25.sound N⟩, ⟨F26.enters, F26.sound N⟩, ⟨F27.enters, F27.sound N⟩, ⟨F28.enters, F28.sound N⟩, ⟨F29.enters, F29.sound N⟩, trivial⟩
theorem F6.enters : Enters Try.prog 6 := f6_enters
theorem F6.sound (N : Nat) : Sound Try.prog 6 (F6.S N) := evFn_sound (specs_tab (F6.tab N)) (inls_tab (F6.tab N)) mixed 3 Try.func6 _ _ _
noncomputable def F6.cd (N : Nat) (p : List Nat) : St → (Ex → St → Option Bool) → Option Bool := ev (F6.E N) Try.prog (callD (F6.E N) Try.prog 3) 0 (codeAt (bodyOf Try.f6) p)
noncomputable def F6.fin : Ex → St → Option Bool := endK Try.prog Try.f6 [.val (.cell (.bool))]
noncomputable def F6.j0 (N : Nat) (x0 : List Int) (x1 : List Int) (r2 : Int × Int) (a5 : Int) : Option Bool :=
  fuelK N (region (F6.E N) Try.prog (callD (F6.E N) Try.prog 3) (opsAt (codeAt (bodyOf Try.f6) [1, 1, 1, 1, 1, 1, 0, 0])) false
  ⟨[.any, .ros false 3 (.int .i64) x1, .ptr 0 0, .any, .any, .sc (.int .i64 r2.1), .sc (.int .i64 r2.2), .sc (.int .i64 a5), .any, .any, .any, .any, .any, .any, .any, .any, .any, .any, .any, .any, .any, .any, .any, .any, .any, .any, .any, .any, .any, .any, .any, .any, .any, .any, .any, .any, .any, .any, .any, .any, .any, .any, .any, .any, .any, .any, .any, .any, .any, .any, .any, .any, .any, .any, .any, .any, .any, .any, .any, .any, .any, .any, .any, .any, .any, .any, .any, .any, .any, .any, .any, .any, .any, .any, .any, .any, .any, .any, .any, .any, .any, .any, .any, .any, .any, .any, .any, .any, .any, .any, .any, .any, .any, .any], [.cells [.sc (.int .i64 (List.getD x0 0 0)), .sc (.int .i64 (List.getD x0 1 0)), .sc (.int .i64 (List.getD x0 2 0)), .sc (.int .i64 (List.getD x0 3 0)), .sc (.int .i64 (List.getD x0 4 0)), .sc (.int .i64 (List.getD x0 5 0)), .sc (.int .i64 (List.getD x0 6 0)), .sc (.int .i64 (List.getD x0 7 0)), .sc (.int .i64 (List.getD x0 8 0)), .sc (.int .i64 (List.getD x0 9 0)), .sc (.int .i64 (List.getD x0 10 0)), .sc (.int .i64 (List.getD x0 11 0)), .sc (.int .i64 (List.getD x0 12 0)), .sc (.int .i64 (List.getD x0 13 0)), .sc (.int .i64 (List.getD x0 14 0)), .sc (.int .i64 (List.getD x0 15 0))] 44]⟩
  (fun S => (seqK (F6.cd N [1, 1, 1, 1, 1, 1, 0, 1]) (seqK (F6.cd N [1, 1, 1, 1, 1, 1, 1]) F6.fin)) .normal S))
noncomputable def F6.l1 (N : Nat) (x0 : List Int) (x1 : List Int) (r2 : Int × Int) (k7 : Nat) (a8 : Int) (a9 : Int) : Option Bool :=
  loopN (norm ((F6.E N).keep 15) 0) (F6.cd N [1, 1, 1, 1, 1, 1, 1, 1, 1, 0, 1, 0, 0]) k7
  ⟨[.any, .ros false 3 (.int .i64) x1, .ptr 0 0, .any, .any, .sc (.int .i64 r2.1), .sc (.int .i64 r2.2), .any, .sc (.int .i64 a8), .sc (.int .i64 a9), .any, .any, .any, .any, .any, .any, .any, .any, .any, .any, .any, .any, .any, .any, .any, .any, .any, .any, .any, .any, .any, .any, .any, .any, .any, .any, .any, .any, .any, .any, .any, .any, .any, .any, .any, .any, .any, .any, .any, .any, .any, .any, .any, .any, .any, .any, .any, .any, .any, .any, .any, .any, .any, .any, .any, .any, .any, .any, .any, .any, .any, .any, .any, .any, .any, .any, .any, .any, .any, .any, .any, .any, .any, .any, .any, .any, .any, .any, .any, .any, .any, .any, .any, .any], [.cells [.sc (.int .i64 (List.getD x0 0 0)), .sc (.int .i64 (List.getD x0 1 0)), .sc (.int .i64 (List.getD x0 2 0)), .sc (.int .i64 (List.getD x0 3 0)), .sc (.int .i64 (List.getD x0 4 0)), .sc (.int .i64 (List.getD x0 5 0)), .sc (.int .i64 (List.getD x0 6 0)), .sc (.int .i64 (List.getD x0 7 0)), .sc (.int .i64 (List.getD x0 8 0)), .sc (.int .i64 (List.getD x0 9 0)), .sc (.int .i64 (List.getD x0 10 0)), .sc (.int .i64 (List.getD x0 11 0)), .sc (.int .i64 (List.getD x0 12 0)), .sc (.int .i64 (List.getD x0 13 0)), .sc (.int .i64 (List.getD x0 14 0)), .sc (.int .i64 (List.getD x0 15 0))] 44]⟩
  (blockK 0 (seqK (F6.cd N [1, 1, 1, 1, 1, 1, 1, 1, 1, 1]) F6.fin))
theorem F6.l1_zero (N : Nat) (x0 : List Int) (x1 : List Int) (r2 : Int × Int) (a8 : Int) (a9 : Int) : F6.l1 N x0 x1 r2 0 a8 a9 = none := by kernel_rfl
theorem F6.l1_succ (N : Nat) (x0 : List Int) (x1 : List Int) (r2 : Int × Int) (k7 : Nat) (a8 : Int) (a9 : Int) : F6.l1 N x0 x1 r2 (k7 + 1) a8 a9 =
    bif decide (a9 < (x1.length : Int)) then
      bif (decide (0 ≤ (w (a9 - 1)))) && (decide ((w (a9 - 1)) < (x1.length : Int))) then
        bif (decide (0 ≤ a9)) && (decide (a9 < (x1.length : Int))) then
          (F29.fn N ((vl 16 x0), (List.getD x1 (Int.toNat (w (a9 - 1))) 0), (List.getD x1 (Int.toNat a9) 0))).bind fun r10 =>
          bif !(!(!(r10.2 == 0))) || (!(!(r10.2 == 0))) then
            bif !(!(!(r10.2 == 0))) || (!(!(r10.2 == 0))) then
              bif !(!(!(r10.2 == 0))) || (!(!(r10.2 == 0))) then
                bif ((decide (0 ≤ (w (a9 - 1)))) && (decide ((w (a9 - 1)) < (x1.length : Int)))) || !(!(!(r10.2 == 0))) then
                  bif !(!(!(r10.2 == 0))) || (!(!(r10.2 == 0))) then
                    bif !(!(!(r10.2 == 0))) || (!(!(r10.2 == 0))) then
                      bif !(!(!(r10.2 == 0))) || (!(!(r10.2 == 0))) then
                        bif ((decide (0 ≤ a9)) && (decide (a9 < (x1.length : Int)))) || !(!(!(r10.2 == 0))) then
                          bif !(!(!(r10.2 == 0))) || (!(!(r10.2 == 0))) then
                            bif !(!(!(r10.2 == 0))) || (!(!(r10.2 == 0))) then
                              bif ((decide (0 ≤ (List.getD x1 (Int.toNat (w (a9 - 1))) 0))) && (decide ((List.getD x1 (Int.toNat (w (a9 - 1))) 0) < 4))) || !(!(!(r10.2 == 0))) then
                                bif !(!(!(r10.2 == 0))) || (!(!(r10.2 == 0))) then
                                  bif !(!(!(r10.2 == 0))) || (!(!(r10.2 == 0))) then
                                    bif ((decide (0 ≤ (List.getD x1 (Int.toNat a9) 0))) && (decide ((List.getD x1 (Int.toNat a9) 0) < 4))) || !(!(!(r10.2 == 0))) then
                                      bif !(!(!(r10.2 == 0))) || (!(!(r10.2 == 0))) then
                                        bif (decide (((0 + ((Int.toNat (List.getD x1 (Int.toNat (w (a9 - 1))) 0)) * 4)) + ((Int.toNat (List.getD x1 (Int.toNat a9) 0)) * 1)) < 16)) || !(!(!(r10.2 == 0))) then
                                          bif !(!(!(r10.2 == 0))) || (!(!(r10.2 == 0))) then
                                            bif !(!(!(r10.2 == 0))) || (!(!(r10.2 == 0))) then
                                              bif (!(r10.2 == 0)) || (!(!(r10.2 == 0))) then
                                                bif (!(r10.2 == 0)) || (!(r10.1 == (List.getD (vl 16 x0) ((0 + ((Int.toNat (List.getD x1 (Int.toNat (w (a9 - 1))) 0)) * 4)) + ((Int.toNat (List.getD x1 (Int.toNat a9) 0)) * 1)) 0))) then
                                                  some false
                                                else
                                                  F6.l1 N x0 x1 r2 k7 (w (a8 + r10.1)) (w (a9 + 1))
                                              else
                                                none
                                            else
                                              none
                                          else
                                            none
                                        else
                                          none
                                      else
                                        none
                                    else
                                      none
                                  else
                                    none
                                else
                                  none
                              else
                                none
                            else
                              none
                          else
                            none
                        else
                          none
                      else
                        none
                    else
                      none
                  else
                    none
                else
                  none
              else
                none
            else
              none
          else
            none
        else
          none
      else
        none
    else
    bif !(r2.2 == 0) || (r2.2 == 0) then
      bif !(r2.2 == 0) || (r2.2 == 0) then
        bif (!(r2.2 == 0)) || (r2.2 == 0) then
          some ((r2.2 == 0) && (r2.1 == a8))
        else
          none
      else
        none
    else
      none := by kernel_rfl
theorem F6.j0_eq (N : Nat) (x0 : List Int) (x1 : List Int) (r2 : Int × Int) (a5 : Int) {M : Nat} (hM : N = M + 1) : F6.j0 N x0 x1 r2 a5 =
    bif a5 == 0 then
      (F28.fn N x1).bind fun r6 =>
      bif !(r6 == 0) then
        bif !(r2.2 == r6) || (r2.2 == r6) then
          bif (!(r2.2 == r6)) || (r2.2 == r6) then
            some ((r2.2 == r6) && (r2.1 == 0))
          else
            none
        else
          none
      else
        F6.l1 N x0 x1 r2 N 0 1
    else
    bif !(a5 == 0) then
      bif !(r2.2 == a5) || (r2.2 == a5) then
        bif (!(r2.2 == a5)) || (r2.2 == a5) then
          some ((r2.2 == a5) && (r2.1 == 0))
        else
          none
      else
        none
    else
      F6.l1 N x0 x1 r2 N 0 1 := (fuelK_eq hM _).trans (by kernel_rfl)
theorem taut22 : ∀ p0 : Bool, ((!(!(!(p0))) || (!(!(p0))))) = true := by decide
theorem taut23 : ∀ p0 : Bool, (((!(p0)) || (!(!(p0))))) = true := by decide
theorem F6.l1_clean (N : Nat) (x0 : List Int) (x1 : List Int) (r2 : Int × Int) (k7 : Nat) (a8 : Int) (a9 : Int) : F6.l1 N x0 x1 r2 (k7 + 1) a8 a9 =
    bif decide (a9 < (x1.length : Int)) then
      bif (decide (0 ≤ (w (a9 - 1)))) && (decide ((w (a9 - 1)) < (x1.length : Int))) then
        bif (decide (0 ≤ a9)) && (decide (a9 < (x1.length : Int))) then
          (F29.fn N ((vl 16 x0), (List.getD x1 (Int.toNat (w (a9 - 1))) 0), (List.getD x1 (Int.toNat a9) 0))).bind fun r10 =>
          bif ((decide (0 ≤ (w (a9 - 1)))) && (decide ((w (a9 - 1)) < (x1.length : Int)))) || !(!(!(r10.2 == 0))) then
            bif ((decide (0 ≤ a9)) && (decide (a9 < (x1.length : Int)))) || !(!(!(r10.2 == 0))) then
              bif ((decide (0 ≤ (List.getD x1 (Int.toNat (w (a9 - 1))) 0))) && (decide ((List.getD x1 (Int.toNat (w (a9 - 1))) 0) < 4))) || !(!(!(r10.2 == 0))) then
                bif ((decide (0 ≤ (List.getD x1 (Int.toNat a9) 0))) && (decide ((List.getD x1 (Int.toNat a9) 0) < 4))) || !(!(!(r10.2 == 0))) then
                  bif (decide (((0 + ((Int.toNat (List.getD x1 (Int.toNat (w (a9 - 1))) 0)) * 4)) + ((Int.toNat (List.getD x1 (Int.toNat a9) 0)) * 1)) < 16)) || !(!(!(r10.2 == 0))) then
                    bif (!(r10.2 == 0)) || (!(r10.1 == (List.getD (vl 16 x0) ((0 + ((Int.toNat (List.getD x1 (Int.toNat (w (a9 - 1))) 0)) * 4)) + ((Int.toNat (List.getD x1 (Int.toNat a9) 0)) * 1)) 0))) then
                      some false
                    else
                      F6.l1 N x0 x1 r2 k7 (w (a8 + r10.1)) (w (a9 + 1))
                  else
                    none
                else
                  none
              else
                none
            else
              none
          else
            none
        else
          none
      else
        none
    else
    some ((r2.2 == 0) && (r2.1 == a8)) := by
  rw [F6.l1_succ]; simp only [taut22, taut11, taut23, taut21, cond_true]
theorem F6.j0_clean (N : Nat) (x0 : List Int) (x1 : List Int) (r2 : Int × Int) (a5 : Int) {M : Nat} (hM : N = M + 1) : F6.j0 N x0 x1 r2 a5 =
    bif a5 == 0 then
      (F28.fn N x1).bind fun r6 =>
      bif !(r6 == 0) then
        some ((r2.2 == r6) && (r2.1 == 0))
      else
        F6.l1 N x0 x1 r2 N 0 1
    else
    bif !(a5 == 0) then
      some ((r2.2 == a5) && (r2.1 == 0))
    else
      F6.l1 N x0 x1 r2 N 0 1 := by
  rw [F6.j0_eq (hM := hM)]; simp only [taut11, taut21, cond_true]
theorem F6.eq (N : Nat) (x0 : List Int) (x1 : List Int) : F6.fn N (x0, x1) =
    (F24.fn N ()).bind fun r1 =>
    bif !r1 then
      some false
    else
      (F25.fn N ((vl 16 x0), x1)).bind fun r2 =>
      (F26.fn N (vl 16 x0)).bind fun r3 =>
      (F27.fn N (vl 16 x0)).bind fun r4 =>
      bif !(r4 == r3) then
        some false
      else
      bif !(r3 == 0) || (r3 == 0) then
        bif !(r3 == 0) || (r3 == 0) then
          bif (!(r3 == 0)) || (r3 == 0) then
            bif (r3 == 0) && (decide ((x1.length : Int) > 256)) then
              F6.j0 N x0 x1 r2 2
            else
              F6.j0 N x0 x1 r2 r3
          else
            none
        else
          none
      else
        none := by kernel_rfl
theorem F6.clean (N : Nat) (x0 : List Int) (x1 : List Int) : F6.fn N (x0, x1) =
    (F24.fn N ()).bind fun r1 =>
    bif !r1 then
      some false
    else
      (F25.fn N ((vl 16 x0), x1)).bind fun r2 =>
      (F26.fn N (vl 16 x0)).bind fun r3 =>
      (F27.fn N (vl 16 x0)).bind fun r4 =>
      bif !(r4 == r3) then
        some false
      else
      bif (r3 == 0) && (decide ((x1.length : Int) > 256)) then
        F6.j0 N x0 x1 r2 2
      else
        F6.j0 N x0 x1 r2 r3 := by
  rw [F6.eq]; simp only [taut11, taut21, cond_true]

/-! ### F7: skyway/skywaylaw3.WakeClasses -/
def F7.kp : List (Nat × List (Nat × Option (TypeId × Ty))) := [(1000007, [(1, none), (2, none), (3, none), (7, none), (8, none), (9, none)])]
noncomputable def F7.G (N : Nat) : List (Nat × Spec) := [(24, .pure (F24.S N)), (26, .pure (F26.S N)), (28, .pure (F28.S N)), (29, .pure (F29.S N)), (30, .pure (F30.S N))]
noncomputable def F7.E (N : Nat) : Env := mkEnv (F7.G N) N tyTab F7.kp
noncomputable def F7.fn (N : Nat) (x : List Int × Int × Int) : Option Bool := evFn (F7.E N) Try.prog 3 Try.f7 false [.agg (.vec 16 .i64), .cell (.int .i64), .cell (.int .i64)] [.val (.cell (.bool))] x
noncomputable def F7.S (N : Nat) : PSpec := ⟨false, [.agg (.vec 16 .i64), .cell (.int .i64), .cell (.int .i64)], [.val (.cell (.bool))], F7.fn N⟩
theorem f7_enters : Enters Try.prog 7 := ⟨Try.f7, Try.func7, by kernel_rfl, by kernel_rfl⟩
theorem F7.tab (N : Nat) : TabOk Try.prog (F7.G N) := ⟨⟨F24.enters, F24.sound N⟩, ⟨F26.enters, F26.sound N⟩, ⟨F28.enters, F28.sound N⟩, ⟨F29.enters, F29.sound N⟩, ⟨F30.enters, F30.sound N⟩, trivial⟩
theorem F7.enters : Enters Try.prog 7 := f7_enters
theorem F7.sound (N : Nat) : Sound Try.prog 7 (F7.S N) := evFn_sound (specs_tab (F7.tab N)) (inls_tab (F7.tab N)) mixed 3 Try.func7 _ _ _
noncomputable def F7.cd (N : Nat) (p : List Nat) : St → (Ex → St → Option Bool) → Option Bool := ev (F7.E N) Try.prog (callD (F7.E N) Try.prog 3) 0 (codeAt (bodyOf Try.f7) p)
noncomputable def F7.fin : Ex → St → Option Bool := endK Try.prog Try.f7 [.val (.cell (.bool))]
noncomputable def F7.j0 (N : Nat) (x0 : List Int) (x1 : Int) (x2 : Int) (r2 : Int × Int) (a4 : Int) : Option Bool :=
  fuelK N (region (F7.E N) Try.prog (callD (F7.E N) Try.prog 3) (opsAt (codeAt (bodyOf Try.f7) [1, 1, 1, 1, 1, 0, 0])) false
  ⟨[.any, .sc (.int .i64 x1), .sc (.int .i64 x2), .ptr 0 0, .any, .any, .any, .sc (.int .i64 r2.1), .sc (.int .i64 r2.2), .sc (.int .i64 a4), .any, .any, .any, .any, .any, .any, .any, .any, .any, .any, .any, .any, .any, .any, .any, .any, .any, .any, .any, .any, .any, .any, .any, .any, .any, .any, .any, .any, .any, .any, .any, .any, .any, .any, .any, .any, .any, .any, .any, .any, .any, .any, .any], [.cells [.sc (.int .i64 (List.getD x0 0 0)), .sc (.int .i64 (List.getD x0 1 0)), .sc (.int .i64 (List.getD x0 2 0)), .sc (.int .i64 (List.getD x0 3 0)), .sc (.int .i64 (List.getD x0 4 0)), .sc (.int .i64 (List.getD x0 5 0)), .sc (.int .i64 (List.getD x0 6 0)), .sc (.int .i64 (List.getD x0 7 0)), .sc (.int .i64 (List.getD x0 8 0)), .sc (.int .i64 (List.getD x0 9 0)), .sc (.int .i64 (List.getD x0 10 0)), .sc (.int .i64 (List.getD x0 11 0)), .sc (.int .i64 (List.getD x0 12 0)), .sc (.int .i64 (List.getD x0 13 0)), .sc (.int .i64 (List.getD x0 14 0)), .sc (.int .i64 (List.getD x0 15 0))] 44]⟩
  (fun S => (seqK (F7.cd N [1, 1, 1, 1, 1, 0, 1]) (seqK (F7.cd N [1, 1, 1, 1, 1, 1]) F7.fin)) .normal S))
theorem F7.j0_eq (N : Nat) (x0 : List Int) (x1 : Int) (x2 : Int) (r2 : Int × Int) (a4 : Int) {M : Nat} (hM : N = M + 1) : F7.j0 N x0 x1 x2 r2 a4 =
    (F30.fn N x1).bind fun r5 =>
    (F28.fn N [x1]).bind fun r6 =>
    bif !(r5 == r6) then
      some false
    else
    bif !(a4 == 0) then
      bif !(r2.2 == a4) || (r2.2 == a4) then
        bif (!(r2.2 == a4)) || (r2.2 == a4) then
          some ((r2.2 == a4) && (r2.1 == 0))
        else
          none
      else
        none
    else
    bif !(r2.2 == 0) || (r2.2 == 0) then
      bif ((decide (0 ≤ x1)) && (decide (x1 < 4))) || !(r2.2 == 0) then
        bif !(r2.2 == 0) || (r2.2 == 0) then
          bif !(r2.2 == 0) || (r2.2 == 0) then
            bif ((decide (0 ≤ x2)) && (decide (x2 < 4))) || !(r2.2 == 0) then
              bif !(r2.2 == 0) || (r2.2 == 0) then
                bif (decide (((0 + ((Int.toNat x1) * 4)) + ((Int.toNat x2) * 1)) < 16)) || !(r2.2 == 0) then
                  bif !(r2.2 == 0) || (r2.2 == 0) then
                    bif !(r2.2 == 0) || (r2.2 == 0) then
                      bif (!(r2.2 == 0)) || (r2.2 == 0) then
                        some ((r2.2 == 0) && (r2.1 == (List.getD (vl 16 x0) ((0 + ((Int.toNat x1) * 4)) + ((Int.toNat x2) * 1)) 0)))
                      else
                        none
                    else
                      none
                  else
                    none
                else
                  none
              else
                none
            else
              none
          else
            none
        else
          none
      else
        none
    else
      none := (fuelK_eq hM _).trans (by kernel_rfl)
theorem F7.j0_clean (N : Nat) (x0 : List Int) (x1 : Int) (x2 : Int) (r2 : Int × Int) (a4 : Int) {M : Nat} (hM : N = M + 1) : F7.j0 N x0 x1 x2 r2 a4 =
    (F30.fn N x1).bind fun r5 =>
    (F28.fn N [x1]).bind fun r6 =>
    bif !(r5 == r6) then
      some false
    else
    bif !(a4 == 0) then
      some ((r2.2 == a4) && (r2.1 == 0))
    else
    bif ((decide (0 ≤ x1)) && (decide (x1 < 4))) || !(r2.2 == 0) then
      bif ((decide (0 ≤ x2)) && (decide (x2 < 4))) || !(r2.2 == 0) then
        bif (decide (((0 + ((Int.toNat x1) * 4)) + ((Int.toNat x2) * 1)) < 16)) || !(r2.2 == 0) then
          some ((r2.2 == 0) && (r2.1 == (List.getD (vl 16 x0) ((0 + ((Int.toNat x1) * 4)) + ((Int.toNat x2) * 1)) 0)))
        else
          none
      else
        none
    else
      none := by
  rw [F7.j0_eq (hM := hM)]; simp only [taut11, taut21, cond_true]
theorem F7.eq (N : Nat) (x0 : List Int) (x1 : Int) (x2 : Int) : F7.fn N (x0, x1, x2) =
    (F24.fn N ()).bind fun r1 =>
    bif !r1 then
      some false
    else
      (F29.fn N ((vl 16 x0), x1, x2)).bind fun r2 =>
      (F26.fn N (vl 16 x0)).bind fun r3 =>
      bif r3 == 0 then
        (F28.fn N [x1, x2]).bind fun r7 =>
        F7.j0 N x0 x1 x2 r2 r7
      else
        F7.j0 N x0 x1 x2 r2 r3 := by kernel_rfl

/-! ### F8: skyway/skywaylaw3.WakeValids -/
def F8.kp : List (Nat × List (Nat × Option (TypeId × Ty))) := [(10, [(1, none), (2, none), (3, none), (7, none), (8, none), (9, none), (10, none)]), (19, [(1, none), (2, none), (3, none), (7, none), (8, none), (11, none), (88, none), (89, none)]), (22, [(1, none), (2, none), (3, none), (7, none), (8, none), (11, none), (12, none), (13, none), (88, none), (89, none)]), (1000007, [(1, none), (2, none), (3, none), (7, none), (8, none), (9, none)])]
noncomputable def F8.G (N : Nat) : List (Nat × Spec) := [(24, .pure (F24.S N)), (26, .pure (F26.S N)), (28, .pure (F28.S N)), (31, .pure (F31.S N))]
noncomputable def F8.E (N : Nat) : Env := mkEnv (F8.G N) N tyTab F8.kp
noncomputable def F8.fn (N : Nat) (x : List Int × List Int × List Int) : Option Bool := evFn (F8.E N) Try.prog 3 Try.f8 false [.agg (.vec 16 .i64), .cell (.sl 3 (.int .i64)), .cell (.sl 3 (.int .i64))] [.val (.cell (.bool))] x
noncomputable def F8.S (N : Nat) : PSpec := ⟨false, [.agg (.vec 16 .i64), .cell (.sl 3 (.int .i64)), .cell (.sl 3 (.int .i64))], [.val (.cell (.bool))], F8.fn N⟩
theorem f8_enters : Enters Try.prog 8 := ⟨Try.f8, Try.func8, by kernel_rfl, by kernel_rfl⟩
theorem F8.tab (N : Nat) : TabOk Try.prog (F8.G N) := ⟨⟨F24.enters, F24.sound N⟩, ⟨F26.enters, F26.sound N⟩, ⟨F28.enters, F28.sound N⟩, ⟨F31.enters, F31.sound N⟩, trivial⟩
theorem F8.enters : Enters Try.prog 8 := f8_enters
theorem F8.sound (N : Nat) : Sound Try.prog 8 (F8.S N) := evFn_sound (specs_tab (F8.tab N)) (inls_tab (F8.tab N)) mixed 3 Try.func8 _ _ _
noncomputable def F8.cd (N : Nat) (p : List Nat) : St → (Ex → St → Option Bool) → Option Bool := ev (F8.E N) Try.prog (callD (F8.E N) Try.prog 3) 0 (codeAt (bodyOf Try.f8) p)
noncomputable def F8.fin : Ex → St → Option Bool := endK Try.prog Try.f8 [.val (.cell (.bool))]
noncomputable def F8.j0 (N : Nat) (x0 : List Int) (x1 : List Int) (x2 : List Int) (r2 : Bool × Int) (a4 : Int) : Option Bool :=
  fuelK N (region (F8.E N) Try.prog (callD (F8.E N) Try.prog 3) (opsAt (codeAt (bodyOf Try.f8) [1, 1, 1, 1, 1, 0, 0])) false
  ⟨[.any, .ros false 3 (.int .i64) x1, .ros false 3 (.int .i64) x2, .ptr 0 0, .any, .any, .any, .sc (.bool r2.1), .sc (.int .i64 r2.2), .sc (.int .i64 a4), .any, .any, .any, .any, .any, .any, .any, .any, .any, .any, .any, .any, .any, .any, .any, .any, .any, .any, .any, .any, .any, .any, .any, .any, .any, .any, .any, .any, .any, .any, .any, .any, .any, .any, .any, .any, .any, .any, .any, .any, .any, .any, .any, .any, .any, .any, .any, .any, .any, .any, .any, .any, .any, .any, .any, .any, .any, .any, .any, .any, .any, .any, .any, .any, .any, .any, .any, .any, .any, .any, .any, .any, .any, .any, .any, .any, .any, .any, .any, .any, .any, .any, .any, .any, .any, .any, .any, .any, .any, .any, .any, .any, .any, .any, .any, .any, .any, .any, .any, .any, .any, .any, .any, .any, .any, .any, .any, .any, .any, .any, .any, .any, .any, .any, .any, .any, .any, .any, .any, .any, .any, .any], [.cells [.sc (.int .i64 (List.getD x0 0 0)), .sc (.int .i64 (List.getD x0 1 0)), .sc (.int .i64 (List.getD x0 2 0)), .sc (.int .i64 (List.getD x0 3 0)), .sc (.int .i64 (List.getD x0 4 0)), .sc (.int .i64 (List.getD x0 5 0)), .sc (.int .i64 (List.getD x0 6 0)), .sc (.int .i64 (List.getD x0 7 0)), .sc (.int .i64 (List.getD x0 8 0)), .sc (.int .i64 (List.getD x0 9 0)), .sc (.int .i64 (List.getD x0 10 0)), .sc (.int .i64 (List.getD x0 11 0)), .sc (.int .i64 (List.getD x0 12 0)), .sc (.int .i64 (List.getD x0 13 0)), .sc (.int .i64 (List.getD x0 14 0)), .sc (.int .i64 (List.getD x0 15 0))] 44]⟩
  (fun S => (seqK (F8.cd N [1, 1, 1, 1, 1, 0, 1]) (seqK (F8.cd N [1, 1, 1, 1, 1, 1]) F8.fin)) .normal S))
noncomputable def F8.l1 (N : Nat) (x0 : List Int) (x1 : List Int) (x2 : List Int) (r2 : Bool × Int) (k5 : Nat) : Option Bool :=
  loopN (norm ((F8.E N).keep 10) 0) (F8.cd N [1, 1, 1, 1, 1, 1, 0, 1, 0, 0]) k5
  ⟨[.any, .ros false 3 (.int .i64) x1, .ros false 3 (.int .i64) x2, .ptr 0 0, .any, .any, .any, .sc (.bool r2.1), .sc (.int .i64 r2.2), .sc (.int .i64 3), .sc (.int .i64 0), .any, .any, .any, .any, .any, .any, .any, .any, .any, .any, .any, .any, .any, .any, .any, .any, .any, .any, .any, .any, .any, .any, .any, .any, .any, .any, .any, .any, .any, .any, .any, .any, .any, .any, .any, .any, .any, .any, .any, .any, .any, .any, .any, .any, .any, .any, .any, .any, .any, .any, .any, .any, .any, .any, .any, .any, .any, .any, .any, .any, .any, .any, .any, .any, .any, .any, .any, .any, .any, .any, .any, .any, .any, .any, .any, .any, .any, .any, .any, .any, .any, .any, .any, .any, .any, .any, .any, .any, .any, .any, .any, .any, .any, .any, .any, .any, .any, .any, .any, .any, .any, .any, .any, .any, .any, .any, .any, .any, .any, .any, .any, .any, .any, .any, .any, .any, .any, .any, .any, .any, .any], [.cells [.sc (.int .i64 (List.getD x0 0 0)), .sc (.int .i64 (List.getD x0 1 0)), .sc (.int .i64 (List.getD x0 2 0)), .sc (.int .i64 (List.getD x0 3 0)), .sc (.int .i64 (List.getD x0 4 0)), .sc (.int .i64 (List.getD x0 5 0)), .sc (.int .i64 (List.getD x0 6 0)), .sc (.int .i64 (List.getD x0 7 0)), .sc (.int .i64 (List.getD x0 8 0)), .sc (.int .i64 (List.getD x0 9 0)), .sc (.int .i64 (List.getD x0 10 0)), .sc (.int .i64 (List.getD x0 11 0)), .sc (.int .i64 (List.getD x0 12 0)), .sc (.int .i64 (List.getD x0 13 0)), .sc (.int .i64 (List.getD x0 14 0)), .sc (.int .i64 (List.getD x0 15 0))] 44]⟩
  (blockK 0 (seqK (F8.cd N [1, 1, 1, 1, 1, 1, 1]) F8.fin))
noncomputable def F8.l2 (N : Nat) (x0 : List Int) (x1 : List Int) (x2 : List Int) (r2 : Bool × Int) (k6 : Nat) (a7 : Int) (a8 : Int) : Option Bool :=
  loopN (norm ((F8.E N).keep 10) 0) (F8.cd N [1, 1, 1, 1, 1, 1, 0, 1, 0, 0]) k6
  ⟨[.any, .ros false 3 (.int .i64) x1, .ros false 3 (.int .i64) x2, .ptr 0 0, .any, .any, .any, .sc (.bool r2.1), .sc (.int .i64 r2.2), .sc (.int .i64 a7), .sc (.int .i64 a8), .any, .any, .any, .any, .any, .any, .any, .any, .any, .any, .any, .any, .any, .any, .any, .any, .any, .any, .any, .any, .any, .any, .any, .any, .any, .any, .any, .any, .any, .any, .any, .any, .any, .any, .any, .any, .any, .any, .any, .any, .any, .any, .any, .any, .any, .any, .any, .any, .any, .any, .any, .any, .any, .any, .any, .any, .any, .any, .any, .any, .any, .any, .any, .any, .any, .any, .any, .any, .any, .any, .any, .any, .any, .any, .any, .any, .any, .any, .any, .any, .any, .any, .any, .any, .any, .any, .any, .any, .any, .any, .any, .any, .any, .any, .any, .any, .any, .any, .any, .any, .any, .any, .any, .any, .any, .any, .any, .any, .any, .any, .any, .any, .any, .any, .any, .any, .any, .any, .any, .any, .any], [.cells [.sc (.int .i64 (List.getD x0 0 0)), .sc (.int .i64 (List.getD x0 1 0)), .sc (.int .i64 (List.getD x0 2 0)), .sc (.int .i64 (List.getD x0 3 0)), .sc (.int .i64 (List.getD x0 4 0)), .sc (.int .i64 (List.getD x0 5 0)), .sc (.int .i64 (List.getD x0 6 0)), .sc (.int .i64 (List.getD x0 7 0)), .sc (.int .i64 (List.getD x0 8 0)), .sc (.int .i64 (List.getD x0 9 0)), .sc (.int .i64 (List.getD x0 10 0)), .sc (.int .i64 (List.getD x0 11 0)), .sc (.int .i64 (List.getD x0 12 0)), .sc (.int .i64 (List.getD x0 13 0)), .sc (.int .i64 (List.getD x0 14 0)), .sc (.int .i64 (List.getD x0 15 0))] 44]⟩
  (blockK 0 (seqK (F8.cd N [1, 1, 1, 1, 1, 1, 1]) F8.fin))
noncomputable def F8.l3 (N : Nat) (x0 : List Int) (x1 : List Int) (x2 : List Int) (r2 : Bool × Int) (k10 : Nat) (a11 : Bool) (a12 : Int) : Option Bool :=
  loopN (norm ((F8.E N).keep 19) 0) (F8.cd N [1, 1, 1, 1, 1, 1, 1, 1, 1, 0, 1, 0, 0]) k10
  ⟨[.any, .ros false 3 (.int .i64) x1, .ros false 3 (.int .i64) x2, .ptr 0 0, .any, .any, .any, .sc (.bool r2.1), .sc (.int .i64 r2.2), .any, .any, .sc (.bool a11), .any, .any, .any, .any, .any, .any, .any, .any, .any, .any, .any, .any, .any, .any, .any, .any, .any, .any, .any, .any, .any, .any, .any, .any, .any, .any, .any, .any, .any, .any, .any, .any, .any, .any, .any, .any, .any, .any, .any, .any, .any, .any, .any, .any, .any, .any, .any, .any, .any, .any, .any, .any, .any, .any, .any, .any, .any, .any, .any, .any, .any, .any, .any, .any, .any, .any, .any, .any, .any, .any, .any, .any, .any, .any, .any, .any, .sc (.int .i64 (x2.length : Int)), .sc (.int .i64 a12), .any, .any, .any, .any, .any, .any, .any, .any, .any, .any, .any, .any, .any, .any, .any, .any, .any, .any, .any, .any, .any, .any, .any, .any, .any, .any, .any, .any, .any, .any, .any, .any, .any, .any, .any, .any, .any, .any, .any, .any, .any, .any], [.cells [.sc (.int .i64 (List.getD x0 0 0)), .sc (.int .i64 (List.getD x0 1 0)), .sc (.int .i64 (List.getD x0 2 0)), .sc (.int .i64 (List.getD x0 3 0)), .sc (.int .i64 (List.getD x0 4 0)), .sc (.int .i64 (List.getD x0 5 0)), .sc (.int .i64 (List.getD x0 6 0)), .sc (.int .i64 (List.getD x0 7 0)), .sc (.int .i64 (List.getD x0 8 0)), .sc (.int .i64 (List.getD x0 9 0)), .sc (.int .i64 (List.getD x0 10 0)), .sc (.int .i64 (List.getD x0 11 0)), .sc (.int .i64 (List.getD x0 12 0)), .sc (.int .i64 (List.getD x0 13 0)), .sc (.int .i64 (List.getD x0 14 0)), .sc (.int .i64 (List.getD x0 15 0))] 44]⟩
  (blockK 2 (seqK (F8.cd N [1, 1, 1, 1, 1, 1, 1, 1, 1, 1]) F8.fin))
noncomputable def F8.l4 (N : Nat) (x0 : List Int) (x1 : List Int) (x2 : List Int) (r2 : Bool × Int) (k10 : Nat) (a12 : Int) (k13 : Nat) (a14 : Bool) (a15 : Int) : Option Bool :=
  loopN (norm ((F8.E N).keep 22) 0) (F8.cd N [1, 1, 1, 1, 1, 1, 1, 1, 1, 0, 1, 0, 0, 1, 1, 0, 0, 1, 1, 0, 0]) k13
  ⟨[.any, .ros false 3 (.int .i64) x1, .ros false 3 (.int .i64) x2, .ptr 0 0, .any, .any, .any, .sc (.bool r2.1), .sc (.int .i64 r2.2), .any, .any, .sc (.bool a14), .sc (.int .i64 a12), .sc (.int .i64 a15), .any, .any, .any, .any, .any, .any, .any, .any, .any, .any, .any, .any, .any, .any, .any, .any, .any, .any, .any, .any, .any, .any, .any, .any, .any, .any, .any, .any, .any, .any, .any, .any, .any, .any, .any, .any, .any, .any, .any, .any, .any, .any, .any, .any, .any, .any, .any, .any, .any, .any, .any, .any, .any, .any, .any, .any, .any, .any, .any, .any, .any, .any, .any, .any, .any, .any, .any, .any, .any, .any, .any, .any, .any, .any, .sc (.int .i64 (x2.length : Int)), .sc (.int .i64 a12), .any, .any, .any, .any, .any, .any, .any, .any, .any, .any, .any, .any, .any, .any, .any, .any, .any, .any, .any, .any, .any, .any, .any, .any, .any, .any, .any, .any, .any, .any, .any, .any, .any, .any, .any, .any, .any, .any, .any, .any, .any, .any], [.cells [.sc (.int .i64 (List.getD x0 0 0)), .sc (.int .i64 (List.getD x0 1 0)), .sc (.int .i64 (List.getD x0 2 0)), .sc (.int .i64 (List.getD x0 3 0)), .sc (.int .i64 (List.getD x0 4 0)), .sc (.int .i64 (List.getD x0 5 0)), .sc (.int .i64 (List.getD x0 6 0)), .sc (.int .i64 (List.getD x0 7 0)), .sc (.int .i64 (List.getD x0 8 0)), .sc (.int .i64 (List.getD x0 9 0)), .sc (.int .i64 (List.getD x0 10 0)), .sc (.int .i64 (List.getD x0 11 0)), .sc (.int .i64 (List.getD x0 12 0)), .sc (.int .i64 (List.getD x0 13 0)), .sc (.int .i64 (List.getD x0 14 0)), .sc (.int .i64 (List.getD x0 15 0))] 44]⟩
  (blockK 4 (blockK 3 (seqK (F8.cd N [1, 1, 1, 1, 1, 1, 1, 1, 1, 0, 1, 0, 0, 1, 1, 1]) (loopK (norm ((F8.E N).keep 19) 0) (F8.cd N [1, 1, 1, 1, 1, 1, 1, 1, 1, 0, 1, 0, 0]) k10 (blockK 2 (seqK (F8.cd N [1, 1, 1, 1, 1, 1, 1, 1, 1, 1]) F8.fin))))))
theorem F8.l4_zero (N : Nat) (x0 : List Int) (x1 : List Int) (x2 : List Int) (r2 : Bool × Int) (k10 : Nat) (a12 : Int) (a14 : Bool) (a15 : Int) : F8.l4 N x0 x1 x2 r2 k10 a12 0 a14 a15 = none := by kernel_rfl
theorem F8.l4_succ (N : Nat) (x0 : List Int) (x1 : List Int) (x2 : List Int) (r2 : Bool × Int) (k10 : Nat) (a12 : Int) (k13 : Nat) (a14 : Bool) (a15 : Int) : F8.l4 N x0 x1 x2 r2 k10 a12 (k13 + 1) a14 a15 =
    bif decide (a15 < (x2.length : Int)) then
      bif !a14 || a14 then
        bif !a14 || a14 then
          bif ((decide (0 ≤ a15)) && (decide (a15 < (x2.length : Int)))) || !a14 then
            bif !a14 || a14 then
              bif !a14 || a14 then
                bif !a14 || a14 then
                  bif ((decide (0 ≤ a12)) && (decide (a12 < (x2.length : Int)))) || !a14 then
                    bif !a14 || a14 then
                      bif !a14 || a14 then
                        bif !a14 || a14 then
                          bif !a14 || a14 then
                            bif !a14 || a14 then
                              bif ((decide (0 ≤ a12)) && (decide (a12 < (x1.length : Int)))) || !a14 then
                                bif !a14 || a14 then
                                  bif !a14 || a14 then
                                    bif !a14 || a14 then
                                      bif ((decide (0 ≤ a15)) && (decide (a15 < (x1.length : Int)))) || !a14 then
                                        bif !a14 || a14 then
                                          bif !a14 || a14 then
                                            bif ((decide (0 ≤ (List.getD x1 (Int.toNat a12) 0))) && (decide ((List.getD x1 (Int.toNat a12) 0) < 4))) || !a14 then
                                              bif !a14 || a14 then
                                                bif !a14 || a14 then
                                                  bif ((decide (0 ≤ (List.getD x1 (Int.toNat a15) 0))) && (decide ((List.getD x1 (Int.toNat a15) 0) < 4))) || !a14 then
                                                    bif !a14 || a14 then
                                                      bif (decide (((0 + ((Int.toNat (List.getD x1 (Int.toNat a12) 0)) * 4)) + ((Int.toNat (List.getD x1 (Int.toNat a15) 0)) * 1)) < 16)) || !a14 then
                                                        bif !a14 || a14 then
                                                          bif !a14 || a14 then
                                                            bif (!a14) || a14 then
                                                              F8.l4 N x0 x1 x2 r2 k10 a12 k13 (a14 && (decide ((w ((List.getD x2 (Int.toNat a15) 0) - (List.getD x2 (Int.toNat a12) 0))) ≥ (List.getD (vl 16 x0) ((0 + ((Int.toNat (List.getD x1 (Int.toNat a12) 0)) * 4)) + ((Int.toNat (List.getD x1 (Int.toNat a15) 0)) * 1)) 0)))) (w (a15 + 1))
                                                            else
                                                              none
                                                          else
                                                            none
                                                        else
                                                          none
                                                      else
                                                        none
                                                    else
                                                      none
                                                  else
                                                    none
                                                else
                                                  none
                                              else
                                                none
                                            else
                                              none
                                          else
                                            none
                                        else
                                          none
                                      else
                                        none
                                    else
                                      none
                                  else
                                    none
                                else
                                  none
                              else
                                none
                            else
                              none
                          else
                            none
                        else
                          none
                      else
                        none
                    else
                      none
                  else
                    none
                else
                  none
              else
                none
            else
              none
          else
            none
        else
          none
      else
        none
    else
      F8.l3 N x0 x1 x2 r2 k10 a14 (w (a12 + 1)) := by kernel_rfl
theorem F8.l3_zero (N : Nat) (x0 : List Int) (x1 : List Int) (x2 : List Int) (r2 : Bool × Int) (a11 : Bool) (a12 : Int) : F8.l3 N x0 x1 x2 r2 0 a11 a12 = none := by kernel_rfl
theorem F8.l3_succ (N : Nat) (x0 : List Int) (x1 : List Int) (x2 : List Int) (r2 : Bool × Int) (k10 : Nat) (a11 : Bool) (a12 : Int) : F8.l3 N x0 x1 x2 r2 (k10 + 1) a11 a12 =
    bif decide (a12 < (x2.length : Int)) then
      F8.l4 N x0 x1 x2 r2 k10 a12 N a11 (w (a12 + 1))
    else
    bif !(r2.2 == 0) || (r2.2 == 0) then
      bif !(r2.2 == 0) || (r2.2 == 0) then
        bif (!(r2.2 == 0)) || (r2.2 == 0) then
          some ((r2.2 == 0) && (r2.1 == a11))
        else
          none
      else
        none
    else
      none := by kernel_rfl
theorem F8.l2_zero (N : Nat) (x0 : List Int) (x1 : List Int) (x2 : List Int) (r2 : Bool × Int) (a7 : Int) (a8 : Int) : F8.l2 N x0 x1 x2 r2 0 a7 a8 = none := by kernel_rfl
theorem F8.l2_succ (N : Nat) (x0 : List Int) (x1 : List Int) (x2 : List Int) (r2 : Bool × Int) (k6 : Nat) (a7 : Int) (a8 : Int) : F8.l2 N x0 x1 x2 r2 (k6 + 1) a7 a8 =
    bif !(a7 == 0) || (a7 == 0) then
      bif !(a7 == 0) || (a7 == 0) then
        bif !(a7 == 0) || (a7 == 0) then
          bif (!(a7 == 0)) || (a7 == 0) then
            bif (a7 == 0) && (decide (a8 < (x1.length : Int))) then
              bif ((decide (0 ≤ a8)) && (decide (a8 ≤ (w (a8 + 1))))) && (decide ((w (a8 + 1)) ≤ (x1.length : Int))) then
                (F28.fn N (List.drop (Int.toNat a8) (List.take (Int.toNat (w (a8 + 1))) x1))).bind fun r9 =>
                bif !(r9 == 0) || (r9 == 0) then
                  bif !(r9 == 0) || (r9 == 0) then
                    bif ((decide (0 ≤ a8)) && (decide (a8 < (x2.length : Int)))) || !(r9 == 0) then
                      bif !(r9 == 0) || (r9 == 0) then
                        bif !(r9 == 0) || (r9 == 0) then
                          bif !(r9 == 0) || (r9 == 0) then
                            bif !((r9 == 0) && (!(decide ((List.getD x2 (Int.toNat a8) 0) < 0)))) || ((r9 == 0) && (!(decide ((List.getD x2 (Int.toNat a8) 0) < 0)))) then
                              bif !((r9 == 0) && (!(decide ((List.getD x2 (Int.toNat a8) 0) < 0)))) || ((r9 == 0) && (!(decide ((List.getD x2 (Int.toNat a8) 0) < 0)))) then
                                bif ((decide (0 ≤ a8)) && (decide (a8 < (x2.length : Int)))) || !((r9 == 0) && (!(decide ((List.getD x2 (Int.toNat a8) 0) < 0)))) then
                                  bif !((r9 == 0) && (!(decide ((List.getD x2 (Int.toNat a8) 0) < 0)))) || ((r9 == 0) && (!(decide ((List.getD x2 (Int.toNat a8) 0) < 0)))) then
                                    bif !((r9 == 0) && (!(decide ((List.getD x2 (Int.toNat a8) 0) < 0)))) || ((r9 == 0) && (!(decide ((List.getD x2 (Int.toNat a8) 0) < 0)))) then
                                      bif !(r9 == 0) || (r9 == 0) then
                                        bif !(r9 == 0) || ((decide ((List.getD x2 (Int.toNat a8) 0) < 0)) || ((r9 == 0) && (!(decide ((List.getD x2 (Int.toNat a8) 0) < 0))))) then
                                          bif (!(r9 == 0)) || (r9 == 0) then
                                            bif (r9 == 0) && ((decide ((List.getD x2 (Int.toNat a8) 0) < 0)) || (decide ((List.getD x2 (Int.toNat a8) 0) > 200000))) then
                                              F8.l2 N x0 x1 x2 r2 k6 12 (w (a8 + 1))
                                            else
                                              F8.l2 N x0 x1 x2 r2 k6 r9 (w (a8 + 1))
                                          else
                                            none
                                        else
                                          none
                                      else
                                        none
                                    else
                                      none
                                  else
                                    none
                                else
                                  none
                              else
                                none
                            else
                              none
                          else
                            none
                        else
                          none
                      else
                        none
                    else
                      none
                  else
                    none
                else
                  none
              else
                none
            else
            bif !(a7 == 0) then
              bif !(r2.2 == a7) || (r2.2 == a7) then
                bif (!(r2.2 == a7)) || (r2.2 == a7) then
                  some ((r2.2 == a7) && (!r2.1))
                else
                  none
              else
                none
            else
              F8.l3 N x0 x1 x2 r2 N true 0
          else
            none
        else
          none
      else
        none
    else
      none := by kernel_rfl
theorem F8.l1_zero (N : Nat) (x0 : List Int) (x1 : List Int) (x2 : List Int) (r2 : Bool × Int) : F8.l1 N x0 x1 x2 r2 0 = none := by kernel_rfl
theorem F8.l1_succ (N : Nat) (x0 : List Int) (x1 : List Int) (x2 : List Int) (r2 : Bool × Int) (k5 : Nat) : F8.l1 N x0 x1 x2 r2 (k5 + 1) =
    bif !(r2.2 == 3) || (r2.2 == 3) then
      bif (!(r2.2 == 3)) || (r2.2 == 3) then
        some ((r2.2 == 3) && (!r2.1))
      else
        none
    else
      none := by kernel_rfl
theorem F8.j0_eq (N : Nat) (x0 : List Int) (x1 : List Int) (x2 : List Int) (r2 : Bool × Int) (a4 : Int) {M : Nat} (hM : N = M + 1) : F8.j0 N x0 x1 x2 r2 a4 =
    bif !(a4 == 0) || (a4 == 0) then
      bif !(a4 == 0) || (a4 == 0) then
        bif !(a4 == 0) || (a4 == 0) then
          bif !(a4 == 0) || (a4 == 0) then
            bif (!(a4 == 0)) || (a4 == 0) then
              bif (a4 == 0) && (!((x1.length : Int) == (x2.length : Int))) then
                F8.l1 N x0 x1 x2 r2 N
              else
                F8.l2 N x0 x1 x2 r2 N a4 0
            else
              none
          else
            none
        else
          none
      else
        none
    else
      none := (fuelK_eq hM _).trans (by kernel_rfl)
theorem taut24 : ∀ p0 : Bool, ((!p0 || p0)) = true := by decide
theorem taut25 : ∀ p0 : Bool, (((!p0) || p0)) = true := by decide
theorem F8.l4_clean (N : Nat) (x0 : List Int) (x1 : List Int) (x2 : List Int) (r2 : Bool × Int) (k10 : Nat) (a12 : Int) (k13 : Nat) (a14 : Bool) (a15 : Int) : F8.l4 N x0 x1 x2 r2 k10 a12 (k13 + 1) a14 a15 =
    bif decide (a15 < (x2.length : Int)) then
      bif ((decide (0 ≤ a15)) && (decide (a15 < (x2.length : Int)))) || !a14 then
        bif ((decide (0 ≤ a12)) && (decide (a12 < (x2.length : Int)))) || !a14 then
          bif ((decide (0 ≤ a12)) && (decide (a12 < (x1.length : Int)))) || !a14 then
            bif ((decide (0 ≤ a15)) && (decide (a15 < (x1.length : Int)))) || !a14 then
              bif ((decide (0 ≤ (List.getD x1 (Int.toNat a12) 0))) && (decide ((List.getD x1 (Int.toNat a12) 0) < 4))) || !a14 then
                bif ((decide (0 ≤ (List.getD x1 (Int.toNat a15) 0))) && (decide ((List.getD x1 (Int.toNat a15) 0) < 4))) || !a14 then
                  bif (decide (((0 + ((Int.toNat (List.getD x1 (Int.toNat a12) 0)) * 4)) + ((Int.toNat (List.getD x1 (Int.toNat a15) 0)) * 1)) < 16)) || !a14 then
                    F8.l4 N x0 x1 x2 r2 k10 a12 k13 (a14 && (decide ((w ((List.getD x2 (Int.toNat a15) 0) - (List.getD x2 (Int.toNat a12) 0))) ≥ (List.getD (vl 16 x0) ((0 + ((Int.toNat (List.getD x1 (Int.toNat a12) 0)) * 4)) + ((Int.toNat (List.getD x1 (Int.toNat a15) 0)) * 1)) 0)))) (w (a15 + 1))
                  else
                    none
                else
                  none
              else
                none
            else
              none
          else
            none
        else
          none
      else
        none
    else
      F8.l3 N x0 x1 x2 r2 k10 a14 (w (a12 + 1)) := by
  rw [F8.l4_succ]; simp only [taut24, taut25, cond_true]
theorem F8.l3_clean (N : Nat) (x0 : List Int) (x1 : List Int) (x2 : List Int) (r2 : Bool × Int) (k10 : Nat) (a11 : Bool) (a12 : Int) : F8.l3 N x0 x1 x2 r2 (k10 + 1) a11 a12 =
    bif decide (a12 < (x2.length : Int)) then
      F8.l4 N x0 x1 x2 r2 k10 a12 N a11 (w (a12 + 1))
    else
    some ((r2.2 == 0) && (r2.1 == a11)) := by
  rw [F8.l3_succ]; simp only [taut11, taut21, cond_true]
theorem taut26 : ∀ p0 p1 : Bool, ((!((p0) && (!(p1))) || ((p0) && (!(p1))))) = true := by decide
theorem taut27 : ∀ p0 p1 : Bool, ((!(p0) || ((p1) || ((p0) && (!(p1)))))) = true := by decide
theorem F8.l2_clean (N : Nat) (x0 : List Int) (x1 : List Int) (x2 : List Int) (r2 : Bool × Int) (k6 : Nat) (a7 : Int) (a8 : Int) : F8.l2 N x0 x1 x2 r2 (k6 + 1) a7 a8 =
    bif (a7 == 0) && (decide (a8 < (x1.length : Int))) then
      bif ((decide (0 ≤ a8)) && (decide (a8 ≤ (w (a8 + 1))))) && (decide ((w (a8 + 1)) ≤ (x1.length : Int))) then
        (F28.fn N (List.drop (Int.toNat a8) (List.take (Int.toNat (w (a8 + 1))) x1))).bind fun r9 =>
        bif ((decide (0 ≤ a8)) && (decide (a8 < (x2.length : Int)))) || !(r9 == 0) then
          bif ((decide (0 ≤ a8)) && (decide (a8 < (x2.length : Int)))) || !((r9 == 0) && (!(decide ((List.getD x2 (Int.toNat a8) 0) < 0)))) then
            bif (r9 == 0) && ((decide ((List.getD x2 (Int.toNat a8) 0) < 0)) || (decide ((List.getD x2 (Int.toNat a8) 0) > 200000))) then
              F8.l2 N x0 x1 x2 r2 k6 12 (w (a8 + 1))
            else
              F8.l2 N x0 x1 x2 r2 k6 r9 (w (a8 + 1))
          else
            none
        else
          none
      else
        none
    else
    bif !(a7 == 0) then
      some ((r2.2 == a7) && (!r2.1))
    else
      F8.l3 N x0 x1 x2 r2 N true 0 := by
  rw [F8.l2_succ]; simp only [taut26, taut27, taut11, taut21, cond_true]
theorem F8.l1_clean (N : Nat) (x0 : List Int) (x1 : List Int) (x2 : List Int) (r2 : Bool × Int) (k5 : Nat) : F8.l1 N x0 x1 x2 r2 (k5 + 1) =
    some ((r2.2 == 3) && (!r2.1)) := by
  rw [F8.l1_succ]; simp only [taut11, taut21, cond_true]
theorem F8.j0_clean (N : Nat) (x0 : List Int) (x1 : List Int) (x2 : List Int) (r2 : Bool × Int) (a4 : Int) {M : Nat} (hM : N = M + 1) : F8.j0 N x0 x1 x2 r2 a4 =
    bif (a4 == 0) && (!((x1.length : Int) == (x2.length : Int))) then
      F8.l1 N x0 x1 x2 r2 N
    else
      F8.l2 N x0 x1 x2 r2 N a4 0 := by
  rw [F8.j0_eq (hM := hM)]; simp only [taut11, taut21, cond_true]
theorem F8.eq (N : Nat) (x0 : List Int) (x1 : List Int) (x2 : List Int) : F8.fn N (x0, x1, x2) =
    (F24.fn N ()).bind fun r1 =>
    bif !r1 then
      some false
    else
      (F31.fn N ((vl 16 x0), x1, x2)).bind fun r2 =>
      (F26.fn N (vl 16 x0)).bind fun r3 =>
      bif !(r3 == 0) || (r3 == 0) then
        bif !(r3 == 0) || (r3 == 0) then
          bif !(r3 == 0) || (r3 == 0) then
            bif !((r3 == 0) && (!(decide ((x1.length : Int) > 256)))) || ((r3 == 0) && (!(decide ((x1.length : Int) > 256)))) then
              bif !((r3 == 0) && (!(decide ((x1.length : Int) > 256)))) || ((r3 == 0) && (!(decide ((x1.length : Int) > 256)))) then
                bif !(r3 == 0) || (r3 == 0) then
                  bif !(r3 == 0) || ((decide ((x1.length : Int) > 256)) || ((r3 == 0) && (!(decide ((x1.length : Int) > 256))))) then
                    bif (!(r3 == 0)) || (r3 == 0) then
                      bif (r3 == 0) && ((decide ((x1.length : Int) > 256)) || (decide ((x2.length : Int) > 256))) then
                        F8.j0 N x0 x1 x2 r2 2
                      else
                        F8.j0 N x0 x1 x2 r2 r3
                    else
                      none
                  else
                    none
                else
                  none
              else
                none
            else
              none
          else
            none
        else
          none
      else
        none := by kernel_rfl
theorem F8.clean (N : Nat) (x0 : List Int) (x1 : List Int) (x2 : List Int) : F8.fn N (x0, x1, x2) =
    (F24.fn N ()).bind fun r1 =>
    bif !r1 then
      some false
    else
      (F31.fn N ((vl 16 x0), x1, x2)).bind fun r2 =>
      (F26.fn N (vl 16 x0)).bind fun r3 =>
      bif (r3 == 0) && ((decide ((x1.length : Int) > 256)) || (decide ((x2.length : Int) > 256))) then
        F8.j0 N x0 x1 x2 r2 2
      else
        F8.j0 N x0 x1 x2 r2 r3 := by
  rw [F8.eq]; simp only [taut26, taut27, taut11, taut21, cond_true]

end Go.Proofs.Ytalaepaomnfgjaa.Sk
