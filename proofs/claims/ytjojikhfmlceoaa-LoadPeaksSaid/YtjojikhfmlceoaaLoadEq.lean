/- PRINTED by gen.py: what the functions answer, part 3. Not trusted: Lean checks it. -/
import Derived.Test.YtjojikhfmlceoaaLoadEq2
set_option linter.unusedVariables false
set_option linter.unusedSimpArgs false
set_option maxRecDepth 100000
namespace Go.Proofs.Ytjojikhfmlceoaa.Sk
open Go
/-! ### law_LoadPeaks: skyway/skywaylaw3.LoadPeaks -/
def law_LoadPeaks.kp : List (Nat × List (Nat × Option (TypeId × Ty))) := [(15, [(0, none), (1, none), (5, none), (7, none), (8, none), (11, none), (12, none)]), (23, [(0, none), (1, none), (5, none), (7, none), (8, none), (11, none), (12, none), (13, none), (104, none), (105, none)]), (1000007, [(0, none), (1, none), (5, none), (7, none), (8, none), (9, none), (10, none)]), (1000022, [(0, none), (1, none), (5, none), (7, none), (8, none), (11, none), (12, none), (13, none)])]
noncomputable def law_LoadPeaks.G (N : Nat) : List (Nat × Spec) := [(28, .pure (law_loadFact.S N)), (29, .pure (load_Count.S N)), (30, .pure (law_loadError.S N)), (32, .pure (load_Peaks.S N)), (33, .pure (law_spanError.S N)), (34, .pure (slices_Contains_bool.S N))]
noncomputable def law_LoadPeaks.E (N : Nat) : Env := mkEnv (law_LoadPeaks.G N) N tyTab law_LoadPeaks.kp
noncomputable def law_LoadPeaks.fn (N : Nat) (x : List (ByteArray × List (List (Int × Int) × Int × Int)) × List (List ((Int × (Int × Int) × Int) × Int × Int)) × Int × Int) : Option Bool := evFn (law_LoadPeaks.E N) Try.prog 3 Try.f8 false [.cell (.sl 106 (.pair (.str) (.sl 113 (.pair (.sl 29 (.pair (.int .i64) (.int .i64))) (.pair (.int .i64) (.int .i64)))))), .cell (.sl 40 (.sl 44 (.pair (.pair (.int .i64) (.pair (.pair (.int .i64) (.int .i64)) (.int .i64))) (.pair (.int .i64) (.int .i64))))), .agg (.pair (.int .i64) (.int .i64))] [.val (.cell (.bool))] x
noncomputable def law_LoadPeaks.S (N : Nat) : PSpec := ⟨false, [.cell (.sl 106 (.pair (.str) (.sl 113 (.pair (.sl 29 (.pair (.int .i64) (.int .i64))) (.pair (.int .i64) (.int .i64)))))), .cell (.sl 40 (.sl 44 (.pair (.pair (.int .i64) (.pair (.pair (.int .i64) (.int .i64)) (.int .i64))) (.pair (.int .i64) (.int .i64))))), .agg (.pair (.int .i64) (.int .i64))], [.val (.cell (.bool))], law_LoadPeaks.fn N⟩
theorem f8_enters : Enters Try.prog 8 := ⟨Try.f8, Try.func8, by kernel_rfl, by kernel_rfl⟩
theorem law_LoadPeaks.tab (N : Nat) : TabOk Try.prog (law_LoadPeaks.G N) := ⟨⟨law_loadFact.enters, law_loadFact.sound N⟩, ⟨load_Count.enters, load_Count.sound N⟩, ⟨law_loadError.enters, law_loadError.sound N⟩, ⟨load_Peaks.enters, load_Peaks.sound N⟩, ⟨law_spanError.enters, law_spanError.sound N⟩, ⟨slices_Contains_bool.enters, slices_Contains_bool.sound N⟩, trivial⟩
theorem law_LoadPeaks.enters : Enters Try.prog 8 := f8_enters
theorem law_LoadPeaks.sound (N : Nat) : Sound Try.prog 8 (law_LoadPeaks.S N) := evFn_sound (specs_tab (law_LoadPeaks.tab N)) (inls_tab (law_LoadPeaks.tab N)) mixed 3 Try.func8 _ _ _
noncomputable def law_LoadPeaks.cd (N : Nat) (p : List Nat) : St → (Ex → St → Option Bool) → Option Bool := ev (law_LoadPeaks.E N) Try.prog (callD (law_LoadPeaks.E N) Try.prog 3) 0 (codeAt (bodyOf Try.f8) p)
noncomputable def law_LoadPeaks.fin : Ex → St → Option Bool := endK Try.prog Try.f8 [.val (.cell (.bool))]
noncomputable def law_LoadPeaks.j0 (N : Nat) (x0 : List (ByteArray × List (List (Int × Int) × Int × Int))) (x1 : List (List ((Int × (Int × Int) × Int) × Int × Int))) (x2 : Int × Int) (r2 : List Int × List Int × Int) (a4 : Int) : Option Bool :=
  fuelK N (region (law_LoadPeaks.E N) Try.prog (callD (law_LoadPeaks.E N) Try.prog 3) (opsAt (codeAt (bodyOf Try.f8) [1, 1, 1, 1, 1, 0, 0])) false
  ⟨[.ros false 106 (.pair (.str) (.sl 113 (.pair (.sl 29 (.pair (.int .i64) (.int .i64))) (.pair (.int .i64) (.int .i64))))) x0, .ros false 40 (.sl 44 (.pair (.pair (.int .i64) (.pair (.pair (.int .i64) (.int .i64)) (.int .i64))) (.pair (.int .i64) (.int .i64)))) x1, .any, .any, .any, .ptr 0 0, .any, .own 1, .own 2, .sc (.int .i64 r2.2.2), .sc (.int .i64 a4), .any, .any, .any, .any, .any, .any, .any, .any, .any, .any, .any, .any, .any, .any, .any, .any, .any, .any, .any, .any, .any, .any, .any, .any, .any, .any, .any, .any, .any, .any, .any, .any, .any, .any, .any, .any, .any, .any, .any, .any, .any, .any, .any, .any, .any, .any, .any, .any, .any, .any, .any, .any, .any, .any, .any, .any, .any, .any, .any, .any, .any, .any, .any, .any, .any, .any, .any, .any, .any, .any, .any, .any, .any, .any, .any, .any, .any, .any, .any, .any, .any, .any, .any, .any, .any, .any, .any, .any, .any, .any, .any, .any, .any, .any, .any, .any, .any, .any, .any, .any, .any, .any, .any, .any, .any, .any, .any, .any, .any, .any, .any, .any, .any, .any, .any, .any, .any, .any, .any, .any, .any, .any, .any, .any, .any, .any, .any, .any, .any, .any, .any, .any, .any, .any, .any, .any, .any, .any, .any, .any, .any, .any, .any, .any, .any, .any, .any, .any, .any, .any, .any, .any, .any, .any], [.cells [.sc (.int .i64 x2.1), .sc (.int .i64 x2.2)] 63, .rows true 3 (.int .i64) r2.1, .rows true 3 (.int .i64) r2.2.1]⟩
  (fun S => (seqK (law_LoadPeaks.cd N [1, 1, 1, 1, 1, 0, 1]) (seqK (law_LoadPeaks.cd N [1, 1, 1, 1, 1, 1]) law_LoadPeaks.fin)) .normal S))
noncomputable def law_LoadPeaks.l1 (N : Nat) (x0 : List (ByteArray × List (List (Int × Int) × Int × Int))) (x1 : List (List ((Int × (Int × Int) × Int) × Int × Int))) (x2 : Int × Int) (r2 : List Int × List Int × Int) (k5 : Nat) (a6 : Int) (a7 : List Bool) : Option Bool :=
  loopN (norm ((law_LoadPeaks.E N).keep 15) 0) (law_LoadPeaks.cd N [1, 1, 1, 1, 1, 1, 1, 1, 1, 0, 1, 0, 0]) k5
  ⟨[.ros false 106 (.pair (.str) (.sl 113 (.pair (.sl 29 (.pair (.int .i64) (.int .i64))) (.pair (.int .i64) (.int .i64))))) x0, .ros false 40 (.sl 44 (.pair (.pair (.int .i64) (.pair (.pair (.int .i64) (.int .i64)) (.int .i64))) (.pair (.int .i64) (.int .i64)))) x1, .any, .any, .any, .ptr 0 0, .any, .own 1, .own 2, .any, .any, .own 3, .sc (.int .i64 a6), .any, .any, .any, .any, .any, .any, .any, .any, .any, .any, .any, .any, .any, .any, .any, .any, .any, .any, .any, .any, .any, .any, .any, .any, .any, .any, .any, .any, .any, .any, .any, .any, .any, .any, .any, .any, .any, .any, .any, .any, .any, .any, .any, .any, .any, .any, .any, .any, .any, .any, .any, .any, .any, .any, .any, .any, .any, .any, .any, .any, .any, .any, .any, .any, .any, .any, .any, .any, .any, .any, .any, .any, .any, .any, .any, .any, .any, .any, .any, .any, .any, .any, .any, .any, .any, .any, .any, .any, .any, .any, .any, .any, .any, .any, .any, .any, .any, .any, .any, .any, .any, .any, .any, .any, .any, .any, .any, .any, .any, .any, .any, .any, .any, .any, .any, .any, .any, .any, .any, .any, .any, .any, .any, .any, .any, .any, .any, .any, .any, .any, .any, .any, .any, .any, .any, .any, .any, .any, .any, .any, .any, .any, .any, .any, .any, .any, .any, .any, .any, .any, .any, .any], [.cells [.sc (.int .i64 x2.1), .sc (.int .i64 x2.2)] 63, .rows true 3 (.int .i64) r2.1, .rows true 3 (.int .i64) r2.2.1, .rows true 4 (.bool) a7]⟩
  (blockK 0 (seqK (law_LoadPeaks.cd N [1, 1, 1, 1, 1, 1, 1, 1, 1, 1]) law_LoadPeaks.fin))
noncomputable def law_LoadPeaks.j2 (N : Nat) (x0 : List (ByteArray × List (List (Int × Int) × Int × Int))) (x1 : List (List ((Int × (Int × Int) × Int) × Int × Int))) (x2 : Int × Int) (r2 : List Int × List Int × Int) (k5 : Nat) (a6 : Int) (a7 : List Bool) (a9 : List Int) : Option Bool :=
  fuelK N (region (law_LoadPeaks.E N) Try.prog (callD (law_LoadPeaks.E N) Try.prog 3) (opsAt (codeAt (bodyOf Try.f8) [1, 1, 1, 1, 1, 1, 1, 1, 1, 0, 1, 0, 0, 1, 0, 0, 1, 1, 1, 0])) false
  ⟨[.ros false 106 (.pair (.str) (.sl 113 (.pair (.sl 29 (.pair (.int .i64) (.int .i64))) (.pair (.int .i64) (.int .i64))))) x0, .ros false 40 (.sl 44 (.pair (.pair (.int .i64) (.pair (.pair (.int .i64) (.int .i64)) (.int .i64))) (.pair (.int .i64) (.int .i64)))) x1, .any, .any, .any, .ptr 0 0, .any, .own 1, .own 2, .any, .any, .own 3, .sc (.int .i64 a6), .own 4, .any, .any, .any, .any, .any, .any, .any, .any, .any, .any, .any, .any, .any, .any, .any, .any, .any, .any, .any, .any, .any, .any, .any, .any, .any, .any, .any, .any, .any, .any, .any, .any, .any, .any, .any, .any, .any, .any, .any, .any, .any, .any, .any, .any, .any, .any, .any, .any, .any, .any, .any, .any, .any, .any, .any, .any, .any, .any, .any, .any, .any, .any, .any, .any, .any, .any, .any, .any, .any, .any, .any, .any, .any, .any, .any, .any, .any, .any, .any, .any, .any, .any, .any, .any, .any, .any, .any, .any, .any, .any, .any, .any, .any, .any, .any, .any, .any, .any, .any, .any, .any, .any, .any, .any, .any, .any, .any, .any, .any, .any, .any, .any, .any, .any, .any, .any, .any, .any, .any, .any, .any, .any, .any, .any, .any, .any, .any, .any, .any, .any, .any, .any, .any, .any, .any, .any, .any, .any, .any, .any, .any, .any, .any, .any, .any, .any, .any, .any, .any, .any, .any], [.cells [.sc (.int .i64 x2.1), .sc (.int .i64 x2.2)] 63, .rows true 3 (.int .i64) r2.1, .rows true 3 (.int .i64) r2.2.1, .rows true 4 (.bool) a7, .rows true 3 (.int .i64) a9]⟩
  (fun S => (seqK (law_LoadPeaks.cd N [1, 1, 1, 1, 1, 1, 1, 1, 1, 0, 1, 0, 0, 1, 0, 0, 1, 1, 1, 1]) (blockK 1 (seqK (law_LoadPeaks.cd N [1, 1, 1, 1, 1, 1, 1, 1, 1, 0, 1, 0, 0, 1, 1]) (loopK (norm ((law_LoadPeaks.E N).keep 15) 0) (law_LoadPeaks.cd N [1, 1, 1, 1, 1, 1, 1, 1, 1, 0, 1, 0, 0]) k5 (blockK 0 (seqK (law_LoadPeaks.cd N [1, 1, 1, 1, 1, 1, 1, 1, 1, 1]) law_LoadPeaks.fin)))))) .normal S))
noncomputable def law_LoadPeaks.l3 (N : Nat) (x0 : List (ByteArray × List (List (Int × Int) × Int × Int))) (x1 : List (List ((Int × (Int × Int) × Int) × Int × Int))) (x2 : Int × Int) (r2 : List Int × List Int × Int) (k5 : Nat) (a6 : Int) (a9 : List Int) (k10 : Nat) (a11 : Int) (a12 : List Bool) : Option Bool :=
  loopN (norm ((law_LoadPeaks.E N).keep 23) 0) (law_LoadPeaks.cd N [1, 1, 1, 1, 1, 1, 1, 1, 1, 0, 1, 0, 0, 1, 0, 0, 1, 1, 1, 1, 0, 0]) k10
  ⟨[.ros false 106 (.pair (.str) (.sl 113 (.pair (.sl 29 (.pair (.int .i64) (.int .i64))) (.pair (.int .i64) (.int .i64))))) x0, .ros false 40 (.sl 44 (.pair (.pair (.int .i64) (.pair (.pair (.int .i64) (.int .i64)) (.int .i64))) (.pair (.int .i64) (.int .i64)))) x1, .any, .any, .any, .ptr 0 0, .any, .own 1, .own 2, .any, .any, .own 3, .sc (.int .i64 a6), .own 4, .any, .any, .any, .any, .any, .any, .any, .any, .any, .any, .any, .any, .any, .any, .any, .any, .any, .any, .any, .any, .any, .any, .any, .any, .any, .any, .any, .any, .any, .any, .any, .any, .any, .any, .any, .any, .any, .any, .any, .any, .any, .any, .any, .any, .any, .any, .any, .any, .any, .any, .any, .any, .any, .any, .any, .any, .any, .any, .any, .any, .any, .any, .any, .any, .any, .any, .any, .any, .any, .any, .any, .any, .any, .any, .any, .any, .any, .any, .any, .any, .any, .any, .any, .any, .any, .any, .any, .any, .any, .any, .sc (.int .i64 (x0.length : Int)), .sc (.int .i64 a11), .any, .any, .any, .any, .any, .any, .any, .any, .any, .any, .any, .any, .any, .any, .any, .any, .any, .any, .any, .any, .any, .any, .any, .any, .any, .any, .any, .any, .any, .any, .any, .any, .any, .any, .any, .any, .any, .any, .any, .any, .any, .any, .any, .any, .any, .any, .any, .any, .any, .any, .any, .any, .any, .any, .any, .any, .any, .any, .any], [.cells [.sc (.int .i64 x2.1), .sc (.int .i64 x2.2)] 63, .rows true 3 (.int .i64) r2.1, .rows true 3 (.int .i64) r2.2.1, .rows true 4 (.bool) a12, .rows true 3 (.int .i64) a9]⟩
  (blockK 2 (blockK 1 (seqK (law_LoadPeaks.cd N [1, 1, 1, 1, 1, 1, 1, 1, 1, 0, 1, 0, 0, 1, 1]) (loopK (norm ((law_LoadPeaks.E N).keep 15) 0) (law_LoadPeaks.cd N [1, 1, 1, 1, 1, 1, 1, 1, 1, 0, 1, 0, 0]) k5 (blockK 0 (seqK (law_LoadPeaks.cd N [1, 1, 1, 1, 1, 1, 1, 1, 1, 1]) law_LoadPeaks.fin))))))
theorem law_LoadPeaks.l3_zero (N : Nat) (x0 : List (ByteArray × List (List (Int × Int) × Int × Int))) (x1 : List (List ((Int × (Int × Int) × Int) × Int × Int))) (x2 : Int × Int) (r2 : List Int × List Int × Int) (k5 : Nat) (a6 : Int) (a9 : List Int) (a11 : Int) (a12 : List Bool) : law_LoadPeaks.l3 N x0 x1 x2 r2 k5 a6 a9 0 a11 a12 = none := by kernel_rfl
theorem law_LoadPeaks.l3_succ (N : Nat) (x0 : List (ByteArray × List (List (Int × Int) × Int × Int))) (x1 : List (List ((Int × (Int × Int) × Int) × Int × Int))) (x2 : Int × Int) (r2 : List Int × List Int × Int) (k5 : Nat) (a6 : Int) (a9 : List Int) (k10 : Nat) (a11 : Int) (a12 : List Bool) : law_LoadPeaks.l3 N x0 x1 x2 r2 k5 a6 a9 (k10 + 1) a11 a12 =
    bif decide (a11 < (x0.length : Int)) then
      bif (decide (0 ≤ a11)) && (decide (a11 < (a9.length : Int))) then
        bif decide ((Int.toNat a11) < a9.length) then
          bif (decide (0 ≤ a11)) && (decide (a11 < (r2.1.length : Int))) then
            bif decide ((Int.toNat a11) < r2.1.length) then
              bif !(!(decide ((List.getD a9 (Int.toNat a11) 0) > (List.getD r2.1 (Int.toNat a11) 0)))) || (!(decide ((List.getD a9 (Int.toNat a11) 0) > (List.getD r2.1 (Int.toNat a11) 0)))) then
                bif !(!(decide ((List.getD a9 (Int.toNat a11) 0) > (List.getD r2.1 (Int.toNat a11) 0)))) || (!(decide ((List.getD a9 (Int.toNat a11) 0) > (List.getD r2.1 (Int.toNat a11) 0)))) then
                  bif ((decide (0 ≤ a11)) && (decide (a11 < (a9.length : Int)))) || !(!(decide ((List.getD a9 (Int.toNat a11) 0) > (List.getD r2.1 (Int.toNat a11) 0)))) then
                    bif !(!(decide ((List.getD a9 (Int.toNat a11) 0) > (List.getD r2.1 (Int.toNat a11) 0)))) || (!(decide ((List.getD a9 (Int.toNat a11) 0) > (List.getD r2.1 (Int.toNat a11) 0)))) then
                      bif (decide ((Int.toNat a11) < a9.length)) || !(!(decide ((List.getD a9 (Int.toNat a11) 0) > (List.getD r2.1 (Int.toNat a11) 0)))) then
                        bif !(!(decide ((List.getD a9 (Int.toNat a11) 0) > (List.getD r2.1 (Int.toNat a11) 0)))) || (!(decide ((List.getD a9 (Int.toNat a11) 0) > (List.getD r2.1 (Int.toNat a11) 0)))) then
                          bif !(!(decide ((List.getD a9 (Int.toNat a11) 0) > (List.getD r2.1 (Int.toNat a11) 0)))) || (!(decide ((List.getD a9 (Int.toNat a11) 0) > (List.getD r2.1 (Int.toNat a11) 0)))) then
                            bif ((decide (0 ≤ a11)) && (decide (a11 < (r2.1.length : Int)))) || !(!(decide ((List.getD a9 (Int.toNat a11) 0) > (List.getD r2.1 (Int.toNat a11) 0)))) then
                              bif !(!(decide ((List.getD a9 (Int.toNat a11) 0) > (List.getD r2.1 (Int.toNat a11) 0)))) || (!(decide ((List.getD a9 (Int.toNat a11) 0) > (List.getD r2.1 (Int.toNat a11) 0)))) then
                                bif (decide ((Int.toNat a11) < r2.1.length)) || !(!(decide ((List.getD a9 (Int.toNat a11) 0) > (List.getD r2.1 (Int.toNat a11) 0)))) then
                                  bif !(!(decide ((List.getD a9 (Int.toNat a11) 0) > (List.getD r2.1 (Int.toNat a11) 0)))) || (!(decide ((List.getD a9 (Int.toNat a11) 0) > (List.getD r2.1 (Int.toNat a11) 0)))) then
                                    bif !(!(decide ((List.getD a9 (Int.toNat a11) 0) > (List.getD r2.1 (Int.toNat a11) 0)))) || (!(decide ((List.getD a9 (Int.toNat a11) 0) > (List.getD r2.1 (Int.toNat a11) 0)))) then
                                      bif !(!(decide ((List.getD a9 (Int.toNat a11) 0) > (List.getD r2.1 (Int.toNat a11) 0)))) || (!(decide ((List.getD a9 (Int.toNat a11) 0) > (List.getD r2.1 (Int.toNat a11) 0)))) then
                                        bif !((!(decide ((List.getD a9 (Int.toNat a11) 0) > (List.getD r2.1 (Int.toNat a11) 0)))) && ((List.getD a9 (Int.toNat a11) 0) == (List.getD r2.1 (Int.toNat a11) 0))) || ((!(decide ((List.getD a9 (Int.toNat a11) 0) > (List.getD r2.1 (Int.toNat a11) 0)))) && ((List.getD a9 (Int.toNat a11) 0) == (List.getD r2.1 (Int.toNat a11) 0))) then
                                          bif !((!(decide ((List.getD a9 (Int.toNat a11) 0) > (List.getD r2.1 (Int.toNat a11) 0)))) && ((List.getD a9 (Int.toNat a11) 0) == (List.getD r2.1 (Int.toNat a11) 0))) || ((!(decide ((List.getD a9 (Int.toNat a11) 0) > (List.getD r2.1 (Int.toNat a11) 0)))) && ((List.getD a9 (Int.toNat a11) 0) == (List.getD r2.1 (Int.toNat a11) 0))) then
                                            bif ((decide (0 ≤ a11)) && (decide (a11 < (a12.length : Int)))) || !((!(decide ((List.getD a9 (Int.toNat a11) 0) > (List.getD r2.1 (Int.toNat a11) 0)))) && ((List.getD a9 (Int.toNat a11) 0) == (List.getD r2.1 (Int.toNat a11) 0))) then
                                              bif !((!(decide ((List.getD a9 (Int.toNat a11) 0) > (List.getD r2.1 (Int.toNat a11) 0)))) && ((List.getD a9 (Int.toNat a11) 0) == (List.getD r2.1 (Int.toNat a11) 0))) || ((!(decide ((List.getD a9 (Int.toNat a11) 0) > (List.getD r2.1 (Int.toNat a11) 0)))) && ((List.getD a9 (Int.toNat a11) 0) == (List.getD r2.1 (Int.toNat a11) 0))) then
                                                bif (decide ((Int.toNat a11) < a12.length)) || !((!(decide ((List.getD a9 (Int.toNat a11) 0) > (List.getD r2.1 (Int.toNat a11) 0)))) && ((List.getD a9 (Int.toNat a11) 0) == (List.getD r2.1 (Int.toNat a11) 0))) then
                                                  bif !((!(decide ((List.getD a9 (Int.toNat a11) 0) > (List.getD r2.1 (Int.toNat a11) 0)))) && ((List.getD a9 (Int.toNat a11) 0) == (List.getD r2.1 (Int.toNat a11) 0))) || ((!(decide ((List.getD a9 (Int.toNat a11) 0) > (List.getD r2.1 (Int.toNat a11) 0)))) && ((List.getD a9 (Int.toNat a11) 0) == (List.getD r2.1 (Int.toNat a11) 0))) then
                                                    bif !(!(decide ((List.getD a9 (Int.toNat a11) 0) > (List.getD r2.1 (Int.toNat a11) 0)))) || (!(decide ((List.getD a9 (Int.toNat a11) 0) > (List.getD r2.1 (Int.toNat a11) 0)))) then
                                                      bif !(!(decide ((List.getD a9 (Int.toNat a11) 0) > (List.getD r2.1 (Int.toNat a11) 0)))) || ((!((List.getD a9 (Int.toNat a11) 0) == (List.getD r2.1 (Int.toNat a11) 0))) || ((!(decide ((List.getD a9 (Int.toNat a11) 0) > (List.getD r2.1 (Int.toNat a11) 0)))) && ((List.getD a9 (Int.toNat a11) 0) == (List.getD r2.1 (Int.toNat a11) 0)))) then
                                                        bif !(!(decide ((List.getD a9 (Int.toNat a11) 0) > (List.getD r2.1 (Int.toNat a11) 0)))) || (!(decide ((List.getD a9 (Int.toNat a11) 0) > (List.getD r2.1 (Int.toNat a11) 0)))) then
                                                          bif !((!(decide ((List.getD a9 (Int.toNat a11) 0) > (List.getD r2.1 (Int.toNat a11) 0)))) && (((List.getD a9 (Int.toNat a11) 0) == (List.getD r2.1 (Int.toNat a11) 0)) && (!(List.getD a12 (Int.toNat a11) false)))) || ((!(decide ((List.getD a9 (Int.toNat a11) 0) > (List.getD r2.1 (Int.toNat a11) 0)))) && (((List.getD a9 (Int.toNat a11) 0) == (List.getD r2.1 (Int.toNat a11) 0)) && (!(List.getD a12 (Int.toNat a11) false)))) then
                                                            bif !((!(decide ((List.getD a9 (Int.toNat a11) 0) > (List.getD r2.1 (Int.toNat a11) 0)))) && (((List.getD a9 (Int.toNat a11) 0) == (List.getD r2.1 (Int.toNat a11) 0)) && (!(List.getD a12 (Int.toNat a11) false)))) || ((!(decide ((List.getD a9 (Int.toNat a11) 0) > (List.getD r2.1 (Int.toNat a11) 0)))) && (((List.getD a9 (Int.toNat a11) 0) == (List.getD r2.1 (Int.toNat a11) 0)) && (!(List.getD a12 (Int.toNat a11) false)))) then
                                                              bif ((decide (0 ≤ a11)) && (decide (a11 < (r2.2.1.length : Int)))) || !((!(decide ((List.getD a9 (Int.toNat a11) 0) > (List.getD r2.1 (Int.toNat a11) 0)))) && (((List.getD a9 (Int.toNat a11) 0) == (List.getD r2.1 (Int.toNat a11) 0)) && (!(List.getD a12 (Int.toNat a11) false)))) then
                                                                bif !((!(decide ((List.getD a9 (Int.toNat a11) 0) > (List.getD r2.1 (Int.toNat a11) 0)))) && (((List.getD a9 (Int.toNat a11) 0) == (List.getD r2.1 (Int.toNat a11) 0)) && (!(List.getD a12 (Int.toNat a11) false)))) || ((!(decide ((List.getD a9 (Int.toNat a11) 0) > (List.getD r2.1 (Int.toNat a11) 0)))) && (((List.getD a9 (Int.toNat a11) 0) == (List.getD r2.1 (Int.toNat a11) 0)) && (!(List.getD a12 (Int.toNat a11) false)))) then
                                                                  bif (decide ((Int.toNat a11) < r2.2.1.length)) || !((!(decide ((List.getD a9 (Int.toNat a11) 0) > (List.getD r2.1 (Int.toNat a11) 0)))) && (((List.getD a9 (Int.toNat a11) 0) == (List.getD r2.1 (Int.toNat a11) 0)) && (!(List.getD a12 (Int.toNat a11) false)))) then
                                                                    bif !((!(decide ((List.getD a9 (Int.toNat a11) 0) > (List.getD r2.1 (Int.toNat a11) 0)))) && (((List.getD a9 (Int.toNat a11) 0) == (List.getD r2.1 (Int.toNat a11) 0)) && (!(List.getD a12 (Int.toNat a11) false)))) || ((!(decide ((List.getD a9 (Int.toNat a11) 0) > (List.getD r2.1 (Int.toNat a11) 0)))) && (((List.getD a9 (Int.toNat a11) 0) == (List.getD r2.1 (Int.toNat a11) 0)) && (!(List.getD a12 (Int.toNat a11) false)))) then
                                                                      bif !((!(decide ((List.getD a9 (Int.toNat a11) 0) > (List.getD r2.1 (Int.toNat a11) 0)))) && (((List.getD a9 (Int.toNat a11) 0) == (List.getD r2.1 (Int.toNat a11) 0)) && (!(List.getD a12 (Int.toNat a11) false)))) || ((!(decide ((List.getD a9 (Int.toNat a11) 0) > (List.getD r2.1 (Int.toNat a11) 0)))) && (((List.getD a9 (Int.toNat a11) 0) == (List.getD r2.1 (Int.toNat a11) 0)) && (!(List.getD a12 (Int.toNat a11) false)))) then
                                                                        bif !(!(decide ((List.getD a9 (Int.toNat a11) 0) > (List.getD r2.1 (Int.toNat a11) 0)))) || (!(decide ((List.getD a9 (Int.toNat a11) 0) > (List.getD r2.1 (Int.toNat a11) 0)))) then
                                                                          bif !(!(decide ((List.getD a9 (Int.toNat a11) 0) > (List.getD r2.1 (Int.toNat a11) 0)))) || ((!(((List.getD a9 (Int.toNat a11) 0) == (List.getD r2.1 (Int.toNat a11) 0)) && (!(List.getD a12 (Int.toNat a11) false)))) || ((!(decide ((List.getD a9 (Int.toNat a11) 0) > (List.getD r2.1 (Int.toNat a11) 0)))) && (((List.getD a9 (Int.toNat a11) 0) == (List.getD r2.1 (Int.toNat a11) 0)) && (!(List.getD a12 (Int.toNat a11) false))))) then
                                                                            bif (decide ((List.getD a9 (Int.toNat a11) 0) > (List.getD r2.1 (Int.toNat a11) 0))) || (!(decide ((List.getD a9 (Int.toNat a11) 0) > (List.getD r2.1 (Int.toNat a11) 0)))) then
                                                                              bif (decide ((List.getD a9 (Int.toNat a11) 0) > (List.getD r2.1 (Int.toNat a11) 0))) || ((((List.getD a9 (Int.toNat a11) 0) == (List.getD r2.1 (Int.toNat a11) 0)) && (!(List.getD a12 (Int.toNat a11) false))) && (!((List.getD r2.2.1 (Int.toNat a11) 0) == a6))) then
                                                                                some false
                                                                              else
                                                                              bif (decide (0 ≤ a11)) && (decide (a11 < (a12.length : Int))) then
                                                                                bif decide ((Int.toNat a11) < a12.length) then
                                                                                  bif !(!(List.getD a12 (Int.toNat a11) false)) || (!(List.getD a12 (Int.toNat a11) false)) then
                                                                                    bif !(!(List.getD a12 (Int.toNat a11) false)) || (!(List.getD a12 (Int.toNat a11) false)) then
                                                                                      bif ((decide (0 ≤ a11)) && (decide (a11 < (a9.length : Int)))) || !(!(List.getD a12 (Int.toNat a11) false)) then
                                                                                        bif !(!(List.getD a12 (Int.toNat a11) false)) || (!(List.getD a12 (Int.toNat a11) false)) then
                                                                                          bif (decide ((Int.toNat a11) < a9.length)) || !(!(List.getD a12 (Int.toNat a11) false)) then
                                                                                            bif !(!(List.getD a12 (Int.toNat a11) false)) || (!(List.getD a12 (Int.toNat a11) false)) then
                                                                                              bif !(!(List.getD a12 (Int.toNat a11) false)) || (!(List.getD a12 (Int.toNat a11) false)) then
                                                                                                bif ((decide (0 ≤ a11)) && (decide (a11 < (r2.1.length : Int)))) || !(!(List.getD a12 (Int.toNat a11) false)) then
                                                                                                  bif !(!(List.getD a12 (Int.toNat a11) false)) || (!(List.getD a12 (Int.toNat a11) false)) then
                                                                                                    bif (decide ((Int.toNat a11) < r2.1.length)) || !(!(List.getD a12 (Int.toNat a11) false)) then
                                                                                                      bif !(!(List.getD a12 (Int.toNat a11) false)) || (!(List.getD a12 (Int.toNat a11) false)) then
                                                                                                        bif !(!(List.getD a12 (Int.toNat a11) false)) || (!(List.getD a12 (Int.toNat a11) false)) then
                                                                                                          bif (List.getD a12 (Int.toNat a11) false) || (!(List.getD a12 (Int.toNat a11) false)) then
                                                                                                            bif (decide (0 ≤ a11)) && (decide (a11 < (a12.length : Int))) then
                                                                                                              bif decide ((Int.toNat a11) < a12.length) then
                                                                                                                law_LoadPeaks.l3 N x0 x1 x2 r2 k5 a6 a9 k10 (w (a11 + 1)) (List.set a12 (Int.toNat a11) ((List.getD a12 (Int.toNat a11) false) || ((List.getD a9 (Int.toNat a11) 0) == (List.getD r2.1 (Int.toNat a11) 0))))
                                                                                                              else
                                                                                                                none
                                                                                                            else
                                                                                                              none
                                                                                                          else
                                                                                                            none
                                                                                                        else
                                                                                                          none
                                                                                                      else
                                                                                                        none
                                                                                                    else
                                                                                                      none
                                                                                                  else
                                                                                                    none
                                                                                                else
                                                                                                  none
                                                                                              else
                                                                                                none
                                                                                            else
                                                                                              none
                                                                                          else
                                                                                            none
                                                                                        else
                                                                                          none
                                                                                      else
                                                                                        none
                                                                                    else
                                                                                      none
                                                                                  else
                                                                                    none
                                                                                else
                                                                                  none
                                                                              else
                                                                                none
                                                                            else
                                                                              none
                                                                          else
                                                                            none
                                                                        else
                                                                          none
                                                                      else
                                                                        none
                                                                    else
                                                                      none
                                                                  else
                                                                    none
                                                                else
                                                                  none
                                                              else
                                                                none
                                                            else
                                                              none
                                                          else
                                                            none
                                                        else
                                                          none
                                                      else
                                                        none
                                                    else
                                                      none
                                                  else
                                                    none
                                                else
                                                  none
                                              else
                                                none
                                            else
                                              none
                                          else
                                            none
                                        else
                                          none
                                      else
                                        none
                                    else
                                      none
                                  else
                                    none
                                else
                                  none
                              else
                                none
                            else
                              none
                          else
                            none
                        else
                          none
                      else
                        none
                    else
                      none
                  else
                    none
                else
                  none
              else
                none
            else
              none
          else
            none
        else
          none
      else
        none
    else
      law_LoadPeaks.l1 N x0 x1 x2 r2 k5 (w (a6 + 1)) a12 := by kernel_rfl
theorem law_LoadPeaks.j2_eq (N : Nat) (x0 : List (ByteArray × List (List (Int × Int) × Int × Int))) (x1 : List (List ((Int × (Int × Int) × Int) × Int × Int))) (x2 : Int × Int) (r2 : List Int × List Int × Int) (k5 : Nat) (a6 : Int) (a7 : List Bool) (a9 : List Int) {M : Nat} (hM : N = M + 1) : law_LoadPeaks.j2 N x0 x1 x2 r2 k5 a6 a7 a9 =
    law_LoadPeaks.l3 N x0 x1 x2 r2 k5 a6 a9 N 0 a7 := (fuelK_eq hM _).trans (by kernel_rfl)
theorem law_LoadPeaks.l1_zero (N : Nat) (x0 : List (ByteArray × List (List (Int × Int) × Int × Int))) (x1 : List (List ((Int × (Int × Int) × Int) × Int × Int))) (x2 : Int × Int) (r2 : List Int × List Int × Int) (a6 : Int) (a7 : List Bool) : law_LoadPeaks.l1 N x0 x1 x2 r2 0 a6 a7 = none := by kernel_rfl
theorem law_LoadPeaks.l1_succ (N : Nat) (x0 : List (ByteArray × List (List (Int × Int) × Int × Int))) (x1 : List (List ((Int × (Int × Int) × Int) × Int × Int))) (x2 : Int × Int) (r2 : List Int × List Int × Int) (k5 : Nat) (a6 : Int) (a7 : List Bool) : law_LoadPeaks.l1 N x0 x1 x2 r2 (k5 + 1) a6 a7 =
    bif decide (a6 < x2.2) then
      (load_Count.fn N (x0, x1, (if 200000 < a6 then 200000 else a6))).bind fun r8 =>
      bif !(!(!(r8.2.2 == 0))) || (!(!(r8.2.2 == 0))) then
        bif !(!(!(r8.2.2 == 0))) || (!(!(r8.2.2 == 0))) then
          bif !(!(!(r8.2.2 == 0))) || (!(!(r8.2.2 == 0))) then
            bif !(!(!(r8.2.2 == 0))) || (!(!(r8.2.2 == 0))) then
              bif (!(r8.2.2 == 0)) || (!(!(r8.2.2 == 0))) then
                bif (!(r8.2.2 == 0)) || (!((r8.1.length : Int) == (x0.length : Int))) then
                  some false
                else
                bif decide (a6 > 200000) then
                  bif (((decide (0 ≤ (x0.length : Int))) && ((x0.length : Int) == (x0.length : Int))) && (decide ((x0.length : Int) ≤ 9223372036854775807))) && (decide (((x0.length : Int) * 8) ≤ 140737488355328)) then
                    law_LoadPeaks.j2 N x0 x1 x2 r2 k5 a6 a7 (List.replicate (Int.toNat (x0.length : Int)) (0 : Int))
                  else
                    none
                else
                  law_LoadPeaks.j2 N x0 x1 x2 r2 k5 a6 a7 r8.1
              else
                none
            else
              none
          else
            none
        else
          none
      else
        none
    else
      (slices_Contains_bool.fn N (a7, false)).bind fun r13 =>
      some (!r13) := by kernel_rfl
theorem law_LoadPeaks.j0_eq (N : Nat) (x0 : List (ByteArray × List (List (Int × Int) × Int × Int))) (x1 : List (List ((Int × (Int × Int) × Int) × Int × Int))) (x2 : Int × Int) (r2 : List Int × List Int × Int) (a4 : Int) {M : Nat} (hM : N = M + 1) : law_LoadPeaks.j0 N x0 x1 x2 r2 a4 =
    bif !(a4 == 0) then
      bif !(r2.2.2 == a4) || (r2.2.2 == a4) then
        bif !(r2.2.2 == a4) || (r2.2.2 == a4) then
          bif !(r2.2.2 == a4) || (r2.2.2 == a4) then
            bif !(r2.2.2 == a4) || (r2.2.2 == a4) then
              bif !(r2.2.2 == a4) || (r2.2.2 == a4) then
                bif (!(r2.2.2 == a4)) || (r2.2.2 == a4) then
                  some ((r2.2.2 == a4) && ((w ((r2.1.length : Int) + (r2.2.1.length : Int))) == 0))
                else
                  none
              else
                none
            else
              none
          else
            none
        else
          none
      else
        none
    else
    bif decide ((w (x2.2 - x2.1)) > 60) then
      some true
    else
    bif !(!(!(r2.2.2 == 0))) || (!(!(r2.2.2 == 0))) then
      bif !(!(!(r2.2.2 == 0))) || (!(!(r2.2.2 == 0))) then
        bif !(!(!(r2.2.2 == 0))) || (!(!(r2.2.2 == 0))) then
          bif !(!(!(r2.2.2 == 0))) || (!(!(r2.2.2 == 0))) then
            bif (!(r2.2.2 == 0)) || (!(!(r2.2.2 == 0))) then
              bif !(!((!(r2.2.2 == 0)) || (!((r2.1.length : Int) == (x0.length : Int))))) || (!((!(r2.2.2 == 0)) || (!((r2.1.length : Int) == (x0.length : Int))))) then
                bif !(!((!(r2.2.2 == 0)) || (!((r2.1.length : Int) == (x0.length : Int))))) || (!((!(r2.2.2 == 0)) || (!((r2.1.length : Int) == (x0.length : Int))))) then
                  bif !(!((!(r2.2.2 == 0)) || (!((r2.1.length : Int) == (x0.length : Int))))) || (!((!(r2.2.2 == 0)) || (!((r2.1.length : Int) == (x0.length : Int))))) then
                    bif !(!((!(r2.2.2 == 0)) || (!((r2.1.length : Int) == (x0.length : Int))))) || (!((!(r2.2.2 == 0)) || (!((r2.1.length : Int) == (x0.length : Int))))) then
                      bif ((!(r2.2.2 == 0)) || (!((r2.1.length : Int) == (x0.length : Int)))) || (!((!(r2.2.2 == 0)) || (!((r2.1.length : Int) == (x0.length : Int))))) then
                        bif ((!(r2.2.2 == 0)) || (!((r2.1.length : Int) == (x0.length : Int)))) || (!((r2.2.1.length : Int) == (x0.length : Int))) then
                          some false
                        else
                        bif (((decide (0 ≤ (x0.length : Int))) && ((x0.length : Int) == (x0.length : Int))) && (decide ((x0.length : Int) ≤ 9223372036854775807))) && (decide (((x0.length : Int) * 1) ≤ 140737488355328)) then
                          law_LoadPeaks.l1 N x0 x1 x2 r2 N x2.1 (List.replicate (Int.toNat (x0.length : Int)) (false : Bool))
                        else
                          none
                      else
                        none
                    else
                      none
                  else
                    none
                else
                  none
              else
                none
            else
              none
          else
            none
        else
          none
      else
        none
    else
      none := (fuelK_eq hM _).trans (by kernel_rfl)
theorem taut51 : ∀ p0 p1 p2 : Bool, ((!(!(p0)) || ((!((p1) && (!(p2)))) || ((!(p0)) && ((p1) && (!(p2))))))) = true := by decide
theorem taut52 : ∀ p0 p1 : Bool, ((!(!(p0)) || ((!(p1)) || ((!(p0)) && (p1))))) = true := by decide
theorem taut53 : ∀ p0 p1 p2 : Bool, ((!((!(p0)) && ((p1) && (!(p2)))) || ((!(p0)) && ((p1) && (!(p2)))))) = true := by decide
theorem taut54 : ∀ p0 p1 : Bool, ((!((!(p0)) && (p1)) || ((!(p0)) && (p1)))) = true := by decide
theorem law_LoadPeaks.l3_clean (N : Nat) (x0 : List (ByteArray × List (List (Int × Int) × Int × Int))) (x1 : List (List ((Int × (Int × Int) × Int) × Int × Int))) (x2 : Int × Int) (r2 : List Int × List Int × Int) (k5 : Nat) (a6 : Int) (a9 : List Int) (k10 : Nat) (a11 : Int) (a12 : List Bool) : law_LoadPeaks.l3 N x0 x1 x2 r2 k5 a6 a9 (k10 + 1) a11 a12 =
    bif decide (a11 < (x0.length : Int)) then
      bif (decide (0 ≤ a11)) && (decide (a11 < (a9.length : Int))) then
        bif decide ((Int.toNat a11) < a9.length) then
          bif (decide (0 ≤ a11)) && (decide (a11 < (r2.1.length : Int))) then
            bif decide ((Int.toNat a11) < r2.1.length) then
              bif ((decide (0 ≤ a11)) && (decide (a11 < (a9.length : Int)))) || !(!(decide ((List.getD a9 (Int.toNat a11) 0) > (List.getD r2.1 (Int.toNat a11) 0)))) then
                bif (decide ((Int.toNat a11) < a9.length)) || !(!(decide ((List.getD a9 (Int.toNat a11) 0) > (List.getD r2.1 (Int.toNat a11) 0)))) then
                  bif ((decide (0 ≤ a11)) && (decide (a11 < (r2.1.length : Int)))) || !(!(decide ((List.getD a9 (Int.toNat a11) 0) > (List.getD r2.1 (Int.toNat a11) 0)))) then
                    bif (decide ((Int.toNat a11) < r2.1.length)) || !(!(decide ((List.getD a9 (Int.toNat a11) 0) > (List.getD r2.1 (Int.toNat a11) 0)))) then
                      bif ((decide (0 ≤ a11)) && (decide (a11 < (a12.length : Int)))) || !((!(decide ((List.getD a9 (Int.toNat a11) 0) > (List.getD r2.1 (Int.toNat a11) 0)))) && ((List.getD a9 (Int.toNat a11) 0) == (List.getD r2.1 (Int.toNat a11) 0))) then
                        bif (decide ((Int.toNat a11) < a12.length)) || !((!(decide ((List.getD a9 (Int.toNat a11) 0) > (List.getD r2.1 (Int.toNat a11) 0)))) && ((List.getD a9 (Int.toNat a11) 0) == (List.getD r2.1 (Int.toNat a11) 0))) then
                          bif ((decide (0 ≤ a11)) && (decide (a11 < (r2.2.1.length : Int)))) || !((!(decide ((List.getD a9 (Int.toNat a11) 0) > (List.getD r2.1 (Int.toNat a11) 0)))) && (((List.getD a9 (Int.toNat a11) 0) == (List.getD r2.1 (Int.toNat a11) 0)) && (!(List.getD a12 (Int.toNat a11) false)))) then
                            bif (decide ((Int.toNat a11) < r2.2.1.length)) || !((!(decide ((List.getD a9 (Int.toNat a11) 0) > (List.getD r2.1 (Int.toNat a11) 0)))) && (((List.getD a9 (Int.toNat a11) 0) == (List.getD r2.1 (Int.toNat a11) 0)) && (!(List.getD a12 (Int.toNat a11) false)))) then
                              bif (decide ((List.getD a9 (Int.toNat a11) 0) > (List.getD r2.1 (Int.toNat a11) 0))) || ((((List.getD a9 (Int.toNat a11) 0) == (List.getD r2.1 (Int.toNat a11) 0)) && (!(List.getD a12 (Int.toNat a11) false))) && (!((List.getD r2.2.1 (Int.toNat a11) 0) == a6))) then
                                some false
                              else
                              bif (decide (0 ≤ a11)) && (decide (a11 < (a12.length : Int))) then
                                bif decide ((Int.toNat a11) < a12.length) then
                                  bif ((decide (0 ≤ a11)) && (decide (a11 < (a9.length : Int)))) || !(!(List.getD a12 (Int.toNat a11) false)) then
                                    bif (decide ((Int.toNat a11) < a9.length)) || !(!(List.getD a12 (Int.toNat a11) false)) then
                                      bif ((decide (0 ≤ a11)) && (decide (a11 < (r2.1.length : Int)))) || !(!(List.getD a12 (Int.toNat a11) false)) then
                                        bif (decide ((Int.toNat a11) < r2.1.length)) || !(!(List.getD a12 (Int.toNat a11) false)) then
                                          bif (decide (0 ≤ a11)) && (decide (a11 < (a12.length : Int))) then
                                            bif decide ((Int.toNat a11) < a12.length) then
                                              law_LoadPeaks.l3 N x0 x1 x2 r2 k5 a6 a9 k10 (w (a11 + 1)) (List.set a12 (Int.toNat a11) ((List.getD a12 (Int.toNat a11) false) || ((List.getD a9 (Int.toNat a11) 0) == (List.getD r2.1 (Int.toNat a11) 0))))
                                            else
                                              none
                                          else
                                            none
                                        else
                                          none
                                      else
                                        none
                                    else
                                      none
                                  else
                                    none
                                else
                                  none
                              else
                                none
                            else
                              none
                          else
                            none
                        else
                          none
                      else
                        none
                    else
                      none
                  else
                    none
                else
                  none
              else
                none
            else
              none
          else
            none
        else
          none
      else
        none
    else
      law_LoadPeaks.l1 N x0 x1 x2 r2 k5 (w (a6 + 1)) a12 := by
  rw [law_LoadPeaks.l3_succ]; simp only [taut1, taut51, taut52, taut53, taut54, taut6, cond_true]
theorem taut55 : ∀ p0 : Bool, ((!(!(!(p0))) || (!(!(p0))))) = true := by decide
theorem law_LoadPeaks.l1_clean (N : Nat) (x0 : List (ByteArray × List (List (Int × Int) × Int × Int))) (x1 : List (List ((Int × (Int × Int) × Int) × Int × Int))) (x2 : Int × Int) (r2 : List Int × List Int × Int) (k5 : Nat) (a6 : Int) (a7 : List Bool) : law_LoadPeaks.l1 N x0 x1 x2 r2 (k5 + 1) a6 a7 =
    bif decide (a6 < x2.2) then
      (load_Count.fn N (x0, x1, (if 200000 < a6 then 200000 else a6))).bind fun r8 =>
      bif (!(r8.2.2 == 0)) || (!((r8.1.length : Int) == (x0.length : Int))) then
        some false
      else
      bif decide (a6 > 200000) then
        bif (((decide (0 ≤ (x0.length : Int))) && ((x0.length : Int) == (x0.length : Int))) && (decide ((x0.length : Int) ≤ 9223372036854775807))) && (decide (((x0.length : Int) * 8) ≤ 140737488355328)) then
          law_LoadPeaks.j2 N x0 x1 x2 r2 k5 a6 a7 (List.replicate (Int.toNat (x0.length : Int)) (0 : Int))
        else
          none
      else
        law_LoadPeaks.j2 N x0 x1 x2 r2 k5 a6 a7 r8.1
    else
      (slices_Contains_bool.fn N (a7, false)).bind fun r13 =>
      some (!r13) := by
  rw [law_LoadPeaks.l1_succ]; simp only [taut55, taut46, cond_true]
theorem taut56 : ∀ p0 p1 : Bool, ((!(!((!(p0)) || (!(p1)))) || (!((!(p0)) || (!(p1)))))) = true := by decide
theorem taut57 : ∀ p0 p1 : Bool, ((((!(p0)) || (!(p1))) || (!((!(p0)) || (!(p1)))))) = true := by decide
theorem law_LoadPeaks.j0_clean (N : Nat) (x0 : List (ByteArray × List (List (Int × Int) × Int × Int))) (x1 : List (List ((Int × (Int × Int) × Int) × Int × Int))) (x2 : Int × Int) (r2 : List Int × List Int × Int) (a4 : Int) {M : Nat} (hM : N = M + 1) : law_LoadPeaks.j0 N x0 x1 x2 r2 a4 =
    bif !(a4 == 0) then
      some ((r2.2.2 == a4) && ((w ((r2.1.length : Int) + (r2.2.1.length : Int))) == 0))
    else
    bif decide ((w (x2.2 - x2.1)) > 60) then
      some true
    else
    bif ((!(r2.2.2 == 0)) || (!((r2.1.length : Int) == (x0.length : Int)))) || (!((r2.2.1.length : Int) == (x0.length : Int))) then
      some false
    else
    bif (((decide (0 ≤ (x0.length : Int))) && ((x0.length : Int) == (x0.length : Int))) && (decide ((x0.length : Int) ≤ 9223372036854775807))) && (decide (((x0.length : Int) * 1) ≤ 140737488355328)) then
      law_LoadPeaks.l1 N x0 x1 x2 r2 N x2.1 (List.replicate (Int.toNat (x0.length : Int)) (false : Bool))
    else
      none := by
  rw [law_LoadPeaks.j0_eq (hM := hM)]; simp only [taut55, taut56, taut20, taut46, taut21, taut57, cond_true]
theorem law_LoadPeaks.l3_cons (N : Nat) (x0 : List (ByteArray × List (List (Int × Int) × Int × Int))) (x1 : List (List ((Int × (Int × Int) × Int) × Int × Int))) (x2 : Int × Int) (r2 : List Int × List Int × Int) (k5 : Nat) (a6 : Int) (a9 : List Int) (k10 : Nat) (a12 : List Bool) {pre r} {x} (hl : x0 = pre ++ x :: r) (hb : x0.length < 4611686018427387904) : law_LoadPeaks.l3 N x0 x1 x2 r2 k5 a6 a9 (k10 + 1) (pre.length : Int) a12 =
    bif decide ((pre.length : Int) < (a9.length : Int)) then
      bif decide (pre.length < a9.length) then
        bif decide ((pre.length : Int) < (r2.1.length : Int)) then
          bif decide (pre.length < r2.1.length) then
            bif ((decide ((pre.length : Int) < (a9.length : Int)))) || !(!(decide ((List.getD a9 pre.length 0) > (List.getD r2.1 pre.length 0)))) then
              bif (decide (pre.length < a9.length)) || !(!(decide ((List.getD a9 pre.length 0) > (List.getD r2.1 pre.length 0)))) then
                bif ((decide ((pre.length : Int) < (r2.1.length : Int)))) || !(!(decide ((List.getD a9 pre.length 0) > (List.getD r2.1 pre.length 0)))) then
                  bif (decide (pre.length < r2.1.length)) || !(!(decide ((List.getD a9 pre.length 0) > (List.getD r2.1 pre.length 0)))) then
                    bif ((decide ((pre.length : Int) < (a12.length : Int)))) || !((!(decide ((List.getD a9 pre.length 0) > (List.getD r2.1 pre.length 0)))) && ((List.getD a9 pre.length 0) == (List.getD r2.1 pre.length 0))) then
                      bif (decide (pre.length < a12.length)) || !((!(decide ((List.getD a9 pre.length 0) > (List.getD r2.1 pre.length 0)))) && ((List.getD a9 pre.length 0) == (List.getD r2.1 pre.length 0))) then
                        bif ((decide ((pre.length : Int) < (r2.2.1.length : Int)))) || !((!(decide ((List.getD a9 pre.length 0) > (List.getD r2.1 pre.length 0)))) && (((List.getD a9 pre.length 0) == (List.getD r2.1 pre.length 0)) && (!(List.getD a12 pre.length false)))) then
                          bif (decide (pre.length < r2.2.1.length)) || !((!(decide ((List.getD a9 pre.length 0) > (List.getD r2.1 pre.length 0)))) && (((List.getD a9 pre.length 0) == (List.getD r2.1 pre.length 0)) && (!(List.getD a12 pre.length false)))) then
                            bif (decide ((List.getD a9 pre.length 0) > (List.getD r2.1 pre.length 0))) || ((((List.getD a9 pre.length 0) == (List.getD r2.1 pre.length 0)) && (!(List.getD a12 pre.length false))) && (!((List.getD r2.2.1 pre.length 0) == a6))) then
                              some false
                            else
                            bif decide ((pre.length : Int) < (a12.length : Int)) then
                              bif decide (pre.length < a12.length) then
                                bif ((decide ((pre.length : Int) < (a9.length : Int)))) || !(!(List.getD a12 pre.length false)) then
                                  bif (decide (pre.length < a9.length)) || !(!(List.getD a12 pre.length false)) then
                                    bif ((decide ((pre.length : Int) < (r2.1.length : Int)))) || !(!(List.getD a12 pre.length false)) then
                                      bif (decide (pre.length < r2.1.length)) || !(!(List.getD a12 pre.length false)) then
                                        bif decide ((pre.length : Int) < (a12.length : Int)) then
                                          bif decide (pre.length < a12.length) then
                                            law_LoadPeaks.l3 N x0 x1 x2 r2 k5 a6 a9 k10 ((pre.length : Int) + 1) (List.set a12 pre.length ((List.getD a12 pre.length false) || ((List.getD a9 pre.length 0) == (List.getD r2.1 pre.length 0))))
                                          else
                                            none
                                        else
                                          none
                                      else
                                        none
                                    else
                                      none
                                  else
                                    none
                                else
                                  none
                              else
                                none
                            else
                              none
                          else
                            none
                        else
                          none
                      else
                        none
                    else
                      none
                  else
                    none
                else
                  none
              else
                none
            else
              none
          else
            none
        else
          none
      else
        none
    else
      none := by
  have hlen : x0.length = pre.length + 1 + r.length := by rw [hl]; simp; omega
  have e1 : decide ((pre.length : Int) < (x0.length : Int)) = true := by rw [decide_eq_true_iff]; omega
  have e2 : decide (0 ≤ (pre.length : Int)) = true := by rw [decide_eq_true_iff]; omega
  have e4 : w ((pre.length : Int) + 1) = (pre.length : Int) + 1 := w_next hl hb
  have e5 : List.take pre.length x0 = pre := by rw [hl]; simp
  have e6 : decide ((pre.length : Int) ≤ (x0.length : Int)) = true := by rw [decide_eq_true_iff]; omega
  rw [law_LoadPeaks.l3_clean]
  simp -implicitDefEqProofs only [Int.toNat_natCast, e1, e2, e4, e6, e5, Bool.and_true, Bool.true_and, Bool.true_or, cond_true]
theorem law_LoadPeaks.l3_nil (N : Nat) (x0 : List (ByteArray × List (List (Int × Int) × Int × Int))) (x1 : List (List ((Int × (Int × Int) × Int) × Int × Int))) (x2 : Int × Int) (r2 : List Int × List Int × Int) (k5 : Nat) (a6 : Int) (a9 : List Int) (k10 : Nat) (a12 : List Bool) : law_LoadPeaks.l3 N x0 x1 x2 r2 k5 a6 a9 (k10 + 1) (x0.length : Int) a12 =
    law_LoadPeaks.l1 N x0 x1 x2 r2 k5 (w (a6 + 1)) a12 := by
  have e1 : decide ((x0.length : Int) < (x0.length : Int)) = false := by rw [decide_eq_false_iff_not]; omega
  rw [law_LoadPeaks.l3_clean]
  simp -implicitDefEqProofs only [e1, cond_false]
theorem law_LoadPeaks.eq (N : Nat) (x0 : List (ByteArray × List (List (Int × Int) × Int × Int))) (x1 : List (List ((Int × (Int × Int) × Int) × Int × Int))) (x2 : Int × Int) : law_LoadPeaks.fn N (x0, x1, x2) =
    (law_loadFact.fn N ()).bind fun r1 =>
    bif !r1 then
      some false
    else
      (load_Peaks.fn N (x0, x1, x2)).bind fun r2 =>
      (law_loadError.fn N (x0, x1)).bind fun r3 =>
      bif r3 == 0 then
        (law_spanError.fn N x2).bind fun r14 =>
        law_LoadPeaks.j0 N x0 x1 x2 r2 r14
      else
        law_LoadPeaks.j0 N x0 x1 x2 r2 r3 := by kernel_rfl

/-! ### law_LoadOvers_1: skyway/skywaylaw3.LoadOvers$1 -/
def law_LoadOvers_1.kp : List (Nat × List (Nat × Option (TypeId × Ty))) := []
noncomputable def law_LoadOvers_1.G (N : Nat) : List (Nat × Spec) := []
noncomputable def law_LoadOvers_1.E (N : Nat) : Env := mkEnv (law_LoadOvers_1.G N) N tyTab law_LoadOvers_1.kp
noncomputable def law_LoadOvers_1.fn (N : Nat) (x : (Int × Int × Int) × Int × Int) : Option Bool := evFn (law_LoadOvers_1.E N) Try.prog 3 Try.f37 false [.agg (.pair (.int .i64) (.pair (.int .i64) (.int .i64))), .box (.int .i64), .box (.int .i64)] [.val (.cell (.bool))] x
noncomputable def law_LoadOvers_1.S (N : Nat) : PSpec := ⟨false, [.agg (.pair (.int .i64) (.pair (.int .i64) (.int .i64))), .box (.int .i64), .box (.int .i64)], [.val (.cell (.bool))], law_LoadOvers_1.fn N⟩
theorem f37_enters : Enters Try.prog 37 := ⟨Try.f37, Try.func37, by kernel_rfl, by kernel_rfl⟩
theorem law_LoadOvers_1.tab (N : Nat) : TabOk Try.prog (law_LoadOvers_1.G N) := trivial
theorem law_LoadOvers_1.enters : Enters Try.prog 37 := f37_enters
theorem law_LoadOvers_1.sound (N : Nat) : Sound Try.prog 37 (law_LoadOvers_1.S N) := evFn_sound (specs_tab (law_LoadOvers_1.tab N)) (inls_tab (law_LoadOvers_1.tab N)) mixed 3 Try.func37 _ _ _
theorem law_LoadOvers_1.eq (N : Nat) (x0 : Int × Int × Int) (x1 : Int) (x2 : Int) : law_LoadOvers_1.fn N (x0, x1, x2) =
    bif !(x0.1 == x1) || (x0.1 == x1) then
      bif !(x0.1 == x1) || (x0.1 == x1) then
        bif !(x0.1 == x1) || (x0.1 == x1) then
          bif (!(x0.1 == x1)) || (x0.1 == x1) then
            bif !((x0.1 == x1) && (decide (x0.2.1 ≤ x2))) || ((x0.1 == x1) && (decide (x0.2.1 ≤ x2))) then
              bif !((x0.1 == x1) && (decide (x0.2.1 ≤ x2))) || ((x0.1 == x1) && (decide (x0.2.1 ≤ x2))) then
                bif !((x0.1 == x1) && (decide (x0.2.1 ≤ x2))) || ((x0.1 == x1) && (decide (x0.2.1 ≤ x2))) then
                  bif (!((x0.1 == x1) && (decide (x0.2.1 ≤ x2)))) || ((x0.1 == x1) && (decide (x0.2.1 ≤ x2))) then
                    some (((x0.1 == x1) && (decide (x0.2.1 ≤ x2))) && (decide (x2 ≤ x0.2.2)))
                  else
                    none
                else
                  none
              else
                none
            else
              none
          else
            none
        else
          none
      else
        none
    else
      none := by kernel_rfl
theorem law_LoadOvers_1.clean (N : Nat) (x0 : Int × Int × Int) (x1 : Int) (x2 : Int) : law_LoadOvers_1.fn N (x0, x1, x2) =
    some (((x0.1 == x1) && (decide (x0.2.1 ≤ x2))) && (decide (x2 ≤ x0.2.2))) := by
  rw [law_LoadOvers_1.eq]; simp only [taut31, taut20, taut32, taut21, cond_true]

/-! ### law_LoadOvers: skyway/skywaylaw3.LoadOvers -/
def law_LoadOvers.kp : List (Nat × List (Nat × Option (TypeId × Ty))) := [(2, [(0, none), (1, none), (7, none), (8, none)]), (15, [(0, none), (1, none), (2, none), (7, none), (9, none), (10, none), (12, none), (70, none), (71, none), (72, none)]), (20, [(0, none), (1, none), (2, none), (7, none), (9, none), (10, none), (12, none), (14, none), (70, none), (71, none), (72, none), (121, none), (122, none), (123, none)]), (28, [(0, none), (1, none), (2, none), (7, none), (9, none), (10, none), (12, none), (17, none)]), (34, [(0, none), (1, none), (2, none), (7, none), (9, none), (10, none), (12, none), (17, none), (18, none), (176, none), (177, none)]), (1000009, [(0, none), (1, none), (2, none), (7, none), (9, none), (10, none), (11, none)])]
noncomputable def law_LoadOvers.G (N : Nat) : List (Nat × Spec) := [(28, .pure (law_loadFact.S N)), (29, .pure (load_Count.S N)), (30, .pure (law_loadError.S N)), (33, .pure (law_spanError.S N)), (35, .pure (load_Over.S N)), (37, .pure (law_LoadOvers_1.S N)), (36, .inl Try.f36), (76, .inl Try.f76)]
noncomputable def law_LoadOvers.E (N : Nat) : Env := mkEnv (law_LoadOvers.G N) N tyTab law_LoadOvers.kp
noncomputable def law_LoadOvers.fn (N : Nat) (x : List (ByteArray × List (List (Int × Int) × Int × Int)) × List (List ((Int × (Int × Int) × Int) × Int × Int)) × List Int × Int × Int) : Option Bool := evFn (law_LoadOvers.E N) Try.prog 3 Try.f9 false [.cell (.sl 106 (.pair (.str) (.sl 113 (.pair (.sl 29 (.pair (.int .i64) (.int .i64))) (.pair (.int .i64) (.int .i64)))))), .cell (.sl 40 (.sl 44 (.pair (.pair (.int .i64) (.pair (.pair (.int .i64) (.int .i64)) (.int .i64))) (.pair (.int .i64) (.int .i64))))), .cell (.sl 3 (.int .i64)), .agg (.pair (.int .i64) (.int .i64))] [.val (.cell (.bool))] x
noncomputable def law_LoadOvers.S (N : Nat) : PSpec := ⟨false, [.cell (.sl 106 (.pair (.str) (.sl 113 (.pair (.sl 29 (.pair (.int .i64) (.int .i64))) (.pair (.int .i64) (.int .i64)))))), .cell (.sl 40 (.sl 44 (.pair (.pair (.int .i64) (.pair (.pair (.int .i64) (.int .i64)) (.int .i64))) (.pair (.int .i64) (.int .i64))))), .cell (.sl 3 (.int .i64)), .agg (.pair (.int .i64) (.int .i64))], [.val (.cell (.bool))], law_LoadOvers.fn N⟩
theorem f36_enters : Enters Try.prog 36 := ⟨Try.f36, Try.func36, by kernel_rfl, by kernel_rfl⟩
theorem f76_enters : Enters Try.prog 76 := ⟨Try.f76, Try.func76, by kernel_rfl, by kernel_rfl⟩
theorem f9_enters : Enters Try.prog 9 := ⟨Try.f9, Try.func9, by kernel_rfl, by kernel_rfl⟩
theorem law_LoadOvers.tab (N : Nat) : TabOk Try.prog (law_LoadOvers.G N) := ⟨⟨law_loadFact.enters, law_loadFact.sound N⟩, ⟨load_Count.enters, load_Count.sound N⟩, ⟨law_loadError.enters, law_loadError.sound N⟩, ⟨law_spanError.enters, law_spanError.sound N⟩, ⟨load_Over.enters, load_Over.sound N⟩, ⟨law_LoadOvers_1.enters, law_LoadOvers_1.sound N⟩, ⟨f36_enters, Try.func36⟩, ⟨f76_enters, Try.func76⟩, trivial⟩
theorem law_LoadOvers.enters : Enters Try.prog 9 := f9_enters
theorem law_LoadOvers.sound (N : Nat) : Sound Try.prog 9 (law_LoadOvers.S N) := evFn_sound (specs_tab (law_LoadOvers.tab N)) (inls_tab (law_LoadOvers.tab N)) mixed 3 Try.func9 _ _ _
noncomputable def law_LoadOvers.cd (N : Nat) (p : List Nat) : St → (Ex → St → Option Bool) → Option Bool := ev (law_LoadOvers.E N) Try.prog (callD (law_LoadOvers.E N) Try.prog 3) 0 (codeAt (bodyOf Try.f9) p)
noncomputable def law_LoadOvers.cd36_2_5 (N : Nat) (p : List Nat) : St → (Ex → St → Option Bool) → Option Bool := ev (law_LoadOvers.E N) Try.prog (callD (law_LoadOvers.E N) Try.prog 2) 5 (codeAt (bodyOf Try.f36) p)
noncomputable def law_LoadOvers.cd76_1_5 (N : Nat) (p : List Nat) : St → (Ex → St → Option Bool) → Option Bool := ev (law_LoadOvers.E N) Try.prog (callD (law_LoadOvers.E N) Try.prog 1) 5 (codeAt (bodyOf Try.f76) p)
noncomputable def law_LoadOvers.fin : Ex → St → Option Bool := endK Try.prog Try.f9 [.val (.cell (.bool))]
noncomputable def law_LoadOvers.j0 (N : Nat) (x0 : List (ByteArray × List (List (Int × Int) × Int × Int))) (x1 : List (List ((Int × (Int × Int) × Int) × Int × Int))) (x2 : List Int) (x3 : Int × Int) (r2 : List (Int × Int × Int) × Int) : Option Bool :=
  fuelK N (region (law_LoadOvers.E N) Try.prog (callD (law_LoadOvers.E N) Try.prog 3) (opsAt (codeAt (bodyOf Try.f9) [1, 1, 1, 1, 1, 1, 0, 0])) false
  ⟨[.ros false 106 (.pair (.str) (.sl 113 (.pair (.sl 29 (.pair (.int .i64) (.int .i64))) (.pair (.int .i64) (.int .i64))))) x0, .ros false 40 (.sl 44 (.pair (.pair (.int .i64) (.pair (.pair (.int .i64) (.int .i64)) (.int .i64))) (.pair (.int .i64) (.int .i64)))) x1, .ros false 3 (.int .i64) x2, .any, .any, .any, .any, .ptr 0 0, .any, .own 1, .sc (.int .i64 r2.2), .sc (.int .i64 3), .any, .any, .any, .any, .any, .any, .any, .any, .any, .any, .any, .any, .any, .any, .any, .any, .any, .any, .any, .any, .any, .any, .any, .any, .any, .any, .any, .any, .any, .any, .any, .any, .any, .any, .any, .any, .any, .any, .any, .any, .any, .any, .any, .any, .any, .any, .any, .any, .any, .any, .any, .any, .any, .any, .any, .any, .any, .any, .any, .any, .any, .any, .any, .any, .any, .any, .any, .any, .any, .any, .any, .any, .any, .any, .any, .any, .any, .any, .any, .any, .any, .any, .any, .any, .any, .any, .any, .any, .any, .any, .any, .any, .any, .any, .any, .any, .any, .any, .any, .any, .any, .any, .any, .any, .any, .any, .any, .any, .any, .any, .any, .any, .any, .any, .any, .any, .any, .any, .any, .any, .any, .any, .any, .any, .any, .any, .any, .any, .any, .any, .any, .any, .any, .any, .any, .any, .any, .any, .any, .any, .any, .any, .any, .any, .any, .any, .any, .any, .any, .any, .any, .any, .any, .any, .any, .any, .any, .any, .any, .any, .any, .any, .any, .any, .any, .any, .any, .any, .any, .any, .any, .any, .any, .any, .any, .any, .any, .any, .any, .any, .any, .any, .any, .any, .any, .any, .any, .any, .any, .any, .any, .any, .any], [.cells [.sc (.int .i64 x3.1), .sc (.int .i64 x3.2)] 63, .rows true 73 (.pair (.int .i64) (.pair (.int .i64) (.int .i64))) r2.1]⟩
  (fun S => (seqK (law_LoadOvers.cd N [1, 1, 1, 1, 1, 1, 0, 1]) (seqK (law_LoadOvers.cd N [1, 1, 1, 1, 1, 1, 1]) law_LoadOvers.fin)) .normal S))
noncomputable def law_LoadOvers.j1 (N : Nat) (x0 : List (ByteArray × List (List (Int × Int) × Int × Int))) (x1 : List (List ((Int × (Int × Int) × Int) × Int × Int))) (x2 : List Int) (x3 : Int × Int) (r2 : List (Int × Int × Int) × Int) (a4 : Int) : Option Bool :=
  fuelK N (region (law_LoadOvers.E N) Try.prog (callD (law_LoadOvers.E N) Try.prog 3) (opsAt (codeAt (bodyOf Try.f9) [1, 1, 1, 1, 1, 1, 0, 0])) false
  ⟨[.ros false 106 (.pair (.str) (.sl 113 (.pair (.sl 29 (.pair (.int .i64) (.int .i64))) (.pair (.int .i64) (.int .i64))))) x0, .ros false 40 (.sl 44 (.pair (.pair (.int .i64) (.pair (.pair (.int .i64) (.int .i64)) (.int .i64))) (.pair (.int .i64) (.int .i64)))) x1, .ros false 3 (.int .i64) x2, .any, .any, .any, .any, .ptr 0 0, .any, .own 1, .sc (.int .i64 r2.2), .sc (.int .i64 a4), .any, .any, .any, .any, .any, .any, .any, .any, .any, .any, .any, .any, .any, .any, .any, .any, .any, .any, .any, .any, .any, .any, .any, .any, .any, .any, .any, .any, .any, .any, .any, .any, .any, .any, .any, .any, .any, .any, .any, .any, .any, .any, .any, .any, .any, .any, .any, .any, .any, .any, .any, .any, .any, .any, .any, .any, .any, .any, .any, .any, .any, .any, .any, .any, .any, .any, .any, .any, .any, .any, .any, .any, .any, .any, .any, .any, .any, .any, .any, .any, .any, .any, .any, .any, .any, .any, .any, .any, .any, .any, .any, .any, .any, .any, .any, .any, .any, .any, .any, .any, .any, .any, .any, .any, .any, .any, .any, .any, .any, .any, .any, .any, .any, .any, .any, .any, .any, .any, .any, .any, .any, .any, .any, .any, .any, .any, .any, .any, .any, .any, .any, .any, .any, .any, .any, .any, .any, .any, .any, .any, .any, .any, .any, .any, .any, .any, .any, .any, .any, .any, .any, .any, .any, .any, .any, .any, .any, .any, .any, .any, .any, .any, .any, .any, .any, .any, .any, .any, .any, .any, .any, .any, .any, .any, .any, .any, .any, .any, .any, .any, .any, .any, .any, .any, .any, .any, .any, .any, .any, .any, .any, .any, .any], [.cells [.sc (.int .i64 x3.1), .sc (.int .i64 x3.2)] 63, .rows true 73 (.pair (.int .i64) (.pair (.int .i64) (.int .i64))) r2.1]⟩
  (fun S => (seqK (law_LoadOvers.cd N [1, 1, 1, 1, 1, 1, 0, 1]) (seqK (law_LoadOvers.cd N [1, 1, 1, 1, 1, 1, 1]) law_LoadOvers.fin)) .normal S))
noncomputable def law_LoadOvers.l2 (N : Nat) (x0 : List (ByteArray × List (List (Int × Int) × Int × Int))) (x1 : List (List ((Int × (Int × Int) × Int) × Int × Int))) (x2 : List Int) (x3 : Int × Int) (r2 : List (Int × Int × Int) × Int) (k5 : Nat) (a6 : Int) (a7 : Int) : Option Bool :=
  loopN (norm ((law_LoadOvers.E N).keep 15) 0) (law_LoadOvers.cd N [1, 1, 1, 1, 1, 1, 1, 1, 1, 0, 1, 0, 0]) k5
  ⟨[.ros false 106 (.pair (.str) (.sl 113 (.pair (.sl 29 (.pair (.int .i64) (.int .i64))) (.pair (.int .i64) (.int .i64))))) x0, .ros false 40 (.sl 44 (.pair (.pair (.int .i64) (.pair (.pair (.int .i64) (.int .i64)) (.int .i64))) (.pair (.int .i64) (.int .i64)))) x1, .ros false 3 (.int .i64) x2, .any, .any, .any, .any, .ptr 0 0, .any, .own 1, .sc (.int .i64 r2.2), .any, .sc (.int .i64 a6), .any, .any, .any, .any, .any, .any, .any, .any, .any, .any, .any, .any, .any, .any, .any, .any, .any, .any, .any, .any, .any, .any, .any, .any, .any, .any, .any, .any, .any, .any, .any, .any, .any, .any, .any, .any, .any, .any, .any, .any, .any, .any, .any, .any, .any, .any, .any, .any, .any, .any, .any, .any, .any, .any, .any, .any, .any, .own 1, .sc (.int .i64 (r2.1.length : Int)), .sc (.int .i64 a7), .any, .any, .any, .any, .any, .any, .any, .any, .any, .any, .any, .any, .any, .any, .any, .any, .any, .any, .any, .any, .any, .any, .any, .any, .any, .any, .any, .any, .any, .any, .any, .any, .any, .any, .any, .any, .any, .any, .any, .any, .any, .any, .any, .any, .any, .any, .any, .any, .any, .any, .any, .any, .any, .any, .any, .any, .any, .any, .any, .any, .any, .any, .any, .any, .any, .any, .any, .any, .any, .any, .any, .any, .any, .any, .any, .any, .any, .any, .any, .any, .any, .any, .any, .any, .any, .any, .any, .any, .any, .any, .any, .any, .any, .any, .any, .any, .any, .any, .any, .any, .any, .any, .any, .any, .any, .any, .any, .any, .any, .any, .any, .any, .any, .any, .any, .any, .any, .any, .any, .any, .any, .any, .any, .any, .any, .any, .any, .any, .any, .any, .any, .any], [.cells [.sc (.int .i64 x3.1), .sc (.int .i64 x3.2)] 63, .rows true 73 (.pair (.int .i64) (.pair (.int .i64) (.int .i64))) r2.1]⟩
  (blockK 0 (seqK (law_LoadOvers.cd N [1, 1, 1, 1, 1, 1, 1, 1, 1, 1]) law_LoadOvers.fin))
noncomputable def law_LoadOvers.l3 (N : Nat) (x0 : List (ByteArray × List (List (Int × Int) × Int × Int))) (x1 : List (List ((Int × (Int × Int) × Int) × Int × Int))) (x2 : List Int) (x3 : Int × Int) (r2 : List (Int × Int × Int) × Int) (k5 : Nat) (a6 : Int) (a7 : Int) (k8 : Nat) (a9 : Int) : Option Bool :=
  loopN (norm ((law_LoadOvers.E N).keep 20) 0) (law_LoadOvers.cd N [1, 1, 1, 1, 1, 1, 1, 1, 1, 0, 1, 0, 0, 1, 1, 0, 0, 1, 1, 0, 1, 0, 0]) k8
  ⟨[.ros false 106 (.pair (.str) (.sl 113 (.pair (.sl 29 (.pair (.int .i64) (.int .i64))) (.pair (.int .i64) (.int .i64))))) x0, .ros false 40 (.sl 44 (.pair (.pair (.int .i64) (.pair (.pair (.int .i64) (.int .i64)) (.int .i64))) (.pair (.int .i64) (.int .i64)))) x1, .ros false 3 (.int .i64) x2, .any, .any, .any, .any, .ptr 0 0, .any, .own 1, .sc (.int .i64 r2.2), .any, .sc (.int .i64 a6), .any, .ptr 2 0, .any, .any, .any, .any, .any, .any, .any, .any, .any, .any, .any, .any, .any, .any, .any, .any, .any, .any, .any, .any, .any, .any, .any, .any, .any, .any, .any, .any, .any, .any, .any, .any, .any, .any, .any, .any, .any, .any, .any, .any, .any, .any, .any, .any, .any, .any, .any, .any, .any, .any, .any, .any, .any, .any, .any, .own 1, .sc (.int .i64 (r2.1.length : Int)), .sc (.int .i64 a7), .any, .any, .any, .any, .any, .any, .any, .any, .any, .any, .any, .any, .any, .any, .any, .any, .any, .any, .any, .any, .any, .any, .any, .any, .any, .any, .any, .any, .any, .any, .any, .any, .any, .any, .any, .any, .any, .any, .any, .any, .any, .any, .any, .any, .any, .any, .any, .any, .osl 1 0 (Int.toNat a7), .sc (.int .i64 ((Int.toNat a7 : Nat) : Int)), .sc (.int .i64 a9), .any, .any, .any, .any, .any, .any, .any, .any, .any, .any, .any, .any, .any, .any, .any, .any, .any, .any, .any, .any, .any, .any, .any, .any, .any, .any, .any, .any, .any, .any, .any, .any, .any, .any, .any, .any, .any, .any, .any, .any, .any, .any, .any, .any, .any, .any, .any, .any, .any, .any, .any, .any, .any, .any, .any, .any, .any, .any, .any, .any, .any, .any, .any, .any, .any, .any, .any, .any, .any, .any, .any, .any, .any, .any, .any, .any, .any, .any, .any, .any, .any], [.cells [.sc (.int .i64 x3.1), .sc (.int .i64 x3.2)] 63, .rows true 73 (.pair (.int .i64) (.pair (.int .i64) (.int .i64))) r2.1, .cells [.sc (.int .i64 ((List.getD r2.1 (Int.toNat a7) (0, (0, 0))).1)), .sc (.int .i64 (((List.getD r2.1 (Int.toNat a7) (0, (0, 0))).2).1)), .sc (.int .i64 (((List.getD r2.1 (Int.toNat a7) (0, (0, 0))).2).2))] 73]⟩
  (blockK 2 (seqK (law_LoadOvers.cd N [1, 1, 1, 1, 1, 1, 1, 1, 1, 0, 1, 0, 0, 1, 1, 0, 0, 1, 1, 1]) (blockK 1 (seqK (law_LoadOvers.cd N [1, 1, 1, 1, 1, 1, 1, 1, 1, 0, 1, 0, 0, 1, 1, 1]) (loopK (norm ((law_LoadOvers.E N).keep 15) 0) (law_LoadOvers.cd N [1, 1, 1, 1, 1, 1, 1, 1, 1, 0, 1, 0, 0]) k5 (blockK 0 (seqK (law_LoadOvers.cd N [1, 1, 1, 1, 1, 1, 1, 1, 1, 1]) law_LoadOvers.fin)))))))
noncomputable def law_LoadOvers.l4 (N : Nat) (x0 : List (ByteArray × List (List (Int × Int) × Int × Int))) (x1 : List (List ((Int × (Int × Int) × Int) × Int × Int))) (x2 : List Int) (x3 : Int × Int) (r2 : List (Int × Int × Int) × Int) (k10 : Nat) (a11 : Int) (a12 : Int) : Option Bool :=
  loopN (norm ((law_LoadOvers.E N).keep 28) 0) (law_LoadOvers.cd N [1, 1, 1, 1, 1, 1, 1, 1, 1, 1, 0, 1, 0, 0]) k10
  ⟨[.ros false 106 (.pair (.str) (.sl 113 (.pair (.sl 29 (.pair (.int .i64) (.int .i64))) (.pair (.int .i64) (.int .i64))))) x0, .ros false 40 (.sl 44 (.pair (.pair (.int .i64) (.pair (.pair (.int .i64) (.int .i64)) (.int .i64))) (.pair (.int .i64) (.int .i64)))) x1, .ros false 3 (.int .i64) x2, .any, .any, .any, .any, .ptr 0 0, .any, .own 1, .sc (.int .i64 r2.2), .any, .sc (.int .i64 a11), .any, .any, .any, .any, .ptr 2 0, .any, .any, .any, .any, .any, .any, .any, .any, .any, .any, .any, .any, .any, .any, .any, .any, .any, .any, .any, .any, .any, .any, .any, .any, .any, .any, .any, .any, .any, .any, .any, .any, .any, .any, .any, .any, .any, .any, .any, .any, .any, .any, .any, .any, .any, .any, .any, .any, .any, .any, .any, .any, .any, .any, .any, .any, .any, .any, .any, .any, .any, .any, .any, .any, .any, .any, .any, .any, .any, .any, .any, .any, .any, .any, .any, .any, .any, .any, .any, .any, .any, .any, .any, .any, .any, .any, .any, .any, .any, .any, .any, .any, .any, .any, .any, .any, .any, .any, .any, .any, .any, .any, .any, .any, .any, .any, .any, .any, .any, .any, .any, .any, .any, .any, .any, .any, .any, .any, .any, .any, .any, .any, .any, .any, .any, .any, .any, .any, .any, .any, .any, .any, .any, .any, .any, .any, .any, .any, .any, .any, .any, .any, .any, .any, .any, .any, .any, .any, .any, .any, .any, .any, .any, .any, .any, .any, .any, .any, .any, .any, .any, .any, .any, .any, .any, .any, .any, .any, .any, .any, .any, .any, .any, .any, .any, .any, .any, .any, .any, .any, .any, .any, .any, .any, .any, .any, .any], [.cells [.sc (.int .i64 x3.1), .sc (.int .i64 x3.2)] 63, .rows true 73 (.pair (.int .i64) (.pair (.int .i64) (.int .i64))) r2.1, .cells [.sc (.int .i64 a12)] 3]⟩
  (blockK 4 (seqK (law_LoadOvers.cd N [1, 1, 1, 1, 1, 1, 1, 1, 1, 1, 1]) law_LoadOvers.fin))
noncomputable def law_LoadOvers.l5 (N : Nat) (x0 : List (ByteArray × List (List (Int × Int) × Int × Int))) (x1 : List (List ((Int × (Int × Int) × Int) × Int × Int))) (x2 : List Int) (x3 : Int × Int) (r2 : List (Int × Int × Int) × Int) (k10 : Nat) (a12 : Int) (r13 : List Int × Int × Int) (k14 : Nat) (a15 : Int) (a16 : Int) : Option Bool :=
  loopN (norm ((law_LoadOvers.E N).keep 34) 0) (law_LoadOvers.cd N [1, 1, 1, 1, 1, 1, 1, 1, 1, 1, 0, 1, 0, 0, 1, 0, 0, 1, 1, 1, 0, 0]) k14
  ⟨[.ros false 106 (.pair (.str) (.sl 113 (.pair (.sl 29 (.pair (.int .i64) (.int .i64))) (.pair (.int .i64) (.int .i64))))) x0, .ros false 40 (.sl 44 (.pair (.pair (.int .i64) (.pair (.pair (.int .i64) (.int .i64)) (.int .i64))) (.pair (.int .i64) (.int .i64)))) x1, .ros false 3 (.int .i64) x2, .any, .any, .any, .any, .ptr 0 0, .any, .own 1, .sc (.int .i64 r2.2), .any, .sc (.int .i64 a15), .any, .any, .any, .any, .ptr 2 0, .own 3, .any, .any, .any, .any, .any, .any, .any, .any, .any, .any, .any, .any, .any, .any, .any, .any, .any, .any, .any, .any, .any, .any, .any, .any, .any, .any, .any, .any, .any, .any, .any, .any, .any, .any, .any, .any, .any, .any, .any, .any, .any, .any, .any, .any, .any, .any, .any, .any, .any, .any, .any, .any, .any, .any, .any, .any, .any, .any, .any, .any, .any, .any, .any, .any, .any, .any, .any, .any, .any, .any, .any, .any, .any, .any, .any, .any, .any, .any, .any, .any, .any, .any, .any, .any, .any, .any, .any, .any, .any, .any, .any, .any, .any, .any, .any, .any, .any, .any, .any, .any, .any, .any, .any, .any, .any, .any, .any, .any, .any, .any, .any, .any, .any, .any, .any, .any, .any, .any, .any, .any, .any, .any, .any, .any, .any, .any, .any, .any, .any, .any, .any, .any, .any, .any, .any, .any, .any, .any, .any, .any, .any, .any, .any, .any, .any, .any, .any, .any, .any, .any, .any, .any, .any, .any, .any, .any, .any, .sc (.int .i64 (x0.length : Int)), .sc (.int .i64 a16), .any, .any, .any, .any, .any, .any, .any, .any, .any, .any, .any, .any, .any, .any, .any, .any, .any, .any, .any, .any, .any, .any, .any, .any, .any, .any, .any], [.cells [.sc (.int .i64 x3.1), .sc (.int .i64 x3.2)] 63, .rows true 73 (.pair (.int .i64) (.pair (.int .i64) (.int .i64))) r2.1, .cells [.sc (.int .i64 a12)] 3, .rows true 3 (.int .i64) r13.1]⟩
  (blockK 6 (blockK 5 (seqK (law_LoadOvers.cd N [1, 1, 1, 1, 1, 1, 1, 1, 1, 1, 0, 1, 0, 0, 1, 1]) (loopK (norm ((law_LoadOvers.E N).keep 28) 0) (law_LoadOvers.cd N [1, 1, 1, 1, 1, 1, 1, 1, 1, 1, 0, 1, 0, 0]) k10 (blockK 4 (seqK (law_LoadOvers.cd N [1, 1, 1, 1, 1, 1, 1, 1, 1, 1, 1]) law_LoadOvers.fin))))))
noncomputable def law_LoadOvers.l6 (N : Nat) (x0 : List (ByteArray × List (List (Int × Int) × Int × Int))) (x1 : List (List ((Int × (Int × Int) × Int) × Int × Int))) (x2 : List Int) (x3 : Int × Int) (r2 : List (Int × Int × Int) × Int) (k10 : Nat) (a12 : Int) (r13 : List Int × Int × Int) (k14 : Nat) (a15 : Int) (a16 : Int) (k17 : Nat) (a18 : Int) : Option Bool :=
  loopN (norm ((law_LoadOvers.E N).keep 2) 5) (law_LoadOvers.cd76_1_5 N [1, 0, 1, 0, 0]) k17
  ⟨[.own 1, .clo 37 [.ptr 4 0, .ptr 2 0], .any, .any, .any, .any, .any, .sc (.int .i64 (r2.1.length : Int)), .sc (.int .i64 a18), .any, .any, .any, .any, .any, .any, .any, .any, .any, .any], [.cells [.sc (.int .i64 x3.1), .sc (.int .i64 x3.2)] 63, .rows true 73 (.pair (.int .i64) (.pair (.int .i64) (.int .i64))) r2.1, .cells [.sc (.int .i64 a12)] 3, .rows true 3 (.int .i64) r13.1, .cells [.sc (.int .i64 a16)] 3]⟩
  (blockK 0 (seqK (law_LoadOvers.cd76_1_5 N [1, 1]) (retK Try.prog Try.f76 (fun vs hp => (reg (law_LoadOvers.E N) Try.prog (callD (law_LoadOvers.E N) Try.prog 2) (opsAt (codeAt (bodyOf Try.f36) [1, 0])) [] (List.drop 3 (opsAt (codeAt (bodyOf Try.f36) [1, 0]))) (St.put ⟨[.own 1, .clo 37 [.ptr 4 0, .ptr 2 0], .any, .any, .sc (.bool false), .own 1, .clo 37 [.ptr 4 0, .ptr 2 0], .any, .any], hp⟩ (some 7) (tupOf vs)) (fun S => (seqK (law_LoadOvers.cd36_2_5 N [1, 1]) (retK Try.prog Try.f36 (fun vs hp => (reg (law_LoadOvers.E N) Try.prog (callD (law_LoadOvers.E N) Try.prog 3) (opsAt (codeAt (bodyOf Try.f9) [1, 1, 1, 1, 1, 1, 1, 1, 1, 1, 0, 1, 0, 0, 1, 0, 0, 1, 1, 1, 0, 0, 1, 1, 0, 0, 1, 0])) [] (List.drop 3 (opsAt (codeAt (bodyOf Try.f9) [1, 1, 1, 1, 1, 1, 1, 1, 1, 1, 0, 1, 0, 0, 1, 0, 0, 1, 1, 1, 0, 0, 1, 1, 0, 0, 1, 0]))) (St.put ⟨[.ros false 106 (.pair (.str) (.sl 113 (.pair (.sl 29 (.pair (.int .i64) (.int .i64))) (.pair (.int .i64) (.int .i64))))) x0, .ros false 40 (.sl 44 (.pair (.pair (.int .i64) (.pair (.pair (.int .i64) (.int .i64)) (.int .i64))) (.pair (.int .i64) (.int .i64)))) x1, .ros false 3 (.int .i64) x2, .any, .any, .any, .any, .ptr 0 0, .any, .own 1, .sc (.int .i64 r2.2), .any, .sc (.int .i64 a15), .any, .any, .any, .any, .ptr 2 0, .own 3, .any, .any, .ptr 4 0, .any, .any, .any, .any, .any, .any, .any, .any, .any, .any, .any, .any, .any, .any, .any, .any, .any, .any, .any, .any, .any, .any, .any, .any, .any, .any, .any, .any, .any, .any, .any, .any, .any, .any, .any, .any, .any, .any, .any, .any, .any, .any, .any, .any, .any, .any, .any, .any, .any, .any, .any, .any, .any, .any, .any, .any, .any, .any, .any, .any, .any, .any, .any, .any, .any, .any, .any, .any, .any, .any, .any, .any, .any, .any, .any, .any, .any, .any, .any, .any, .any, .any, .any, .any, .any, .any, .any, .any, .any, .any, .any, .any, .any, .any, .any, .any, .any, .any, .any, .any, .any, .any, .any, .any, .any, .any, .any, .any, .any, .any, .any, .any, .any, .any, .any, .any, .any, .any, .any, .any, .any, .any, .any, .any, .any, .any, .any, .any, .any, .any, .any, .any, .any, .any, .any, .any, .any, .any, .any, .any, .any, .any, .any, .any, .any, .any, .any, .any, .any, .any, .any, .any, .any, .any, .sc (.int .i64 (x0.length : Int)), .sc (.int .i64 a16), .sc (.bool (decide (a16 < (x0.length : Int)))), .sc (.int .i64 a16), .own 1, .clo 37 [.ptr 4 0, .ptr 2 0], .any, .any, .any, .any, .any, .any, .any, .any, .any, .any, .any, .any, .any, .any, .any, .any, .any, .any, .any, .any, .any, .any, .any], hp⟩ (some 182) (tupOf vs)) (fun S => (seqK (law_LoadOvers.cd N [1, 1, 1, 1, 1, 1, 1, 1, 1, 1, 0, 1, 0, 0, 1, 0, 0, 1, 1, 1, 0, 0, 1, 1, 0, 0, 1, 1]) (blockK 7 (seqK (law_LoadOvers.cd N [1, 1, 1, 1, 1, 1, 1, 1, 1, 1, 0, 1, 0, 0, 1, 0, 0, 1, 1, 1, 0, 0, 1, 1, 1]) (loopK (norm ((law_LoadOvers.E N).keep 34) 0) (law_LoadOvers.cd N [1, 1, 1, 1, 1, 1, 1, 1, 1, 1, 0, 1, 0, 0, 1, 0, 0, 1, 1, 1, 0, 0]) k14 (blockK 6 (blockK 5 (seqK (law_LoadOvers.cd N [1, 1, 1, 1, 1, 1, 1, 1, 1, 1, 0, 1, 0, 0, 1, 1]) (loopK (norm ((law_LoadOvers.E N).keep 28) 0) (law_LoadOvers.cd N [1, 1, 1, 1, 1, 1, 1, 1, 1, 1, 0, 1, 0, 0]) k10 (blockK 4 (seqK (law_LoadOvers.cd N [1, 1, 1, 1, 1, 1, 1, 1, 1, 1, 1]) law_LoadOvers.fin)))))))))) .normal S))))) .normal S))))))
theorem law_LoadOvers.l6_zero (N : Nat) (x0 : List (ByteArray × List (List (Int × Int) × Int × Int))) (x1 : List (List ((Int × (Int × Int) × Int) × Int × Int))) (x2 : List Int) (x3 : Int × Int) (r2 : List (Int × Int × Int) × Int) (k10 : Nat) (a12 : Int) (r13 : List Int × Int × Int) (k14 : Nat) (a15 : Int) (a16 : Int) (a18 : Int) : law_LoadOvers.l6 N x0 x1 x2 x3 r2 k10 a12 r13 k14 a15 a16 0 a18 = none := by kernel_rfl
theorem law_LoadOvers.l6_succ (N : Nat) (x0 : List (ByteArray × List (List (Int × Int) × Int × Int))) (x1 : List (List ((Int × (Int × Int) × Int) × Int × Int))) (x2 : List Int) (x3 : Int × Int) (r2 : List (Int × Int × Int) × Int) (k10 : Nat) (a12 : Int) (r13 : List Int × Int × Int) (k14 : Nat) (a15 : Int) (a16 : Int) (k17 : Nat) (a18 : Int) : law_LoadOvers.l6 N x0 x1 x2 x3 r2 k10 a12 r13 k14 a15 a16 (k17 + 1) a18 =
    bif decide (a18 < (r2.1.length : Int)) then
      bif (decide (0 ≤ a18)) && (decide (a18 < (r2.1.length : Int))) then
        bif decide ((Int.toNat a18) < r2.1.length) then
          (law_LoadOvers_1.fn N (List.getD r2.1 (Int.toNat a18) (0, (0, 0)), a16, a12)).bind fun r19 =>
          bif r19 then
            bif (decide (0 ≤ a16)) && (decide (a16 < (r13.1.length : Int))) then
              bif decide ((Int.toNat a16) < r13.1.length) then
                bif (decide (0 ≤ a16)) && (decide (a16 < (x2.length : Int))) then
                  bif !((decide (a18 ≥ 0)) == (decide ((List.getD r13.1 (Int.toNat a16) 0) > (List.getD x2 (Int.toNat a16) 0)))) then
                    some false
                  else
                  bif decide (a18 ≥ 0) then
                    law_LoadOvers.l5 N x0 x1 x2 x3 r2 k10 a12 r13 k14 (w (a15 - 1)) (w (a16 + 1))
                  else
                    law_LoadOvers.l5 N x0 x1 x2 x3 r2 k10 a12 r13 k14 a15 (w (a16 + 1))
                else
                  none
              else
                none
            else
              none
          else
            law_LoadOvers.l6 N x0 x1 x2 x3 r2 k10 a12 r13 k14 a15 a16 k17 (w (a18 + 1))
        else
          none
      else
        none
    else
    bif (decide (0 ≤ a16)) && (decide (a16 < (r13.1.length : Int))) then
      bif decide ((Int.toNat a16) < r13.1.length) then
        bif (decide (0 ≤ a16)) && (decide (a16 < (x2.length : Int))) then
          bif !(false == (decide ((List.getD r13.1 (Int.toNat a16) 0) > (List.getD x2 (Int.toNat a16) 0)))) then
            some false
          else
            law_LoadOvers.l5 N x0 x1 x2 x3 r2 k10 a12 r13 k14 a15 (w (a16 + 1))
        else
          none
      else
        none
    else
      none := by kernel_rfl
theorem law_LoadOvers.l5_zero (N : Nat) (x0 : List (ByteArray × List (List (Int × Int) × Int × Int))) (x1 : List (List ((Int × (Int × Int) × Int) × Int × Int))) (x2 : List Int) (x3 : Int × Int) (r2 : List (Int × Int × Int) × Int) (k10 : Nat) (a12 : Int) (r13 : List Int × Int × Int) (a15 : Int) (a16 : Int) : law_LoadOvers.l5 N x0 x1 x2 x3 r2 k10 a12 r13 0 a15 a16 = none := by kernel_rfl
theorem law_LoadOvers.l5_succ (N : Nat) (x0 : List (ByteArray × List (List (Int × Int) × Int × Int))) (x1 : List (List ((Int × (Int × Int) × Int) × Int × Int))) (x2 : List Int) (x3 : Int × Int) (r2 : List (Int × Int × Int) × Int) (k10 : Nat) (a12 : Int) (r13 : List Int × Int × Int) (k14 : Nat) (a15 : Int) (a16 : Int) : law_LoadOvers.l5 N x0 x1 x2 x3 r2 k10 a12 r13 (k14 + 1) a15 a16 =
    bif decide (a16 < (x0.length : Int)) then
      law_LoadOvers.l6 N x0 x1 x2 x3 r2 k10 a12 r13 k14 a15 a16 N 0
    else
      law_LoadOvers.l4 N x0 x1 x2 x3 r2 k10 a15 (w (a12 + 1)) := by kernel_rfl
theorem law_LoadOvers.l4_zero (N : Nat) (x0 : List (ByteArray × List (List (Int × Int) × Int × Int))) (x1 : List (List ((Int × (Int × Int) × Int) × Int × Int))) (x2 : List Int) (x3 : Int × Int) (r2 : List (Int × Int × Int) × Int) (a11 : Int) (a12 : Int) : law_LoadOvers.l4 N x0 x1 x2 x3 r2 0 a11 a12 = none := by kernel_rfl
theorem law_LoadOvers.l4_succ (N : Nat) (x0 : List (ByteArray × List (List (Int × Int) × Int × Int))) (x1 : List (List ((Int × (Int × Int) × Int) × Int × Int))) (x2 : List Int) (x3 : Int × Int) (r2 : List (Int × Int × Int) × Int) (k10 : Nat) (a11 : Int) (a12 : Int) : law_LoadOvers.l4 N x0 x1 x2 x3 r2 (k10 + 1) a11 a12 =
    bif decide (a12 < x3.2) then
      (load_Count.fn N (x0, x1, a12)).bind fun r13 =>
      bif !(!(!(r13.2.2 == 0))) || (!(!(r13.2.2 == 0))) then
        bif !(!(!(r13.2.2 == 0))) || (!(!(r13.2.2 == 0))) then
          bif !(!(!(r13.2.2 == 0))) || (!(!(r13.2.2 == 0))) then
            bif !(!(!(r13.2.2 == 0))) || (!(!(r13.2.2 == 0))) then
              bif (!(r13.2.2 == 0)) || (!(!(r13.2.2 == 0))) then
                bif (!(r13.2.2 == 0)) || (!((r13.1.length : Int) == (x0.length : Int))) then
                  some false
                else
                  law_LoadOvers.l5 N x0 x1 x2 x3 r2 k10 a12 r13 N a11 0
              else
                none
            else
              none
          else
            none
        else
          none
      else
        none
    else
    bif !(r2.2 == 0) || (r2.2 == 0) then
      bif (!(r2.2 == 0)) || (r2.2 == 0) then
        some ((r2.2 == 0) && (a11 == 0))
      else
        none
    else
      none := by kernel_rfl
theorem law_LoadOvers.l3_zero (N : Nat) (x0 : List (ByteArray × List (List (Int × Int) × Int × Int))) (x1 : List (List ((Int × (Int × Int) × Int) × Int × Int))) (x2 : List Int) (x3 : Int × Int) (r2 : List (Int × Int × Int) × Int) (k5 : Nat) (a6 : Int) (a7 : Int) (a9 : Int) : law_LoadOvers.l3 N x0 x1 x2 x3 r2 k5 a6 a7 0 a9 = none := by kernel_rfl
theorem law_LoadOvers.l3_succ (N : Nat) (x0 : List (ByteArray × List (List (Int × Int) × Int × Int))) (x1 : List (List ((Int × (Int × Int) × Int) × Int × Int))) (x2 : List Int) (x3 : Int × Int) (r2 : List (Int × Int × Int) × Int) (k5 : Nat) (a6 : Int) (a7 : Int) (k8 : Nat) (a9 : Int) : law_LoadOvers.l3 N x0 x1 x2 x3 r2 k5 a6 a7 (k8 + 1) a9 =
    bif decide (a9 < ((Int.toNat a7 : Nat) : Int)) then
      bif (decide (0 ≤ a9)) && (decide (a9 < ((Int.toNat a7 : Nat) : Int))) then
        bif decide ((0 + (Int.toNat a9)) < r2.1.length) then
          bif !(((List.getD r2.1 (0 + (Int.toNat a9)) (0, (0, 0))).1) == ((List.getD r2.1 (Int.toNat a7) (0, (0, 0))).1)) || (((List.getD r2.1 (0 + (Int.toNat a9)) (0, (0, 0))).1) == ((List.getD r2.1 (Int.toNat a7) (0, (0, 0))).1)) then
            bif !(((List.getD r2.1 (0 + (Int.toNat a9)) (0, (0, 0))).1) == ((List.getD r2.1 (Int.toNat a7) (0, (0, 0))).1)) || (((List.getD r2.1 (0 + (Int.toNat a9)) (0, (0, 0))).1) == ((List.getD r2.1 (Int.toNat a7) (0, (0, 0))).1)) then
              bif !(((List.getD r2.1 (0 + (Int.toNat a9)) (0, (0, 0))).1) == ((List.getD r2.1 (Int.toNat a7) (0, (0, 0))).1)) || (((List.getD r2.1 (0 + (Int.toNat a9)) (0, (0, 0))).1) == ((List.getD r2.1 (Int.toNat a7) (0, (0, 0))).1)) then
                bif !(((List.getD r2.1 (0 + (Int.toNat a9)) (0, (0, 0))).1) == ((List.getD r2.1 (Int.toNat a7) (0, (0, 0))).1)) || (((List.getD r2.1 (0 + (Int.toNat a9)) (0, (0, 0))).1) == ((List.getD r2.1 (Int.toNat a7) (0, (0, 0))).1)) then
                  bif !(((List.getD r2.1 (0 + (Int.toNat a9)) (0, (0, 0))).1) == ((List.getD r2.1 (Int.toNat a7) (0, (0, 0))).1)) || (((List.getD r2.1 (0 + (Int.toNat a9)) (0, (0, 0))).1) == ((List.getD r2.1 (Int.toNat a7) (0, (0, 0))).1)) then
                    bif (!(((List.getD r2.1 (0 + (Int.toNat a9)) (0, (0, 0))).1) == ((List.getD r2.1 (Int.toNat a7) (0, (0, 0))).1))) || (((List.getD r2.1 (0 + (Int.toNat a9)) (0, (0, 0))).1) == ((List.getD r2.1 (Int.toNat a7) (0, (0, 0))).1)) then
                      bif (((List.getD r2.1 (0 + (Int.toNat a9)) (0, (0, 0))).1) == ((List.getD r2.1 (Int.toNat a7) (0, (0, 0))).1)) && (decide ((w ((((List.getD r2.1 (0 + (Int.toNat a9)) (0, (0, 0))).2).2) + 1)) ≥ (((List.getD r2.1 (Int.toNat a7) (0, (0, 0))).2).1))) then
                        some false
                      else
                        law_LoadOvers.l3 N x0 x1 x2 x3 r2 k5 a6 a7 k8 (w (a9 + 1))
                    else
                      none
                  else
                    none
                else
                  none
              else
                none
            else
              none
          else
            none
        else
          none
      else
        none
    else
      law_LoadOvers.l2 N x0 x1 x2 x3 r2 k5 (w (a6 + (w ((w ((((List.getD r2.1 (Int.toNat a7) (0, (0, 0))).2).2) - (((List.getD r2.1 (Int.toNat a7) (0, (0, 0))).2).1))) + 1)))) (w (a7 + 1)) := by kernel_rfl
theorem law_LoadOvers.l2_zero (N : Nat) (x0 : List (ByteArray × List (List (Int × Int) × Int × Int))) (x1 : List (List ((Int × (Int × Int) × Int) × Int × Int))) (x2 : List Int) (x3 : Int × Int) (r2 : List (Int × Int × Int) × Int) (a6 : Int) (a7 : Int) : law_LoadOvers.l2 N x0 x1 x2 x3 r2 0 a6 a7 = none := by kernel_rfl
theorem law_LoadOvers.l2_succ (N : Nat) (x0 : List (ByteArray × List (List (Int × Int) × Int × Int))) (x1 : List (List ((Int × (Int × Int) × Int) × Int × Int))) (x2 : List Int) (x3 : Int × Int) (r2 : List (Int × Int × Int) × Int) (k5 : Nat) (a6 : Int) (a7 : Int) : law_LoadOvers.l2 N x0 x1 x2 x3 r2 (k5 + 1) a6 a7 =
    bif decide (a7 < (r2.1.length : Int)) then
      bif (decide (0 ≤ a7)) && (decide (a7 < (r2.1.length : Int))) then
        bif decide ((Int.toNat a7) < r2.1.length) then
          bif !(decide (a7 > 0)) || (decide (a7 > 0)) then
            bif !(decide (a7 > 0)) || (decide (a7 > 0)) then
              bif !(decide (a7 > 0)) || (decide (a7 > 0)) then
                bif !(decide (a7 > 0)) || (decide (a7 > 0)) then
                  bif ((decide (0 ≤ (w (a7 - 1)))) && (decide ((w (a7 - 1)) < (r2.1.length : Int)))) || !(decide (a7 > 0)) then
                    bif !(decide (a7 > 0)) || (decide (a7 > 0)) then
                      bif !(decide (a7 > 0)) || (decide (a7 > 0)) then
                        bif (decide ((Int.toNat (w (a7 - 1))) < r2.1.length)) || !(decide (a7 > 0)) then
                          bif !(decide (a7 > 0)) || (decide (a7 > 0)) then
                            bif !(decide (a7 > 0)) || (decide (a7 > 0)) then
                              bif !(decide (a7 > 0)) || (decide (a7 > 0)) then
                                bif !((decide (a7 > 0)) && (!(decide ((((List.getD r2.1 (Int.toNat a7) (0, (0, 0))).2).1) < (((List.getD r2.1 (Int.toNat (w (a7 - 1))) (0, (0, 0))).2).1))))) || ((decide (a7 > 0)) && (!(decide ((((List.getD r2.1 (Int.toNat a7) (0, (0, 0))).2).1) < (((List.getD r2.1 (Int.toNat (w (a7 - 1))) (0, (0, 0))).2).1))))) then
                                  bif !((decide (a7 > 0)) && (!(decide ((((List.getD r2.1 (Int.toNat a7) (0, (0, 0))).2).1) < (((List.getD r2.1 (Int.toNat (w (a7 - 1))) (0, (0, 0))).2).1))))) || ((decide (a7 > 0)) && (!(decide ((((List.getD r2.1 (Int.toNat a7) (0, (0, 0))).2).1) < (((List.getD r2.1 (Int.toNat (w (a7 - 1))) (0, (0, 0))).2).1))))) then
                                    bif !((decide (a7 > 0)) && (!(decide ((((List.getD r2.1 (Int.toNat a7) (0, (0, 0))).2).1) < (((List.getD r2.1 (Int.toNat (w (a7 - 1))) (0, (0, 0))).2).1))))) || ((decide (a7 > 0)) && (!(decide ((((List.getD r2.1 (Int.toNat a7) (0, (0, 0))).2).1) < (((List.getD r2.1 (Int.toNat (w (a7 - 1))) (0, (0, 0))).2).1))))) then
                                      bif !((decide (a7 > 0)) && (!(decide ((((List.getD r2.1 (Int.toNat a7) (0, (0, 0))).2).1) < (((List.getD r2.1 (Int.toNat (w (a7 - 1))) (0, (0, 0))).2).1))))) || ((decide (a7 > 0)) && (!(decide ((((List.getD r2.1 (Int.toNat a7) (0, (0, 0))).2).1) < (((List.getD r2.1 (Int.toNat (w (a7 - 1))) (0, (0, 0))).2).1))))) then
                                        bif ((decide (0 ≤ (w (a7 - 1)))) && (decide ((w (a7 - 1)) < (r2.1.length : Int)))) || !((decide (a7 > 0)) && (!(decide ((((List.getD r2.1 (Int.toNat a7) (0, (0, 0))).2).1) < (((List.getD r2.1 (Int.toNat (w (a7 - 1))) (0, (0, 0))).2).1))))) then
                                          bif !((decide (a7 > 0)) && (!(decide ((((List.getD r2.1 (Int.toNat a7) (0, (0, 0))).2).1) < (((List.getD r2.1 (Int.toNat (w (a7 - 1))) (0, (0, 0))).2).1))))) || ((decide (a7 > 0)) && (!(decide ((((List.getD r2.1 (Int.toNat a7) (0, (0, 0))).2).1) < (((List.getD r2.1 (Int.toNat (w (a7 - 1))) (0, (0, 0))).2).1))))) then
                                            bif !((decide (a7 > 0)) && (!(decide ((((List.getD r2.1 (Int.toNat a7) (0, (0, 0))).2).1) < (((List.getD r2.1 (Int.toNat (w (a7 - 1))) (0, (0, 0))).2).1))))) || ((decide (a7 > 0)) && (!(decide ((((List.getD r2.1 (Int.toNat a7) (0, (0, 0))).2).1) < (((List.getD r2.1 (Int.toNat (w (a7 - 1))) (0, (0, 0))).2).1))))) then
                                              bif (decide ((Int.toNat (w (a7 - 1))) < r2.1.length)) || !((decide (a7 > 0)) && (!(decide ((((List.getD r2.1 (Int.toNat a7) (0, (0, 0))).2).1) < (((List.getD r2.1 (Int.toNat (w (a7 - 1))) (0, (0, 0))).2).1))))) then
                                                bif !((decide (a7 > 0)) && (!(decide ((((List.getD r2.1 (Int.toNat a7) (0, (0, 0))).2).1) < (((List.getD r2.1 (Int.toNat (w (a7 - 1))) (0, (0, 0))).2).1))))) || ((decide (a7 > 0)) && (!(decide ((((List.getD r2.1 (Int.toNat a7) (0, (0, 0))).2).1) < (((List.getD r2.1 (Int.toNat (w (a7 - 1))) (0, (0, 0))).2).1))))) then
                                                  bif !((decide (a7 > 0)) && (!(decide ((((List.getD r2.1 (Int.toNat a7) (0, (0, 0))).2).1) < (((List.getD r2.1 (Int.toNat (w (a7 - 1))) (0, (0, 0))).2).1))))) || ((decide (a7 > 0)) && (!(decide ((((List.getD r2.1 (Int.toNat a7) (0, (0, 0))).2).1) < (((List.getD r2.1 (Int.toNat (w (a7 - 1))) (0, (0, 0))).2).1))))) then
                                                    bif !((decide (a7 > 0)) && (!(decide ((((List.getD r2.1 (Int.toNat a7) (0, (0, 0))).2).1) < (((List.getD r2.1 (Int.toNat (w (a7 - 1))) (0, (0, 0))).2).1))))) || ((decide (a7 > 0)) && (!(decide ((((List.getD r2.1 (Int.toNat a7) (0, (0, 0))).2).1) < (((List.getD r2.1 (Int.toNat (w (a7 - 1))) (0, (0, 0))).2).1))))) then
                                                      bif !(((decide (a7 > 0)) && (!(decide ((((List.getD r2.1 (Int.toNat a7) (0, (0, 0))).2).1) < (((List.getD r2.1 (Int.toNat (w (a7 - 1))) (0, (0, 0))).2).1))))) && ((((List.getD r2.1 (Int.toNat a7) (0, (0, 0))).2).1) == (((List.getD r2.1 (Int.toNat (w (a7 - 1))) (0, (0, 0))).2).1))) || (((decide (a7 > 0)) && (!(decide ((((List.getD r2.1 (Int.toNat a7) (0, (0, 0))).2).1) < (((List.getD r2.1 (Int.toNat (w (a7 - 1))) (0, (0, 0))).2).1))))) && ((((List.getD r2.1 (Int.toNat a7) (0, (0, 0))).2).1) == (((List.getD r2.1 (Int.toNat (w (a7 - 1))) (0, (0, 0))).2).1))) then
                                                        bif !(((decide (a7 > 0)) && (!(decide ((((List.getD r2.1 (Int.toNat a7) (0, (0, 0))).2).1) < (((List.getD r2.1 (Int.toNat (w (a7 - 1))) (0, (0, 0))).2).1))))) && ((((List.getD r2.1 (Int.toNat a7) (0, (0, 0))).2).1) == (((List.getD r2.1 (Int.toNat (w (a7 - 1))) (0, (0, 0))).2).1))) || (((decide (a7 > 0)) && (!(decide ((((List.getD r2.1 (Int.toNat a7) (0, (0, 0))).2).1) < (((List.getD r2.1 (Int.toNat (w (a7 - 1))) (0, (0, 0))).2).1))))) && ((((List.getD r2.1 (Int.toNat a7) (0, (0, 0))).2).1) == (((List.getD r2.1 (Int.toNat (w (a7 - 1))) (0, (0, 0))).2).1))) then
                                                          bif !(((decide (a7 > 0)) && (!(decide ((((List.getD r2.1 (Int.toNat a7) (0, (0, 0))).2).1) < (((List.getD r2.1 (Int.toNat (w (a7 - 1))) (0, (0, 0))).2).1))))) && ((((List.getD r2.1 (Int.toNat a7) (0, (0, 0))).2).1) == (((List.getD r2.1 (Int.toNat (w (a7 - 1))) (0, (0, 0))).2).1))) || (((decide (a7 > 0)) && (!(decide ((((List.getD r2.1 (Int.toNat a7) (0, (0, 0))).2).1) < (((List.getD r2.1 (Int.toNat (w (a7 - 1))) (0, (0, 0))).2).1))))) && ((((List.getD r2.1 (Int.toNat a7) (0, (0, 0))).2).1) == (((List.getD r2.1 (Int.toNat (w (a7 - 1))) (0, (0, 0))).2).1))) then
                                                            bif !(((decide (a7 > 0)) && (!(decide ((((List.getD r2.1 (Int.toNat a7) (0, (0, 0))).2).1) < (((List.getD r2.1 (Int.toNat (w (a7 - 1))) (0, (0, 0))).2).1))))) && ((((List.getD r2.1 (Int.toNat a7) (0, (0, 0))).2).1) == (((List.getD r2.1 (Int.toNat (w (a7 - 1))) (0, (0, 0))).2).1))) || (((decide (a7 > 0)) && (!(decide ((((List.getD r2.1 (Int.toNat a7) (0, (0, 0))).2).1) < (((List.getD r2.1 (Int.toNat (w (a7 - 1))) (0, (0, 0))).2).1))))) && ((((List.getD r2.1 (Int.toNat a7) (0, (0, 0))).2).1) == (((List.getD r2.1 (Int.toNat (w (a7 - 1))) (0, (0, 0))).2).1))) then
                                                              bif ((decide (0 ≤ (w (a7 - 1)))) && (decide ((w (a7 - 1)) < (r2.1.length : Int)))) || !(((decide (a7 > 0)) && (!(decide ((((List.getD r2.1 (Int.toNat a7) (0, (0, 0))).2).1) < (((List.getD r2.1 (Int.toNat (w (a7 - 1))) (0, (0, 0))).2).1))))) && ((((List.getD r2.1 (Int.toNat a7) (0, (0, 0))).2).1) == (((List.getD r2.1 (Int.toNat (w (a7 - 1))) (0, (0, 0))).2).1))) then
                                                                bif !(((decide (a7 > 0)) && (!(decide ((((List.getD r2.1 (Int.toNat a7) (0, (0, 0))).2).1) < (((List.getD r2.1 (Int.toNat (w (a7 - 1))) (0, (0, 0))).2).1))))) && ((((List.getD r2.1 (Int.toNat a7) (0, (0, 0))).2).1) == (((List.getD r2.1 (Int.toNat (w (a7 - 1))) (0, (0, 0))).2).1))) || (((decide (a7 > 0)) && (!(decide ((((List.getD r2.1 (Int.toNat a7) (0, (0, 0))).2).1) < (((List.getD r2.1 (Int.toNat (w (a7 - 1))) (0, (0, 0))).2).1))))) && ((((List.getD r2.1 (Int.toNat a7) (0, (0, 0))).2).1) == (((List.getD r2.1 (Int.toNat (w (a7 - 1))) (0, (0, 0))).2).1))) then
                                                                  bif !(((decide (a7 > 0)) && (!(decide ((((List.getD r2.1 (Int.toNat a7) (0, (0, 0))).2).1) < (((List.getD r2.1 (Int.toNat (w (a7 - 1))) (0, (0, 0))).2).1))))) && ((((List.getD r2.1 (Int.toNat a7) (0, (0, 0))).2).1) == (((List.getD r2.1 (Int.toNat (w (a7 - 1))) (0, (0, 0))).2).1))) || (((decide (a7 > 0)) && (!(decide ((((List.getD r2.1 (Int.toNat a7) (0, (0, 0))).2).1) < (((List.getD r2.1 (Int.toNat (w (a7 - 1))) (0, (0, 0))).2).1))))) && ((((List.getD r2.1 (Int.toNat a7) (0, (0, 0))).2).1) == (((List.getD r2.1 (Int.toNat (w (a7 - 1))) (0, (0, 0))).2).1))) then
                                                                    bif (decide ((Int.toNat (w (a7 - 1))) < r2.1.length)) || !(((decide (a7 > 0)) && (!(decide ((((List.getD r2.1 (Int.toNat a7) (0, (0, 0))).2).1) < (((List.getD r2.1 (Int.toNat (w (a7 - 1))) (0, (0, 0))).2).1))))) && ((((List.getD r2.1 (Int.toNat a7) (0, (0, 0))).2).1) == (((List.getD r2.1 (Int.toNat (w (a7 - 1))) (0, (0, 0))).2).1))) then
                                                                      bif !(((decide (a7 > 0)) && (!(decide ((((List.getD r2.1 (Int.toNat a7) (0, (0, 0))).2).1) < (((List.getD r2.1 (Int.toNat (w (a7 - 1))) (0, (0, 0))).2).1))))) && ((((List.getD r2.1 (Int.toNat a7) (0, (0, 0))).2).1) == (((List.getD r2.1 (Int.toNat (w (a7 - 1))) (0, (0, 0))).2).1))) || (((decide (a7 > 0)) && (!(decide ((((List.getD r2.1 (Int.toNat a7) (0, (0, 0))).2).1) < (((List.getD r2.1 (Int.toNat (w (a7 - 1))) (0, (0, 0))).2).1))))) && ((((List.getD r2.1 (Int.toNat a7) (0, (0, 0))).2).1) == (((List.getD r2.1 (Int.toNat (w (a7 - 1))) (0, (0, 0))).2).1))) then
                                                                        bif !(((decide (a7 > 0)) && (!(decide ((((List.getD r2.1 (Int.toNat a7) (0, (0, 0))).2).1) < (((List.getD r2.1 (Int.toNat (w (a7 - 1))) (0, (0, 0))).2).1))))) && ((((List.getD r2.1 (Int.toNat a7) (0, (0, 0))).2).1) == (((List.getD r2.1 (Int.toNat (w (a7 - 1))) (0, (0, 0))).2).1))) || (((decide (a7 > 0)) && (!(decide ((((List.getD r2.1 (Int.toNat a7) (0, (0, 0))).2).1) < (((List.getD r2.1 (Int.toNat (w (a7 - 1))) (0, (0, 0))).2).1))))) && ((((List.getD r2.1 (Int.toNat a7) (0, (0, 0))).2).1) == (((List.getD r2.1 (Int.toNat (w (a7 - 1))) (0, (0, 0))).2).1))) then
                                                                          bif !((decide (a7 > 0)) && (!(decide ((((List.getD r2.1 (Int.toNat a7) (0, (0, 0))).2).1) < (((List.getD r2.1 (Int.toNat (w (a7 - 1))) (0, (0, 0))).2).1))))) || ((decide (a7 > 0)) && (!(decide ((((List.getD r2.1 (Int.toNat a7) (0, (0, 0))).2).1) < (((List.getD r2.1 (Int.toNat (w (a7 - 1))) (0, (0, 0))).2).1))))) then
                                                                            bif !((decide (a7 > 0)) && (!(decide ((((List.getD r2.1 (Int.toNat a7) (0, (0, 0))).2).1) < (((List.getD r2.1 (Int.toNat (w (a7 - 1))) (0, (0, 0))).2).1))))) || ((!((((List.getD r2.1 (Int.toNat a7) (0, (0, 0))).2).1) == (((List.getD r2.1 (Int.toNat (w (a7 - 1))) (0, (0, 0))).2).1))) || (((decide (a7 > 0)) && (!(decide ((((List.getD r2.1 (Int.toNat a7) (0, (0, 0))).2).1) < (((List.getD r2.1 (Int.toNat (w (a7 - 1))) (0, (0, 0))).2).1))))) && ((((List.getD r2.1 (Int.toNat a7) (0, (0, 0))).2).1) == (((List.getD r2.1 (Int.toNat (w (a7 - 1))) (0, (0, 0))).2).1)))) then
                                                                              bif !(decide (a7 > 0)) || (decide (a7 > 0)) then
                                                                                bif !(decide (a7 > 0)) || ((decide ((((List.getD r2.1 (Int.toNat a7) (0, (0, 0))).2).1) < (((List.getD r2.1 (Int.toNat (w (a7 - 1))) (0, (0, 0))).2).1))) || ((decide (a7 > 0)) && (!(decide ((((List.getD r2.1 (Int.toNat a7) (0, (0, 0))).2).1) < (((List.getD r2.1 (Int.toNat (w (a7 - 1))) (0, (0, 0))).2).1)))))) then
                                                                                  bif (!(decide (a7 > 0))) || (decide (a7 > 0)) then
                                                                                    bif !(!((decide (a7 > 0)) && ((decide ((((List.getD r2.1 (Int.toNat a7) (0, (0, 0))).2).1) < (((List.getD r2.1 (Int.toNat (w (a7 - 1))) (0, (0, 0))).2).1))) || (((((List.getD r2.1 (Int.toNat a7) (0, (0, 0))).2).1) == (((List.getD r2.1 (Int.toNat (w (a7 - 1))) (0, (0, 0))).2).1)) && (decide (((List.getD r2.1 (Int.toNat a7) (0, (0, 0))).1) ≤ ((List.getD r2.1 (Int.toNat (w (a7 - 1))) (0, (0, 0))).1))))))) || (!((decide (a7 > 0)) && ((decide ((((List.getD r2.1 (Int.toNat a7) (0, (0, 0))).2).1) < (((List.getD r2.1 (Int.toNat (w (a7 - 1))) (0, (0, 0))).2).1))) || (((((List.getD r2.1 (Int.toNat a7) (0, (0, 0))).2).1) == (((List.getD r2.1 (Int.toNat (w (a7 - 1))) (0, (0, 0))).2).1)) && (decide (((List.getD r2.1 (Int.toNat a7) (0, (0, 0))).1) ≤ ((List.getD r2.1 (Int.toNat (w (a7 - 1))) (0, (0, 0))).1))))))) then
                                                                                      bif !(!((decide (a7 > 0)) && ((decide ((((List.getD r2.1 (Int.toNat a7) (0, (0, 0))).2).1) < (((List.getD r2.1 (Int.toNat (w (a7 - 1))) (0, (0, 0))).2).1))) || (((((List.getD r2.1 (Int.toNat a7) (0, (0, 0))).2).1) == (((List.getD r2.1 (Int.toNat (w (a7 - 1))) (0, (0, 0))).2).1)) && (decide (((List.getD r2.1 (Int.toNat a7) (0, (0, 0))).1) ≤ ((List.getD r2.1 (Int.toNat (w (a7 - 1))) (0, (0, 0))).1))))))) || (!((decide (a7 > 0)) && ((decide ((((List.getD r2.1 (Int.toNat a7) (0, (0, 0))).2).1) < (((List.getD r2.1 (Int.toNat (w (a7 - 1))) (0, (0, 0))).2).1))) || (((((List.getD r2.1 (Int.toNat a7) (0, (0, 0))).2).1) == (((List.getD r2.1 (Int.toNat (w (a7 - 1))) (0, (0, 0))).2).1)) && (decide (((List.getD r2.1 (Int.toNat a7) (0, (0, 0))).1) ≤ ((List.getD r2.1 (Int.toNat (w (a7 - 1))) (0, (0, 0))).1))))))) then
                                                                                        bif !(!((decide (a7 > 0)) && ((decide ((((List.getD r2.1 (Int.toNat a7) (0, (0, 0))).2).1) < (((List.getD r2.1 (Int.toNat (w (a7 - 1))) (0, (0, 0))).2).1))) || (((((List.getD r2.1 (Int.toNat a7) (0, (0, 0))).2).1) == (((List.getD r2.1 (Int.toNat (w (a7 - 1))) (0, (0, 0))).2).1)) && (decide (((List.getD r2.1 (Int.toNat a7) (0, (0, 0))).1) ≤ ((List.getD r2.1 (Int.toNat (w (a7 - 1))) (0, (0, 0))).1))))))) || (!((decide (a7 > 0)) && ((decide ((((List.getD r2.1 (Int.toNat a7) (0, (0, 0))).2).1) < (((List.getD r2.1 (Int.toNat (w (a7 - 1))) (0, (0, 0))).2).1))) || (((((List.getD r2.1 (Int.toNat a7) (0, (0, 0))).2).1) == (((List.getD r2.1 (Int.toNat (w (a7 - 1))) (0, (0, 0))).2).1)) && (decide (((List.getD r2.1 (Int.toNat a7) (0, (0, 0))).1) ≤ ((List.getD r2.1 (Int.toNat (w (a7 - 1))) (0, (0, 0))).1))))))) then
                                                                                          bif !(!((decide (a7 > 0)) && ((decide ((((List.getD r2.1 (Int.toNat a7) (0, (0, 0))).2).1) < (((List.getD r2.1 (Int.toNat (w (a7 - 1))) (0, (0, 0))).2).1))) || (((((List.getD r2.1 (Int.toNat a7) (0, (0, 0))).2).1) == (((List.getD r2.1 (Int.toNat (w (a7 - 1))) (0, (0, 0))).2).1)) && (decide (((List.getD r2.1 (Int.toNat a7) (0, (0, 0))).1) ≤ ((List.getD r2.1 (Int.toNat (w (a7 - 1))) (0, (0, 0))).1))))))) || (!((decide (a7 > 0)) && ((decide ((((List.getD r2.1 (Int.toNat a7) (0, (0, 0))).2).1) < (((List.getD r2.1 (Int.toNat (w (a7 - 1))) (0, (0, 0))).2).1))) || (((((List.getD r2.1 (Int.toNat a7) (0, (0, 0))).2).1) == (((List.getD r2.1 (Int.toNat (w (a7 - 1))) (0, (0, 0))).2).1)) && (decide (((List.getD r2.1 (Int.toNat a7) (0, (0, 0))).1) ≤ ((List.getD r2.1 (Int.toNat (w (a7 - 1))) (0, (0, 0))).1))))))) then
                                                                                            bif ((decide (a7 > 0)) && ((decide ((((List.getD r2.1 (Int.toNat a7) (0, (0, 0))).2).1) < (((List.getD r2.1 (Int.toNat (w (a7 - 1))) (0, (0, 0))).2).1))) || (((((List.getD r2.1 (Int.toNat a7) (0, (0, 0))).2).1) == (((List.getD r2.1 (Int.toNat (w (a7 - 1))) (0, (0, 0))).2).1)) && (decide (((List.getD r2.1 (Int.toNat a7) (0, (0, 0))).1) ≤ ((List.getD r2.1 (Int.toNat (w (a7 - 1))) (0, (0, 0))).1)))))) || (!((decide (a7 > 0)) && ((decide ((((List.getD r2.1 (Int.toNat a7) (0, (0, 0))).2).1) < (((List.getD r2.1 (Int.toNat (w (a7 - 1))) (0, (0, 0))).2).1))) || (((((List.getD r2.1 (Int.toNat a7) (0, (0, 0))).2).1) == (((List.getD r2.1 (Int.toNat (w (a7 - 1))) (0, (0, 0))).2).1)) && (decide (((List.getD r2.1 (Int.toNat a7) (0, (0, 0))).1) ≤ ((List.getD r2.1 (Int.toNat (w (a7 - 1))) (0, (0, 0))).1))))))) then
                                                                                              bif ((decide (a7 > 0)) && ((decide ((((List.getD r2.1 (Int.toNat a7) (0, (0, 0))).2).1) < (((List.getD r2.1 (Int.toNat (w (a7 - 1))) (0, (0, 0))).2).1))) || (((((List.getD r2.1 (Int.toNat a7) (0, (0, 0))).2).1) == (((List.getD r2.1 (Int.toNat (w (a7 - 1))) (0, (0, 0))).2).1)) && (decide (((List.getD r2.1 (Int.toNat a7) (0, (0, 0))).1) ≤ ((List.getD r2.1 (Int.toNat (w (a7 - 1))) (0, (0, 0))).1)))))) || (decide ((((List.getD r2.1 (Int.toNat a7) (0, (0, 0))).2).1) > (((List.getD r2.1 (Int.toNat a7) (0, (0, 0))).2).2))) then
                                                                                                some false
                                                                                              else
                                                                                              bif (decide (0 ≤ a7)) && (decide (0 + (Int.toNat a7) ≤ r2.1.length)) then
                                                                                                law_LoadOvers.l3 N x0 x1 x2 x3 r2 k5 a6 a7 N 0
                                                                                              else
                                                                                                none
                                                                                            else
                                                                                              none
                                                                                          else
                                                                                            none
                                                                                        else
                                                                                          none
                                                                                      else
                                                                                        none
                                                                                    else
                                                                                      none
                                                                                  else
                                                                                    none
                                                                                else
                                                                                  none
                                                                              else
                                                                                none
                                                                            else
                                                                              none
                                                                          else
                                                                            none
                                                                        else
                                                                          none
                                                                      else
                                                                        none
                                                                    else
                                                                      none
                                                                  else
                                                                    none
                                                                else
                                                                  none
                                                              else
                                                                none
                                                            else
                                                              none
                                                          else
                                                            none
                                                        else
                                                          none
                                                      else
                                                        none
                                                    else
                                                      none
                                                  else
                                                    none
                                                else
                                                  none
                                              else
                                                none
                                            else
                                              none
                                          else
                                            none
                                        else
                                          none
                                      else
                                        none
                                    else
                                      none
                                  else
                                    none
                                else
                                  none
                              else
                                none
                            else
                              none
                          else
                            none
                        else
                          none
                      else
                        none
                    else
                      none
                  else
                    none
                else
                  none
              else
                none
            else
              none
          else
            none
        else
          none
      else
        none
    else
      law_LoadOvers.l4 N x0 x1 x2 x3 r2 N a6 x3.1 := by kernel_rfl
theorem law_LoadOvers.j1_eq (N : Nat) (x0 : List (ByteArray × List (List (Int × Int) × Int × Int))) (x1 : List (List ((Int × (Int × Int) × Int) × Int × Int))) (x2 : List Int) (x3 : Int × Int) (r2 : List (Int × Int × Int) × Int) (a4 : Int) {M : Nat} (hM : N = M + 1) : law_LoadOvers.j1 N x0 x1 x2 x3 r2 a4 =
    bif !(a4 == 0) then
      bif !(r2.2 == a4) || (r2.2 == a4) then
        bif !(r2.2 == a4) || (r2.2 == a4) then
          bif (!(r2.2 == a4)) || (r2.2 == a4) then
            some ((r2.2 == a4) && ((r2.1.length : Int) == 0))
          else
            none
        else
          none
      else
        none
    else
    bif !(!(decide ((w (x3.2 - x3.1)) > 60))) || (!(decide ((w (x3.2 - x3.1)) > 60))) then
      bif !(!(decide ((w (x3.2 - x3.1)) > 60))) || (!(decide ((w (x3.2 - x3.1)) > 60))) then
        bif (decide ((w (x3.2 - x3.1)) > 60)) || (!(decide ((w (x3.2 - x3.1)) > 60))) then
          bif (decide ((w (x3.2 - x3.1)) > 60)) || (decide (x3.2 > 200000)) then
            some true
          else
            law_LoadOvers.l2 N x0 x1 x2 x3 r2 N 0 0
        else
          none
      else
        none
    else
      none := (fuelK_eq hM _).trans (by kernel_rfl)
theorem law_LoadOvers.j0_eq (N : Nat) (x0 : List (ByteArray × List (List (Int × Int) × Int × Int))) (x1 : List (List ((Int × (Int × Int) × Int) × Int × Int))) (x2 : List Int) (x3 : Int × Int) (r2 : List (Int × Int × Int) × Int) {M : Nat} (hM : N = M + 1) : law_LoadOvers.j0 N x0 x1 x2 x3 r2 =
    bif !(r2.2 == 3) || (r2.2 == 3) then
      bif !(r2.2 == 3) || (r2.2 == 3) then
        bif (!(r2.2 == 3)) || (r2.2 == 3) then
          some ((r2.2 == 3) && ((r2.1.length : Int) == 0))
        else
          none
      else
        none
    else
      none := (fuelK_eq hM _).trans (by kernel_rfl)
theorem law_LoadOvers.l4_clean (N : Nat) (x0 : List (ByteArray × List (List (Int × Int) × Int × Int))) (x1 : List (List ((Int × (Int × Int) × Int) × Int × Int))) (x2 : List Int) (x3 : Int × Int) (r2 : List (Int × Int × Int) × Int) (k10 : Nat) (a11 : Int) (a12 : Int) : law_LoadOvers.l4 N x0 x1 x2 x3 r2 (k10 + 1) a11 a12 =
    bif decide (a12 < x3.2) then
      (load_Count.fn N (x0, x1, a12)).bind fun r13 =>
      bif (!(r13.2.2 == 0)) || (!((r13.1.length : Int) == (x0.length : Int))) then
        some false
      else
        law_LoadOvers.l5 N x0 x1 x2 x3 r2 k10 a12 r13 N a11 0
    else
    some ((r2.2 == 0) && (a11 == 0)) := by
  rw [law_LoadOvers.l4_succ]; simp only [taut55, taut20, taut46, taut21, cond_true]
theorem law_LoadOvers.l3_clean (N : Nat) (x0 : List (ByteArray × List (List (Int × Int) × Int × Int))) (x1 : List (List ((Int × (Int × Int) × Int) × Int × Int))) (x2 : List Int) (x3 : Int × Int) (r2 : List (Int × Int × Int) × Int) (k5 : Nat) (a6 : Int) (a7 : Int) (k8 : Nat) (a9 : Int) : law_LoadOvers.l3 N x0 x1 x2 x3 r2 k5 a6 a7 (k8 + 1) a9 =
    bif decide (a9 < ((Int.toNat a7 : Nat) : Int)) then
      bif (decide (0 ≤ a9)) && (decide (a9 < ((Int.toNat a7 : Nat) : Int))) then
        bif decide ((0 + (Int.toNat a9)) < r2.1.length) then
          bif (((List.getD r2.1 (0 + (Int.toNat a9)) (0, (0, 0))).1) == ((List.getD r2.1 (Int.toNat a7) (0, (0, 0))).1)) && (decide ((w ((((List.getD r2.1 (0 + (Int.toNat a9)) (0, (0, 0))).2).2) + 1)) ≥ (((List.getD r2.1 (Int.toNat a7) (0, (0, 0))).2).1))) then
            some false
          else
            law_LoadOvers.l3 N x0 x1 x2 x3 r2 k5 a6 a7 k8 (w (a9 + 1))
        else
          none
      else
        none
    else
      law_LoadOvers.l2 N x0 x1 x2 x3 r2 k5 (w (a6 + (w ((w ((((List.getD r2.1 (Int.toNat a7) (0, (0, 0))).2).2) - (((List.getD r2.1 (Int.toNat a7) (0, (0, 0))).2).1))) + 1)))) (w (a7 + 1)) := by
  rw [law_LoadOvers.l3_succ]; simp only [taut20, taut21, cond_true]
theorem taut58 : ∀ p0 p1 p2 p3 : Bool, ((!(!((p0) && ((p1) || ((p2) && (p3))))) || (!((p0) && ((p1) || ((p2) && (p3))))))) = true := by decide
theorem taut59 : ∀ p0 p1 p2 : Bool, ((!(((p0) && (!(p1))) && (p2)) || (((p0) && (!(p1))) && (p2)))) = true := by decide
theorem taut60 : ∀ p0 p1 p2 : Bool, ((!((p0) && (!(p1))) || ((!(p2)) || (((p0) && (!(p1))) && (p2))))) = true := by decide
theorem taut61 : ∀ p0 p1 p2 p3 : Bool, ((((p0) && ((p1) || ((p2) && (p3)))) || (!((p0) && ((p1) || ((p2) && (p3))))))) = true := by decide
theorem law_LoadOvers.l2_clean (N : Nat) (x0 : List (ByteArray × List (List (Int × Int) × Int × Int))) (x1 : List (List ((Int × (Int × Int) × Int) × Int × Int))) (x2 : List Int) (x3 : Int × Int) (r2 : List (Int × Int × Int) × Int) (k5 : Nat) (a6 : Int) (a7 : Int) : law_LoadOvers.l2 N x0 x1 x2 x3 r2 (k5 + 1) a6 a7 =
    bif decide (a7 < (r2.1.length : Int)) then
      bif (decide (0 ≤ a7)) && (decide (a7 < (r2.1.length : Int))) then
        bif decide ((Int.toNat a7) < r2.1.length) then
          bif ((decide (0 ≤ (w (a7 - 1)))) && (decide ((w (a7 - 1)) < (r2.1.length : Int)))) || !(decide (a7 > 0)) then
            bif (decide ((Int.toNat (w (a7 - 1))) < r2.1.length)) || !(decide (a7 > 0)) then
              bif ((decide (0 ≤ (w (a7 - 1)))) && (decide ((w (a7 - 1)) < (r2.1.length : Int)))) || !((decide (a7 > 0)) && (!(decide ((((List.getD r2.1 (Int.toNat a7) (0, (0, 0))).2).1) < (((List.getD r2.1 (Int.toNat (w (a7 - 1))) (0, (0, 0))).2).1))))) then
                bif (decide ((Int.toNat (w (a7 - 1))) < r2.1.length)) || !((decide (a7 > 0)) && (!(decide ((((List.getD r2.1 (Int.toNat a7) (0, (0, 0))).2).1) < (((List.getD r2.1 (Int.toNat (w (a7 - 1))) (0, (0, 0))).2).1))))) then
                  bif ((decide (0 ≤ (w (a7 - 1)))) && (decide ((w (a7 - 1)) < (r2.1.length : Int)))) || !(((decide (a7 > 0)) && (!(decide ((((List.getD r2.1 (Int.toNat a7) (0, (0, 0))).2).1) < (((List.getD r2.1 (Int.toNat (w (a7 - 1))) (0, (0, 0))).2).1))))) && ((((List.getD r2.1 (Int.toNat a7) (0, (0, 0))).2).1) == (((List.getD r2.1 (Int.toNat (w (a7 - 1))) (0, (0, 0))).2).1))) then
                    bif (decide ((Int.toNat (w (a7 - 1))) < r2.1.length)) || !(((decide (a7 > 0)) && (!(decide ((((List.getD r2.1 (Int.toNat a7) (0, (0, 0))).2).1) < (((List.getD r2.1 (Int.toNat (w (a7 - 1))) (0, (0, 0))).2).1))))) && ((((List.getD r2.1 (Int.toNat a7) (0, (0, 0))).2).1) == (((List.getD r2.1 (Int.toNat (w (a7 - 1))) (0, (0, 0))).2).1))) then
                      bif ((decide (a7 > 0)) && ((decide ((((List.getD r2.1 (Int.toNat a7) (0, (0, 0))).2).1) < (((List.getD r2.1 (Int.toNat (w (a7 - 1))) (0, (0, 0))).2).1))) || (((((List.getD r2.1 (Int.toNat a7) (0, (0, 0))).2).1) == (((List.getD r2.1 (Int.toNat (w (a7 - 1))) (0, (0, 0))).2).1)) && (decide (((List.getD r2.1 (Int.toNat a7) (0, (0, 0))).1) ≤ ((List.getD r2.1 (Int.toNat (w (a7 - 1))) (0, (0, 0))).1)))))) || (decide ((((List.getD r2.1 (Int.toNat a7) (0, (0, 0))).2).1) > (((List.getD r2.1 (Int.toNat a7) (0, (0, 0))).2).2))) then
                        some false
                      else
                      bif (decide (0 ≤ a7)) && (decide (0 + (Int.toNat a7) ≤ r2.1.length)) then
                        law_LoadOvers.l3 N x0 x1 x2 x3 r2 k5 a6 a7 N 0
                      else
                        none
                    else
                      none
                  else
                    none
                else
                  none
              else
                none
            else
              none
          else
            none
        else
          none
      else
        none
    else
      law_LoadOvers.l4 N x0 x1 x2 x3 r2 N a6 x3.1 := by
  rw [law_LoadOvers.l2_succ]; simp only [taut58, taut59, taut60, taut49, taut50, taut20, taut21, taut61, cond_true]
theorem law_LoadOvers.j1_clean (N : Nat) (x0 : List (ByteArray × List (List (Int × Int) × Int × Int))) (x1 : List (List ((Int × (Int × Int) × Int) × Int × Int))) (x2 : List Int) (x3 : Int × Int) (r2 : List (Int × Int × Int) × Int) (a4 : Int) {M : Nat} (hM : N = M + 1) : law_LoadOvers.j1 N x0 x1 x2 x3 r2 a4 =
    bif !(a4 == 0) then
      some ((r2.2 == a4) && ((r2.1.length : Int) == 0))
    else
    bif (decide ((w (x3.2 - x3.1)) > 60)) || (decide (x3.2 > 200000)) then
      some true
    else
      law_LoadOvers.l2 N x0 x1 x2 x3 r2 N 0 0 := by
  rw [law_LoadOvers.j1_eq (hM := hM)]; simp only [taut1, taut20, taut21, taut6, cond_true]
theorem law_LoadOvers.j0_clean (N : Nat) (x0 : List (ByteArray × List (List (Int × Int) × Int × Int))) (x1 : List (List ((Int × (Int × Int) × Int) × Int × Int))) (x2 : List Int) (x3 : Int × Int) (r2 : List (Int × Int × Int) × Int) {M : Nat} (hM : N = M + 1) : law_LoadOvers.j0 N x0 x1 x2 x3 r2 =
    some ((r2.2 == 3) && ((r2.1.length : Int) == 0)) := by
  rw [law_LoadOvers.j0_eq (hM := hM)]; simp only [taut20, taut21, cond_true]
theorem law_LoadOvers.l6_cons (N : Nat) (x0 : List (ByteArray × List (List (Int × Int) × Int × Int))) (x1 : List (List ((Int × (Int × Int) × Int) × Int × Int))) (x2 : List Int) (x3 : Int × Int) (r2 : List (Int × Int × Int) × Int) (k10 : Nat) (a12 : Int) (r13 : List Int × Int × Int) (k14 : Nat) (a15 : Int) (a16 : Int) (k17 : Nat) {pre r} {x} (hl : r2.1 = pre ++ x :: r) (hb : r2.1.length < 4611686018427387904) : law_LoadOvers.l6 N x0 x1 x2 x3 r2 k10 a12 r13 k14 a15 a16 (k17 + 1) (pre.length : Int) =
    bif decide (pre.length < r2.1.length) then
      (law_LoadOvers_1.fn N (x, a16, a12)).bind fun r19 =>
      bif r19 then
        bif (decide (0 ≤ a16)) && (decide (a16 < (r13.1.length : Int))) then
          bif decide ((Int.toNat a16) < r13.1.length) then
            bif (decide (0 ≤ a16)) && (decide (a16 < (x2.length : Int))) then
              bif !((decide ((pre.length : Int) ≥ 0)) == (decide ((List.getD r13.1 (Int.toNat a16) 0) > (List.getD x2 (Int.toNat a16) 0)))) then
                some false
              else
              bif decide ((pre.length : Int) ≥ 0) then
                law_LoadOvers.l5 N x0 x1 x2 x3 r2 k10 a12 r13 k14 (w (a15 - 1)) (w (a16 + 1))
              else
                law_LoadOvers.l5 N x0 x1 x2 x3 r2 k10 a12 r13 k14 a15 (w (a16 + 1))
            else
              none
          else
            none
        else
          none
      else
        law_LoadOvers.l6 N x0 x1 x2 x3 r2 k10 a12 r13 k14 a15 a16 k17 ((pre.length : Int) + 1)
    else
      none := by
  have hlen : r2.1.length = pre.length + 1 + r.length := by rw [hl]; simp; omega
  have e1 : decide ((pre.length : Int) < (r2.1.length : Int)) = true := by rw [decide_eq_true_iff]; omega
  have e2 : decide (0 ≤ (pre.length : Int)) = true := by rw [decide_eq_true_iff]; omega
  have e4 : w ((pre.length : Int) + 1) = (pre.length : Int) + 1 := w_next hl hb
  have e5 : List.take pre.length r2.1 = pre := by rw [hl]; simp
  have e6 : decide ((pre.length : Int) ≤ (r2.1.length : Int)) = true := by rw [decide_eq_true_iff]; omega
  have g0 : List.getD r2.1 pre.length (0, (0, 0)) = x := by rw [hl]; exact getD_mid pre x r _
  rw [law_LoadOvers.l6_succ]
  simp -implicitDefEqProofs only [Int.toNat_natCast, e1, e2, e4, e6, g0, e5, Bool.and_true, Bool.true_and, Bool.true_or, cond_true]
theorem law_LoadOvers.l6_nil (N : Nat) (x0 : List (ByteArray × List (List (Int × Int) × Int × Int))) (x1 : List (List ((Int × (Int × Int) × Int) × Int × Int))) (x2 : List Int) (x3 : Int × Int) (r2 : List (Int × Int × Int) × Int) (k10 : Nat) (a12 : Int) (r13 : List Int × Int × Int) (k14 : Nat) (a15 : Int) (a16 : Int) (k17 : Nat) : law_LoadOvers.l6 N x0 x1 x2 x3 r2 k10 a12 r13 k14 a15 a16 (k17 + 1) (r2.1.length : Int) =
    bif (decide (0 ≤ a16)) && (decide (a16 < (r13.1.length : Int))) then
      bif decide ((Int.toNat a16) < r13.1.length) then
        bif (decide (0 ≤ a16)) && (decide (a16 < (x2.length : Int))) then
          bif !(false == (decide ((List.getD r13.1 (Int.toNat a16) 0) > (List.getD x2 (Int.toNat a16) 0)))) then
            some false
          else
            law_LoadOvers.l5 N x0 x1 x2 x3 r2 k10 a12 r13 k14 a15 (w (a16 + 1))
        else
          none
      else
        none
    else
      none := by
  have e1 : decide ((r2.1.length : Int) < (r2.1.length : Int)) = false := by rw [decide_eq_false_iff_not]; omega
  rw [law_LoadOvers.l6_succ]
  simp -implicitDefEqProofs only [e1, cond_false]
theorem law_LoadOvers.l5_cons (N : Nat) (x0 : List (ByteArray × List (List (Int × Int) × Int × Int))) (x1 : List (List ((Int × (Int × Int) × Int) × Int × Int))) (x2 : List Int) (x3 : Int × Int) (r2 : List (Int × Int × Int) × Int) (k10 : Nat) (a12 : Int) (r13 : List Int × Int × Int) (k14 : Nat) (a15 : Int) {pre r} {x} (hl : x0 = pre ++ x :: r) (hb : x0.length < 4611686018427387904) : law_LoadOvers.l5 N x0 x1 x2 x3 r2 k10 a12 r13 (k14 + 1) a15 (pre.length : Int) =
    law_LoadOvers.l6 N x0 x1 x2 x3 r2 k10 a12 r13 k14 a15 (pre.length : Int) N 0 := by
  have hlen : x0.length = pre.length + 1 + r.length := by rw [hl]; simp; omega
  have e1 : decide ((pre.length : Int) < (x0.length : Int)) = true := by rw [decide_eq_true_iff]; omega
  have e2 : decide (0 ≤ (pre.length : Int)) = true := by rw [decide_eq_true_iff]; omega
  have e4 : w ((pre.length : Int) + 1) = (pre.length : Int) + 1 := w_next hl hb
  have e5 : List.take pre.length x0 = pre := by rw [hl]; simp
  have e6 : decide ((pre.length : Int) ≤ (x0.length : Int)) = true := by rw [decide_eq_true_iff]; omega
  rw [law_LoadOvers.l5_succ]
  simp -implicitDefEqProofs only [Int.toNat_natCast, e1, e2, e4, e6, e5, Bool.and_true, Bool.true_and, Bool.true_or, cond_true]
theorem law_LoadOvers.l5_nil (N : Nat) (x0 : List (ByteArray × List (List (Int × Int) × Int × Int))) (x1 : List (List ((Int × (Int × Int) × Int) × Int × Int))) (x2 : List Int) (x3 : Int × Int) (r2 : List (Int × Int × Int) × Int) (k10 : Nat) (a12 : Int) (r13 : List Int × Int × Int) (k14 : Nat) (a15 : Int) : law_LoadOvers.l5 N x0 x1 x2 x3 r2 k10 a12 r13 (k14 + 1) a15 (x0.length : Int) =
    law_LoadOvers.l4 N x0 x1 x2 x3 r2 k10 a15 (w (a12 + 1)) := by
  have e1 : decide ((x0.length : Int) < (x0.length : Int)) = false := by rw [decide_eq_false_iff_not]; omega
  rw [law_LoadOvers.l5_succ]
  simp -implicitDefEqProofs only [e1, cond_false]
theorem law_LoadOvers.l2_cons (N : Nat) (x0 : List (ByteArray × List (List (Int × Int) × Int × Int))) (x1 : List (List ((Int × (Int × Int) × Int) × Int × Int))) (x2 : List Int) (x3 : Int × Int) (r2 : List (Int × Int × Int) × Int) (k5 : Nat) (a6 : Int) {pre r} {x} (hl : r2.1 = pre ++ x :: r) (hb : r2.1.length < 4611686018427387904) : law_LoadOvers.l2 N x0 x1 x2 x3 r2 (k5 + 1) a6 (pre.length : Int) =
    bif decide (pre.length < r2.1.length) then
      bif ((decide (0 ≤ (w ((pre.length : Int) - 1)))) && (decide ((w ((pre.length : Int) - 1)) < (r2.1.length : Int)))) || !(decide ((pre.length : Int) > 0)) then
        bif (decide ((Int.toNat (w ((pre.length : Int) - 1))) < r2.1.length)) || !(decide ((pre.length : Int) > 0)) then
          bif ((decide (0 ≤ (w ((pre.length : Int) - 1)))) && (decide ((w ((pre.length : Int) - 1)) < (r2.1.length : Int)))) || !((decide ((pre.length : Int) > 0)) && (!(decide (((x.2).1) < (((List.getD r2.1 (Int.toNat (w ((pre.length : Int) - 1))) (0, (0, 0))).2).1))))) then
            bif (decide ((Int.toNat (w ((pre.length : Int) - 1))) < r2.1.length)) || !((decide ((pre.length : Int) > 0)) && (!(decide (((x.2).1) < (((List.getD r2.1 (Int.toNat (w ((pre.length : Int) - 1))) (0, (0, 0))).2).1))))) then
              bif ((decide (0 ≤ (w ((pre.length : Int) - 1)))) && (decide ((w ((pre.length : Int) - 1)) < (r2.1.length : Int)))) || !(((decide ((pre.length : Int) > 0)) && (!(decide (((x.2).1) < (((List.getD r2.1 (Int.toNat (w ((pre.length : Int) - 1))) (0, (0, 0))).2).1))))) && (((x.2).1) == (((List.getD r2.1 (Int.toNat (w ((pre.length : Int) - 1))) (0, (0, 0))).2).1))) then
                bif (decide ((Int.toNat (w ((pre.length : Int) - 1))) < r2.1.length)) || !(((decide ((pre.length : Int) > 0)) && (!(decide (((x.2).1) < (((List.getD r2.1 (Int.toNat (w ((pre.length : Int) - 1))) (0, (0, 0))).2).1))))) && (((x.2).1) == (((List.getD r2.1 (Int.toNat (w ((pre.length : Int) - 1))) (0, (0, 0))).2).1))) then
                  bif ((decide ((pre.length : Int) > 0)) && ((decide (((x.2).1) < (((List.getD r2.1 (Int.toNat (w ((pre.length : Int) - 1))) (0, (0, 0))).2).1))) || ((((x.2).1) == (((List.getD r2.1 (Int.toNat (w ((pre.length : Int) - 1))) (0, (0, 0))).2).1)) && (decide ((x.1) ≤ ((List.getD r2.1 (Int.toNat (w ((pre.length : Int) - 1))) (0, (0, 0))).1)))))) || (decide (((x.2).1) > ((x.2).2))) then
                    some false
                  else
                  bif decide (0 + pre.length ≤ r2.1.length) then
                    law_LoadOvers.l3 N x0 x1 x2 x3 r2 k5 a6 (pre.length : Int) N 0
                  else
                    none
                else
                  none
              else
                none
            else
              none
          else
            none
        else
          none
      else
        none
    else
      none := by
  have hlen : r2.1.length = pre.length + 1 + r.length := by rw [hl]; simp; omega
  have e1 : decide ((pre.length : Int) < (r2.1.length : Int)) = true := by rw [decide_eq_true_iff]; omega
  have e2 : decide (0 ≤ (pre.length : Int)) = true := by rw [decide_eq_true_iff]; omega
  have e4 : w ((pre.length : Int) + 1) = (pre.length : Int) + 1 := w_next hl hb
  have e5 : List.take pre.length r2.1 = pre := by rw [hl]; simp
  have e6 : decide ((pre.length : Int) ≤ (r2.1.length : Int)) = true := by rw [decide_eq_true_iff]; omega
  have g0 : List.getD r2.1 pre.length (0, (0, 0)) = x := by rw [hl]; exact getD_mid pre x r _
  rw [law_LoadOvers.l2_clean]
  simp -implicitDefEqProofs only [Int.toNat_natCast, e1, e2, e4, e6, g0, e5, Bool.and_true, Bool.true_and, Bool.true_or, cond_true]
theorem law_LoadOvers.l2_nil (N : Nat) (x0 : List (ByteArray × List (List (Int × Int) × Int × Int))) (x1 : List (List ((Int × (Int × Int) × Int) × Int × Int))) (x2 : List Int) (x3 : Int × Int) (r2 : List (Int × Int × Int) × Int) (k5 : Nat) (a6 : Int) : law_LoadOvers.l2 N x0 x1 x2 x3 r2 (k5 + 1) a6 (r2.1.length : Int) =
    law_LoadOvers.l4 N x0 x1 x2 x3 r2 N a6 x3.1 := by
  have e1 : decide ((r2.1.length : Int) < (r2.1.length : Int)) = false := by rw [decide_eq_false_iff_not]; omega
  rw [law_LoadOvers.l2_clean]
  simp -implicitDefEqProofs only [e1, cond_false]
theorem law_LoadOvers.eq (N : Nat) (x0 : List (ByteArray × List (List (Int × Int) × Int × Int))) (x1 : List (List ((Int × (Int × Int) × Int) × Int × Int))) (x2 : List Int) (x3 : Int × Int) : law_LoadOvers.fn N (x0, x1, x2, x3) =
    (law_loadFact.fn N ()).bind fun r1 =>
    bif !r1 then
      some false
    else
      (load_Over.fn N (x0, x1, x2, x3)).bind fun r2 =>
      (law_loadError.fn N (x0, x1)).bind fun r3 =>
      bif !(r3 == 0) || (r3 == 0) then
        bif !(r3 == 0) || (r3 == 0) then
          bif !(r3 == 0) || (r3 == 0) then
            bif !(r3 == 0) || (r3 == 0) then
              bif (!(r3 == 0)) || (r3 == 0) then
                bif (r3 == 0) && (!((x2.length : Int) == (x0.length : Int))) then
                  law_LoadOvers.j0 N x0 x1 x2 x3 r2
                else
                bif r3 == 0 then
                  (law_spanError.fn N x3).bind fun r20 =>
                  law_LoadOvers.j1 N x0 x1 x2 x3 r2 r20
                else
                  law_LoadOvers.j1 N x0 x1 x2 x3 r2 r3
              else
                none
            else
              none
          else
            none
        else
          none
      else
        none := by kernel_rfl
theorem law_LoadOvers.clean (N : Nat) (x0 : List (ByteArray × List (List (Int × Int) × Int × Int))) (x1 : List (List ((Int × (Int × Int) × Int) × Int × Int))) (x2 : List Int) (x3 : Int × Int) : law_LoadOvers.fn N (x0, x1, x2, x3) =
    (law_loadFact.fn N ()).bind fun r1 =>
    bif !r1 then
      some false
    else
      (load_Over.fn N (x0, x1, x2, x3)).bind fun r2 =>
      (law_loadError.fn N (x0, x1)).bind fun r3 =>
      bif (r3 == 0) && (!((x2.length : Int) == (x0.length : Int))) then
        law_LoadOvers.j0 N x0 x1 x2 x3 r2
      else
      bif r3 == 0 then
        (law_spanError.fn N x3).bind fun r20 =>
        law_LoadOvers.j1 N x0 x1 x2 x3 r2 r20
      else
        law_LoadOvers.j1 N x0 x1 x2 x3 r2 r3 := by
  rw [law_LoadOvers.eq]; simp only [taut20, taut21, cond_true]

end Go.Proofs.Ytjojikhfmlceoaa.Sk
