/- PRINTED by gen.py: what the functions answer. Not trusted: Lean checks it. -/
import Derived.Test.YtbjanflhagkhlaaDoorSkAid
import Derived.Test.YtbjanflhagkhlaaDoorSkItoa
import Derived.Test.YtbjanflhagkhlaaDoorSkSplit
import Derived.Test.YtbjanflhagkhlaaDoorSkAtoi
set_option linter.unusedVariables false
set_option linter.unusedSimpArgs false
set_option maxRecDepth 100000
namespace Go.Proofs.YtbjanflhagkhlaaDoor.Sk
open Go
def tyTab : TypeId → Option Ty := tyOf [(3, .int .i64), (5, .int .u8), (9, .str), (46, .pair (.str) (.pair (.bool) (.pair (.bool) (.pair (.int .i64) (.int .i64))))), (60, .pair (.pair (.str) (.pair (.int .i64) (.pair (.int .i64) (.str)))) (.int .i64))]
theorem mixed : Tryd.prog.follows .mixedOrders = true := by kernel_rfl
/-! ### law_climbed: skyway/skywaylaw3.climbed -/
def law_climbed.kp : List (Nat × List (Nat × Option (TypeId × Ty))) := []
noncomputable def law_climbed.G (N : Nat) : List (Nat × Spec) := []
noncomputable def law_climbed.E (N : Nat) : Env := mkEnv (law_climbed.G N) N tyTab law_climbed.kp
noncomputable def law_climbed.fn (N : Nat) (x : Int) : Option (ByteArray × Int × Int × ByteArray) := evFn (law_climbed.E N) Tryd.prog 3 Tryd.f28 false [.cell (.int .i64)] [.val (.agg (.pair (.str) (.pair (.int .i64) (.pair (.int .i64) (.str)))))] x
noncomputable def law_climbed.S (N : Nat) : PSpec := ⟨false, [.cell (.int .i64)], [.val (.agg (.pair (.str) (.pair (.int .i64) (.pair (.int .i64) (.str)))))], law_climbed.fn N⟩
theorem f28_enters : Enters Tryd.prog 28 := ⟨Tryd.f28, Tryd.func28, by kernel_rfl, by kernel_rfl⟩
theorem law_climbed.tab (N : Nat) : TabOk Tryd.prog (law_climbed.G N) := trivial
theorem law_climbed.enters : Enters Tryd.prog 28 := f28_enters
theorem law_climbed.sound (N : Nat) : Sound Tryd.prog 28 (law_climbed.S N) := evFn_sound (specs_tab (law_climbed.tab N)) (inls_tab (law_climbed.tab N)) mixed 3 Tryd.func28 _ _ _
theorem law_climbed.eq (N : Nat) (x0 : Int) : law_climbed.fn N x0 =
    some ((⟨#[65, 49]⟩ : ByteArray), (0, (x0, (⟨#[]⟩ : ByteArray)))) := by kernel_rfl

/-! ### chart_Name: skyway/chart.Name -/
def chart_Name.kp : List (Nat × List (Nat × Option (TypeId × Ty))) := [(4, [(0, none), (24, none), (25, none)])]
noncomputable def chart_Name.G (N : Nat) : List (Nat × Spec) := []
noncomputable def chart_Name.E (N : Nat) : Env := mkEnv (chart_Name.G N) N tyTab chart_Name.kp
noncomputable def chart_Name.fn (N : Nat) (x : ByteArray) : Option Bool := evFn (chart_Name.E N) Tryd.prog 3 Tryd.f52 false [.cell (.str)] [.val (.cell (.bool))] x
noncomputable def chart_Name.S (N : Nat) : PSpec := ⟨false, [.cell (.str)], [.val (.cell (.bool))], chart_Name.fn N⟩
theorem f52_enters : Enters Tryd.prog 52 := ⟨Tryd.f52, Tryd.func52, by kernel_rfl, by kernel_rfl⟩
theorem chart_Name.tab (N : Nat) : TabOk Tryd.prog (chart_Name.G N) := trivial
theorem chart_Name.enters : Enters Tryd.prog 52 := f52_enters
theorem chart_Name.sound (N : Nat) : Sound Tryd.prog 52 (chart_Name.S N) := evFn_sound (specs_tab (chart_Name.tab N)) (inls_tab (chart_Name.tab N)) mixed 3 Tryd.func52 _ _ _
noncomputable def chart_Name.cd (N : Nat) (p : List Nat) : St → (Ex → St → Option Bool) → Option Bool := ev (chart_Name.E N) Tryd.prog (callD (chart_Name.E N) Tryd.prog 3) 0 (codeAt (bodyOf Tryd.f52) p)
noncomputable def chart_Name.fin : Ex → St → Option Bool := endK Tryd.prog Tryd.f52 [.val (.cell (.bool))]
noncomputable def chart_Name.l0 (N : Nat) (x0 : ByteArray) (k1 : Nat) (a2 : Int) : Option Bool :=
  loopN (norm ((chart_Name.E N).keep 4) 0) (chart_Name.cd N [1, 1, 0, 1, 0, 0]) k1
  ⟨[.sc (.string x0), .any, .any, .any, .any, .any, .any, .any, .any, .any, .any, .any, .any, .any, .any, .any, .any, .any, .any, .any, .any, .any, .any, .any, .sc (.int .i64 (x0.size : Int)), .sc (.int .i64 a2), .any, .any, .any, .any, .any, .any, .any, .any, .any, .any, .any, .any, .any, .any, .any, .any, .any, .any, .any, .any], []⟩
  (blockK 0 (seqK (chart_Name.cd N [1, 1, 1]) chart_Name.fin))
theorem chart_Name.l0_zero (N : Nat) (x0 : ByteArray) (a2 : Int) : chart_Name.l0 N x0 0 a2 = none := by kernel_rfl
theorem chart_Name.l0_succ (N : Nat) (x0 : ByteArray) (k1 : Nat) (a2 : Int) : chart_Name.l0 N x0 (k1 + 1) a2 =
    bif decide (a2 < (x0.size : Int)) then
      bif (decide (0 ≤ a2)) && (decide (a2 < (x0.size : Int))) then
        bif !(!(decide (((((ByteArray.data x0).getD (Int.toNat a2) 0).toNat : Nat) : Int) < 65))) || (!(decide (((((ByteArray.data x0).getD (Int.toNat a2) 0).toNat : Nat) : Int) < 65))) then
          bif (decide (((((ByteArray.data x0).getD (Int.toNat a2) 0).toNat : Nat) : Int) < 65)) || (!(decide (((((ByteArray.data x0).getD (Int.toNat a2) 0).toNat : Nat) : Int) < 65))) then
            bif !((decide (((((ByteArray.data x0).getD (Int.toNat a2) 0).toNat : Nat) : Int) < 65)) || (decide (((((ByteArray.data x0).getD (Int.toNat a2) 0).toNat : Nat) : Int) > 90))) || ((decide (((((ByteArray.data x0).getD (Int.toNat a2) 0).toNat : Nat) : Int) < 65)) || (decide (((((ByteArray.data x0).getD (Int.toNat a2) 0).toNat : Nat) : Int) > 90))) then
              bif !((decide (((((ByteArray.data x0).getD (Int.toNat a2) 0).toNat : Nat) : Int) < 65)) || (decide (((((ByteArray.data x0).getD (Int.toNat a2) 0).toNat : Nat) : Int) > 90))) || ((decide (((((ByteArray.data x0).getD (Int.toNat a2) 0).toNat : Nat) : Int) < 65)) || (decide (((((ByteArray.data x0).getD (Int.toNat a2) 0).toNat : Nat) : Int) > 90))) then
                bif !(((decide (((((ByteArray.data x0).getD (Int.toNat a2) 0).toNat : Nat) : Int) < 65)) || (decide (((((ByteArray.data x0).getD (Int.toNat a2) 0).toNat : Nat) : Int) > 90))) && (!(decide (((((ByteArray.data x0).getD (Int.toNat a2) 0).toNat : Nat) : Int) < 48)))) || (((decide (((((ByteArray.data x0).getD (Int.toNat a2) 0).toNat : Nat) : Int) < 65)) || (decide (((((ByteArray.data x0).getD (Int.toNat a2) 0).toNat : Nat) : Int) > 90))) && (!(decide (((((ByteArray.data x0).getD (Int.toNat a2) 0).toNat : Nat) : Int) < 48)))) then
                  bif !((decide (((((ByteArray.data x0).getD (Int.toNat a2) 0).toNat : Nat) : Int) < 65)) || (decide (((((ByteArray.data x0).getD (Int.toNat a2) 0).toNat : Nat) : Int) > 90))) || ((decide (((((ByteArray.data x0).getD (Int.toNat a2) 0).toNat : Nat) : Int) < 65)) || (decide (((((ByteArray.data x0).getD (Int.toNat a2) 0).toNat : Nat) : Int) > 90))) then
                    bif !((decide (((((ByteArray.data x0).getD (Int.toNat a2) 0).toNat : Nat) : Int) < 65)) || (decide (((((ByteArray.data x0).getD (Int.toNat a2) 0).toNat : Nat) : Int) > 90))) || ((decide (((((ByteArray.data x0).getD (Int.toNat a2) 0).toNat : Nat) : Int) < 48)) || (((decide (((((ByteArray.data x0).getD (Int.toNat a2) 0).toNat : Nat) : Int) < 65)) || (decide (((((ByteArray.data x0).getD (Int.toNat a2) 0).toNat : Nat) : Int) > 90))) && (!(decide (((((ByteArray.data x0).getD (Int.toNat a2) 0).toNat : Nat) : Int) < 48))))) then
                      bif (!((decide (((((ByteArray.data x0).getD (Int.toNat a2) 0).toNat : Nat) : Int) < 65)) || (decide (((((ByteArray.data x0).getD (Int.toNat a2) 0).toNat : Nat) : Int) > 90)))) || ((decide (((((ByteArray.data x0).getD (Int.toNat a2) 0).toNat : Nat) : Int) < 65)) || (decide (((((ByteArray.data x0).getD (Int.toNat a2) 0).toNat : Nat) : Int) > 90))) then
                        bif ((decide (((((ByteArray.data x0).getD (Int.toNat a2) 0).toNat : Nat) : Int) < 65)) || (decide (((((ByteArray.data x0).getD (Int.toNat a2) 0).toNat : Nat) : Int) > 90))) && ((decide (((((ByteArray.data x0).getD (Int.toNat a2) 0).toNat : Nat) : Int) < 48)) || (decide (((((ByteArray.data x0).getD (Int.toNat a2) 0).toNat : Nat) : Int) > 57))) then
                          some false
                        else
                          chart_Name.l0 N x0 k1 (w (a2 + 1))
                      else
                        none
                    else
                      none
                  else
                    none
                else
                  none
              else
                none
            else
              none
          else
            none
        else
          none
      else
        none
    else
      some true := by kernel_rfl
theorem taut1 : ∀ p0 : Bool, ((!(!(p0)) || (!(p0)))) = true := by decide
theorem taut2 : ∀ p0 p1 p2 : Bool, ((!(((p0) || (p1)) && (!(p2))) || (((p0) || (p1)) && (!(p2))))) = true := by decide
theorem taut3 : ∀ p0 p1 : Bool, ((!((p0) || (p1)) || ((p0) || (p1)))) = true := by decide
theorem taut4 : ∀ p0 p1 p2 : Bool, ((!((p0) || (p1)) || ((p2) || (((p0) || (p1)) && (!(p2)))))) = true := by decide
theorem taut5 : ∀ p0 p1 : Bool, (((!((p0) || (p1))) || ((p0) || (p1)))) = true := by decide
theorem taut6 : ∀ p0 : Bool, (((p0) || (!(p0)))) = true := by decide
theorem chart_Name.l0_clean (N : Nat) (x0 : ByteArray) (k1 : Nat) (a2 : Int) : chart_Name.l0 N x0 (k1 + 1) a2 =
    bif decide (a2 < (x0.size : Int)) then
      bif (decide (0 ≤ a2)) && (decide (a2 < (x0.size : Int))) then
        bif ((decide (((((ByteArray.data x0).getD (Int.toNat a2) 0).toNat : Nat) : Int) < 65)) || (decide (((((ByteArray.data x0).getD (Int.toNat a2) 0).toNat : Nat) : Int) > 90))) && ((decide (((((ByteArray.data x0).getD (Int.toNat a2) 0).toNat : Nat) : Int) < 48)) || (decide (((((ByteArray.data x0).getD (Int.toNat a2) 0).toNat : Nat) : Int) > 57))) then
          some false
        else
          chart_Name.l0 N x0 k1 (w (a2 + 1))
      else
        none
    else
      some true := by
  rw [chart_Name.l0_succ]; simp only [taut1, taut2, taut3, taut4, taut5, taut6, cond_true]
theorem chart_Name.l0_cons (N : Nat) (x0 : ByteArray) (k1 : Nat) {pre r} {x} (hl : x0.data.toList = pre ++ x :: r) (hb : x0.size < 4611686018427387904) : chart_Name.l0 N x0 (k1 + 1) (pre.length : Int) =
    bif ((decide (((x.toNat : Nat) : Int) < 65)) || (decide (((x.toNat : Nat) : Int) > 90))) && ((decide (((x.toNat : Nat) : Int) < 48)) || (decide (((x.toNat : Nat) : Int) > 57))) then
      some false
    else
      chart_Name.l0 N x0 k1 ((pre.length : Int) + 1) := by
  have hlen : x0.size = pre.length + 1 + r.length := by rw [ByteArray.size, ← Array.length_toList, hl]; simp; omega
  have e1 : decide ((pre.length : Int) < (x0.size : Int)) = true := by rw [decide_eq_true_iff]; omega
  have e2 : decide (0 ≤ (pre.length : Int)) = true := by rw [decide_eq_true_iff]; omega
  have e4 : w ((pre.length : Int) + 1) = (pre.length : Int) + 1 := w_next hl (by rw [Array.length_toList]; exact hb)
  have e6 : decide ((pre.length : Int) ≤ (x0.size : Int)) = true := by rw [decide_eq_true_iff]; omega
  have g0 : (ByteArray.data x0).getD pre.length 0 = x := getD_bytes hl
  rw [chart_Name.l0_clean]
  simp -implicitDefEqProofs only [Int.toNat_natCast, e1, e2, e4, e6, g0, Bool.and_true, Bool.true_and, Bool.true_or, cond_true]
theorem chart_Name.l0_nil (N : Nat) (x0 : ByteArray) (k1 : Nat) : chart_Name.l0 N x0 (k1 + 1) (x0.size : Int) =
    some true := by
  have e1 : decide ((x0.size : Int) < (x0.size : Int)) = false := by rw [decide_eq_false_iff_not]; omega
  rw [chart_Name.l0_clean]
  simp -implicitDefEqProofs only [e1, cond_false]
theorem chart_Name.eq (N : Nat) (x0 : ByteArray) : chart_Name.fn N x0 =
    bif !(!((x0.size : Int) == 0)) || (!((x0.size : Int) == 0)) then
      bif !(!((x0.size : Int) == 0)) || (!((x0.size : Int) == 0)) then
        bif ((x0.size : Int) == 0) || (!((x0.size : Int) == 0)) then
          bif !(!(((x0.size : Int) == 0) || (decide ((x0.size : Int) > 8)))) || (!(((x0.size : Int) == 0) || (decide ((x0.size : Int) > 8)))) then
            bif (decide (0 < (x0.size : Int))) || !(!(((x0.size : Int) == 0) || (decide ((x0.size : Int) > 8)))) then
              bif !(!(((x0.size : Int) == 0) || (decide ((x0.size : Int) > 8)))) || (!(((x0.size : Int) == 0) || (decide ((x0.size : Int) > 8)))) then
                bif (((x0.size : Int) == 0) || (decide ((x0.size : Int) > 8))) || (!(((x0.size : Int) == 0) || (decide ((x0.size : Int) > 8)))) then
                  bif !(!((((x0.size : Int) == 0) || (decide ((x0.size : Int) > 8))) || (decide (((((ByteArray.data x0).getD 0 0).toNat : Nat) : Int) < 65)))) || (!((((x0.size : Int) == 0) || (decide ((x0.size : Int) > 8))) || (decide (((((ByteArray.data x0).getD 0 0).toNat : Nat) : Int) < 65)))) then
                    bif (decide (0 < (x0.size : Int))) || !(!((((x0.size : Int) == 0) || (decide ((x0.size : Int) > 8))) || (decide (((((ByteArray.data x0).getD 0 0).toNat : Nat) : Int) < 65)))) then
                      bif !(!((((x0.size : Int) == 0) || (decide ((x0.size : Int) > 8))) || (decide (((((ByteArray.data x0).getD 0 0).toNat : Nat) : Int) < 65)))) || (!((((x0.size : Int) == 0) || (decide ((x0.size : Int) > 8))) || (decide (((((ByteArray.data x0).getD 0 0).toNat : Nat) : Int) < 65)))) then
                        bif ((((x0.size : Int) == 0) || (decide ((x0.size : Int) > 8))) || (decide (((((ByteArray.data x0).getD 0 0).toNat : Nat) : Int) < 65))) || (!((((x0.size : Int) == 0) || (decide ((x0.size : Int) > 8))) || (decide (((((ByteArray.data x0).getD 0 0).toNat : Nat) : Int) < 65)))) then
                          bif ((((x0.size : Int) == 0) || (decide ((x0.size : Int) > 8))) || (decide (((((ByteArray.data x0).getD 0 0).toNat : Nat) : Int) < 65))) || (decide (((((ByteArray.data x0).getD 0 0).toNat : Nat) : Int) > 90)) then
                            some false
                          else
                            chart_Name.l0 N x0 N 0
                        else
                          none
                      else
                        none
                    else
                      none
                  else
                    none
                else
                  none
              else
                none
            else
              none
          else
            none
        else
          none
      else
        none
    else
      none := by kernel_rfl
theorem taut7 : ∀ p0 p1 p2 : Bool, ((!(!(((p0) || (p1)) || (p2))) || (!(((p0) || (p1)) || (p2))))) = true := by decide
theorem taut8 : ∀ p0 p1 : Bool, ((!(!((p0) || (p1))) || (!((p0) || (p1))))) = true := by decide
theorem taut9 : ∀ p0 p1 p2 : Bool, (((((p0) || (p1)) || (p2)) || (!(((p0) || (p1)) || (p2))))) = true := by decide
theorem taut10 : ∀ p0 p1 : Bool, ((((p0) || (p1)) || (!((p0) || (p1))))) = true := by decide
theorem chart_Name.clean (N : Nat) (x0 : ByteArray) : chart_Name.fn N x0 =
    bif (decide (0 < (x0.size : Int))) || !(!(((x0.size : Int) == 0) || (decide ((x0.size : Int) > 8)))) then
      bif (decide (0 < (x0.size : Int))) || !(!((((x0.size : Int) == 0) || (decide ((x0.size : Int) > 8))) || (decide (((((ByteArray.data x0).getD 0 0).toNat : Nat) : Int) < 65)))) then
        bif ((((x0.size : Int) == 0) || (decide ((x0.size : Int) > 8))) || (decide (((((ByteArray.data x0).getD 0 0).toNat : Nat) : Int) < 65))) || (decide (((((ByteArray.data x0).getD 0 0).toNat : Nat) : Int) > 90)) then
          some false
        else
          chart_Name.l0 N x0 N 0
      else
        none
    else
      none := by
  rw [chart_Name.eq]; simp only [taut7, taut8, taut1, taut9, taut10, taut6, cond_true]

/-! ### sector_Name: skyway/sector.Name -/
def sector_Name.kp : List (Nat × List (Nat × Option (TypeId × Ty))) := []
noncomputable def sector_Name.G (N : Nat) : List (Nat × Spec) := [(52, .pure (chart_Name.S N))]
noncomputable def sector_Name.E (N : Nat) : Env := mkEnv (sector_Name.G N) N tyTab sector_Name.kp
noncomputable def sector_Name.fn (N : Nat) (x : ByteArray) : Option Bool := evFn (sector_Name.E N) Tryd.prog 3 Tryd.f45 false [.cell (.str)] [.val (.cell (.bool))] x
noncomputable def sector_Name.S (N : Nat) : PSpec := ⟨false, [.cell (.str)], [.val (.cell (.bool))], sector_Name.fn N⟩
theorem f45_enters : Enters Tryd.prog 45 := ⟨Tryd.f45, Tryd.func45, by kernel_rfl, by kernel_rfl⟩
theorem sector_Name.tab (N : Nat) : TabOk Tryd.prog (sector_Name.G N) := ⟨⟨chart_Name.enters, chart_Name.sound N⟩, trivial⟩
theorem sector_Name.enters : Enters Tryd.prog 45 := f45_enters
theorem sector_Name.sound (N : Nat) : Sound Tryd.prog 45 (sector_Name.S N) := evFn_sound (specs_tab (sector_Name.tab N)) (inls_tab (sector_Name.tab N)) mixed 3 Tryd.func45 _ _ _
theorem sector_Name.eq (N : Nat) (x0 : ByteArray) : sector_Name.fn N x0 =
    (chart_Name.fn N x0).bind fun r1 =>
    some r1 := by kernel_rfl

/-! ### owner_Name: skyway/owner.Name -/
def owner_Name.kp : List (Nat × List (Nat × Option (TypeId × Ty))) := []
noncomputable def owner_Name.G (N : Nat) : List (Nat × Spec) := [(45, .pure (sector_Name.S N))]
noncomputable def owner_Name.E (N : Nat) : Env := mkEnv (owner_Name.G N) N tyTab owner_Name.kp
noncomputable def owner_Name.fn (N : Nat) (x : ByteArray) : Option Bool := evFn (owner_Name.E N) Tryd.prog 3 Tryd.f37 false [.cell (.str)] [.val (.cell (.bool))] x
noncomputable def owner_Name.S (N : Nat) : PSpec := ⟨false, [.cell (.str)], [.val (.cell (.bool))], owner_Name.fn N⟩
theorem f37_enters : Enters Tryd.prog 37 := ⟨Tryd.f37, Tryd.func37, by kernel_rfl, by kernel_rfl⟩
theorem owner_Name.tab (N : Nat) : TabOk Tryd.prog (owner_Name.G N) := ⟨⟨sector_Name.enters, sector_Name.sound N⟩, trivial⟩
theorem owner_Name.enters : Enters Tryd.prog 37 := f37_enters
theorem owner_Name.sound (N : Nat) : Sound Tryd.prog 37 (owner_Name.S N) := evFn_sound (specs_tab (owner_Name.tab N)) (inls_tab (owner_Name.tab N)) mixed 3 Tryd.func37 _ _ _
theorem owner_Name.eq (N : Nat) (x0 : ByteArray) : owner_Name.fn N x0 =
    (sector_Name.fn N x0).bind fun r1 =>
    some r1 := by kernel_rfl

/-! ### phrase_kind: skyway/phrase.kind -/
def phrase_kind.kp : List (Nat × List (Nat × Option (TypeId × Ty))) := [(2, [(0, none), (5, none), (6, none)])]
noncomputable def phrase_kind.G (N : Nat) : List (Nat × Spec) := []
noncomputable def phrase_kind.E (N : Nat) : Env := mkEnv (phrase_kind.G N) N tyTab phrase_kind.kp
noncomputable def phrase_kind.fn (N : Nat) (x : ByteArray) : Option Int := evFn (phrase_kind.E N) Tryd.prog 3 Tryd.f38 false [.cell (.str)] [.val (.cell (.int .i64))] x
noncomputable def phrase_kind.S (N : Nat) : PSpec := ⟨false, [.cell (.str)], [.val (.cell (.int .i64))], phrase_kind.fn N⟩
theorem f38_enters : Enters Tryd.prog 38 := ⟨Tryd.f38, Tryd.func38, by kernel_rfl, by kernel_rfl⟩
theorem phrase_kind.tab (N : Nat) : TabOk Tryd.prog (phrase_kind.G N) := trivial
theorem phrase_kind.enters : Enters Tryd.prog 38 := f38_enters
theorem phrase_kind.sound (N : Nat) : Sound Tryd.prog 38 (phrase_kind.S N) := evFn_sound (specs_tab (phrase_kind.tab N)) (inls_tab (phrase_kind.tab N)) mixed 3 Tryd.func38 _ _ _
noncomputable def phrase_kind.cd (N : Nat) (p : List Nat) : St → (Ex → St → Option Int) → Option Int := ev (phrase_kind.E N) Tryd.prog (callD (phrase_kind.E N) Tryd.prog 3) 0 (codeAt (bodyOf Tryd.f38) p)
noncomputable def phrase_kind.fin : Ex → St → Option Int := endK Tryd.prog Tryd.f38 [.val (.cell (.int .i64))]
noncomputable def phrase_kind.l0 (N : Nat) (x0 : ByteArray) (k1 : Nat) (a2 : Int) : Option Int :=
  loopN (norm ((phrase_kind.E N).keep 2) 0) (phrase_kind.cd N [1, 0, 1, 0, 0]) k1
  ⟨[.sc (.string x0), .any, .any, .any, .any, .agg [.sc (.string (⟨#[72, 69, 73, 71, 72, 84]⟩ : ByteArray)), .sc (.string (⟨#[72, 69, 65, 68, 73, 78, 71]⟩ : ByteArray)), .sc (.string (⟨#[83, 80, 69, 69, 68]⟩ : ByteArray)), .sc (.string (⟨#[68, 73, 82, 69, 67, 84]⟩ : ByteArray)), .sc (.string (⟨#[72, 79, 76, 68]⟩ : ByteArray)), .sc (.string (⟨#[67, 79, 78, 84, 65, 67, 84]⟩ : ByteArray)), .sc (.string (⟨#[76, 65, 78, 68]⟩ : ByteArray))], .sc (.int .i64 a2), .any, .any, .any, .any, .any, .any, .any, .any], []⟩
  (blockK 0 (seqK (phrase_kind.cd N [1, 1]) phrase_kind.fin))
theorem phrase_kind.l0_zero (N : Nat) (x0 : ByteArray) (a2 : Int) : phrase_kind.l0 N x0 0 a2 = none := by kernel_rfl
theorem phrase_kind.l0_succ (N : Nat) (x0 : ByteArray) (k1 : Nat) (a2 : Int) : phrase_kind.l0 N x0 (k1 + 1) a2 =
    bif decide (a2 < 7) then
      bif (decide (0 ≤ a2)) && (decide (a2 < 7)) then
        bif decide (((Int.toNat a2) * 1) < 7) then
          bif seq (List.getD [(⟨#[72, 69, 73, 71, 72, 84]⟩ : ByteArray), (⟨#[72, 69, 65, 68, 73, 78, 71]⟩ : ByteArray), (⟨#[83, 80, 69, 69, 68]⟩ : ByteArray), (⟨#[68, 73, 82, 69, 67, 84]⟩ : ByteArray), (⟨#[72, 79, 76, 68]⟩ : ByteArray), (⟨#[67, 79, 78, 84, 65, 67, 84]⟩ : ByteArray), (⟨#[76, 65, 78, 68]⟩ : ByteArray)] ((Int.toNat a2) * 1) (⟨#[]⟩ : ByteArray)) x0 then
            some a2
          else
            phrase_kind.l0 N x0 k1 (w (a2 + 1))
        else
          none
      else
        none
    else
      some (-1) := by kernel_rfl
theorem phrase_kind.eq (N : Nat) (x0 : ByteArray) : phrase_kind.fn N x0 =
    phrase_kind.l0 N x0 N 0 := by kernel_rfl

/-! ### phrase_plain: skyway/phrase.plain -/
def phrase_plain.kp : List (Nat × List (Nat × Option (TypeId × Ty))) := []
noncomputable def phrase_plain.G (N : Nat) : List (Nat × Spec) := [(37, .pure (owner_Name.S N)), (38, .pure (phrase_kind.S N))]
noncomputable def phrase_plain.E (N : Nat) : Env := mkEnv (phrase_plain.G N) N tyTab phrase_plain.kp
noncomputable def phrase_plain.fn (N : Nat) (x : ByteArray) : Option Bool := evFn (phrase_plain.E N) Tryd.prog 3 Tryd.f20 false [.cell (.str)] [.val (.cell (.bool))] x
noncomputable def phrase_plain.S (N : Nat) : PSpec := ⟨false, [.cell (.str)], [.val (.cell (.bool))], phrase_plain.fn N⟩
theorem f20_enters : Enters Tryd.prog 20 := ⟨Tryd.f20, Tryd.func20, by kernel_rfl, by kernel_rfl⟩
theorem phrase_plain.tab (N : Nat) : TabOk Tryd.prog (phrase_plain.G N) := ⟨⟨owner_Name.enters, owner_Name.sound N⟩, ⟨phrase_kind.enters, phrase_kind.sound N⟩, trivial⟩
theorem phrase_plain.enters : Enters Tryd.prog 20 := f20_enters
theorem phrase_plain.sound (N : Nat) : Sound Tryd.prog 20 (phrase_plain.S N) := evFn_sound (specs_tab (phrase_plain.tab N)) (inls_tab (phrase_plain.tab N)) mixed 3 Tryd.func20 _ _ _
theorem phrase_plain.eq (N : Nat) (x0 : ByteArray) : phrase_plain.fn N x0 =
    (owner_Name.fn N x0).bind fun r1 =>
    bif !r1 || r1 then
      (bif r1 then phrase_kind.fn N x0 else some (0)).bind fun r2 =>
      bif !r1 || r1 then
        bif (!r1) || r1 then
          some (r1 && (decide (r2 < 0)))
        else
          none
      else
        none
    else
      none := by kernel_rfl
theorem taut11 : ∀ p0 : Bool, ((!p0 || p0)) = true := by decide
theorem taut12 : ∀ p0 : Bool, (((!p0) || p0)) = true := by decide
theorem phrase_plain.clean (N : Nat) (x0 : ByteArray) : phrase_plain.fn N x0 =
    (owner_Name.fn N x0).bind fun r1 =>
    (bif r1 then phrase_kind.fn N x0 else some (0)).bind fun r2 =>
    some (r1 && (decide (r2 < 0))) := by
  rw [phrase_plain.eq]; simp only [taut11, taut12, cond_true]

/-! ### phrase_Check: skyway/phrase.Check -/
def phrase_Check.kp : List (Nat × List (Nat × Option (TypeId × Ty))) := []
noncomputable def phrase_Check.G (N : Nat) : List (Nat × Spec) := [(20, .pure (phrase_plain.S N))]
noncomputable def phrase_Check.E (N : Nat) : Env := mkEnv (phrase_Check.G N) N tyTab phrase_Check.kp
noncomputable def phrase_Check.fn (N : Nat) (x : ByteArray × Int × Int × ByteArray) : Option Int := evFn (phrase_Check.E N) Tryd.prog 3 Tryd.f7 false [.agg (.pair (.str) (.pair (.int .i64) (.pair (.int .i64) (.str))))] [.val (.cell (.int .i64))] x
noncomputable def phrase_Check.S (N : Nat) : PSpec := ⟨false, [.agg (.pair (.str) (.pair (.int .i64) (.pair (.int .i64) (.str))))], [.val (.cell (.int .i64))], phrase_Check.fn N⟩
theorem f7_enters : Enters Tryd.prog 7 := ⟨Tryd.f7, Tryd.func7, by kernel_rfl, by kernel_rfl⟩
theorem phrase_Check.tab (N : Nat) : TabOk Tryd.prog (phrase_Check.G N) := ⟨⟨phrase_plain.enters, phrase_plain.sound N⟩, trivial⟩
theorem phrase_Check.enters : Enters Tryd.prog 7 := f7_enters
theorem phrase_Check.sound (N : Nat) : Sound Tryd.prog 7 (phrase_Check.S N) := evFn_sound (specs_tab (phrase_Check.tab N)) (inls_tab (phrase_Check.tab N)) mixed 3 Tryd.func7 _ _ _
theorem phrase_Check.eq (N : Nat) (x0 : ByteArray × Int × Int × ByteArray) : phrase_Check.fn N x0 =
    (phrase_plain.fn N x0.1).bind fun r1 =>
    bif !r1 then
      some 3
    else
    bif !(!(decide (x0.2.1 < 0))) || (!(decide (x0.2.1 < 0))) then
      bif !(!(decide (x0.2.1 < 0))) || (!(decide (x0.2.1 < 0))) then
        bif (decide (x0.2.1 < 0)) || (!(decide (x0.2.1 < 0))) then
          bif (decide (x0.2.1 < 0)) || (decide (x0.2.1 > 6)) then
            some 1
          else
          bif decide (x0.2.1 ≥ 3) then
            bif !(!(!(x0.2.2.1 == 0))) || (!(!(x0.2.2.1 == 0))) then
              bif !(!(!(x0.2.2.1 == 0))) || (!(!(x0.2.2.1 == 0))) then
                (bif (!(!(x0.2.2.1 == 0))) then phrase_plain.fn N x0.2.2.2 else some (false)).bind fun r2 =>
                bif !(!(!(x0.2.2.1 == 0))) || (!(!(x0.2.2.1 == 0))) then
                  bif (!(x0.2.2.1 == 0)) || (!(!(x0.2.2.1 == 0))) then
                    bif (!(x0.2.2.1 == 0)) || (!r2) then
                      some 3
                    else
                      some 0
                  else
                    none
                else
                  none
              else
                none
            else
              none
          else
          bif !(seq x0.2.2.2 (⟨#[]⟩ : ByteArray)) then
            some 3
          else
          bif !(!(decide (x0.2.2.1 < 0))) || (!(decide (x0.2.2.1 < 0))) then
            bif !(!(decide (x0.2.2.1 < 0))) || (!(decide (x0.2.2.1 < 0))) then
              bif !(!(decide (x0.2.2.1 < 0))) || (!(decide (x0.2.2.1 < 0))) then
                bif ((decide (0 ≤ x0.2.1)) && (decide (x0.2.1 < 3))) || !(!(decide (x0.2.2.1 < 0))) then
                  bif !(!(decide (x0.2.2.1 < 0))) || (!(decide (x0.2.2.1 < 0))) then
                    bif (decide ((0 + ((Int.toNat x0.2.1) * 1)) < 3)) || !(!(decide (x0.2.2.1 < 0))) then
                      bif !(!(decide (x0.2.2.1 < 0))) || (!(decide (x0.2.2.1 < 0))) then
                        bif !(!(decide (x0.2.2.1 < 0))) || (!(decide (x0.2.2.1 < 0))) then
                          bif (decide (x0.2.2.1 < 0)) || (!(decide (x0.2.2.1 < 0))) then
                            bif (decide (x0.2.2.1 < 0)) || (decide (x0.2.2.1 > (List.getD [60000, 4095, 400] (0 + ((Int.toNat x0.2.1) * 1)) 0))) then
                              some 4
                            else
                              some 0
                          else
                            none
                        else
                          none
                      else
                        none
                    else
                      none
                  else
                    none
                else
                  none
              else
                none
            else
              none
          else
            none
        else
          none
      else
        none
    else
      none := by kernel_rfl
theorem taut13 : ∀ p0 : Bool, ((!(!(!(p0))) || (!(!(p0))))) = true := by decide
theorem taut14 : ∀ p0 : Bool, (((!(p0)) || (!(!(p0))))) = true := by decide
theorem phrase_Check.clean (N : Nat) (x0 : ByteArray × Int × Int × ByteArray) : phrase_Check.fn N x0 =
    (phrase_plain.fn N x0.1).bind fun r1 =>
    bif !r1 then
      some 3
    else
    bif (decide (x0.2.1 < 0)) || (decide (x0.2.1 > 6)) then
      some 1
    else
    bif decide (x0.2.1 ≥ 3) then
      (bif (!(!(x0.2.2.1 == 0))) then phrase_plain.fn N x0.2.2.2 else some (false)).bind fun r2 =>
      bif (!(x0.2.2.1 == 0)) || (!r2) then
        some 3
      else
        some 0
    else
    bif !(seq x0.2.2.2 (⟨#[]⟩ : ByteArray)) then
      some 3
    else
    bif ((decide (0 ≤ x0.2.1)) && (decide (x0.2.1 < 3))) || !(!(decide (x0.2.2.1 < 0))) then
      bif (decide ((0 + ((Int.toNat x0.2.1) * 1)) < 3)) || !(!(decide (x0.2.2.1 < 0))) then
        bif (decide (x0.2.2.1 < 0)) || (decide (x0.2.2.1 > (List.getD [60000, 4095, 400] (0 + ((Int.toNat x0.2.1) * 1)) 0))) then
          some 4
        else
          some 0
      else
        none
    else
      none := by
  rw [phrase_Check.eq]; simp only [taut13, taut1, taut14, taut6, cond_true]

/-! ### phrase_body: skyway/phrase.body -/
def phrase_body.kp : List (Nat × List (Nat × Option (TypeId × Ty))) := []
noncomputable def phrase_body.G (N : Nat) : List (Nat × Spec) := [(36, .pure Itoa.itoaSpec)]
noncomputable def phrase_body.E (N : Nat) : Env := mkEnv (phrase_body.G N) N tyTab phrase_body.kp
noncomputable def phrase_body.fn (N : Nat) (x : ByteArray × Int × Int × ByteArray) : Option ByteArray := evFn (phrase_body.E N) Tryd.prog 3 Tryd.f19 false [.agg (.pair (.str) (.pair (.int .i64) (.pair (.int .i64) (.str))))] [.val (.cell (.str))] x
noncomputable def phrase_body.S (N : Nat) : PSpec := ⟨false, [.agg (.pair (.str) (.pair (.int .i64) (.pair (.int .i64) (.str))))], [.val (.cell (.str))], phrase_body.fn N⟩
theorem f19_enters : Enters Tryd.prog 19 := ⟨Tryd.f19, Tryd.func19, by kernel_rfl, by kernel_rfl⟩
theorem phrase_body.tab (N : Nat) : TabOk Tryd.prog (phrase_body.G N) := ⟨⟨Itoa.itoa_enters, Itoa.itoa_sound⟩, trivial⟩
theorem phrase_body.enters : Enters Tryd.prog 19 := f19_enters
theorem phrase_body.sound (N : Nat) : Sound Tryd.prog 19 (phrase_body.S N) := evFn_sound (specs_tab (phrase_body.tab N)) (inls_tab (phrase_body.tab N)) mixed 3 Tryd.func19 _ _ _
theorem phrase_body.eq (N : Nat) (x0 : ByteArray × Int × Int × ByteArray) : phrase_body.fn N x0 =
    bif decide (x0.2.1 ≥ 3) then
      bif (decide (0 ≤ x0.2.1)) && (decide (x0.2.1 < 7)) then
        bif decide ((0 + ((Int.toNat x0.2.1) * 1)) < 7) then
          bif Nat.ble ((List.getD [(⟨#[72, 69, 73, 71, 72, 84]⟩ : ByteArray), (⟨#[72, 69, 65, 68, 73, 78, 71]⟩ : ByteArray), (⟨#[83, 80, 69, 69, 68]⟩ : ByteArray), (⟨#[68, 73, 82, 69, 67, 84]⟩ : ByteArray), (⟨#[72, 79, 76, 68]⟩ : ByteArray), (⟨#[67, 79, 78, 84, 65, 67, 84]⟩ : ByteArray), (⟨#[76, 65, 78, 68]⟩ : ByteArray)] (0 + ((Int.toNat x0.2.1) * 1)) (⟨#[]⟩ : ByteArray)).size + (⟨#[32]⟩ : ByteArray).size) 9223372036854775807 then
            bif Nat.ble (((List.getD [(⟨#[72, 69, 73, 71, 72, 84]⟩ : ByteArray), (⟨#[72, 69, 65, 68, 73, 78, 71]⟩ : ByteArray), (⟨#[83, 80, 69, 69, 68]⟩ : ByteArray), (⟨#[68, 73, 82, 69, 67, 84]⟩ : ByteArray), (⟨#[72, 79, 76, 68]⟩ : ByteArray), (⟨#[67, 79, 78, 84, 65, 67, 84]⟩ : ByteArray), (⟨#[76, 65, 78, 68]⟩ : ByteArray)] (0 + ((Int.toNat x0.2.1) * 1)) (⟨#[]⟩ : ByteArray)) ++ (⟨#[32]⟩ : ByteArray)).size + x0.2.2.2.size) 9223372036854775807 then
              some (((List.getD [(⟨#[72, 69, 73, 71, 72, 84]⟩ : ByteArray), (⟨#[72, 69, 65, 68, 73, 78, 71]⟩ : ByteArray), (⟨#[83, 80, 69, 69, 68]⟩ : ByteArray), (⟨#[68, 73, 82, 69, 67, 84]⟩ : ByteArray), (⟨#[72, 79, 76, 68]⟩ : ByteArray), (⟨#[67, 79, 78, 84, 65, 67, 84]⟩ : ByteArray), (⟨#[76, 65, 78, 68]⟩ : ByteArray)] (0 + ((Int.toNat x0.2.1) * 1)) (⟨#[]⟩ : ByteArray)) ++ (⟨#[32]⟩ : ByteArray)) ++ x0.2.2.2)
            else
              none
          else
            none
        else
          none
      else
        none
    else
    bif (decide (0 ≤ x0.2.1)) && (decide (x0.2.1 < 7)) then
      bif decide ((0 + ((Int.toNat x0.2.1) * 1)) < 7) then
        bif Nat.ble ((List.getD [(⟨#[72, 69, 73, 71, 72, 84]⟩ : ByteArray), (⟨#[72, 69, 65, 68, 73, 78, 71]⟩ : ByteArray), (⟨#[83, 80, 69, 69, 68]⟩ : ByteArray), (⟨#[68, 73, 82, 69, 67, 84]⟩ : ByteArray), (⟨#[72, 79, 76, 68]⟩ : ByteArray), (⟨#[67, 79, 78, 84, 65, 67, 84]⟩ : ByteArray), (⟨#[76, 65, 78, 68]⟩ : ByteArray)] (0 + ((Int.toNat x0.2.1) * 1)) (⟨#[]⟩ : ByteArray)).size + (⟨#[32]⟩ : ByteArray).size) 9223372036854775807 then
          (Itoa.itoaS x0.2.2.1).bind fun r1 =>
          bif Nat.ble (((List.getD [(⟨#[72, 69, 73, 71, 72, 84]⟩ : ByteArray), (⟨#[72, 69, 65, 68, 73, 78, 71]⟩ : ByteArray), (⟨#[83, 80, 69, 69, 68]⟩ : ByteArray), (⟨#[68, 73, 82, 69, 67, 84]⟩ : ByteArray), (⟨#[72, 79, 76, 68]⟩ : ByteArray), (⟨#[67, 79, 78, 84, 65, 67, 84]⟩ : ByteArray), (⟨#[76, 65, 78, 68]⟩ : ByteArray)] (0 + ((Int.toNat x0.2.1) * 1)) (⟨#[]⟩ : ByteArray)) ++ (⟨#[32]⟩ : ByteArray)).size + r1.size) 9223372036854775807 then
            some (((List.getD [(⟨#[72, 69, 73, 71, 72, 84]⟩ : ByteArray), (⟨#[72, 69, 65, 68, 73, 78, 71]⟩ : ByteArray), (⟨#[83, 80, 69, 69, 68]⟩ : ByteArray), (⟨#[68, 73, 82, 69, 67, 84]⟩ : ByteArray), (⟨#[72, 79, 76, 68]⟩ : ByteArray), (⟨#[67, 79, 78, 84, 65, 67, 84]⟩ : ByteArray), (⟨#[76, 65, 78, 68]⟩ : ByteArray)] (0 + ((Int.toNat x0.2.1) * 1)) (⟨#[]⟩ : ByteArray)) ++ (⟨#[32]⟩ : ByteArray)) ++ r1)
          else
            none
        else
          none
      else
        none
    else
      none := by kernel_rfl

/-! ### phrase_Print: skyway/phrase.Print -/
def phrase_Print.kp : List (Nat × List (Nat × Option (TypeId × Ty))) := []
noncomputable def phrase_Print.G (N : Nat) : List (Nat × Spec) := [(7, .pure (phrase_Check.S N)), (19, .pure (phrase_body.S N))]
noncomputable def phrase_Print.E (N : Nat) : Env := mkEnv (phrase_Print.G N) N tyTab phrase_Print.kp
noncomputable def phrase_Print.fn (N : Nat) (x : ByteArray × Int × Int × ByteArray) : Option (ByteArray × Int) := evFn (phrase_Print.E N) Tryd.prog 3 Tryd.f6 false [.agg (.pair (.str) (.pair (.int .i64) (.pair (.int .i64) (.str))))] [.val (.cell (.str)), .val (.cell (.int .i64))] x
noncomputable def phrase_Print.S (N : Nat) : PSpec := ⟨false, [.agg (.pair (.str) (.pair (.int .i64) (.pair (.int .i64) (.str))))], [.val (.cell (.str)), .val (.cell (.int .i64))], phrase_Print.fn N⟩
theorem f6_enters : Enters Tryd.prog 6 := ⟨Tryd.f6, Tryd.func6, by kernel_rfl, by kernel_rfl⟩
theorem phrase_Print.tab (N : Nat) : TabOk Tryd.prog (phrase_Print.G N) := ⟨⟨phrase_Check.enters, phrase_Check.sound N⟩, ⟨phrase_body.enters, phrase_body.sound N⟩, trivial⟩
theorem phrase_Print.enters : Enters Tryd.prog 6 := f6_enters
theorem phrase_Print.sound (N : Nat) : Sound Tryd.prog 6 (phrase_Print.S N) := evFn_sound (specs_tab (phrase_Print.tab N)) (inls_tab (phrase_Print.tab N)) mixed 3 Tryd.func6 _ _ _
theorem phrase_Print.eq (N : Nat) (x0 : ByteArray × Int × Int × ByteArray) : phrase_Print.fn N x0 =
    (phrase_Check.fn N x0).bind fun r1 =>
    bif !(r1 == 0) then
      some ((⟨#[]⟩ : ByteArray), r1)
    else
    bif Nat.ble (x0.1.size + (⟨#[32]⟩ : ByteArray).size) 9223372036854775807 then
      (phrase_body.fn N x0).bind fun r2 =>
      bif Nat.ble ((x0.1 ++ (⟨#[32]⟩ : ByteArray)).size + r2.size) 9223372036854775807 then
        some (((x0.1 ++ (⟨#[32]⟩ : ByteArray)) ++ r2), 0)
      else
        none
    else
      none := by kernel_rfl

/-! ### phrase_Back: skyway/phrase.Back -/
def phrase_Back.kp : List (Nat × List (Nat × Option (TypeId × Ty))) := []
noncomputable def phrase_Back.G (N : Nat) : List (Nat × Spec) := [(7, .pure (phrase_Check.S N)), (19, .pure (phrase_body.S N))]
noncomputable def phrase_Back.E (N : Nat) : Env := mkEnv (phrase_Back.G N) N tyTab phrase_Back.kp
noncomputable def phrase_Back.fn (N : Nat) (x : ByteArray × Int × Int × ByteArray) : Option (ByteArray × Int) := evFn (phrase_Back.E N) Tryd.prog 3 Tryd.f11 false [.agg (.pair (.str) (.pair (.int .i64) (.pair (.int .i64) (.str))))] [.val (.cell (.str)), .val (.cell (.int .i64))] x
noncomputable def phrase_Back.S (N : Nat) : PSpec := ⟨false, [.agg (.pair (.str) (.pair (.int .i64) (.pair (.int .i64) (.str))))], [.val (.cell (.str)), .val (.cell (.int .i64))], phrase_Back.fn N⟩
theorem f11_enters : Enters Tryd.prog 11 := ⟨Tryd.f11, Tryd.func11, by kernel_rfl, by kernel_rfl⟩
theorem phrase_Back.tab (N : Nat) : TabOk Tryd.prog (phrase_Back.G N) := ⟨⟨phrase_Check.enters, phrase_Check.sound N⟩, ⟨phrase_body.enters, phrase_body.sound N⟩, trivial⟩
theorem phrase_Back.enters : Enters Tryd.prog 11 := f11_enters
theorem phrase_Back.sound (N : Nat) : Sound Tryd.prog 11 (phrase_Back.S N) := evFn_sound (specs_tab (phrase_Back.tab N)) (inls_tab (phrase_Back.tab N)) mixed 3 Tryd.func11 _ _ _
theorem phrase_Back.eq (N : Nat) (x0 : ByteArray × Int × Int × ByteArray) : phrase_Back.fn N x0 =
    (phrase_Check.fn N x0).bind fun r1 =>
    bif !(r1 == 0) then
      some ((⟨#[]⟩ : ByteArray), r1)
    else
      (phrase_body.fn N x0).bind fun r2 =>
      bif Nat.ble (r2.size + (⟨#[32]⟩ : ByteArray).size) 9223372036854775807 then
        bif Nat.ble ((r2 ++ (⟨#[32]⟩ : ByteArray)).size + x0.1.size) 9223372036854775807 then
          some (((r2 ++ (⟨#[32]⟩ : ByteArray)) ++ x0.1), 0)
        else
          none
      else
        none := by kernel_rfl

/-! ### phrase_read: skyway/phrase.read -/
theorem f40_enters : Enters Tryd.prog 40 := ⟨Tryd.f40, Tryd.func40, by kernel_rfl, by kernel_rfl⟩
def phrase_read.kp : List (Nat × List (Nat × Option (TypeId × Ty))) := []
noncomputable def phrase_read.G (N : Nat) : List (Nat × Spec) := [(36, .pure Itoa.itoaSpec), (38, .pure (phrase_kind.S N)), (40, .mac Atoi.atoiM)]
noncomputable def phrase_read.E (N : Nat) : Env := mkEnv (phrase_read.G N) N tyTab phrase_read.kp
noncomputable def phrase_read.fn (N : Nat) (x : ByteArray × ByteArray × ByteArray) : Option ((ByteArray × Int × Int × ByteArray) × Bool) := evFn (phrase_read.E N) Tryd.prog 3 Tryd.f22 false [.cell (.str), .cell (.str), .cell (.str)] [.val (.agg (.pair (.str) (.pair (.int .i64) (.pair (.int .i64) (.str))))), .val (.cell (.bool))] x
noncomputable def phrase_read.S (N : Nat) : PSpec := ⟨false, [.cell (.str), .cell (.str), .cell (.str)], [.val (.agg (.pair (.str) (.pair (.int .i64) (.pair (.int .i64) (.str))))), .val (.cell (.bool))], phrase_read.fn N⟩
theorem f22_enters : Enters Tryd.prog 22 := ⟨Tryd.f22, Tryd.func22, by kernel_rfl, by kernel_rfl⟩
theorem phrase_read.tab (N : Nat) : TabOk Tryd.prog (phrase_read.G N) := ⟨⟨Itoa.itoa_enters, Itoa.itoa_sound⟩, ⟨phrase_kind.enters, phrase_kind.sound N⟩, .inl ⟨Atoi.atoi_enters, Atoi.atoi_sound⟩, trivial⟩
theorem phrase_read.enters : Enters Tryd.prog 22 := f22_enters
theorem phrase_read.sound (N : Nat) : Sound Tryd.prog 22 (phrase_read.S N) := evFn_sound (specs_tab (phrase_read.tab N)) (inls_tab (phrase_read.tab N)) mixed 3 Tryd.func22 _ _ _
theorem phrase_read.eq (N : Nat) (x0 : ByteArray) (x1 : ByteArray) (x2 : ByteArray) : phrase_read.fn N (x0, x1, x2) =
    (phrase_kind.fn N x1).bind fun r1 =>
    bif decide (r1 < 0) then
      some (((⟨#[]⟩ : ByteArray), (0, (0, (⟨#[]⟩ : ByteArray)))), false)
    else
    bif decide (r1 ≥ 3) then
      some ((x0, (r1, (0, x2))), true)
    else
    bif decide (x2.size ≤ 18) && (Lib.atoi x2.data.toList).isSome then
      (Itoa.itoaS ((Lib.atoi x2.data.toList).getD 0)).bind fun r2 =>
      some ((x0, (r1, (((Lib.atoi x2.data.toList).getD 0), (⟨#[]⟩ : ByteArray)))), (seq r2 x2))
    else
      none := by kernel_rfl

/-! ### phrase_Parse: skyway/phrase.Parse -/
def phrase_Parse.kp : List (Nat × List (Nat × Option (TypeId × Ty))) := [(1000011, [(2, none), (6, none), (7, none), (8, none)])]
noncomputable def phrase_Parse.G (N : Nat) : List (Nat × Spec) := [(7, .pure (phrase_Check.S N)), (21, .pure Split.splitSpec), (22, .pure (phrase_read.S N))]
noncomputable def phrase_Parse.E (N : Nat) : Env := mkEnv (phrase_Parse.G N) N tyTab phrase_Parse.kp
noncomputable def phrase_Parse.fn (N : Nat) (x : ByteArray) : Option ((ByteArray × Int × Int × ByteArray) × Bool × Int) := evFn (phrase_Parse.E N) Tryd.prog 3 Tryd.f9 false [.cell (.str)] [.val (.agg (.pair (.str) (.pair (.int .i64) (.pair (.int .i64) (.str))))), .val (.cell (.bool)), .val (.cell (.int .i64))] x
noncomputable def phrase_Parse.S (N : Nat) : PSpec := ⟨false, [.cell (.str)], [.val (.agg (.pair (.str) (.pair (.int .i64) (.pair (.int .i64) (.str))))), .val (.cell (.bool)), .val (.cell (.int .i64))], phrase_Parse.fn N⟩
theorem f9_enters : Enters Tryd.prog 9 := ⟨Tryd.f9, Tryd.func9, by kernel_rfl, by kernel_rfl⟩
theorem phrase_Parse.tab (N : Nat) : TabOk Tryd.prog (phrase_Parse.G N) := ⟨⟨phrase_Check.enters, phrase_Check.sound N⟩, ⟨Split.split_enters, Split.split_sound⟩, ⟨phrase_read.enters, phrase_read.sound N⟩, trivial⟩
theorem phrase_Parse.enters : Enters Tryd.prog 9 := f9_enters
theorem phrase_Parse.sound (N : Nat) : Sound Tryd.prog 9 (phrase_Parse.S N) := evFn_sound (specs_tab (phrase_Parse.tab N)) (inls_tab (phrase_Parse.tab N)) mixed 3 Tryd.func9 _ _ _
noncomputable def phrase_Parse.cd (N : Nat) (p : List Nat) : St → (Ex → St → Option ((ByteArray × Int × Int × ByteArray) × Bool × Int)) → Option ((ByteArray × Int × Int × ByteArray) × Bool × Int) := ev (phrase_Parse.E N) Tryd.prog (callD (phrase_Parse.E N) Tryd.prog 3) 0 (codeAt (bodyOf Tryd.f9) p)
noncomputable def phrase_Parse.fin : Ex → St → Option ((ByteArray × Int × Int × ByteArray) × Bool × Int) := endK Tryd.prog Tryd.f9 [.val (.agg (.pair (.str) (.pair (.int .i64) (.pair (.int .i64) (.str))))), .val (.cell (.bool)), .val (.cell (.int .i64))]
noncomputable def phrase_Parse.j0 (N : Nat) (a3 : Bool) (a4 : Bool) (a5 : ByteArray) (a6 : Int) (a7 : Int) (a8 : ByteArray) : Option ((ByteArray × Int × Int × ByteArray) × Bool × Int) :=
  fuelK N (region (phrase_Parse.E N) Tryd.prog (callD (phrase_Parse.E N) Tryd.prog 3) (opsAt (codeAt (bodyOf Tryd.f9) [1, 1, 1, 1, 1, 1, 1, 0, 0])) false
  ⟨[.any, .any, .ptr 0 0, .any, .any, .any, .ptr 1 0, .sc (.bool a3), .sc (.bool a4), .any, .any, .any, .any, .any, .any, .any, .any, .any, .any, .any, .any, .any, .any, .any, .any, .any, .any, .any, .any, .any, .any, .any, .any, .any, .any, .any, .any, .any, .any, .any, .any, .any, .any, .any, .any, .any, .any, .any, .any, .any, .any, .any, .any, .any, .any, .any, .any, .any, .any], [.cells [.sc (.string (⟨#[]⟩ : ByteArray)), .sc (.int .i64 0), .sc (.int .i64 0), .sc (.string (⟨#[]⟩ : ByteArray))] 25, .cells [.sc (.string a5), .sc (.int .i64 a6), .sc (.int .i64 a7), .sc (.string a8)] 25]⟩
  (fun S => (seqK (phrase_Parse.cd N [1, 1, 1, 1, 1, 1, 1, 0, 1]) (seqK (phrase_Parse.cd N [1, 1, 1, 1, 1, 1, 1, 1]) phrase_Parse.fin)) .normal S))
theorem phrase_Parse.j0_eq (N : Nat) (a3 : Bool) (a4 : Bool) (a5 : ByteArray) (a6 : Int) (a7 : Int) (a8 : ByteArray) {M : Nat} (hM : N = M + 1) : phrase_Parse.j0 N a3 a4 a5 a6 a7 a8 =
    bif !a3 then
      some (((⟨#[]⟩ : ByteArray), (0, (0, (⟨#[]⟩ : ByteArray)))), false, 5)
    else
      (phrase_Check.fn N (a5, (a6, (a7, a8)))).bind fun r9 =>
      bif !(r9 == 0) then
        some (((⟨#[]⟩ : ByteArray), (0, (0, (⟨#[]⟩ : ByteArray)))), false, r9)
      else
        some ((a5, (a6, (a7, a8))), a4, 0) := (fuelK_eq hM _).trans (by kernel_rfl)
theorem phrase_Parse.eq (N : Nat) (x0 : ByteArray) : phrase_Parse.fn N x0 =
    bif decide ((x0.size : Int) > 120) then
      some (((⟨#[]⟩ : ByteArray), (0, (0, (⟨#[]⟩ : ByteArray)))), false, 2)
    else
      (Split.splitS (x0, (⟨#[32]⟩ : ByteArray))).bind fun r1 =>
      bif !((r1.length : Int) == 3) then
        some (((⟨#[]⟩ : ByteArray), (0, (0, (⟨#[]⟩ : ByteArray)))), false, 5)
      else
      bif decide (0 < (r1.length : Int)) then
        bif decide (0 < r1.length) then
          bif decide (1 < (r1.length : Int)) then
            bif decide (1 < r1.length) then
              bif decide (2 < (r1.length : Int)) then
                bif decide (2 < r1.length) then
                  (phrase_read.fn N ((List.getD r1 0 (⟨#[]⟩ : ByteArray)), (List.getD r1 1 (⟨#[]⟩ : ByteArray)), (List.getD r1 2 (⟨#[]⟩ : ByteArray)))).bind fun r2 =>
                  bif !r2.2 then
                    bif decide (2 < (r1.length : Int)) then
                      bif decide (2 < r1.length) then
                        bif decide (0 < (r1.length : Int)) then
                          bif decide (0 < r1.length) then
                            bif decide (1 < (r1.length : Int)) then
                              bif decide (1 < r1.length) then
                                (phrase_read.fn N ((List.getD r1 2 (⟨#[]⟩ : ByteArray)), (List.getD r1 0 (⟨#[]⟩ : ByteArray)), (List.getD r1 1 (⟨#[]⟩ : ByteArray)))).bind fun r10 =>
                                phrase_Parse.j0 N r10.2 true r10.1.1 r10.1.2.1 r10.1.2.2.1 r10.1.2.2.2
                              else
                                none
                            else
                              none
                          else
                            none
                        else
                          none
                      else
                        none
                    else
                      none
                  else
                    phrase_Parse.j0 N r2.2 false r2.1.1 r2.1.2.1 r2.1.2.2.1 r2.1.2.2.2
                else
                  none
              else
                none
            else
              none
          else
            none
        else
          none
      else
        none := by kernel_rfl

/-! ### law_phraseFact: skyway/skywaylaw3.phraseFact -/
def law_phraseFact.kp : List (Nat × List (Nat × Option (TypeId × Ty))) := [(999999, [(0, none)])]
noncomputable def law_phraseFact.G (N : Nat) : List (Nat × Spec) := [(6, .pure (phrase_Print.S N)), (7, .pure (phrase_Check.S N)), (9, .pure (phrase_Parse.S N)), (11, .pure (phrase_Back.S N)), (28, .pure (law_climbed.S N))]
noncomputable def law_phraseFact.E (N : Nat) : Env := mkEnv (law_phraseFact.G N) N tyTab law_phraseFact.kp
noncomputable def law_phraseFact.fn (N : Nat) (x : Unit) : Option Bool := evFn (law_phraseFact.E N) Tryd.prog 3 Tryd.f14 false [] [.val (.cell (.bool))] x
noncomputable def law_phraseFact.S (N : Nat) : PSpec := ⟨false, [], [.val (.cell (.bool))], law_phraseFact.fn N⟩
theorem f14_enters : Enters Tryd.prog 14 := ⟨Tryd.f14, Tryd.func14, by kernel_rfl, by kernel_rfl⟩
theorem law_phraseFact.tab (N : Nat) : TabOk Tryd.prog (law_phraseFact.G N) := ⟨⟨phrase_Print.enters, phrase_Print.sound N⟩, ⟨phrase_Check.enters, phrase_Check.sound N⟩, ⟨phrase_Parse.enters, phrase_Parse.sound N⟩, ⟨phrase_Back.enters, phrase_Back.sound N⟩, ⟨law_climbed.enters, law_climbed.sound N⟩, trivial⟩
theorem law_phraseFact.enters : Enters Tryd.prog 14 := f14_enters
theorem law_phraseFact.sound (N : Nat) : Sound Tryd.prog 14 (law_phraseFact.S N) := evFn_sound (specs_tab (law_phraseFact.tab N)) (inls_tab (law_phraseFact.tab N)) mixed 3 Tryd.func14 _ _ _
theorem law_phraseFact.eq (N : Nat) : law_phraseFact.fn N () =
    (law_climbed.fn N 9000).bind fun r1 =>
    (phrase_Print.fn N r1).bind fun r2 =>
    (phrase_Back.fn N r1).bind fun r3 =>
    (phrase_Parse.fn N r2.1).bind fun r4 =>
    (phrase_Parse.fn N r3.1).bind fun r5 =>
    bif r2.2 == 0 then
      bif r3.2 == 0 then
        bif r4.2.2 == 0 then
          bif r5.2.2 == 0 then
            bif seq r2.1 (⟨#[65, 49, 32, 72, 69, 73, 71, 72, 84, 32, 57, 48, 48, 48]⟩ : ByteArray) then
              bif seq r3.1 (⟨#[72, 69, 73, 71, 72, 84, 32, 57, 48, 48, 48, 32, 65, 49]⟩ : ByteArray) then
                bif (seq r4.1.1 r1.1) && ((r4.1.2.1 == r1.2.1) && ((r4.1.2.2.1 == r1.2.2.1) && ((seq r4.1.2.2.2 r1.2.2.2) && true))) then
                  bif (seq r5.1.1 r1.1) && ((r5.1.2.1 == r1.2.1) && ((r5.1.2.2.1 == r1.2.2.1) && ((seq r5.1.2.2.2 r1.2.2.2) && true))) then
                    bif !r4.2.1 then
                      bif r5.2.1 then
                        (phrase_Check.fn N ((⟨#[]⟩ : ByteArray), (0, (0, (⟨#[]⟩ : ByteArray))))).bind fun r6 =>
                        some (r6 == 3)
                      else
                        some false
                    else
                      some false
                  else
                    some false
                else
                  some false
              else
                some false
            else
              some false
          else
            some false
        else
          some false
      else
        some false
    else
      some false := by kernel_rfl

/-! ### ref_word: skyway/skywayref3.word -/
def ref_word.kp : List (Nat × List (Nat × Option (TypeId × Ty))) := []
noncomputable def ref_word.G (N : Nat) : List (Nat × Spec) := []
noncomputable def ref_word.E (N : Nat) : Env := mkEnv (ref_word.G N) N tyTab ref_word.kp
noncomputable def ref_word.fn (N : Nat) (x : Int) : Option ByteArray := evFn (ref_word.E N) Tryd.prog 3 Tryd.f31 false [.cell (.int .i64)] [.val (.cell (.str))] x
noncomputable def ref_word.S (N : Nat) : PSpec := ⟨false, [.cell (.int .i64)], [.val (.cell (.str))], ref_word.fn N⟩
theorem f31_enters : Enters Tryd.prog 31 := ⟨Tryd.f31, Tryd.func31, by kernel_rfl, by kernel_rfl⟩
theorem ref_word.tab (N : Nat) : TabOk Tryd.prog (ref_word.G N) := trivial
theorem ref_word.enters : Enters Tryd.prog 31 := f31_enters
theorem ref_word.sound (N : Nat) : Sound Tryd.prog 31 (ref_word.S N) := evFn_sound (specs_tab (ref_word.tab N)) (inls_tab (ref_word.tab N)) mixed 3 Tryd.func31 _ _ _
theorem ref_word.eq (N : Nat) (x0 : Int) : ref_word.fn N x0 =
    bif (decide (0 ≤ x0)) && (decide (x0 < 7)) then
      bif decide ((Int.toNat x0) < 7) then
        some (List.getD [(⟨#[72, 69, 73, 71, 72, 84]⟩ : ByteArray), (⟨#[72, 69, 65, 68, 73, 78, 71]⟩ : ByteArray), (⟨#[83, 80, 69, 69, 68]⟩ : ByteArray), (⟨#[68, 73, 82, 69, 67, 84]⟩ : ByteArray), (⟨#[72, 79, 76, 68]⟩ : ByteArray), (⟨#[67, 79, 78, 84, 65, 67, 84]⟩ : ByteArray), (⟨#[76, 65, 78, 68]⟩ : ByteArray)] (Int.toNat x0) (⟨#[]⟩ : ByteArray))
      else
        none
    else
      none := by kernel_rfl

/-! ### ref_IsName: skyway/skywayref3.IsName -/
def ref_IsName.kp : List (Nat × List (Nat × Option (TypeId × Ty))) := [(4, [(0, none), (3, none)])]
noncomputable def ref_IsName.G (N : Nat) : List (Nat × Spec) := []
noncomputable def ref_IsName.E (N : Nat) : Env := mkEnv (ref_IsName.G N) N tyTab ref_IsName.kp
noncomputable def ref_IsName.fn (N : Nat) (x : ByteArray) : Option Bool := evFn (ref_IsName.E N) Tryd.prog 3 Tryd.f43 false [.cell (.str)] [.val (.cell (.bool))] x
noncomputable def ref_IsName.S (N : Nat) : PSpec := ⟨false, [.cell (.str)], [.val (.cell (.bool))], ref_IsName.fn N⟩
theorem f43_enters : Enters Tryd.prog 43 := ⟨Tryd.f43, Tryd.func43, by kernel_rfl, by kernel_rfl⟩
theorem ref_IsName.tab (N : Nat) : TabOk Tryd.prog (ref_IsName.G N) := trivial
theorem ref_IsName.enters : Enters Tryd.prog 43 := f43_enters
theorem ref_IsName.sound (N : Nat) : Sound Tryd.prog 43 (ref_IsName.S N) := evFn_sound (specs_tab (ref_IsName.tab N)) (inls_tab (ref_IsName.tab N)) mixed 3 Tryd.func43 _ _ _
noncomputable def ref_IsName.cd (N : Nat) (p : List Nat) : St → (Ex → St → Option Bool) → Option Bool := ev (ref_IsName.E N) Tryd.prog (callD (ref_IsName.E N) Tryd.prog 3) 0 (codeAt (bodyOf Tryd.f43) p)
noncomputable def ref_IsName.fin : Ex → St → Option Bool := endK Tryd.prog Tryd.f43 [.val (.cell (.bool))]
noncomputable def ref_IsName.l0 (N : Nat) (x0 : ByteArray) (k1 : Nat) (a2 : Int) : Option Bool :=
  loopN (norm ((ref_IsName.E N).keep 4) 0) (ref_IsName.cd N [1, 1, 0, 1, 0, 0]) k1
  ⟨[.sc (.string x0), .any, .any, .sc (.int .i64 a2), .any, .any, .any, .any, .any, .any, .any, .any, .any, .any, .any, .any, .any, .any, .any, .any, .any, .any, .any, .any, .any, .any, .any, .any, .any, .any, .any, .any, .any, .any, .any, .any, .any, .any, .any, .any, .any, .any, .any, .any, .any], []⟩
  (blockK 0 (seqK (ref_IsName.cd N [1, 1, 1]) ref_IsName.fin))
theorem ref_IsName.l0_zero (N : Nat) (x0 : ByteArray) (a2 : Int) : ref_IsName.l0 N x0 0 a2 = none := by kernel_rfl
theorem ref_IsName.l0_succ (N : Nat) (x0 : ByteArray) (k1 : Nat) (a2 : Int) : ref_IsName.l0 N x0 (k1 + 1) a2 =
    bif decide (a2 < (x0.size : Int)) then
      bif (decide (0 ≤ a2)) && (decide (a2 < (x0.size : Int))) then
        bif !(!(decide (((((ByteArray.data x0).getD (Int.toNat a2) 0).toNat : Nat) : Int) < 65))) || (!(decide (((((ByteArray.data x0).getD (Int.toNat a2) 0).toNat : Nat) : Int) < 65))) then
          bif (decide (((((ByteArray.data x0).getD (Int.toNat a2) 0).toNat : Nat) : Int) < 65)) || (!(decide (((((ByteArray.data x0).getD (Int.toNat a2) 0).toNat : Nat) : Int) < 65))) then
            bif !((decide (((((ByteArray.data x0).getD (Int.toNat a2) 0).toNat : Nat) : Int) < 65)) || (decide (((((ByteArray.data x0).getD (Int.toNat a2) 0).toNat : Nat) : Int) > 90))) || ((decide (((((ByteArray.data x0).getD (Int.toNat a2) 0).toNat : Nat) : Int) < 65)) || (decide (((((ByteArray.data x0).getD (Int.toNat a2) 0).toNat : Nat) : Int) > 90))) then
              bif !((decide (((((ByteArray.data x0).getD (Int.toNat a2) 0).toNat : Nat) : Int) < 65)) || (decide (((((ByteArray.data x0).getD (Int.toNat a2) 0).toNat : Nat) : Int) > 90))) || ((decide (((((ByteArray.data x0).getD (Int.toNat a2) 0).toNat : Nat) : Int) < 65)) || (decide (((((ByteArray.data x0).getD (Int.toNat a2) 0).toNat : Nat) : Int) > 90))) then
                bif !(((decide (((((ByteArray.data x0).getD (Int.toNat a2) 0).toNat : Nat) : Int) < 65)) || (decide (((((ByteArray.data x0).getD (Int.toNat a2) 0).toNat : Nat) : Int) > 90))) && (!(decide (((((ByteArray.data x0).getD (Int.toNat a2) 0).toNat : Nat) : Int) < 48)))) || (((decide (((((ByteArray.data x0).getD (Int.toNat a2) 0).toNat : Nat) : Int) < 65)) || (decide (((((ByteArray.data x0).getD (Int.toNat a2) 0).toNat : Nat) : Int) > 90))) && (!(decide (((((ByteArray.data x0).getD (Int.toNat a2) 0).toNat : Nat) : Int) < 48)))) then
                  bif !((decide (((((ByteArray.data x0).getD (Int.toNat a2) 0).toNat : Nat) : Int) < 65)) || (decide (((((ByteArray.data x0).getD (Int.toNat a2) 0).toNat : Nat) : Int) > 90))) || ((decide (((((ByteArray.data x0).getD (Int.toNat a2) 0).toNat : Nat) : Int) < 65)) || (decide (((((ByteArray.data x0).getD (Int.toNat a2) 0).toNat : Nat) : Int) > 90))) then
                    bif !((decide (((((ByteArray.data x0).getD (Int.toNat a2) 0).toNat : Nat) : Int) < 65)) || (decide (((((ByteArray.data x0).getD (Int.toNat a2) 0).toNat : Nat) : Int) > 90))) || ((decide (((((ByteArray.data x0).getD (Int.toNat a2) 0).toNat : Nat) : Int) < 48)) || (((decide (((((ByteArray.data x0).getD (Int.toNat a2) 0).toNat : Nat) : Int) < 65)) || (decide (((((ByteArray.data x0).getD (Int.toNat a2) 0).toNat : Nat) : Int) > 90))) && (!(decide (((((ByteArray.data x0).getD (Int.toNat a2) 0).toNat : Nat) : Int) < 48))))) then
                      bif (!((decide (((((ByteArray.data x0).getD (Int.toNat a2) 0).toNat : Nat) : Int) < 65)) || (decide (((((ByteArray.data x0).getD (Int.toNat a2) 0).toNat : Nat) : Int) > 90)))) || ((decide (((((ByteArray.data x0).getD (Int.toNat a2) 0).toNat : Nat) : Int) < 65)) || (decide (((((ByteArray.data x0).getD (Int.toNat a2) 0).toNat : Nat) : Int) > 90))) then
                        bif ((decide (((((ByteArray.data x0).getD (Int.toNat a2) 0).toNat : Nat) : Int) < 65)) || (decide (((((ByteArray.data x0).getD (Int.toNat a2) 0).toNat : Nat) : Int) > 90))) && ((decide (((((ByteArray.data x0).getD (Int.toNat a2) 0).toNat : Nat) : Int) < 48)) || (decide (((((ByteArray.data x0).getD (Int.toNat a2) 0).toNat : Nat) : Int) > 57))) then
                          some false
                        else
                          ref_IsName.l0 N x0 k1 (w (a2 + 1))
                      else
                        none
                    else
                      none
                  else
                    none
                else
                  none
              else
                none
            else
              none
          else
            none
        else
          none
      else
        none
    else
      some true := by kernel_rfl
theorem ref_IsName.l0_clean (N : Nat) (x0 : ByteArray) (k1 : Nat) (a2 : Int) : ref_IsName.l0 N x0 (k1 + 1) a2 =
    bif decide (a2 < (x0.size : Int)) then
      bif (decide (0 ≤ a2)) && (decide (a2 < (x0.size : Int))) then
        bif ((decide (((((ByteArray.data x0).getD (Int.toNat a2) 0).toNat : Nat) : Int) < 65)) || (decide (((((ByteArray.data x0).getD (Int.toNat a2) 0).toNat : Nat) : Int) > 90))) && ((decide (((((ByteArray.data x0).getD (Int.toNat a2) 0).toNat : Nat) : Int) < 48)) || (decide (((((ByteArray.data x0).getD (Int.toNat a2) 0).toNat : Nat) : Int) > 57))) then
          some false
        else
          ref_IsName.l0 N x0 k1 (w (a2 + 1))
      else
        none
    else
      some true := by
  rw [ref_IsName.l0_succ]; simp only [taut1, taut2, taut3, taut4, taut5, taut6, cond_true]
theorem ref_IsName.l0_cons (N : Nat) (x0 : ByteArray) (k1 : Nat) {pre r} {x} (hl : x0.data.toList = pre ++ x :: r) (hb : x0.size < 4611686018427387904) : ref_IsName.l0 N x0 (k1 + 1) (pre.length : Int) =
    bif ((decide (((x.toNat : Nat) : Int) < 65)) || (decide (((x.toNat : Nat) : Int) > 90))) && ((decide (((x.toNat : Nat) : Int) < 48)) || (decide (((x.toNat : Nat) : Int) > 57))) then
      some false
    else
      ref_IsName.l0 N x0 k1 ((pre.length : Int) + 1) := by
  have hlen : x0.size = pre.length + 1 + r.length := by rw [ByteArray.size, ← Array.length_toList, hl]; simp; omega
  have e1 : decide ((pre.length : Int) < (x0.size : Int)) = true := by rw [decide_eq_true_iff]; omega
  have e2 : decide (0 ≤ (pre.length : Int)) = true := by rw [decide_eq_true_iff]; omega
  have e4 : w ((pre.length : Int) + 1) = (pre.length : Int) + 1 := w_next hl (by rw [Array.length_toList]; exact hb)
  have e6 : decide ((pre.length : Int) ≤ (x0.size : Int)) = true := by rw [decide_eq_true_iff]; omega
  have g0 : (ByteArray.data x0).getD pre.length 0 = x := getD_bytes hl
  rw [ref_IsName.l0_clean]
  simp -implicitDefEqProofs only [Int.toNat_natCast, e1, e2, e4, e6, g0, Bool.and_true, Bool.true_and, Bool.true_or, cond_true]
theorem ref_IsName.l0_nil (N : Nat) (x0 : ByteArray) (k1 : Nat) : ref_IsName.l0 N x0 (k1 + 1) (x0.size : Int) =
    some true := by
  have e1 : decide ((x0.size : Int) < (x0.size : Int)) = false := by rw [decide_eq_false_iff_not]; omega
  rw [ref_IsName.l0_clean]
  simp -implicitDefEqProofs only [e1, cond_false]
theorem ref_IsName.eq (N : Nat) (x0 : ByteArray) : ref_IsName.fn N x0 =
    bif !(!(seq x0 (⟨#[]⟩ : ByteArray))) || (!(seq x0 (⟨#[]⟩ : ByteArray))) then
      bif !(!(seq x0 (⟨#[]⟩ : ByteArray))) || (!(seq x0 (⟨#[]⟩ : ByteArray))) then
        bif (seq x0 (⟨#[]⟩ : ByteArray)) || (!(seq x0 (⟨#[]⟩ : ByteArray))) then
          bif !(!((seq x0 (⟨#[]⟩ : ByteArray)) || (decide ((x0.size : Int) > 8)))) || (!((seq x0 (⟨#[]⟩ : ByteArray)) || (decide ((x0.size : Int) > 8)))) then
            bif (decide (0 < (x0.size : Int))) || !(!((seq x0 (⟨#[]⟩ : ByteArray)) || (decide ((x0.size : Int) > 8)))) then
              bif !(!((seq x0 (⟨#[]⟩ : ByteArray)) || (decide ((x0.size : Int) > 8)))) || (!((seq x0 (⟨#[]⟩ : ByteArray)) || (decide ((x0.size : Int) > 8)))) then
                bif !(!((seq x0 (⟨#[]⟩ : ByteArray)) || (decide ((x0.size : Int) > 8)))) || (!((seq x0 (⟨#[]⟩ : ByteArray)) || (decide ((x0.size : Int) > 8)))) then
                  bif !((!((seq x0 (⟨#[]⟩ : ByteArray)) || (decide ((x0.size : Int) > 8)))) && (decide (((((ByteArray.data x0).getD 0 0).toNat : Nat) : Int) ≥ 48))) || ((!((seq x0 (⟨#[]⟩ : ByteArray)) || (decide ((x0.size : Int) > 8)))) && (decide (((((ByteArray.data x0).getD 0 0).toNat : Nat) : Int) ≥ 48))) then
                    bif (decide (0 < (x0.size : Int))) || !((!((seq x0 (⟨#[]⟩ : ByteArray)) || (decide ((x0.size : Int) > 8)))) && (decide (((((ByteArray.data x0).getD 0 0).toNat : Nat) : Int) ≥ 48))) then
                      bif !((!((seq x0 (⟨#[]⟩ : ByteArray)) || (decide ((x0.size : Int) > 8)))) && (decide (((((ByteArray.data x0).getD 0 0).toNat : Nat) : Int) ≥ 48))) || ((!((seq x0 (⟨#[]⟩ : ByteArray)) || (decide ((x0.size : Int) > 8)))) && (decide (((((ByteArray.data x0).getD 0 0).toNat : Nat) : Int) ≥ 48))) then
                        bif !(!((seq x0 (⟨#[]⟩ : ByteArray)) || (decide ((x0.size : Int) > 8)))) || (!((seq x0 (⟨#[]⟩ : ByteArray)) || (decide ((x0.size : Int) > 8)))) then
                          bif !(!((seq x0 (⟨#[]⟩ : ByteArray)) || (decide ((x0.size : Int) > 8)))) || ((!(decide (((((ByteArray.data x0).getD 0 0).toNat : Nat) : Int) ≥ 48))) || ((!((seq x0 (⟨#[]⟩ : ByteArray)) || (decide ((x0.size : Int) > 8)))) && (decide (((((ByteArray.data x0).getD 0 0).toNat : Nat) : Int) ≥ 48)))) then
                            bif ((seq x0 (⟨#[]⟩ : ByteArray)) || (decide ((x0.size : Int) > 8))) || (!((seq x0 (⟨#[]⟩ : ByteArray)) || (decide ((x0.size : Int) > 8)))) then
                              bif ((seq x0 (⟨#[]⟩ : ByteArray)) || (decide ((x0.size : Int) > 8))) || ((decide (((((ByteArray.data x0).getD 0 0).toNat : Nat) : Int) ≥ 48)) && (decide (((((ByteArray.data x0).getD 0 0).toNat : Nat) : Int) ≤ 57))) then
                                some false
                              else
                                ref_IsName.l0 N x0 N 0
                            else
                              none
                          else
                            none
                        else
                          none
                      else
                        none
                    else
                      none
                  else
                    none
                else
                  none
              else
                none
            else
              none
          else
            none
        else
          none
      else
        none
    else
      none := by kernel_rfl
theorem taut15 : ∀ p0 p1 p2 : Bool, ((!(!((p0) || (p1))) || ((!(p2)) || ((!((p0) || (p1))) && (p2))))) = true := by decide
theorem taut16 : ∀ p0 p1 p2 : Bool, ((!((!((p0) || (p1))) && (p2)) || ((!((p0) || (p1))) && (p2)))) = true := by decide
theorem ref_IsName.clean (N : Nat) (x0 : ByteArray) : ref_IsName.fn N x0 =
    bif (decide (0 < (x0.size : Int))) || !(!((seq x0 (⟨#[]⟩ : ByteArray)) || (decide ((x0.size : Int) > 8)))) then
      bif (decide (0 < (x0.size : Int))) || !((!((seq x0 (⟨#[]⟩ : ByteArray)) || (decide ((x0.size : Int) > 8)))) && (decide (((((ByteArray.data x0).getD 0 0).toNat : Nat) : Int) ≥ 48))) then
        bif ((seq x0 (⟨#[]⟩ : ByteArray)) || (decide ((x0.size : Int) > 8))) || ((decide (((((ByteArray.data x0).getD 0 0).toNat : Nat) : Int) ≥ 48)) && (decide (((((ByteArray.data x0).getD 0 0).toNat : Nat) : Int) ≤ 57))) then
          some false
        else
          ref_IsName.l0 N x0 N 0
      else
        none
    else
      none := by
  rw [ref_IsName.eq]; simp only [taut8, taut15, taut1, taut16, taut10, taut6, cond_true]

/-! ### ref_free: skyway/skywayref3.free -/
def ref_free.kp : List (Nat × List (Nat × Option (TypeId × Ty))) := [(2, [(0, none), (4, none)])]
noncomputable def ref_free.G (N : Nat) : List (Nat × Spec) := [(31, .pure (ref_word.S N)), (43, .pure (ref_IsName.S N))]
noncomputable def ref_free.E (N : Nat) : Env := mkEnv (ref_free.G N) N tyTab ref_free.kp
noncomputable def ref_free.fn (N : Nat) (x : ByteArray) : Option Bool := evFn (ref_free.E N) Tryd.prog 3 Tryd.f29 false [.cell (.str)] [.val (.cell (.bool))] x
noncomputable def ref_free.S (N : Nat) : PSpec := ⟨false, [.cell (.str)], [.val (.cell (.bool))], ref_free.fn N⟩
theorem f29_enters : Enters Tryd.prog 29 := ⟨Tryd.f29, Tryd.func29, by kernel_rfl, by kernel_rfl⟩
theorem ref_free.tab (N : Nat) : TabOk Tryd.prog (ref_free.G N) := ⟨⟨ref_word.enters, ref_word.sound N⟩, ⟨ref_IsName.enters, ref_IsName.sound N⟩, trivial⟩
theorem ref_free.enters : Enters Tryd.prog 29 := f29_enters
theorem ref_free.sound (N : Nat) : Sound Tryd.prog 29 (ref_free.S N) := evFn_sound (specs_tab (ref_free.tab N)) (inls_tab (ref_free.tab N)) mixed 3 Tryd.func29 _ _ _
noncomputable def ref_free.cd (N : Nat) (p : List Nat) : St → (Ex → St → Option Bool) → Option Bool := ev (ref_free.E N) Tryd.prog (callD (ref_free.E N) Tryd.prog 3) 0 (codeAt (bodyOf Tryd.f29) p)
noncomputable def ref_free.fin : Ex → St → Option Bool := endK Tryd.prog Tryd.f29 [.val (.cell (.bool))]
noncomputable def ref_free.l0 (N : Nat) (x0 : ByteArray) (k1 : Nat) (a2 : Int) : Option Bool :=
  loopN (norm ((ref_free.E N).keep 2) 0) (ref_free.cd N [1, 0, 1, 0, 0]) k1
  ⟨[.sc (.string x0), .any, .any, .any, .sc (.int .i64 a2), .any, .any, .any, .any, .any, .any, .any, .any, .any], []⟩
  (blockK 0 (seqK (ref_free.cd N [1, 1]) ref_free.fin))
theorem ref_free.l0_zero (N : Nat) (x0 : ByteArray) (a2 : Int) : ref_free.l0 N x0 0 a2 = none := by kernel_rfl
theorem ref_free.l0_succ (N : Nat) (x0 : ByteArray) (k1 : Nat) (a2 : Int) : ref_free.l0 N x0 (k1 + 1) a2 =
    bif decide (a2 < 7) then
      (ref_word.fn N a2).bind fun r3 =>
      bif seq r3 x0 then
        some false
      else
        ref_free.l0 N x0 k1 (w (a2 + 1))
    else
      (ref_IsName.fn N x0).bind fun r4 =>
      some r4 := by kernel_rfl
theorem ref_free.eq (N : Nat) (x0 : ByteArray) : ref_free.fn N x0 =
    ref_free.l0 N x0 N 0 := by kernel_rfl

/-! ### ref_ClearError: skyway/skywayref3.ClearError -/
def ref_ClearError.kp : List (Nat × List (Nat × Option (TypeId × Ty))) := []
noncomputable def ref_ClearError.G (N : Nat) : List (Nat × Spec) := [(29, .pure (ref_free.S N))]
noncomputable def ref_ClearError.E (N : Nat) : Env := mkEnv (ref_ClearError.G N) N tyTab ref_ClearError.kp
noncomputable def ref_ClearError.fn (N : Nat) (x : ByteArray × Int × Int × ByteArray) : Option Int := evFn (ref_ClearError.E N) Tryd.prog 3 Tryd.f15 false [.agg (.pair (.str) (.pair (.int .i64) (.pair (.int .i64) (.str))))] [.val (.cell (.int .i64))] x
noncomputable def ref_ClearError.S (N : Nat) : PSpec := ⟨false, [.agg (.pair (.str) (.pair (.int .i64) (.pair (.int .i64) (.str))))], [.val (.cell (.int .i64))], ref_ClearError.fn N⟩
theorem f15_enters : Enters Tryd.prog 15 := ⟨Tryd.f15, Tryd.func15, by kernel_rfl, by kernel_rfl⟩
theorem ref_ClearError.tab (N : Nat) : TabOk Tryd.prog (ref_ClearError.G N) := ⟨⟨ref_free.enters, ref_free.sound N⟩, trivial⟩
theorem ref_ClearError.enters : Enters Tryd.prog 15 := f15_enters
theorem ref_ClearError.sound (N : Nat) : Sound Tryd.prog 15 (ref_ClearError.S N) := evFn_sound (specs_tab (ref_ClearError.tab N)) (inls_tab (ref_ClearError.tab N)) mixed 3 Tryd.func15 _ _ _
theorem ref_ClearError.eq (N : Nat) (x0 : ByteArray × Int × Int × ByteArray) : ref_ClearError.fn N x0 =
    (ref_free.fn N x0.1).bind fun r1 =>
    bif !r1 then
      some 3
    else
    bif !(!(decide (x0.2.1 < 0))) || (!(decide (x0.2.1 < 0))) then
      bif !(!(decide (x0.2.1 < 0))) || (!(decide (x0.2.1 < 0))) then
        bif (decide (x0.2.1 < 0)) || (!(decide (x0.2.1 < 0))) then
          bif (decide (x0.2.1 < 0)) || (decide (x0.2.1 > 6)) then
            some 1
          else
          bif (decide (0 ≤ x0.2.1)) && (decide (x0.2.1 < 7)) then
            bif decide ((Int.toNat x0.2.1) < 7) then
              bif !(decide ((List.getD [60000, 4095, 400, (-1), (-1), (-1), (-1)] (Int.toNat x0.2.1) 0) < 0)) || (decide ((List.getD [60000, 4095, 400, (-1), (-1), (-1), (-1)] (Int.toNat x0.2.1) 0) < 0)) then
                bif !(decide ((List.getD [60000, 4095, 400, (-1), (-1), (-1), (-1)] (Int.toNat x0.2.1) 0) < 0)) || (decide ((List.getD [60000, 4095, 400, (-1), (-1), (-1), (-1)] (Int.toNat x0.2.1) 0) < 0)) then
                  bif !(decide ((List.getD [60000, 4095, 400, (-1), (-1), (-1), (-1)] (Int.toNat x0.2.1) 0) < 0)) || (decide ((List.getD [60000, 4095, 400, (-1), (-1), (-1), (-1)] (Int.toNat x0.2.1) 0) < 0)) then
                    bif !((decide ((List.getD [60000, 4095, 400, (-1), (-1), (-1), (-1)] (Int.toNat x0.2.1) 0) < 0)) && (!(!(x0.2.2.1 == 0)))) || ((decide ((List.getD [60000, 4095, 400, (-1), (-1), (-1), (-1)] (Int.toNat x0.2.1) 0) < 0)) && (!(!(x0.2.2.1 == 0)))) then
                      bif !((decide ((List.getD [60000, 4095, 400, (-1), (-1), (-1), (-1)] (Int.toNat x0.2.1) 0) < 0)) && (!(!(x0.2.2.1 == 0)))) || ((decide ((List.getD [60000, 4095, 400, (-1), (-1), (-1), (-1)] (Int.toNat x0.2.1) 0) < 0)) && (!(!(x0.2.2.1 == 0)))) then
                        (bif ((decide ((List.getD [60000, 4095, 400, (-1), (-1), (-1), (-1)] (Int.toNat x0.2.1) 0) < 0)) && (!(!(x0.2.2.1 == 0)))) then ref_free.fn N x0.2.2.2 else some (false)).bind fun r2 =>
                        bif !((decide ((List.getD [60000, 4095, 400, (-1), (-1), (-1), (-1)] (Int.toNat x0.2.1) 0) < 0)) && (!(!(x0.2.2.1 == 0)))) || ((decide ((List.getD [60000, 4095, 400, (-1), (-1), (-1), (-1)] (Int.toNat x0.2.1) 0) < 0)) && (!(!(x0.2.2.1 == 0)))) then
                          bif !(decide ((List.getD [60000, 4095, 400, (-1), (-1), (-1), (-1)] (Int.toNat x0.2.1) 0) < 0)) || (decide ((List.getD [60000, 4095, 400, (-1), (-1), (-1), (-1)] (Int.toNat x0.2.1) 0) < 0)) then
                            bif !(decide ((List.getD [60000, 4095, 400, (-1), (-1), (-1), (-1)] (Int.toNat x0.2.1) 0) < 0)) || ((!(x0.2.2.1 == 0)) || ((decide ((List.getD [60000, 4095, 400, (-1), (-1), (-1), (-1)] (Int.toNat x0.2.1) 0) < 0)) && (!(!(x0.2.2.1 == 0))))) then
                              bif (!(decide ((List.getD [60000, 4095, 400, (-1), (-1), (-1), (-1)] (Int.toNat x0.2.1) 0) < 0))) || (decide ((List.getD [60000, 4095, 400, (-1), (-1), (-1), (-1)] (Int.toNat x0.2.1) 0) < 0)) then
                                bif !(!((decide ((List.getD [60000, 4095, 400, (-1), (-1), (-1), (-1)] (Int.toNat x0.2.1) 0) < 0)) && ((!(x0.2.2.1 == 0)) || (!r2)))) || (!((decide ((List.getD [60000, 4095, 400, (-1), (-1), (-1), (-1)] (Int.toNat x0.2.1) 0) < 0)) && ((!(x0.2.2.1 == 0)) || (!r2)))) then
                                  bif !(!((decide ((List.getD [60000, 4095, 400, (-1), (-1), (-1), (-1)] (Int.toNat x0.2.1) 0) < 0)) && ((!(x0.2.2.1 == 0)) || (!r2)))) || (!((decide ((List.getD [60000, 4095, 400, (-1), (-1), (-1), (-1)] (Int.toNat x0.2.1) 0) < 0)) && ((!(x0.2.2.1 == 0)) || (!r2)))) then
                                    bif !((!((decide ((List.getD [60000, 4095, 400, (-1), (-1), (-1), (-1)] (Int.toNat x0.2.1) 0) < 0)) && ((!(x0.2.2.1 == 0)) || (!r2)))) && (decide ((List.getD [60000, 4095, 400, (-1), (-1), (-1), (-1)] (Int.toNat x0.2.1) 0) ≥ 0))) || ((!((decide ((List.getD [60000, 4095, 400, (-1), (-1), (-1), (-1)] (Int.toNat x0.2.1) 0) < 0)) && ((!(x0.2.2.1 == 0)) || (!r2)))) && (decide ((List.getD [60000, 4095, 400, (-1), (-1), (-1), (-1)] (Int.toNat x0.2.1) 0) ≥ 0))) then
                                      bif !((!((decide ((List.getD [60000, 4095, 400, (-1), (-1), (-1), (-1)] (Int.toNat x0.2.1) 0) < 0)) && ((!(x0.2.2.1 == 0)) || (!r2)))) && (decide ((List.getD [60000, 4095, 400, (-1), (-1), (-1), (-1)] (Int.toNat x0.2.1) 0) ≥ 0))) || ((!((decide ((List.getD [60000, 4095, 400, (-1), (-1), (-1), (-1)] (Int.toNat x0.2.1) 0) < 0)) && ((!(x0.2.2.1 == 0)) || (!r2)))) && (decide ((List.getD [60000, 4095, 400, (-1), (-1), (-1), (-1)] (Int.toNat x0.2.1) 0) ≥ 0))) then
                                        bif !(!((decide ((List.getD [60000, 4095, 400, (-1), (-1), (-1), (-1)] (Int.toNat x0.2.1) 0) < 0)) && ((!(x0.2.2.1 == 0)) || (!r2)))) || (!((decide ((List.getD [60000, 4095, 400, (-1), (-1), (-1), (-1)] (Int.toNat x0.2.1) 0) < 0)) && ((!(x0.2.2.1 == 0)) || (!r2)))) then
                                          bif !(!((decide ((List.getD [60000, 4095, 400, (-1), (-1), (-1), (-1)] (Int.toNat x0.2.1) 0) < 0)) && ((!(x0.2.2.1 == 0)) || (!r2)))) || ((!(decide ((List.getD [60000, 4095, 400, (-1), (-1), (-1), (-1)] (Int.toNat x0.2.1) 0) ≥ 0))) || ((!((decide ((List.getD [60000, 4095, 400, (-1), (-1), (-1), (-1)] (Int.toNat x0.2.1) 0) < 0)) && ((!(x0.2.2.1 == 0)) || (!r2)))) && (decide ((List.getD [60000, 4095, 400, (-1), (-1), (-1), (-1)] (Int.toNat x0.2.1) 0) ≥ 0)))) then
                                            bif ((decide ((List.getD [60000, 4095, 400, (-1), (-1), (-1), (-1)] (Int.toNat x0.2.1) 0) < 0)) && ((!(x0.2.2.1 == 0)) || (!r2))) || (!((decide ((List.getD [60000, 4095, 400, (-1), (-1), (-1), (-1)] (Int.toNat x0.2.1) 0) < 0)) && ((!(x0.2.2.1 == 0)) || (!r2)))) then
                                              bif ((decide ((List.getD [60000, 4095, 400, (-1), (-1), (-1), (-1)] (Int.toNat x0.2.1) 0) < 0)) && ((!(x0.2.2.1 == 0)) || (!r2))) || ((decide ((List.getD [60000, 4095, 400, (-1), (-1), (-1), (-1)] (Int.toNat x0.2.1) 0) ≥ 0)) && (!(seq x0.2.2.2 (⟨#[]⟩ : ByteArray)))) then
                                                some 3
                                              else
                                              bif !(decide ((List.getD [60000, 4095, 400, (-1), (-1), (-1), (-1)] (Int.toNat x0.2.1) 0) ≥ 0)) || (decide ((List.getD [60000, 4095, 400, (-1), (-1), (-1), (-1)] (Int.toNat x0.2.1) 0) ≥ 0)) then
                                                bif !(decide ((List.getD [60000, 4095, 400, (-1), (-1), (-1), (-1)] (Int.toNat x0.2.1) 0) ≥ 0)) || (decide ((List.getD [60000, 4095, 400, (-1), (-1), (-1), (-1)] (Int.toNat x0.2.1) 0) ≥ 0)) then
                                                  bif !(decide ((List.getD [60000, 4095, 400, (-1), (-1), (-1), (-1)] (Int.toNat x0.2.1) 0) ≥ 0)) || (decide ((List.getD [60000, 4095, 400, (-1), (-1), (-1), (-1)] (Int.toNat x0.2.1) 0) ≥ 0)) then
                                                    bif !((decide ((List.getD [60000, 4095, 400, (-1), (-1), (-1), (-1)] (Int.toNat x0.2.1) 0) ≥ 0)) && (!(decide (x0.2.2.1 < 0)))) || ((decide ((List.getD [60000, 4095, 400, (-1), (-1), (-1), (-1)] (Int.toNat x0.2.1) 0) ≥ 0)) && (!(decide (x0.2.2.1 < 0)))) then
                                                      bif !((decide ((List.getD [60000, 4095, 400, (-1), (-1), (-1), (-1)] (Int.toNat x0.2.1) 0) ≥ 0)) && (!(decide (x0.2.2.1 < 0)))) || ((decide ((List.getD [60000, 4095, 400, (-1), (-1), (-1), (-1)] (Int.toNat x0.2.1) 0) ≥ 0)) && (!(decide (x0.2.2.1 < 0)))) then
                                                        bif !((decide ((List.getD [60000, 4095, 400, (-1), (-1), (-1), (-1)] (Int.toNat x0.2.1) 0) ≥ 0)) && (!(decide (x0.2.2.1 < 0)))) || ((decide ((List.getD [60000, 4095, 400, (-1), (-1), (-1), (-1)] (Int.toNat x0.2.1) 0) ≥ 0)) && (!(decide (x0.2.2.1 < 0)))) then
                                                          bif !(decide ((List.getD [60000, 4095, 400, (-1), (-1), (-1), (-1)] (Int.toNat x0.2.1) 0) ≥ 0)) || (decide ((List.getD [60000, 4095, 400, (-1), (-1), (-1), (-1)] (Int.toNat x0.2.1) 0) ≥ 0)) then
                                                            bif !(decide ((List.getD [60000, 4095, 400, (-1), (-1), (-1), (-1)] (Int.toNat x0.2.1) 0) ≥ 0)) || ((decide (x0.2.2.1 < 0)) || ((decide ((List.getD [60000, 4095, 400, (-1), (-1), (-1), (-1)] (Int.toNat x0.2.1) 0) ≥ 0)) && (!(decide (x0.2.2.1 < 0))))) then
                                                              bif (!(decide ((List.getD [60000, 4095, 400, (-1), (-1), (-1), (-1)] (Int.toNat x0.2.1) 0) ≥ 0))) || (decide ((List.getD [60000, 4095, 400, (-1), (-1), (-1), (-1)] (Int.toNat x0.2.1) 0) ≥ 0)) then
                                                                bif (decide ((List.getD [60000, 4095, 400, (-1), (-1), (-1), (-1)] (Int.toNat x0.2.1) 0) ≥ 0)) && ((decide (x0.2.2.1 < 0)) || (decide (x0.2.2.1 > (List.getD [60000, 4095, 400, (-1), (-1), (-1), (-1)] (Int.toNat x0.2.1) 0)))) then
                                                                  some 4
                                                                else
                                                                  some 0
                                                              else
                                                                none
                                                            else
                                                              none
                                                          else
                                                            none
                                                        else
                                                          none
                                                      else
                                                        none
                                                    else
                                                      none
                                                  else
                                                    none
                                                else
                                                  none
                                              else
                                                none
                                            else
                                              none
                                          else
                                            none
                                        else
                                          none
                                      else
                                        none
                                    else
                                      none
                                  else
                                    none
                                else
                                  none
                              else
                                none
                            else
                              none
                          else
                            none
                        else
                          none
                      else
                        none
                    else
                      none
                  else
                    none
                else
                  none
              else
                none
            else
              none
          else
            none
        else
          none
      else
        none
    else
      none := by kernel_rfl
theorem taut17 : ∀ p0 p1 p2 : Bool, ((!(!((p0) && ((!(p1)) || (!p2)))) || (!((p0) && ((!(p1)) || (!p2)))))) = true := by decide
theorem taut18 : ∀ p0 p1 p2 p3 : Bool, ((!(!((p0) && ((!(p1)) || (!p2)))) || ((!(p3)) || ((!((p0) && ((!(p1)) || (!p2)))) && (p3))))) = true := by decide
theorem taut19 : ∀ p0 p1 p2 p3 : Bool, ((!((!((p0) && ((!(p1)) || (!p2)))) && (p3)) || ((!((p0) && ((!(p1)) || (!p2)))) && (p3)))) = true := by decide
theorem taut20 : ∀ p0 p1 : Bool, ((!((p0) && (!(!(p1)))) || ((p0) && (!(!(p1)))))) = true := by decide
theorem taut21 : ∀ p0 p1 : Bool, ((!((p0) && (!(p1))) || ((p0) && (!(p1))))) = true := by decide
theorem taut22 : ∀ p0 p1 : Bool, ((!(p0) || ((!(p1)) || ((p0) && (!(!(p1))))))) = true := by decide
theorem taut23 : ∀ p0 p1 : Bool, ((!(p0) || ((p1) || ((p0) && (!(p1)))))) = true := by decide
theorem taut24 : ∀ p0 : Bool, ((!(p0) || (p0))) = true := by decide
theorem taut25 : ∀ p0 : Bool, (((!(p0)) || (p0))) = true := by decide
theorem taut26 : ∀ p0 p1 p2 : Bool, ((((p0) && ((!(p1)) || (!p2))) || (!((p0) && ((!(p1)) || (!p2)))))) = true := by decide
theorem ref_ClearError.clean (N : Nat) (x0 : ByteArray × Int × Int × ByteArray) : ref_ClearError.fn N x0 =
    (ref_free.fn N x0.1).bind fun r1 =>
    bif !r1 then
      some 3
    else
    bif (decide (x0.2.1 < 0)) || (decide (x0.2.1 > 6)) then
      some 1
    else
    bif (decide (0 ≤ x0.2.1)) && (decide (x0.2.1 < 7)) then
      bif decide ((Int.toNat x0.2.1) < 7) then
        (bif ((decide ((List.getD [60000, 4095, 400, (-1), (-1), (-1), (-1)] (Int.toNat x0.2.1) 0) < 0)) && (!(!(x0.2.2.1 == 0)))) then ref_free.fn N x0.2.2.2 else some (false)).bind fun r2 =>
        bif ((decide ((List.getD [60000, 4095, 400, (-1), (-1), (-1), (-1)] (Int.toNat x0.2.1) 0) < 0)) && ((!(x0.2.2.1 == 0)) || (!r2))) || ((decide ((List.getD [60000, 4095, 400, (-1), (-1), (-1), (-1)] (Int.toNat x0.2.1) 0) ≥ 0)) && (!(seq x0.2.2.2 (⟨#[]⟩ : ByteArray)))) then
          some 3
        else
        bif (decide ((List.getD [60000, 4095, 400, (-1), (-1), (-1), (-1)] (Int.toNat x0.2.1) 0) ≥ 0)) && ((decide (x0.2.2.1 < 0)) || (decide (x0.2.2.1 > (List.getD [60000, 4095, 400, (-1), (-1), (-1), (-1)] (Int.toNat x0.2.1) 0)))) then
          some 4
        else
          some 0
      else
        none
    else
      none := by
  rw [ref_ClearError.eq]; simp only [taut17, taut18, taut1, taut19, taut20, taut21, taut22, taut23, taut24, taut25, taut26, taut6, cond_true]

/-! ### ref_Dec: skyway/skywayref3.Dec -/
def ref_Dec.kp : List (Nat × List (Nat × Option (TypeId × Ty))) := []
noncomputable def ref_Dec.R (N : Nat) : Nat → Int → Option ByteArray
  | 0 => fun _ => none
  | D + 1 => evFn (mkEnv [(30, .pure ⟨false, [.cell (.int .i64)], [.val (.cell (.str))], ref_Dec.R N D⟩)] N tyTab ref_Dec.kp) Tryd.prog 3 Tryd.f30 false [.cell (.int .i64)] [.val (.cell (.str))]
noncomputable def ref_Dec.G (N D : Nat) : List (Nat × Spec) := [(30, .pure ⟨false, [.cell (.int .i64)], [.val (.cell (.str))], ref_Dec.R N D⟩)]
noncomputable def ref_Dec.E (N D : Nat) : Env := mkEnv (ref_Dec.G N D) N tyTab ref_Dec.kp
noncomputable def ref_Dec.fn (N : Nat) (x : Int) : Option ByteArray := ref_Dec.R N N x
noncomputable def ref_Dec.S (N : Nat) : PSpec := ⟨false, [.cell (.int .i64)], [.val (.cell (.str))], ref_Dec.fn N⟩
theorem f30_enters : Enters Tryd.prog 30 := ⟨Tryd.f30, Tryd.func30, by kernel_rfl, by kernel_rfl⟩
theorem ref_Dec.soundR (N : Nat) : ∀ D, Sound Tryd.prog 30 ⟨false, [.cell (.int .i64)], [.val (.cell (.str))], ref_Dec.R N D⟩
  | 0 => fun _ _ _ _ _ _ _ _ _ _ _ _ _ h => nomatch h
  | D + 1 => evFn_sound (specs_tab (G := ref_Dec.G N D) ⟨⟨f30_enters, ref_Dec.soundR N D⟩, trivial⟩) (inls_tab (G := ref_Dec.G N D) ⟨⟨f30_enters, ref_Dec.soundR N D⟩, trivial⟩) mixed 3 Tryd.func30 _ _ _
theorem ref_Dec.enters : Enters Tryd.prog 30 := f30_enters
theorem ref_Dec.sound (N : Nat) : Sound Tryd.prog 30 (ref_Dec.S N) := ref_Dec.soundR N N
theorem ref_Dec.eq (N D : Nat) (x0 : Int) : ref_Dec.R N (D + 1) x0 =
    bif decide (x0 < 0) then
      (ref_Dec.R N D (w (-x0))).bind fun r1 =>
      bif Nat.ble ((⟨#[45]⟩ : ByteArray).size + r1.size) 9223372036854775807 then
        some ((⟨#[45]⟩ : ByteArray) ++ r1)
      else
        none
    else
    bif decide (x0 < 10) then
      bif ((decide (0 ≤ x0)) && (decide (x0 ≤ (w (x0 + 1))))) && (decide ((w (x0 + 1)) ≤ ((⟨#[48, 49, 50, 51, 52, 53, 54, 55, 56, 57]⟩ : ByteArray).size : Int))) then
        some (ByteArray.extract (⟨#[48, 49, 50, 51, 52, 53, 54, 55, 56, 57]⟩ : ByteArray) (Int.toNat x0) (Int.toNat (w (x0 + 1))))
      else
        none
    else
      (ref_Dec.R N D (w (Int.tdiv x0 10))).bind fun r2 =>
      (ref_Dec.R N D (Int.tmod x0 10)).bind fun r3 =>
      bif Nat.ble (r2.size + r3.size) 9223372036854775807 then
        some (r2 ++ r3)
      else
        none := by kernel_rfl

/-! ### ref_ClearText: skyway/skywayref3.ClearText -/
def ref_ClearText.kp : List (Nat × List (Nat × Option (TypeId × Ty))) := [(1000004, [(1, none), (2, none), (5, none)])]
noncomputable def ref_ClearText.G (N : Nat) : List (Nat × Spec) := [(30, .pure (ref_Dec.S N)), (31, .pure (ref_word.S N))]
noncomputable def ref_ClearText.E (N : Nat) : Env := mkEnv (ref_ClearText.G N) N tyTab ref_ClearText.kp
noncomputable def ref_ClearText.fn (N : Nat) (x : (ByteArray × Int × Int × ByteArray) × Bool) : Option ByteArray := evFn (ref_ClearText.E N) Tryd.prog 3 Tryd.f16 false [.agg (.pair (.str) (.pair (.int .i64) (.pair (.int .i64) (.str)))), .cell (.bool)] [.val (.cell (.str))] x
noncomputable def ref_ClearText.S (N : Nat) : PSpec := ⟨false, [.agg (.pair (.str) (.pair (.int .i64) (.pair (.int .i64) (.str)))), .cell (.bool)], [.val (.cell (.str))], ref_ClearText.fn N⟩
theorem f16_enters : Enters Tryd.prog 16 := ⟨Tryd.f16, Tryd.func16, by kernel_rfl, by kernel_rfl⟩
theorem ref_ClearText.tab (N : Nat) : TabOk Tryd.prog (ref_ClearText.G N) := ⟨⟨ref_Dec.enters, ref_Dec.sound N⟩, ⟨ref_word.enters, ref_word.sound N⟩, trivial⟩
theorem ref_ClearText.enters : Enters Tryd.prog 16 := f16_enters
theorem ref_ClearText.sound (N : Nat) : Sound Tryd.prog 16 (ref_ClearText.S N) := evFn_sound (specs_tab (ref_ClearText.tab N)) (inls_tab (ref_ClearText.tab N)) mixed 3 Tryd.func16 _ _ _
noncomputable def ref_ClearText.cd (N : Nat) (p : List Nat) : St → (Ex → St → Option ByteArray) → Option ByteArray := ev (ref_ClearText.E N) Tryd.prog (callD (ref_ClearText.E N) Tryd.prog 3) 0 (codeAt (bodyOf Tryd.f16) p)
noncomputable def ref_ClearText.fin : Ex → St → Option ByteArray := endK Tryd.prog Tryd.f16 [.val (.cell (.str))]
noncomputable def ref_ClearText.j0 (N : Nat) (x0 : ByteArray × Int × Int × ByteArray) (x1 : Bool) (a1 : ByteArray) : Option ByteArray :=
  fuelK N (region (ref_ClearText.E N) Tryd.prog (callD (ref_ClearText.E N) Tryd.prog 3) (opsAt (codeAt (bodyOf Tryd.f16) [1, 1, 1, 0])) false
  ⟨[.any, .sc (.bool x1), .ptr 0 0, .any, .any, .sc (.string a1), .any, .any, .any, .any, .any, .any, .any, .any, .any, .any, .any, .any, .any, .any, .any, .any, .any, .any, .any, .any, .any, .any, .any, .any, .any], [.cells [.sc (.string x0.1), .sc (.int .i64 x0.2.1), .sc (.int .i64 x0.2.2.1), .sc (.string x0.2.2.2)] 25]⟩
  (fun S => (seqK (ref_ClearText.cd N [1, 1, 1, 1]) ref_ClearText.fin) .normal S))
theorem ref_ClearText.j0_eq (N : Nat) (x0 : ByteArray × Int × Int × ByteArray) (x1 : Bool) (a1 : ByteArray) {M : Nat} (hM : N = M + 1) : ref_ClearText.j0 N x0 x1 a1 =
    (ref_word.fn N x0.2.1).bind fun r2 =>
    bif Nat.ble (r2.size + (⟨#[32]⟩ : ByteArray).size) 9223372036854775807 then
      bif Nat.ble ((r2 ++ (⟨#[32]⟩ : ByteArray)).size + a1.size) 9223372036854775807 then
        bif x1 then
          bif Nat.ble (((r2 ++ (⟨#[32]⟩ : ByteArray)) ++ a1).size + (⟨#[32]⟩ : ByteArray).size) 9223372036854775807 then
            bif Nat.ble ((((r2 ++ (⟨#[32]⟩ : ByteArray)) ++ a1) ++ (⟨#[32]⟩ : ByteArray)).size + x0.1.size) 9223372036854775807 then
              some ((((r2 ++ (⟨#[32]⟩ : ByteArray)) ++ a1) ++ (⟨#[32]⟩ : ByteArray)) ++ x0.1)
            else
              none
          else
            none
        else
        bif Nat.ble (x0.1.size + (⟨#[32]⟩ : ByteArray).size) 9223372036854775807 then
          bif Nat.ble ((x0.1 ++ (⟨#[32]⟩ : ByteArray)).size + ((r2 ++ (⟨#[32]⟩ : ByteArray)) ++ a1).size) 9223372036854775807 then
            some ((x0.1 ++ (⟨#[32]⟩ : ByteArray)) ++ ((r2 ++ (⟨#[32]⟩ : ByteArray)) ++ a1))
          else
            none
        else
          none
      else
        none
    else
      none := (fuelK_eq hM _).trans (by kernel_rfl)
theorem ref_ClearText.eq (N : Nat) (x0 : ByteArray × Int × Int × ByteArray) (x1 : Bool) : ref_ClearText.fn N (x0, x1) =
    bif decide (x0.2.1 < 3) then
      (ref_Dec.fn N x0.2.2.1).bind fun r3 =>
      ref_ClearText.j0 N x0 x1 r3
    else
      ref_ClearText.j0 N x0 x1 x0.2.2.2 := by kernel_rfl

/-! ### law_PhraseTexts: skyway/skywaylaw3.PhraseTexts -/
def law_PhraseTexts.kp : List (Nat × List (Nat × Option (TypeId × Ty))) := []
noncomputable def law_PhraseTexts.G (N : Nat) : List (Nat × Spec) := [(6, .pure (phrase_Print.S N)), (7, .pure (phrase_Check.S N)), (11, .pure (phrase_Back.S N)), (14, .pure (law_phraseFact.S N)), (15, .pure (ref_ClearError.S N)), (16, .pure (ref_ClearText.S N))]
noncomputable def law_PhraseTexts.E (N : Nat) : Env := mkEnv (law_PhraseTexts.G N) N tyTab law_PhraseTexts.kp
noncomputable def law_PhraseTexts.fn (N : Nat) (x : ByteArray × Int × Int × ByteArray) : Option Bool := evFn (law_PhraseTexts.E N) Tryd.prog 3 Tryd.f4 false [.agg (.pair (.str) (.pair (.int .i64) (.pair (.int .i64) (.str))))] [.val (.cell (.bool))] x
noncomputable def law_PhraseTexts.S (N : Nat) : PSpec := ⟨false, [.agg (.pair (.str) (.pair (.int .i64) (.pair (.int .i64) (.str))))], [.val (.cell (.bool))], law_PhraseTexts.fn N⟩
theorem f4_enters : Enters Tryd.prog 4 := ⟨Tryd.f4, Tryd.func4, by kernel_rfl, by kernel_rfl⟩
theorem law_PhraseTexts.tab (N : Nat) : TabOk Tryd.prog (law_PhraseTexts.G N) := ⟨⟨phrase_Print.enters, phrase_Print.sound N⟩, ⟨phrase_Check.enters, phrase_Check.sound N⟩, ⟨phrase_Back.enters, phrase_Back.sound N⟩, ⟨law_phraseFact.enters, law_phraseFact.sound N⟩, ⟨ref_ClearError.enters, ref_ClearError.sound N⟩, ⟨ref_ClearText.enters, ref_ClearText.sound N⟩, trivial⟩
theorem law_PhraseTexts.enters : Enters Tryd.prog 4 := f4_enters
theorem law_PhraseTexts.sound (N : Nat) : Sound Tryd.prog 4 (law_PhraseTexts.S N) := evFn_sound (specs_tab (law_PhraseTexts.tab N)) (inls_tab (law_PhraseTexts.tab N)) mixed 3 Tryd.func4 _ _ _
theorem law_PhraseTexts.eq (N : Nat) (x0 : ByteArray × Int × Int × ByteArray) : law_PhraseTexts.fn N x0 =
    (law_phraseFact.fn N ()).bind fun r1 =>
    bif !r1 then
      some false
    else
      (phrase_Print.fn N x0).bind fun r2 =>
      (phrase_Back.fn N x0).bind fun r3 =>
      (ref_ClearError.fn N x0).bind fun r4 =>
      (phrase_Check.fn N x0).bind fun r5 =>
      bif !(!(!(r5 == r4))) || (!(!(r5 == r4))) then
        bif !(!(!(r5 == r4))) || (!(!(r5 == r4))) then
          bif (!(r5 == r4)) || (!(!(r5 == r4))) then
            bif !(!((!(r5 == r4)) || (!(r2.2 == r4)))) || (!((!(r5 == r4)) || (!(r2.2 == r4)))) then
              bif !(!((!(r5 == r4)) || (!(r2.2 == r4)))) || (!((!(r5 == r4)) || (!(r2.2 == r4)))) then
                bif ((!(r5 == r4)) || (!(r2.2 == r4))) || (!((!(r5 == r4)) || (!(r2.2 == r4)))) then
                  bif ((!(r5 == r4)) || (!(r2.2 == r4))) || (!(r3.2 == r4)) then
                    some false
                  else
                  bif !(r4 == 0) then
                    bif !(seq r2.1 (⟨#[]⟩ : ByteArray)) || (seq r2.1 (⟨#[]⟩ : ByteArray)) then
                      bif (!(seq r2.1 (⟨#[]⟩ : ByteArray))) || (seq r2.1 (⟨#[]⟩ : ByteArray)) then
                        some ((seq r2.1 (⟨#[]⟩ : ByteArray)) && (seq r3.1 (⟨#[]⟩ : ByteArray)))
                      else
                        none
                    else
                      none
                  else
                    (ref_ClearText.fn N (x0, false)).bind fun r6 =>
                    bif !(seq r2.1 r6) || (seq r2.1 r6) then
                      (bif (seq r2.1 r6) then ref_ClearText.fn N (x0, true) else some ((⟨#[]⟩ : ByteArray))).bind fun r7 =>
                      bif !(seq r2.1 r6) || (seq r2.1 r6) then
                        bif !(seq r2.1 r6) || (seq r2.1 r6) then
                          bif (!(seq r2.1 r6)) || (seq r2.1 r6) then
                            some ((seq r2.1 r6) && (seq r3.1 r7))
                          else
                            none
                        else
                          none
                      else
                        none
                    else
                      none
                else
                  none
              else
                none
            else
              none
          else
            none
        else
          none
      else
        none := by kernel_rfl
theorem taut27 : ∀ p0 p1 : Bool, ((!(!((!(p0)) || (!(p1)))) || (!((!(p0)) || (!(p1)))))) = true := by decide
theorem taut28 : ∀ p0 p1 : Bool, ((((!(p0)) || (!(p1))) || (!((!(p0)) || (!(p1)))))) = true := by decide
theorem law_PhraseTexts.clean (N : Nat) (x0 : ByteArray × Int × Int × ByteArray) : law_PhraseTexts.fn N x0 =
    (law_phraseFact.fn N ()).bind fun r1 =>
    bif !r1 then
      some false
    else
      (phrase_Print.fn N x0).bind fun r2 =>
      (phrase_Back.fn N x0).bind fun r3 =>
      (ref_ClearError.fn N x0).bind fun r4 =>
      (phrase_Check.fn N x0).bind fun r5 =>
      bif ((!(r5 == r4)) || (!(r2.2 == r4))) || (!(r3.2 == r4)) then
        some false
      else
      bif !(r4 == 0) then
        some ((seq r2.1 (⟨#[]⟩ : ByteArray)) && (seq r3.1 (⟨#[]⟩ : ByteArray)))
      else
        (ref_ClearText.fn N (x0, false)).bind fun r6 =>
        (bif (seq r2.1 r6) then ref_ClearText.fn N (x0, true) else some ((⟨#[]⟩ : ByteArray))).bind fun r7 =>
        some ((seq r2.1 r6) && (seq r3.1 r7)) := by
  rw [law_PhraseTexts.eq]; simp only [taut13, taut27, taut24, taut14, taut25, taut28, cond_true]

end Go.Proofs.YtbjanflhagkhlaaDoor.Sk
