/- math.Sqrt: what it answers. -/
import Derived.Test.YtnbkofkgdbhbpaaDoorSkMac
import Derived.Test.YtnbkofkgdbhbpaaDoorProg
import Derived.WalkKit
import Derived.Laws.Externs
set_option linter.unusedVariables false
set_option linter.unusedSimpArgs false
namespace Go.Proofs.YtnbkofkgdbhbpaaDoor.Sk
open Go Go.RowKit

def fsq (b : Nat) : Option Nat := FloatKind.f64.format.sqrt b
def sqrtM : List AV → Nat → Rd Eff
  | [.sc (.float .f64 b)], _ => .chk (fsq b).isSome (Eff.val (.sc (.float .f64 ((fsq b).getD 0))))
  | _, _ => .fail
theorem sqrt_calls (b r : Nat) (hr : fsq b = some r) (w : World) : Calls Tryd.prog 56 #[.float .f64 b] w fun e w' => e = .returned (.float .f64 r) ∧ w' = w := by
  have h : (callFunc 66 #[.float .f64 b]).run Tryd.prog w = .ok (.value (.float .f64 r)) w := by
    have h1 : (Extern.MathSqrt.sqrt #[.float .f64 b]).run Tryd.prog w = .ok (.float .f64 r) w := by
      have e : Extern.MathSqrt.sqrt #[.float .f64 b] = (match FloatKind.f64.format.sqrt b with
        | some r => pure (.float .f64 r)
        | none => do pure (.float .f64 (← choose (.nanBits .f64 b b)))) := rfl
      have hr : FloatKind.f64.format.sqrt b = some r := hr
      rw [e, hr]
      rfl
    rw [run_callFunc_extern Tryd.func66 (by kernel_rfl) (by kernel_rfl) (by kernel_rfl) (e := Extern.MathSqrt.sqrt) (by kernel_rfl), h1]
    rfl
  go_enter Tryd.func56, Tryd.ntmps56
  go_wp2
  go_ret
  exact ⟨rfl, rfl⟩
theorem sqrt_sound : MacOk Tryd.prog 56 sqrtM := by
  intro B c hp w args us ef log n hH hv hrun
  unfold sqrtM at hrun
  split at hrun
  · rename_i b
    obtain ⟨hc, hrun⟩ := Rd.chk_some hrun
    obtain ⟨r, hr⟩ := Option.isSome_iff_exists.1 hc
    rw [hr] at hrun
    obtain ⟨u, rfl, hu⟩ : ∃ u, us = [u] ∧ u = .float .f64 b := by
      match us, hv.length, hv with
      | [u], _, hv => exact ⟨u, rfl, hv.1⟩
    subst hu
    refine (sqrt_calls b r hr w).mono fun e w' he => ?_
    obtain ⟨rfl, rfl⟩ := he
    refine ⟨_, rfl, ?_⟩
    have hrun : some ((⟨.sc (.float .f64 r), [], []⟩ : Eff), ([] : List Nat)) = some (ef, log) := hrun
    cases hrun
    exact effOk_val hH rfl
  · cases hrun
theorem sqrt_enters : Enters Tryd.prog 56 := ⟨Tryd.f56, Tryd.func56, by kernel_rfl, by kernel_rfl⟩
end Go.Proofs.YtnbkofkgdbhbpaaDoor.Sk
