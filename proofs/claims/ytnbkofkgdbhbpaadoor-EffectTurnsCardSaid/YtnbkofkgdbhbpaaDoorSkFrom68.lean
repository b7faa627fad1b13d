/- math.Float64frombits: what it answers. -/
import Derived.Test.YtnbkofkgdbhbpaaDoorSkMac
import Derived.Test.YtnbkofkgdbhbpaaDoorProg
import Derived.WalkKit
import Derived.Laws.Externs
set_option linter.unusedVariables false
set_option linter.unusedSimpArgs false
namespace Go.Proofs.YtnbkofkgdbhbpaaDoor.Sk
open Go Go.RowKit

def fromM : List AV → Nat → Rd Eff
  | [.sc (.int .u64 b)], _ => Eff.val (.sc (.float .f64 b.toNat))
  | _, _ => .fail
theorem from_ext : ExtOk Tryd.prog 68 fromM := by
  intro hp args e log n hrun
  unfold fromM at hrun
  split at hrun
  · rename_i b
    refine ⟨rfl, fun B c w us hH hv => ?_⟩
    obtain ⟨u, rfl, hu⟩ : ∃ u, us = [u] ∧ u = .int .u64 b := by
      match us, hv.length, hv with
      | [u], _, hv => exact ⟨u, rfl, hv.1⟩
    subst hu
    refine ⟨.float .f64 b.toNat, ?_, ?_⟩
    · rw [run_callFunc_extern Tryd.func68 (by kernel_rfl) (by kernel_rfl) (by kernel_rfl) (e := Extern.MathFloatBits.float64frombits) (by kernel_rfl)]
      rfl
    · have hrun : some ((⟨.sc (.float .f64 b.toNat), [], []⟩ : Eff), ([] : List Nat)) = some (e, log) := hrun
      cases hrun
      exact effOk_val hH rfl
  · cases hrun
end Go.Proofs.YtnbkofkgdbhbpaaDoor.Sk
