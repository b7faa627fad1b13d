/- math.Float64bits: what it answers. -/
import Derived.Test.YtnbkofkgdbhbpaaDoorSkMac
import Derived.Test.YtnbkofkgdbhbpaaDoorProg
import Derived.WalkKit
import Derived.Laws.Externs
set_option linter.unusedVariables false
set_option linter.unusedSimpArgs false
namespace Go.Proofs.YtnbkofkgdbhbpaaDoor.Sk
open Go Go.RowKit

def bitsM : List AV → Nat → Rd Eff
  | [.sc (.float .f64 b)], _ => Eff.val (.sc (.int .u64 b))
  | _, _ => .fail
theorem bits_ext : ExtOk Tryd.prog 67 bitsM := by
  intro hp args e log n hrun
  unfold bitsM at hrun
  split at hrun
  · rename_i b
    refine ⟨rfl, fun B c w us hH hv => ?_⟩
    obtain ⟨u, rfl, hu⟩ : ∃ u, us = [u] ∧ u = .float .f64 b := by
      match us, hv.length, hv with
      | [u], _, hv => exact ⟨u, rfl, hv.1⟩
    subst hu
    refine ⟨.int .u64 b, ?_, ?_⟩
    · rw [run_callFunc_extern Tryd.func67 (by kernel_rfl) (by kernel_rfl) (by kernel_rfl) (e := Extern.MathFloatBits.float64bits) (by kernel_rfl)]
      rfl
    · have hrun : some ((⟨.sc (.int .u64 b), [], []⟩ : Eff), ([] : List Nat)) = some (e, log) := hrun
      cases hrun
      exact effOk_val hH rfl
  · cases hrun
end Go.Proofs.YtnbkofkgdbhbpaaDoor.Sk
