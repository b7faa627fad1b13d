/- SK, part 24: small helps for the plain laws. -/
import Derived.Test.YtalaepaomnfgjaaSkTab
set_option linter.unusedVariables false
namespace Go.Proofs.Ytalaepaomnfgjaa.Sk
open Go

theorem w_small (n : Int) (h0 : -9223372036854775808 ≤ n) (h1 : n < 9223372036854775808) : w n = n := by
  simp only [w, IntKind.wrap, IntKind.bits, IntKind.signed]
  simp
  split <;> omega
theorem wf_int {P : Program} {x : Int} (h : Wf P (.int .i64) x) : -9223372036854775808 ≤ x ∧ x < 9223372036854775808 := by
  have h : (Lit.int .i64 x).wf = true := h
  simp only [Lit.wf, Bool.and_eq_true, decide_eq_true_eq, IntKind.min, IntKind.max] at h
  simp [IntKind.signed, IntKind.bits] at h
  omega
end Go.Proofs.Ytalaepaomnfgjaa.Sk
