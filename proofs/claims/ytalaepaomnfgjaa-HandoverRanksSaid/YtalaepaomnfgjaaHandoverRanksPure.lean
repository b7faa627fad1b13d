import Derived.Test.YtalaepaomnfgjaaHandoverRanksEq
import Derived.Laws.Runes
set_option linter.unusedVariables false
set_option linter.unusedSimpArgs false
namespace Go.Proofs.Ytalaepaomnfgjaa.Sk
open Go

theorem w_small (n : Int) (h0 : -9223372036854775808 ≤ n) (h1 : n < 9223372036854775808) : w n = n := by
  simp only [w, IntKind.wrap, IntKind.bits, IntKind.signed]
  simp
  split <;> omega

theorem F14.t (N : Nat) : F14.fn N () = some true := by kernel_rfl

def side (x : Int × Int) : Bool := decide (0 ≤ x.1) && decide (x.1 ≤ 2) && decide (0 ≤ x.2) && decide (x.2 ≤ 2000)
theorem F18.v (N : Nat) (x : Int × Int) : F18.fn N x = some (if x.1 < 0 ∨ x.1 > 2 then 1 else if x.2 < 0 ∨ x.2 > 2000 then 4 else 0) := by
  rw [F18.clean]
  by_cases h1 : x.1 < 0 <;> by_cases h2 : x.1 > 2 <;> by_cases h3 : x.2 < 0 <;> by_cases h4 : x.2 > 2000 <;> simp [h1, h2, h3, h4]
theorem F17.v (N : Nat) (x : Int × Int) : F17.fn N x = some (if x.1 < 0 ∨ x.1 > 2 then 1 else if x.2 < 0 ∨ x.2 > 2000 then 4 else 0) := by
  rw [F17.clean]
  by_cases h1 : x.1 < 0 <;> by_cases h2 : x.1 > 2 <;> by_cases h3 : x.2 < 0 <;> by_cases h4 : x.2 > 2000 <;> simp [h1, h2, h3, h4]

theorem ranks (N : Nat) (x0 x1 : Int × Int) : F5.fn N (x0, x1) = some true := by
  obtain ⟨a, b⟩ := x0
  obtain ⟨c, d⟩ := x1
  simp only [F5.clean, F14.t, F21.eq, F17.v, F18.v, F22.clean, F23.clean, F65.eq, Option.bind_some, Bool.not_true, cond_false]
  by_cases h1 : a < 0 ∨ a > 2
  · simp [h1]
  by_cases h2 : b < 0 ∨ b > 2000
  · simp [h1, h2]
  by_cases h3 : c < 0 ∨ c > 2
  · simp [h1, h2, h3]
  by_cases h4 : d < 0 ∨ d > 2000
  · simp [h1, h2, h3, h4]
  simp only [h1, h2, h3, h4, if_false]
  rw [w_small (2 * b) (by omega) (by omega), w_small (2 * d) (by omega) (by omega), w_small (2 * b + 1) (by omega) (by omega), w_small (2 * d + 1) (by omega) (by omega)]
  have ha : a = 0 ∨ a = 1 ∨ a = 2 := by omega
  have hc : c = 0 ∨ c = 1 ∨ c = 2 := by omega
  rcases Int.lt_trichotomy b d with h | h | h
  · have e1 : (b == d) = false := by simp; omega
    have e2 : (d == b) = false := by simp; omega
    have e3 : decide (d > b) = true := by simp; omega
    rcases ha with rfl | rfl | rfl <;> rcases hc with rfl | rfl | rfl <;>
      simp [e1, e2, e3, show ¬ d < b by omega, show ¬ 2 * d < 2 * b by omega, show 2 * b < 2 * d by omega, show ¬ 2 * d + 1 < 2 * b by omega, show ¬ 2 * d < 2 * b + 1 by omega, show 2 * b < 2 * d + 1 by omega, show 2 * b + 1 < 2 * d by omega, show ¬ 2 * d + 1 < 2 * b + 1 by omega, show 2 * b + 1 < 2 * d + 1 by omega, h]
  · subst h
    rcases ha with rfl | rfl | rfl <;> rcases hc with rfl | rfl | rfl <;> simp [show ¬ 2 * b + 1 < 2 * b by omega, show 2 * b < 2 * b + 1 by omega]
  · have e1 : (b == d) = false := by simp; omega
    have e2 : (d == b) = false := by simp; omega
    have e3 : decide (d > b) = false := by simp; omega
    rcases ha with rfl | rfl | rfl <;> rcases hc with rfl | rfl | rfl <;>
      simp [e1, e2, e3, show d < b by omega, show ¬ b < d by omega, show 2 * d < 2 * b by omega, show ¬ 2 * b < 2 * d by omega, show 2 * d + 1 < 2 * b by omega, show 2 * d < 2 * b + 1 by omega, show ¬ 2 * b < 2 * d + 1 by omega, show ¬ 2 * b + 1 < 2 * d by omega, show 2 * d + 1 < 2 * b + 1 by omega, show ¬ 2 * b + 1 < 2 * d + 1 by omega, h]
end Go.Proofs.Ytalaepaomnfgjaa.Sk
