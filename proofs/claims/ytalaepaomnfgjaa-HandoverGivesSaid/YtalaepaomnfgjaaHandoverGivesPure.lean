/- The law HandoverGives, plain: what the printed functions answer. -/
import Derived.Test.YtalaepaomnfgjaaHandoverGivesEq
import Derived.Test.YtalaepaomnfgjaaSkAid
set_option linter.unusedVariables false
set_option linter.unusedSimpArgs false
namespace Go.Proofs.Ytalaepaomnfgjaa.Sk
open Go

theorem F14.t (N : Nat) : F14.fn N () = some true := by kernel_rfl
theorem F18.v (N : Nat) (x : Int × Int) : F18.fn N x = some (if x.1 < 0 ∨ x.1 > 2 then 1 else if x.2 < 0 ∨ x.2 > 2000 then 4 else 0) := by
  rw [F18.clean]
  by_cases h1 : x.1 < 0 <;> by_cases h2 : x.1 > 2 <;> by_cases h3 : x.2 < 0 <;> by_cases h4 : x.2 > 2000 <;> simp [h1, h2, h3, h4]
theorem F17.v (N : Nat) (x : Int × Int) : F17.fn N x = some (if x.1 < 0 ∨ x.1 > 2 then 1 else if x.2 < 0 ∨ x.2 > 2000 then 4 else 0) := by
  rw [F17.clean]
  by_cases h1 : x.1 < 0 <;> by_cases h2 : x.1 > 2 <;> by_cases h3 : x.2 < 0 <;> by_cases h4 : x.2 > 2000 <;> simp [h1, h2, h3, h4]

theorem HandoverGives.pure (x0 : Int × Int) (h0 : Wf Try.prog (.pair (.int .i64) (.int .i64)) x0) : F3.fn NN x0 = some true := by
  obtain ⟨a, b⟩ := x0
  simp only [F3.clean, F14.t, F15.eq, F16.eq, F17.v, F18.v, Option.bind_some, Bool.not_true, cond_false]
  by_cases h1 : a < 0 ∨ a > 2
  · simp [h1]
  by_cases h2 : b < 0 ∨ b > 2000
  · simp [h1, h2]
  simp only [h1, h2, if_false]
  by_cases h3 : b = 2000
  · subst h3
    have ha : a = 0 ∨ a = 1 ∨ a = 2 := by omega
    rcases ha with rfl | rfl | rfl <;> simp
  · have ha : a = 0 ∨ a = 1 ∨ a = 2 := by omega
    have e : (b == 2000) = false := by simpa using h3
    rcases ha with rfl | rfl | rfl <;> simp [e]
end Go.Proofs.Ytalaepaomnfgjaa.Sk
