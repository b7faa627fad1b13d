/- The law HandoverHears, plain: what the printed functions answer. -/
import Derived.Test.YtalaepaomnfgjaaHandoverHearsEq
import Derived.Test.YtalaepaomnfgjaaSkAid
set_option linter.unusedVariables false
set_option linter.unusedSimpArgs false
namespace Go.Proofs.Ytalaepaomnfgjaa.Sk
open Go

theorem F14.t (N : Nat) : F14.fn N () = some true := by kernel_rfl
theorem F18.v (N : Nat) (x : Int × Int) : F18.fn N x = some (if x.1 < 0 ∨ x.1 > 2 then 1 else if x.2 < 0 ∨ x.2 > 2000 then 4 else 0) := by
  rw [F18.clean]
  by_cases h1 : x.1 < 0 <;> by_cases h2 : x.1 > 2 <;> by_cases h3 : x.2 < 0 <;> by_cases h4 : x.2 > 2000 <;> simp [h1, h2, h3, h4]
theorem F17.v (N : Nat) (x : Int × Int) : F17.fn N x = some (if x.1 < 0 ∨ x.1 > 2 then 1 else if x.2 < 0 ∨ x.2 > 2000 then 4 else 0) := by
  rw [F17.clean]
  by_cases h1 : x.1 < 0 <;> by_cases h2 : x.1 > 2 <;> by_cases h3 : x.2 < 0 <;> by_cases h4 : x.2 > 2000 <;> simp [h1, h2, h3, h4]

theorem HandoverHears.pure (x0 : Int × Int) (x1 : Bool × Int) (h0 : Wf Try.prog (.pair (.int .i64) (.int .i64)) x0) (h1 : Wf Try.prog (.pair .bool (.int .i64)) x1) : F4.fn NN (x0, x1) = some true := by
  obtain ⟨a, b⟩ := x0
  obtain ⟨k, y⟩ := x1
  simp only [F4.clean, F14.t, F19.clean, F17.v, F18.v, F20.clean, F64.clean, Option.bind_some, Bool.not_true, cond_false]
  by_cases h1 : a < 0 ∨ a > 2
  · simp [h1]
  by_cases h2 : b < 0 ∨ b > 2000
  · simp [h1, h2]
  by_cases h3 : y < 1 ∨ y > 2000
  · rcases h3 with h3 | h3
    · simp [h1, h2, h3]
    · simp [h1, h2, h3]
  have h5 : ¬ y < 1 := fun h => h3 (.inl h)
  have h6 : ¬ y > 2000 := fun h => h3 (.inr h)
  simp only [h1, h2, h5, h6, if_false, decide_false, cond_false]
  rw [w_small (b + 1) (by omega) (by omega), w_small (b + 2) (by omega) (by omega), w_small (b + 1 + 1) (by omega) (by omega), w_small (y - b) (by omega) (by omega)]
  have ha : a = 0 ∨ a = 1 ∨ a = 2 := by omega
  have hy : y = b + 1 ∨ y = b + 2 ∨ y ≤ b ∨ y > b + 2 := by omega
  rcases hy with rfl | rfl | hy | hy <;> rcases ha with rfl | rfl | rfl <;> cases k <;> simp
  all_goals
    simp only [cond_eq_ite, beq_iff_eq, decide_eq_true_eq]
    repeat' (first | omega | (split <;> try simp only [Option.bind_some, beq_iff_eq, decide_eq_true_eq]))
    all_goals simp
    all_goals (first | omega | simp_all)
end Go.Proofs.Ytalaepaomnfgjaa.Sk
