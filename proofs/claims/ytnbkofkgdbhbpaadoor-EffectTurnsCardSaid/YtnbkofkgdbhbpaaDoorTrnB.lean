/- EffectTurns: the sine of all angles. -/
import Derived.Test.YtnbkofkgdbhbpaaDoorTrnA
set_option linter.unusedVariables false
set_option maxRecDepth 100000
namespace Go.Proofs.YtnbkofkgdbhbpaaDoor.Sk
open Go
noncomputable def sinAll (n : Nat) : Nat → Bool := Nat.rec (motive := fun _ => Nat → Bool) (fun _ => true) (fun _ ih i => frc i fun i => (sinAN (Int.ofNat i)).isSome && ih (Nat.succ i)) n
theorem sinAll_v : ∀ (n i : Nat), sinAll n i = true → ∀ j, i ≤ j → j < i + n → ∃ u, sinA (j : Int) = some u := by
  intro n
  induction n with
  | zero => intro i _ j h1 h2; omega
  | succ n ih =>
    intro i h j h1 h2
    have h : frc i (fun i => (sinAN (Int.ofNat i)).isSome && sinAll n (Nat.succ i)) = true := h
    rw [frc_eq, Bool.and_eq_true] at h
    by_cases e : j = i
    · subst e
      obtain ⟨u, hu⟩ := Option.isSome_iff_exists.1 h.1
      exact ⟨u, sinA_N hu⟩
    · exact ih (Nat.succ i) h.2 j (by omega) (by omega)
theorem sinT0 : sinAll 512 0 = true := by kernel_rfl
theorem sinT1 : sinAll 512 512 = true := by kernel_rfl
theorem sinT2 : sinAll 512 1024 = true := by kernel_rfl
theorem sinT3 : sinAll 512 1536 = true := by kernel_rfl
theorem sinT4 : sinAll 512 2048 = true := by kernel_rfl
theorem sinT5 : sinAll 512 2560 = true := by kernel_rfl
theorem sinT6 : sinAll 512 3072 = true := by kernel_rfl
theorem sinT7 : sinAll 512 3584 = true := by kernel_rfl
theorem sinA_ex (j : Nat) (h : j < 4096) : ∃ u, sinA (j : Int) = some u := by
  by_cases h1 : j < 512
  · exact sinAll_v 512 0 sinT0 j (by omega) (by omega)
  by_cases h2 : j < 1024
  · exact sinAll_v 512 512 sinT1 j (by omega) (by omega)
  by_cases h3 : j < 1536
  · exact sinAll_v 512 1024 sinT2 j (by omega) (by omega)
  by_cases h4 : j < 2048
  · exact sinAll_v 512 1536 sinT3 j (by omega) (by omega)
  by_cases h5 : j < 2560
  · exact sinAll_v 512 2048 sinT4 j (by omega) (by omega)
  by_cases h6 : j < 3072
  · exact sinAll_v 512 2560 sinT5 j (by omega) (by omega)
  by_cases h7 : j < 3584
  · exact sinAll_v 512 3072 sinT6 j (by omega) (by omega)
  · exact sinAll_v 512 3584 sinT7 j (by omega) (by omega)
end Go.Proofs.YtnbkofkgdbhbpaaDoor.Sk
