/- SK: internal/bytealg.CompareString: what it answers. -/
import Derived.Test.YtcmcacophbbagaaSkMac
import Derived.Test.YtcmcacophbbagaaProg
import Derived.WalkKit
import Derived.Lib.Bytealg
import Derived.Laws.Externs
set_option linter.unusedVariables false
set_option linter.unusedSimpArgs false
namespace Go.Proofs.Ytcmcacophbbagaa.Sk
open Go Go.RowKit

def cmpS (a b : ByteArray) : Int := cond (slt a b) (-1) (cond (seq a b) 0 1)
theorem compareBytes_eq : ∀ (a b : List UInt8), Lib.compareBytes a b = cond (Op.bytesLess a b) (-1) (cond (a == b) 0 1)
  | [], [] => rfl
  | [], _ :: _ => rfl
  | _ :: _, [] => rfl
  | x :: a, y :: b => by
    have ih := compareBytes_eq a b
    unfold Lib.compareBytes Op.bytesLess
    by_cases h : x < y
    · simp [h]
    · by_cases h2 : y < x
      · have hne : (x == y) = false := by rw [beq_eq_false_iff_ne]; intro e; subst e; exact absurd h2 (UInt8.lt_irrefl x)
        simp [h, h2, hne]
      · have he : x = y := UInt8.le_antisymm (UInt8.not_lt.1 h2) (UInt8.not_lt.1 h)
        subst he
        simp [h, ih]
theorem cmp_calls (a b : ByteArray) (w : World) : Calls Try.prog 39 #[.string a, .string b] w fun e w' => e = .returned (.int .i64 (cmpS a b)) ∧ w' = w := by
  have h : (callFunc 41 #[.string a, .string b]).run Try.prog w = .ok (.value (.int .i64 (cmpS a b))) w := by
    rw [run_callFunc_extern Try.func41 (by kernel_rfl) (by kernel_rfl) (by kernel_rfl) (e := Extern.BytealgCompare.compare) (by kernel_rfl), Lib.run_compareString]
    show Result.ok (Next.value (Value.int .i64 (Lib.compareBytes a.data.toList b.data.toList))) w = _
    rw [compareBytes_eq]
    rfl
  generalize cmpS a b = r at h ⊢
  go_enter Try.func39, Try.ntmps39
  go_wp2
  go_ret
  exact ⟨rfl, rfl⟩
def cmpSpec : PSpec := ⟨false, [.cell .str, .cell .str], [.val (.cell (.int .i64))], fun x => some (cmpS x.1 x.2)⟩
theorem cmp_sound : Sound Try.prog 39 cmpSpec := by
  intro B c hp w args us p r n hH hv hd hown hfn
  obtain ⟨ha, hlive⟩ := args_dec hH _ hv hd
  obtain ⟨u, us', rfl, ⟨_, h1⟩, u2, rfl, ⟨_, h2⟩⟩ := ha
  cases hfn
  refine (cmp_calls p.1.x.1 p.1.x.2 w).mono fun e w' he => ?_
  obtain ⟨rfl, rfl⟩ := he
  exact ⟨_, rfl, effOk_val hH rfl⟩
theorem cmp_enters : Enters Try.prog 39 := ⟨Try.f39, Try.func39, by kernel_rfl, by kernel_rfl⟩
end Go.Proofs.Ytcmcacophbbagaa.Sk
