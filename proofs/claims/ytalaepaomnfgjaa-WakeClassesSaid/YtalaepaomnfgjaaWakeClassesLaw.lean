/- The law WakeClasses holds of the given program, for every input; no further condition. -/
import Derived.Test.YtalaepaomnfgjaaWakePure
import Derived.ProofKit
set_option linter.unusedVariables false
namespace Go.Proofs.Ytalaepaomnfgjaa.Sk.WakeClasses
open Go Go.ChangeShapes Go.WideShapes Go.ChangeAt Go.RowKit
theorem own : ownKnob Try.prog.godebug = none := by kernel_rfl
theorem laidOut : laidOutB Try.prog = true := by kernel_rfl
set_option maxRecDepth 100000 in
theorem lifted (os : Os) (started : os.Started) (H : Type) (enc : TypeId × Value → H) :
    ReturnsInHanded {} Try.checked os 7 .any (Rows.wakeClassesSpec.pre6 enc Try.prog Try.f7 Rows.wakeClassesRow.domain false) (Rows.wakeClassesSpec.post enc Try.prog Try.f7 false true false false) :=
  row_lifted (C := Try.checked) own started (by kernel_rfl) Try.func7
    (ChangeSpec.witness6 (enc := enc) (C := Try.checked) false ⟨#[], #[.agg #[.int .i64 0, .int .i64 0, .int .i64 0, .int .i64 0, .int .i64 0, .int .i64 0, .int .i64 0, .int .i64 0, .int .i64 0, .int .i64 0, .int .i64 0, .int .i64 0, .int .i64 0, .int .i64 0, .int .i64 0, .int .i64 0], .int .i64 0, .int .i64 0], []⟩ 8 (by kernel_rfl) (by kernel_rfl) (by kernel_rfl) (by kernel_rfl))
    rfl (rt := 4) rfl (by kernel_rfl) (arg := [.agg (.vec 16 .i64), .cell (.int .i64), .cell (.int .i64)])
    (fun ds h => by match ds, h with | [d0, d1, d2], _ => rfl) (by kernel_rfl) laidOut (specs_tab (F7.tab NN)) (inls_tab (F7.tab NN)) mixed (d := 3) (fun xs h => WakeClasses.pure xs.1 xs.2.1 xs.2.2 h.1 h.2.1 h.2.2)
theorem over : Rows.wakeClassesRow.holds Try.pinned (OpenSpec.ofChange Rows.wakeClassesSpec) :=
  OpenClaim.holds_of_wide 7 Try.f7 rfl rfl rfl rfl rfl rfl rfl ⟨rfl, rfl, rfl, rfl, rfl⟩ rfl rfl rfl rfl rfl (by kernel_rfl) Try.func7 (by kernel_rfl)
    (of_decide_eq_true (by kernel_rfl)) (by unfold Func.isWrapper; first | (rw [if_pos (by decide +kernel)]; kernel_rfl) | (rw [if_neg (by decide +kernel)]; exact ⟨rfl, rfl⟩))
    (fun os started H enc _ => lifted os started H enc)
theorem proved : Rows.WakeClassesSaid := over
#print axioms proved
end Go.Proofs.Ytalaepaomnfgjaa.Sk.WakeClasses
