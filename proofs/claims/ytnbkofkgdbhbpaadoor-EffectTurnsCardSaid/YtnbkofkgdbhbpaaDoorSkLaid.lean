/- SK: what the rows list of the package variables, as the interpreter wants it. -/
import Derived.Test.YtnbkofkgdbhbpaaDoorSkAid
import Derived.Test.YtnbkofkgdbhbpaaDoorRows
import Derived.OpenShut
import Derived.LaidMore
import Derived.Stop.Joined
import Derived.MakeChecks
set_option linter.unusedVariables false
namespace Go.Proofs.YtnbkofkgdbhbpaaDoor.Sk
open Go Go.RowKit

section
variable {P : Program} {w : World} {H : Type} {enc : TypeId × Value → H} {held : Bool}
theorem laid_cells {t e : TypeId} {n fuel : Nat} {cs : List Value} {ds : List (DataW H)} {p : List MemPlace} (ht : P.underlying t = some (.array n e)) (hc : P.cellsOf e = 1) (hn : P.cellsOf t = n) (g : DataW H → Value)
    (hg : ∀ (m : Nat) (ls : List Value) (x : DataW H × List MemPlace), DataW.trod enc P w 0 (fun _ => true) held m e ls = some x → ls = [g x.1])
    (h : DataW.trod enc P w 0 (fun _ => true) held fuel t cs = some (.agg ds, p)) : cs = ds.map g := by
  obtain ⟨xs, m, _, hx, hl, hxl, hf⟩ := DataW.trod_array ht h
  simp only [Prod.mk.injEq, DataW.agg.injEq] at hx
  obtain ⟨hx, _⟩ := hx
  rw [hn] at hl
  rw [hx]
  apply List.ext_getElem
  · simp [hl, hxl]
  · intro i h1 h2
    have hi : i < n := by omega
    have := hf i hi
    rw [hc, Nat.mul_one, List.getElem?_eq_getElem (by omega)] at this
    have := congrArg (·[0]?) (hg _ _ _ this)
    simp at this
    rw [List.getElem?_eq_getElem (by omega)] at this
    simpa using Option.some.inj this
def strV {H : Type} : DataW H → Value
  | .lit (.string s) => .string ⟨s.toArray⟩
  | _ => .nilFunc
def intVk {H : Type} (k : IntKind) : DataW H → Value
  | .lit (.int _ n) => .int k n
  | _ => .nilFunc
theorem trod_strV {e : TypeId} (he : P.underlying e = some .string) (m : Nat) (ls : List Value) (x : DataW H × List MemPlace) (h : DataW.trod enc P w 0 (fun _ => true) held m e ls = some x) : ls = [strV x.1] := by
  obtain ⟨s, rfl, rfl, _⟩ := DataW.trod_string he h
  simp [strV]
theorem trod_intV {e : TypeId} {k : IntKind} (he : P.underlying e = some (.int k)) (m : Nat) (ls : List Value) (x : DataW H × List MemPlace) (h : DataW.trod enc P w 0 (fun _ => true) held m e ls = some x) : ls = [intVk k x.1] := by
  obtain ⟨z, rfl, rfl, _⟩ := DataW.trod_int he h
  simp [intVk]
def fltV {H : Type} : DataW H → Value
  | .lit (.float k b) => .float k b
  | _ => .nilFunc
theorem trod_fltV {e : TypeId} (he : P.underlying e = some (.float .f64)) (m : Nat) (ls : List Value) (x : DataW H × List MemPlace) (h : DataW.trod enc P w 0 (fun _ => true) held m e ls = some x) : ls = [fltV x.1] := by
  cases m with
  | zero => simp [DataW.trod] at h
  | succ n =>
    unfold DataW.trod at h
    rw [he] at h
    split at h <;> simp_all
    obtain ⟨_, rfl⟩ := h
    rfl
end

theorem gWords : Tryd.prog.globalNamed "skyway/phrase.words" = some 1 := by kernel_rfl
theorem gMost : Tryd.prog.globalNamed "skyway/phrase.most" = some 0 := by kernel_rfl
theorem gSin : Tryd.prog.globalNamed "math._sin" = some 4 := by kernel_rfl
theorem gCos : Tryd.prog.globalNamed "math._cos" = some 3 := by kernel_rfl
theorem tSin : (Tryd.prog.globals[4]?).map (·.type) = some 100 := by kernel_rfl
theorem tCos : (Tryd.prog.globals[3]?).map (·.type) = some 100 := by kernel_rfl
theorem tWords : (Tryd.prog.globals[1]?).map (·.type) = some 85 := by kernel_rfl
theorem tMost : (Tryd.prog.globals[0]?).map (·.type) = some 59 := by kernel_rfl
theorem var_heap {P : Program} {w : World} {n : String} {g : Nat} {cs : Array Value} (hg : P.globalNamed n = some g) (h : w.var? P n = some cs) : ∃ T fz, w.heap[g]? = some (.cells cs T fz) := by
  simp only [World.var?, hg, Option.bind_some] at h
  split at h
  · rename_i c T fz e; cases h; exact ⟨T, fz, e⟩
  · cases h
theorem globs_of {W : World} (h : laidMetH Tryd.prog [("math._sin", Rows.laid_math_sin), ("math._cos", Rows.laid_math_cos), ("math.mPi4", Rows.laid_math_mPi4), ("skyway/phrase.words", Rows.laid_skyway_phrase_words), ("skyway/phrase.most", Rows.laid_skyway_phrase_most)] W) : GlobsAt (fun b => b < W.heap.size) W := by
  rw [MakeChecks.laidMetH_plain _ _ _ (by kernel_rfl)] at h
  obtain ⟨ps, ⟨g4, t4, cs4, f4, p4, q4, hg4, ht4, hv4, hd4, ⟨g3, t3, cs3, f3, p3, q3, hg3, ht3, hv3, hd3, ⟨_, _, _, _, _, _, _, _, _, _, ⟨g0, t0, cs0, f0, p0, q0, hg0, ht0, hv0, hd0, ⟨g1, t1, cs1, f1, p1, q1, hg1, ht1, hv1, hd1, _, _⟩, _⟩, _⟩, _⟩, _⟩, _, _⟩ := h
  obtain rfl := Option.some.inj (gWords.symm.trans hg0)
  obtain rfl := Option.some.inj (gMost.symm.trans hg1)
  obtain rfl := Option.some.inj (gSin.symm.trans hg4)
  obtain rfl := Option.some.inj (gCos.symm.trans hg3)
  obtain rfl := Option.some.inj (tSin.symm.trans ht4)
  obtain rfl := Option.some.inj (tCos.symm.trans ht3)
  obtain rfl := Option.some.inj (tWords.symm.trans ht0)
  obtain rfl := Option.some.inj (tMost.symm.trans ht1)
  have hlt : ∀ {g : Nat} {o : Obj}, W.heap[g]? = some o → g < W.heap.size := fun {g o} h => by
    rcases Nat.lt_or_ge g W.heap.size with h' | h'
    · exact h'
    · rw [Array.getElem?_eq_none h'] at h; cases h
  intro g t x hg
  match g, hg with
  | 0, hg =>
    obtain ⟨T, fz, hh⟩ := var_heap gMost hv1
    have hc := laid_cells (ds := [.lit (.int .i64 60000), .lit (.int .i64 4095), .lit (.int .i64 400)]) (show Tryd.prog.underlying 59 = some (.array 3 3) by kernel_rfl) (by kernel_rfl) (by kernel_rfl) (intVk .i64) (fun m ls x => trod_intV (by kernel_rfl) m ls x) hd1
    cases hg
    refine ⟨hlt hh, cs1, T, fz, hh, ?_, ?_⟩
    · rw [← Array.length_toList, hc]; decide
    · rw [hc]; exact ⟨rfl, rfl⟩
  | 1, hg =>
    obtain ⟨T, fz, hh⟩ := var_heap gWords hv0
    have hc := laid_cells (ds := [.lit (.string [72, 69, 73, 71, 72, 84]), .lit (.string [72, 69, 65, 68, 73, 78, 71]), .lit (.string [83, 80, 69, 69, 68]), .lit (.string [68, 73, 82, 69, 67, 84]), .lit (.string [72, 79, 76, 68]), .lit (.string [67, 79, 78, 84, 65, 67, 84]), .lit (.string [76, 65, 78, 68])]) (show Tryd.prog.underlying 85 = some (.array 7 9) by kernel_rfl) (by kernel_rfl) (by kernel_rfl) strV (fun m ls x => trod_strV (by kernel_rfl) m ls x) hd0
    cases hg
    refine ⟨hlt hh, cs0, T, fz, hh, ?_, ?_⟩
    · rw [← Array.length_toList, hc]; decide
    · rw [hc]
      exact ⟨[_], _, rfl, rfl, [_], _, rfl, rfl, [_], _, rfl, rfl, [_], _, rfl, rfl, [_], _, rfl, rfl, [_], _, rfl, rfl, rfl⟩
  | 2, hg => cases hg
  | 3, hg =>
    obtain ⟨T, fz, hh⟩ := var_heap gCos hv3
    have hc := laid_cells (ds := [.lit (.float .f64 13666448263388469915), .lit (.float .f64 4477121864728985349), .lit (.float .f64 13732177093698800582), .lit (.float .f64 4537941361668146421), .lit (.float .f64 13787419979223748497), .lit (.float .f64 4586165620538955083)]) (show Tryd.prog.underlying 100 = some (.array 6 83) by kernel_rfl) (by kernel_rfl) (by kernel_rfl) fltV (fun m ls x => trod_fltV (by kernel_rfl) m ls x) hd3
    cases hg
    refine ⟨hlt hh, cs3, T, fz, hh, ?_, ?_⟩
    · rw [← Array.length_toList, hc]; decide
    · rw [hc]
      exact ⟨[_], _, rfl, rfl, [_], _, rfl, rfl, [_], _, rfl, rfl, [_], _, rfl, rfl, [_], _, rfl, rfl, rfl⟩
  | 4, hg =>
    obtain ⟨T, fz, hh⟩ := var_heap gSin hv4
    have hc := laid_cells (ds := [.lit (.float .f64 4460209587652500685), .lit (.float .f64 13716528389658582877), .lit (.float .f64 4523617212962785441), .lit (.float .f64 13774824197404483331), .lit (.float .f64 4575957461383575504), .lit (.float .f64 13818544856648471880)]) (show Tryd.prog.underlying 100 = some (.array 6 83) by kernel_rfl) (by kernel_rfl) (by kernel_rfl) fltV (fun m ls x => trod_fltV (by kernel_rfl) m ls x) hd4
    cases hg
    refine ⟨hlt hh, cs4, T, fz, hh, ?_, ?_⟩
    · rw [← Array.length_toList, hc]; decide
    · rw [hc]
      exact ⟨[_], _, rfl, rfl, [_], _, rfl, rfl, [_], _, rfl, rfl, [_], _, rfl, rfl, [_], _, rfl, rfl, rfl⟩
  | n + 5, hg => cases hg
/-- The door's own heap meets the condition. -/
theorem door_met (os : Os) (args : Array Value) : laidMetH Tryd.prog [("math._sin", Rows.laid_math_sin), ("math._cos", Rows.laid_math_cos), ("math.mPi4", Rows.laid_math_mPi4), ("skyway/phrase.words", Rows.laid_skyway_phrase_words), ("skyway/phrase.most", Rows.laid_skyway_phrase_most)] ((World.doorLaid Tryd.prog 400 os).forCall (fun _ _ => 0) ⟨#[], args, []⟩).memory :=
  laidMetH_of_parts3 (fuel := 8) (laidMet_of_run' 8 (by kernel_rfl) (by kernel_rfl)) (by kernel_rfl) (by kernel_rfl)
end Go.Proofs.YtnbkofkgdbhbpaaDoor.Sk
