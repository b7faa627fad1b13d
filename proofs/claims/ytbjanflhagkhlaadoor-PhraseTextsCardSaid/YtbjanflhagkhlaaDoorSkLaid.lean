/- SK: what the rows list of the package variables, as the interpreter wants it. -/
import Derived.Test.YtbjanflhagkhlaaDoorSkAid
import Derived.Test.YtbjanflhagkhlaaDoorRows
import Derived.OpenShut
import Derived.LaidMore
import Derived.Stop.Joined
import Derived.MakeChecks
import Derived.LaidSub
import Derived.LaidHandle
import Derived.Shelf.Vars
import Derived.Lay
import Derived.LaidOnce
set_option linter.unusedVariables false
set_option maxRecDepth 100000
namespace Go.Proofs.YtbjanflhagkhlaaDoor.Sk
open Go Go.RowKit

section
variable {P : Program} {w : World} {H : Type} {enc : TypeId × Value → H} {held : Bool}
theorem laid_cells {t e : TypeId} {n fuel : Nat} {cs : List Value} {ds : List (DataW H)} {p : List MemPlace} (ht : P.underlying t = some (.array n e)) (hc : P.cellsOf e = 1) (hn : P.cellsOf t = n) (g : DataW H → Value)
    (hg : ∀ (m : Nat) (ls : List Value) (x : DataW H × List MemPlace), DataW.trod enc P w 0 (fun _ => true) held m e ls = some x → ls = [g x.1])
    (h : DataW.trod enc P w 0 (fun _ => true) held fuel t cs = some (.agg ds, p)) : cs = ds.map g := by
  obtain ⟨xs, m, _, hx, hl, hxl, hf⟩ := DataW.trod_array ht h
  simp only [Prod.mk.injEq, DataW.agg.injEq] at hx
  obtain ⟨hx, _⟩ := hx
  rw [hn] at hl
  rw [hx]
  apply List.ext_getElem
  · simp [hl, hxl]
  · intro i h1 h2
    have hi : i < n := by omega
    have := hf i hi
    rw [hc, Nat.mul_one, List.getElem?_eq_getElem (by omega)] at this
    have := congrArg (·[0]?) (hg _ _ _ this)
    simp at this
    rw [List.getElem?_eq_getElem (by omega)] at this
    simpa using Option.some.inj this
def strV {H : Type} : DataW H → Value
  | .lit (.string s) => .string ⟨s.toArray⟩
  | _ => .nilFunc
def intVk {H : Type} (k : IntKind) : DataW H → Value
  | .lit (.int _ n) => .int k n
  | _ => .nilFunc
theorem trod_strV {e : TypeId} (he : P.underlying e = some .string) (m : Nat) (ls : List Value) (x : DataW H × List MemPlace) (h : DataW.trod enc P w 0 (fun _ => true) held m e ls = some x) : ls = [strV x.1] := by
  obtain ⟨s, rfl, rfl, _⟩ := DataW.trod_string he h
  simp [strV]
theorem trod_intV {e : TypeId} {k : IntKind} (he : P.underlying e = some (.int k)) (m : Nat) (ls : List Value) (x : DataW H × List MemPlace) (h : DataW.trod enc P w 0 (fun _ => true) held m e ls = some x) : ls = [intVk k x.1] := by
  obtain ⟨z, rfl, rfl, _⟩ := DataW.trod_int he h
  simp [intVk]
def fltV {H : Type} : DataW H → Value
  | .lit (.float k b) => .float k b
  | _ => .nilFunc
theorem trod_fltV {e : TypeId} (he : P.underlying e = some (.float .f64)) (m : Nat) (ls : List Value) (x : DataW H × List MemPlace) (h : DataW.trod enc P w 0 (fun _ => true) held m e ls = some x) : ls = [fltV x.1] := by
  cases m with
  | zero => simp [DataW.trod] at h
  | succ n =>
    unfold DataW.trod at h
    rw [he] at h
    split at h <;> simp_all
    obtain ⟨_, rfl⟩ := h
    rfl
end

theorem gWords : Tryd.prog.globalNamed "skyway/phrase.words" = some 1 := by kernel_rfl
theorem gMost : Tryd.prog.globalNamed "skyway/phrase.most" = some 0 := by kernel_rfl
theorem gPow : Tryd.prog.globalNamed "internal/strconv.uint64pow10" = some 5 := by kernel_rfl
theorem tWords : (Tryd.prog.globals[1]?).map (·.type) = some 70 := by kernel_rfl
theorem tMost : (Tryd.prog.globals[0]?).map (·.type) = some 51 := by kernel_rfl
theorem tPow : (Tryd.prog.globals[5]?).map (·.type) = some 108 := by kernel_rfl
theorem var_heap {P : Program} {w : World} {n : String} {g : Nat} {cs : Array Value} (hg : P.globalNamed n = some g) (h : w.var? P n = some cs) : ∃ T fz, w.heap[g]? = some (.cells cs T fz) := by
  simp only [World.var?, hg, Option.bind_some] at h
  split at h
  · rename_i c T fz e; cases h; exact ⟨T, fz, e⟩
  · cases h
def laidKeep (x : String × DataW Unit) : Bool := x.1 == "internal/strconv.uint64pow10" || x.1 == "skyway/phrase.words" || x.1 == "skyway/phrase.most"
theorem globs_of {W : World} (hS : W.ShapedOpen Tryd.prog) (h : laidMetH Tryd.prog [("math/bits.deBruijn32tab", Rows.laid_math_bits_deBruijn32tab), ("math/bits.deBruijn64tab", Rows.laid_math_bits_deBruijn64tab), ("internal/strconv.uint64pow10", Rows.laid_internal_strconv_uint64pow10), ("unicode/utf8.acceptRanges", Rows.laid_unicode_utf8_acceptRanges), ("strconv.ErrRange", Rows.laid_strconv_ErrRange), ("strconv.ErrSyntax", Rows.laid_strconv_ErrSyntax), ("skyway/phrase.words", Rows.laid_skyway_phrase_words), ("skyway/phrase.most", Rows.laid_skyway_phrase_most), ("unicode/utf8.first", Rows.laid_unicode_utf8_first)] W) : GlobsAt (fun b => b < W.heap.size) W := by
  have h := h.filter laidKeep
  have ef : ([("math/bits.deBruijn32tab", Rows.laid_math_bits_deBruijn32tab), ("math/bits.deBruijn64tab", Rows.laid_math_bits_deBruijn64tab), ("internal/strconv.uint64pow10", Rows.laid_internal_strconv_uint64pow10), ("unicode/utf8.acceptRanges", Rows.laid_unicode_utf8_acceptRanges), ("strconv.ErrRange", Rows.laid_strconv_ErrRange), ("strconv.ErrSyntax", Rows.laid_strconv_ErrSyntax), ("skyway/phrase.words", Rows.laid_skyway_phrase_words), ("skyway/phrase.most", Rows.laid_skyway_phrase_most), ("unicode/utf8.first", Rows.laid_unicode_utf8_first)] : List (String × DataW Unit)).filter laidKeep = [("internal/strconv.uint64pow10", Rows.laid_internal_strconv_uint64pow10), ("skyway/phrase.words", Rows.laid_skyway_phrase_words), ("skyway/phrase.most", Rows.laid_skyway_phrase_most)] := by kernel_rfl
  rw [ef] at h
  rw [MakeChecks.laidMetH_plain _ _ _ (by kernel_rfl)] at h
  obtain ⟨ps, ⟨g5, t5, cs5, f5, p5, q5, hg5, ht5, hv5, hd5, ⟨g0, t0, cs0, f0, p0, q0, hg0, ht0, hv0, hd0, ⟨g1, t1, cs1, f1, p1, q1, hg1, ht1, hv1, hd1, _, _⟩, _⟩, _⟩, _⟩ := h
  obtain rfl := Option.some.inj (gWords.symm.trans hg0)
  obtain rfl := Option.some.inj (gMost.symm.trans hg1)
  obtain rfl := Option.some.inj (gPow.symm.trans hg5)
  obtain rfl := Option.some.inj (tPow.symm.trans ht5)
  obtain rfl := Option.some.inj (tWords.symm.trans ht0)
  obtain rfl := Option.some.inj (tMost.symm.trans ht1)
  have hlt : ∀ {g : Nat} {o : Obj}, W.heap[g]? = some o → g < W.heap.size := fun {g o} h => by
    rcases Nat.lt_or_ge g W.heap.size with h' | h'
    · exact h'
    · rw [Array.getElem?_eq_none h'] at h; cases h
  refine ⟨fun g t x hg => ?_, fun g hg => ?_⟩
  · match g, hg with
    | 0, hg =>
      obtain ⟨T, fz, hh⟩ := var_heap gMost hv1
      have hc := laid_cells (ds := [.lit (.int .i64 60000), .lit (.int .i64 4095), .lit (.int .i64 400)]) (show Tryd.prog.underlying 51 = some (.array 3 3) by kernel_rfl) (by kernel_rfl) (by kernel_rfl) (intVk .i64) (fun m ls x => trod_intV (by kernel_rfl) m ls x) hd1
      cases hg
      refine ⟨hlt hh, cs1, T, fz, hh, ?_, ?_⟩
      · rw [← Array.length_toList, hc]; decide
      · rw [hc]; exact ⟨rfl, rfl⟩
    | 1, hg =>
      obtain ⟨T, fz, hh⟩ := var_heap gWords hv0
      have hc := laid_cells (ds := [.lit (.string [72, 69, 73, 71, 72, 84]), .lit (.string [72, 69, 65, 68, 73, 78, 71]), .lit (.string [83, 80, 69, 69, 68]), .lit (.string [68, 73, 82, 69, 67, 84]), .lit (.string [72, 79, 76, 68]), .lit (.string [67, 79, 78, 84, 65, 67, 84]), .lit (.string [76, 65, 78, 68])]) (show Tryd.prog.underlying 70 = some (.array 7 9) by kernel_rfl) (by kernel_rfl) (by kernel_rfl) strV (fun m ls x => trod_strV (by kernel_rfl) m ls x) hd0
      cases hg
      refine ⟨hlt hh, cs0, T, fz, hh, ?_, ?_⟩
      · rw [← Array.length_toList, hc]; decide
      · rw [hc]
        exact ⟨[_], _, rfl, rfl, [_], _, rfl, rfl, [_], _, rfl, rfl, [_], _, rfl, rfl, [_], _, rfl, rfl, [_], _, rfl, rfl, rfl⟩
    | 2, hg => cases hg
    | 3, hg => cases hg
    | 4, hg => cases hg
    | 5, hg =>
      obtain ⟨T, fz, hh⟩ := var_heap gPow hv5
      have hc := laid_cells (ds := [.lit (.int .u64 1), .lit (.int .u64 10), .lit (.int .u64 100), .lit (.int .u64 1000), .lit (.int .u64 10000), .lit (.int .u64 100000), .lit (.int .u64 1000000), .lit (.int .u64 10000000), .lit (.int .u64 100000000), .lit (.int .u64 1000000000), .lit (.int .u64 10000000000), .lit (.int .u64 100000000000), .lit (.int .u64 1000000000000), .lit (.int .u64 10000000000000), .lit (.int .u64 100000000000000), .lit (.int .u64 1000000000000000), .lit (.int .u64 10000000000000000), .lit (.int .u64 100000000000000000), .lit (.int .u64 1000000000000000000), .lit (.int .u64 10000000000000000000)]) (show Tryd.prog.underlying 108 = some (.array 20 94) by kernel_rfl) (by kernel_rfl) (by kernel_rfl) (intVk .u64) (fun m ls x => trod_intV (by kernel_rfl) m ls x) hd5
      cases hg
      refine ⟨hlt hh, cs5, T, fz, hh, ?_, ?_⟩
      · rw [← Array.length_toList, hc]; decide
      · rw [hc]; exact ⟨rfl, rfl⟩
    | n + 6, hg => cases hg
  · have hg2 : g = 2 := by
      match g, hg with
      | 0, hg => cases hg
      | 1, hg => cases hg
      | 2, hg => rfl
      | n + 3, hg => cases hg
    subst hg2
    obtain ⟨cs, hh, hs, hr⟩ := hS.1 2 #[.int .i64 0] 3 (of_decide_eq_true (by kernel_rfl)) (by kernel_rfl)
    obtain ⟨ts, hts, _, hall⟩ := hr (by kernel_rfl)
    have hc : Tryd.prog.cellTypes Tryd.prog.depth 3 = some [3] := by kernel_rfl
    rw [hc] at hts
    cases hts
    have h1 : cs.size = 1 := hs
    obtain ⟨u, hu', hok⟩ := hall 0 cs[0] (by simp [h1])
    have hu : u = 3 := by simpa using hu'.symm
    subst hu
    unfold Cell.ok at hok
    rw [Tryd.underlying3] at hok
    have hcs : cs = #[cs[0]] := by
      apply Array.ext
      · simp [h1]
      · intro i a1 a2
        have : i = 0 := by omega
        subst this
        rfl
    have hg : 2 < W.heap.size := hlt hh
    cases hv : cs[0] <;> rw [hv] at hok <;> simp at hok
    case int k' n =>
      refine ⟨hg, n, 3, (0, 0), ?_⟩
      rw [hh, hcs, hv, hok.1]
/-- A heap with the listed variables meets the condition. -/
theorem door_met (os : Os) (args : Array Value) : laidMetH Tryd.prog [("math/bits.deBruijn32tab", Rows.laid_math_bits_deBruijn32tab), ("math/bits.deBruijn64tab", Rows.laid_math_bits_deBruijn64tab), ("internal/strconv.uint64pow10", Rows.laid_internal_strconv_uint64pow10), ("unicode/utf8.acceptRanges", Rows.laid_unicode_utf8_acceptRanges), ("strconv.ErrRange", Rows.laid_strconv_ErrRange), ("strconv.ErrSyntax", Rows.laid_strconv_ErrSyntax), ("skyway/phrase.words", Rows.laid_skyway_phrase_words), ("skyway/phrase.most", Rows.laid_skyway_phrase_most), ("unicode/utf8.first", Rows.laid_unicode_utf8_first)] ((World.laidAll Tryd.prog os [("math/bits.deBruijn32tab", Rows.laid_math_bits_deBruijn32tab), ("math/bits.deBruijn64tab", Rows.laid_math_bits_deBruijn64tab), ("internal/strconv.uint64pow10", Rows.laid_internal_strconv_uint64pow10), ("unicode/utf8.acceptRanges", Rows.laid_unicode_utf8_acceptRanges), ("strconv.ErrRange", Rows.laid_strconv_ErrRange), ("strconv.ErrSyntax", Rows.laid_strconv_ErrSyntax), ("skyway/phrase.words", Rows.laid_skyway_phrase_words), ("skyway/phrase.most", Rows.laid_skyway_phrase_most), ("unicode/utf8.first", Rows.laid_unicode_utf8_first)]).forCall (fun _ _ => 0) ⟨#[], args, []⟩).memory := by
  rw [MakeChecks.laidMetH_plain _ _ _ (by kernel_rfl)]
  exact laidMet_laidAll _ (by kernel_rfl) (by kernel_rfl)
end Go.Proofs.YtbjanflhagkhlaaDoor.Sk
