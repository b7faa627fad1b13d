/- SK: strconv.Itoa: what it answers: the shelf's contract lies here. -/
import Derived.Test.YtbjanflhagkhlaaDoorSkMac
import Derived.Test.YtbjanflhagkhlaaDoorProg
import Derived.Shelf.Strconv.Itoa3
import Derived.WalkKit
set_option linter.unusedVariables false
set_option linter.unusedSimpArgs false
namespace Go.Proofs.YtbjanflhagkhlaaDoor.Itoa
open Go Go.Shelf Go.RowKit Go.Proofs Go.Proofs.YtbjanflhagkhlaaDoor.Sk

def laidItoa_ren : Go.Shelf.Ren := ⟨fun | 171 => 36 | 243 => 44 | 246 => 51 | 283 => 62 | 284 => 63 | 285 => 64 | 286 => 65 | 129 => 75 | 317 => 74 | 318 => 76 | 319 => 77 | 320 => 78 | 337 => 83 | 338 => 84 | n => n, fun | 3 => 3 | 9 => 9 | 2 => 2 | 4 => 4 | 171 => 93 | 0 => 0 | 53 => 94 | 37 => 79 | 5 => 5 | 173 => 97 | 212 => 108 | 51 => 109 | 20 => 20 | 213 => 110 | 46 => 100 | 232 => 125 | 233 => 126 | n => n, fun | 17 => 5 | 18 => 8 | 19 => 9 | n => n⟩
theorem laidItoa : Go.Proofs.LaysM.n171 Tryd.prog laidItoa_ren where
  mixed := by kernel_rfl
  f129 := Tryd.func75.trans (congrArg some (by kernel_rfl))
  f171 := Tryd.func36.trans (congrArg some (by kernel_rfl))
  f243 := Tryd.func44.trans (congrArg some (by kernel_rfl))
  f246 := Tryd.func51.trans (congrArg some (by kernel_rfl))
  f283 := Tryd.func62.trans (congrArg some (by kernel_rfl))
  f284 := Tryd.func63.trans (congrArg some (by kernel_rfl))
  f285 := Tryd.func64.trans (congrArg some (by kernel_rfl))
  f286 := Tryd.func65.trans (congrArg some (by kernel_rfl))
  f317 := Tryd.func74.trans (congrArg some (by kernel_rfl))
  f318 := Tryd.func76.trans (congrArg some (by kernel_rfl))
  f319 := Tryd.func77.trans (congrArg some (by kernel_rfl))
  f320 := Tryd.func78.trans (congrArg some (by kernel_rfl))
  f337 := Tryd.func83.trans (congrArg some (by kernel_rfl))
  f338 := Tryd.func84.trans (congrArg some (by kernel_rfl))
  t0 := Tryd.underlying0
  a0 := Tryd.isAgg0
  z0 := Tryd.sizeOf0
  v0 := Tryd.zeroValue0
  t2 := Tryd.underlying2
  a2 := Tryd.isAgg2
  z2 := Tryd.sizeOf2
  v2 := Tryd.zeroValue2
  t3 := Tryd.underlying3
  a3 := Tryd.isAgg3
  z3 := Tryd.sizeOf3
  v3 := Tryd.zeroValue3
  t4 := Tryd.underlying4
  a4 := Tryd.isAgg4
  z4 := Tryd.sizeOf4
  v4 := Tryd.zeroValue4
  t5 := Tryd.underlying5
  a5 := Tryd.isAgg5
  z5 := Tryd.sizeOf5
  v5 := Tryd.zeroValue5
  t9 := Tryd.underlying9
  a9 := Tryd.isAgg9
  z9 := Tryd.sizeOf9
  v9 := Tryd.zeroValue9
  t20 := Tryd.underlying20
  a20 := Tryd.isAgg20
  z20 := Tryd.sizeOf20
  v20 := Tryd.zeroValue20
  t37 := Tryd.underlying79
  a37 := Tryd.isAgg79
  z37 := Tryd.sizeOf79
  v37 := Tryd.zeroValue79
  t46 := Tryd.underlying100
  a46 := Tryd.isAgg100
  z46 := Tryd.sizeOf100
  v46 := Tryd.zeroValue100
  t51 := Tryd.underlying109
  a51 := Tryd.isAgg109
  z51 := Tryd.sizeOf109
  v51 := Tryd.zeroValue109
  t53 := Tryd.underlying94
  a53 := Tryd.isAgg94
  z53 := Tryd.sizeOf94
  v53 := Tryd.zeroValue94
  t171 := Tryd.underlying93
  a171 := Tryd.isAgg93
  z171 := Tryd.sizeOf93
  v171 := Tryd.zeroValue93
  t173 := Tryd.underlying97
  a173 := Tryd.isAgg97
  z173 := Tryd.sizeOf97
  v173 := Tryd.zeroValue97
  t212 := Tryd.underlying108
  a212 := Tryd.isAgg108
  z212 := Tryd.sizeOf108
  v212 := Tryd.zeroValue108
  t213 := Tryd.underlying110
  a213 := Tryd.isAgg110
  z213 := Tryd.sizeOf110
  t232 := Tryd.underlying125
  a232 := Tryd.isAgg125
  z232 := Tryd.sizeOf125
  v232 := Tryd.zeroValue125
  t233 := Tryd.underlying126
  a233 := Tryd.isAgg126
  z233 := Tryd.sizeOf126
  v233 := Tryd.zeroValue126
  g17 := by kernel_rfl
  g18 := by kernel_rfl
  g19 := by kernel_rfl
  i0 := by kernel_rfl
  i2 := by kernel_rfl
  i3 := by kernel_rfl
  i4 := by kernel_rfl
  i5 := by kernel_rfl
  i9 := by kernel_rfl
  i20 := by kernel_rfl
  i37 := by kernel_rfl
  i46 := by kernel_rfl
  i51 := by kernel_rfl
  i53 := by kernel_rfl
  i171 := by kernel_rfl
  i173 := by kernel_rfl
  i212 := by kernel_rfl
  i232 := by kernel_rfl
  i233 := by kernel_rfl
  m17 := by kernel_rfl
  m18 := by kernel_rfl
  m19 := by kernel_rfl
/-- The world grew: nothing else. -/
theorem effOk_grow {B : Nat → Prop} {c : Cx} {hp : List ABlk} {w w' : World} (h : HRel B c hp w) (hk : ∀ b, b < w.heap.size → w'.heap[b]? = w.heap[b]?) (hsz : w.heap.size ≤ w'.heap.size) (hos : w'.os = w.os) (htp : w'.tape = w.tape) (hou : OutOk w w')
    {n : Nat} {v : AV} {u : Value} (hv : VRel B c hp w v u) : EffOk B c hp w n ⟨v, [], []⟩ u w' := by
  intro hp' hu
  obtain ⟨h1, h2⟩ := hu.plain
  have he : Evo All c hp w c hp' w' := ⟨fun _ _ h => h, fun _ _ _ => rfl, fun _ h => h, fun b hb => hk b (h.lt b hb), hsz, fun b vs T fz hw => ⟨vs, by
    have hlt : b < w.heap.size := by
      rcases Nat.lt_or_ge b w.heap.size with h' | h'
      · exact h'
      · rw [Array.getElem?_eq_none h'] at hw; cases hw
    rw [hk b hlt]; exact hw, rfl⟩, fun id _ _ => BlkLe.of_eq (h2 id), hos, htp, hou⟩
  refine ⟨c, ⟨fun b hb => h.bs b (Nat.le_trans hsz hb), fun b hb => Nat.lt_of_lt_of_le (h.lt b hb) hsz, fun id hd => Nat.lt_of_lt_of_le (h.dl id hd) h1, fun id hd => h.ld id (by rw [← h2]; exact hd), fun id => ?_,
    fun id id' b a1 a2 => h.inj id id' b (by rw [← h2]; exact a1) (by rw [← h2]; exact a2), fun id b a1 a2 => ?_, h.gl.keep he.F he.keep⟩, he, hv.evo he, fun _ h => .inl h⟩
  · rw [h2]
    by_cases hd : lookIn hp id = .dead
    · rw [hd]; trivial
    · exact (h.blk id).evo he rfl fun b hs => hk b (h.nf id b hd hs).2.1
  · have := h.nf id b (by rw [← h2]; exact a1) a2
    exact ⟨this.1, Nat.lt_of_lt_of_le this.2.1 hsz, this.2.2⟩
theorem drewN_heap (w : World) : ∀ k, (w.drewN k).heap = w.heap ∧ (w.drewN k).os = w.os ∧ (w.drewN k).tape = w.tape ∧ (w.drewN k).output = w.output ∧ w.drawn ≤ (w.drewN k).drawn :=
  fun k => ⟨rfl, rfl, rfl, rfl, Nat.le_add_right _ _⟩
def itoaS (x : Int) : Option ByteArray := bif decide (-9223372036854775808 ≤ x) && decide (x ≤ 9223372036854775807) then some ⟨(Lib.itoa x).toArray⟩ else none
def itoaSpec : PSpec := ⟨false, [.cell (.int .i64)], [.val (.cell .str)], itoaS⟩
theorem pow_is {B : Nat → Prop} {c : Cx} {hp : List ABlk} {w : World} (h : HRel B c hp w) : Lib.TabIs Tryd.prog w "internal/strconv.uint64pow10" .u64 Lib.pow10Tab := by
  obtain ⟨_, cs, T, fz, h1, h2, h3, h4⟩ := h.gl.1 5 (.vec 20 .u64) _ rfl
  have hs : cs.toList.take (Ty.size (.vec 20 .u64)) = cs.toList := List.take_of_length_le (by rw [Array.length_toList, h2]; exact Nat.le_refl _)
  rw [hs] at h4
  unfold Lib.TabIs World.var?
  rw [show Tryd.prog.globalNamed "internal/strconv.uint64pow10" = some 5 by kernel_rfl]
  simp only [Option.bind_some, h1]
  congr 1
  rw [← Array.toArray_toList (xs := cs), h4]
  rfl
theorem itoa_sound : Sound Tryd.prog 36 itoaSpec := by
  intro B c hp w args us p r n hH hv hd hown hfn
  obtain ⟨ha, hlive⟩ := args_dec hH _ hv hd
  obtain ⟨u, rfl, ha⟩ := ha
  have hu : u = .int .i64 p.1.x := by
    have ha : [u] = [Value.int .i64 p.1.x] := ha
    simpa using ha
  subst hu
  have hfn : itoaS p.1.x = some r := hfn
  unfold itoaS at hfn
  cases hb : decide (-9223372036854775808 ≤ (show Int from p.1.x)) && decide ((show Int from p.1.x) ≤ 9223372036854775807) with
  | false => rw [hb] at hfn; cases hfn
  | true =>
    rw [hb] at hfn
    cases hfn
    rw [Bool.and_eq_true, decide_eq_true_iff, decide_eq_true_iff] at hb
    refine (Any.strconv_Itoa laidItoa p.1.x hb.1 hb.2 w (pow_is hH)).mono fun e w' he => ?_
    obtain ⟨rfl, k, os, rfl⟩ := he
    obtain ⟨d1, d2, d3, d4, d5⟩ := drewN_heap w k
    refine ⟨_, rfl, effOk_grow (w' := Go.Sort.grow (w.drewN k) os) (v := .sc (.string ⟨(Lib.itoa p.1.x).toArray⟩)) hH (fun b hb => ?_) ?_ d2 d3 ⟨d4, d5⟩ rfl⟩
    · show ((w.drewN k).heap ++ os)[b]? = _
      rw [d1, Array.getElem?_append_left hb]
    · show w.heap.size ≤ ((w.drewN k).heap ++ os).size
      rw [d1, Array.size_append]
      omega
theorem itoa_enters : Sk.Enters Tryd.prog 36 := ⟨Tryd.f36, Tryd.func36, by kernel_rfl, by kernel_rfl⟩
end Go.Proofs.YtbjanflhagkhlaaDoor.Itoa
