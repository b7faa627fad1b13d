/- SK: strings.Split: what it answers: the shelf's contract lies here. -/
import Derived.Test.YtbjanflhagkhlaaDoorSkMac
import Derived.Test.YtbjanflhagkhlaaDoorProg
import Derived.Shelf.Strings.Split
import Derived.WalkKit
set_option linter.unusedVariables false
set_option linter.unusedSimpArgs false
namespace Go.Proofs.YtbjanflhagkhlaaDoor.Split
open Go Go.Shelf Go.RowKit Go.Proofs Go.Proofs.YtbjanflhagkhlaaDoor.Sk

def laidSplit_ren : Go.Shelf.Ren := ⟨fun | 146 => 21 | 221 => 39 | 268 => 46 | 138 => 47 | 143 => 48 | 195 => 53 | 197 => 54 | 218 => 55 | 219 => 56 | 260 => 66 | 217 => 67 | 225 => 68 | 224 => 69 | 267 => 70 | 266 => 79 | 314 => 80 | n => n, fun | 9 => 9 | 31 => 52 | 3 => 3 | 4 => 4 | 0 => 0 | 105 => 84 | 21 => 21 | 5 => 5 | 46 => 100 | 119 => 113 | 139 => 116 | 138 => 115 | 146 => 117 | 51 => 109 | n => n, fun | 1 => 2 | 3 => 6 | 4 => 7 | n => n⟩
theorem laidSplit : Go.Proofs.Lays.n146 Tryd.prog laidSplit_ren where
  mixed := by kernel_rfl
  f138 := Tryd.func47.trans (congrArg some (by kernel_rfl))
  f143 := Tryd.func48.trans (congrArg some (by kernel_rfl))
  f146 := Tryd.func21.trans (congrArg some (by kernel_rfl))
  f195 := Tryd.func53.trans (congrArg some (by kernel_rfl))
  f197 := Tryd.func54.trans (congrArg some (by kernel_rfl))
  f217 := Tryd.func67.trans (congrArg some (by kernel_rfl))
  f218 := Tryd.func55.trans (congrArg some (by kernel_rfl))
  f219 := Tryd.func56.trans (congrArg some (by kernel_rfl))
  f221 := Tryd.func39.trans (congrArg some (by kernel_rfl))
  f224 := Tryd.func69.trans (congrArg some (by kernel_rfl))
  f225 := Tryd.func68.trans (congrArg some (by kernel_rfl))
  f260 := Tryd.func66.trans (congrArg some (by kernel_rfl))
  f266 := Tryd.func79.trans (congrArg some (by kernel_rfl))
  f267 := Tryd.func70.trans (congrArg some (by kernel_rfl))
  f268 := Tryd.func46.trans (congrArg some (by kernel_rfl))
  f314 := Tryd.func80.trans (congrArg some (by kernel_rfl))
  t0 := Tryd.underlying0
  a0 := Tryd.isAgg0
  z0 := Tryd.sizeOf0
  v0 := Tryd.zeroValue0
  t3 := Tryd.underlying3
  a3 := Tryd.isAgg3
  z3 := Tryd.sizeOf3
  v3 := Tryd.zeroValue3
  t4 := Tryd.underlying4
  a4 := Tryd.isAgg4
  z4 := Tryd.sizeOf4
  v4 := Tryd.zeroValue4
  t5 := Tryd.underlying5
  a5 := Tryd.isAgg5
  z5 := Tryd.sizeOf5
  v5 := Tryd.zeroValue5
  t9 := Tryd.underlying9
  a9 := Tryd.isAgg9
  z9 := Tryd.sizeOf9
  v9 := Tryd.zeroValue9
  t21 := Tryd.underlying21
  a21 := Tryd.isAgg21
  z21 := Tryd.sizeOf21
  v21 := Tryd.zeroValue21
  t31 := Tryd.underlying52
  a31 := Tryd.isAgg52
  z31 := Tryd.sizeOf52
  v31 := Tryd.zeroValue52
  t46 := Tryd.underlying100
  a46 := Tryd.isAgg100
  z46 := Tryd.sizeOf100
  v46 := Tryd.zeroValue100
  t51 := Tryd.underlying109
  a51 := Tryd.isAgg109
  z51 := Tryd.sizeOf109
  v51 := Tryd.zeroValue109
  t105 := Tryd.underlying84
  a105 := Tryd.isAgg84
  z105 := Tryd.sizeOf84
  v105 := Tryd.zeroValue84
  t119 := Tryd.underlying113
  a119 := Tryd.isAgg113
  z119 := Tryd.sizeOf113
  t138 := Tryd.underlying115
  a138 := Tryd.isAgg115
  z138 := Tryd.sizeOf115
  v138 := Tryd.zeroValue115
  t139 := Tryd.underlying116
  a139 := Tryd.isAgg116
  z139 := Tryd.sizeOf116
  v139 := Tryd.zeroValue116
  t146 := Tryd.underlying117
  a146 := Tryd.isAgg117
  z146 := Tryd.sizeOf117
  v146 := Tryd.zeroValue117
  g1 := by kernel_rfl
  g3 := by kernel_rfl
  g4 := by kernel_rfl
def splitL (s sep : ByteArray) : List ByteArray := Lib.splitB sep 0 (Lib.countB s sep) s
def splitS (x : ByteArray × ByteArray) : Option (List ByteArray) := bif decide (x.1.size < 4294967281) && decide (1 ≤ x.2.size) then some (splitL x.1 x.2) else none
def splitSpec : PSpec := ⟨false, [.cell .str, .cell .str], [.own 9 .str], splitS⟩
theorem split_len (x : ByteArray × ByteArray) (h1 : x.1.size < 4294967281) (h2 : 1 ≤ x.2.size) : (splitL x.1 x.2).length = Lib.countB x.1 x.2 + 1 ∧ (splitL x.1 x.2).length ≤ maxLen := by
  have hlen : (splitL x.1 x.2).length = Lib.countB x.1 x.2 + 1 := Lib.splitB_all _ h2 0 _ _ rfl
  have hle := Lib.countB_le x.2 h2 _ x.1 (Nat.le_refl _)
  exact ⟨hlen, by rw [hlen]; unfold maxLen; omega⟩
theorem split_sound : Sound Tryd.prog 21 splitSpec := by
  intro B c hp w args us p r n hH hv hd hown hfn
  obtain ⟨ha, hlive⟩ := args_dec hH _ hv hd
  obtain ⟨u, us', rfl, h1, u2, rfl, h2⟩ := ha
  have e1 : u = .string p.1.x.1 := by have h1 : [u] = [Value.string p.1.x.1] := h1; simpa using h1
  have e2 : u2 = .string p.1.x.2 := by have h2 : [u2] = [Value.string p.1.x.2] := h2; simpa using h2
  subst e1; subst e2
  have hfn : splitS p.1.x = some r := hfn
  unfold splitS at hfn
  cases hb : decide (ByteArray.size (show ByteArray × ByteArray from p.1.x).1 < 4294967281) && decide (1 ≤ ByteArray.size (show ByteArray × ByteArray from p.1.x).2) with
  | false => rw [hb] at hfn; cases hfn
  | true =>
    rw [hb] at hfn
    cases hfn
    rw [Bool.and_eq_true, decide_eq_true_iff, decide_eq_true_iff] at hb
    obtain ⟨_, m, T, fz, hm⟩ := hH.gl.2 2 rfl
    have hc : w.cell? ⟨(laidSplit_ren.g 1), 0, none⟩ = some (.int .i64 m) := by
      have hg : laidSplit_ren.g 1 = 2 := rfl
      rw [hg]
      unfold World.cell?
      rw [hm]
      rfl
    obtain ⟨hlen, hmax⟩ := split_len p.1.x hb.1 hb.2
    refine (Any.strings_Split laidSplit (by kernel_rfl) p.1.x.1 p.1.x.2 m w hb.1 hc hb.2).mono fun e w' he => ?_
    obtain ⟨rfl, rfl⟩ := he
    refine ⟨_, rfl, ?_⟩
    have key := effOk_rows (n := n) (fr := true) (T := 9) (t := .str) (l := splitL p.1.x.1 p.1.x.2) (vs := ((splitL p.1.x.1 p.1.x.2).map Value.string).toArray) (cap := (splitL p.1.x.1 p.1.x.2).length) hH (by decide) (Nat.le_refl _) hmax (by simp [Ty.size]) (ks := []) (fun i x hx => ?_) (fun k hk => by cases hk)
    · rw [hlen] at key
      exact key
    · show _ = [Value.string x]
      rw [List.toList_toArray]
      have : ((splitL p.1.x.1 p.1.x.2).map Value.string)[i]? = some (.string x) := by rw [List.getElem?_map, hx]; rfl
      show (((splitL p.1.x.1 p.1.x.2).map Value.string).drop (i * 1)).take 1 = _
      rw [Nat.mul_one, List.take_one, List.head?_drop, this]
      rfl
theorem split_enters : Sk.Enters Tryd.prog 21 := ⟨Tryd.f21, Tryd.func21, by kernel_rfl, by kernel_rfl⟩
end Go.Proofs.YtbjanflhagkhlaaDoor.Split
