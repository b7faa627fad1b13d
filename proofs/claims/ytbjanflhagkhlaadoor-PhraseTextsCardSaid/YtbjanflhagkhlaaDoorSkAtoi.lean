/- SK: strconv.Atoi at a numeral: what it answers: the shelf's contract lies here. -/
import Derived.Test.YtbjanflhagkhlaaDoorSkItoa
import Derived.Shelf.Strconv.Atoi
import Derived.Lib.AtoiErrMem
set_option linter.unusedVariables false
set_option linter.unusedSimpArgs false
namespace Go.Proofs.YtbjanflhagkhlaaDoor.Atoi
open Go Go.Shelf Go.RowKit Go.Proofs Go.Proofs.YtbjanflhagkhlaaDoor.Sk

def laidAtoi_ren : Go.Shelf.Ren := ⟨fun | 172 => 40 | 244 => 49 | 245 => 50 | 247 => 57 | 279 => 58 | 280 => 59 | 281 => 60 | 282 => 61 | 287 => 71 | 316 => 72 | 171 => 36 | 205 => 73 | 321 => 81 | 322 => 82 | 243 => 44 | 246 => 51 | 283 => 62 | 284 => 63 | 285 => 64 | 286 => 65 | 129 => 75 | 317 => 74 | 318 => 76 | 319 => 77 | 320 => 78 | 337 => 83 | 338 => 84 | n => n, fun | 9 => 9 | 3 => 3 | 75 => 74 | 76 => 75 | 4 => 4 | 5 => 5 | 167 => 87 | 37 => 79 | 0 => 0 | 85 => 88 | 2 => 2 | 168 => 90 | 53 => 94 | 175 => 101 | 46 => 100 | 210 => 105 | 127 => 120 | 145 => 123 | 143 => 121 | 21 => 21 | 171 => 93 | 173 => 97 | 212 => 108 | 51 => 109 | 20 => 20 | 213 => 110 | 232 => 125 | 233 => 126 | 80 => 127 | n => n, fun | 15 => 3 | 16 => 4 | 17 => 5 | 18 => 8 | 19 => 9 | n => n⟩
theorem laidAtoi : Go.Proofs.Lays.n172 Tryd.prog laidAtoi_ren where
  mixed := by kernel_rfl
  f129 := Tryd.func75.trans (congrArg some (by kernel_rfl))
  f171 := Tryd.func36.trans (congrArg some (by kernel_rfl))
  f172 := Tryd.func40.trans (congrArg some (by kernel_rfl))
  f205 := Tryd.func73.trans (congrArg some (by kernel_rfl))
  f243 := Tryd.func44.trans (congrArg some (by kernel_rfl))
  f244 := Tryd.func49.trans (congrArg some (by kernel_rfl))
  f245 := Tryd.func50.trans (congrArg some (by kernel_rfl))
  f246 := Tryd.func51.trans (congrArg some (by kernel_rfl))
  f247 := Tryd.func57.trans (congrArg some (by kernel_rfl))
  f279 := Tryd.func58.trans (congrArg some (by kernel_rfl))
  f280 := Tryd.func59.trans (congrArg some (by kernel_rfl))
  f281 := Tryd.func60.trans (congrArg some (by kernel_rfl))
  f282 := Tryd.func61.trans (congrArg some (by kernel_rfl))
  f283 := Tryd.func62.trans (congrArg some (by kernel_rfl))
  f284 := Tryd.func63.trans (congrArg some (by kernel_rfl))
  f285 := Tryd.func64.trans (congrArg some (by kernel_rfl))
  f286 := Tryd.func65.trans (congrArg some (by kernel_rfl))
  f287 := Tryd.func71.trans (congrArg some (by kernel_rfl))
  f316 := Tryd.func72.trans (congrArg some (by kernel_rfl))
  f317 := Tryd.func74.trans (congrArg some (by kernel_rfl))
  f318 := Tryd.func76.trans (congrArg some (by kernel_rfl))
  f319 := Tryd.func77.trans (congrArg some (by kernel_rfl))
  f320 := Tryd.func78.trans (congrArg some (by kernel_rfl))
  f321 := Tryd.func81.trans (congrArg some (by kernel_rfl))
  f322 := Tryd.func82.trans (congrArg some (by kernel_rfl))
  f337 := Tryd.func83.trans (congrArg some (by kernel_rfl))
  f338 := Tryd.func84.trans (congrArg some (by kernel_rfl))
  t0 := Tryd.underlying0
  a0 := Tryd.isAgg0
  z0 := Tryd.sizeOf0
  v0 := Tryd.zeroValue0
  t2 := Tryd.underlying2
  a2 := Tryd.isAgg2
  z2 := Tryd.sizeOf2
  v2 := Tryd.zeroValue2
  t3 := Tryd.underlying3
  a3 := Tryd.isAgg3
  z3 := Tryd.sizeOf3
  v3 := Tryd.zeroValue3
  t4 := Tryd.underlying4
  a4 := Tryd.isAgg4
  z4 := Tryd.sizeOf4
  v4 := Tryd.zeroValue4
  t5 := Tryd.underlying5
  a5 := Tryd.isAgg5
  z5 := Tryd.sizeOf5
  v5 := Tryd.zeroValue5
  t9 := Tryd.underlying9
  a9 := Tryd.isAgg9
  z9 := Tryd.sizeOf9
  v9 := Tryd.zeroValue9
  t20 := Tryd.underlying20
  a20 := Tryd.isAgg20
  z20 := Tryd.sizeOf20
  v20 := Tryd.zeroValue20
  t21 := Tryd.underlying21
  a21 := Tryd.isAgg21
  z21 := Tryd.sizeOf21
  v21 := Tryd.zeroValue21
  t37 := Tryd.underlying79
  a37 := Tryd.isAgg79
  z37 := Tryd.sizeOf79
  v37 := Tryd.zeroValue79
  t46 := Tryd.underlying100
  a46 := Tryd.isAgg100
  z46 := Tryd.sizeOf100
  v46 := Tryd.zeroValue100
  t51 := Tryd.underlying109
  a51 := Tryd.isAgg109
  z51 := Tryd.sizeOf109
  v51 := Tryd.zeroValue109
  t53 := Tryd.underlying94
  a53 := Tryd.isAgg94
  z53 := Tryd.sizeOf94
  v53 := Tryd.zeroValue94
  t75 := Tryd.underlying74
  a75 := Tryd.isAgg74
  z75 := Tryd.sizeOf74
  v75 := Tryd.zeroValue74
  t76 := Tryd.underlying75
  a76 := Tryd.isAgg75
  z76 := Tryd.sizeOf75
  v76 := Tryd.zeroValue75
  t85 := Tryd.underlying88
  a85 := Tryd.isAgg88
  z85 := Tryd.sizeOf88
  v85 := Tryd.zeroValue88
  t127 := Tryd.underlying120
  a127 := Tryd.isAgg120
  z127 := Tryd.sizeOf120
  v127 := Tryd.zeroValue120
  t143 := Tryd.underlying121
  a143 := Tryd.isAgg121
  z143 := Tryd.sizeOf121
  v143 := Tryd.zeroValue121
  t145 := Tryd.underlying123
  a145 := Tryd.isAgg123
  z145 := Tryd.sizeOf123
  v145 := Tryd.zeroValue123
  t167 := Tryd.underlying87
  a167 := Tryd.isAgg87
  z167 := Tryd.sizeOf87
  v167 := Tryd.zeroValue87
  t168 := Tryd.underlying90
  a168 := Tryd.isAgg90
  z168 := Tryd.sizeOf90
  v168 := Tryd.zeroValue90
  t171 := Tryd.underlying93
  a171 := Tryd.isAgg93
  z171 := Tryd.sizeOf93
  v171 := Tryd.zeroValue93
  t173 := Tryd.underlying97
  a173 := Tryd.isAgg97
  z173 := Tryd.sizeOf97
  v173 := Tryd.zeroValue97
  t175 := Tryd.underlying101
  a175 := Tryd.isAgg101
  z175 := Tryd.sizeOf101
  v175 := Tryd.zeroValue101
  t210 := Tryd.underlying105
  a210 := Tryd.isAgg105
  z210 := Tryd.sizeOf105
  v210 := Tryd.zeroValue105
  t212 := Tryd.underlying108
  a212 := Tryd.isAgg108
  z212 := Tryd.sizeOf108
  v212 := Tryd.zeroValue108
  t213 := Tryd.underlying110
  a213 := Tryd.isAgg110
  z213 := Tryd.sizeOf110
  t232 := Tryd.underlying125
  a232 := Tryd.isAgg125
  z232 := Tryd.sizeOf125
  v232 := Tryd.zeroValue125
  t233 := Tryd.underlying126
  a233 := Tryd.isAgg126
  z233 := Tryd.sizeOf126
  v233 := Tryd.zeroValue126
  g15 := by kernel_rfl
  g16 := by kernel_rfl
  g17 := by kernel_rfl
  g18 := by kernel_rfl
  g19 := by kernel_rfl
def atoiM : List AV → Nat → Rd Eff
  | [.sc (.string s)], _ => .chk (decide (s.size ≤ 18) && (Lib.atoi s.data.toList).isSome) (.ret ⟨.tup [.sc (.int .i64 ((Lib.atoi s.data.toList).getD 0)), .sc .nilIface], [], []⟩)
  | _, _ => .fail
theorem atoi_sound : MacOk Tryd.prog 40 atoiM := by
  intro B c hp w args us ef log n hH hv hrun
  unfold atoiM at hrun
  split at hrun
  · rename_i s
    obtain ⟨hc, hrun⟩ := Rd.chk_some hrun
    rw [Bool.and_eq_true, decide_eq_true_iff] at hc
    obtain ⟨z, hz⟩ := Option.isSome_iff_exists.1 hc.2
    rw [hz] at hrun
    obtain ⟨u, rfl, hu⟩ : ∃ u, us = [u] ∧ u = .string s := by
      match us, hv.length, hv with
      | [u], _, hv => exact ⟨u, rfl, hv.1⟩
    subst hu
    refine (Any.strconv_Atoi laidAtoi s z hc.1 hz w).mono fun e w' he => ?_
    obtain ⟨rfl, t, rfl⟩ := he
    have hb := Lib.bytesWorld_below w (laidAtoi_ren.t 5) t
    refine ⟨_, rfl, ?_⟩
    have hrun : some ((⟨.tup [.sc (.int .i64 z), .sc .nilIface], [], []⟩ : Eff), ([] : List Nat)) = some (ef, log) := hrun
    cases hrun
    exact Itoa.effOk_grow hH hb.block hb.size hb.os hb.tape ⟨hb.output, Nat.le_succ _⟩ ⟨_, rfl, rfl, rfl, trivial⟩
  · cases hrun
theorem atoi_enters : Sk.Enters Tryd.prog 40 := ⟨Tryd.f40, Tryd.func40, by kernel_rfl, by kernel_rfl⟩
end Go.Proofs.YtbjanflhagkhlaaDoor.Atoi
