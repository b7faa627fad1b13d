/- SK: the integer part of a float's square root, within bounds. -/
import GoSem.Core.Float
import Derived.Laws.FloatBits
set_option linter.unusedVariables false
namespace Go.Proofs.YtnbkofkgdbhbpaaDoor.Sk.Flo
open Ieee

theorem cut0 (n : Nat) : Toward.even.cut false n 0 = n := by
  unfold Toward.cut
  simp [Nat.mod_one]
theorem cutE (n d : Nat) (hd : d ≤ n.log2 + 2) : n / 2 ^ d ≤ Toward.even.cut false n d ∧ Toward.even.cut false n d ≤ n / 2 ^ d + 1 := by
  unfold Toward.cut
  rw [Nat.min_eq_left hd, Nat.one_shiftLeft]
  dsimp only
  constructor
  · exact Nat.le_add_right _ _
  · exact Nat.add_le_add_left (Bool.toNat_le _) _
theorem read_rung (q m : Nat) (hm : m < 4503599627370496) (h1 : 1 ≤ q) (h2 : q < 2047) : double.read (q * 4503599627370496 + m) = .number false (4503599627370496 + m) (-1074 + ((q - 1 : Nat) : Int)) := by
  have e1 : double.signWeight = 9223372036854775808 := by decide
  have e2 : double.binade = 4503599627370496 := by decide
  have e3 : double.infRung = 2047 * 4503599627370496 := by decide
  have e4 : double.leastPlace = -1074 := by decide
  have a1 : (q * 4503599627370496 + m) / 9223372036854775808 % 2 = 0 := by omega
  have a2 : (q * 4503599627370496 + m) % 9223372036854775808 = q * 4503599627370496 + m := by omega
  have a3 : (q * 4503599627370496 + m) % 4503599627370496 = m := by omega
  have a4 : (q * 4503599627370496 + m) / 4503599627370496 = q := by omega
  unfold Format.read
  rw [e1, e2, e3, e4, a1, a2]
  dsimp only
  rw [if_neg (by omega), if_pos (by omega), a3, a4]
  rfl
theorem kept_b (mag : Nat) (place : Int) (hm : mag ≠ 0) : 4503599627370496 ≤ Toward.even.cut false (mag <<< (place - (place + mag.log2 - 52)).toNat) ((place + mag.log2 - 52) - place).toNat ∧ Toward.even.cut false (mag <<< (place - (place + mag.log2 - 52)).toNat) ((place + mag.log2 - 52) - place).toNat ≤ 9007199254740992 := by
  have hlo : 2 ^ mag.log2 ≤ mag := Nat.log2_self_le hm
  have hhi : mag < 2 ^ (mag.log2 + 1) := Nat.lt_log2_self
  generalize mag.log2 = L at hlo hhi
  rcases Nat.le_total L 52 with hL | hL
  · have t1 : (place - (place + (L : Int) - 52)).toNat = 52 - L := by omega
    have t2 : ((place + (L : Int) - 52) - place).toNat = 0 := by omega
    have p1 : 2 ^ L * 2 ^ (52 - L) = 4503599627370496 := by rw [← Nat.pow_add, show L + (52 - L) = 52 by omega]
    have p2 : 2 ^ (L + 1) * 2 ^ (52 - L) = 9007199254740992 := by rw [← Nat.pow_add, show L + 1 + (52 - L) = 53 by omega]
    have q1 := Nat.mul_le_mul_right (2 ^ (52 - L)) hlo
    have q2 := Nat.mul_le_mul_right (2 ^ (52 - L)) (Nat.le_of_lt hhi)
    rw [t1, t2, cut0, Nat.shiftLeft_eq]
    omega
  · have t1 : (place - (place + (L : Int) - 52)).toNat = 0 := by omega
    have t2 : ((place + (L : Int) - 52) - place).toNat = L - 52 := by omega
    have hlog : L ≤ mag.log2 := (Nat.le_log2 hm).2 hlo
    have hc := cutE mag (L - 52) (by omega)
    have p1 : 2 ^ 52 * 2 ^ (L - 52) = 2 ^ L := by rw [← Nat.pow_add, show 52 + (L - 52) = L by omega]
    have p2 : 2 ^ 53 * 2 ^ (L - 52) = 2 ^ (L + 1) := by rw [← Nat.pow_add, show 53 + (L - 52) = L + 1 by omega]
    have d1 : 2 ^ 52 ≤ mag / 2 ^ (L - 52) := (Nat.le_div_iff_mul_le (Nat.two_pow_pos _)).2 (by rw [p1]; exact hlo)
    have d2 : mag / 2 ^ (L - 52) < 2 ^ 53 := (Nat.div_lt_iff_lt_mul (Nat.two_pow_pos _)).2 (by rw [p2]; exact hhi)
    rw [t1, t2, Nat.shiftLeft_zero]
    omega
theorem nearest_eq (f : Format) (mag : Nat) (place : Int) (hm : mag ≠ 0) (C R : Nat) (l : Int) (e2 : f.binade = C) (e3 : f.infRung = R) (e4 : f.leastPlace = -1074) (e5 : f.fractionBits = 52) (hl : max (place + (mag.log2 : Int) - 52) (-1074) = l) :
    f.nearest false mag place = min ((l - -1074).toNat * C + Toward.even.cut false (mag <<< (place - l).toNat) (l - place).toNat) R := by
  unfold Format.nearest
  rw [if_neg hm, e2, e3, e4, e5]
  dsimp only
  rw [show (((52 : Nat) : Int)) = 52 from rfl, hl]
  rfl
theorem nearest_ok (mag : Nat) (place : Int) (hm : mag ≠ 0) (h0 : -1000 ≤ place + mag.log2) (h1 : place + mag.log2 ≤ 1000) :
    ∃ (m : Nat) (p : Int), 4503599627370496 ≤ m ∧ m < 9007199254740992 ∧ double.read (double.nearest false mag place) = .number false m p ∧ (p = place + mag.log2 - 52 ∨ p = place + mag.log2 - 51) := by
  have hn := nearest_eq double mag place hm 4503599627370496 (2047 * 4503599627370496) (place + mag.log2 - 52) (by decide) (by decide) (by decide) rfl (by omega)
  have hk := kept_b mag place hm
  generalize Toward.even.cut false (mag <<< (place - (place + mag.log2 - 52)).toNat) ((place + mag.log2 - 52) - place).toNat = kept at hn hk
  obtain ⟨q, hq⟩ : ∃ q : Nat, place + mag.log2 - 52 = (q : Int) - 1074 := ⟨(place + mag.log2 - 52 + 1074).toNat, by omega⟩
  have hq2 : (place + (mag.log2 : Int) - 52 - -1074).toNat = q := by omega
  have hqb : q ≤ 2022 := by omega
  rw [hq2, Nat.min_eq_left (by omega)] at hn
  rw [hn]
  by_cases hc : kept = 9007199254740992
  · have h := read_rung (q + 2) 0 (by omega) (by omega) (by omega)
    have e : q * 4503599627370496 + kept = (q + 2) * 4503599627370496 + 0 := by omega
    refine ⟨4503599627370496 + 0, -1074 + ((q + 2 - 1 : Nat) : Int), by omega, by omega, ?_, .inr (by omega)⟩
    rw [e]
    exact h
  · have h := read_rung (q + 1) (kept - 4503599627370496) (by omega) (by omega) (by omega)
    have e : q * 4503599627370496 + kept = (q + 1) * 4503599627370496 + (kept - 4503599627370496) := by omega
    refine ⟨4503599627370496 + (kept - 4503599627370496), -1074 + ((q + 1 - 1 : Nat) : Int), by omega, by omega, ?_, .inl (by omega)⟩
    rw [e]
    exact h
theorem rootFrom_b (n : Nat) : ∀ (t r : Nat), r ≤ Datum.rootFrom n t r ∧ Datum.rootFrom n t r < r + 2 ^ t
  | 0, r => ⟨Nat.le_refl _, Nat.lt_succ_self _⟩
  | t + 1, r => by
    show r ≤ Datum.rootFrom n t (if (r + 1 <<< t) * (r + 1 <<< t) ≤ n then r + 1 <<< t else r) ∧ _
    rw [Nat.one_shiftLeft]
    have hp := Nat.two_pow_pos t
    have e : 2 ^ (t + 1) = 2 ^ t + 2 ^ t := by rw [Nat.pow_succ]; omega
    show r ≤ _ ∧ Datum.rootFrom n t (if (r + 1 <<< t) * (r + 1 <<< t) ≤ n then r + 1 <<< t else r) < _
    rw [Nat.one_shiftLeft, e]
    split
    · have := rootFrom_b n t (r + 2 ^ t); omega
    · have := rootFrom_b n t r; omega
theorem log2_eq {n k : Nat} (h1 : 2 ^ k ≤ n) (h2 : n < 2 ^ (k + 1)) : n.log2 = k := by
  have hn : n ≠ 0 := by have := Nat.two_pow_pos k; omega
  have a := (Nat.le_log2 hn).2 h1
  have b := (Nat.log2_lt hn).2 h2
  omega
theorem root_ok (m : Nat) (i : Int) (h1 : 4503599627370496 ≤ m) (h2 : m < 9007199254740992) :
    ∃ (mag : Nat) (more : Nat), Datum.root 54 (.number false m i) = some (.number false mag ((i - more) / 2 - 1)) ∧ 36028797018963968 ≤ mag ∧ mag < 72057594037927936 ∧ (more = 56 ∨ more = 57) ∧ (i - more) % 2 = 0 := by
  have hl : m.log2 = 52 := log2_eq (k := 52) (by omega) (by omega)
  obtain ⟨more, hmore, hp⟩ : ∃ more : Nat, more = 56 + ((i - ((56 : Nat) : Int)) % 2).toNat ∧ (more = 56 ∨ more = 57) ∧ (i - more) % 2 = 0 := by
    refine ⟨_, rfl, ?_⟩
    omega
  have hn1 : 2 ^ 108 ≤ m <<< more := by
    rw [Nat.shiftLeft_eq]
    rcases hp.1 with e | e <;> rw [e] <;> omega
  have hn2 : m <<< more < 2 ^ 110 := by
    rw [Nat.shiftLeft_eq]
    rcases hp.1 with e | e <;> rw [e] <;> omega
  have hlog : (m <<< more).log2 / 2 = 54 := by
    have hn : m <<< more ≠ 0 := by omega
    have a := (Nat.le_log2 hn).2 hn1
    have b := (Nat.log2_lt hn).2 hn2
    omega
  have hroot : 2 ^ 54 ≤ Datum.rootFrom (m <<< more) 55 0 ∧ Datum.rootFrom (m <<< more) 55 0 < 2 ^ 55 := by
    constructor
    · have h3 : (0 + 1 <<< 54) * (0 + 1 <<< 54) ≤ m <<< more := by rw [Nat.one_shiftLeft]; omega
      have h4 : Datum.rootFrom (m <<< more) 55 0 = Datum.rootFrom (m <<< more) 54 (0 + 1 <<< 54) := congrArg (Datum.rootFrom (m <<< more) 54) (if_pos h3)
      have h5 := (rootFrom_b (m <<< more) 54 (0 + 1 <<< 54)).1
      rw [← h4, Nat.one_shiftLeft] at h5
      omega
    · have := (rootFrom_b (m <<< more) 55 0).2
      omega
  refine ⟨2 * Datum.rootFrom (m <<< more) 55 0 + (Datum.rootFrom (m <<< more) 55 0 * Datum.rootFrom (m <<< more) 55 0 != m <<< more).toNat, more, ?_, ?_, ?_, hp⟩
  · show (if m = 0 then some (Datum.number false m i) else some (Datum.number false (2 * Datum.rootFrom (m <<< (2 * 54 - m.log2 + ((i - ((2 * 54 - m.log2 : Nat) : Int)) % 2).toNat)) ((m <<< (2 * 54 - m.log2 + ((i - ((2 * 54 - m.log2 : Nat) : Int)) % 2).toNat)).log2 / 2 + 1) 0 + (Datum.rootFrom (m <<< (2 * 54 - m.log2 + ((i - ((2 * 54 - m.log2 : Nat) : Int)) % 2).toNat)) ((m <<< (2 * 54 - m.log2 + ((i - ((2 * 54 - m.log2 : Nat) : Int)) % 2).toNat)).log2 / 2 + 1) 0 * Datum.rootFrom (m <<< (2 * 54 - m.log2 + ((i - ((2 * 54 - m.log2 : Nat) : Int)) % 2).toNat)) ((m <<< (2 * 54 - m.log2 + ((i - ((2 * 54 - m.log2 : Nat) : Int)) % 2).toNat)).log2 / 2 + 1) 0 != m <<< (2 * 54 - m.log2 + ((i - ((2 * 54 - m.log2 : Nat) : Int)) % 2).toNat)).toNat) ((i - (2 * 54 - m.log2 + ((i - ((2 * 54 - m.log2 : Nat) : Int)) % 2).toNat : Nat)) / 2 - 1))) = _
    have e : 2 * 54 - m.log2 + ((i - ((2 * 54 - m.log2 : Nat) : Int)) % 2).toNat = more := by rw [hl, hmore]
    rw [if_neg (by omega), e, hlog]
  · omega
  · have := Bool.toNat_le (Datum.rootFrom (m <<< more) 55 0 * Datum.rootFrom (m <<< more) 55 0 != m <<< more)
    omega
theorem sqrt_ok (n : Int) (h1 : 1 ≤ n) (h2 : n < 9223372036854775808) : ∃ (b : Nat) (r : Int), FloatKind.f64.format.sqrt (FloatKind.f64.nearest n) = some b ∧ (FloatKind.f64.decode b).toInt .zero = some r ∧ 1 ≤ r ∧ r ≤ 8589934592 := by
  obtain ⟨k, rfl⟩ : ∃ k : Nat, n = (k : Int) := ⟨n.toNat, by omega⟩
  have hk : k ≠ 0 := by omega
  have hlo : 2 ^ k.log2 ≤ k := Nat.log2_self_le hk
  have hL : k.log2 < 63 := (Nat.log2_lt hk).2 (by omega)
  obtain ⟨m, p, m1, m2, hr, hp⟩ := nearest_ok k 0 hk (by omega) (by omega)
  have e1 : FloatKind.f64.nearest (k : Int) = double.nearest false k 0 := by
    show double.write (.number (decide ((k : Int) < 0)) (k : Int).natAbs 0) = _
    rw [decide_eq_false (by omega)]
    rfl
  obtain ⟨mag, more, hrt, g1, g2, hm, hev⟩ := root_ok m p m1 m2
  have hml : mag.log2 = 55 := log2_eq (k := 55) (by omega) (by omega)
  obtain ⟨m', p', n1, n2, hr2, hp2⟩ := nearest_ok mag ((p - more) / 2 - 1) (by omega) (by omega) (by omega)
  have hml' : m'.log2 = 52 := log2_eq (k := 52) (by omega) (by omega)
  rw [hml] at hp2
  have hd : ∃ d : Nat, (-p').toNat = d ∧ 20 ≤ d ∧ d ≤ 52 := ⟨_, rfl, by omega, by omega⟩
  obtain ⟨d, hd0, hd1, hd2⟩ := hd
  have hp0 : p'.toNat = 0 := by omega
  refine ⟨double.nearest false mag ((p - more) / 2 - 1), ((m' / 2 ^ d : Nat) : Int), ?_, ?_, ?_, ?_⟩
  · rw [e1]
    show ((double.read (double.nearest false k 0)).root 54).map double.write = _
    rw [hr, hrt]
    rfl
  · show (double.read (double.nearest false mag ((p - more) / 2 - 1))).toInt .zero = _
    rw [hr2]
    show some (signed false (Toward.zero.cut false (m' <<< p'.toNat) (-p').toNat) 0) = _
    rw [hp0, hd0, Nat.shiftLeft_zero]
    unfold Toward.cut
    rw [hml', Nat.min_eq_left (by omega), Nat.one_shiftLeft]
    show some ((((m' / 2 ^ d + 0) <<< 0 : Nat) : Int)) = _
    rw [Nat.shiftLeft_zero, Nat.add_zero]
  · have : 1 ≤ m' / 2 ^ d := (Nat.le_div_iff_mul_le (Nat.two_pow_pos _)).2 (by
      have : 2 ^ d ≤ 2 ^ 52 := Nat.pow_le_pow_right (by omega) hd2
      omega)
    omega
  · have : m' / 2 ^ d ≤ 8589934592 := Nat.div_le_of_le_mul (by
      have : 2 ^ 20 ≤ 2 ^ d := Nat.pow_le_pow_right (by omega) hd1
      have := Nat.mul_le_mul_right 8589934592 this
      omega)
    omega
end Go.Proofs.YtnbkofkgdbhbpaaDoor.Sk.Flo
