/- Shares of whole numbers that are not great: the word of a quotient. Plain numbers, no program. -/
import Derived.Test.YtapjajclmbpjmaaGreatDoorRound
import Derived.Test.YtapjajclmbpjmaaGreatDoorFloat
import Derived.Laws.FloatArith
namespace Go.Proofs.YtapjajclmbpjmaaGreatDoor.Rnd
open Ieee Go.Proofs.YtapjajclmbpjmaaGreatDoor.Dbl

/-- The word of a sign and a rung. -/
def wd (s : Bool) (r : Nat) : Nat := if s then 9223372036854775808 + r else r
theorem word_eq (s : Bool) (r : Nat) : double.word s r = wd s r := by unfold Format.word wd; rw [signWeight_eq]

theorem cut_zero (s : Bool) (m : Nat) : Toward.even.cut s m 0 = m := by
  unfold Toward.cut
  simp [Nat.mod_one]

theorem near_scale {c p q k : Nat} (hc : 0 < c) (h : Near (c * p) (c * q) k) : Near p q k := by
  have e1 : 2 * k * (c * q) = c * (2 * k * q) := by ac_rfl
  have e2 : 2 * (c * p) = c * (2 * p) := by ac_rfl
  have e3 : c * (2 * p) + c * q = c * (2 * p + q) := by rw [Nat.mul_add]
  have e4 : c * (2 * k * q) + c * q = c * (2 * k * q + q) := by rw [Nat.mul_add]
  obtain ⟨h1, h2, h3, h4⟩ := h
  rw [e1, e2, e3] at h1 h3
  rw [e1, e2, e4] at h2 h4
  exact ⟨Nat.le_of_mul_le_mul_left h1 hc, Nat.le_of_mul_le_mul_left h2 hc, fun h => h3 (by rw [h]), fun h => h4 (by rw [h])⟩

theorem bool_toNat_ne (r : Nat) : (r != 0).toNat = if r = 0 then 0 else 1 := by
  by_cases h : r = 0
  · subst h; rfl
  · rw [if_neg h]
    have : (r != 0) = true := by simp [h]
    rw [this]; rfl

theorem near_mk {p q k A B : Nat} (hA : 2 * k * q = A) (hB : 2 * p = B) (h1 : A ≤ B + q) (h2 : B ≤ A + q) (h3 : A = B + q → k % 2 = 0) (h4 : B = A + q → k % 2 = 0) : Near p q k := by
  subst hA hB
  exact ⟨h1, h2, h3, h4⟩

/-- What is left over told by one digit more, some digits are dropped: the nearest one. -/
theorem cut_low (s : Bool) (m g z d : Nat) (lg : Nat) (hg : 1 <<< lg = g) (hl : lg ≤ m.log2 + 2) (hz : m = g * z + d) (hd : d < g) :
    Toward.even.cut s m lg = z + (if g < 2 * d ∨ (g = 2 * d ∧ z % 2 = 1) then 1 else 0) := by
  have hlow : m / g = z := by
    rw [hz, Nat.add_comm, Nat.add_mul_div_left _ _ (by omega), Nat.div_eq_of_lt hd, Nat.zero_add]
  have hrest : m % g = d := by
    rw [hz, Nat.add_comm, Nat.add_mul_mod_self_left, Nat.mod_eq_of_lt hd]
  unfold Toward.cut
  simp only [Nat.min_eq_left hl, hg, hlow, hrest]
  by_cases h : g < 2 * d ∨ (g = 2 * d ∧ z % 2 = 1)
  · rw [if_pos h]
    have : (decide (g < 2 * d) || (g == 2 * d && z % 2 == 1)) = true := by simpa using h
    rw [this]; rfl
  · rw [if_neg h]
    have : (decide (g < 2 * d) || (g == 2 * d && z % 2 == 1)) = false := by
      rw [Bool.eq_false_iff]; intro hc; exact h (by simpa using hc)
    rw [this]; rfl

theorem cut_near3 (s : Bool) (P n : Nat) (hn : 0 < n) (hbig : 2 ≤ P / n) : Near (2 * P) (n * 8) (Toward.even.cut s (2 * (P / n) + (P % n != 0).toNat) 3) := by
  rw [bool_toNat_ne]
  have hP : P = n * (P / n) + P % n := (Nat.div_add_mod P n).symm
  have hr : P % n < n := Nat.mod_lt _ hn
  generalize P / n = D at *
  generalize P % n = r at *
  obtain ⟨t, ht, ht'⟩ : ∃ t, (if r = 0 then 0 else 1) = t ∧ ((r = 0 ∧ t = 0) ∨ (0 < r ∧ t = 1)) := by
    by_cases h : r = 0
    · exact ⟨0, by rw [if_pos h], .inl ⟨h, rfl⟩⟩
    · exact ⟨1, by rw [if_neg h], .inr ⟨by omega, rfl⟩⟩
  rw [ht]
  obtain ⟨e, z, he, hz⟩ : ∃ e z, D = 4 * z + e ∧ e < 4 := ⟨D % 4, D / 4, by omega, by omega⟩
  have hlog : 1 ≤ (2 * D + t).log2 := (Nat.le_log2 (by omega)).2 (by omega)
  rw [cut_low s (2 * D + t) 8 z (2 * e + t) 3 rfl (by omega) (by omega) (by omega)]
  have e1 : n * D = 4 * (n * z) + n * e := by rw [he, Nat.mul_add]; congr 1; ac_rfl
  have e2 : n * (z + 1) = n * z + n := by rw [Nat.mul_add, Nat.mul_one]
  have e3 : ∀ k, 2 * k * (n * 8) = 16 * (n * k) := fun k => by ac_rfl
  have e4 : n * e = 0 ∧ e = 0 ∨ n * e = n ∧ e = 1 ∨ n * e = 2 * n ∧ e = 2 ∨ n * e = 3 * n ∧ e = 3 := by
    rcases (show e = 0 ∨ e = 1 ∨ e = 2 ∨ e = 3 by omega) with rfl | rfl | rfl | rfl <;> omega
  generalize n * e = ne at *
  by_cases hc : 8 < 2 * (2 * e + t) ∨ (8 = 2 * (2 * e + t) ∧ z % 2 = 1)
  · rw [if_pos hc]
    refine near_mk (e3 (z + 1)) rfl ?_ ?_ ?_ ?_ <;> rw [e2, hP, e1] <;> generalize n * z = y at * <;> omega
  · rw [if_neg hc]
    refine near_mk (e3 (z + 0)) rfl ?_ ?_ ?_ ?_ <;> rw [Nat.add_zero, hP, e1] <;> generalize n * z = y at * <;> omega

theorem cut_near2 (s : Bool) (P n : Nat) (hn : 0 < n) (hbig : 2 ≤ P / n) : Near (2 * P) (n * 4) (Toward.even.cut s (2 * (P / n) + (P % n != 0).toNat) 2) := by
  rw [bool_toNat_ne]
  have hP : P = n * (P / n) + P % n := (Nat.div_add_mod P n).symm
  have hr : P % n < n := Nat.mod_lt _ hn
  generalize P / n = D at *
  generalize P % n = r at *
  obtain ⟨t, ht, ht'⟩ : ∃ t, (if r = 0 then 0 else 1) = t ∧ ((r = 0 ∧ t = 0) ∨ (0 < r ∧ t = 1)) := by
    by_cases h : r = 0
    · exact ⟨0, by rw [if_pos h], .inl ⟨h, rfl⟩⟩
    · exact ⟨1, by rw [if_neg h], .inr ⟨by omega, rfl⟩⟩
  rw [ht]
  obtain ⟨e, z, he, hz⟩ : ∃ e z, D = 2 * z + e ∧ e < 2 := ⟨D % 2, D / 2, by omega, by omega⟩
  have hlog : 1 ≤ (2 * D + t).log2 := (Nat.le_log2 (by omega)).2 (by omega)
  rw [cut_low s (2 * D + t) 4 z (2 * e + t) 2 rfl (by omega) (by omega) (by omega)]
  have e1 : n * D = 2 * (n * z) + n * e := by rw [he, Nat.mul_add]; congr 1; ac_rfl
  have e2 : n * (z + 1) = n * z + n := by rw [Nat.mul_add, Nat.mul_one]
  have e3 : ∀ k, 2 * k * (n * 4) = 8 * (n * k) := fun k => by ac_rfl
  have e4 : n * e = 0 ∧ e = 0 ∨ n * e = n ∧ e = 1 := by
    rcases (show e = 0 ∨ e = 1 by omega) with rfl | rfl <;> omega
  generalize n * e = ne at *
  by_cases hc : 4 < 2 * (2 * e + t) ∨ (4 = 2 * (2 * e + t) ∧ z % 2 = 1)
  · rw [if_pos hc]
    refine near_mk (e3 (z + 1)) rfl ?_ ?_ ?_ ?_ <;> rw [e2, hP, e1] <;> generalize n * z = y at * <;> omega
  · rw [if_neg hc]
    refine near_mk (e3 (z + 0)) rfl ?_ ?_ ?_ ?_ <;> rw [Nat.add_zero, hP, e1] <;> generalize n * z = y at * <;> omega

/-- A number's full significand. -/
def sig (m : Nat) : Nat := m * 2 ^ (52 - m.log2)
theorem log2_le {m : Nat} (h0 : m ≠ 0) (h : m < 9007199254740992) : m.log2 ≤ 52 := by
  have : m.log2 < 53 := (Nat.log2_lt h0).2 (by simpa using h)
  omega
theorem sig_bounds {m : Nat} (h0 : m ≠ 0) (h : m < 9007199254740992) : 4503599627370496 ≤ sig m ∧ sig m < 9007199254740992 := by
  have hl := log2_le h0 h
  have h1 : 2 ^ m.log2 ≤ m := Nat.log2_self_le h0
  have h2 : m < 2 ^ (m.log2 + 1) := Nat.lt_log2_self
  have e1 : (2 : Nat) ^ m.log2 * 2 ^ (52 - m.log2) = 4503599627370496 := by
    rw [← Nat.pow_add, show m.log2 + (52 - m.log2) = 52 by omega]
  have e2 : (2 : Nat) ^ (m.log2 + 1) * 2 ^ (52 - m.log2) = 9007199254740992 := by
    rw [← Nat.pow_add, show m.log2 + 1 + (52 - m.log2) = 53 by omega]
  unfold sig
  exact ⟨by rw [← e1]; exact Nat.mul_le_mul_right _ h1, by rw [← e2]; exact Nat.mul_lt_mul_of_pos_right h2 (Nat.two_pow_pos _)⟩

theorem fi_eq (n : Int) (h0 : n ≠ 0) (h : n.natAbs < 9007199254740992) : floatOfInt .f64 n = wd (decide (n < 0)) ((n.natAbs.log2 + 1022) * 4503599627370496 + sig n.natAbs) := by
  have hm : n.natAbs ≠ 0 := by omega
  have hl := log2_le hm h
  have hs := sig_bounds hm h
  show double.nearest (decide (n < 0)) n.natAbs 0 = _
  unfold Format.nearest
  rw [if_neg hm, binade_eq, leastPlace_eq, infRung_eq, fractionBits_eq]
  have e1 : max ((0 : Int) + (n.natAbs.log2 : Int) - (52 : Nat)) (-1074) = (n.natAbs.log2 : Int) - 52 := by omega
  simp only [e1, word_eq]
  have e2 : ((0 : Int) - ((n.natAbs.log2 : Int) - 52)).toNat = 52 - n.natAbs.log2 := by omega
  have e3 : ((n.natAbs.log2 : Int) - 52 - 0).toNat = 0 := by omega
  have e4 : ((n.natAbs.log2 : Int) - 52 - (-1074)).toNat = n.natAbs.log2 + 1022 := by omega
  rw [e2, e3, e4, cut_zero, Nat.shiftLeft_eq]
  show wd _ (min (_ + sig n.natAbs) _) = _
  rw [Nat.min_eq_left (by omega)]

theorem fi_read (n : Int) (h0 : n ≠ 0) (h : n.natAbs < 9007199254740992) : double.read (floatOfInt .f64 n) = .number (decide (n < 0)) (sig n.natAbs) ((n.natAbs.log2 : Int) - 52) := by
  have hm : n.natAbs ≠ 0 := by omega
  have hl := log2_le hm h
  have hs := sig_bounds hm h
  rw [fi_eq n h0 h]
  obtain ⟨r, hr⟩ : ∃ r, r = (n.natAbs.log2 + 1022) * 4503599627370496 + sig n.natAbs := ⟨_, rfl⟩
  rw [← hr]
  have m1 : wd (decide (n < 0)) r % 9223372036854775808 = r := by unfold wd; split <;> omega
  have s1 : (wd (decide (n < 0)) r / 9223372036854775808 % 2 == 1) = decide (n < 0) := by
    unfold wd
    by_cases hn : n < 0
    · rw [decide_eq_true hn, if_pos rfl]
      have : (9223372036854775808 + r) / 9223372036854775808 % 2 = 1 := by omega
      rw [this]; rfl
    · rw [decide_eq_false hn, if_neg (by decide)]
      have : r / 9223372036854775808 % 2 = 0 := by omega
      rw [this]; rfl
  rw [read_num (by omega), m1, s1]
  unfold mg pl
  rw [if_neg (by omega), if_neg (by omega)]
  have e1 : 4503599627370496 + r % 4503599627370496 = sig n.natAbs := by omega
  have e2 : r / 4503599627370496 - 1 = n.natAbs.log2 + 1022 := by omega
  have e3 : (-1074 : Int) + ((n.natAbs.log2 + 1022 : Nat) : Int) = (n.natAbs.log2 : Int) - 52 := by omega
  rw [e1, e2, e3]

theorem fi_zero : floatOfInt .f64 0 = 0 := by decide +kernel
theorem read_zero : double.read 0 = .number false 0 (-1074) := by decide +kernel

theorem div_zero_left (b : Int) (h0 : b ≠ 0) (h : b.natAbs < 9007199254740992) : double.div (floatOfInt .f64 0) (floatOfInt .f64 b) = some (wd (decide (b < 0)) 0) := by
  have hs := sig_bounds (show b.natAbs ≠ 0 by omega) h
  unfold Format.div
  rw [fi_zero, read_zero, fi_read b h0 h]
  simp only [Datum.quotient]
  rw [if_neg (by omega)]
  simp only [Nat.zero_shiftLeft, Nat.zero_div, Nat.zero_mod, Option.map_some, Format.write]
  unfold Format.nearest
  rw [if_pos (by rfl), word_eq, Bool.false_xor]
theorem div_zero_right (a : Int) (h0 : a ≠ 0) (h : a.natAbs < 9007199254740992) : double.div (floatOfInt .f64 a) (floatOfInt .f64 0) = some (wd (decide (a < 0)) 9218868437227405312) := by
  have hs := sig_bounds (show a.natAbs ≠ 0 by omega) h
  unfold Format.div
  rw [fi_zero, read_zero, fi_read a h0 h]
  simp only [Datum.quotient]
  rw [if_pos trivial, if_neg (by omega)]
  simp only [Option.map_some, Format.write]
  rw [word_eq, infRung_eq]
  cases decide (a < 0) <;> rfl

theorem log2_eq {m k : Nat} (h1 : 2 ^ k ≤ m) (h2 : m < 2 ^ (k + 1)) : m.log2 = k := by
  have hm : m ≠ 0 := by have := Nat.two_pow_pos k; omega
  have a := (Nat.le_log2 hm).2 h1
  have b := (Nat.log2_lt hm).2 h2
  omega

theorem nearest_eq (s : Bool) (m : Nat) (p : Int) (lg : Nat) (hl : m.log2 = lg) (h0 : m ≠ 0) (e : Nat) (hp : p + lg - 52 + 1074 = (e : Int)) (h52 : 52 ≤ lg) :
    double.nearest s m p = wd s (min (e * 4503599627370496 + Toward.even.cut s m (lg - 52)) 9218868437227405312) := by
  unfold Format.nearest
  rw [if_neg h0, binade_eq, leastPlace_eq, infRung_eq, fractionBits_eq, hl]
  have e1 : max (p + (lg : Int) - (52 : Nat)) (-1074) = p + lg - 52 := by omega
  simp only [e1, word_eq]
  have e2 : (p - (p + (lg : Int) - 52)).toNat = 0 := by omega
  have e3 : (p + (lg : Int) - 52 - p).toNat = lg - 52 := by omega
  have e4 : (p + (lg : Int) - 52 - (-1074)).toNat = e := by omega
  rw [e2, e3, e4, Nat.shiftLeft_eq, Nat.pow_zero, Nat.mul_one]

/-- A share of two numbers, neither nought nor great: its word has the rung of the quotient. -/
theorem div_quo (a b : Int) (ha0 : a ≠ 0) (ha : a.natAbs < 9007199254740992) (hb0 : b ≠ 0) (hb : b.natAbs < 9007199254740992) :
    ∃ R, double.div (floatOfInt .f64 a) (floatOfInt .f64 b) = some (wd (decide (a < 0) ^^ decide (b < 0)) R) ∧ Quo a.natAbs b.natAbs R ∧ 0 < R ∧ R < 9218868437227405312 := by
  have sa := sig_bounds (show a.natAbs ≠ 0 by omega) ha
  have sb := sig_bounds (show b.natAbs ≠ 0 by omega) hb
  have la := log2_le (show a.natAbs ≠ 0 by omega) ha
  have lb := log2_le (show b.natAbs ≠ 0 by omega) hb
  obtain ⟨A, hA⟩ : ∃ A, A = sig a.natAbs := ⟨_, rfl⟩
  obtain ⟨B, hB⟩ : ∃ B, B = sig b.natAbs := ⟨_, rfl⟩
  obtain ⟨i, hi⟩ : ∃ i, i = a.natAbs.log2 := ⟨_, rfl⟩
  obtain ⟨j, hj⟩ : ∃ j, j = b.natAbs.log2 := ⟨_, rfl⟩
  have hA' : A = a.natAbs * 2 ^ (52 - i) := by rw [hA, hi]; rfl
  have hB' : B = b.natAbs * 2 ^ (52 - j) := by rw [hB, hj]; rfl
  unfold Format.div
  rw [fi_read a ha0 ha, fi_read b hb0 hb]
  rw [← hA] at sa ⊢
  rw [← hB] at sb ⊢
  rw [← hi] at la ⊢
  rw [← hj] at lb ⊢
  have lA : A.log2 = 52 := log2_eq (by simpa using sa.1) (by simpa using sa.2)
  have lB : B.log2 = 52 := log2_eq (by simpa using sb.1) (by simpa using sb.2)
  generalize hna : a.natAbs = na at *
  generalize hnb : b.natAbs = nb at *
  simp only [Datum.quotient]
  rw [if_neg (show ¬ B = 0 by omega), lA, lB, fractionBits_eq, show 52 + 2 + 52 - 52 = 54 by rfl, Nat.shiftLeft_eq, show (2 : Nat) ^ 54 = 18014398509481984 by rfl]
  simp only [Option.map_some, Format.write]
  generalize (decide (a < 0) ^^ decide (b < 0)) = s at *
  obtain ⟨P, hP⟩ : ∃ P, P = A * 18014398509481984 := ⟨_, rfl⟩
  rw [← hP]
  have hBpos : 0 < B := by omega
  obtain ⟨D, hD⟩ : ∃ D, D = P / B := ⟨_, rfl⟩
  obtain ⟨t, ht⟩ : ∃ t, t = (P % B != 0).toNat := ⟨_, rfl⟩
  have ht1 : t ≤ 1 := by rw [ht, bool_toNat_ne]; split <;> omega
  have hmul : B * (P / B) + P % B = P := Nat.div_add_mod P B
  have hmod : P % B < B := Nat.mod_lt _ hBpos
  have pp : ∀ (c n : Nat), n * 2 ^ (52 + c) = 4503599627370496 * (n * 2 ^ c) := fun c n => by
    rw [Nat.pow_add, show (2 : Nat) ^ 52 = 4503599627370496 by rfl]; generalize 2 ^ c = x; ac_rfl
  by_cases hAB : B ≤ A
  · have hD1 : 18014398509481984 ≤ P / B := (Nat.le_div_iff_mul_le hBpos).2 (by omega)
    have hD2 : P / B < 36028797018963968 := (Nat.div_lt_iff_lt_mul hBpos).2 (by omega)
    have hk := cut_near3 s P B hBpos (by omega)
    rw [← hD, ← ht] at hk ⊢
    rw [← hD] at hD1 hD2
    have hl : (2 * D + t).log2 = 55 := log2_eq (show (36028797018963968 : Nat) ≤ _ by omega) (show _ < (72057594037927936 : Nat) by omega)
    rw [nearest_eq s _ _ 55 hl (by omega) (1022 + (52 - j) - (52 - i)) (by omega) (by omega)]
    obtain ⟨k, hkk⟩ : ∃ k, k = Toward.even.cut s (2 * D + t) 3 := ⟨_, rfl⟩
    rw [← hkk] at hk
    rw [show 55 - 52 = 3 by rfl, ← hkk]
    have hk2 : Near (4503599627370496 * A) B k := by
      refine near_scale (c := 8) (by omega) ?_
      rw [show 8 * (4503599627370496 * A) = 2 * P by omega, Nat.mul_comm 8 B]; exact hk
    have q : Quo na nb ((1022 + (52 - j) - (52 - i)) * 4503599627370496 + k) := by
      refine ⟨52 - j, 52 - i, k, ?_, ?_, ?_, by omega, rfl⟩
      · rw [← hA', Nat.mul_comm, ← hB']; exact hAB
      · rw [← hA', Nat.pow_succ, Nat.mul_right_comm, Nat.mul_comm _ nb, ← hB']; omega
      · rw [pp, ← hA', ← hB']; exact hk2
    have k1 : 4503599627370496 ≤ k := near_ge hk2 hBpos (by omega)
    have k2 : k ≤ 9007199254740992 := near_le hk2 hBpos (by omega)
    refine ⟨_, ?_, q, by omega, by omega⟩
    rw [Nat.min_eq_left (by omega)]
  · have hD1 : 9007199254740992 ≤ P / B := (Nat.le_div_iff_mul_le hBpos).2 (by omega)
    have hD2 : P / B < 18014398509481984 := (Nat.div_lt_iff_lt_mul hBpos).2 (by omega)
    have hk := cut_near2 s P B hBpos (by omega)
    rw [← hD, ← ht] at hk ⊢
    rw [← hD] at hD1 hD2
    have hl : (2 * D + t).log2 = 54 := log2_eq (show (18014398509481984 : Nat) ≤ _ by omega) (show _ < (36028797018963968 : Nat) by omega)
    rw [nearest_eq s _ _ 54 hl (by omega) (1022 + (52 - j) - (53 - i)) (by omega) (by omega)]
    obtain ⟨k, hkk⟩ : ∃ k, k = Toward.even.cut s (2 * D + t) 2 := ⟨_, rfl⟩
    rw [← hkk] at hk
    rw [show 54 - 52 = 2 by rfl, ← hkk]
    have hA2 : na * 2 ^ (53 - i) = 2 * A := by
      rw [hA', show 53 - i = (52 - i) + 1 by omega, Nat.pow_succ]; generalize 2 ^ (52 - i) = x; ac_rfl
    have hk2 : Near (4503599627370496 * (2 * A)) B k := by
      refine near_scale (c := 4) (by omega) ?_
      rw [show 4 * (4503599627370496 * (2 * A)) = 2 * P by omega, Nat.mul_comm 4 B]; exact hk
    have q : Quo na nb ((1022 + (52 - j) - (53 - i)) * 4503599627370496 + k) := by
      refine ⟨52 - j, 53 - i, k, ?_, ?_, ?_, by omega, rfl⟩
      · rw [hA2, Nat.mul_comm, ← hB']; omega
      · rw [hA2, Nat.pow_succ, Nat.mul_right_comm, Nat.mul_comm _ nb, ← hB']; omega
      · rw [pp, hA2, ← hB']; exact hk2
    have k1 : 4503599627370496 ≤ k := near_ge hk2 hBpos (by omega)
    have k2 : k ≤ 9007199254740992 := near_le hk2 hBpos (by omega)
    refine ⟨_, ?_, q, by omega, by omega⟩
    rw [Nat.min_eq_left (by omega)]
end Go.Proofs.YtapjajclmbpjmaaGreatDoor.Rnd
