/- What a share's word is, by the two numbers. Plain numbers. -/
import Derived.Test.YtjlcjcgoaakniaaDiv
import Derived.Test.YtjlcjcgoaakniaaGauge5
namespace Go.Proofs.Ytjlcjcgoaakniaa.Gauge
open Go.RowKit Go.Proofs.Ytjlcjcgoaakniaa.Mem Go.Proofs.Ytjlcjcgoaakniaa.Dbl Go.Proofs.Ytjlcjcgoaakniaa.Rnd

theorem share_cases {a b : Int} {v : Nat} (ha : a.natAbs < 9007199254740992) (hb : b.natAbs < 9007199254740992) (h : ShareOf a b v) :
    (a = 0 ∧ b = 0 ∧ Nan v) ∨ (a ≠ 0 ∧ b = 0 ∧ v = wd (decide (a < 0)) 9218868437227405312) ∨ (a = 0 ∧ b ≠ 0 ∧ v = wd (decide (b < 0)) 0) ∨
    (a ≠ 0 ∧ b ≠ 0 ∧ ∃ R, v = wd (decide (a < 0) ^^ decide (b < 0)) R ∧ Quo a.natAbs b.natAbs R ∧ 0 < R ∧ R < 9218868437227405312) := by
  by_cases h1 : a = 0
  · by_cases h2 : b = 0
    · subst h1 h2
      exact .inl ⟨rfl, rfl, share_none h⟩
    · subst h1
      refine .inr (.inr (.inl ⟨rfl, h2, ?_⟩))
      unfold ShareOf at h
      rw [div_zero_left b h2 hb] at h
      exact h
  · by_cases h2 : b = 0
    · subst h2
      refine .inr (.inl ⟨h1, rfl, ?_⟩)
      unfold ShareOf at h
      rw [div_zero_right a h1 ha] at h
      exact h
    · refine .inr (.inr (.inr ⟨h1, h2, ?_⟩))
      obtain ⟨R, hR, q⟩ := div_quo a b h1 ha h2 hb
      unfold ShareOf at h
      rw [hR] at h
      exact ⟨R, h, q⟩

theorem wd_lt {s : Bool} {R : Nat} (h : R < 9223372036854775808) : wd s R < 18446744073709551616 := by unfold wd; split <;> omega
theorem wd_mod {s : Bool} {R : Nat} (h : R < 9223372036854775808) : wd s R % 9223372036854775808 = R := by unfold wd; split <;> omega
theorem wd_cls {s : Bool} {R : Nat} (h0 : 0 < R) (h : R < 9218868437227405312) : cls (wd s R) = if s then 2 else 5 := by
  unfold cls
  rw [wd_mod (by omega), if_neg (by omega), if_neg (by omega), if_neg (by omega)]
  unfold wd
  cases s
  · simp only [Bool.false_eq_true, if_false]
    rw [if_neg (by omega)]
  · simp only [if_true]
    rw [if_pos (by omega)]
theorem wd_sv {s : Bool} {R : Nat} (h : R < 9223372036854775808) : sv (wd s R) = sg s R := by
  unfold sv
  rw [wd_mod h]
  unfold wd
  cases s
  · rw [if_neg (by simp)]
    have : R / 9223372036854775808 % 2 = 0 := by omega
    rw [this]; rfl
  · rw [if_pos rfl]
    have : (9223372036854775808 + R) / 9223372036854775808 % 2 = 1 := by omega
    rw [this]; rfl
theorem share_lt {a b : Int} {v : Nat} (ha : a.natAbs < 9007199254740992) (hb : b.natAbs < 9007199254740992) (h : ShareOf a b v) : v < 18446744073709551616 := by
  rcases share_cases ha hb h with ⟨_, _, h⟩ | ⟨_, _, rfl⟩ | ⟨_, _, rfl⟩ | ⟨_, _, R, rfl, _, h0, h1⟩
  · exact h.1
  · exact wd_lt (by omega)
  · exact wd_lt (by omega)
  · exact wd_lt (by omega)

theorem quo_one : Quo 1 1 4607182418800017408 := by
  refine ⟨0, 0, 4503599627370496, by decide, by decide, ⟨by decide, by decide, by decide, by decide⟩, by decide, by decide⟩
theorem quo_is_one {a b R : Nat} (h : Quo a b R) (ha : 0 < a) (hb : 0 < b) (h1 : a < 1125899906842624) (h2 : b < 1125899906842624) : R = 4607182418800017408 ↔ a = b := by
  constructor
  · intro e
    rcases Nat.lt_trichotomy a b with hl | hl | hl
    · have := quo_strict h quo_one hb (by omega) (by omega) (by omega); omega
    · exact hl
    · have := quo_strict quo_one h (by omega) hb (by omega) (by omega); omega
  · intro e
    exact quo_unique h quo_one hb (by omega) (by omega)

/-- As many times as much of both. -/
theorem share_scale {a b n : Int} {v u : Nat} (hn : 0 < n) (ha : (n * a).natAbs < 9007199254740992) (hb : (n * b).natAbs < 9007199254740992) (h : ShareOf (n * a) (n * b) v) (h' : ShareOf a b u) : kk v = kk u := by
  have hm : ∀ x : Int, x.natAbs ≤ (n * x).natAbs := fun x => by
    rw [Int.natAbs_mul]
    exact Nat.le_mul_of_pos_left _ (by omega)
  have hz : ∀ x : Int, n * x = 0 ↔ x = 0 := fun x => ⟨fun h => by rcases Int.mul_eq_zero.1 h with h | h; omega; exact h, fun h => by rw [h, Int.mul_zero]⟩
  have hs : ∀ x : Int, n * x < 0 ↔ x < 0 := fun x => by
    constructor
    · intro h
      by_cases h1 : x < 0
      · exact h1
      · have := Int.mul_nonneg (Int.le_of_lt hn) (show 0 ≤ x by omega); omega
    · intro h
      exact Int.mul_neg_of_pos_of_neg hn h
  have ha' := hm a
  have hb' := hm b
  have d1 : decide (n * a < 0) = decide (a < 0) := by rw [decide_eq_decide]; exact hs a
  have d2 : decide (n * b < 0) = decide (b < 0) := by rw [decide_eq_decide]; exact hs b
  have c := share_cases ha hb h
  have c' := share_cases (by omega) (by omega) h'
  rw [d1, d2] at c
  simp only [ne_eq, hz] at c
  rcases c with ⟨x, y, h⟩ | ⟨x, y, h⟩ | ⟨x, y, h⟩ | ⟨x, y, R, h, q, _⟩ <;> rcases c' with ⟨x', y', h'⟩ | ⟨x', y', h'⟩ | ⟨x', y', h'⟩ | ⟨x', y', R', h', q', _⟩
  all_goals first | (exact absurd x x') | (exact absurd x' x) | (exact absurd y y') | (exact absurd y' y) | skip
  · rw [h.kk, h'.kk]
  · rw [h, h']
  · rw [h, h']
  · have : R = R' := quo_unique q q' (by have := hz b; omega) (by omega) (by
      rw [Int.natAbs_mul, Int.natAbs_mul]; ac_rfl)
    rw [h, h', this]
end Go.Proofs.Ytjlcjcgoaakniaa.Gauge
