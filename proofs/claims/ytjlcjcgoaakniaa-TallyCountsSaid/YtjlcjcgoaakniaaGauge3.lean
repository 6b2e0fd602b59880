/- Measures: keys; the document's answers by bits. -/
import Derived.Test.YtjlcjcgoaakniaaGauge2
namespace Go.Proofs.Ytjlcjcgoaakniaa.Gauge
open Go.RowKit Go.Proofs.Ytjlcjcgoaakniaa.Mem Go.Proofs.Ytjlcjcgoaakniaa.Dbl

theorem and_high (x : Nat) (h : x < 18446744073709551616) : bits BinOp.and IntKind.u64 (x : Int) 9223372036854775808 = if 9223372036854775808 ≤ x then 9223372036854775808 else 0 := by
  rw [show (9223372036854775808 : Int) = ((9223372036854775808 : Nat) : Int) by rfl, u64_and_nat _ _ h (by omega)]
  have e : ∀ a b : Nat, a < 2 → b < 9223372036854775808 → (2 ^ 63 * a + b) &&& (2 ^ 63 * 1 + 0) = 2 ^ 63 * (a &&& 1) := by
    intro a b ha hb
    apply Nat.eq_of_testBit_eq
    intro j
    rw [Nat.testBit_and, Nat.testBit_two_pow_mul_add a (i := 63) (b := b) (by simpa using hb), Nat.testBit_two_pow_mul_add 1 (i := 63) (b := 0) (by simp), Nat.testBit_two_pow_mul]
    by_cases hj : j < 63
    · rw [if_pos hj, if_pos hj, Nat.zero_testBit, Bool.and_false, decide_eq_false (by omega), Bool.false_and]
    · rw [if_neg hj, if_neg hj, decide_eq_true (show j ≥ 63 by omega), Bool.true_and, Nat.testBit_and]
  have h2 := e (x / 9223372036854775808) (x % 9223372036854775808) (by omega) (by omega)
  have e1 : 2 ^ 63 * (x / 9223372036854775808) + x % 9223372036854775808 = x := by omega
  rw [e1, show (2 : Nat) ^ 63 * 1 + 0 = 9223372036854775808 by rfl] at h2
  rw [h2]
  by_cases hx : 9223372036854775808 ≤ x
  · rw [if_pos hx, show x / 9223372036854775808 = 1 by omega]; rfl
  · rw [if_neg hx, show x / 9223372036854775808 = 0 by omega]; rfl
theorem not_word (x : Nat) (h : x < 18446744073709551616) : bits BinOp.xor IntKind.u64 IntKind.u64.max (x : Int) = ((18446744073709551615 - x : Nat) : Int) := by
  show IntKind.u64.wrap ((BitVec.ofInt 64 IntKind.u64.max ^^^ BitVec.ofInt 64 (x : Int)).toNat : Int) = _
  have h1 : BitVec.ofInt 64 IntKind.u64.max = BitVec.allOnes 64 := by decide +kernel
  rw [h1, BitVec.allOnes_xor, BitVec.toNat_not, ofInt_u64 x (by omega), IntKind.wrap_u64]
  omega
theorem or_high (x : Nat) (h : x < 9223372036854775808) : bits BinOp.or IntKind.u64 (x : Int) 9223372036854775808 = ((x + 9223372036854775808 : Nat) : Int) := by
  rw [show (9223372036854775808 : Int) = ((9223372036854775808 : Nat) : Int) by rfl, u64_or_nat _ _ (by omega) (by omega)]
  have e := Nat.two_pow_add_eq_or_of_lt (i := 63) (b := x) (by simpa using h) 1
  rw [Nat.or_comm, show (9223372036854775808 : Nat) = 2 ^ 63 * 1 by rfl, ← e]
  omega

theorem key_any (x : Nat) (w : World) (h : x < 18446744073709551616) :
    Calls Try.prog 22 #[.float .f64 x] w fun e w' => e = .returned (.int .u64 (kk x : Nat)) ∧ w = w' := by
  have hr := run_bits x
  have hand := and_high x h
  rcases class_tests x with ⟨hn, ho⟩ | ⟨hn, ho, _⟩
  · have hk : kk x = 0 := by unfold kk; rw [if_pos hn]
    rw [hk]
    clear hk hn hand
    go_enter Try.func22, Try.ntmps22
    go_wp2
    go_ret
    exact ⟨rfl, rfl⟩
  · by_cases hx : 9223372036854775808 ≤ x
    · have hk : kk x = 18446744073709551615 - x := by unfold kk; rw [if_neg hn, if_pos hx]
      rw [hk]
      rw [if_pos hx] at hand
      have hnot := not_word x h
      obtain ⟨y, hy⟩ : ∃ y, y = 18446744073709551615 - x := ⟨_, rfl⟩
      rw [← hy] at hnot ⊢
      clear hk hn hy
      go_enter Try.func22, Try.ntmps22
      go_wp2
      go_ret
      exact ⟨rfl, rfl⟩
    · have hk : kk x = x + 9223372036854775808 := by unfold kk; rw [if_neg hn, if_neg hx]
      rw [hk]
      rw [if_neg hx] at hand
      have hor := or_high x (by omega)
      obtain ⟨y, hy⟩ : ∃ y, y = x + 9223372036854775808 := ⟨_, rfl⟩
      rw [← hy] at hor ⊢
      clear hk hn hy
      go_enter Try.func22, Try.ntmps22
      go_wp2
      go_ret
      exact ⟨rfl, rfl⟩

theorem ref_class (x : Nat) (w : World) (h : x < 18446744073709551616) :
    Calls Try.prog 20 #[.int .u64 (x : Int)] w fun e w' => e = .returned (.int .i64 (cls x)) ∧ w = w' := by
  obtain ⟨hh, hhe⟩ : ∃ hh : Int, hh = 9223372036854775808 := ⟨_, rfl⟩
  obtain ⟨r, hr⟩ : ∃ r : Nat, r = x % 9223372036854775808 := ⟨_, rfl⟩
  obtain ⟨b, hb⟩ : ∃ b : Bool, b = decide (9223372036854775808 ≤ x) := ⟨_, rfl⟩
  have e1 : (x : Int) % hh = (r : Int) := by rw [hhe, hr]; omega
  have e1' : Int.tmod (x : Int) hh = (r : Int) := by rw [hhe, hr]; exact (Int.tmod_eq_emod_of_nonneg (by omega)).trans (by omega)
  have e2 : decide (hh ≤ (x : Int)) = b := by rw [hhe, hb, decide_eq_decide]; omega
  have hpos : 0 < hh := by omega
  have hh9 : hh ≤ 9223372036854775808 := by omega
  have hx9 : (x : Int) < 18446744073709551616 := by omega
  have hc : cls x = if 9218868437227405312 < r then 0 else if r = 9218868437227405312 then (if b = true then 1 else 6) else if r = 0 then (if b = true then 3 else 4) else if b = true then 2 else 5 := by
    unfold cls
    rw [← hr, hb]
    simp only [decide_eq_true_eq]
  have Hh := Lib.hid hhe
  have hr9 : r < 9223372036854775808 := by omega
  clear hhe hr hb h
  rw [hc]
  clear hc
  by_cases h1 : 9218868437227405312 < r
  · rw [if_pos h1]
    have d1 : decide ((9218868437227405312 : Int) < (r : Int)) = true := decide_eq_true (by omega)
    have d1' : decide (9218868437227405312 < r) = true := decide_eq_true h1
    clear h1
    go_enter Try.func20, Try.ntmps20
    go_wp2_with fail
    refine (half_any _).mono ?_
    rintro e w1 ⟨rfl, rfl⟩
    rw [← Hh.out]
    go_wp2_with fail
    refine (half_any _).mono ?_
    rintro e w1 ⟨rfl, rfl⟩
    rw [← Hh.out]
    go_wp2
    go_ret
    exact ⟨rfl, rfl⟩
  rw [if_neg h1]
  have d1 : decide ((9218868437227405312 : Int) < (r : Int)) = false := decide_eq_false (by omega)
  have d1' : decide (9218868437227405312 < r) = false := decide_eq_false h1
  by_cases h2 : r = 9218868437227405312
  · rw [if_pos h2]
    have d2 : ((r : Int) == 9218868437227405312) = true := beq_iff_eq.2 (by omega)
    have d2' : (r == 9218868437227405312) = true := beq_iff_eq.2 h2
    clear h1 h2
    cases b
    · rw [if_neg (by decide)]
      go_enter Try.func20, Try.ntmps20
      go_wp2_with fail
      refine (half_any _).mono ?_
      rintro e w1 ⟨rfl, rfl⟩
      rw [← Hh.out]
      go_wp2_with fail
      refine (half_any _).mono ?_
      rintro e w1 ⟨rfl, rfl⟩
      rw [← Hh.out]
      go_wp2
      go_ret
      exact ⟨rfl, rfl⟩
    · rw [if_pos rfl]
      go_enter Try.func20, Try.ntmps20
      go_wp2_with fail
      refine (half_any _).mono ?_
      rintro e w1 ⟨rfl, rfl⟩
      rw [← Hh.out]
      go_wp2_with fail
      refine (half_any _).mono ?_
      rintro e w1 ⟨rfl, rfl⟩
      rw [← Hh.out]
      go_wp2
      go_ret
      exact ⟨rfl, rfl⟩
  rw [if_neg h2]
  have d2 : ((r : Int) == 9218868437227405312) = false := beq_eq_false_iff_ne.2 (by omega)
  have d2' : (r == 9218868437227405312) = false := beq_eq_false_iff_ne.2 h2
  by_cases h3 : r = 0
  · rw [if_pos h3]
    have d3 : ((r : Int) == 0) = true := beq_iff_eq.2 (by omega)
    have d3' : (r == 0) = true := beq_iff_eq.2 h3
    clear h1 h2 h3
    cases b
    · rw [if_neg (by decide)]
      go_enter Try.func20, Try.ntmps20
      go_wp2_with fail
      refine (half_any _).mono ?_
      rintro e w1 ⟨rfl, rfl⟩
      rw [← Hh.out]
      go_wp2_with fail
      refine (half_any _).mono ?_
      rintro e w1 ⟨rfl, rfl⟩
      rw [← Hh.out]
      go_wp2
      go_ret
      exact ⟨rfl, rfl⟩
    · rw [if_pos rfl]
      go_enter Try.func20, Try.ntmps20
      go_wp2_with fail
      refine (half_any _).mono ?_
      rintro e w1 ⟨rfl, rfl⟩
      rw [← Hh.out]
      go_wp2_with fail
      refine (half_any _).mono ?_
      rintro e w1 ⟨rfl, rfl⟩
      rw [← Hh.out]
      go_wp2
      go_ret
      exact ⟨rfl, rfl⟩
  rw [if_neg h3]
  have d3 : ((r : Int) == 0) = false := beq_eq_false_iff_ne.2 (by omega)
  have d3' : (r == 0) = false := beq_eq_false_iff_ne.2 h3
  clear h1 h2 h3
  cases b
  · rw [if_neg (by decide)]
    go_enter Try.func20, Try.ntmps20
    go_wp2_with fail
    refine (half_any _).mono ?_
    rintro e w1 ⟨rfl, rfl⟩
    rw [← Hh.out]
    go_wp2_with fail
    refine (half_any _).mono ?_
    rintro e w1 ⟨rfl, rfl⟩
    rw [← Hh.out]
    go_wp2
    go_ret
    exact ⟨rfl, rfl⟩
  · rw [if_pos rfl]
    go_enter Try.func20, Try.ntmps20
    go_wp2_with fail
    refine (half_any _).mono ?_
    rintro e w1 ⟨rfl, rfl⟩
    rw [← Hh.out]
    go_wp2_with fail
    refine (half_any _).mono ?_
    rintro e w1 ⟨rfl, rfl⟩
    rw [← Hh.out]
    go_wp2
    go_ret
    exact ⟨rfl, rfl⟩
end Go.Proofs.Ytjlcjcgoaakniaa.Gauge
