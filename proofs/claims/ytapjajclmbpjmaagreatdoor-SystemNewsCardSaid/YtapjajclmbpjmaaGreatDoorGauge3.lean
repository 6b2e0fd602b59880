/- Measures: keys; the document's answers by bits. -/
import Derived.Test.YtapjajclmbpjmaaGreatDoorGauge2
namespace Go.Proofs.YtapjajclmbpjmaaGreatDoor.Gauge
open Go.RowKit Go.Proofs.YtapjajclmbpjmaaGreatDoor.Mem Go.Proofs.YtapjajclmbpjmaaGreatDoor.Dbl

theorem and_high (x : Nat) (h : x < 18446744073709551616) : bits BinOp.and IntKind.u64 (x : Int) 9223372036854775808 = if 9223372036854775808 ≤ x then 9223372036854775808 else 0 := by
  rw [show (9223372036854775808 : Int) = ((9223372036854775808 : Nat) : Int) by rfl, u64_and_nat _ _ h (by omega)]
  have e : ∀ a b : Nat, a < 2 → b < 9223372036854775808 → (2 ^ 63 * a + b) &&& (2 ^ 63 * 1 + 0) = 2 ^ 63 * (a &&& 1) := by
    intro a b ha hb
    apply Nat.eq_of_testBit_eq
    intro j
    rw [Nat.testBit_and, Nat.testBit_two_pow_mul_add a (i := 63) (b := b) (by simpa using hb), Nat.testBit_two_pow_mul_add 1 (i := 63) (b := 0) (by simp), Nat.testBit_two_pow_mul]
    by_cases hj : j < 63
    · rw [if_pos hj, if_pos hj, Nat.zero_testBit, Bool.and_false, decide_eq_false (by omega), Bool.false_and]
    · rw [if_neg hj, if_neg hj, decide_eq_true (show j ≥ 63 by omega), Bool.true_and, Nat.testBit_and]
  have h2 := e (x / 9223372036854775808) (x % 9223372036854775808) (by omega) (by omega)
  have e1 : 2 ^ 63 * (x / 9223372036854775808) + x % 9223372036854775808 = x := by omega
  rw [e1, show (2 : Nat) ^ 63 * 1 + 0 = 9223372036854775808 by rfl] at h2
  rw [h2]
  by_cases hx : 9223372036854775808 ≤ x
  · rw [if_pos hx, show x / 9223372036854775808 = 1 by omega]; rfl
  · rw [if_neg hx, show x / 9223372036854775808 = 0 by omega]; rfl
theorem not_word (x : Nat) (h : x < 18446744073709551616) : bits BinOp.xor IntKind.u64 IntKind.u64.max (x : Int) = ((18446744073709551615 - x : Nat) : Int) := by
  show IntKind.u64.wrap ((BitVec.ofInt 64 IntKind.u64.max ^^^ BitVec.ofInt 64 (x : Int)).toNat : Int) = _
  have h1 : BitVec.ofInt 64 IntKind.u64.max = BitVec.allOnes 64 := by decide +kernel
  rw [h1, BitVec.allOnes_xor, BitVec.toNat_not, ofInt_u64 x (by omega), IntKind.wrap_u64]
  omega
theorem or_high (x : Nat) (h : x < 9223372036854775808) : bits BinOp.or IntKind.u64 (x : Int) 9223372036854775808 = ((x + 9223372036854775808 : Nat) : Int) := by
  rw [show (9223372036854775808 : Int) = ((9223372036854775808 : Nat) : Int) by rfl, u64_or_nat _ _ (by omega) (by omega)]
  have e := Nat.two_pow_add_eq_or_of_lt (i := 63) (b := x) (by simpa using h) 1
  rw [Nat.or_comm, show (9223372036854775808 : Nat) = 2 ^ 63 * 1 by rfl, ← e]
  omega

end Go.Proofs.YtapjajclmbpjmaaGreatDoor.Gauge
