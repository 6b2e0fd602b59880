/- Doubles by their words: how two of them stand to each other. Plain numbers, no program. -/
import Derived.WalkKit
import Ieee.Arith
namespace Go.Proofs.YtapjajclmbpjmaaGreatDoor.Dbl
open Ieee

theorem signWeight_eq : double.signWeight = 9223372036854775808 := by decide +kernel
theorem infRung_eq : double.infRung = 9218868437227405312 := by decide +kernel
theorem binade_eq : double.binade = 4503599627370496 := by decide +kernel
theorem leastPlace_eq : double.leastPlace = -1074 := by decide +kernel
theorem fractionBits_eq : double.fractionBits = 52 := rfl

/-- A rung's significand and place, above the least place. -/
def mg (r : Nat) : Nat := if r < 4503599627370496 then r else 4503599627370496 + r % 4503599627370496
def pl (r : Nat) : Nat := if r < 4503599627370496 then 0 else r / 4503599627370496 - 1
def V (r : Nat) : Nat := mg r * 2 ^ pl r

theorem read_num {x : Nat} (h : x % 9223372036854775808 < 9218868437227405312) : double.read x = .number (x / 9223372036854775808 % 2 == 1) (mg (x % 9223372036854775808)) (-1074 + (pl (x % 9223372036854775808) : Nat)) := by
  unfold Format.read mg pl
  rw [signWeight_eq, infRung_eq, binade_eq, leastPlace_eq]
  simp only
  by_cases h1 : x % 9223372036854775808 < 4503599627370496
  · simp only [h1, if_true]
    rfl
  · simp only [h1, if_false, h, if_true]
theorem read_inf {x : Nat} (h : x % 9223372036854775808 = 9218868437227405312) : double.read x = .infinity (x / 9223372036854775808 % 2 == 1) := by
  unfold Format.read
  rw [signWeight_eq, infRung_eq, binade_eq]
  simp only
  rw [if_neg (by omega), if_neg (by omega), if_pos h]
theorem read_nan {x : Nat} (h : 9218868437227405312 < x % 9223372036854775808) : double.read x = .nan (x / 9223372036854775808 % 2 == 1) (x % 9223372036854775808 - 9218868437227405312) := by
  unfold Format.read
  rw [signWeight_eq, infRung_eq, binade_eq]
  simp only
  rw [if_neg (by omega), if_neg (by omega), if_neg (by omega)]

theorem V_step (r : Nat) : V r < V (r + 1) := by
  unfold V mg pl
  by_cases h1 : r + 1 < 4503599627370496
  · rw [if_pos h1, if_pos h1, if_pos (show r < 4503599627370496 by omega), if_pos (show r < 4503599627370496 by omega)]; simp
  · by_cases h2 : r < 4503599627370496
    · rw [if_neg h1, if_neg h1, if_pos h2, if_pos h2]
      have e1 : (r + 1) % 4503599627370496 = 0 := by omega
      have e2 : (r + 1) / 4503599627370496 - 1 = 0 := by omega
      rw [e1, e2]; omega
    · rw [if_neg h1, if_neg h1, if_neg h2, if_neg h2]
      by_cases h3 : r % 4503599627370496 + 1 < 4503599627370496
      · have e1 : (r + 1) % 4503599627370496 = r % 4503599627370496 + 1 := by omega
        have e2 : (r + 1) / 4503599627370496 = r / 4503599627370496 := by omega
        rw [e1, e2]
        exact Nat.mul_lt_mul_of_pos_right (by omega) (Nat.two_pow_pos _)
      · have e1 : (r + 1) % 4503599627370496 = 0 := by omega
        have e2 : (r + 1) / 4503599627370496 - 1 = (r / 4503599627370496 - 1) + 1 := by omega
        rw [e1, e2, Nat.pow_succ]
        have hp := Nat.two_pow_pos (r / 4503599627370496 - 1)
        have h4 : 4503599627370496 + r % 4503599627370496 < 2 * 4503599627370496 := by omega
        calc (4503599627370496 + r % 4503599627370496) * 2 ^ (r / 4503599627370496 - 1) < (2 * 4503599627370496) * 2 ^ (r / 4503599627370496 - 1) := Nat.mul_lt_mul_of_pos_right h4 hp
          _ = (4503599627370496 + 0) * (2 ^ (r / 4503599627370496 - 1) * 2) := by rw [Nat.add_zero, Nat.mul_comm 2 4503599627370496, Nat.mul_assoc, Nat.mul_comm 2]
theorem V_lt {r s : Nat} (h : r < s) : V r < V s := by
  induction s with
  | zero => omega
  | succ s ih =>
    by_cases e : r = s
    · subst e; exact V_step r
    · exact Nat.lt_trans (ih (by omega)) (V_step s)
theorem V_lt_iff {r s : Nat} : V r < V s ↔ r < s := by
  refine ⟨fun h => ?_, V_lt⟩
  rcases Nat.lt_trichotomy r s with h1 | h1 | h1
  · exact h1
  · subst h1; omega
  · have := V_lt h1; omega
theorem V_eq_iff {r s : Nat} : V r = V s ↔ r = s := by
  refine ⟨fun h => ?_, fun h => by rw [h]⟩
  rcases Nat.lt_trichotomy r s with h1 | h1 | h1
  · have := V_lt h1; omega
  · exact h1
  · have := V_lt h1; omega
theorem V_zero : V 0 = 0 := by simp [V, mg]

/-- A number with a sign. -/
def sg (s : Bool) (m : Nat) : Int := if s then -(m : Int) else (m : Int)
theorem signed_eq (s : Bool) (m u : Nat) : signed s m u = sg s (m * 2 ^ u) := by
  unfold signed sg
  rw [Nat.shiftLeft_eq]

theorem compare_int (x y : Int) : compare x y = if x < y then .lt else if x = y then .eq else .gt := rfl
theorem compare_sg {s t : Bool} {a b a' b' : Nat} (h1 : a < b ↔ a' < b') (h2 : a = b ↔ a' = b') (z1 : a = 0 ↔ a' = 0) (z2 : b = 0 ↔ b' = 0) : compare (sg s a) (sg t b) = compare (sg s a') (sg t b') := by
  rw [compare_int, compare_int]
  have e1 : (sg s a < sg t b) ↔ (sg s a' < sg t b') := by
    unfold sg; cases s <;> cases t <;> simp <;> omega
  have e2 : (sg s a = sg t b) ↔ (sg s a' = sg t b') := by
    unfold sg; cases s <;> cases t <;> simp <;> omega
  simp only [e1, e2]

/-- What a word stands for, as far as order goes. -/
def sv (x : Nat) : Int := sg (x / 9223372036854775808 % 2 == 1) (x % 9223372036854775808)

theorem order_eq (x y : Nat) : double.order x y = if 9218868437227405312 < x % 9223372036854775808 ∨ 9218868437227405312 < y % 9223372036854775808 then none else some (compare (sv x) (sv y)) := by
  unfold Format.order
  by_cases hx : 9218868437227405312 < x % 9223372036854775808
  · rw [read_nan hx, if_pos (.inl hx)]; rfl
  by_cases hy : 9218868437227405312 < y % 9223372036854775808
  · rw [read_nan hy, if_pos (.inr hy)]
    cases double.read x <;> rfl
  rw [if_neg (by omega)]
  unfold sv
  by_cases ex : x % 9223372036854775808 = 9218868437227405312
  · rw [read_inf ex, ex]
    by_cases ey : y % 9223372036854775808 = 9218868437227405312
    · rw [read_inf ey, ey]
      cases (x / 9223372036854775808 % 2 == 1) <;> cases (y / 9223372036854775808 % 2 == 1) <;> decide +kernel
    · rw [read_num (by omega)]
      have hlt : y % 9223372036854775808 < 9218868437227405312 := by omega
      generalize y % 9223372036854775808 = r at *
      show some (if _ then Ordering.lt else Ordering.gt) = _
      rw [compare_int]
      unfold sg
      cases (x / 9223372036854775808 % 2 == 1) <;> cases (y / 9223372036854775808 % 2 == 1) <;> simp only [if_true, if_false, Bool.false_eq_true] <;>
        first | rw [if_pos (by omega)] | rw [if_neg (by omega), if_neg (by omega)]
  · rw [read_num (show x % 9223372036854775808 < 9218868437227405312 by omega)]
    by_cases ey : y % 9223372036854775808 = 9218868437227405312
    · rw [read_inf ey, ey]
      have hlt : x % 9223372036854775808 < 9218868437227405312 := by omega
      generalize x % 9223372036854775808 = r at *
      show some (if _ then Ordering.gt else Ordering.lt) = _
      rw [compare_int]
      unfold sg
      cases (x / 9223372036854775808 % 2 == 1) <;> cases (y / 9223372036854775808 % 2 == 1) <;> simp only [if_true, if_false, Bool.false_eq_true] <;>
        first | rw [if_pos (by omega)] | rw [if_neg (by omega), if_neg (by omega)]
    · rw [read_num (show y % 9223372036854775808 < 9218868437227405312 by omega)]
      generalize x % 9223372036854775808 = r
      generalize y % 9223372036854775808 = q
      simp only [Datum.order, signed_eq]
      congr 1
      obtain ⟨c, hc⟩ : ∃ c, c = min (pl r) (pl q) := ⟨_, rfl⟩
      have e1 : ((-1074 + (pl r : Int)) - min (-1074 + (pl r : Int)) (-1074 + (pl q : Int))).toNat = pl r - c := by omega
      have e2 : ((-1074 + (pl q : Int)) - min (-1074 + (pl r : Int)) (-1074 + (pl q : Int))).toNat = pl q - c := by omega
      rw [e1, e2]
      have hp : 0 < 2 ^ c := Nat.two_pow_pos c
      have v1 : mg r * 2 ^ (pl r - c) * 2 ^ c = V r := by
        unfold V; rw [Nat.mul_assoc, ← Nat.pow_add, show pl r - c + c = pl r by omega]
      have v2 : mg q * 2 ^ (pl q - c) * 2 ^ c = V q := by
        unfold V; rw [Nat.mul_assoc, ← Nat.pow_add, show pl q - c + c = pl q by omega]
      have vz : ∀ a, V a = 0 ↔ a = 0 := fun a => by rw [← V_zero]; exact V_eq_iff
      refine compare_sg ?_ ?_ ?_ ?_
      · exact (Nat.mul_lt_mul_right hp).symm.trans (by rw [v1, v2]; exact V_lt_iff)
      · exact (Nat.mul_left_inj (Nat.ne_of_gt hp)).symm.trans (by rw [v1, v2]; exact V_eq_iff)
      · rw [← vz r, ← v1]
        exact ⟨fun h => by rw [h, Nat.zero_mul], fun h => by rcases Nat.mul_eq_zero.1 h with h | h; exact h; omega⟩
      · rw [← vz q, ← v2]
        exact ⟨fun h => by rw [h, Nat.zero_mul], fun h => by rcases Nat.mul_eq_zero.1 h with h | h; exact h; omega⟩
end Go.Proofs.YtapjajclmbpjmaaGreatDoor.Dbl
