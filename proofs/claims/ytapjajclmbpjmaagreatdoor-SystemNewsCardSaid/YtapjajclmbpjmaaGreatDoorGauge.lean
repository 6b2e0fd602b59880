/- Measures: their classes, by the bits. -/
import Derived.Test.YtapjajclmbpjmaaGreatDoorProg
import Derived.Test.YtapjajclmbpjmaaGreatDoorMem
import Derived.Test.YtapjajclmbpjmaaGreatDoorFloat
import Derived.KernelRfl
namespace Go.Proofs.YtapjajclmbpjmaaGreatDoor.Gauge
open Go.RowKit Go.Proofs.YtapjajclmbpjmaaGreatDoor.Mem Go.Proofs.YtapjajclmbpjmaaGreatDoor.Dbl

theorem run_bits (x : Nat) (w : World) : (callFunc 41 #[.float .f64 x]).run Tryz.prog w = .ok (.value (.int .u64 (x : Int))) w := by kernel_rfl
theorem run_from (x : Nat) (w : World) : (callFunc 66 #[.int .u64 (x : Int)]).run Tryz.prog w = .ok (.value (.float .f64 x)) w := by kernel_rfl

/-- The other sign. -/
def flip (x : Nat) : Nat := if 9223372036854775808 ≤ x then x - 9223372036854775808 else x + 9223372036854775808

theorem flip_eq (x : Nat) (h : x < 18446744073709551616) : Op.negFloat FloatKind.f64 x = flip x := by
  have e : ∀ a b : Nat, a < 2 → b < 9223372036854775808 → (2 ^ 63 * a + b) ^^^ (2 ^ 63 * 1 + 0) = 2 ^ 63 * (a ^^^ 1) + b := by
    intro a b ha hb
    apply Nat.eq_of_testBit_eq
    intro j
    rw [Nat.testBit_xor, Nat.testBit_two_pow_mul_add a (i := 63) (b := b) (by simpa using hb), Nat.testBit_two_pow_mul_add 1 (i := 63) (b := 0) (by simp), Nat.testBit_two_pow_mul_add (a ^^^ 1) (i := 63) (b := b) (by simpa using hb)]
    split <;> simp [Nat.testBit_xor]
  have h2 := e (x / 9223372036854775808) (x % 9223372036854775808) (by omega) (by omega)
  have e1 : 2 ^ 63 * (x / 9223372036854775808) + x % 9223372036854775808 = x := by omega
  rw [e1] at h2
  show x ^^^ 2 ^ 63 = flip x
  rw [show (2 : Nat) ^ 63 * 1 + 0 = 2 ^ 63 by rfl] at h2
  rw [h2]
  unfold flip
  by_cases hx : 9223372036854775808 ≤ x
  · rw [if_pos hx, show x / 9223372036854775808 = 1 by omega]; simp; omega
  · rw [if_neg hx, show x / 9223372036854775808 = 0 by omega]; simp; omega

theorem run_neg (x : Nat) (w : World) (h : x < 18446744073709551616) : (Op.unary UnOp.neg (Value.float FloatKind.f64 x)).run Tryz.prog w = .ok (.float .f64 (flip x)) w := by
  rw [← flip_eq x h]
  simp [Op.unary]

theorem f64_order (x y : Nat) : FloatKind.f64.format.order x y = if 9218868437227405312 < x % 9223372036854775808 ∨ 9218868437227405312 < y % 9223372036854775808 then none else some (compare (sv x) (sv y)) := order_eq x y

/-- A measure's class. -/
def cls (x : Nat) : Int :=
  if 9218868437227405312 < x % 9223372036854775808 then 0
  else if x % 9223372036854775808 = 9218868437227405312 then (if 9223372036854775808 ≤ x then 1 else 6)
  else if x % 9223372036854775808 = 0 then (if 9223372036854775808 ≤ x then 3 else 4)
  else if 9223372036854775808 ≤ x then 2 else 5

theorem sv_pos {x : Nat} (h : x < 9223372036854775808) : sv x = (x : Int) := by
  unfold sv sg
  rw [show x / 9223372036854775808 = 0 by omega, show x % 9223372036854775808 = x by omega]
  rfl
theorem sv_neg {x : Nat} (h : 9223372036854775808 ≤ x) (h2 : x < 18446744073709551616) : sv x = -((x - 9223372036854775808 : Nat) : Int) := by
  have e1 : (x / 9223372036854775808 % 2 == 1) = true := by rw [beq_iff_eq]; omega
  have e2 : x % 9223372036854775808 = x - 9223372036854775808 := by omega
  unfold sv sg
  rw [e1, if_pos rfl, e2]
theorem compare_lt {a b : Int} (h : a < b) : compare a b = .lt := by rw [compare_int, if_pos h]
theorem compare_eq {a b : Int} (h : a = b) : compare a b = .eq := by rw [compare_int, if_neg (by omega), if_pos h]
theorem compare_gt {a b : Int} (h : b < a) : compare a b = .gt := by rw [compare_int, if_neg (by omega), if_neg (by omega)]

theorem isinf_neg (x : Nat) (w : World) (h : x < 18446744073709551616) (b : Bool) (hb : b = decide (x = 18442240474082181120)) :
    Calls Tryz.prog 22 #[.float .f64 x, .int .i64 (-1)] w fun e w' => e = .returned (.bool b) ∧ w = w' := by
  have hneg := fun w => run_neg x w h
  have ho : (FloatKind.f64.format.order (flip x) 9218868437227405311 == some Ordering.gt) = b := by
    rw [f64_order, hb]
    unfold flip
    by_cases hx : 9223372036854775808 ≤ x
    · rw [if_pos hx]
      by_cases hn : 9218868437227405312 < (x - 9223372036854775808) % 9223372036854775808
      · rw [if_pos (.inl hn), decide_eq_false (by omega)]; rfl
      · rw [if_neg (by omega), sv_pos (by omega), sv_pos (by omega)]
        by_cases he : x = 18442240474082181120
        · rw [decide_eq_true he, compare_gt (by omega)]; rfl
        · rw [decide_eq_false he]
          by_cases hl : x - 9223372036854775808 < 9218868437227405311
          · rw [compare_lt (by omega)]; rfl
          · rw [compare_eq (by omega)]; rfl
    · rw [if_neg hx, decide_eq_false (by omega)]
      by_cases hn : 9218868437227405312 < (x + 9223372036854775808) % 9223372036854775808
      · rw [if_pos (.inl hn)]; rfl
      · rw [if_neg (by omega), sv_neg (by omega) (by omega), sv_pos (by omega), compare_lt (by omega)]; rfl
  clear hb h
  go_enter Tryz.func22, Tryz.ntmps22
  go_wp2
  go_ret
  exact ⟨rfl, rfl⟩

theorem isinf_pos (x : Nat) (w : World) (h : x < 18446744073709551616) (b : Bool) (hb : b = decide (x = 9218868437227405312)) :
    Calls Tryz.prog 22 #[.float .f64 x, .int .i64 1] w fun e w' => e = .returned (.bool b) ∧ w = w' := by
  have ho : (FloatKind.f64.format.order x 9218868437227405311 == some Ordering.gt) = b := by
    rw [f64_order, hb]
    by_cases hn : 9218868437227405312 < x % 9223372036854775808
    · rw [if_pos (.inl hn), decide_eq_false (by omega)]; rfl
    · rw [if_neg (by omega), sv_pos (show 9218868437227405311 < 9223372036854775808 by omega)]
      by_cases hx : 9223372036854775808 ≤ x
      · rw [sv_neg hx h, decide_eq_false (by omega), compare_lt (by omega)]; rfl
      · rw [sv_pos (by omega)]
        by_cases he : x = 9218868437227405312
        · rw [decide_eq_true he, compare_gt (by omega)]; rfl
        · rw [decide_eq_false he]
          by_cases hl : x < 9218868437227405311
          · rw [compare_lt (by omega)]; rfl
          · rw [compare_eq (by omega)]; rfl
  clear hb h
  go_enter Tryz.func22, Tryz.ntmps22
  go_wp2
  go_ret
  exact ⟨rfl, rfl⟩

theorem signbit_any (x : Nat) (w : World) (h : x < 18446744073709551616) (b : Bool) (hb : b = decide (9223372036854775808 ≤ x)) :
    Calls Tryz.prog 23 #[.float .f64 x] w fun e w' => e = .returned (.bool b) ∧ w = w' := by
  have hr := run_bits x
  have ho : decide (IntKind.i64.wrap (x : Int) < 0) = b := by
    rw [hb, IntKind.wrap_i64]
    by_cases hx : 9223372036854775808 ≤ x
    · rw [decide_eq_true hx]; exact decide_eq_true (by omega)
    · rw [decide_eq_false hx]; exact decide_eq_false (by omega)
  have ho' : decide (wrap64 (x : Int) < 0) = b := by
    rw [hb]; unfold wrap64
    by_cases hx : 9223372036854775808 ≤ x
    · rw [decide_eq_true hx]; exact decide_eq_true (by omega)
    · rw [decide_eq_false hx]; exact decide_eq_false (by omega)
  clear hb h
  go_enter Tryz.func23, Tryz.ntmps23
  go_wp2
  go_ret
  exact ⟨rfl, rfl⟩

/-- A measure's key. -/
def kk (x : Nat) : Nat := if 9218868437227405312 < x % 9223372036854775808 then 0 else if 9223372036854775808 ≤ x then 18446744073709551615 - x else x + 9223372036854775808
/-- The class that goes with a key. -/
def ck (k : Nat) : Int :=
  if k = 0 then 0 else if k ≤ 4503599627370495 then 1 else if k < 9223372036854775807 then 2 else if k = 9223372036854775807 then 3 else if k = 9223372036854775808 then 4 else if k < 18442240474082181120 then 5 else 6
theorem ck_mono {k k' : Nat} (h : k ≤ k') : ck k ≤ ck k' := by
  unfold ck
  repeat' split
  all_goals omega
theorem cls_ck {x : Nat} (h : x < 18446744073709551616) : cls x = ck (kk x) := by
  unfold cls kk ck
  repeat' split
  all_goals omega
/-- -1, 0 or 1. -/
def sc (m n : Nat) : Int := if m < n then -1 else if n < m then 1 else 0
theorem kk_lt_of_cls {a b : Nat} (ha : a < 18446744073709551616) (hb : b < 18446744073709551616) (h : cls a < cls b) : kk a < kk b := by
  rw [cls_ck ha, cls_ck hb] at h
  rcases Nat.lt_or_ge (kk a) (kk b) with h1 | h1
  · exact h1
  · have := ck_mono h1; omega
theorem order_kk {a b : Nat} (ha : a < 18446744073709551616) (hb : b < 18446744073709551616) (h : cls a = cls b) :
    (kk a < kk b ∧ FloatKind.f64.format.order a b = some .lt) ∨ (kk b < kk a ∧ FloatKind.f64.format.order a b = some .gt) ∨ (kk a = kk b ∧ (FloatKind.f64.format.order a b = some .eq ∨ FloatKind.f64.format.order a b = none)) := by
  rw [f64_order]
  by_cases hn : 9218868437227405312 < a % 9223372036854775808
  · right; right
    have h0 : cls a = 0 := by unfold cls; rw [if_pos hn]
    have hb0 : 9218868437227405312 < b % 9223372036854775808 := by
      rw [h0] at h
      unfold cls at h
      repeat' split at h
      all_goals omega
    rw [if_pos (.inl hn)]
    exact ⟨by unfold kk; rw [if_pos hn, if_pos hb0], .inr rfl⟩
  by_cases hm : 9218868437227405312 < b % 9223372036854775808
  · exfalso
    have h0 : cls b = 0 := by unfold cls; rw [if_pos hm]
    rw [h0] at h
    unfold cls at h
    repeat' split at h
    all_goals omega
  rw [if_neg (by omega)]
  have key : (sv a < sv b ∧ kk a < kk b) ∨ (sv b < sv a ∧ kk b < kk a) ∨ (sv a = sv b ∧ kk a = kk b) := by
    rw [cls_ck ha, cls_ck hb] at h
    unfold kk at *
    rw [if_neg hn, if_neg hm] at *
    by_cases p : 9223372036854775808 ≤ a
    · by_cases q : 9223372036854775808 ≤ b
      · rw [sv_neg p ha, sv_neg q hb, if_pos p, if_pos q]; omega
      · rw [if_pos p, if_neg q] at h
        exfalso
        unfold ck at h
        repeat' split at h
        all_goals omega
    · by_cases q : 9223372036854775808 ≤ b
      · rw [if_neg p, if_pos q] at h
        exfalso
        unfold ck at h
        repeat' split at h
        all_goals omega
      · rw [sv_pos (by omega), sv_pos (by omega), if_neg p, if_neg q]; omega
  rcases key with ⟨h1, h2⟩ | ⟨h1, h2⟩ | ⟨h1, h2⟩
  · left; exact ⟨h2, by rw [compare_lt h1]⟩
  · right; left; exact ⟨h2, by rw [compare_gt h1]⟩
  · right; right; exact ⟨h2, .inl (by rw [compare_eq h1])⟩

theorem cls_ge {x : Nat} : 0 ≤ cls x ∧ cls x ≤ 6 := by
  unfold cls
  split
  · omega
  · split
    · split <;> omega
    · split
      · split <;> omega
      · split <;> omega

/-- What the tests of gauge.Class come to. -/
theorem class_tests (x : Nat) :
    (9218868437227405312 < x % 9223372036854775808 ∧ FloatKind.f64.format.order x x = none) ∨
    (¬ 9218868437227405312 < x % 9223372036854775808 ∧ FloatKind.f64.format.order x x = some .eq ∧ FloatKind.f64.format.order x 0 = some (compare (sv x) 0)) := by
  by_cases hn : 9218868437227405312 < x % 9223372036854775808
  · left; exact ⟨hn, by rw [f64_order, if_pos (.inl hn)]⟩
  · right
    refine ⟨hn, ?_, ?_⟩
    · rw [f64_order, if_neg (by omega), compare_eq rfl]
    · rw [f64_order, if_neg (by omega)]
      rfl

theorem class_any (x : Nat) (w : World) (h : x < 18446744073709551616) :
    Calls Tryz.prog 12 #[.float .f64 x] w fun e w' => e = .returned (.int .i64 (cls x)) ∧ w = w' := by
  rcases class_tests x with ⟨hn, ho⟩ | ⟨hn, ho, hz⟩
  · have hc : cls x = 0 := by unfold cls; rw [if_pos hn]
    rw [hc]
    clear hc h hn
    go_enter Tryz.func12, Tryz.ntmps12
    go_wp2
    go_ret
    exact ⟨rfl, rfl⟩
  · by_cases hi : x = 18442240474082181120
    · have hc : cls x = 1 := by unfold cls; rw [if_neg hn, if_pos (by omega), if_pos (by omega)]
      have Hi := Lib.hid hi
      rw [hc]
      clear hc hi hn
      go_enter Tryz.func12, Tryz.ntmps12
      go_wp2_with fail
      refine (isinf_neg x _ h true (by rw [decide_eq_true Hi.out])).mono ?_
      rintro e w1 ⟨rfl, rfl⟩
      go_wp2
      go_ret
      exact ⟨rfl, rfl⟩
    · by_cases hl : 9223372036854775808 ≤ x
      · by_cases h0 : x = 9223372036854775808
        · have hc : cls x = 3 := by unfold cls; rw [if_neg hn, if_neg (by omega), if_pos (by omega), if_pos hl]
          have hz' : FloatKind.f64.format.order x 0 = some .eq := by rw [hz, sv_neg hl h, compare_eq (by omega)]
          rw [hc]
          clear hc hn hz h0
          go_enter Tryz.func12, Tryz.ntmps12
          go_wp2_with fail
          refine (isinf_neg x _ h false (by rw [decide_eq_false hi])).mono ?_
          rintro e w1 ⟨rfl, rfl⟩
          go_wp2_with fail
          refine (signbit_any x _ h true (by rw [decide_eq_true hl])).mono ?_
          rintro e w1 ⟨rfl, rfl⟩
          go_wp2
          go_ret
          exact ⟨rfl, rfl⟩
        · have hc : cls x = 2 := by unfold cls; rw [if_neg hn, if_neg (by omega), if_neg (by omega), if_pos hl]
          have hz' : FloatKind.f64.format.order x 0 = some .lt := by rw [hz, sv_neg hl h, compare_lt (by omega)]
          rw [hc]
          clear hc hn hz h0
          go_enter Tryz.func12, Tryz.ntmps12
          go_wp2_with fail
          refine (isinf_neg x _ h false (by rw [decide_eq_false hi])).mono ?_
          rintro e w1 ⟨rfl, rfl⟩
          go_wp2
          go_ret
          exact ⟨rfl, rfl⟩
      · by_cases h0 : x = 0
        · have hc : cls x = 4 := by unfold cls; rw [if_neg hn, if_neg (by omega), if_pos (by omega), if_neg hl]
          have hz' : FloatKind.f64.format.order x 0 = some .eq := by rw [hz, sv_pos (by omega), compare_eq (by omega)]
          rw [hc]
          clear hc hn hz h0
          go_enter Tryz.func12, Tryz.ntmps12
          go_wp2_with fail
          refine (isinf_neg x _ h false (by rw [decide_eq_false hi])).mono ?_
          rintro e w1 ⟨rfl, rfl⟩
          go_wp2_with fail
          refine (signbit_any x _ h false (by rw [decide_eq_false hl])).mono ?_
          rintro e w1 ⟨rfl, rfl⟩
          go_wp2
          go_ret
          exact ⟨rfl, rfl⟩
        · have hz' : FloatKind.f64.format.order x 0 = some .gt := by rw [hz, sv_pos (by omega), compare_gt (by omega)]
          by_cases hp : x = 9218868437227405312
          · have hc : cls x = 6 := by unfold cls; rw [if_neg hn, if_pos (by omega), if_neg hl]
            have Hp := Lib.hid hp
            rw [hc]
            clear hc hn hz h0 hp
            go_enter Tryz.func12, Tryz.ntmps12
            go_wp2_with fail
            refine (isinf_neg x _ h false (by rw [decide_eq_false hi])).mono ?_
            rintro e w1 ⟨rfl, rfl⟩
            go_wp2_with fail
            refine (isinf_pos x _ h true (by rw [decide_eq_true Hp.out])).mono ?_
            rintro e w1 ⟨rfl, rfl⟩
            go_wp2
            go_ret
            exact ⟨rfl, rfl⟩
          · have hc : cls x = 5 := by unfold cls; rw [if_neg hn, if_neg (by omega), if_neg (by omega), if_neg hl]
            rw [hc]
            clear hc hn hz h0
            go_enter Tryz.func12, Tryz.ntmps12
            go_wp2_with fail
            refine (isinf_neg x _ h false (by rw [decide_eq_false hi])).mono ?_
            rintro e w1 ⟨rfl, rfl⟩
            go_wp2_with fail
            refine (isinf_pos x _ h false (by rw [decide_eq_false hp])).mono ?_
            rintro e w1 ⟨rfl, rfl⟩
            go_wp2
            go_ret
            exact ⟨rfl, rfl⟩
end Go.Proofs.YtapjajclmbpjmaaGreatDoor.Gauge
