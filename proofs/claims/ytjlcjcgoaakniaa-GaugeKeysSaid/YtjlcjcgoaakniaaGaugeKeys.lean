/- Any measure's key is the document's, and is its again; of any key the measure, or that there is none, is the document's: the walk of besomlaw02.GaugeKeys. -/
import Derived.Test.YtjlcjcgoaakniaaGauge5
import Derived.Test.YtjlcjcgoaakniaaRow
namespace Go.Proofs.Ytjlcjcgoaakniaa.GaugeKeys
open Go.RowKit Go.Proofs.Ytjlcjcgoaakniaa.Mem Go.Proofs.Ytjlcjcgoaakniaa.Dbl Go.Proofs.Ytjlcjcgoaakniaa.Gauge Go.Proofs.Ytjlcjcgoaakniaa.Row

/-- The bits that go with a key. -/
def ofb (k : Nat) : Nat := if 9223372036854775808 ≤ k then k - 9223372036854775808 else 18446744073709551615 - k

theorem andNot_high (x : Nat) (h : x < 18446744073709551616) (hx : 9223372036854775808 ≤ x) : bits BinOp.andNot IntKind.u64 (x : Int) 9223372036854775808 = ((x - 9223372036854775808 : Nat) : Int) := by
  rw [show (9223372036854775808 : Int) = ((9223372036854775808 : Nat) : Int) by rfl, u64_andNot_nat _ _ h (by omega)]
  have e : 18446744073709551615 - 9223372036854775808 = 2 ^ 63 - 1 := by decide +kernel
  rw [e, Nat.and_two_pow_sub_one_eq_mod]
  have : x % 2 ^ 63 = x - 9223372036854775808 := by
    show x % 9223372036854775808 = _
    omega
  rw [this]

theorem of_zero (w : World) : Calls Try.prog 26 #[.int .u64 0] w fun e w' => e = .returned (.tuple #[.float .f64 9221120237041090561, .int .i64 0]) ∧ w = w' := by
  go_enter Try.func26, Try.ntmps26
  go_wp2_with fail
  refine (nan_any _).mono ?_
  rintro e w1 ⟨rfl, rfl⟩
  go_wp2
  go_ret2
  exact ⟨rfl, rfl⟩

theorem of_any (k : Nat) (w : World) (h : k < 18446744073709551616) (h0 : k ≠ 0) (r : Value) (hr : (Nan (ofb k) ∧ r = .tuple #[.float .f64 0, .int .i64 1]) ∨ (¬ Nan (ofb k) ∧ r = .tuple #[.float .f64 (ofb k), .int .i64 0])) :
    Calls Try.prog 26 #[.int .u64 (k : Int)] w fun e w' => e = .returned r ∧ w = w' := by
  have hand := and_high k h
  have hnot := not_word k h
  have d0 : ((k : Int) == 0) = false := beq_eq_false_iff_ne.2 (by omega)
  have d0' : (k == 0) = false := beq_eq_false_iff_ne.2 h0
  have hb : ofb k < 18446744073709551616 := by unfold ofb; split <;> omega
  by_cases hk : 9223372036854775808 ≤ k
  · have han := andNot_high k h hk
    rw [if_pos hk] at hand
    have ho : ofb k = k - 9223372036854775808 := by unfold ofb; rw [if_pos hk]
    rw [ho] at hr hb
    obtain ⟨y, hy⟩ : ∃ y, y = k - 9223372036854775808 := ⟨_, rfl⟩
    rw [← hy] at hr hb han
    have hf := run_from y
    generalize 18446744073709551615 - k = z at *
    clear ho hy hk
    rcases hr with ⟨hn, rfl⟩ | ⟨hn, rfl⟩
    · have hord : FloatKind.f64.format.order y y = none := by rw [f64_order, if_pos (.inl hn.2)]
      clear hn h0 h hb
      go_enter Try.func26, Try.ntmps26
      go_wp2
      go_ret2
      exact ⟨rfl, rfl⟩
    · have hord : FloatKind.f64.format.order y y = some .eq := by
        rw [f64_order, if_neg (fun hc => hn ⟨hb, by omega⟩), compare_eq rfl]
      clear hn h0 h hb
      go_enter Try.func26, Try.ntmps26
      go_wp2
      go_ret2
      exact ⟨rfl, rfl⟩
  · rw [if_neg hk] at hand
    have ho : ofb k = 18446744073709551615 - k := by unfold ofb; rw [if_neg hk]
    rw [ho] at hr hb
    obtain ⟨y, hy⟩ : ∃ y, y = 18446744073709551615 - k := ⟨_, rfl⟩
    rw [← hy] at hr hb hnot
    have hf := run_from y
    clear ho hy hk
    rcases hr with ⟨hn, rfl⟩ | ⟨hn, rfl⟩
    · have hord : FloatKind.f64.format.order y y = none := by rw [f64_order, if_pos (.inl hn.2)]
      clear hn h0 h hb
      go_enter Try.func26, Try.ntmps26
      go_wp2
      go_ret2
      exact ⟨rfl, rfl⟩
    · have hord : FloatKind.f64.format.order y y = some .eq := by
        rw [f64_order, if_neg (fun hc => hn ⟨hb, by omega⟩), compare_eq rfl]
      clear hn h0 h hb
      go_enter Try.func26, Try.ntmps26
      go_wp2
      go_ret2
      exact ⟨rfl, rfl⟩

theorem ref_of (k : Nat) (w : World) (h : k < 18446744073709551616) :
    Calls Try.prog 27 #[.int .u64 (k : Int)] w fun e w' => e = .returned (.tuple #[.int .u64 (ofb k : Nat), .bool (cls (ofb k) != 0)]) ∧ w = w' := by
  obtain ⟨hh, hhe⟩ : ∃ hh : Int, hh = 9223372036854775808 := ⟨_, rfl⟩
  have Hh := Lib.hid hhe
  have hb : ofb k < 18446744073709551616 := by unfold ofb; split <;> omega
  by_cases hk : 9223372036854775808 ≤ k
  · have ho : ofb k = k - 9223372036854775808 := by unfold ofb; rw [if_pos hk]
    have e2 : decide (hh ≤ (k : Int)) = true := by rw [hhe]; exact decide_eq_true (by omega)
    obtain ⟨y, hy⟩ : ∃ y, y = ofb k := ⟨_, rfl⟩
    rw [← hy] at ho hb ⊢
    have e3 : IntKind.u64.wrap ((k : Int) - hh) = (y : Int) := by rw [hhe, IntKind.wrap_u64]; omega
    have e4 : (k : Int) - hh = (y : Int) := by rw [hhe]; omega
    have hpos : 0 < hh := by omega
    clear hhe ho hy hk
    go_enter Try.func27, Try.ntmps27
    go_wp2_with fail
    refine (half_any _).mono ?_
    rintro e w1 ⟨rfl, rfl⟩
    rw [← Hh.out]
    go_wp2_with fail
    refine (half_any _).mono ?_
    rintro e w1 ⟨rfl, rfl⟩
    rw [← Hh.out]
    go_wp2_with fail
    refine (ref_class y _ hb).mono ?_
    rintro e w1 ⟨rfl, rfl⟩
    go_wp2
    go_ret2
    exact ⟨rfl, rfl⟩
  · have ho : ofb k = 18446744073709551615 - k := by unfold ofb; rw [if_neg hk]
    have e2 : decide (hh ≤ (k : Int)) = false := by rw [hhe]; exact decide_eq_false (by omega)
    obtain ⟨y, hy⟩ : ∃ y, y = ofb k := ⟨_, rfl⟩
    rw [← hy] at ho hb ⊢
    have e4 : 18446744073709551615 - (k : Int) = (y : Int) := by omega
    have E4 := Lib.hid e4
    have hpos : 0 < hh := by omega
    clear hhe ho hy hk e4
    go_enter Try.func27, Try.ntmps27
    go_wp2_with fail
    refine (half_any _).mono ?_
    rintro e w1 ⟨rfl, rfl⟩
    rw [← Hh.out]
    go_wp2_with fail
    rw [E4.out]
    refine (ref_class y _ hb).mono ?_
    rintro e w1 ⟨rfl, rfl⟩
    go_wp2
    go_ret2
    exact ⟨rfl, rfl⟩

theorem ref_key (x : Nat) (w : World) (h : x < 18446744073709551616) :
    Calls Try.prog 28 #[.int .u64 (x : Int)] w fun e w' => e = .returned (.int .u64 (kk x : Nat)) ∧ w = w' := by
  obtain ⟨hh, hhe⟩ : ∃ hh : Int, hh = 9223372036854775808 := ⟨_, rfl⟩
  have Hh := Lib.hid hhe
  by_cases hc : cls x = 0
  · have hk : kk x = 0 := (cls_eq_zero h).1 hc
    rw [hk]
    have Hc := Lib.hid hc
    clear hc hk hhe
    go_enter Try.func28, Try.ntmps28
    go_wp2_with fail
    refine (ref_class x _ h).mono ?_
    rintro e w1 ⟨rfl, rfl⟩
    rw [Hc.out]
    go_wp2
    go_ret
    exact ⟨rfl, rfl⟩
  · have hn : ¬ 9218868437227405312 < x % 9223372036854775808 := fun hn => hc (by unfold cls; rw [if_pos hn])
    have dc : (cls x == 0) = false := beq_eq_false_iff_ne.2 hc
    by_cases hx : 9223372036854775808 ≤ x
    · have hk : kk x = 18446744073709551615 - x := by unfold kk; rw [if_neg hn, if_pos hx]
      have e2 : decide (hh ≤ (x : Int)) = true := by rw [hhe]; exact decide_eq_true (by omega)
      obtain ⟨y, hy⟩ : ∃ y, y = kk x := ⟨_, rfl⟩
      rw [← hy] at hk ⊢
      have e4 : 18446744073709551615 - (x : Int) = (y : Int) := by omega
      have E4 := Lib.hid e4
      clear hhe hy hk e4 hc hn hx
      go_enter Try.func28, Try.ntmps28
      go_wp2_with fail
      refine (ref_class x _ h).mono ?_
      rintro e w1 ⟨rfl, rfl⟩
      go_wp2_with fail
      refine (half_any _).mono ?_
      rintro e w1 ⟨rfl, rfl⟩
      rw [← Hh.out]
      go_wp2
      go_ret
      exact ⟨by rw [← E4.out]; rfl, rfl⟩
    · have hk : kk x = x + 9223372036854775808 := by unfold kk; rw [if_neg hn, if_neg hx]
      have e2 : decide (hh ≤ (x : Int)) = false := by rw [hhe]; exact decide_eq_false (by omega)
      obtain ⟨y, hy⟩ : ∃ y, y = kk x := ⟨_, rfl⟩
      rw [← hy] at hk ⊢
      have e4 : (x : Int) + hh = (y : Int) := by omega
      have hpos : 0 < hh := by omega
      have hh9 : hh ≤ 9223372036854775808 := by omega
      have hx9 : (x : Int) < 9223372036854775808 := by omega
      clear hhe hy hk hc hn hx
      go_enter Try.func28, Try.ntmps28
      go_wp2_with fail
      refine (ref_class x _ h).mono ?_
      rintro e w1 ⟨rfl, rfl⟩
      go_wp2_with fail
      refine (half_any _).mono ?_
      rintro e w1 ⟨rfl, rfl⟩
      rw [← Hh.out]
      go_wp2_with fail
      refine (half_any _).mono ?_
      rintro e w1 ⟨rfl, rfl⟩
      rw [← Hh.out]
      go_wp2
      go_ret
      exact ⟨rfl, rfl⟩

theorem ofb_kk {x : Nat} (h : x < 18446744073709551616) (hn : kk x ≠ 0) : ofb (kk x) = x ∧ ¬ Nan x := by
  have h2 : ¬ Nan x := fun h3 => hn h3.kk
  have hx : ¬ 9218868437227405312 < x % 9223372036854775808 := fun h3 => h2 ⟨h, h3⟩
  refine ⟨?_, h2⟩
  unfold ofb kk
  rw [if_neg hx]
  split <;> split <;> omega
theorem kk_lt {x : Nat} (h : x < 18446744073709551616) : kk x < 18446744073709551616 := by
  unfold kk
  split
  · omega
  · split <;> omega

set_option maxHeartbeats 800000 in
theorem law_nat (a k : Nat) (w : World) (ha : a < 18446744073709551616) (hk : k < 18446744073709551616) :
    Calls Try.prog 10 #[.int .u64 (a : Int), .int .u64 (k : Int)] w fun e w' => e = .returned (.bool true) ∧ Below w.heap.size w w' := by
  have hf1 := run_from a
  have hka := kk_lt ha
  -- what the key's own measure is
  obtain ⟨y, hy, hyk, hcall⟩ : ∃ y, y < 18446744073709551616 ∧ (kk a == kk y) = true ∧ ∀ w, Calls Try.prog 26 #[.int .u64 (kk a : Nat)] w fun e w' => e = .returned (.tuple #[.float .f64 y, .int .i64 0]) ∧ w = w' := by
    by_cases h0 : kk a = 0
    · refine ⟨9221120237041090561, by omega, by rw [h0, show kk 9221120237041090561 = 0 by decide +kernel]; rfl, fun w => ?_⟩
      rw [h0]; exact of_zero w
    · obtain ⟨e1, e2⟩ := ofb_kk ha h0
      refine ⟨a, ha, by simp, fun w => of_any (kk a) w hka h0 _ (.inr ⟨by rw [e1]; exact e2, by rw [e1]⟩)⟩
  have Hcall := Lib.hid hcall
  have Hyk := Lib.hid hyk
  clear hcall hyk
  by_cases h0 : k = 0
  · subst h0
    have hord : FloatKind.f64.format.order 9221120237041090561 9221120237041090561 = none := by rw [f64_order, if_pos (.inl (by omega))]
    go_enter Try.func10, Try.ntmps10
    go_wp2_with fail
    refine (awake _).mono ?_
    rintro e w1 ⟨rfl, hu⟩
    have hbel := hu.below (by simp)
    go_wp2_with fail
    refine (key_any a _ ha).mono ?_
    rintro e w2 ⟨rfl, rfl⟩
    go_wp2_with fail
    refine (Hcall.out _).mono ?_
    rintro e w2 ⟨rfl, rfl⟩
    go_wp2_with fail
    refine (of_zero _).mono ?_
    rintro e w2 ⟨rfl, rfl⟩
    go_wp2_with fail
    refine (ref_of 0 _ (by omega)).mono ?_
    rintro e w2 ⟨rfl, rfl⟩
    generalize ofb 0 = z0
    generalize (cls z0 != 0) = z1
    go_wp2_with fail
    refine (ref_key a _ ha).mono ?_
    rintro e w2 ⟨rfl, rfl⟩
    go_wp2_with fail
    refine (same_any a y _ ha hy).mono ?_
    rintro e w2 ⟨rfl, rfl⟩
    rw [Hyk.out]
    go_wp2
    go_ret
    exact ⟨rfl, hbel⟩
  · have hb : ofb k < 18446744073709551616 := by unfold ofb; split <;> omega
    have d0 : ((k : Int) == 0) = false := beq_eq_false_iff_ne.2 (by omega)
    have d0' : (k == 0) = false := beq_eq_false_iff_ne.2 h0
    by_cases hn : Nan (ofb k)
    · have hc : (cls (ofb k) != 0) = false := by rw [hn.cls]; rfl
      have hord : FloatKind.f64.format.order 0 0 = some .eq := by decide +kernel
      have hof := fun w => of_any k w hk h0 _ (.inl ⟨hn, rfl⟩)
      have Hof := Lib.hid hof
      have Hc := Lib.hid hc
      clear hc hof hn h0
      go_enter Try.func10, Try.ntmps10
      go_wp2_with fail
      refine (awake _).mono ?_
      rintro e w1 ⟨rfl, hu⟩
      have hbel := hu.below (by simp)
      go_wp2_with fail
      refine (key_any a _ ha).mono ?_
      rintro e w2 ⟨rfl, rfl⟩
      go_wp2_with fail
      refine (Hcall.out _).mono ?_
      rintro e w2 ⟨rfl, rfl⟩
      go_wp2_with fail
      refine (Hof.out _).mono ?_
      rintro e w2 ⟨rfl, rfl⟩
      go_wp2_with fail
      refine (ref_of k _ hk).mono ?_
      rintro e w2 ⟨rfl, rfl⟩
      rw [Hc.out]
      generalize ofb k = z0 at *
      go_wp2_with fail
      refine (ref_key a _ ha).mono ?_
      rintro e w2 ⟨rfl, rfl⟩
      go_wp2_with fail
      refine (same_any a y _ ha hy).mono ?_
      rintro e w2 ⟨rfl, rfl⟩
      rw [Hyk.out]
      go_wp2
      go_ret
      exact ⟨rfl, hbel⟩
    · have hc : (cls (ofb k) != 0) = true := by
        rw [bne_iff_ne]
        intro h; exact hn ((kk_eq_zero hb).1 ((cls_eq_zero hb).1 h))
      have hof := fun w => of_any k w hk h0 _ (.inr ⟨hn, rfl⟩)
      have hbits := run_bits (ofb k)
      have Hof := Lib.hid hof
      have Hc := Lib.hid hc
      clear hc hof hn h0
      obtain ⟨z, hz⟩ : ∃ z, z = ofb k := ⟨_, rfl⟩
      rw [← hz] at hbits Hof
      have Hz := Lib.hid hz
      clear hz
      go_enter Try.func10, Try.ntmps10
      go_wp2_with fail
      refine (awake _).mono ?_
      rintro e w1 ⟨rfl, hu⟩
      have hbel := hu.below (by simp)
      go_wp2_with fail
      refine (key_any a _ ha).mono ?_
      rintro e w2 ⟨rfl, rfl⟩
      go_wp2_with fail
      refine (Hcall.out _).mono ?_
      rintro e w2 ⟨rfl, rfl⟩
      go_wp2_with fail
      refine (Hof.out _).mono ?_
      rintro e w2 ⟨rfl, rfl⟩
      go_wp2_with fail
      refine (ref_of k _ hk).mono ?_
      rintro e w2 ⟨rfl, rfl⟩
      rw [Hc.out, ← Hz.out]
      go_wp2_with fail
      refine (ref_key a _ ha).mono ?_
      rintro e w2 ⟨rfl, rfl⟩
      go_wp2_with fail
      refine (same_any a y _ ha hy).mono ?_
      rintro e w2 ⟨rfl, rfl⟩
      rw [Hyk.out]
      go_wp2
      go_ret
      exact ⟨rfl, hbel⟩

theorem law (w : World) (a b : Int) (ha : (Lit.int .u64 a).wf = true) (hb : (Lit.int .u64 b).wf = true) :
    Calls Try.prog 10 #[.int .u64 a, .int .u64 b] w fun e w' => e = .returned (.bool true) ∧ Below w.heap.size w w' := by
  have h1 := bounds_u64 ha
  have h2 := bounds_u64 hb
  obtain ⟨x, rfl⟩ : ∃ m : Nat, a = (m : Int) := ⟨a.toNat, by omega⟩
  obtain ⟨y, rfl⟩ : ∃ m : Nat, b = (m : Int) := ⟨b.toNat, by omega⟩
  exact law_nat x y w (by omega) (by omega)
end Go.Proofs.Ytjlcjcgoaakniaa.GaugeKeys
