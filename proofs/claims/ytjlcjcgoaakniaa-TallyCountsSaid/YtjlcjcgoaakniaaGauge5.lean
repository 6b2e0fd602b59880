/- The document's order, keys, and measures of keys, by bits; and the program's measure of a key. -/
import Derived.Test.YtjlcjcgoaakniaaGauge4
namespace Go.Proofs.Ytjlcjcgoaakniaa.Gauge
open Go.RowKit Go.Proofs.Ytjlcjcgoaakniaa.Mem Go.Proofs.Ytjlcjcgoaakniaa.Dbl

/-- The key of a class that has but one. -/
def kc (c : Int) : Nat := if c = 0 then 0 else if c = 1 then 4503599627370495 else if c = 3 then 9223372036854775807 else if c = 4 then 9223372036854775808 else 18442240474082181120
theorem kk_kc {x : Nat} (hx : x < 18446744073709551616) (h2 : cls x ≠ 2) (h5 : cls x ≠ 5) : kk x = kc (cls x) := by
  by_cases hn : 9218868437227405312 < x % 9223372036854775808
  · have e1 : cls x = 0 := by unfold cls; rw [if_pos hn]
    have e2 : kk x = 0 := by unfold kk; rw [if_pos hn]
    rw [e1, e2]; rfl
  · by_cases hp : 9223372036854775808 ≤ x
    · have e2 : kk x = 18446744073709551615 - x := by unfold kk; rw [if_neg hn, if_pos hp]
      by_cases hi : x % 9223372036854775808 = 9218868437227405312
      · have e1 : cls x = 1 := by unfold cls; rw [if_neg hn, if_pos hi, if_pos hp]
        rw [e1, e2, show kc 1 = 4503599627370495 by decide +kernel]; omega
      · by_cases h0 : x % 9223372036854775808 = 0
        · have e1 : cls x = 3 := by unfold cls; rw [if_neg hn, if_neg hi, if_pos h0, if_pos hp]
          rw [e1, e2, show kc 3 = 9223372036854775807 by decide +kernel]; omega
        · exact (h2 (by unfold cls; rw [if_neg hn, if_neg hi, if_neg h0, if_pos hp])).elim
    · have e2 : kk x = x + 9223372036854775808 := by unfold kk; rw [if_neg hn, if_neg hp]
      by_cases hi : x % 9223372036854775808 = 9218868437227405312
      · have e1 : cls x = 6 := by unfold cls; rw [if_neg hn, if_pos hi, if_neg hp]
        rw [e1, e2, show kc 6 = 18442240474082181120 by decide +kernel]; omega
      · by_cases h0 : x % 9223372036854775808 = 0
        · have e1 : cls x = 4 := by unfold cls; rw [if_neg hn, if_neg hi, if_pos h0, if_neg hp]
          rw [e1, e2, show kc 4 = 9223372036854775808 by decide +kernel]; omega
        · exact (h5 (by unfold cls; rw [if_neg hn, if_neg hi, if_neg h0, if_neg hp])).elim

theorem same_class {a b : Nat} (ha : a < 18446744073709551616) (hb : b < 18446744073709551616) (h : cls a = cls b) :
    (cls a = 2 ∧ (a < b ↔ kk b < kk a) ∧ (a = b ↔ kk a = kk b)) ∨ (cls a = 5 ∧ (a < b ↔ kk a < kk b) ∧ (a = b ↔ kk a = kk b)) ∨ (cls a ≠ 2 ∧ cls a ≠ 5 ∧ kk a = kk b) := by
  by_cases h2 : cls a = 2
  · left
    have hb2 : cls b = 2 := by rw [← h, h2]
    have p : ∀ x, x < 18446744073709551616 → cls x = 2 → 9223372036854775808 ≤ x ∧ ¬ 9218868437227405312 < x % 9223372036854775808 := by
      intro x hx hc
      unfold cls at hc
      repeat' split at hc
      all_goals omega
    obtain ⟨p1, p2⟩ := p a ha h2
    obtain ⟨q1, q2⟩ := p b hb hb2
    refine ⟨h2, ?_, ?_⟩ <;> (unfold kk; rw [if_neg p2, if_neg q2, if_pos p1, if_pos q1]; omega)
  · right
    by_cases h5 : cls a = 5
    · left
      have hb5 : cls b = 5 := by rw [← h, h5]
      have p : ∀ x, x < 18446744073709551616 → cls x = 5 → ¬ 9223372036854775808 ≤ x ∧ ¬ 9218868437227405312 < x % 9223372036854775808 := by
        intro x hx hc
        unfold cls at hc
        repeat' split at hc
        all_goals omega
      obtain ⟨p1, p2⟩ := p a ha h5
      obtain ⟨q1, q2⟩ := p b hb hb5
      refine ⟨h5, ?_, ?_⟩ <;> (unfold kk; rw [if_neg p2, if_neg q2, if_neg p1, if_neg q1]; omega)
    · right
      refine ⟨h2, h5, ?_⟩
      rw [kk_kc ha h2 h5, kk_kc hb (by rw [← h]; exact h2) (by rw [← h]; exact h5), h]

set_option maxHeartbeats 400000 in
theorem ref_order (a b : Nat) (w : World) (ha : a < 18446744073709551616) (hb : b < 18446744073709551616) :
    Calls Try.prog 21 #[.int .u64 (a : Int), .int .u64 (b : Int)] w fun e w' => e = .returned (.int .i64 (sc (kk a) (kk b))) ∧ w = w' := by
  have hx := @cls_ge a
  have hy := @cls_ge b
  by_cases hc : cls a = cls b
  · have hcb : cls b = cls a := hc.symm
    have Hcb := Lib.hid hcb
    rcases same_class ha hb hc with ⟨h2, hlt, heq⟩ | ⟨h2, hlt, heq⟩ | ⟨h2, h5, heq⟩
    · have Hca := Lib.hid h2
      obtain ⟨r, q, l, hr, hq, hl, hs⟩ : ∃ (r : Int) (q l : Bool), r = sc (kk a) (kk b) ∧ q = ((a : Int) == (b : Int)) ∧ l = decide ((a : Int) < (b : Int)) ∧ ((q = true ∧ r = 0) ∨ (q = false ∧ l = true ∧ r = 1) ∨ (q = false ∧ l = false ∧ r = -1)) := by
        refine ⟨_, _, _, rfl, rfl, rfl, ?_⟩
        simp only [beq_iff_eq, beq_eq_false_iff_ne, decide_eq_true_eq, decide_eq_false_iff_not]
        unfold sc
        by_cases e : a = b
        · left; exact ⟨by omega, by rw [if_neg (by have := heq.1 e; omega), if_neg (by have := heq.1 e; omega)]⟩
        · have hne : kk a ≠ kk b := fun h => e (heq.2 h)
          by_cases l : a < b
          · right; left; exact ⟨by omega, by omega, by rw [if_neg (by have := hlt.1 l; omega), if_pos (hlt.1 l)]⟩
          · right; right
            have : ¬ kk b < kk a := fun h => l (hlt.2 h)
            exact ⟨by omega, by omega, by rw [if_pos (by omega)]⟩
      rw [← hr]
      have hq' := hq.symm
      have hl' := hl.symm
      have hq2 : (a == b) = q := by rw [hq, Bool.eq_iff_iff, beq_iff_eq, beq_iff_eq]; omega
      have hl2 : decide (a < b) = l := by rw [hl, decide_eq_decide]; omega
      clear hr hq hl hc h2 hlt heq hcb hx hy
      rcases hs with ⟨rfl, rfl⟩ | ⟨rfl, rfl, rfl⟩ | ⟨rfl, rfl, rfl⟩
      all_goals
        go_enter Try.func21, Try.ntmps21
        go_wp2_with fail
        refine (ref_class a _ ha).mono ?_
        rintro e w1 ⟨rfl, rfl⟩
        rw [Hca.out]
        go_wp2_with fail
        refine (ref_class b _ hb).mono ?_
        rintro e w1 ⟨rfl, rfl⟩
        rw [Hcb.out, Hca.out]
        go_wp2
        go_ret
        exact ⟨rfl, rfl⟩
    · have Hca := Lib.hid h2
      obtain ⟨r, q, l, hr, hq, hl, hs⟩ : ∃ (r : Int) (q l : Bool), r = sc (kk a) (kk b) ∧ q = ((a : Int) == (b : Int)) ∧ l = decide ((a : Int) < (b : Int)) ∧ ((q = true ∧ r = 0) ∨ (q = false ∧ l = true ∧ r = -1) ∨ (q = false ∧ l = false ∧ r = 1)) := by
        refine ⟨_, _, _, rfl, rfl, rfl, ?_⟩
        simp only [beq_iff_eq, beq_eq_false_iff_ne, decide_eq_true_eq, decide_eq_false_iff_not]
        unfold sc
        by_cases e : a = b
        · left; exact ⟨by omega, by rw [if_neg (by have := heq.1 e; omega), if_neg (by have := heq.1 e; omega)]⟩
        · have hne : kk a ≠ kk b := fun h => e (heq.2 h)
          by_cases l : a < b
          · right; left; exact ⟨by omega, by omega, by rw [if_pos (hlt.1 l)]⟩
          · right; right
            have : ¬ kk a < kk b := fun h => l (hlt.2 h)
            exact ⟨by omega, by omega, by rw [if_neg this, if_pos (by omega)]⟩
      rw [← hr]
      have hq' := hq.symm
      have hl' := hl.symm
      have hq2 : (a == b) = q := by rw [hq, Bool.eq_iff_iff, beq_iff_eq, beq_iff_eq]; omega
      have hl2 : decide (a < b) = l := by rw [hl, decide_eq_decide]; omega
      clear hr hq hl hc h2 hlt heq hcb hx hy
      rcases hs with ⟨rfl, rfl⟩ | ⟨rfl, rfl, rfl⟩ | ⟨rfl, rfl, rfl⟩
      all_goals
        go_enter Try.func21, Try.ntmps21
        go_wp2_with fail
        refine (ref_class a _ ha).mono ?_
        rintro e w1 ⟨rfl, rfl⟩
        rw [Hca.out]
        go_wp2_with fail
        refine (ref_class b _ hb).mono ?_
        rintro e w1 ⟨rfl, rfl⟩
        rw [Hcb.out, Hca.out]
        go_wp2
        go_ret
        exact ⟨rfl, rfl⟩
    · have hs : sc (kk a) (kk b) = 0 := by unfold sc; rw [if_neg (by omega), if_neg (by omega)]
      rw [hs]
      have d2 : (cls a != 2) = true := bne_iff_ne.2 h2
      have d5 : (cls a != 5) = true := bne_iff_ne.2 h5
      clear hs hc heq hcb h2 h5
      go_enter Try.func21, Try.ntmps21
      go_wp2_with fail
      refine (ref_class a _ ha).mono ?_
      rintro e w1 ⟨rfl, rfl⟩
      go_wp2_with fail
      refine (ref_class b _ hb).mono ?_
      rintro e w1 ⟨rfl, rfl⟩
      rw [Hcb.out]
      go_wp2
      go_ret
      exact ⟨rfl, rfl⟩
  · have hne : (cls a != cls b) = true := by rw [bne_iff_ne]; exact hc
    rcases Int.lt_or_gt_of_ne hc with h | h
    · have hk := kk_lt_of_cls ha hb h
      have hs : sc (kk a) (kk b) = -1 := by unfold sc; rw [if_pos hk]
      have d : decide (cls a < cls b) = true := decide_eq_true h
      rw [hs]
      clear hc hs hk
      go_enter Try.func21, Try.ntmps21
      go_wp2_with fail
      refine (ref_class a _ ha).mono ?_
      rintro e w1 ⟨rfl, rfl⟩
      go_wp2_with fail
      refine (ref_class b _ hb).mono ?_
      rintro e w1 ⟨rfl, rfl⟩
      go_wp2
      go_ret
      exact ⟨rfl, rfl⟩
    · have hk := kk_lt_of_cls hb ha h
      have hs : sc (kk a) (kk b) = 1 := by unfold sc; rw [if_neg (by omega), if_pos hk]
      have d : decide (cls a < cls b) = false := decide_eq_false (by omega)
      rw [hs]
      clear hc hs hk
      go_enter Try.func21, Try.ntmps21
      go_wp2_with fail
      refine (ref_class a _ ha).mono ?_
      rintro e w1 ⟨rfl, rfl⟩
      go_wp2_with fail
      refine (ref_class b _ hb).mono ?_
      rintro e w1 ⟨rfl, rfl⟩
      go_wp2
      go_ret
      exact ⟨rfl, rfl⟩
end Go.Proofs.Ytjlcjcgoaakniaa.Gauge
