/- Measures: their order, whether two are alike, their keys; the document's answers of the same. -/
import Derived.Test.YtjlcjcgoaakniaaGauge
import Derived.Laws.BitsAllLaws
namespace Go.Proofs.Ytjlcjcgoaakniaa.Gauge
open Go.RowKit Go.Proofs.Ytjlcjcgoaakniaa.Mem Go.Proofs.Ytjlcjcgoaakniaa.Dbl

theorem isnan_int (x : Int) (w : World) : Calls Try.prog 70 #[.int .i64 x] w fun e w' => e = .returned (.bool false) ∧ w = w' := by
  go_enter Try.func70, Try.ntmps70
  go_wp2
  go_ret
  exact ⟨rfl, rfl⟩

theorem compare_any (a b : Int) (w : World) (r : Int) (hr : (a < b ∧ r = -1) ∨ (b < a ∧ r = 1)) :
    Calls Try.prog 51 #[.int .i64 a, .int .i64 b] w fun e w' => e = .returned (.int .i64 r) ∧ w = w' := by
  rcases hr with ⟨h, rfl⟩ | ⟨h, rfl⟩
  · have d : decide (a < b) = true := decide_eq_true h
    go_enter Try.func51, Try.ntmps51
    go_wp2_with fail
    refine (isnan_int a _).mono ?_
    rintro e w1 ⟨rfl, rfl⟩
    go_wp2_with fail
    refine (isnan_int b _).mono ?_
    rintro e w1 ⟨rfl, rfl⟩
    go_wp2
    go_ret
    exact ⟨rfl, rfl⟩
  · have d : decide (a < b) = false := decide_eq_false (by omega)
    have d2 : decide (b < a) = true := decide_eq_true h
    go_enter Try.func51, Try.ntmps51
    go_wp2_with fail
    refine (isnan_int a _).mono ?_
    rintro e w1 ⟨rfl, rfl⟩
    go_wp2_with fail
    refine (isnan_int b _).mono ?_
    rintro e w1 ⟨rfl, rfl⟩
    go_wp2
    go_ret
    exact ⟨rfl, rfl⟩

theorem order_any (a b : Nat) (w : World) (ha : a < 18446744073709551616) (hb : b < 18446744073709551616) :
    Calls Try.prog 23 #[.float .f64 a, .float .f64 b] w fun e w' => e = .returned (.int .i64 (sc (kk a) (kk b))) ∧ w = w' := by
  by_cases hc : cls a = cls b
  · have ho := order_kk ha hb hc
    obtain ⟨c, hca⟩ : ∃ c, c = cls a := ⟨_, rfl⟩
    have hcb : cls b = c := by rw [hca, hc]
    have Hca := Lib.hid hca.symm
    have Hcb := Lib.hid hcb
    clear hca hcb hc
    rcases ho with ⟨hk, ho⟩ | ⟨hk, ho⟩ | ⟨hk, ho | ho⟩
    · have hs : sc (kk a) (kk b) = -1 := by unfold sc; rw [if_pos hk]
      rw [hs]
      clear hk hs
      go_enter Try.func23, Try.ntmps23
      go_wp2_with fail
      refine (class_any a _ ha).mono ?_
      rintro e w1 ⟨rfl, rfl⟩
      rw [Hca.out]
      go_wp2_with fail
      refine (class_any b _ hb).mono ?_
      rintro e w1 ⟨rfl, rfl⟩
      rw [Hcb.out]
      go_wp2
      go_ret
      exact ⟨rfl, rfl⟩
    · have hs : sc (kk a) (kk b) = 1 := by unfold sc; rw [if_neg (by omega), if_pos hk]
      rw [hs]
      clear hk hs
      go_enter Try.func23, Try.ntmps23
      go_wp2_with fail
      refine (class_any a _ ha).mono ?_
      rintro e w1 ⟨rfl, rfl⟩
      rw [Hca.out]
      go_wp2_with fail
      refine (class_any b _ hb).mono ?_
      rintro e w1 ⟨rfl, rfl⟩
      rw [Hcb.out]
      go_wp2
      go_ret
      exact ⟨rfl, rfl⟩
    all_goals
      have hs : sc (kk a) (kk b) = 0 := by unfold sc; rw [if_neg (by omega), if_neg (by omega)]
      rw [hs]
      clear hk hs
      go_enter Try.func23, Try.ntmps23
      go_wp2_with fail
      refine (class_any a _ ha).mono ?_
      rintro e w1 ⟨rfl, rfl⟩
      rw [Hca.out]
      go_wp2_with fail
      refine (class_any b _ hb).mono ?_
      rintro e w1 ⟨rfl, rfl⟩
      rw [Hcb.out]
      go_wp2
      go_ret
      exact ⟨rfl, rfl⟩
  · obtain ⟨r, hr, hs⟩ : ∃ r, ((cls a < cls b ∧ r = -1) ∨ (cls b < cls a ∧ r = 1)) ∧ sc (kk a) (kk b) = r := by
      rcases Int.lt_or_gt_of_ne hc with h | h
      · exact ⟨-1, .inl ⟨h, rfl⟩, by unfold sc; rw [if_pos (kk_lt_of_cls ha hb h)]⟩
      · have := kk_lt_of_cls hb ha h
        exact ⟨1, .inr ⟨h, rfl⟩, by unfold sc; rw [if_neg (by omega), if_pos this]⟩
    rw [hs]
    have hne : (cls a != cls b) = true := by rw [bne_iff_ne]; exact hc
    have hx := @cls_ge a
    have hy := @cls_ge b
    clear hc hs
    go_enter Try.func23, Try.ntmps23
    go_wp2_with fail
    refine (class_any a _ ha).mono ?_
    rintro e w1 ⟨rfl, rfl⟩
    go_wp2_with fail
    refine (class_any b _ hb).mono ?_
    rintro e w1 ⟨rfl, rfl⟩
    go_wp2_with fail
    refine (compare_any (cls a) (cls b) _ r hr).mono ?_
    rintro e w1 ⟨rfl, rfl⟩
    go_wp2
    go_ret
    exact ⟨rfl, rfl⟩

theorem same_any (a b : Nat) (w : World) (ha : a < 18446744073709551616) (hb : b < 18446744073709551616) :
    Calls Try.prog 18 #[.float .f64 a, .float .f64 b] w fun e w' => e = .returned (.bool (kk a == kk b)) ∧ w = w' := by
  obtain ⟨s, hs⟩ : ∃ s, s = sc (kk a) (kk b) := ⟨_, rfl⟩
  have he : (s == 0) = (kk a == kk b) := by
    rw [hs, Bool.eq_iff_iff, beq_iff_eq, beq_iff_eq]
    unfold sc
    split
    · omega
    · split <;> omega
  obtain ⟨r, hr⟩ : ∃ r, r = (kk a == kk b) := ⟨_, rfl⟩
  rw [← hr]
  rw [← hr] at he
  have Hs := Lib.hid hs
  clear hs hr
  go_enter Try.func18, Try.ntmps18
  go_wp2_with fail
  refine (order_any a b _ ha hb).mono ?_
  rintro e w1 ⟨rfl, rfl⟩
  rw [← Hs.out]
  go_wp2
  go_ret
  exact ⟨rfl, rfl⟩

theorem half_any (w : World) : Calls Try.prog 50 #[] w fun e w' => e = .returned (.int .u64 9223372036854775808) ∧ w = w' := by
  go_enter Try.func50, Try.ntmps50
  go_wp2
  go_ret
  exact ⟨rfl, rfl⟩
end Go.Proofs.Ytjlcjcgoaakniaa.Gauge
