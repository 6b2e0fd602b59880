/- Any two measures' classes and order are the document's; their keys are ordered as they are: the walk of besomlaw02.GaugeOrders. -/
import Derived.Test.YtjlcjcgoaakniaaGauge5
import Derived.Test.YtjlcjcgoaakniaaRow
namespace Go.Proofs.Ytjlcjcgoaakniaa.GaugeOrders
open Go.RowKit Go.Proofs.Ytjlcjcgoaakniaa.Mem Go.Proofs.Ytjlcjcgoaakniaa.Dbl Go.Proofs.Ytjlcjcgoaakniaa.Gauge Go.Proofs.Ytjlcjcgoaakniaa.Row

set_option maxHeartbeats 800000 in
theorem law_nat (a b : Nat) (w : World) (ha : a < 18446744073709551616) (hb : b < 18446744073709551616) :
    Calls Try.prog 6 #[.int .u64 (a : Int), .int .u64 (b : Int)] w fun e w' => e = .returned (.bool true) ∧ Below w.heap.size w w' := by
  have hf1 := run_from a
  have hf2 := run_from b
  have hx := @cls_ge a
  have hy := @cls_ge b
  obtain ⟨n, m, s, hn, hm, hs, hcase⟩ : ∃ (n m : Int) (s : Bool), n = sc (kk a) (kk b) ∧ m = sc (kk b) (kk a) ∧ s = (kk a == kk b) ∧
      ((n = -1 ∧ m = 1 ∧ s = false ∧ decide ((kk a : Int) < (kk b : Int)) = true ∧ decide (kk a < kk b) = true ∧ ((kk a : Int) == (kk b : Int)) = false ∧ (kk a == kk b) = false) ∨
       (n = 1 ∧ m = -1 ∧ s = false ∧ decide ((kk a : Int) < (kk b : Int)) = false ∧ decide (kk a < kk b) = false ∧ ((kk a : Int) == (kk b : Int)) = false ∧ (kk a == kk b) = false) ∨
       (n = 0 ∧ m = 0 ∧ s = true ∧ decide ((kk a : Int) < (kk b : Int)) = false ∧ decide (kk a < kk b) = false ∧ ((kk a : Int) == (kk b : Int)) = true ∧ (kk a == kk b) = true)) := by
    refine ⟨_, _, _, rfl, rfl, rfl, ?_⟩
    simp only [beq_iff_eq, beq_eq_false_iff_ne, decide_eq_true_eq, decide_eq_false_iff_not, ne_eq]
    unfold sc
    rcases Nat.lt_trichotomy (kk a) (kk b) with h | h | h
    · left; exact ⟨by rw [if_pos h], by rw [if_neg (by omega), if_pos h], by omega, by omega, by omega, by omega, by omega⟩
    · right; right; exact ⟨by rw [if_neg (by omega), if_neg (by omega)], by rw [if_neg (by omega), if_neg (by omega)], by omega, by omega, by omega, by omega, by omega⟩
    · right; left; exact ⟨by rw [if_neg (by omega), if_pos h], by rw [if_pos h], by omega, by omega, by omega, by omega, by omega⟩
  have Hn := Lib.hid hn
  have Hm := Lib.hid hm
  have Hs := Lib.hid hs
  clear hn hm hs
  rcases hcase with ⟨rfl, rfl, rfl, c1, c2, c3, c4⟩ | ⟨rfl, rfl, rfl, c1, c2, c3, c4⟩ | ⟨rfl, rfl, rfl, c1, c2, c3, c4⟩
  all_goals
    go_enter Try.func6, Try.ntmps6
    go_wp2_with fail
    refine (awake _).mono ?_
    rintro e w1 ⟨rfl, hu⟩
    have hbel := hu.below (by simp)
    go_wp2_with fail
    refine (class_any a _ ha).mono ?_
    rintro e w2 ⟨rfl, rfl⟩
    go_wp2_with fail
    refine (ref_class a _ ha).mono ?_
    rintro e w2 ⟨rfl, rfl⟩
    go_wp2_with fail
    refine (class_any b _ hb).mono ?_
    rintro e w2 ⟨rfl, rfl⟩
    go_wp2_with fail
    refine (ref_class b _ hb).mono ?_
    rintro e w2 ⟨rfl, rfl⟩
    go_wp2_with fail
    refine (ref_order a b _ ha hb).mono ?_
    rintro e w2 ⟨rfl, rfl⟩
    rw [← Hn.out]
    go_wp2_with fail
    refine (key_any a _ ha).mono ?_
    rintro e w2 ⟨rfl, rfl⟩
    go_wp2_with fail
    refine (key_any b _ hb).mono ?_
    rintro e w2 ⟨rfl, rfl⟩
    go_wp2_with fail
    refine (order_any a b _ ha hb).mono ?_
    rintro e w2 ⟨rfl, rfl⟩
    rw [← Hn.out]
    go_wp2_with fail
    refine (order_any b a _ hb ha).mono ?_
    rintro e w2 ⟨rfl, rfl⟩
    rw [← Hm.out]
    go_wp2_with fail
    refine (same_any a b _ ha hb).mono ?_
    rintro e w2 ⟨rfl, rfl⟩
    rw [← Hs.out]
    go_wp2
    go_ret
    exact ⟨rfl, hbel⟩

theorem law (w : World) (a b : Int) (ha : (Lit.int .u64 a).wf = true) (hb : (Lit.int .u64 b).wf = true) :
    Calls Try.prog 6 #[.int .u64 a, .int .u64 b] w fun e w' => e = .returned (.bool true) ∧ Below w.heap.size w w' := by
  have h1 := bounds_u64 ha
  have h2 := bounds_u64 hb
  obtain ⟨x, rfl⟩ : ∃ m : Nat, a = (m : Int) := ⟨a.toNat, by omega⟩
  obtain ⟨y, rfl⟩ : ∃ m : Nat, b = (m : Int) := ⟨b.toNat, by omega⟩
  exact law_nat x y w (by omega) (by omega)
end Go.Proofs.Ytjlcjcgoaakniaa.GaugeOrders
