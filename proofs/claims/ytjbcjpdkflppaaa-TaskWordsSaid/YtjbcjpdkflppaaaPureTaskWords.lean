/- Any word's task, or that it is none's, is the document's; it has just that word: the plain law behind TaskWords, over the printed functions. -/
import Derived.Test.YtjbcjpdkflppaaaPTaskWordsx2
import Derived.OpenShut
namespace Go.Proofs.Ytjbcjpdkflppaaa.Pure
open Go.RowKit Go.Proofs.Ytjbcjpdkflppaaa.PTaskWords Go.Proofs.YtjbcjpdkflppaaaW.PrintWords Go.Proofs.YtjbcjpdkflppaaaW.PrintLast
theorem good_f (a b c : Int) : task_Task_good.f a b c = some (decide (0 ≤ a ∧ a < 65536 ∧ 0 ≤ b ∧ b ≤ c ∧ c ≤ 4095)) := by
  unfold task_Task_good.f
  by_cases h1 : a ≥ 0
  · by_cases h2 : a < 65536
    · by_cases h3 : b ≥ 0
      · by_cases h4 : b ≤ c
        · rw [if_pos h1, if_pos h2, if_pos h3, if_pos h4]; congr 1; rw [Bool.eq_iff_iff]; simp only [decide_eq_true_eq]; omega
        · rw [if_pos h1, if_pos h2, if_pos h3, if_neg h4, decide_eq_false (by omega)]
      · rw [if_pos h1, if_pos h2, if_neg h3, decide_eq_false (by omega)]
    · rw [if_pos h1, if_neg h2, decide_eq_false (by omega)]
  · rw [if_neg h1, decide_eq_false (by omega)]

theorem pack_yes {a b c : Int} (h : 0 ≤ a ∧ a < 65536 ∧ 0 ≤ b ∧ b ≤ c ∧ c ≤ 4095) : task_Pack.f a b c = some (1 + a + 65536 * b + 268435456 * c, 0) := by
  unfold task_Pack.f
  rw [good_f, decide_eq_true h]
  simp only [Option.bind_some, if_true]
  have e1 : wrap64 (1 + a) = 1 + a := by unfold wrap64; omega
  have e2 : wrap64 (65536 * b) = 65536 * b := by unfold wrap64; omega
  have e3 : wrap64 (268435456 * c) = 268435456 * c := by unfold wrap64; omega
  have e4 : wrap64 (1 + a + 65536 * b) = 1 + a + 65536 * b := by unfold wrap64; omega
  have e5 : wrap64 (1 + a + 65536 * b + 268435456 * c) = 1 + a + 65536 * b + 268435456 * c := by unfold wrap64; omega
  rw [e1, e2, e3, e4, e5]

theorem pack_no {a b c : Int} (h : ¬ (0 ≤ a ∧ a < 65536 ∧ 0 ≤ b ∧ b ≤ c ∧ c ≤ 4095)) : task_Pack.f a b c = some (0, 1) := by
  unfold task_Pack.f
  rw [good_f, decide_eq_false h]
  simp

theorem awake_f : besomlaw07_awake.f = some true := by
  unfold besomlaw07_awake.f
  rw [pack_yes (by omega)]
  simp

theorem refgood_f (a b c : Int) : besomref07_Good.f a b c = some (decide (0 ≤ a ∧ a < 65536 ∧ 0 ≤ b ∧ b ≤ c ∧ c ≤ 4095)) := by
  unfold besomref07_Good.f
  by_cases h1 : a ≥ 0
  · by_cases h2 : a ≤ 65535
    · by_cases h3 : b ≥ 0
      · by_cases h4 : b ≤ c
        · rw [if_pos h1, if_pos h2, if_pos h3, if_pos h4]; congr 1; rw [Bool.eq_iff_iff]; simp only [decide_eq_true_eq]; omega
        · rw [if_pos h1, if_pos h2, if_pos h3, if_neg h4, decide_eq_false (by omega)]
      · rw [if_pos h1, if_pos h2, if_neg h3, decide_eq_false (by omega)]
    · rw [if_pos h1, if_neg h2, decide_eq_false (by omega)]
  · rw [if_neg h1, decide_eq_false (by omega)]

theorem unpack_low {n : Int} (h : n < 1) : task_Unpack.f n = some (0, 0, 0, 2) := by unfold task_Unpack.f; rw [if_pos h]
theorem parts {n : Int} (h : 1 ≤ n) (h2 : n ≤ 9223372036854775807) :
    wrap64 (n - 1) = n - 1 ∧ Int.tmod (n - 1) 65536 = (n - 1) % 65536 ∧ wrap64 (Int.tdiv (n - 1) 65536) = (n - 1) / 65536 ∧
    Int.tmod ((n - 1) / 65536) 4096 = (n - 1) / 65536 % 4096 ∧ wrap64 (Int.tdiv (n - 1) 268435456) = (n - 1) / 268435456 := by
  have e1 : Int.tmod (n - 1) 65536 = (n - 1) % 65536 := Int.tmod_eq_emod_of_nonneg (by omega)
  have e2 : Int.tdiv (n - 1) 65536 = (n - 1) / 65536 := Int.tdiv_eq_ediv_of_nonneg (by omega)
  have e3 : Int.tdiv (n - 1) 268435456 = (n - 1) / 268435456 := Int.tdiv_eq_ediv_of_nonneg (by omega)
  have e4 : Int.tmod ((n - 1) / 65536) 4096 = (n - 1) / 65536 % 4096 := Int.tmod_eq_emod_of_nonneg (by omega)
  rw [e1, e2, e3, e4]
  refine ⟨?_, rfl, ?_, rfl, ?_⟩ <;> (unfold wrap64; omega)
theorem unpack_yes {n : Int} (h : 1 ≤ n) (h2 : n ≤ 9223372036854775807) (hg : (n - 1) / 65536 % 4096 ≤ (n - 1) / 268435456 ∧ (n - 1) / 268435456 ≤ 4095) :
    task_Unpack.f n = some ((n - 1) % 65536, (n - 1) / 65536 % 4096, (n - 1) / 268435456, 0) := by
  unfold task_Unpack.f
  obtain ⟨p1, p2, p3, p4, p5⟩ := parts h h2
  rw [if_neg (by omega), p1, p3, p2, p4, p5, good_f, decide_eq_true (by omega)]
  simp
theorem unpack_no {n : Int} (h : 1 ≤ n) (h2 : n ≤ 9223372036854775807) (hg : ¬ ((n - 1) / 65536 % 4096 ≤ (n - 1) / 268435456 ∧ (n - 1) / 268435456 ≤ 4095)) :
    task_Unpack.f n = some (0, 0, 0, 2) := by
  unfold task_Unpack.f
  obtain ⟨p1, p2, p3, p4, p5⟩ := parts h h2
  rw [if_neg (by omega), p1, p3, p2, p4, p5, good_f, decide_eq_false (by omega)]
  simp

theorem refunpack_low {n : Int} (h : n < 1) : besomref07_Unpack.f n = some (0, 0, 0, false) := by unfold besomref07_Unpack.f; rw [if_pos h]
theorem refunpack_yes {n : Int} (h : 1 ≤ n) (h2 : n ≤ 9223372036854775807) (hg : (n - 1) / 65536 % 4096 ≤ (n - 1) / 268435456 ∧ (n - 1) / 268435456 ≤ 4095) :
    besomref07_Unpack.f n = some ((n - 1) % 65536, (n - 1) / 65536 % 4096, (n - 1) / 268435456, true) := by
  unfold besomref07_Unpack.f
  obtain ⟨p1, p2, p3, p4, p5⟩ := parts h h2
  rw [if_neg (by omega), p1, p3, p2, p4, p5, refgood_f, decide_eq_true (by omega)]
  simp
theorem refunpack_no {n : Int} (h : 1 ≤ n) (h2 : n ≤ 9223372036854775807) (hg : ¬ ((n - 1) / 65536 % 4096 ≤ (n - 1) / 268435456 ∧ (n - 1) / 268435456 ≤ 4095)) :
    besomref07_Unpack.f n = some (0, 0, 0, false) := by
  unfold besomref07_Unpack.f
  obtain ⟨p1, p2, p3, p4, p5⟩ := parts h h2
  rw [if_neg (by omega), p1, p3, p2, p4, p5, refgood_f, decide_eq_false (by omega)]
  simp

theorem TaskWords : besomlaw07_TaskWords.Pure := by
  intro n hn
  have hb : n ≤ 9223372036854775807 := (Go.bounds_i64 hn).2
  unfold besomlaw07_TaskWords.f
  rw [awake_f]
  simp only [Option.bind_some, if_true]
  by_cases h : n < 1
  · rw [unpack_low h, refunpack_low h]
    simp
  · have h1 : 1 ≤ n := by omega
    by_cases hg : (n - 1) / 65536 % 4096 ≤ (n - 1) / 268435456 ∧ (n - 1) / 268435456 ≤ 4095
    · rw [unpack_yes h1 hb hg, refunpack_yes h1 hb hg]
      simp only [Option.bind_some, if_true]
      rw [pack_yes (by omega)]
      simp
      omega
    · rw [unpack_no h1 hb hg, refunpack_no h1 hb hg]
      simp
end Go.Proofs.Ytjbcjpdkflppaaa.Pure
