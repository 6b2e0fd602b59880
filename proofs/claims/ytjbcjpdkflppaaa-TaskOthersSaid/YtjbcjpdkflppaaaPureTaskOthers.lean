/- Two tasks that are unlike have unlike words: the plain law behind TaskOthers, over the printed functions. -/
import Derived.Test.YtjbcjpdkflppaaaPTaskOthersx2
namespace Go.Proofs.Ytjbcjpdkflppaaa.PureTaskOthers
open Go.RowKit Go.Proofs.Ytjbcjpdkflppaaa.PTaskOthers Go.Proofs.YtjbcjpdkflppaaaW.PrintWords Go.Proofs.YtjbcjpdkflppaaaW.PrintLast

theorem good_f (a b c : Int) : task_Task_good.f a b c = some (decide (0 ≤ a ∧ a < 65536 ∧ 0 ≤ b ∧ b ≤ c ∧ c ≤ 4095)) := by
  unfold task_Task_good.f
  by_cases h1 : a ≥ 0
  · by_cases h2 : a < 65536
    · by_cases h3 : b ≥ 0
      · by_cases h4 : b ≤ c
        · rw [if_pos h1, if_pos h2, if_pos h3, if_pos h4]; congr 1; rw [Bool.eq_iff_iff]; simp only [decide_eq_true_eq]; omega
        · rw [if_pos h1, if_pos h2, if_pos h3, if_neg h4, decide_eq_false (by omega)]
      · rw [if_pos h1, if_pos h2, if_neg h3, decide_eq_false (by omega)]
    · rw [if_pos h1, if_neg h2, decide_eq_false (by omega)]
  · rw [if_neg h1, decide_eq_false (by omega)]

theorem pack_yes {a b c : Int} (h : 0 ≤ a ∧ a < 65536 ∧ 0 ≤ b ∧ b ≤ c ∧ c ≤ 4095) : task_Pack.f a b c = some (1 + a + 65536 * b + 268435456 * c, 0) := by
  unfold task_Pack.f
  rw [good_f, decide_eq_true h]
  simp only [Option.bind_some, if_true]
  have e1 : wrap64 (1 + a) = 1 + a := by unfold wrap64; omega
  have e2 : wrap64 (65536 * b) = 65536 * b := by unfold wrap64; omega
  have e3 : wrap64 (268435456 * c) = 268435456 * c := by unfold wrap64; omega
  have e4 : wrap64 (1 + a + 65536 * b) = 1 + a + 65536 * b := by unfold wrap64; omega
  have e5 : wrap64 (1 + a + 65536 * b + 268435456 * c) = 1 + a + 65536 * b + 268435456 * c := by unfold wrap64; omega
  rw [e1, e2, e3, e4, e5]

theorem pack_no {a b c : Int} (h : ¬ (0 ≤ a ∧ a < 65536 ∧ 0 ≤ b ∧ b ≤ c ∧ c ≤ 4095)) : task_Pack.f a b c = some (0, 1) := by
  unfold task_Pack.f
  rw [good_f, decide_eq_false h]
  simp

theorem awake_f : besomlaw07_awake.f = some true := by
  unfold besomlaw07_awake.f
  rw [pack_yes (by omega)]
  simp

theorem TaskOthers (a b c d e f : Int) : besomlaw07_TaskOthers.f a b c d e f = some true := by
  unfold besomlaw07_TaskOthers.f
  rw [awake_f]
  simp only [Option.bind_some, if_true]
  by_cases h1 : 0 ≤ a ∧ a < 65536 ∧ 0 ≤ b ∧ b ≤ c ∧ c ≤ 4095
  · rw [pack_yes h1]
    by_cases h2 : 0 ≤ d ∧ d < 65536 ∧ 0 ≤ e ∧ e ≤ f ∧ f ≤ 4095
    · rw [pack_yes h2]
      simp only [Option.bind_some, if_true]
      congr 1
      rw [beq_iff_eq, Bool.eq_iff_iff]
      simp only [beq_iff_eq, Bool.and_eq_true]
      omega
    · rw [pack_no h2]; simp
  · rw [pack_no h1]
    by_cases h2 : 0 ≤ d ∧ d < 65536 ∧ 0 ≤ e ∧ e ≤ f ∧ f ≤ 4095
    · rw [pack_yes h2]; simp
    · rw [pack_no h2]; simp
end Go.Proofs.Ytjbcjpdkflppaaa.PureTaskOthers
