/- Any task's word, or that it may not be, is the document's, and is read as it: the plain law behind TaskPacks, over the printed functions. -/
import Derived.Test.YtjbcjpdkflppaaaPTaskPacksx3
namespace Go.Proofs.Ytjbcjpdkflppaaa.PureTaskPacks
open Go.RowKit Go.Proofs.Ytjbcjpdkflppaaa.PTaskPacks Go.Proofs.YtjbcjpdkflppaaaW.PrintWords Go.Proofs.YtjbcjpdkflppaaaW.PrintLast
theorem good_f (a b c : Int) : task_Task_good.f a b c = some (decide (0 ≤ a ∧ a < 65536 ∧ 0 ≤ b ∧ b ≤ c ∧ c ≤ 4095)) := by
  unfold task_Task_good.f
  by_cases h1 : a ≥ 0
  · by_cases h2 : a < 65536
    · by_cases h3 : b ≥ 0
      · by_cases h4 : b ≤ c
        · rw [if_pos h1, if_pos h2, if_pos h3, if_pos h4]; congr 1; rw [Bool.eq_iff_iff]; simp only [decide_eq_true_eq]; omega
        · rw [if_pos h1, if_pos h2, if_pos h3, if_neg h4, decide_eq_false (by omega)]
      · rw [if_pos h1, if_pos h2, if_neg h3, decide_eq_false (by omega)]
    · rw [if_pos h1, if_neg h2, decide_eq_false (by omega)]
  · rw [if_neg h1, decide_eq_false (by omega)]

theorem pack_yes {a b c : Int} (h : 0 ≤ a ∧ a < 65536 ∧ 0 ≤ b ∧ b ≤ c ∧ c ≤ 4095) : task_Pack.f a b c = some (1 + a + 65536 * b + 268435456 * c, 0) := by
  unfold task_Pack.f
  rw [good_f, decide_eq_true h]
  simp only [Option.bind_some, if_true]
  have e1 : wrap64 (1 + a) = 1 + a := by unfold wrap64; omega
  have e2 : wrap64 (65536 * b) = 65536 * b := by unfold wrap64; omega
  have e3 : wrap64 (268435456 * c) = 268435456 * c := by unfold wrap64; omega
  have e4 : wrap64 (1 + a + 65536 * b) = 1 + a + 65536 * b := by unfold wrap64; omega
  have e5 : wrap64 (1 + a + 65536 * b + 268435456 * c) = 1 + a + 65536 * b + 268435456 * c := by unfold wrap64; omega
  rw [e1, e2, e3, e4, e5]

theorem pack_no {a b c : Int} (h : ¬ (0 ≤ a ∧ a < 65536 ∧ 0 ≤ b ∧ b ≤ c ∧ c ≤ 4095)) : task_Pack.f a b c = some (0, 1) := by
  unfold task_Pack.f
  rw [good_f, decide_eq_false h]
  simp

theorem awake_f : besomlaw07_awake.f = some true := by
  unfold besomlaw07_awake.f
  rw [pack_yes (by omega)]
  simp

theorem refgood_f (a b c : Int) : besomref07_Good.f a b c = some (decide (0 ≤ a ∧ a < 65536 ∧ 0 ≤ b ∧ b ≤ c ∧ c ≤ 4095)) := by
  unfold besomref07_Good.f
  by_cases h1 : a ≥ 0
  · by_cases h2 : a ≤ 65535
    · by_cases h3 : b ≥ 0
      · by_cases h4 : b ≤ c
        · rw [if_pos h1, if_pos h2, if_pos h3, if_pos h4]; congr 1; rw [Bool.eq_iff_iff]; simp only [decide_eq_true_eq]; omega
        · rw [if_pos h1, if_pos h2, if_pos h3, if_neg h4, decide_eq_false (by omega)]
      · rw [if_pos h1, if_pos h2, if_neg h3, decide_eq_false (by omega)]
    · rw [if_pos h1, if_neg h2, decide_eq_false (by omega)]
  · rw [if_neg h1, decide_eq_false (by omega)]

theorem unpack_low {n : Int} (h : n < 1) : task_Unpack.f n = some (0, 0, 0, 2) := by unfold task_Unpack.f; rw [if_pos h]
theorem parts {n : Int} (h : 1 ≤ n) (h2 : n ≤ 9223372036854775807) :
    wrap64 (n - 1) = n - 1 ∧ Int.tmod (n - 1) 65536 = (n - 1) % 65536 ∧ wrap64 (Int.tdiv (n - 1) 65536) = (n - 1) / 65536 ∧
    Int.tmod ((n - 1) / 65536) 4096 = (n - 1) / 65536 % 4096 ∧ wrap64 (Int.tdiv (n - 1) 268435456) = (n - 1) / 268435456 := by
  have e1 : Int.tmod (n - 1) 65536 = (n - 1) % 65536 := Int.tmod_eq_emod_of_nonneg (by omega)
  have e2 : Int.tdiv (n - 1) 65536 = (n - 1) / 65536 := Int.tdiv_eq_ediv_of_nonneg (by omega)
  have e3 : Int.tdiv (n - 1) 268435456 = (n - 1) / 268435456 := Int.tdiv_eq_ediv_of_nonneg (by omega)
  have e4 : Int.tmod ((n - 1) / 65536) 4096 = (n - 1) / 65536 % 4096 := Int.tmod_eq_emod_of_nonneg (by omega)
  rw [e1, e2, e3, e4]
  refine ⟨?_, rfl, ?_, rfl, ?_⟩ <;> (unfold wrap64; omega)
theorem unpack_yes {n : Int} (h : 1 ≤ n) (h2 : n ≤ 9223372036854775807) (hg : (n - 1) / 65536 % 4096 ≤ (n - 1) / 268435456 ∧ (n - 1) / 268435456 ≤ 4095) :
    task_Unpack.f n = some ((n - 1) % 65536, (n - 1) / 65536 % 4096, (n - 1) / 268435456, 0) := by
  unfold task_Unpack.f
  obtain ⟨p1, p2, p3, p4, p5⟩ := parts h h2
  rw [if_neg (by omega), p1, p3, p2, p4, p5, good_f, decide_eq_true (by omega)]
  simp
theorem unpack_no {n : Int} (h : 1 ≤ n) (h2 : n ≤ 9223372036854775807) (hg : ¬ ((n - 1) / 65536 % 4096 ≤ (n - 1) / 268435456 ∧ (n - 1) / 268435456 ≤ 4095)) :
    task_Unpack.f n = some (0, 0, 0, 2) := by
  unfold task_Unpack.f
  obtain ⟨p1, p2, p3, p4, p5⟩ := parts h h2
  rw [if_neg (by omega), p1, p3, p2, p4, p5, good_f, decide_eq_false (by omega)]
  simp

theorem TaskPacks (a b c : Int) : besomlaw07_TaskPacks.f a b c = some true := by
  unfold besomlaw07_TaskPacks.f
  rw [awake_f]
  simp only [Option.bind_some, if_true]
  by_cases h : 0 ≤ a ∧ a < 65536 ∧ 0 ≤ b ∧ b ≤ c ∧ c ≤ 4095
  · rw [pack_yes h, refgood_f, decide_eq_true h]
    simp only [Option.bind_some, if_true]
    have e1 : (1 + a + 65536 * b + 268435456 * c - 1) % 65536 = a := by omega
    have e2 : (1 + a + 65536 * b + 268435456 * c - 1) / 65536 % 4096 = b := by omega
    have e3 : (1 + a + 65536 * b + 268435456 * c - 1) / 268435456 = c := by omega
    rw [unpack_yes (by omega) (by omega) (by omega), e1, e2, e3]
    have w1 : wrap64 (1 + a) = 1 + a := by unfold wrap64; omega
    have w2 : wrap64 (65536 * b) = 65536 * b := by unfold wrap64; omega
    have w3 : wrap64 (268435456 * c) = 268435456 * c := by unfold wrap64; omega
    have w4 : wrap64 (1 + a + 65536 * b) = 1 + a + 65536 * b := by unfold wrap64; omega
    have w5 : wrap64 (1 + a + 65536 * b + 268435456 * c) = 1 + a + 65536 * b + 268435456 * c := by unfold wrap64; omega
    unfold besomref07_Pack.f task_Task_Len.f
    rw [w1, w2, w3, w4, w5]
    simp
    omega
  · rw [pack_no h, refgood_f, decide_eq_false h]
    simp
end Go.Proofs.Ytjbcjpdkflppaaa.PureTaskPacks
