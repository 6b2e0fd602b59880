/- Tasks: whether one may be, its word, and a word's task, by contracts. -/
import Derived.Test.YtjbcjpdkflppaaaProg
import Derived.Test.YtjbcjpdkflppaaaMem
namespace Go.Proofs.Ytjbcjpdkflppaaa.Task
open Go.RowKit Go.Proofs.Ytjbcjpdkflppaaa.Mem

theorem good_yes (a b c : Int) (w : World) (h0 : 0 ≤ a) (h1 : a < 65536) (h2 : 0 ≤ b) (h3 : b ≤ c) (h4 : c ≤ 4095) :
    Calls Try.prog 26 #[.agg #[.int .i64 a, .int .i64 b, .int .i64 c]] w fun e w' => e = .returned (.bool true) ∧ Upd (fun _ => False) w w' := by
  have d0 : decide (0 ≤ a) = true := decide_eq_true h0
  have d1 : decide (a < 65536) = true := decide_eq_true h1
  have d2 : decide (0 ≤ b) = true := decide_eq_true h2
  have d3 : decide (b ≤ c) = true := decide_eq_true h3
  have d4 : decide (c ≤ 4095) = true := decide_eq_true h4
  go_enter Try.func26, Try.ntmps26
  go_wp2
  go_ret
  exact ⟨rfl, (Upd.refl _ _).alloc _⟩

theorem good_no (a b c : Int) (w : World) (h : ¬ (0 ≤ a ∧ a < 65536 ∧ 0 ≤ b ∧ b ≤ c ∧ c ≤ 4095)) :
    Calls Try.prog 26 #[.agg #[.int .i64 a, .int .i64 b, .int .i64 c]] w fun e w' => e = .returned (.bool false) ∧ Upd (fun _ => False) w w' := by
  by_cases h0 : 0 ≤ a
  · have d0 : decide (0 ≤ a) = true := decide_eq_true h0
    by_cases h1 : a < 65536
    · have d1 : decide (a < 65536) = true := decide_eq_true h1
      by_cases h2 : 0 ≤ b
      · have d2 : decide (0 ≤ b) = true := decide_eq_true h2
        by_cases h3 : b ≤ c
        · have d3 : decide (b ≤ c) = true := decide_eq_true h3
          have d4 : decide (c ≤ 4095) = false := decide_eq_false (by omega)
          clear h
          go_enter Try.func26, Try.ntmps26
          go_wp2
          go_ret
          exact ⟨rfl, (Upd.refl _ _).alloc _⟩
        · have d3 : decide (b ≤ c) = false := decide_eq_false h3
          clear h h3
          go_enter Try.func26, Try.ntmps26
          go_wp2
          go_ret
          exact ⟨rfl, (Upd.refl _ _).alloc _⟩
      · have d2 : decide (0 ≤ b) = false := decide_eq_false h2
        clear h h2
        go_enter Try.func26, Try.ntmps26
        go_wp2
        go_ret
        exact ⟨rfl, (Upd.refl _ _).alloc _⟩
    · have d1 : decide (a < 65536) = false := decide_eq_false h1
      clear h h1
      go_enter Try.func26, Try.ntmps26
      go_wp2
      go_ret
      exact ⟨rfl, (Upd.refl _ _).alloc _⟩
  · have d0 : decide (0 ≤ a) = false := decide_eq_false h0
    clear h h0
    go_enter Try.func26, Try.ntmps26
    go_wp2
    go_ret
    exact ⟨rfl, (Upd.refl _ _).alloc _⟩

theorem pack_yes (a b c : Int) (w : World) (h0 : 0 ≤ a) (h1 : a < 65536) (h2 : 0 ≤ b) (h3 : b ≤ c) (h4 : c ≤ 4095) :
    Calls Try.prog 12 #[.agg #[.int .i64 a, .int .i64 b, .int .i64 c]] w fun e w' => e = .returned (.tuple #[.int .i64 (1 + a + 65536 * b + 268435456 * c), .int .i64 0]) ∧ Upd (fun _ => False) w w' := by
  go_enter Try.func12, Try.ntmps12
  go_wp2_with fail
  refine (good_yes a b c _ h0 h1 h2 h3 h4).mono ?_
  rintro e w1 ⟨rfl, hu⟩
  have hB := (Blk.made w [.int .i64 a, .int .i64 b, .int .i64 c] 23).upd hu (by simp)
  have hU := ((Upd.refl (fun _ => False) w).alloc (.cells [.int .i64 a, .int .i64 b, .int .i64 c].toArray 23)).trans hu
  have hc0 := hB.cell 0 rfl
  have hc1 := hB.cell 1 rfl
  have hc2 := hB.cell 2 rfl
  go_wp2
  go_ret2
  exact ⟨rfl, hU⟩

theorem pack_no (a b c : Int) (w : World) (h : ¬ (0 ≤ a ∧ a < 65536 ∧ 0 ≤ b ∧ b ≤ c ∧ c ≤ 4095)) :
    Calls Try.prog 12 #[.agg #[.int .i64 a, .int .i64 b, .int .i64 c]] w fun e w' => e = .returned (.tuple #[.int .i64 0, .int .i64 1]) ∧ Upd (fun _ => False) w w' := by
  have H := Lib.hid h
  clear h
  go_enter Try.func12, Try.ntmps12
  go_wp2_with fail
  refine (good_no a b c _ H.out).mono ?_
  rintro e w1 ⟨rfl, hu⟩
  have hU := ((Upd.refl (fun _ => False) w).alloc (.cells [.int .i64 a, .int .i64 b, .int .i64 c].toArray 23)).trans hu
  go_wp2
  go_ret2
  exact ⟨rfl, hU⟩
end Go.Proofs.Ytjbcjpdkflppaaa.Task
