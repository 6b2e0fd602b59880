/- A task's parts have together as many words as it; parted in ones there are as many, or one: the plain law behind TaskParts, over the printed functions. -/
import Derived.Test.YtjbcjpdkflppaaaPTaskPartsx2
namespace Go.Proofs.Ytjbcjpdkflppaaa.PureTaskParts
open Go.RowKit Go.Proofs.Ytjbcjpdkflppaaa.PTaskParts Go.Proofs.YtjbcjpdkflppaaaW.PrintWords Go.Proofs.YtjbcjpdkflppaaaW.PrintLast Go.Proofs.YtjbcjpdkflppaaaW.PrintMore

theorem good_f (a b c : Int) : task_Task_good.f a b c = some (decide (0 ≤ a ∧ a < 65536 ∧ 0 ≤ b ∧ b ≤ c ∧ c ≤ 4095)) := by
  unfold task_Task_good.f
  by_cases h1 : a ≥ 0
  · by_cases h2 : a < 65536
    · by_cases h3 : b ≥ 0
      · by_cases h4 : b ≤ c
        · rw [if_pos h1, if_pos h2, if_pos h3, if_pos h4]; congr 1; rw [Bool.eq_iff_iff]; simp only [decide_eq_true_eq]; omega
        · rw [if_pos h1, if_pos h2, if_pos h3, if_neg h4, decide_eq_false (by omega)]
      · rw [if_pos h1, if_pos h2, if_neg h3, decide_eq_false (by omega)]
    · rw [if_pos h1, if_neg h2, decide_eq_false (by omega)]
  · rw [if_neg h1, decide_eq_false (by omega)]

theorem pack_yes {a b c : Int} (h : 0 ≤ a ∧ a < 65536 ∧ 0 ≤ b ∧ b ≤ c ∧ c ≤ 4095) : task_Pack.f a b c = some (1 + a + 65536 * b + 268435456 * c, 0) := by
  unfold task_Pack.f
  rw [good_f, decide_eq_true h]
  simp only [Option.bind_some, if_true]
  have e1 : wrap64 (1 + a) = 1 + a := by unfold wrap64; omega
  have e2 : wrap64 (65536 * b) = 65536 * b := by unfold wrap64; omega
  have e3 : wrap64 (268435456 * c) = 268435456 * c := by unfold wrap64; omega
  have e4 : wrap64 (1 + a + 65536 * b) = 1 + a + 65536 * b := by unfold wrap64; omega
  have e5 : wrap64 (1 + a + 65536 * b + 268435456 * c) = 1 + a + 65536 * b + 268435456 * c := by unfold wrap64; omega
  rw [e1, e2, e3, e4, e5]

theorem pack_no {a b c : Int} (h : ¬ (0 ≤ a ∧ a < 65536 ∧ 0 ≤ b ∧ b ≤ c ∧ c ≤ 4095)) : task_Pack.f a b c = some (0, 1) := by
  unfold task_Pack.f
  rw [good_f, decide_eq_false h]
  simp

theorem awake_f : besomlaw07_awake.f = some true := by
  unfold besomlaw07_awake.f
  rw [pack_yes (by omega)]
  simp

theorem refgood_f (a b c : Int) : besomref07_Good.f a b c = some (decide (0 ≤ a ∧ a < 65536 ∧ 0 ≤ b ∧ b ≤ c ∧ c ≤ 4095)) := by
  unfold besomref07_Good.f
  by_cases h1 : a ≥ 0
  · by_cases h2 : a ≤ 65535
    · by_cases h3 : b ≥ 0
      · by_cases h4 : b ≤ c
        · rw [if_pos h1, if_pos h2, if_pos h3, if_pos h4]; congr 1; rw [Bool.eq_iff_iff]; simp only [decide_eq_true_eq]; omega
        · rw [if_pos h1, if_pos h2, if_pos h3, if_neg h4, decide_eq_false (by omega)]
      · rw [if_pos h1, if_pos h2, if_neg h3, decide_eq_false (by omega)]
    · rw [if_pos h1, if_neg h2, decide_eq_false (by omega)]
  · rw [if_neg h1, decide_eq_false (by omega)]

/-- A task's parts. -/
def pieces : Nat → Int → Int → Int → Int → List S23
  | 0, _, at_, a, b => [⟨at_, a, b⟩]
  | d + 1, m, at_, a, b => if b - a > m then ⟨at_, a, a + m⟩ :: pieces d m at_ (a + m) b else [⟨at_, a, b⟩]

theorem len_f {a b c : Int} (h0 : 0 ≤ b) (h1 : b ≤ 4095) (h2 : 0 ≤ c) (h3 : c ≤ 4095) : task_Task_Len.f a b c = some (c - b) := by
  unfold task_Task_Len.f
  rw [show wrap64 (c - b) = c - b from by unfold wrap64; omega]

theorem split_l0 {m at_ b : Int} (hm : 1 ≤ m) (hb : b ≤ 4095) : ∀ (d k : Nat) (a : Int) (acc : List S23), 0 ≤ a → a ≤ b → b - a ≤ d → d < k → acc.length + d < 5864062014805 →
    task_Split.l0 k m acc at_ a b = some (acc ++ pieces d m at_ a b) := by
  intro d
  induction d with
  | zero =>
    intro k a acc h0 h1 hd hk hl
    obtain ⟨k, rfl⟩ : ∃ m, k = m + 1 := ⟨k - 1, by omega⟩
    simp only [task_Split.l0]
    rw [len_f h0 (by omega) (by omega) hb]
    simp only [Option.bind_some]
    rw [if_neg (by omega), if_pos (by omega)]
    rfl
  | succ d ih =>
    intro k a acc h0 h1 hd hk hl
    obtain ⟨k, rfl⟩ : ∃ m, k = m + 1 := ⟨k - 1, by omega⟩
    simp only [task_Split.l0]
    rw [len_f h0 (by omega) (by omega) hb]
    simp only [Option.bind_some, pieces]
    by_cases h : b - a > m
    · rw [if_pos h, if_pos (by omega), if_pos h, show wrap64 (a + m) = a + m from by unfold wrap64; omega]
      rw [ih k (a + m) _ (by omega) (by omega) (by omega) (by omega) (by simp; omega)]
      simp
    · rw [if_neg h, if_pos (by omega), if_neg h]

theorem split_f {at_ a b m : Int} {k : Nat} (h : 0 ≤ a ∧ a ≤ b ∧ b ≤ 4095) (hk : 4095 < k) : task_Split.f k at_ a b m = some (pieces 4095 (mx m 1) at_ a b) := by
  unfold task_Split.f
  rw [split_l0 (by unfold mx; split <;> omega) h.2.2 4095 k a [] h.1 h.2.1 (by omega) hk (by simp)]
  rfl

def sumLen : List S23 → Int
  | [] => 0
  | x :: t => (x.f2 - x.f1) + sumLen t

def Fine (at_ a b : Int) (x : S23) : Prop := x.f0 = at_ ∧ a ≤ x.f1 ∧ x.f1 ≤ x.f2 ∧ x.f2 ≤ b

theorem pieces_fine {m at_ b : Int} (hm : 1 ≤ m) : ∀ (d : Nat) (a : Int), a ≤ b → ∀ x ∈ pieces d m at_ a b, Fine at_ a b x := by
  intro d
  induction d with
  | zero => intro a h x hx; simp [pieces] at hx; subst hx; exact ⟨rfl, Int.le_refl _, h, Int.le_refl _⟩
  | succ d ih =>
    intro a h x hx
    simp only [pieces] at hx
    by_cases hc : b - a > m
    · rw [if_pos hc] at hx
      rcases List.mem_cons.1 hx with rfl | hx
      · exact ⟨rfl, Int.le_refl _, by show a ≤ a + m; omega, by show a + m ≤ b; omega⟩
      · obtain ⟨h1, h2, h3, h4⟩ := ih (a + m) (by omega) x hx
        exact ⟨h1, by omega, h3, h4⟩
    · rw [if_neg hc] at hx
      simp at hx; subst hx; exact ⟨rfl, Int.le_refl _, h, Int.le_refl _⟩

theorem pieces_sum {m at_ b : Int} : ∀ (d : Nat) (a : Int), sumLen (pieces d m at_ a b) = b - a := by
  intro d
  induction d with
  | zero => intro a; simp [pieces, sumLen]
  | succ d ih =>
    intro a
    simp only [pieces]
    by_cases hc : b - a > m
    · rw [if_pos hc]; simp only [sumLen]; rw [ih]; omega
    · rw [if_neg hc]; simp [sumLen]

theorem pieces_ones {at_ b : Int} : ∀ (d : Nat) (a : Int), a ≤ b → b - a ≤ d → ((pieces d 1 at_ a b).length : Int) = if b - a < 1 then 1 else b - a := by
  intro d
  induction d with
  | zero => intro a h hd; simp only [pieces]; rw [if_pos (by omega)]; rfl
  | succ d ih =>
    intro a h hd
    simp only [pieces]
    by_cases hc : b - a > 1
    · rw [if_pos hc, List.length_cons, if_neg (by omega)]
      have := ih (a + 1) (by omega) (by omega)
      rw [if_neg (by omega)] at this
      push_cast
      omega
    · rw [if_neg hc]
      by_cases h0 : b - a < 1
      · rw [if_pos h0]; rfl
      · rw [if_neg h0]; simp; omega

theorem pieces_len {m at_ a b : Int} : ∀ (d : Nat), (pieces d m at_ a b).length ≤ d + 1 := by
  intro d
  induction d generalizing a with
  | zero => simp [pieces]
  | succ d ih =>
    simp only [pieces]
    split
    · have := @ih (a + m); simp; omega
    · simp

theorem pieces_one {m at_ a b : Int} (h : b - a ≤ m) : ∀ (d : Nat), (pieces d m at_ a b).length = 1 := by
  intro d
  cases d with
  | zero => rfl
  | succ d => simp only [pieces]; rw [if_neg (by omega)]; rfl

theorem sum_nonneg : ∀ (l : List S23), (∀ x ∈ l, x.f1 ≤ x.f2) → 0 ≤ sumLen l
  | [], _ => Int.le_refl _
  | x :: t, h => by
    have h1 := h x (by simp)
    have h2 := sum_nonneg t (fun y hy => h y (by simp [hy]))
    simp only [sumLen]; omega

theorem loop {at_ a b : Int} (h : 0 ≤ at_ ∧ at_ < 65536 ∧ 0 ≤ a ∧ a ≤ b ∧ b ≤ 4095) (l : List S23) (hall : ∀ x ∈ l, Fine at_ a b x) (hl : l.length ≤ 5000) :
    ∀ (r pre : List S23), l = pre ++ r → ∀ (k : Nat) (s : Int), r.length + 5000 < k → s + sumLen r = b - a → 0 ≤ s →
      besomlaw07_TaskParts.l0 k s l (l.length : Int) (pre.length : Int) at_ a b = some true := by
  intro r
  induction r with
  | nil =>
    intro pre hp k s hk hs h0
    obtain ⟨k, rfl⟩ : ∃ m, k = m + 1 := ⟨k - 1, by omega⟩
    simp only [besomlaw07_TaskParts.l0]
    have hpl : pre.length = l.length := by rw [hp]; simp
    simp only [sumLen] at hs
    rw [if_neg (by omega), len_f (by omega) (by omega) (by omega) (by omega)]
    simp only [Option.bind_some]
    rw [if_pos (by omega), split_f ⟨h.2.2.1, h.2.2.2.1, h.2.2.2.2⟩ (by simp at hk; omega)]
    simp only [Option.bind_some]
    have hone : mx 1 1 = 1 := by unfold mx; split <;> omega
    rw [hone, pieces_ones 4095 a (by omega) (by omega)]
    rw [if_pos (by unfold mx; rfl), split_f ⟨h.2.2.1, h.2.2.2.1, h.2.2.2.2⟩ (by simp at hk; omega)]
    simp only [Option.bind_some]
    rw [pieces_one (by unfold mx; split <;> omega)]
    rfl
  | cons x r ih =>
    intro pre hp k s hk hs h0
    obtain ⟨k, rfl⟩ : ∃ m, k = m + 1 := ⟨k - 1, by omega⟩
    have hpl : pre.length + (r.length + 1) = l.length := by rw [hp]; simp
    have hr : rd_T23 l (pre.length : Int) = x := by
      unfold rd_T23
      rw [hp]
      simp
    obtain ⟨hf0, hf1, hf2, hf3⟩ := hall x (by rw [hp]; simp)
    have hsn := sum_nonneg r (fun y hy => (hall y (by rw [hp]; simp [hy])).2.2.1)
    simp only [sumLen] at hs
    simp only [besomlaw07_TaskParts.l0]
    rw [if_pos (by omega), if_pos (by omega), if_pos (by omega), hr, pack_yes (by omega)]
    simp only [Option.bind_some, if_true]
    rw [len_f (by omega) (by omega) (by omega) (by omega)]
    simp only [Option.bind_some]
    rw [show wrap64 (s + (x.f2 - x.f1)) = s + (x.f2 - x.f1) from by unfold wrap64; omega,
      show wrap64 ((pre.length : Int) + 1) = ((pre ++ [x]).length : Int) from by unfold wrap64; simp; omega]
    exact ih (pre ++ [x]) (by rw [hp]; simp) k _ (by simp at hk; omega) (by omega) (by omega)

theorem TaskParts (k : Nat) (hk : 15000 < k) (at_ a b : Int) (most : Int) (hm : 0 ≤ most ∧ most ≤ 255) : besomlaw07_TaskParts.f (k + 1) at_ a b most = some true := by
  unfold besomlaw07_TaskParts.f
  rw [awake_f, refgood_f]
  simp only [Option.bind_some, if_true]
  by_cases h : 0 ≤ at_ ∧ at_ < 65536 ∧ 0 ≤ a ∧ a ≤ b ∧ b ≤ 4095
  · rw [decide_eq_true h]
    simp only [besomlaw07_TaskParts.j0, Bool.not_true, Bool.false_eq_true, if_false]
    rw [show wrap64 most = most from by unfold wrap64; omega, split_f ⟨h.2.2.1, h.2.2.2.1, h.2.2.2.2⟩ (by omega)]
    simp only [Option.bind_some]
    have hm1 : 1 ≤ mx most 1 := by unfold mx; split <;> omega
    have hfine := pieces_fine (at_ := at_) hm1 4095 a h.2.2.2.1
    have hlen := @pieces_len (mx most 1) at_ a b 4095
    have hsum := @pieces_sum (mx most 1) at_ b 4095 a
    generalize pieces 4095 (mx most 1) at_ a b = L at *
    exact loop h L hfine (by omega) L [] rfl k 0 (by omega) (by omega) (by omega)
  · rw [decide_eq_false h]
    simp only [besomlaw07_TaskParts.j0, Bool.not_false, if_true]
    rw [awake_f]
    rfl
end Go.Proofs.Ytjbcjpdkflppaaa.PureTaskParts
