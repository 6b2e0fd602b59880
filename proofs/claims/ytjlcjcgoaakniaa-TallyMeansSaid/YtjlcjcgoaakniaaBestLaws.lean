/- The first and the last of some measures, by their keys: plain numbers. -/
import Derived.Test.YtjlcjcgoaakniaaBest
namespace Go.Proofs.Ytjlcjcgoaakniaa.Gauge
open Go.RowKit Go.Proofs.Ytjlcjcgoaakniaa.Mem Go.Proofs.Ytjlcjcgoaakniaa.Dbl

theorem sc_neg_iff {m n : Nat} : sc m n = -1 ↔ m < n := by
  unfold sc
  split
  · simp; omega
  · split <;> simp <;> omega
theorem sc_pos_iff {m n : Nat} : sc m n = 1 ↔ n < m := by
  unfold sc
  split
  · simp; omega
  · split <;> simp <;> omega
theorem sc_le_iff {m n : Nat} : sc m n ≤ 0 ↔ m ≤ n := by
  unfold sc
  split
  · simp; omega
  · split <;> simp <;> omega
theorem sc_ge_iff {m n : Nat} : 0 ≤ sc m n ↔ n ≤ m := by
  unfold sc
  split
  · simp; omega
  · split <;> simp <;> omega
theorem sc_turn {m n : Nat} : sc n m = - sc m n := by
  unfold sc
  rcases Nat.lt_trichotomy m n with h | h | h
  · rw [if_neg (by omega), if_pos h, if_pos h]; rfl
  · rw [if_neg (by omega), if_neg (by omega), if_neg (by omega), if_neg (by omega)]; rfl
  · rw [if_pos h, if_neg (by omega), if_pos h]

theorem least_is (zs : List Nat) : ∀ (l : List Nat) (o : Nat), (∀ x ∈ zs, kk x ≠ 0 → kk o ≠ 0 ∧ kk o ≤ kk x) → (kk o ≠ 0 → ∃ x ∈ zs, kk x = kk o) →
    (∀ x ∈ zs ++ l, kk x ≠ 0 → kk (l.foldl (bst (-1)) o) ≠ 0 ∧ kk (l.foldl (bst (-1)) o) ≤ kk x) ∧ (kk (l.foldl (bst (-1)) o) ≠ 0 → ∃ x ∈ zs ++ l, kk x = kk (l.foldl (bst (-1)) o)) := by
  intro l
  induction l generalizing zs with
  | nil => intro o h1 h2; simpa using ⟨h1, h2⟩
  | cons y l ih =>
    intro o h1 h2
    have hs : (zs ++ y :: l) = (zs ++ [y]) ++ l := by simp
    rw [hs, List.foldl_cons]
    refine ih (zs ++ [y]) (bst (-1) o y) ?_ ?_
    · intro x hx hx0
      unfold bst
      by_cases hc : kk y ≠ 0 ∧ (kk o = 0 ∨ sc (kk y) (kk o) = -1)
      · rw [if_pos hc]
        refine ⟨hc.1, ?_⟩
        rcases List.mem_append.1 hx with hx | hx
        · have := h1 x hx hx0
          rcases hc.2 with h | h
          · omega
          · have := sc_neg_iff.1 h; omega
        · simp at hx; subst hx; exact Nat.le_refl _
      · rw [if_neg hc]
        rcases List.mem_append.1 hx with hx | hx
        · exact h1 x hx hx0
        · simp at hx; subst hx
          have ho : kk o ≠ 0 := fun h => hc ⟨hx0, .inl h⟩
          have hs : ¬ kk x < kk o := fun h => hc ⟨hx0, .inr (sc_neg_iff.2 h)⟩
          exact ⟨ho, by omega⟩
    · unfold bst
      by_cases hc : kk y ≠ 0 ∧ (kk o = 0 ∨ sc (kk y) (kk o) = -1)
      · rw [if_pos hc]; intro _; exact ⟨y, by simp, rfl⟩
      · rw [if_neg hc]; intro h
        obtain ⟨x, hx, e⟩ := h2 h
        exact ⟨x, by simp [hx], e⟩

theorem most_is (zs : List Nat) : ∀ (l : List Nat) (o : Nat), (∀ x ∈ zs, kk x ≠ 0 → kk x ≤ kk o) → (kk o ≠ 0 → ∃ x ∈ zs, kk x = kk o) →
    (∀ x ∈ zs ++ l, kk x ≠ 0 → kk x ≤ kk (l.foldl (bst 1) o)) ∧ (kk (l.foldl (bst 1) o) ≠ 0 → ∃ x ∈ zs ++ l, kk x = kk (l.foldl (bst 1) o)) := by
  intro l
  induction l generalizing zs with
  | nil => intro o h1 h2; simpa using ⟨h1, h2⟩
  | cons y l ih =>
    intro o h1 h2
    have hs : (zs ++ y :: l) = (zs ++ [y]) ++ l := by simp
    rw [hs, List.foldl_cons]
    refine ih (zs ++ [y]) (bst 1 o y) ?_ ?_
    · intro x hx hx0
      unfold bst
      by_cases hc : kk y ≠ 0 ∧ (kk o = 0 ∨ sc (kk y) (kk o) = 1)
      · rw [if_pos hc]
        rcases List.mem_append.1 hx with hx | hx
        · have := h1 x hx hx0
          rcases hc.2 with h | h
          · omega
          · have := sc_pos_iff.1 h; omega
        · simp at hx; subst hx; exact Nat.le_refl _
      · rw [if_neg hc]
        rcases List.mem_append.1 hx with hx | hx
        · exact h1 x hx hx0
        · simp at hx; subst hx
          have hs : ¬ kk o < kk x := fun h => hc ⟨hx0, .inr (sc_pos_iff.2 h)⟩
          omega
    · unfold bst
      by_cases hc : kk y ≠ 0 ∧ (kk o = 0 ∨ sc (kk y) (kk o) = 1)
      · rw [if_pos hc]; intro _; exact ⟨y, by simp, rfl⟩
      · rw [if_neg hc]; intro h
        obtain ⟨x, hx, e⟩ := h2 h
        exact ⟨x, by simp [hx], e⟩

theorem kk_nan : kk 9221120237041090561 = 0 := by decide +kernel
/-- The first one is ahead of all that are no NaNs, and one of them, if there is one. -/
theorem least_all (zs : List Nat) : (∀ x ∈ zs, kk x ≠ 0 → kk (bestOf (-1) zs) ≠ 0 ∧ kk (bestOf (-1) zs) ≤ kk x) ∧ (kk (bestOf (-1) zs) ≠ 0 → ∃ x ∈ zs, kk x = kk (bestOf (-1) zs)) := by
  have h := least_is [] zs 9221120237041090561 (by simp) (fun h => (h kk_nan).elim)
  simpa [bestOf] using h
theorem most_all (zs : List Nat) : (∀ x ∈ zs, kk x ≠ 0 → kk x ≤ kk (bestOf 1 zs)) ∧ (kk (bestOf 1 zs) ≠ 0 → ∃ x ∈ zs, kk x = kk (bestOf 1 zs)) := by
  have h := most_is [] zs 9221120237041090561 (by simp) (fun h => (h kk_nan).elim)
  simpa [bestOf] using h

/-- Measures that were just laid. -/
theorem floats_new {w : World} {b : Nat} {t : TypeId} {zs : List Nat} (h : Blk w b (zs.map fun z : Nat => Value.float .f64 z) t) (hz : ∀ z ∈ zs, z < 18446744073709551616) (hs : zs.length ≤ 9223372036854775807) : Floats w (some ⟨b, 0, none⟩) zs := by
  refine ⟨fun j x hx => ⟨b, 0, rfl, ?_⟩, fun j x hx => hz x (List.mem_of_getElem? hx), hs⟩
  rw [Nat.zero_add]
  exact h.cell j (by simp [hx])
end Go.Proofs.Ytjlcjcgoaakniaa.Gauge
