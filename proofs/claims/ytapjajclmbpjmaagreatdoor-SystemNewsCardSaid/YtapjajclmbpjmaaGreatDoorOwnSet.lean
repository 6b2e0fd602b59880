/- A row of the call's own: a store into it, a row of one fresh cell. No program here. -/
import Derived.Test.YtapjajclmbpjmaaGreatDoorApp
namespace Go.Proofs.YtapjajclmbpjmaaGreatDoor.Mem
open Go.RowKit

theorem own_set {w : World} {base : Nat} {e : TypeId} {g cap n : Nat} {xs : List Value} (h : w.ownsRow base e 1 (.slice (some ⟨g, 0, none⟩) n cap) n xs) (j : Nat) (u : Value) :
    (w.setCell ⟨g, j, none⟩ u).ownsRow base e 1 (.slice (some ⟨g, 0, none⟩) n cap) n (xs.set j u) := by
  refine ⟨by rw [List.length_set]; exact h.1, .inr ?_⟩
  rcases h.2 with ⟨hv, _⟩ | ⟨g', cap', cur, hv, hb, hg, h1, h2, h3, h4⟩
  · cases hv
  · simp only [Value.slice.injEq, Option.some.injEq, Addr.mk.injEq] at hv
    obtain ⟨⟨rfl, _⟩, _, rfl⟩ := hv
    refine ⟨g, cap, cur.setIfInBounds j u, rfl, hb, ?_, h1, h2, by rw [Array.size_setIfInBounds]; exact h3, ?_⟩
    · unfold World.setCell
      simp [Array.getElem?_modify, hg]
    · rw [Array.toList_setIfInBounds, ← h4]
      exact (List.take_set ..)
theorem own_one (w : World) (e : TypeId) (base : Nat) (x : Value) (hb : base ≤ w.heap.size) : (w.alloc (.cells #[x] e)).ownsRow base e 1 (.slice (some ⟨w.heap.size, 0, none⟩) 1 1) 1 [x] := by
  refine ⟨by simp, .inr ⟨w.heap.size, 1, #[x], rfl, hb, ?_, Nat.le_refl _, by simp [maxLen], by simp, by simp⟩⟩
  exact Blk.made w [x] e
end Go.Proofs.YtapjajclmbpjmaaGreatDoor.Mem
