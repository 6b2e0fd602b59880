/- A slice of integers that came in, opened, with its room. No program here. -/
import Derived.Test.YtlphlaenecidiaaRow
namespace Go.Proofs.Ytlphlaenecidiaa.Row
open Go.ChangeShapes Go.WideShapes Go.ChangeAt Go.RowKit
section
variable {H : Type} {enc : TypeId × Value → H} {P : Program}
theorem open_numsC {t e : TypeId} {k : IntKind} {W : World} {base : Nat} {v : Value} {d : DataW H} {p : List MemPlace} (ht : P.underlying t = some (.slice e)) (he : P.underlying e = some (.int k)) (hc : P.cellsOf e = 1)
    (hv : Value.okWide P W .any base t v) (h : DataW.Trod enc P W 0 (fun _ => true) true t v d p) :
    ∃ (a : Option Addr) (cap : Nat) (zs : List Int), v = .slice a zs.length cap ∧ Ints k W a zs ∧ zs.length ≤ cap := by
  obtain ⟨a0, len, cap, rfl⟩ := okWide_slice ht hv
  obtain ⟨fuel, hf⟩ := h
  rcases open_ints ht he hc hf with ⟨hcs, hx⟩ | ⟨a, len', cap', zs, hcs, _, hl, hm, hz, hx, hcell, hwz⟩
  · simp only [Value.cells, List.cons.injEq, Value.slice.injEq, and_true] at hcs
    obtain ⟨rfl, rfl, rfl⟩ := hcs
    exact ⟨none, 0, [], rfl, ⟨fun j x hx => by simp at hx, fun j x hx => by simp at hx, by simp⟩, by simp⟩
  · simp only [Value.cells, List.cons.injEq, Value.slice.injEq, and_true] at hcs
    obtain ⟨rfl, rfl, rfl⟩ := hcs
    simp only [if_true] at hz
    have hlen : (zs.take len).length = len := by simp; omega
    refine ⟨some a, cap, zs.take len, by rw [hlen], ⟨?_, ?_, ?_⟩, by rw [hlen]; exact hl⟩
    · intro j x hj
      have hj' : j < (zs.take len).length := (List.getElem?_eq_some_iff.1 hj).1
      have hjl : j < zs.length := by rw [hlen] at hj'; omega
      have hzx : zs[j]? = some x := by
        rw [List.getElem?_take] at hj
        split at hj
        · exact hj
        · simp at hj
      obtain ⟨b, off, rfl, hc2⟩ := ints_at hcell (by omega)
      have hcj := hc2 j hjl
      have hg : zs.getD j 0 = x := by rw [List.getD_eq_getElem?_getD, hzx]; rfl
      rw [hg] at hcj
      exact ⟨b, off, rfl, hcj, World.block_lt_of_cell? W ⟨b, off + j, none⟩ hcj⟩
    · intro j x hj
      rw [List.getElem?_take] at hj
      split at hj
      · exact hwz x (List.mem_of_getElem? hj)
      · simp at hj
    · rw [hlen]; simp only [maxLen] at hm; omega

end
end Go.Proofs.Ytlphlaenecidiaa.Row
