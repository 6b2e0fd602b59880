/- Words for the laws of graph: the walk of besomlaw16.awake; numbers of 64 bits. -/
import Derived.Test.YtjlcjcgoaakniaaGraph3
import Derived.Test.YtjlcjcgoaakniaaHeapOf
import Derived.Test.YtjlcjcgoaakniaaMrgInts
namespace Go.Proofs.Ytjlcjcgoaakniaa.Raw
open Go.RowKit Go.Proofs.Ytjlcjcgoaakniaa.Mem Go.Proofs.Ytjlcjcgoaakniaa.Obj Go.Proofs.Ytjlcjcgoaakniaa.Heap

theorem b64 {x : Int} (h : (Lit.int .i64 x).wf = true) : -9223372036854775808 ≤ x ∧ x ≤ 9223372036854775807 := by
  simp only [Lit.wf, Bool.and_eq_true, decide_eq_true_eq] at h
  have h1 : IntKind.i64.min = -9223372036854775808 := by decide +kernel
  have h2 : IntKind.i64.max = 9223372036854775807 := by decide +kernel
  rw [h1, h2] at h
  exact h
theorem in64 {w : World} {a : Option Addr} {zs : List Int} (h : Row.Ints .i64 w a zs) : ∀ x ∈ zs, -9223372036854775808 ≤ x ∧ x ≤ 9223372036854775807 := by
  intro x hx
  obtain ⟨j, hj, rfl⟩ := List.getElem_of_mem hx
  exact b64 (h.wf j _ (List.getElem?_eq_getElem hj))

end Go.Proofs.Ytjlcjcgoaakniaa.Raw
