/- Words for the laws of graph: the walk of besomlaw16.awake; numbers of 64 bits. -/
import Derived.Test.YtlphlaenecidiaaGraph3
import Derived.Test.YtlphlaenecidiaaHeapOf
import Derived.Test.YtlphlaenecidiaaIs
namespace Go.Proofs.Ytlphlaenecidiaa.Raw
open Go.RowKit Go.Proofs.Ytlphlaenecidiaa.Mem Go.Proofs.Ytlphlaenecidiaa.Obj Go.Proofs.Ytlphlaenecidiaa.Heap

theorem b64 {x : Int} (h : (Lit.int .i64 x).wf = true) : -9223372036854775808 ≤ x ∧ x ≤ 9223372036854775807 := by
  simp only [Lit.wf, Bool.and_eq_true, decide_eq_true_eq] at h
  have h1 : IntKind.i64.min = -9223372036854775808 := by decide +kernel
  have h2 : IntKind.i64.max = 9223372036854775807 := by decide +kernel
  rw [h1, h2] at h
  exact h
theorem in64 {w : World} {a : Option Addr} {zs : List Int} (h : Row.Ints .i64 w a zs) : ∀ x ∈ zs, -9223372036854775808 ≤ x ∧ x ≤ 9223372036854775807 := by
  intro x hx
  obtain ⟨j, hj, rfl⟩ := List.getElem_of_mem hx
  exact b64 (h.wf j _ (List.getElem?_eq_getElem hj))

set_option maxHeartbeats 1000000 in
theorem awake16 (w : World) : Calls Try.prog 9 #[] w fun e w' => e = .returned (.bool true) ∧ Upd (fun _ => False) w w' := by
  go_enter Try.func9, Try.ntmps9
  go_wp2_with fail
  refine (new_yes 3 w (by omega) (by omega)).mono ?_
  rintro e w1 ⟨h, wb, sb, rfl, hH, hb1, hb2, hb3, hu⟩
  have hz : Row.Ints .i64 (w1.alloc (.cells #[.int .i64 0] 3)) (some ⟨w1.heap.size, 0, none⟩) [0] := by
    refine ⟨fun j x hx => ?_, fun j x hx => ?_, by decide⟩
    · cases j with
      | zero => cases hx; exact ⟨_, 0, rfl, (Blk.made w1 [.int .i64 0] 3).cell 0 rfl, by simp⟩
      | succ j => simp at hx
    · cases j with
      | zero => cases hx; decide
      | succ j => simp at hx
  have hform : form [] [0] = some ([0], []) := by decide
  have hof := Graph.of_any _ h wb sb 3 [] _ (hH.quiet ((Upd.refl _ w1).alloc (.cells #[.int .i64 0] 3))) _ 1 [0] hz (by decide) (by decide) (fun o ho => by cases ho)
  rw [hform] at hof
  have HOf := Lib.hid hof
  have HU := Lib.hid (hu.alloc (.cells #[.int .i64 0] 3))
  clear hz hform hof hH hu
  go_wp2_with fail
  refine (HOf.out).mono ?_
  rintro e w2 ⟨hu2, va, vn, rfl, F⟩
  obtain ⟨a, c, rfl⟩ : ∃ a c, va = .slice a 1 c := own_form F.roots
  obtain ⟨nv, _, hn, _⟩ := F.nodes
  obtain ⟨a', c', rfl⟩ : ∃ a c, vn = .slice a 0 c := own_form hn
  have HU2 := Lib.hid ((HU.out.trans hu2).alloc (.cells #[.slice a 1 c, .slice a' 0 c'] 35))
  clear hu2 F hn HOf HU
  go_wp2
  go_ret
  exact ⟨rfl, HU2.out⟩
end Go.Proofs.Ytlphlaenecidiaa.Raw
