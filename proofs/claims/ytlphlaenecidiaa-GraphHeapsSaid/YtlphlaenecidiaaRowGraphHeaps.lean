/- of any form there is a heap of a size just if it is one, and fits; two forms are the same just if all in them is: besom/besomlaw16.GraphHeaps returns true at every input, and its arguments read behind the call as before. No condition. -/
import Derived.Test.YtlphlaenecidiaaRows
import Derived.Test.YtlphlaenecidiaaGraphHeaps2
import Derived.Test.YtlphlaenecidiaaFormArg
import Derived.Test.YtlphlaenecidiaaRow
import Derived.Lib.SmallJoins
namespace Go.Proofs.Ytlphlaenecidiaa.lawGraphHeaps
open Go.ChangeShapes Go.WideShapes Go.ChangeAt Go.RowKit Go.Joins Go.Proofs.Ytlphlaenecidiaa.Row
set_option linter.unusedVariables false
theorem own : ownKnob Try.prog.godebug = none := by kernel_rfl
theorem laidOut : laidOutB Try.prog = true := by kernel_rfl
set_option maxRecDepth 100000 in
theorem lifted (os : Os) (started : os.Started) (H : Type) (enc : TypeId × Value → H) :
    ReturnsInHanded {} Try.checked os 8 .any (Rows.graphHeapsSpec.pre6 enc Try.prog Try.f8 Rows.graphHeapsRow.domain false) (Rows.graphHeapsSpec.post enc Try.prog Try.f8 false true false false) := by
  refine returnsInHanded_of_change_sized (C := Try.checked) own started (by kernel_rfl) Try.func8
    (ChangeSpec.witness6 (enc := enc) (C := Try.checked) false ⟨#[], #[.agg #[.slice none 0 0, .slice none 0 0], .agg #[.slice none 0 0, .slice none 0 0], .int .i64 0], []⟩ 8 (by kernel_rfl) (by kernel_rfl) (by kernel_rfl) (by kernel_rfl)) ?_
  intro W base args ds gs before hval0 hW hcnd hsz0 _
  have hval : ∀ (j : Nat) t v, Try.f8.params[j]? = some t → args[j]? = some v → Value.okWide Try.prog W .any base t v := hval0
  have hsz : (DataW.weightsEach Try.prog (Try.f8.params.toList ++ Rows.graphHeapsSpec.plain.varTypes Try.prog) (ds ++ gs)).all (· ≤ reachBytes) = true := hsz0
  have hW' := hW
  have hlt : ∀ x ∈ before, x.block < W.heap.size := fun x hx => by simpa using hW'.lt x hx
  obtain ⟨p, q, hA0, hV, rfl, hfz, hnd⟩ := hW
  have hA : DataW.TrodAll enc Try.prog W 0 (fun _ => true) true Try.f8.params.toList args.toList ds p := hA0
  obtain ⟨rfl, rfl⟩ := trodVars_none hV
  rw [Try.params8] at hA hval hsz
  have hAk := hA
  obtain ⟨v0, vs0, d0, ds0, p0, q0, hargs, rfl, rfl, h0, r0⟩ := trodAll_cons hA
  obtain ⟨v1, vs1, d1, ds1, p1, q1, rfl, rfl, rfl, h1, r1⟩ := trodAll_cons r0
  obtain ⟨v2, vs2, d2, ds2, p2, q2, rfl, rfl, rfl, h2, r2⟩ := trodAll_cons r1
  obtain ⟨rfl, rfl, rfl⟩ := trodAll_nil r2
  obtain rfl : args = #[v0, v1, v2] := by cases args; simp_all
  have hsd : ∀ (j : Nat) (t : TypeId) (d : DataW H), (#[35, 35, 3].toList ++ Rows.graphHeapsSpec.plain.varTypes Try.prog)[j]? = some t → ([d0, d1, d2] ++ [])[j]? = some d → ∀ n ∈ d.weights Try.prog t, n ≤ reachBytes := fun j t d hj hd n hn => by
    have := List.all_eq_true.1 hsz n (DataW.weights_mem_each hj hd n hn)
    exact of_decide_eq_true this
  obtain ⟨va, vn, ks, nds, rfl, hk, hn, _, _, hsn, _⟩ := Heaps.open_form (hval 0 35 _ rfl rfl) (hsd 0 _ _ rfl rfl) h0
  obtain ⟨vb, vm, rs, nbs, rfl, hr, hm, _, _, hsm, _⟩ := Heaps.open_form (hval 1 35 _ rfl rfl) (hsd 1 _ _ rfl rfl) h1
  obtain ⟨a2, rfl, rfl, rfl, w2⟩ := open_int Try.underlying3 (hval 2 3 _ rfl rfl) h2
  refine ((Heaps.heaps_yes W va vn vb vm ks rs nds nbs a2 (Raw.b64 w2) hk hn hr hm hsn hsm)).mono fun e W' ⟨he, bel⟩ => ?_
  subst he
  refine ⟨_, rfl, _, _, _, [], _, [], hW', trodAll_mk1 (shut_bool Try.underlying4 _), trodAll_below laidOut bel (by kernel_rfl) hAk (fun x hx => hlt x (List.mem_append_left _ hx)), rfl, bel.frame _, fun h => by cases h⟩
theorem over : Rows.graphHeapsRow.holds Try.pinned (OpenSpec.ofChange Rows.graphHeapsSpec) :=
  OpenClaim.holds_of_wide 8 Try.f8 rfl rfl rfl rfl rfl rfl rfl ⟨rfl, rfl, rfl, rfl, rfl⟩ rfl rfl rfl rfl rfl (by kernel_rfl) Try.func8 (by kernel_rfl)
    (of_decide_eq_true (by kernel_rfl)) (by unfold Func.isWrapper; first | (rw [if_pos (by decide +kernel)]; kernel_rfl) | (rw [if_neg (by decide +kernel)]; exact ⟨rfl, rfl⟩))
    (fun os started H enc _ => lifted os started H enc)
end Go.Proofs.Ytlphlaenecidiaa.lawGraphHeaps
namespace Go.Proofs.Ytlphlaenecidiaa
theorem graphHeaps_holds : Rows.GraphHeapsSaid := lawGraphHeaps.over
#print axioms graphHeaps_holds
end Go.Proofs.Ytlphlaenecidiaa
