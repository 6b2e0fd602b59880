/- of any heap, and of what is reached in it, each kind's objects and words are counted; their sum is told: besom/besomlaw19.TallyCounts returns true at every input, and its arguments read behind the call as before. No condition. -/
import Derived.Test.YtjlcjcgoaakniaaRows
import Derived.Test.YtjlcjcgoaakniaaTallyCounts2
import Derived.Test.YtjlcjcgoaakniaaMrgRow
import Derived.Lib.SmallJoins
namespace Go.Proofs.Ytjlcjcgoaakniaa.lawTallyCounts
open Go.ChangeShapes Go.WideShapes Go.ChangeAt Go.RowKit Go.Joins Go.Proofs.Ytjlcjcgoaakniaa.Row
set_option linter.unusedVariables false
theorem own : ownKnob Try.prog.godebug = none := by kernel_rfl
theorem laidOut : laidOutB Try.prog = true := by kernel_rfl
set_option maxRecDepth 100000 in
theorem lifted (os : Os) (started : os.Started) (H : Type) (enc : TypeId × Value → H) :
    ReturnsInHanded {} Try.checked os 13 .any (Rows.tallyCountsSpec.pre6 enc Try.prog Try.f13 Rows.tallyCountsRow.domain false) (Rows.tallyCountsSpec.post enc Try.prog Try.f13 false true false false) := by
  refine returnsInHanded_of_change_sized (C := Try.checked) own started (by kernel_rfl) Try.func13
    (ChangeSpec.witness6 (enc := enc) (C := Try.checked) false ⟨#[], #[.agg #[.slice none 0 0, .slice none 0 0]], []⟩ 8 (by kernel_rfl) (by kernel_rfl) (by kernel_rfl) (by kernel_rfl)) ?_
  intro W base args ds gs before hval0 hW hcnd hsz0 _
  have hval : ∀ (j : Nat) t v, Try.f13.params[j]? = some t → args[j]? = some v → Value.okWide Try.prog W .any base t v := hval0
  have hW' := hW
  have hlt : ∀ x ∈ before, x.block < W.heap.size := fun x hx => by simpa using hW'.lt x hx
  obtain ⟨p, q, hA0, hV, rfl, hfz, hnd⟩ := hW
  have hA : DataW.TrodAll enc Try.prog W 0 (fun _ => true) true Try.f13.params.toList args.toList ds p := hA0
  obtain ⟨rfl, rfl⟩ := trodVars_none hV
  rw [Try.params13] at hA hval
  have hAk := hA
  obtain ⟨v0, vs0, d0, ds0, p0, q0, hargs, rfl, rfl, h0, r0⟩ := trodAll_cons hA
  obtain ⟨rfl, rfl, rfl⟩ := trodAll_nil r0
  obtain rfl : args = #[v0] := by cases args; simp_all
  obtain ⟨na0, nc0, ra0, rc0, ns0, rs0, rfl, hn0, hr0, hnl0, hrl0⟩ := Build.open_graph (hval 0 67 _ rfl rfl) h0
  refine ((Build.tcounts_yes W na0 ra0 nc0 rc0 ns0 rs0 hn0 hr0 hnl0 hrl0)).mono fun e W' ⟨he, bel⟩ => ?_
  subst he
  refine ⟨_, rfl, _, _, _, [], _, [], hW', trodAll_mk1 (shut_bool Try.underlying4 _), trodAll_below laidOut bel (by kernel_rfl) hAk (fun x hx => hlt x (List.mem_append_left _ hx)), rfl, bel.frame _, fun h => by cases h⟩
theorem over : Rows.tallyCountsRow.holds Try.pinned (OpenSpec.ofChange Rows.tallyCountsSpec) :=
  OpenClaim.holds_of_wide 13 Try.f13 rfl rfl rfl rfl rfl rfl rfl ⟨rfl, rfl, rfl, rfl, rfl⟩ rfl rfl rfl rfl rfl (by kernel_rfl) Try.func13 (by kernel_rfl)
    (of_decide_eq_true (by kernel_rfl)) (by unfold Func.isWrapper; first | (rw [if_pos (by decide +kernel)]; kernel_rfl) | (rw [if_neg (by decide +kernel)]; exact ⟨rfl, rfl⟩))
    (fun os started H enc _ => lifted os started H enc)
end Go.Proofs.Ytjlcjcgoaakniaa.lawTallyCounts
namespace Go.Proofs.Ytjlcjcgoaakniaa
theorem tallyCounts_holds : Rows.TallyCountsSaid := lawTallyCounts.over
#print axioms tallyCounts_holds
end Go.Proofs.Ytjlcjcgoaakniaa
