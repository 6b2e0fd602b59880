/- Shares of numbers that aren't great are ordered as fractions are; by 0 they are infinities, or none: besom/besomlaw02.GaugeShares returns true at every input, and its arguments read behind the call as before. No condition. -/
import Derived.Test.YtjlcjcgoaakniaaRows
import Derived.Test.YtjlcjcgoaakniaaGaugeShares
import Derived.Test.YtjlcjcgoaakniaaRow
import Derived.Lib.SmallJoins
namespace Go.Proofs.Ytjlcjcgoaakniaa.lawGaugeShares
open Go.ChangeShapes Go.WideShapes Go.ChangeAt Go.RowKit Go.Joins Go.Proofs.Ytjlcjcgoaakniaa.Row
set_option linter.unusedVariables false
theorem own : ownKnob Try.prog.godebug = none := by kernel_rfl
theorem laidOut : laidOutB Try.prog = true := by kernel_rfl
theorem cells_i32 : Try.prog.cellsOf 21 = 1 := by kernel_rfl
theorem cellsA_i32_4 : Try.prog.cellsOf 22 = 4 := by kernel_rfl
set_option maxRecDepth 100000 in
theorem lifted (os : Os) (started : os.Started) (H : Type) (enc : TypeId × Value → H) :
    ReturnsInHanded {} Try.checked os 3 .any (Rows.gaugeSharesSpec.pre6 enc Try.prog Try.f3 Rows.gaugeSharesRow.domain false) (Rows.gaugeSharesSpec.post enc Try.prog Try.f3 false true false false) := by
  refine returnsInHanded_of_change_sized (C := Try.checked) own started (by kernel_rfl) Try.func3
    (ChangeSpec.witness6 (enc := enc) (C := Try.checked) false ⟨#[], #[.agg #[.int .i32 0, .int .i32 0, .int .i32 0, .int .i32 0]], []⟩ 8 (by kernel_rfl) (by kernel_rfl) (by kernel_rfl) (by kernel_rfl)) ?_
  intro W base args ds gs before hval0 hW hcnd hsz0 _
  have hval : ∀ (j : Nat) t v, Try.f3.params[j]? = some t → args[j]? = some v → Value.okWide Try.prog W .any base t v := hval0
  have hW' := hW
  have hlt : ∀ x ∈ before, x.block < W.heap.size := fun x hx => by simpa using hW'.lt x hx
  obtain ⟨p, q, hA0, hV, rfl, hfz, hnd⟩ := hW
  have hA : DataW.TrodAll enc Try.prog W 0 (fun _ => true) true Try.f3.params.toList args.toList ds p := hA0
  obtain ⟨rfl, rfl⟩ := trodVars_none hV
  rw [Try.params3] at hA hval
  have hAk := hA
  obtain ⟨v0, vs0, d0, ds0, p0, q0, hargs, rfl, rfl, h0, r0⟩ := trodAll_cons hA
  obtain ⟨rfl, rfl, rfl⟩ := trodAll_nil r0
  obtain rfl : args = #[v0] := by cases args; simp_all
  obtain ⟨z0, rfl, l0, h0'⟩ := open_arr Try.underlying22 Try.underlying21 cells_i32 cellsA_i32_4 (hval 0 22 _ rfl rfl) h0
  refine (GaugeShares.law W z0 l0 h0').mono fun e W' ⟨he, bel⟩ => ?_
  subst he
  refine ⟨_, rfl, _, _, _, [], _, [], hW', trodAll_mk1 (shut_bool Try.underlying4 _), trodAll_below laidOut bel (by kernel_rfl) hAk (fun x hx => hlt x (List.mem_append_left _ hx)), rfl, bel.frame _, fun h => by cases h⟩
theorem over : Rows.gaugeSharesRow.holds Try.pinned (OpenSpec.ofChange Rows.gaugeSharesSpec) :=
  OpenClaim.holds_of_wide 3 Try.f3 rfl rfl rfl rfl rfl rfl rfl ⟨rfl, rfl, rfl, rfl, rfl⟩ rfl rfl rfl rfl rfl (by kernel_rfl) Try.func3 (by kernel_rfl)
    (of_decide_eq_true (by kernel_rfl)) (by unfold Func.isWrapper; first | (rw [if_pos (by decide +kernel)]; kernel_rfl) | (rw [if_neg (by decide +kernel)]; exact ⟨rfl, rfl⟩))
    (fun os started H enc _ => lifted os started H enc)
end Go.Proofs.Ytjlcjcgoaakniaa.lawGaugeShares
namespace Go.Proofs.Ytjlcjcgoaakniaa
theorem gaugeShares_holds : Rows.GaugeSharesSaid := lawGaugeShares.over
#print axioms gaugeShares_holds
end Go.Proofs.Ytjlcjcgoaakniaa
