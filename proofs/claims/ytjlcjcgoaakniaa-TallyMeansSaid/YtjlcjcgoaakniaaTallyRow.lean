/- A tally that came in: 33 numbers. -/
import Derived.Test.YtjlcjcgoaakniaaTally2
import Derived.Test.YtjlcjcgoaakniaaRow
namespace Go.Proofs.Ytjlcjcgoaakniaa.Tally
open Go.ChangeShapes Go.WideShapes Go.ChangeAt Go.RowKit Go.Proofs.Ytjlcjcgoaakniaa.Row

set_option maxRecDepth 100000
section
variable {H : Type} {enc : TypeId × Value → H}

theorem len_two : ∀ cs : List Value, cs.length = 2 → ∃ p q, cs = [p, q]
  | [p, q], _ => ⟨p, q, rfl⟩
theorem cells_int : Try.prog.cellsOf 3 = 1 := by kernel_rfl
theorem cells_row : Try.prog.cellsOf 53 = 2 := by kernel_rfl
theorem cells_rows : Try.prog.cellsOf 54 = 32 := by kernel_rfl
theorem cells_tally : Try.prog.cellsOf 56 = 33 := by kernel_rfl

theorem one_int {W : World} {n : Nat} {cs : List Value} {x : DataW H × List MemPlace} (h : DataW.trod enc Try.prog W 0 (fun _ => true) true n 3 cs = some x) : ∃ z, cs = [.int .i64 z] ∧ (Lit.int .i64 z).wf = true := by
  obtain ⟨z, hz, _, hw⟩ := DataW.trod_int Try.underlying3 h
  exact ⟨z, hz, hw⟩

theorem row_ints {W : World} {n : Nat} {cs : List Value} {x : DataW H × List MemPlace} (h : DataW.trod enc Try.prog W 0 (fun _ => true) true n 53 cs = some x) :
    ∃ a b, cs = [.int .i64 a, .int .i64 b] ∧ (Lit.int .i64 a).wf = true ∧ (Lit.int .i64 b).wf = true := by
  obtain ⟨y0, y1, m, _, hl, h0, h1⟩ := trod_struct2 Try.underlying53 h
  obtain ⟨a, ha, wa⟩ := one_int h0
  obtain ⟨b, hb, wb⟩ := one_int h1
  rw [cells_row] at hl
  simp only [cells_int] at ha hb
  refine ⟨a, b, ?_, wa, wb⟩
  obtain ⟨p, q, rfl⟩ : ∃ p q, cs = [p, q] := len_two cs hl
  simp at ha hb
  rw [ha, hb]

theorem open_tally {W : World} {base : Nat} {v : Value} {d : DataW H} {p : List MemPlace} (hv : Value.okWide Try.prog W .any base 56 v) (h : DataW.Trod enc Try.prog W 0 (fun _ => true) true 56 v d p) :
    ∃ zs : List Int, v = .agg (zs.map (Value.int .i64)).toArray ∧ zs.length = 33 ∧ ∀ x ∈ zs, (Lit.int .i64 x).wf = true := by
  obtain ⟨cs, rfl, hsz⟩ := okWide_struct Try.underlying56 hv
  obtain ⟨fuel, hf⟩ := h
  obtain ⟨y0, y1, m, _, hl, h0, h1⟩ := trod_struct2 Try.underlying56 hf
  obtain ⟨xs, k, _, _, hl2, hxl, hi⟩ := DataW.trod_array Try.underlying54 h0
  obtain ⟨s, hs, ws⟩ := one_int h1
  have hlen : cs.toList.length = 33 := hl.trans cells_tally
  rw [cells_row] at hi
  simp only [cells_rows, cells_int] at hi hs
  have each : ∀ i, i < 33 → ∃ z, cs.toList[i]? = some (.int .i64 z) ∧ (Lit.int .i64 z).wf = true := by
    intro i h
    by_cases h32 : i = 32
    · subst h32
      refine ⟨s, ?_, ws⟩
      have := congrArg (·[0]?) hs
      simpa [Value.cells] using this
    · have hk : i / 2 < 16 := by omega
      have hr := hi (i / 2) hk
      have hx : xs[i / 2]? = some xs[i / 2] := List.getElem?_eq_getElem (by omega)
      rw [hx] at hr
      obtain ⟨a, b, hab, wa, wb⟩ := row_ints hr
      have g0 := congrArg (·[0]?) hab
      have g1 := congrArg (·[1]?) hab
      simp only [List.getElem?_take, List.getElem?_drop, List.drop_zero] at g0 g1
      rw [if_pos (by omega), if_pos (by omega)] at g0 g1
      rcases (show i = i / 2 * 2 + 0 ∨ i = i / 2 * 2 + 1 by omega) with e | e
      · exact ⟨a, by rw [e]; simpa [Value.cells] using g0, wa⟩
      · exact ⟨b, by rw [e]; simpa [Value.cells] using g1, wb⟩
  have main : ∀ l : List Value, (∀ i, i < l.length → ∃ z, l[i]? = some (.int .i64 z) ∧ (Lit.int .i64 z).wf = true) → ∃ zs : List Int, l = zs.map (Value.int .i64) ∧ ∀ x ∈ zs, (Lit.int .i64 x).wf = true := by
    intro l
    induction l with
    | nil => intro _; exact ⟨[], rfl, by simp⟩
    | cons v l ih =>
      intro hall
      obtain ⟨z, hz, hw⟩ := hall 0 (by simp)
      simp at hz
      obtain ⟨zs, rfl, hws⟩ := ih (fun i hi => by have := hall (i + 1) (by simpa using hi); simpa using this)
      exact ⟨z :: zs, by rw [hz]; rfl, by intro x hx; rcases List.mem_cons.1 hx with rfl | hx; exact hw; exact hws x hx⟩
  obtain ⟨zs, hz, hw⟩ := main cs.toList (fun i hi => each i (by omega))
  refine ⟨zs, ?_, ?_, hw⟩
  · rw [← hz]
  · have := congrArg List.length hz
    rw [hlen, List.length_map] at this
    exact this.symm
end
end Go.Proofs.Ytjlcjcgoaakniaa.Tally
