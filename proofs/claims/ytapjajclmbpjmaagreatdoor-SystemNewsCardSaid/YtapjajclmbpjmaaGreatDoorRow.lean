/- Words for the rows of laws: arguments opened to numbers, and handed back because nothing that was there has turned. No program here. -/
import Derived.WalkKit
import Derived.ProofKit
import Derived.OpenShut
import Derived.ChangeOld
import Derived.Below
import Derived.Carry
import Derived.SizedLaws
namespace Go.Proofs.YtapjajclmbpjmaaGreatDoor.Row
open Go.ChangeShapes Go.WideShapes Go.ChangeAt Go.RowKit

theorem bounds_u64 {n : Int} (h : (Lit.int .u64 n).wf = true) : 0 ≤ n ∧ n ≤ 18446744073709551615 := by
  simp only [Lit.wf, Bool.and_eq_true, decide_eq_true_eq] at h
  have h1 : IntKind.u64.min = 0 := by decide +kernel
  have h2 : IntKind.u64.max = 18446744073709551615 := by decide +kernel
  rw [h1, h2] at h
  exact h
theorem bounds_i32 {n : Int} (h : (Lit.int .i32 n).wf = true) : -2147483648 ≤ n ∧ n ≤ 2147483647 := by
  simp only [Lit.wf, Bool.and_eq_true, decide_eq_true_eq] at h
  have h1 : IntKind.i32.min = -2147483648 := by decide +kernel
  have h2 : IntKind.i32.max = 2147483647 := by decide +kernel
  rw [h1, h2] at h
  exact h
theorem bounds_i16 {n : Int} (h : (Lit.int .i16 n).wf = true) : -32768 ≤ n ∧ n ≤ 32767 := by
  simp only [Lit.wf, Bool.and_eq_true, decide_eq_true_eq] at h
  have h1 : IntKind.i16.min = -32768 := by decide +kernel
  have h2 : IntKind.i16.max = 32767 := by decide +kernel
  rw [h1, h2] at h
  exact h
theorem bounds_u16 {n : Int} (h : (Lit.int .u16 n).wf = true) : 0 ≤ n ∧ n ≤ 65535 := by
  simp only [Lit.wf, Bool.and_eq_true, decide_eq_true_eq] at h
  have h1 : IntKind.u16.min = 0 := by decide +kernel
  have h2 : IntKind.u16.max = 65535 := by decide +kernel
  rw [h1, h2] at h
  exact h

section
variable {H : Type} {enc : TypeId × Value → H} {P : Program}

/-- Arguments read behind the call as before, where nothing that was there has turned. -/
theorem trodAll_below (hl : laidOutB P = true) {W W' : World} (hb : Below W.heap.size W W') : ∀ {ts : List TypeId} {vs : List Value} {ds : List (DataW H)} {ps : List MemPlace}, ts.all (fun t => P.readableRec t && decide (t < P.types.size)) = true →
    DataW.TrodAll enc P W 0 (fun _ => true) true ts vs ds ps → (∀ x ∈ ps, x.block < W.heap.size) → DataW.TrodAll enc P W' 0 (fun b => decide (b < W.heap.size)) true ts vs ds ps
  | [], vs, ds, ps, _, h, _ => by
    obtain ⟨rfl, rfl, rfl⟩ := trodAll_nil h
    exact trodAll_mk0
  | t :: ts, vs, ds, ps, hr, h, hlt => by
    obtain ⟨v, vs', d, ds', p, q, rfl, rfl, rfl, h0, r0⟩ := trodAll_cons h
    simp only [List.all_cons, Bool.and_eq_true, decide_eq_true_eq] at hr
    exact trodAll_cons_mk (Below.trod hl hr.1.1 hr.1.2 h0 hb (fun x hx => hlt x (List.mem_append_left _ hx))) (trodAll_below hl hb hr.2 r0 (fun x hx => hlt x (List.mem_append_right _ hx)))

/-- The numbers of a slice that came in: kind k, a list of them. -/
structure Ints (k : IntKind) (w : World) (a : Option Addr) (zs : List Int) : Prop where
  cell : ∀ (j : Nat) (x : Int), zs[j]? = some x → ∃ b off, a = some ⟨b, off, none⟩ ∧ w.cell? ⟨b, off + j, none⟩ = some (.int k x) ∧ b < w.heap.size
  wf : ∀ (j : Nat) (x : Int), zs[j]? = some x → (Lit.int k x).wf = true
  short : zs.length ≤ 9223372036854775807

theorem open_nums {t e : TypeId} {k : IntKind} {W : World} {base : Nat} {v : Value} {d : DataW H} {p : List MemPlace} (ht : P.underlying t = some (.slice e)) (he : P.underlying e = some (.int k)) (hc : P.cellsOf e = 1)
    (hv : Value.okWide P W .any base t v) (h : DataW.Trod enc P W 0 (fun _ => true) true t v d p) :
    ∃ (a : Option Addr) (cap : Nat) (zs : List Int), v = .slice a zs.length cap ∧ Ints k W a zs := by
  obtain ⟨a0, len, cap, rfl⟩ := okWide_slice ht hv
  obtain ⟨fuel, hf⟩ := h
  rcases open_ints ht he hc hf with ⟨hcs, hx⟩ | ⟨a, len', cap', zs, hcs, _, hl, hm, hz, hx, hcell, hwz⟩
  · simp only [Value.cells, List.cons.injEq, Value.slice.injEq, and_true] at hcs
    obtain ⟨rfl, rfl, rfl⟩ := hcs
    exact ⟨none, 0, [], rfl, ⟨fun j x hx => by simp at hx, fun j x hx => by simp at hx, by simp⟩⟩
  · simp only [Value.cells, List.cons.injEq, Value.slice.injEq, and_true] at hcs
    obtain ⟨rfl, rfl, rfl⟩ := hcs
    simp only [if_true] at hz
    have hlen : (zs.take len).length = len := by simp; omega
    refine ⟨some a, cap, zs.take len, by rw [hlen], ?_, ?_, ?_⟩
    · intro j x hj
      have hj' : j < (zs.take len).length := (List.getElem?_eq_some_iff.1 hj).1
      have hjl : j < zs.length := by rw [hlen] at hj'; omega
      have hzx : zs[j]? = some x := by
        rw [List.getElem?_take] at hj
        split at hj
        · exact hj
        · simp at hj
      obtain ⟨b, off, rfl, hc2⟩ := ints_at hcell (by omega)
      have hcj := hc2 j hjl
      have hg : zs.getD j 0 = x := by rw [List.getD_eq_getElem?_getD, hzx]; rfl
      rw [hg] at hcj
      exact ⟨b, off, rfl, hcj, World.block_lt_of_cell? W ⟨b, off + j, none⟩ hcj⟩
    · intro j x hj
      rw [List.getElem?_take] at hj
      split at hj
      · exact hwz x (List.mem_of_getElem? hj)
      · simp at hj
    · rw [hlen]; simp only [maxLen] at hm; omega

theorem okWide_array {w : World} {r : Reach} {base : Nat} {t : TypeId} {v : Value} {n : Nat} {e : TypeId} (ht : P.underlying t = some (.array n e)) (h : Value.okWide P w r base t v) : ∃ cs, v = .agg cs ∧ cs.size = P.cellsOf t := by
  simp only [Value.okWide, ht] at h
  cases v <;> simp_all

/-- An array of integers by value. -/
theorem open_arr {t e : TypeId} {k : IntKind} {n : Nat} {W : World} {base : Nat} {v : Value} {d : DataW H} {p : List MemPlace} (ht : P.underlying t = some (.array n e)) (he : P.underlying e = some (.int k)) (hc : P.cellsOf e = 1) (hct : P.cellsOf t = n)
    (hv : Value.okWide P W .any base t v) (h : DataW.Trod enc P W 0 (fun _ => true) true t v d p) :
    ∃ zs : List Int, v = .agg (zs.map (Value.int k)).toArray ∧ zs.length = n ∧ ∀ x ∈ zs, (Lit.int k x).wf = true := by
  obtain ⟨cs, rfl, hsz⟩ := okWide_array ht hv
  obtain ⟨fuel, hf⟩ := h
  obtain ⟨xs, m, _, _, hl, hxl, hi⟩ := DataW.trod_array ht hf
  have hlen : cs.toList.length = n := by simpa [hct] using hsz
  have each : ∀ i, i < n → ∃ z, cs.toList[i]? = some (.int k z) ∧ (Lit.int k z).wf = true := by
    intro i hin
    have h1 := hi i hin
    rw [hc, Nat.mul_one] at h1
    have hx : xs[i]? = some xs[i] := List.getElem?_eq_getElem (by omega)
    rw [hx] at h1
    obtain ⟨z, hz, _, hw⟩ := DataW.trod_int he h1
    refine ⟨z, ?_, hw⟩
    have := congrArg (·[0]?) hz
    simpa [Value.cells] using this
  have main : ∀ l : List Value, (∀ i, i < l.length → ∃ z, l[i]? = some (.int k z) ∧ (Lit.int k z).wf = true) → ∃ zs : List Int, l = zs.map (Value.int k) ∧ ∀ x ∈ zs, (Lit.int k x).wf = true := by
    intro l
    induction l with
    | nil => intro _; exact ⟨[], rfl, by simp⟩
    | cons v l ih =>
      intro hall
      obtain ⟨z, hz, hw⟩ := hall 0 (by simp)
      simp at hz
      obtain ⟨zs, rfl, hws⟩ := ih (fun i hi => by have := hall (i + 1) (by simpa using hi); simpa using this)
      exact ⟨z :: zs, by rw [hz]; rfl, by intro x hx; rcases List.mem_cons.1 hx with rfl | hx; exact hw; exact hws x hx⟩
  obtain ⟨zs, hz, hw⟩ := main cs.toList (fun i hi => each i (by omega))
  refine ⟨zs, ?_, ?_, hw⟩
  · rw [← hz]
  · have := congrArg List.length hz
    simp at this
    simp at hlen
    omega
end
end Go.Proofs.YtapjajclmbpjmaaGreatDoor.Row
