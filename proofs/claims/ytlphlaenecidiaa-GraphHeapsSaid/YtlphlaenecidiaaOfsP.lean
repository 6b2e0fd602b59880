/- A form's own heap fits where its form's heap did: plain lists. -/
import Derived.Test.YtlphlaenecidiaaRename
import Derived.Test.YtlphlaenecidiaaReachQ
namespace Go.Proofs.Ytlphlaenecidiaa.Obj
open Go.Proofs.Ytlphlaenecidiaa.Ref

theorem sumTo_mono {p : Nat → Bool} {g : Nat → Nat} : ∀ n, sumTo p g n ≤ sumTo (fun _ => true) g n
  | 0 => Nat.le_refl _
  | n + 1 => by
    have := sumTo_mono (p := p) (g := g) n
    simp only [sumTo, if_true]
    split <;> omega
theorem sumTo_all (os : List Ob) : ∀ n, n ≤ os.length → sumTo (fun _ => true) (fun i => 1 + ((os[i]?).map Ob.len).getD 0) n = top (os.take n)
  | 0, _ => rfl
  | n + 1, h => by
    obtain ⟨o, ho⟩ : ∃ o, os[n]? = some o := ⟨_, List.getElem?_eq_getElem (by omega)⟩
    rw [sumTo, sumTo_all os n (by omega), List.take_add_one, ho, Option.toList_some, top_append, top_cons, top_nil]
    rfl
/-- What is reached has no more words than all. -/
theorem form_fits {os : List Ob} {rs ks : List Int} {nds : List Nd} (h : form os rs = some (ks, nds)) (hg : ∀ o ∈ os, o.good) : nwords nds ≤ top os := by
  obtain ⟨L, F⟩ := form_formed h
  have hfd : ∀ a ∈ L, ∃ o, find os a = some o := fun a ha => by obtain ⟨o, ho, _⟩ := F.seen.2 a ha; exact ⟨o, ho⟩
  have hlt : ∀ j ∈ L.map (ixA os), j < os.length := by
    intro j hj
    obtain ⟨a, ha, rfl⟩ := List.mem_map.1 hj
    obtain ⟨o, ho⟩ := hfd a ha
    exact (List.getElem?_eq_some_iff.1 (ixA_some ho).2).1
  have hout : ∀ i : Nat, ((List.range os.length).map (fun i => decide (i ∈ L.map (ixA os))))[i]? = some true ↔ Rch os rs i := by
    intro i
    rw [rch_iff F, List.getElem?_map]
    by_cases hi : i < os.length
    · rw [List.getElem?_range hi]
      simp
    · rw [List.getElem?_eq_none (by rw [List.length_range]; omega)]
      exact ⟨fun h => (by cases h), fun h => absurd (hlt i h) hi⟩
  have h1 := (reach_counts hg h hout).2.1
  have h2 := sumTo_mono (p := fun i => ((List.range os.length).map (fun i => decide (i ∈ L.map (ixA os)))).getD i false) (g := fun i => 1 + ((os[i]?).map Ob.len).getD 0) os.length
  rw [← h1, sumTo_all os _ (Nat.le_refl _), List.take_length] at h2
  exact h2
theorem ref_bound {L : List Nat} {x : Int} (h : OkRef L x) : 0 ≤ ref L x ∧ ref L x ≤ L.length := by
  rcases h with rfl | ⟨a, rfl, ha⟩
  · simp [ref]
  · obtain ⟨i, hi⟩ := place_of_mem ha
    have := place_lt hi
    rw [ref_at hi]
    omega
theorem form_right {os : List Ob} {rs ks : List Int} {nds : List Nd} {size : Int} (h : form os rs = some (ks, nds)) (hg : ∀ o ∈ os, o.good) (h1 : 1 ≤ size) (h2 : size ≤ 65536) (h3 : (nwords nds : Int) ≤ size) : Right nds ks size := by
  obtain ⟨L, F⟩ := form_formed h
  have hlen := F.len
  refine ⟨h1, h2, fun n hn => ?_, h3, fun n hn e he => ?_, fun e he => ?_⟩
  · rw [F.nodes] at hn
    obtain ⟨a, ha, rfl⟩ := List.mem_map.1 hn
    obtain ⟨o, ho, hk⟩ := F.seen.2 a ha
    obtain ⟨g1, g2, g3, _⟩ := hg o (find_mem ho)
    unfold nodeOf
    rw [ho]
    simp only [List.length_map, List.length_take, List.length_drop]
    simp only [Ob.len] at g2 g3
    omega
  · have hn' := hn
    rw [F.nodes] at hn
    obtain ⟨a, ha, rfl⟩ := List.mem_map.1 hn
    obtain ⟨o, ho, hk⟩ := F.seen.2 a ha
    unfold nodeOf at he
    rw [ho] at he
    obtain ⟨x, hx, rfl⟩ := List.mem_map.1 he
    have := ref_bound (F.closed a ha o ho x hx)
    omega
  · rw [F.roots] at he
    obtain ⟨x, hx, rfl⟩ := List.mem_map.1 he
    have := ref_bound (F.okr x hx)
    omega
theorem form_words64 {os : List Ob} {rs ks : List Int} {nds : List Nd} (h : form os rs = some (ks, nds)) (hw : ∀ o ∈ os, ∀ x ∈ o.ws, -9223372036854775808 ≤ x ∧ x ≤ 9223372036854775807) : ∀ n ∈ nds, ∀ x ∈ n.words, -9223372036854775808 ≤ x ∧ x ≤ 9223372036854775807 := by
  obtain ⟨L, F⟩ := form_formed h
  intro n hn x hx
  rw [F.nodes] at hn
  obtain ⟨a, ha, rfl⟩ := List.mem_map.1 hn
  obtain ⟨o, ho, hk⟩ := F.seen.2 a ha
  unfold nodeOf at hx
  rw [ho] at hx
  exact hw o (find_mem ho) x (List.mem_of_mem_drop hx)
theorem refAt_bound (nds : List Nd) (j : Nat) : 0 ≤ refAt nds j ∧ refAt nds j ≤ (nwords nds : Int) + 1 := by
  rw [refAt]
  split
  · omega
  · have := nwords_take_le nds (j - 1)
    push_cast
    omega
theorem own_words64 {nds : List Nd} (hw : ∀ n ∈ nds, ∀ x ∈ n.words, -9223372036854775808 ≤ x ∧ x ≤ 9223372036854775807) (ht : nwords nds ≤ 65536) : ∀ o ∈ nds.map (full nds), ∀ x ∈ o.ws, -9223372036854775808 ≤ x ∧ x ≤ 9223372036854775807 := by
  intro o ho x hx
  obtain ⟨n, hn, rfl⟩ := List.mem_map.1 ho
  simp only [full, wordsOf] at hx
  rcases List.mem_append.1 hx with hx | hx
  · obtain ⟨e, _, rfl⟩ := List.mem_map.1 hx
    have := refAt_bound nds e.toNat
    omega
  · exact hw n hn x hx
theorem own_top (nds : List Nd) : top (nds.map (full nds)) = nwords nds := top_map _ _ (fun n _ => full_len nds n)
end Go.Proofs.Ytlphlaenecidiaa.Obj
