/- A form that came in as an argument, opened; how great it is. -/
import Derived.Test.YtlphlaenecidiaaRow2
import Derived.SizedLaws
import Derived.Test.YtlphlaenecidiaaGraphArg
import Derived.Test.YtlphlaenecidiaaAwake16
import Derived.Deep.Slices
import Derived.Deep.Fields
import Derived.Lib.SmallJoins
namespace Go.Proofs.Ytlphlaenecidiaa.Heaps
open Go.ChangeShapes Go.WideShapes Go.ChangeAt Go.RowKit Go.Joins Go.Deep Go.Proofs.Ytlphlaenecidiaa.Row Go.Proofs.Ytlphlaenecidiaa.Mem Go.Proofs.Ytlphlaenecidiaa.Obj Go.Proofs.Ytlphlaenecidiaa.Ref

/-- So many numbers a slice has at most. -/
def most : Nat := 17592186044416
theorem weights_all {H : Type} {P : Program} {e : TypeId} {d : DataW H} {n : Nat} (hn : n ∈ d.weights P e) : ∀ {l : List (DataW H)}, d ∈ l → n ∈ DataW.weightsAll P e l
  | [], h => by cases h
  | c :: l, h => by
    rw [DataW.weightsAll]
    rcases List.mem_cons.1 h with rfl | h
    · exact List.mem_append_left _ hn
    · exact List.mem_append_right _ (weights_all hn h)
theorem lits_len {H : Type} (k : IntKind) (l : List Int) : (lits k l : List (DataW H)).length = l.length := by simp [lits]

/-- All that is known of a node that came in. -/
def Small (n : Nd) : Prop := n.edges.length ≤ most ∧ n.words.length ≤ most ∧ ∀ x ∈ n.words, -9223372036854775808 ≤ x ∧ x ≤ 9223372036854775807

section
variable {H : Type} {enc : TypeId × Value → H} {P : Program} {w : World}
/-- A slice of numbers. -/
theorem open_numbers {t e : TypeId} {fuel : Nat} {cs : List Value} {x : DataW H × List MemPlace} (ht : P.underlying t = some (.slice e)) (he : P.underlying e = some (.int .i64)) (hc : P.cellsOf e = 1) (hb : P.bytesOf e = 8)
    (hs : ∀ n ∈ x.1.weights P t, n ≤ reachBytes) (h : DataW.trod enc P w 0 (fun _ => true) true fuel t cs = some x) : ∃ (v : Value) (xs : List Int), cs = [v] ∧ IntsAt w v xs ∧ xs.length ≤ most ∧ ∀ z ∈ xs, -9223372036854775808 ≤ z ∧ z ≤ 9223372036854775807 := by
  rcases open_ints ht he hc h with ⟨rfl, _⟩ | ⟨a, len, cap, zs, rfl, _, hl, hm, hz, rfl, hcell, hwz⟩
  · exact ⟨_, [], rfl, ⟨none, 0, rfl, Nat.le_refl _, fun j x hj => by simp at hj⟩, Nat.zero_le _, fun z hz => by cases hz⟩
  · simp only [if_true] at hz
    have hlen : (zs.take len).length = len := by rw [List.length_take]; omega
    refine ⟨_, zs.take len, rfl, ⟨some a, cap, by rw [hlen], by omega, fun j x hj => ?_⟩, ?_, fun z hz => Raw.b64 (hwz z (List.mem_of_mem_take hz))⟩
    · have hjl : j < len := by have := (List.getElem?_eq_some_iff.1 hj).1; rwa [hlen] at this
      rw [List.getElem?_take, if_pos hjl] at hj
      have hjz : j < zs.length := (List.getElem?_eq_some_iff.1 hj).1
      obtain ⟨b, off, rfl, hc2⟩ := ints_at hcell (by omega)
      have hcj := hc2 j hjz
      have hg : zs.getD j 0 = x := by rw [List.getD_eq_getElem?_getD, hj]; rfl
      rw [hg] at hcj
      exact ⟨b, off, rfl, hcj, World.block_lt_of_cell? w ⟨b, off + j, none⟩ hcj⟩
    · have h1 := hs _ (by simp only [DataW.weights, ht]; exact List.mem_cons_self)
      rw [lits_len, lits_len, hb] at h1
      simp only [reachBytes] at h1
      simp only [most]
      omega
/-- A slice of nodes. -/
theorem open_nodes {t e ti : TypeId} {f0 f1 f2 : Field} {fuel : Nat} {cs : List Value} {x : DataW H × List MemPlace} (ht : P.underlying t = some (.slice e)) (he : P.underlying e = some (.struct #[f0, f1, f2])) (hone : oneCellFields P #[f0, f1, f2] = true) (hC : P.cellsOf e = 3)
    (h0 : P.underlying f0.type = some (.int .i64)) (h1 : P.underlying f1.type = some (.slice ti)) (hi : P.underlying ti = some (.int .i64)) (hic : P.cellsOf ti = 1) (hib : P.bytesOf ti = 8) (h2 : P.underlying f2.type = some (.slice ti))
    (hs : ∀ n ∈ x.1.weights P t, n ≤ reachBytes) (h : DataW.trod enc P w 0 (fun _ => true) true fuel t cs = some x) : ∃ (v : Value) (nds : List Nd), cs = [v] ∧ NodesAt w v nds ∧ nds.length ≤ 9223372036854775807 ∧ ∀ n ∈ nds, Small n := by
  rcases open_slice ht h with ⟨rfl, _⟩ | ⟨a, len, cap, m, n, D, Pl, rfl, _, hl, hm, hmm, rfl, hit⟩
  · exact ⟨_, [], rfl, ⟨none, 0, rfl, fun j x hj => by simp at hj⟩, by simp, fun n hn => by cases hn⟩
  · have each : ∀ i, i < len → ∃ nd : Nd, ∃ (b o : Nat) (ve vw : Value), a = ⟨b, o, none⟩ ∧ b < w.heap.size ∧ w.cell? ⟨b, o + i * 3, none⟩ = some (.int .i64 nd.kind) ∧
        w.cell? ⟨b, o + i * 3 + 1, none⟩ = some ve ∧ w.cell? ⟨b, o + i * 3 + 2, none⟩ = some vw ∧ IntsAt w ve nd.edges ∧ IntsAt w vw nd.words ∧ Small nd := by
      intro i him
      simp only [if_true] at hmm
      obtain ⟨cs', hcs, htr⟩ := hit i (by omega)
      rw [hC] at hcs
      obtain ⟨ys, n', _, hx, hlen, hyl, hf⟩ := DataW.trod_struct he htr
      obtain ⟨_, hcl, hat⟩ := World.cells?_some hcs
      obtain ⟨v0, v1, v2, rfl⟩ : ∃ v0 v1 v2, cs' = [v0, v1, v2] := by
        rw [hC] at hlen
        match cs', hlen with
        | [v0, v1, v2], _ => exact ⟨v0, v1, v2, rfl⟩
      obtain ⟨o0, k0⟩ := hone_of hone 0 f0 rfl
      obtain ⟨o1, k1⟩ := hone_of hone 1 f1 rfl
      obtain ⟨o2, k2⟩ := hone_of hone 2 f2 rfl
      have g0 := hf 0 f0 rfl
      have g1 := hf 1 f1 rfl
      have g2 := hf 2 f2 rfl
      rw [o0, k0] at g0
      rw [o1, k1] at g1
      rw [o2, k2] at g2
      have hy0 : ys[0]? = some (ys[0]'(by simp at hyl; omega)) := List.getElem?_eq_getElem _
      have hy1 : ys[1]? = some (ys[1]'(by simp at hyl; omega)) := List.getElem?_eq_getElem _
      have hy2 : ys[2]? = some (ys[2]'(by simp at hyl; omega)) := List.getElem?_eq_getElem _
      rw [hy0] at g0
      rw [hy1] at g1
      rw [hy2] at g2
      have hD : DataW.agg (ys.map (·.1)) = D i := by
        have := congrArg Prod.fst hx
        exact this.symm
      have hsD : ∀ n ∈ (D i).weights P e, n ≤ reachBytes := fun n hn => hs n (by
        simp only [DataW.weights, ht]
        exact List.mem_cons_of_mem _ (List.mem_append_left _ (weights_all hn (List.mem_map.2 ⟨i, List.mem_range.2 him, rfl⟩))))
      rw [← hD] at hsD
      have hsY : ∀ (j : Nat) (t : TypeId) (y : DataW H × List MemPlace), ([f0, f1, f2].map (·.type))[j]? = some t → ys[j]? = some y → ∀ n ∈ y.1.weights P t, n ≤ reachBytes := fun j t y hj hy n hn => hsD n (by
        simp only [DataW.weights, he]
        exact DataW.weights_mem_each (j := j) hj (by rw [List.getElem?_map, hy]; rfl) n hn)
      obtain ⟨z0, e0, _, wz0⟩ := DataW.trod_int h0 g0
      obtain ⟨ve, es, e1, i1, l1, _⟩ := open_numbers h1 hi hic hib (hsY 1 f1.type _ rfl hy1) g1
      obtain ⟨vw, ws, e2, i2, l2, w64⟩ := open_numbers h2 hi hic hib (hsY 2 f2.type _ rfl hy2) g2
      simp only [List.drop_zero, List.drop_succ_cons, List.take_succ_cons, List.take_zero, List.cons.injEq, and_true] at e0 e1 e2
      subst e0
      subst e1
      subst e2
      have c0 := hat 0 (by omega)
      have c1 := hat 1 (by omega)
      have c2 := hat 2 (by omega)
      obtain ⟨b, off, spot⟩ := a
      have hspot : spot = none := by
        obtain ⟨cs0, hcs0, _⟩ := hit 0 (by omega)
        rw [hC] at hcs0
        obtain ⟨_, hcl0, hat0⟩ := World.cells?_some hcs0
        have h3 := hat0 0 (by omega)
        rw [List.getElem?_eq_getElem (by omega)] at h3
        simpa [Addr.add] using World.cell?_spot h3
      subst hspot
      have hadd : ∀ k, ((⟨b, off, none⟩ : Addr).add (i * 3)).add k = ⟨b, off + i * 3 + k, none⟩ := by intro k; rw [Ref.add_at, Ref.add_at]
      rw [hadd] at c0 c1 c2
      exact ⟨⟨z0, es, ws⟩, b, off, _, _, rfl, World.block_lt_of_cell? w ⟨b, off + i * 3 + 0, none⟩ c0, c0, c1, c2, i1, i2, l1, l2, w64⟩
    have build : ∀ m', m' ≤ len → ∃ nds : List Nd, nds.length = m' ∧ ∀ (i : Nat) (nd : Nd), nds[i]? = some nd → ∃ (b o : Nat) (ve vw : Value), a = ⟨b, o, none⟩ ∧ b < w.heap.size ∧ w.cell? ⟨b, o + i * 3, none⟩ = some (.int .i64 nd.kind) ∧
        w.cell? ⟨b, o + i * 3 + 1, none⟩ = some ve ∧ w.cell? ⟨b, o + i * 3 + 2, none⟩ = some vw ∧ IntsAt w ve nd.edges ∧ IntsAt w vw nd.words ∧ Small nd := by
      intro m'
      induction m' with
      | zero => intro _; exact ⟨[], rfl, fun i nd h => by simp at h⟩
      | succ m' ih =>
        intro hml
        obtain ⟨nds, hn, hall⟩ := ih (by omega)
        obtain ⟨nd, hnd⟩ := each m' (by omega)
        refine ⟨nds ++ [nd], by simp [hn], fun i q hq => ?_⟩
        rcases Nat.lt_trichotomy i m' with hlt | heq | hgt
        · rw [List.getElem?_append_left (by omega)] at hq
          exact hall i q hq
        · subst heq
          rw [List.getElem?_append_right (by omega), hn, Nat.sub_self] at hq
          cases hq
          exact hnd
        · rw [List.getElem?_eq_none (by simp; omega)] at hq
          cases hq
    obtain ⟨nds, hn, hall⟩ := build len (Nat.le_refl _)
    refine ⟨_, nds, rfl, ⟨some a, cap, by rw [hn], fun i nd hi => ?_⟩, by rw [hn]; simp only [maxLen] at hm; omega, fun nd hnd => ?_⟩
    · obtain ⟨b, o, ve, vw, e, g1, g2, g3, g4, g5, g6, _⟩ := hall i nd hi
      exact ⟨b, o, ve, vw, by rw [e], g1, g2, g3, g4, g5, g6⟩
    · obtain ⟨i, hi, rfl⟩ := List.getElem_of_mem hnd
      obtain ⟨_, _, _, _, _, _, _, _, _, _, _, g7⟩ := hall i _ (List.getElem?_eq_getElem hi)
      exact g7
end

theorem und_node : ∃ f0 f1 f2 : Field, Try.prog.underlying 66 = some (.struct #[f0, f1, f2]) ∧ oneCellFields Try.prog #[f0, f1, f2] = true ∧ Try.prog.underlying f0.type = some (.int .i64) ∧ Try.prog.underlying f1.type = some (.slice 3) ∧ Try.prog.underlying f2.type = some (.slice 3) :=
  ⟨_, _, _, Try.underlying66, by kernel_rfl, Try.underlying3, Try.underlying22, Try.underlying22⟩
theorem cellsNode : Try.prog.cellsOf 66 = 3 := by kernel_rfl
theorem cellsForm : Try.prog.cellsOf 35 = 2 := by kernel_rfl
theorem cellsInt : Try.prog.cellsOf 3 = 1 := by kernel_rfl
theorem bytesInt : Try.prog.bytesOf 3 = 8 := by kernel_rfl
set_option maxRecDepth 100000 in
/-- A form, by value. -/
theorem open_form {H : Type} {enc : TypeId × Value → H} {W : World} {base : Nat} {v : Value} {d : DataW H} {p : List MemPlace} (hv : Value.okWide Try.prog W .any base 35 v) (hs : ∀ n ∈ d.weights Try.prog 35, n ≤ reachBytes) (h : DataW.Trod enc Try.prog W 0 (fun _ => true) true 35 v d p) :
    ∃ (va vn : Value) (ks : List Int) (nds : List Nd), v = .agg #[va, vn] ∧ IntsAt W va ks ∧ NodesAt W vn nds ∧ ks.length ≤ most ∧ nds.length ≤ 9223372036854775807 ∧ (∀ n ∈ nds, Small n) ∧ ∀ x ∈ ks, -9223372036854775808 ≤ x ∧ x ≤ 9223372036854775807 := by
  obtain ⟨v0, v1, y0, y1, n, rfl, rfl, _, h0, h1⟩ := open_agg2 Try.underlying35 (by kernel_rfl) cellsForm hv h
  obtain ⟨f0, f1, f2, hu, hone, u0, u1, u2⟩ := und_node
  have hsY : ∀ (j : Nat) (t : TypeId) (y : DataW H), [22, 33][j]? = some t → [y0.1, y1.1][j]? = some y → ∀ n ∈ y.weights Try.prog t, n ≤ reachBytes := fun j t y hj hy n hn => hs n (by
    have hu := Try.underlying35
    simp only [DataW.weights, hu]
    exact DataW.weights_mem_each (j := j) hj hy n hn)
  obtain ⟨va, ks, e0, hk, hkl, hk64⟩ := open_numbers Try.underlying22 Try.underlying3 cellsInt bytesInt (hsY 0 _ _ rfl rfl) h0
  obtain ⟨vn, nds, e1, hn, hnl, hsm⟩ := open_nodes Try.underlying33 hu hone cellsNode u0 u1 Try.underlying3 cellsInt bytesInt u2 (hsY 1 _ _ rfl rfl) h1
  cases e0
  cases e1
  exact ⟨_, _, ks, nds, rfl, hk, hn, hkl, hnl, hsm, hk64⟩
end Go.Proofs.Ytlphlaenecidiaa.Heaps
