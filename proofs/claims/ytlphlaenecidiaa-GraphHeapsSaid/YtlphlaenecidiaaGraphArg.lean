/- A told graph that came in as an argument, opened. -/
import Derived.Test.YtlphlaenecidiaaRow2
import Derived.Test.YtlphlaenecidiaaBuild2
import Derived.Deep.Slices
import Derived.Deep.Fields
import Derived.Lib.SmallJoins
namespace Go.Proofs.Ytlphlaenecidiaa.Build
open Go.ChangeShapes Go.WideShapes Go.ChangeAt Go.RowKit Go.Joins Go.Deep Go.Proofs.Ytlphlaenecidiaa.Row Go.Proofs.Ytlphlaenecidiaa.Mem

theorem u8_in {n : Int} (h : (Lit.int .u8 n).wf = true) : 0 ≤ n ∧ n < 256 := by
  simp only [Lit.wf, Bool.and_eq_true, decide_eq_true_eq] at h
  have h1 : IntKind.u8.min = 0 := by decide +kernel
  have h2 : IntKind.u8.max = 255 := by decide +kernel
  rw [h1, h2] at h
  omega

section
variable {H : Type} {enc : TypeId × Value → H} {P : Program} {w : World}
/-- A slice of bytes. -/
theorem open_bytes {t e : TypeId} {fuel : Nat} {cs : List Value} {x : DataW H × List MemPlace} (ht : P.underlying t = some (.slice e)) (he : P.underlying e = some (.int .u8)) (hc : P.cellsOf e = 1)
    (h : DataW.trod enc P w 0 (fun _ => true) true fuel t cs = some x) : ∃ (a : Option Addr) (cap : Nat) (xs : List Nat), cs = [.slice a xs.length cap] ∧ Bytes w a xs ∧ xs.length ≤ 9223372036854775807 := by
  rcases open_ints ht he hc h with ⟨rfl, _⟩ | ⟨a, len, cap, zs, rfl, _, hl, hm, hz, _, hcell, hwz⟩
  · exact ⟨none, 0, [], rfl, fun j x hx => by simp at hx, by simp⟩
  · simp only [if_true] at hz
    have hlen : ((zs.take len).map Int.toNat).length = len := by simp; omega
    refine ⟨some a, cap, (zs.take len).map Int.toNat, by rw [hlen], fun j x hj => ?_, by rw [hlen]; simp only [maxLen] at hm; omega⟩
    have hjl : j < len := by have := (List.getElem?_eq_some_iff.1 hj).1; rwa [hlen] at this
    rw [List.getElem?_map, List.getElem?_take, if_pos hjl] at hj
    cases hzj : zs[j]? with
    | none => rw [hzj] at hj; cases hj
    | some z =>
      rw [hzj] at hj
      cases hj
      have hjz : j < zs.length := by omega
      obtain ⟨b, off, rfl, hc2⟩ := ints_at hcell (by omega)
      have hcj := hc2 j hjz
      have hg : zs.getD j 0 = z := by rw [List.getD_eq_getElem?_getD, hzj]; rfl
      rw [hg] at hcj
      have hb := u8_in (hwz z (List.mem_of_getElem? hzj))
      have hzn : z = ((z.toNat : Nat) : Int) := by omega
      refine ⟨b, off, rfl, ?_, World.block_lt_of_cell? w ⟨b, off + j, none⟩ hcj, by omega⟩
      rw [← hzn]
      exact hcj
/-- A slice of nodes. -/
theorem open_nodes {t e t1 : TypeId} {f0 f1 f2 : Field} {fuel : Nat} {cs : List Value} {x : DataW H × List MemPlace} (ht : P.underlying t = some (.slice e)) (he : P.underlying e = some (.struct #[f0, f1, f2])) (hone : oneCellFields P #[f0, f1, f2] = true) (hC : P.cellsOf e = 3)
    (h0 : P.underlying f0.type = some (.int .u8)) (h1 : P.underlying f1.type = some (.slice t1)) (h1e : P.underlying t1 = some (.int .u8)) (h1c : P.cellsOf t1 = 1) (h2 : P.underlying f2.type = some (.int .u8))
    (h : DataW.trod enc P w 0 (fun _ => true) true fuel t cs = some x) : ∃ (a : Option Addr) (cap : Nat) (ns : List GNd), cs = [.slice a ns.length cap] ∧ NodesIn w a ns ∧ ns.length ≤ 9223372036854775807 := by
  rcases open_slice ht h with ⟨rfl, _⟩ | ⟨a, len, cap, m, n, D, Pl, rfl, _, hl, hm, hmm, _, hi⟩
  · exact ⟨none, 0, [], rfl, fun j x hx => by simp at hx, by simp⟩
  · have each : ∀ i, i < len → ∃ nd : GNd, ∃ (b off : Nat) (ea : Option Addr) (ec : Nat), a = ⟨b, off, none⟩ ∧ b < w.heap.size ∧ w.cell? ⟨b, off + i * 3, none⟩ = some (.int .u8 (nd.kind : Int)) ∧
        w.cell? ⟨b, off + i * 3 + 1, none⟩ = some (.slice ea nd.edges.length ec) ∧ w.cell? ⟨b, off + i * 3 + 2, none⟩ = some (.int .u8 (nd.more : Int)) ∧ Bytes w ea nd.edges ∧ nd.kind < 256 ∧ nd.more < 256 := by
      intro i him
      simp only [if_true] at hmm
      obtain ⟨cs', hcs, htr⟩ := hi i (by omega)
      rw [hC] at hcs
      obtain ⟨ys, n', _, _, hlen, hyl, hf⟩ := DataW.trod_struct he htr
      obtain ⟨_, hcl, hat⟩ := World.cells?_some hcs
      obtain ⟨v0, v1, v2, rfl⟩ : ∃ v0 v1 v2, cs' = [v0, v1, v2] := by
        rw [hC] at hlen
        match cs', hlen with
        | [v0, v1, v2], _ => exact ⟨v0, v1, v2, rfl⟩
      obtain ⟨o0, k0⟩ := hone_of hone 0 f0 rfl
      obtain ⟨o1, k1⟩ := hone_of hone 1 f1 rfl
      obtain ⟨o2, k2⟩ := hone_of hone 2 f2 rfl
      have g0 := hf 0 f0 rfl
      have g1 := hf 1 f1 rfl
      have g2 := hf 2 f2 rfl
      rw [o0, k0] at g0
      rw [o1, k1] at g1
      rw [o2, k2] at g2
      have hy0 : ys[0]? = some (ys[0]'(by simp at hyl; omega)) := List.getElem?_eq_getElem _
      have hy1 : ys[1]? = some (ys[1]'(by simp at hyl; omega)) := List.getElem?_eq_getElem _
      have hy2 : ys[2]? = some (ys[2]'(by simp at hyl; omega)) := List.getElem?_eq_getElem _
      rw [hy0] at g0
      rw [hy1] at g1
      rw [hy2] at g2
      obtain ⟨z0, e0, _, wz0⟩ := DataW.trod_int h0 g0
      obtain ⟨z2, e2, _, wz2⟩ := DataW.trod_int h2 g2
      obtain ⟨ea, ec, es, e1, hby, _⟩ := open_bytes h1 h1e h1c g1
      simp only [List.drop_zero, List.drop_succ_cons, List.take_succ_cons, List.take_zero, List.cons.injEq, and_true] at e0 e1 e2
      subst e0
      subst e1
      subst e2
      have c0 := hat 0 (by omega)
      have c1 := hat 1 (by omega)
      have c2 := hat 2 (by omega)
      have b0 := u8_in wz0
      have b2 := u8_in wz2
      obtain ⟨b, off, spot⟩ := a
      have hspot : spot = none := by
        obtain ⟨cs0, hcs0, _⟩ := hi 0 (by omega)
        rw [hC] at hcs0
        obtain ⟨_, hcl0, hat0⟩ := World.cells?_some hcs0
        have h3 := hat0 0 (by omega)
        rw [List.getElem?_eq_getElem (by omega)] at h3
        simpa [Addr.add] using World.cell?_spot h3
      subst hspot
      have hadd : ∀ k, ((⟨b, off, none⟩ : Addr).add (i * 3)).add k = ⟨b, off + i * 3 + k, none⟩ := by intro k; rw [Ref.add_at, Ref.add_at]
      rw [hadd] at c0 c1 c2
      exact ⟨⟨z0.toNat, es, z2.toNat⟩, b, off, ea, ec, rfl, World.block_lt_of_cell? w ⟨b, off + i * 3 + 0, none⟩ c0, by rw [show ((z0.toNat : Nat) : Int) = z0 by omega]; exact c0, c1, by rw [show ((z2.toNat : Nat) : Int) = z2 by omega]; exact c2, hby, by simp only; omega, by simp only; omega⟩
    have build : ∀ m, m ≤ len → ∃ ns : List GNd, ns.length = m ∧ ∀ (i : Nat) (nd : GNd), ns[i]? = some nd → ∃ (b off : Nat) (ea : Option Addr) (ec : Nat), a = ⟨b, off, none⟩ ∧ b < w.heap.size ∧ w.cell? ⟨b, off + i * 3, none⟩ = some (.int .u8 (nd.kind : Int)) ∧
        w.cell? ⟨b, off + i * 3 + 1, none⟩ = some (.slice ea nd.edges.length ec) ∧ w.cell? ⟨b, off + i * 3 + 2, none⟩ = some (.int .u8 (nd.more : Int)) ∧ Bytes w ea nd.edges ∧ nd.kind < 256 ∧ nd.more < 256 := by
      intro m
      induction m with
      | zero => intro _; exact ⟨[], rfl, fun i nd h => by simp at h⟩
      | succ m ih =>
        intro hml
        obtain ⟨ns, hn, hall⟩ := ih (by omega)
        obtain ⟨nd, hnd⟩ := each m (by omega)
        refine ⟨ns ++ [nd], by simp [hn], fun i q hq => ?_⟩
        rcases Nat.lt_trichotomy i m with hlt | heq | hgt
        · rw [List.getElem?_append_left (by omega)] at hq
          exact hall i q hq
        · subst heq
          rw [List.getElem?_append_right (by omega), hn, Nat.sub_self] at hq
          cases hq
          exact hnd
        · rw [List.getElem?_eq_none (by simp; omega)] at hq
          cases hq
    obtain ⟨ns, hn, hall⟩ := build len (Nat.le_refl _)
    refine ⟨some a, cap, ns, by rw [hn], fun i nd hi => ?_, by rw [hn]; simp only [maxLen] at hm; omega⟩
    obtain ⟨b, off, ea, ec, e, rest⟩ := hall i nd hi
    exact ⟨b, off, ea, ec, by rw [e], rest⟩
end

theorem und_node : ∃ f0 f1 f2 : Field, Try.prog.underlying 59 = some (.struct #[f0, f1, f2]) ∧ oneCellFields Try.prog #[f0, f1, f2] = true ∧ Try.prog.underlying f0.type = some (.int .u8) ∧ Try.prog.underlying f1.type = some (.slice 5) ∧ Try.prog.underlying f2.type = some (.int .u8) :=
  ⟨_, _, _, Try.underlying59, by kernel_rfl, Try.underlying5, Try.underlying44, Try.underlying5⟩
theorem cellsNode : Try.prog.cellsOf 59 = 3 := by kernel_rfl
theorem cellsGraph : Try.prog.cellsOf 46 = 2 := by kernel_rfl
theorem cellsByte : Try.prog.cellsOf 5 = 1 := by kernel_rfl
set_option maxRecDepth 100000 in
/-- A graph, by value. -/
theorem open_graph {H : Type} {enc : TypeId × Value → H} {W : World} {base : Nat} {v : Value} {d : DataW H} {p : List MemPlace} (hv : Value.okWide Try.prog W .any base 46 v) (h : DataW.Trod enc Try.prog W 0 (fun _ => true) true 46 v d p) :
    ∃ (na : Option Addr) (nc : Nat) (ra : Option Addr) (rc : Nat) (ns : List GNd) (rs : List Nat), v = gv na ns.length nc ra rs.length rc ∧ NodesIn W na ns ∧ Bytes W ra rs ∧ ns.length ≤ 9223372036854775807 ∧ rs.length ≤ 9223372036854775807 := by
  obtain ⟨v0, v1, y0, y1, n, rfl, _, _, h0, h1⟩ := open_agg2 Try.underlying46 (by kernel_rfl) cellsGraph hv h
  obtain ⟨f0, f1, f2, hu, hone, u0, u1, u2⟩ := und_node
  obtain ⟨na, nc, ns, e0, hn, hnl⟩ := open_nodes Try.underlying43 hu hone cellsNode u0 u1 Try.underlying5 cellsByte u2 h0
  obtain ⟨ra, rc, rs, e1, hr, hrl⟩ := open_bytes Try.underlying44 Try.underlying5 cellsByte h1
  cases e0
  cases e1
  exact ⟨na, nc, ra, rc, ns, rs, rfl, hn, hr, hnl, hrl⟩
end Go.Proofs.Ytlphlaenecidiaa.Build
