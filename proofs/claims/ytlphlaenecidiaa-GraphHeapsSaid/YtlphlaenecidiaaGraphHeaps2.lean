/- The law GraphHeaps, of whatever forms. -/
import Derived.Test.YtlphlaenecidiaaGraphHeaps
namespace Go.Proofs.Ytlphlaenecidiaa.Heaps
open Go.RowKit Go.Proofs.Ytlphlaenecidiaa.Mem Go.Proofs.Ytlphlaenecidiaa.Obj Go.Proofs.Ytlphlaenecidiaa.Ref Go.Proofs.Ytlphlaenecidiaa.Heap

theorem heaps_yes (w : World) (va vn vb vm : Value) (ks rs : List Int) (nds nbs : List Nd) (size : Int) (hs64 : -9223372036854775808 ≤ size ∧ size ≤ 9223372036854775807) (hk : IntsAt w va ks) (hn : NodesAt w vn nds) (hr : IntsAt w vb rs) (hm : NodesAt w vm nbs) (hsn : ∀ n ∈ nds, Small n) (hsm : ∀ n ∈ nbs, Small n) :
    Calls Try.prog 8 #[.agg #[va, vn], .agg #[vb, vm], .int .i64 size] w fun e w' => e = .returned (.bool true) ∧ Below w.heap.size w w' := by
  have key : Calls Try.prog 8 #[.agg #[va, vn], .agg #[vb, vm], .int .i64 size] w fun e w' => e = .returned (.bool true) ∧ Upd (fun _ => False) w w' := by
    by_cases h : tooMany nds.length nbs.length ks.length rs.length
    · obtain ⟨aa, ac, rfl⟩ := hk.form
      obtain ⟨na, nc, rfl⟩ := hn.form
      obtain ⟨ab, bc, rfl⟩ := hr.form
      obtain ⟨nb, mc, rfl⟩ := hm.form
      exact heaps_great w aa na ab nb ac nc bc mc ks.length nds.length rs.length nbs.length size h
    · unfold tooMany at h
      exact heaps_few w va vn vb vm ks rs nds nbs size hs64 hk hn hr hm hsn hsm (by omega) (by omega) (by omega) (by omega)
  exact key.mono fun e w' h => ⟨h.1, h.2.below (fun _ _ h => h)⟩
end Go.Proofs.Ytlphlaenecidiaa.Heaps
