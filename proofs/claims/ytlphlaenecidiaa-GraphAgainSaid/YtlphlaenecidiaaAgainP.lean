/- The form with a root more that is there already, and one that is none: plain lists, no program here. -/
import Derived.Test.YtlphlaenecidiaaForm2
namespace Go.Proofs.Ytlphlaenecidiaa.Obj

theorem number_old {os : List Ob} {l : List Nat} {x : Int} (hs : Seen os l) (ho : OkRef l x) : ∃ k : Nat, number os l x = some (l, k) ∧ (k : Int) = ref l x := by
  rcases ho with rfl | ⟨a, rfl, ha⟩
  · exact ⟨0, by simp [number], rfl⟩
  · obtain ⟨i, hi⟩ := place_of_mem ha
    obtain ⟨o, hf, hk⟩ := hs.2 a ha
    refine ⟨i + 1, ?_, (ref_at hi).symm⟩
    unfold number
    rw [if_neg (by omega), show (a : Int) + 1 - 1 = (a : Int) by omega, lookAt_nat, hf]
    simp only
    rw [if_neg hk, show ((a : Int)).toNat = a by omega, hi]
/-- A root more, and one that is none. -/
theorem form_again {os : List Ob} {rs ks : List Int} {nds : List Nd} {x : Int} {i : Nat} (h : form os rs = some (ks, nds)) (hx : rs[i]? = some x) : ∃ k : Int, ks[i]? = some k ∧ form os (rs ++ [x, 0]) = some (ks ++ [k, 0], nds) := by
  unfold form at h
  split at h
  · cases h
  · rename_i l ks' hn
    cases hnd : Obj.nodes os (top os + 1) l [] with
    | none => rw [hnd] at h; cases h
    | some p =>
      obtain ⟨L, nds'⟩ := p
      rw [hnd] at h
      cases h
      obtain ⟨h1, h2, _, _⟩ := numbers_ref hn
      have hs := (numbers_found (Seen.nil os) hn).1
      obtain ⟨k, hk, hkr⟩ := number_old hs (h2 x (List.mem_of_getElem? hx))
      refine ⟨ref l x, by rw [h1, List.getElem?_map, hx]; rfl, ?_⟩
      have e1 : numbers os [] (rs ++ [x]) = some (l, ks ++ [(k : Int)]) := by
        rw [numbers_snoc, hn]
        simp only [hk]
      have e2 : numbers os [] (rs ++ [x, 0]) = some (l, ks ++ [(k : Int)] ++ [((0 : Nat) : Int)]) := by
        rw [show rs ++ [x, 0] = (rs ++ [x]) ++ [0] by simp, numbers_snoc, e1]
        simp [number]
      unfold form
      rw [e2]
      simp only [hnd]
      rw [← hkr]
      simp
end Go.Proofs.Ytlphlaenecidiaa.Obj
