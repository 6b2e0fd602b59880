/- The law GraphReaches: as many nodes as objects are reached, and as many words. -/
import Derived.Test.YtjlcjcgoaakniaaBuild3
import Derived.Test.YtjlcjcgoaakniaaReach
import Derived.Test.YtjlcjcgoaakniaaReachQ
import Derived.Test.YtjlcjcgoaakniaaAwake16
namespace Go.Proofs.Ytjlcjcgoaakniaa.Build
open Go.RowKit Go.Proofs.Ytjlcjcgoaakniaa.Mem Go.Proofs.Ytjlcjcgoaakniaa.Obj Go.Proofs.Ytjlcjcgoaakniaa.Ref Go.Proofs.Ytjlcjcgoaakniaa.Heap

theorem ints_own {w : World} {base : Nat} {a : Option Addr} {c : Nat} {xs : List Int} (h : w.ownsRow base 3 1 (.slice a xs.length c) xs.length (nums xs)) (hx : ∀ x ∈ xs, -9223372036854775808 ≤ x ∧ x ≤ 9223372036854775807) (hl : xs.length ≤ 1000000) : Row.Ints .i64 w a xs := by
  obtain ⟨a', cap, e, _, hc⟩ := IntsAt.of_own h
  cases e
  refine ⟨fun j x hj => ?_, fun j x hj => Graph.wf64 (hx x (List.mem_of_getElem? hj)), by omega⟩
  exact hc j x hj

/-- What the laws know of a told graph's objects. -/
structure Told (ns : List GNd) (rs : List Nat) : Prop where
  good : ∀ o ∈ obsOf ns, o.good
  w64 : ∀ o ∈ obsOf ns, ∀ x ∈ o.ws, -9223372036854775808 ≤ x ∧ x ≤ 9223372036854775807
  ptrs : ∀ o ∈ obsOf ns, ∀ x ∈ o.ws.take o.ptrs, leads (obsOf ns) x = true
  roots : ∀ x ∈ rs.map (placeOf (atOf ns)), leads (obsOf ns) x = true ∧ -9223372036854775808 ≤ x ∧ x ≤ 9223372036854775807
theorem mem_layG {o : Ob} : ∀ (i : Nat) {ns : List GNd} {ws : List (List Int)}, o ∈ layG i ns ws → (o.ptrs = 0 ∧ ∀ x ∈ o.ws, x = 0) ∨ ∃ (k : Nat) (n : GNd) (w : List Int), ns[k]? = some n ∧ ws[k]? = some w ∧ o = nodeOb n w
  | _, [], ws, h => by simp [layG] at h
  | _, _ :: _, [], h => by simp [layG] at h
  | i, n :: ns, w :: ws, h => by
    rw [layG, List.mem_append, List.mem_cons] at h
    rcases h with h | h | h
    · left
      unfold fill at h
      split at h
      · rw [List.mem_singleton] at h
        subst h
        exact ⟨rfl, fun x hx => (List.mem_replicate.1 hx).2⟩
      · cases h
    · exact .inr ⟨0, n, w, rfl, rfl, h⟩
    · rcases mem_layG (i + 1) h with h | ⟨k, m, u, h1, h2, h3⟩
      · exact .inl h
      · exact .inr ⟨k + 1, m, u, by simpa using h1, by simpa using h2, h3⟩
theorem told (ns : List GNd) (rs : List Nat) (hg : ∀ o ∈ obsOf ns, o.good) (hl : ns.length ≤ 100000) (hm : ∀ a ∈ atOf ns, a ≤ 65536) : Told ns rs := by
  refine ⟨hg, fun o ho x hx => ?_, fun o ho x hx => ?_, fun x hx => ?_⟩
  · rcases mem_layG 0 ho with ⟨_, h⟩ | ⟨k, n, w, h1, h2, rfl⟩
    · rw [h x hx]; omega
    · rw [List.getElem?_mapIdx, h1] at h2
      cases h2
      have hk : k < ns.length := (List.getElem?_eq_some_iff.1 h1).1
      simp only [nodeOb, full] at hx
      rcases List.mem_append.1 hx with hx | hx
      · obtain ⟨e, _, rfl⟩ := List.mem_map.1 hx
        exact placeOf_in hm e
      · obtain ⟨j, hj, rfl⟩ := List.mem_map.1 hx
        have := List.mem_range.1 hj
        omega
  · rcases mem_layG 0 ho with ⟨h, _⟩ | ⟨k, n, w, h1, h2, rfl⟩
    · rw [h] at hx; simp at hx
    · rw [List.getElem?_mapIdx, h1] at h2
      cases h2
      simp only [nodeOb, full] at hx
      rw [List.take_append_of_le_length (by simp), List.take_of_length_le (by simp)] at hx
      obtain ⟨e, _, rfl⟩ := List.mem_map.1 hx
      exact placeOf_leads (obsOf_fits ns) e
  · obtain ⟨e, _, rfl⟩ := List.mem_map.1 hx
    exact ⟨placeOf_leads (obsOf_fits ns) e, placeOf_in hm e⟩

end Go.Proofs.Ytjlcjcgoaakniaa.Build
