/- A form of which there is a heap: what the law tells step by step; its heap's references. Plain lists. -/
import Derived.Test.YtlphlaenecidiaaOfsP
import Derived.Test.YtlphlaenecidiaaFormArg
namespace Go.Proofs.Ytlphlaenecidiaa.Heaps
open Go.Proofs.Ytlphlaenecidiaa.Obj Go.Proofs.Ytlphlaenecidiaa.Ref

/-- A node that may be, of a form of so many. -/
def OkNd (m : Nat) (n : Nd) : Prop := (0 ≤ n.kind ∧ n.kind ≤ 14 ∧ n.edges.length + n.words.length ≤ 4095) ∧ ∀ e ∈ n.edges, 0 ≤ e ∧ e ≤ m
/-- So far all is right. -/
def OkNds (nds : List Nd) (size : Int) (k : Nat) : Prop := (1 ≤ size ∧ size ≤ 65536) ∧ ∀ n ∈ nds.take k, OkNd nds.length n
def OkKs (nds : List Nd) (ks : List Int) (size : Int) (k : Nat) : Prop := OkNds nds size nds.length ∧ ∀ e ∈ ks.take k, 0 ≤ e ∧ e ≤ nds.length
theorem right_iff {nds : List Nd} {ks : List Int} {size : Int} : Right nds ks size ↔ OkKs nds ks size ks.length ∧ (nwords nds : Int) ≤ size := by
  constructor
  · intro h
    refine ⟨⟨⟨⟨h.lo, h.hi⟩, fun n hn => ?_⟩, fun e he => h.root e (List.mem_of_mem_take he)⟩, h.fits⟩
    have hn := List.mem_of_mem_take hn
    exact ⟨h.each n hn, h.edge n hn⟩
  · intro ⟨⟨⟨⟨h1, h2⟩, h3⟩, h4⟩, h5⟩
    rw [List.take_length] at h3 h4
    exact ⟨h1, h2, fun n hn => (h3 n hn).1, h5, fun n hn => (h3 n hn).2, h4⟩
theorem OkNds.succ {nds : List Nd} {size : Int} {k : Nat} {n : Nd} (h : nds[k]? = some n) : OkNds nds size (k + 1) ↔ OkNds nds size k ∧ OkNd nds.length n := by
  unfold OkNds
  rw [List.take_add_one, h, Option.toList_some]
  constructor
  · intro ⟨h1, h2⟩
    exact ⟨⟨h1, fun m hm => h2 m (List.mem_append_left _ hm)⟩, h2 n (by simp)⟩
  · intro ⟨⟨h1, h2⟩, h3⟩
    refine ⟨h1, fun m hm => ?_⟩
    rcases List.mem_append.1 hm with hm | hm
    · exact h2 m hm
    · rw [List.mem_singleton] at hm; subst hm; exact h3
/-- Of some of the numbers. -/
theorem all_succ {xs : List Int} {m : Int} {k : Nat} {x : Int} (h : xs[k]? = some x) : (∀ e ∈ xs.take (k + 1), 0 ≤ e ∧ e ≤ m) ↔ (∀ e ∈ xs.take k, 0 ≤ e ∧ e ≤ m) ∧ 0 ≤ x ∧ x ≤ m := by
  rw [List.take_add_one, h, Option.toList_some]
  constructor
  · intro h1
    exact ⟨fun e he => h1 e (List.mem_append_left _ he), h1 x (by simp)⟩
  · intro ⟨h1, h2⟩ e he
    rcases List.mem_append.1 he with he | he
    · exact h1 e he
    · rw [List.mem_singleton] at he; subst he; exact h2
theorem nwords_bound : ∀ (nds : List Nd), (∀ n ∈ nds, Small n) → nwords nds ≤ nds.length * (1 + 2 * most)
  | [], _ => Nat.zero_le _
  | n :: nds, h => by
    have h1 := nwords_bound nds (fun m hm => h m (List.mem_cons_of_mem _ hm))
    obtain ⟨h2, h3, _⟩ := h n List.mem_cons_self
    rw [nwords, List.length_cons, Nat.add_mul, Nat.one_mul]
    omega
/-- All references of its heap lead to objects. -/
theorem own_leads {nds : List Nd} {ks : List Int} {size : Int} (h : Right nds ks size) : ∀ o ∈ nds.map (full nds), ∀ x ∈ o.ws.take o.ptrs, leads (nds.map (full nds)) x = true ∧ -9223372036854775808 ≤ x ∧ x ≤ 9223372036854775807 := by
  intro o ho x hx
  obtain ⟨n, hn, rfl⟩ := List.mem_map.1 ho
  simp only [full, wordsOf] at hx
  rw [List.take_append_of_le_length (by simp), List.take_of_length_le (by simp)] at hx
  obtain ⟨e, he, rfl⟩ := List.mem_map.1 hx
  have h1 := h.edge n hn e he
  have h2 := refAt_bound nds e.toNat
  have h3 := h.fits
  have h4 := h.hi
  refine ⟨like_leads ?_ (fun m hm => ⟨(h.each m hm).1, (h.each m hm).2.1⟩) (by omega), by omega, by omega⟩
  rw [List.map_map]
  exact List.map_congr_left (fun m _ => by simp only [Function.comp_apply, full_len]; rfl)
/-- So far two forms are alike. -/
def Like (ks rs : List Int) (xs ys : List Nd) (k : Nat) : Prop := ks = rs ∧ xs.length = ys.length ∧ ∀ j, j < k → xs[j]? = ys[j]?
theorem like_all {ks rs : List Int} {xs ys : List Nd} : Like ks rs xs ys xs.length ↔ (ks = rs ∧ xs = ys) := by
  constructor
  · intro ⟨h1, h2, h3⟩
    refine ⟨h1, List.ext_getElem? (fun j => ?_)⟩
    by_cases hj : j < xs.length
    · exact h3 j hj
    · rw [List.getElem?_eq_none (by omega), List.getElem?_eq_none (by omega)]
  · rintro ⟨rfl, rfl⟩
    exact ⟨rfl, rfl, fun _ _ => rfl⟩
theorem Like.same {ks rs : List Int} {xs ys : List Nd} (k : Nat) (h : ks = rs ∧ xs = ys) : Like ks rs xs ys k := by
  obtain ⟨rfl, rfl⟩ := h
  exact ⟨rfl, rfl, fun _ _ => rfl⟩
theorem Like.succ {ks rs : List Int} {xs ys : List Nd} {k : Nat} {x y : Nd} (hx : xs[k]? = some x) (hy : ys[k]? = some y) : Like ks rs xs ys (k + 1) ↔ Like ks rs xs ys k ∧ x = y := by
  constructor
  · intro ⟨h1, h2, h3⟩
    refine ⟨⟨h1, h2, fun j hj => h3 j (by omega)⟩, ?_⟩
    have := h3 k (by omega)
    rw [hx, hy] at this
    exact Option.some.inj this
  · rintro ⟨⟨h1, h2, h3⟩, rfl⟩
    refine ⟨h1, h2, fun j hj => ?_⟩
    by_cases e : j = k
    · subst e; rw [hx, hy]
    · exact h3 j (by omega)
end Go.Proofs.Ytlphlaenecidiaa.Heaps
