/- Words read as objects: plain. -/
import Derived.Test.YtlphlaenecidiaaHeap
namespace Go.Proofs.Ytlphlaenecidiaa.Heap
open Go.Proofs.Ytlphlaenecidiaa.Obj

/-- The object that a head's word begins. -/
def obOf (x : Int) (ws : List Int) : Ob := ⟨(x % 16).toNat, (x / 16 % 4096).toNat, ws⟩
def lenOf (x : Int) : Nat := (x / 16 / 4096).toNat
/-- All words, as objects. -/
def parse : Nat → List Ob → List Int → Option (List Ob)
  | _, os, [] => some os
  | 0, _, _ :: _ => none
  | f + 1, os, x :: ws => if okW x = true ∧ lenOf x ≤ ws.length then parse f (os ++ [obOf x (ws.take (lenOf x))]) (ws.drop (lenOf x)) else none
theorem parse_nil (f : Nat) (os : List Ob) : parse f os [] = some os := by cases f <;> rfl
theorem parse_cons (f : Nat) (os : List Ob) (x : Int) (ws : List Int) : parse (f + 1) os (x :: ws) = if okW x = true ∧ lenOf x ≤ ws.length then parse f (os ++ [obOf x (ws.take (lenOf x))]) (ws.drop (lenOf x)) else none := rfl

theorem okW_parts {x : Int} (h : okW x = true) : 0 ≤ x ∧ x < 268435456 ∧ x % 16 = ((x % 16).toNat : Int) ∧ x / 16 % 4096 = ((x / 16 % 4096).toNat : Int) ∧ x / 16 / 4096 = (lenOf x : Int) ∧ lenOf x ≤ 4095 ∧ (x / 16 % 4096).toNat ≤ lenOf x ∧ ((x % 16).toNat = 15 → (x / 16 % 4096).toNat = 0) := by
  unfold okW goodB at h
  rw [Bool.and_eq_true] at h
  have h0 := of_decide_eq_true h.1
  have h1 := of_decide_eq_true h.2
  unfold lenOf
  omega
theorem obOf_good {x : Int} {ws : List Int} (h : okW x = true) (hl : ws.length = lenOf x) : (obOf x ws).good := by
  obtain ⟨h0, h1, h2, h3, h4, h5, h6, h7⟩ := okW_parts h
  unfold Ob.good obOf Ob.len
  simp only
  rw [hl]
  exact ⟨by omega, h6, h5, h7⟩
theorem obOf_word {x : Int} {ws : List Int} (h : okW x = true) (hl : ws.length = lenOf x) : (obOf x ws).word = x := by
  obtain ⟨h0, h1, h2, h3, h4, h5, h6, h7⟩ := okW_parts h
  unfold Ob.word obOf Ob.len
  simp only
  rw [hl]
  omega

theorem parse_flat : ∀ {f : Nat} {os os' : List Ob} {ws : List Int}, parse f os ws = some os' → flat os' = flat os ++ ws
  | f, os, os', [], h => by
    rw [parse_nil] at h
    cases h
    simp
  | 0, os, os', x :: ws, h => by cases h
  | f + 1, os, os', x :: ws, h => by
    rw [parse_cons] at h
    split at h
    · rename_i hc
      have hl : (ws.take (lenOf x)).length = lenOf x := by rw [List.length_take]; omega
      rw [parse_flat h, flat_append]
      simp only [flat, List.append_nil, List.append_assoc, List.cons_append, obOf_word hc.1 hl]
      simp only [obOf, List.take_append_drop]
    · cases h
theorem parse_good : ∀ {f : Nat} {os os' : List Ob} {ws : List Int}, (∀ o ∈ os, o.good) → parse f os ws = some os' → ∀ o ∈ os', o.good
  | f, os, os', [], hg, h => by
    rw [parse_nil] at h
    cases h
    exact hg
  | 0, os, os', x :: ws, hg, h => by cases h
  | f + 1, os, os', x :: ws, hg, h => by
    rw [parse_cons] at h
    split at h
    · rename_i hc
      have hl : (ws.take (lenOf x)).length = lenOf x := by rw [List.length_take]; omega
      refine parse_good (fun o ho => ?_) h
      rcases List.mem_append.1 ho with ho | ho
      · exact hg o ho
      · rw [List.mem_singleton] at ho
        subst ho
        exact obOf_good hc.1 hl
    · cases h
theorem mem_flat {os : List Ob} {o : Ob} {x : Int} (ho : o ∈ os) (hx : x ∈ o.ws) : x ∈ flat os := by
  induction os with
  | nil => cases ho
  | cons p os ih =>
    rcases List.mem_cons.1 ho with rfl | ho
    · exact List.mem_cons_of_mem _ (List.mem_append_left _ hx)
    · exact List.mem_cons_of_mem _ (List.mem_append_right _ (ih ho))
theorem parse_words {f : Nat} {os : List Ob} {ws : List Int} (h : parse f [] ws = some os) {o : Ob} {x : Int} (ho : o ∈ os) (hx : x ∈ o.ws) : x ∈ ws := by
  have := mem_flat ho hx
  rw [parse_flat h] at this
  simpa [flat] using this
end Go.Proofs.Ytlphlaenecidiaa.Heap
