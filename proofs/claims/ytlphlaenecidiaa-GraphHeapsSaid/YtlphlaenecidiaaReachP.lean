/- What is reached, by places in the list: plain lists, no program here. -/
import Derived.Test.YtlphlaenecidiaaForm2
import Derived.Test.YtlphlaenecidiaaRef
namespace Go.Proofs.Ytlphlaenecidiaa.Ref
open Go.Proofs.Ytlphlaenecidiaa.Obj

/-- The place of what a word leads to. -/
def ixOf (os : List Ob) (x : Int) : Option Nat := findIdx 0 os (x - 1).toNat
/-- The references of an object, by its place. -/
def ptrsOf (os : List Ob) (i : Nat) : List Int := match os[i]? with | some o => o.ws.take o.ptrs | none => []
/-- What is reached from some words, by places. -/
inductive Rch (os : List Ob) (rs : List Int) : Nat → Prop
  | root {x : Int} {i : Nat} (hx : x ∈ rs) (h0 : 0 < x) (hi : ixOf os x = some i) : Rch os rs i
  | edge {x : Int} {i j : Nat} (h : Rch os rs i) (hx : x ∈ ptrsOf os i) (h0 : 0 < x) (hj : ixOf os x = some j) : Rch os rs j
/-- Marks that are right so far. -/
structure MInv (os : List Ob) (rs : List Int) (out : List Bool) : Prop where
  len : out.length = os.length
  sound : ∀ i : Nat, out[i]? = some true → Rch os rs i
/-- A word's mark is there. -/
def Marked (os : List Ob) (out : List Bool) (x : Int) : Prop := 0 < x → ∀ i, ixOf os x = some i → out[i]? = some true
def closedAt (os : List Ob) (out : List Bool) (i : Nat) : Prop := out[i]? = some true → ∀ x ∈ ptrsOf os i, Marked os out x

theorem MInv.set {os : List Ob} {rs : List Int} {out : List Bool} (h : MInv os rs out) {i : Nat} (hr : Rch os rs i) : MInv os rs (out.set i true) := by
  refine ⟨by rw [List.length_set]; exact h.len, fun j hj => ?_⟩
  rw [List.getElem?_set] at hj
  split at hj
  · rename_i e; subst e; exact hr
  · exact h.sound j hj
theorem Marked.set {os : List Ob} {out : List Bool} {x : Int} (h : Marked os out x) (i : Nat) : Marked os (out.set i true) x := fun h0 j hj => by
  have := h h0 j hj
  rw [List.getElem?_set]
  split
  · rename_i e; subst e
    rw [if_pos (List.getElem?_eq_some_iff.1 this).1]
  · exact this
theorem Marked.here {os : List Ob} {out : List Bool} {x : Int} {i : Nat} (hi : ixOf os x = some i) (hl : i < out.length) : Marked os (out.set i true) x := fun _ j hj => by
  rw [hi] at hj
  cases hj
  rw [List.getElem?_set_self hl]
theorem MInv.full {os : List Ob} {rs : List Int} {out : List Bool} (h : MInv os rs out) (hr : ∀ x ∈ rs, Marked os out x) (hc : ∀ i, closedAt os out i) (i : Nat) : out[i]? = some true ↔ Rch os rs i := by
  refine ⟨h.sound i, fun hi => ?_⟩
  induction hi with
  | root hx h0 hi => exact hr _ hx h0 _ hi
  | edge _ hx h0 hj ih => exact hc _ ih _ hx h0 _ hj
/-- How many marks are not set. -/
def unset (out : List Bool) : Nat := out.countP (· = false)
theorem unset_set : ∀ {out : List Bool} {i : Nat}, out[i]? = some false → unset (out.set i true) + 1 = unset out
  | [], i, h => by simp at h
  | b :: l, 0, h => by simp at h; subst h; simp [unset]
  | b :: l, i + 1, h => by
    rw [List.getElem?_cons_succ] at h
    have := unset_set h
    simp only [unset, List.set_cons_succ, List.countP_cons] at this ⊢
    omega
end Go.Proofs.Ytlphlaenecidiaa.Ref
