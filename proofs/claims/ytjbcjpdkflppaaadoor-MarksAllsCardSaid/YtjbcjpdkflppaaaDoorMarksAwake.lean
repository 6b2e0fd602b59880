/- The walk of besomlaw04.awake, and words for the laws of marks: places that are set one after another. -/
import Derived.Test.YtjbcjpdkflppaaaDoorMarks
import Derived.Test.YtjbcjpdkflppaaaDoorRow
namespace Go.Proofs.YtjbcjpdkflppaaaDoor.Marks
open Go.RowKit Go.Proofs.YtjbcjpdkflppaaaDoor.Mem Go.Proofs.YtjbcjpdkflppaaaDoor.Pop

theorem awake (w : World) : Calls Tryd.prog 6 #[] w fun e w' => e = .returned (.bool true) ∧ Upd (fun _ => False) w w' := by
  go_enter Tryd.func6, Tryd.ntmps6
  go_wp2_with fail
  refine (new_yes 9 w (by omega) (by omega)).mono ?_
  rintro e w1 ⟨b, wb, rfl, hM, hb, hwb, hu⟩
  go_wp2_with fail
  refine (set_yes w1 b wb 9 _ hM 3 (by omega)).mono ?_
  rintro e w2 ⟨rfl, hM2, hu2⟩
  rw [show (!has (List.replicate ((9 + 63) / 64) 0) 3) = true by rw [has_zero]; rfl]
  go_wp2_with fail
  refine (set_yes w2 b wb 9 _ hM2 3 (by omega)).mono ?_
  rintro e w3 ⟨rfl, hM3, hu3⟩
  rw [show (!has (put (List.replicate ((9 + 63) / 64) 0) 3) 3) = false by rw [has_put (by simp)]; simp]
  go_wp2
  go_ret
  refine ⟨rfl, (hu.next hu2 ?_).next hu3 ?_⟩
  · intro i hi h; subst h; omega
  · intro i hi h; subst h; omega

/-- The words behind some places that are set. -/
def putAll (ws : List Nat) (l : List Nat) : List Nat := l.foldl put ws
theorem putAll_snoc (ws : List Nat) (l : List Nat) (i : Nat) : putAll ws (l ++ [i]) = put (putAll ws l) i := by simp [putAll]

/-- The numbers of a slice of bytes that came in. -/
structure U8s (w : World) (a : Option Addr) (zs : List Nat) : Prop where
  cell : ∀ (j : Nat) (x : Nat), zs[j]? = some x → ∃ b off, a = some ⟨b, off, none⟩ ∧ w.cell? ⟨b, off + j, none⟩ = some (.int .u8 (x : Int)) ∧ b < w.heap.size
  byte : ∀ (j : Nat) (x : Nat), zs[j]? = some x → x < 256
  short : zs.length ≤ 9223372036854775807

theorem U8s.below {B : Nat} {w w' : World} {a : Option Addr} {zs : List Nat} (h : U8s w a zs) (hb : Below B w w') (hB : B = w.heap.size) : U8s w' a zs := by
  subst hB
  refine ⟨fun j x hx => ?_, h.byte, h.short⟩
  obtain ⟨b, off, e, hc, hlt⟩ := h.cell j x hx
  exact ⟨b, off, e, (hb.cell (p := ⟨b, off + j, none⟩) hlt).trans hc, Nat.lt_of_lt_of_le hlt hb.size⟩
theorem U8s.of {w : World} {a : Option Addr} {zs : List Int} (h : Row.Ints .u8 w a zs) : U8s w a (zs.map Int.toNat) := by
  have key : ∀ (j : Nat) (x : Nat), (zs.map Int.toNat)[j]? = some x → zs[j]? = some (x : Int) ∧ x < 256 := by
    intro j x hx
    rw [List.getElem?_map] at hx
    cases hz : zs[j]? with
    | none => simp [hz] at hx
    | some z =>
      simp [hz] at hx
      have hb := bounds_u8 (h.wf j z hz)
      have : z = (x : Int) := by omega
      exact ⟨by rw [this], by omega⟩
  refine ⟨fun j x hx => h.cell j x (key j x hx).1, fun j x hx => (key j x hx).2, by rw [List.length_map]; exact h.short⟩
theorem take_snoc {zs : List Nat} {k : Nat} {x : Nat} (h : zs[k]? = some x) : zs.take (k + 1) = zs.take k ++ [x] := by
  rw [List.take_add_one, h]; rfl
end Go.Proofs.YtjbcjpdkflppaaaDoor.Marks
