/- An object in a filler's place: plain lists. -/
import Derived.Test.YtapjajclmbpjmaaGreatDoorObj
namespace Go.Proofs.YtapjajclmbpjmaaGreatDoor.Obj

theorem flat_at (as bs : List Ob) (F : Ob) (rest : List Int) : flat (as ++ F :: bs) ++ rest = flat as ++ F.word :: (F.ws ++ (flat bs ++ rest)) := by
  rw [flat_append, List.append_assoc]
  simp [flat]
theorem split_one (as bs : List Ob) (F : Ob) (rest : List Int) (wd : Int) (l : Nat) (hl : l ≤ F.len) :
    (flat (as ++ F :: bs) ++ rest).take (top as) ++ wd :: (List.replicate l 0 ++ (flat (as ++ F :: bs) ++ rest).drop (top as + 1 + l)) = flat as ++ wd :: (List.replicate l 0 ++ (F.ws.drop l ++ (flat bs ++ rest))) := by
  have hl' : l ≤ F.ws.length := hl
  rw [flat_at]
  rw [List.take_append_of_le_length (by show (flat as).length ≤ (flat as).length; exact Nat.le_refl _)]
  have h1 : (flat as).take (top as) = flat as := List.take_of_length_le (Nat.le_refl _)
  have h2 : (flat as ++ F.word :: (F.ws ++ (flat bs ++ rest))).drop (top as + 1 + l) = F.ws.drop l ++ (flat bs ++ rest) := by
    rw [Nat.add_assoc, ← List.drop_drop, show top as = (flat as).length from rfl, List.drop_left, Nat.add_comm 1 l, List.drop_succ_cons, List.drop_append_of_le_length hl']
  rw [h1, h2]
theorem split_two (as bs : List Ob) (F : Ob) (rest : List Int) (wd wd2 : Int) (l m : Nat) (hl : l + 1 + m = F.len) :
    let zs := flat as ++ wd :: (List.replicate l 0 ++ (F.ws.drop l ++ (flat bs ++ rest)))
    zs.take (top as + 1 + l) ++ wd2 :: (List.replicate m 0 ++ zs.drop (top as + 1 + l + 1 + m)) = flat as ++ wd :: (List.replicate l 0 ++ wd2 :: (List.replicate m 0 ++ (flat bs ++ rest))) := by
  intro zs
  have hz : zs = (flat as ++ wd :: List.replicate l 0) ++ (F.ws.drop l ++ (flat bs ++ rest)) := by simp [zs]
  have hlen : (flat as ++ wd :: List.replicate l (0 : Int)).length = top as + 1 + l := by
    rw [List.length_append, List.length_cons, List.length_replicate]
    show top as + _ = _
    omega
  have hd : (F.ws.drop l).length = 1 + m := by rw [List.length_drop]; have : F.ws.length = F.len := rfl; omega
  rw [hz, ← hlen, List.take_left, Nat.add_assoc, ← List.drop_drop, List.drop_left, ← hd, List.drop_left]
  simp
theorem marks_split (as bs : List Ob) (F : Ob) (T : List Bool) : marks (as ++ F :: bs) ++ T = marks as ++ true :: (List.replicate F.len false ++ (marks bs ++ T)) := by
  rw [marks_append, List.append_assoc]
  simp [marks]
theorem split_mark1 (as bs : List Ob) (F : Ob) (T : List Bool) : (marks (as ++ F :: bs) ++ T).set (top as) true = marks (as ++ F :: bs) ++ T := by
  rw [marks_split, List.set_append_right _ _ (by rw [marks_length]; exact Nat.le_refl _), marks_length, Nat.sub_self]
  rfl
theorem split_mark2 (as bs : List Ob) (F : Ob) (T : List Bool) (A B : Ob) (l m : Nat) (hA : A.len = l) (hB : B.len = m) (hl : l + 1 + m = F.len) :
    (marks (as ++ F :: bs) ++ T).set (top as + 1 + l) true = marks (as ++ A :: B :: bs) ++ T := by
  have hb : marks (as ++ A :: B :: bs) ++ T = marks as ++ true :: (List.replicate l false ++ true :: (List.replicate m false ++ (marks bs ++ T))) := by
    rw [marks_append, List.append_assoc]
    simp [marks, hA, hB]
  rw [marks_split, hb, List.set_append_right _ _ (by rw [marks_length]; omega), marks_length]
  congr 1
  rw [show top as + 1 + l - top as = l + 1 by omega, List.set_cons_succ]
  congr 1
  rw [← hl, show l + 1 + m = l + (1 + m) by omega, ← List.replicate_append_replicate, List.append_assoc, List.set_append_right _ _ (by rw [List.length_replicate]; exact Nat.le_refl _), List.length_replicate, Nat.sub_self, Nat.add_comm 1 m, List.replicate_succ]
  rfl
end Go.Proofs.YtapjajclmbpjmaaGreatDoor.Obj
