/- The law SystemNews: the walk. -/
import Derived.Test.YtapjajclmbpjmaaGreatDoorSystemAwake2
import Derived.Test.YtapjajclmbpjmaaGreatDoorDiv
import Derived.Test.YtapjajclmbpjmaaGreatDoorGauge4
set_option linter.unusedSimpArgs false
namespace Go.Proofs.YtapjajclmbpjmaaGreatDoor.Sys
open Go.RowKit Go.Proofs.YtapjajclmbpjmaaGreatDoor.Mem Go.Proofs.YtapjajclmbpjmaaGreatDoor.Heap Go.Proofs.YtapjajclmbpjmaaGreatDoor.Obj

theorem fresh_any (w : World) (s : Nat) (b : Bool) (hc : w.cell? ⟨s, 12, none⟩ = some (.bool b)) :
    Calls Tryz.prog 10 #[.pointer (some ⟨s, 0, none⟩)] w fun e w' => e = .returned (.bool b) ∧ w' = w := by
  have cl := World.block_lt_of_cell? w _ hc
  go_enter Tryz.func10, Tryz.ntmps10
  go_wp2
  go_ret
  exact ⟨rfl, rfl⟩
theorem collections_any (w : World) (s : Nat) (n : Int) (hc : w.cell? ⟨s, 13, none⟩ = some (.int .i64 n)) :
    Calls Tryz.prog 11 #[.pointer (some ⟨s, 0, none⟩)] w fun e w' => e = .returned (.int .i64 n) ∧ w' = w := by
  have cl := World.block_lt_of_cell? w _ hc
  go_enter Tryz.func11, Tryz.ntmps11
  go_wp2
  go_ret
  exact ⟨rfl, rfl⟩
theorem share_zero {n : Nat} (h0 : 1 ≤ n) (h1 : n ≤ 65536) {v : Nat} (h : Gauge.ShareOf ((0 : Nat) : Int) (n : Int) v) : v = 0 := by
  unfold Gauge.ShareOf at h
  rw [show ((0 : Nat) : Int) = 0 from rfl, Rnd.div_zero_left (n : Int) (by omega) (by omega)] at h
  rw [show decide ((n : Int) < 0) = false from decide_eq_false (by omega)] at h
  exact h
theorem sshare_zero (w : World) (s h hwb hsb n : Nat) (rest : List Int) (H : HeapAt w h hwb hsb n [] rest) (c1 : w.cell? ⟨s, 8, none⟩ = some (.pointer (some ⟨h, 0, none⟩))) :
    Calls Tryz.prog 13 #[.pointer (some ⟨s, 0, none⟩)] w fun e w' => e = .returned (.float .f64 0) ∧ Upd (fun _ => False) w w' := by
  have cl := World.block_lt_of_cell? w _ c1
  have HH := Lib.hid H
  have HSh := Lib.hid (fun (V : World) => Gauge.share_any ((top [] : Nat) : Int) (n : Int) V)
  have HLo := Lib.hid H.lo
  have HHi := Lib.hid H.hi
  have ht : top [] = 0 := rfl
  clear H
  have HTp := Lib.hid (fun (V : World) (hV : Upd (fun _ => False) w V) => top_any V h hwb hsb n [] rest (HH.out.quiet hV))
  have HSz := Lib.hid (fun (V : World) (hV : Upd (fun _ => False) w V) => hsize_any V h hwb hsb n [] rest (HH.out.quiet hV))
  go_enter Tryz.func13, Tryz.ntmps13
  go_upto_region 1 with (fail)
  refine wp_region_held_drew (S := (fun V => V.cell? ⟨s, 8, none⟩ = some (.pointer (some ⟨h, 0, none⟩)))) (by kernel_rfl) c1 (fun hHeld => ?_)
  simp only [List.size_toArray, List.length_cons, List.length_nil, Nat.reduceAdd]
  refine take_any (i := 0) (v := ?_) (by rfl) (by kernel_rfl) (by exact (fun _ _ _ h => h)) (by rfl) hHeld ?_ ?_
  rotate_left
  · ((intro V hV; obtain hV0 := hV; go_simp) <;> (with_reducible rfl))
  try simp only [Act.put, List.getElem?_toArray, List.getElem?_cons_succ, List.getElem?_cons_zero, List.getElem_toArray, List.getElem_cons_succ, List.getElem_cons_zero, List.setIfInBounds_toArray, List.set_cons_zero, List.set_cons_succ]
  refine take_any (i := 1) (v := ?_) (by rfl) (by kernel_rfl) (by exact (fun _ _ _ h => h)) (by rfl) hHeld ?_ ?_
  rotate_left
  · ((intro V hV; obtain hV0 := hV; go_simp) <;> (with_reducible rfl))
  try simp only [Act.put, List.getElem?_toArray, List.getElem?_cons_succ, List.getElem?_cons_zero, List.getElem_toArray, List.getElem_cons_succ, List.getElem_cons_zero, List.setIfInBounds_toArray, List.set_cons_zero, List.set_cons_succ]
  refine take_any (i := 2) (v := ?_) (by rfl) (by kernel_rfl) (by exact (fun _ _ _ h => h)) (by rfl) hHeld ?_ ?_
  rotate_left
  · ((intro V hV; obtain hV0 := hV; go_simp) <;> (with_reducible rfl))
  try simp only [Act.put, List.getElem?_toArray, List.getElem?_cons_succ, List.getElem?_cons_zero, List.getElem_toArray, List.getElem_cons_succ, List.getElem_cons_zero, List.setIfInBounds_toArray, List.set_cons_zero, List.set_cons_succ]
  refine take_any (i := 3) (v := ?_) (by rfl) (by kernel_rfl) (by exact (fun _ _ _ h => h)) (by rfl) hHeld ?_ ?_
  rotate_left
  · ((intro V hV; obtain hV0 := hV; go_simp) <;> (with_reducible rfl))
  try simp only [Act.put, List.getElem?_toArray, List.getElem?_cons_succ, List.getElem?_cons_zero, List.getElem_toArray, List.getElem_cons_succ, List.getElem_cons_zero, List.setIfInBounds_toArray, List.set_cons_zero, List.set_cons_succ]
  refine take_any (i := 5) (v := ?_) (by rfl) (by kernel_rfl) (by exact (fun _ _ _ h => h)) (by rfl) hHeld ?_ ?_
  rotate_left
  · ((intro V hV; obtain hV0 := hV; go_simp) <;> (with_reducible rfl))
  try simp only [Act.put, List.getElem?_toArray, List.getElem?_cons_succ, List.getElem?_cons_zero, List.getElem_toArray, List.getElem_cons_succ, List.getElem_cons_zero, List.setIfInBounds_toArray, List.set_cons_zero, List.set_cons_succ]
  refine take_any (i := 6) (v := ?_) (by rfl) (by kernel_rfl) (by exact (fun _ _ _ h => h)) (by rfl) hHeld ?_ ?_
  rotate_left
  · ((intro V hV; obtain hV0 := hV; go_simp) <;> (with_reducible rfl))
  try simp only [Act.put, List.getElem?_toArray, List.getElem?_cons_succ, List.getElem?_cons_zero, List.getElem_toArray, List.getElem_cons_succ, List.getElem_cons_zero, List.setIfInBounds_toArray, List.set_cons_zero, List.set_cons_succ]
  refine take_any (i := 7) (v := ?_) (by rfl) (by kernel_rfl) (by exact (fun _ _ _ h => h)) (by rfl) hHeld ?_ ?_
  rotate_left
  · ((intro V hV; obtain hV0 := hV; go_simp) <;> (with_reducible rfl))
  try simp only [Act.put, List.getElem?_toArray, List.getElem?_cons_succ, List.getElem?_cons_zero, List.getElem_toArray, List.getElem_cons_succ, List.getElem_cons_zero, List.setIfInBounds_toArray, List.set_cons_zero, List.set_cons_succ]
  refine take_any (i := 8) (v := ?_) (by rfl) (by kernel_rfl) (by exact (fun _ _ _ h => h)) (by rfl) hHeld ?_ ?_
  rotate_left
  · ((intro V hV; obtain hV0 := hV; go_simp) <;> (with_reducible rfl))
  try simp only [Act.put, List.getElem?_toArray, List.getElem?_cons_succ, List.getElem?_cons_zero, List.getElem_toArray, List.getElem_cons_succ, List.getElem_cons_zero, List.setIfInBounds_toArray, List.set_cons_zero, List.set_cons_succ]
  refine next_last (i := 4) (by rfl) (by kernel_rfl) (fun KK hK => ?_)
  go_simp
  refine (HTp.out _ (Upd.refl _ w).drew).mono ?_
  rintro y V ⟨rfl, e⟩
  have e' := e
  subst e'
  refine hK.out _ _ c1 (fun hHeld => ?_)
  clear hK KK
  try simp only [Act.put, List.getElem?_toArray, List.getElem?_cons_succ, List.getElem?_cons_zero, List.getElem_toArray, List.getElem_cons_succ, List.getElem_cons_zero, List.setIfInBounds_toArray, List.set_cons_zero, List.set_cons_succ]
  refine next_last (i := 9) (by rfl) (by kernel_rfl) (fun KK hK => ?_)
  go_simp
  refine (HSz.out _ (Upd.refl _ w).drew).mono ?_
  rintro y V ⟨rfl, e⟩
  have e' := e.symm
  subst e'
  refine hK.out _ _ c1 (fun hHeld => ?_)
  clear hK KK
  try simp only [Act.put, List.getElem?_toArray, List.getElem?_cons_succ, List.getElem?_cons_zero, List.getElem_toArray, List.getElem_cons_succ, List.getElem_cons_zero, List.setIfInBounds_toArray, List.set_cons_zero, List.set_cons_succ]
  refine next_last (i := 10) (by rfl) (by kernel_rfl) (fun KK hK => ?_)
  go_simp
  refine (HSh.out _).mono ?_
  rintro y V ⟨v, rfl, hv, hu⟩
  have hv0 := share_zero HLo.out HHi.out hv
  subst hv0
  have HU := Lib.hid ((Upd.refl (fun _ => False) w).drew.trans hu)
  clear hv hu
  refine hK.out _ _ (keepC HU.out c1) (fun hHeld => ?_)
  clear hK KK
  try simp only [Act.put, List.getElem?_toArray, List.getElem?_cons_succ, List.getElem?_cons_zero, List.getElem_toArray, List.getElem_cons_succ, List.getElem_cons_zero, List.setIfInBounds_toArray, List.set_cons_zero, List.set_cons_succ]
  refine take_any (i := 11) (v := ?_) (by rfl) (by kernel_rfl) (by exact (fun _ _ _ h => h)) (by rfl) hHeld ?_ ?_
  rotate_left
  · ((intro V hV; obtain hV0 := hV; go_simp) <;> (with_reducible rfl))
  try simp only [Act.put, List.getElem?_toArray, List.getElem?_cons_succ, List.getElem?_cons_zero, List.getElem_toArray, List.getElem_cons_succ, List.getElem_cons_zero, List.setIfInBounds_toArray, List.set_cons_zero, List.set_cons_succ]
  refine wpAnyH_done (by kernel_rfl) ?_ _
  go_wp2_with fail
  go_ret
  exact ⟨rfl, HU.out⟩
end Go.Proofs.YtapjajclmbpjmaaGreatDoor.Sys
