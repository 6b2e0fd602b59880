/- An object in a new buffer. -/
import Derived.Test.YtapjajclmbpjmaaGreatDoorSysOps
import Derived.Test.YtapjajclmbpjmaaGreatDoorHeapSplit
set_option linter.unusedSimpArgs false
namespace Go.Proofs.YtapjajclmbpjmaaGreatDoor.Sys
open Go.RowKit Go.Proofs.YtapjajclmbpjmaaGreatDoor.Mem Go.Proofs.YtapjajclmbpjmaaGreatDoor.Heap Go.Proofs.YtapjajclmbpjmaaGreatDoor.Obj

set_option maxRecDepth 20000 in
set_option maxHeartbeats 4000000 in
/-- A thread that has no buffer has no words left. -/
theorem left_none (w : World) (a h hwb hsb n bb t : Nat) (os : List Ob) (rest : List Int) (H : HeapAt w h hwb hsb n os rest) (size : Value) (hA : Blk w a [.pointer (some ⟨h, 0, none⟩), .slice (some ⟨bb, 0, none⟩) t t, size] 73) (th : Nat) (hth : th < t) (hb : w.cell? ⟨bb, th, none⟩ = some (.int .i64 (-1))) :
    Calls Tryz.prog 105 #[.pointer (some ⟨a, 0, none⟩), .int .i64 (th : Int)] w fun e w' => e = .returned (.int .i64 0) ∧ Upd (fun _ => False) w w' := by
  have a0 := hA.cell 0 rfl
  have a1 := hA.cell 1 rfl
  have i1 : (0 : Int) ≤ (th : Int) := by omega
  have i2 : (th : Int) < (t : Int) := by omega
  have HHd := Lib.hid (fun (V : World) (hV : Upd (fun _ => False) w V) => head_no V h hwb hsb n os rest (H.quiet hV) (-1) (by unfold lookAt; rw [if_pos (by decide)]))
  have al := hA.lt
  clear H hA
  go_enter Tryz.func105, Tryz.ntmps105
  go_upto_region 1 with (fail)
  refine wp_region_held_drew (S := (fun V => V.cell? ⟨a, 0, none⟩ = some (.pointer (some ⟨h, 0, none⟩)) ∧ V.cell? ⟨a, 1, none⟩ = some (.slice (some ⟨bb, 0, none⟩) t t) ∧ V.cell? ⟨bb, th, none⟩ = some (.int .i64 (-1)))) (by kernel_rfl) ⟨a0, a1, hb⟩ (fun hHeld => ?_)
  simp only [List.size_toArray, List.length_cons, List.length_nil, Nat.reduceAdd]
  have hk : ∀ (V : World), Upd (fun _ => False) w V → V.cell? ⟨a, 0, none⟩ = some (.pointer (some ⟨h, 0, none⟩)) ∧ V.cell? ⟨a, 1, none⟩ = some (.slice (some ⟨bb, 0, none⟩) t t) ∧ V.cell? ⟨bb, th, none⟩ = some (.int .i64 (-1)) := fun V hV => ⟨keepC hV a0, keepC hV a1, keepC hV hb⟩
  have HK := Lib.hid hk
  clear hk
  refine take_any (i := 0) (v := ?_) (by rfl) (by kernel_rfl) (by exact (fun _ _ _ h => h)) (by rfl) hHeld ?_ ?_
  rotate_left
  · ((intro V hV; obtain ⟨hV0, hV1, hV2⟩ := hV; go_simp) <;> (with_reducible rfl))
  try simp only [Act.put, List.getElem?_toArray, List.getElem?_cons_succ, List.getElem?_cons_zero, List.getElem_toArray, List.getElem_cons_succ, List.getElem_cons_zero, List.setIfInBounds_toArray, List.set_cons_zero, List.set_cons_succ]
  refine take_any (i := 1) (v := ?_) (by rfl) (by kernel_rfl) (by exact (fun _ _ _ h => h)) (by rfl) hHeld ?_ ?_
  rotate_left
  · ((intro V hV; obtain ⟨hV0, hV1, hV2⟩ := hV; go_simp) <;> (with_reducible rfl))
  try simp only [Act.put, List.getElem?_toArray, List.getElem?_cons_succ, List.getElem?_cons_zero, List.getElem_toArray, List.getElem_cons_succ, List.getElem_cons_zero, List.setIfInBounds_toArray, List.set_cons_zero, List.set_cons_succ]
  refine take_any (i := 2) (v := ?_) (by rfl) (by kernel_rfl) (by exact (fun _ _ _ h => h)) (by rfl) hHeld ?_ ?_
  rotate_left
  · ((intro V hV; obtain ⟨hV0, hV1, hV2⟩ := hV; go_simp) <;> (with_reducible rfl))
  try simp only [Act.put, List.getElem?_toArray, List.getElem?_cons_succ, List.getElem?_cons_zero, List.getElem_toArray, List.getElem_cons_succ, List.getElem_cons_zero, List.setIfInBounds_toArray, List.set_cons_zero, List.set_cons_succ]
  refine take_any (i := 3) (v := ?_) (by rfl) (by kernel_rfl) (by exact (fun _ _ _ h => h)) (by rfl) hHeld ?_ ?_
  rotate_left
  · ((intro V hV; obtain ⟨hV0, hV1, hV2⟩ := hV; go_simp) <;> (with_reducible rfl))
  try simp only [Act.put, List.getElem?_toArray, List.getElem?_cons_succ, List.getElem?_cons_zero, List.getElem_toArray, List.getElem_cons_succ, List.getElem_cons_zero, List.setIfInBounds_toArray, List.set_cons_zero, List.set_cons_succ]
  refine take_any (i := 4) (v := ?_) (by rfl) (by kernel_rfl) (by exact (fun _ _ _ h => h)) (by rfl) hHeld ?_ ?_
  rotate_left
  · ((intro V hV; obtain ⟨hV0, hV1, hV2⟩ := hV; go_simp) <;> (with_reducible rfl))
  try simp only [Act.put, List.getElem?_toArray, List.getElem?_cons_succ, List.getElem?_cons_zero, List.getElem_toArray, List.getElem_cons_succ, List.getElem_cons_zero, List.setIfInBounds_toArray, List.set_cons_zero, List.set_cons_succ]
  refine take_any (i := 5) (v := ?_) (by rfl) (by kernel_rfl) (by exact (fun _ _ _ h => h)) (by rfl) hHeld ?_ ?_
  rotate_left
  · ((intro V hV; obtain ⟨hV0, hV1, hV2⟩ := hV; go_simp) <;> (with_reducible rfl))
  try simp only [Act.put, List.getElem?_toArray, List.getElem?_cons_succ, List.getElem?_cons_zero, List.getElem_toArray, List.getElem_cons_succ, List.getElem_cons_zero, List.setIfInBounds_toArray, List.set_cons_zero, List.set_cons_succ]
  refine take_any (i := 6) (v := ?_) (by rfl) (by kernel_rfl) (by exact (fun _ _ _ h => h)) (by rfl) hHeld ?_ ?_
  rotate_left
  · ((intro V hV; obtain ⟨hV0, hV1, hV2⟩ := hV; go_simp) <;> (with_reducible rfl))
  try simp only [Act.put, List.getElem?_toArray, List.getElem?_cons_succ, List.getElem?_cons_zero, List.getElem_toArray, List.getElem_cons_succ, List.getElem_cons_zero, List.setIfInBounds_toArray, List.set_cons_zero, List.set_cons_succ]
  refine take_any (i := 7) (v := ?_) (by rfl) (by kernel_rfl) (by exact (fun _ _ _ h => h)) (by rfl) hHeld ?_ ?_
  rotate_left
  · ((intro V hV; obtain ⟨hV0, hV1, hV2⟩ := hV; go_simp) <;> (with_reducible rfl))
  try simp only [Act.put, List.getElem?_toArray, List.getElem?_cons_succ, List.getElem?_cons_zero, List.getElem_toArray, List.getElem_cons_succ, List.getElem_cons_zero, List.setIfInBounds_toArray, List.set_cons_zero, List.set_cons_succ]
  refine take_any (i := 8) (v := ?_) (by rfl) (by kernel_rfl) (by exact (fun _ _ _ h => h)) (by rfl) hHeld ?_ ?_
  rotate_left
  · ((intro V hV; obtain ⟨hV0, hV1, hV2⟩ := hV; go_simp) <;> (with_reducible rfl))
  try simp only [Act.put, List.getElem?_toArray, List.getElem?_cons_succ, List.getElem?_cons_zero, List.getElem_toArray, List.getElem_cons_succ, List.getElem_cons_zero, List.setIfInBounds_toArray, List.set_cons_zero, List.set_cons_succ]
  refine take_any (i := 9) (v := ?_) (by rfl) (by kernel_rfl) (by exact (fun _ _ _ h => h)) (by rfl) hHeld ?_ ?_
  rotate_left
  · ((intro V hV; obtain ⟨hV0, hV1, hV2⟩ := hV; go_simp) <;> (with_reducible rfl))
  try simp only [Act.put, List.getElem?_toArray, List.getElem?_cons_succ, List.getElem?_cons_zero, List.getElem_toArray, List.getElem_cons_succ, List.getElem_cons_zero, List.setIfInBounds_toArray, List.set_cons_zero, List.set_cons_succ]
  refine take_any (i := 10) (v := ?_) (by rfl) (by kernel_rfl) (by exact (fun _ _ _ h => h)) (by rfl) hHeld ?_ ?_
  rotate_left
  · ((intro V hV; obtain ⟨hV0, hV1, hV2⟩ := hV; go_simp) <;> (with_reducible rfl))
  try simp only [Act.put, List.getElem?_toArray, List.getElem?_cons_succ, List.getElem?_cons_zero, List.getElem_toArray, List.getElem_cons_succ, List.getElem_cons_zero, List.setIfInBounds_toArray, List.set_cons_zero, List.set_cons_succ]
  refine both_last 11 15 (by rfl) (by rfl) (by kernel_rfl) (fun KK hK => ?_) (fun KK hK => ?_)
  · go_simp
    refine (HHd.out _ (Upd.refl _ w).drew).mono ?_
    rintro y V ⟨rfl, hu1⟩
    have HU1 := Lib.hid ((Upd.refl (fun _ => False) w).drew.trans hu1)
    clear hu1
    refine hK.out _ _ (HK.out _ HU1.out) (fun hHeld => ?_)
    clear hK KK
    try simp only [Act.put, List.getElem?_toArray, List.getElem?_cons_succ, List.getElem?_cons_zero, List.getElem_toArray, List.getElem_cons_succ, List.getElem_cons_zero, List.setIfInBounds_toArray, List.set_cons_zero, List.set_cons_succ]
    refine take_any (i := 12) (v := ?_) (by rfl) (by kernel_rfl) (by exact (fun _ _ _ h => h)) (by rfl) hHeld ?_ ?_
    rotate_left
    · ((intro V hV; obtain ⟨hV0, hV1, hV2⟩ := hV; go_simp) <;> (with_reducible rfl))
    try simp only [Act.put, List.getElem?_toArray, List.getElem?_cons_succ, List.getElem?_cons_zero, List.getElem_toArray, List.getElem_cons_succ, List.getElem_cons_zero, List.setIfInBounds_toArray, List.set_cons_zero, List.set_cons_succ]
    refine take_any (i := 13) (v := ?_) (by rfl) (by kernel_rfl) (by exact (fun _ _ _ h => h)) (by rfl) hHeld ?_ ?_
    rotate_left
    · ((intro V hV; obtain ⟨hV0, hV1, hV2⟩ := hV; go_simp) <;> (with_reducible rfl))
    try simp only [Act.put, List.getElem?_toArray, List.getElem?_cons_succ, List.getElem?_cons_zero, List.getElem_toArray, List.getElem_cons_succ, List.getElem_cons_zero, List.setIfInBounds_toArray, List.set_cons_zero, List.set_cons_succ]
    refine take_any (i := 14) (v := ?_) (by rfl) (by kernel_rfl) (by exact (fun _ _ _ h => h)) (by rfl) hHeld ?_ ?_
    rotate_left
    · ((intro V hV; obtain ⟨hV0, hV1, hV2⟩ := hV; go_simp) <;> (with_reducible rfl))
    try simp only [Act.put, List.getElem?_toArray, List.getElem?_cons_succ, List.getElem?_cons_zero, List.getElem_toArray, List.getElem_cons_succ, List.getElem_cons_zero, List.setIfInBounds_toArray, List.set_cons_zero, List.set_cons_succ]
    refine next_last (i := 15) (by rfl) (by kernel_rfl) (fun KK hK => ?_)
    go_simp
    have hbr := Blk.made V [.int .i64 0, .int .i64 0, .int .i64 0] 136
    refine hK.out _ _ (HK.out _ (HU1.out.alloc _)) (fun hHeld => ?_)
    clear hK KK
    try simp only [Act.put, List.getElem?_toArray, List.getElem?_cons_succ, List.getElem?_cons_zero, List.getElem_toArray, List.getElem_cons_succ, List.getElem_cons_zero, List.setIfInBounds_toArray, List.set_cons_zero, List.set_cons_succ]
    have q0 := hbr.cell 0 rfl
    have q1 := hbr.cell 1 rfl
    have q2 := hbr.cell 2 rfl
    have qf0 := hbr.frozen 0
    have qf1 := hbr.frozen 1
    have qf2 := hbr.frozen 2
    have ql := hbr.lt
    refine next_last (i := 16) (by rfl) (by kernel_rfl) (fun KK hK => ?_)
    go_simp
    refine hK.out _ _ (HK.out _ (HU1.out.alloc _)) (fun hHeld => ?_)
    clear hK KK
    try simp only [Act.put, List.getElem?_toArray, List.getElem?_cons_succ, List.getElem?_cons_zero, List.getElem_toArray, List.getElem_cons_succ, List.getElem_cons_zero, List.setIfInBounds_toArray, List.set_cons_zero, List.set_cons_succ]
    refine take_any (i := 17) (v := ?_) (by rfl) (by kernel_rfl) (by exact (fun _ _ _ h => h)) (by rfl) hHeld ?_ ?_
    rotate_left
    · ((intro V hV; obtain ⟨hV0, hV1, hV2⟩ := hV; go_simp) <;> (with_reducible rfl))
    try simp only [Act.put, List.getElem?_toArray, List.getElem?_cons_succ, List.getElem?_cons_zero, List.getElem_toArray, List.getElem_cons_succ, List.getElem_cons_zero, List.setIfInBounds_toArray, List.set_cons_zero, List.set_cons_succ]
    refine wpAnyH_done (by kernel_rfl) ?_ _
    go_wp2_with fail
    go_ret
    exact ⟨rfl, HU1.out.alloc _⟩
  · go_simp
    have hbr := (Blk.made w [.int .i64 0, .int .i64 0, .int .i64 0] 136).drew
    have hu3 : Upd (fun _ => False) w (w.alloc (.cells #[.int .i64 0, .int .i64 0, .int .i64 0] 136)).drew := ((Upd.refl _ w).alloc _).drew
    generalize (w.alloc (.cells #[.int .i64 0, .int .i64 0, .int .i64 0] 136)).drew = w3 at *
    refine hK.out _ _ (HK.out _ hu3) (fun hHeld => ?_)
    clear hK KK
    try simp only [Act.put, List.getElem?_toArray, List.getElem?_cons_succ, List.getElem?_cons_zero, List.getElem_toArray, List.getElem_cons_succ, List.getElem_cons_zero, List.setIfInBounds_toArray, List.set_cons_zero, List.set_cons_succ]
    refine next_last (i := 11) (by rfl) (by kernel_rfl) (fun KK hK => ?_)
    go_simp
    refine (HHd.out _ hu3).mono ?_
    rintro y V ⟨rfl, hu4⟩
    have HU4 := Lib.hid (hu3.trans hu4)
    have hbr4 := hbr.upd hu4 (fun h => h)
    have q0 := hbr4.cell 0 rfl
    have q1 := hbr4.cell 1 rfl
    have q2 := hbr4.cell 2 rfl
    have qf0 := hbr4.frozen 0
    have qf1 := hbr4.frozen 1
    have qf2 := hbr4.frozen 2
    have ql := hbr4.lt
    clear hu4
    refine hK.out _ _ (HK.out _ HU4.out) (fun hHeld => ?_)
    clear hK KK
    try simp only [Act.put, List.getElem?_toArray, List.getElem?_cons_succ, List.getElem?_cons_zero, List.getElem_toArray, List.getElem_cons_succ, List.getElem_cons_zero, List.setIfInBounds_toArray, List.set_cons_zero, List.set_cons_succ]
    refine take_any (i := 12) (v := ?_) (by rfl) (by kernel_rfl) (by exact (fun _ _ _ h => h)) (by rfl) hHeld ?_ ?_
    rotate_left
    · ((intro V hV; obtain ⟨hV0, hV1, hV2⟩ := hV; go_simp) <;> (with_reducible rfl))
    try simp only [Act.put, List.getElem?_toArray, List.getElem?_cons_succ, List.getElem?_cons_zero, List.getElem_toArray, List.getElem_cons_succ, List.getElem_cons_zero, List.setIfInBounds_toArray, List.set_cons_zero, List.set_cons_succ]
    refine take_any (i := 13) (v := ?_) (by rfl) (by kernel_rfl) (by exact (fun _ _ _ h => h)) (by rfl) hHeld ?_ ?_
    rotate_left
    · ((intro V hV; obtain ⟨hV0, hV1, hV2⟩ := hV; go_simp) <;> (with_reducible rfl))
    try simp only [Act.put, List.getElem?_toArray, List.getElem?_cons_succ, List.getElem?_cons_zero, List.getElem_toArray, List.getElem_cons_succ, List.getElem_cons_zero, List.setIfInBounds_toArray, List.set_cons_zero, List.set_cons_succ]
    refine take_any (i := 14) (v := ?_) (by rfl) (by kernel_rfl) (by exact (fun _ _ _ h => h)) (by rfl) hHeld ?_ ?_
    rotate_left
    · ((intro V hV; obtain ⟨hV0, hV1, hV2⟩ := hV; go_simp) <;> (with_reducible rfl))
    try simp only [Act.put, List.getElem?_toArray, List.getElem?_cons_succ, List.getElem?_cons_zero, List.getElem_toArray, List.getElem_cons_succ, List.getElem_cons_zero, List.setIfInBounds_toArray, List.set_cons_zero, List.set_cons_succ]
    refine next_last (i := 16) (by rfl) (by kernel_rfl) (fun KK hK => ?_)
    go_simp
    have hus := ((HU4.out.setCell (p := ⟨w.heap.size, 0, none⟩) (.int .i64 0) (fun h => by have h' : w.heap.size < w.heap.size := h; omega)).setCell (p := ⟨w.heap.size, 1, none⟩) (.int .i64 0) (fun h => by have h' : w.heap.size < w.heap.size := h; omega)).setCell (p := ⟨w.heap.size, 2, none⟩) (.int .i64 0) (fun h => by have h' : w.heap.size < w.heap.size := h; omega)
    have HUs := Lib.hid hus
    clear hus
    refine hK.out _ _ (HK.out _ HUs.out) (fun hHeld => ?_)
    clear hK KK
    try simp only [Act.put, List.getElem?_toArray, List.getElem?_cons_succ, List.getElem?_cons_zero, List.getElem_toArray, List.getElem_cons_succ, List.getElem_cons_zero, List.setIfInBounds_toArray, List.set_cons_zero, List.set_cons_succ]
    refine take_any (i := 17) (v := ?_) (by rfl) (by kernel_rfl) (by exact (fun _ _ _ h => h)) (by rfl) hHeld ?_ ?_
    rotate_left
    · ((intro V hV; obtain ⟨hV0, hV1, hV2⟩ := hV; go_simp) <;> (with_reducible rfl))
    try simp only [Act.put, List.getElem?_toArray, List.getElem?_cons_succ, List.getElem?_cons_zero, List.getElem_toArray, List.getElem_cons_succ, List.getElem_cons_zero, List.setIfInBounds_toArray, List.set_cons_zero, List.set_cons_succ]
    refine wpAnyH_done (by kernel_rfl) ?_ _
    go_wp2_with fail
    go_ret
    exact ⟨rfl, HUs.out⟩
end Go.Proofs.YtapjajclmbpjmaaGreatDoor.Sys
