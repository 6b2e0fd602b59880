/- An object out of a new buffer. -/
import Derived.Test.YtapjajclmbpjmaaGreatDoorAllocSmall
set_option linter.unusedSimpArgs false
namespace Go.Proofs.YtapjajclmbpjmaaGreatDoor.Sys
open Go.RowKit Go.Proofs.YtapjajclmbpjmaaGreatDoor.Mem Go.Proofs.YtapjajclmbpjmaaGreatDoor.Heap Go.Proofs.YtapjajclmbpjmaaGreatDoor.Obj

theorem ints_set (l : List Int) (i : Nat) (x : Int) : (ints l).set i (.int .i64 x) = ints (l.set i x) := by simp [ints, List.map_set]
set_option maxRecDepth 20000 in
set_option maxHeartbeats 4000000 in
theorem asplit_any (w : World) (a h hwb hsb n bb t : Nat) (os1 bs : List Ob) (F : Ob) (rest : List Int) (H : HeapAt w h hwb hsb n (os1 ++ F :: bs) rest) (hF : F.kind = 15) (size : Value) (hA : Blk w a [.pointer (some ⟨h, 0, none⟩), .slice (some ⟨bb, 0, none⟩) t t, size] 73) (bufs : List Int) (hB : Blk w bb (ints bufs) 3)
    (ap : a ≠ hwb ∧ a ≠ hsb ∧ a ≠ bb ∧ bb ≠ hwb ∧ bb ≠ hsb ∧ bb ≠ h) (T th : Nat) (hT : T = top os1) (hth : bufs[th]? = some (T : Int)) (htl : bufs.length = t) (k l p m : Nat) (hg : goodB k l p = true) (hl : l + 1 + m = F.len) :
    Calls Tryz.prog 107 #[.pointer (some ⟨a, 0, none⟩), .int .i64 (th : Int), .agg #[.int .i64 (k : Int), .int .i64 (l : Int), .int .i64 (p : Int)]] w fun e w' => e = .returned (.tuple #[.int .i64 (T : Int), .int .i64 0]) ∧
      HeapAt w' h hwb hsb n (os1 ++ ⟨k, p, List.replicate l 0⟩ :: ⟨15, 0, List.replicate m 0⟩ :: bs) rest ∧ Upd (fun k => k = hwb ∨ k = hsb ∨ k = bb) w w' := by
  have hu := (Upd.refl (fun _ => False) w).alloc (.cells #[.int .i64 (k : Int), .int .i64 (l : Int), .int .i64 (p : Int)] 136)
  have hb := Blk.made w [.int .i64 (k : Int), .int .i64 (l : Int), .int .i64 (p : Int)] 136
  have htl' : th < t := by rw [← htl]; exact (List.getElem?_eq_some_iff.1 hth).1
  have i1 : (0 : Int) ≤ (th : Int) := by omega
  have i2 : (th : Int) < (t : Int) := by omega
  have HS := Lib.hid (fun (V : World) (hV : Upd (fun _ => False) w V) => split_part V h hwb hsb n os1 bs F rest (H.quiet hV) hF k l p m hg hl T hT)
  have a0' := keepC hu (hA.cell 0 rfl)
  have a1' := keepC hu (hA.cell 1 rfl)
  have c0' : (w.alloc (.cells #[.int .i64 (k : Int), .int .i64 (l : Int), .int .i64 (p : Int)] 136)).cell? ⟨bb, th, none⟩ = some (.int .i64 (T : Int)) := keepC hu (hB.cell th (by rw [ints, List.getElem?_map, hth]; rfl))
  have HU := Lib.hid hu
  have HA := Lib.hid hA
  have HB := Lib.hid hB
  have hal := hA.lt
  have hbl := hB.lt
  have hwl := H.wds.lt
  have hsl := H.sts.lt
  have a0 := a0'
  have a1 := a1'
  have c0 := c0'
  have b0 := hb.cell 0 rfl
  have b1 := hb.cell 1 rfl
  have b2 := hb.cell 2 rfl
  have z0 : ((T : Int) + 1 + (l : Int) == 0) = false := by rw [beq_eq_false_iff_ne]; omega
  have HTl := Lib.hid htl
  clear hu hb H hA hB a0' a1' c0' hT hg hth htl
  go_enter Tryz.func107, Tryz.ntmps107
  go_upto_region 1 with (fail)
  generalize w.alloc (.cells #[.int .i64 (k : Int), .int .i64 (l : Int), .int .i64 (p : Int)] 136) = w1 at *
  go_upto_region 2 with (fail)
  refine wp_region_held_drew (S := (fun V => V.cell? ⟨a, 0, none⟩ = some (.pointer (some ⟨h, 0, none⟩)) ∧ V.cell? ⟨w.heap.size, 0, none⟩ = some (.int .i64 (k : Int)) ∧ V.cell? ⟨w.heap.size, 1, none⟩ = some (.int .i64 (l : Int)) ∧ V.cell? ⟨w.heap.size, 2, none⟩ = some (.int .i64 (p : Int)))) (by kernel_rfl) ⟨a0, b0, b1, b2⟩ (fun hHeld => ?_)
  simp only [List.size_toArray, List.length_cons, List.length_nil, Nat.reduceAdd]
  refine take_any (i := 0) (v := ?_) (by rfl) (by kernel_rfl) (by exact (fun _ _ _ h => h)) (by rfl) hHeld ?_ ?_
  rotate_left
  · ((intro V hV; obtain ⟨hV0, hV1, hV2, hV3⟩ := hV; go_simp) <;> (with_reducible rfl))
  try simp only [Act.put, List.getElem?_toArray, List.getElem?_cons_succ, List.getElem?_cons_zero, List.getElem_toArray, List.getElem_cons_succ, List.getElem_cons_zero, List.setIfInBounds_toArray, List.set_cons_zero, List.set_cons_succ]
  refine take_any (i := 1) (v := ?_) (by rfl) (by kernel_rfl) (by exact (fun _ _ _ h => h)) (by rfl) hHeld ?_ ?_
  rotate_left
  · ((intro V hV; obtain ⟨hV0, hV1, hV2, hV3⟩ := hV; go_simp) <;> (with_reducible rfl))
  try simp only [Act.put, List.getElem?_toArray, List.getElem?_cons_succ, List.getElem?_cons_zero, List.getElem_toArray, List.getElem_cons_succ, List.getElem_cons_zero, List.setIfInBounds_toArray, List.set_cons_zero, List.set_cons_succ]
  refine take_any (i := 2) (v := ?_) (by rfl) (by kernel_rfl) (by exact (fun _ _ _ h => h)) (by rfl) hHeld ?_ ?_
  rotate_left
  · ((intro V hV; obtain ⟨hV0, hV1, hV2, hV3⟩ := hV; go_simp) <;> (with_reducible rfl))
  try simp only [Act.put, List.getElem?_toArray, List.getElem?_cons_succ, List.getElem?_cons_zero, List.getElem_toArray, List.getElem_cons_succ, List.getElem_cons_zero, List.setIfInBounds_toArray, List.set_cons_zero, List.set_cons_succ]
  refine take_any (i := 3) (v := ?_) (by rfl) (by kernel_rfl) (by exact (fun _ _ _ h => h)) (by rfl) hHeld ?_ ?_
  rotate_left
  · ((intro V hV; obtain ⟨hV0, hV1, hV2, hV3⟩ := hV; go_simp) <;> (with_reducible rfl))
  try simp only [Act.put, List.getElem?_toArray, List.getElem?_cons_succ, List.getElem?_cons_zero, List.getElem_toArray, List.getElem_cons_succ, List.getElem_cons_zero, List.setIfInBounds_toArray, List.set_cons_zero, List.set_cons_succ]
  refine take_any (i := 4) (v := ?_) (by rfl) (by kernel_rfl) (by exact (fun _ _ _ h => h)) (by rfl) hHeld ?_ ?_
  rotate_left
  · ((intro V hV; obtain ⟨hV0, hV1, hV2, hV3⟩ := hV; go_simp) <;> (with_reducible rfl))
  try simp only [Act.put, List.getElem?_toArray, List.getElem?_cons_succ, List.getElem?_cons_zero, List.getElem_toArray, List.getElem_cons_succ, List.getElem_cons_zero, List.setIfInBounds_toArray, List.set_cons_zero, List.set_cons_succ]
  refine take_any (i := 5) (v := ?_) (by rfl) (by kernel_rfl) (by exact (fun _ _ _ h => h)) (by rfl) hHeld ?_ ?_
  rotate_left
  · ((intro V hV; obtain ⟨hV0, hV1, hV2, hV3⟩ := hV; go_simp) <;> (with_reducible rfl))
  try simp only [Act.put, List.getElem?_toArray, List.getElem?_cons_succ, List.getElem?_cons_zero, List.getElem_toArray, List.getElem_cons_succ, List.getElem_cons_zero, List.setIfInBounds_toArray, List.set_cons_zero, List.set_cons_succ]
  refine next_last (i := 6) (by rfl) (by kernel_rfl) (fun KK hK => ?_)
  go_simp
  refine (HS.out _ HU.out.drew).mono ?_
  rintro y V ⟨rfl, hH, hu1⟩
  have hU1 := ((Upd.refl (fun _ => False) w1).drew.mono (T := fun k => k = hwb ∨ k = hsb) (fun _ _ h => h.elim)).trans hu1
  have HU1 := Lib.hid ((HU.out.mono (fun _ _ h => h.elim)).trans hU1)
  have HH := Lib.hid hH
  have A1 := Lib.hid (keepS hU1 (fun e => by rcases e with e | e; (· exact ap.1 e); (· exact ap.2.1 e)) a1)
  refine hK.out _ _ ⟨keepS hU1 (fun e => by rcases e with e | e; (· exact ap.1 e); (· exact ap.2.1 e)) a0, keepS hU1 (by omega) b0, keepS hU1 (by omega) b1, keepS hU1 (by omega) b2⟩ (fun hHeld => ?_)
  clear hK KK
  try simp only [Act.put, List.getElem?_toArray, List.getElem?_cons_succ, List.getElem?_cons_zero, List.getElem_toArray, List.getElem_cons_succ, List.getElem_cons_zero, List.setIfInBounds_toArray, List.set_cons_zero, List.set_cons_succ]
  clear hU1 hu1 hH a0 a1 b0 b1 b2 c0
  refine take_any (i := 7) (v := ?_) (by rfl) (by kernel_rfl) (by exact (fun _ _ _ h => h)) (by rfl) hHeld ?_ ?_
  rotate_left
  · ((intro V hV; obtain ⟨hV0, hV1, hV2, hV3⟩ := hV; go_simp) <;> (with_reducible rfl))
  try simp only [Act.put, List.getElem?_toArray, List.getElem?_cons_succ, List.getElem?_cons_zero, List.getElem_toArray, List.getElem_cons_succ, List.getElem_cons_zero, List.setIfInBounds_toArray, List.set_cons_zero, List.set_cons_succ]
  refine take_any (i := 8) (v := ?_) (by rfl) (by kernel_rfl) (by exact (fun _ _ _ h => h)) (by rfl) hHeld ?_ ?_
  rotate_left
  · ((intro V hV; obtain ⟨hV0, hV1, hV2, hV3⟩ := hV; go_simp) <;> (with_reducible rfl))
  try simp only [Act.put, List.getElem?_toArray, List.getElem?_cons_succ, List.getElem?_cons_zero, List.getElem_toArray, List.getElem_cons_succ, List.getElem_cons_zero, List.setIfInBounds_toArray, List.set_cons_zero, List.set_cons_succ]
  refine take_any (i := 9) (v := ?_) (by rfl) (by kernel_rfl) (by exact (fun _ _ _ h => h)) (by rfl) hHeld ?_ ?_
  rotate_left
  · ((intro V hV; obtain ⟨hV0, hV1, hV2, hV3⟩ := hV; go_simp) <;> (with_reducible rfl))
  try simp only [Act.put, List.getElem?_toArray, List.getElem?_cons_succ, List.getElem?_cons_zero, List.getElem_toArray, List.getElem_cons_succ, List.getElem_cons_zero, List.setIfInBounds_toArray, List.set_cons_zero, List.set_cons_succ]
  refine take_any (i := 10) (v := ?_) (by rfl) (by kernel_rfl) (by exact (fun _ _ _ h => h)) (by rfl) hHeld ?_ ?_
  rotate_left
  · ((intro V hV; obtain ⟨hV0, hV1, hV2, hV3⟩ := hV; go_simp) <;> (with_reducible rfl))
  try simp only [Act.put, List.getElem?_toArray, List.getElem?_cons_succ, List.getElem?_cons_zero, List.getElem_toArray, List.getElem_cons_succ, List.getElem_cons_zero, List.setIfInBounds_toArray, List.set_cons_zero, List.set_cons_succ]
  refine take_any (i := 11) (v := ?_) (by rfl) (by kernel_rfl) (by exact (fun _ _ _ h => h)) (by rfl) hHeld ?_ ?_
  rotate_left
  · ((intro V hV; obtain ⟨hV0, hV1, hV2, hV3⟩ := hV; go_simp) <;> (with_reducible rfl))
  try simp only [Act.put, List.getElem?_toArray, List.getElem?_cons_succ, List.getElem?_cons_zero, List.getElem_toArray, List.getElem_cons_succ, List.getElem_cons_zero, List.setIfInBounds_toArray, List.set_cons_zero, List.set_cons_succ]
  refine wpAnyH_done (by kernel_rfl) ?_ _
  have hb4 := HB.out.upd HU1.out (fun e => by rcases e with e | e; (· exact ap.2.2.2.1 e); (· exact ap.2.2.2.2.1 e))
  have a1 := A1.out
  have bf := hb4.frozen th
  have bl := hb4.lt
  have al := World.block_lt_of_cell? _ _ a1
  obtain ⟨old, hold⟩ : ∃ old, V.cell? ⟨bb, th, none⟩ = some old := by
    obtain ⟨x, hx⟩ : ∃ x, bufs[th]? = some x := ⟨_, List.getElem?_eq_getElem (by have := HTl.out; omega)⟩
    exact ⟨_, hb4.cell th (by rw [ints, List.getElem?_map, hx]; rfl)⟩
  clear hb4
  go_wp2_with fail
  go_ret2
  refine ⟨rfl, HH.out.upd ((Upd.refl (fun k => k = bb) V).setCell (p := ⟨bb, th, none⟩) _ (fun _ => rfl)) (fun e => ap.2.2.2.2.2 e.symm) (fun e => ap.2.2.2.1 e.symm) (fun e => ap.2.2.2.2.1 e.symm), ?_⟩
  exact (HU1.out.mono (fun _ _ e => by rcases e with e | e; (· exact .inl e); (· exact .inr (.inl e)))).setCell (p := ⟨bb, th, none⟩) _ (fun _ => .inr (.inr rfl))
set_option maxRecDepth 20000 in
set_option maxHeartbeats 4000000 in
/-- A new object of a thread that has no buffer: it takes one. -/
theorem alloc_small (w : World) (a h hwb hsb n bb t : Nat) (os : List Ob) (rest : List Int) (H : HeapAt w h hwb hsb n os rest) (sz : Nat) (hA : Blk w a [.pointer (some ⟨h, 0, none⟩), .slice (some ⟨bb, 0, none⟩) t t, .int .i64 (sz : Int)] 73) (bufs : List Int) (hB : Blk w bb (ints bufs) 3)
    (ap : a ≠ h ∧ a ≠ hwb ∧ a ≠ hsb ∧ a ≠ bb ∧ bb ≠ hwb ∧ bb ≠ hsb ∧ bb ≠ h) (th : Nat) (hth : bufs[th]? = some (-1)) (htl : bufs.length = t) (k l p m : Nat) (hg : goodB k l p = true) (hk : k ≠ 15) (hs8 : sz ≤ 4096) (hs : ¬ (sz : Int) / 2 < 1 + (l : Int)) (hl : l + 1 + m + 1 = sz) (hfit : sz ≤ rest.length) :
    Calls Tryz.prog 84 #[.pointer (some ⟨a, 0, none⟩), .int .i64 (th : Int), .agg #[.int .i64 (k : Int), .int .i64 (l : Int), .int .i64 (p : Int)]] w fun e w' => e = .returned (.tuple #[.int .i64 (top os : Int), .int .i64 0]) ∧
      HeapAt w' h hwb hsb n (os ++ ⟨k, p, List.replicate l 0⟩ :: ⟨15, 0, List.replicate m 0⟩ :: []) (rest.drop sz) ∧ Upd (fun k => k = h ∨ k = hwb ∨ k = hsb ∨ k = bb) w w' := by
  have hgb := of_decide_eq_true hg
  have hu := (Upd.refl (fun _ => False) w).alloc (.cells #[.int .i64 (k : Int), .int .i64 (l : Int), .int .i64 (p : Int)] 136)
  have hb := Blk.made w [.int .i64 (k : Int), .int .i64 (l : Int), .int .i64 (p : Int)] 136
  have b0 := hb.cell 0 rfl
  have b1 := hb.cell 1 rfl
  have b2 := hb.cell 2 rfl
  have htl' : th < t := by rw [← htl]; exact (List.getElem?_eq_some_iff.1 hth).1
  have HPk := Lib.hid (fun (V : World) => pack_yes k l p hg V)
  have HTh := Lib.hid (fun (V : World) (hV : Upd (fun _ => False) w V) => thread_any V a (some ⟨bb, 0, none⟩) t t th (keepC hV (hA.cell 1 rfl)))
  have HLe := Lib.hid (fun (V : World) (hV : Upd (fun _ => False) w V) => left_none V a h hwb hsb n bb t os rest (H.quiet hV) _ (hA.upd hV (fun h => h)) th htl' (keepC hV (hB.cell th (by rw [ints, List.getElem?_map, hth]; rfl))))
  obtain ⟨c, hc⟩ : ∃ c, c = l + 1 + m := ⟨_, rfl⟩
  have hgF : goodB ((15 : Nat) : Int) ((c : Nat) : Int) ((0 : Nat) : Int) = true := goodB_yes (by omega)
  have HPl := Lib.hid (fun (V : World) (hV : HeapAt V h hwb hsb n os rest) => place_yes V h hwb hsb n os rest hV 15 c 0 hgF (by omega))
  have HU := Lib.hid hu
  have HA := Lib.hid hA
  have HB := Lib.hid hB
  have HH := Lib.hid H
  have HG := Lib.hid hg
  have HTl := Lib.hid htl
  have s1 : IntKind.i64.wrap (1 + (l : Int)) = 1 + (l : Int) := IntWalk.i64_in _ (by omega)
  have HC := Lib.hid hc
  have s2 : IntKind.i64.wrap ((sz : Int) - 1) = (c : Int) := by rw [IntWalk.i64_in _ (by omega)]; omega
  have d1 : decide ((0 : Int) ≤ (th : Int)) = true := decide_eq_true (by omega)
  have d2 : decide ((th : Int) < (t : Int)) = true := decide_eq_true (by omega)
  have d2' : decide (th < t) = true := decide_eq_true htl'
  have d3 : ((k : Int) == 15) = false := by rw [beq_eq_false_iff_ne]; omega
  have d4 : decide ((sz : Int) / 2 < 1 + (l : Int)) = false := decide_eq_false hs
  have d5 : decide ((0 : Int) < 1 + (l : Int)) = true := decide_eq_true (by omega)
  have i1 : (0 : Int) ≤ (th : Int) := by omega
  have i2 : (th : Int) < (t : Int) := by omega
  have hal := hA.lt
  have hbl := hB.lt
  clear hu hA H hB hgb hg hth htl hgF hc
  go_enter Tryz.func84, Tryz.ntmps84
  go_wp2_with fail
  refine (HPk.out _).mono ?_
  rintro e w1 ⟨rfl, hu1⟩
  have HU1 := Lib.hid (HU.out.trans hu1)
  have hb1 := hb.upd hu1 (fun h => h)
  clear b0 b1 b2 hb hu1
  have b0 := hb1.cell 0 rfl
  have b1 := hb1.cell 1 rfl
  have b2 := hb1.cell 2 rfl
  have hA1 := HA.out.upd HU1.out (fun h => h)
  have a2 := hA1.cell 2 rfl
  have al := hA1.lt
  have HX1 := Lib.hid hb1
  clear hb1 hA1
  go_wp2_with fail
  refine (HTh.out _ HU1.out).mono ?_
  rintro e w2 ⟨rfl, rfl⟩
  go_wp2_with fail
  refine (HLe.out _ HU1.out).mono ?_
  rintro e w3 ⟨rfl, hu3⟩
  have HU3 := Lib.hid (HU1.out.trans hu3)
  have HX3 := Lib.hid (HX1.out.upd hu3 (fun h => h))
  clear b0 b1 b2 a2 al hu3
  have hA3 := HA.out.upd HU3.out (fun h => h)
  have hB3 := HB.out.upd HU3.out (fun h => h)
  have a0 := hA3.cell 0 rfl
  have a1 := hA3.cell 1 rfl
  have a2 := hA3.cell 2 rfl
  have al := hA3.lt
  have bf := hB3.frozen th
  have bl := hB3.lt
  obtain ⟨old, hold⟩ : ∃ old, w3.cell? ⟨bb, th, none⟩ = some old := by
    obtain ⟨x, hx⟩ : ∃ x, bufs[th]? = some x := ⟨_, List.getElem?_eq_getElem (by have := HTl.out; omega)⟩
    exact ⟨_, hB3.cell th (by rw [ints, List.getElem?_map, hx]; rfl)⟩
  have HA3 := Lib.hid hA3
  have HB3 := Lib.hid hB3
  clear hA3 hB3
  go_upto_region 9 with (fail)
  have hus : Upd (fun k => k = bb) w3 (w3.setCell ⟨bb, th, none⟩ (.int .i64 (-1))) := (Upd.refl _ w3).setCell (p := ⟨bb, th, none⟩) _ (fun _ => rfl)
  have hB4 := HB3.out.set th (.int .i64 (-1))
  rw [ints_set] at hB4
  have hA4 := HA3.out.upd hus (fun e => ap.2.2.2.1 e)
  have hH4 := (HH.out.quiet HU3.out).upd hus (fun e => ap.2.2.2.2.2.2 e.symm) (fun e => ap.2.2.2.2.1 e.symm) (fun e => ap.2.2.2.2.2.1 e.symm)
  have hbx : w.heap.size ≠ bb := by omega
  have hX4 := HX3.out.upd hus hbx
  have HU4 := Lib.hid ((HU3.out.mono (T := fun k => k = h ∨ k = hwb ∨ k = hsb ∨ k = bb) (fun _ _ h => h.elim)).trans (hus.mono (fun _ _ e => .inr (.inr (.inr e)))))
  generalize w3.setCell ⟨bb, th, none⟩ (.int .i64 (-1)) = w4 at *
  have HB4 := Lib.hid hB4
  have HA4 := Lib.hid hA4
  have HH4 := Lib.hid hH4
  have HX4 := Lib.hid hX4
  have hwl := hH4.wds.lt
  have hsl := hH4.sts.lt
  have hhl := hH4.str.lt
  have hxl := hX4.lt
  have hlw := HH.out.wds.lt
  have hlh := HH.out.str.lt
  have hls := HH.out.sts.lt
  clear a0 a1 a2 al bf bl hold hB4 hH4 hX4 hus
  have a0 := hA4.cell 0 rfl
  have a1 := hA4.cell 1 rfl
  have a2 := hA4.cell 2 rfl
  clear hA4
  obtain ⟨T, hT⟩ : ∃ T, T = top os := ⟨_, rfl⟩
  have HT := Lib.hid hT
  clear hT
  refine wp_region_held_drew (S := (fun V => V.cell? ⟨a, 0, none⟩ = some (.pointer (some ⟨h, 0, none⟩)) ∧ V.cell? ⟨a, 2, none⟩ = some (.int .i64 (sz : Int)))) (by kernel_rfl) ⟨a0, a2⟩ (fun hHeld => ?_)
  simp only [List.size_toArray, List.length_cons, List.length_nil, Nat.reduceAdd]
  refine take_any (i := 0) (v := ?_) (by rfl) (by kernel_rfl) (by exact (fun _ _ _ h => h)) (by rfl) hHeld ?_ ?_
  rotate_left
  · ((intro V hV; obtain ⟨hV0, hV1⟩ := hV; go_simp) <;> (with_reducible rfl))
  try simp only [Act.put, List.getElem?_toArray, List.getElem?_cons_succ, List.getElem?_cons_zero, List.getElem_toArray, List.getElem_cons_succ, List.getElem_cons_zero, List.setIfInBounds_toArray, List.set_cons_zero, List.set_cons_succ]
  refine take_any (i := 1) (v := ?_) (by rfl) (by kernel_rfl) (by exact (fun _ _ _ h => h)) (by rfl) hHeld ?_ ?_
  rotate_left
  · ((intro V hV; obtain ⟨hV0, hV1⟩ := hV; go_simp) <;> (with_reducible rfl))
  try simp only [Act.put, List.getElem?_toArray, List.getElem?_cons_succ, List.getElem?_cons_zero, List.getElem_toArray, List.getElem_cons_succ, List.getElem_cons_zero, List.setIfInBounds_toArray, List.set_cons_zero, List.set_cons_succ]
  refine take_any (i := 2) (v := ?_) (by rfl) (by kernel_rfl) (by exact (fun _ _ _ h => h)) (by rfl) hHeld ?_ ?_
  rotate_left
  · ((intro V hV; obtain ⟨hV0, hV1⟩ := hV; go_simp) <;> (with_reducible rfl))
  try simp only [Act.put, List.getElem?_toArray, List.getElem?_cons_succ, List.getElem?_cons_zero, List.getElem_toArray, List.getElem_cons_succ, List.getElem_cons_zero, List.setIfInBounds_toArray, List.set_cons_zero, List.set_cons_succ]
  refine take_any (i := 3) (v := ?_) (by rfl) (by kernel_rfl) (by exact (fun _ _ _ h => h)) (by rfl) hHeld ?_ ?_
  rotate_left
  · ((intro V hV; obtain ⟨hV0, hV1⟩ := hV; go_simp) <;> (with_reducible rfl))
  try simp only [Act.put, List.getElem?_toArray, List.getElem?_cons_succ, List.getElem?_cons_zero, List.getElem_toArray, List.getElem_cons_succ, List.getElem_cons_zero, List.setIfInBounds_toArray, List.set_cons_zero, List.set_cons_succ]
  refine take_any (i := 4) (v := ?_) (by rfl) (by kernel_rfl) (by exact (fun _ _ _ h => h)) (by rfl) hHeld ?_ ?_
  rotate_left
  · ((intro V hV; obtain ⟨hV0, hV1⟩ := hV; go_simp) <;> (with_reducible rfl))
  try simp only [Act.put, List.getElem?_toArray, List.getElem?_cons_succ, List.getElem?_cons_zero, List.getElem_toArray, List.getElem_cons_succ, List.getElem_cons_zero, List.setIfInBounds_toArray, List.set_cons_zero, List.set_cons_succ]
  refine take_any (i := 5) (v := ?_) (by rfl) (by kernel_rfl) (by exact (fun _ _ _ h => h)) (by rfl) hHeld ?_ ?_
  rotate_left
  · ((intro V hV; obtain ⟨hV0, hV1⟩ := hV; go_simp) <;> (with_reducible rfl))
  try simp only [Act.put, List.getElem?_toArray, List.getElem?_cons_succ, List.getElem?_cons_zero, List.getElem_toArray, List.getElem_cons_succ, List.getElem_cons_zero, List.setIfInBounds_toArray, List.set_cons_zero, List.set_cons_succ]
  refine take_any (i := 6) (v := ?_) (by rfl) (by kernel_rfl) (by exact (fun _ _ _ h => h)) (by rfl) hHeld ?_ ?_
  rotate_left
  · ((intro V hV; obtain ⟨hV0, hV1⟩ := hV; go_simp) <;> (with_reducible rfl))
  try simp only [Act.put, List.getElem?_toArray, List.getElem?_cons_succ, List.getElem?_cons_zero, List.getElem_toArray, List.getElem_cons_succ, List.getElem_cons_zero, List.setIfInBounds_toArray, List.set_cons_zero, List.set_cons_succ]
  refine take_any (i := 7) (v := ?_) (by rfl) (by kernel_rfl) (by exact (fun _ _ _ h => h)) (by rfl) hHeld ?_ ?_
  rotate_left
  · ((intro V hV; obtain ⟨hV0, hV1⟩ := hV; go_simp) <;> (with_reducible rfl))
  try simp only [Act.put, List.getElem?_toArray, List.getElem?_cons_succ, List.getElem?_cons_zero, List.getElem_toArray, List.getElem_cons_succ, List.getElem_cons_zero, List.setIfInBounds_toArray, List.set_cons_zero, List.set_cons_succ]
  refine take_any (i := 8) (v := ?_) (by rfl) (by kernel_rfl) (by exact (fun _ _ _ h => h)) (by rfl) hHeld ?_ ?_
  rotate_left
  · ((intro V hV; obtain ⟨hV0, hV1⟩ := hV; go_simp) <;> (with_reducible rfl))
  try simp only [Act.put, List.getElem?_toArray, List.getElem?_cons_succ, List.getElem?_cons_zero, List.getElem_toArray, List.getElem_cons_succ, List.getElem_cons_zero, List.setIfInBounds_toArray, List.set_cons_zero, List.set_cons_succ]
  refine take_any (i := 9) (v := ?_) (by rfl) (by kernel_rfl) (by exact (fun _ _ _ h => h)) (by rfl) hHeld ?_ ?_
  rotate_left
  · ((intro V hV; obtain ⟨hV0, hV1⟩ := hV; go_simp) <;> (with_reducible rfl))
  try simp only [Act.put, List.getElem?_toArray, List.getElem?_cons_succ, List.getElem?_cons_zero, List.getElem_toArray, List.getElem_cons_succ, List.getElem_cons_zero, List.setIfInBounds_toArray, List.set_cons_zero, List.set_cons_succ]
  refine next_last (i := 10) (by rfl) (by kernel_rfl) (fun KK hK => ?_)
  go_simp
  refine (HPl.out _ (HH4.out.quiet (Upd.refl _ w4).drew)).mono ?_
  rintro y V ⟨rfl, hH5, hu5⟩
  rw [← HT.out]
  have hU5 := ((Upd.refl (fun _ => False) w4).drew.mono (T := fun k => k = h ∨ k = hwb ∨ k = hsb) (fun _ _ h => h.elim)).trans hu5
  have HU5 := Lib.hid hU5
  have HH5 := Lib.hid hH5
  refine hK.out _ _ ⟨keepS hU5 (fun e => by rcases e with e | e | e; (· exact ap.1 e); (· exact ap.2.1 e); (· exact ap.2.2.1 e)) a0, keepS hU5 (fun e => by rcases e with e | e | e; (· exact ap.1 e); (· exact ap.2.1 e); (· exact ap.2.2.1 e)) a2⟩ (fun hHeld => ?_)
  clear hK KK
  try simp only [Act.put, List.getElem?_toArray, List.getElem?_cons_succ, List.getElem?_cons_zero, List.getElem_toArray, List.getElem_cons_succ, List.getElem_cons_zero, List.setIfInBounds_toArray, List.set_cons_zero, List.set_cons_succ]
  clear hU5 hu5 hH5 a0 a1 a2
  refine take_any (i := 11) (v := ?_) (by rfl) (by kernel_rfl) (by exact (fun _ _ _ h => h)) (by rfl) hHeld ?_ ?_
  rotate_left
  · ((intro V hV; obtain ⟨hV0, hV1⟩ := hV; go_simp) <;> (with_reducible rfl))
  try simp only [Act.put, List.getElem?_toArray, List.getElem?_cons_succ, List.getElem?_cons_zero, List.getElem_toArray, List.getElem_cons_succ, List.getElem_cons_zero, List.setIfInBounds_toArray, List.set_cons_zero, List.set_cons_succ]
  refine take_any (i := 12) (v := ?_) (by rfl) (by kernel_rfl) (by exact (fun _ _ _ h => h)) (by rfl) hHeld ?_ ?_
  rotate_left
  · ((intro V hV; obtain ⟨hV0, hV1⟩ := hV; go_simp) <;> (with_reducible rfl))
  try simp only [Act.put, List.getElem?_toArray, List.getElem?_cons_succ, List.getElem?_cons_zero, List.getElem_toArray, List.getElem_cons_succ, List.getElem_cons_zero, List.setIfInBounds_toArray, List.set_cons_zero, List.set_cons_succ]
  refine take_any (i := 13) (v := ?_) (by rfl) (by kernel_rfl) (by exact (fun _ _ _ h => h)) (by rfl) hHeld ?_ ?_
  rotate_left
  · ((intro V hV; obtain ⟨hV0, hV1⟩ := hV; go_simp) <;> (with_reducible rfl))
  try simp only [Act.put, List.getElem?_toArray, List.getElem?_cons_succ, List.getElem?_cons_zero, List.getElem_toArray, List.getElem_cons_succ, List.getElem_cons_zero, List.setIfInBounds_toArray, List.set_cons_zero, List.set_cons_succ]
  refine take_any (i := 14) (v := ?_) (by rfl) (by kernel_rfl) (by exact (fun _ _ _ h => h)) (by rfl) hHeld ?_ ?_
  rotate_left
  · ((intro V hV; obtain ⟨hV0, hV1⟩ := hV; go_simp) <;> (with_reducible rfl))
  try simp only [Act.put, List.getElem?_toArray, List.getElem?_cons_succ, List.getElem?_cons_zero, List.getElem_toArray, List.getElem_cons_succ, List.getElem_cons_zero, List.setIfInBounds_toArray, List.set_cons_zero, List.set_cons_succ]
  refine take_any (i := 15) (v := ?_) (by rfl) (by kernel_rfl) (by exact (fun _ _ _ h => h)) (by rfl) hHeld ?_ ?_
  rotate_left
  · ((intro V hV; obtain ⟨hV0, hV1⟩ := hV; go_simp) <;> (with_reducible rfl))
  try simp only [Act.put, List.getElem?_toArray, List.getElem?_cons_succ, List.getElem?_cons_zero, List.getElem_toArray, List.getElem_cons_succ, List.getElem_cons_zero, List.setIfInBounds_toArray, List.set_cons_zero, List.set_cons_succ]
  refine wpAnyH_done (by kernel_rfl) ?_ _
  have hA5 := HA4.out.upd HU5.out (fun e => by rcases e with e | e | e; (· exact ap.1 e); (· exact ap.2.1 e); (· exact ap.2.2.1 e))
  have hB5 := HB4.out.upd HU5.out (fun e => by rcases e with e | e | e; (· exact ap.2.2.2.2.2.2 e); (· exact ap.2.2.2.2.1 e); (· exact ap.2.2.2.2.2.1 e))
  have hX5 := HX4.out.upd HU5.out (by omega)
  have a1 := hA5.cell 1 rfl
  have al := hA5.lt
  have bf := hB5.frozen th
  have bl := hB5.lt
  have x0 := hX5.cell 0 rfl
  have x1 := hX5.cell 1 rfl
  have x2 := hX5.cell 2 rfl
  obtain ⟨old, hold⟩ : ∃ old, V.cell? ⟨bb, th, none⟩ = some old := by
    obtain ⟨x, hx⟩ : ∃ x, (bufs.set th (-1))[th]? = some x := ⟨_, List.getElem?_eq_getElem (by rw [List.length_set]; have := HTl.out; omega)⟩
    exact ⟨_, hB5.cell th (by rw [ints, List.getElem?_map, hx]; rfl)⟩
  have HA5 := Lib.hid hA5
  have HB5 := Lib.hid hB5
  have HX5 := Lib.hid hX5
  clear hA5 hB5 hX5
  go_upto_region 13 with (fail)
  have hus : Upd (fun k => k = bb) V (V.setCell ⟨bb, th, none⟩ (.int .i64 (T : Int))) := (Upd.refl _ V).setCell (p := ⟨bb, th, none⟩) _ (fun _ => rfl)
  have hB6 := HB5.out.set th (.int .i64 (T : Int))
  rw [ints_set] at hB6
  have hA6 := HA5.out.upd hus (fun e => ap.2.2.2.1 e)
  have hH6 := HH5.out.upd hus (fun e => ap.2.2.2.2.2.2 e.symm) (fun e => ap.2.2.2.2.1 e.symm) (fun e => ap.2.2.2.2.2.1 e.symm)
  have hX6 := HX5.out.upd hus hbx
  have HU6 := Lib.hid (HU4.out.trans ((HU5.out.mono (T := fun k => k = h ∨ k = hwb ∨ k = hsb ∨ k = bb) (fun _ _ e => by rcases e with e | e | e; (· exact .inl e); (· exact .inr (.inl e)); (· exact .inr (.inr (.inl e))))).trans (hus.mono (fun _ _ e => .inr (.inr (.inr e))))))
  generalize V.setCell ⟨bb, th, none⟩ (.int .i64 (T : Int)) = w6 at *
  have HSp := Lib.hid (asplit_any w6 a h hwb hsb n bb t os [] ⟨15, 0, List.replicate c 0⟩ _ hH6 rfl _ hA6 _ hB6 ⟨ap.2.1, ap.2.2.1, ap.2.2.2.1, ap.2.2.2.2.1, ap.2.2.2.2.2.1, ap.2.2.2.2.2.2⟩ T th HT.out (by rw [List.getElem?_set_self (by rw [List.length_set]; have := HTl.out; omega)]) (by rw [List.length_set, List.length_set]; exact HTl.out) k l p m HG.out (by simp only [Ob.len, List.length_replicate]; exact HC.out.symm))
  clear x0 x1 x2 a1 al bf bl hold hB6 hA6 hH6 hus
  have x0 := hX6.cell 0 rfl
  have x1 := hX6.cell 1 rfl
  have x2 := hX6.cell 2 rfl
  clear hX6
  go_wp2_with fail
  refine (HSp.out).mono ?_
  rintro e w7 ⟨rfl, h7, hu7⟩
  have HH7 := Lib.hid h7
  have HU7 := Lib.hid (HU6.out.trans (hu7.mono (fun _ _ e => .inr e)))
  clear h7 hu7
  go_wp2_with fail
  go_ret2
  refine ⟨by rw [HT.out]; rfl, ?_, HU7.out⟩
  have h8 := HH7.out
  rw [show 1 + c = sz by have := HC.out; omega] at h8
  exact h8
end Go.Proofs.YtapjajclmbpjmaaGreatDoor.Sys
