/- Systems: make, where a buffer is taken; Do of a get. -/
import Derived.Test.YtapjajclmbpjmaaGreatDoorSysGet
import Derived.Test.YtapjajclmbpjmaaGreatDoorKeeper
set_option linter.unusedSimpArgs false
namespace Go.Proofs.YtapjajclmbpjmaaGreatDoor.Sys
open Go.RowKit Go.Proofs.YtapjajclmbpjmaaGreatDoor.Mem Go.Proofs.YtapjajclmbpjmaaGreatDoor.Heap Go.Proofs.YtapjajclmbpjmaaGreatDoor.Obj

/-- What stands behind a new object. -/
def MadeEndB (V w' : World) (h hwb hsb y n r at_ : Nat) (os' : List Ob) (rest' : List Int) (l : List Int) (m : Nat) (v2 v3 : Value) : Prop :=
  HeapAt w' h hwb hsb n os' rest' ∧ (∃ q cap', Blk w' r [.slice q (m + 1) cap', v2, v3] 86 ∧ w'.ownsRow V.heap.size 3 1 (.slice q (m + 1) cap') (m + 1) (ints (l ++ [(at_ : Int) + 1]))) ∧ Upd (fun k => k = h ∨ k = hwb ∨ k = hsb ∨ k = y ∨ k = r) V w'
set_option maxRecDepth 20000 in
set_option maxHeartbeats 4000000 in
theorem make_firstB (w : World) (s r a h hwb hsb y n at_ : Nat) (os' : List Ob) (rest' : List Int) (c2 : w.cell? ⟨s, 9, none⟩ = some (.pointer (some ⟨r, 0, none⟩))) (c3 : w.cell? ⟨s, 10, none⟩ = some (.pointer (some ⟨a, 0, none⟩)))
    (v2 v3 : Value) (hr : Blk w r [.slice none 0 0, v2, v3] 86) (ap : s ≠ h ∧ s ≠ hwb ∧ s ≠ hsb ∧ s ≠ r ∧ r ≠ h ∧ r ≠ hwb ∧ r ≠ hsb) (apy : s ≠ y ∧ r ≠ y) (lt : h < w.heap.size ∧ hwb < w.heap.size ∧ hsb < w.heap.size ∧ y < w.heap.size) (hat : at_ < 65536)
    (th : Int) (k l p : Int) (HAl : ∀ V, Upd (fun _ => False) w V → Calls Tryz.prog 84 #[.pointer (some ⟨a, 0, none⟩), .int .i64 th, .agg #[.int .i64 k, .int .i64 l, .int .i64 p]] V fun e w' => e = .returned (.tuple #[.int .i64 (at_ : Int), .int .i64 0]) ∧ HeapAt w' h hwb hsb n os' rest' ∧ Upd (fun k => k = h ∨ k = hwb ∨ k = hsb ∨ k = y) V w') :
    Calls Tryz.prog 61 #[.pointer (some ⟨s, 0, none⟩), .int .i64 th, .agg #[.int .i64 k, .int .i64 l, .int .i64 p]] w fun e w' => e = .returned (.int .i64 0) ∧ MadeEndB w w' h hwb hsb y n r at_ os' rest' [] 0 v2 v3 := by
  have hu := (Upd.refl (fun _ => False) w).alloc (.cells #[.int .i64 k, .int .i64 l, .int .i64 p] 136)
  have hb := Blk.made w [.int .i64 k, .int .i64 l, .int .i64 p] 136
  have sl := World.block_lt_of_cell? w _ c2
  have c2' := keepC hu c2
  have c3' := keepC hu c3
  have b0 := hb.cell 0 rfl
  have b1 := hb.cell 1 rfl
  have b2 := hb.cell 2 rfl
  have HLen := Lib.hid (fun (V : World) (hV : Upd (fun _ => False) w V) => rootsLen_any V r none 0 0 (keepC hV (hr.cell 0 rfl)))
  have HA := Lib.hid HAl
  have HU := Lib.hid hu
  have HR := Lib.hid hr
  have rl := hr.lt
  clear HAl hu hb hr c2 c3
  have c2 := c2'
  have c3 := c3'
  have HC2 := Lib.hid c2'
  have HC3 := Lib.hid c3'
  clear c2' c3'
  have s1 : IntKind.i64.wrap ((at_ : Int) + 1) = (at_ : Int) + 1 := IntWalk.i64_in _ (by omega)
  go_enter Tryz.func61, Tryz.ntmps61
  go_upto_region 1 with (fail)
  generalize w.alloc (.cells #[.int .i64 k, .int .i64 l, .int .i64 p] 136) = w1 at *
  go_wp2_with fail
  refine (HLen.out _ HU.out).mono ?_
  rintro e w2 ⟨rfl, rfl⟩
  go_upto_region 3 with (fail)
  refine wp_region_held_drew (S := (fun V => V.cell? ⟨s, 10, none⟩ = some (.pointer (some ⟨a, 0, none⟩)) ∧ V.cell? ⟨w.heap.size, 0, none⟩ = some (.int .i64 k) ∧ V.cell? ⟨w.heap.size, 1, none⟩ = some (.int .i64 l) ∧ V.cell? ⟨w.heap.size, 2, none⟩ = some (.int .i64 p))) (by kernel_rfl) ⟨c3, b0, b1, b2⟩ (fun hHeld => ?_)
  simp only [List.size_toArray, List.length_cons, List.length_nil, Nat.reduceAdd]
  refine take_any (i := 0) (v := ?_) (by rfl) (by kernel_rfl) (by exact (fun _ _ _ h => h)) (by rfl) hHeld ?_ ?_
  rotate_left
  · ((intro V hV; obtain ⟨hV0, hV1, hV2, hV3⟩ := hV; go_simp) <;> (with_reducible rfl))
  try simp only [Act.put, List.getElem?_toArray, List.getElem?_cons_succ, List.getElem?_cons_zero, List.getElem_toArray, List.getElem_cons_succ, List.getElem_cons_zero, List.setIfInBounds_toArray, List.set_cons_zero, List.set_cons_succ]
  refine take_any (i := 1) (v := ?_) (by rfl) (by kernel_rfl) (by exact (fun _ _ _ h => h)) (by rfl) hHeld ?_ ?_
  rotate_left
  · ((intro V hV; obtain ⟨hV0, hV1, hV2, hV3⟩ := hV; go_simp) <;> (with_reducible rfl))
  try simp only [Act.put, List.getElem?_toArray, List.getElem?_cons_succ, List.getElem?_cons_zero, List.getElem_toArray, List.getElem_cons_succ, List.getElem_cons_zero, List.setIfInBounds_toArray, List.set_cons_zero, List.set_cons_succ]
  refine take_any (i := 2) (v := ?_) (by rfl) (by kernel_rfl) (by exact (fun _ _ _ h => h)) (by rfl) hHeld ?_ ?_
  rotate_left
  · ((intro V hV; obtain ⟨hV0, hV1, hV2, hV3⟩ := hV; go_simp) <;> (with_reducible rfl))
  try simp only [Act.put, List.getElem?_toArray, List.getElem?_cons_succ, List.getElem?_cons_zero, List.getElem_toArray, List.getElem_cons_succ, List.getElem_cons_zero, List.setIfInBounds_toArray, List.set_cons_zero, List.set_cons_succ]
  refine take_any (i := 3) (v := ?_) (by rfl) (by kernel_rfl) (by exact (fun _ _ _ h => h)) (by rfl) hHeld ?_ ?_
  rotate_left
  · ((intro V hV; obtain ⟨hV0, hV1, hV2, hV3⟩ := hV; go_simp) <;> (with_reducible rfl))
  try simp only [Act.put, List.getElem?_toArray, List.getElem?_cons_succ, List.getElem?_cons_zero, List.getElem_toArray, List.getElem_cons_succ, List.getElem_cons_zero, List.setIfInBounds_toArray, List.set_cons_zero, List.set_cons_succ]
  refine take_any (i := 4) (v := ?_) (by rfl) (by kernel_rfl) (by exact (fun _ _ _ h => h)) (by rfl) hHeld ?_ ?_
  rotate_left
  · ((intro V hV; obtain ⟨hV0, hV1, hV2, hV3⟩ := hV; go_simp) <;> (with_reducible rfl))
  try simp only [Act.put, List.getElem?_toArray, List.getElem?_cons_succ, List.getElem?_cons_zero, List.getElem_toArray, List.getElem_cons_succ, List.getElem_cons_zero, List.setIfInBounds_toArray, List.set_cons_zero, List.set_cons_succ]
  refine take_any (i := 5) (v := ?_) (by rfl) (by kernel_rfl) (by exact (fun _ _ _ h => h)) (by rfl) hHeld ?_ ?_
  rotate_left
  · ((intro V hV; obtain ⟨hV0, hV1, hV2, hV3⟩ := hV; go_simp) <;> (with_reducible rfl))
  try simp only [Act.put, List.getElem?_toArray, List.getElem?_cons_succ, List.getElem?_cons_zero, List.getElem_toArray, List.getElem_cons_succ, List.getElem_cons_zero, List.setIfInBounds_toArray, List.set_cons_zero, List.set_cons_succ]
  refine next_last (i := 6) (by rfl) (by kernel_rfl) (fun KK hK => ?_)
  go_simp
  refine (HA.out _ HU.out.drew).mono ?_
  rintro y V ⟨rfl, hH, hu1⟩
  have hU1 := ((Upd.refl (fun _ => False) w2).drew.mono (T := fun k => k = h ∨ k = hwb ∨ k = hsb ∨ k = y) (fun _ _ h => h.elim)).trans hu1
  have HU1 := Lib.hid ((HU.out.mono (fun _ _ h => h.elim)).trans hU1)
  have HC2b := Lib.hid (keepS hU1 (fun e => by rcases e with e | e | e | e; (· exact ap.1 e); (· exact ap.2.1 e); (· exact ap.2.2.1 e); (· exact apy.1 e)) HC2.out)
  have HH := Lib.hid hH
  have hsz1 := HU1.out.size
  refine hK.out _ _ ⟨keepS hU1 (fun e => by rcases e with e | e | e | e; (· exact ap.1 e); (· exact ap.2.1 e); (· exact ap.2.2.1 e); (· exact apy.1 e)) c3, keepS hU1 (by omega) b0, keepS hU1 (by omega) b1, keepS hU1 (by omega) b2⟩ (fun hHeld => ?_)
  clear hK KK
  try simp only [Act.put, List.getElem?_toArray, List.getElem?_cons_succ, List.getElem?_cons_zero, List.getElem_toArray, List.getElem_cons_succ, List.getElem_cons_zero, List.setIfInBounds_toArray, List.set_cons_zero, List.set_cons_succ]
  clear hU1 hu1 hH
  refine take_any (i := 7) (v := ?_) (by rfl) (by kernel_rfl) (by exact (fun _ _ _ h => h)) (by rfl) hHeld ?_ ?_
  rotate_left
  · ((intro V hV; obtain ⟨hV0, hV1, hV2, hV3⟩ := hV; go_simp) <;> (with_reducible rfl))
  try simp only [Act.put, List.getElem?_toArray, List.getElem?_cons_succ, List.getElem?_cons_zero, List.getElem_toArray, List.getElem_cons_succ, List.getElem_cons_zero, List.setIfInBounds_toArray, List.set_cons_zero, List.set_cons_succ]
  refine take_any (i := 8) (v := ?_) (by rfl) (by kernel_rfl) (by exact (fun _ _ _ h => h)) (by rfl) hHeld ?_ ?_
  rotate_left
  · ((intro V hV; obtain ⟨hV0, hV1, hV2, hV3⟩ := hV; go_simp) <;> (with_reducible rfl))
  try simp only [Act.put, List.getElem?_toArray, List.getElem?_cons_succ, List.getElem?_cons_zero, List.getElem_toArray, List.getElem_cons_succ, List.getElem_cons_zero, List.setIfInBounds_toArray, List.set_cons_zero, List.set_cons_succ]
  refine take_any (i := 9) (v := ?_) (by rfl) (by kernel_rfl) (by exact (fun _ _ _ h => h)) (by rfl) hHeld ?_ ?_
  rotate_left
  · ((intro V hV; obtain ⟨hV0, hV1, hV2, hV3⟩ := hV; go_simp) <;> (with_reducible rfl))
  try simp only [Act.put, List.getElem?_toArray, List.getElem?_cons_succ, List.getElem?_cons_zero, List.getElem_toArray, List.getElem_cons_succ, List.getElem_cons_zero, List.setIfInBounds_toArray, List.set_cons_zero, List.set_cons_succ]
  refine take_any (i := 10) (v := ?_) (by rfl) (by kernel_rfl) (by exact (fun _ _ _ h => h)) (by rfl) hHeld ?_ ?_
  rotate_left
  · ((intro V hV; obtain ⟨hV0, hV1, hV2, hV3⟩ := hV; go_simp) <;> (with_reducible rfl))
  try simp only [Act.put, List.getElem?_toArray, List.getElem?_cons_succ, List.getElem?_cons_zero, List.getElem_toArray, List.getElem_cons_succ, List.getElem_cons_zero, List.setIfInBounds_toArray, List.set_cons_zero, List.set_cons_succ]
  refine take_any (i := 11) (v := ?_) (by rfl) (by kernel_rfl) (by exact (fun _ _ _ h => h)) (by rfl) hHeld ?_ ?_
  rotate_left
  · ((intro V hV; obtain ⟨hV0, hV1, hV2, hV3⟩ := hV; go_simp) <;> (with_reducible rfl))
  try simp only [Act.put, List.getElem?_toArray, List.getElem?_cons_succ, List.getElem?_cons_zero, List.getElem_toArray, List.getElem_cons_succ, List.getElem_cons_zero, List.setIfInBounds_toArray, List.set_cons_zero, List.set_cons_succ]
  refine wpAnyH_done (by kernel_rfl) ?_ _
  have hr3 := HR.out.upd HU1.out (fun e => by rcases e with e | e | e | e; (· exact ap.2.2.2.2.1 e); (· exact ap.2.2.2.2.2.1 e); (· exact ap.2.2.2.2.2.2 e); (· exact apy.2 e))
  have HR3 := Lib.hid hr3
  have HPu := Lib.hid (push_any V V.heap.size r none 0 0 [] v2 v3 hr3 ⟨rfl, .inl ⟨rfl, rfl⟩⟩ (Nat.le_refl _) hr3.lt (by omega) ((at_ : Int) + 1) (by omega))
  have c2b := HC2b.out
  clear c2 c3 b0 b1 b2 hr3
  go_wp2_with fail
  refine (HPu.out).mono ?_
  rintro e w4 ⟨rfl, q, cap', h1, h2, h3⟩
  have hu4 : Upd (fun k => k = r) V w4 := h3.mono (fun _ _ e => by rcases e with e | e; (· exact e); (· cases e))
  have HF := Lib.hid (show MadeEndB w w4 h hwb hsb y n r at_ os' rest' [] 0 v2 v3 from
    ⟨HH.out.upd hu4 (fun e => ap.2.2.2.2.1 e.symm) (fun e => ap.2.2.2.2.2.1 e.symm) (fun e => ap.2.2.2.2.2.2 e.symm), ⟨q, cap', h1, own_base h2 hsz1⟩,
      (HU1.out.mono (fun _ _ e => by rcases e with e | e | e | e; (· exact .inl e); (· exact .inr (.inl e)); (· exact .inr (.inr (.inl e))); (· exact .inr (.inr (.inr (.inl e)))))).next hu4 (fun _ _ e => .inr (.inr (.inr (.inr e))))⟩)
  clear h1 h2 h3 hu4 c2b
  go_wp2_with fail
  go_ret
  exact ⟨rfl, HF.out⟩


set_option maxRecDepth 20000 in
set_option maxHeartbeats 4000000 in
theorem do_get (w : World) (T : Scr.Tabs w) (s : Nat) (c11 : w.cell? ⟨s, 11, none⟩ = some (.pointer none)) (i f x : Int)
    (hget : ∀ V, Upd (fun _ => False) w V → Calls Tryz.prog 38 #[.pointer (some ⟨s, 0, none⟩), .int .i64 i, .int .i64 f] V fun e w' => e = .returned (.agg #[.int .i64 0, .int .i64 x]) ∧ Upd (fun _ => False) V w') :
    Calls Tryz.prog 21 #[.pointer (some ⟨s, 0, none⟩), .agg #[.int .i64 8, .int .i64 i, .int .i64 f, .int .i64 0, .int .i64 0]] w fun e w' => e = .returned (.agg #[.int .i64 0, .int .i64 x]) ∧ Upd (fun _ => False) w w' := by
  have hgood : decide (Scr.Ent.good ⟨8, i, f, 0, 0⟩) = true := decide_eq_true ⟨by show (0 : Int) ≤ Scr.manyOf 8; decide, fun x hx => by
    have e : (Scr.manyOf 8).toNat = 2 := by decide
    have hx' : x ∈ [i, f, 0, 0].drop (Scr.manyOf 8).toNat := hx
    rw [e] at hx'
    simpa using hx'⟩
  have HG := Lib.hid (fun (V : World) (hV : Upd (fun _ => False) w V) => (hgood ▸ Scr.good_any V (T.quiet hV) ⟨8, i, f, 0, 0⟩ : Calls Tryz.prog 28 #[.agg #[.int .i64 8, .int .i64 i, .int .i64 f, .int .i64 0, .int .i64 0]] V fun e w' => e = .returned (.bool true) ∧ Upd (fun _ => False) V w'))
  have HCol := Lib.hid (fun (V : World) (hV : Upd (fun _ => False) w V) => collecting_no V s (keepC hV c11))
  have HGt := Lib.hid hget
  have hu := ((Upd.refl (fun _ => False) w).alloc (.cells #[.int .i64 8, .int .i64 i, .int .i64 f, .int .i64 0, .int .i64 0] 46)).alloc (.cells #[.int .i64 0, .int .i64 0] 42)
  have hb := (Blk.made w [.int .i64 8, .int .i64 i, .int .i64 f, .int .i64 0, .int .i64 0] 46).alloc (.cells #[.int .i64 0, .int .i64 0] 42)
  have hr := Blk.made' w (.cells #[.int .i64 8, .int .i64 i, .int .i64 f, .int .i64 0, .int .i64 0] 46) [.int .i64 0, .int .i64 0] 42
  have HU := Lib.hid hu
  have HB := Lib.hid hb
  have HR := Lib.hid hr
  clear hu hb hr hget hgood T c11
  go_enter Tryz.func21, Tryz.ntmps21
  go_upto_region 1 with (fail)
  generalize (w.alloc (.cells #[.int .i64 8, .int .i64 i, .int .i64 f, .int .i64 0, .int .i64 0] 46)).alloc (.cells #[.int .i64 0, .int .i64 0] 42) = w1 at *
  have b0 := HB.out.cell 0 rfl
  have b1 := HB.out.cell 1 rfl
  have b2 := HB.out.cell 2 rfl
  have b3 := HB.out.cell 3 rfl
  have b4 := HB.out.cell 4 rfl
  go_wp2_with fail
  refine (HG.out _ HU.out).mono ?_
  rintro e w2 ⟨rfl, hu2⟩
  have HU2 := Lib.hid (HU.out.trans hu2)
  have hb2 := HB.out.upd hu2 (fun h => h)
  have HR2 := Lib.hid (HR.out.upd hu2 (fun h => h))
  clear b0 b1 b2 b3 b4 hu2
  have b0 := hb2.cell 0 rfl
  have b1 := hb2.cell 1 rfl
  have b2 := hb2.cell 2 rfl
  have b3 := hb2.cell 3 rfl
  have b4 := hb2.cell 4 rfl
  have HB2 := Lib.hid hb2
  clear hb2
  go_upto_region 4 with (fail)
  have hu3 : Upd (fun _ => False) w2 (w2.alloc (.cells #[.int .i64 i, .int .i64 f, .int .i64 0, .int .i64 0] 44)) := (Upd.refl _ w2).alloc _
  have hn3 := Blk.made w2 [.int .i64 i, .int .i64 f, .int .i64 0, .int .i64 0] 44
  generalize w2.alloc (.cells #[.int .i64 i, .int .i64 f, .int .i64 0, .int .i64 0] 44) = w3 at *
  have hb3 := HB2.out.upd hu3 (fun h => h)
  have HR3 := Lib.hid (HR2.out.upd hu3 (fun h => h))
  have HU3 := Lib.hid (HU2.out.trans hu3)
  clear b0 b1 b2 b3 b4 hu3
  have b0 := hb3.cell 0 rfl
  have n0 := hn3.cell 0 rfl
  have n1 := hn3.cell 1 rfl
  clear hb3 hn3
  go_wp2_with fail
  refine (HCol.out _ HU3.out).mono ?_
  rintro e w4 ⟨rfl, rfl⟩
  go_wp2_with fail
  refine (HGt.out _ HU3.out).mono ?_
  rintro e w5 ⟨rfl, hu5⟩
  have hr5 := HR3.out.upd hu5 (fun h => h)
  have HU5 := Lib.hid (HU3.out.trans hu5)
  have HR5 := Lib.hid hr5
  clear hu5 b0 n0 n1
  have r0 := hr5.cell 0 rfl
  have r1 := hr5.cell 1 rfl
  have rf0 := hr5.frozen 0
  have rf1 := hr5.frozen 1
  have rl := hr5.lt
  clear hr5
  go_wp2_with fail
  exact bodyPost_ret (res_cell1 rfl _ _ (w.heap.size + 1) [.int .i64 0, .int .i64 x] 42 _ rfl ((HR5.out.set 0 (.int .i64 0)).set 1 (.int .i64 x)) Tryz.underlying42 rfl (by kernel_rfl)) rfl ⟨rfl, (HU5.out.setCell (p := ⟨w.heap.size + 1, 0, none⟩) _ (fun h => by have h' : w.heap.size + 1 < w.heap.size := h; omega)).setCell (p := ⟨w.heap.size + 1, 1, none⟩) _ (fun h => by have h' : w.heap.size + 1 < w.heap.size := h; omega)⟩
end Go.Proofs.YtapjajclmbpjmaaGreatDoor.Sys
