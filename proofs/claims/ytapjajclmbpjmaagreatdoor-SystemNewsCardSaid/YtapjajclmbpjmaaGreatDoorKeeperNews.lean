/- The law KeeperNews: the walk. -/
import Derived.Test.YtapjajclmbpjmaaGreatDoorKeeper
set_option linter.unusedSimpArgs false
namespace Go.Proofs.YtapjajclmbpjmaaGreatDoor.Sys
open Go.RowKit Go.Proofs.YtapjajclmbpjmaaGreatDoor.Mem Go.Proofs.YtapjajclmbpjmaaGreatDoor.Heap Go.Proofs.YtapjajclmbpjmaaGreatDoor.Obj

set_option maxRecDepth 20000 in
set_option maxHeartbeats 8000000 in
theorem keeperDo_alloc (w : World) (T : Scr.Tabs w) (kb s : Nat) (cs : List Value) (hk : Blk w kb (.pointer (some ⟨s, 0, none⟩) :: cs) 50) (th k l p : Int) (S : Nat → Prop) (hS : ¬ S kb) (hSl : ∀ k, S k → k < w.heap.size)
    (hdo : ∀ V, Upd (fun _ => False) w V → Calls Tryz.prog 21 #[.pointer (some ⟨s, 0, none⟩), .agg #[.int .i64 1, .int .i64 th, .int .i64 k, .int .i64 p, .int .i64 l]] V fun e w' => e = .returned (.agg #[.int .i64 0, .int .i64 0]) ∧ Upd S V w') :
    Calls Tryz.prog 15 #[.pointer (some ⟨kb, 0, none⟩), .agg #[.int .i64 1, .int .i64 th, .int .i64 k, .int .i64 p, .int .i64 l]] w fun e w' => e = .returned (.agg #[.int .i64 0, .int .i64 0]) ∧ Upd S w w' := by
  have hgood : decide (Scr.Ent.good ⟨1, th, k, p, l⟩) = true := decide_eq_true ⟨by show (0 : Int) ≤ Scr.manyOf 1; decide, fun x hx => by
    have e : (Scr.manyOf 1).toNat = 4 := by decide
    have hx' : x ∈ [th, k, p, l].drop (Scr.manyOf 1).toNat := hx
    rw [e] at hx'
    cases hx'⟩
  have HG := Lib.hid (fun (V : World) (hV : Upd (fun _ => False) w V) => (hgood ▸ Scr.good_any V (T.quiet hV) ⟨1, th, k, p, l⟩ : Calls Tryz.prog 28 #[.agg #[.int .i64 1, .int .i64 th, .int .i64 k, .int .i64 p, .int .i64 l]] V fun e w' => e = .returned (.bool true) ∧ Upd (fun _ => False) V w'))
  have hu := ((Upd.refl (fun _ => False) w).alloc (.cells #[.int .i64 1, .int .i64 th, .int .i64 k, .int .i64 p, .int .i64 l] 46)).alloc (.cells #[.int .i64 0, .int .i64 0] 42)
  have hb := (Blk.made w [.int .i64 1, .int .i64 th, .int .i64 k, .int .i64 p, .int .i64 l] 46).alloc (.cells #[.int .i64 0, .int .i64 0] 42)
  have hr := Blk.made' w (.cells #[.int .i64 1, .int .i64 th, .int .i64 k, .int .i64 p, .int .i64 l] 46) [.int .i64 0, .int .i64 0] 42
  have HD := Lib.hid hdo
  have HU := Lib.hid hu
  have HB := Lib.hid hb
  have HR := Lib.hid hr
  have HK := Lib.hid hk
  have kl := hk.lt
  clear hdo hu hb hr hk hgood T
  go_enter Tryz.func15, Tryz.ntmps15
  go_upto_region 1 with (fail)
  generalize (w.alloc (.cells #[.int .i64 1, .int .i64 th, .int .i64 k, .int .i64 p, .int .i64 l] 46)).alloc (.cells #[.int .i64 0, .int .i64 0] 42) = w1 at *
  have b0 := HB.out.cell 0 rfl
  have b1 := HB.out.cell 1 rfl
  have b2 := HB.out.cell 2 rfl
  have b3 := HB.out.cell 3 rfl
  have b4 := HB.out.cell 4 rfl
  go_wp2_with fail
  refine (HG.out _ HU.out).mono ?_
  rintro e w2 ⟨rfl, hu2⟩
  have HU2 := Lib.hid (HU.out.trans hu2)
  have hb2 := HB.out.upd hu2 (fun h => h)
  have HR1 := Lib.hid (HR.out.upd hu2 (fun h => h))
  have hk2 := HK.out.upd HU2.out (fun h => h)
  have hsz := HB.out.lt
  have hsz2 := hb2.lt
  clear b0 b1 b2 b3 b4 hu2
  have b0 := hb2.cell 0 rfl
  have b1 := hb2.cell 1 rfl
  have b2 := hb2.cell 2 rfl
  have b3 := hb2.cell 3 rfl
  have b4 := hb2.cell 4 rfl
  have k0 := hk2.cell 0 rfl
  clear hb2 hk2
  have hSx : ¬ S w.heap.size := fun h => by have := hSl _ h; omega
  have hSy : ¬ S (w.heap.size + 1) := fun h => by have := hSl _ h; omega
  go_upto_region 3 with (fail)
  refine wp_region_held_drew (S := (fun V => V.cell? ⟨kb, 0, none⟩ = some (.pointer (some ⟨s, 0, none⟩)) ∧ V.cell? ⟨w.heap.size, 0, none⟩ = some (.int .i64 1) ∧ V.cell? ⟨w.heap.size, 1, none⟩ = some (.int .i64 th) ∧ V.cell? ⟨w.heap.size, 2, none⟩ = some (.int .i64 k) ∧ V.cell? ⟨w.heap.size, 3, none⟩ = some (.int .i64 p) ∧ V.cell? ⟨w.heap.size, 4, none⟩ = some (.int .i64 l))) (by kernel_rfl) ⟨k0, b0, b1, b2, b3, b4⟩ (fun hHeld => ?_)
  simp only [List.size_toArray, List.length_cons, List.length_nil, Nat.reduceAdd]
  have hkp : ∀ (V : World), Upd S w2 V → V.cell? ⟨kb, 0, none⟩ = some (.pointer (some ⟨s, 0, none⟩)) ∧ V.cell? ⟨w.heap.size, 0, none⟩ = some (.int .i64 1) ∧ V.cell? ⟨w.heap.size, 1, none⟩ = some (.int .i64 th) ∧ V.cell? ⟨w.heap.size, 2, none⟩ = some (.int .i64 k) ∧ V.cell? ⟨w.heap.size, 3, none⟩ = some (.int .i64 p) ∧ V.cell? ⟨w.heap.size, 4, none⟩ = some (.int .i64 l) :=
    fun V hV => ⟨keepS hV hS k0, keepS hV hSx b0, keepS hV hSx b1, keepS hV hSx b2, keepS hV hSx b3, keepS hV hSx b4⟩
  have HKp := Lib.hid hkp
  clear hkp
  refine take_any (i := 0) (v := ?_) (by rfl) (by kernel_rfl) (by exact (fun _ _ _ h => h)) (by rfl) hHeld ?_ ?_
  rotate_left
  · ((intro V hV; obtain ⟨hV0, hV1, hV2, hV3, hV4, hV5⟩ := hV; go_simp) <;> (with_reducible rfl))
  try simp only [Act.put, List.getElem?_toArray, List.getElem?_cons_succ, List.getElem?_cons_zero, List.getElem_toArray, List.getElem_cons_succ, List.getElem_cons_zero, List.setIfInBounds_toArray, List.set_cons_zero, List.set_cons_succ]
  refine take_any (i := 1) (v := ?_) (by rfl) (by kernel_rfl) (by exact (fun _ _ _ h => h)) (by rfl) hHeld ?_ ?_
  rotate_left
  · ((intro V hV; obtain ⟨hV0, hV1, hV2, hV3, hV4, hV5⟩ := hV; go_simp) <;> (with_reducible rfl))
  try simp only [Act.put, List.getElem?_toArray, List.getElem?_cons_succ, List.getElem?_cons_zero, List.getElem_toArray, List.getElem_cons_succ, List.getElem_cons_zero, List.setIfInBounds_toArray, List.set_cons_zero, List.set_cons_succ]
  refine take_any (i := 2) (v := ?_) (by rfl) (by kernel_rfl) (by exact (fun _ _ _ h => h)) (by rfl) hHeld ?_ ?_
  rotate_left
  · ((intro V hV; obtain ⟨hV0, hV1, hV2, hV3, hV4, hV5⟩ := hV; go_simp) <;> (with_reducible rfl))
  try simp only [Act.put, List.getElem?_toArray, List.getElem?_cons_succ, List.getElem?_cons_zero, List.getElem_toArray, List.getElem_cons_succ, List.getElem_cons_zero, List.setIfInBounds_toArray, List.set_cons_zero, List.set_cons_succ]
  refine take_any (i := 3) (v := ?_) (by rfl) (by kernel_rfl) (by exact (fun _ _ _ h => h)) (by rfl) hHeld ?_ ?_
  rotate_left
  · ((intro V hV; obtain ⟨hV0, hV1, hV2, hV3, hV4, hV5⟩ := hV; go_simp) <;> (with_reducible rfl))
  try simp only [Act.put, List.getElem?_toArray, List.getElem?_cons_succ, List.getElem?_cons_zero, List.getElem_toArray, List.getElem_cons_succ, List.getElem_cons_zero, List.setIfInBounds_toArray, List.set_cons_zero, List.set_cons_succ]
  refine take_any (i := 4) (v := ?_) (by rfl) (by kernel_rfl) (by exact (fun _ _ _ h => h)) (by rfl) hHeld ?_ ?_
  rotate_left
  · ((intro V hV; obtain ⟨hV0, hV1, hV2, hV3, hV4, hV5⟩ := hV; go_simp) <;> (with_reducible rfl))
  try simp only [Act.put, List.getElem?_toArray, List.getElem?_cons_succ, List.getElem?_cons_zero, List.getElem_toArray, List.getElem_cons_succ, List.getElem_cons_zero, List.setIfInBounds_toArray, List.set_cons_zero, List.set_cons_succ]
  refine both_last 5 6 (by rfl) (by rfl) (by kernel_rfl) (fun KK hK => ?_) (fun KK hK => ?_)
  · go_simp
    refine (HD.out _ HU2.out.drew).mono ?_
    rintro y V ⟨rfl, hu3⟩
    have hU3 := ((Upd.refl (fun _ => False) w2).drew.mono (T := S) (fun _ _ h => h.elim)).trans hu3
    have HU3 := Lib.hid hU3
    clear hu3
    refine hK.out _ _ (HKp.out _ HU3.out) (fun hHeld => ?_)
    clear hK KK
    try simp only [Act.put, List.getElem?_toArray, List.getElem?_cons_succ, List.getElem?_cons_zero, List.getElem_toArray, List.getElem_cons_succ, List.getElem_cons_zero, List.setIfInBounds_toArray, List.set_cons_zero, List.set_cons_succ]
    refine next_last (i := 6) (by rfl) (by kernel_rfl) (fun KK hK => ?_)
    go_simp
    have hbr := Blk.made V [.int .i64 0, .int .i64 0] 42
    refine hK.out _ _ (HKp.out _ (HU3.out.alloc _)) (fun hHeld => ?_)
    clear hK KK
    try simp only [Act.put, List.getElem?_toArray, List.getElem?_cons_succ, List.getElem?_cons_zero, List.getElem_toArray, List.getElem_cons_succ, List.getElem_cons_zero, List.setIfInBounds_toArray, List.set_cons_zero, List.set_cons_succ]
    have q0 := hbr.cell 0 rfl
    have q1 := hbr.cell 1 rfl
    have qf0 := hbr.frozen 0
    have qf1 := hbr.frozen 1
    have ql := hbr.lt
    refine next_last (i := 7) (by rfl) (by kernel_rfl) (fun KK hK => ?_)
    go_simp
    have hb9 := hbr
    have hU9 := HU3.out.alloc (.cells #[.int .i64 0, .int .i64 0] 42)
    generalize V.alloc (.cells #[.int .i64 0, .int .i64 0] 42) = W9 at *
    generalize V.heap.size = rp at *
    clear q0 q1 qf0 qf1 ql hbr
    have HU9 := Lib.hid ((HU2.out.mono (T := S) (fun _ _ h => h.elim)).trans hU9)
    have HR9 := Lib.hid (HR1.out.upd hU9 hSy)
    have e0 := keepS hU9 hSx b0
    have HB9 := Lib.hid hb9
    refine hK.out _ _ (HKp.out _ hU9) (fun hHeld => ?_)
    clear hK KK
    try simp only [Act.put, List.getElem?_toArray, List.getElem?_cons_succ, List.getElem?_cons_zero, List.getElem_toArray, List.getElem_cons_succ, List.getElem_cons_zero, List.setIfInBounds_toArray, List.set_cons_zero, List.set_cons_succ]
    refine wpAnyH_done (by kernel_rfl) ?_ _
    clear hU9 hb9 b0 b1 b2 b3 b4 k0
    have b0 := e0
    have r0 := HB9.out.cell 0 rfl
    have r1 := HB9.out.cell 1 rfl
    have p0 := HR9.out.cell 0 rfl
    have p1 := HR9.out.cell 1 rfl
    have pf0 := HR9.out.frozen 0
    have pf1 := HR9.out.frozen 1
    have pl := HR9.out.lt
    go_wp2_with fail
    exact bodyPost_ret (res_cell1 rfl _ _ (w.heap.size + 1) [.int .i64 0, .int .i64 0] 42 _ rfl ((HR9.out.set 0 (.int .i64 0)).set 1 (.int .i64 0)) Tryz.underlying42 rfl (by kernel_rfl)) rfl ⟨rfl, (HU9.out.setCell (p := ⟨w.heap.size + 1, 0, none⟩) _ (fun h => by have h' : w.heap.size + 1 < w.heap.size := h; omega)).setCell (p := ⟨w.heap.size + 1, 1, none⟩) _ (fun h => by have h' : w.heap.size + 1 < w.heap.size := h; omega)⟩
  · go_simp
    have hbr := (Blk.made w2 [.int .i64 0, .int .i64 0] 42).drew
    have hu3 : Upd (fun _ => False) w2 (w2.alloc (.cells #[.int .i64 0, .int .i64 0] 42)).drew := ((Upd.refl _ w2).alloc _).drew
    generalize (w2.alloc (.cells #[.int .i64 0, .int .i64 0] 42)).drew = w3 at *
    refine hK.out _ _ (HKp.out _ (hu3.mono (fun _ _ h => h.elim))) (fun hHeld => ?_)
    clear hK KK
    try simp only [Act.put, List.getElem?_toArray, List.getElem?_cons_succ, List.getElem?_cons_zero, List.getElem_toArray, List.getElem_cons_succ, List.getElem_cons_zero, List.setIfInBounds_toArray, List.set_cons_zero, List.set_cons_succ]
    refine next_last (i := 5) (by rfl) (by kernel_rfl) (fun KK hK => ?_)
    go_simp
    refine (HD.out _ (HU2.out.trans hu3)).mono ?_
    rintro y V ⟨rfl, hu4⟩
    have hU4 := (hu3.mono (T := S) (fun _ _ h => h.elim)).trans hu4
    have HU4 := Lib.hid hU4
    have hbr4 := hbr.upd hu4 (fun h => by have := hSl _ h; omega)
    have q0 := hbr4.cell 0 rfl
    have q1 := hbr4.cell 1 rfl
    have qf0 := hbr4.frozen 0
    have qf1 := hbr4.frozen 1
    have ql := hbr4.lt
    clear hu4 hU4
    refine hK.out _ _ (HKp.out _ HU4.out) (fun hHeld => ?_)
    clear hK KK
    try simp only [Act.put, List.getElem?_toArray, List.getElem?_cons_succ, List.getElem?_cons_zero, List.getElem_toArray, List.getElem_cons_succ, List.getElem_cons_zero, List.setIfInBounds_toArray, List.set_cons_zero, List.set_cons_succ]
    refine next_last (i := 7) (by rfl) (by kernel_rfl) (fun KK hK => ?_)
    go_simp
    have hb9 := (hbr4.set 0 (.int .i64 0)).set 1 (.int .i64 0)
    have hU9 := (HU4.out.setCell (p := ⟨w2.heap.size, 0, none⟩) (.int .i64 0) (fun h => by have h' : w2.heap.size < w2.heap.size := h; omega)).setCell (p := ⟨w2.heap.size, 1, none⟩) (.int .i64 0) (fun h => by have h' : w2.heap.size < w2.heap.size := h; omega)
    generalize (V.setCell ⟨w2.heap.size, 0, none⟩ (.int .i64 0)).setCell ⟨w2.heap.size, 1, none⟩ (.int .i64 0) = W9 at *
    clear q0 q1 qf0 qf1 ql hbr hbr4 hu3
    have HU9 := Lib.hid ((HU2.out.mono (T := S) (fun _ _ h => h.elim)).trans hU9)
    have HR9 := Lib.hid (HR1.out.upd hU9 hSy)
    have e0 := keepS hU9 hSx b0
    have HB9 := Lib.hid hb9
    refine hK.out _ _ (HKp.out _ hU9) (fun hHeld => ?_)
    clear hK KK
    try simp only [Act.put, List.getElem?_toArray, List.getElem?_cons_succ, List.getElem?_cons_zero, List.getElem_toArray, List.getElem_cons_succ, List.getElem_cons_zero, List.setIfInBounds_toArray, List.set_cons_zero, List.set_cons_succ]
    refine wpAnyH_done (by kernel_rfl) ?_ _
    clear hU9 hb9 b0 b1 b2 b3 b4 k0
    have b0 := e0
    have r0 := HB9.out.cell 0 rfl
    have r1 := HB9.out.cell 1 rfl
    have p0 := HR9.out.cell 0 rfl
    have p1 := HR9.out.cell 1 rfl
    have pf0 := HR9.out.frozen 0
    have pf1 := HR9.out.frozen 1
    have pl := HR9.out.lt
    go_wp2_with fail
    exact bodyPost_ret (res_cell1 rfl _ _ (w.heap.size + 1) [.int .i64 0, .int .i64 0] 42 _ rfl ((HR9.out.set 0 (.int .i64 0)).set 1 (.int .i64 0)) Tryz.underlying42 rfl (by kernel_rfl)) rfl ⟨rfl, (HU9.out.setCell (p := ⟨w.heap.size + 1, 0, none⟩) _ (fun h => by have h' : w.heap.size + 1 < w.heap.size := h; omega)).setCell (p := ⟨w.heap.size + 1, 1, none⟩) _ (fun h => by have h' : w.heap.size + 1 < w.heap.size := h; omega)⟩
theorem sysDo_big (w0 w : World) (T : Scr.Tabs w) (s h hwb hsb a bb r rc rwb sz t : Nat) (b n m c p g : Int) (N : SysNew w0 w s h hwb hsb a bb r rc rwb sz t b n m c p g) (th k l q : Nat) (hth : th < t) (hg : goodB k l q = true) (hk : k ≠ 15) (half : Int) (hh : wrap64 ((bufOf b).tdiv 2) = half) (hs : half < 1 + (l : Int)) (hl : 1 + l ≤ sz) :
    Calls Tryz.prog 21 #[.pointer (some ⟨s, 0, none⟩), .agg #[.int .i64 1, .int .i64 (th : Int), .int .i64 (k : Int), .int .i64 (q : Int), .int .i64 (l : Int)]] w fun e w' => e = .returned (.agg #[.int .i64 0, .int .i64 0]) ∧ Upd (fun x => x = s ∨ x = h ∨ x = hwb ∨ x = hsb ∨ x = r) w w' := by
  have hm := N.mids
  have htp := N.tops
  have hap := N.apart
  have l1 := N.heap.str.lt
  have l2 := N.heap.wds.lt
  have l3 := N.heap.sts.lt
  have l4 := N.rts.lt
  have l5 := N.str.lt
  refine (do_alloc w T s (sysCells sz t b n m c p g h r a) N.str rfl rfl (th : Int) (k : Int) (q : Int) (l : Int) (fun x => x = h ∨ x = hwb ∨ x = hsb ∨ x = r) (by omega) (fun x hx => by omega)
    (fun V w' => MadeEnd V w' h hwb hsb sz r 0 ([] ++ [⟨k, q, List.replicate l 0⟩]) ((List.replicate sz 0).drop (1 + l)) [] 0 (.pointer (some ⟨rc, 0, none⟩)) (.int .i64 (partOf p)))
    (fun V w' hq => hq.2.2) (fun V hV => ?_)).mono ?_
  · have hs' := hV.size
    exact make_first V s r a h hwb hsb sz 0 _ _ ((N.str.upd hV (fun h => h)).cell 9 rfl) ((N.str.upd hV (fun h => h)).cell 10 rfl) _ _ (N.rts.upd hV (fun h => h)) ⟨by omega, by omega, by omega, by omega, by omega, by omega, by omega⟩ ⟨by omega, by omega, by omega⟩ (by omega) (th : Int) (k : Int) (l : Int) (q : Int)
      (fun W hW => alloc_big W a h hwb hsb sz [] (List.replicate sz 0) (N.heap.quiet (hV.trans hW)) _ t t _ (N.alc.upd (hV.trans hW) (fun h => h)) ⟨by omega, by omega, by omega⟩ th hth k l q hg hk half hh hs (by rw [List.length_replicate]; exact hl))
  · rintro e w' ⟨rfl, V, w1, rb, hV, hq, h1, h2, hu, _⟩
    refine ⟨rfl, ?_⟩
    have hs' := hV.size
    have u1 : Upd (fun x => x = s ∨ x = h ∨ x = hwb ∨ x = hsb ∨ x = r) w w1 := (hV.mono (fun _ _ h => h.elim)).trans (hq.2.2.mono (fun x _ hx => by omega))
    exact u1.next hu (fun i hi e => by omega)
end Go.Proofs.YtapjajclmbpjmaaGreatDoor.Sys
