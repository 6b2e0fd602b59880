/- A keeper: a new one; a new object; the law KeeperNews. -/
import Derived.Test.YtapjajclmbpjmaaGreatDoorSysDo
set_option linter.unusedSimpArgs false
namespace Go.Proofs.YtapjajclmbpjmaaGreatDoor.Sys
open Go.RowKit Go.Proofs.YtapjajclmbpjmaaGreatDoor.Mem Go.Proofs.YtapjajclmbpjmaaGreatDoor.Heap Go.Proofs.YtapjajclmbpjmaaGreatDoor.Obj

theorem numbers15_zero (w : World) : Calls Tryz.prog 27 #[.agg #[.int .u8 0, .int .u8 0, .int .u8 0, .int .u8 0, .int .u8 0]] w fun e w' => e = .returned (.agg #[.int .i64 1, .int .i64 2, .int .i64 1, .int .i64 1, .int .i64 2]) ∧ Upd (fun _ => False) w w' := by
  go_enter Tryz.func27, Tryz.ntmps27
  go_wp2_with fail
  exact bodyPost_ret (res_cell1 rfl _ _ (w.heap.size + 1) [.int .i64 1, .int .i64 2, .int .i64 1, .int .i64 1, .int .i64 2] 23 _ rfl (Blk.made' w _ _ _) Tryz.underlying23 rfl (by kernel_rfl)) rfl ⟨rfl, ((Upd.refl _ w).alloc _).alloc _⟩
theorem numbers18_zero (w : World) (n : Nat) (hn : n < 256) : Calls Tryz.prog 14 #[.int .u8 (n : Int), .int .u8 0, .int .u8 0, .agg #[.int .u8 0, .int .u8 0, .int .u8 0, .int .u8 0, .int .u8 0]] w fun e w' => e = .returned (.agg #[.int .i64 (1 + (n : Int)), .int .i64 1, .int .i64 8, .int .i64 1, .int .i64 2, .int .i64 1, .int .i64 1, .int .i64 2]) ∧ Upd (fun _ => False) w w' := by
  have hu := ((Upd.refl (fun _ => False) w).alloc (.cells #[.int .u8 0, .int .u8 0, .int .u8 0, .int .u8 0, .int .u8 0] 40)).alloc (.cells #[.int .i64 0, .int .i64 0, .int .i64 0, .int .i64 0, .int .i64 0, .int .i64 0, .int .i64 0, .int .i64 0] 25)
  have hb := (Blk.made w [.int .u8 0, .int .u8 0, .int .u8 0, .int .u8 0, .int .u8 0] 40).alloc (.cells #[.int .i64 0, .int .i64 0, .int .i64 0, .int .i64 0, .int .i64 0, .int .i64 0, .int .i64 0, .int .i64 0] 25)
  have hr := Blk.made' w (.cells #[.int .u8 0, .int .u8 0, .int .u8 0, .int .u8 0, .int .u8 0] 40) [.int .i64 0, .int .i64 0, .int .i64 0, .int .i64 0, .int .i64 0, .int .i64 0, .int .i64 0, .int .i64 0] 25
  have HU := Lib.hid hu
  have HB := Lib.hid hb
  have HR := Lib.hid hr
  have HN := Lib.hid (fun (V : World) => numbers15_zero V)
  have s1 : IntKind.i64.wrap (n : Int) = (n : Int) := IntWalk.i64_in _ (by omega)
  have s2 : IntKind.i64.wrap (1 + (n : Int)) = 1 + (n : Int) := IntWalk.i64_in _ (by omega)
  clear hu hb hr
  go_enter Tryz.func14, Tryz.ntmps14
  go_upto_region 1 with (fail)
  generalize (w.alloc (.cells #[.int .u8 0, .int .u8 0, .int .u8 0, .int .u8 0, .int .u8 0] 40)).alloc (.cells #[.int .i64 0, .int .i64 0, .int .i64 0, .int .i64 0, .int .i64 0, .int .i64 0, .int .i64 0, .int .i64 0] 25) = w1 at *
  have b0 := HB.out.cell 0 rfl
  have b1 := HB.out.cell 1 rfl
  have b2 := HB.out.cell 2 rfl
  have b3 := HB.out.cell 3 rfl
  have b4 := HB.out.cell 4 rfl
  go_wp2_with fail
  refine (HN.out _).mono ?_
  rintro e w2 ⟨rfl, hu2⟩
  have HU2 := Lib.hid (HU.out.trans hu2)
  have hr2 := HR.out.upd hu2 (fun h => h)
  have HR2 := Lib.hid hr2
  clear hu2 b0 b1 b2 b3 b4
  have f0 := hr2.frozen 0
  have f1 := hr2.frozen 1
  have f2 := hr2.frozen 2
  have f3 := hr2.frozen 3
  have f4 := hr2.frozen 4
  have f5 := hr2.frozen 5
  have f6 := hr2.frozen 6
  have f7 := hr2.frozen 7
  have c0 := hr2.cell 0 rfl
  have c1 := hr2.cell 1 rfl
  have c2 := hr2.cell 2 rfl
  have c3 := hr2.cell 3 rfl
  have c4 := hr2.cell 4 rfl
  have c5 := hr2.cell 5 rfl
  have c6 := hr2.cell 6 rfl
  have c7 := hr2.cell 7 rfl
  have rl := hr2.lt
  clear hr2
  go_wp2_with fail
  exact bodyPost_ret (res_cell1 rfl _ _ (w.heap.size + 1) [.int .i64 (1 + (n : Int)), .int .i64 1, .int .i64 8, .int .i64 1, .int .i64 2, .int .i64 1, .int .i64 1, .int .i64 2] 25 _ rfl
    ((((((((HR2.out.set 0 (.int .i64 (1 + (n : Int)))).set 1 (.int .i64 1)).set 2 (.int .i64 8)).set 3 (.int .i64 1)).set 4 (.int .i64 2)).set 5 (.int .i64 1)).set 6 (.int .i64 1)).set 7 (.int .i64 2)) Tryz.underlying25 rfl (by kernel_rfl)) rfl
    ⟨rfl, (((((((HU2.out.setCell (p := ⟨w.heap.size + 1, 0, none⟩) _ (fun h => by have h' : w.heap.size + 1 < w.heap.size := h; omega)).setCell (p := ⟨w.heap.size + 1, 1, none⟩) _ (fun h => by have h' : w.heap.size + 1 < w.heap.size := h; omega)).setCell (p := ⟨w.heap.size + 1, 2, none⟩) _ (fun h => by have h' : w.heap.size + 1 < w.heap.size := h; omega)).setCell (p := ⟨w.heap.size + 1, 3, none⟩) _ (fun h => by have h' : w.heap.size + 1 < w.heap.size := h; omega)).setCell (p := ⟨w.heap.size + 1, 4, none⟩) _ (fun h => by have h' : w.heap.size + 1 < w.heap.size := h; omega)).setCell (p := ⟨w.heap.size + 1, 5, none⟩) _ (fun h => by have h' : w.heap.size + 1 < w.heap.size := h; omega)).setCell (p := ⟨w.heap.size + 1, 6, none⟩) _ (fun h => by have h' : w.heap.size + 1 < w.heap.size := h; omega)).setCell (p := ⟨w.heap.size + 1, 7, none⟩) _ (fun h => by have h' : w.heap.size + 1 < w.heap.size := h; omega)⟩
theorem SysNew.quiet {w w' w2 : World} {s h hwb hsb a bb r rc rwb sz t : Nat} {b n m c p g : Int} (N : SysNew w w' s h hwb hsb a bb r rc rwb sz t b n m c p g) (u : Upd (fun _ => False) w' w2) : SysNew w w2 s h hwb hsb a bb r rc rwb sz t b n m c p g :=
  ⟨N.str.upd u (fun h => h), N.heap.quiet u, N.alc.upd u (fun h => h), N.buf.upd u (fun h => h), N.rts.upd u (fun h => h), N.nxt.quiet u, N.apart, N.lows, N.mids, N.tops, N.upd.trans u⟩
/-- What keeper.New answers, of no schedule. -/
def KeepAns (w : World) (sz t b n m c p g : Int) (e : Ending) (w' : World) : Prop :=
  if sysB sz t n m c then ∃ (k s h hwb hsb a bb r rc rwb sz' t' d : Nat) (q : Option Addr), sz = (sz' : Int) ∧ t = (t' : Int) ∧ e = .returned (.tuple #[.pointer (some ⟨k, 0, none⟩), .int .i64 0]) ∧ SysNew w w' s h hwb hsb a bb r rc rwb sz' t' b n m c p g ∧ s < k ∧ rc < k ∧ rwb < k ∧ r < k ∧ Blk w' k (.pointer (some ⟨s, 0, none⟩) :: (cfg sz t b n m c p g ++ [.slice q 0 d])) 50
  else e = .returned (.tuple #[.pointer none, .int .i64 1]) ∧ Upd (fun _ => False) w w'
theorem KeepAns.no {w w' : World} {sz t b n m c p g : Int} (h : sysB sz t n m c = false) (u : Upd (fun _ => False) w w') : KeepAns w sz t b n m c p g (.returned (.tuple #[.pointer none, .int .i64 1])) w' := by
  unfold KeepAns
  rw [if_neg (by rw [h]; decide)]
  exact ⟨rfl, u⟩
theorem SysNew.from {w0 w w' : World} {s h hwb hsb a bb r rc rwb sz t : Nat} {b n m c p g : Int} (u : Upd (fun _ => False) w0 w) (N : SysNew w w' s h hwb hsb a bb r rc rwb sz t b n m c p g) : SysNew w0 w' s h hwb hsb a bb r rc rwb sz t b n m c p g :=
  ⟨N.str, N.heap, N.alc, N.buf, N.rts, N.nxt, N.apart, ⟨Nat.le_trans u.size N.lows.1, Nat.le_trans u.size N.lows.2.1, Nat.le_trans u.size N.lows.2.2⟩, N.mids, N.tops, u.trans N.upd⟩
set_option maxRecDepth 20000 in
set_option maxHeartbeats 8000000 in
theorem keeper_new (w : World) (sz t b n m c p g : Int) :
    Calls Tryz.prog 6 #[.agg #[.int .i64 sz, .int .i64 t, .int .i64 b, .int .i64 n, .int .i64 m, .int .i64 c, .int .i64 p, .int .i64 g], .slice none 0 0] w (KeepAns w sz t b n m c p g) := by
  have hu0 := (Upd.refl (fun _ => False) w).alloc (.cells #[.int .i64 sz, .int .i64 t, .int .i64 b, .int .i64 n, .int .i64 m, .int .i64 c, .int .i64 p, .int .i64 g] 25)
  have hb0 : Blk (w.alloc (.cells #[.int .i64 sz, .int .i64 t, .int .i64 b, .int .i64 n, .int .i64 m, .int .i64 c, .int .i64 p, .int .i64 g] 25)) w.heap.size (cfg sz t b n m c p g) 25 := Blk.made w (cfg sz t b n m c p g) _
  have b0 : (w.alloc (.cells #[.int .i64 sz, .int .i64 t, .int .i64 b, .int .i64 n, .int .i64 m, .int .i64 c, .int .i64 p, .int .i64 g] 25)).cell? ⟨w.heap.size, 0, none⟩ = some (.int .i64 sz) := hb0.cell 0 rfl
  have HSy := Lib.hid (fun (V : World) => system_new V sz t b n m c p g)
  have HB0 := Lib.hid hb0
  have HU0 := Lib.hid hu0
  clear hb0 hu0 b0
  go_enter Tryz.func6, Tryz.ntmps6
  go_upto_region 1 with (fail)
  generalize w.alloc (.cells #[.int .i64 sz, .int .i64 t, .int .i64 b, .int .i64 n, .int .i64 m, .int .i64 c, .int .i64 p, .int .i64 g] 25) = w1 at *
  have b0 := HB0.out.cell 0 rfl
  have b1 := HB0.out.cell 1 rfl
  have b2 := HB0.out.cell 2 rfl
  have b3 := HB0.out.cell 3 rfl
  have b4 := HB0.out.cell 4 rfl
  have b5 := HB0.out.cell 5 rfl
  have b6 := HB0.out.cell 6 rfl
  have b7 := HB0.out.cell 7 rfl
  go_wp2_with fail
  refine (HSy.out _).mono ?_
  rintro e w2 hans
  clear b0 b1 b2 b3 b4 b5 b6 b7
  cases hy : sysB sz t n m c with
  | false =>
    unfold SysAns at hans
    rw [if_neg (by rw [hy]; decide)] at hans
    obtain ⟨rfl, hu2⟩ := hans
    have HY := Lib.hid hy
    have HU2 := Lib.hid (HU0.out.trans hu2)
    clear hy hu2
    go_wp2_with fail
    go_ret2
    exact KeepAns.no HY.out HU2.out
  | true =>
    unfold SysAns at hans
    rw [if_pos hy] at hans
    obtain ⟨s, h, hwb, hsb, a, bb, r, rc, rwb, sz', t', rfl, rfl, rfl, hN⟩ := hans
    have HN := Lib.hid hN
    have HY := Lib.hid hy
    have hb2 := HB0.out.upd hN.upd (fun h => h)
    have l1 := hN.str.lt
    have l2 := hN.nxt.str.lt
    have l3 := hN.nxt.wds.lt
    have l4 := hN.rts.lt
    clear hy hN
    have k0 : w2.cell? ⟨w.heap.size, 0, none⟩ = some (.int .i64 (sz' : Int)) := hb2.cell 0 rfl
    have k1 : w2.cell? ⟨w.heap.size, 1, none⟩ = some (.int .i64 (t' : Int)) := hb2.cell 1 rfl
    have k2 : w2.cell? ⟨w.heap.size, 2, none⟩ = some (.int .i64 b) := hb2.cell 2 rfl
    have k3 : w2.cell? ⟨w.heap.size, 3, none⟩ = some (.int .i64 n) := hb2.cell 3 rfl
    have k4 : w2.cell? ⟨w.heap.size, 4, none⟩ = some (.int .i64 m) := hb2.cell 4 rfl
    have k5 : w2.cell? ⟨w.heap.size, 5, none⟩ = some (.int .i64 c) := hb2.cell 5 rfl
    have k6 : w2.cell? ⟨w.heap.size, 6, none⟩ = some (.int .i64 p) := hb2.cell 6 rfl
    have k7 : w2.cell? ⟨w.heap.size, 7, none⟩ = some (.int .i64 g) := hb2.cell 7 rfl
    have hk : ∀ (V : World), Upd (fun _ => False) w2 V → V.cell? ⟨w.heap.size, 0, none⟩ = some (.int .i64 (sz' : Int)) ∧ V.cell? ⟨w.heap.size, 1, none⟩ = some (.int .i64 (t' : Int)) ∧ V.cell? ⟨w.heap.size, 2, none⟩ = some (.int .i64 b) ∧ V.cell? ⟨w.heap.size, 3, none⟩ = some (.int .i64 n) ∧ V.cell? ⟨w.heap.size, 4, none⟩ = some (.int .i64 m) ∧ V.cell? ⟨w.heap.size, 5, none⟩ = some (.int .i64 c) ∧ V.cell? ⟨w.heap.size, 6, none⟩ = some (.int .i64 p) ∧ V.cell? ⟨w.heap.size, 7, none⟩ = some (.int .i64 g) :=
      fun V hV => ⟨keepC hV k0, keepC hV k1, keepC hV k2, keepC hV k3, keepC hV k4, keepC hV k5, keepC hV k6, keepC hV k7⟩
    have HK := Lib.hid hk
    clear hk hb2
    go_wp2_with fail
    refine wp_region_held_drew (S := (fun V => V.cell? ⟨w.heap.size, 0, none⟩ = some (.int .i64 (sz' : Int)) ∧ V.cell? ⟨w.heap.size, 1, none⟩ = some (.int .i64 (t' : Int)) ∧ V.cell? ⟨w.heap.size, 2, none⟩ = some (.int .i64 b) ∧ V.cell? ⟨w.heap.size, 3, none⟩ = some (.int .i64 n) ∧ V.cell? ⟨w.heap.size, 4, none⟩ = some (.int .i64 m) ∧ V.cell? ⟨w.heap.size, 5, none⟩ = some (.int .i64 c) ∧ V.cell? ⟨w.heap.size, 6, none⟩ = some (.int .i64 p) ∧ V.cell? ⟨w.heap.size, 7, none⟩ = some (.int .i64 g))) (by kernel_rfl) ⟨k0, k1, k2, k3, k4, k5, k6, k7⟩ (fun hHeld => ?_)
    simp only [List.size_toArray, List.length_cons, List.length_nil, Nat.reduceAdd]
    refine take_any (i := 0) (v := ?_) (by rfl) (by kernel_rfl) (by exact (fun _ _ _ h => h)) (by rfl) hHeld ?_ ?_
    rotate_left
    · ((intro V hV; obtain ⟨hV0, hV1, hV2, hV3, hV4, hV5, hV6, hV7⟩ := hV; go_simp) <;> (with_reducible rfl))
    try simp only [Act.put, List.getElem?_toArray, List.getElem?_cons_succ, List.getElem?_cons_zero, List.getElem_toArray, List.getElem_cons_succ, List.getElem_cons_zero, List.setIfInBounds_toArray, List.set_cons_zero, List.set_cons_succ]
    refine take_any (i := 1) (v := ?_) (by rfl) (by kernel_rfl) (by exact (fun _ _ _ h => h)) (by rfl) hHeld ?_ ?_
    rotate_left
    · ((intro V hV; obtain ⟨hV0, hV1, hV2, hV3, hV4, hV5, hV6, hV7⟩ := hV; go_simp) <;> (with_reducible rfl))
    try simp only [Act.put, List.getElem?_toArray, List.getElem?_cons_succ, List.getElem?_cons_zero, List.getElem_toArray, List.getElem_cons_succ, List.getElem_cons_zero, List.setIfInBounds_toArray, List.set_cons_zero, List.set_cons_succ]
    refine take_any (i := 2) (v := ?_) (by rfl) (by kernel_rfl) (by exact (fun _ _ _ h => h)) (by rfl) hHeld ?_ ?_
    rotate_left
    · ((intro V hV; obtain ⟨hV0, hV1, hV2, hV3, hV4, hV5, hV6, hV7⟩ := hV; go_simp) <;> (with_reducible rfl))
    try simp only [Act.put, List.getElem?_toArray, List.getElem?_cons_succ, List.getElem?_cons_zero, List.getElem_toArray, List.getElem_cons_succ, List.getElem_cons_zero, List.setIfInBounds_toArray, List.set_cons_zero, List.set_cons_succ]
    refine next_last (i := 3) (by rfl) (by kernel_rfl) (fun KK hK => ?_)
    go_simp
    refine (clone_any w2.drew none 0 [] (fun j u hu => by cases hu) (fun _ => rfl) (by simp)).mono ?_
    rintro y V ⟨⟨q, d, rfl, _⟩, hu3⟩
    have HU3 := Lib.hid ((Upd.refl (fun _ => False) w2).drew.trans hu3)
    have hs3 := HU3.out.size
    clear hu3
    refine hK.out _ _ (HK.out _ HU3.out) (fun hHeld => ?_)
    clear hK KK
    try simp only [Act.put, List.getElem?_toArray, List.getElem?_cons_succ, List.getElem?_cons_zero, List.getElem_toArray, List.getElem_cons_succ, List.getElem_cons_zero, List.setIfInBounds_toArray, List.set_cons_zero, List.set_cons_succ]
    refine take_any (i := 4) (v := ?_) (by rfl) (by kernel_rfl) (by exact (fun _ _ _ h => h)) (by rfl) hHeld ?_ ?_
    rotate_left
    · ((intro V hV; obtain ⟨hV0, hV1, hV2, hV3, hV4, hV5, hV6, hV7⟩ := hV; go_simp) <;> (with_reducible rfl))
    try simp only [Act.put, List.getElem?_toArray, List.getElem?_cons_succ, List.getElem?_cons_zero, List.getElem_toArray, List.getElem_cons_succ, List.getElem_cons_zero, List.setIfInBounds_toArray, List.set_cons_zero, List.set_cons_succ]
    refine next_last (i := 5) (by rfl) (by kernel_rfl) (fun KK hK => ?_)
    go_simp
    refine hK.out _ _ (HK.out _ (HU3.out.alloc _)) (fun hHeld => ?_)
    clear hK KK
    try simp only [Act.put, List.getElem?_toArray, List.getElem?_cons_succ, List.getElem?_cons_zero, List.getElem_toArray, List.getElem_cons_succ, List.getElem_cons_zero, List.setIfInBounds_toArray, List.set_cons_zero, List.set_cons_succ]
    refine take_any (i := 6) (v := ?_) (by rfl) (by kernel_rfl) (by exact (fun _ _ _ h => h)) (by rfl) hHeld ?_ ?_
    rotate_left
    · ((intro V hV; obtain ⟨hV0, hV1, hV2, hV3, hV4, hV5, hV6, hV7⟩ := hV; go_simp) <;> (with_reducible rfl))
    try simp only [Act.put, List.getElem?_toArray, List.getElem?_cons_succ, List.getElem?_cons_zero, List.getElem_toArray, List.getElem_cons_succ, List.getElem_cons_zero, List.setIfInBounds_toArray, List.set_cons_zero, List.set_cons_succ]
    refine take_any (i := 7) (v := ?_) (by rfl) (by kernel_rfl) (by exact (fun _ _ _ h => h)) (by rfl) hHeld ?_ ?_
    rotate_left
    · ((intro V hV; obtain ⟨hV0, hV1, hV2, hV3, hV4, hV5, hV6, hV7⟩ := hV; go_simp) <;> (with_reducible rfl))
    try simp only [Act.put, List.getElem?_toArray, List.getElem?_cons_succ, List.getElem?_cons_zero, List.getElem_toArray, List.getElem_cons_succ, List.getElem_cons_zero, List.setIfInBounds_toArray, List.set_cons_zero, List.set_cons_succ]
    refine wpAnyH_done (by kernel_rfl) ?_ _
    go_wp2_with fail
    go_ret2
    unfold KeepAns
    rw [if_pos HY.out]
    exact ⟨V.heap.size, s, h, hwb, hsb, a, bb, r, rc, rwb, sz', t', d, q, rfl, rfl, rfl, (HN.out.quiet (HU3.out.alloc _)).from HU0.out, by omega, by omega, by omega, by omega, Blk.made V (.pointer (some ⟨s, 0, none⟩) :: (cfg sz' t' b n m c p g ++ [.slice q 0 d])) _⟩
end Go.Proofs.YtapjajclmbpjmaaGreatDoor.Sys
