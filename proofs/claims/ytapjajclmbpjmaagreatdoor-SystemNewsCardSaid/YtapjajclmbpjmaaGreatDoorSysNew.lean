/- alloc.New and system.New. -/
import Derived.Test.YtapjajclmbpjmaaGreatDoorPhaseNew
set_option linter.unusedSimpArgs false
namespace Go.Proofs.YtapjajclmbpjmaaGreatDoor.Sys
open Go.RowKit Go.Proofs.YtapjajclmbpjmaaGreatDoor.Mem Go.Proofs.YtapjajclmbpjmaaGreatDoor.Heap Go.Proofs.YtapjajclmbpjmaaGreatDoor.Obj

attribute [local go_sem] max2_int max_two min2_int min_two
/-- A buffer's size. -/
def bufOf (x : Int) : Int := min (max x 8) 4096
theorem alloc_no (w : World) (hp : Option Addr) (n b : Int) (h : n < 1 ∨ 64 < n) :
    Calls Tryz.prog 18 #[.pointer hp, .int .i64 n, .int .i64 b] w fun e w' => e = .returned (.tuple #[.pointer none, .int .i64 1]) ∧ w' = w := by
  by_cases h0 : n < 1
  · have d0 : decide (n < 1) = true := decide_eq_true h0
    go_enter Tryz.func18, Tryz.ntmps18
    go_wp2
    go_ret2
    exact ⟨rfl, rfl⟩
  · have d0 : decide (n < 1) = false := decide_eq_false h0
    have d1 : decide (64 < n) = true := decide_eq_true (by omega)
    clear h
    go_enter Tryz.func18, Tryz.ntmps18
    go_wp2
    go_ret2
    exact ⟨rfl, rfl⟩
/-- What alloc.New answers. -/
def NewAlloc (w : World) (hp : Option Addr) (n : Nat) (b : Int) (e : Ending) (w' : World) : Prop :=
  ∃ a bb, e = .returned (.tuple #[.pointer (some ⟨a, 0, none⟩), .int .i64 0]) ∧ Blk w' a [.pointer hp, .slice (some ⟨bb, 0, none⟩) n n, .int .i64 (bufOf b)] 73 ∧ Blk w' bb (ints (List.replicate n (-1))) 3 ∧ a ≠ bb ∧ w.heap.size ≤ a ∧ w.heap.size ≤ bb ∧ Upd (fun _ => False) w w'
theorem alloc_yes (w : World) (hp : Option Addr) (n : Nat) (b : Int) (h1 : 1 ≤ n) (h2 : n ≤ 64) :
    Calls Tryz.prog 18 #[.pointer hp, .int .i64 (n : Int), .int .i64 b] w (NewAlloc w hp n b) := by
  have d0 : decide ((n : Int) < 1) = false := decide_eq_false (by omega)
  have d0' : decide (n < 1) = false := decide_eq_false (by omega)
  have d1 : decide (64 < (n : Int)) = false := decide_eq_false (by omega)
  have d1' : decide (64 < n) = false := decide_eq_false (by omega)
  have hu0 := (Upd.refl (fun _ => False) w).alloc (.cells #[.int .i64 (-1)] 3)
  have HR := Lib.hid (repeat_one n w.heap.size (w.alloc (.cells #[.int .i64 (-1)] 3)) h1 h2 (Blk.made w [.int .i64 (-1)] 3))
  have HU0 := Lib.hid hu0
  clear hu0
  go_enter Tryz.func18, Tryz.ntmps18
  go_wp2_with fail
  refine (HR.out).mono ?_
  rintro e w1 ⟨nb, rfl, hb, hl, hu1⟩
  have HU1 := Lib.hid (HU0.out.trans hu1)
  have HB := Lib.hid hb
  have hbl := hb.lt
  rw [World.size_alloc] at hl
  have hs1 := HU1.out.size
  clear hb hu1
  go_wp2_with fail
  go_ret2
  exact ⟨w1.heap.size, nb, rfl, Blk.made w1 _ _, HB.out.alloc _, by omega, by omega, by omega, HU1.out.alloc _⟩

/-- May a system's numbers be? -/
def sysB (sz t n m c : Int) : Bool := decide (1 ≤ sz ∧ sz ≤ 65536 ∧ 1 ≤ t ∧ t ≤ 64) && fitsB n m c
/-- A system's numbers, as cells. -/
def cfg (sz t b n m c p g : Int) : List Value := [.int .i64 sz, .int .i64 t, .int .i64 b, .int .i64 n, .int .i64 m, .int .i64 c, .int .i64 p, .int .i64 g]
/-- A new system's cells. -/
def sysCells (sz t b n m c p g : Int) (h r a : Nat) : List Value := [.int .i64 sz, .int .i64 t, .int .i64 b, .int .i64 n, .int .i64 m, .int .i64 c, .int .i64 p, .int .i64 g, .pointer (some ⟨h, 0, none⟩), .pointer (some ⟨r, 0, none⟩), .pointer (some ⟨a, 0, none⟩), .pointer none, .bool false, .int .i64 0]
/-- A new system. -/
structure SysNew (w w' : World) (s h hwb hsb a bb r rc rwb sz t : Nat) (b n m c p g : Int) : Prop where
  str : Blk w' s (sysCells sz t b n m c p g h r a) 63
  heap : HeapAt w' h hwb hsb sz [] (List.replicate sz 0)
  alc : Blk w' a [.pointer (some ⟨h, 0, none⟩), .slice (some ⟨bb, 0, none⟩) t t, .int .i64 (bufOf b)] 73
  buf : Blk w' bb (ints (List.replicate t (-1))) 3
  rts : Blk w' r [.slice none 0 0, .pointer (some ⟨rc, 0, none⟩), .int .i64 (partOf p)] 86
  nxt : CellsAt w' rc rwb [0]
  apart : a ≠ bb ∧ r ≠ rc ∧ r ≠ rwb ∧ s ≠ r ∧ s ≠ rc ∧ s ≠ rwb
  lows : w.heap.size ≤ h ∧ w.heap.size ≤ hwb ∧ w.heap.size ≤ hsb
  mids : h < a ∧ hwb < a ∧ hsb < a ∧ h < bb ∧ hwb < bb ∧ hsb < bb
  tops : a < r ∧ bb < r ∧ a < rc ∧ bb < rc ∧ a < rwb ∧ bb < rwb ∧ a < s ∧ bb < s
  upd : Upd (fun _ => False) w w'
def SysAns (w : World) (sz t b n m c p g : Int) (e : Ending) (w' : World) : Prop :=
  if sysB sz t n m c then ∃ (s h hwb hsb a bb r rc rwb sz' t' : Nat), sz = (sz' : Int) ∧ t = (t' : Int) ∧ e = .returned (.tuple #[.pointer (some ⟨s, 0, none⟩), .int .i64 0]) ∧ SysNew w w' s h hwb hsb a bb r rc rwb sz' t' b n m c p g
  else e = .returned (.tuple #[.pointer none, .int .i64 1]) ∧ Upd (fun _ => False) w w'
theorem SysAns.no {w w' : World} {sz t b n m c p g : Int} (h : sysB sz t n m c = false) (u : Upd (fun _ => False) w w') : SysAns w sz t b n m c p g (.returned (.tuple #[.pointer none, .int .i64 1])) w' := by
  unfold SysAns
  rw [if_neg (by rw [h]; decide)]
  exact ⟨rfl, u⟩
set_option maxRecDepth 20000 in
set_option maxHeartbeats 8000000 in
theorem system_new (w : World) (sz t b n m c p g : Int) :
    Calls Tryz.prog 7 #[.agg #[.int .i64 sz, .int .i64 t, .int .i64 b, .int .i64 n, .int .i64 m, .int .i64 c, .int .i64 p, .int .i64 g]] w (SysAns w sz t b n m c p g) := by
  have hu0 := (Upd.refl (fun _ => False) w).alloc (.cells #[.int .i64 sz, .int .i64 t, .int .i64 b, .int .i64 n, .int .i64 m, .int .i64 c, .int .i64 p, .int .i64 g] 25)
  have hb0 : Blk (w.alloc (.cells #[.int .i64 sz, .int .i64 t, .int .i64 b, .int .i64 n, .int .i64 m, .int .i64 c, .int .i64 p, .int .i64 g] 25)) w.heap.size (cfg sz t b n m c p g) 25 := Blk.made w (cfg sz t b n m c p g) _
  have b0 := hb0.cell 0 rfl
  have bl := hb0.lt
  have HB0 := Lib.hid hb0
  have HU0 := Lib.hid hu0
  clear hb0 hu0
  by_cases hsz : 1 ≤ sz ∧ sz ≤ 65536
  · obtain ⟨sz', rfl⟩ : ∃ k : Nat, sz = (k : Int) := ⟨sz.toNat, by omega⟩
    have HHn := Lib.hid (fun (V : World) => Heap.new_yes sz' V (by omega) (by omega))
    go_enter Tryz.func7, Tryz.ntmps7
    go_wp2_with fail
    refine (HHn.out _).mono ?_
    rintro e w1 ⟨h, hwb, hsb, rfl, hH, g1, g2, g3, hu1⟩
    have HU1 := Lib.hid (HU0.out.trans hu1)
    have hb1 := HB0.out.upd hu1 (fun h => h)
    have HB1 := Lib.hid hb1
    have l1 := hH.str.lt
    have l2 := hH.wds.lt
    have l3 := hH.sts.lt
    have HH := Lib.hid hH
    rw [World.size_alloc] at g1 g2 g3
    clear b0 bl hu1 hH
    have b1 := hb1.cell 1 rfl
    have b2 := hb1.cell 2 rfl
    have bl := hb1.lt
    clear hb1
    by_cases ht : 1 ≤ t ∧ t ≤ 64
    · obtain ⟨t', rfl⟩ : ∃ k : Nat, t = (k : Int) := ⟨t.toNat, by omega⟩
      have HAl := Lib.hid (alloc_yes w1 (some ⟨h, 0, none⟩) t' b (by omega) (by omega))
      go_wp2_with fail
      refine (HAl.out).mono ?_
      rintro e w2 ⟨a, bb, rfl, ha, hbb, hab, k1, k2, hu2⟩
      have HU2 := Lib.hid (HU1.out.trans hu2)
      have hb2 := HB1.out.upd hu2 (fun h => h)
      have HB2 := Lib.hid hb2
      have HH2 := Lib.hid (HH.out.quiet hu2)
      have HA := Lib.hid ha
      have HBB := Lib.hid hbb
      have l4 := ha.lt
      have l5 := hbb.lt
      clear b1 b2 bl hu2 ha hbb HAl
      have b3 := hb2.cell 3 rfl
      have b4 := hb2.cell 4 rfl
      have b5 := hb2.cell 5 rfl
      have b6 := hb2.cell 6 rfl
      have b7 := hb2.cell 7 rfl
      have bl := hb2.lt
      clear hb2
      have HPh := Lib.hid (phase_empty w2 h hwb hsb sz' HH2.out n m c p g)
      go_wp2_with fail
      refine (HPh.out).mono ?_
      rintro e w3 ⟨⟨x, rfl, hx⟩, hu3⟩
      have HU3 := Lib.hid (HU2.out.trans hu3)
      have HU23 := Lib.hid hu3
      have hb3 := HB2.out.upd hu3 (fun h => h)
      have HB3 := Lib.hid hb3
      clear b3 b4 b5 b6 b7 bl hu3 HPh
      cases hf : fitsB n m c with
      | false =>
        have HNo := Lib.hid (show sysB (sz' : Int) (t' : Int) n m c = false by unfold sysB; rw [hf, Bool.and_false])
        clear hx
        rw [hf] at *
        go_wp2_with fail
        go_ret2
        exact SysAns.no HNo.out HU3.out
      | true =>
        have HYes := Lib.hid (show sysB (sz' : Int) (t' : Int) n m c = true by unfold sysB; rw [hf, Bool.and_true]; exact decide_eq_true (by omega))
        clear hx
        have hb3 := HB3.out
        have k0 : w3.cell? ⟨w.heap.size, 0, none⟩ = some (.int .i64 (sz' : Int)) := hb3.cell 0 rfl
        have k1' : w3.cell? ⟨w.heap.size, 1, none⟩ = some (.int .i64 (t' : Int)) := hb3.cell 1 rfl
        have k2' : w3.cell? ⟨w.heap.size, 2, none⟩ = some (.int .i64 b) := hb3.cell 2 rfl
        have k3 : w3.cell? ⟨w.heap.size, 3, none⟩ = some (.int .i64 n) := hb3.cell 3 rfl
        have k4 : w3.cell? ⟨w.heap.size, 4, none⟩ = some (.int .i64 m) := hb3.cell 4 rfl
        have k5 : w3.cell? ⟨w.heap.size, 5, none⟩ = some (.int .i64 c) := hb3.cell 5 rfl
        have k6 : w3.cell? ⟨w.heap.size, 6, none⟩ = some (.int .i64 p) := hb3.cell 6 rfl
        have k7 : w3.cell? ⟨w.heap.size, 7, none⟩ = some (.int .i64 g) := hb3.cell 7 rfl
        have hk : ∀ (V : World), Upd (fun _ => False) w3 V → V.cell? ⟨w.heap.size, 0, none⟩ = some (.int .i64 (sz' : Int)) ∧ V.cell? ⟨w.heap.size, 1, none⟩ = some (.int .i64 (t' : Int)) ∧ V.cell? ⟨w.heap.size, 2, none⟩ = some (.int .i64 b) ∧ V.cell? ⟨w.heap.size, 3, none⟩ = some (.int .i64 n) ∧ V.cell? ⟨w.heap.size, 4, none⟩ = some (.int .i64 m) ∧ V.cell? ⟨w.heap.size, 5, none⟩ = some (.int .i64 c) ∧ V.cell? ⟨w.heap.size, 6, none⟩ = some (.int .i64 p) ∧ V.cell? ⟨w.heap.size, 7, none⟩ = some (.int .i64 g) :=
          fun V hV => ⟨keepC hV k0, keepC hV k1', keepC hV k2', keepC hV k3, keepC hV k4, keepC hV k5, keepC hV k6, keepC hV k7⟩
        have HK := Lib.hid hk
        clear hk hb3
        go_wp2_with fail
        refine wp_region_held_drew (S := (fun V => V.cell? ⟨w.heap.size, 0, none⟩ = some (.int .i64 (sz' : Int)) ∧ V.cell? ⟨w.heap.size, 1, none⟩ = some (.int .i64 (t' : Int)) ∧ V.cell? ⟨w.heap.size, 2, none⟩ = some (.int .i64 b) ∧ V.cell? ⟨w.heap.size, 3, none⟩ = some (.int .i64 n) ∧ V.cell? ⟨w.heap.size, 4, none⟩ = some (.int .i64 m) ∧ V.cell? ⟨w.heap.size, 5, none⟩ = some (.int .i64 c) ∧ V.cell? ⟨w.heap.size, 6, none⟩ = some (.int .i64 p) ∧ V.cell? ⟨w.heap.size, 7, none⟩ = some (.int .i64 g))) (by kernel_rfl) ⟨k0, k1', k2', k3, k4, k5, k6, k7⟩ (fun hHeld => ?_)
        simp only [List.size_toArray, List.length_cons, List.length_nil, Nat.reduceAdd]
        refine take_any (i := 0) (v := ?_) (by rfl) (by kernel_rfl) (by exact (fun _ _ _ h => h)) (by rfl) hHeld ?_ ?_
        rotate_left
        · ((intro V hV; obtain ⟨hV0, hV1, hV2, hV3, hV4, hV5, hV6, hV7⟩ := hV; go_simp) <;> (with_reducible rfl))
        try simp only [Act.put, List.getElem?_toArray, List.getElem?_cons_succ, List.getElem?_cons_zero, List.getElem_toArray, List.getElem_cons_succ, List.getElem_cons_zero, List.setIfInBounds_toArray, List.set_cons_zero, List.set_cons_succ]
        refine take_any (i := 1) (v := ?_) (by rfl) (by kernel_rfl) (by exact (fun _ _ _ h => h)) (by rfl) hHeld ?_ ?_
        rotate_left
        · ((intro V hV; obtain ⟨hV0, hV1, hV2, hV3, hV4, hV5, hV6, hV7⟩ := hV; go_simp) <;> (with_reducible rfl))
        try simp only [Act.put, List.getElem?_toArray, List.getElem?_cons_succ, List.getElem?_cons_zero, List.getElem_toArray, List.getElem_cons_succ, List.getElem_cons_zero, List.setIfInBounds_toArray, List.set_cons_zero, List.set_cons_succ]
        refine take_any (i := 2) (v := ?_) (by rfl) (by kernel_rfl) (by exact (fun _ _ _ h => h)) (by rfl) hHeld ?_ ?_
        rotate_left
        · ((intro V hV; obtain ⟨hV0, hV1, hV2, hV3, hV4, hV5, hV6, hV7⟩ := hV; go_simp) <;> (with_reducible rfl))
        try simp only [Act.put, List.getElem?_toArray, List.getElem?_cons_succ, List.getElem?_cons_zero, List.getElem_toArray, List.getElem_cons_succ, List.getElem_cons_zero, List.setIfInBounds_toArray, List.set_cons_zero, List.set_cons_succ]
        refine take_any (i := 3) (v := ?_) (by rfl) (by kernel_rfl) (by exact (fun _ _ _ h => h)) (by rfl) hHeld ?_ ?_
        rotate_left
        · ((intro V hV; obtain ⟨hV0, hV1, hV2, hV3, hV4, hV5, hV6, hV7⟩ := hV; go_simp) <;> (with_reducible rfl))
        try simp only [Act.put, List.getElem?_toArray, List.getElem?_cons_succ, List.getElem?_cons_zero, List.getElem_toArray, List.getElem_cons_succ, List.getElem_cons_zero, List.setIfInBounds_toArray, List.set_cons_zero, List.set_cons_succ]
        refine take_any (i := 4) (v := ?_) (by rfl) (by kernel_rfl) (by exact (fun _ _ _ h => h)) (by rfl) hHeld ?_ ?_
        rotate_left
        · ((intro V hV; obtain ⟨hV0, hV1, hV2, hV3, hV4, hV5, hV6, hV7⟩ := hV; go_simp) <;> (with_reducible rfl))
        try simp only [Act.put, List.getElem?_toArray, List.getElem?_cons_succ, List.getElem?_cons_zero, List.getElem_toArray, List.getElem_cons_succ, List.getElem_cons_zero, List.setIfInBounds_toArray, List.set_cons_zero, List.set_cons_succ]
        refine take_any (i := 6) (v := ?_) (by rfl) (by kernel_rfl) (by exact (fun _ _ _ h => h)) (by rfl) hHeld ?_ ?_
        rotate_left
        · ((intro V hV; obtain ⟨hV0, hV1, hV2, hV3, hV4, hV5, hV6, hV7⟩ := hV; go_simp) <;> (with_reducible rfl))
        try simp only [Act.put, List.getElem?_toArray, List.getElem?_cons_succ, List.getElem?_cons_zero, List.getElem_toArray, List.getElem_cons_succ, List.getElem_cons_zero, List.setIfInBounds_toArray, List.set_cons_zero, List.set_cons_succ]
        refine next_last (i := 5) (by rfl) (by kernel_rfl) (fun KK hK => ?_)
        go_simp
        refine (roots_new p w3.drew).mono ?_
        rintro y V ⟨r, rc, rwb, rfl, hr, hrc, hn1, hn2, hl1, hl2, hl3, hu4⟩
        have HU4 := Lib.hid ((Upd.refl (fun _ => False) w3).drew.trans hu4)
        have HR := Lib.hid hr
        have HRc := Lib.hid hrc
        have l6 := hr.lt
        have l7 := hrc.str.lt
        have l8 := hrc.wds.lt
        have hs3 : w2.heap.size ≤ w3.heap.size := HU23.out.size
        have hl1' : w3.heap.size ≤ r := hl1
        have hl2' : w3.heap.size ≤ rc := hl2
        have hl3' : w3.heap.size ≤ rwb := hl3
        have hs4 : w3.heap.size ≤ V.heap.size := HU4.out.size
        clear hu4 hr hrc hl1 hl2 hl3
        refine hK.out _ _ (HK.out _ HU4.out) (fun hHeld => ?_)
        clear hK KK
        try simp only [Act.put, List.getElem?_toArray, List.getElem?_cons_succ, List.getElem?_cons_zero, List.getElem_toArray, List.getElem_cons_succ, List.getElem_cons_zero, List.setIfInBounds_toArray, List.set_cons_zero, List.set_cons_succ]
        refine take_any (i := 7) (v := ?_) (by rfl) (by kernel_rfl) (by exact (fun _ _ _ h => h)) (by rfl) hHeld ?_ ?_
        rotate_left
        · ((intro V hV; obtain ⟨hV0, hV1, hV2, hV3, hV4, hV5, hV6, hV7⟩ := hV; go_simp) <;> (with_reducible rfl))
        try simp only [Act.put, List.getElem?_toArray, List.getElem?_cons_succ, List.getElem?_cons_zero, List.getElem_toArray, List.getElem_cons_succ, List.getElem_cons_zero, List.setIfInBounds_toArray, List.set_cons_zero, List.set_cons_succ]
        refine next_last (i := 8) (by rfl) (by kernel_rfl) (fun KK hK => ?_)
        go_simp
        refine hK.out _ _ (HK.out _ (HU4.out.alloc _)) (fun hHeld => ?_)
        clear hK KK
        try simp only [Act.put, List.getElem?_toArray, List.getElem?_cons_succ, List.getElem?_cons_zero, List.getElem_toArray, List.getElem_cons_succ, List.getElem_cons_zero, List.setIfInBounds_toArray, List.set_cons_zero, List.set_cons_succ]
        refine take_any (i := 9) (v := ?_) (by rfl) (by kernel_rfl) (by exact (fun _ _ _ h => h)) (by rfl) hHeld ?_ ?_
        rotate_left
        · ((intro V hV; obtain ⟨hV0, hV1, hV2, hV3, hV4, hV5, hV6, hV7⟩ := hV; go_simp) <;> (with_reducible rfl))
        try simp only [Act.put, List.getElem?_toArray, List.getElem?_cons_succ, List.getElem?_cons_zero, List.getElem_toArray, List.getElem_cons_succ, List.getElem_cons_zero, List.setIfInBounds_toArray, List.set_cons_zero, List.set_cons_succ]
        refine take_any (i := 10) (v := ?_) (by rfl) (by kernel_rfl) (by exact (fun _ _ _ h => h)) (by rfl) hHeld ?_ ?_
        rotate_left
        · ((intro V hV; obtain ⟨hV0, hV1, hV2, hV3, hV4, hV5, hV6, hV7⟩ := hV; go_simp) <;> (with_reducible rfl))
        try simp only [Act.put, List.getElem?_toArray, List.getElem?_cons_succ, List.getElem?_cons_zero, List.getElem_toArray, List.getElem_cons_succ, List.getElem_cons_zero, List.setIfInBounds_toArray, List.set_cons_zero, List.set_cons_succ]
        refine wpAnyH_done (by kernel_rfl) ?_ _
        go_wp2_with fail
        go_ret2
        unfold SysAns
        rw [if_pos HYes.out]
        have hu5 := HU4.out.alloc (.cells (sysCells sz' t' b n m c p g h r a).toArray 63)
        have hu6 := HU23.out.trans hu5
        have huv := (Upd.refl (fun _ => False) V).alloc (.cells (sysCells sz' t' b n m c p g h r a).toArray 63)
        exact ⟨V.heap.size, h, hwb, hsb, a, bb, r, rc, rwb, sz', t', rfl, rfl, rfl, Blk.made V (sysCells sz' t' b n m c p g h r a) _, HH2.out.quiet hu6, HA.out.upd hu6 (fun h => h), HBB.out.upd hu6 (fun h => h), HR.out.alloc _, HRc.out.quiet huv,
          ⟨hab, hn1, hn2, by omega, by omega, by omega⟩, ⟨by omega, by omega, by omega⟩, ⟨by omega, by omega, by omega, by omega, by omega, by omega⟩, ⟨by omega, by omega, by omega, by omega, by omega, by omega, by omega, by omega⟩, HU3.out.trans hu5⟩
    · have HNo := Lib.hid (show sysB (sz' : Int) t n m c = false by unfold sysB; rw [decide_eq_false (by omega), Bool.false_and])
      have HAl := Lib.hid (alloc_no w1 (some ⟨h, 0, none⟩) t b (by omega))
      go_wp2_with fail
      refine (HAl.out).mono ?_
      rintro e w2 ⟨rfl, rfl⟩
      go_wp2_with fail
      go_ret2
      exact SysAns.no HNo.out HU1.out
  · have HNo := Lib.hid (show sysB sz t n m c = false by unfold sysB; rw [decide_eq_false (by omega), Bool.false_and])
    have HHn := Lib.hid (fun (V : World) => Heap.new_no sz V (by omega))
    go_enter Tryz.func7, Tryz.ntmps7
    go_wp2_with fail
    refine (HHn.out _).mono ?_
    rintro e w1 ⟨rfl, rfl⟩
    go_wp2_with fail
    go_ret2
    exact SysAns.no HNo.out HU0.out
end Go.Proofs.YtapjajclmbpjmaaGreatDoor.Sys
