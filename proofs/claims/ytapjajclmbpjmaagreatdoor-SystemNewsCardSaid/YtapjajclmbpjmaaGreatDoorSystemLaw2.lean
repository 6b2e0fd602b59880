/- The law SystemNews: the walk. -/
import Derived.Test.YtapjajclmbpjmaaGreatDoorSystemLaw
set_option linter.unusedSimpArgs false
namespace Go.Proofs.YtapjajclmbpjmaaGreatDoor.Sys
open Go.RowKit Go.Proofs.YtapjajclmbpjmaaGreatDoor.Mem Go.Proofs.YtapjajclmbpjmaaGreatDoor.Heap Go.Proofs.YtapjajclmbpjmaaGreatDoor.Obj

theorem sysB_iff {sz t n m c : Int} : sysB sz t n m c = true ↔ (1 ≤ sz ∧ sz ≤ 65536 ∧ 1 ≤ t ∧ t ≤ 64) ∧ (1 ≤ n ∧ n ≤ 64 ∧ 2 ≤ m ∧ m ≤ 1024 ∧ 1 ≤ c ∧ c ≤ 4095) := by
  unfold sysB fitsB
  rw [Bool.and_eq_true, decide_eq_true_iff, decide_eq_true_iff]
set_option maxRecDepth 20000 in
set_option maxHeartbeats 8000000 in
theorem systemNews_any (w : World) (T : Scr.Tabs w) (sz t b n m c p g : Int) :
    Calls Tryz.prog 4 #[.agg #[.int .i64 sz, .int .i64 t, .int .i64 b, .int .i64 n, .int .i64 m, .int .i64 c, .int .i64 p, .int .i64 g]] w fun e w' => e = .returned (.bool true) ∧ Upd (fun _ => False) w w' := by
  have hu0 := (Upd.refl (fun _ => False) w).alloc (.cells #[.int .i64 sz, .int .i64 t, .int .i64 b, .int .i64 n, .int .i64 m, .int .i64 c, .int .i64 p, .int .i64 g] 25)
  have hb0 : Blk (w.alloc (.cells #[.int .i64 sz, .int .i64 t, .int .i64 b, .int .i64 n, .int .i64 m, .int .i64 c, .int .i64 p, .int .i64 g] 25)) w.heap.size (cfg sz t b n m c p g) 25 := Blk.made w (cfg sz t b n m c p g) _
  have HAw := Lib.hid (fun (V : World) (hV : Upd (fun _ => False) w V) => awake18 V (T.quiet hV))
  have HS := Lib.hid (fun (V : World) => system_new V sz t b n m c p g)
  have HB0 := Lib.hid hb0
  have HU0 := Lib.hid hu0
  clear hb0 hu0 T
  go_enter Tryz.func4, Tryz.ntmps4
  go_upto_region 1 with (fail)
  generalize w.alloc (.cells #[.int .i64 sz, .int .i64 t, .int .i64 b, .int .i64 n, .int .i64 m, .int .i64 c, .int .i64 p, .int .i64 g] 25) = w1 at *
  go_wp2_with fail
  refine (HAw.out _ HU0.out).mono ?_
  rintro e w2 ⟨rfl, hu2⟩
  have HU2 := Lib.hid (HU0.out.trans hu2)
  have HB2 := Lib.hid (HB0.out.upd hu2 (fun h => h))
  clear hu2
  have b0 := HB2.out.cell 0 rfl
  have b1 := HB2.out.cell 1 rfl
  have b2 := HB2.out.cell 2 rfl
  have b3 := HB2.out.cell 3 rfl
  have b4 := HB2.out.cell 4 rfl
  have b5 := HB2.out.cell 5 rfl
  have b6 := HB2.out.cell 6 rfl
  have b7 := HB2.out.cell 7 rfl
  go_wp2_with fail
  refine (HS.out _).mono ?_
  rintro e w4 hans
  have HAns := Lib.hid hans
  clear b0 b1 b2 b3 b4 b5 b6 b7 hans
  by_cases h0 : 1 ≤ sz
  rotate_left
  · have d0 : decide ((1 : Int) ≤ sz) = false := decide_eq_false h0
    have hno : sysB sz t n m c = false := Bool.eq_false_iff.2 (fun h => by have := sysB_iff.1 h; omega)
    have hans := HAns.out
    unfold SysAns at hans
    rw [if_neg (by rw [hno]; decide)] at hans
    obtain ⟨rfl, hu4⟩ := hans
    have HU4 := Lib.hid (HU2.out.trans hu4)
    have HB4 := Lib.hid (HB2.out.upd hu4 (fun h => h))
    clear hno hu4 HAns
    have b0 := HB4.out.cell 0 rfl
    have b1 := HB4.out.cell 1 rfl
    have b2 := HB4.out.cell 2 rfl
    have b3 := HB4.out.cell 3 rfl
    have b4 := HB4.out.cell 4 rfl
    have b5 := HB4.out.cell 5 rfl
    have b6 := HB4.out.cell 6 rfl
    have b7 := HB4.out.cell 7 rfl
    go_upto_region 5 with (fail)
    have hx5 : Blk (w4.alloc (.cells #[.int .i64 n, .int .i64 m, .int .i64 c, .int .i64 p, .int .i64 g] 23)) w4.heap.size [.int .i64 n, .int .i64 m, .int .i64 c, .int .i64 p, .int .i64 g] 23 := Blk.made w4 _ _
    have HU5 := Lib.hid (HU4.out.alloc (.cells #[.int .i64 n, .int .i64 m, .int .i64 c, .int .i64 p, .int .i64 g] 23))
    have HB5 := Lib.hid (HB4.out.alloc (.cells #[.int .i64 n, .int .i64 m, .int .i64 c, .int .i64 p, .int .i64 g] 23))
    generalize w4.alloc (.cells #[.int .i64 n, .int .i64 m, .int .i64 c, .int .i64 p, .int .i64 g] 23) = w5 at *
    generalize w4.heap.size = xb at *
    clear b0 b1 b2 b3 b4 b5 b6 b7
    have b0 := HB5.out.cell 0 rfl
    have b1 := HB5.out.cell 1 rfl
    have b2 := HB5.out.cell 2 rfl
    have b3 := HB5.out.cell 3 rfl
    have b4 := HB5.out.cell 4 rfl
    have b5 := HB5.out.cell 5 rfl
    have b6 := HB5.out.cell 6 rfl
    have b7 := HB5.out.cell 7 rfl
    have x0 := hx5.cell 0 rfl
    have x1 := hx5.cell 1 rfl
    have x2 := hx5.cell 2 rfl
    go_wp2_with fail
    go_ret
    exact ⟨rfl, HU5.out⟩
  have d0 : decide ((1 : Int) ≤ sz) = true := decide_eq_true h0
  by_cases h1 : sz ≤ 65536
  rotate_left
  · have d1 : decide (sz ≤ (65536 : Int)) = false := decide_eq_false h1
    have hno : sysB sz t n m c = false := Bool.eq_false_iff.2 (fun h => by have := sysB_iff.1 h; omega)
    have hans := HAns.out
    unfold SysAns at hans
    rw [if_neg (by rw [hno]; decide)] at hans
    obtain ⟨rfl, hu4⟩ := hans
    have HU4 := Lib.hid (HU2.out.trans hu4)
    have HB4 := Lib.hid (HB2.out.upd hu4 (fun h => h))
    clear hno hu4 HAns
    have b0 := HB4.out.cell 0 rfl
    have b1 := HB4.out.cell 1 rfl
    have b2 := HB4.out.cell 2 rfl
    have b3 := HB4.out.cell 3 rfl
    have b4 := HB4.out.cell 4 rfl
    have b5 := HB4.out.cell 5 rfl
    have b6 := HB4.out.cell 6 rfl
    have b7 := HB4.out.cell 7 rfl
    go_upto_region 5 with (fail)
    have hx5 : Blk (w4.alloc (.cells #[.int .i64 n, .int .i64 m, .int .i64 c, .int .i64 p, .int .i64 g] 23)) w4.heap.size [.int .i64 n, .int .i64 m, .int .i64 c, .int .i64 p, .int .i64 g] 23 := Blk.made w4 _ _
    have HU5 := Lib.hid (HU4.out.alloc (.cells #[.int .i64 n, .int .i64 m, .int .i64 c, .int .i64 p, .int .i64 g] 23))
    have HB5 := Lib.hid (HB4.out.alloc (.cells #[.int .i64 n, .int .i64 m, .int .i64 c, .int .i64 p, .int .i64 g] 23))
    generalize w4.alloc (.cells #[.int .i64 n, .int .i64 m, .int .i64 c, .int .i64 p, .int .i64 g] 23) = w5 at *
    generalize w4.heap.size = xb at *
    clear b0 b1 b2 b3 b4 b5 b6 b7
    have b0 := HB5.out.cell 0 rfl
    have b1 := HB5.out.cell 1 rfl
    have b2 := HB5.out.cell 2 rfl
    have b3 := HB5.out.cell 3 rfl
    have b4 := HB5.out.cell 4 rfl
    have b5 := HB5.out.cell 5 rfl
    have b6 := HB5.out.cell 6 rfl
    have b7 := HB5.out.cell 7 rfl
    have x0 := hx5.cell 0 rfl
    have x1 := hx5.cell 1 rfl
    have x2 := hx5.cell 2 rfl
    go_wp2_with fail
    go_ret
    exact ⟨rfl, HU5.out⟩
  have d1 : decide (sz ≤ (65536 : Int)) = true := decide_eq_true h1
  by_cases h2 : 1 ≤ t
  rotate_left
  · have d2 : decide ((1 : Int) ≤ t) = false := decide_eq_false h2
    have hno : sysB sz t n m c = false := Bool.eq_false_iff.2 (fun h => by have := sysB_iff.1 h; omega)
    have hans := HAns.out
    unfold SysAns at hans
    rw [if_neg (by rw [hno]; decide)] at hans
    obtain ⟨rfl, hu4⟩ := hans
    have HU4 := Lib.hid (HU2.out.trans hu4)
    have HB4 := Lib.hid (HB2.out.upd hu4 (fun h => h))
    clear hno hu4 HAns
    have b0 := HB4.out.cell 0 rfl
    have b1 := HB4.out.cell 1 rfl
    have b2 := HB4.out.cell 2 rfl
    have b3 := HB4.out.cell 3 rfl
    have b4 := HB4.out.cell 4 rfl
    have b5 := HB4.out.cell 5 rfl
    have b6 := HB4.out.cell 6 rfl
    have b7 := HB4.out.cell 7 rfl
    go_upto_region 5 with (fail)
    have hx5 : Blk (w4.alloc (.cells #[.int .i64 n, .int .i64 m, .int .i64 c, .int .i64 p, .int .i64 g] 23)) w4.heap.size [.int .i64 n, .int .i64 m, .int .i64 c, .int .i64 p, .int .i64 g] 23 := Blk.made w4 _ _
    have HU5 := Lib.hid (HU4.out.alloc (.cells #[.int .i64 n, .int .i64 m, .int .i64 c, .int .i64 p, .int .i64 g] 23))
    have HB5 := Lib.hid (HB4.out.alloc (.cells #[.int .i64 n, .int .i64 m, .int .i64 c, .int .i64 p, .int .i64 g] 23))
    generalize w4.alloc (.cells #[.int .i64 n, .int .i64 m, .int .i64 c, .int .i64 p, .int .i64 g] 23) = w5 at *
    generalize w4.heap.size = xb at *
    clear b0 b1 b2 b3 b4 b5 b6 b7
    have b0 := HB5.out.cell 0 rfl
    have b1 := HB5.out.cell 1 rfl
    have b2 := HB5.out.cell 2 rfl
    have b3 := HB5.out.cell 3 rfl
    have b4 := HB5.out.cell 4 rfl
    have b5 := HB5.out.cell 5 rfl
    have b6 := HB5.out.cell 6 rfl
    have b7 := HB5.out.cell 7 rfl
    have x0 := hx5.cell 0 rfl
    have x1 := hx5.cell 1 rfl
    have x2 := hx5.cell 2 rfl
    go_wp2_with fail
    go_ret
    exact ⟨rfl, HU5.out⟩
  have d2 : decide ((1 : Int) ≤ t) = true := decide_eq_true h2
  by_cases h3 : t ≤ 64
  rotate_left
  · have d3 : decide (t ≤ (64 : Int)) = false := decide_eq_false h3
    have hno : sysB sz t n m c = false := Bool.eq_false_iff.2 (fun h => by have := sysB_iff.1 h; omega)
    have hans := HAns.out
    unfold SysAns at hans
    rw [if_neg (by rw [hno]; decide)] at hans
    obtain ⟨rfl, hu4⟩ := hans
    have HU4 := Lib.hid (HU2.out.trans hu4)
    have HB4 := Lib.hid (HB2.out.upd hu4 (fun h => h))
    clear hno hu4 HAns
    have b0 := HB4.out.cell 0 rfl
    have b1 := HB4.out.cell 1 rfl
    have b2 := HB4.out.cell 2 rfl
    have b3 := HB4.out.cell 3 rfl
    have b4 := HB4.out.cell 4 rfl
    have b5 := HB4.out.cell 5 rfl
    have b6 := HB4.out.cell 6 rfl
    have b7 := HB4.out.cell 7 rfl
    go_upto_region 5 with (fail)
    have hx5 : Blk (w4.alloc (.cells #[.int .i64 n, .int .i64 m, .int .i64 c, .int .i64 p, .int .i64 g] 23)) w4.heap.size [.int .i64 n, .int .i64 m, .int .i64 c, .int .i64 p, .int .i64 g] 23 := Blk.made w4 _ _
    have HU5 := Lib.hid (HU4.out.alloc (.cells #[.int .i64 n, .int .i64 m, .int .i64 c, .int .i64 p, .int .i64 g] 23))
    have HB5 := Lib.hid (HB4.out.alloc (.cells #[.int .i64 n, .int .i64 m, .int .i64 c, .int .i64 p, .int .i64 g] 23))
    generalize w4.alloc (.cells #[.int .i64 n, .int .i64 m, .int .i64 c, .int .i64 p, .int .i64 g] 23) = w5 at *
    generalize w4.heap.size = xb at *
    clear b0 b1 b2 b3 b4 b5 b6 b7
    have b0 := HB5.out.cell 0 rfl
    have b1 := HB5.out.cell 1 rfl
    have b2 := HB5.out.cell 2 rfl
    have b3 := HB5.out.cell 3 rfl
    have b4 := HB5.out.cell 4 rfl
    have b5 := HB5.out.cell 5 rfl
    have b6 := HB5.out.cell 6 rfl
    have b7 := HB5.out.cell 7 rfl
    have x0 := hx5.cell 0 rfl
    have x1 := hx5.cell 1 rfl
    have x2 := hx5.cell 2 rfl
    go_wp2_with fail
    go_ret
    exact ⟨rfl, HU5.out⟩
  have d3 : decide (t ≤ (64 : Int)) = true := decide_eq_true h3
  by_cases h4 : 1 ≤ n
  rotate_left
  · have d4 : decide ((1 : Int) ≤ n) = false := decide_eq_false h4
    have hno : sysB sz t n m c = false := Bool.eq_false_iff.2 (fun h => by have := sysB_iff.1 h; omega)
    have hans := HAns.out
    unfold SysAns at hans
    rw [if_neg (by rw [hno]; decide)] at hans
    obtain ⟨rfl, hu4⟩ := hans
    have HU4 := Lib.hid (HU2.out.trans hu4)
    have HB4 := Lib.hid (HB2.out.upd hu4 (fun h => h))
    clear hno hu4 HAns
    have b0 := HB4.out.cell 0 rfl
    have b1 := HB4.out.cell 1 rfl
    have b2 := HB4.out.cell 2 rfl
    have b3 := HB4.out.cell 3 rfl
    have b4 := HB4.out.cell 4 rfl
    have b5 := HB4.out.cell 5 rfl
    have b6 := HB4.out.cell 6 rfl
    have b7 := HB4.out.cell 7 rfl
    go_upto_region 5 with (fail)
    have hx5 : Blk (w4.alloc (.cells #[.int .i64 n, .int .i64 m, .int .i64 c, .int .i64 p, .int .i64 g] 23)) w4.heap.size [.int .i64 n, .int .i64 m, .int .i64 c, .int .i64 p, .int .i64 g] 23 := Blk.made w4 _ _
    have HU5 := Lib.hid (HU4.out.alloc (.cells #[.int .i64 n, .int .i64 m, .int .i64 c, .int .i64 p, .int .i64 g] 23))
    have HB5 := Lib.hid (HB4.out.alloc (.cells #[.int .i64 n, .int .i64 m, .int .i64 c, .int .i64 p, .int .i64 g] 23))
    generalize w4.alloc (.cells #[.int .i64 n, .int .i64 m, .int .i64 c, .int .i64 p, .int .i64 g] 23) = w5 at *
    generalize w4.heap.size = xb at *
    clear b0 b1 b2 b3 b4 b5 b6 b7
    have b0 := HB5.out.cell 0 rfl
    have b1 := HB5.out.cell 1 rfl
    have b2 := HB5.out.cell 2 rfl
    have b3 := HB5.out.cell 3 rfl
    have b4 := HB5.out.cell 4 rfl
    have b5 := HB5.out.cell 5 rfl
    have b6 := HB5.out.cell 6 rfl
    have b7 := HB5.out.cell 7 rfl
    have x0 := hx5.cell 0 rfl
    have x1 := hx5.cell 1 rfl
    have x2 := hx5.cell 2 rfl
    go_wp2_with fail
    go_ret
    exact ⟨rfl, HU5.out⟩
  have d4 : decide ((1 : Int) ≤ n) = true := decide_eq_true h4
  by_cases h5 : n ≤ 64
  rotate_left
  · have d5 : decide (n ≤ (64 : Int)) = false := decide_eq_false h5
    have hno : sysB sz t n m c = false := Bool.eq_false_iff.2 (fun h => by have := sysB_iff.1 h; omega)
    have hans := HAns.out
    unfold SysAns at hans
    rw [if_neg (by rw [hno]; decide)] at hans
    obtain ⟨rfl, hu4⟩ := hans
    have HU4 := Lib.hid (HU2.out.trans hu4)
    have HB4 := Lib.hid (HB2.out.upd hu4 (fun h => h))
    clear hno hu4 HAns
    have b0 := HB4.out.cell 0 rfl
    have b1 := HB4.out.cell 1 rfl
    have b2 := HB4.out.cell 2 rfl
    have b3 := HB4.out.cell 3 rfl
    have b4 := HB4.out.cell 4 rfl
    have b5 := HB4.out.cell 5 rfl
    have b6 := HB4.out.cell 6 rfl
    have b7 := HB4.out.cell 7 rfl
    go_upto_region 5 with (fail)
    have hx5 : Blk (w4.alloc (.cells #[.int .i64 n, .int .i64 m, .int .i64 c, .int .i64 p, .int .i64 g] 23)) w4.heap.size [.int .i64 n, .int .i64 m, .int .i64 c, .int .i64 p, .int .i64 g] 23 := Blk.made w4 _ _
    have HU5 := Lib.hid (HU4.out.alloc (.cells #[.int .i64 n, .int .i64 m, .int .i64 c, .int .i64 p, .int .i64 g] 23))
    have HB5 := Lib.hid (HB4.out.alloc (.cells #[.int .i64 n, .int .i64 m, .int .i64 c, .int .i64 p, .int .i64 g] 23))
    generalize w4.alloc (.cells #[.int .i64 n, .int .i64 m, .int .i64 c, .int .i64 p, .int .i64 g] 23) = w5 at *
    generalize w4.heap.size = xb at *
    clear b0 b1 b2 b3 b4 b5 b6 b7
    have b0 := HB5.out.cell 0 rfl
    have b1 := HB5.out.cell 1 rfl
    have b2 := HB5.out.cell 2 rfl
    have b3 := HB5.out.cell 3 rfl
    have b4 := HB5.out.cell 4 rfl
    have b5 := HB5.out.cell 5 rfl
    have b6 := HB5.out.cell 6 rfl
    have b7 := HB5.out.cell 7 rfl
    have x0 := hx5.cell 0 rfl
    have x1 := hx5.cell 1 rfl
    have x2 := hx5.cell 2 rfl
    go_wp2_with fail
    go_ret
    exact ⟨rfl, HU5.out⟩
  have d5 : decide (n ≤ (64 : Int)) = true := decide_eq_true h5
  by_cases h6 : 2 ≤ m
  rotate_left
  · have d6 : decide ((2 : Int) ≤ m) = false := decide_eq_false h6
    have hno : sysB sz t n m c = false := Bool.eq_false_iff.2 (fun h => by have := sysB_iff.1 h; omega)
    have hans := HAns.out
    unfold SysAns at hans
    rw [if_neg (by rw [hno]; decide)] at hans
    obtain ⟨rfl, hu4⟩ := hans
    have HU4 := Lib.hid (HU2.out.trans hu4)
    have HB4 := Lib.hid (HB2.out.upd hu4 (fun h => h))
    clear hno hu4 HAns
    have b0 := HB4.out.cell 0 rfl
    have b1 := HB4.out.cell 1 rfl
    have b2 := HB4.out.cell 2 rfl
    have b3 := HB4.out.cell 3 rfl
    have b4 := HB4.out.cell 4 rfl
    have b5 := HB4.out.cell 5 rfl
    have b6 := HB4.out.cell 6 rfl
    have b7 := HB4.out.cell 7 rfl
    go_upto_region 5 with (fail)
    have hx5 : Blk (w4.alloc (.cells #[.int .i64 n, .int .i64 m, .int .i64 c, .int .i64 p, .int .i64 g] 23)) w4.heap.size [.int .i64 n, .int .i64 m, .int .i64 c, .int .i64 p, .int .i64 g] 23 := Blk.made w4 _ _
    have HU5 := Lib.hid (HU4.out.alloc (.cells #[.int .i64 n, .int .i64 m, .int .i64 c, .int .i64 p, .int .i64 g] 23))
    have HB5 := Lib.hid (HB4.out.alloc (.cells #[.int .i64 n, .int .i64 m, .int .i64 c, .int .i64 p, .int .i64 g] 23))
    generalize w4.alloc (.cells #[.int .i64 n, .int .i64 m, .int .i64 c, .int .i64 p, .int .i64 g] 23) = w5 at *
    generalize w4.heap.size = xb at *
    clear b0 b1 b2 b3 b4 b5 b6 b7
    have b0 := HB5.out.cell 0 rfl
    have b1 := HB5.out.cell 1 rfl
    have b2 := HB5.out.cell 2 rfl
    have b3 := HB5.out.cell 3 rfl
    have b4 := HB5.out.cell 4 rfl
    have b5 := HB5.out.cell 5 rfl
    have b6 := HB5.out.cell 6 rfl
    have b7 := HB5.out.cell 7 rfl
    have x0 := hx5.cell 0 rfl
    have x1 := hx5.cell 1 rfl
    have x2 := hx5.cell 2 rfl
    go_wp2_with fail
    go_ret
    exact ⟨rfl, HU5.out⟩
  have d6 : decide ((2 : Int) ≤ m) = true := decide_eq_true h6
  by_cases h7 : m ≤ 1024
  rotate_left
  · have d7 : decide (m ≤ (1024 : Int)) = false := decide_eq_false h7
    have hno : sysB sz t n m c = false := Bool.eq_false_iff.2 (fun h => by have := sysB_iff.1 h; omega)
    have hans := HAns.out
    unfold SysAns at hans
    rw [if_neg (by rw [hno]; decide)] at hans
    obtain ⟨rfl, hu4⟩ := hans
    have HU4 := Lib.hid (HU2.out.trans hu4)
    have HB4 := Lib.hid (HB2.out.upd hu4 (fun h => h))
    clear hno hu4 HAns
    have b0 := HB4.out.cell 0 rfl
    have b1 := HB4.out.cell 1 rfl
    have b2 := HB4.out.cell 2 rfl
    have b3 := HB4.out.cell 3 rfl
    have b4 := HB4.out.cell 4 rfl
    have b5 := HB4.out.cell 5 rfl
    have b6 := HB4.out.cell 6 rfl
    have b7 := HB4.out.cell 7 rfl
    go_upto_region 5 with (fail)
    have hx5 : Blk (w4.alloc (.cells #[.int .i64 n, .int .i64 m, .int .i64 c, .int .i64 p, .int .i64 g] 23)) w4.heap.size [.int .i64 n, .int .i64 m, .int .i64 c, .int .i64 p, .int .i64 g] 23 := Blk.made w4 _ _
    have HU5 := Lib.hid (HU4.out.alloc (.cells #[.int .i64 n, .int .i64 m, .int .i64 c, .int .i64 p, .int .i64 g] 23))
    have HB5 := Lib.hid (HB4.out.alloc (.cells #[.int .i64 n, .int .i64 m, .int .i64 c, .int .i64 p, .int .i64 g] 23))
    generalize w4.alloc (.cells #[.int .i64 n, .int .i64 m, .int .i64 c, .int .i64 p, .int .i64 g] 23) = w5 at *
    generalize w4.heap.size = xb at *
    clear b0 b1 b2 b3 b4 b5 b6 b7
    have b0 := HB5.out.cell 0 rfl
    have b1 := HB5.out.cell 1 rfl
    have b2 := HB5.out.cell 2 rfl
    have b3 := HB5.out.cell 3 rfl
    have b4 := HB5.out.cell 4 rfl
    have b5 := HB5.out.cell 5 rfl
    have b6 := HB5.out.cell 6 rfl
    have b7 := HB5.out.cell 7 rfl
    have x0 := hx5.cell 0 rfl
    have x1 := hx5.cell 1 rfl
    have x2 := hx5.cell 2 rfl
    go_wp2_with fail
    go_ret
    exact ⟨rfl, HU5.out⟩
  have d7 : decide (m ≤ (1024 : Int)) = true := decide_eq_true h7
  by_cases h8 : 1 ≤ c
  rotate_left
  · have d8 : decide ((1 : Int) ≤ c) = false := decide_eq_false h8
    have hno : sysB sz t n m c = false := Bool.eq_false_iff.2 (fun h => by have := sysB_iff.1 h; omega)
    have hans := HAns.out
    unfold SysAns at hans
    rw [if_neg (by rw [hno]; decide)] at hans
    obtain ⟨rfl, hu4⟩ := hans
    have HU4 := Lib.hid (HU2.out.trans hu4)
    have HB4 := Lib.hid (HB2.out.upd hu4 (fun h => h))
    clear hno hu4 HAns
    have b0 := HB4.out.cell 0 rfl
    have b1 := HB4.out.cell 1 rfl
    have b2 := HB4.out.cell 2 rfl
    have b3 := HB4.out.cell 3 rfl
    have b4 := HB4.out.cell 4 rfl
    have b5 := HB4.out.cell 5 rfl
    have b6 := HB4.out.cell 6 rfl
    have b7 := HB4.out.cell 7 rfl
    go_upto_region 5 with (fail)
    have hx5 : Blk (w4.alloc (.cells #[.int .i64 n, .int .i64 m, .int .i64 c, .int .i64 p, .int .i64 g] 23)) w4.heap.size [.int .i64 n, .int .i64 m, .int .i64 c, .int .i64 p, .int .i64 g] 23 := Blk.made w4 _ _
    have HU5 := Lib.hid (HU4.out.alloc (.cells #[.int .i64 n, .int .i64 m, .int .i64 c, .int .i64 p, .int .i64 g] 23))
    have HB5 := Lib.hid (HB4.out.alloc (.cells #[.int .i64 n, .int .i64 m, .int .i64 c, .int .i64 p, .int .i64 g] 23))
    generalize w4.alloc (.cells #[.int .i64 n, .int .i64 m, .int .i64 c, .int .i64 p, .int .i64 g] 23) = w5 at *
    generalize w4.heap.size = xb at *
    clear b0 b1 b2 b3 b4 b5 b6 b7
    have b0 := HB5.out.cell 0 rfl
    have b1 := HB5.out.cell 1 rfl
    have b2 := HB5.out.cell 2 rfl
    have b3 := HB5.out.cell 3 rfl
    have b4 := HB5.out.cell 4 rfl
    have b5 := HB5.out.cell 5 rfl
    have b6 := HB5.out.cell 6 rfl
    have b7 := HB5.out.cell 7 rfl
    have x0 := hx5.cell 0 rfl
    have x1 := hx5.cell 1 rfl
    have x2 := hx5.cell 2 rfl
    go_wp2_with fail
    go_ret
    exact ⟨rfl, HU5.out⟩
  have d8 : decide ((1 : Int) ≤ c) = true := decide_eq_true h8
  by_cases h9 : c ≤ 4095
  rotate_left
  · have d9 : decide (c ≤ (4095 : Int)) = false := decide_eq_false h9
    have hno : sysB sz t n m c = false := Bool.eq_false_iff.2 (fun h => by have := sysB_iff.1 h; omega)
    have hans := HAns.out
    unfold SysAns at hans
    rw [if_neg (by rw [hno]; decide)] at hans
    obtain ⟨rfl, hu4⟩ := hans
    have HU4 := Lib.hid (HU2.out.trans hu4)
    have HB4 := Lib.hid (HB2.out.upd hu4 (fun h => h))
    clear hno hu4 HAns
    have b0 := HB4.out.cell 0 rfl
    have b1 := HB4.out.cell 1 rfl
    have b2 := HB4.out.cell 2 rfl
    have b3 := HB4.out.cell 3 rfl
    have b4 := HB4.out.cell 4 rfl
    have b5 := HB4.out.cell 5 rfl
    have b6 := HB4.out.cell 6 rfl
    have b7 := HB4.out.cell 7 rfl
    go_upto_region 5 with (fail)
    have hx5 : Blk (w4.alloc (.cells #[.int .i64 n, .int .i64 m, .int .i64 c, .int .i64 p, .int .i64 g] 23)) w4.heap.size [.int .i64 n, .int .i64 m, .int .i64 c, .int .i64 p, .int .i64 g] 23 := Blk.made w4 _ _
    have HU5 := Lib.hid (HU4.out.alloc (.cells #[.int .i64 n, .int .i64 m, .int .i64 c, .int .i64 p, .int .i64 g] 23))
    have HB5 := Lib.hid (HB4.out.alloc (.cells #[.int .i64 n, .int .i64 m, .int .i64 c, .int .i64 p, .int .i64 g] 23))
    generalize w4.alloc (.cells #[.int .i64 n, .int .i64 m, .int .i64 c, .int .i64 p, .int .i64 g] 23) = w5 at *
    generalize w4.heap.size = xb at *
    clear b0 b1 b2 b3 b4 b5 b6 b7
    have b0 := HB5.out.cell 0 rfl
    have b1 := HB5.out.cell 1 rfl
    have b2 := HB5.out.cell 2 rfl
    have b3 := HB5.out.cell 3 rfl
    have b4 := HB5.out.cell 4 rfl
    have b5 := HB5.out.cell 5 rfl
    have b6 := HB5.out.cell 6 rfl
    have b7 := HB5.out.cell 7 rfl
    have x0 := hx5.cell 0 rfl
    have x1 := hx5.cell 1 rfl
    have x2 := hx5.cell 2 rfl
    go_wp2_with fail
    go_ret
    exact ⟨rfl, HU5.out⟩
  have d9 : decide (c ≤ (4095 : Int)) = true := decide_eq_true h9
  have hyes : sysB sz t n m c = true := sysB_iff.2 (by omega)
  have hans := HAns.out
  unfold SysAns at hans
  rw [if_pos hyes] at hans
  obtain ⟨s, h, hwb, hsb, a, bb, r, rc, rwb, sz', t', hsz, ht, rfl, N⟩ := hans
  have HU4 := Lib.hid (HU2.out.trans N.upd)
  have HB4 := Lib.hid (HB2.out.upd N.upd (fun h => h))
  have HN := Lib.hid N
  have HSz := Lib.hid hsz
  clear hyes HAns N hsz ht
  have b0 := HB4.out.cell 0 rfl
  have b1 := HB4.out.cell 1 rfl
  have b2 := HB4.out.cell 2 rfl
  have b3 := HB4.out.cell 3 rfl
  have b4 := HB4.out.cell 4 rfl
  have b5 := HB4.out.cell 5 rfl
  have b6 := HB4.out.cell 6 rfl
  have b7 := HB4.out.cell 7 rfl
  go_upto_region 5 with (fail)
  have hx5 : Blk (w4.alloc (.cells #[.int .i64 n, .int .i64 m, .int .i64 c, .int .i64 p, .int .i64 g] 23)) w4.heap.size [.int .i64 n, .int .i64 m, .int .i64 c, .int .i64 p, .int .i64 g] 23 := Blk.made w4 _ _
  have hu5 := (Upd.refl (fun _ => False) w4).alloc (.cells #[.int .i64 n, .int .i64 m, .int .i64 c, .int .i64 p, .int .i64 g] 23)
  have HU5 := Lib.hid (HU4.out.trans hu5)
  have HN5 := Lib.hid (HN.out.quiet hu5)
  have HB5 := Lib.hid (HB4.out.upd hu5 (fun h => h))
  generalize w4.alloc (.cells #[.int .i64 n, .int .i64 m, .int .i64 c, .int .i64 p, .int .i64 g] 23) = w5 at *
  generalize w4.heap.size = xb at *
  clear b0 b1 b2 b3 b4 b5 b6 b7 hu5
  have b0 := HB5.out.cell 0 rfl
  have b1 := HB5.out.cell 1 rfl
  have b2 := HB5.out.cell 2 rfl
  have b3 := HB5.out.cell 3 rfl
  have b4 := HB5.out.cell 4 rfl
  have b5 := HB5.out.cell 5 rfl
  have b6 := HB5.out.cell 6 rfl
  have b7 := HB5.out.cell 7 rfl
  have x0 := hx5.cell 0 rfl
  have x1 := hx5.cell 1 rfl
  have x2 := hx5.cell 2 rfl
  have HCo := Lib.hid (collecting_no w5 s (HN5.out.str.cell 11 rfl))
  have HFr := Lib.hid (fresh_any w5 s false (HN5.out.str.cell 12 rfl))
  have HCl := Lib.hid (collections_any w5 s 0 (HN5.out.str.cell 13 rfl))
  have HSh := Lib.hid (sshare_zero w5 s h hwb hsb sz' _ HN5.out.heap (HN5.out.str.cell 8 rfl))
  go_wp2_with fail
  refine (HCo.out).mono ?_
  rintro e w6 ⟨rfl, rfl⟩
  go_wp2_with fail
  refine (HFr.out).mono ?_
  rintro e w6 ⟨rfl, rfl⟩
  go_wp2_with fail
  refine (HCl.out).mono ?_
  rintro e w6 ⟨rfl, rfl⟩
  go_wp2_with fail
  refine (HSh.out).mono ?_
  rintro e w7 ⟨rfl, hu7⟩
  have HU7 := Lib.hid (HU5.out.trans hu7)
  have HCs := Lib.hid (Gauge.class_any 0 w7 (by omega))
  clear hu7
  go_wp2_with fail
  refine (HCs.out).mono ?_
  rintro e w8 ⟨rfl, e8⟩
  have e8' := e8
  subst e8'
  have hcl : Gauge.cls 0 = 4 := by decide
  go_wp2_with fail
  go_ret
  exact ⟨rfl, HU7.out⟩
end Go.Proofs.YtapjajclmbpjmaaGreatDoor.Sys
