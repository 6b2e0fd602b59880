/- The law KeeperNews: the walk. -/
import Derived.Test.YtapjajclmbpjmaaGreatDoorKeeperAwake
set_option linter.unusedSimpArgs false
namespace Go.Proofs.YtapjajclmbpjmaaGreatDoor.Sys
open Go.RowKit Go.Proofs.YtapjajclmbpjmaaGreatDoor.Mem Go.Proofs.YtapjajclmbpjmaaGreatDoor.Heap Go.Proofs.YtapjajclmbpjmaaGreatDoor.Obj

set_option maxRecDepth 20000 in
set_option maxHeartbeats 4000000 in
theorem keeperNews_any (w : World) (T : Scr.Tabs w) (sz t b n m c p g : Int) :
    Calls Tryz.prog 3 #[.agg #[.int .i64 sz, .int .i64 t, .int .i64 b, .int .i64 n, .int .i64 m, .int .i64 c, .int .i64 p, .int .i64 g]] w fun e w' => e = .returned (.bool true) ∧ Upd (fun _ => False) w w' := by
  have hu0 := (Upd.refl (fun _ => False) w).alloc (.cells #[.int .i64 sz, .int .i64 t, .int .i64 b, .int .i64 n, .int .i64 m, .int .i64 c, .int .i64 p, .int .i64 g] 25)
  have hb0 : Blk (w.alloc (.cells #[.int .i64 sz, .int .i64 t, .int .i64 b, .int .i64 n, .int .i64 m, .int .i64 c, .int .i64 p, .int .i64 g] 25)) w.heap.size (cfg sz t b n m c p g) 25 := Blk.made w (cfg sz t b n m c p g) _
  have HAw := Lib.hid (fun (V : World) (hV : Upd (fun _ => False) w V) => awake20 V (T.quiet hV))
  have HK := Lib.hid (fun (V : World) => keeper_new V sz t b n m c p g)
  have HS := Lib.hid (fun (V : World) => system_new V sz t b n m c p g)
  have HB0 := Lib.hid hb0
  have HU0 := Lib.hid hu0
  clear hb0 hu0 T
  go_enter Tryz.func3, Tryz.ntmps3
  go_upto_region 1 with (fail)
  generalize w.alloc (.cells #[.int .i64 sz, .int .i64 t, .int .i64 b, .int .i64 n, .int .i64 m, .int .i64 c, .int .i64 p, .int .i64 g] 25) = w1 at *
  go_wp2_with fail
  refine (HAw.out _ HU0.out).mono ?_
  rintro e w2 ⟨rfl, hu2⟩
  have HU2 := Lib.hid (HU0.out.trans hu2)
  have HB2 := Lib.hid (HB0.out.upd hu2 (fun h => h))
  clear hu2
  have b0 := HB2.out.cell 0 rfl
  have b1 := HB2.out.cell 1 rfl
  have b2 := HB2.out.cell 2 rfl
  have b3 := HB2.out.cell 3 rfl
  have b4 := HB2.out.cell 4 rfl
  have b5 := HB2.out.cell 5 rfl
  have b6 := HB2.out.cell 6 rfl
  have b7 := HB2.out.cell 7 rfl
  go_wp2_with fail
  refine (HK.out _).mono ?_
  rintro e w3 hk
  clear b0 b1 b2 b3 b4 b5 b6 b7
  cases hy : sysB sz t n m c with
  | false =>
    unfold KeepAns at hk
    rw [if_neg (by rw [hy]; decide)] at hk
    obtain ⟨rfl, hu3⟩ := hk
    have HU3 := Lib.hid (HU2.out.trans hu3)
    have HB3 := Lib.hid (HB2.out.upd hu3 (fun h => h))
    have HY := Lib.hid hy
    clear hu3 hy
    have b0 := HB3.out.cell 0 rfl
    have b1 := HB3.out.cell 1 rfl
    have b2 := HB3.out.cell 2 rfl
    have b3 := HB3.out.cell 3 rfl
    have b4 := HB3.out.cell 4 rfl
    have b5 := HB3.out.cell 5 rfl
    have b6 := HB3.out.cell 6 rfl
    have b7 := HB3.out.cell 7 rfl
    go_wp2_with fail
    refine (HS.out _).mono ?_
    rintro e w4 hs
    clear b0 b1 b2 b3 b4 b5 b6 b7
    unfold SysAns at hs
    rw [if_neg (by rw [HY.out]; decide)] at hs
    obtain ⟨rfl, hu4⟩ := hs
    have HU4 := Lib.hid (HU3.out.trans hu4)
    clear hu4
    go_wp2_with fail
    go_ret
    exact ⟨rfl, HU4.out⟩
  | true =>
    unfold KeepAns at hk
    rw [if_pos hy] at hk
    obtain ⟨kb, s, h, hwb, hsb, a, bb, r, rc, rwb, sz', t', d, q, rfl, rfl, rfl, N, _⟩ := hk
    have HU3 := Lib.hid (HU2.out.trans N.upd)
    have HB3 := Lib.hid (HB2.out.upd N.upd (fun h => h))
    have HY := Lib.hid hy
    clear N hy
    have b0 := HB3.out.cell 0 rfl
    have b1 := HB3.out.cell 1 rfl
    have b2 := HB3.out.cell 2 rfl
    have b3 := HB3.out.cell 3 rfl
    have b4 := HB3.out.cell 4 rfl
    have b5 := HB3.out.cell 5 rfl
    have b6 := HB3.out.cell 6 rfl
    have b7 := HB3.out.cell 7 rfl
    go_wp2_with fail
    refine (HS.out _).mono ?_
    rintro e w4 hs
    clear b0 b1 b2 b3 b4 b5 b6 b7
    unfold SysAns at hs
    rw [if_pos HY.out] at hs
    obtain ⟨s2, h2, hwb2, hsb2, a2, bb2, r2, rc2, rwb2, sz2, t2, _, _, rfl, N2⟩ := hs
    have HU4 := Lib.hid (HU3.out.trans N2.upd)
    clear N2
    go_wp2_with fail
    go_ret
    exact ⟨rfl, HU4.out⟩
end Go.Proofs.YtapjajclmbpjmaaGreatDoor.Sys
