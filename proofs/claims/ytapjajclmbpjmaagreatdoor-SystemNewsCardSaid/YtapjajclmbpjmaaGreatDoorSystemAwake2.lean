/- A fixed fact of systems: the call. -/
import Derived.Test.YtapjajclmbpjmaaGreatDoorSystemAwake
import Derived.ChangeKeysEq
set_option linter.unusedSimpArgs false
namespace Go.Proofs.YtapjajclmbpjmaaGreatDoor.Sys
open Go.RowKit Go.Proofs.YtapjajclmbpjmaaGreatDoor.Mem Go.Proofs.YtapjajclmbpjmaaGreatDoor.Heap Go.Proofs.YtapjajclmbpjmaaGreatDoor.Obj

theorem reply_same (W : World) : (binOp .eql 42 (.agg #[.int .i64 0, .int .i64 0]) (.agg #[.int .i64 0, .int .i64 0])).run Tryz.prog W = .ok (.bool true) W := by
  rw [run_eql_struct, run_equalIn_agg W 9999 42 _ _ (by kernel_rfl) (by kernel_rfl)]
  rw [show (Program.fieldsOf Tryz.prog 42).toList = [{ name := "Code", type := 28, offset := 0, embedded := false, tag := "", pkgPath := "", byteOffset := 0 }, { name := "Value", type := 3, offset := 1, embedded := false, tag := "", pkgPath := "", byteOffset := 8 }] by kernel_rfl]
  simp [Op.eqFields, part, run_equalIn_int W 9998 3 .i64 .i64 _ _ Tryz.underlying3, run_equalIn_int W 9998 28 .i64 .i64 _ _ Tryz.underlying28]
theorem Got.quiet {w w' w2 : World} {s h hwb hsb a bb r : Nat} (G : Got w w' s h hwb hsb a bb r) (u : Upd (fun _ => False) w' w2) : Got w w2 s h hwb hsb a bb r := by
  obtain ⟨g, cap, hH, c0, g0, hs, hu⟩ := G
  exact ⟨g, cap, hH.quiet u, keepC u c0, keepC u g0, hs.upd u (fun h => h), hu.trans (u.mono (fun _ _ h => h.elim))⟩
attribute [-go_sem] run_eql_struct run_equalIn_agg in
set_option maxRecDepth 20000 in
set_option maxHeartbeats 2000000 in
theorem awake18 (w : World) (T : Scr.Tabs w) : Calls Tryz.prog 8 #[] w fun e w' => e = .returned (.bool true) ∧ Upd (fun _ => False) w w' := by
  have HN := Lib.hid (numbers18_40)
  have HS := Lib.hid (fun (V : World) => system_new V 41 1 8 1 2 1 1 2)
  have HT := Lib.hid T
  have heq := reply_same
  clear T
  go_enter Tryz.func8, Tryz.ntmps8
  go_wp2_with fail
  refine (HN.out _).mono ?_
  rintro e w1 ⟨rfl, hu1⟩
  have HU1 := Lib.hid hu1
  clear hu1
  go_wp2_with fail
  refine (HS.out _).mono ?_
  rintro e w2 hans
  unfold SysAns at hans
  rw [if_pos (by decide)] at hans
  obtain ⟨s, h, hwb, hsb, a, bb, r, rc, rwb, sz', t', hsz, ht, rfl, N⟩ := hans
  obtain rfl : sz' = 41 := by omega
  obtain rfl : t' = 1 := by omega
  have hm := N.mids
  have htp := N.tops
  have hlo := N.lows
  have hs1 := HU1.out.size
  have HU2 := Lib.hid (HU1.out.trans N.upd)
  have HDo := Lib.hid (first_small w1 w2 (HT.out.quiet HU2.out) s h hwb hsb a bb r rc rwb N 0 1 2 0 (by omega) (by omega) (by omega) (by omega))
  have HB := Lib.hid (show w.heap.size ≤ s ∧ w.heap.size ≤ h ∧ w.heap.size ≤ hwb ∧ w.heap.size ≤ hsb ∧ w.heap.size ≤ bb ∧ w.heap.size ≤ r by omega)
  clear N hm htp hlo hs1 hsz ht
  go_wp2_with fail
  refine (HDo.out).mono ?_
  rintro e w3 ⟨rfl, G⟩
  have HU3 := Lib.hid (HU2.out.next G.choose_spec.choose_spec.2.2.2.2 (fun i hi e => by have := HB.out; omega))
  have HG := Lib.hid G
  clear G
  go_upto_region 5 with (fail)
  have hu4 : Upd (fun _ => False) w3 (w3.alloc (.cells #[.int .i64 0, .int .i64 0] 42)) := (Upd.refl _ w3).alloc _
  have hra := Blk.made w3 [.int .i64 0, .int .i64 0] 42
  generalize w3.alloc (.cells #[.int .i64 0, .int .i64 0] 42) = w4 at *
  generalize w3.heap.size = ra at *
  have HG4 := Lib.hid (HG.out.quiet hu4)
  have HU4 := Lib.hid (HU3.out.trans hu4)
  have HRa := Lib.hid hra
  have HGe := Lib.hid (then_get w4 (HT.out.quiet HU4.out) w2 s h hwb hsb a bb r HG4.out 0 1 (by omega) (by omega))
  clear hu4 hra
  go_wp2_with fail
  refine (HGe.out).mono ?_
  rintro e w5 ⟨rfl, hu5⟩
  have HU5 := Lib.hid (HU4.out.trans hu5)
  have HG5 := Lib.hid (HG4.out.quiet hu5)
  have hra5 := HRa.out.upd hu5 (fun h => h)
  clear hu5
  go_upto_region 6 with (fail)
  have hu6 : Upd (fun _ => False) w5 (w5.alloc (.cells #[.int .i64 0, .int .i64 0] 42)) := (Upd.refl _ w5).alloc _
  have hrb := Blk.made w5 [.int .i64 0, .int .i64 0] 42
  have hra6 := hra5.alloc (.cells #[.int .i64 0, .int .i64 0] 42)
  generalize w5.alloc (.cells #[.int .i64 0, .int .i64 0] 42) = w6 at *
  generalize w5.heap.size = rb at *
  have HU6 := Lib.hid (HU5.out.trans hu6)
  have HCo := Lib.hid (collecting_no w6 s ((HG5.out.quiet hu6).choose_spec.choose_spec.2.2.2.1.cell 11 rfl))
  have r0 := hra6.cell 0 rfl
  have r1 := hra6.cell 1 rfl
  have q0 := hrb.cell 0 rfl
  have q1 := hrb.cell 1 rfl
  clear hu6 hrb hra6 hra5
  go_wp2_with fail
  refine (HCo.out).mono ?_
  rintro e w7 ⟨rfl, rfl⟩
  go_wp2_with fail
  go_ret
  exact ⟨rfl, HU6.out⟩
end Go.Proofs.YtapjajclmbpjmaaGreatDoor.Sys
