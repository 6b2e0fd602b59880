/- A fixed fact of keepers. -/
import Derived.Test.YtapjajclmbpjmaaGreatDoorKeeperNews
set_option linter.unusedSimpArgs false
namespace Go.Proofs.YtapjajclmbpjmaaGreatDoor.Sys
open Go.RowKit Go.Proofs.YtapjajclmbpjmaaGreatDoor.Mem Go.Proofs.YtapjajclmbpjmaaGreatDoor.Heap Go.Proofs.YtapjajclmbpjmaaGreatDoor.Obj

theorem field_reply (V : World) : (Instr.field 42 (.agg #[.int .i64 0, .int .i64 0]) 0).run Tryz.prog V = .ok (.int .i64 0) V := by
  have hu := Tryz.underlying42
  obtain ⟨i, hi, hz0, hz1, hz2⟩ := info_parts (show (Tryz.prog.info? 28).map (fun i => (i.zero, i.size, i.bytes)) = some (some (.int .i64 0), 1, 8) by kernel_rfl)
  simp [Instr.field, run_underlying hu, asAgg, part, sizeOf, typeInfo, hi, hz1]
theorem half8 : wrap64 ((bufOf 8).tdiv 2) = 4 := by
  rw [show bufOf 8 = 8 by unfold bufOf; omega, show Int.tdiv 8 2 = 4 from rfl]
  unfold wrap64
  omega
theorem numbers18_20 (V : World) : Calls Tryz.prog 14 #[.int .u8 20, .int .u8 0, .int .u8 0, .agg #[.int .u8 0, .int .u8 0, .int .u8 0, .int .u8 0, .int .u8 0]] V fun e w' => e = .returned (.agg #[.int .i64 21, .int .i64 1, .int .i64 8, .int .i64 1, .int .i64 2, .int .i64 1, .int .i64 1, .int .i64 2]) ∧ Upd (fun _ => False) V w' := by
  have h := numbers18_zero V 20 (by decide)
  rw [show ((20 : Nat) : Int) = 20 from rfl, show (1 + 20 : Int) = 21 from rfl] at h
  exact h
theorem sysDo_int (w0 w : World) (T : Scr.Tabs w) (s h hwb hsb a bb r rc rwb sz t : Nat) (b n m c p g : Int) (N : SysNew w0 w s h hwb hsb a bb r rc rwb sz t b n m c p g) (th k l q : Nat) (hth : th < t) (hg : goodB k l q = true) (hk : k ≠ 15) (half : Int) (hh : wrap64 ((bufOf b).tdiv 2) = half) (hs : half < 1 + (l : Int)) (hl : 1 + l ≤ sz)
    (th' k' l' q' : Int) (e1 : th' = (th : Int)) (e2 : k' = (k : Int)) (e3 : l' = (l : Int)) (e4 : q' = (q : Int)) :
    Calls Tryz.prog 21 #[.pointer (some ⟨s, 0, none⟩), .agg #[.int .i64 1, .int .i64 th', .int .i64 k', .int .i64 q', .int .i64 l']] w fun e w' => e = .returned (.agg #[.int .i64 0, .int .i64 0]) ∧ Upd (fun x => x = s ∨ x = h ∨ x = hwb ∨ x = hsb ∨ x = r) w w' := by
  rw [e1, e2, e3, e4]
  exact sysDo_big w0 w T s h hwb hsb a bb r rc rwb sz t b n m c p g N th k l q hth hg hk half hh hs hl
set_option maxRecDepth 20000 in
theorem keeper_first (w0 w : World) (T : Scr.Tabs w) (kb s h hwb hsb a bb r rc rwb : Nat) (cs : List Value) (N : SysNew w0 w s h hwb hsb a bb r rc rwb 21 1 8 1 2 1 1 2) (hkb : Blk w kb (.pointer (some ⟨s, 0, none⟩) :: cs) 50) (k1 : s < kb) (k4 : r < kb) :
    Calls Tryz.prog 15 #[.pointer (some ⟨kb, 0, none⟩), .agg #[.int .i64 1, .int .i64 0, .int .i64 1, .int .i64 0, .int .i64 20]] w fun e w' => e = .returned (.agg #[.int .i64 0, .int .i64 0]) ∧ Upd (fun x => x = s ∨ x = h ∨ x = hwb ∨ x = hsb ∨ x = r) w w' := by
  have hm := N.mids
  have htp := N.tops
  have hkl := hkb.lt
  have hg : goodB ((1 : Nat) : Int) ((20 : Nat) : Int) ((0 : Nat) : Int) = true := goodB_yes (by omega)
  have hdo : ∀ V, Upd (fun _ => False) w V → Calls Tryz.prog 21 #[.pointer (some ⟨s, 0, none⟩), .agg #[.int .i64 1, .int .i64 0, .int .i64 1, .int .i64 0, .int .i64 20]] V fun e w' => e = .returned (.agg #[.int .i64 0, .int .i64 0]) ∧ Upd (fun x => x = s ∨ x = h ∨ x = hwb ∨ x = hsb ∨ x = r) V w' :=
    fun V hV => sysDo_int w0 V (T.quiet hV) s h hwb hsb a bb r rc rwb 21 1 8 1 2 1 1 2 (N.quiet hV) 0 1 20 0 (by omega) hg (by omega) 4 half8 (by omega) (by omega) 0 1 20 0 (by omega) (by omega) (by omega) (by omega)
  exact keeperDo_alloc w T kb s cs hkb 0 1 20 0 (fun x => x = s ∨ x = h ∨ x = hwb ∨ x = hsb ∨ x = r) (by omega) (fun x hx => by omega) hdo
set_option maxRecDepth 20000 in
set_option maxHeartbeats 2000000 in
theorem awake20 (w : World) (T : Scr.Tabs w) : Calls Tryz.prog 5 #[] w fun e w' => e = .returned (.bool true) ∧ Upd (fun _ => False) w w' := by
  have HN := Lib.hid (numbers18_20)
  have HK := Lib.hid (fun (V : World) => keeper_new V 21 1 8 1 2 1 1 2)
  have HT := Lib.hid T
  clear T
  have hfld : ∀ V : World, (Instr.field 42 (.agg #[.int .i64 0, .int .i64 0]) 0).run Tryz.prog V = .ok (.int .i64 0) V := field_reply
  go_enter Tryz.func5, Tryz.ntmps5
  go_wp2_with fail
  refine (HN.out _).mono ?_
  rintro e w1 ⟨rfl, hu1⟩
  have HU1 := Lib.hid hu1
  clear hu1
  go_wp2_with fail
  refine (HK.out _).mono ?_
  rintro e w2 hans
  unfold KeepAns at hans
  rw [if_pos (by decide)] at hans
  obtain ⟨kb, s, h, hwb, hsb, a, bb, r, rc, rwb, sz', t', d, q, hsz, ht, rfl, N, k1, k2, k3, k4, hkb⟩ := hans
  obtain rfl : sz' = 21 := by omega
  obtain rfl : t' = 1 := by omega
  have hm := N.mids
  have htp := N.tops
  have hlo := N.lows
  have hs1 := HU1.out.size
  have HU2 := Lib.hid (HU1.out.trans N.upd)
  have HDo := Lib.hid (keeper_first w1 w2 (HT.out.quiet HU2.out) kb s h hwb hsb a bb r rc rwb _ N hkb k1 k4)
  have HB := Lib.hid (show w.heap.size ≤ s ∧ w.heap.size ≤ h ∧ w.heap.size ≤ hwb ∧ w.heap.size ≤ hsb ∧ w.heap.size ≤ r by omega)
  clear N hkb k1 k2 k3 k4 hm htp hlo hs1 hsz ht
  go_wp2_with fail
  refine (HDo.out).mono ?_
  rintro e w3 ⟨rfl, hu3⟩
  have HU3 := Lib.hid (HU2.out.next hu3 (fun i hi e => by have := HB.out; omega))
  clear hu3
  go_wp2_with fail
  go_ret
  exact ⟨rfl, HU3.out⟩
end Go.Proofs.YtapjajclmbpjmaaGreatDoor.Sys
