/- A system's Do: a word that is got. -/
import Derived.Test.YtapjajclmbpjmaaGreatDoorSysDo
import Derived.Test.YtapjajclmbpjmaaGreatDoorAllocSmall2
set_option linter.unusedSimpArgs false
namespace Go.Proofs.YtapjajclmbpjmaaGreatDoor.Sys
open Go.RowKit Go.Proofs.YtapjajclmbpjmaaGreatDoor.Mem Go.Proofs.YtapjajclmbpjmaaGreatDoor.Heap Go.Proofs.YtapjajclmbpjmaaGreatDoor.Obj

theorem rootsGet_any (w : World) (r g n cap : Nat) (hc : w.cell? ⟨r, 0, none⟩ = some (.slice (some ⟨g, 0, none⟩) n cap)) (i : Nat) (hi : i < n) (x : Int) (hx : w.cell? ⟨g, i, none⟩ = some (.int .i64 x)) :
    Calls Tryz.prog 62 #[.pointer (some ⟨r, 0, none⟩), .int .i64 (i : Int)] w fun e w' => e = .returned (.tuple #[.int .i64 x, .int .i64 0]) ∧ w' = w := by
  have cl := World.block_lt_of_cell? w _ hc
  have d0 : decide ((i : Int) < 0) = false := decide_eq_false (by omega)
  have d1 : decide ((n : Int) ≤ (i : Int)) = false := decide_eq_false (by omega)
  have d1' : decide (n ≤ i) = false := decide_eq_false (by omega)
  have i1 : (0 : Int) ≤ (i : Int) := by omega
  have i2 : (i : Int) < (n : Int) := by omega
  go_enter Tryz.func62, Tryz.ntmps62
  go_wp2
  go_ret2
  exact ⟨rfl, rfl⟩
set_option maxRecDepth 20000 in
set_option maxHeartbeats 4000000 in
theorem field_any (w : World) (s r h hwb hsb n g m cap : Nat) (os : List Ob) (rest : List Int) (H : HeapAt w h hwb hsb n os rest) (c1 : w.cell? ⟨s, 8, none⟩ = some (.pointer (some ⟨h, 0, none⟩))) (c2 : w.cell? ⟨s, 9, none⟩ = some (.pointer (some ⟨r, 0, none⟩)))
    (hc : w.cell? ⟨r, 0, none⟩ = some (.slice (some ⟨g, 0, none⟩) m cap)) (i : Nat) (hi : i < m) (a : Nat) (ha : a < 65536) (hx : w.cell? ⟨g, i, none⟩ = some (.int .i64 ((a : Int) + 1))) (o : Ob) (hf : find os a = some o) (f : Nat) (hfl : f < o.len) (hfp : ¬ f < o.ptrs) :
    Calls Tryz.prog 59 #[.pointer (some ⟨s, 0, none⟩), .int .i64 (i : Int), .int .i64 (f : Int), .bool false] w fun e w' => e = .returned (.tuple #[.int .i64 (a : Int), .int .i64 0]) ∧ Upd (fun _ => False) w w' := by
  have HGe := Lib.hid (rootsGet_any w r g m cap hc i hi _ hx)
  have HHd := Lib.hid (head_yes w h hwb hsb n os rest H a o hf)
  have sl := World.block_lt_of_cell? w _ c1
  have z0 : ((a : Int) + 1 == 0) = false := by rw [beq_eq_false_iff_ne]; omega
  have s1 : IntKind.i64.wrap (a : Int) = (a : Int) := IntWalk.i64_in _ (by omega)
  have s2 : IntKind.i64.wrap ((a : Int) + 1 - 1) = (a : Int) := by rw [IntWalk.i64_in _ (by omega)]; omega
  have d0 : decide ((f : Int) < 0) = false := decide_eq_false (by omega)
  have d1 : decide ((o.len : Int) ≤ (f : Int)) = false := decide_eq_false (by omega)
  have d1' : decide (o.len ≤ f) = false := decide_eq_false (by omega)
  have d2 : decide ((f : Int) < (o.ptrs : Int)) = false := decide_eq_false (by omega)
  have d2' : decide (f < o.ptrs) = false := decide_eq_false hfp
  clear H hf hx hc hfl hfp
  go_enter Tryz.func59, Tryz.ntmps59
  go_wp2_with fail
  refine (HGe.out).mono ?_
  rintro e w1 ⟨rfl, rfl⟩
  go_wp2_with fail
  refine (HHd.out).mono ?_
  rintro e w2 ⟨rfl, hu2⟩
  have HU2 := Lib.hid hu2
  clear hu2
  go_wp2_with fail
  go_ret2
  exact ⟨rfl, HU2.out.alloc _⟩
set_option maxRecDepth 20000 in
set_option maxHeartbeats 4000000 in
theorem get_any (w : World) (s r h hwb hsb n g m cap : Nat) (os : List Ob) (rest : List Int) (H : HeapAt w h hwb hsb n os rest) (c1 : w.cell? ⟨s, 8, none⟩ = some (.pointer (some ⟨h, 0, none⟩))) (c2 : w.cell? ⟨s, 9, none⟩ = some (.pointer (some ⟨r, 0, none⟩)))
    (hc : w.cell? ⟨r, 0, none⟩ = some (.slice (some ⟨g, 0, none⟩) m cap)) (i : Nat) (hi : i < m) (a : Nat) (ha : a < 65536) (hx : w.cell? ⟨g, i, none⟩ = some (.int .i64 ((a : Int) + 1))) (o : Ob) (hf : find os a = some o) (f : Nat) (hfl : f < o.len) (hfp : ¬ f < o.ptrs) (x : Int) (hw : o.ws[f]? = some x) :
    Calls Tryz.prog 38 #[.pointer (some ⟨s, 0, none⟩), .int .i64 (i : Int), .int .i64 (f : Int)] w fun e w' => e = .returned (.agg #[.int .i64 0, .int .i64 x]) ∧ Upd (fun _ => False) w w' := by
  have hu := (Upd.refl (fun _ => False) w).alloc (.cells #[.int .i64 0, .int .i64 0] 42)
  have hb := Blk.made w [.int .i64 0, .int .i64 0] 42
  have HFi := Lib.hid (fun (V : World) (hV : Upd (fun _ => False) w V) => field_any V s r h hwb hsb n g m cap os rest (H.quiet hV) (keepC hV c1) (keepC hV c2) (keepC hV hc) i hi a ha (keepC hV hx) o hf f hfl hfp)
  have HRd := Lib.hid (fun (V : World) (hV : Upd (fun _ => False) w V) => read_yes V h hwb hsb n os rest (H.quiet hV) a f o x hf hw)
  have HC1 := Lib.hid c1
  have HU := Lib.hid hu
  have HB := Lib.hid hb
  have hbl := hb.lt
  clear H c1 c2 hc hx hf hw hu hb
  go_enter Tryz.func38, Tryz.ntmps38
  go_upto_region 1 with (fail)
  generalize w.alloc (.cells #[.int .i64 0, .int .i64 0] 42) = w1 at *
  go_wp2_with fail
  refine (HFi.out _ HU.out).mono ?_
  rintro e w2 ⟨rfl, hu2⟩
  have HU2 := Lib.hid (HU.out.trans hu2)
  have HB2 := Lib.hid (HB.out.upd hu2 (fun h => h))
  have c1 := keepC HU2.out HC1.out
  have sl := World.block_lt_of_cell? _ _ c1
  clear hu2
  go_wp2_with fail
  refine (HRd.out _ HU2.out).mono ?_
  rintro e w3 ⟨rfl, hu3⟩
  have HU3 := Lib.hid (HU2.out.trans hu3)
  have hb3 := HB2.out.upd hu3 (fun h => h)
  have HB3 := Lib.hid hb3
  clear hu3 c1 sl
  have r0 := hb3.cell 0 rfl
  have r1 := hb3.cell 1 rfl
  have rf0 := hb3.frozen 0
  have rf1 := hb3.frozen 1
  have rl := hb3.lt
  clear hb3
  go_wp2_with fail
  exact bodyPost_ret (res_cell1 rfl _ _ w.heap.size [.int .i64 0, .int .i64 x] 42 _ rfl ((HB3.out.set 0 (.int .i64 0)).set 1 (.int .i64 x)) Tryz.underlying42 rfl (by kernel_rfl)) rfl ⟨rfl, (HU3.out.setCell (p := ⟨w.heap.size, 0, none⟩) _ (fun h => by have h' : w.heap.size < w.heap.size := h; omega)).setCell (p := ⟨w.heap.size, 1, none⟩) _ (fun h => by have h' : w.heap.size < w.heap.size := h; omega)⟩
end Go.Proofs.YtapjajclmbpjmaaGreatDoor.Sys
