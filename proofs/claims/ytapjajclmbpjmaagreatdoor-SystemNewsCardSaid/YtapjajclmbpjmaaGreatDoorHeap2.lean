/- Contracts of package heap: what is looked up, read and written. -/
import Derived.Test.YtapjajclmbpjmaaGreatDoorHeap
import Derived.Test.YtapjajclmbpjmaaGreatDoorForm
namespace Go.Proofs.YtapjajclmbpjmaaGreatDoor.Heap
open Go.RowKit Go.Proofs.YtapjajclmbpjmaaGreatDoor.Mem Go.Proofs.YtapjajclmbpjmaaGreatDoor.Obj

set_option maxHeartbeats 1000000 in
theorem head_no (w : World) (h wb sb n : Nat) (os : List Ob) (rest : List Int) (H : HeapAt w h wb sb n os rest) (x : Int) (hf : lookAt os x = none) :
    Calls Tryz.prog 72 #[.pointer (some ⟨h, 0, none⟩), .int .i64 x] w fun e w' => e = .returned (.tuple #[.agg #[.int .i64 0, .int .i64 0, .int .i64 0], .int .i64 3]) ∧ Upd (fun _ => False) w w' := by
  have hb0 := Blk.made w [.int .i64 0, .int .i64 0, .int .i64 0] 136
  have hs := H.size
  have hhi := H.hi
  have c0 := H.str.cell 0 rfl
  have c1 := H.str.cell 1 rfl
  have c2 := H.str.cell 2 rfl
  have l1 := H.str.lt
  have l2 := H.wds.lt
  have l3 := H.sts.lt
  have HB0 := Lib.hid hb0
  have HU := Lib.hid ((Upd.refl (fun _ => False) w).alloc (.cells #[.int .i64 0, .int .i64 0, .int .i64 0] 136))
  by_cases h0 : x < 0
  · have d0 : decide (x < 0) = true := decide_eq_true h0
    clear H hf hb0
    go_enter Tryz.func72, Tryz.ntmps72
    go_wp2
    refine bodyPost_ret (res_cell_tmp rfl _ _ w.heap.size _ 136 _ _ rfl rfl HB0.out Tryz.underlying136 rfl (by kernel_rfl)) rfl ⟨rfl, HU.out⟩
  · have d0 : decide (x < 0) = false := decide_eq_false h0
    obtain ⟨a, rfl⟩ : ∃ a : Nat, x = (a : Int) := ⟨x.toNat, by omega⟩
    rw [lookAt_nat] at hf
    by_cases h1 : a < top os
    · have c3 := H.mark h1
      rw [hf, Option.isSome_none] at c3
      have d1 : decide ((top os : Int) ≤ (a : Int)) = false := decide_eq_false (by omega)
      have d1' : decide (top os ≤ a) = false := decide_eq_false (by omega)
      have ha1 : a < n := by omega
      have ha2 : (a : Int) < (n : Int) := by omega
      generalize top os = T at *
      clear H hf hb0 hs
      go_enter Tryz.func72, Tryz.ntmps72
      go_wp2
      refine bodyPost_ret (res_cell_tmp rfl _ _ w.heap.size _ 136 _ _ rfl rfl HB0.out Tryz.underlying136 rfl (by kernel_rfl)) rfl ⟨rfl, HU.out⟩
    · have d1 : decide ((top os : Int) ≤ (a : Int)) = true := decide_eq_true (by omega)
      have d1' : decide (top os ≤ a) = true := decide_eq_true (by omega)
      generalize top os = T at *
      clear H hf hb0 hs
      go_enter Tryz.func72, Tryz.ntmps72
      go_wp2
      refine bodyPost_ret (res_cell_tmp rfl _ _ w.heap.size _ 136 _ _ rfl rfl HB0.out Tryz.underlying136 rfl (by kernel_rfl)) rfl ⟨rfl, HU.out⟩

set_option maxHeartbeats 1000000 in
theorem field_yes (w : World) (h wb sb n : Nat) (os : List Ob) (rest : List Int) (H : HeapAt w h wb sb n os rest) (a f : Nat) (o : Ob) (hf : find os a = some o) (hfl : f < o.len) :
    Calls Tryz.prog 83 #[.pointer (some ⟨h, 0, none⟩), .int .i64 (a : Int), .int .i64 (f : Int)] w fun e w' => e = .returned (.tuple #[.agg #[.int .i64 (o.kind : Int), .int .i64 (o.len : Int), .int .i64 (o.ptrs : Int)], .int .i64 0]) ∧ Upd (fun _ => False) w w' := by
  have hb0 := Blk.made w [.int .i64 0, .int .i64 0, .int .i64 0] 136
  have HB0 := Lib.hid hb0
  have hu := ((Upd.refl (fun _ => False) w).alloc (.cells #[.int .i64 0, .int .i64 0, .int .i64 0] 136))
  have HU := Lib.hid hu
  have d0 : decide ((f : Int) < 0) = false := decide_eq_false (by omega)
  have d1 : decide ((o.len : Int) ≤ (f : Int)) = false := decide_eq_false (by omega)
  have d1' : decide (o.len ≤ f) = false := decide_eq_false (by omega)
  have hhd := head_yes _ h wb sb n os rest (H.quiet hu) a o hf
  have HHd := Lib.hid hhd
  clear hb0 hu hhd H hf
  go_enter Tryz.func83, Tryz.ntmps83
  go_wp2_with fail
  refine HHd.out.mono ?_
  rintro e w1 ⟨rfl, hu1⟩
  have g0 := HB0.out.upd hu1 (fun h => h)
  obtain ⟨_, hf0, hf1, hf2⟩ := g0.three
  have k0 := g0.cell 0 rfl
  have k1 := g0.cell 1 rfl
  have k2 := g0.cell 2 rfl
  have G0 := Lib.hid g0
  have HU1 := Lib.hid (HU.out.trans hu1)
  have hl := g0.lt
  clear g0 hu1
  go_wp2
  refine bodyPost_ret (res_cell_tmp rfl _ _ w.heap.size _ 136 _ _ rfl rfl ((G0.out.set3 _ _ _).alloc _) Tryz.underlying136 rfl (by kernel_rfl)) rfl ⟨rfl, (HU1.out.set3 _ _ _ _ (by omega)).alloc _⟩

theorem own_len {o : Ob} (h : o.good) : o.len ≤ 4095 := h.2.2.1

set_option maxHeartbeats 1000000 in
theorem read_yes (w : World) (h wb sb n : Nat) (os : List Ob) (rest : List Int) (H : HeapAt w h wb sb n os rest) (a f : Nat) (o : Ob) (x : Int) (hf : find os a = some o) (hx : o.ws[f]? = some x) :
    Calls Tryz.prog 60 #[.pointer (some ⟨h, 0, none⟩), .int .i64 (a : Int), .int .i64 (f : Int)] w fun e w' => e = .returned (.tuple #[.int .i64 x, .int .i64 0]) ∧ Upd (fun _ => False) w w' := by
  have hfl : f < o.len := (List.getElem?_eq_some_iff.1 hx).1
  have hlt := find_lt hf
  have hs := H.size
  have hhi := H.hi
  have hhd := field_yes _ h wb sb n os rest H a f o hf hfl
  have HHd := Lib.hid hhd
  have HH := Lib.hid H
  have HF := Lib.hid hf
  have HX := Lib.hid hx
  have i1 : a + 1 + f < n := by omega
  have i2 : a ≤ 65536 := by omega
  have i3 : f ≤ 65536 := by omega
  clear hhd H hf hx hs hlt hhi
  go_enter Tryz.func60, Tryz.ntmps60
  go_wp2_with fail
  refine HHd.out.mono ?_
  rintro e w1 ⟨rfl, hu1⟩
  have H1 := HH.out.quiet hu1
  have c0 := H1.str.cell 0 rfl
  have c1 := H1.field HF.out HX.out
  have l1 := H1.str.lt
  have l2 := H1.wds.lt
  have HU1 := Lib.hid (hu1.alloc (.cells #[.int .i64 (o.kind : Int), .int .i64 (o.len : Int), .int .i64 (o.ptrs : Int)] 136))
  clear H1 hu1
  go_wp2
  go_ret2
  exact ⟨rfl, HU1.out⟩
end Go.Proofs.YtapjajclmbpjmaaGreatDoor.Heap
