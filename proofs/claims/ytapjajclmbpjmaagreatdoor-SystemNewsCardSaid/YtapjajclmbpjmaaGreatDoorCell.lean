/- Contracts of package cell, and of what is made of cells: fresh ones. -/
import Derived.Test.YtapjajclmbpjmaaGreatDoorHeap4
import Derived.Test.YtapjajclmbpjmaaGreatDoorApp
set_option linter.unusedSimpArgs false
namespace Go.Proofs.YtapjajclmbpjmaaGreatDoor.Sys
open Go.RowKit Go.Proofs.YtapjajclmbpjmaaGreatDoor.Mem Go.Proofs.YtapjajclmbpjmaaGreatDoor.Heap

/-- Cells that nobody has touched (or whose log was cleared): what stands in them. -/
structure CellsAt (w : World) (c wb : Nat) (ws : List Int) : Prop where
  str : Blk w c [.slice (some ⟨wb, 0, none⟩) ws.length ws.length, .slice none 0 0] 127
  wds : Blk w wb (ints ws) 3
  ne : c ≠ wb
theorem CellsAt.upd {S : Nat → Prop} {w w' : World} {c wb : Nat} {ws : List Int} (h : CellsAt w c wb ws) (u : Upd S w w') (h1 : ¬ S c) (h2 : ¬ S wb) : CellsAt w' c wb ws := ⟨h.str.upd u h1, h.wds.upd u h2, h.ne⟩
theorem CellsAt.quiet {w w' : World} {c wb : Nat} {ws : List Int} (h : CellsAt w c wb ws) (u : Upd (fun _ => False) w w') : CellsAt w' c wb ws := h.upd u (fun h => h) (fun h => h)
/-- What cell.New answers, if there may be so many. -/
def NewCells (w : World) (n : Nat) (e : Ending) (w' : World) : Prop :=
  ∃ c wb, e = .returned (.tuple #[.pointer (some ⟨c, 0, none⟩), .int .i64 0]) ∧ CellsAt w' c wb (List.replicate n 0) ∧ w.heap.size ≤ c ∧ w.heap.size ≤ wb ∧ Upd (fun _ => False) w w'
theorem made_zeros (n : Nat) : (madeCells #[Value.int .i64 0] n) = (ints (List.replicate n 0)).toArray := by
  rw [madeCells_one]
  simp [ints]
set_option maxHeartbeats 1000000 in
theorem cells_new (n : Nat) (w : World) (h0 : 1 ≤ n) (h1 : n ≤ 65536) : Calls Tryz.prog 35 #[.int .i64 (n : Int)] w (NewCells w n) := by
  have d0 : decide ((n : Int) < 1) = false := decide_eq_false (by omega)
  have d0' : decide (n < 1) = false := decide_eq_false (by omega)
  have d1 : decide (65536 < (n : Int)) = false := decide_eq_false (by omega)
  have d1' : decide (65536 < n) = false := decide_eq_false (by omega)
  have hmk1 := run_make_row' (P := Tryz.prog) 47 3 (.int .i64 0) 8 Tryz.underlying47 infoInt rfl .i64 .i64 n (by omega) (by omega)
  rw [made_zeros] at hmk1
  go_enter Tryz.func35, Tryz.ntmps35
  go_wp2_with fail
  go_ret2
  refine ⟨w.heap.size + 1, w.heap.size, rfl, ⟨?_, (Blk.made w (ints (List.replicate n 0)) 3).alloc _, by omega⟩, by omega, by omega, ((Upd.refl _ w).alloc _).alloc _⟩
  rw [List.length_replicate]
  exact Blk.made' w _ _ _

attribute [local go_sem] max2_int max_two min2_int min_two
/-- A part's number of roots. -/
def partOf (x : Int) : Int := min (max x 1) 64
/-- What roots.New answers. -/
def NewRoots (w : World) (x : Int) (e : Ending) (w' : World) : Prop :=
  ∃ r c wb, e = .returned (.pointer (some ⟨r, 0, none⟩)) ∧ Blk w' r [.slice none 0 0, .pointer (some ⟨c, 0, none⟩), .int .i64 (partOf x)] 86 ∧ CellsAt w' c wb [0] ∧ r ≠ c ∧ r ≠ wb ∧ w.heap.size ≤ r ∧ w.heap.size ≤ c ∧ w.heap.size ≤ wb ∧ Upd (fun _ => False) w w'
theorem roots_new (x : Int) (w : World) : Calls Tryz.prog 20 #[.int .i64 x] w (NewRoots w x) := by
  have HC := Lib.hid (cells_new 1 w (by omega) (by omega))
  go_enter Tryz.func20, Tryz.ntmps20
  go_wp2_with fail
  refine (HC.out).mono ?_
  rintro e w1 ⟨c, wb, rfl, hc, h1, h2, hu⟩
  have HCe := Lib.hid hc
  have HU := Lib.hid hu
  have l1 := hc.str.lt
  have l2 := hc.wds.lt
  have hs := hu.size
  clear hc hu
  go_wp2_with fail
  go_ret
  exact ⟨w1.heap.size, c, wb, rfl, Blk.made w1 _ _, HCe.out.quiet ((Upd.refl _ w1).alloc _), by omega, by omega, by omega, h1, h2, HU.out.alloc _⟩
/-- What spill.New and deque.New answer. -/
def NewOfCells (w : World) (t : TypeId) (n room : Nat) (e : Ending) (w' : World) : Prop :=
  ∃ s c wb, e = .returned (.tuple #[.pointer (some ⟨s, 0, none⟩), .int .i64 0]) ∧ Blk w' s [.pointer (some ⟨c, 0, none⟩), .int .i64 (room : Int)] t ∧ CellsAt w' c wb (List.replicate n 0) ∧ s ≠ c ∧ s ≠ wb ∧ w.heap.size ≤ s ∧ w.heap.size ≤ c ∧ w.heap.size ≤ wb ∧ Upd (fun _ => False) w w'
theorem spill_new (n : Nat) (w : World) (h0 : 1 ≤ n) (h1 : n ≤ 65534) : Calls Tryz.prog 51 #[.int .i64 (n : Int)] w (NewOfCells w 157 (2 + n) n) := by
  have HC := Lib.hid (cells_new (2 + n) w (by omega) (by omega))
  have d0 : decide ((n : Int) < 1) = false := decide_eq_false (by omega)
  have d0' : decide (n < 1) = false := decide_eq_false (by omega)
  have d1 : decide (65534 < (n : Int)) = false := decide_eq_false (by omega)
  have d1' : decide (65534 < n) = false := decide_eq_false (by omega)
  have s1 : IntKind.i64.wrap (2 + (n : Int)) = ((2 + n : Nat) : Int) := by rw [IntWalk.i64_in _ (by omega)]; omega
  go_enter Tryz.func51, Tryz.ntmps51
  go_wp2_with fail
  refine (HC.out).mono ?_
  rintro e w1 ⟨c, wb, rfl, hc, h1, h2, hu⟩
  have HCe := Lib.hid hc
  have HU := Lib.hid hu
  have l1 := hc.str.lt
  have l2 := hc.wds.lt
  have hs := hu.size
  clear hc hu
  go_wp2_with fail
  go_ret2
  exact ⟨w1.heap.size, c, wb, rfl, Blk.made w1 _ _, HCe.out.quiet ((Upd.refl _ w1).alloc _), by omega, by omega, by omega, h1, h2, HU.out.alloc _⟩
theorem deque_new (n : Nat) (w : World) (h0 : 2 ≤ n) (h1 : n ≤ 1024) : Calls Tryz.prog 53 #[.int .i64 (n : Int)] w (NewOfCells w 161 (2 + n) n) := by
  have HC := Lib.hid (cells_new (2 + n) w (by omega) (by omega))
  have d0 : decide ((n : Int) < 2) = false := decide_eq_false (by omega)
  have d0' : decide (n < 2) = false := decide_eq_false (by omega)
  have d1 : decide (1024 < (n : Int)) = false := decide_eq_false (by omega)
  have d1' : decide (1024 < n) = false := decide_eq_false (by omega)
  have s1 : IntKind.i64.wrap (2 + (n : Int)) = ((2 + n : Nat) : Int) := by rw [IntWalk.i64_in _ (by omega)]; omega
  go_enter Tryz.func53, Tryz.ntmps53
  go_wp2_with fail
  refine (HC.out).mono ?_
  rintro e w1 ⟨c, wb, rfl, hc, h1, h2, hu⟩
  have HCe := Lib.hid hc
  have HU := Lib.hid hu
  have l1 := hc.str.lt
  have l2 := hc.wds.lt
  have hs := hu.size
  clear hc hu
  go_wp2_with fail
  go_ret2
  exact ⟨w1.heap.size, c, wb, rfl, Blk.made w1 _ _, HCe.out.quiet ((Upd.refl _ w1).alloc _), by omega, by omega, by omega, h1, h2, HU.out.alloc _⟩
/-- What offer.New answers. -/
def NewOffer (w : World) (n : Nat) (e : Ending) (w' : World) : Prop :=
  ∃ o c wb ib, e = .returned (.tuple #[.pointer (some ⟨o, 0, none⟩), .int .i64 0]) ∧ Blk w' o [.pointer (some ⟨c, 0, none⟩), .slice (some ⟨ib, 0, none⟩) n n] 159 ∧ CellsAt w' c wb [0] ∧ Blk w' ib (bools (List.replicate n false)) 4 ∧ o ≠ c ∧ o ≠ wb ∧ o ≠ ib ∧ ib ≠ c ∧ ib ≠ wb ∧ w.heap.size ≤ o ∧ w.heap.size ≤ c ∧ w.heap.size ≤ wb ∧ w.heap.size ≤ ib ∧ Upd (fun _ => False) w w'
theorem made_falses (n : Nat) : (madeCells #[Value.bool false] n) = (bools (List.replicate n false)).toArray := by
  rw [madeCells_one]
  simp [bools]
theorem offer_new (n : Nat) (w : World) (h0 : 1 ≤ n) (h1 : n ≤ 64) : Calls Tryz.prog 52 #[.int .i64 (n : Int)] w (NewOffer w n) := by
  have HC := Lib.hid (cells_new 1 w (by omega) (by omega))
  have d0 : decide ((n : Int) < 1) = false := decide_eq_false (by omega)
  have d0' : decide (n < 1) = false := decide_eq_false (by omega)
  have d1 : decide (64 < (n : Int)) = false := decide_eq_false (by omega)
  have d1' : decide (64 < n) = false := decide_eq_false (by omega)
  have hmk2 := run_make_row' (P := Tryz.prog) 68 4 (.bool false) 1 Tryz.underlying68 infoBool rfl .i64 .i64 n (by omega) (by omega)
  rw [made_falses] at hmk2
  go_enter Tryz.func52, Tryz.ntmps52
  go_wp2_with fail
  refine (HC.out).mono ?_
  rintro e w1 ⟨c, wb, rfl, hc, h1, h2, hu⟩
  have HCe := Lib.hid hc
  have HU := Lib.hid hu
  have l1 := hc.str.lt
  have l2 := hc.wds.lt
  have hs := hu.size
  clear hc hu
  go_wp2_with fail
  go_ret2
  exact ⟨w1.heap.size + 1, c, wb, w1.heap.size, rfl, Blk.made' w1 _ _ _, HCe.out.quiet (((Upd.refl _ w1).alloc _).alloc _), (Blk.made w1 (bools (List.replicate n false)) 4).alloc _, by omega, by omega, by omega, by omega, by omega, by omega, h1, h2, by omega, (HU.out.alloc _).alloc _⟩
end Go.Proofs.YtapjajclmbpjmaaGreatDoor.Sys
