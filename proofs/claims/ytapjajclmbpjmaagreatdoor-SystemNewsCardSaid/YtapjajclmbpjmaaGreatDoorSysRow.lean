/- Systems: what a row's list gives; a Config that came in; a world that holds what is listed. -/
import Derived.Test.YtapjajclmbpjmaaGreatDoorRows
import Derived.Test.YtapjajclmbpjmaaGreatDoorTabM
import Derived.Test.YtapjajclmbpjmaaGreatDoorRow
import Derived.Stop.LaidErr
import Derived.Lib.LaidTab
import Derived.Lib.SmallJoins
import Derived.Shelf.Vars
namespace Go.Proofs.YtapjajclmbpjmaaGreatDoor.Scr
open Go.ChangeShapes Go.WideShapes Go.ChangeAt Go.RowKit Go.Joins Go.Proofs.YtapjajclmbpjmaaGreatDoor.Row Go.Proofs.YtapjajclmbpjmaaGreatDoor.Mem

/-- What each row lists. -/
abbrev L1 : List (String × DataW Unit) := [("besom/script.many", Rows.laid_besom_script_many)]
theorem cellsI : Tryz.prog.cellsOf 3 = 1 := by kernel_rfl
theorem cellsC : Tryz.prog.cellsOf 23 = 5 := by kernel_rfl
theorem cellsSC : Tryz.prog.cellsOf 25 = 8 := by kernel_rfl
theorem tabs_of_laid {W : World} (hL : laidMetH Tryz.prog L1 W) : Tabs W := by
  have h0 : laidMet Tryz.prog L1 W := hL
  have gm : Tryz.prog.globalNamed "besom/script.many" = some 1 := by kernel_rfl
  have hm : Lib.TabIs Tryz.prog W "besom/script.many" .i64 (manyL.map fun n : Nat => (n : Int)) := Lib.tabIs_of_head (rest := []) gm (by kernel_rfl) Tryz.underlying141 Tryz.underlying3 cellsI (by kernel_rfl) h0
  have hc : ∀ (j n : Nat), manyL[j]? = some n → W.cell? ⟨1, j, none⟩ = some (.int .i64 (n : Int)) := by
    intro j n hj
    have hjl : j < manyL.length := (List.getElem?_eq_some_iff.1 hj).1
    rw [hm.cell gm j (by rw [List.length_map]; exact hjl), List.getD_eq_getElem?_getD, List.getElem?_map, hj]
    rfl
  exact ⟨hc, World.block_lt_of_cell? W _ (hc 0 0 rfl)⟩

/-- The cells of a datum of numbers. -/
def cells1 : DataW Unit → List Value
  | .lit (.int k z) => [.int k z]
  | _ => []
def cells2 : DataW Unit → List Value
  | .agg l => l.flatMap cells1
  | d => cells1 d
noncomputable def put (h : Array Obj) (g : Nat) (cs : Array Value) : Array Obj := h.modify g fun
  | .cells _ t frozen => .cells cs t frozen
  | o => o
/-- A world that holds what is listed. -/
noncomputable def laidWorld (os : Os) : World :=
  let w0 := World.holding Tryz.prog os ⟨#[], #[], []⟩
  { w0 with heap := put w0.heap 1 (cells2 Rows.laid_besom_script_many).toArray }
set_option maxRecDepth 1000000 in
theorem laid_met (os : Os) (args : Array Value) : laidMet Tryz.prog L1 ((laidWorld os).forCall (fun _ _ => 0) ⟨#[], args, []⟩).memory :=
  laidMet_of_run' 10 (by kernel_rfl) (by kernel_rfl)

section
variable {H : Type} {enc : TypeId × Value → H}
theorem one_int {W : World} {n : Nat} {cs : List Value} {x : DataW H × List MemPlace} (h : DataW.trod enc Tryz.prog W 0 (fun _ => true) true n 3 cs = some x) : ∃ z, cs = [.int .i64 z] ∧ (Lit.int .i64 z).wf = true := by
  obtain ⟨z, hz, _, hw⟩ := DataW.trod_int Tryz.underlying3 h
  exact ⟨z, hz, hw⟩
theorem len_eight : ∀ cs : List Value, cs.length = 8 → ∃ p0 p1 p2 p3 p4 p5 p6 p7, cs = [p0, p1, p2, p3, p4, p5, p6, p7]
  | [a, b, c, d, e, f, g, h], _ => ⟨a, b, c, d, e, f, g, h, rfl⟩
set_option maxRecDepth 100000 in
theorem open_cfg {W : World} {base : Nat} {v : Value} {d : DataW H} {p : List MemPlace} (hv : Value.okWide Tryz.prog W .any base 25 v) (h : DataW.Trod enc Tryz.prog W 0 (fun _ => true) true 25 v d p) :
    ∃ z0 z1 z2 z3 z4 z5 z6 z7 : Int, v = .agg #[.int .i64 z0, .int .i64 z1, .int .i64 z2, .int .i64 z3, .int .i64 z4, .int .i64 z5, .int .i64 z6, .int .i64 z7] := by
  obtain ⟨cs, rfl, hsz⟩ := okWide_struct Tryz.underlying25 hv
  obtain ⟨fuel, hf⟩ := h
  obtain ⟨y0, y1, y2, y3, m, _, hl, h0, h1, h2, h3⟩ := trod_struct4 Tryz.underlying25 hf
  obtain ⟨ys, n', _, _, hl3, hyl, hf3⟩ := DataW.trod_struct Tryz.underlying23 h3
  obtain ⟨z0, hz0, _⟩ := one_int h0
  obtain ⟨z1, hz1, _⟩ := one_int h1
  obtain ⟨z2, hz2, _⟩ := one_int h2
  have hlen : cs.toList.length = 8 := hl.trans cellsSC
  obtain ⟨p0, p1, p2, p3, p4, p5, p6, p7, hc⟩ := len_eight _ hlen
  have hyl' : ys.length = 5 := hyl
  have q0 := hf3 0 _ rfl
  have q1 := hf3 1 _ rfl
  have q2 := hf3 2 _ rfl
  have q3 := hf3 3 _ rfl
  have q4 := hf3 4 _ rfl
  rw [List.getElem?_eq_getElem (by omega)] at q0 q1 q2 q3 q4
  obtain ⟨z3, hz3, _⟩ := one_int q0
  obtain ⟨z4, hz4, _⟩ := one_int q1
  obtain ⟨z5, hz5, _⟩ := one_int q2
  obtain ⟨z6, hz6, _⟩ := one_int q3
  obtain ⟨z7, hz7, _⟩ := one_int q4
  have e0 : ((cs.toList.drop 0).take (Tryz.prog.cellsOf 3)) = [.int .i64 z0] := hz0
  have e1 : ((cs.toList.drop 1).take (Tryz.prog.cellsOf 3)) = [.int .i64 z1] := hz1
  have e2 : ((cs.toList.drop 2).take (Tryz.prog.cellsOf 3)) = [.int .i64 z2] := hz2
  have e3 : ((((cs.toList.drop 3).take (Tryz.prog.cellsOf 23)).drop 0).take (Tryz.prog.cellsOf 3)) = [.int .i64 z3] := hz3
  have e4 : ((((cs.toList.drop 3).take (Tryz.prog.cellsOf 23)).drop 1).take (Tryz.prog.cellsOf 3)) = [.int .i64 z4] := hz4
  have e5 : ((((cs.toList.drop 3).take (Tryz.prog.cellsOf 23)).drop 2).take (Tryz.prog.cellsOf 3)) = [.int .i64 z5] := hz5
  have e6 : ((((cs.toList.drop 3).take (Tryz.prog.cellsOf 23)).drop 3).take (Tryz.prog.cellsOf 3)) = [.int .i64 z6] := hz6
  have e7 : ((((cs.toList.drop 3).take (Tryz.prog.cellsOf 23)).drop 4).take (Tryz.prog.cellsOf 3)) = [.int .i64 z7] := hz7
  rw [cellsI, hc] at e0 e1 e2
  rw [cellsI, cellsC, hc] at e3 e4 e5 e6 e7
  simp at e0 e1 e2 e3 e4 e5 e6 e7
  subst e0 e1 e2 e3 e4 e5 e6 e7
  refine ⟨z0, z1, z2, z3, z4, z5, z6, z7, ?_⟩
  rw [← Array.toArray_toList (xs := cs), hc]
end
end Go.Proofs.YtapjajclmbpjmaaGreatDoor.Scr
