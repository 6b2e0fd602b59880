/- Results that lie in memory, with others beside them. No program here. -/
import Derived.Test.YtapjajclmbpjmaaGreatDoorMem
import Derived.Deep.MidRow
namespace Go.Proofs.YtapjajclmbpjmaaGreatDoor.Mem
open Go.RowKit

/-- A block that is whole, as the kit's range. -/
theorem Blk.whole {w : World} {b : Nat} {cs : List Value} {t : TypeId} (h : Blk w b cs t) : w.rangeAt b 0 cs := by
  intro j v hv
  rw [Nat.zero_add]
  exact h.cell j hv

theorem res_cell_tmp {P : Program} {fn : Func} {p q : Tmp} {ty : TypeId} (h : fn.results = #[.cell p ty, .tmp q]) (tmps : Array Value) (w : World) (b : Nat) (cs : List Value) (t : TypeId) (v : Value) (d : TypeDesc)
    (hp : tmps.getD p undef = .pointer (some ⟨b, 0, none⟩)) (hq : tmps.getD q undef = v) (hc : Blk w b cs t) (hu : P.underlying ty = some d) (hd : d.isRow = true) (hi : (P.info? ty).map (·.size) = some cs.length) :
    (results fn tmps).run P w = .ok (.tuple #[.agg cs.toArray, v]) w := by
  have hp' : tmps[p]?.getD undef = .pointer (some ⟨b, 0, none⟩) := by simpa using hp
  have hq' : tmps[q]?.getD undef = v := by simpa using hq
  simp [results, h, hp', hq', asAddr, run_loadVar_mid w b 0 ty cs d hc.whole hu hd hi]

/-- Three cells, and that they may be written. -/
theorem Blk.three {w : World} {b : Nat} {x y z : Value} {t : TypeId} (h : Blk w b [x, y, z] t) :
    (w.cell? ⟨b, 0, none⟩ = some x ∧ w.cell? ⟨b, 1, none⟩ = some y ∧ w.cell? ⟨b, 2, none⟩ = some z) ∧ (w.frozen? ⟨b, 0, none⟩ = false ∧ w.frozen? ⟨b, 1, none⟩ = false ∧ w.frozen? ⟨b, 2, none⟩ = false) :=
  ⟨⟨h.cell 0 rfl, h.cell 1 rfl, h.cell 2 rfl⟩, h.frozen 0, h.frozen 1, h.frozen 2⟩
/-- Three cells stored, one behind the other. -/
theorem Blk.set3 {w : World} {b : Nat} {x y z : Value} {t : TypeId} (h : Blk w b [x, y, z] t) (x' y' z' : Value) : Blk (((w.setCell ⟨b, 0, none⟩ x').setCell ⟨b, 1, none⟩ y').setCell ⟨b, 2, none⟩ z') b [x', y', z'] t :=
  ((h.set 0 x').set 1 y').set 2 z'
theorem Upd.set3 {S : Nat → Prop} {a w : World} (h : Upd S a w) (b : Nat) (x y z : Value) (hb : b < a.heap.size → S b) : Upd S a (((w.setCell ⟨b, 0, none⟩ x).setCell ⟨b, 1, none⟩ y).setCell ⟨b, 2, none⟩ z) :=
  ((h.setCell x hb).setCell y hb).setCell z hb
end Go.Proofs.YtapjajclmbpjmaaGreatDoor.Mem
