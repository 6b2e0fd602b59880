/- A fixed fact of systems. -/
import Derived.Test.YtapjajclmbpjmaaGreatDoorSysGet2
import Derived.Test.YtapjajclmbpjmaaGreatDoorKeeperAwake
set_option linter.unusedSimpArgs false
namespace Go.Proofs.YtapjajclmbpjmaaGreatDoor.Sys
open Go.RowKit Go.Proofs.YtapjajclmbpjmaaGreatDoor.Mem Go.Proofs.YtapjajclmbpjmaaGreatDoor.Heap Go.Proofs.YtapjajclmbpjmaaGreatDoor.Obj

theorem numbers18_40 (V : World) : Calls Tryz.prog 14 #[.int .u8 40, .int .u8 0, .int .u8 0, .agg #[.int .u8 0, .int .u8 0, .int .u8 0, .int .u8 0, .int .u8 0]] V fun e w' => e = .returned (.agg #[.int .i64 41, .int .i64 1, .int .i64 8, .int .i64 1, .int .i64 2, .int .i64 1, .int .i64 1, .int .i64 2]) ∧ Upd (fun _ => False) V w' := by
  have h := numbers18_zero V 40 (by decide)
  rw [show ((40 : Nat) : Int) = 40 from rfl, show (1 + 40 : Int) = 41 from rfl] at h
  exact h
/-- The two objects that are made. -/
def twoObs : List Ob := [] ++ ⟨1, 0, List.replicate 2 0⟩ :: ⟨15, 0, List.replicate 4 0⟩ :: []
/-- What stands behind the first object. -/
def Got (w w' : World) (s h hwb hsb a bb r : Nat) : Prop :=
  ∃ g cap, HeapAt w' h hwb hsb 41 twoObs ((List.replicate 41 0).drop 8) ∧ w'.cell? ⟨r, 0, none⟩ = some (.slice (some ⟨g, 0, none⟩) 1 cap) ∧ w'.cell? ⟨g, 0, none⟩ = some (.int .i64 (((0 : Nat) : Int) + 1)) ∧ Blk w' s (sysCells 41 1 8 1 2 1 1 2 h r a) 63 ∧ Upd (fun x => x = s ∨ x = h ∨ x = hwb ∨ x = hsb ∨ x = bb ∨ x = r) w w'
set_option maxRecDepth 20000 in
theorem first_small (w0 w : World) (T : Scr.Tabs w) (s h hwb hsb a bb r rc rwb : Nat) (N : SysNew w0 w s h hwb hsb a bb r rc rwb 41 1 8 1 2 1 1 2) (th k l p : Int) (e1 : th = ((0 : Nat) : Int)) (e2 : k = ((1 : Nat) : Int)) (e3 : l = ((2 : Nat) : Int)) (e4 : p = ((0 : Nat) : Int)) :
    Calls Tryz.prog 21 #[.pointer (some ⟨s, 0, none⟩), .agg #[.int .i64 1, .int .i64 th, .int .i64 k, .int .i64 p, .int .i64 l]] w fun e w' => e = .returned (.agg #[.int .i64 0, .int .i64 0]) ∧ Got w w' s h hwb hsb a bb r := by
  have hm := N.mids
  have htp := N.tops
  have hap := N.apart
  have l1 := N.heap.str.lt
  have l2 := N.heap.wds.lt
  have l3 := N.heap.sts.lt
  have l4 := N.rts.lt
  have l5 := N.str.lt
  have l6 := N.buf.lt
  have l7 := N.alc.lt
  have hb8 : bufOf 8 = ((8 : Nat) : Int) := by unfold bufOf; omega
  have hg : goodB ((1 : Nat) : Int) ((2 : Nat) : Int) ((0 : Nat) : Int) = true := goodB_yes (by omega)
  refine (do_alloc w T s (sysCells 41 1 8 1 2 1 1 2 h r a) N.str rfl rfl th k p l (fun x => x = h ∨ x = hwb ∨ x = hsb ∨ x = bb ∨ x = r) (by omega) (fun x hx => by omega)
    (fun V w' => MadeEndB V w' h hwb hsb bb 41 r 0 twoObs ((List.replicate 41 0).drop 8) [] 0 (.pointer (some ⟨rc, 0, none⟩)) (.int .i64 (partOf 1)))
    (fun V w' hq => hq.2.2) (fun V hV => ?_)).mono ?_
  · have hs' := hV.size
    have hA := N.alc
    rw [hb8] at hA
    have hB := N.buf
    rw [e1, e2, e3, e4]
    exact make_firstB V s r a h hwb hsb bb 41 0 _ _ ((N.str.upd hV (fun h => h)).cell 9 rfl) ((N.str.upd hV (fun h => h)).cell 10 rfl) _ _ (N.rts.upd hV (fun h => h)) ⟨by omega, by omega, by omega, by omega, by omega, by omega, by omega⟩ ⟨by omega, by omega⟩ ⟨by omega, by omega, by omega, by omega⟩ (by omega) ((0 : Nat) : Int) ((1 : Nat) : Int) ((2 : Nat) : Int) ((0 : Nat) : Int)
      (fun W hW => alloc_small W a h hwb hsb 41 bb 1 [] (List.replicate 41 0) (N.heap.quiet (hV.trans hW)) 8 (hA.upd (hV.trans hW) (fun h => h)) (List.replicate 1 (-1)) (hB.upd (hV.trans hW) (fun h => h)) ⟨by omega, by omega, by omega, by omega, by omega, by omega, by omega⟩ 0 rfl rfl 1 2 0 4 hg (by omega) (by omega) (by omega) (by omega) (by rw [List.length_replicate]; omega))
  · rintro e w' ⟨rfl, V, w1, rb, hV, ⟨hH, ⟨q, cap', hr1, hro⟩, hu1⟩, h1, h2, hu, hs1⟩
    have hs' := hV.size
    obtain ⟨g, cap, hq, hgb, hgl, _⟩ := own_some hro (by omega)
    injection hq with hq1 _ hq2
    subst hq1 hq2
    have g0 := own_at hro 0 (u := .int .i64 (((0 : Nat) : Int) + 1)) rfl
    refine ⟨rfl, g, cap', hH.upd hu (by omega) (by omega) (by omega), keepS hu (by omega) (hr1.cell 0 rfl), keepS hu (by omega) g0, hs1, ?_⟩
    have u1 : Upd (fun x => x = s ∨ x = h ∨ x = hwb ∨ x = hsb ∨ x = bb ∨ x = r) w w1 := (hV.mono (fun _ _ h => h.elim)).trans (hu1.mono (fun x _ hx => by omega))
    exact u1.next hu (fun i hi e => by omega)
theorem then_get (w' : World) (T : Scr.Tabs w') (w : World) (s h hwb hsb a bb r : Nat) (G : Got w w' s h hwb hsb a bb r) (i f : Int) (e1 : i = ((0 : Nat) : Int)) (e2 : f = ((1 : Nat) : Int)) :
    Calls Tryz.prog 21 #[.pointer (some ⟨s, 0, none⟩), .agg #[.int .i64 8, .int .i64 i, .int .i64 f, .int .i64 0, .int .i64 0]] w' fun e w2 => e = .returned (.agg #[.int .i64 0, .int .i64 0]) ∧ Upd (fun _ => False) w' w2 := by
  obtain ⟨g, cap, hH, c0, g0, hs, _⟩ := G
  refine do_get w' T s (hs.cell 11 rfl) i f 0 (fun V hV => ?_)
  rw [e1, e2]
  exact get_any V s r h hwb hsb 41 g 1 cap twoObs _ (hH.quiet hV) (keepC hV (hs.cell 8 rfl)) (keepC hV (hs.cell 9 rfl)) (keepC hV c0) 0 (by omega) 0 (by omega) (keepC hV g0) ⟨1, 0, List.replicate 2 0⟩ rfl 1 (by decide) (by decide) 0 rfl
end Go.Proofs.YtapjajclmbpjmaaGreatDoor.Sys
