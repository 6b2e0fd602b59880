/- Package cell: a touch, whatever it does; the log grows. -/
import Derived.Test.YtapjajclmbpjmaaGreatDoorMarkNew2
import Derived.Test.YtapjajclmbpjmaaGreatDoorOwnSet
set_option linter.unusedSimpArgs false
namespace Go.Proofs.YtapjajclmbpjmaaGreatDoor.Sys
open Go.RowKit Go.Proofs.YtapjajclmbpjmaaGreatDoor.Mem Go.Proofs.YtapjajclmbpjmaaGreatDoor.Heap

/-- Cells, and their log: its row (block, room) and how long it is. -/
structure Cells (w : World) (B c wb : Nat) (p : Option Addr) (cap m : Nat) (ws : List Int) : Prop where
  str : Blk w c [.slice (some ⟨wb, 0, none⟩) ws.length ws.length, .slice p m cap] 127
  wds : Blk w wb (ints ws) 3
  log : ∃ L, w.ownsRow B 201 5 (.slice p m cap) m L
  ne : c ≠ wb
  lo : c < B ∧ wb < B
/-- What a touch may turn. -/
def TouchS (c wb : Nat) (p : Option Addr) (k : Nat) : Prop := k = c ∨ k = wb ∨ ∃ a, p = some a ∧ a.block = k
/-- What is behind a touch. -/
def TouchEnd (w w' : World) (B c wb : Nat) (p : Option Addr) (m : Nat) (ws : List Int) : Prop :=
  ∃ q cap', Cells w' B c wb q cap' (m + 1) ws ∧ (q = p ∨ ∃ a, q = some a ∧ w.heap.size ≤ a.block) ∧ Upd (TouchS c wb p) w w'
set_option maxRecDepth 20000 in
set_option maxHeartbeats 4000000 in
/-- A touch: the word becomes what 'turn' tells. -/
theorem touch_any (w : World) (B c wb : Nat) (p : Option Addr) (cap m : Nat) (ws : List Int) (H : Cells w B c wb p cap m ws) (hB : B ≤ w.heap.size) (hm : m < 200000) (who place : Nat) (what : Int) (hwho : who < 64) (was : Int) (hp : ws[place]? = some was)
    (f : FuncId) (caps : Array Value) (now : Int) (ok : Bool) (hcf : ∀ args V, (callFunc f args).run Tryz.prog V = .ok (.enter f args) V) (hturn : ∀ V, Upd (fun _ => False) w V → Calls Tryz.prog f (#[.int .i64 was] ++ caps) V fun e w' => e = .returned (.tuple #[.int .i64 now, .bool ok]) ∧ w' = V) :
    Calls Tryz.prog 93 #[.pointer (some ⟨c, 0, none⟩), .int .i64 (who : Int), .int .i64 (place : Int), .int .i64 what, .func (.func f) #[] caps] w fun e w' =>
      e = .returned (.tuple #[.int .i64 (if ok then was else 0), .int .i64 (if ok then 0 else 8)]) ∧ TouchEnd w w' B c wb p m (ws.set place now) := by
  obtain ⟨i0, hi0, hz0, hz1, hz2⟩ := info_parts infoTouch
  have HT := Lib.hid hturn
  have hpl : place < ws.length := (List.getElem?_eq_some_iff.1 hp).1
  have c0 := H.str.cell 0 rfl
  have c1 := H.str.cell 1 rfl
  have cf0 := H.str.frozen 0
  have cf1 := H.str.frozen 1
  have cl := H.str.lt
  have b0 : w.cell? ⟨wb, place, none⟩ = some (.int .i64 was) := H.wds.cell place (by rw [ints, List.getElem?_map, hp]; rfl)
  have bf := H.wds.frozen place
  have bl := H.wds.lt
  have d1 : decide ((who : Int) < 0) = false := decide_eq_false (by omega)
  have d2 : decide ((64 : Int) ≤ (who : Int)) = false := decide_eq_false (by omega)
  have d2' : decide (64 ≤ who) = false := decide_eq_false (by omega)
  have d3 : decide ((place : Int) < 0) = false := decide_eq_false (by omega)
  have d4 : decide ((ws.length : Int) ≤ (place : Int)) = false := decide_eq_false (by omega)
  have d4' : decide (ws.length ≤ place) = false := decide_eq_false (by omega)
  have d5 : decide ((200000 : Int) ≤ (m : Int)) = false := decide_eq_false (by omega)
  have d5' : decide (200000 ≤ m) = false := decide_eq_false (by omega)
  have i1 : (0 : Int) ≤ (place : Int) := by omega
  have i2 : (place : Int) < (ws.length : Int) := by omega
  have hne := H.ne
  have HH := Lib.hid H
  have Hp := Lib.hid hp
  clear hturn H hp
  go_enter Tryz.func93, Tryz.ntmps93
  go_wp2_with fail
  refine (HT.out _ (Upd.refl _ _)).mono ?_
  rintro e w1 ⟨rfl, rfl⟩
  have hs1 := HH.out.str.setOther (a := ⟨wb, place, none⟩) (.int .i64 now) hne
  have hs2 : Blk (w1.setCell ⟨wb, place, none⟩ (.int .i64 now)) wb (ints (ws.set place now)) 3 := by
    have h := HH.out.wds.set place (.int .i64 now)
    rwa [show (ints ws).set place (.int .i64 now) = ints (ws.set place now) by simp [ints, List.map_set]] at h
  go_upto_region 6 with (fail)
  obtain ⟨L, ho⟩ := HH.out.log
  have hbk : ∀ k, (Value.slice p m cap).ownBlock = some k → B ≤ k := fun k hk => (ho.lt k hk).1
  have hlo := HH.out.lo
  have hu2 : Upd (fun k => k = wb) w1 (w1.setCell ⟨wb, place, none⟩ (.int .i64 now)) := (Upd.refl _ w1).setCell (p := ⟨wb, place, none⟩) _ (fun _ => rfl)
  have ho2 := own_upd ho hu2 (fun k hk e => by have := hbk k hk; omega)
  have hsz2 : (w1.setCell ⟨wb, place, none⟩ (.int .i64 now)).heap.size = w1.heap.size := by simp
  generalize w1.setCell ⟨wb, place, none⟩ (.int .i64 now) = w2 at *
  clear c0 c1 cf0 cf1 b0 bf cl bl
  have c0 := hs1.cell 0 rfl
  have c1 := hs1.cell 1 rfl
  have cf1 := hs1.frozen 1
  have cl := hs1.lt
  have HS1 := Lib.hid hs1
  have HS2 := Lib.hid hs2
  have HU2 := Lib.hid hu2
  have HO2 := Lib.hid ho2
  have HSz := Lib.hid hsz2
  clear hs1 hs2 hu2 ho2 ho hsz2
  go_wp2_with (first | (at_builtin; refine wpList_append_lies _ rfl _ _ 125 rfl B 201 i0 _ 5 40 Tryz.underlying125 hi0 hz0 hz1 hz2 rfl (by decide) _ m L rfl (HO2.out.alloc _) ⟨w2.heap.size, 0, none⟩ 1 1 [.int .i64 (who : Int), .int .i64 (place : Int), .int .i64 what, .int .i64 was, .int .i64 now] rfl rfl ?c1 ?c2 (by decide) ?c3 ?c4 ?c5 _ rfl ?_))
  case c1 => exact Mem.cells_new w2 [.int .i64 (who : Int), .int .i64 (place : Int), .int .i64 what, .int .i64 was, .int .i64 now] _
  case c2 => intro u hu; simp only [List.mem_cons, List.not_mem_nil, or_false] at hu; rcases hu with rfl | rfl | rfl | rfl | rfl <;> rfl
  case c3 => simp only [maxLen]; omega
  case c4 => omega
  case c5 => have := HSz.out; simp only [World.size_alloc]; omega
  intro g3 cap3 w3 hO3 hg3 hat3 hlt3
  have hu3 : Upd (fun k => (Value.slice p m cap).ownBlock = some k) w2 w3 := ((Upd.refl _ w2).alloc _).grown hg3 (fun k hk _ => hk)
  have hs1 := HS1.out.upd hu3 (fun e => by have := hbk c e; omega)
  have hs2 := HS2.out.upd hu3 (fun e => by have := hbk wb e; omega)
  have hgl : B ≤ g3 := (hO3.lt g3 rfl).1
  have hq : (some (⟨g3, 0, none⟩ : Addr) = p) ∨ ∃ a : Addr, some (⟨g3, 0, none⟩ : Addr) = some a ∧ w1.heap.size ≤ a.block := by
    rcases hat3 with h | h
    · left
      cases p with
      | none => cases h
      | some a =>
        have ha : a.block = g3 := Option.some.inj h
        obtain ⟨g', cap', hv⟩ : ∃ g' cap', Value.slice (some a) m cap = .slice (some ⟨g', 0, none⟩) m cap' := by
          rcases HO2.out.2 with ⟨hv, _⟩ | ⟨g', cap', cur, hv, _⟩
          · cases hv
          · exact ⟨g', cap', hv⟩
        simp only [Value.slice.injEq, Option.some.injEq] at hv
        rw [hv.1] at ha ⊢
        rw [show g' = g3 from ha]
    · right
      exact ⟨_, rfl, by have := HSz.out; show w1.heap.size ≤ g3; omega⟩
  clear c0 c1 cf1 cl
  have c0 := hs1.cell 0 rfl
  have c1 := hs1.cell 1 rfl
  have cf1 := hs1.frozen 1
  have cl := hs1.lt
  have hlen : (ws.set place now).length = ws.length := List.length_set ..
  have hu4 : Upd (TouchS c wb p) w1 (w3.setCell ⟨c, 1, none⟩ (.slice (some ⟨g3, 0, none⟩) (m + 1) cap3)) := by
    have h1 : Upd (TouchS c wb p) w1 w2 := HU2.out.mono (fun k _ e => .inr (.inl e))
    have h2 : Upd (TouchS c wb p) w1 w3 := h1.next hu3 (fun k _ e => by
      cases p with
      | none => cases e
      | some a => exact .inr (.inr ⟨a, rfl, Option.some.inj e⟩))
    exact h2.setCell (p := ⟨c, 1, none⟩) _ (fun _ => .inl rfl)
  have hfin : Cells (w3.setCell ⟨c, 1, none⟩ (.slice (some ⟨g3, 0, none⟩) (m + 1) cap3)) B c wb (some ⟨g3, 0, none⟩) cap3 (m + 1) (ws.set place now) := by
    refine ⟨?_, hs2.setOther (a := ⟨c, 1, none⟩) _ (fun e => hne e.symm), ⟨_, own_upd hO3 ((Upd.refl (fun k => k = c) w3).setCell (p := ⟨c, 1, none⟩) _ (fun _ => rfl)) (fun k hk e => by have := (hO3.lt k hk).1; omega)⟩, hne, hlo⟩
    rw [hlen]
    exact hs1.set 1 _
  have HFin := Lib.hid hfin
  have HU4 := Lib.hid hu4
  have HQ := Lib.hid hq
  clear hs1 hs2 hO3 hg3 hat3 hu3 hfin hu4 hq hlen
  cases ok
  · go_wp2_with fail
    go_ret2
    exact ⟨rfl, some ⟨g3, 0, none⟩, cap3, HFin.out, HQ.out, HU4.out⟩
  · go_wp2_with fail
    go_ret2
    exact ⟨rfl, some ⟨g3, 0, none⟩, cap3, HFin.out, HQ.out, HU4.out⟩

theorem Cells.quiet {w w' : World} {B c wb : Nat} {p : Option Addr} {cap m : Nat} {ws : List Int} (H : Cells w B c wb p cap m ws) (u : Upd (fun _ => False) w w') : Cells w' B c wb p cap m ws :=
  ⟨H.str.upd u (fun h => h), H.wds.upd u (fun h => h), H.log.imp fun _ h => own_upd h u (fun _ _ h => h), H.ne, H.lo⟩
theorem TouchEnd.from {w w1 w' : World} {B c wb : Nat} {p : Option Addr} {m : Nat} {ws : List Int} (u : Upd (fun _ => False) w w1) (h : TouchEnd w1 w' B c wb p m ws) : TouchEnd w w' B c wb p m ws := by
  obtain ⟨q, cap', h1, h2, h3⟩ := h
  refine ⟨q, cap', h1, ?_, (u.mono (fun _ _ h => h.elim)).trans h3⟩
  rcases h2 with h2 | ⟨a, h2, h4⟩
  · exact .inl h2
  · exact .inr ⟨a, h2, Nat.le_trans u.size h4⟩
theorem run_enter {f : FuncId} {fn : Func} (hf : Tryz.prog.funcs[f]? = some fn) (hn : (fn.name == "runtime.NumGoroutine") = false) (hb : fn.body.isNone = false) (args : Array Value) (w : World) : (callFunc f args).run Tryz.prog w = .ok (.enter f args) w := by
  have h1 : fn.name ≠ "runtime.NumGoroutine" := by simpa using hn
  cases hbb : fn.body with
  | none => rw [hbb] at hb; cases hb
  | some cc => simp [callFunc, hf, h1, hbb]
theorem store_any (w : World) (B c wb : Nat) (p : Option Addr) (cap m : Nat) (ws : List Int) (H : Cells w B c wb p cap m ws) (hB : B ≤ w.heap.size) (hm : m < 200000) (who place : Nat) (hwho : who < 64) (was : Int) (hp : ws[place]? = some was) (x : Int) :
    Calls Tryz.prog 76 #[.pointer (some ⟨c, 0, none⟩), .int .i64 (who : Int), .int .i64 (place : Int), .int .i64 x] w fun e w' => e = .returned (.int .i64 0) ∧ TouchEnd w w' B c wb p m (ws.set place x) := by
  have hbx := Blk.made w [.int .i64 x] 3
  have hu := (Upd.refl (fun _ => False) w).alloc (.cells #[.int .i64 x] 3)
  have HT := Lib.hid (touch_any (w.alloc (.cells #[.int .i64 x] 3)) B c wb p cap m ws (H.quiet hu) (Nat.le_trans hB hu.size) hm who place 2 hwho was hp 94 #[.pointer (some ⟨w.heap.size, 0, none⟩)] x true
    (run_enter Tryz.func94 (by kernel_rfl) (by kernel_rfl)) (fun V hV => store1_any V w.heap.size x was (keepC hV (hbx.cell 0 rfl))))
  have HU := Lib.hid hu
  have hmf : ∀ (fn : Fn) (first cap : Array Value) (w : World), (Instr.makeFunc fn first cap).run Tryz.prog w = .ok (.func fn first cap) w := fun _ _ _ _ => rfl
  clear H hu hbx
  go_enter Tryz.func76, Tryz.ntmps76
  go_wp2_with fail
  refine (HT.out).mono ?_
  rintro e w1 ⟨rfl, ht⟩
  have HE := Lib.hid (ht.from HU.out)
  clear ht
  go_wp2_with fail
  go_ret
  exact ⟨rfl, HE.out⟩
/-- The log is let go. -/
theorem clear_any (w : World) (B c wb : Nat) (p : Option Addr) (cap m : Nat) (ws : List Int) (H : Cells w B c wb p cap m ws) :
    Calls Tryz.prog 77 #[.pointer (some ⟨c, 0, none⟩)] w fun e w' => e = .returned (.tuple #[]) ∧ Cells w' B c wb none 0 0 ws ∧ Upd (fun k => k = c) w w' := by
  have c1 := H.str.cell 1 rfl
  have cf1 := H.str.frozen 1
  have cl := H.str.lt
  have hfin : Cells (w.setCell ⟨c, 1, none⟩ (.slice none 0 0)) B c wb none 0 0 ws := ⟨H.str.set 1 _, H.wds.setOther _ (fun e => H.ne e.symm), ⟨[], rfl, .inl ⟨rfl, rfl⟩⟩, H.ne, H.lo⟩
  have HF := Lib.hid hfin
  clear hfin H
  go_enter Tryz.func77, Tryz.ntmps77
  go_wp2
  go_end0
  exact ⟨rfl, HF.out, (Upd.refl _ w).setCell (p := ⟨c, 1, none⟩) _ (fun _ => rfl)⟩
theorem CellsAt.cells {w : World} {c wb B : Nat} {ws : List Int} (h : CellsAt w c wb ws) (h1 : c < B) (h2 : wb < B) : Cells w B c wb none 0 0 ws := ⟨h.str, h.wds, ⟨[], rfl, .inl ⟨rfl, rfl⟩⟩, h.ne, h1, h2⟩
/-- The first part of the roots is the next one. -/
theorem open_any (w : World) (r c wb : Nat) (lv pv : Value) (v : Int) (hr : Blk w r [lv, .pointer (some ⟨c, 0, none⟩), pv] 86) (H : CellsAt w c wb [v]) (hne : r ≠ c ∧ r ≠ wb) :
    Calls Tryz.prog 55 #[.pointer (some ⟨r, 0, none⟩)] w fun e w' => e = .returned (.tuple #[]) ∧ CellsAt w' c wb [0] ∧ Upd (fun k => k = c ∨ k = wb) w w' := by
  have HS := Lib.hid (store_any w w.heap.size c wb none 0 0 [v] (H.cells H.str.lt H.wds.lt) (Nat.le_refl _) (by omega) 0 0 (by omega) v rfl 0)
  have c1 := hr.cell 1 rfl
  have cl := hr.lt
  have HR := Lib.hid hr
  clear H hr
  go_enter Tryz.func55, Tryz.ntmps55
  go_wp2_with fail
  refine (HS.out).mono ?_
  rintro e w1 ⟨rfl, q, cap', h1, h2, h3⟩
  have hr1 := HR.out.upd h3 (fun e => by rcases e with e | e | ⟨a, e, _⟩; (· exact hne.1 e); (· exact hne.2 e); (· cases e))
  have HC := Lib.hid (clear_any w1 w.heap.size c wb q cap' 1 _ h1)
  clear c1 cl
  have c1 := hr1.cell 1 rfl
  have cl := hr1.lt
  have HU := Lib.hid h3
  clear h1 h2 h3 hr1
  go_wp2_with fail
  refine (HC.out).mono ?_
  rintro e w2 ⟨rfl, h4, h5⟩
  have hu : Upd (fun k => k = c ∨ k = wb) w w2 := (HU.out.mono (fun k _ e => by rcases e with e | e | ⟨a, e, _⟩; (· exact .inl e); (· exact .inr e); (· cases e))).next h5 (fun i _ e => .inl e)
  have HF := Lib.hid (show CellsAt w2 c wb [0] from ⟨h4.str, h4.wds, h4.ne⟩)
  have HU2 := Lib.hid hu
  clear h4 h5 hu
  go_wp2_with fail
  go_end0
  exact ⟨rfl, HF.out, HU2.out⟩
end Go.Proofs.YtapjajclmbpjmaaGreatDoor.Sys
