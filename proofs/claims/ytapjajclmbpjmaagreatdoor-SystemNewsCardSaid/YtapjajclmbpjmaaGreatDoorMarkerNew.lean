/- marker.New: a new marking. -/
import Derived.Test.YtapjajclmbpjmaaGreatDoorTouch
import Derived.Test.YtapjajclmbpjmaaGreatDoorMarksNew
set_option linter.unusedSimpArgs false
namespace Go.Proofs.YtapjajclmbpjmaaGreatDoor.Sys
open Go.RowKit Go.Proofs.YtapjajclmbpjmaaGreatDoor.Mem Go.Proofs.YtapjajclmbpjmaaGreatDoor.Heap Go.Proofs.YtapjajclmbpjmaaGreatDoor.Obj

theorem rootsAll_any (w : World) (r : Nat) (p : Option Addr) (cap : Nat) (l : List Int) (v2 v3 : Value) (hr : Blk w r [.slice p l.length cap, v2, v3] 86) (hs : SrcAt w p (ints l)) (hp : p = none → cap = 0) (hl : l.length ≤ 65536) :
    Calls Tryz.prog 34 #[.pointer (some ⟨r, 0, none⟩)] w fun e w' => (∃ q d, e = .returned (.slice q l.length d) ∧ w'.ownsRow w.heap.size 3 1 (.slice q l.length d) l.length (ints l)) ∧ Upd (fun _ => False) w w' := by
  have HC := Lib.hid (clone_any w p cap l hs hp hl)
  have c0 := hr.cell 0 rfl
  have cl := hr.lt
  clear hr hs
  go_enter Tryz.func34, Tryz.ntmps34
  go_wp2_with fail
  refine (HC.out).mono ?_
  rintro e w1 ⟨⟨q, d, rfl, ho⟩, hu⟩
  have HO := Lib.hid ho
  have HU := Lib.hid hu
  clear ho hu
  go_wp2_with fail
  go_ret
  exact ⟨⟨q, d, rfl, HO.out⟩, HU.out⟩
theorem own_src1 {w : World} {base : Nat} {e : TypeId} {size n c : Nat} {p : Option Addr} {xs : List Value} (h : w.ownsRow base e size (.slice p n c) n xs) : SrcAt w p xs ∧ (p = none → c = 0) := by
  refine ⟨?_, ?_⟩
  · intro j u hu
    rcases h.2 with ⟨hv, hn⟩ | ⟨g, cap, cur, hv, _⟩
    · have := h.1
      rw [hn, Nat.zero_mul] at this
      rw [List.eq_nil_of_length_eq_zero this] at hu
      cases hu
    · simp only [Value.slice.injEq] at hv
      obtain ⟨rfl, _, rfl⟩ := hv
      refine ⟨_, rfl, ?_⟩
      have hadd : (⟨g, 0, none⟩ : Addr).add j = ⟨g, j, none⟩ := by unfold Addr.add; split <;> simp_all
      rw [hadd]
      exact own_at h j hu
  · intro hp
    rcases h.2 with ⟨hv, _⟩ | ⟨g, cap, cur, hv, _⟩
    · simp only [Value.slice.injEq] at hv
      exact hv.2.2
    · simp only [Value.slice.injEq] at hv
      rw [hp] at hv
      cases hv.1
theorem infoDeq : (Tryz.prog.info? 114).map (fun i => (i.zero, i.size, i.bytes)) = some (some (.pointer none), 1, 8) := by kernel_rfl
theorem infoWkr : (Tryz.prog.info? 117).map (fun i => (i.zero, i.size, i.bytes)) = some (some (.pointer none), 1, 8) := by kernel_rfl
set_option maxRecDepth 20000 in
set_option maxHeartbeats 8000000 in
theorem marker_no (w : World) (hp : Option Addr) (rp : Value) (n r c : Int) (hf : fitsB n r c = false) :
    Calls Tryz.prog 33 #[.pointer hp, rp, .int .i64 n, .int .i64 r, .int .i64 c] w fun e w' => e = .returned (.tuple #[.pointer none, .int .i64 1]) ∧ Upd (fun _ => False) w w' := by
  have HF := Lib.hid (fun (V : World) => (hf ▸ fits_any n r c V : Calls Tryz.prog 46 #[.int .i64 n, .int .i64 r, .int .i64 c] V fun e w' => e = .returned (.bool false) ∧ w' = V))
  go_enter Tryz.func33, Tryz.ntmps33
  go_wp2_with fail
  refine (HF.out _).mono ?_
  rintro e w1 ⟨rfl, rfl⟩
  go_wp2_with fail
  go_ret2
  exact ⟨rfl, (Upd.refl _ w).alloc _⟩
theorem hsize_any (w : World) (h wb sb n : Nat) (os : List Ob) (rest : List Int) (H : HeapAt w h wb sb n os rest) : Calls Tryz.prog 26 #[.pointer (some ⟨h, 0, none⟩)] w fun e w' => e = .returned (.int .i64 (n : Int)) ∧ w' = w := by
  have c0 := H.str.cell 0 rfl
  have cl := H.str.lt
  clear H
  go_enter Tryz.func26, Tryz.ntmps26
  go_wp2
  go_ret
  exact ⟨rfl, rfl⟩
attribute [local go_sem] max2_int max_two min2_int min_two
theorem cells_new2 (w : World) (o : Obj) (cs : List Value) (t : TypeId) : ∀ (j : Nat) (u : Value), cs[j]? = some u → ((w.alloc o).alloc (.cells cs.toArray t)).cell? ((⟨w.heap.size + 1, 0, none⟩ : Addr).add j) = some u := by
  have h := Mem.cells_new (w.alloc o) cs t
  rwa [World.size_alloc] at h
theorem own_apart {w : World} {B1 B2 : Nat} {e1 e2 : TypeId} {s1 s2 n1 n2 : Nat} {v1 v2 : Value} {xs ys : List Value} (h1 : w.ownsRow B1 e1 s1 v1 n1 xs) (h2 : w.ownsRow B2 e2 s2 v2 n2 ys) (he : e1 ≠ e2) {k : Nat} (k1 : v1.ownBlock = some k) (k2 : v2.ownBlock = some k) : False := by
  rcases h1.2 with ⟨rfl, _⟩ | ⟨g1, c1, cur1, rfl, _, hg1, _⟩
  · cases k1
  · rcases h2.2 with ⟨rfl, _⟩ | ⟨g2, c2, cur2, rfl, _, hg2, _⟩
    · cases k2
    · have e1' : g1 = k := Option.some.inj k1
      have e2' : g2 = k := Option.some.inj k2
      rw [e1'] at hg1
      rw [e2'] at hg2
      have := hg1.symm.trans hg2
      simp only [Option.some.injEq, Obj.cells.injEq] at this
      exact he this.2.1
/-- A marking's cells. -/
def mcells (h r kb spb ob c : Nat) (dq wk : Value) : List Value := [.pointer (some ⟨h, 0, none⟩), .pointer (some ⟨r, 0, none⟩), .pointer (some ⟨kb, 0, none⟩), dq, .pointer (some ⟨spb, 0, none⟩), .pointer (some ⟨ob, 0, none⟩), wk, .int .i64 (c : Int), .int .i64 0, .int .i64 0]
set_option maxRecDepth 20000 in
set_option maxHeartbeats 8000000 in
/-- A marking of an empty heap that has no roots. -/
theorem marker_empty (w : World) (h wb sb sz : Nat) (H : HeapAt w h wb sb sz [] (List.replicate sz 0)) (r rc rwb : Nat) (part : Value) (hr : Blk w r [.slice none 0 0, .pointer (some ⟨rc, 0, none⟩), part] 86) (hrc : CellsAt w rc rwb [0]) (hne : r ≠ rc ∧ r ≠ rwb)
    (n m c : Nat) (hn : 1 ≤ n ∧ n ≤ 64) (hm : 2 ≤ m ∧ m ≤ 1024) (hc : 1 ≤ c ∧ c ≤ 4095) :
    Calls Tryz.prog 33 #[.pointer (some ⟨h, 0, none⟩), .pointer (some ⟨r, 0, none⟩), .int .i64 (n : Int), .int .i64 (m : Int), .int .i64 (c : Int)] w fun e w' => ∃ x, e = .returned (.tuple #[.pointer (some x), .int .i64 0]) ∧ Upd (fun k => k = rc ∨ k = rwb) w w' := by
  have hf : fitsB n m c = true := decide_eq_true (by omega)
  have HF := Lib.hid (fun (V : World) => (hf ▸ fits_any n m c V : Calls Tryz.prog 46 #[.int .i64 n, .int .i64 m, .int .i64 c] V fun e w' => e = .returned (.bool true) ∧ w' = V))
  have HCk := Lib.hid (fun (V : World) (hV : Upd (fun _ => False) w V) => check_yes V h wb sb sz [] _ (H.quiet hV) (fun o ho => by cases ho))
  have HAl := Lib.hid (fun (V : World) (hV : Upd (fun _ => False) w V) => rootsAll_any V r none 0 [] _ _ (hr.upd hV (fun h => h)) (fun j u hu => by cases hu) (fun _ => rfl) (by simp))
  have hu0 := (Upd.refl (fun _ => False) w).alloc (.cells #[.pointer (some ⟨h, 0, none⟩)] 51)
  have HB0 := Lib.hid (Blk.made w [.pointer (some ⟨h, 0, none⟩)] 51)
  have hmf : ∀ (fn : Fn) (first cap : Array Value) (w : World), (Instr.makeFunc fn first cap).run Tryz.prog w = .ok (.func fn first cap) w := fun _ _ _ _ => rfl
  have HU0 := Lib.hid hu0
  have b0 := HB0.out.cell 0 rfl
  have bl := HB0.out.lt
  clear hf hu0
  go_enter Tryz.func33, Tryz.ntmps33
  go_wp2_with fail
  refine (HF.out _).mono ?_
  rintro e w1 ⟨rfl, rfl⟩
  go_wp2_with fail
  refine (HCk.out _ HU0.out).mono ?_
  rintro e w2 ⟨rfl, hu2⟩
  have HU2 := Lib.hid (HU0.out.trans hu2)
  have HB2 := Lib.hid (HB0.out.upd hu2 (fun h => h))
  clear hu2 b0 bl
  have b0 := HB2.out.cell 0 rfl
  have bl := HB2.out.lt
  go_wp2_with fail
  refine (HAl.out _ HU2.out).mono ?_
  rintro e w3 ⟨⟨q, d, rfl, ho⟩, hu3⟩
  have HU3 := Lib.hid (HU2.out.trans hu3)
  have HB3 := Lib.hid (HB2.out.upd hu3 (fun h => h))
  have HCo := Lib.hid (contains_leads w3 w.heap.size h wb sb sz [] _ (H.quiet HU3.out) (HB3.out.cell 0 rfl) q d [] (own_src1 ho).1 (by simp) (fun x hx => by cases hx))
  clear hu3 b0 bl ho
  have b0 := HB3.out.cell 0 rfl
  have bl := HB3.out.lt
  go_wp2_with fail
  refine (HCo.out).mono ?_
  rintro e w4 ⟨rfl, hu4⟩
  have HU4 := Lib.hid (HU3.out.trans hu4)
  have HB4 := Lib.hid (HB3.out.upd hu4 (fun h => h))
  have HRr := Lib.hid hr
  have HRc := Lib.hid hrc
  have HH := Lib.hid H
  clear hu4 b0 bl HCo HCk HAl HF hr hrc H
  have b0 := HB4.out.cell 0 rfl
  have bl := HB4.out.lt
  have hal : allLead [] [] = true := rfl
  go_upto_region 6 with (fail)
  have hbm : Blk (w4.alloc (.cells #[.pointer (some ⟨h, 0, none⟩), .pointer (some ⟨r, 0, none⟩), .pointer none, .slice none 0 0, .pointer none, .pointer none, .slice none 0 0, .int .i64 (c : Int), .int .i64 0, .int .i64 0] 107)) w4.heap.size [.pointer (some ⟨h, 0, none⟩), .pointer (some ⟨r, 0, none⟩), .pointer none, .slice none 0 0, .pointer none, .pointer none, .slice none 0 0, .int .i64 (c : Int), .int .i64 0, .int .i64 0] 107 := Blk.made w4 _ _
  have hu5 := (Upd.refl (fun _ => False) w4).alloc (.cells #[.pointer (some ⟨h, 0, none⟩), .pointer (some ⟨r, 0, none⟩), .pointer none, .slice none 0 0, .pointer none, .pointer none, .slice none 0 0, .int .i64 (c : Int), .int .i64 0, .int .i64 0] 107)
  have HBm := Lib.hid hbm
  have HU5 := Lib.hid (HU4.out.trans hu5)
  have HB5 := Lib.hid (HB4.out.upd hu5 (fun h => h))
  generalize w4.alloc (.cells #[.pointer (some ⟨h, 0, none⟩), .pointer (some ⟨r, 0, none⟩), .pointer none, .slice none 0 0, .pointer none, .pointer none, .slice none 0 0, .int .i64 (c : Int), .int .i64 0, .int .i64 0] 107) = w5 at *
  have hmb := HB4.out.lt
  generalize w4.heap.size = mb at *
  clear hbm hu5 b0 bl
  have HSz := Lib.hid (fun (V : World) (hV : Upd (fun _ => False) w V) => hsize_any V h wb sb sz [] _ (HH.out.quiet hV))
  have b0 := HB5.out.cell 0 rfl
  have bl := HB5.out.lt
  go_wp2_with fail
  refine (HSz.out _ HU5.out).mono ?_
  rintro e w6 ⟨rfl, rfl⟩
  go_wp2_with fail
  have HKn := Lib.hid (Marks.new_yes sz w6 HH.out.lo HH.out.hi)
  refine (HKn.out).mono ?_
  rintro e w7 ⟨kb, kwb, rfl, hmap, hk1, hk2, hu7⟩
  have HU7 := Lib.hid (HU5.out.trans hu7)
  have HB7 := Lib.hid (HB5.out.upd hu7 (fun h => h))
  have hbm7 := HBm.out.upd hu7 (fun h => h)
  have HBm7 := Lib.hid hbm7
  have m2 := hbm7.cell 2 rfl
  have mf2 := hbm7.frozen 2
  have ml := hbm7.lt
  clear hu7 hmap hk1 hk2 b0 bl HKn hbm7
  go_upto_region 7 with (fail)
  have hbm8 := HBm7.out.set 2 (.pointer (some ⟨kb, 0, none⟩))
  have hu8 := HU7.out.setCell (p := ⟨mb, 2, none⟩) (.pointer (some ⟨kb, 0, none⟩)) (fun h => by have h' : mb < w.heap.size := h; omega)
  have hb8 := HB7.out.setOther (a := ⟨mb, 2, none⟩) (.pointer (some ⟨kb, 0, none⟩)) (by show w.heap.size ≠ mb; omega)
  generalize w7.setCell ⟨mb, 2, none⟩ (.pointer (some ⟨kb, 0, none⟩)) = w8 at *
  have HBm8 := Lib.hid hbm8
  have HU8 := Lib.hid hu8
  have HB8 := Lib.hid hb8
  clear hbm8 hu8 hb8 m2 mf2 ml
  have b0 := HB8.out.cell 0 rfl
  have bl := HB8.out.lt
  obtain ⟨k, hk⟩ : ∃ k : Nat, min (sz : Int) 65534 = (k : Int) := ⟨(min (sz : Int) 65534).toNat, by omega⟩
  have hk1 : 1 ≤ k ∧ k ≤ 65534 := by have := HH.out.lo; omega
  go_wp2_with fail
  refine (HSz.out _ HU8.out).mono ?_
  rintro e w9 ⟨rfl, rfl⟩
  have HSp := Lib.hid (spill_new k w9 hk1.1 hk1.2)
  go_wp2_with fail
  refine (HSp.out).mono ?_
  rintro e w10 ⟨spb, sc, swb, rfl, hsp, hsc, _, _, _, _, _, hu10⟩
  have HU10 := Lib.hid (HU8.out.trans hu10)
  have hbm10 := HBm8.out.upd hu10 (fun h => h)
  have HBm10 := Lib.hid hbm10
  have m4 := hbm10.cell 4 rfl
  have mf4 := hbm10.frozen 4
  have ml := hbm10.lt
  clear hu10 hsp hsc b0 bl hbm10 HSp hk
  go_upto_region 8 with (fail)
  have hbm11 := HBm10.out.set 4 (.pointer (some ⟨spb, 0, none⟩))
  have hu11 := HU10.out.setCell (p := ⟨mb, 4, none⟩) (.pointer (some ⟨spb, 0, none⟩)) (fun h => by have h' : mb < w.heap.size := h; omega)
  generalize w10.setCell ⟨mb, 4, none⟩ (.pointer (some ⟨spb, 0, none⟩)) = w11 at *
  have HBm11 := Lib.hid hbm11
  have HU11 := Lib.hid hu11
  clear hbm11 hu11 m4 mf4 ml
  have HOf := Lib.hid (offer_new n w11 hn.1 hn.2)
  go_wp2_with fail
  refine (HOf.out).mono ?_
  rintro e w12 ⟨ob, oc, owb, oib, rfl, hob, hoc, hoi, _, _, _, _, _, _, _, _, _, hu12⟩
  have HU12 := Lib.hid (HU11.out.trans hu12)
  have hbm12 := HBm11.out.upd hu12 (fun h => h)
  have HBm12 := Lib.hid hbm12
  have m5 := hbm12.cell 5 rfl
  have mf5 := hbm12.frozen 5
  have ml := hbm12.lt
  clear hu12 hob hoc hoi hbm12 HOf
  go_upto_region 10 with (fail)
  have hbm13 := HBm12.out.set 5 (.pointer (some ⟨ob, 0, none⟩))
  have hu13 := HU12.out.setCell (p := ⟨mb, 5, none⟩) (.pointer (some ⟨ob, 0, none⟩)) (fun h => by have h' : mb < w.heap.size := h; omega)
  generalize w12.setCell ⟨mb, 5, none⟩ (.pointer (some ⟨ob, 0, none⟩)) = w13 at *
  have hmbl := hbm13.lt
  have HBm13 := Lib.hid (show Blk w13 mb (mcells h r kb spb ob c (.slice none 0 0) (.slice none 0 0)) 107 from hbm13)
  have HU13 := Lib.hid hu13
  clear hbm13 hu13 m5 mf5 ml
  obtain ⟨i1, hi1, hy0, hy1, hy2⟩ := info_parts infoDeq
  obtain ⟨i2, hi2, hz0, hz1, hz2⟩ := info_parts infoWkr
  have HDq := Lib.hid (fun (V : World) => deque_new m V hm.1 hm.2)
  clear HU5 HU7 HU8 HU10 HU11 HU12 HBm HBm7 HBm8 HBm10 HBm11 HBm12 HB4 HB5 HB7 HB8 HSz
  go_loopw [63] (fun i wl => ∃ (j : Nat) (a1 a2 : Option Addr) (c1 c2 : Nat) (L1 L2 : List Value), j ≤ n ∧ i = .int .i64 (j : Int) ∧ Blk wl mb (mcells h r kb spb ob c (.slice a1 j c1) (.slice a2 j c2)) 107 ∧ wl.ownsRow w13.heap.size 114 1 (.slice a1 j c1) j L1 ∧ wl.ownsRow w13.heap.size 117 1 (.slice a2 j c2) j L2 ∧ Upd (fun k => k = mb) w13 wl) (fun i _ => n - (intOf i).toNat)
  case atStart => exact ⟨0, none, none, 0, 0, [], [], Nat.zero_le _, rfl, HBm13.out, ⟨rfl, .inl ⟨rfl, rfl⟩⟩, ⟨rfl, .inl ⟨rfl, rfl⟩⟩, Upd.refl _ _⟩
  case round =>
    obtain ⟨j, a1, a2, c1, c2, L1, L2, hj, rfl, hB, hO1, hO2, hU⟩ := hrel
    have HB := Lib.hid hB
    have HO1 := Lib.hid hO1
    have HO2 := Lib.hid hO2
    have HU := Lib.hid hU
    clear hB hO1 hO2 hU
    by_cases hlt : j < n
    · have d1 : decide ((j : Int) < (n : Int)) = true := decide_eq_true (by omega)
      have d1' : decide (j < n) = true := decide_eq_true hlt
      go_wp2_with fail
      refine (HDq.out _).mono ?_
      rintro e w14 ⟨db, dc, dwb, rfl, _, _, _, _, _, _, _, hu14⟩
      have hs14 := HU.out.size
      have hb14 := HB.out.upd hu14 (fun h => h)
      have HB14 := Lib.hid hb14
      have HO14 := Lib.hid (own_upd HO1.out hu14 (fun _ _ h => h))
      have HP14 := Lib.hid (own_upd HO2.out hu14 (fun _ _ h => h))
      have HU14 := Lib.hid (HU.out.next hu14 (fun _ _ h => h.elim))
      have hs14' := hu14.size
      have m3 := hb14.cell 3 rfl
      have mf3 := hb14.frozen 3
      have ml := hb14.lt
      clear hu14 hb14
      go_wp2_with (first | (at_builtin; refine wpList_append_lies _ rfl _ _ 102 rfl w13.heap.size 114 i1 _ 1 8 Tryz.underlying102 hi1 hy0 hy1 hy2 rfl (by decide) _ j L1 rfl (HO14.out.alloc _) ⟨w14.heap.size, 0, none⟩ 1 1 [.pointer (some ⟨db, 0, none⟩)] rfl rfl ?c1 ?c2 (by decide) ?c3 ?c4 ?c5 _ rfl ?_))
      case c1 => exact Mem.cells_new w14 [.pointer (some ⟨db, 0, none⟩)] _
      case c2 => simp [Value.oneCell']
      case c3 => simp only [maxLen]; omega
      case c4 => omega
      case c5 => simp only [World.size_alloc]; omega
      intro g15 cap15 w15 hO15 hg15 hat15 hlt15
      have hu15 : Upd (fun k => (Value.slice a1 j c1).ownBlock = some k) w14 w15 := ((Upd.refl _ w14).alloc _).grown hg15 (fun k hk _ => hk)
      have hb15 := HB14.out.upd hu15 (fun e => by have := (HO14.out.lt mb e).1; omega)
      have hp15 := own_upd HP14.out hu15 (fun k h1 h2 => own_apart HP14.out HO14.out (by decide) h1 h2)
      have hU15 := HU14.out.next hu15 (fun k hk e => by have := (HO14.out.lt k e).1; omega)
      clear m3 mf3 ml
      have m3 := hb15.cell 3 rfl
      have mf3 := hb15.frozen 3
      have ml := hb15.lt
      have HB15 := Lib.hid hb15
      have HP15 := Lib.hid hp15
      have HU15 := Lib.hid hU15
      have HO15 := Lib.hid hO15
      clear hb15 hp15 hU15 hO15 hg15 hat15 hu15
      go_upto_region 14 with (fail)
      have hlo := fun k hk => (HO15.out.lt k hk).1
      have hlp := fun k hk => (HP15.out.lt k hk).1
      have hus : Upd (fun k => k = mb) w15 (w15.setCell ⟨mb, 3, none⟩ (.slice (some ⟨g15, 0, none⟩) (j + 1) cap15)) := (Upd.refl _ w15).setCell (p := ⟨mb, 3, none⟩) _ (fun _ => rfl)
      have hb16 := HB15.out.set 3 (.slice (some ⟨g15, 0, none⟩) (j + 1) cap15)
      have HO16 := Lib.hid (own_upd HO15.out hus (fun k hk e => by have := hlo k hk; omega))
      have HP16 := Lib.hid (own_upd HP15.out hus (fun k hk e => by have := hlp k hk; omega))
      have HU16 := Lib.hid (HU15.out.next hus (fun _ _ e => e))
      generalize w15.setCell ⟨mb, 3, none⟩ (.slice (some ⟨g15, 0, none⟩) (j + 1) cap15) = w16 at *
      clear m3 mf3 ml hus hlo hlp
      have m6 := hb16.cell 6 rfl
      have mf6 := hb16.frozen 6
      have ml := hb16.lt
      have HB16 := Lib.hid hb16
      have hs16' := HU16.out.size
      clear hb16
      go_wp2_with (first | (at_builtin; refine wpList_append_lies _ rfl _ _ 105 rfl w13.heap.size 117 i2 _ 1 8 Tryz.underlying105 hi2 hz0 hz1 hz2 rfl (by decide) _ j L2 rfl ((HP16.out.alloc _).alloc _) ⟨w16.heap.size + 1, 0, none⟩ 1 1 [.pointer (some ⟨w16.heap.size, 0, none⟩)] rfl rfl ?c1 ?c2 (by decide) ?c3 ?c4 ?c5 _ rfl ?_))
      case c1 => exact cells_new2 w16 _ [.pointer (some ⟨w16.heap.size, 0, none⟩)] _
      case c2 => simp [Value.oneCell']
      case c3 => simp only [maxLen]; omega
      case c4 => omega
      case c5 => simp only [World.size_alloc]; omega
      intro g17 cap17 w17 hO17 hg17 hat17 hlt17
      have hu17 : Upd (fun k => (Value.slice a2 j c2).ownBlock = some k) w16 w17 := (((Upd.refl _ w16).alloc _).alloc _).grown hg17 (fun k hk _ => hk)
      have hb17 := HB16.out.upd hu17 (fun e => by have := (HP16.out.lt mb e).1; omega)
      have hq17 := own_upd HO16.out hu17 (fun k h1 h2 => own_apart HO16.out HP16.out (by decide) h1 h2)
      have hU17 := HU16.out.next hu17 (fun k hk e => by have := (HP16.out.lt k e).1; omega)
      clear m6 mf6 ml
      have m6 := hb17.cell 6 rfl
      have mf6 := hb17.frozen 6
      have ml := hb17.lt
      have HB17 := Lib.hid hb17
      have HQ17 := Lib.hid hq17
      have HU17 := Lib.hid hU17
      have HO17 := Lib.hid hO17
      clear hb17 hq17 hU17 hO17 hg17 hat17 hu17
      go_wp2_with fail
      go_roundw
      case rel =>
        have hus : Upd (fun k => k = mb) w17 (w17.setCell ⟨mb, 6, none⟩ (.slice (some ⟨g17, 0, none⟩) (j + 1) cap17)) := (Upd.refl _ w17).setCell (p := ⟨mb, 6, none⟩) _ (fun _ => rfl)
        exact ⟨j + 1, some ⟨g15, 0, none⟩, some ⟨g17, 0, none⟩, cap15, cap17, _, _, by omega, by go_num, HB17.out.set 6 _, own_upd HQ17.out hus (fun k hk e => by have := (HQ17.out.lt k hk).1; omega), own_upd HO17.out hus (fun k hk e => by have := (HO17.out.lt k hk).1; omega), HU17.out.next hus (fun _ _ e => e)⟩
      case measure => simp [intOf]; omega
    · obtain rfl : j = n := by omega
      have d1 : decide ((j : Int) < (j : Int)) = false := decide_eq_false (by omega)
      have hur : Upd (fun _ => False) w wr := HU13.out.next HU.out (fun i hi e => by omega)
      have HOp := Lib.hid (open_any wr r rc rwb _ _ 0 (HRr.out.upd hur (fun h => h)) (HRc.out.quiet hur) hne)
      have HUr := Lib.hid hur
      clear hur
      go_wp2_with fail
      refine (HOp.out).mono ?_
      rintro e w20 ⟨rfl, _, hu20⟩
      have HU20 := Lib.hid ((HUr.out.mono (fun _ _ h => h.elim)).trans hu20)
      clear hu20
      go_wp2_with fail
      go_ret2
      exact ⟨_, rfl, HU20.out⟩
end Go.Proofs.YtapjajclmbpjmaaGreatDoor.Sys
