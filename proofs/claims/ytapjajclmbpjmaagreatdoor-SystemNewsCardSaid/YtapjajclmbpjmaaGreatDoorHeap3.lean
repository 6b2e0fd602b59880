/- Contracts of package heap: laying an object, placing one. -/
import Derived.Test.YtapjajclmbpjmaaGreatDoorHeap2
import Derived.Deep.RegionHeld3
import Derived.Deep.RegionLaw
import Derived.Deep.Cut
import Derived.StillTailTactics
import Derived.IntWalk
namespace Go.Proofs.YtapjajclmbpjmaaGreatDoor.Heap
open Go.RowKit Go.Proofs.YtapjajclmbpjmaaGreatDoor.Mem Go.Proofs.YtapjajclmbpjmaaGreatDoor.Obj

theorem keepC {w w' : World} (h : Upd (fun _ => False) w w') {b : Nat} {o : Nat} {x : Value} (hc : w.cell? ⟨b, o, none⟩ = some x) : w'.cell? ⟨b, o, none⟩ = some x := by
  have hb := World.block_lt_of_cell? w _ hc
  rw [World.cell?, h.block b hb (fun x => x)]
  exact hc
theorem keepF {w w' : World} (h : Upd (fun _ => False) w w') {p : Addr} {x : Value} (hc : w.cell? p = some x) (hf : w.frozen? p = false) : w'.frozen? p = false := by
  have hb := World.block_lt_of_cell? w _ hc
  rw [World.frozen?, h.block p.block hb (fun x => x)]
  exact hf
theorem keep4 {w w' : World} (h : Upd (fun _ => False) w w') {b c o0 o1 o2 o3 : Nat} {x y z u : Value} (hs : w.cell? ⟨b, o0, none⟩ = some x ∧ w.cell? ⟨c, o1, none⟩ = some y ∧ w.cell? ⟨c, o2, none⟩ = some z ∧ w.cell? ⟨c, o3, none⟩ = some u) :
    w'.cell? ⟨b, o0, none⟩ = some x ∧ w'.cell? ⟨c, o1, none⟩ = some y ∧ w'.cell? ⟨c, o2, none⟩ = some z ∧ w'.cell? ⟨c, o3, none⟩ = some u :=
  ⟨keepC h hs.1, keepC h hs.2.1, keepC h hs.2.2.1, keepC h hs.2.2.2⟩

theorem infoInt : (Tryz.prog.info? 3).map (fun i => (i.zero, i.size, i.bytes)) = some (some (.int .i64 0), 1, 8) := by kernel_rfl
theorem infoBool : (Tryz.prog.info? 4).map (fun i => (i.zero, i.size, i.bytes)) = some (some (.bool false), 1, 1) := by kernel_rfl

/-- Behind the first store. -/
def Laid1 (w : World) (wb bx a : Nat) (k l p word : Int) (zs : List Int) (wr : World) : Prop :=
  Blk wr wb (ints (zs.set a word)) 3 ∧ Blk wr bx [.int .i64 k, .int .i64 l, .int .i64 p] 136 ∧ Upd (fun k => k = wb) w wr

set_option maxRecDepth 20000 in
set_option maxHeartbeats 1000000 in
theorem lay_any (w : World) (h wb sb n a k l p : Nat) (t : Value) (zs : List Int) (bs : List Bool) (hstr : Blk w h [.slice (some ⟨wb, 0, none⟩) n n, t, .slice (some ⟨sb, 0, none⟩) n n] 70)
    (hw : Blk w wb (ints zs) 3) (hb : Blk w sb (bools bs) 4) (hzl : zs.length = n) (hbl : bs.length = n) (hne : h ≠ wb ∧ h ≠ sb ∧ wb ≠ sb) (hn : n ≤ 65536) (hal : a + 1 + l ≤ n) (hg : goodB k l p = true) :
    Calls Tryz.prog 125 #[.pointer (some ⟨h, 0, none⟩), .int .i64 (a : Int), .agg #[.int .i64 (k : Int), .int .i64 (l : Int), .int .i64 (p : Int)]] w fun e w' => e = .returned (.tuple #[]) ∧
      Blk w' wb (ints (zs.take a ++ ((k + 16 * (p + 4096 * l) : Nat) : Int) :: (List.replicate l 0 ++ zs.drop (a + 1 + l)))) 3 ∧ Blk w' sb (bools (bs.set a true)) 4 ∧ Upd (fun k => k = wb ∨ k = sb) w w' := by
  have hgb := of_decide_eq_true hg
  have hl1 : l ≤ 4095 := by omega
  have l1 := hstr.lt
  have l2 := hw.lt
  have l3 := hb.lt
  have c0 := hstr.cell 0 rfl
  have c2 := hstr.cell 2 rfl
  have i0 : (0 : Int) ≤ (a : Int) := by omega
  have i1 : (a : Int) < (n : Int) := by omega
  have i2 : a < n := by omega
  obtain ⟨n1, n2, n3⟩ := hne
  clear hgb
  go_enter Tryz.func125, Tryz.ntmps125
  go_wp2_with fail
  have hbx := Blk.made w [.int .i64 (k : Int), .int .i64 (l : Int), .int .i64 (p : Int)] 136
  have b0 := hbx.cell 0 rfl
  have b1 := hbx.cell 1 rfl
  have b2 := hbx.cell 2 rfl
  have c0' := (hstr.alloc (.cells #[.int .i64 (k : Int), .int .i64 (l : Int), .int .i64 (p : Int)] 136)).cell 0 rfl
  have hus : Upd (fun _ => False) w (w.alloc (.cells #[.int .i64 (k : Int), .int .i64 (l : Int), .int .i64 (p : Int)] 136)) := (Upd.refl _ w).alloc _
  have hpk := fun w => pack_yes k l p hg w
  have HPk := Lib.hid hpk
  have HW := Lib.hid (hw.upd hus (fun h => h))
  have HB := Lib.hid hb
  have HX := Lib.hid hbx
  have HStr := Lib.hid hstr
  have hsz : (w.alloc (.cells #[.int .i64 (k : Int), .int .i64 (l : Int), .int .i64 (p : Int)] 136)).heap.size = w.heap.size + 1 := World.size_alloc _ _
  generalize w.alloc (.cells #[.int .i64 (k : Int), .int .i64 (l : Int), .int .i64 (p : Int)] 136) = wx at *
  have HUS := Lib.hid hus
  have Hsz := Lib.hid hsz
  obtain ⟨old, hold⟩ : ∃ old, zs[a]? = some old := ⟨_, List.getElem?_eq_getElem (by omega)⟩
  have cw : wx.cell? ⟨wb, a, none⟩ = some (.int .i64 old) := HW.out.cell a (by rw [ints, List.getElem?_map, hold]; rfl)
  have fw := HW.out.frozen a
  have lw : wb < wx.heap.size := HW.out.lt
  clear hstr hw hb hbx hg hpk hus hsz c0 c2 hold
  have hfin : ∀ w2, Upd (fun _ => False) wx w2 → Laid1 w wb w.heap.size a k l p ((k : Int) + 16 * ((p : Int) + 4096 * (l : Int))) zs (w2.setCell ⟨wb, a, none⟩ (.int .i64 ((k : Int) + 16 * ((p : Int) + 4096 * (l : Int))))) := fun w2 hu => by
    refine ⟨?_, ((HX.out.upd hu (fun h => h)).setOther _ (by simp; omega)), ((HUS.out.trans hu).mono (fun _ _ h => h.elim)).setCell _ (fun _ => rfl)⟩
    have := (HW.out.upd hu (fun h => h)).set a (.int .i64 ((k : Int) + 16 * ((p : Int) + 4096 * (l : Int))))
    rw [show (ints zs).set a (.int .i64 ((k : Int) + 16 * ((p : Int) + 4096 * (l : Int)))) = ints (zs.set a ((k : Int) + 16 * ((p : Int) + 4096 * (l : Int)))) by simp [ints, List.map_set]] at this
    exact this
  have Hfin := Lib.hid hfin
  clear hfin
  go_cut [] from 6 (fun wr => Laid1 w wb w.heap.size a k l p ((k : Int) + 16 * ((p : Int) + 4096 * (l : Int))) zs wr)
  case first =>
    go_region_law (first | (go_simp; go_at_call 102; refine (HPk.out _).mono ?_; rintro e w2 ⟨rfl, hu⟩; have q0 := keepC hu c0'; have q1 := keepC hu b0; have q2 := keepC hu b1; have q3 := keepC hu b2; have q4 := keepC hu cw; have q5 := keepF hu cw fw; have HCum := Lib.hid ((Upd.refl (fun _ => False) wx).drew.trans hu)))
    all_goals
      go_wp2_with fail
      go_meet
      case rel => exact Hfin.out _ HCum.out
  case rest =>
    obtain ⟨hw, hx, hu⟩ := hcut
    have hb2 := HB.out.upd hu (fun e => n3 e.symm)
    have hstr2 := HStr.out.upd hu n1
    have c0 := hstr2.cell 0 rfl
    have c2 := hstr2.cell 2 rfl
    obtain ⟨ob, hob⟩ : ∃ ob, bs[a]? = some ob := ⟨_, List.getElem?_eq_getElem (by omega)⟩
    have cs := hb2.cell a (show (bools bs)[a]? = some (.bool ob) by rw [bools, List.getElem?_map, hob]; rfl)
    have fs := hb2.frozen a
    have x1 := hx.cell 1 rfl
    have q1 := hstr2.lt
    have q2 := hb2.lt
    have q3 := hw.lt
    have q4 := hx.lt
    have HW2 := Lib.hid hw
    have HB2 := Lib.hid hb2
    have HU2 := Lib.hid hu
    have HS2 := Lib.hid hstr2
    clear hw hb2 hu hstr2 hx hob c0' b0 b1 b2 cw fw lw Hfin
    go_wp2
    have hw3 := HW2.out.setOther (a := ⟨sb, a, none⟩) (.bool true) n3
    have hs3 := HS2.out.setOther (a := ⟨sb, a, none⟩) (.bool true) n2
    have hb3 := HB2.out.set a (.bool true)
    rw [show (bools bs).set a (.bool true) = bools (bs.set a true) by simp [bools, List.map_set]] at hb3
    have hu3 : Upd (fun k => k = wb ∨ k = sb) w (wc.setCell ⟨sb, a, none⟩ (.bool true)) := (HU2.out.mono (fun _ _ h => .inl h)).setCell _ (fun _ => .inr rfl)
    have y1 : (wc.setCell ⟨sb, a, none⟩ (.bool true)).cell? ⟨w.heap.size, 1, none⟩ = some (.int .i64 (l : Int)) := by
      rw [World.cell?_setCell_other]
      · exact x1
      · intro e; simp at e; try omega
    generalize wc.setCell ⟨sb, a, none⟩ (.bool true) = w3 at *
    have z0 := hs3.cell 0 rfl
    have HW3 := Lib.hid hw3
    have HB3 := Lib.hid hb3
    have HU3 := Lib.hid hu3
    have m1 : IntKind.i64.wrap ((a : Int) + 1) = (a : Int) + 1 := IntWalk.i64_in _ (by omega)
    have m2 : IntKind.i64.wrap ((a : Int) + 1 + (l : Int)) = (a : Int) + 1 + (l : Int) := IntWalk.i64_in _ (by omega)
    clear hw3 hs3 hb3 hu3 c0 c2 cs fs x1
    have m3 : (0 : Int) ≤ (a : Int) + 1 := by omega
    have m4 : (a : Int) + 1 ≤ (a : Int) + 1 + (l : Int) := by omega
    have m5 : (a : Int) + 1 + (l : Int) ≤ (n : Int) := by omega
    go_still_tail 12, (by kernel_rfl)
    change wpList _ _ _ _ _ w3.drew
    have HW4 := Lib.hid (HW3.out.drew)
    have HB4 := Lib.hid (HB3.out.drew)
    have HU4 := Lib.hid (HU3.out.drew)
    generalize w3.drew = w4 at *
    have hzl2 : (ints (zs.set a ((k : Int) + 16 * ((p : Int) + 4096 * (l : Int))))).length = n := by simp [ints, hzl]
    have hlist : List.take (a + 1) (ints (zs.set a ((k : Int) + 16 * ((p : Int) + 4096 * (l : Int))))) ++ List.replicate l (.int .i64 0) ++ List.drop (a + 1 + l) (ints (zs.set a ((k : Int) + 16 * ((p : Int) + 4096 * (l : Int))))) =
        ints (zs.take a ++ ((k + 16 * (p + 4096 * l) : Nat) : Int) :: (List.replicate l 0 ++ zs.drop (a + 1 + l))) := by
      unfold ints
      rw [← List.map_take, ← List.map_drop, List.drop_set_of_lt (by omega)]
      have e2 : List.take (a + 1) (zs.set a ((k : Int) + 16 * ((p : Int) + 4096 * (l : Int)))) = zs.take a ++ [(k : Int) + 16 * ((p : Int) + 4096 * (l : Int))] := by
        rw [List.take_add_one, List.getElem?_set_self (by omega), List.take_set_of_le (Nat.le_refl _)]
        rfl
      rw [e2]
      simp
    have Hlist := Lib.hid hlist
    have Hzl2 := Lib.hid hzl2
    have e1 : ((a : Int) + 1 + (l : Int)).toNat - (a + 1) = l := by omega
    rw [e1]
    clear hlist hzl2 m1 m2 e1
    obtain ⟨i0, hi, hz0, hz1, hz2⟩ := info_parts infoInt
    by_cases hend : n = a + 1
    · have hl0 : l = 0 := by omega
      rw [if_pos hend]
      obtain ⟨w5, hrun, hB5, hU5⟩ := run_clear Tryz.prog w4 47 0 3 i0 (.int .i64 0) Tryz.underlying47 hi hz0 rfl rfl wb 0 0 (n - (a + 1)) _ HW4.out (by omega)
      have HB5 := Lib.hid hB5
      have HU5 := Lib.hid hU5
      have Hend := Lib.hid hend
      subst hl0
      clear hend hB5 hU5
      go_wp2
      go_end0
      refine ⟨rfl, ?_, HB4.out.upd HU5.out (fun e => n3 e.symm), HU4.out.next HU5.out (fun _ _ h => .inl h)⟩
      have h5 := HB5.out
      rw [← Hlist.out]
      simpa using h5
    · rw [if_neg hend]
      obtain ⟨w5, hrun, hB5, hU5⟩ := run_clear Tryz.prog w4 47 0 3 i0 (.int .i64 0) Tryz.underlying47 hi hz0 rfl rfl wb (a + 1) l (n - (a + 1)) _ HW4.out (by rw [Hzl2.out]; exact hal)
      rw [Hlist.out] at hB5
      have HB5 := Lib.hid hB5
      have HU5 := Lib.hid hU5
      have Hend := Lib.hid hend
      clear hend hB5 hU5
      go_wp2
      go_end0
      exact ⟨rfl, HB5.out, HB4.out.upd HU5.out (fun e => n3 e.symm), HU4.out.next HU5.out (fun _ _ h => .inl h)⟩

theorem placed_flat (os : List Ob) (rest : List Int) (k l p : Nat) :
    (flat os ++ rest).take (top os) ++ ((k + 16 * (p + 4096 * l) : Nat) : Int) :: (List.replicate l 0 ++ (flat os ++ rest).drop (top os + 1 + l)) = flat (os ++ [⟨k, p, List.replicate l 0⟩]) ++ rest.drop (1 + l) := by
  rw [flat_append, List.take_append_of_le_length (by simp [top]), List.drop_append, show (flat os).take (top os) = flat os from List.take_length, List.drop_eq_nil_of_le (by simp [top]; omega)]
  simp only [flat, List.append_nil, List.nil_append, List.append_assoc, List.cons_append]
  congr 2
  · simp [Ob.word, Ob.len]
  · congr 2
    simp only [top]
    omega
theorem placed_marks (os : List Ob) (rest : List Int) (k l p : Nat) (h : 1 + l ≤ rest.length) :
    (Obj.marks os ++ List.replicate rest.length false).set (top os) true = Obj.marks (os ++ [⟨k, p, List.replicate l 0⟩]) ++ List.replicate (rest.drop (1 + l)).length false := by
  rw [marks_append, List.set_append_right _ _ (by rw [marks_length]; exact Nat.le_refl _), marks_length, Nat.sub_self]
  obtain ⟨m, hm⟩ : ∃ m, rest.length = 1 + l + m := ⟨rest.length - (1 + l), by omega⟩
  simp only [Obj.marks, Ob.len, List.length_replicate, List.append_nil, List.append_assoc, List.length_drop, hm]
  rw [show 1 + l + m = (l + m) + 1 by omega, List.replicate_succ, List.set_cons_zero, show l + m + 1 - (1 + l) = m by omega, ← List.replicate_append_replicate]
  rfl

set_option maxRecDepth 20000 in
set_option maxHeartbeats 1000000 in
theorem place_yes (w : World) (h wb sb n : Nat) (os : List Ob) (rest : List Int) (H : HeapAt w h wb sb n os rest) (k l p : Nat) (hg : goodB k l p = true) (hl : 1 + l ≤ rest.length) :
    Calls Tryz.prog 106 #[.pointer (some ⟨h, 0, none⟩), .agg #[.int .i64 (k : Int), .int .i64 (l : Int), .int .i64 (p : Int)]] w fun e w' => e = .returned (.tuple #[.int .i64 (top os : Int), .int .i64 0]) ∧
      HeapAt w' h wb sb n (os ++ [⟨k, p, List.replicate l 0⟩]) (rest.drop (1 + l)) ∧ Upd (fun k => k = h ∨ k = wb ∨ k = sb) w w' := by
  have hgb := of_decide_eq_true hg
  have hl1 : l ≤ 4095 := by omega
  have hs := H.size
  have hhi := H.hi
  have l1 := H.str.lt
  have hpk := fun w => pack_yes k l p hg w
  have HPk := Lib.hid hpk
  have HH := Lib.hid H
  have HG := Lib.hid hg
  have hbx := Blk.made w [.int .i64 (k : Int), .int .i64 (l : Int), .int .i64 (p : Int)] 136
  have hus : Upd (fun _ => False) w (w.alloc (.cells #[.int .i64 (k : Int), .int .i64 (l : Int), .int .i64 (p : Int)] 136)) := (Upd.refl _ w).alloc _
  have HX := Lib.hid hbx
  have HUS := Lib.hid hus
  obtain ⟨T, hT⟩ : ∃ T, T = top os := ⟨_, rfl⟩
  rw [← hT] at hs ⊢
  have HT := Lib.hid hT
  clear hgb hpk H hg hbx hus hT
  go_enter Tryz.func106, Tryz.ntmps106
  go_wp2_with fail
  refine (HPk.out _).mono ?_
  rintro e w1 ⟨rfl, hu1⟩
  have H1 := HH.out.quiet (HUS.out.trans hu1)
  have hx1 := HX.out.upd hu1 (fun h => h)
  have c0 := H1.str.cell 0 rfl
  have c1 := H1.str.cell 1 rfl
  rw [← HT.out] at c1
  have b1 := hx1.cell 1 rfl
  have d1 : decide ((n : Int) - (T : Int) ≤ (l : Int)) = false := decide_eq_false (by omega)
  have H1' := Lib.hid H1
  have hx1' := Lib.hid hx1
  have hu1' := Lib.hid (HUS.out.trans hu1)
  clear H1 hx1 hu1
  have m1 : IntKind.i64.wrap ((n : Int) - (T : Int)) = (n : Int) - (T : Int) := IntWalk.i64_in _ (by omega)
  go_wp2
  go_quiet (fail)
  clear m1 d1
  have H2' := Lib.hid (H1'.out.upd ((Upd.refl (fun _ => False) w1).drewN nq) (fun h => h) (fun h => h) (fun h => h))
  have hx2' := Lib.hid (hx1'.out.drewN nq)
  have hu2' := Lib.hid (hu1'.out.drewN nq)
  generalize w1.drewN nq = w2 at *
  clear c0 c1 b1
  have c1 := H2'.out.str.cell 1 rfl
  rw [← HT.out] at c1
  obtain ⟨⟨b0, b1, b2⟩, _⟩ := hx2'.out.three
  go_wp2_with fail
  have hlen : (flat os ++ rest).length = n := by have := HT.out; rw [List.length_append]; simp only [top] at this; omega
  refine (lay_any w2 h wb sb n T k l p _ _ _ H2'.out.str H2'.out.wds H2'.out.sts hlen (by rw [List.length_append, List.length_replicate, marks_length, ← HT.out, hs]) H2'.out.ne hhi (by omega) HG.out).mono ?_
  rintro e w3 ⟨rfl, hw3, hs3, hu3⟩
  have hstr3 := H2'.out.str.upd hu3 (fun h => by have := H2'.out.ne; omega)
  have hx3 := hx2'.out.upd hu3 (fun h => by have h1 := H2'.out.wds; have h2 := H2'.out.sts; have h3 := HH.out.wds.lt; have h4 := HH.out.sts.lt; omega)
  have e1 : (flat os ++ rest).take T ++ ((k + 16 * (p + 4096 * l) : Nat) : Int) :: (List.replicate l 0 ++ (flat os ++ rest).drop (T + 1 + l)) = flat (os ++ [⟨k, p, List.replicate l 0⟩]) ++ rest.drop (1 + l) := by rw [HT.out]; exact placed_flat os rest k l p
  have e2 : (Obj.marks os ++ List.replicate rest.length false).set T true = Obj.marks (os ++ [⟨k, p, List.replicate l 0⟩]) ++ List.replicate (rest.drop (1 + l)).length false := by rw [HT.out]; exact placed_marks os rest k l p hl
  rw [e1] at hw3
  rw [e2] at hs3
  have HW3 := Lib.hid hw3
  have HS3 := Lib.hid hs3
  have HStr3 := Lib.hid hstr3
  have HU3 := Lib.hid ((hu2'.out.mono (fun _ _ h => h.elim)).trans hu3)
  have g1 := hstr3.cell 1 rfl
  rw [← HT.out] at g1
  have g2 := hstr3.frozen 1
  have g3 := hx3.cell 1 rfl
  have g4 := hstr3.lt
  have g5 := hx3.lt
  have hne1 : h ≠ w.heap.size := by omega
  clear hw3 hs3 hstr3 hx3 hu3 c1 b0 b1 b2 e1 e2 hlen
  have m1 : IntKind.i64.wrap (1 + (l : Int)) = 1 + (l : Int) := IntWalk.i64_in _ (by omega)
  have m2 : IntKind.i64.wrap ((T : Int) + (1 + (l : Int))) = (T : Int) + (1 + (l : Int)) := IntWalk.i64_in _ (by omega)
  go_wp2
  go_region
  go_wp2
  go_ret2
  have htop : (top (os ++ [⟨k, p, List.replicate l 0⟩]) : Int) = (T : Int) + (1 + (l : Int)) := by
    have : (top (os ++ [⟨k, p, List.replicate l 0⟩])) = T + (1 + l) := by
      rw [top_append, ← HT.out, top_cons, top_nil]
      simp [Ob.len]
    omega
  have hdl : (rest.drop (1 + l)).length = rest.length - (1 + l) := List.length_drop
  have hn3 := H2'.out.ne
  refine ⟨rfl, ⟨?_, ?_, ?_, by omega, HH.out.lo, hhi, ?_, hn3⟩, ((HU3.out.mono (fun _ _ h => .inr h)).setCell _ (fun _ => .inl rfl)).drew⟩
  · rw [htop]
    exact (HStr3.out.set 1 _).drew
  · exact (HW3.out.setOther _ (fun e => hn3.1 e.symm)).drew
  · exact (HS3.out.setOther _ (fun e => hn3.2.1 e.symm)).drew
  · intro o ho
    rcases List.mem_append.1 ho with ho | ho
    · exact HH.out.good o ho
    · rw [List.mem_singleton] at ho
      subst ho
      have hgb := of_decide_eq_true HG.out
      refine ⟨?_, ?_, ?_, ?_⟩ <;> simp only [Ob.len, List.length_replicate] <;> omega

set_option maxRecDepth 20000 in
set_option maxHeartbeats 1000000 in
theorem place_bad (w : World) (hb : Value) (k l p : Int) (hg : goodB k l p = false) :
    Calls Tryz.prog 106 #[hb, .agg #[.int .i64 k, .int .i64 l, .int .i64 p]] w fun e w' => e = .returned (.tuple #[.int .i64 0, .int .i64 1]) ∧ Upd (fun _ => False) w w' := by
  have HPk := Lib.hid (fun w => pack_no k l p hg w)
  have hus : Upd (fun _ => False) w (w.alloc (.cells #[.int .i64 k, .int .i64 l, .int .i64 p] 136)) := (Upd.refl _ w).alloc _
  have HUS := Lib.hid hus
  clear hg hus
  go_enter Tryz.func106, Tryz.ntmps106
  go_wp2_with fail
  refine (HPk.out _).mono ?_
  rintro e w1 ⟨rfl, hu1⟩
  have HU1 := Lib.hid (HUS.out.trans hu1)
  clear hu1
  go_wp2
  go_ret2
  exact ⟨rfl, HU1.out⟩

set_option maxRecDepth 20000 in
set_option maxHeartbeats 1000000 in
theorem place_full (w : World) (h wb sb n : Nat) (os : List Ob) (rest : List Int) (H : HeapAt w h wb sb n os rest) (k l p : Nat) (hg : goodB k l p = true) (hl : rest.length < 1 + l) :
    Calls Tryz.prog 106 #[.pointer (some ⟨h, 0, none⟩), .agg #[.int .i64 (k : Int), .int .i64 (l : Int), .int .i64 (p : Int)]] w fun e w' => e = .returned (.tuple #[.int .i64 0, .int .i64 6]) ∧ Upd (fun _ => False) w w' := by
  have hgb := of_decide_eq_true hg
  have hl1 : l ≤ 4095 := by omega
  have hs := H.size
  have hhi := H.hi
  have l1 := H.str.lt
  have hpk := fun w => pack_yes k l p hg w
  have HPk := Lib.hid hpk
  have HH := Lib.hid H
  have hbx := Blk.made w [.int .i64 (k : Int), .int .i64 (l : Int), .int .i64 (p : Int)] 136
  have hus : Upd (fun _ => False) w (w.alloc (.cells #[.int .i64 (k : Int), .int .i64 (l : Int), .int .i64 (p : Int)] 136)) := (Upd.refl _ w).alloc _
  have HX := Lib.hid hbx
  have HUS := Lib.hid hus
  obtain ⟨T, hT⟩ : ∃ T, T = top os := ⟨_, rfl⟩
  rw [← hT] at hs
  have HT := Lib.hid hT
  have hTn : T ≤ n := by omega
  have d1 : decide ((n : Int) - (T : Int) ≤ (l : Int)) = true := decide_eq_true (by omega)
  clear hgb hpk H hg hbx hus hT hs
  go_enter Tryz.func106, Tryz.ntmps106
  go_wp2_with fail
  refine (HPk.out _).mono ?_
  rintro e w1 ⟨rfl, hu1⟩
  have H1 := HH.out.quiet (HUS.out.trans hu1)
  have hx1 := HX.out.upd hu1 (fun h => h)
  have c0 := H1.str.cell 0 rfl
  have c1 := H1.str.cell 1 rfl
  rw [← HT.out] at c1
  have b1 := hx1.cell 1 rfl
  have hu1' := Lib.hid (HUS.out.trans hu1)
  clear H1 hx1 hu1
  have m1 : IntKind.i64.wrap ((n : Int) - (T : Int)) = (n : Int) - (T : Int) := IntWalk.i64_in _ (by omega)
  go_wp2
  go_quiet (fail)
  have hu2' := Lib.hid (hu1'.out.drewN nq)
  generalize w1.drewN nq = w2 at *
  clear c0 c1 b1 m1
  go_wp2
  go_ret2
  exact ⟨rfl, hu2'.out⟩
end Go.Proofs.YtapjajclmbpjmaaGreatDoor.Heap
