/- Contracts of package heap: a new one, what a word leads to, words written. -/
import Derived.Test.YtapjajclmbpjmaaGreatDoorHeap3
namespace Go.Proofs.YtapjajclmbpjmaaGreatDoor.Heap
open Go.RowKit Go.Proofs.YtapjajclmbpjmaaGreatDoor.Mem Go.Proofs.YtapjajclmbpjmaaGreatDoor.Obj

theorem new_no (n : Int) (w : World) (h : n < 1 ∨ 65536 < n) :
    Calls Tryz.prog 17 #[.int .i64 n] w fun e w' => e = .returned (.tuple #[.pointer none, .int .i64 1]) ∧ w = w' := by
  by_cases h0 : n < 1
  · have d0 : decide (n < 1) = true := decide_eq_true h0
    go_enter Tryz.func17, Tryz.ntmps17
    go_wp2
    go_ret2
    exact ⟨rfl, rfl⟩
  · have d0 : decide (n < 1) = false := decide_eq_false h0
    have d1 : decide (65536 < n) = true := decide_eq_true (by omega)
    clear h
    go_enter Tryz.func17, Tryz.ntmps17
    go_wp2
    go_ret2
    exact ⟨rfl, rfl⟩

theorem Blk.made3 (w : World) (o o' : Obj) (cs : List Value) (t : TypeId) : Blk (((w.alloc o).alloc o').alloc (.cells cs.toArray t)) (w.heap.size + 1 + 1) cs t := by
  have h := Blk.made' (w.alloc o) o' cs t
  rwa [World.size_alloc] at h
/-- A new heap. -/
def NewHeap (w : World) (n : Nat) (e : Ending) (w' : World) : Prop :=
  ∃ h wb sb, e = .returned (.tuple #[.pointer (some ⟨h, 0, none⟩), .int .i64 0]) ∧ HeapAt w' h wb sb n [] (List.replicate n 0) ∧ w.heap.size ≤ h ∧ w.heap.size ≤ wb ∧ w.heap.size ≤ sb ∧ Upd (fun _ => False) w w'

theorem made_ints (n : Nat) : (madeCells #[Value.int .i64 0] n) = (ints (flat [] ++ List.replicate n 0)).toArray := by
  rw [madeCells_one]
  simp [ints, flat]
theorem made_bools (n : Nat) : (madeCells #[Value.bool false] n) = (bools (Obj.marks [] ++ List.replicate (List.replicate n (0 : Int)).length false)).toArray := by
  rw [madeCells_one]
  simp [bools, Obj.marks]

set_option maxHeartbeats 1000000 in
theorem new_yes (n : Nat) (w : World) (h0 : 1 ≤ n) (h1 : n ≤ 65536) :
    Calls Tryz.prog 17 #[.int .i64 (n : Int)] w (NewHeap w n) := by
  have d0 : decide ((n : Int) < 1) = false := decide_eq_false (by omega)
  have d0' : decide (n < 1) = false := decide_eq_false (by omega)
  have d1 : decide (65536 < (n : Int)) = false := decide_eq_false (by omega)
  have d1' : decide (65536 < n) = false := decide_eq_false (by omega)
  have hmk1 := run_make_row' (P := Tryz.prog) 47 3 (.int .i64 0) 8 Tryz.underlying47 infoInt rfl .i64 .i64 n (by omega) (by omega)
  have hmk2 := run_make_row' (P := Tryz.prog) 68 4 (.bool false) 1 Tryz.underlying68 infoBool rfl .i64 .i64 n (by omega) (by omega)
  rw [made_ints] at hmk1
  rw [made_bools] at hmk2
  obtain ⟨cs1, hcs1⟩ : ∃ cs, cs = ints (flat [] ++ List.replicate n 0) := ⟨_, rfl⟩
  obtain ⟨cs2, hcs2⟩ : ∃ cs, cs = bools (Obj.marks [] ++ List.replicate (List.replicate n (0 : Int)).length false) := ⟨_, rfl⟩
  rw [← hcs1] at hmk1
  rw [← hcs2] at hmk2
  have fin : ∀ (w' : World) (h wb sb : Nat), Blk w' h [.slice (some ⟨wb, 0, none⟩) n n, .int .i64 0, .slice (some ⟨sb, 0, none⟩) n n] 70 → Blk w' wb cs1 3 → Blk w' sb cs2 4 → w.heap.size ≤ h → w.heap.size ≤ wb → w.heap.size ≤ sb → h ≠ wb ∧ h ≠ sb ∧ wb ≠ sb → Upd (fun _ => False) w w' →
      NewHeap w n (.returned (.tuple #[.pointer (some ⟨h, 0, none⟩), .int .i64 0])) w' := fun w' h wb sb b1 b2 b3 g1 g2 g3 g4 u =>
    ⟨h, wb, sb, rfl, ⟨b1, by rw [← hcs1]; exact b2, by rw [← hcs2]; exact b3, by simp [top, flat], h0, h1, fun o ho => (by cases ho), g4⟩, g1, g2, g3, u⟩
  have Fin := Lib.hid fin
  clear hcs1 hcs2 fin
  go_enter Tryz.func17, Tryz.ntmps17
  go_wp2
  go_region
  · go_wp2
    go_ret2
    exact Fin.out _ (w.heap.size + 1 + 1) w.heap.size (w.heap.size + 1) (Blk.made3 w _ _ _ _).drew (((Blk.made w cs1 _).alloc _).alloc _).drew ((Blk.made' w _ cs2 _).alloc _).drew (by omega) (by omega) (by omega) ⟨by omega, by omega, by omega⟩ ((((Upd.refl _ w).alloc _).alloc _).alloc _).drew
  · go_wp2
    go_ret2
    exact Fin.out _ (w.heap.size + 1 + 1) (w.heap.size + 1) w.heap.size (Blk.made3 w _ _ _ _).drew ((Blk.made' w _ cs1 _).alloc _).drew (((Blk.made w cs2 _).alloc _).alloc _).drew (by omega) (by omega) (by omega) ⟨by omega, by omega, by omega⟩ ((((Upd.refl _ w).alloc _).alloc _).alloc _).drew

theorem leads_zero (w : World) (hb : Value) : Calls Tryz.prog 85 #[hb, .int .i64 0] w fun e w' => e = .returned (.bool true) ∧ Upd (fun _ => False) w w' := by
  go_enter Tryz.func85, Tryz.ntmps85
  go_wp2
  go_ret
  exact ⟨rfl, Upd.refl _ _⟩

theorem leads_look (os : List Ob) (x : Int) (hx : x ≠ 0) : leads os x = match lookAt os (x - 1) with | some o => decide (o.kind ≠ 15) | none => false := by
  unfold leads lookAt
  rw [decide_eq_false hx, Bool.false_or]
  by_cases h : 0 < x
  · rw [decide_eq_true h, Bool.true_and, if_neg (by omega)]
    cases find os (x - 1).toNat <;> rfl
  · rw [decide_eq_false h, Bool.false_and, if_pos (by omega)]
theorem lookAt_max {os : List Ob} (h : top os ≤ 65536) : lookAt os 9223372036854775807 = none := by
  unfold lookAt
  rw [if_neg (by decide)]
  exact find_none (by omega)

set_option maxHeartbeats 1000000 in
theorem leads_any (w : World) (h wb sb n : Nat) (os : List Ob) (rest : List Int) (H : HeapAt w h wb sb n os rest) (x : Int) (hx : -9223372036854775808 ≤ x ∧ x ≤ 9223372036854775807) :
    Calls Tryz.prog 85 #[.pointer (some ⟨h, 0, none⟩), .int .i64 x] w fun e w' => e = .returned (.bool (leads os x)) ∧ Upd (fun _ => False) w w' := by
  by_cases h0 : x = 0
  · subst h0
    exact leads_zero w _
  · have d0 : (x == 0) = false := by rw [beq_eq_false_iff_ne]; exact h0
    have hl := leads_look os x h0
    have hs := H.size
    have hhi := H.hi
    obtain ⟨y, hy, hyl⟩ : ∃ y, IntKind.i64.wrap (x - 1) = y ∧ lookAt os (x - 1) = lookAt os y := by
      by_cases hm : x = -9223372036854775808
      · subst hm
        refine ⟨9223372036854775807, by decide, ?_⟩
        rw [lookAt_max (by omega)]
        unfold lookAt
        rw [if_pos (by decide)]
      · exact ⟨x - 1, IntWalk.i64_in _ (by omega), rfl⟩
    rw [hyl] at hl
    have HL := Lib.hid hl
    have HH := Lib.hid H
    clear hl hyl H hs
    cases ho : lookAt os y with
    | none =>
      have hl2 := HL.out
      rw [ho] at hl2
      have HHd := Lib.hid (head_no w h wb sb n os rest HH.out y ho)
      have HL2 := Lib.hid hl2
      clear ho hl2
      go_enter Tryz.func85, Tryz.ntmps85
      go_wp2_with fail
      refine (HHd.out).mono ?_
      rintro e w1 ⟨rfl, hu1⟩
      have HU := Lib.hid (hu1.alloc (.cells #[.int .i64 0, .int .i64 0, .int .i64 0] 136))
      clear hu1
      go_wp2
      go_ret
      exact ⟨ret_bool HL2.out.symm, HU.out⟩
    | some o =>
      obtain ⟨a, rfl, hf⟩ := lookAt_some ho
      have hl2 := HL.out
      rw [ho] at hl2
      have HHd := Lib.hid (head_yes w h wb sb n os rest HH.out a o hf)
      have HL2 := Lib.hid hl2
      clear ho hl2 hf
      by_cases hk : o.kind = 15
      · have dk : ((o.kind : Int) != 15) = false := by rw [bne_eq_false_iff_eq]; omega
        have hfin : leads os x = false := by rw [HL2.out]; exact decide_eq_false (by omega)
        have Hfin := Lib.hid hfin
        clear hk hfin
        go_enter Tryz.func85, Tryz.ntmps85
        go_wp2_with fail
        refine (HHd.out).mono ?_
        rintro e w1 ⟨rfl, hu1⟩
        have HU := Lib.hid (hu1.alloc (.cells #[.int .i64 (o.kind : Int), .int .i64 (o.len : Int), .int .i64 (o.ptrs : Int)] 136))
        clear hu1
        go_wp2
        go_ret
        exact ⟨ret_bool Hfin.out.symm, HU.out⟩
      · have dk : ((o.kind : Int) != 15) = true := by rw [bne_iff_ne]; omega
        have hfin : leads os x = true := by rw [HL2.out]; exact decide_eq_true hk
        have Hfin := Lib.hid hfin
        clear hk hfin
        go_enter Tryz.func85, Tryz.ntmps85
        go_wp2_with fail
        refine (HHd.out).mono ?_
        rintro e w1 ⟨rfl, hu1⟩
        have HU := Lib.hid (hu1.alloc (.cells #[.int .i64 (o.kind : Int), .int .i64 (o.len : Int), .int .i64 (o.ptrs : Int)] 136))
        clear hu1
        go_wp2
        go_ret
        exact ⟨ret_bool Hfin.out.symm, HU.out⟩

theorem setWord_ws {os : List Ob} {a f : Nat} {x : Int} {o : Ob} {rest : List Int} (hf : find os a = some o) (hl : f < o.len) : (ints (flat os ++ rest)).set (a + 1 + f) (.int .i64 x) = ints (flat (setWord os a f x) ++ rest) := by
  have h1 := find_lt hf
  rw [setWord_flat os a f x o hf hl]
  simp only [ints, List.map_append, List.map_set]
  rw [List.set_append_left _ _ (by simp only [List.length_map]; simp only [top] at h1; omega)]

theorem HeapAt.written {w : World} {h wb sb n : Nat} {os : List Ob} {rest : List Int} (H : HeapAt w h wb sb n os rest) {a f : Nat} {o : Ob} (x : Int) (hf : find os a = some o) (hl : f < o.len) :
    HeapAt (w.setCell ⟨wb, a + 1 + f, none⟩ (.int .i64 x)) h wb sb n (setWord os a f x) rest := by
  refine ⟨?_, ?_, ?_, ?_, H.lo, H.hi, setWord_good H.good a f x, H.ne⟩
  · rw [setWord_top]; exact H.str.setOther _ H.ne.1
  · rw [← setWord_ws hf hl]; exact H.wds.set _ _
  · rw [setWord_marks]; exact H.sts.setOther _ (fun e => H.ne.2.2 e.symm)
  · rw [setWord_top]; exact H.size

set_option maxRecDepth 20000 in
set_option maxHeartbeats 1000000 in
theorem write_yes (w : World) (h wb sb n : Nat) (os : List Ob) (rest : List Int) (H : HeapAt w h wb sb n os rest) (a f : Nat) (o : Ob) (x : Int) (hx : -9223372036854775808 ≤ x ∧ x ≤ 9223372036854775807) (hf : find os a = some o) (hfl : f < o.len) (hk : o.kind ≠ 15) (hp : f < o.ptrs → leads os x = true) :
    Calls Tryz.prog 65 #[.pointer (some ⟨h, 0, none⟩), .int .i64 (a : Int), .int .i64 (f : Int), .int .i64 x] w fun e w' => e = .returned (.int .i64 0) ∧ HeapAt w' h wb sb n (setWord os a f x) rest ∧ Upd (fun k => k = wb) w w' := by
  have hlt := find_lt hf
  have hs := H.size
  have hhi := H.hi
  have hhd := field_yes _ h wb sb n os rest H a f o hf hfl
  have HHd := Lib.hid hhd
  have HH := Lib.hid H
  have HF := Lib.hid hf
  have HX := Lib.hid hx
  have HFL := Lib.hid hfl
  have i1 : a + 1 + f < n := by omega
  have i2 : a ≤ 65536 := by omega
  have i3 : f ≤ 65536 := by omega
  have dk : ((o.kind : Int) == 15) = false := by rw [beq_eq_false_iff_ne]; omega
  obtain ⟨y, hy⟩ : ∃ y, (ints (flat os ++ rest))[a + 1 + f]? = some y := ⟨_, List.getElem?_eq_getElem (by simp only [ints, List.length_map, List.length_append]; simp only [top] at hs; omega)⟩
  have HY := Lib.hid hy
  clear hhd H hf hx hs hlt hhi hk hfl hy
  by_cases hpt : f < o.ptrs
  · have dp : decide ((f : Int) < (o.ptrs : Int)) = true := decide_eq_true (by omega)
    have dp' : decide (f < o.ptrs) = true := decide_eq_true hpt
    have HP := Lib.hid (hp hpt)
    clear hp hpt
    go_enter Tryz.func65, Tryz.ntmps65
    go_wp2_with fail
    refine HHd.out.mono ?_
    rintro e w1 ⟨rfl, hu1⟩
    have HU1 := Lib.hid hu1
    have hb1 := Blk.made w1 [.int .i64 (o.kind : Int), .int .i64 (o.len : Int), .int .i64 (o.ptrs : Int)] 136
    have H1 := HH.out.quiet (hu1.alloc (.cells #[.int .i64 (o.kind : Int), .int .i64 (o.len : Int), .int .i64 (o.ptrs : Int)] 136))
    have HB1 := Lib.hid hb1
    have HH1 := Lib.hid H1
    clear hu1 hb1 H1
    go_wp2_with fail
    refine (leads_any _ h wb sb n os rest HH1.out x HX.out).mono ?_
    rintro e w2 ⟨rfl, hu2⟩
    rw [HP.out]
    have H2 := HH1.out.quiet hu2
    have c0 := H2.str.cell 0 rfl
    have c1 := H2.wds.cell _ HY.out
    have f1 := H2.wds.frozen (a + 1 + f)
    have l1 := H2.str.lt
    have l2 := H2.wds.lt
    have HH2 := Lib.hid H2
    have HU2 := Lib.hid ((HU1.out.alloc (.cells #[.int .i64 (o.kind : Int), .int .i64 (o.len : Int), .int .i64 (o.ptrs : Int)] 136)).trans hu2)
    clear H2 hu2
    go_wp2
    go_ret
    exact ⟨rfl, HH2.out.written x HF.out HFL.out, (HU2.out.mono (fun _ _ h => h.elim)).setCell _ (fun _ => rfl)⟩
  · have dp : decide ((f : Int) < (o.ptrs : Int)) = false := decide_eq_false (by omega)
    have dp' : decide (f < o.ptrs) = false := decide_eq_false hpt
    clear hp hpt
    go_enter Tryz.func65, Tryz.ntmps65
    go_wp2_with fail
    refine HHd.out.mono ?_
    rintro e w1 ⟨rfl, hu1⟩
    have HU1 := Lib.hid hu1
    have H1 := HH.out.quiet hu1
    have c0 := H1.str.cell 0 rfl
    have c1 := H1.wds.cell _ HY.out
    have f1 := H1.wds.frozen (a + 1 + f)
    have l1 := H1.str.lt
    have l2 := H1.wds.lt
    have HH2 := Lib.hid (HH.out.quiet HU1.out)
    clear hu1 H1
    go_wp2
    go_ret
    exact ⟨rfl, (HH2.out.written x HF.out HFL.out).quiet ((Upd.refl _ _).alloc _), ((HU1.out.mono (T := fun k => k = wb) (fun _ _ h => h.elim)).setCell (p := ⟨wb, a + 1 + f, none⟩) _ (fun _ => rfl)).alloc _⟩

theorem top_any (w : World) (h wb sb n : Nat) (os : List Ob) (rest : List Int) (H : HeapAt w h wb sb n os rest) :
    Calls Tryz.prog 25 #[.pointer (some ⟨h, 0, none⟩)] w fun e w' => e = .returned (.int .i64 (top os : Int)) ∧ w = w' := by
  have c1 := H.str.cell 1 rfl
  clear H
  go_enter Tryz.func25, Tryz.ntmps25
  go_wp2
  go_ret
  exact ⟨rfl, rfl⟩
end Go.Proofs.YtapjajclmbpjmaaGreatDoor.Heap
