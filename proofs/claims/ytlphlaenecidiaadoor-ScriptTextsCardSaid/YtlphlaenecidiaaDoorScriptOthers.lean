/- The law ScriptOthers: the walk. -/
import Derived.Test.YtlphlaenecidiaaDoorScr5
import Derived.Test.YtlphlaenecidiaaDoorHead
set_option linter.unusedSimpArgs false
namespace Go.Proofs.YtlphlaenecidiaaDoor.Scr
open Go.RowKit Go.Proofs.YtlphlaenecidiaaDoor.Mem

/-- Both arguments lie there. -/
def Both (w1 : World) (p q : Nat) (a b : Ent) (V : World) : Prop := Upd (fun _ => False) w1 V ∧ V.cell? ⟨p, 0, none⟩ = some (.int .i64 a.op) ∧ V.cell? ⟨p, 1, none⟩ = some (.int .i64 a.n0) ∧ V.cell? ⟨p, 2, none⟩ = some (.int .i64 a.n1) ∧ V.cell? ⟨p, 3, none⟩ = some (.int .i64 a.n2) ∧ V.cell? ⟨p, 4, none⟩ = some (.int .i64 a.n3) ∧
  V.cell? ⟨q, 0, none⟩ = some (.int .i64 b.op) ∧ V.cell? ⟨q, 1, none⟩ = some (.int .i64 b.n0) ∧ V.cell? ⟨q, 2, none⟩ = some (.int .i64 b.n1) ∧ V.cell? ⟨q, 3, none⟩ = some (.int .i64 b.n2) ∧ V.cell? ⟨q, 4, none⟩ = some (.int .i64 b.n3)
theorem Both.of {w1 V : World} {p q : Nat} {a b : Ent} (ha : Blk w1 p a.cells 25) (hb : Blk w1 q b.cells 25) (u : Upd (fun _ => False) w1 V) : Both w1 p q a b V := by
  have h1 := ha.upd u (fun h => h)
  have h2 := hb.upd u (fun h => h)
  exact ⟨u, h1.cell 0 rfl, h1.cell 1 rfl, h1.cell 2 rfl, h1.cell 3 rfl, h1.cell 4 rfl, h2.cell 0 rfl, h2.cell 1 rfl, h2.cell 2 rfl, h2.cell 3 rfl, h2.cell 4 rfl⟩
theorem if_want {p : Prop} {P Q : Prop} [Decidable p] (hp : p) (h : P) : if p then P else Q := by rw [if_pos hp]; exact h
theorem text_good {w : World} (T : Tabs w) {e : Ent} (h64 : e.in64) (hg : e.good) : Calls Tryd.prog 12 #[e.val] w fun x w' => x = .returned (.string ⟨e.line.toArray⟩) ∧ Upd (fun _ => False) w w' := by
  have h := text_any w T e h64
  rw [if_pos hg] at h
  exact h

set_option maxRecDepth 20000 in
set_option maxHeartbeats 4000000 in
theorem others_bad (w : World) (T : Tabs w) (R : Errs w) (a b : Ent) (h : ¬ (a.good ∧ b.good)) :
    Calls Tryd.prog 5 #[a.val, b.val] w fun x w' => x = .returned (.bool true) ∧ Upd (fun _ => False) w w' := by
  have hu0 := ((Upd.refl (fun _ => False) w).alloc (.cells a.cells.toArray 25)).alloc (.cells b.cells.toArray 25)
  have HA := Lib.hid ((Blk.made w a.cells 25).alloc (.cells b.cells.toArray 25))
  have HB := Lib.hid (Blk.made' w (.cells a.cells.toArray 25) b.cells 25)
  have HU := Lib.hid hu0
  have HAw := Lib.hid (fun (V : World) (hV : Upd (fun _ => False) w V) => awake_any V (T.quiet hV) (R.quiet hV))
  have HGd := Lib.hid (fun (V : World) (hV : Upd (fun _ => False) w V) (e : Ent) => good_any V (T.quiet hV) e)
  clear hu0 T R
  go_enter Tryd.func5, Tryd.ntmps5
  go_wp2_with fail
  refine (HAw.out _ HU.out).mono ?_
  rintro x w1 ⟨rfl, hu1⟩
  obtain ⟨_, a0, a1, a2, a3, a4, b0, b1, b2, b3, b4⟩ := Both.of (HA.out.upd hu1 (fun h => h)) (HB.out.upd hu1 (fun h => h)) (Upd.refl _ _)
  have al := World.block_lt_of_cell? w1 _ a0
  have bl := World.block_lt_of_cell? w1 _ b0
  have HA1 := Lib.hid (HA.out.upd hu1 (fun h => h))
  have HB1 := Lib.hid (HB.out.upd hu1 (fun h => h))
  have HU1 := Lib.hid (HU.out.trans hu1)
  clear hu1
  by_cases ga : a.good
  · have gb : ¬ b.good := fun hb => h ⟨ga, hb⟩
    have hga := HGd.out w1 HU1.out a
    rw [decide_eq_true ga] at hga
    have HGa := Lib.hid hga
    have GB := Lib.hid gb
    clear ga gb hga h
    go_wp2_with fail
    refine (HGa.out).mono ?_
    rintro x w2 ⟨rfl, hu2⟩
    have hgb := HGd.out w2 (HU1.out.trans hu2) b
    rw [decide_eq_false GB.out] at hgb
    have HGb := Lib.hid hgb
    have HU2 := Lib.hid (HU1.out.trans hu2)
    clear a0 a1 a2 a3 a4 b0 b1 b2 b3 b4 al bl
    obtain ⟨_, a0, a1, a2, a3, a4, b0, b1, b2, b3, b4⟩ := Both.of (HA1.out.upd hu2 (fun h => h)) (HB1.out.upd hu2 (fun h => h)) (Upd.refl _ _)
    have al := World.block_lt_of_cell? w2 _ a0
    have bl := World.block_lt_of_cell? w2 _ b0
    clear hu2 hgb
    go_wp2_with fail
    refine (HGb.out).mono ?_
    rintro x w3 ⟨rfl, hu3⟩
    have HU3 := Lib.hid (HU2.out.trans hu3)
    clear hu3 a0 a1 a2 a3 a4 b0 b1 b2 b3 b4 al bl
    go_wp2_with fail
    refine (HAw.out _ HU3.out).mono ?_
    rintro x w4 ⟨rfl, hu4⟩
    have HU4 := Lib.hid (HU3.out.trans hu4)
    clear hu4
    go_wp2
    go_ret
    exact ⟨rfl, HU4.out⟩
  · have hga := HGd.out w1 HU1.out a
    rw [decide_eq_false ga] at hga
    have HGa := Lib.hid hga
    clear ga hga h
    go_wp2_with fail
    refine (HGa.out).mono ?_
    rintro x w2 ⟨rfl, hu2⟩
    have HU2 := Lib.hid (HU1.out.trans hu2)
    clear hu2 a0 a1 a2 a3 a4 b0 b1 b2 b3 b4 al bl
    go_wp2_with fail
    refine (HAw.out _ HU2.out).mono ?_
    rintro x w4 ⟨rfl, hu4⟩
    have HU4 := Lib.hid (HU2.out.trans hu4)
    clear hu4
    go_wp2
    go_ret
    exact ⟨rfl, HU4.out⟩

attribute [-go_sem] run_eql_struct run_equalIn_agg in
set_option maxRecDepth 20000 in
set_option maxHeartbeats 8000000 in
theorem others_good (w : World) (T : Tabs w) (R : Errs w) (a b : Ent) (ha64 : a.in64) (hb64 : b.in64) (ga : a.good) (gb : b.good) :
    Calls Tryd.prog 5 #[a.val, b.val] w fun x w' => x = .returned (.bool true) ∧ Upd (fun _ => False) w w' := by
  have hu0 := ((Upd.refl (fun _ => False) w).alloc (.cells a.cells.toArray 25)).alloc (.cells b.cells.toArray 25)
  have HA := Lib.hid ((Blk.made w a.cells 25).alloc (.cells b.cells.toArray 25))
  have HB := Lib.hid (Blk.made' w (.cells a.cells.toArray 25) b.cells 25)
  have HU := Lib.hid hu0
  have HAw := Lib.hid (fun (V : World) (hV : Upd (fun _ => False) w V) => awake_any V (T.quiet hV) (R.quiet hV))
  have HGa := Lib.hid (fun (V : World) (hV : Upd (fun _ => False) w V) => (decide_eq_true ga ▸ good_any V (T.quiet hV) a : Calls Tryd.prog 11 #[a.val] V fun x w' => x = .returned (.bool true) ∧ Upd (fun _ => False) V w'))
  have HGb := Lib.hid (fun (V : World) (hV : Upd (fun _ => False) w V) => (decide_eq_true gb ▸ good_any V (T.quiet hV) b : Calls Tryd.prog 11 #[b.val] V fun x w' => x = .returned (.bool true) ∧ Upd (fun _ => False) V w'))
  have HTa := Lib.hid (fun (V : World) (hV : Upd (fun _ => False) w V) => text_good (T.quiet hV) ha64 ga)
  have HTb := Lib.hid (fun (V : World) (hV : Upd (fun _ => False) w V) => text_good (T.quiet hV) hb64 gb)
  have hmo := (Ent.good_op ga).2.2.1
  have HMy := Lib.hid (fun (V : World) (hV : Upd (fun _ => False) w V) => (hmo ▸ many_any V (T.quiet hV) a.op : Calls Tryd.prog 14 #[.int .i64 a.op] V fun e w' => e = .returned (.int .i64 (a.m : Int)) ∧ w' = V))
  obtain ⟨L, hL⟩ : ∃ L, L = a.line := ⟨_, rfl⟩
  have hLl : L.length ≤ 200 := by rw [hL]; exact line_len ha64
  have hLc : L.count 32 = a.m := by rw [hL]; exact line_blanks ga
  have hse : (a.line == b.line) = decide (a = b) := by
    by_cases h : a = b
    · subst h; rw [decide_eq_true rfl]; exact beq_self_eq_true _
    · rw [decide_eq_false h, beq_eq_false_iff_ne]
      intro e
      exact h (line_inj ga gb ha64 hb64 e)
  obtain ⟨d, hd⟩ : ∃ d, decide (a = b) = d := ⟨_, rfl⟩
  rw [hd] at hse
  have heq : ∀ W : World, (binOp .eql 25 (.agg #[.int .i64 a.op, .int .i64 a.n0, .int .i64 a.n1, .int .i64 a.n2, .int .i64 a.n3]) (.agg #[.int .i64 b.op, .int .i64 b.n0, .int .i64 b.n1, .int .i64 b.n2, .int .i64 b.n3])).run Tryd.prog W = .ok (.bool d) W := fun W => by
    have h := ent_eq W a b
    rw [hd] at h
    exact h
  rw [← hL] at hse HTa
  have HLc := Lib.hid hLc
  clear hu0 T R ga gb ha64 hb64 hmo hd hL hLc
  go_enter Tryd.func5, Tryd.ntmps5
  go_wp2_with fail
  refine (HAw.out _ HU.out).mono ?_
  rintro x w1 ⟨rfl, hu1⟩
  have HA1 := Lib.hid (HA.out.upd hu1 (fun h => h))
  have HB1 := Lib.hid (HB.out.upd hu1 (fun h => h))
  have HU1 := Lib.hid (HU.out.trans hu1)
  clear hu1
  obtain ⟨_, a0, a1, a2, a3, a4, b0, b1, b2, b3, b4⟩ := Both.of HA1.out HB1.out (Upd.refl _ w1)
  have al := World.block_lt_of_cell? w1 _ a0
  have bl := World.block_lt_of_cell? w1 _ b0
  go_wp2_with fail
  refine (HGa.out _ HU1.out).mono ?_
  rintro x w2 ⟨rfl, hu2⟩
  have HU2 := Lib.hid hu2
  clear a0 a1 a2 a3 a4 b0 b1 b2 b3 b4 al bl hu2
  obtain ⟨_, a0, a1, a2, a3, a4, b0, b1, b2, b3, b4⟩ := Both.of HA1.out HB1.out HU2.out
  have al := World.block_lt_of_cell? w2 _ a0
  have bl := World.block_lt_of_cell? w2 _ b0
  go_wp2_with fail
  refine (HGb.out _ (HU1.out.trans HU2.out)).mono ?_
  rintro x w3 ⟨rfl, hu3⟩
  have HU3 := Lib.hid (HU2.out.trans hu3)
  clear a0 a1 a2 a3 a4 b0 b1 b2 b3 b4 al bl hu3
  obtain ⟨_, a0, a1, a2, a3, a4, b0, b1, b2, b3, b4⟩ := Both.of HA1.out HB1.out HU3.out
  have al := World.block_lt_of_cell? w3 _ a0
  have bl := World.block_lt_of_cell? w3 _ b0
  go_wp2_with fail
  refine (HTa.out _ (HU1.out.trans HU3.out)).mono ?_
  rintro x w4 ⟨rfl, hu4⟩
  have HU4 := Lib.hid (HU3.out.trans hu4)
  clear a0 a1 a2 a3 a4 b0 b1 b2 b3 b4 al bl hu4
  go_wp2_with fail
  go_loopw [5, 23] (fun c i wr => ∃ j : Nat, j ≤ L.length ∧ i = .int .i64 (j : Int) ∧ c = .int .i64 (((L.take j).count 32 : Nat) : Int) ∧ Upd (fun _ => False) w1 wr) (fun _ i _ => L.length - (Lib.intOf i).toNat)
  case atStart => exact ⟨0, Nat.zero_le _, rfl, rfl, HU4.out⟩
  case round =>
    obtain ⟨j, hj, rfl, rfl, hU⟩ := hrel
    have HUr := Lib.hid hU
    obtain ⟨_, a0, a1, a2, a3, a4, b0, b1, b2, b3, b4⟩ := Both.of HA1.out HB1.out hU
    have al := World.block_lt_of_cell? wr _ a0
    have bl := World.block_lt_of_cell? wr _ b0
    obtain ⟨C, hC⟩ : ∃ C, C = (L.take j).count 32 := ⟨_, rfl⟩
    rw [← hC]
    have hCl : C ≤ 200 := by rw [hC]; have := List.count_le_length (a := (32 : UInt8)) (l := L.take j); rw [List.length_take] at this; omega
    have HC := Lib.hid hC
    clear hU hC
    by_cases hjl : j < L.length
    · obtain ⟨x, hx⟩ : ∃ x, L[j]? = some x := ⟨_, List.getElem?_eq_getElem hjl⟩
      have hgx : L[j] = x := (List.getElem?_eq_some_iff.1 hx).2
      have e1 : decide ((j : Int) < (L.length : Int)) = true := decide_eq_true (by omega)
      have e1' : decide (j < L.length) = true := decide_eq_true hjl
      have j1 : (0 : Int) ≤ (j : Int) := by omega
      have j2 : (j : Int) < (L.length : Int) := by omega
      have hct : (L.take (j + 1)).count 32 = C + if x = 32 then 1 else 0 := by
        rw [List.take_add_one, hx, Option.toList_some, List.count_append, ← HC.out, List.count_singleton]
        by_cases h : x = 32 <;> simp [h]
      have HCt := Lib.hid hct
      have HX := Lib.hid hx
      clear hct hx
      go_wp2_with fail
      refine (HTa.out _ (HU1.out.trans HUr.out)).mono ?_
      rintro y w5 ⟨rfl, hu5⟩
      have HU5 := Lib.hid (HUr.out.trans hu5)
      clear a0 a1 a2 a3 a4 b0 b1 b2 b3 b4 al bl hu5
      by_cases h32 : x = 32
      · subst h32
        have hct := HCt.out
        rw [if_pos rfl] at hct
        have HCt1 := Lib.hid hct
        have e32 : ((((ByteArray.mk L.toArray)[j]'(show j < L.toArray.size by simpa using hjl)).toNat : Int) == 32) = true := by
          show (((L[j].toNat : Nat) : Int) == 32) = true
          rw [hgx]; rfl
        clear hct hgx
        go_wp2_with fail
        go_roundw
        case rel => exact ⟨j + 1, by omega, by go_num, by rw [HCt1.out]; go_num, HU5.out⟩
        case measure => simp [Lib.intOf]; omega
      · have hct := HCt.out
        rw [if_neg h32] at hct
        have HCt1 := Lib.hid hct
        have e32 : ((((ByteArray.mk L.toArray)[j]'(show j < L.toArray.size by simpa using hjl)).toNat : Int) == 32) = false := by
          show (((L[j].toNat : Nat) : Int) == 32) = false
          rw [hgx, beq_eq_false_iff_ne]
          intro h
          exact h32 (UInt8.toNat_inj.1 (by show x.toNat = 32; omega))
        clear hct hgx
        go_wp2_with fail
        go_roundw
        case rel => exact ⟨j + 1, by omega, by go_num, by rw [HCt1.out]; go_num, HU5.out⟩
        case measure => simp [Lib.intOf]; omega
    · have hje : j = L.length := by omega
      subst hje
      have e1 : decide ((L.length : Int) < (L.length : Int)) = false := decide_eq_false (by omega)
      have e1' : decide (L.length < L.length) = false := decide_eq_false (by omega)
      have hCm : C = a.m := by rw [HC.out, List.take_length]; exact HLc.out
      subst hCm
      go_upto_region 10 with (fail)
      refine wp_region_held_drew (S := Both w1 w.heap.size (w.heap.size + 1) a b) (by kernel_rfl) (Both.of HA1.out HB1.out HUr.out.drew) (fun hHeld => ?_)
      simp only [List.size_toArray, List.length_cons, List.length_nil, Nat.reduceAdd]
      have HC0 := Lib.hid (HUr.out.drew)
      refine take_any (i := 0) (v := ?_) (by rfl) (by kernel_rfl) (by exact (fun _ _ _ h => h)) (by rfl) hHeld ?_ ?_
      rotate_left
      · ((intro V hV; obtain ⟨_, hV0, hV1, hV2, hV3, hV4, hV5, hV6, hV7, hV8, hV9⟩ := hV; go_simp) <;> (with_reducible rfl))
      try simp only [Act.put, List.getElem?_toArray, List.getElem?_cons_succ, List.getElem?_cons_zero, List.getElem_toArray, List.getElem_cons_succ, List.getElem_cons_zero, List.setIfInBounds_toArray, List.set_cons_zero, List.set_cons_succ]
      refine take_any (i := 2) (v := ?_) (by rfl) (by kernel_rfl) (by exact (fun _ _ _ h => h)) (by rfl) hHeld ?_ ?_
      rotate_left
      · ((intro V hV; obtain ⟨_, hV0, hV1, hV2, hV3, hV4, hV5, hV6, hV7, hV8, hV9⟩ := hV; go_simp) <;> (with_reducible rfl))
      try simp only [Act.put, List.getElem?_toArray, List.getElem?_cons_succ, List.getElem?_cons_zero, List.getElem_toArray, List.getElem_cons_succ, List.getElem_cons_zero, List.setIfInBounds_toArray, List.set_cons_zero, List.set_cons_succ]
      refine take_any (i := 5) (v := ?_) (by rfl) (by kernel_rfl) (by exact (fun _ _ _ h => h)) (by rfl) hHeld ?_ ?_
      rotate_left
      · ((intro V hV; obtain ⟨_, hV0, hV1, hV2, hV3, hV4, hV5, hV6, hV7, hV8, hV9⟩ := hV; go_simp) <;> (with_reducible rfl))
      try simp only [Act.put, List.getElem?_toArray, List.getElem?_cons_succ, List.getElem?_cons_zero, List.getElem_toArray, List.getElem_cons_succ, List.getElem_cons_zero, List.setIfInBounds_toArray, List.set_cons_zero, List.set_cons_succ]
      refine take_any (i := 6) (v := ?_) (by rfl) (by kernel_rfl) (by exact (fun _ _ _ h => h)) (by rfl) hHeld ?_ ?_
      rotate_left
      · ((intro V hV; obtain ⟨_, hV0, hV1, hV2, hV3, hV4, hV5, hV6, hV7, hV8, hV9⟩ := hV; go_simp) <;> (with_reducible rfl))
      try simp only [Act.put, List.getElem?_toArray, List.getElem?_cons_succ, List.getElem?_cons_zero, List.getElem_toArray, List.getElem_cons_succ, List.getElem_cons_zero, List.setIfInBounds_toArray, List.set_cons_zero, List.set_cons_succ]
      refine take_any (i := 7) (v := ?_) (by rfl) (by kernel_rfl) (by exact (fun _ _ _ h => h)) (by rfl) hHeld ?_ ?_
      rotate_left
      · ((intro V hV; obtain ⟨_, hV0, hV1, hV2, hV3, hV4, hV5, hV6, hV7, hV8, hV9⟩ := hV; go_simp) <;> (with_reducible rfl))
      try simp only [Act.put, List.getElem?_toArray, List.getElem?_cons_succ, List.getElem?_cons_zero, List.getElem_toArray, List.getElem_cons_succ, List.getElem_cons_zero, List.setIfInBounds_toArray, List.set_cons_zero, List.set_cons_succ]
      refine next_last (i := 1) (by rfl) (by kernel_rfl) (fun KK hK => ?_)
      go_simp
      refine (HTa.out _ (HU1.out.trans HC0.out)).mono ?_
      rintro y1 V1 ⟨rfl, hu1⟩
      have HC1 := Lib.hid (HC0.out.trans hu1)
      clear hu1
      refine hK.out _ _ (Both.of HA1.out HB1.out HC1.out) (fun hHeld => ?_)
      clear hK KK
      try simp only [Act.put, List.getElem?_toArray, List.getElem?_cons_succ, List.getElem?_cons_zero, List.getElem_toArray, List.getElem_cons_succ, List.getElem_cons_zero, List.setIfInBounds_toArray, List.set_cons_zero, List.set_cons_succ]
      refine next_last (i := 3) (by rfl) (by kernel_rfl) (fun KK hK => ?_)
      go_simp
      refine (HTb.out _ (HU1.out.trans HC1.out)).mono ?_
      rintro y2 V2 ⟨rfl, hu2⟩
      have HC2 := Lib.hid (HC1.out.trans hu2)
      clear hu2
      refine hK.out _ _ (Both.of HA1.out HB1.out HC2.out) (fun hHeld => ?_)
      clear hK KK
      try simp only [Act.put, List.getElem?_toArray, List.getElem?_cons_succ, List.getElem?_cons_zero, List.getElem_toArray, List.getElem_cons_succ, List.getElem_cons_zero, List.setIfInBounds_toArray, List.set_cons_zero, List.set_cons_succ]
      refine take_any (i := 4) (v := ?_) (by rfl) (by kernel_rfl) (by exact (fun _ _ _ h => h)) (by rfl) hHeld ?_ ?_
      rotate_left
      · ((intro V hV; obtain ⟨_, hV0, hV1, hV2, hV3, hV4, hV5, hV6, hV7, hV8, hV9⟩ := hV; go_simp) <;> (with_reducible rfl))
      try simp only [Act.put, List.getElem?_toArray, List.getElem?_cons_succ, List.getElem?_cons_zero, List.getElem_toArray, List.getElem_cons_succ, List.getElem_cons_zero, List.setIfInBounds_toArray, List.set_cons_zero, List.set_cons_succ]
      refine take_any (i := 8) (v := ?_) (by rfl) (by kernel_rfl) (by exact (fun _ _ _ h => h)) (by rfl) hHeld ?_ ?_
      rotate_left
      · ((intro V hV; obtain ⟨_, hV0, hV1, hV2, hV3, hV4, hV5, hV6, hV7, hV8, hV9⟩ := hV; go_simp) <;> (with_reducible rfl))
      try simp only [Act.put, List.getElem?_toArray, List.getElem?_cons_succ, List.getElem?_cons_zero, List.getElem_toArray, List.getElem_cons_succ, List.getElem_cons_zero, List.setIfInBounds_toArray, List.set_cons_zero, List.set_cons_succ]
      refine take_any (i := 9) (v := ?_) (by rfl) (by kernel_rfl) (by exact (fun _ _ _ h => h)) (by rfl) hHeld ?_ ?_
      rotate_left
      · ((intro V hV; obtain ⟨_, hV0, hV1, hV2, hV3, hV4, hV5, hV6, hV7, hV8, hV9⟩ := hV; go_simp) <;> (with_reducible rfl))
      try simp only [Act.put, List.getElem?_toArray, List.getElem?_cons_succ, List.getElem?_cons_zero, List.getElem_toArray, List.getElem_cons_succ, List.getElem_cons_zero, List.setIfInBounds_toArray, List.set_cons_zero, List.set_cons_succ]
      refine take_any (i := 10) (v := ?_) (by rfl) (by kernel_rfl) (by exact (fun _ _ _ h => h)) (by rfl) hHeld ?_ ?_
      rotate_left
      · ((intro V hV; obtain ⟨_, hV0, hV1, hV2, hV3, hV4, hV5, hV6, hV7, hV8, hV9⟩ := hV; go_simp) <;> (with_reducible rfl))
      try simp only [Act.put, List.getElem?_toArray, List.getElem?_cons_succ, List.getElem?_cons_zero, List.getElem_toArray, List.getElem_cons_succ, List.getElem_cons_zero, List.setIfInBounds_toArray, List.set_cons_zero, List.set_cons_succ]
      refine take_any (i := 11) (v := ?_) (by rfl) (by kernel_rfl) (by exact (fun _ _ _ h => h)) (by rfl) hHeld ?_ ?_
      rotate_left
      · ((intro V hV; obtain ⟨_, hV0, hV1, hV2, hV3, hV4, hV5, hV6, hV7, hV8, hV9⟩ := hV; go_simp) <;> (with_reducible rfl))
      try simp only [Act.put, List.getElem?_toArray, List.getElem?_cons_succ, List.getElem?_cons_zero, List.getElem_toArray, List.getElem_cons_succ, List.getElem_cons_zero, List.setIfInBounds_toArray, List.set_cons_zero, List.set_cons_succ]
      refine take_any (i := 12) (v := ?_) (by rfl) (by kernel_rfl) (by exact (fun _ _ _ h => h)) (by rfl) hHeld ?_ ?_
      rotate_left
      · ((intro V hV; obtain ⟨_, hV0, hV1, hV2, hV3, hV4, hV5, hV6, hV7, hV8, hV9⟩ := hV; go_simp) <;> (with_reducible rfl))
      try simp only [Act.put, List.getElem?_toArray, List.getElem?_cons_succ, List.getElem?_cons_zero, List.getElem_toArray, List.getElem_cons_succ, List.getElem_cons_zero, List.setIfInBounds_toArray, List.set_cons_zero, List.set_cons_succ]
      refine next_last (i := 13) (by rfl) (by kernel_rfl) (fun KK hK => ?_)
      refine if_want (by kernel_rfl) ?_
      go_simp
      refine (HMy.out _ (HU1.out.trans HC2.out)).mono ?_
      rintro y3 V3 ⟨rfl, rfl⟩
      refine hK.out _ _ (Both.of HA1.out HB1.out HC2.out) (fun hHeld => ?_)
      clear hK KK
      try simp only [Act.put, List.getElem?_toArray, List.getElem?_cons_succ, List.getElem?_cons_zero, List.getElem_toArray, List.getElem_cons_succ, List.getElem_cons_zero, List.setIfInBounds_toArray, List.set_cons_zero, List.set_cons_succ]
      refine take_any (i := 14) (v := ?_) (by rfl) (by kernel_rfl) (by exact (fun _ _ _ h => h)) (by rfl) hHeld ?_ ?_
      rotate_left
      · ((intro V hV; obtain ⟨_, hV0, hV1, hV2, hV3, hV4, hV5, hV6, hV7, hV8, hV9⟩ := hV; go_simp) <;> (with_reducible rfl))
      try simp only [Act.put, List.getElem?_toArray, List.getElem?_cons_succ, List.getElem?_cons_zero, List.getElem_toArray, List.getElem_cons_succ, List.getElem_cons_zero, List.setIfInBounds_toArray, List.set_cons_zero, List.set_cons_succ]
      refine take_any (i := 15) (v := ?_) (by rfl) (by kernel_rfl) (by exact (fun _ _ _ h => h)) (by rfl) hHeld ?_ ?_
      rotate_left
      · ((intro V hV; obtain ⟨_, hV0, hV1, hV2, hV3, hV4, hV5, hV6, hV7, hV8, hV9⟩ := hV; go_simp) <;> (with_reducible rfl))
      try simp only [Act.put, List.getElem?_toArray, List.getElem?_cons_succ, List.getElem?_cons_zero, List.getElem_toArray, List.getElem_cons_succ, List.getElem_cons_zero, List.setIfInBounds_toArray, List.set_cons_zero, List.set_cons_succ]
      refine take_any (i := 16) (v := ?_) (by rfl) (by kernel_rfl) (by exact (fun _ _ _ h => h)) (by rfl) hHeld ?_ ?_
      rotate_left
      · ((intro V hV; obtain ⟨_, hV0, hV1, hV2, hV3, hV4, hV5, hV6, hV7, hV8, hV9⟩ := hV; go_simp) <;> (with_reducible rfl))
      try simp only [Act.put, List.getElem?_toArray, List.getElem?_cons_succ, List.getElem?_cons_zero, List.getElem_toArray, List.getElem_cons_succ, List.getElem_cons_zero, List.setIfInBounds_toArray, List.set_cons_zero, List.set_cons_succ]
      refine wpAnyH_done (by kernel_rfl) ?_ _
      go_wp2_with fail
      go_ret
      exact ⟨rfl, HU1.out.trans HC2.out⟩
theorem others_any (w : World) (T : Tabs w) (R : Errs w) (a b : Ent) (ha64 : a.in64) (hb64 : b.in64) :
    Calls Tryd.prog 5 #[a.val, b.val] w fun x w' => x = .returned (.bool true) ∧ Upd (fun _ => False) w w' := by
  by_cases h : a.good ∧ b.good
  · exact others_good w T R a b ha64 hb64 h.1 h.2
  · exact others_bad w T R a b h
end Go.Proofs.YtlphlaenecidiaaDoor.Scr
