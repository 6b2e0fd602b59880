/- The law ScriptTexts: the walk. -/
import Derived.Test.YtlphlaenecidiaaDoorScr7
import Derived.Test.YtlphlaenecidiaaDoorScriptOthers
set_option linter.unusedSimpArgs false
namespace Go.Proofs.YtlphlaenecidiaaDoor.Scr
open Go.RowKit Go.Proofs.YtlphlaenecidiaaDoor.Mem

/-- Are those up to j good? -/
def goodTo (e : Ent) (j : Nat) : Prop := 0 ≤ manyOf e.op ∧ ∀ x ∈ (e.ns.take j).drop (manyOf e.op).toNat, x = 0
instance (e : Ent) (j : Nat) : Decidable (goodTo e j) := by unfold goodTo; infer_instance
theorem goodTo_four (e : Ent) : goodTo e 4 ↔ e.good := Iff.rfl
theorem goodTo_start (e : Ent) : goodTo e (manyOf e.op).toNat ↔ 0 ≤ manyOf e.op := by
  unfold goodTo
  rw [List.drop_eq_nil_of_le (by rw [List.length_take]; omega)]
  simp
theorem goodTo_step {e : Ent} {j : Nat} {x : Int} (hk : (manyOf e.op).toNat ≤ j) (hx : e.ns[j]? = some x) : goodTo e (j + 1) ↔ goodTo e j ∧ x = 0 := by
  have hj : j < e.ns.length := (List.getElem?_eq_some_iff.1 hx).1
  unfold goodTo
  rw [List.take_add_one, hx, Option.toList_some, List.drop_append_of_le_length (by rw [List.length_take]; omega)]
  constructor
  · rintro ⟨h1, h2⟩
    exact ⟨⟨h1, fun y hy => h2 y (List.mem_append_left _ hy)⟩, h2 x (List.mem_append_right _ List.mem_cons_self)⟩
  · rintro ⟨⟨h1, h2⟩, h3⟩
    refine ⟨h1, fun y hy => ?_⟩
    rcases List.mem_append.1 hy with hy | hy
    · exact h2 y hy
    · rw [List.mem_singleton] at hy
      rw [hy]; exact h3
theorem many_top (op : Int) : -1 ≤ manyOf op ∧ manyOf op ≤ 4 := by
  unfold manyOf
  split
  · rename_i h
    refine ⟨by omega, ?_⟩
    obtain ⟨k, hk⟩ : ∃ k : Nat, op = (k : Int) := ⟨op.toNat, by omega⟩
    rw [hk, Int.toNat_natCast]
    have := (show ∀ k, k < 13 → manyL.getD k 0 ≤ 4 by decide) k (by omega)
    omega
  · omega
theorem parsed_line {e : Ent} (hg : e.good) (h64 : e.in64) : parsed e.line = .tuple #[e.val, .int .i64 0] := by
  have hf := fits_line hg h64
  unfold parsed
  rw [if_pos hf.1, hf.2]

attribute [local go_sem] max2_int max_two
attribute [-go_sem] run_eql_struct run_equalIn_agg in
set_option maxRecDepth 20000 in
set_option maxHeartbeats 8000000 in
theorem texts_any (w : World) (T : Tabs w) (R : Errs w) (e : Ent) (h64 : e.in64) :
    Calls Tryd.prog 4 #[e.val] w fun x w' => x = .returned (.bool true) ∧ Upd (fun _ => False) w w' := by
  have hu0 := (Upd.refl (fun _ => False) w).alloc (.cells e.cells.toArray 25)
  have HB := Lib.hid (Blk.made w e.cells 25)
  have HU := Lib.hid hu0
  have HAw := Lib.hid (fun (V : World) (hV : Upd (fun _ => False) w V) => awake_any V (T.quiet hV) (R.quiet hV))
  have HGd := Lib.hid (fun (V : World) (hV : Upd (fun _ => False) w V) => good_any V (T.quiet hV) e)
  have HTx := Lib.hid (fun (V : World) (hV : Upd (fun _ => False) w V) => text_any V (T.quiet hV) e h64)
  have HPa := Lib.hid (fun (V : World) (hV : Upd (fun _ => False) w V) (s : ByteArray) (hs : s.size ≤ 1000000) => parse_any V (T.quiet hV) (R.quiet hV) s hs)
  obtain ⟨M, hM⟩ : ∃ M, M = manyOf e.op := ⟨_, rfl⟩
  have hMr := many_top e.op
  rw [← hM] at hMr
  have HMr := Lib.hid (fun (V : World) => (hM ▸ manyRef_any V e.op : Calls Tryd.prog 13 #[.int .i64 e.op] V fun x w' => x = .returned (.int .i64 M) ∧ w' = V))
  have HMy := Lib.hid (fun (V : World) (hV : Upd (fun _ => False) w V) => (hM ▸ many_any V (T.quiet hV) e.op : Calls Tryd.prog 14 #[.int .i64 e.op] V fun x w' => x = .returned (.int .i64 M) ∧ w' = V))
  obtain ⟨k, hk⟩ : ∃ k : Nat, max M 0 = (k : Int) := ⟨(max M 0).toNat, by omega⟩
  have hkM : k = (manyOf e.op).toNat := by rw [← hM]; omega
  have hk4 : k ≤ 4 := by omega
  have hg0 : decide (0 ≤ M) = decide (goodTo e k) := by
    rw [hkM]
    have := goodTo_start e
    rw [← hM] at this ⊢
    exact decide_eq_decide.2 this.symm
  have heq : ∀ W : World, (binOp .eql 25 (.agg #[.int .i64 e.op, .int .i64 e.n0, .int .i64 e.n1, .int .i64 e.n2, .int .i64 e.n3]) (.agg #[.int .i64 e.op, .int .i64 e.n0, .int .i64 e.n1, .int .i64 e.n2, .int .i64 e.n3])).run Tryd.prog W = .ok (.bool true) W := fun W => by
    have h := ent_eq W e e
    rw [decide_eq_true rfl] at h
    exact h
  have HkM := Lib.hid hkM
  have HM := Lib.hid hM
  have H64 := Lib.hid h64
  clear hu0 T R hM h64 hkM
  go_enter Tryd.func4, Tryd.ntmps4
  go_wp2_with fail
  refine (HAw.out _ HU.out).mono ?_
  rintro x w1 ⟨rfl, hu1⟩
  have HB1 := Lib.hid (HB.out.upd hu1 (fun h => h))
  have HU1 := Lib.hid (HU.out.trans hu1)
  clear hu1
  have b0 := HB1.out.cell 0 rfl
  have bl := HB1.out.lt
  go_wp2_with fail
  refine (HMr.out _).mono ?_
  rintro x w2 ⟨rfl, e2⟩
  have e2' := e2.symm
  subst e2'
  go_wp2_with fail
  go_loopw [4, 5] (fun g i wr => ∃ j : Nat, k ≤ j ∧ j ≤ 4 ∧ i = .int .i64 (j : Int) ∧ g = .bool (decide (goodTo e j)) ∧ wr = w1) (fun _ i _ => 4 - (Lib.intOf i).toNat)
  case atStart => exact ⟨k, Nat.le_refl _, hk4, rfl, rfl, rfl⟩
  case round =>
    obtain ⟨j, hkj, hj4, rfl, rfl, ew⟩ := hrel
    have ew' := ew.symm
    subst ew'
    by_cases hjm : j < 4
    · obtain ⟨n, hn⟩ : ∃ n, e.ns[j]? = some n := ⟨_, List.getElem?_eq_getElem (by simp only [Ent.ns, List.length_cons, List.length_nil]; omega)⟩
      have n0 := cells_take e _ w.heap.size HB1.out j n hn
      have d1 : decide ((j : Int) < 4) = true := decide_eq_true (by omega)
      have d1' : decide (j < 4) = true := decide_eq_true hjm
      have i5 : (0 : Int) ≤ (j : Int) := by omega
      have i6 : (j : Int) < 4 := by omega
      have hst := goodTo_step (e := e) (j := j) (by rw [← HkM.out]; exact hkj) hn
      have HN := Lib.hid hn
      clear hn
      by_cases hgj : goodTo e j
      · by_cases hn0 : n = 0
        · have h1 : goodTo e (j + 1) := hst.2 ⟨hgj, hn0⟩
          subst hn0
          rw [decide_eq_true hgj]
          have H1 := Lib.hid h1
          clear hgj h1 hst
          go_wp2_with fail
          go_roundw
          case rel => exact ⟨j + 1, by omega, by omega, by go_num, by rw [decide_eq_true H1.out], trivial⟩
          case measure => simp [Lib.intOf]; omega
        · have h1 : ¬ goodTo e (j + 1) := fun h => hn0 (hst.1 h).2
          have e0 : (n == 0) = false := beq_eq_false_iff_ne.2 hn0
          rw [decide_eq_true hgj]
          have H1 := Lib.hid h1
          clear hgj h1 hst hn0
          go_wp2_with fail
          go_roundw
          case rel => exact ⟨j + 1, by omega, by omega, by go_num, by rw [decide_eq_false H1.out], trivial⟩
          case measure => simp [Lib.intOf]; omega
      · have h1 : ¬ goodTo e (j + 1) := fun h => hgj (hst.1 h).1
        rw [decide_eq_false hgj]
        have H1 := Lib.hid h1
        clear hgj h1 hst
        go_wp2_with fail
        go_roundw
        case rel => exact ⟨j + 1, by omega, by omega, by go_num, by rw [decide_eq_false H1.out], trivial⟩
        case measure => simp [Lib.intOf]; omega
    · have hje : j = 4 := by omega
      subst hje
      have hgd : decide (goodTo e 4) = decide e.good := rfl
      rw [hgd]
      clear hgd hg0
      have b1 := HB1.out.cell 1 rfl
      have b2 := HB1.out.cell 2 rfl
      have b3 := HB1.out.cell 3 rfl
      have b4 := HB1.out.cell 4 rfl
      have HGd1 := Lib.hid (HGd.out _ HU1.out)
      have HTx1 := Lib.hid (HTx.out)
      by_cases hg : e.good
      · have hgd1 := HGd1.out
        rw [decide_eq_true hg] at hgd1 ⊢
        have HGd2 := Lib.hid hgd1
        have htx1 := HTx1.out
        rw [if_pos hg] at htx1
        have HTx2 := Lib.hid htx1
        have HG := Lib.hid hg
        clear hgd1 htx1 hg HGd1 HTx1
        go_wp2_with fail
        refine (HGd2.out).mono ?_
        rintro x w2 ⟨rfl, hu2⟩
        have HB2 := Lib.hid (HB1.out.upd hu2 (fun h => h))
        have HU2 := Lib.hid (HU1.out.trans hu2)
        clear hu2 b0 b1 b2 b3 b4 bl
        have b0 := HB2.out.cell 0 rfl
        have b1 := HB2.out.cell 1 rfl
        have b2 := HB2.out.cell 2 rfl
        have b3 := HB2.out.cell 3 rfl
        have b4 := HB2.out.cell 4 rfl
        have bl := HB2.out.lt
        go_wp2_with fail
        refine (HMy.out _ HU2.out).mono ?_
        rintro x w3 ⟨rfl, e3⟩
        have e3' := e3.symm
        subst e3'
        go_wp2_with fail
        refine (HTx2.out _ HU2.out).mono ?_
        rintro x w4 ⟨rfl, hu4⟩
        have HU4 := Lib.hid (HU2.out.trans hu4)
        have HB4 := Lib.hid (HB2.out.upd hu4 (fun h => h))
        clear hu4 b0 b1 b2 b3 b4 bl
        go_wp2_with fail
        have hpa := HPa.out _ HU4.out ⟨e.line.toArray⟩ (by have := line_len H64.out; show e.line.length ≤ _; omega)
        rw [show (⟨e.line.toArray⟩ : ByteArray).data.toList = e.line from rfl, parsed_line HG.out H64.out] at hpa
        refine hpa.mono ?_
        rintro x w5 ⟨rfl, hu5⟩
        have HU5 := Lib.hid (HU4.out.trans hu5)
        have HB5 := Lib.hid (HB4.out.upd hu5 (fun h => h))
        clear hpa hu5
        have bl := HB5.out.lt
        go_upto_region 14 with (fail)
        have hbz := Blk.made w5 e.cells 25
        have huz := (Upd.refl (fun _ => False) w5).alloc (.cells e.cells.toArray 25)
        have hzw : (w5.alloc (.cells #[.int .i64 e.op, .int .i64 e.n0, .int .i64 e.n1, .int .i64 e.n2, .int .i64 e.n3] 25)) = w5.alloc (.cells e.cells.toArray 25) := rfl
        rw [hzw]
        clear hzw
        have HBz := Lib.hid hbz
        have HBe := Lib.hid (HB5.out.upd huz (fun h => h))
        have HUz := Lib.hid (HU5.out.trans huz)
        have HRt := Lib.hid (fun (V : World) => textRef_any V e H64.out (by have h := Ent.good_op HG.out; exact ⟨h.1, h.2.1⟩))
        generalize w5.alloc (.cells e.cells.toArray 25) = wz at *
        clear hbz huz bl
        refine wp_region_held_drew (S := Both wz w.heap.size w5.heap.size e e) (by kernel_rfl) (Both.of HBe.out HBz.out (Upd.refl _ wz).drew) (fun hHeld => ?_)
        simp only [List.size_toArray, List.length_cons, List.length_nil, Nat.reduceAdd]
        have HC0 := Lib.hid ((Upd.refl (fun _ => False) wz).drew)
        refine take_any (i := 0) (v := ?_) (by rfl) (by kernel_rfl) (by exact (fun _ _ _ h => h)) (by rfl) hHeld ?_ ?_
        rotate_left
        · ((intro V hV; obtain ⟨_, hV0, hV1, hV2, hV3, hV4, hV5, hV6, hV7, hV8, hV9⟩ := hV; go_simp) <;> (with_reducible rfl))
        try simp only [Act.put, List.getElem?_toArray, List.getElem?_cons_succ, List.getElem?_cons_zero, List.getElem_toArray, List.getElem_cons_succ, List.getElem_cons_zero, List.setIfInBounds_toArray, List.set_cons_zero, List.set_cons_succ]
        refine take_any (i := 2) (v := ?_) (by rfl) (by kernel_rfl) (by exact (fun _ _ _ h => h)) (by rfl) hHeld ?_ ?_
        rotate_left
        · ((intro V hV; obtain ⟨_, hV0, hV1, hV2, hV3, hV4, hV5, hV6, hV7, hV8, hV9⟩ := hV; go_simp) <;> (with_reducible rfl))
        try simp only [Act.put, List.getElem?_toArray, List.getElem?_cons_succ, List.getElem?_cons_zero, List.getElem_toArray, List.getElem_cons_succ, List.getElem_cons_zero, List.setIfInBounds_toArray, List.set_cons_zero, List.set_cons_succ]
        refine take_any (i := 3) (v := ?_) (by rfl) (by kernel_rfl) (by exact (fun _ _ _ h => h)) (by rfl) hHeld ?_ ?_
        rotate_left
        · ((intro V hV; obtain ⟨_, hV0, hV1, hV2, hV3, hV4, hV5, hV6, hV7, hV8, hV9⟩ := hV; go_simp) <;> (with_reducible rfl))
        try simp only [Act.put, List.getElem?_toArray, List.getElem?_cons_succ, List.getElem?_cons_zero, List.getElem_toArray, List.getElem_cons_succ, List.getElem_cons_zero, List.setIfInBounds_toArray, List.set_cons_zero, List.set_cons_succ]
        refine take_any (i := 4) (v := ?_) (by rfl) (by kernel_rfl) (by exact (fun _ _ _ h => h)) (by rfl) hHeld ?_ ?_
        rotate_left
        · ((intro V hV; obtain ⟨_, hV0, hV1, hV2, hV3, hV4, hV5, hV6, hV7, hV8, hV9⟩ := hV; go_simp) <;> (with_reducible rfl))
        try simp only [Act.put, List.getElem?_toArray, List.getElem?_cons_succ, List.getElem?_cons_zero, List.getElem_toArray, List.getElem_cons_succ, List.getElem_cons_zero, List.setIfInBounds_toArray, List.set_cons_zero, List.set_cons_succ]
        refine take_any (i := 5) (v := ?_) (by rfl) (by kernel_rfl) (by exact (fun _ _ _ h => h)) (by rfl) hHeld ?_ ?_
        rotate_left
        · ((intro V hV; obtain ⟨_, hV0, hV1, hV2, hV3, hV4, hV5, hV6, hV7, hV8, hV9⟩ := hV; go_simp) <;> (with_reducible rfl))
        try simp only [Act.put, List.getElem?_toArray, List.getElem?_cons_succ, List.getElem?_cons_zero, List.getElem_toArray, List.getElem_cons_succ, List.getElem_cons_zero, List.setIfInBounds_toArray, List.set_cons_zero, List.set_cons_succ]
        refine next_last (i := 1) (by rfl) (by kernel_rfl) (fun KK hK => ?_)
        go_simp
        refine (HTx2.out _ (HUz.out.trans HC0.out)).mono ?_
        rintro y1 V1 ⟨rfl, hu1⟩
        have HC1 := Lib.hid (HC0.out.trans hu1)
        clear hu1
        refine hK.out _ _ (Both.of HBe.out HBz.out HC1.out) (fun hHeld => ?_)
        clear hK KK
        try simp only [Act.put, List.getElem?_toArray, List.getElem?_cons_succ, List.getElem?_cons_zero, List.getElem_toArray, List.getElem_cons_succ, List.getElem_cons_zero, List.setIfInBounds_toArray, List.set_cons_zero, List.set_cons_succ]
        refine next_last (i := 6) (by rfl) (by kernel_rfl) (fun KK hK => ?_)
        go_simp
        refine (HRt.out _).mono ?_
        rintro y2 V2 ⟨rfl, hu2⟩
        have HC2 := Lib.hid (HC1.out.trans hu2)
        clear hu2
        refine hK.out _ _ (Both.of HBe.out HBz.out HC2.out) (fun hHeld => ?_)
        clear hK KK
        try simp only [Act.put, List.getElem?_toArray, List.getElem?_cons_succ, List.getElem?_cons_zero, List.getElem_toArray, List.getElem_cons_succ, List.getElem_cons_zero, List.setIfInBounds_toArray, List.set_cons_zero, List.set_cons_succ]
        refine take_any (i := 7) (v := ?_) (by rfl) (by kernel_rfl) (by exact (fun _ _ _ h => h)) (by rfl) hHeld ?_ ?_
        rotate_left
        · ((intro V hV; obtain ⟨_, hV0, hV1, hV2, hV3, hV4, hV5, hV6, hV7, hV8, hV9⟩ := hV; go_simp) <;> (with_reducible rfl))
        try simp only [Act.put, List.getElem?_toArray, List.getElem?_cons_succ, List.getElem?_cons_zero, List.getElem_toArray, List.getElem_cons_succ, List.getElem_cons_zero, List.setIfInBounds_toArray, List.set_cons_zero, List.set_cons_succ]
        refine take_any (i := 8) (v := ?_) (by rfl) (by kernel_rfl) (by exact (fun _ _ _ h => h)) (by rfl) hHeld ?_ ?_
        rotate_left
        · ((intro V hV; obtain ⟨_, hV0, hV1, hV2, hV3, hV4, hV5, hV6, hV7, hV8, hV9⟩ := hV; go_simp) <;> (with_reducible rfl))
        try simp only [Act.put, List.getElem?_toArray, List.getElem?_cons_succ, List.getElem?_cons_zero, List.getElem_toArray, List.getElem_cons_succ, List.getElem_cons_zero, List.setIfInBounds_toArray, List.set_cons_zero, List.set_cons_succ]
        refine take_any (i := 9) (v := ?_) (by rfl) (by kernel_rfl) (by exact (fun _ _ _ h => h)) (by rfl) hHeld ?_ ?_
        rotate_left
        · ((intro V hV; obtain ⟨_, hV0, hV1, hV2, hV3, hV4, hV5, hV6, hV7, hV8, hV9⟩ := hV; go_simp) <;> (with_reducible rfl))
        try simp only [Act.put, List.getElem?_toArray, List.getElem?_cons_succ, List.getElem?_cons_zero, List.getElem_toArray, List.getElem_cons_succ, List.getElem_cons_zero, List.setIfInBounds_toArray, List.set_cons_zero, List.set_cons_succ]
        refine take_any (i := 10) (v := ?_) (by rfl) (by kernel_rfl) (by exact (fun _ _ _ h => h)) (by rfl) hHeld ?_ ?_
        rotate_left
        · ((intro V hV; obtain ⟨_, hV0, hV1, hV2, hV3, hV4, hV5, hV6, hV7, hV8, hV9⟩ := hV; go_simp) <;> (with_reducible rfl))
        try simp only [Act.put, List.getElem?_toArray, List.getElem?_cons_succ, List.getElem?_cons_zero, List.getElem_toArray, List.getElem_cons_succ, List.getElem_cons_zero, List.setIfInBounds_toArray, List.set_cons_zero, List.set_cons_succ]
        refine take_any (i := 11) (v := ?_) (by rfl) (by kernel_rfl) (by exact (fun _ _ _ h => h)) (by rfl) hHeld ?_ ?_
        rotate_left
        · ((intro V hV; obtain ⟨_, hV0, hV1, hV2, hV3, hV4, hV5, hV6, hV7, hV8, hV9⟩ := hV; go_simp) <;> (with_reducible rfl))
        try simp only [Act.put, List.getElem?_toArray, List.getElem?_cons_succ, List.getElem?_cons_zero, List.getElem_toArray, List.getElem_cons_succ, List.getElem_cons_zero, List.setIfInBounds_toArray, List.set_cons_zero, List.set_cons_succ]
        refine take_any (i := 12) (v := ?_) (by rfl) (by kernel_rfl) (by exact (fun _ _ _ h => h)) (by rfl) hHeld ?_ ?_
        rotate_left
        · ((intro V hV; obtain ⟨_, hV0, hV1, hV2, hV3, hV4, hV5, hV6, hV7, hV8, hV9⟩ := hV; go_simp) <;> (with_reducible rfl))
        try simp only [Act.put, List.getElem?_toArray, List.getElem?_cons_succ, List.getElem?_cons_zero, List.getElem_toArray, List.getElem_cons_succ, List.getElem_cons_zero, List.setIfInBounds_toArray, List.set_cons_zero, List.set_cons_succ]
        refine take_any (i := 13) (v := ?_) (by rfl) (by kernel_rfl) (by exact (fun _ _ _ h => h)) (by rfl) hHeld ?_ ?_
        rotate_left
        · ((intro V hV; obtain ⟨_, hV0, hV1, hV2, hV3, hV4, hV5, hV6, hV7, hV8, hV9⟩ := hV; go_simp) <;> (with_reducible rfl))
        try simp only [Act.put, List.getElem?_toArray, List.getElem?_cons_succ, List.getElem?_cons_zero, List.getElem_toArray, List.getElem_cons_succ, List.getElem_cons_zero, List.setIfInBounds_toArray, List.set_cons_zero, List.set_cons_succ]
        refine take_any (i := 14) (v := ?_) (by rfl) (by kernel_rfl) (by exact (fun _ _ _ h => h)) (by rfl) hHeld ?_ ?_
        rotate_left
        · ((intro V hV; obtain ⟨_, hV0, hV1, hV2, hV3, hV4, hV5, hV6, hV7, hV8, hV9⟩ := hV; go_simp) <;> (with_reducible rfl))
        try simp only [Act.put, List.getElem?_toArray, List.getElem?_cons_succ, List.getElem?_cons_zero, List.getElem_toArray, List.getElem_cons_succ, List.getElem_cons_zero, List.setIfInBounds_toArray, List.set_cons_zero, List.set_cons_succ]
        refine take_any (i := 15) (v := ?_) (by rfl) (by kernel_rfl) (by exact (fun _ _ _ h => h)) (by rfl) hHeld ?_ ?_
        rotate_left
        · ((intro V hV; obtain ⟨_, hV0, hV1, hV2, hV3, hV4, hV5, hV6, hV7, hV8, hV9⟩ := hV; go_simp) <;> (with_reducible rfl))
        try simp only [Act.put, List.getElem?_toArray, List.getElem?_cons_succ, List.getElem?_cons_zero, List.getElem_toArray, List.getElem_cons_succ, List.getElem_cons_zero, List.setIfInBounds_toArray, List.set_cons_zero, List.set_cons_succ]
        refine take_any (i := 16) (v := ?_) (by rfl) (by kernel_rfl) (by exact (fun _ _ _ h => h)) (by rfl) hHeld ?_ ?_
        rotate_left
        · ((intro V hV; obtain ⟨_, hV0, hV1, hV2, hV3, hV4, hV5, hV6, hV7, hV8, hV9⟩ := hV; go_simp) <;> (with_reducible rfl))
        try simp only [Act.put, List.getElem?_toArray, List.getElem?_cons_succ, List.getElem?_cons_zero, List.getElem_toArray, List.getElem_cons_succ, List.getElem_cons_zero, List.setIfInBounds_toArray, List.set_cons_zero, List.set_cons_succ]
        refine take_any (i := 17) (v := ?_) (by rfl) (by kernel_rfl) (by exact (fun _ _ _ h => h)) (by rfl) hHeld ?_ ?_
        rotate_left
        · ((intro V hV; obtain ⟨_, hV0, hV1, hV2, hV3, hV4, hV5, hV6, hV7, hV8, hV9⟩ := hV; go_simp) <;> (with_reducible rfl))
        try simp only [Act.put, List.getElem?_toArray, List.getElem?_cons_succ, List.getElem?_cons_zero, List.getElem_toArray, List.getElem_cons_succ, List.getElem_cons_zero, List.setIfInBounds_toArray, List.set_cons_zero, List.set_cons_succ]
        refine wpAnyH_done (by kernel_rfl) ?_ _
        go_wp2_with fail
        go_ret
        exact ⟨rfl, HUz.out.trans HC2.out⟩
      · have hgd1 := HGd1.out
        rw [decide_eq_false hg] at hgd1 ⊢
        have HGd2 := Lib.hid hgd1
        have htx1 := HTx1.out
        rw [if_neg hg] at htx1
        have HTx2 := Lib.hid htx1
        clear hgd1 htx1 hg HGd1 HTx1
        go_wp2_with fail
        refine (HGd2.out).mono ?_
        rintro x w2 ⟨rfl, hu2⟩
        have HB2 := Lib.hid (HB1.out.upd hu2 (fun h => h))
        have HU2 := Lib.hid (HU1.out.trans hu2)
        clear hu2 b0 b1 b2 b3 b4 bl
        have b0 := HB2.out.cell 0 rfl
        have b1 := HB2.out.cell 1 rfl
        have b2 := HB2.out.cell 2 rfl
        have b3 := HB2.out.cell 3 rfl
        have b4 := HB2.out.cell 4 rfl
        have bl := HB2.out.lt
        go_wp2_with fail
        refine (HMy.out _ HU2.out).mono ?_
        rintro x w3 ⟨rfl, e3⟩
        have e3' := e3.symm
        subst e3'
        go_wp2_with fail
        refine (HTx2.out _ HU2.out).mono ?_
        rintro x w4 ⟨rfl, hu4⟩
        have HU4 := Lib.hid (HU2.out.trans hu4)
        clear hu4 b0 b1 b2 b3 b4 bl
        go_wp2
        go_ret
        exact ⟨rfl, HU4.out⟩
end Go.Proofs.YtlphlaenecidiaaDoor.Scr
