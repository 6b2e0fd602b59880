/- The law ScriptParses: the walk. -/
import Derived.Test.YtlphlaenecidiaaDoorScr9
set_option linter.unusedSimpArgs false
namespace Go.Proofs.YtlphlaenecidiaaDoor.Scr
open Go.RowKit Go.Proofs.YtlphlaenecidiaaDoor.Mem

theorem nums_same (w : World) (a0 a1 a2 a3 : Int) :
    (binOp .eql 23 (.agg #[.int .i64 a0, .int .i64 a1, .int .i64 a2, .int .i64 a3]) (.agg #[.int .i64 a0, .int .i64 a1, .int .i64 a2, .int .i64 a3])).run Tryd.prog w = .ok (.bool true) w := by
  obtain ⟨i, hi⟩ := Option.isSome_iff_exists.1 (show (Tryd.prog.info? 3).isSome = true by kernel_rfl)
  rw [run_eql_struct, run_equalIn_array w 9999 _ _ Tryd.underlying23 hi]
  rw [show Program.cellsOf Tryd.prog 3 = 1 by kernel_rfl]
  simp only [show List.range 4 = [0, 1, 2, 3] from rfl, Op.eqItems]
  simp [part, run_equalIn_int w 9998 3 .i64 .i64 _ _ Tryd.underlying3]
attribute [-go_sem] run_eql_struct run_equalIn_agg in
set_option maxRecDepth 20000 in
set_option maxHeartbeats 8000000 in
theorem parses_any (w : World) (T : Tabs w) (R : Errs w) (s : ByteArray) :
    Calls Tryd.prog 3 #[.string s] w fun x w' => x = .returned (.bool true) ∧ Upd (fun _ => False) w w' := by
  have HAw := Lib.hid (fun (V : World) (hV : Upd (fun _ => False) w V) => awake_any V (T.quiet hV) (R.quiet hV))
  by_cases hlen : 200 < s.size
  · have d1 : decide ((200 : Int) < (s.size : Int)) = true := decide_eq_true (by omega)
    have d1' : decide (200 < s.size) = true := decide_eq_true hlen
    clear T R
    go_enter Tryd.func3, Tryd.ntmps3
    go_wp2_with fail
    refine (HAw.out _ (Upd.refl _ _)).mono ?_
    rintro x w1 ⟨rfl, hu1⟩
    have HU1 := Lib.hid hu1
    clear hu1
    go_wp2_with fail
    refine (HAw.out _ HU1.out).mono ?_
    rintro x w2 ⟨rfl, hu2⟩
    have HU2 := Lib.hid (HU1.out.trans hu2)
    clear hu2
    go_wp2_with fail
    go_ret
    exact ⟨rfl, HU2.out⟩
  · have d1 : decide ((200 : Int) < (s.size : Int)) = false := decide_eq_false (by omega)
    have d1' : decide (200 < s.size) = false := decide_eq_false hlen
    obtain ⟨l, hl⟩ : ∃ l, s.data.toList = l := ⟨_, rfl⟩
    have HPa := Lib.hid (fun (V : World) (hV : Upd (fun _ => False) w V) => (hl ▸ parse_any V (T.quiet hV) (R.quiet hV) s (by omega) : Calls Tryd.prog 9 #[.string s] V fun x w' => x = .returned (parsed l) ∧ Upd (fun _ => False) V w'))
    have HPr := Lib.hid (fun (V : World) => parseRef_any V s l hl (by omega))
    have HGd := Lib.hid (fun (V : World) (hV : Upd (fun _ => False) w V) (e : Ent) => good_any V (T.quiet hV) e)
    have HTx := Lib.hid (fun (V : World) (hV : Upd (fun _ => False) w V) (e : Ent) (h64 : e.in64) => text_any V (T.quiet hV) e h64)
    have HL := Lib.hid hl
    clear hl T R
    by_cases hf : fits l
    · obtain ⟨E, hE⟩ : ∃ E, E = made (spl l) := ⟨_, rfl⟩
      have hp1 : parsed l = .tuple #[E.val, .int .i64 0] := by unfold parsed; rw [if_pos hf, hE]
      have hp2 : parsedR l = .tuple #[.int .i64 E.op, E.nums, .bool true] := by unfold parsedR; rw [if_pos hf, hE]
      have h64 : E.in64 := by rw [hE]; exact made64 _
      have hg : E.good := by rw [hE]; exact hf.2.2.1
      have hln : E.line = l := by rw [hE]; exact hf.2.2.2
      have hgd := fun (V : World) hV => HGd.out V hV E
      have htx := fun (V : World) hV => HTx.out V hV E h64
      rw [if_pos hg, hln] at htx
      rw [decide_eq_true hg] at hgd
      have hpa := HPa.out
      have hpr := HPr.out
      rw [hp1] at hpa
      rw [hp2] at hpr
      have hsl : (l == s.toList) = true := by rw [beq_iff_eq, ByteArray.toList_eq]; exact HL.out.symm
      have heqn : ∀ W : World, (binOp .eql 23 (.agg #[.int .i64 E.n0, .int .i64 E.n1, .int .i64 E.n2, .int .i64 E.n3]) (.agg #[.int .i64 E.n0, .int .i64 E.n1, .int .i64 E.n2, .int .i64 E.n3])).run Tryd.prog W = .ok (.bool true) W := fun W => nums_same W _ _ _ _
      have HGd1 := Lib.hid hgd
      have HTx1 := Lib.hid htx
      have HPa1 := Lib.hid hpa
      have HPr1 := Lib.hid hpr
      clear hE hp1 hp2 h64 hg hln hgd htx hpa hpr hf HPa HPr HGd HTx
      go_enter Tryd.func3, Tryd.ntmps3
      go_wp2_with fail
      refine (HAw.out _ (Upd.refl _ _)).mono ?_
      rintro x w1 ⟨rfl, hu1⟩
      have HU1 := Lib.hid hu1
      clear hu1
      go_wp2_with fail
      refine (HPa1.out _ HU1.out).mono ?_
      rintro x w2 ⟨rfl, hu2⟩
      have HU2 := Lib.hid (HU1.out.trans hu2)
      clear hu2
      go_wp2_with fail
      have hbe : Blk (w2.alloc (.cells #[.int .i64 E.op, .int .i64 E.n0, .int .i64 E.n1, .int .i64 E.n2, .int .i64 E.n3] 25)) w2.heap.size E.cells 25 := Blk.made w2 E.cells 25
      have hu3 := HU2.out.alloc (.cells #[.int .i64 E.op, .int .i64 E.n0, .int .i64 E.n1, .int .i64 E.n2, .int .i64 E.n3] 25)
      generalize w2.alloc (.cells #[.int .i64 E.op, .int .i64 E.n0, .int .i64 E.n1, .int .i64 E.n2, .int .i64 E.n3] 25) = w3 at *
      generalize w2.heap.size = eb at *
      refine (HPr1.out _).mono ?_
      rintro x w4 ⟨rfl, hu4⟩
      have hbe4 := hbe.upd (S := fun _ => False) hu4 (fun h => h)
      have HU4 := Lib.hid (hu3.trans hu4)
      have HBe4 := Lib.hid hbe4
      clear hu4 hu3 hbe hbe4
      go_upto_region 5 with (fail)
      have hbn : Blk (w4.alloc (.cells #[.int .i64 E.n0, .int .i64 E.n1, .int .i64 E.n2, .int .i64 E.n3] 23)) w4.heap.size E.numCells 23 := Blk.made w4 E.numCells 23
      have hu5 := HU4.out.alloc (.cells #[.int .i64 E.n0, .int .i64 E.n1, .int .i64 E.n2, .int .i64 E.n3] 23)
      have hbe5 := HBe4.out.alloc (.cells #[.int .i64 E.n0, .int .i64 E.n1, .int .i64 E.n2, .int .i64 E.n3] 23)
      generalize w4.alloc (.cells #[.int .i64 E.n0, .int .i64 E.n1, .int .i64 E.n2, .int .i64 E.n3] 23) = w5 at *
      generalize w4.heap.size = nb at *
      have c0 := hbe5.cell 0 rfl
      have c1 := hbe5.cell 1 rfl
      have c2 := hbe5.cell 2 rfl
      have c3 := hbe5.cell 3 rfl
      have c4 := hbe5.cell 4 rfl
      have n0 := hbn.cell 0 rfl
      have n1 := hbn.cell 1 rfl
      have n2 := hbn.cell 2 rfl
      have n3 := hbn.cell 3 rfl
      have HBe5 := Lib.hid hbe5
      have HU5 := Lib.hid hu5
      clear hbn hu5 hbe5
      go_wp2_with fail
      refine (HGd1.out _ HU5.out).mono ?_
      rintro x w6 ⟨rfl, hu6⟩
      have hbe6 := HBe5.out.upd hu6 (fun h => h)
      have HU6 := Lib.hid (HU5.out.trans hu6)
      clear c0 c1 c2 c3 c4 n0 n1 n2 n3 hu6
      have c0 := hbe6.cell 0 rfl
      have c1 := hbe6.cell 1 rfl
      have c2 := hbe6.cell 2 rfl
      have c3 := hbe6.cell 3 rfl
      have c4 := hbe6.cell 4 rfl
      clear hbe6
      go_wp2_with fail
      refine (HTx1.out _ HU6.out).mono ?_
      rintro x w7 ⟨rfl, hu7⟩
      have HU7 := Lib.hid (HU6.out.trans hu7)
      clear hu7
      go_wp2_with fail
      go_ret
      exact ⟨rfl, HU7.out⟩
    · have hp1 : parsed l = .tuple #[.agg #[.int .i64 0, .int .i64 0, .int .i64 0, .int .i64 0, .int .i64 0], .int .i64 10] := parsed_no hf
      have hp2 : parsedR l = .tuple #[.int .i64 0, .agg #[.int .i64 0, .int .i64 0, .int .i64 0, .int .i64 0], .bool false] := parsedR_no hf
      have hpa := HPa.out
      have hpr := HPr.out
      rw [hp1] at hpa
      rw [hp2] at hpr
      have heq : ∀ W : World, (binOp .eql 25 (.agg #[.int .i64 0, .int .i64 0, .int .i64 0, .int .i64 0, .int .i64 0]) (.agg #[.int .i64 0, .int .i64 0, .int .i64 0, .int .i64 0, .int .i64 0])).run Tryd.prog W = .ok (.bool true) W := fun W => by
        have h := ent_eq W ⟨0, 0, 0, 0, 0⟩ ⟨0, 0, 0, 0, 0⟩
        rw [decide_eq_true rfl] at h
        exact h
      have HPa1 := Lib.hid hpa
      have HPr1 := Lib.hid hpr
      clear hp1 hp2 hpa hpr hf HPa HPr HGd HTx
      go_enter Tryd.func3, Tryd.ntmps3
      go_wp2_with fail
      refine (HAw.out _ (Upd.refl _ _)).mono ?_
      rintro x w1 ⟨rfl, hu1⟩
      have HU1 := Lib.hid hu1
      clear hu1
      go_wp2_with fail
      refine (HPa1.out _ HU1.out).mono ?_
      rintro x w2 ⟨rfl, hu2⟩
      have HU2 := Lib.hid (HU1.out.trans hu2)
      clear hu2
      go_wp2_with fail
      have hbe : Blk (w2.alloc (.cells #[.int .i64 0, .int .i64 0, .int .i64 0, .int .i64 0, .int .i64 0] 25)) w2.heap.size [.int .i64 0, .int .i64 0, .int .i64 0, .int .i64 0, .int .i64 0] 25 := Blk.made w2 [.int .i64 0, .int .i64 0, .int .i64 0, .int .i64 0, .int .i64 0] 25
      have hu3 := HU2.out.alloc (.cells #[.int .i64 0, .int .i64 0, .int .i64 0, .int .i64 0, .int .i64 0] 25)
      generalize w2.alloc (.cells #[.int .i64 0, .int .i64 0, .int .i64 0, .int .i64 0, .int .i64 0] 25) = w3 at *
      generalize w2.heap.size = eb at *
      refine (HPr1.out _).mono ?_
      rintro x w4 ⟨rfl, hu4⟩
      have hbe4 := hbe.upd (S := fun _ => False) hu4 (fun h => h)
      have HU4 := Lib.hid (hu3.trans hu4)
      have c0 := hbe4.cell 0 rfl
      have c1 := hbe4.cell 1 rfl
      have c2 := hbe4.cell 2 rfl
      have c3 := hbe4.cell 3 rfl
      have c4 := hbe4.cell 4 rfl
      have cl := hbe4.lt
      clear hu4 hu3 hbe hbe4
      go_wp2_with fail
      go_ret
      exact ⟨rfl, HU4.out.alloc _⟩
end Go.Proofs.YtlphlaenecidiaaDoor.Scr
