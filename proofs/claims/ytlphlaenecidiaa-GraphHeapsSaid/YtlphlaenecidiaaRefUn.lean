/- Contracts of the document's heads: Good, Unpack. -/
import Derived.Test.YtlphlaenecidiaaParse
import Derived.IntWalk
namespace Go.Proofs.Ytlphlaenecidiaa.Ref
open Go.RowKit Go.Proofs.Ytlphlaenecidiaa.Mem Go.Proofs.Ytlphlaenecidiaa.Obj Go.Proofs.Ytlphlaenecidiaa.Heap

set_option maxHeartbeats 1000000 in
theorem rgood_any (k l p : Int) (w : World) :
    Calls Try.prog 46 #[.agg #[.int .i64 k, .int .i64 l, .int .i64 p]] w fun e w' => e = .returned (.bool (goodB k l p)) ∧ Upd (fun _ => False) w w' := by
  have hu := (Upd.refl (fun _ => False) w).alloc (.cells #[.int .i64 k, .int .i64 l, .int .i64 p] 53)
  have HU := Lib.hid hu
  clear hu
  obtain ⟨r, hr⟩ : ∃ r, r = goodB k l p := ⟨_, rfl⟩
  rw [← hr]
  by_cases h0 : k < 0
  · have HG := Lib.hid (hr.trans (goodB_no (fun h => by omega)))
    have d : decide (k < 0) = true := decide_eq_true h0
    clear hr
    go_enter Try.func46, Try.ntmps46
    go_wp2
    go_ret
    exact ⟨ret_bool HG.out.symm, HU.out⟩
  · have d0 : decide (k < 0) = false := decide_eq_false h0
    by_cases h1 : 15 < k
    · have HG := Lib.hid (hr.trans (goodB_no (fun h => by omega)))
      have d : decide (15 < k) = true := decide_eq_true h1
      clear hr h0
      go_enter Try.func46, Try.ntmps46
      go_wp2
      go_ret
      exact ⟨ret_bool HG.out.symm, HU.out⟩
    · have d1 : decide (15 < k) = false := decide_eq_false h1
      by_cases h2 : l < 0
      · have HG := Lib.hid (hr.trans (goodB_no (fun h => by omega)))
        have d : decide (l < 0) = true := decide_eq_true h2
        clear hr h0 h1
        go_enter Try.func46, Try.ntmps46
        go_wp2
        go_ret
        exact ⟨ret_bool HG.out.symm, HU.out⟩
      · have d2 : decide (l < 0) = false := decide_eq_false h2
        by_cases h3 : 4095 < l
        · have HG := Lib.hid (hr.trans (goodB_no (fun h => by omega)))
          have d : decide (4095 < l) = true := decide_eq_true h3
          clear hr h0 h1 h2
          go_enter Try.func46, Try.ntmps46
          go_wp2
          go_ret
          exact ⟨ret_bool HG.out.symm, HU.out⟩
        · have d3 : decide (4095 < l) = false := decide_eq_false h3
          by_cases h4 : p < 0
          · have HG := Lib.hid (hr.trans (goodB_no (fun h => by omega)))
            have d : decide (p < 0) = true := decide_eq_true h4
            clear hr h0 h1 h2 h3
            go_enter Try.func46, Try.ntmps46
            go_wp2
            go_ret
            exact ⟨ret_bool HG.out.symm, HU.out⟩
          · have d4 : decide (p < 0) = false := decide_eq_false h4
            by_cases h5 : l < p
            · have HG := Lib.hid (hr.trans (goodB_no (fun h => by omega)))
              have d : decide (l < p) = true := decide_eq_true h5
              clear hr h0 h1 h2 h3 h4
              go_enter Try.func46, Try.ntmps46
              go_wp2
              go_ret
              exact ⟨ret_bool HG.out.symm, HU.out⟩
            · have d5 : decide (l < p) = false := decide_eq_false h5
              by_cases h6 : k = 15
              · have d6 : (k != 15) = false := by rw [bne_eq_false_iff_eq]; exact h6
                by_cases h7 : p = 0
                · have d7 : (p == 0) = true := by rw [beq_iff_eq]; exact h7
                  have HG := Lib.hid (hr.trans (goodB_yes (by omega)))
                  clear hr h0 h1 h2 h3 h4 h5 h6 h7
                  go_enter Try.func46, Try.ntmps46
                  go_wp2
                  go_ret
                  exact ⟨ret_bool HG.out.symm, HU.out⟩
                · have d7 : (p == 0) = false := by rw [beq_eq_false_iff_ne]; exact h7
                  have HG := Lib.hid (hr.trans (goodB_no (fun h => h7 (h.2.2.2.2.2.2 h6))))
                  clear hr h0 h1 h2 h3 h4 h5 h6 h7
                  go_enter Try.func46, Try.ntmps46
                  go_wp2
                  go_ret
                  exact ⟨ret_bool HG.out.symm, HU.out⟩
              · have d6 : (k != 15) = true := by rw [bne_iff_ne]; exact h6
                have HG := Lib.hid (hr.trans (goodB_yes ⟨by omega, by omega, by omega, by omega, by omega, by omega, fun h => absurd h h6⟩))
                clear hr h0 h1 h2 h3 h4 h5 h6
                go_enter Try.func46, Try.ntmps46
                go_wp2
                go_ret
                exact ⟨ret_bool HG.out.symm, HU.out⟩

/-- What Unpack answers. -/
def UnEnd (x : Int) (w : World) (e : Ending) (w' : World) : Prop :=
  Upd (fun _ => False) w w' ∧ if okW x = true then e = .returned (.tuple #[.agg #[.int .i64 (x % 16), .int .i64 (x / 65536), .int .i64 (x / 16 % 4096)], .bool true]) else e = .returned (.tuple #[.agg #[.int .i64 0, .int .i64 0, .int .i64 0], .bool false])

theorem okW_big {x : Int} (h : 268435456 ≤ x) : okW x = false := by
  unfold okW
  rw [goodB_no (fun h2 => by omega), Bool.and_false]
theorem okW_neg {x : Int} (h : x < 0) : okW x = false := by
  unfold okW
  rw [decide_eq_false (by omega), Bool.false_and]

set_option maxHeartbeats 1000000 in
theorem run_any (x : Int) (hx : x ≤ 9223372036854775807) (w : World) :
    Calls Try.prog 27 #[.int .i64 x] w (UnEnd x w) := by
  have hb0 := Blk.made w [.int .i64 0, .int .i64 0, .int .i64 0] 53
  have HB0 := Lib.hid hb0
  have HU := Lib.hid ((Upd.refl (fun _ => False) w).alloc (.cells #[.int .i64 0, .int .i64 0, .int .i64 0] 53))
  clear hb0
  by_cases h0 : x < 0
  · have d0 : decide (x < 0) = true := decide_eq_true h0
    have HO := Lib.hid (okW_neg h0)
    clear hx
    go_enter Try.func27, Try.ntmps27
    go_wp2
    refine bodyPost_ret (res_cell_tmp rfl _ _ w.heap.size _ 53 _ _ rfl rfl HB0.out Try.underlying53 rfl (by kernel_rfl)) rfl ⟨HU.out, ?_⟩
    rw [if_neg (by rw [HO.out]; decide)]
    rfl
  · have d0 : decide (x < 0) = false := decide_eq_false h0
    by_cases h1 : 268435456 ≤ x
    · have d1 : decide (268435456 ≤ x) = true := decide_eq_true h1
      have HO := Lib.hid (okW_big h1)
      clear hx
      go_enter Try.func27, Try.ntmps27
      go_wp2
      refine bodyPost_ret (res_cell_tmp rfl _ _ w.heap.size _ 53 _ _ rfl rfl HB0.out Try.underlying53 rfl (by kernel_rfl)) rfl ⟨HU.out, ?_⟩
      rw [if_neg (by rw [HO.out]; decide)]
      rfl
    · have d1 : decide (268435456 ≤ x) = false := decide_eq_false h1
      have hi0 : 0 ≤ x := by omega
      have hok : okW x = goodB (x % 16) (x / 65536) (x / 16 % 4096) := by
        unfold okW
        rw [decide_eq_true hi0, Bool.true_and, show x / 16 / 4096 = x / 65536 by omega]
      have HOk := Lib.hid hok
      clear hx hok
      go_enter Try.func27, Try.ntmps27
      go_wp2_with fail
      have hb0 := (Blk.made w [.int .i64 0, .int .i64 0, .int .i64 0] 53).alloc (.cells #[.int .i64 (x % 16), .int .i64 (x / 65536), .int .i64 (x / 16 % 4096)] 53)
      have hb1 := Blk.made' w (.cells #[.int .i64 0, .int .i64 0, .int .i64 0] 53) [.int .i64 (x % 16), .int .i64 (x / 65536), .int .i64 (x / 16 % 4096)] 53
      have hu := (((Upd.refl (fun _ => False) w).alloc (.cells #[.int .i64 0, .int .i64 0, .int .i64 0] 53)).alloc (.cells #[.int .i64 (x % 16), .int .i64 (x / 65536), .int .i64 (x / 16 % 4096)] 53))
      have HB0 := Lib.hid hb0
      have HB1 := Lib.hid hb1
      have HU := Lib.hid hu
      clear hb0 hb1 hu
      refine (rgood_any _ _ _ _).mono ?_
      rintro e w1 ⟨rfl, hu1⟩
      rw [← HOk.out]
      have g0 := HB0.out.upd hu1 (fun h => h)
      have g1 := HB1.out.upd hu1 (fun h => h)
      obtain ⟨⟨q0, q1, q2⟩, hf0, hf1, hf2⟩ := g0.three
      obtain ⟨⟨c0, c1, c2⟩, _⟩ := g1.three
      have G0 := Lib.hid g0
      have HU1 := Lib.hid (HU.out.trans hu1)
      have hl := g0.lt
      clear g0 g1 hu1
      cases hok : okW x with
      | true =>
        have H := Lib.hid hok
        clear hok
        go_wp2
        refine bodyPost_ret (res_cell_tmp rfl _ _ w.heap.size _ 53 _ _ rfl rfl (G0.out.set3 _ _ _) Try.underlying53 rfl (by kernel_rfl)) rfl ⟨HU1.out.set3 _ _ _ _ (by omega), ?_⟩
        rw [if_pos H.out]
        rfl
      | false =>
        have H := Lib.hid hok
        clear hok
        go_wp2
        refine bodyPost_ret (res_cell_tmp rfl _ _ w.heap.size _ 53 _ _ rfl rfl (G0.out.set3 _ _ _) Try.underlying53 rfl (by kernel_rfl)) rfl ⟨HU1.out.set3 _ _ _ _ (by omega), ?_⟩
        rw [if_neg (by rw [H.out]; decide)]
        rfl
end Go.Proofs.Ytlphlaenecidiaa.Ref
