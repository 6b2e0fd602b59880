/- The next bit that is set: math/bits.TrailingZeros64 by its laid table, and marks.Next. -/
import Derived.Test.YtjbcjpdkflppaaaDoorMarksAwake
import Derived.Shelf.Spec.TrailingZeros
namespace Go.Proofs.YtjbcjpdkflppaaaDoor.Marks
open Go.RowKit Go.Proofs.YtjbcjpdkflppaaaDoor.Mem Go.Proofs.YtjbcjpdkflppaaaDoor.Pop

/-- The library's table lies where it was laid. -/
abbrev Table (w : World) : Prop := TabAt 0 Lib.deBruijn64tab w
theorem Table.upd {S : Nat → Prop} {w w' : World} (h : Table w) (u : Upd S w w') (hs : ¬ S 0) : Table w' := fun j hj => by
  have hc := h j hj
  have hb := World.block_lt_of_cell? w _ hc
  rw [World.cell?, u.block 0 hb hs]
  exact hc

theorem ctz_bits (x : Nat) (hx : x < 18446744073709551616) (h0 : x ≠ 0) : Lib.ctz 64 x < 64 ∧ x.testBit (Lib.ctz 64 x) = true ∧ ∀ j, j < Lib.ctz 64 x → x.testBit j = false := by
  obtain ⟨m, hm, hk⟩ := Lib.ctzFrom_spec 64 x (by omega) (by simpa using hx)
  have e : Lib.ctz 64 x = Lib.ctzFrom 64 x := by simp [Lib.ctz, h0]
  rw [e]
  generalize Lib.ctzFrom 64 x = c at *
  refine ⟨hk, ?_, ?_⟩
  · rw [hm, Nat.testBit_two_pow_mul]
    simp
  · intro j hj
    rw [hm, Nat.testBit_two_pow_mul]
    have : decide (c ≤ j) = false := decide_eq_false (by omega)
    rw [this, Bool.false_and]

set_option maxHeartbeats 1000000 in
theorem tz_core (x k idx : Nat) (w : World) (hx0 : ((x : Int) == 0) = false)
    (key : IntKind.u64.wrap (bits BinOp.and IntKind.u64 (x : Int) (IntKind.u64.wrap (-(x : Int))) * 285870213051353865) / 288230376151711744 = (idx : Int))
    (hi : idx < 64) (hk : k < 64) (hcell : w.cell? ⟨0, idx, none⟩ = some (.int .u8 k)) :
    Calls Tryd.prog 17 #[.int .u64 x] w fun e w' => e = .returned (.int .i64 k) ∧ w = w' := by
  go_enter Tryd.func17, Tryd.ntmps17
  go_wp2_with (simp only [key])
  go_ret
  exact ⟨rfl, rfl⟩

theorem tz_any (x : Nat) (hx : x < 18446744073709551616) (hx0 : x ≠ 0) (w : World) (hT : Table w) :
    Calls Tryd.prog 17 #[.int .u64 x] w fun e w' => e = .returned (.int .i64 (Lib.ctz 64 x)) ∧ w = w' := by
  obtain ⟨hlow, hk⟩ := Lib.lowest_bit 64 x hx0 hx
  obtain ⟨hi, htab⟩ := Lib.deBruijn64_at _ hk
  have hcell := hT _ hi
  rw [htab] at hcell
  exact tz_core x _ _ w (by simp; omega) (tz64_key x _ hx hx0 hlow) hi hk hcell

/-- What Next answers. -/
def NextIs (ws : List Nat) (a : Nat) (r e : Int) : Prop :=
  (e = 0 ∧ ∃ j : Nat, r = (j : Int) ∧ a ≤ j ∧ has ws j = true ∧ ∀ i, a ≤ i → i < j → has ws i = false) ∨ (e = 13 ∧ r = 0 ∧ ∀ i, a ≤ i → has ws i = false)

def Nexting (ws : List Nat) (a : Nat) (k : Value) : Prop := ∃ q : Nat, a / 64 ≤ q ∧ q ≤ max (a / 64) ws.length ∧ k = .int .i64 (q : Int) ∧ ∀ i, a ≤ i → i < 64 * q → has ws i = false

theorem has_word {ws : List Nat} {q t : Nat} (ht : t < 64) : has ws (64 * q + t) = (ws.getD q 0).testBit t := by
  unfold has
  rw [show (64 * q + t) / 64 = q by omega, show (64 * q + t) % 64 = t by omega]
theorem has_beyond {ws : List Nat} {i : Nat} (h : 64 * ws.length ≤ i) : has ws i = false := by
  unfold has
  rw [List.getD_eq_getElem?_getD, List.getElem?_eq_none (by omega)]
  simp

theorem andNot_mask (x i : Nat) (hx : x < 18446744073709551616) (hi : i < 64) :
    ∃ y : Nat, bits BinOp.andNot IntKind.u64 (x : Int) (IntKind.u64.wrap (IntKind.u64.wrap (2 ^ i) - 1)) = (y : Int) ∧ y < 18446744073709551616 ∧ ∀ t, t < 64 → y.testBit t = (x.testBit t && decide (i ≤ t)) := by
  have hp : 2 ^ i < 18446744073709551616 := by
    have := Nat.pow_lt_pow_right (a := 2) (by omega) (show i < 64 by omega)
    simpa using this
  have hp0 : 0 < 2 ^ i := Nat.two_pow_pos i
  have e1 : IntKind.u64.wrap (2 ^ i) = ((2 ^ i : Nat) : Int) := by
    have := wrap_u64 (2 ^ i) hp
    simpa using this
  rw [e1, show ((2 ^ i : Nat) : Int) - 1 = ((2 ^ i - 1 : Nat) : Int) by omega, wrap_u64 _ (by omega), u64_andNot_nat _ _ hx (by omega)]
  refine ⟨_, rfl, Nat.lt_of_le_of_lt Nat.and_le_left hx, fun t ht => ?_⟩
  rw [Nat.testBit_and, show 18446744073709551615 - (2 ^ i - 1) = 2 ^ 64 - ((2 ^ i - 1) + 1) by omega, Nat.testBit_two_pow_sub_succ (by omega), Nat.testBit_two_pow_sub_one]
  by_cases h : i ≤ t
  · have a1 : decide (t < i) = false := decide_eq_false (by omega)
    have a2 : decide (i ≤ t) = true := decide_eq_true h
    have a3 : decide (t < 64) = true := decide_eq_true ht
    rw [a1, a2, a3]; simp
  · have a1 : decide (t < i) = true := decide_eq_true (by omega)
    have a2 : decide (i ≤ t) = false := decide_eq_false h
    rw [a1, a2]; simp

theorem next_bad (w : World) (b wb n : Nat) (ws : List Nat) (h : MapAt w b wb n ws) (i : Int) (hi : i < 0 ∨ (n : Int) < i) :
    Calls Tryd.prog 9 #[.pointer (some ⟨b, 0, none⟩), .int .i64 i] w fun e w' => e = .returned (.tuple #[.int .i64 0, .int .i64 1]) ∧ w = w' := by
  have h1 := h.str.cell 1 rfl
  clear h
  by_cases h0 : i < 0
  · have d0 : decide (i < 0) = true := decide_eq_true h0
    go_enter Tryd.func9, Tryd.ntmps9
    go_wp2
    go_ret2
    exact ⟨rfl, rfl⟩
  · have d0 : decide (i < 0) = false := decide_eq_false h0
    have d1 : decide ((n : Int) < i) = true := decide_eq_true (by omega)
    clear hi
    go_enter Tryd.func9, Tryd.ntmps9
    go_wp2
    go_ret2
    exact ⟨rfl, rfl⟩

set_option maxHeartbeats 1000000 in
theorem next_any (w : World) (b wb n : Nat) (ws : List Nat) (h : MapAt w b wb n ws) (hT : Table w) (a : Nat) (ha : a ≤ n) :
    Calls Tryd.prog 9 #[.pointer (some ⟨b, 0, none⟩), .int .i64 (a : Int)] w fun e w' => ∃ r err : Int, e = .returned (.tuple #[.int .i64 r, .int .i64 err]) ∧ NextIs ws a r err ∧ w = w' := by
  have h0 := h.str.cell 0 rfl
  have h1 := h.str.cell 1 rfl
  have hn := h.hi
  have hl := h.len
  have d0 : decide ((n : Int) < (a : Int)) = false := decide_eq_false (by omega)
  have d0' : decide (n < a) = false := decide_eq_false (by omega)
  have HT := Lib.hid hT
  have HL := Lib.hid hl
  clear hT hl
  go_enter Tryd.func9, Tryd.ntmps9
  go_wp2
  go_loop [6] (fun k => Nexting ws a k) (fun k => ws.length - (intOf k).toNat)
  case atStart => exact ⟨a / 64, Nat.le_refl _, by omega, by go_num, fun i h1 h2 => by omega⟩
  case round =>
    obtain ⟨q, hq0, hq1, rfl, hno⟩ := hrel
    by_cases hlk : q < ws.length
    · have dl : decide ((q : Int) < (ws.length : Int)) = true := decide_eq_true (by omega)
      have hl := HL.out
      have dl' : decide (q < ws.length) = true := decide_eq_true hlk
      have hc := h.wds.cell q (word_at hlk)
      have hfit := h.lt_word q
      have hw : ∀ t, t < 64 → has ws (64 * q + t) = (ws.getD q 0).testBit t := fun t ht => has_word ht
      generalize ws.getD q 0 = x at *
      have hq16 : q ≤ 1024 := by omega
      have HW := Lib.hid hw
      have HNo := Lib.hid hno
      clear hw hno hl
      by_cases hqa : q = a / 64
      · have de : ((q : Int) == (a : Int) / 64) = true := by rw [beq_iff_eq]; omega
        have de' : (q == a / 64) = true := by rw [beq_iff_eq]; omega
        obtain ⟨y, hy, hylt, hyb⟩ := andNot_mask x (a % 64) hfit (by omega)
        have Hyb := Lib.hid hyb
        have Hqa := Lib.hid hqa
        clear hyb hqa
        by_cases hy0 : y = 0
        · have dy : ((y : Int) != 0) = false := by rw [hy0]; rfl
          have dy' : (y != 0) = false := by rw [hy0]; rfl
          go_wp2
          go_round
          case rel =>
            have hqa := Hqa.out
            refine ⟨q + 1, by omega, by omega, by go_num, fun i h1 h2 => ?_⟩
            by_cases h3 : i < 64 * q
            · exact HNo.out i h1 h3
            · have := HW.out (i - 64 * q) (by omega)
              rw [show 64 * q + (i - 64 * q) = i by omega] at this
              rw [this]
              have hb := Hyb.out (i - 64 * q) (by omega)
              rw [hy0, Nat.zero_testBit, decide_eq_true (by omega), Bool.and_true] at hb
              exact hb.symm
          case measure => simp [intOf]; omega
        · have dy : ((y : Int) != 0) = true := by rw [bne_iff_ne]; omega
          have dy' : (y != 0) = true := by rw [bne_iff_ne]; exact hy0
          obtain ⟨c1, c2, c3⟩ := ctz_bits y hylt hy0
          have htz := fun w => tz_any y hylt hy0 w
          generalize Lib.ctz 64 y = c at *
          have Htz := Lib.hid htz
          clear htz
          go_wp2_with fail
          refine (Htz.out _ HT.out).mono ?_
          rintro e w1 ⟨rfl, rfl⟩
          go_wp2
          go_ret2
          have hqa := Hqa.out
          refine ⟨((64 * q + c : Nat) : Int), 0, by go_num, .inl ⟨rfl, 64 * q + c, rfl, ?_, ?_, fun i h1 h2 => ?_⟩, rfl⟩
          · have := Hyb.out c c1
            rw [c2] at this
            have h2 := (Bool.and_eq_true_iff.1 this.symm).2
            have := of_decide_eq_true h2
            omega
          · rw [HW.out c c1]
            have := Hyb.out c c1
            rw [c2] at this
            exact (Bool.and_eq_true_iff.1 this.symm).1
          · by_cases h3 : i < 64 * q
            · exact HNo.out i h1 h3
            · have := HW.out (i - 64 * q) (by omega)
              rw [show 64 * q + (i - 64 * q) = i by omega] at this
              rw [this]
              have hb := Hyb.out (i - 64 * q) (by omega)
              rw [c3 _ (by omega), decide_eq_true (by omega), Bool.and_true] at hb
              exact hb.symm
      · have de : ((q : Int) == (a : Int) / 64) = false := by rw [beq_eq_false_iff_ne]; omega
        have de' : (q == a / 64) = false := by rw [beq_eq_false_iff_ne]; omega
        by_cases hy0 : x = 0
        · have dy : ((x : Int) != 0) = false := by rw [hy0]; rfl
          have dy' : (x != 0) = false := by rw [hy0]; rfl
          go_wp2
          go_round
          case rel =>
            refine ⟨q + 1, by omega, by omega, by go_num, fun i h1 h2 => ?_⟩
            by_cases h3 : i < 64 * q
            · exact HNo.out i h1 h3
            · have := HW.out (i - 64 * q) (by omega)
              rw [show 64 * q + (i - 64 * q) = i by omega] at this
              rw [this, hy0, Nat.zero_testBit]
          case measure => simp [intOf]; omega
        · have dy : ((x : Int) != 0) = true := by rw [bne_iff_ne]; omega
          have dy' : (x != 0) = true := by rw [bne_iff_ne]; exact hy0
          obtain ⟨c1, c2, c3⟩ := ctz_bits x hfit hy0
          have htz := fun w => tz_any x hfit hy0 w
          generalize Lib.ctz 64 x = c at *
          have Htz := Lib.hid htz
          clear htz
          go_wp2_with fail
          refine (Htz.out _ HT.out).mono ?_
          rintro e w1 ⟨rfl, rfl⟩
          go_wp2
          go_ret2
          refine ⟨((64 * q + c : Nat) : Int), 0, by go_num, .inl ⟨rfl, 64 * q + c, rfl, by omega, ?_, fun i h1 h2 => ?_⟩, rfl⟩
          · rw [HW.out c c1]; exact c2
          · by_cases h3 : i < 64 * q
            · exact HNo.out i h1 h3
            · have := HW.out (i - 64 * q) (by omega)
              rw [show 64 * q + (i - 64 * q) = i by omega] at this
              rw [this]
              exact c3 _ (by omega)
    · have dl : decide ((q : Int) < (ws.length : Int)) = false := decide_eq_false (by omega)
      have dl' : decide (q < ws.length) = false := decide_eq_false hlk
      have HNo := Lib.hid hno
      clear hno
      go_wp2
      go_ret2
      refine ⟨0, 13, rfl, .inr ⟨rfl, rfl, fun i h1 => ?_⟩, rfl⟩
      by_cases h3 : i < 64 * q
      · exact HNo.out i h1 h3
      · exact has_beyond (by omega)
end Go.Proofs.YtjbcjpdkflppaaaDoor.Marks
