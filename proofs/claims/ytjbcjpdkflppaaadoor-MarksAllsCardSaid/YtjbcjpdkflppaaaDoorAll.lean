/- All bits that are set, rising: marks.All's inner function, over whatever is called at each. -/
import Derived.Test.YtjbcjpdkflppaaaDoorNext
import Derived.Deep.LoopGhost
import Derived.WalkMore
namespace Go.Proofs.YtjbcjpdkflppaaaDoor.Marks
open Go.RowKit Go.Proofs.YtjbcjpdkflppaaaDoor.Mem Go.Proofs.YtjbcjpdkflppaaaDoor.Pop

theorem less_bit (x c : Nat) (h1 : x.testBit c = true) (h2 : ∀ j, j < c → x.testBit j = false) (t : Nat) :
    (x &&& (x - 1)).testBit t = (x.testBit t && decide (t ≠ c)) := by
  have hm : x = 2 ^ c * (x / 2 ^ c) := by
    apply Nat.eq_of_testBit_eq
    intro i
    rw [Nat.testBit_two_pow_mul]
    by_cases h : c ≤ i
    · rw [decide_eq_true h, Bool.true_and, Nat.testBit_div_two_pow, show i - c + c = i by omega]
    · rw [decide_eq_false h, Bool.false_and]; exact h2 i (by omega)
  generalize hq : x / 2 ^ c = m at hm
  have hodd : m % 2 = 1 := by
    rw [hm, Nat.testBit_two_pow_mul] at h1
    simp at h1
    exact h1
  have hp := Nat.two_pow_pos c
  have hx1 : x - 1 = 2 ^ c * (m - 1) + (2 ^ c - 1) := by
    have : 2 ^ c * m = 2 ^ c * (m - 1) + 2 ^ c := by
      rw [← Nat.mul_succ]; congr 1; omega
    omega
  rw [Nat.testBit_and, hx1, Nat.testBit_two_pow_mul_add _ (by omega)]
  rw [hm, Nat.testBit_two_pow_mul]
  by_cases h : t < c
  · rw [decide_eq_false (by omega : ¬ c ≤ t)]; simp
  · rw [if_neg h, decide_eq_true (by omega : c ≤ t), Bool.true_and]
    by_cases e : t = c
    · subst e
      have : (m - 1).testBit (t - t) = false := by
        rw [Nat.sub_self, Nat.testBit_zero]
        rw [show (m - 1) % 2 = 0 by omega]; rfl
      rw [this]; simp
    · rw [decide_eq_true e, Bool.and_true]
      obtain ⟨d, hd⟩ : ∃ d, t - c = d + 1 := ⟨t - c - 1, by omega⟩
      rw [hd, Nat.testBit_succ, Nat.testBit_succ, show (m - 1) / 2 = m / 2 by omega, Bool.and_self]

/-- What is told of a function that is called at each. -/
structure Yielder (ws : List Nat) (w0 : World) (b wb n mb : Nat) (F : FuncId) (caps : Array Value) (J : Nat → World → Prop) (K : World → Prop) : Prop where
  enters : ∀ args w, (callFunc F args).run Tryd.prog w = .ok (.enter F args) w
  mem : ∀ p w, J p w → MapAt w b wb n ws ∧ Table w ∧ w.cell? ⟨mb, 0, none⟩ = some (.pointer (some ⟨b, 0, none⟩))
  step : ∀ p w at', J p w → p ≤ at' → (∀ i, p ≤ i → i < at' → has ws i = false) → has ws at' = true →
    Calls Tryd.prog F (#[.int .i64 (at' : Int)] ++ caps) w fun e w' => (e = .returned (.bool true) ∧ J (at' + 1) w') ∨ (e = .returned (.bool false) ∧ K w')

def Over (ws : List Nat) (J : Nat → World → Prop) (K : World → Prop) (w : World) : Prop := (∃ p, J p w ∧ ∀ i, p ≤ i → has ws i = false) ∨ K w

/-- The outer loop. -/
def Outer (ws : List Nat) (J : Nat → World → Prop) (g : Nat) (k : Value) (w : World) : Prop := ∃ q p : Nat, q ≤ ws.length ∧ g = ws.length - q ∧ k = .int .i64 (q : Int) ∧ p ≤ 64 * q ∧ J p w ∧ ∀ i, p ≤ i → i < 64 * q → has ws i = false
/-- The inner loop. -/
def Inner (ws : List Nat) (J : Nat → World → Prop) (q : Nat) (g : Nat) (x : Value) (w : World) : Prop := ∃ p y : Nat, y = g ∧ y < 18446744073709551616 ∧ x = .int .u64 (y : Int) ∧ p ≤ 64 * q + 64 ∧ J p w ∧ (∀ i, p ≤ i → i < 64 * q → has ws i = false) ∧
  (∀ t, t < 64 → y.testBit t = (has ws (64 * q + t) && decide (p ≤ 64 * q + t)))

theorem inner_over {ws : List Nat} {q p : Nat} (h1 : ∀ i, p ≤ i → i < 64 * q → has ws i = false) (h2 : ∀ t, t < 64 → (0 : Nat).testBit t = (has ws (64 * q + t) && decide (p ≤ 64 * q + t))) (i : Nat) (hp : p ≤ i) (hi : i < 64 * (q + 1)) : has ws i = false := by
  by_cases h : i < 64 * q
  · exact h1 i hp h
  · have := h2 (i - 64 * q) (by omega)
    rw [show 64 * q + (i - 64 * q) = i by omega, decide_eq_true hp, Bool.and_true, Nat.zero_testBit] at this
    exact this.symm
theorem inner_step {ws : List Nat} {q p y c : Nat} (hy : y.testBit c = true) (hlow : ∀ j, j < c → y.testBit j = false) (hc : c < 64) (h1 : ∀ i, p ≤ i → i < 64 * q → has ws i = false) (h2 : ∀ t, t < 64 → y.testBit t = (has ws (64 * q + t) && decide (p ≤ 64 * q + t))) :
    p ≤ 64 * q + c ∧ has ws (64 * q + c) = true ∧ (∀ i, p ≤ i → i < 64 * q + c → has ws i = false) ∧
    (∀ t, t < 64 → (y &&& (y - 1)).testBit t = (has ws (64 * q + t) && decide (64 * q + c + 1 ≤ 64 * q + t))) := by
  have hb := h2 c hc
  rw [hy] at hb
  have hb2 := Bool.and_eq_true_iff.1 hb.symm
  have hpc : p ≤ 64 * q + c := of_decide_eq_true hb2.2
  refine ⟨hpc, hb2.1, fun i hp hi => ?_, fun t ht => ?_⟩
  · by_cases h : i < 64 * q
    · exact h1 i hp h
    · have := h2 (i - 64 * q) (by omega)
      rw [show 64 * q + (i - 64 * q) = i by omega, decide_eq_true hp, Bool.and_true, hlow _ (by omega)] at this
      exact this.symm
  · rw [less_bit y c hy hlow]
    by_cases h : t < c
    · rw [hlow t h, decide_eq_false (by omega : ¬ 64 * q + c + 1 ≤ 64 * q + t)]; simp
    · by_cases e : t = c
      · subst e
        rw [decide_eq_false (by omega : ¬ t ≠ t), decide_eq_false (by omega : ¬ 64 * q + t + 1 ≤ 64 * q + t)]; simp
      · rw [h2 t ht, decide_eq_true (by omega : p ≤ 64 * q + t), decide_eq_true e, decide_eq_true (by omega : 64 * q + c + 1 ≤ 64 * q + t)]; simp
theorem and_less (y : Nat) (hy : y ≠ 0) (hlt : y < 18446744073709551616) : bits BinOp.and IntKind.u64 (y : Int) ((y : Int) - 1) = ((y &&& (y - 1) : Nat) : Int) ∧ y &&& (y - 1) < y := by
  rw [show (y : Int) - 1 = ((y - 1 : Nat) : Int) by omega, u64_and_nat _ _ hlt (by omega)]
  exact ⟨rfl, by have := @Nat.and_le_right y (y - 1); omega⟩

set_option maxHeartbeats 1000000 in
theorem all1_any (w : World) (b wb n mb : Nat) (ws : List Nat) (F : FuncId) (caps : Array Value) (J : Nat → World → Prop) (K : World → Prop) (h : Yielder ws w b wb n mb F caps J K) (hJ : J 0 w) :
    Calls Tryd.prog 18 #[.func (.func F) #[] caps, .pointer (some ⟨mb, 0, none⟩)] w fun e w' => e = .returned (.tuple #[]) ∧ Over ws J K w' := by
  obtain ⟨hM, hT, hm⟩ := h.mem 0 w hJ
  have h0 := hM.str.cell 0 rfl
  have hlen : ws.length ≤ 1024 := by have := hM.len; have := hM.hi; omega
  have H := Lib.hid h
  have HJ := Lib.hid hJ
  clear h hJ hM hT
  go_enter Tryd.func18, Tryd.ntmps18
  go_wp2
  go_step3
  go_wp2
  go_step3
  go_wp2
  clear h0 hm
  go_loopg [10] ws.length (fun g k wr => Outer ws J g k wr)
  case atStart => exact ⟨0, 0, Nat.zero_le _, rfl, rfl, by omega, HJ.out, fun i h1 h2 => by omega⟩
  case round =>
    obtain ⟨q, p, hq, rfl, rfl, hp, hJ, hno⟩ := hrel
    obtain ⟨hM, hT, hm⟩ := H.out.mem p wr hJ
    by_cases hlk : q < ws.length
    · have hc := hM.wds.cell q (word_at hlk)
      have hfit := hM.lt_word q
      have hw : ∀ t, t < 64 → has ws (64 * q + t) = (ws.getD q 0).testBit t := fun t ht => has_word ht
      generalize ws.getD q 0 = x at *
      have HW := Lib.hid hw
      have HNo := Lib.hid hno
      have HJ2 := Lib.hid hJ
      clear hw hno hJ hM hT hm
      go_wp2
      go_loopg [4] x (fun g v wr => Inner ws J q g v wr)
      case atStart =>
        refine ⟨p, x, rfl, hfit, rfl, by omega, HJ2.out, HNo.out, fun t ht => ?_⟩
        rw [HW.out t ht, decide_eq_true (by omega : p ≤ 64 * q + t), Bool.and_true]
      case round =>
        obtain ⟨p2, y, rfl, hy, rfl, hp2, hJ, hno2, hbits⟩ := hrel
        have HB := Lib.hid hbits
        have HN2 := Lib.hid hno2
        have HJ3 := Lib.hid hJ
        clear hbits hno2
        by_cases hy0 : y = 0
        · subst hy0
          clear hJ
          go_wp2
          go_roundg (ws.length - (q + 1))
          case rel => exact ⟨q + 1, p2, by omega, rfl, by go_num, by omega, HJ3.out, inner_over HN2.out HB.out⟩
          case measure => omega
        · obtain ⟨hM, hT, hm⟩ := H.out.mem p2 _ hJ
          obtain ⟨c1, c2, c3⟩ := ctz_bits y hy hy0
          have hst := inner_step c2 c3 c1 HN2.out HB.out
          have htz := fun w hT => tz_any y hy hy0 w hT
          generalize Lib.ctz 64 y = c at *
          have Htz := Lib.hid htz
          have HT := Lib.hid hT
          have Hst := Lib.hid hst
          have dy : ((y : Int) != 0) = true := by rw [bne_iff_ne]; omega
          have dy' : (y != 0) = true := by rw [bne_iff_ne]; exact hy0
          clear htz hM hT hm hJ c2 c3 hst
          go_wp2_with fail
          refine (Htz.out _ HT.out).mono ?_
          rintro e w1 ⟨rfl, rfl⟩
          have eg := H.out.enters
          go_wp2_with fail
          rw [show (q : Int) * 64 + (c : Int) = ((64 * q + c : Nat) : Int) by omega]
          refine (H.out.step p2 _ (64 * q + c) HJ3.out Hst.out.1 Hst.out.2.2.1 Hst.out.2.1).mono ?_
          rintro e w1 (⟨rfl, hJn⟩ | ⟨rfl, hK⟩)
          · have HJn := Lib.hid hJn
            obtain ⟨f1, f2⟩ := and_less y hy0 hy
            have Hf2 := Lib.hid f2
            clear hJn f2 eg
            go_wp2
            go_roundg (y &&& (y - 1))
            case rel => exact ⟨64 * q + c + 1, _, rfl, by have := Hf2.out; omega, by first | rfl | rw [f1], by omega, HJn.out, fun i h1 h2 => by omega, Hst.out.2.2.2⟩
            case measure => exact Hf2.out
          · have HK := Lib.hid hK
            clear hK eg
            go_wp2
            rw [Exit.noGoto_normal]
            go_end0
            exact ⟨rfl, .inr HK.out⟩
    · have hqe : q = ws.length := by omega
      subst hqe
      have HJ2 := Lib.hid hJ
      have HNo := Lib.hid hno
      have hle := hM.len
      clear hJ hno hM hT hm
      go_wp2
      rw [Exit.noGoto_normal]
      go_end0
      exact ⟨rfl, .inl ⟨p, HJ2.out, fun i h1 => by
        by_cases h : i < 64 * ws.length
        · exact HNo.out i h1 h
        · exact has_beyond (by omega)⟩⟩

theorem all_any (w : World) (b : Nat) :
    Calls Tryd.prog 10 #[.pointer (some ⟨b, 0, none⟩)] w fun e w' => e = .returned (.func (.func 18) #[] #[.pointer (some ⟨w.heap.size, 0, none⟩)]) ∧ Blk w' w.heap.size [.pointer (some ⟨b, 0, none⟩)] 24 ∧ Upd (fun _ => False) w w' := by
  have hmf : ∀ (fn : Fn) (first cap : Array Value) (w : World), (Instr.makeFunc fn first cap).run Tryd.prog w = .ok (.func fn first cap) w := fun _ _ _ _ => rfl
  go_enter Tryd.func10, Tryd.ntmps10
  go_wp2
  go_ret
  exact ⟨rfl, Blk.made w _ _, (Upd.refl _ w).alloc _⟩
end Go.Proofs.YtjbcjpdkflppaaaDoor.Marks
