/- The order of three measures is one: what is ahead of what is ahead is ahead; the first one, and the last one, are among them: the walk of besomlaw02.GaugeRows. -/
import Derived.Test.YtjlcjcgoaakniaaBestLaws
namespace Go.Proofs.Ytjlcjcgoaakniaa.GaugeRows
open Go.RowKit Go.Proofs.Ytjlcjcgoaakniaa.Mem Go.Proofs.Ytjlcjcgoaakniaa.Dbl Go.Proofs.Ytjlcjcgoaakniaa.Gauge Go.Proofs.Ytjlcjcgoaakniaa.Row

/-- The three, by their places. -/
def el (x y z : Nat) (k : Nat) : Nat := if k = 0 then x else if k = 1 then y else z
/-- How many of the first k are no numbers. -/
def cn (x y z : Nat) : Nat → Nat
  | 0 => 0
  | k + 1 => cn x y z k + if kk (el x y z k) = 0 then 1 else 0

theorem idx (x y z k : Nat) (hk : k < 3) (w : World) : (Instr.index 44 (.agg #[.float .f64 x, .float .f64 y, .float .f64 z]) (.int .i64 (k : Int))).run Try.prog w = .ok (.float .f64 (el x y z k)) w := by
  obtain rfl | rfl | rfl : k = 0 ∨ k = 1 ∨ k = 2 := by omega
  · kernel_rfl
  · kernel_rfl
  · kernel_rfl

def Going (x y z : Nat) (n i : Value) : Prop := ∃ k : Nat, k ≤ 3 ∧ i = .int .i64 (k : Int) ∧ n = .int .i64 (cn x y z k : Nat)

theorem cn_le (x y z : Nat) : ∀ k, cn x y z k ≤ k
  | 0 => Nat.le_refl _
  | k + 1 => by have := cn_le x y z k; simp only [cn]; split <;> omega

set_option maxHeartbeats 1600000 in
/-- Behind the test of the order. -/
theorem law_nat (x y z : Nat) (w : World) (hx : x < 18446744073709551616) (hy : y < 18446744073709551616) (hz : z < 18446744073709551616) :
    Calls Try.prog 8 #[.int .u64 (x : Int), .int .u64 (y : Int), .int .u64 (z : Int)] w fun e w' => e = .returned (.bool true) ∧ Below w.heap.size w w' := by
  have hf1 := run_from x
  have hf2 := run_from y
  have hf3 := run_from z
  have all : ∀ v ∈ [x, y, z], v < 18446744073709551616 := by simp [hx, hy, hz]
  have l1 := bestOf_lt (way := -1) all
  have l2 := bestOf_lt (way := 1) all
  obtain ⟨a1, a2⟩ := least_all [x, y, z]
  obtain ⟨b1, b2⟩ := most_all [x, y, z]
  obtain ⟨lo, hlo⟩ : ∃ lo, lo = bestOf (-1) [x, y, z] := ⟨_, rfl⟩
  obtain ⟨hi, hhi⟩ : ∃ hi, hi = bestOf 1 [x, y, z] := ⟨_, rfl⟩
  rw [← hlo] at l1 a1 a2
  rw [← hhi] at l2 b1 b2
  -- each of the three: no number, or between the two
  have each : ∀ k, k < 3 → el x y z k < 18446744073709551616 ∧ (kk (el x y z k) ≠ 0 → kk lo ≤ kk (el x y z k) ∧ kk (el x y z k) ≤ kk hi) := by
    intro k hk
    obtain rfl | rfl | rfl : k = 0 ∨ k = 1 ∨ k = 2 := by omega
    · exact ⟨hx, fun h => ⟨(a1 x (by simp) h).2, b1 x (by simp) h⟩⟩
    · exact ⟨hy, fun h => ⟨(a1 y (by simp) h).2, b1 y (by simp) h⟩⟩
    · exact ⟨hz, fun h => ⟨(a1 z (by simp) h).2, b1 z (by simp) h⟩⟩
  -- all three are no numbers just if the ends are none
  have ends : (cn x y z 3 = 3 ↔ kk lo = 0) ∧ (cn x y z 3 = 3 ↔ kk hi = 0) := by
    have e : cn x y z 3 = 3 ↔ (kk x = 0 ∧ kk y = 0 ∧ kk z = 0) := by
      simp only [cn, el]
      simp
      by_cases p : kk x = 0 <;> by_cases q : kk y = 0 <;> by_cases r : kk z = 0 <;> simp [p, q, r]
    have c1 := a1 x (by simp)
    have c2 := a1 y (by simp)
    have c3 := a1 z (by simp)
    have c4 := b1 x (by simp)
    have c5 := b1 y (by simp)
    have c6 := b1 z (by simp)
    simp only [List.mem_cons, List.not_mem_nil, or_false, exists_eq_or_imp, exists_eq_left] at a2 b2
    rw [e]
    clear e a1 b1 each
    refine ⟨?_, ?_⟩
    · clear b2 c4 c5 c6
      by_cases h : kk lo = 0
      · exact ⟨fun _ => h, fun _ => by omega⟩
      · have := a2 h; exact ⟨fun h2 => by omega, fun h2 => (h h2).elim⟩
    · clear a2 c1 c2 c3
      by_cases h : kk hi = 0
      · exact ⟨fun _ => h, fun _ => by omega⟩
      · have := b2 h; exact ⟨fun h2 => by omega, fun h2 => (h h2).elim⟩
  have e3 : (((cn x y z 3 : Nat) : Int) == 3) = (cls lo == 0) := by
    rw [Bool.eq_iff_iff, beq_iff_eq, beq_iff_eq, cls_eq_zero l1, ← ends.1]; omega
  have e4 : (((cn x y z 3 : Nat) : Int) == 3) = (cls hi == 0) := by
    rw [Bool.eq_iff_iff, beq_iff_eq, beq_iff_eq, cls_eq_zero l2, ← ends.2]; omega
  have n3 := cn_le x y z 3
  have All := Lib.hid all
  have Each := Lib.hid each
  have E3 := Lib.hid e3
  have E4 := Lib.hid e4
  have Lo := Lib.hid hlo
  have Hi := Lib.hid hhi
  have bl := @cls_ge lo
  have bh := @cls_ge hi
  clear all a1 a2 b1 b2 each ends e3 e4 hlo hhi
  -- the test of the order comes to false
  obtain ⟨s1, g1⟩ : ∃ s, s = sc (kk x) (kk y) := ⟨_, rfl⟩
  obtain ⟨s2, g2⟩ : ∃ s, s = sc (kk y) (kk z) := ⟨_, rfl⟩
  obtain ⟨s3, g3⟩ : ∃ s, s = sc (kk x) (kk z) := ⟨_, rfl⟩
  have tests : (decide (s1 ≤ 0) = false) ∨ (decide (s1 ≤ 0) = true ∧ decide (s2 ≤ 0) = false) ∨ (decide (s1 ≤ 0) = true ∧ decide (s2 ≤ 0) = true ∧ decide (0 < s3) = false) := by
    simp only [decide_eq_true_eq, decide_eq_false_iff_not]
    by_cases p : s1 ≤ 0
    · by_cases q : s2 ≤ 0
      · right; right
        refine ⟨p, q, ?_⟩
        rw [g1, sc_le_iff] at p
        rw [g2, sc_le_iff] at q
        have : sc (kk x) (kk z) ≤ 0 := sc_le_iff.2 (by omega)
        omega
      · exact .inr (.inl ⟨p, q⟩)
    · exact .inl p
  have qs : (kk x == kk x) = true := by simp
  have Qs := Lib.hid qs
  have G1 := Lib.hid g1
  have G2 := Lib.hid g2
  have G3 := Lib.hid g3
  clear g1 g2 g3 qs
  rcases tests with t1 | ⟨t1, t2⟩ | ⟨t1, t2, t3⟩
  case' inl =>
    go_enter Try.func8, Try.ntmps8
    go_wp2_with fail
    refine (awake _).mono ?_
    rintro e w1 ⟨rfl, hu1⟩
    go_wp2_with fail
    refine (order_any x y _ hx hy).mono ?_
    rintro e w0 ⟨rfl, rfl⟩
    rw [← G1.out]
  case' inr.inl =>
    go_enter Try.func8, Try.ntmps8
    go_wp2_with fail
    refine (awake _).mono ?_
    rintro e w1 ⟨rfl, hu1⟩
    go_wp2_with fail
    refine (order_any x y _ hx hy).mono ?_
    rintro e w0 ⟨rfl, rfl⟩
    rw [← G1.out]
    go_wp2_with fail
    refine (order_any y z _ hy hz).mono ?_
    rintro e w0 ⟨rfl, rfl⟩
    rw [← G2.out]
  case' inr.inr =>
    go_enter Try.func8, Try.ntmps8
    go_wp2_with fail
    refine (awake _).mono ?_
    rintro e w1 ⟨rfl, hu1⟩
    go_wp2_with fail
    refine (order_any x y _ hx hy).mono ?_
    rintro e w0 ⟨rfl, rfl⟩
    rw [← G1.out]
    go_wp2_with fail
    refine (order_any y z _ hy hz).mono ?_
    rintro e w0 ⟨rfl, rfl⟩
    rw [← G2.out]
    go_wp2_with fail
    refine (order_any x z _ hx hz).mono ?_
    rintro e w0 ⟨rfl, rfl⟩
    rw [← G3.out]
  all_goals
    go_wp2_with fail
    refine (same_any x x _ hx hx).mono ?_
    rintro e w0 ⟨rfl, rfl⟩
    rw [Qs.out]
    go_wp2_with fail
    refine (least_any (some ⟨w1.heap.size, 0, none⟩) 3 [x, y, z] _ (floats_new (Blk.made w1 _ 24) All.out (by simp))).mono ?_
    rintro e w2 ⟨rfl, hw⟩
    have hU2 := hu1.trans (show Upd (fun _ => False) w1 w2 by rw [← hw]; exact (Upd.refl _ _).alloc _)
    clear hw
    rw [← Lo.out]
    go_wp2_with fail
    refine (most_any (some ⟨w2.heap.size, 0, none⟩) 3 [x, y, z] _ (floats_new (Blk.made w2 _ 24) All.out (by simp))).mono ?_
    rintro e w3 ⟨rfl, hw⟩
    have hU3 := hU2.trans (show Upd (fun _ => False) w2 w3 by rw [← hw]; exact (Upd.refl _ _).alloc _)
    clear hw
    rw [← Hi.out]
    have hbel := hU3.below (by simp)
    clear hU2 hU3 hu1
    go_wp2
    go_loop [12, 59] (fun n i => Going x y z n i) (fun _ i => 3 - (intOf i).toNat)
    case atStart => exact ⟨0, Nat.zero_le _, rfl, rfl⟩
    case round =>
      obtain ⟨k, hk, rfl, rfl⟩ := hrel
      have hcl := cn_le x y z k
      by_cases hlk : k < 3
      · have hidx := fun w => idx x y z k hlk w
        obtain ⟨hew, hbd⟩ := Each.out k hlk
        have hcn : cn x y z (k + 1) = cn x y z k + if kk (el x y z k) = 0 then 1 else 0 := rfl
        have d3 : decide ((k : Int) < 3) = true := decide_eq_true (by omega)
        generalize el x y z k = v at *
        have bv := @cls_ge v
        by_cases hv : kk v = 0
        · have hcv : cls v = 0 := (cls_eq_zero hew).2 hv
          rw [if_pos hv] at hcn
          have Hcn := Lib.hid hcn
          have Hcv := Lib.hid hcv
          clear hcn hcv hv hbd
          go_wp2_with fail
          clear hidx
          refine (class_any v _ hew).mono ?_
          rintro e w0 ⟨rfl, rfl⟩
          rw [Hcv.out]
          go_wp2_with fail
          refine (class_any v _ hew).mono ?_
          rintro e w0 ⟨rfl, rfl⟩
          rw [Hcv.out]
          go_wp2
          go_round
          case rel => exact ⟨k + 1, by omega, by go_num, by rw [Hcn.out]; go_num⟩
          case measure => simp [intOf]; omega
        · have hcv : cls v ≠ 0 := fun h => hv ((cls_eq_zero hew).1 h)
          have dn : (cls v != 0) = true := bne_iff_ne.2 hcv
          have de : (cls v == 0) = false := beq_eq_false_iff_ne.2 hcv
          obtain ⟨h1, h2⟩ := hbd hv
          obtain ⟨p, hp⟩ : ∃ p, p = sc (kk lo) (kk v) := ⟨_, rfl⟩
          obtain ⟨q, hq⟩ : ∃ q, q = sc (kk hi) (kk v) := ⟨_, rfl⟩
          have dp : decide (0 < p) = false := decide_eq_false (by have := sc_le_iff.2 h1; omega)
          have dq : decide (q < 0) = false := decide_eq_false (by have := sc_ge_iff.2 h2; omega)
          rw [if_neg hv, Nat.add_zero] at hcn
          have Hcn := Lib.hid hcn
          have Hp := Lib.hid hp
          have Hq := Lib.hid hq
          clear hcn hcv hv hbd h1 h2 hp hq
          go_wp2_with fail
          clear hidx
          refine (class_any v _ hew).mono ?_
          rintro e w0 ⟨rfl, rfl⟩
          go_wp2_with fail
          refine (order_any lo v _ l1 hew).mono ?_
          rintro e w0 ⟨rfl, rfl⟩
          rw [← Hp.out]
          go_wp2_with fail
          refine (order_any hi v _ l2 hew).mono ?_
          rintro e w0 ⟨rfl, rfl⟩
          rw [← Hq.out]
          go_wp2_with fail
          refine (class_any v _ hew).mono ?_
          rintro e w0 ⟨rfl, rfl⟩
          go_wp2
          go_round
          case rel => exact ⟨k + 1, by omega, by go_num, by rw [Hcn.out]; rfl⟩
          case measure => simp [intOf]; omega
      · have hke : k = 3 := by omega
        subst hke
        have e3 := E3.out
        have e4 := E4.out
        generalize cn x y z 3 = c at *
        generalize hcl0 : cls lo = cl at *
        generalize hch0 : cls hi = ch at *
        have Hcl := Lib.hid hcl0
        have Hch := Lib.hid hch0
        have E3' := Lib.hid e3
        have E4' := Lib.hid e4
        clear hcl0 hch0 e3 e4 E3 E4
        obtain ⟨b, hb⟩ : ∃ b, b = ((c : Int) == 3) := ⟨_, rfl⟩
        have f1 : ((c : Int) == 3) = b := hb.symm
        have f1' : (c == 3) = b := by rw [hb, Bool.eq_iff_iff, beq_iff_eq, beq_iff_eq]; omega
        have f2 : (cl == 0) = b := by rw [hb, E3'.out]
        have f3 : (ch == 0) = b := by rw [hb, E4'.out]
        clear hb
        go_wp2_with fail
        refine (class_any lo _ l1).mono ?_
        rintro e w0 ⟨rfl, rfl⟩
        rw [Hcl.out]
        go_wp2_with fail
        refine (class_any hi _ l2).mono ?_
        rintro e w0 ⟨rfl, rfl⟩
        rw [Hch.out]
        go_wp2
        go_ret
        exact ⟨rfl, hbel⟩

theorem law (w : World) (a b c : Int) (ha : (Lit.int .u64 a).wf = true) (hb : (Lit.int .u64 b).wf = true) (hc : (Lit.int .u64 c).wf = true) :
    Calls Try.prog 8 #[.int .u64 a, .int .u64 b, .int .u64 c] w fun e w' => e = .returned (.bool true) ∧ Below w.heap.size w w' := by
  have h1 := bounds_u64 ha
  have h2 := bounds_u64 hb
  have h3 := bounds_u64 hc
  obtain ⟨x, rfl⟩ : ∃ m : Nat, a = (m : Int) := ⟨a.toNat, by omega⟩
  obtain ⟨y, rfl⟩ : ∃ m : Nat, b = (m : Int) := ⟨b.toNat, by omega⟩
  obtain ⟨z, rfl⟩ : ∃ m : Nat, c = (m : Int) := ⟨c.toNat, by omega⟩
  exact law_nat x y z w (by omega) (by omega) (by omega)
end Go.Proofs.Ytjlcjcgoaakniaa.GaugeRows
