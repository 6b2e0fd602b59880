/- Turned, measures that are no NaNs have the order turned; a row of one has it first and last: the walk of besomlaw02.GaugeTurns. -/
import Derived.Test.YtjlcjcgoaakniaaBestLaws
namespace Go.Proofs.Ytjlcjcgoaakniaa.GaugeTurns
open Go.RowKit Go.Proofs.Ytjlcjcgoaakniaa.Mem Go.Proofs.Ytjlcjcgoaakniaa.Dbl Go.Proofs.Ytjlcjcgoaakniaa.Gauge Go.Proofs.Ytjlcjcgoaakniaa.Row

theorem flip_lt {x : Nat} (h : x < 18446744073709551616) : Gauge.flip x < 18446744073709551616 := by unfold Gauge.flip; split <;> omega
theorem flip_cls {x : Nat} (h : x < 18446744073709551616) : (cls x = 0 ∧ cls (Gauge.flip x) = 0) ∨ (cls x ≠ 0 ∧ cls (Gauge.flip x) = 7 - cls x) := by
  unfold Gauge.flip
  by_cases hx : 9223372036854775808 ≤ x
  · rw [if_pos hx]
    have e : (x - 9223372036854775808) % 9223372036854775808 = x % 9223372036854775808 := by omega
    have n : ¬ 9223372036854775808 ≤ x - 9223372036854775808 := by omega
    unfold cls
    rw [e]
    by_cases h1 : 9218868437227405312 < x % 9223372036854775808
    · rw [if_pos h1, if_pos h1]; exact .inl ⟨rfl, rfl⟩
    · rw [if_neg h1, if_neg h1]
      by_cases h2 : x % 9223372036854775808 = 9218868437227405312
      · rw [if_pos h2, if_pos h2, if_pos hx, if_neg n]; right; omega
      · rw [if_neg h2, if_neg h2]
        by_cases h3 : x % 9223372036854775808 = 0
        · rw [if_pos h3, if_pos h3, if_pos hx, if_neg n]; right; omega
        · rw [if_neg h3, if_neg h3, if_pos hx, if_neg n]; right; omega
  · rw [if_neg hx]
    have e : (x + 9223372036854775808) % 9223372036854775808 = x % 9223372036854775808 := by omega
    have n : 9223372036854775808 ≤ x + 9223372036854775808 := by omega
    unfold cls
    rw [e]
    by_cases h1 : 9218868437227405312 < x % 9223372036854775808
    · rw [if_pos h1, if_pos h1]; exact .inl ⟨rfl, rfl⟩
    · rw [if_neg h1, if_neg h1]
      by_cases h2 : x % 9223372036854775808 = 9218868437227405312
      · rw [if_pos h2, if_pos h2, if_neg hx, if_pos n]; right; omega
      · rw [if_neg h2, if_neg h2]
        by_cases h3 : x % 9223372036854775808 = 0
        · rw [if_pos h3, if_pos h3, if_neg hx, if_pos n]; right; omega
        · rw [if_neg h3, if_neg h3, if_neg hx, if_pos n]; right; omega
theorem flip_kk {x : Nat} (h : x < 18446744073709551616) (h0 : kk x ≠ 0) : kk (Gauge.flip x) = 18446744073709551615 - kk x := by
  have hn : ¬ 9218868437227405312 < x % 9223372036854775808 := fun hc => h0 (by unfold kk; rw [if_pos hc])
  unfold kk Gauge.flip
  by_cases hx : 9223372036854775808 ≤ x
  · rw [if_pos hx, if_neg hn, if_pos hx, if_neg (by omega), if_neg (by omega)]; omega
  · rw [if_neg hx, if_neg hn, if_neg hx, if_neg (by omega), if_pos (by omega)]

theorem kk_lt' {x : Nat} (h : x < 18446744073709551616) : kk x < 18446744073709551616 := by
  unfold kk
  split
  · omega
  · split <;> omega
/-- What the row of one, and rows of two, come to. -/
theorem two_ways {p q m n : Nat} (h1 : (p ≠ 0 → m ≠ 0 ∧ m ≤ p) ∧ (q ≠ 0 → m ≠ 0 ∧ m ≤ q)) (h2 : m ≠ 0 → p = m ∨ q = m) (h3 : (q ≠ 0 → n ≠ 0 ∧ n ≤ q) ∧ (p ≠ 0 → n ≠ 0 ∧ n ≤ p)) (h4 : n ≠ 0 → q = n ∨ p = n) : m = n := by
  by_cases hm : m = 0
  · by_cases hn : n = 0
    · omega
    · have := h4 hn
      omega
  · have := h2 hm
    by_cases hn : n = 0
    · omega
    · have := h4 hn
      omega
theorem two_ways' {p q m n : Nat} (h1 : (p ≠ 0 → p ≤ m) ∧ (q ≠ 0 → q ≤ m)) (h2 : m ≠ 0 → p = m ∨ q = m) (h3 : (q ≠ 0 → q ≤ n) ∧ (p ≠ 0 → p ≤ n)) (h4 : n ≠ 0 → q = n ∨ p = n) : m = n := by
  by_cases hm : m = 0
  · by_cases hn : n = 0
    · omega
    · have := h4 hn
      omega
  · have := h2 hm
    by_cases hn : n = 0
    · omega
    · have := h4 hn
      omega
theorem rows_of (x y : Nat) : kk (bestOf (-1) [x]) = kk x ∧ kk (bestOf 1 [x]) = kk x ∧ kk (bestOf (-1) [x, y]) = kk (bestOf (-1) [y, x]) ∧ kk (bestOf 1 [x, y]) = kk (bestOf 1 [y, x]) := by
  have a1 := least_all [x]
  have a2 := most_all [x]
  have b1 := least_all [x, y]
  have b2 := least_all [y, x]
  have c1 := most_all [x, y]
  have c2 := most_all [y, x]
  simp only [List.mem_cons, List.not_mem_nil, or_false, forall_eq_or_imp, forall_eq, exists_eq_or_imp, exists_eq_left] at a1 a2 b1 b2 c1 c2
  refine ⟨?_, ?_, two_ways b1.1 b1.2 b2.1 b2.2, two_ways' c1.1 c1.2 c2.1 c2.2⟩
  · clear a2 b1 b2 c1 c2
    generalize kk (bestOf (-1) [x]) = m at *
    omega
  · clear a1 b1 b2 c1 c2
    generalize kk (bestOf 1 [x]) = m at *
    omega

set_option maxHeartbeats 1600000 in
theorem law_nat (x y : Nat) (w : World) (hx : x < 18446744073709551616) (hy : y < 18446744073709551616) :
    Calls Try.prog 9 #[.int .u64 (x : Int), .int .u64 (y : Int)] w fun e w' => e = .returned (.bool true) ∧ Below w.heap.size w w' := by
  have hf1 := run_from x
  have hf2 := run_from y
  obtain ⟨r1, r2, r3, r4⟩ := rows_of x y
  have one : ∀ z ∈ [x], z < 18446744073709551616 := by simp [hx]
  have two : ∀ z ∈ [x, y], z < 18446744073709551616 := by simp [hx, hy]
  have owt : ∀ z ∈ [y, x], z < 18446744073709551616 := by simp [hx, hy]
  have l1 := bestOf_lt (way := -1) one
  have l2 := bestOf_lt (way := 1) one
  have l3 := bestOf_lt (way := -1) two
  have l4 := bestOf_lt (way := -1) owt
  have l5 := bestOf_lt (way := 1) two
  have l6 := bestOf_lt (way := 1) owt
  have q1 : (kk (bestOf (-1) [x]) == kk x) = true := beq_iff_eq.2 r1
  have q2 : (kk (bestOf 1 [x]) == kk x) = true := beq_iff_eq.2 r2
  have q3 : (kk (bestOf (-1) [x, y]) == kk (bestOf (-1) [y, x])) = true := beq_iff_eq.2 r3
  have q4 : (kk (bestOf 1 [x, y]) == kk (bestOf 1 [y, x])) = true := beq_iff_eq.2 r4
  have One := Lib.hid one
  have Two := Lib.hid two
  have Owt := Lib.hid owt
  have Q1 := Lib.hid q1
  have Q2 := Lib.hid q2
  have Q3 := Lib.hid q3
  have Q4 := Lib.hid q4
  clear one two owt r1 r2 r3 r4 q1 q2 q3 q4
  generalize g1 : bestOf (-1) [x] = v1 at *
  generalize g2 : bestOf 1 [x] = v2 at *
  generalize g3 : bestOf (-1) [x, y] = v3 at *
  generalize g4 : bestOf (-1) [y, x] = v4 at *
  generalize g5 : bestOf 1 [x, y] = v5 at *
  generalize g6 : bestOf 1 [y, x] = v6 at *
  have G1 := Lib.hid g1
  have G2 := Lib.hid g2
  have G3 := Lib.hid g3
  have G4 := Lib.hid g4
  have G5 := Lib.hid g5
  have G6 := Lib.hid g6
  clear g1 g2 g3 g4 g5 g6
  go_enter Try.func9, Try.ntmps9
  go_wp2_with fail
  refine (awake _).mono ?_
  rintro e w1 ⟨rfl, hu1⟩
  have hU1 := hu1
  go_wp2_with fail
  refine (least_any (some ⟨w1.heap.size, 0, none⟩) 1 [x] _ (floats_new (Blk.made w1 _ 24) One.out (by simp))).mono ?_
  rintro e w2 ⟨rfl, hw⟩
  have hU2 := hU1.trans (show Upd (fun _ => False) w1 w2 by rw [← hw]; exact (Upd.refl _ _).alloc _)
  clear hw
  rw [G1.out]
  go_wp2_with fail
  refine (same_any v1 x _ l1 hx).mono ?_
  rintro e w0 ⟨rfl, rfl⟩
  rw [Q1.out]
  go_wp2_with fail
  refine (most_any (some ⟨w2.heap.size, 0, none⟩) 1 [x] _ (floats_new (Blk.made w2 _ 24) One.out (by simp))).mono ?_
  rintro e w3 ⟨rfl, hw⟩
  have hU3 := hU2.trans (show Upd (fun _ => False) w2 w3 by rw [← hw]; exact (Upd.refl _ _).alloc _)
  clear hw
  rw [G2.out]
  go_wp2_with fail
  refine (same_any v2 x _ l2 hx).mono ?_
  rintro e w0 ⟨rfl, rfl⟩
  rw [Q2.out]
  go_wp2_with fail
  refine (least_any (some ⟨w3.heap.size, 0, none⟩) 2 [x, y] _ (floats_new (Blk.made w3 _ 24) Two.out (by simp))).mono ?_
  rintro e w4 ⟨rfl, hw⟩
  have hU4 := hU3.trans (show Upd (fun _ => False) w3 w4 by rw [← hw]; exact (Upd.refl _ _).alloc _)
  clear hw
  rw [G3.out]
  go_wp2_with fail
  refine (least_any (some ⟨w4.heap.size, 0, none⟩) 2 [y, x] _ (floats_new (Blk.made w4 _ 24) Owt.out (by simp))).mono ?_
  rintro e w5 ⟨rfl, hw⟩
  have hU5 := hU4.trans (show Upd (fun _ => False) w4 w5 by rw [← hw]; exact (Upd.refl _ _).alloc _)
  clear hw
  rw [G4.out]
  go_wp2_with fail
  refine (same_any v3 v4 _ l3 l4).mono ?_
  rintro e w0 ⟨rfl, rfl⟩
  rw [Q3.out]
  go_wp2_with fail
  refine (most_any (some ⟨w5.heap.size, 0, none⟩) 2 [x, y] _ (floats_new (Blk.made w5 _ 24) Two.out (by simp))).mono ?_
  rintro e w6 ⟨rfl, hw⟩
  have hU6 := hU5.trans (show Upd (fun _ => False) w5 w6 by rw [← hw]; exact (Upd.refl _ _).alloc _)
  clear hw
  rw [G5.out]
  go_wp2_with fail
  refine (most_any (some ⟨w6.heap.size, 0, none⟩) 2 [y, x] _ (floats_new (Blk.made w6 _ 24) Owt.out (by simp))).mono ?_
  rintro e w7 ⟨rfl, hw⟩
  have hU7 := hU6.trans (show Upd (fun _ => False) w6 w7 by rw [← hw]; exact (Upd.refl _ _).alloc _)
  clear hw
  rw [G6.out]
  go_wp2_with fail
  refine (same_any v5 v6 _ l5 l6).mono ?_
  rintro e w0 ⟨rfl, rfl⟩
  rw [Q4.out]
  have hbel := hU7.below (by simp)
  have hneg1 := fun w => run_neg x w hx
  have hneg2 := fun w => run_neg y w hy
  have fx := flip_lt hx
  have fy := flip_lt hy
  rcases flip_cls hx with ⟨cx, cfx⟩ | ⟨cx, cfx⟩
  · have Cx := Lib.hid cx
    have Cfx := Lib.hid cfx
    clear cx cfx
    generalize Gauge.flip x = nx at *
    go_wp2_with fail
    refine (class_any x _ hx).mono ?_
    rintro e w0 ⟨rfl, rfl⟩
    rw [Cx.out]
    go_wp2_with fail
    refine (class_any nx _ fx).mono ?_
    rintro e w0 ⟨rfl, rfl⟩
    rw [Cfx.out]
    go_wp2_with fail
    refine (class_any x _ hx).mono ?_
    rintro e w0 ⟨rfl, rfl⟩
    rw [Cx.out]
    go_wp2_with fail
    refine (class_any x _ hx).mono ?_
    rintro e w0 ⟨rfl, rfl⟩
    rw [Cx.out]
    go_wp2_with fail
    refine (class_any nx _ fx).mono ?_
    rintro e w0 ⟨rfl, rfl⟩
    rw [Cfx.out]
    go_wp2
    go_ret
    exact ⟨rfl, hbel⟩
  · by_cases cy : cls y = 0
    · have dx : (cls x == 0) = false := beq_eq_false_iff_ne.2 cx
      have bx := @cls_ge x
      have bfx := @cls_ge (Gauge.flip x)
      have d7 : (cls (Gauge.flip x) + cls x == 7) = true := beq_iff_eq.2 (by omega)
      have Cy := Lib.hid cy
      clear cx cfx cy
      generalize Gauge.flip x = nx at *
      go_wp2_with fail
      refine (class_any x _ hx).mono ?_
      rintro e w0 ⟨rfl, rfl⟩
      go_wp2_with fail
      refine (class_any y _ hy).mono ?_
      rintro e w0 ⟨rfl, rfl⟩
      rw [Cy.out]
      go_wp2_with fail
      refine (class_any nx _ fx).mono ?_
      rintro e w0 ⟨rfl, rfl⟩
      go_wp2_with fail
      refine (class_any x _ hx).mono ?_
      rintro e w0 ⟨rfl, rfl⟩
      go_wp2
      go_ret
      exact ⟨rfl, hbel⟩
    · have dx : (cls x == 0) = false := beq_eq_false_iff_ne.2 cx
      have dy : (cls y == 0) = false := beq_eq_false_iff_ne.2 cy
      have bx := @cls_ge x
      have bfx := @cls_ge (Gauge.flip x)
      have kx : kk x ≠ 0 := fun h => cx ((cls_eq_zero hx).2 h)
      have ky : kk y ≠ 0 := fun h => cy ((cls_eq_zero hy).2 h)
      have lx := kk_lt' hx
      have ly := kk_lt' hy
      have ho : sc (kk (Gauge.flip x)) (kk (Gauge.flip y)) = - sc (kk x) (kk y) := by
        rw [flip_kk hx kx, flip_kk hy ky, ← sc_turn]
        unfold sc
        rcases Nat.lt_trichotomy (kk x) (kk y) with h | h | h
        · rw [if_neg (by omega), if_pos (by omega), if_neg (by omega), if_pos h]
        · rw [if_neg (by omega), if_neg (by omega), if_neg (by omega), if_neg (by omega)]
        · rw [if_pos (by omega), if_pos h]
      obtain ⟨s, hs⟩ : ∃ s, s = sc (kk x) (kk y) := ⟨_, rfl⟩
      have hs3 : -1 ≤ s ∧ s ≤ 1 := by rw [hs]; unfold sc; split; omega; split <;> omega
      rw [← hs] at ho
      have Ho := Lib.hid ho
      have Hs := Lib.hid hs
      have c7 : (cls (Gauge.flip x) == 7 - cls x) = true := beq_iff_eq.2 cfx
      clear cx cy cfx ho hs kx ky lx ly
      generalize Gauge.flip x = nx at *
      generalize Gauge.flip y = ny at *
      go_wp2_with fail
      refine (class_any x _ hx).mono ?_
      rintro e w0 ⟨rfl, rfl⟩
      go_wp2_with fail
      refine (class_any y _ hy).mono ?_
      rintro e w0 ⟨rfl, rfl⟩
      go_wp2_with fail
      refine (order_any nx ny _ fx fy).mono ?_
      rintro e w0 ⟨rfl, rfl⟩
      rw [Ho.out]
      go_wp2_with fail
      refine (order_any x y _ hx hy).mono ?_
      rintro e w0 ⟨rfl, rfl⟩
      rw [← Hs.out]
      go_wp2_with fail
      refine (class_any nx _ fx).mono ?_
      rintro e w0 ⟨rfl, rfl⟩
      go_wp2_with fail
      refine (class_any x _ hx).mono ?_
      rintro e w0 ⟨rfl, rfl⟩
      go_wp2
      go_ret
      exact ⟨rfl, hbel⟩

theorem law (w : World) (a b : Int) (ha : (Lit.int .u64 a).wf = true) (hb : (Lit.int .u64 b).wf = true) :
    Calls Try.prog 9 #[.int .u64 a, .int .u64 b] w fun e w' => e = .returned (.bool true) ∧ Below w.heap.size w w' := by
  have h1 := bounds_u64 ha
  have h2 := bounds_u64 hb
  obtain ⟨x, rfl⟩ : ∃ m : Nat, a = (m : Int) := ⟨a.toNat, by omega⟩
  obtain ⟨y, rfl⟩ : ∃ m : Nat, b = (m : Int) := ⟨b.toNat, by omega⟩
  exact law_nat x y w (by omega) (by omega)
end Go.Proofs.Ytjlcjcgoaakniaa.GaugeTurns
