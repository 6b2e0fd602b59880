/- Shares of numbers that are not great are ordered as fractions are; by 0 they are infinities, or none: the walk of besomlaw02.GaugeShares. -/
import Derived.Test.YtjlcjcgoaakniaaShare
import Derived.Test.YtjlcjcgoaakniaaRow
namespace Go.Proofs.Ytjlcjcgoaakniaa.GaugeShares
open Go.RowKit Go.Proofs.Ytjlcjcgoaakniaa.Mem Go.Proofs.Ytjlcjcgoaakniaa.Dbl Go.Proofs.Ytjlcjcgoaakniaa.Gauge Go.Proofs.Ytjlcjcgoaakniaa.Row Go.Proofs.Ytjlcjcgoaakniaa.Rnd

theorem infoArr : (Try.prog.info? 22).map (fun i => (i.size, i.bytes)) = some (4, 16) := by kernel_rfl


theorem rem_ok (p : Int) : ∃ x, p.tmod 1048576 = x ∧ -1048576 < x ∧ x < 1048576 := by
  refine ⟨_, rfl, ?_⟩
  rcases Int.le_total 0 p with h | h
  · have h1 := Int.tmod_nonneg 1048576 h
    have h2 := Int.tmod_lt_of_pos p (show (0 : Int) < 1048576 by omega)
    omega
  · have h1 : p.tmod 1048576 = -((-p).tmod 1048576) := by rw [Int.neg_tmod, Int.neg_neg]
    have h2 := Int.tmod_nonneg 1048576 (show 0 ≤ -p by omega)
    have h3 := Int.tmod_lt_of_pos (-p) (show (0 : Int) < 1048576 by omega)
    omega

theorem share_form {a b : Int} {v : Nat} (ha : a.natAbs < 9007199254740992) (hb : b.natAbs < 9007199254740992) (hb0 : b ≠ 0) (h : ShareOf a b v) :
    ∃ R, v = wd (decide (a < 0) ^^ decide (b < 0)) R ∧ R < 9218868437227405312 ∧ ((a = 0 ∧ R = 0) ∨ (a ≠ 0 ∧ 0 < R ∧ Quo a.natAbs b.natAbs R)) := by
  rcases share_cases ha hb h with ⟨_, h, _⟩ | ⟨_, h, _⟩ | ⟨rfl, _, rfl⟩ | ⟨hne, _, R, rfl, hR, h0, h1⟩
  · exact absurd h hb0
  · exact absurd h hb0
  · exact ⟨0, by simp, by omega, .inl ⟨rfl, rfl⟩⟩
  · exact ⟨R, rfl, h1, .inr ⟨hne, h0, hR⟩⟩

theorem sg_of (x : Int) : sg (decide (x < 0)) x.natAbs = x := by
  unfold sg
  by_cases h : x < 0
  · rw [decide_eq_true h, if_pos rfl]; omega
  · rw [decide_eq_false h, if_neg (by simp)]; omega
theorem sg_mul (s t : Bool) (a b : Nat) : sg s a * sg t b = sg (s ^^ t) (a * b) := by
  unfold sg
  cases s <;> cases t <;> simp [Int.neg_mul, Int.mul_neg]
theorem sg_neg (s : Bool) (a : Nat) : -sg s a = sg (!s) a := by
  unfold sg
  cases s <;> simp

theorem prod_sg (x d : Int) (c : Bool) : (if c then -(x * d) else x * d) = sg ((decide (x < 0) ^^ decide (d < 0)) ^^ c) (x.natAbs * d.natAbs) := by
  have e : x * d = sg (decide (x < 0) ^^ decide (d < 0)) (x.natAbs * d.natAbs) := by rw [← sg_mul, sg_of, sg_of]
  rw [e]
  cases c
  · simp
  · simp [sg_neg]

/-- Two shares' order is that of the products. -/
theorem share_order {x y z d : Int} {s t : Nat} (x1 : -1048576 < x) (x2 : x < 1048576) (y1 : -1048576 < y) (y2 : y < 1048576) (z1 : -1048576 < z) (z2 : z < 1048576) (d1 : -1048576 < d) (d2 : d < 1048576)
    (hy : y ≠ 0) (hd : d ≠ 0) (hs : ShareOf x y s) (ht : ShareOf z d t) :
    (FloatKind.f64.format.order s t = some (compare (if (decide (y < 0) ^^ decide (d < 0)) then -(x * d) else x * d) (if (decide (y < 0) ^^ decide (d < 0)) then -(z * y) else z * y))) ∧
    (FloatKind.f64.format.order s 0 == some .eq) = (x == 0) := by
  obtain ⟨R, rfl, hR, hx⟩ := share_form (by omega) (by omega) hy hs
  obtain ⟨T, rfl, hT, hz⟩ := share_form (by omega) (by omega) hd ht
  constructor
  · rw [f64_order, wd_mod (by omega), wd_mod (by omega), if_neg (by omega), wd_sv (by omega), wd_sv (by omega), prod_sg, prod_sg]
    have e1 : ((decide (x < 0) ^^ decide (d < 0)) ^^ (decide (y < 0) ^^ decide (d < 0))) = (decide (x < 0) ^^ decide (y < 0)) := by
      cases decide (x < 0) <;> cases decide (d < 0) <;> cases decide (y < 0) <;> rfl
    have e2 : ((decide (z < 0) ^^ decide (y < 0)) ^^ (decide (y < 0) ^^ decide (d < 0))) = (decide (z < 0) ^^ decide (d < 0)) := by
      cases decide (z < 0) <;> cases decide (d < 0) <;> cases decide (y < 0) <;> rfl
    rw [e1, e2]
    have hy' : 0 < y.natAbs := by omega
    have hd' : 0 < d.natAbs := by omega
    have b1 : x.natAbs ≤ 1048576 := by omega
    have b2 : y.natAbs ≤ 1048576 := by omega
    have b3 : z.natAbs ≤ 1048576 := by omega
    have b4 : d.natAbs ≤ 1048576 := by omega
    have hx' : (x.natAbs = 0 ∧ R = 0) ∨ (0 < x.natAbs ∧ 0 < R ∧ Quo x.natAbs y.natAbs R) := by
      rcases hx with h | h
      · exact .inl ⟨by omega, h.2⟩
      · exact .inr ⟨by omega, h.2⟩
    have hz' : (z.natAbs = 0 ∧ T = 0) ∨ (0 < z.natAbs ∧ 0 < T ∧ Quo z.natAbs d.natAbs T) := by
      rcases hz with h | h
      · exact .inl ⟨by omega, h.2⟩
      · exact .inr ⟨by omega, h.2⟩
    clear e1 e2 hx hz hs ht
    generalize x.natAbs = X at *
    generalize y.natAbs = Y at *
    generalize z.natAbs = Z at *
    generalize d.natAbs = D at *
    have m1 : ∀ {a b : Nat}, a ≤ 1048576 → b ≤ 1048576 → a * b < 1125899906842624 := fun ha hb => Nat.lt_of_le_of_lt (Nat.mul_le_mul ha hb) (by omega)
    have zX : R = 0 ↔ X * D = 0 := by
      rw [Nat.mul_eq_zero]; rcases hx' with h | h <;> omega
    have zZ : T = 0 ↔ Z * Y = 0 := by
      rw [Nat.mul_eq_zero]; rcases hz' with h | h <;> omega
    have tri : (X * D < Z * Y → R < T) ∧ (X * D = Z * Y → R = T) ∧ (Z * Y < X * D → T < R) := by
      rcases hx' with ⟨h1, h2⟩ | ⟨h1, h2, h3⟩
      · rcases hz' with ⟨g1, g2⟩ | ⟨g1, g2, g3⟩
        · rw [h1, g1, Nat.zero_mul, Nat.zero_mul]; omega
        · have := Nat.mul_pos g1 hy'
          rw [h1, Nat.zero_mul]; omega
      · rcases hz' with ⟨g1, g2⟩ | ⟨g1, g2, g3⟩
        · have := Nat.mul_pos h1 hd'
          rw [g1, Nat.zero_mul]; omega
        · exact ⟨fun h => quo_strict h3 g3 hy' hd' h (m1 b2 b3), fun h => quo_unique h3 g3 hy' hd' h, fun h => quo_strict g3 h3 hd' hy' h (m1 b4 b1)⟩
    congr 1
    generalize X * D = p at *
    generalize Z * Y = q at *
    exact compare_sg (by omega) (by omega) zX zZ
  · rw [f64_order, wd_mod (by omega), if_neg (by omega), wd_sv (by omega), sv_pos (by omega), Bool.eq_iff_iff, beq_iff_eq, beq_iff_eq, Option.some.injEq]
    have : compare (sg (decide (x < 0) ^^ decide (y < 0)) R) ((0 : Nat) : Int) = .eq ↔ R = 0 := by
      rw [compare_int]
      unfold sg
      by_cases h0 : R = 0
      · subst h0; simp
      · refine ⟨fun h => ?_, fun h => absurd h h0⟩
        exfalso
        revert h
        cases (decide (x < 0) ^^ decide (y < 0))
        · simp only [Bool.false_eq_true, if_false]
          by_cases h1 : (R : Int) < ((0 : Nat) : Int)
          · omega
          · rw [if_neg h1, if_neg (by omega)]; intro h; cases h
        · simp only [if_true]
          rw [if_pos (by omega)]; intro h; cases h
    rw [this]
    rcases hx with h | h <;> omega

theorem cmp_lt (L M : Int) : (some (compare L M) == some Ordering.lt) = decide (L < M) := by
  rw [compare_int]
  by_cases h1 : L < M
  · rw [if_pos h1, decide_eq_true h1]; rfl
  · rw [if_neg h1, decide_eq_false h1]
    split <;> rfl
theorem cmp_eq (L M : Int) : (some (compare L M) == some Ordering.eq) = (L == M) := by
  rw [compare_int]
  by_cases h1 : L < M
  · have h2 : L ≠ M := by omega
    rw [if_pos h1, beq_eq_false_iff_ne.2 h2]; rfl
  · rw [if_neg h1]
    by_cases h2 : L = M
    · rw [if_pos h2, beq_iff_eq.2 h2]; rfl
    · rw [if_neg h2, beq_eq_false_iff_ne.2 h2]; rfl

set_option maxHeartbeats 8000000 in
theorem law4 (w : World) (p q r s : Int) (hp : -2147483648 ≤ p ∧ p ≤ 2147483647) (hq : -2147483648 ≤ q ∧ q ≤ 2147483647) (hr : -2147483648 ≤ r ∧ r ≤ 2147483647) (hs : -2147483648 ≤ s ∧ s ≤ 2147483647) :
    Calls Try.prog 3 #[.agg #[.int .i32 p, .int .i32 q, .int .i32 r, .int .i32 s]] w fun e w' => e = .returned (.bool true) ∧ Below w.heap.size w w' := by
  obtain ⟨x, hx, x1, x2⟩ := rem_ok p
  obtain ⟨y, hy, y1, y2⟩ := rem_ok q
  obtain ⟨z, hz, z1, z2⟩ := rem_ok r
  obtain ⟨v, hv, v1, v2⟩ := rem_ok s
  go_enter Try.func3, Try.ntmps3
  go_wp2_with fail
  refine (awake _).mono ?_
  rintro e w1 ⟨rfl, hu⟩
  have hB := (Blk.made w [.int .i32 p, .int .i32 q, .int .i32 r, .int .i32 s] 22).upd hu (fun h => h)
  have c0 := hB.cell 0 rfl
  have c1 := hB.cell 1 rfl
  have c2 := hB.cell 2 rfl
  have c3 := hB.cell 3 rfl
  go_wp2_with fail
  go_quiet (fail)
  clear c0 c1 c2 c3
  go_wp2_with fail
  have hB' := hB
  clear hB hx hy hz hv
  by_cases hy0 : y = 0
  · subst hy0
    by_cases hx0 : x = 0
    · subst hx0
      refine (share_any 0 0 _).mono ?_
      rintro e w2 ⟨a, rfl, ha, hu2⟩
      have la := share_lt (by omega) (by omega) ha
      have hc := (share_none ha).cls
      have Hc := Lib.hid hc
      clear ha hc
      go_wp2_with fail
      refine (share_any z v _).mono ?_
      rintro e w3 ⟨b, rfl, hb, hu3⟩
      go_wp2_with fail
      refine (class_any a _ la).mono ?_
      rintro e w4 ⟨rfl, rfl⟩
      rw [Hc.out]
      go_wp2
      go_ret
      exact ⟨rfl, ((((Upd.refl (fun _ => False) w).alloc _).trans hu).drewN _ |>.trans hu2 |>.trans hu3).below (fun _ _ h => h)⟩
    · have f0 : (x == 0) = false := beq_eq_false_iff_ne.2 hx0
      obtain ⟨c, hc⟩ : ∃ c, c = (decide (x < 0)) := ⟨_, rfl⟩
      have f1 : decide (x < 0) = c := hc.symm
      have f2 : decide (0 < x) = !c := by rw [hc, ← decide_not, decide_eq_decide]; omega
      have Hc0 := Lib.hid hc
      clear hc
      refine (share_any x 0 _).mono ?_
      rintro e w2 ⟨a, rfl, ha, hu2⟩
      have la := share_lt (by omega) (by omega) ha
      have hc : cls a = if c then 1 else 6 := by
        rcases share_cases (by omega) (by omega) ha with ⟨h, _, _⟩ | ⟨_, _, rfl⟩ | ⟨_, h, _⟩ | ⟨_, h, _⟩
        · exact absurd h hx0
        · rw [← Hc0.out]; cases c <;> decide +kernel
        · exact absurd rfl h
        · exact absurd rfl h
      have Hc := Lib.hid hc
      clear ha hc Hc0
      go_wp2_with fail
      refine (share_any z v _).mono ?_
      rintro e w3 ⟨b, rfl, hb, hu3⟩
      clear hb
      cases c
      · simp only [Bool.not_false] at f2
        go_wp2_with fail
        refine (class_any a _ la).mono ?_
        rintro e w4 ⟨rfl, rfl⟩
        rw [Hc.out, if_neg (by simp)]
        go_wp2
        go_ret
        exact ⟨rfl, ((((Upd.refl (fun _ => False) w).alloc _).trans hu).drewN _ |>.trans hu2 |>.trans hu3).below (fun _ _ h => h)⟩
      · simp only [Bool.not_true] at f2
        go_wp2_with fail
        refine (class_any a _ la).mono ?_
        rintro e w4 ⟨rfl, rfl⟩
        rw [Hc.out, if_pos trivial]
        go_wp2
        go_ret
        exact ⟨rfl, ((((Upd.refl (fun _ => False) w).alloc _).trans hu).drewN _ |>.trans hu2 |>.trans hu3).below (fun _ _ h => h)⟩
  · have g0 : (y == 0) = false := beq_eq_false_iff_ne.2 hy0
    by_cases hv0 : v = 0
    · subst hv0
      refine (share_any x y _).mono ?_
      rintro e w2 ⟨a, rfl, ha, hu2⟩
      clear ha
      go_wp2_with fail
      refine (share_any z 0 _).mono ?_
      rintro e w3 ⟨b, rfl, hb, hu3⟩
      clear hb
      go_wp2
      go_ret
      exact ⟨rfl, ((((Upd.refl (fun _ => False) w).alloc _).trans hu).drewN _ |>.trans hu2 |>.trans hu3).below (fun _ _ h => h)⟩
    · have g1 : (v == 0) = false := beq_eq_false_iff_ne.2 hv0
      have mb : ∀ x y : Int, -1048576 < x → x < 1048576 → -1048576 < y → y < 1048576 → -1099511627776 ≤ x * y ∧ x * y ≤ 1099511627776 := fun x y x1 x2 y1 y2 => by
        have e : (x * y).natAbs = x.natAbs * y.natAbs := Int.natAbs_mul x y
        have : x.natAbs * y.natAbs ≤ 1048576 * 1048576 := Nat.mul_le_mul (by omega) (by omega)
        omega
      obtain ⟨L, hL⟩ : ∃ L, x * v = L := ⟨_, rfl⟩
      obtain ⟨M, hM⟩ : ∃ M, z * y = M := ⟨_, rfl⟩
      have mL := mb x v x1 x2 v1 v2
      have mM := mb z y z1 z2 y1 y2
      rw [hL] at mL
      rw [hM] at mM
      clear mb
      refine (share_any x y _).mono ?_
      rintro e w2 ⟨a, rfl, ha, hu2⟩
      have ha' := Lib.hid ha
      clear ha
      go_wp2_with fail
      refine (share_any z v _).mono ?_
      rintro e w3 ⟨b, rfl, hb, hu3⟩
      obtain ⟨o1, o2⟩ := share_order x1 x2 y1 y2 z1 z2 v1 v2 hy0 hv0 ha'.out hb
      rw [hL, hM] at o1
      clear hb ha'
      obtain ⟨c, hc⟩ : ∃ c, c = (decide (y < 0)) := ⟨_, rfl⟩
      obtain ⟨d, hd⟩ : ∃ d, d = (decide (v < 0)) := ⟨_, rfl⟩
      rw [← hc, ← hd] at o1
      have hc' := hc.symm
      have hd' := hd.symm
      clear hc hd
      obtain ⟨n, hn⟩ : ∃ n, (x == 0) = n := ⟨_, rfl⟩
      rw [hn] at o2
      have bothL : ∃ L' M', (if (c ^^ d) then -L else L) = L' ∧ (if (c ^^ d) then -M else M) = M' := ⟨_, _, rfl, rfl⟩
      obtain ⟨L', M', hL', hM'⟩ := bothL
      rw [hL', hM'] at o1
      have o3 : (FloatKind.f64.format.order a b == some .lt) = decide (L' < M') := by rw [o1]; exact cmp_lt _ _
      have o4 : (FloatKind.f64.format.order a b == some .eq) = (L' == M') := by rw [o1]; exact cmp_eq _ _
      clear o1
      obtain ⟨m, hm⟩ : ∃ m, decide (L' < M') = m := ⟨_, rfl⟩
      obtain ⟨k, hk⟩ : ∃ k, (L' == M') = k := ⟨_, rfl⟩
      rw [hm] at o3
      rw [hk] at o4
      cases c <;> cases d <;> simp only [Bool.xor_true, Bool.xor_false, Bool.not_true, Bool.not_false, if_true, if_false, Bool.false_eq_true] at hL' hM'
      · subst hL' hM'
        go_wp2
        go_ret
        exact ⟨rfl, ((((Upd.refl (fun _ => False) w).alloc _).trans hu).drewN _ |>.trans hu2 |>.trans hu3).below (fun _ _ h => h)⟩
      · have bL : -1099511627776 ≤ L' ∧ L' ≤ 1099511627776 := by omega
        have bM : -1099511627776 ≤ M' ∧ M' ≤ 1099511627776 := by omega
        go_wp2
        go_ret
        exact ⟨rfl, ((((Upd.refl (fun _ => False) w).alloc _).trans hu).drewN _ |>.trans hu2 |>.trans hu3).below (fun _ _ h => h)⟩
      · have bL : -1099511627776 ≤ L' ∧ L' ≤ 1099511627776 := by omega
        have bM : -1099511627776 ≤ M' ∧ M' ≤ 1099511627776 := by omega
        go_wp2
        go_ret
        exact ⟨rfl, ((((Upd.refl (fun _ => False) w).alloc _).trans hu).drewN _ |>.trans hu2 |>.trans hu3).below (fun _ _ h => h)⟩
      · subst hL' hM'
        go_wp2
        go_ret
        exact ⟨rfl, ((((Upd.refl (fun _ => False) w).alloc _).trans hu).drewN _ |>.trans hu2 |>.trans hu3).below (fun _ _ h => h)⟩

theorem law (w : World) (zs : List Int) (hl : zs.length = 4) (hz : ∀ x ∈ zs, (Lit.int .i32 x).wf = true) :
    Calls Try.prog 3 #[.agg (zs.map (Value.int .i32)).toArray] w fun e w' => e = .returned (.bool true) ∧ Below w.heap.size w w' := by
  match zs, hl with
  | [p, q, r, s], _ => exact law4 w p q r s (bounds_i32 (hz p (by simp))) (bounds_i32 (hz q (by simp))) (bounds_i32 (hz r (by simp))) (bounds_i32 (hz s (by simp)))
end Go.Proofs.Ytjlcjcgoaakniaa.GaugeShares
