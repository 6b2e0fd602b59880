/- A share's sign, and whether it is 1, 0 or none, are told by its numbers': the walk of besomlaw02.GaugeSigns. -/
import Derived.Test.YtjlcjcgoaakniaaShare
import Derived.Test.YtjlcjcgoaakniaaRow
namespace Go.Proofs.Ytjlcjcgoaakniaa.GaugeSigns
open Go.RowKit Go.Proofs.Ytjlcjcgoaakniaa.Mem Go.Proofs.Ytjlcjcgoaakniaa.Dbl Go.Proofs.Ytjlcjcgoaakniaa.Gauge Go.Proofs.Ytjlcjcgoaakniaa.Row Go.Proofs.Ytjlcjcgoaakniaa.Rnd

theorem sg_eq_pos {s : Bool} {R n : Nat} (hn : 0 < n) : sg s R = (n : Int) ↔ (s = false ∧ R = n) := by
  unfold sg
  cases s
  · rw [if_neg (by simp)]; constructor
    · intro h; exact ⟨rfl, by omega⟩
    · intro h; rw [h.2]
  · rw [if_pos rfl]; constructor
    · intro h; omega
    · intro h; cases h.1
theorem sg_eq_neg {s : Bool} {R n : Nat} (hn : 0 < n) : sg s R = -(n : Int) ↔ (s = true ∧ R = n) := by
  unfold sg
  cases s
  · rw [if_neg (by simp)]; constructor
    · intro h; omega
    · intro h; cases h.1
  · rw [if_pos rfl]; constructor
    · intro h; exact ⟨rfl, by omega⟩
    · intro h; rw [h.2]
theorem compare_is {a b : Int} : compare a b = .eq ↔ a = b := by
  rw [compare_int]
  by_cases h1 : a < b
  · rw [if_pos h1]; constructor
    · intro h; cases h
    · intro h; omega
  · rw [if_neg h1]
    by_cases h2 : a = b
    · rw [if_pos h2]; exact ⟨fun _ => h2, fun _ => rfl⟩
    · rw [if_neg h2]; constructor
      · intro h; cases h
      · intro h; exact absurd h h2
/-- Whether a share's word is the one's, or its opposite. -/
theorem is_one {s : Bool} {R : Nat} (h : R < 9218868437227405312) : (FloatKind.f64.format.order (wd s R) 4607182418800017408 == some .eq) = decide (s = false ∧ R = 4607182418800017408) := by
  rw [f64_order, wd_mod (by omega), if_neg (by omega), wd_sv (by omega), sv_pos (by omega), Bool.eq_iff_iff, beq_iff_eq, decide_eq_true_iff, Option.some.injEq, compare_is]
  exact sg_eq_pos (by omega)
theorem is_minus {s : Bool} {R : Nat} (h : R < 9218868437227405312) : (FloatKind.f64.format.order (wd s R) 13830554455654793216 == some .eq) = decide (s = true ∧ R = 4607182418800017408) := by
  rw [f64_order, wd_mod (by omega), if_neg (by omega), wd_sv (by omega), sv_neg (by omega) (by omega), Bool.eq_iff_iff, beq_iff_eq, decide_eq_true_iff, Option.some.injEq, compare_is]
  exact sg_eq_neg (by omega)

set_option linter.unusedSimpArgs false in
theorem law (w : World) (a b : Int) (ha : (Lit.int .i32 a).wf = true) (hb : (Lit.int .i32 b).wf = true) :
    Calls Try.prog 4 #[.int .i32 a, .int .i32 b] w fun e w' => e = .returned (.bool true) ∧ Below w.heap.size w w' := by
  have h1 := bounds_i32 ha
  have h2 := bounds_i32 hb
  by_cases ha0 : a = 0
  · by_cases hb0 : b = 0
    · subst ha0 hb0
      go_enter Try.func4, Try.ntmps4
      go_wp2_with fail
      refine (awake _).mono ?_
      rintro e w1 ⟨rfl, hu⟩
      go_wp2_with fail
      refine (share_any 0 0 _).mono ?_
      rintro e w2 ⟨v, rfl, hv, hu2⟩
      have lv := share_lt (by omega) (by omega) hv
      have hc := (share_none hv).cls
      have Hc := Lib.hid hc
      clear hv hc
      go_wp2_with fail
      refine (class_any v _ lv).mono ?_
      rintro e w3 ⟨rfl, rfl⟩
      rw [Hc.out]
      go_wp2
      go_ret
      exact ⟨rfl, (hu.trans hu2).below (fun _ _ h => h)⟩
    · subst ha0
      have d0 : (b == 0) = false := beq_eq_false_iff_ne.2 hb0
      obtain ⟨c, hc⟩ : ∃ c, c = (decide (b < 0)) := ⟨_, rfl⟩
      have d1 : decide (b < 0) = c := hc.symm
      have d2 : decide (0 < b) = !c := by rw [hc, ← decide_not, decide_eq_decide]; omega
      have Hc0 := Lib.hid hc
      clear hc
      go_enter Try.func4, Try.ntmps4
      go_wp2_with fail
      refine (awake _).mono ?_
      rintro e w1 ⟨rfl, hu⟩
      go_wp2_with fail
      refine (share_any 0 b _).mono ?_
      rintro e w2 ⟨v, rfl, hv, hu2⟩
      have lv := share_lt (by omega) (by omega) hv
      have hc : cls v = if c then 3 else 4 := by
        rcases share_cases (by omega) (by omega) hv with ⟨_, h, _⟩ | ⟨h, _⟩ | ⟨_, _, rfl⟩ | ⟨h, _⟩
        · exact absurd h hb0
        · exact absurd rfl h
        · rw [← Hc0.out]; cases c <;> decide +kernel
        · exact absurd rfl h
      have Hc := Lib.hid hc
      clear hv hc
      go_wp2_with fail
      refine (class_any v _ lv).mono ?_
      rintro e w3 ⟨rfl, rfl⟩
      rw [Hc.out]
      clear Hc0
      cases c
      · simp only [Bool.false_eq_true, if_false]
        go_wp2
        go_ret
        exact ⟨rfl, (hu.trans hu2).below (fun _ _ h => h)⟩
      · simp only [if_true]
        go_wp2
        go_ret
        exact ⟨rfl, (hu.trans hu2).below (fun _ _ h => h)⟩
  · have e0 : (a == 0) = false := beq_eq_false_iff_ne.2 ha0
    by_cases hb0 : b = 0
    · subst hb0
      obtain ⟨c, hc⟩ : ∃ c, c = (decide (a < 0)) := ⟨_, rfl⟩
      have d1 : decide (a < 0) = c := hc.symm
      have d2 : decide (0 < a) = !c := by rw [hc, ← decide_not, decide_eq_decide]; omega
      have Hc0 := Lib.hid hc
      clear hc
      go_enter Try.func4, Try.ntmps4
      go_wp2_with fail
      refine (awake _).mono ?_
      rintro e w1 ⟨rfl, hu⟩
      go_wp2_with fail
      refine (share_any a 0 _).mono ?_
      rintro e w2 ⟨v, rfl, hv, hu2⟩
      have lv := share_lt (by omega) (by omega) hv
      have hc : cls v = if c then 1 else 6 := by
        rcases share_cases (by omega) (by omega) hv with ⟨h, _, _⟩ | ⟨_, _, rfl⟩ | ⟨_, h, _⟩ | ⟨_, h, _⟩
        · exact absurd h ha0
        · rw [← Hc0.out]; cases c <;> decide +kernel
        · exact absurd rfl h
        · exact absurd rfl h
      have Hc := Lib.hid hc
      clear hv hc
      go_wp2_with fail
      refine (class_any v _ lv).mono ?_
      rintro e w3 ⟨rfl, rfl⟩
      rw [Hc.out]
      clear Hc0
      cases c
      · simp only [Bool.false_eq_true, if_false]
        go_wp2
        go_ret
        exact ⟨rfl, (hu.trans hu2).below (fun _ _ h => h)⟩
      · simp only [if_true]
        go_wp2
        go_ret
        exact ⟨rfl, (hu.trans hu2).below (fun _ _ h => h)⟩
    · have d0 : (b == 0) = false := beq_eq_false_iff_ne.2 hb0
      obtain ⟨c, hc⟩ : ∃ c, c = (decide (a < 0)) := ⟨_, rfl⟩
      obtain ⟨d, hd⟩ : ∃ d, d = (decide (b < 0)) := ⟨_, rfl⟩
      have d2 : decide (0 < a) = !c := by rw [hc, ← decide_not, decide_eq_decide]; omega
      have d3 : decide (0 < b) = !d := by rw [hd, ← decide_not, decide_eq_decide]; omega
      obtain ⟨p, hp⟩ : ∃ p, p = (a == b) := ⟨_, rfl⟩
      obtain ⟨q, hq⟩ : ∃ q, q = (a == -b) := ⟨_, rfl⟩
      have p1 : (a == b) = p := hp.symm
      have q1 : (a == -b) = q := hq.symm
      have Hc0 := Lib.hid hc
      have Hd0 := Lib.hid hd
      have Hp := Lib.hid hp
      have Hq := Lib.hid hq
      clear hc hd hp hq
      go_enter Try.func4, Try.ntmps4
      go_wp2_with fail
      refine (awake _).mono ?_
      rintro e w1 ⟨rfl, hu⟩
      go_wp2_with fail
      refine (share_any a b _).mono ?_
      rintro e w2 ⟨v, rfl, hv, hu2⟩
      have lv := share_lt (by omega) (by omega) hv
      have hc : cls v = (if c ^^ d then 2 else 5) ∧ (FloatKind.f64.format.order v 4607182418800017408 == some .eq) = p ∧ (FloatKind.f64.format.order v 13830554455654793216 == some .eq) = q := by
        rcases share_cases (by omega) (by omega) hv with ⟨h, _, _⟩ | ⟨_, h, _⟩ | ⟨h, _, _⟩ | ⟨_, _, R, rfl, hR, h0, h1⟩
        · exact absurd h ha0
        · exact absurd h hb0
        · exact absurd h ha0
        · have hq1 := quo_is_one hR (by omega) (by omega) (by omega) (by omega)
          refine ⟨by rw [wd_cls h0 h1, Hc0.out, Hd0.out], ?_, ?_⟩
          · rw [is_one h1, Hp.out, Bool.eq_iff_iff, decide_eq_true_iff, beq_iff_eq, hq1]
            by_cases x : a < 0 <;> by_cases y : b < 0 <;> simp [x, y] <;> omega
          · rw [is_minus h1, Hq.out, Bool.eq_iff_iff, decide_eq_true_iff, beq_iff_eq, hq1]
            by_cases x : a < 0 <;> by_cases y : b < 0 <;> simp [x, y] <;> omega
      obtain ⟨hc, f1, f2⟩ := hc
      have Hc := Lib.hid hc
      clear hv hc
      go_wp2_with fail
      refine (class_any v _ lv).mono ?_
      rintro e w3 ⟨rfl, rfl⟩
      rw [Hc.out]
      clear Hc0 Hd0 Hp Hq
      cases c <;> cases d
      all_goals
        simp only [Bool.false_eq_true, if_false, if_true, Bool.true_bne, Bool.false_bne, Bool.bne_false, Bool.bne_true, Bool.not_true, Bool.not_false, Bool.xor_true, Bool.xor_false]
        go_wp2
        go_ret
        exact ⟨rfl, (hu.trans hu2).below (fun _ _ h => h)⟩
end Go.Proofs.Ytjlcjcgoaakniaa.GaugeSigns
