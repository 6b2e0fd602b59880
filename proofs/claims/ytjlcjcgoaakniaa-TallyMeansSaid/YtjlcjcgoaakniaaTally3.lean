/- Tallies: the kind with the most words. -/
import Derived.Test.YtjlcjcgoaakniaaTally2
import Derived.Test.YtjlcjcgoaakniaaGaugeEnds
import Derived.Test.YtjlcjcgoaakniaaShare
namespace Go.Proofs.Ytjlcjcgoaakniaa.Tally
open Go.RowKit Go.Proofs.Ytjlcjcgoaakniaa.Mem Go.Proofs.Ytjlcjcgoaakniaa.Gauge Go.Proofs.Ytjlcjcgoaakniaa.GaugeEnds

def mo (A : Nat → Int) : Nat → Nat
  | 0 => 0
  | k + 1 => if A (mo A k * 2 + 1) < A (2 * k + 1) then k else mo A k
theorem mo_lt (A : Nat → Int) : ∀ k, k ≤ 16 → mo A k < 16
  | 0, _ => by unfold mo; omega
  | k + 1, h => by
    unfold mo
    have := mo_lt A k (by omega)
    split <;> omega

def Mosting (A : Nat → Int) (w : World) (o i : Value) (wr : World) : Prop :=
  ∃ k : Nat, k ≤ 16 ∧ i = .int .i64 (k : Int) ∧ o = .int .i64 (mo A k : Nat) ∧ Blk wr w.heap.size (cf 33 A) 56 ∧ Upd (fun _ => False) w wr

set_option maxRecDepth 20000 in
theorem most_any (A : Nat → Int) (w : World) :
    Calls Try.prog 35 #[ag 33 A] w fun e w' => e = .returned (.int .i64 (mo A 16 : Nat)) ∧ Upd (fun _ => False) w w' := by
  have hidx : ∀ (w : World) (k : Nat), k < 16 → (Instr.index 54 (ag 32 A) (.int .i64 (k : Int))).run Try.prog w = .ok (two (A (2 * k)) (A (2 * k + 1))) w := fun w k hk =>
    run_part _ w _ 53 16 32 A k _ Try.underlying54 Try.underlying53 rfl (by kernel_rfl) hk rfl
  go_enter Try.func35, Try.ntmps35
  go_wp2_with (refine wpList_load_mid rfl 54 _ rfl w.heap.size 0 rfl (cf 32 A) _ ?rng Try.underlying54 rfl (by kernel_rfl) ?_)
  case rng =>
    exact Blk.range (n := 33) (Blk.made w (cf 33 A) 56) 0 32 (by omega)
  go_loopw [3, 8] (fun o i wr => Mosting A w o i wr) (fun _ i _ => 16 - (intOf i).toNat)
  case atStart =>
    exact ⟨0, by omega, rfl, rfl, Blk.made w (cf 33 A) 56, (Upd.refl _ w).alloc _⟩
  case round =>
    obtain ⟨k, hk, rfl, rfl, hA, hU⟩ := hrel
    by_cases hlk : k < 16
    · have d1 : decide ((k : Int) < 16) = true := decide_eq_true (by omega)
      have d2 : decide (k < 16) = true := decide_eq_true hlk
      have hix := hidx wr k hlk
      obtain ⟨m, hm⟩ : ∃ m, m = mo A k := ⟨_, rfl⟩
      have hml := mo_lt A k (by omega)
      have hstep : mo A (k + 1) = if A (m * 2 + 1) < A (2 * k + 1) then k else m := by rw [hm]; rfl
      rw [← hm] at hml ⊢
      have i1 : (0 : Int) ≤ (m : Int) := by omega
      have i2 : (m : Int) < 16 := by omega
      have a1 := (hA.alloc (.cells #[.int .i64 (A (2 * k)), .int .i64 (A (2 * k + 1))] 53)).cell (m * 2 + 1) (cf_get (by omega))
      have n1 := (Blk.made wr [.int .i64 (A (2 * k)), .int .i64 (A (2 * k + 1))] 53).cell 1 rfl
      have Hstep := Lib.hid hstep
      clear hidx hstep hm
      by_cases hgt : A (m * 2 + 1) < A (2 * k + 1)
      · have dg : decide (A (m * 2 + 1) < A (2 * k + 1)) = true := decide_eq_true hgt
        go_wp2_with fail
        go_quiet (fail)
        go_wp2
        go_roundw
        case rel => exact ⟨k + 1, by omega, by go_num, by rw [Hstep.out, if_pos hgt], (hA.alloc _).drewN _, (hU.alloc _).drewN _⟩
        case measure => simp [intOf]; omega
      · have dg : decide (A (m * 2 + 1) < A (2 * k + 1)) = false := decide_eq_false hgt
        go_wp2_with fail
        go_quiet (fail)
        go_wp2
        go_roundw
        case rel => exact ⟨k + 1, by omega, by go_num, by rw [Hstep.out, if_neg (by omega)], (hA.alloc _).drewN _, (hU.alloc _).drewN _⟩
        case measure => simp [intOf]; omega
    · have hke : k = 16 := by omega
      subst hke
      clear hidx
      go_wp2
      go_ret
      exact ⟨rfl, hU⟩

/-- Means of the first kinds. -/
def Means (A : Nat → Int) (zs : List Nat) : Prop := ∀ i z, zs[i]? = some z → ShareOf (A (i * 2 + 1)) (A (i * 2)) z ∧ z < 18446744073709551616

theorem rW_nat (A : Nat → Int) (k : Nat) (h : k < 16) : rW A (k : Int) = A (k * 2 + 1) := by unfold rW; rw [if_pos (by omega), Int.toNat_natCast]
theorem rO_nat (A : Nat → Int) (k : Nat) (h : k < 16) : rO A (k : Int) = A (k * 2) := by unfold rO; rw [if_pos (by omega), Int.toNat_natCast]

def Spreading (A : Nat → Int) (w : World) (l i : Value) (wr : World) : Prop :=
  ∃ (k : Nat) (zs : List Nat), k ≤ 16 ∧ zs.length = k ∧ i = .int .i64 (k : Int) ∧ Means A zs ∧ wr.ownsRow (w.heap.size + 1) 24 1 l k (fcells zs) ∧ Blk wr w.heap.size (cf 33 A) 56 ∧ Upd (fun _ => False) w wr

set_option maxHeartbeats 1600000 in
set_option maxRecDepth 20000 in
attribute [-simp] Try.sizeOf56 in
theorem spread_any (A : Nat → Int) (hs : ∀ i, i < 32 → (A i).natAbs < 9007199254740992) (w : World) :
    Calls Try.prog 34 #[ag 33 A] w fun e w' => ∃ zs : List Nat, zs.length = 16 ∧ Means A zs ∧ e = .returned (.tuple #[.float .f64 (bestOf (-1) zs), .float .f64 (bestOf 1 zs)]) ∧ Upd (fun _ => False) w w' := by
  obtain ⟨i0, hi, hz0, hz1, hz2⟩ := info_parts infoFloat
  obtain ⟨n, hn⟩ : ∃ n, n = 33 := ⟨_, rfl⟩
  have hsz : ∀ W : World, (sizeOf 56).run Try.prog W = .ok n W := fun W => by rw [hn]; exact Try.sizeOf56 W
  have hld : ∀ W : World, W.rangeAt w.heap.size 0 (cf 33 A) → (loadCellsFrom ⟨w.heap.size, 0, none⟩ 0 n #[]).run Try.prog W = .ok (cf 33 A).toArray W := fun W h => by
    rw [hn]; exact run_cells33 _ W _ A h
  clear hn
  go_enter Try.func34, Try.ntmps34
  go_wp2
  go_loopw [4, 6] (fun l i wr => Spreading A w l i wr) (fun _ i _ => 16 - (intOf i).toNat)
  case atStart =>
    exact ⟨0, [], by omega, rfl, rfl, fun i z h => by simp at h, World.ownsRow_nil _ _ _ _, Blk.made w (cf 33 A) 56, (Upd.refl _ w).alloc _⟩
  case round =>
    obtain ⟨k, zs, hk, hl, rfl, hM, hO, hA, hU⟩ := hrel
    by_cases hlk : k < 16
    · have d1 : decide ((k : Int) < 16) = true := decide_eq_true (by omega)
      have d2 : decide (k < 16) = true := decide_eq_true hlk
      have hr := Blk.range hA 0 33 (by omega)
      simp only [Nat.zero_add] at hr
      have hlw := hld wr hr
      clear hld hr
      go_wp2_with fail
      refine (mean_any A (k : Int) _).mono ?_
      rintro e w1 ⟨v, rfl, hv, hu⟩
      rw [rW_nat A k hlk, rO_nat A k hlk] at hv
      have lv := share_lt (hs _ (by omega)) (hs _ (by omega)) hv
      have hO1 := own_upd hO hu (fun _ _ h => h)
      have hA1 := hA.upd hu (fun h => h)
      have hsz1 := hu.size
      have hAl := hA.lt
      have HM := Lib.hid hM
      have HV := Lib.hid hv
      clear hlw hO hA hM hv
      go_wp2_with (first | (at_builtin; refine wpList_append_own _ rfl _ _ 41 rfl (w.heap.size + 1) 24 i0 _ 1 8 Try.underlying41 hi hz0 hz1 hz2 rfl (by decide) _ k (fcells zs) rfl (hO1.alloc _) ⟨w1.heap.size, 0, none⟩ 1 1 [.float .f64 v] rfl rfl ?c1 ?c2 ?c3 ?c4 ?c5 ?_))
      case c1 => exact cells_new _ _ _
      case c2 => simp [Value.oneCell']
      case c3 => simp only [maxLen]; omega
      case c4 => omega
      case c5 => simp only [World.size_alloc]; omega
      intro v' w2 hO2 hg2 _
      have hU2 : Upd (fun _ => False) w w2 := ((hU.trans hu).alloc _).grown hg2 (fun k hk hlt => by have := (hO1.lt k hk).1; omega)
      have hA2 : Blk w2 w.heap.size (cf 33 A) 56 := (hA1.alloc _).of_eq (hg2.block _ (hA1.alloc _).lt (fun e => by have := (hO1.lt _ e.symm).1; omega))
      clear hg2 hO1 hA1
      go_wp2
      go_roundw
      case rel =>
        refine ⟨k + 1, zs ++ [v], by omega, by simp [hl], by go_num, ?_, ?_, hA2, hU2⟩
        · intro i z h
          by_cases hi' : i < zs.length
          · rw [List.getElem?_append_left hi'] at h
            exact HM.out i z h
          · rw [List.getElem?_append_right (by omega)] at h
            have e0 : i - zs.length = 0 := by
              rcases Nat.eq_zero_or_pos (i - zs.length) with h0 | h0
              · exact h0
              · rw [List.getElem?_eq_none (by simp; omega)] at h; cases h
            rw [e0] at h
            simp at h
            subst h
            have ei : i = k := by omega
            subst ei
            exact ⟨HV.out, lv⟩
        · have : fcells (zs ++ [v]) = fcells zs ++ [.float .f64 v] := by simp [fcells]
          rw [this]; exact hO2
      case measure => simp [intOf]; omega
    · have hke : k = 16 := by omega
      subst hke
      clear hld
      have hzl : ∀ x ∈ zs, x < 18446744073709551616 := fun x hx => by
        obtain ⟨i, hi, e⟩ := List.mem_iff_getElem.1 hx
        exact (hM i x (by rw [← e]; exact List.getElem?_eq_getElem hi)).2
      rw [← hl] at hO
      obtain ⟨a, cap, rfl, hF⟩ := own_floats hO hzl (by omega)
      have HM := Lib.hid hM
      have HZ := Lib.hid hzl
      have HF := Lib.hid hF
      obtain ⟨p, hp⟩ : ∃ p, p = bestOf (-1) zs := ⟨_, rfl⟩
      obtain ⟨q, hq⟩ : ∃ q, q = bestOf 1 zs := ⟨_, rfl⟩
      have hL := fun w => least_any a cap zs w
      have hH := fun w => Gauge.most_any a cap zs w
      rw [← hp] at hL
      rw [← hq] at hH
      have HL := Lib.hid hL
      have HH := Lib.hid hH
      have Hp := Lib.hid hp
      have Hq := Lib.hid hq
      have Hl := Lib.hid hl
      clear hM hzl hO hF hL hH hp hq hl
      go_wp2_with fail
      refine (HL.out _ HF.out).mono ?_
      rintro e w1 ⟨rfl, rfl⟩
      go_wp2_with fail
      refine (HH.out _ HF.out).mono ?_
      rintro e w1 ⟨rfl, rfl⟩
      go_wp2
      go_ret2
      exact ⟨zs, Hl.out, HM.out, by rw [Hp.out, Hq.out]; rfl, hU⟩
end Go.Proofs.Ytjlcjcgoaakniaa.Tally
