/- A kind's share, its mean, the spread of all means, and the kind with the most words, are those of its row: the walk of besomlaw19.TallyMeans. -/
import Derived.Test.YtjlcjcgoaakniaaTally3
import Derived.Test.YtjlcjcgoaakniaaTallyAdds
import Derived.Deep.Cut
import Derived.Deep.DeepCutAuto
namespace Go.Proofs.Ytjlcjcgoaakniaa.TallyMeans
open Go.RowKit Go.Proofs.Ytjlcjcgoaakniaa.Mem Go.Proofs.Ytjlcjcgoaakniaa.Gauge Go.Proofs.Ytjlcjcgoaakniaa.Tally Go.Proofs.Ytjlcjcgoaakniaa.GaugeEnds

theorem share_same {a b : Int} {v u : Nat} (ha : a.natAbs < 9007199254740992) (hb : b.natAbs < 9007199254740992) (h : ShareOf a b v) (h' : ShareOf a b u) : kk v = kk u := by
  rcases share_cases ha hb h with ⟨_, _, h1⟩ | ⟨x, y, rfl⟩ | ⟨x, y, rfl⟩ | ⟨x, y, R, rfl, hR, _⟩ <;> rcases share_cases ha hb h' with ⟨x', y', h1'⟩ | ⟨x', y', h1'⟩ | ⟨x', y', h1'⟩ | ⟨x', y', R', h1', hR', _⟩
  all_goals first | (exact absurd x' x) | (exact absurd x x') | (exact absurd y' y) | (exact absurd y y') | skip
  all_goals first | (rw [h1.kk, h1'.kk]) | (rw [h1']) | skip
  all_goals first | (exfalso; omega) | skip
  rw [Rnd.quo_unique hR hR' (by omega) (by omega) rfl]

theorem same_share {a b : Int} {v u : Nat} (h : ShareOf a b v) (h' : ShareOf a b u) (ha : a.natAbs < 9007199254740992) (hb : b.natAbs < 9007199254740992) (w : World) :
    Calls Try.prog 18 #[.float .f64 v, .float .f64 u] w fun e w' => e = .returned (.bool true) ∧ w = w' := by
  have hs := same_any v u w (share_lt ha hb h) (share_lt ha hb h')
  rw [share_same ha hb h h', beq_self_eq_true] at hs
  exact hs

theorem keep3 {w w' : World} (h : Upd (fun _ => False) w w') {b1 o1 : Nat} {r1 : List Value} {p q : Addr} {a b : Value} (hs : w.rangeAt b1 o1 r1 ∧ w.cell? p = some a ∧ w.cell? q = some b) :
    w'.rangeAt b1 o1 r1 ∧ w'.cell? p = some a ∧ w'.cell? q = some b :=
  ⟨keepR h hs.1, keep0 h hs.2.1, keep0 h hs.2.2⟩

/-- Whether one of the first ones is a number. -/
def anyK (zs : List Nat) (k : Nat) : Bool := (zs.take k).any fun z => kk z != 0
theorem anyK_step {zs : List Nat} {k z : Nat} (h : zs[k]? = some z) : anyK zs (k + 1) = (anyK zs k || kk z != 0) := by
  unfold anyK
  rw [take_snoc' h, List.any_append]
  simp
theorem anyK_all {zs : List Nat} (h : zs.length = 16) : (anyK zs 16 = true) ↔ ∃ z ∈ zs, kk z ≠ 0 := by
  unfold anyK
  rw [← h, List.take_length, List.any_eq_true]
  simp

/-- Loop 2. -/
def Ranging (A : Nat → Int) (zs : List Nat) (w : World) (y i : Value) (wr : World) : Prop :=
  ∃ k : Nat, k ≤ 16 ∧ i = .int .i64 (k : Int) ∧ y = .bool (anyK zs k) ∧ Blk wr w.heap.size (cf 33 A) 56 ∧ Upd (fun _ => False) w wr

theorem mo_le (A : Nat → Int) : ∀ k, mo A k ≤ k
  | 0 => by unfold mo; omega
  | k + 1 => by
    unfold mo
    have := mo_le A k
    split <;> omega
theorem mo_max (A : Nat → Int) : ∀ k, k ≤ 16 → (∀ i, i < k → A (2 * i + 1) ≤ A (2 * mo A k + 1)) ∧ (∀ i, i < mo A k → A (2 * i + 1) < A (2 * mo A k + 1))
  | 0, _ => ⟨fun i h => by omega, fun i h => by unfold mo at h; omega⟩
  | k + 1, h => by
    obtain ⟨h1, h2⟩ := mo_max A k (by omega)
    have hl : mo A k ≤ k := mo_le A k
    unfold mo
    rw [show mo A k * 2 + 1 = 2 * mo A k + 1 by omega]
    by_cases hc : A (2 * mo A k + 1) < A (2 * k + 1)
    · rw [if_pos hc]
      refine ⟨fun i hi => ?_, fun i hi => ?_⟩
      · by_cases e : i = k
        · subst e; exact Int.le_refl _
        · have := h1 i (by omega); omega
      · have := h1 i hi; omega
    · rw [if_neg hc]
      refine ⟨fun i hi => ?_, h2⟩
      by_cases e : i = k
      · subst e; omega
      · exact h1 i (by omega)

/-- Loop 3. -/
def Topping (A : Nat → Int) (w : World) (i : Value) (wr : World) : Prop :=
  ∃ k : Nat, k ≤ 16 ∧ i = .int .i64 (k : Int) ∧ Blk wr w.heap.size (cf 33 A) 56 ∧ Upd (fun _ => False) w wr

def Small (A : Nat → Int) (n : Nat) : Prop := ∀ i, i < n → 0 ≤ A i ∧ A i ≤ 1099511627776

/-- Loop 1: the sum of the words so far. -/
def Adding (A : Nat → Int) (w : World) (s i : Value) (wr : World) : Prop :=
  ∃ k : Nat, k ≤ 16 ∧ i = .int .i64 (k : Int) ∧ s = .int .i64 (sW A k) ∧ Small A (2 * k) ∧ 0 ≤ sW A k ∧ sW A k ≤ (k : Int) * 1099511627776 ∧ Blk wr w.heap.size (cf 33 A) 56 ∧ Upd (fun _ => False) w wr

set_option maxHeartbeats 4000000 in
set_option maxRecDepth 20000 in
attribute [-simp] Try.sizeOf56 in
theorem law_nat (A : Nat → Int) (kind : Int) (w : World) :
    Calls Try.prog 12 #[ag 33 A, .int .i64 kind] w fun e w' => e = .returned (.bool true) ∧ Below w.heap.size w w' := by
  have hidx : ∀ (w : World) (k : Nat), k < 16 → (Instr.index 54 (ag 32 A) (.int .i64 (k : Int))).run Try.prog w = .ok (two (A (2 * k)) (A (2 * k + 1))) w := fun w k hk =>
    run_part _ w _ 53 16 32 A k _ Try.underlying54 Try.underlying53 rfl (by kernel_rfl) hk rfl
  have Hidx := Lib.hid hidx
  obtain ⟨n, hn⟩ : ∃ n, n = 33 := ⟨_, rfl⟩
  have hsz : ∀ W : World, (sizeOf 56).run Try.prog W = .ok n W := fun W => by rw [hn]; exact Try.sizeOf56 W
  have hld : ∀ W : World, W.rangeAt w.heap.size 0 (cf 33 A) → (loadCellsFrom ⟨w.heap.size, 0, none⟩ 0 n #[]).run Try.prog W = .ok (cf 33 A).toArray W := fun W h => by
    rw [hn]; exact run_cells33 _ W _ A h
  have Hld := Lib.hid hld
  clear hn hld hidx
  go_enter Try.func12, Try.ntmps12
  go_wp2_with fail
  refine (awake19 _).mono ?_
  rintro e w1 ⟨rfl, hu1⟩
  have hA1 := (Blk.made w (cf 33 A) 56).upd hu1 (fun h => h)
  have hr1 := Blk.range hA1 0 32 (by omega)
  simp only [Nat.zero_add] at hr1
  go_wp2_with (refine wpList_load_mid rfl 54 _ rfl w.heap.size 0 rfl (cf 32 A) _ hr1 Try.underlying54 rfl (by kernel_rfl) ?_)
  clear hr1
  go_loopw [5, 22] (fun s i wr => Adding A w s i wr) (fun _ i _ => 16 - (intOf i).toNat)
  case atStart =>
    exact ⟨0, by omega, rfl, rfl, fun i h => by omega, Int.le_refl 0, (by show (0 : Int) ≤ ((0 : Nat) : Int) * 1099511627776; decide), hA1, ((Upd.refl _ w).alloc _).trans hu1⟩
  case round =>
    obtain ⟨k, hk, rfl, rfl, hsm, hs0, hs1, hA, hU⟩ := hrel
    by_cases hlk : k < 16
    · have d1 : decide ((k : Int) < 16) = true := decide_eq_true (by omega)
      have d2 : decide (k < 16) = true := decide_eq_true hlk
      have hix := Hidx.out wr k hlk
      obtain ⟨a, ha⟩ : ∃ a, a = A (2 * k) := ⟨_, rfl⟩
      obtain ⟨b, hb⟩ : ∃ b, b = A (2 * k + 1) := ⟨_, rfl⟩
      obtain ⟨s, hs⟩ : ∃ s, s = sW A k := ⟨_, rfl⟩
      have hst : sW A (k + 1) = wrap64 (s + b) := by rw [hs, hb]; rfl
      rw [← ha, ← hb] at hix
      rw [← hs] at hs0 hs1 ⊢
      have Hst := Lib.hid hst
      have Ha := Lib.hid ha
      have Hb := Lib.hid hb
      have Hs := Lib.hid hs
      clear hst ha hb hs hA1
      by_cases e1 : b < 0
      · have f1 : decide (b < 0) = true := decide_eq_true e1
        go_wp2
        go_ret
        exact ⟨rfl, (hU.alloc _).below (fun _ _ h => h)⟩
      · have f1 : decide (b < 0) = false := decide_eq_false e1
        by_cases e2 : 1099511627776 < b
        · have f2 : decide (1099511627776 < b) = true := decide_eq_true e2
          go_wp2
          go_ret
          exact ⟨rfl, (hU.alloc _).below (fun _ _ h => h)⟩
        · have f2 : decide (1099511627776 < b) = false := decide_eq_false e2
          by_cases e3 : a < 0
          · have f3 : decide (a < 0) = true := decide_eq_true e3
            go_wp2
            go_ret
            exact ⟨rfl, (hU.alloc _).below (fun _ _ h => h)⟩
          · have f3 : decide (a < 0) = false := decide_eq_false e3
            by_cases e4 : 1099511627776 < a
            · have f4 : decide (1099511627776 < a) = true := decide_eq_true e4
              go_wp2
              go_ret
              exact ⟨rfl, (hU.alloc _).below (fun _ _ h => h)⟩
            · have f4 : decide (1099511627776 < a) = false := decide_eq_false e4
              go_wp2
              go_roundw
              case rel =>
                have hst := Hst.out
                rw [IntWalk.wrap64_in _ (by omega)] at hst
                refine ⟨k + 1, by omega, by go_num, by rw [hst], ?_, by omega, by omega, hA.alloc _, hU.alloc _⟩
                intro i hi
                by_cases h1 : i < 2 * k
                · exact hsm i h1
                · rcases (show i = 2 * k ∨ i = 2 * k + 1 by omega) with rfl | rfl
                  · rw [← Ha.out]; omega
                  · rw [← Hb.out]; omega
              case measure => simp [intOf]; omega
    · have hke : k = 16 := by omega
      subst hke
      have hsm' : ∀ i, i < 32 → (A i).natAbs < 9007199254740992 := fun i h => by have := hsm i (by omega); omega
      obtain ⟨t, ht⟩ : ∃ t, t = sW A 16 := ⟨_, rfl⟩
      rw [← ht] at hs0 hs1 ⊢
      have Ht := Lib.hid ht
      obtain ⟨x, hx⟩ : ∃ x, x = rO A kind := ⟨_, rfl⟩
      obtain ⟨y, hy⟩ : ∃ y, y = rW A kind := ⟨_, rfl⟩
      have Hx := Lib.hid hx
      have Hy := Lib.hid hy
      have Hsm := Lib.hid hsm
      clear ht hx hy hsm hA1
      have key : (0 ≤ kind ∧ kind < 16) ∨ kind < 0 ∨ (0 ≤ kind ∧ 16 ≤ kind) := by omega
      have hz2 : (kind < 0 ∨ (0 ≤ kind ∧ 16 ≤ kind)) → x = 0 ∧ y = 0 := fun h => ⟨Hx.out.trans (if_neg (by omega)), Hy.out.trans (if_neg (by omega))⟩
      have HZ2 := Lib.hid hz2
      have Hsm' := Lib.hid hsm'
      clear hz2 hsm'
      have hsh := fun W => share_row_any A kind W
      have hme := fun W => mean_any A kind W
      rw [← Hx.out, ← Hy.out] at hme
      rw [← Ht.out, ← Hy.out] at hsh
      have HSh := Lib.hid hsh
      have HMe := Lib.hid hme
      clear hsh hme
      rcases key with ⟨k1, k2⟩ | k1 | ⟨k1, k2⟩
      · have c1 : decide (0 ≤ kind) = true := decide_eq_true k1
        have c2 : decide (kind < 16) = true := decide_eq_true k2
        obtain ⟨m, rfl⟩ : ∃ m : Nat, kind = (m : Int) := ⟨kind.toNat, by omega⟩
        have c2' : decide (m < 16) = true := decide_eq_true (by omega)
        have hA2 := hA.alloc (.cells #[.int .i64 0, .int .i64 0] 53)
        have a0 := hA2.cell (m * 2) (cf_get (by omega))
        have a1 := hA2.cell (m * 2 + 1) (cf_get (by omega))
        rw [← rO_nat A m (by omega), ← Hx.out] at a0
        rw [← rW_nat A m (by omega), ← Hy.out] at a1
        have i1 : (0 : Int) ≤ (m : Int) := by omega
        have G1 := Lib.hid (Blk.made wr [.int .i64 x, .int .i64 y] 53)
        have G2 := Lib.hid (hA.alloc (.cells #[.int .i64 x, .int .i64 y] 53))
        have G3 := Lib.hid (hU.alloc (.cells #[.int .i64 x, .int .i64 y] 53))
        go_upto_region 14 with (fail)
        obtain ⟨wx, hwx⟩ : ∃ wx, wx = wr.alloc (.cells #[.int .i64 x, .int .i64 y] 53) := ⟨_, rfl⟩
        have G1' : Blk wx wr.heap.size [.int .i64 x, .int .i64 y] 53 := by rw [hwx]; exact G1.out
        have G2' : Blk wx w.heap.size (cf 33 A) 56 := by rw [hwx]; exact G2.out
        have G3' : Upd (fun _ => False) w wx := by rw [hwx]; exact G3.out
        rw [← hwx]
        have hlg := hA.lt
        clear G1 G2 G3 hwx a0 a1 hA2 hA hU
        generalize wr.heap.size = g at *
        have ra := Blk.range G2' 0 33 (by omega)
        simp only [Nat.zero_add] at ra
        have x0 := G1'.cell 0 rfl
        have y0 := G1'.cell 1 rfl
        have hld := Hld.out
        have bx : x.natAbs < 9007199254740992 := by
          rw [Hx.out]; unfold rO; split
          · exact Hsm'.out _ (by omega)
          · decide
        have bY : y.natAbs < 9007199254740992 := by
          rw [Hy.out]; unfold rW; split
          · exact Hsm'.out _ (by omega)
          · decide
        have bt : t.natAbs < 9007199254740992 := by omega
        have hcum : Upd (fun _ => False) wx wx.drew := (Upd.refl _ wx).drew
        clear hu1 hk hlk
        go_region_held3 (fun W => W.rangeAt w.heap.size 0 (cf 33 A) ∧ W.cell? ⟨g, 0, none⟩ = some (.int .i64 x) ∧ W.cell? ⟨g, 1, none⟩ = some (.int .i64 y))
          (first | assumption | exact ⟨ra, x0, y0⟩ | exact keep3 hu (by assumption))
          (first | (go_at_call 32; refine (HSh.out _).mono ?_; rintro e w2 ⟨v1, rfl, hv1, hu⟩; have hcum := hcum.trans hu) | (go_at_call 33; refine (HMe.out _).mono ?_; rintro e w3 ⟨v3, rfl, hv3, hu⟩; have hcum := hcum.trans hu) | (go_at_call 16; refine (share_any _ _ _).mono ?_; rintro e w4 ⟨v2, rfl, hv2, hu⟩; have hcum := hcum.trans hu) | (go_at_call 18; refine (same_share (by assumption) (by assumption) (by assumption) (by assumption) _).mono ?_; rintro e w5 ⟨rfl, rfl⟩))
        have hA4 := G2'.upd hcum (fun h => h)
        have hU4 := G3'.trans hcum
        clear hcum G1' G2' G3' ra x0 y0 hv1 hv2 hv3 hld
        have hl4 := Hld.out _ (by have h := Blk.range hA4 0 33 (by omega); simpa only [Nat.zero_add] using h)
        go_wp2_with fail
        refine (spread_any A Hsm'.out _).mono ?_
        rintro e w6 ⟨zs, hzl, hM, rfl, hu6⟩
        have hA6 := hA4.upd hu6 (fun h => h)
        have hU6 := hU4.trans hu6
        have hr6 := Blk.range hA6 0 32 (by omega)
        simp only [Nat.zero_add] at hr6
        obtain ⟨p, hp⟩ : ∃ p, p = bestOf (-1) zs := ⟨_, rfl⟩
        obtain ⟨q, hq⟩ : ∃ q, q = bestOf 1 zs := ⟨_, rfl⟩
        rw [← hp, ← hq]
        have hlow := least_all zs
        have hhigh := most_all zs
        rw [← hp] at hlow
        rw [← hq] at hhigh
        have hzlt : ∀ x ∈ zs, x < 18446744073709551616 := fun x hx => by
          obtain ⟨i, hi, e⟩ := List.mem_iff_getElem.1 hx
          exact (hM i x (by rw [← e]; exact List.getElem?_eq_getElem hi)).2
        have hpl : p < 18446744073709551616 := by rw [hp]; exact bestOf_lt hzlt
        have hql : q < 18446744073709551616 := by rw [hq]; exact bestOf_lt hzlt
        have HM := Lib.hid hM
        have HL := Lib.hid hlow
        have HH := Lib.hid hhigh
        have HZ := Lib.hid hzl
        have HA6 := Lib.hid hA6
        have HU6 := Lib.hid hU6
        clear hp hq hM hlow hhigh hzl hzlt hl4 hA4 hU4 hu6 hA6 hU6
        go_wp2_with (refine wpList_load_mid rfl 54 _ rfl w.heap.size 0 rfl (cf 32 A) _ hr6 Try.underlying54 rfl (by kernel_rfl) ?_)
        clear hr6
        go_loopw [11, 86] (fun y i wr => Ranging A zs w y i wr) (fun _ i _ => 16 - (intOf i).toNat)
        case atStart => exact ⟨0, by omega, rfl, rfl, HA6.out, HU6.out⟩
        case round =>
          obtain ⟨k, hk, rfl, rfl, hA, hU⟩ := hrel
          by_cases hlk : k < 16
          · have d1 : decide ((k : Int) < 16) = true := decide_eq_true (by omega)
            have d2 : decide (k < 16) = true := decide_eq_true hlk
            have hix := Hidx.out wr k hlk
            obtain ⟨z, hz⟩ : ∃ z, zs[k]? = some z := ⟨_, List.getElem?_eq_getElem (by have := HZ.out; omega)⟩
            have hzm := HM.out k z hz
            have hst := anyK_step hz
            have hzin := List.mem_of_getElem? hz
            obtain ⟨a, ha⟩ : ∃ a, a = A (2 * k) := ⟨_, rfl⟩
            obtain ⟨b, hb⟩ : ∃ b, b = A (2 * k + 1) := ⟨_, rfl⟩
            have ba := Hsm'.out (2 * k) (by omega)
            have bb := Hsm'.out (2 * k + 1) (by omega)
            rw [show k * 2 + 1 = 2 * k + 1 by omega, show k * 2 = 2 * k by omega, ← ha, ← hb] at hzm
            rw [← ha, ← hb] at hix
            rw [← ha] at ba
            rw [← hb] at bb
            obtain ⟨n0, hn0⟩ : ∃ n0, n0 = anyK zs k := ⟨_, rfl⟩
            rw [← hn0] at hst ⊢
            have Hst := Lib.hid hst
            have Ha := Lib.hid ha
            have Hb := Lib.hid hb
            have Hzm := Lib.hid hzm
            have Hzin := Lib.hid hzin
            clear hst ha hb hz hn0 hzm hzin
            go_wp2_with fail
            refine (share_any b a _).mono ?_
            rintro e w7 ⟨v, rfl, hv, hu7⟩
            have hkv := share_same bb ba hv Hzm.out.1
            have lv := share_lt bb ba hv
            have hA7 := (hA.alloc (.cells #[.int .i64 a, .int .i64 b] 53)).upd hu7 (fun h => h)
            have hU7 := (hU.alloc (.cells #[.int .i64 a, .int .i64 b] 53)).trans hu7
            have Hv := Lib.hid hv
            clear hv hix hA hU hu7
            by_cases h0 : kk z = 0
            · have hc : cls v = 0 := (cls_eq_zero lv).2 (hkv.trans h0)
              have Hc := Lib.hid hc
              have H0 := Lib.hid h0
              clear hc hkv h0
              go_wp2_with fail
              refine (class_any v _ lv).mono ?_
              rintro e w8 ⟨rfl, rfl⟩
              rw [Hc.out]
              go_wp2
              go_roundw
              case rel =>
                refine ⟨k + 1, by omega, by go_num, ?_, hA7, hU7⟩
                rw [Hst.out, H0.out]; simp
              case measure => simp [intOf]; omega
            · have hk0 : kk v ≠ 0 := fun h => h0 (hkv ▸ h)
              have hc : cls v ≠ 0 := fun h => hk0 ((cls_eq_zero lv).1 h)
              have dc : (cls v == 0) = false := beq_eq_false_iff_ne.2 hc
              have hlo := HL.out.1 z Hzin.out h0
              have hhi := HH.out.1 z Hzin.out h0
              rw [← hkv] at hlo hhi
              obtain ⟨c1, hc1⟩ : ∃ c, c = sc (kk p) (kk v) := ⟨_, rfl⟩
              obtain ⟨c2, hc2⟩ : ∃ c, c = sc (kk q) (kk v) := ⟨_, rfl⟩
              have e1 : decide (0 < c1) = false := decide_eq_false (by rw [hc1]; have := sc_le_iff.2 hlo.2; omega)
              have e2 : decide (c2 < 0) = false := decide_eq_false (by rw [hc2]; have := sc_ge_iff.2 hhi; omega)
              obtain ⟨c, hcc⟩ : ∃ c, c = cls v := ⟨_, rfl⟩
              rw [← hcc] at dc
              have Hc1 := Lib.hid hc1
              have Hc2 := Lib.hid hc2
              have Hcc := Lib.hid hcc
              have H0 := Lib.hid h0
              have hl7 := Hld.out _ (by have h := Blk.range hA7 0 33 (by omega); simpa only [Nat.zero_add] using h)
              clear hc hk0 hkv hlo hhi hc1 hc2 hcc h0
              go_wp2_with fail
              refine (class_any v _ lv).mono ?_
              rintro e w8 ⟨rfl, rfl⟩
              rw [← Hcc.out]
              go_wp2_with fail
              refine (order_any p v _ hpl lv).mono ?_
              rintro e w8 ⟨rfl, rfl⟩
              rw [← Hc1.out]
              go_wp2_with fail
              refine (order_any q v _ hql lv).mono ?_
              rintro e w8 ⟨rfl, rfl⟩
              rw [← Hc2.out]
              go_wp2_with fail
              refine (mean_any A (k : Int) _).mono ?_
              rintro e w8 ⟨v', rfl, hv', hu8⟩
              rw [rW_nat A k hlk, rO_nat A k hlk, show k * 2 + 1 = 2 * k + 1 by omega, show k * 2 = 2 * k by omega, ← Ha.out, ← Hb.out] at hv'
              clear hl7
              have hA8 := hA7.upd hu8 (fun h => h)
              have hU8 := hU7.trans hu8
              clear hA7 hU7 hu8
              go_wp2_with fail
              refine (same_share hv' Hv.out bb ba _).mono ?_
              rintro e w9 ⟨rfl, rfl⟩
              clear hv'
              go_wp2
              go_roundw
              case rel =>
                refine ⟨k + 1, by omega, by go_num, ?_, hA8, hU8⟩
                have : (kk z != 0) = true := bne_iff_ne.2 H0.out
                rw [Hst.out, this, Bool.or_true]
              case measure => simp [intOf]; omega
          · have hke : k = 16 := by omega
            subst hke
            have hall := anyK_all HZ.out
            obtain ⟨y0, hy0⟩ : ∃ y0, y0 = anyK zs 16 := ⟨_, rfl⟩
            rw [← hy0] at hall ⊢
            have Hall := Lib.hid hall
            have hl8 := Hld.out _ (by have h := Blk.range hA 0 33 (by omega); simpa only [Nat.zero_add] using h)
            obtain ⟨m0, hm0⟩ : ∃ m0, m0 = mo A 16 := ⟨_, rfl⟩
            have hmx := mo_max A 16 (by omega)
            have hml := mo_lt A 16 (by omega)
            have hmost := fun w => Tally.most_any A w
            rw [← hm0] at hmx hml hmost
            have d1 : decide ((m0 : Int) < 0) = false := decide_eq_false (by omega)
            have d2 : decide ((15 : Int) < (m0 : Int)) = false := decide_eq_false (by omega)
            have d2' : decide (15 < m0) = false := decide_eq_false (by omega)
            have Hmx := Lib.hid hmx
            have Hmost := Lib.hid hmost
            clear hmx hmost hm0 hy0 hall
            go_wp2_with fail
            refine (Hmost.out _).mono ?_
            rintro e w7 ⟨rfl, hu7⟩
            have hA7 := hA.upd hu7 (fun h => h)
            have hU7 := hU.trans hu7
            have hr7 := Blk.range hA7 0 32 (by omega)
            simp only [Nat.zero_add] at hr7
            have HA7 := Lib.hid hA7
            have HU7 := Lib.hid hU7
            clear hl8 hA hU hu7 hA7 hU7
            go_wp2_with (refine wpList_load_mid rfl 54 _ rfl w.heap.size 0 rfl (cf 32 A) _ hr7 Try.underlying54 rfl (by kernel_rfl) ?_)
            clear hr7
            go_loopw [127] (fun i wr => Topping A w i wr) (fun i _ => 16 - (intOf i).toNat)
            case atStart => exact ⟨0, by omega, rfl, HA7.out, HU7.out⟩
            case round =>
              obtain ⟨k, hk, rfl, hA, hU⟩ := hrel
              by_cases hlk : k < 16
              · have d3 : decide ((k : Int) < 16) = true := decide_eq_true (by omega)
                have d4 : decide (k < 16) = true := decide_eq_true hlk
                have hix := Hidx.out wr k hlk
                obtain ⟨a, ha⟩ : ∃ a, a = A (2 * k) := ⟨_, rfl⟩
                obtain ⟨b, hb⟩ : ∃ b, b = A (2 * k + 1) := ⟨_, rfl⟩
                obtain ⟨mw, hmw⟩ : ∃ mw, mw = A (2 * m0 + 1) := ⟨_, rfl⟩
                have h1 := Hmx.out.1 k hlk
                have h2 := Hmx.out.2 k
                rw [← hb, ← hmw] at h1 h2
                rw [← ha, ← hb] at hix
                have a1 := (hA.alloc (.cells #[.int .i64 a, .int .i64 b] 53)).cell (m0 * 2 + 1) (cf_get (by omega))
                rw [show m0 * 2 + 1 = 2 * m0 + 1 by omega, ← hmw, show 2 * m0 + 1 = m0 * 2 + 1 by omega] at a1
                have n1 := (Blk.made wr [.int .i64 a, .int .i64 b] 53).cell 1 rfl
                have i1 : (0 : Int) ≤ (m0 : Int) := by omega
                have i2 : (m0 : Int) < 16 := by omega
                have t1 : decide (mw < b) = false := decide_eq_false (by omega)
                clear ha hb hmw
                by_cases hkm : k < m0
                · have t2 : decide ((k : Int) < (m0 : Int)) = true := decide_eq_true (by omega)
                  have t2' : decide (k < m0) = true := decide_eq_true hkm
                  have h3 := h2 hkm
                  have t3 : (b == mw) = false := beq_eq_false_iff_ne.2 (by omega)
                  clear h1 h2 h3
                  go_wp2_with fail
                  go_quiet (fail)
                  go_wp2
                  go_roundw
                  case rel => exact ⟨k + 1, by omega, by go_num, (hA.alloc _).drewN _, (hU.alloc _).drewN _⟩
                  case measure => simp [intOf]; omega
                · have t2 : decide ((k : Int) < (m0 : Int)) = false := decide_eq_false (by omega)
                  have t2' : decide (k < m0) = false := decide_eq_false hkm
                  clear h1 h2
                  go_wp2_with fail
                  go_quiet (fail)
                  go_wp2
                  go_roundw
                  case rel => exact ⟨k + 1, by omega, by go_num, (hA.alloc _).drewN _, (hU.alloc _).drewN _⟩
                  case measure => simp [intOf]; omega
              · have hke : k = 16 := by omega
                subst hke
                obtain ⟨cp, hcp⟩ : ∃ c, c = cls p := ⟨_, rfl⟩
                obtain ⟨cq, hcq⟩ : ∃ c, c = cls q := ⟨_, rfl⟩
                have f1 : (cp != 0) = y0 := by
                  rw [hcp, Bool.eq_iff_iff, bne_iff_ne, Hall.out, Ne, cls_eq_zero hpl]
                  exact ⟨fun h => by obtain ⟨z, hz, e⟩ := HL.out.2 h; exact ⟨z, hz, by omega⟩, fun ⟨z, hz, h⟩ => (HL.out.1 z hz h).1⟩
                have f2 : (cq != 0) = y0 := by
                  rw [hcq, Bool.eq_iff_iff, bne_iff_ne, Hall.out, Ne, cls_eq_zero hql]
                  exact ⟨fun h => by obtain ⟨z, hz, e⟩ := HH.out.2 h; exact ⟨z, hz, by omega⟩, fun ⟨z, hz, h⟩ => by have := HH.out.1 z hz h; omega⟩
                have Hcp := Lib.hid hcp
                have Hcq := Lib.hid hcq
                clear hcp hcq
                go_wp2_with fail
                refine (class_any p _ hpl).mono ?_
                rintro e w8 ⟨rfl, rfl⟩
                rw [← Hcp.out]
                go_wp2_with fail
                refine (class_any q _ hql).mono ?_
                rintro e w8 ⟨rfl, rfl⟩
                rw [← Hcq.out]
                go_wp2
                go_ret
                exact ⟨rfl, hU.below (fun _ _ h => h)⟩
      · have c1 : decide (0 ≤ kind) = false := decide_eq_false (by omega)
        have e12 := Lib.hid (HZ2.out (.inl k1))
        go_upto_region 14 with (fail)
        obtain ⟨wx, hwx⟩ : ∃ wx, wx = wr.alloc (.cells #[.int .i64 0, .int .i64 0] 53) := ⟨_, rfl⟩
        have G1' : Blk wx wr.heap.size [.int .i64 x, .int .i64 y] 53 := by rw [hwx, e12.out.1, e12.out.2]; exact Blk.made _ _ _
        have G2' : Blk wx w.heap.size (cf 33 A) 56 := by rw [hwx]; exact hA.alloc _
        have G3' : Upd (fun _ => False) w wx := by rw [hwx]; exact hU.alloc _
        rw [← hwx]
        have hlg := hA.lt
        clear hwx hA hU
        generalize wr.heap.size = g at *
        have ra := Blk.range G2' 0 33 (by omega)
        simp only [Nat.zero_add] at ra
        have x0 := G1'.cell 0 rfl
        have y0 := G1'.cell 1 rfl
        have hld := Hld.out
        have bx : x.natAbs < 9007199254740992 := by
          rw [Hx.out]; unfold rO; split
          · exact Hsm'.out _ (by omega)
          · decide
        have bY : y.natAbs < 9007199254740992 := by
          rw [Hy.out]; unfold rW; split
          · exact Hsm'.out _ (by omega)
          · decide
        have bt : t.natAbs < 9007199254740992 := by omega
        have hcum : Upd (fun _ => False) wx wx.drew := (Upd.refl _ wx).drew
        clear hu1 hk hlk
        go_region_held3 (fun W => W.rangeAt w.heap.size 0 (cf 33 A) ∧ W.cell? ⟨g, 0, none⟩ = some (.int .i64 x) ∧ W.cell? ⟨g, 1, none⟩ = some (.int .i64 y))
          (first | assumption | exact ⟨ra, x0, y0⟩ | exact keep3 hu (by assumption))
          (first | (go_at_call 32; refine (HSh.out _).mono ?_; rintro e w2 ⟨v1, rfl, hv1, hu⟩; have hcum := hcum.trans hu) | (go_at_call 33; refine (HMe.out _).mono ?_; rintro e w3 ⟨v3, rfl, hv3, hu⟩; have hcum := hcum.trans hu) | (go_at_call 16; refine (share_any _ _ _).mono ?_; rintro e w4 ⟨v2, rfl, hv2, hu⟩; have hcum := hcum.trans hu) | (go_at_call 18; refine (same_share (by assumption) (by assumption) (by assumption) (by assumption) _).mono ?_; rintro e w5 ⟨rfl, rfl⟩))
        have hA4 := G2'.upd hcum (fun h => h)
        have hU4 := G3'.trans hcum
        clear hcum G1' G2' G3' ra x0 y0 hv1 hv2 hv3 hld
        have hl4 := Hld.out _ (by have h := Blk.range hA4 0 33 (by omega); simpa only [Nat.zero_add] using h)
        go_wp2_with fail
        refine (spread_any A Hsm'.out _).mono ?_
        rintro e w6 ⟨zs, hzl, hM, rfl, hu6⟩
        have hA6 := hA4.upd hu6 (fun h => h)
        have hU6 := hU4.trans hu6
        have hr6 := Blk.range hA6 0 32 (by omega)
        simp only [Nat.zero_add] at hr6
        obtain ⟨p, hp⟩ : ∃ p, p = bestOf (-1) zs := ⟨_, rfl⟩
        obtain ⟨q, hq⟩ : ∃ q, q = bestOf 1 zs := ⟨_, rfl⟩
        rw [← hp, ← hq]
        have hlow := least_all zs
        have hhigh := most_all zs
        rw [← hp] at hlow
        rw [← hq] at hhigh
        have hzlt : ∀ x ∈ zs, x < 18446744073709551616 := fun x hx => by
          obtain ⟨i, hi, e⟩ := List.mem_iff_getElem.1 hx
          exact (hM i x (by rw [← e]; exact List.getElem?_eq_getElem hi)).2
        have hpl : p < 18446744073709551616 := by rw [hp]; exact bestOf_lt hzlt
        have hql : q < 18446744073709551616 := by rw [hq]; exact bestOf_lt hzlt
        have HM := Lib.hid hM
        have HL := Lib.hid hlow
        have HH := Lib.hid hhigh
        have HZ := Lib.hid hzl
        have HA6 := Lib.hid hA6
        have HU6 := Lib.hid hU6
        clear hp hq hM hlow hhigh hzl hzlt hl4 hA4 hU4 hu6 hA6 hU6
        go_wp2_with (refine wpList_load_mid rfl 54 _ rfl w.heap.size 0 rfl (cf 32 A) _ hr6 Try.underlying54 rfl (by kernel_rfl) ?_)
        clear hr6
        go_loopw [11, 86] (fun y i wr => Ranging A zs w y i wr) (fun _ i _ => 16 - (intOf i).toNat)
        case atStart => exact ⟨0, by omega, rfl, rfl, HA6.out, HU6.out⟩
        case round =>
          obtain ⟨k, hk, rfl, rfl, hA, hU⟩ := hrel
          by_cases hlk : k < 16
          · have d1 : decide ((k : Int) < 16) = true := decide_eq_true (by omega)
            have d2 : decide (k < 16) = true := decide_eq_true hlk
            have hix := Hidx.out wr k hlk
            obtain ⟨z, hz⟩ : ∃ z, zs[k]? = some z := ⟨_, List.getElem?_eq_getElem (by have := HZ.out; omega)⟩
            have hzm := HM.out k z hz
            have hst := anyK_step hz
            have hzin := List.mem_of_getElem? hz
            obtain ⟨a, ha⟩ : ∃ a, a = A (2 * k) := ⟨_, rfl⟩
            obtain ⟨b, hb⟩ : ∃ b, b = A (2 * k + 1) := ⟨_, rfl⟩
            have ba := Hsm'.out (2 * k) (by omega)
            have bb := Hsm'.out (2 * k + 1) (by omega)
            rw [show k * 2 + 1 = 2 * k + 1 by omega, show k * 2 = 2 * k by omega, ← ha, ← hb] at hzm
            rw [← ha, ← hb] at hix
            rw [← ha] at ba
            rw [← hb] at bb
            obtain ⟨n0, hn0⟩ : ∃ n0, n0 = anyK zs k := ⟨_, rfl⟩
            rw [← hn0] at hst ⊢
            have Hst := Lib.hid hst
            have Ha := Lib.hid ha
            have Hb := Lib.hid hb
            have Hzm := Lib.hid hzm
            have Hzin := Lib.hid hzin
            clear hst ha hb hz hn0 hzm hzin
            go_wp2_with fail
            refine (share_any b a _).mono ?_
            rintro e w7 ⟨v, rfl, hv, hu7⟩
            have hkv := share_same bb ba hv Hzm.out.1
            have lv := share_lt bb ba hv
            have hA7 := (hA.alloc (.cells #[.int .i64 a, .int .i64 b] 53)).upd hu7 (fun h => h)
            have hU7 := (hU.alloc (.cells #[.int .i64 a, .int .i64 b] 53)).trans hu7
            have Hv := Lib.hid hv
            clear hv hix hA hU hu7
            by_cases h0 : kk z = 0
            · have hc : cls v = 0 := (cls_eq_zero lv).2 (hkv.trans h0)
              have Hc := Lib.hid hc
              have H0 := Lib.hid h0
              clear hc hkv h0
              go_wp2_with fail
              refine (class_any v _ lv).mono ?_
              rintro e w8 ⟨rfl, rfl⟩
              rw [Hc.out]
              go_wp2
              go_roundw
              case rel =>
                refine ⟨k + 1, by omega, by go_num, ?_, hA7, hU7⟩
                rw [Hst.out, H0.out]; simp
              case measure => simp [intOf]; omega
            · have hk0 : kk v ≠ 0 := fun h => h0 (hkv ▸ h)
              have hc : cls v ≠ 0 := fun h => hk0 ((cls_eq_zero lv).1 h)
              have dc : (cls v == 0) = false := beq_eq_false_iff_ne.2 hc
              have hlo := HL.out.1 z Hzin.out h0
              have hhi := HH.out.1 z Hzin.out h0
              rw [← hkv] at hlo hhi
              obtain ⟨c1, hc1⟩ : ∃ c, c = sc (kk p) (kk v) := ⟨_, rfl⟩
              obtain ⟨c2, hc2⟩ : ∃ c, c = sc (kk q) (kk v) := ⟨_, rfl⟩
              have e1 : decide (0 < c1) = false := decide_eq_false (by rw [hc1]; have := sc_le_iff.2 hlo.2; omega)
              have e2 : decide (c2 < 0) = false := decide_eq_false (by rw [hc2]; have := sc_ge_iff.2 hhi; omega)
              obtain ⟨c, hcc⟩ : ∃ c, c = cls v := ⟨_, rfl⟩
              rw [← hcc] at dc
              have Hc1 := Lib.hid hc1
              have Hc2 := Lib.hid hc2
              have Hcc := Lib.hid hcc
              have H0 := Lib.hid h0
              have hl7 := Hld.out _ (by have h := Blk.range hA7 0 33 (by omega); simpa only [Nat.zero_add] using h)
              clear hc hk0 hkv hlo hhi hc1 hc2 hcc h0
              go_wp2_with fail
              refine (class_any v _ lv).mono ?_
              rintro e w8 ⟨rfl, rfl⟩
              rw [← Hcc.out]
              go_wp2_with fail
              refine (order_any p v _ hpl lv).mono ?_
              rintro e w8 ⟨rfl, rfl⟩
              rw [← Hc1.out]
              go_wp2_with fail
              refine (order_any q v _ hql lv).mono ?_
              rintro e w8 ⟨rfl, rfl⟩
              rw [← Hc2.out]
              go_wp2_with fail
              refine (mean_any A (k : Int) _).mono ?_
              rintro e w8 ⟨v', rfl, hv', hu8⟩
              rw [rW_nat A k hlk, rO_nat A k hlk, show k * 2 + 1 = 2 * k + 1 by omega, show k * 2 = 2 * k by omega, ← Ha.out, ← Hb.out] at hv'
              clear hl7
              have hA8 := hA7.upd hu8 (fun h => h)
              have hU8 := hU7.trans hu8
              clear hA7 hU7 hu8
              go_wp2_with fail
              refine (same_share hv' Hv.out bb ba _).mono ?_
              rintro e w9 ⟨rfl, rfl⟩
              clear hv'
              go_wp2
              go_roundw
              case rel =>
                refine ⟨k + 1, by omega, by go_num, ?_, hA8, hU8⟩
                have : (kk z != 0) = true := bne_iff_ne.2 H0.out
                rw [Hst.out, this, Bool.or_true]
              case measure => simp [intOf]; omega
          · have hke : k = 16 := by omega
            subst hke
            have hall := anyK_all HZ.out
            obtain ⟨y0, hy0⟩ : ∃ y0, y0 = anyK zs 16 := ⟨_, rfl⟩
            rw [← hy0] at hall ⊢
            have Hall := Lib.hid hall
            have hl8 := Hld.out _ (by have h := Blk.range hA 0 33 (by omega); simpa only [Nat.zero_add] using h)
            obtain ⟨m0, hm0⟩ : ∃ m0, m0 = mo A 16 := ⟨_, rfl⟩
            have hmx := mo_max A 16 (by omega)
            have hml := mo_lt A 16 (by omega)
            have hmost := fun w => Tally.most_any A w
            rw [← hm0] at hmx hml hmost
            have d1 : decide ((m0 : Int) < 0) = false := decide_eq_false (by omega)
            have d2 : decide ((15 : Int) < (m0 : Int)) = false := decide_eq_false (by omega)
            have d2' : decide (15 < m0) = false := decide_eq_false (by omega)
            have Hmx := Lib.hid hmx
            have Hmost := Lib.hid hmost
            clear hmx hmost hm0 hy0 hall
            go_wp2_with fail
            refine (Hmost.out _).mono ?_
            rintro e w7 ⟨rfl, hu7⟩
            have hA7 := hA.upd hu7 (fun h => h)
            have hU7 := hU.trans hu7
            have hr7 := Blk.range hA7 0 32 (by omega)
            simp only [Nat.zero_add] at hr7
            have HA7 := Lib.hid hA7
            have HU7 := Lib.hid hU7
            clear hl8 hA hU hu7 hA7 hU7
            go_wp2_with (refine wpList_load_mid rfl 54 _ rfl w.heap.size 0 rfl (cf 32 A) _ hr7 Try.underlying54 rfl (by kernel_rfl) ?_)
            clear hr7
            go_loopw [127] (fun i wr => Topping A w i wr) (fun i _ => 16 - (intOf i).toNat)
            case atStart => exact ⟨0, by omega, rfl, HA7.out, HU7.out⟩
            case round =>
              obtain ⟨k, hk, rfl, hA, hU⟩ := hrel
              by_cases hlk : k < 16
              · have d3 : decide ((k : Int) < 16) = true := decide_eq_true (by omega)
                have d4 : decide (k < 16) = true := decide_eq_true hlk
                have hix := Hidx.out wr k hlk
                obtain ⟨a, ha⟩ : ∃ a, a = A (2 * k) := ⟨_, rfl⟩
                obtain ⟨b, hb⟩ : ∃ b, b = A (2 * k + 1) := ⟨_, rfl⟩
                obtain ⟨mw, hmw⟩ : ∃ mw, mw = A (2 * m0 + 1) := ⟨_, rfl⟩
                have h1 := Hmx.out.1 k hlk
                have h2 := Hmx.out.2 k
                rw [← hb, ← hmw] at h1 h2
                rw [← ha, ← hb] at hix
                have a1 := (hA.alloc (.cells #[.int .i64 a, .int .i64 b] 53)).cell (m0 * 2 + 1) (cf_get (by omega))
                rw [show m0 * 2 + 1 = 2 * m0 + 1 by omega, ← hmw, show 2 * m0 + 1 = m0 * 2 + 1 by omega] at a1
                have n1 := (Blk.made wr [.int .i64 a, .int .i64 b] 53).cell 1 rfl
                have i1 : (0 : Int) ≤ (m0 : Int) := by omega
                have i2 : (m0 : Int) < 16 := by omega
                have t1 : decide (mw < b) = false := decide_eq_false (by omega)
                clear ha hb hmw
                by_cases hkm : k < m0
                · have t2 : decide ((k : Int) < (m0 : Int)) = true := decide_eq_true (by omega)
                  have t2' : decide (k < m0) = true := decide_eq_true hkm
                  have h3 := h2 hkm
                  have t3 : (b == mw) = false := beq_eq_false_iff_ne.2 (by omega)
                  clear h1 h2 h3
                  go_wp2_with fail
                  go_quiet (fail)
                  go_wp2
                  go_roundw
                  case rel => exact ⟨k + 1, by omega, by go_num, (hA.alloc _).drewN _, (hU.alloc _).drewN _⟩
                  case measure => simp [intOf]; omega
                · have t2 : decide ((k : Int) < (m0 : Int)) = false := decide_eq_false (by omega)
                  have t2' : decide (k < m0) = false := decide_eq_false hkm
                  clear h1 h2
                  go_wp2_with fail
                  go_quiet (fail)
                  go_wp2
                  go_roundw
                  case rel => exact ⟨k + 1, by omega, by go_num, (hA.alloc _).drewN _, (hU.alloc _).drewN _⟩
                  case measure => simp [intOf]; omega
              · have hke : k = 16 := by omega
                subst hke
                obtain ⟨cp, hcp⟩ : ∃ c, c = cls p := ⟨_, rfl⟩
                obtain ⟨cq, hcq⟩ : ∃ c, c = cls q := ⟨_, rfl⟩
                have f1 : (cp != 0) = y0 := by
                  rw [hcp, Bool.eq_iff_iff, bne_iff_ne, Hall.out, Ne, cls_eq_zero hpl]
                  exact ⟨fun h => by obtain ⟨z, hz, e⟩ := HL.out.2 h; exact ⟨z, hz, by omega⟩, fun ⟨z, hz, h⟩ => (HL.out.1 z hz h).1⟩
                have f2 : (cq != 0) = y0 := by
                  rw [hcq, Bool.eq_iff_iff, bne_iff_ne, Hall.out, Ne, cls_eq_zero hql]
                  exact ⟨fun h => by obtain ⟨z, hz, e⟩ := HH.out.2 h; exact ⟨z, hz, by omega⟩, fun ⟨z, hz, h⟩ => by have := HH.out.1 z hz h; omega⟩
                have Hcp := Lib.hid hcp
                have Hcq := Lib.hid hcq
                clear hcp hcq
                go_wp2_with fail
                refine (class_any p _ hpl).mono ?_
                rintro e w8 ⟨rfl, rfl⟩
                rw [← Hcp.out]
                go_wp2_with fail
                refine (class_any q _ hql).mono ?_
                rintro e w8 ⟨rfl, rfl⟩
                rw [← Hcq.out]
                go_wp2
                go_ret
                exact ⟨rfl, hU.below (fun _ _ h => h)⟩
      · have c1 : decide (0 ≤ kind) = true := decide_eq_true k1
        have c2 : decide (kind < 16) = false := decide_eq_false (by omega)
        have e12 := Lib.hid (HZ2.out (.inr ⟨k1, k2⟩))
        go_upto_region 14 with (fail)
        obtain ⟨wx, hwx⟩ : ∃ wx, wx = wr.alloc (.cells #[.int .i64 0, .int .i64 0] 53) := ⟨_, rfl⟩
        have G1' : Blk wx wr.heap.size [.int .i64 x, .int .i64 y] 53 := by rw [hwx, e12.out.1, e12.out.2]; exact Blk.made _ _ _
        have G2' : Blk wx w.heap.size (cf 33 A) 56 := by rw [hwx]; exact hA.alloc _
        have G3' : Upd (fun _ => False) w wx := by rw [hwx]; exact hU.alloc _
        rw [← hwx]
        have hlg := hA.lt
        clear hwx hA hU
        generalize wr.heap.size = g at *
        have ra := Blk.range G2' 0 33 (by omega)
        simp only [Nat.zero_add] at ra
        have x0 := G1'.cell 0 rfl
        have y0 := G1'.cell 1 rfl
        have hld := Hld.out
        have bx : x.natAbs < 9007199254740992 := by
          rw [Hx.out]; unfold rO; split
          · exact Hsm'.out _ (by omega)
          · decide
        have bY : y.natAbs < 9007199254740992 := by
          rw [Hy.out]; unfold rW; split
          · exact Hsm'.out _ (by omega)
          · decide
        have bt : t.natAbs < 9007199254740992 := by omega
        have hcum : Upd (fun _ => False) wx wx.drew := (Upd.refl _ wx).drew
        clear hu1 hk hlk
        go_region_held3 (fun W => W.rangeAt w.heap.size 0 (cf 33 A) ∧ W.cell? ⟨g, 0, none⟩ = some (.int .i64 x) ∧ W.cell? ⟨g, 1, none⟩ = some (.int .i64 y))
          (first | assumption | exact ⟨ra, x0, y0⟩ | exact keep3 hu (by assumption))
          (first | (go_at_call 32; refine (HSh.out _).mono ?_; rintro e w2 ⟨v1, rfl, hv1, hu⟩; have hcum := hcum.trans hu) | (go_at_call 33; refine (HMe.out _).mono ?_; rintro e w3 ⟨v3, rfl, hv3, hu⟩; have hcum := hcum.trans hu) | (go_at_call 16; refine (share_any _ _ _).mono ?_; rintro e w4 ⟨v2, rfl, hv2, hu⟩; have hcum := hcum.trans hu) | (go_at_call 18; refine (same_share (by assumption) (by assumption) (by assumption) (by assumption) _).mono ?_; rintro e w5 ⟨rfl, rfl⟩))
        have hA4 := G2'.upd hcum (fun h => h)
        have hU4 := G3'.trans hcum
        clear hcum G1' G2' G3' ra x0 y0 hv1 hv2 hv3 hld
        have hl4 := Hld.out _ (by have h := Blk.range hA4 0 33 (by omega); simpa only [Nat.zero_add] using h)
        go_wp2_with fail
        refine (spread_any A Hsm'.out _).mono ?_
        rintro e w6 ⟨zs, hzl, hM, rfl, hu6⟩
        have hA6 := hA4.upd hu6 (fun h => h)
        have hU6 := hU4.trans hu6
        have hr6 := Blk.range hA6 0 32 (by omega)
        simp only [Nat.zero_add] at hr6
        obtain ⟨p, hp⟩ : ∃ p, p = bestOf (-1) zs := ⟨_, rfl⟩
        obtain ⟨q, hq⟩ : ∃ q, q = bestOf 1 zs := ⟨_, rfl⟩
        rw [← hp, ← hq]
        have hlow := least_all zs
        have hhigh := most_all zs
        rw [← hp] at hlow
        rw [← hq] at hhigh
        have hzlt : ∀ x ∈ zs, x < 18446744073709551616 := fun x hx => by
          obtain ⟨i, hi, e⟩ := List.mem_iff_getElem.1 hx
          exact (hM i x (by rw [← e]; exact List.getElem?_eq_getElem hi)).2
        have hpl : p < 18446744073709551616 := by rw [hp]; exact bestOf_lt hzlt
        have hql : q < 18446744073709551616 := by rw [hq]; exact bestOf_lt hzlt
        have HM := Lib.hid hM
        have HL := Lib.hid hlow
        have HH := Lib.hid hhigh
        have HZ := Lib.hid hzl
        have HA6 := Lib.hid hA6
        have HU6 := Lib.hid hU6
        clear hp hq hM hlow hhigh hzl hzlt hl4 hA4 hU4 hu6 hA6 hU6
        go_wp2_with (refine wpList_load_mid rfl 54 _ rfl w.heap.size 0 rfl (cf 32 A) _ hr6 Try.underlying54 rfl (by kernel_rfl) ?_)
        clear hr6
        go_loopw [11, 86] (fun y i wr => Ranging A zs w y i wr) (fun _ i _ => 16 - (intOf i).toNat)
        case atStart => exact ⟨0, by omega, rfl, rfl, HA6.out, HU6.out⟩
        case round =>
          obtain ⟨k, hk, rfl, rfl, hA, hU⟩ := hrel
          by_cases hlk : k < 16
          · have d1 : decide ((k : Int) < 16) = true := decide_eq_true (by omega)
            have d2 : decide (k < 16) = true := decide_eq_true hlk
            have hix := Hidx.out wr k hlk
            obtain ⟨z, hz⟩ : ∃ z, zs[k]? = some z := ⟨_, List.getElem?_eq_getElem (by have := HZ.out; omega)⟩
            have hzm := HM.out k z hz
            have hst := anyK_step hz
            have hzin := List.mem_of_getElem? hz
            obtain ⟨a, ha⟩ : ∃ a, a = A (2 * k) := ⟨_, rfl⟩
            obtain ⟨b, hb⟩ : ∃ b, b = A (2 * k + 1) := ⟨_, rfl⟩
            have ba := Hsm'.out (2 * k) (by omega)
            have bb := Hsm'.out (2 * k + 1) (by omega)
            rw [show k * 2 + 1 = 2 * k + 1 by omega, show k * 2 = 2 * k by omega, ← ha, ← hb] at hzm
            rw [← ha, ← hb] at hix
            rw [← ha] at ba
            rw [← hb] at bb
            obtain ⟨n0, hn0⟩ : ∃ n0, n0 = anyK zs k := ⟨_, rfl⟩
            rw [← hn0] at hst ⊢
            have Hst := Lib.hid hst
            have Ha := Lib.hid ha
            have Hb := Lib.hid hb
            have Hzm := Lib.hid hzm
            have Hzin := Lib.hid hzin
            clear hst ha hb hz hn0 hzm hzin
            go_wp2_with fail
            refine (share_any b a _).mono ?_
            rintro e w7 ⟨v, rfl, hv, hu7⟩
            have hkv := share_same bb ba hv Hzm.out.1
            have lv := share_lt bb ba hv
            have hA7 := (hA.alloc (.cells #[.int .i64 a, .int .i64 b] 53)).upd hu7 (fun h => h)
            have hU7 := (hU.alloc (.cells #[.int .i64 a, .int .i64 b] 53)).trans hu7
            have Hv := Lib.hid hv
            clear hv hix hA hU hu7
            by_cases h0 : kk z = 0
            · have hc : cls v = 0 := (cls_eq_zero lv).2 (hkv.trans h0)
              have Hc := Lib.hid hc
              have H0 := Lib.hid h0
              clear hc hkv h0
              go_wp2_with fail
              refine (class_any v _ lv).mono ?_
              rintro e w8 ⟨rfl, rfl⟩
              rw [Hc.out]
              go_wp2
              go_roundw
              case rel =>
                refine ⟨k + 1, by omega, by go_num, ?_, hA7, hU7⟩
                rw [Hst.out, H0.out]; simp
              case measure => simp [intOf]; omega
            · have hk0 : kk v ≠ 0 := fun h => h0 (hkv ▸ h)
              have hc : cls v ≠ 0 := fun h => hk0 ((cls_eq_zero lv).1 h)
              have dc : (cls v == 0) = false := beq_eq_false_iff_ne.2 hc
              have hlo := HL.out.1 z Hzin.out h0
              have hhi := HH.out.1 z Hzin.out h0
              rw [← hkv] at hlo hhi
              obtain ⟨c1, hc1⟩ : ∃ c, c = sc (kk p) (kk v) := ⟨_, rfl⟩
              obtain ⟨c2, hc2⟩ : ∃ c, c = sc (kk q) (kk v) := ⟨_, rfl⟩
              have e1 : decide (0 < c1) = false := decide_eq_false (by rw [hc1]; have := sc_le_iff.2 hlo.2; omega)
              have e2 : decide (c2 < 0) = false := decide_eq_false (by rw [hc2]; have := sc_ge_iff.2 hhi; omega)
              obtain ⟨c, hcc⟩ : ∃ c, c = cls v := ⟨_, rfl⟩
              rw [← hcc] at dc
              have Hc1 := Lib.hid hc1
              have Hc2 := Lib.hid hc2
              have Hcc := Lib.hid hcc
              have H0 := Lib.hid h0
              have hl7 := Hld.out _ (by have h := Blk.range hA7 0 33 (by omega); simpa only [Nat.zero_add] using h)
              clear hc hk0 hkv hlo hhi hc1 hc2 hcc h0
              go_wp2_with fail
              refine (class_any v _ lv).mono ?_
              rintro e w8 ⟨rfl, rfl⟩
              rw [← Hcc.out]
              go_wp2_with fail
              refine (order_any p v _ hpl lv).mono ?_
              rintro e w8 ⟨rfl, rfl⟩
              rw [← Hc1.out]
              go_wp2_with fail
              refine (order_any q v _ hql lv).mono ?_
              rintro e w8 ⟨rfl, rfl⟩
              rw [← Hc2.out]
              go_wp2_with fail
              refine (mean_any A (k : Int) _).mono ?_
              rintro e w8 ⟨v', rfl, hv', hu8⟩
              rw [rW_nat A k hlk, rO_nat A k hlk, show k * 2 + 1 = 2 * k + 1 by omega, show k * 2 = 2 * k by omega, ← Ha.out, ← Hb.out] at hv'
              clear hl7
              have hA8 := hA7.upd hu8 (fun h => h)
              have hU8 := hU7.trans hu8
              clear hA7 hU7 hu8
              go_wp2_with fail
              refine (same_share hv' Hv.out bb ba _).mono ?_
              rintro e w9 ⟨rfl, rfl⟩
              clear hv'
              go_wp2
              go_roundw
              case rel =>
                refine ⟨k + 1, by omega, by go_num, ?_, hA8, hU8⟩
                have : (kk z != 0) = true := bne_iff_ne.2 H0.out
                rw [Hst.out, this, Bool.or_true]
              case measure => simp [intOf]; omega
          · have hke : k = 16 := by omega
            subst hke
            have hall := anyK_all HZ.out
            obtain ⟨y0, hy0⟩ : ∃ y0, y0 = anyK zs 16 := ⟨_, rfl⟩
            rw [← hy0] at hall ⊢
            have Hall := Lib.hid hall
            have hl8 := Hld.out _ (by have h := Blk.range hA 0 33 (by omega); simpa only [Nat.zero_add] using h)
            obtain ⟨m0, hm0⟩ : ∃ m0, m0 = mo A 16 := ⟨_, rfl⟩
            have hmx := mo_max A 16 (by omega)
            have hml := mo_lt A 16 (by omega)
            have hmost := fun w => Tally.most_any A w
            rw [← hm0] at hmx hml hmost
            have d1 : decide ((m0 : Int) < 0) = false := decide_eq_false (by omega)
            have d2 : decide ((15 : Int) < (m0 : Int)) = false := decide_eq_false (by omega)
            have d2' : decide (15 < m0) = false := decide_eq_false (by omega)
            have Hmx := Lib.hid hmx
            have Hmost := Lib.hid hmost
            clear hmx hmost hm0 hy0 hall
            go_wp2_with fail
            refine (Hmost.out _).mono ?_
            rintro e w7 ⟨rfl, hu7⟩
            have hA7 := hA.upd hu7 (fun h => h)
            have hU7 := hU.trans hu7
            have hr7 := Blk.range hA7 0 32 (by omega)
            simp only [Nat.zero_add] at hr7
            have HA7 := Lib.hid hA7
            have HU7 := Lib.hid hU7
            clear hl8 hA hU hu7 hA7 hU7
            go_wp2_with (refine wpList_load_mid rfl 54 _ rfl w.heap.size 0 rfl (cf 32 A) _ hr7 Try.underlying54 rfl (by kernel_rfl) ?_)
            clear hr7
            go_loopw [127] (fun i wr => Topping A w i wr) (fun i _ => 16 - (intOf i).toNat)
            case atStart => exact ⟨0, by omega, rfl, HA7.out, HU7.out⟩
            case round =>
              obtain ⟨k, hk, rfl, hA, hU⟩ := hrel
              by_cases hlk : k < 16
              · have d3 : decide ((k : Int) < 16) = true := decide_eq_true (by omega)
                have d4 : decide (k < 16) = true := decide_eq_true hlk
                have hix := Hidx.out wr k hlk
                obtain ⟨a, ha⟩ : ∃ a, a = A (2 * k) := ⟨_, rfl⟩
                obtain ⟨b, hb⟩ : ∃ b, b = A (2 * k + 1) := ⟨_, rfl⟩
                obtain ⟨mw, hmw⟩ : ∃ mw, mw = A (2 * m0 + 1) := ⟨_, rfl⟩
                have h1 := Hmx.out.1 k hlk
                have h2 := Hmx.out.2 k
                rw [← hb, ← hmw] at h1 h2
                rw [← ha, ← hb] at hix
                have a1 := (hA.alloc (.cells #[.int .i64 a, .int .i64 b] 53)).cell (m0 * 2 + 1) (cf_get (by omega))
                rw [show m0 * 2 + 1 = 2 * m0 + 1 by omega, ← hmw, show 2 * m0 + 1 = m0 * 2 + 1 by omega] at a1
                have n1 := (Blk.made wr [.int .i64 a, .int .i64 b] 53).cell 1 rfl
                have i1 : (0 : Int) ≤ (m0 : Int) := by omega
                have i2 : (m0 : Int) < 16 := by omega
                have t1 : decide (mw < b) = false := decide_eq_false (by omega)
                clear ha hb hmw
                by_cases hkm : k < m0
                · have t2 : decide ((k : Int) < (m0 : Int)) = true := decide_eq_true (by omega)
                  have t2' : decide (k < m0) = true := decide_eq_true hkm
                  have h3 := h2 hkm
                  have t3 : (b == mw) = false := beq_eq_false_iff_ne.2 (by omega)
                  clear h1 h2 h3
                  go_wp2_with fail
                  go_quiet (fail)
                  go_wp2
                  go_roundw
                  case rel => exact ⟨k + 1, by omega, by go_num, (hA.alloc _).drewN _, (hU.alloc _).drewN _⟩
                  case measure => simp [intOf]; omega
                · have t2 : decide ((k : Int) < (m0 : Int)) = false := decide_eq_false (by omega)
                  have t2' : decide (k < m0) = false := decide_eq_false hkm
                  clear h1 h2
                  go_wp2_with fail
                  go_quiet (fail)
                  go_wp2
                  go_roundw
                  case rel => exact ⟨k + 1, by omega, by go_num, (hA.alloc _).drewN _, (hU.alloc _).drewN _⟩
                  case measure => simp [intOf]; omega
              · have hke : k = 16 := by omega
                subst hke
                obtain ⟨cp, hcp⟩ : ∃ c, c = cls p := ⟨_, rfl⟩
                obtain ⟨cq, hcq⟩ : ∃ c, c = cls q := ⟨_, rfl⟩
                have f1 : (cp != 0) = y0 := by
                  rw [hcp, Bool.eq_iff_iff, bne_iff_ne, Hall.out, Ne, cls_eq_zero hpl]
                  exact ⟨fun h => by obtain ⟨z, hz, e⟩ := HL.out.2 h; exact ⟨z, hz, by omega⟩, fun ⟨z, hz, h⟩ => (HL.out.1 z hz h).1⟩
                have f2 : (cq != 0) = y0 := by
                  rw [hcq, Bool.eq_iff_iff, bne_iff_ne, Hall.out, Ne, cls_eq_zero hql]
                  exact ⟨fun h => by obtain ⟨z, hz, e⟩ := HH.out.2 h; exact ⟨z, hz, by omega⟩, fun ⟨z, hz, h⟩ => by have := HH.out.1 z hz h; omega⟩
                have Hcp := Lib.hid hcp
                have Hcq := Lib.hid hcq
                clear hcp hcq
                go_wp2_with fail
                refine (class_any p _ hpl).mono ?_
                rintro e w8 ⟨rfl, rfl⟩
                rw [← Hcp.out]
                go_wp2_with fail
                refine (class_any q _ hql).mono ?_
                rintro e w8 ⟨rfl, rfl⟩
                rw [← Hcq.out]
                go_wp2
                go_ret
                exact ⟨rfl, hU.below (fun _ _ h => h)⟩

theorem law (w : World) (zs : List Int) (kind : Int) (hl : zs.length = 33) :
    Calls Try.prog 12 #[.agg (zs.map (Value.int .i64)).toArray, .int .i64 kind] w fun e w' => e = .returned (.bool true) ∧ Below w.heap.size w w' := by
  rw [TallyAdds.ag_of zs hl]
  exact law_nat _ kind w
end Go.Proofs.Ytjlcjcgoaakniaa.TallyMeans
