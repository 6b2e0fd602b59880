/- Tallies: a kind's row, the sum of all, the mean and the share. -/
import Derived.Test.YtjlcjcgoaakniaaTally
namespace Go.Proofs.Ytjlcjcgoaakniaa.Tally
open Go.RowKit Go.Proofs.Ytjlcjcgoaakniaa.Mem Go.Proofs.Ytjlcjcgoaakniaa.Gauge

theorem keepR {w w' : World} (h : Upd (fun _ => False) w w') {b o : Nat} {cs : List Value} (hr : w.rangeAt b o cs) : w'.rangeAt b o cs := fun j v hv => keep0 h (hr j v hv)

theorem run_cells33 (P : Program) (W : World) (b : Nat) (A : Nat → Int) (h : W.rangeAt b 0 (cf 33 A)) : (loadCellsFrom ⟨b, 0, none⟩ 0 33 #[]).run P W = .ok (cf 33 A).toArray W := by
  have := run_loadCells_list (P := P) W ⟨b, 0, none⟩ (cf 33 A) (fun j v hv => by rw [Addr.add_mid]; exact h j v hv)
  rw [cf_len] at this
  exact this

theorem field_words (x y : Int) (w : World) : (Instr.field 53 (.agg #[.int .i64 x, .int .i64 y]) 1).run Try.prog w = .ok (.int .i64 y) w := by
  simp [Instr.field, asAgg, part]
theorem field_size (A : Nat → Int) (w : World) : (Instr.field 56 (ag 33 A) 1).run Try.prog w = .ok (.int .i64 (A 32)) w := by
  simp [Instr.field, asAgg, part]
  rw [cf_get (by omega)]
  rfl

def rO (A : Nat → Int) (k : Int) : Int := if 0 ≤ k ∧ k < 16 then A (k.toNat * 2) else 0
def rW (A : Nat → Int) (k : Int) : Int := if 0 ≤ k ∧ k < 16 then A (k.toNat * 2 + 1) else 0

theorem row_any (A : Nat → Int) (k : Int) (w : World) :
    Calls Try.prog 55 #[ag 33 A, .int .i64 k] w fun e w' => e = .returned (two (rO A k) (rW A k)) ∧ Upd (fun _ => False) w w' := by
  by_cases h0 : k < 0
  · have d : decide (k < 0) = true := decide_eq_true h0
    have e1 : rO A k = 0 := if_neg (by omega)
    have e2 : rW A k = 0 := if_neg (by omega)
    rw [e1, e2]
    go_enter Try.func55, Try.ntmps55
    go_wp2
    refine bodyPost_ret (results_cell_row rfl _ _ (w.heap.size + 1) 53 #[.int .i64 0, .int .i64 0] (0, 0) _ rfl ?_ Try.underlying53 rfl (by kernel_rfl)) rfl ?_
    · refine last_block _ ?_
      rw [World.size_alloc]
    · exact ⟨rfl, ((Upd.refl _ w).alloc _).alloc _⟩
  · have d : decide (k < 0) = false := decide_eq_false h0
    by_cases h1 : 16 ≤ k
    · have d1 : decide (16 ≤ k) = true := decide_eq_true h1
      have e1 : rO A k = 0 := if_neg (by omega)
      have e2 : rW A k = 0 := if_neg (by omega)
      rw [e1, e2]
      go_enter Try.func55, Try.ntmps55
      go_wp2
      refine bodyPost_ret (results_cell_row rfl _ _ (w.heap.size + 1) 53 #[.int .i64 0, .int .i64 0] (0, 0) _ rfl ?_ Try.underlying53 rfl (by kernel_rfl)) rfl ?_
      · refine last_block _ ?_
        rw [World.size_alloc]
      · exact ⟨rfl, ((Upd.refl _ w).alloc _).alloc _⟩
    · obtain ⟨n, rfl⟩ : ∃ n : Nat, k = (n : Int) := ⟨k.toNat, by omega⟩
      have hn : n < 16 := by omega
      have d1 : decide ((16 : Int) ≤ (n : Int)) = false := decide_eq_false h1
      have d1' : decide (16 ≤ n) = false := decide_eq_false (by omega)
      have e1 : rO A (n : Int) = A (n * 2) := by unfold rO; rw [if_pos (by omega), Int.toNat_natCast]
      have e2 : rW A (n : Int) = A (n * 2 + 1) := by unfold rW; rw [if_pos (by omega), Int.toNat_natCast]
      rw [e1, e2]
      have hA : Blk ((w.alloc (.cells (cf 33 A).toArray 56)).alloc (.cells #[.int .i64 0, .int .i64 0] 53)) w.heap.size (cf 33 A) 56 := (Blk.made w (cf 33 A) 56).alloc _
      have a0 := hA.cell (n * 2) (cf_get (by omega))
      have a1 := hA.cell (n * 2 + 1) (cf_get (by omega))
      have i1 : (0 : Int) ≤ (n : Int) := by omega
      have i2 : (n : Int) < 16 := by omega
      clear e1 e2
      go_enter Try.func55, Try.ntmps55
      go_wp2
      refine bodyPost_ret (results_cell_row rfl _ _ (w.heap.size + 1) 53 #[.int .i64 (A (n * 2)), .int .i64 (A (n * 2 + 1))] (0, 0) _ rfl ?_ Try.underlying53 rfl (by kernel_rfl)) rfl ?_
      · refine last_block _ ?_
        rw [World.size_alloc]
      · exact ⟨rfl, ((Upd.refl _ w).alloc _).alloc _⟩

/-- The sums of the first rows. -/
def sO (A : Nat → Int) : Nat → Int
  | 0 => 0
  | k + 1 => wadd (sO A k) (A (2 * k))
def sW (A : Nat → Int) : Nat → Int
  | 0 => 0
  | k + 1 => wadd (sW A k) (A (2 * k + 1))

def Summing (A : Nat → Int) (w : World) (i : Value) (wr : World) : Prop :=
  ∃ k : Nat, k ≤ 16 ∧ i = .int .i64 (k : Int) ∧ Blk wr (w.heap.size + 1) [.int .i64 0, .int .i64 0] 53 ∧ Blk wr (w.heap.size + 2) [.int .i64 (sO A k), .int .i64 (sW A k)] 53 ∧ Upd (fun _ => False) w wr

set_option maxRecDepth 20000 in
theorem all_any (A : Nat → Int) (w : World) :
    Calls Try.prog 41 #[ag 33 A] w fun e w' => e = .returned (two (sO A 16) (sW A 16)) ∧ Upd (fun _ => False) w w' := by
  have hidx : ∀ (w : World) (k : Nat), k < 16 → (Instr.index 54 (ag 32 A) (.int .i64 (k : Int))).run Try.prog w = .ok (two (A (2 * k)) (A (2 * k + 1))) w := fun w k hk =>
    run_part _ w _ 53 16 32 A k _ Try.underlying54 Try.underlying53 rfl (by kernel_rfl) hk rfl
  go_enter Try.func41, Try.ntmps41
  go_wp2_with (refine wpList_load_mid rfl 54 _ rfl w.heap.size 0 rfl (cf 32 A) _ ?rng Try.underlying54 rfl (by kernel_rfl) ?_)
  case rng =>
    exact Blk.range (n := 33) (((Blk.made w (cf 33 A) 56).alloc _).alloc _) 0 32 (by omega)
  go_loopw [8] (fun i wr => Summing A w i wr) (fun i _ => 16 - (intOf i).toNat)
  case atStart =>
    refine ⟨0, by omega, rfl, ?_, ?_, (((Upd.refl _ w).alloc _).alloc _).alloc _⟩
    · exact (Blk.made' w _ [.int .i64 0, .int .i64 0] 53).alloc _
    · have h := Blk.made ((w.alloc (.cells (cf 33 A).toArray 56)).alloc (.cells #[.int .i64 0, .int .i64 0] 53)) [.int .i64 0, .int .i64 0] 53
      rw [World.size_alloc, World.size_alloc] at h
      exact h
  case round =>
    obtain ⟨k, hk, rfl, hR, hS, hU⟩ := hrel
    by_cases hlk : k < 16
    · have d1 : decide ((k : Int) < 16) = true := decide_eq_true (by omega)
      have d2 : decide (k < 16) = true := decide_eq_true hlk
      have hix := hidx wr k hlk
      have a0 := hS.cell 0 rfl
      have a1 := hS.cell 1 rfl
      have hlt := hS.lt
      clear hidx
      go_wp2_with fail
      refine (plus_any _ _ _ _ _).mono ?_
      rintro e w2 ⟨rfl, hu⟩
      have hS2 := (hS.alloc (.cells #[.int .i64 (A (2 * k)), .int .i64 (A (2 * k + 1))] 53)).upd hu (fun h => h)
      have c0 := hS2.cell 0 rfl
      have c1 := hS2.cell 1 rfl
      have f0 := hS2.frozen 0
      have f1 := hS2.frozen 1
      clear a0 a1
      go_wp2
      go_roundw
      case rel =>
        refine ⟨k + 1, by omega, by go_num, ?_, ?_, ?_⟩
        · exact ((((hR.alloc _)).upd hu (fun h => h)).setOther _ (by simp)).setOther _ (by simp)
        · exact (hS2.set 0 _).set 1 _
        · exact ((((hU.alloc _)).trans hu).setCell _ (fun (h : w.heap.size + 2 < w.heap.size) => by omega)).setCell _ (fun (h : w.heap.size + 2 < w.heap.size) => by omega)
      case measure => simp [intOf]; omega
    · have hke : k = 16 := by omega
      subst hke
      clear hidx
      have a0 := hS.cell 0 rfl
      have a1 := hS.cell 1 rfl
      have r0 := hR.cell 0 rfl
      have r1 := hR.cell 1 rfl
      have f0 := hR.frozen 0
      have f1 := hR.frozen 1
      go_wp2
      refine bodyPost_ret (results_cell_row rfl _ _ (w.heap.size + 1) 53 #[.int .i64 (sO A 16), .int .i64 (sW A 16)] (0, 0) _ rfl ?_ Try.underlying53 rfl (by kernel_rfl)) rfl ?_
      · exact (hR.set 0 _).set 1 _
      · exact ⟨rfl, (hU.setCell _ (fun (h : w.heap.size + 1 < w.heap.size) => by omega)).setCell _ (fun (h : w.heap.size + 1 < w.heap.size) => by omega)⟩

set_option maxRecDepth 20000 in
theorem mean_any (A : Nat → Int) (k : Int) (w : World) :
    Calls Try.prog 33 #[ag 33 A, .int .i64 k] w fun e w' => ∃ v, e = .returned (.float .f64 v) ∧ ShareOf (rW A k) (rO A k) v ∧ Upd (fun _ => False) w w' := by
  obtain ⟨x, hx⟩ : ∃ x, x = rW A k := ⟨_, rfl⟩
  obtain ⟨y, hy⟩ : ∃ y, y = rO A k := ⟨_, rfl⟩
  have hrow := fun w => row_any A k w
  rw [← hx, ← hy] at hrow
  rw [← hx, ← hy]
  clear hx hy
  have HR := Lib.hid hrow
  clear hrow
  have hr := Blk.range (n := 33) (Blk.made w (cf 33 A) 56) 0 33 (by omega)
  go_enter Try.func33, Try.ntmps33
  go_wp2_with (first | (refine wpList_load_mid rfl 56 _ rfl w.heap.size 0 rfl (cf 33 A) _ (by simpa using hr) Try.underlying56 rfl (by kernel_rfl) ?_))
  refine (HR.out _).mono ?_
  rintro e w1 ⟨rfl, hu⟩
  clear hr
  go_wp2_with fail
  refine (share_any x y _).mono ?_
  rintro e w2 ⟨v, rfl, hv, hu2⟩
  go_wp2
  go_ret
  refine ⟨v, rfl, hv, ?_⟩
  exact ((((Upd.refl _ w).alloc _).trans hu).alloc _).trans hu2

attribute [-simp] Try.sizeOf56 in
set_option maxRecDepth 20000 in
theorem share_row_any (A : Nat → Int) (k : Int) (w : World) :
    Calls Try.prog 32 #[ag 33 A, .int .i64 k] w fun e w' => ∃ v, e = .returned (.float .f64 v) ∧ ShareOf (rW A k) (sW A 16) v ∧ Upd (fun _ => False) w w' := by
  obtain ⟨x, hx⟩ : ∃ x, x = rW A k := ⟨_, rfl⟩
  obtain ⟨y, hy⟩ : ∃ y, y = rO A k := ⟨_, rfl⟩
  obtain ⟨z, hz⟩ : ∃ z, z = sW A 16 := ⟨_, rfl⟩
  obtain ⟨t, ht⟩ : ∃ t, t = sO A 16 := ⟨_, rfl⟩
  have hrow := fun w => row_any A k w
  have hall := fun w => all_any A w
  rw [← hx, ← hy] at hrow
  rw [← hz, ← ht] at hall
  rw [← hx, ← hz]
  clear hx hy hz ht
  have HR := Lib.hid hrow
  have HA := Lib.hid hall
  clear hrow hall
  have hr := Blk.range (n := 33) (Blk.made w (cf 33 A) 56) 0 33 (by omega)
  go_enter Try.func32, Try.ntmps32
  go_wp2_with fail
  obtain ⟨n, hn⟩ : ∃ n, n = 33 := ⟨_, rfl⟩
  have hsz : ∀ W : World, (sizeOf 56).run Try.prog W = .ok n W := fun W => by rw [hn]; exact Try.sizeOf56 W
  have hld : ∀ W : World, W.rangeAt w.heap.size 0 (cf 33 A) → (loadCellsFrom ⟨w.heap.size, 0, none⟩ 0 n #[]).run Try.prog W = .ok (cf 33 A).toArray W := fun W h => by
    rw [hn]; exact run_cells33 _ W _ A h
  clear hn
  have hr' : (w.alloc (.cells (cf 33 A).toArray 56)).rangeAt w.heap.size 0 (cf 33 A) := by simpa using hr
  clear hr
  have hfw := field_words x z
  have hfw1 := field_words y x
  have hfw2 := field_words t z
  go_region_held3 (fun W => W.rangeAt w.heap.size 0 (cf 33 A)) (first | exact hr' | (exact keepR hu (by assumption)))
    (first | (go_at_call 55; refine (HR.out _).mono ?_; rintro e w2 ⟨rfl, hu⟩; have u1 := hu) | (go_at_call 41; refine (HA.out _).mono ?_; rintro e w3 ⟨rfl, hu⟩; have u2 := hu) | (go_at_call 16; refine (share_any _ _ _).mono ?_; rintro e w4 ⟨v, rfl, hv, hu⟩; have u3 := hu))
  go_wp2
  go_ret
  exact ⟨v, rfl, hv, (((((Upd.refl _ w).alloc _).drew).trans u1).trans u2).trans u3⟩

theorem zero_rows (k : Int) : rO (fun _ => 0) k = 0 ∧ rW (fun _ => 0) k = 0 := by
  unfold rO rW
  constructor <;> split <;> rfl
theorem zero_sum : ∀ k, sW (fun _ => 0) k = 0
  | 0 => rfl
  | k + 1 => by
    unfold sW
    rw [zero_sum k]
    decide +kernel

attribute [-simp] Try.sizeOf56 in
set_option maxRecDepth 20000 in
theorem awake19 (w : World) : Calls Try.prog 30 #[] w fun e w' => e = .returned (.bool true) ∧ Upd (fun _ => False) w w' := by
  obtain ⟨n, hn⟩ : ∃ n, n = 33 := ⟨_, rfl⟩
  have hsz : ∀ W : World, (sizeOf 56).run Try.prog W = .ok n W := fun W => by rw [hn]; exact Try.sizeOf56 W
  have hld : ∀ W : World, W.rangeAt w.heap.size 0 (cf 33 fun _ => 0) → (loadCellsFrom ⟨w.heap.size, 0, none⟩ 0 n #[]).run Try.prog W = .ok (cf 33 fun _ => 0).toArray W := fun W h => by
    rw [hn]; exact run_cells33 _ W _ _ h
  clear hn
  have hr : (w.alloc (.cells #[.int .i64 0, .int .i64 0, .int .i64 0, .int .i64 0, .int .i64 0, .int .i64 0, .int .i64 0, .int .i64 0, .int .i64 0, .int .i64 0, .int .i64 0, .int .i64 0, .int .i64 0, .int .i64 0, .int .i64 0, .int .i64 0, .int .i64 0, .int .i64 0, .int .i64 0, .int .i64 0, .int .i64 0, .int .i64 0, .int .i64 0, .int .i64 0, .int .i64 0, .int .i64 0, .int .i64 0, .int .i64 0, .int .i64 0, .int .i64 0, .int .i64 0, .int .i64 0, .int .i64 0] 56)).rangeAt w.heap.size 0 (cf 33 fun _ => 0) := Blk.range (n := 33) (f := fun _ => 0) (Blk.made w (cf 33 fun _ => 0) 56) 0 33 (by omega)
  have hl0 := hld _ hr
  have Hr := Lib.hid hr
  clear hr
  go_enter Try.func30, Try.ntmps30
  go_wp2_with fail
  refine (mean_any (fun _ => 0) 3 _).mono ?_
  rintro e w1 ⟨v, rfl, hv, hu⟩
  rw [(zero_rows 3).1, (zero_rows 3).2] at hv
  have hn1 := share_none hv
  have hc := hn1.cls
  have Hc := Lib.hid hc
  have hr1 := keepR hu Hr.out
  have hl1 := hld _ hr1
  have Hr1 := Lib.hid hr1
  clear hl0 hc hv hr1
  go_wp2_with fail
  refine (class_any v _ hn1.1).mono ?_
  rintro e w2 ⟨rfl, rfl⟩
  rw [Hc.out]
  clear Hc
  go_wp2_with fail
  refine (share_row_any (fun _ => 0) 3 _).mono ?_
  rintro e w2 ⟨v2, rfl, hv, hu2⟩
  rw [(zero_rows 3).2, zero_sum] at hv
  have hn2 := share_none hv
  have hc := hn2.cls
  have Hc := Lib.hid hc
  have hr2 := keepR hu2 Hr1.out
  have hl2 := hld _ hr2
  clear hl1 hc hv hr2
  go_wp2_with fail
  refine (class_any v2 _ hn2.1).mono ?_
  rintro e w3 ⟨rfl, rfl⟩
  rw [Hc.out]
  clear Hc
  have hfs := fun w => field_size (fun i => wadd ((fun _ => 0 : Nat → Int) i) ((fun i => if i = 32 then 2 else 0 : Nat → Int) i)) w
  go_wp2_with fail
  refine (add_any (fun _ => 0) (fun i => if i = 32 then 2 else 0) _).mono ?_
  rintro e w4 ⟨rfl, hu4⟩
  go_wp2
  go_ret
  have e : (wadd 0 2 == 2) = true := by decide +kernel
  refine ⟨?_, ((((Upd.refl _ w).alloc _).trans hu).trans hu2).trans hu4⟩
  show Ending.returned (.bool (wadd 0 2 == 2)) = _
  rw [e]
end Go.Proofs.Ytjlcjcgoaakniaa.Tally
