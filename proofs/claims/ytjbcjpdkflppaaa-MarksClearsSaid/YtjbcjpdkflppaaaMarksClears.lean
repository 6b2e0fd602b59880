/- Cleared, a map is as a new one: the walk of besomlaw04.MarksClears. -/
import Derived.Test.YtjbcjpdkflppaaaMarksAwake
namespace Go.Proofs.Ytjbcjpdkflppaaa.MarksClears
open Go.RowKit Go.Proofs.Ytjbcjpdkflppaaa.Mem Go.Proofs.Ytjbcjpdkflppaaa.Pop Go.Proofs.Ytjbcjpdkflppaaa.Marks

/-- At the head of a round of the first loop. -/
def First (w : World) (b wb b2 wb2 n : Nat) (zs : List Nat) (i : Value) (wr : World) : Prop :=
  ∃ (k : Nat) (ws : List Nat), k ≤ zs.length ∧ i = .int .i64 (k : Int) ∧ MapAt wr b wb n ws ∧ MapAt wr b2 wb2 n (List.replicate ((n + 63) / 64) 0) ∧ Upd (fun _ => False) w wr
/-- At the head of a round of the second loop: the maps are alike. -/
def Second (w : World) (b wb b2 wb2 n : Nat) (zs : List Nat) (i : Value) (wr : World) : Prop :=
  ∃ (k : Nat) (ws : List Nat), k ≤ zs.length ∧ i = .int .i64 (k : Int) ∧ MapAt wr b wb n ws ∧ MapAt wr b2 wb2 n ws ∧ Upd (fun _ => False) w wr

set_option maxHeartbeats 3200000 in
theorem law_yes (w : World) (n : Nat) (a a' : Option Addr) (cap cap' : Nat) (zs zs' : List Nat) (hn0 : 1 ≤ n) (hn1 : n ≤ 255) (hz : U8s w a zs) (hz' : U8s w a' zs') (hl : zs.length ≤ 100) (hl' : zs'.length ≤ 100) :
    Calls Try.prog 6 #[.int .u8 (n : Int), .slice a zs.length cap, .slice a' zs'.length cap'] w fun e w' => e = .returned (.bool true) ∧ Below w.heap.size w w' := by
  have d1 : decide (100 < (zs.length : Int)) = false := decide_eq_false (by omega)
  have d1' : decide (100 < zs.length) = false := decide_eq_false (by omega)
  have d3 : decide (100 < (zs'.length : Int)) = false := decide_eq_false (by omega)
  have d3' : decide (100 < zs'.length) = false := decide_eq_false (by omega)
  have d2 : ((n : Int) == 0) = false := beq_eq_false_iff_ne.2 (by omega)
  have d2' : (n == 0) = false := beq_eq_false_iff_ne.2 (by omega)
  go_enter Try.func6, Try.ntmps6
  go_wp2_with fail
  refine (awake _).mono ?_
  rintro e w1 ⟨rfl, hu1⟩
  go_wp2_with fail
  refine (new_yes n _ hn0 (by omega)).mono ?_
  rintro e w2 ⟨b, wb, rfl, hM, hb, hwb, hu2⟩
  go_wp2_with fail
  refine (new_yes n _ hn0 (by omega)).mono ?_
  rintro e w3 ⟨b2, wb2, rfl, hM2, hb2, hwb2, hu3⟩
  have hU3 := (hu1.trans hu2).trans hu3
  have hM' := hM.upd hu3 (by simp) (by simp)
  have hsz := hu1.size
  have n1 := hM.str.lt
  have n2 := hM.wds.lt
  have hne1 : b2 ≠ wb := by omega
  have hne2 : wb2 ≠ wb := by omega
  have hne3 : b ≠ wb2 := by omega
  clear hM
  go_wp2
  go_loopw [65] (fun i wr => First w b wb b2 wb2 n zs i wr) (fun i _ => zs.length - (intOf i).toNat)
  case atStart => exact ⟨0, _, Nat.zero_le _, rfl, hM', hM2, hU3⟩
  case round =>
    clear hU3 hM' hM2
    obtain ⟨k, ws, hk, rfl, hM, hM2, hU⟩ := hrel
    by_cases hlk : k < zs.length
    · obtain ⟨v, hv⟩ : ∃ v, zs[k]? = some v := ⟨_, List.getElem?_eq_getElem hlk⟩
      have hzr := hz.below (hU.below (by simp)) rfl
      obtain ⟨bz, off, ha, hc, _⟩ := hzr.cell k v hv
      have hvb := hz.byte k v hv
      have Hz := Lib.hid hz
      have Hz' := Lib.hid hz'
      obtain ⟨x, hx⟩ : ∃ x, x = v % n := ⟨_, rfl⟩
      have hxn : x < n := by rw [hx]; exact Nat.mod_lt _ (by omega)
      have ex : ((v : Int) % (n : Int)) = (x : Int) := by rw [hx]; exact (Int.natCast_emod v n).symm
      clear hv hz hz' hzr hx
      go_wp2_with fail
      clear ha hc
      refine (set_yes wr b wb n ws hM x hxn).mono ?_
      rintro e w4 ⟨rfl, hM3, hu4⟩
      have hU4 := hU.next hu4 (by intro i hi e; omega)
      have hM4 := hM2.upd hu4 hne1 hne2
      generalize (!has ws x) = fresh
      go_wp2
      go_roundw
      case rel => exact ⟨k + 1, put ws x, by omega, by go_num, hM3, hM4, hU4⟩
      case measure => simp [intOf]; omega
    · have hke : k = zs.length := by omega
      subst hke
      have hlen := hM.len
      have Hlen := Lib.hid hlen
      clear hlen
      go_wp2_with fail
      refine (clear_any wr b wb n ws hM).mono ?_
      rintro e w4 ⟨rfl, hM3, hu4⟩
      have hU4 := hU.next hu4 (by intro i hi e; omega)
      have hM4 := hM2.upd hu4 hne1 hne2
      rw [Hlen.out] at hM3
      clear hM hM2 hU
      go_wp2
      go_loopw [81] (fun i wr => Second w b wb b2 wb2 n zs' i wr) (fun i _ => zs'.length - (intOf i).toNat)
      case atStart => exact ⟨0, _, Nat.zero_le _, rfl, hM3, hM4, hU4⟩
      case round =>
        clear hU4 hM3 hM4
        obtain ⟨k, ws, hk, rfl, hM, hM2, hU⟩ := hrel
        by_cases hlk : k < zs'.length
        · obtain ⟨v, hv⟩ : ∃ v, zs'[k]? = some v := ⟨_, List.getElem?_eq_getElem hlk⟩
          have hzr := hz'.below (hU.below (by simp)) rfl
          obtain ⟨bz, off, ha, hc, _⟩ := hzr.cell k v hv
          have hvb := hz'.byte k v hv
          have Hz := Lib.hid hz
          have Hz' := Lib.hid hz'
          obtain ⟨x, hx⟩ : ∃ x, x = v % n := ⟨_, rfl⟩
          have hxn : x < n := by rw [hx]; exact Nat.mod_lt _ (by omega)
          have ex : ((v : Int) % (n : Int)) = (x : Int) := by rw [hx]; exact (Int.natCast_emod v n).symm
          clear hv hz hz' hzr hx
          obtain ⟨fresh, hf⟩ : ∃ fresh, fresh = !has ws x := ⟨_, rfl⟩
          have Hf := Lib.hid hf
          clear hf
          go_wp2_with fail
          clear ha hc
          refine (set_yes _ b wb n ws hM x hxn).mono ?_
          rintro e w5 ⟨rfl, hM5, hu5⟩
          rw [← Hf.out]
          have hU5 := hU.next hu5 (by intro i hi e; omega)
          have hM25 := hM2.upd hu5 hne1 hne2
          go_wp2_with fail
          refine (set_yes w5 b2 wb2 n ws hM25 x hxn).mono ?_
          rintro e w6 ⟨rfl, hM26, hu6⟩
          rw [← Hf.out]
          have hU6 := hU5.next hu6 (by intro i hi e; omega)
          have hM6 := hM5.upd hu6 hne3 (Ne.symm hne2)
          go_wp2
          go_roundw
          case rel => exact ⟨k + 1, put ws x, by omega, by go_num, hM6, hM26, hU6⟩
          case measure => simp [intOf]; omega
        · have hke : k = zs'.length := by omega
          subst hke
          go_wp2
          go_loop [111] (fun i => ∃ k : Nat, k ≤ n ∧ i = .int .i64 (k : Int)) (fun i => n - (intOf i).toNat)
          case atStart => exact ⟨0, Nat.zero_le _, rfl⟩
          case round =>
            obtain ⟨k, hk, rfl⟩ := hrel
            by_cases hlk : k < n
            · obtain ⟨y, hy⟩ : ∃ y, y = has ws k := ⟨_, rfl⟩
              have Hy := Lib.hid hy
              clear hy
              go_wp2_with fail
              refine (has_yes _ b wb n ws hM k hlk).mono ?_
              rintro e w5 ⟨rfl, rfl⟩
              rw [← Hy.out]
              go_wp2_with fail
              refine (has_yes _ b2 wb2 n ws hM2 k hlk).mono ?_
              rintro e w5 ⟨rfl, rfl⟩
              rw [← Hy.out]
              go_wp2
              go_round
              case rel => exact ⟨k + 1, by omega, by go_num⟩
              case measure => simp [intOf]; omega
            · have hke : k = n := by omega
              subst hke
              go_wp2_with fail
              refine (size_any _ b wb _ ws hM).mono ?_
              rintro e w5 ⟨rfl, rfl⟩
              go_wp2
              go_ret
              exact ⟨rfl, hU.below (by simp)⟩

theorem law_no (w : World) (n : Nat) (a a' : Option Addr) (cap cap' : Nat) (zs zs' : List Nat) (hz : zs.length ≤ 9223372036854775807) (hz' : zs'.length ≤ 9223372036854775807) (h : 100 < zs.length ∨ 100 < zs'.length ∨ n = 0) :
    Calls Try.prog 6 #[.int .u8 (n : Int), .slice a zs.length cap, .slice a' zs'.length cap'] w fun e w' => e = .returned (.bool true) ∧ Below w.heap.size w w' := by
  by_cases h1 : 100 < zs.length
  · have d1 : decide (100 < (zs.length : Int)) = true := decide_eq_true (by omega)
    have d1' : decide (100 < zs.length) = true := decide_eq_true h1
    clear h
    go_enter Try.func6, Try.ntmps6
    go_wp2_with fail
    refine (awake _).mono ?_
    rintro e w1 ⟨rfl, hu1⟩
    go_wp2_with fail
    refine (awake _).mono ?_
    rintro e w2 ⟨rfl, hu2⟩
    go_wp2
    go_ret
    exact ⟨rfl, (hu1.trans hu2).below (by simp)⟩
  by_cases h2 : 100 < zs'.length
  · have d1 : decide (100 < (zs.length : Int)) = false := decide_eq_false (by omega)
    have d1' : decide (100 < zs.length) = false := decide_eq_false h1
    have d2 : decide (100 < (zs'.length : Int)) = true := decide_eq_true (by omega)
    have d2' : decide (100 < zs'.length) = true := decide_eq_true h2
    clear h h1
    go_enter Try.func6, Try.ntmps6
    go_wp2_with fail
    refine (awake _).mono ?_
    rintro e w1 ⟨rfl, hu1⟩
    go_wp2_with fail
    refine (awake _).mono ?_
    rintro e w2 ⟨rfl, hu2⟩
    go_wp2
    go_ret
    exact ⟨rfl, (hu1.trans hu2).below (by simp)⟩
  · have hn : n = 0 := by omega
    subst hn
    have d1 : decide (100 < (zs.length : Int)) = false := decide_eq_false (by omega)
    have d1' : decide (100 < zs.length) = false := decide_eq_false h1
    have d2 : decide (100 < (zs'.length : Int)) = false := decide_eq_false (by omega)
    have d2' : decide (100 < zs'.length) = false := decide_eq_false h2
    clear h h1 h2
    go_enter Try.func6, Try.ntmps6
    go_wp2_with fail
    refine (awake _).mono ?_
    rintro e w1 ⟨rfl, hu1⟩
    go_wp2_with fail
    refine (awake _).mono ?_
    rintro e w2 ⟨rfl, hu2⟩
    go_wp2
    go_ret
    exact ⟨rfl, (hu1.trans hu2).below (by simp)⟩

theorem law (w : World) (n : Int) (hn : (Lit.int .u8 n).wf = true) (a : Option Addr) (cap : Nat) (zs : List Int) (hz : Row.Ints .u8 w a zs) (a' : Option Addr) (cap' : Nat) (zs' : List Int) (hz' : Row.Ints .u8 w a' zs') :
    Calls Try.prog 6 #[.int .u8 n, .slice a zs.length cap, .slice a' zs'.length cap'] w fun e w' => e = .returned (.bool true) ∧ Below w.heap.size w w' := by
  have hb := bounds_u8 hn
  obtain ⟨m, rfl⟩ : ∃ m : Nat, n = (m : Int) := ⟨n.toNat, by omega⟩
  have hu := U8s.of hz
  have hu' := U8s.of hz'
  have hlen : zs.length = (zs.map Int.toNat).length := by simp
  have hlen' : zs'.length = (zs'.map Int.toNat).length := by simp
  rw [hlen, hlen']
  by_cases h : 100 < (zs.map Int.toNat).length ∨ 100 < (zs'.map Int.toNat).length ∨ m = 0
  · exact law_no w m a a' cap cap' _ _ hu.short hu'.short h
  · exact law_yes w m a a' cap cap' _ _ (by omega) (by omega) hu hu' (by omega) (by omega)
end Go.Proofs.Ytjbcjpdkflppaaa.MarksClears
