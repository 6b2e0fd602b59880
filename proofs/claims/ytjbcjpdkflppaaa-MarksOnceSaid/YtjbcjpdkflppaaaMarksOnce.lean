/- Each place is told to be new once; as many are set as were: the walk of besomlaw04.MarksOnce. -/
import Derived.Test.YtjbcjpdkflppaaaMarksAwake
namespace Go.Proofs.Ytjbcjpdkflppaaa.MarksOnce
open Go.RowKit Go.Proofs.Ytjbcjpdkflppaaa.Mem Go.Proofs.Ytjbcjpdkflppaaa.Pop Go.Proofs.Ytjbcjpdkflppaaa.Marks

theorem ct_put {ws : List Nat} {k : Nat} (hk : k / 64 < ws.length) : ∀ m, ct (put ws k) m = ct ws m + (if k < m ∧ has ws k = false then 1 else 0)
  | 0 => by simp [ct]
  | m + 1 => by
    have ih := ct_put hk m
    simp only [ct, ih, has_put hk]
    by_cases h1 : m = k
    · subst h1
      cases hb : has ws m <;> simp
    · have e1 : decide (m = k) = false := decide_eq_false h1
      rw [e1, Bool.false_or]
      by_cases h2 : k < m
      · have h3 : k < m + 1 := by omega
        simp only [h2, h3, true_and]
        omega
      · have h3 : ¬ k < m + 1 := by omega
        simp [h2, h3]

/-- At the head of a round: so many places are set, and as many as are told. -/
def Setting (w : World) (b wb n : Nat) (zs : List Nat) (s i : Value) (wr : World) : Prop :=
  ∃ (k : Nat) (ws : List Nat), k ≤ zs.length ∧ i = .int .i64 (k : Int) ∧ s = .int .i64 (ct ws n : Nat) ∧ MapAt wr b wb n ws ∧ Upd (fun _ => False) w wr

set_option maxHeartbeats 3200000 in
theorem law_yes (w : World) (n : Nat) (a : Option Addr) (cap : Nat) (zs : List Nat) (hn0 : 1 ≤ n) (hn1 : n ≤ 255) (hz : U8s w a zs) (hl : zs.length ≤ 200) :
    Calls Try.prog 10 #[.int .u8 (n : Int), .slice a zs.length cap] w fun e w' => e = .returned (.bool true) ∧ Below w.heap.size w w' := by
  have d1 : decide (200 < (zs.length : Int)) = false := decide_eq_false (by omega)
  have d1' : decide (200 < zs.length) = false := decide_eq_false (by omega)
  have d2 : ((n : Int) == 0) = false := beq_eq_false_iff_ne.2 (by omega)
  have d2' : (n == 0) = false := beq_eq_false_iff_ne.2 (by omega)
  go_enter Try.func10, Try.ntmps10
  go_wp2_with fail
  refine (awake _).mono ?_
  rintro e w1 ⟨rfl, hu1⟩
  go_wp2_with fail
  refine (new_yes n _ hn0 (by omega)).mono ?_
  rintro e w2 ⟨b, wb, rfl, hM, hb, hwb, hu2⟩
  have hU2 := hu1.trans hu2
  have hsz := hu1.size
  have hct0 : ∀ m, ct (List.replicate ((n + 63) / 64) 0) m = 0 := by
    intro m
    induction m with
    | zero => rfl
    | succ m ih => simp only [ct, ih, has_zero]; rfl
  have Hct0 := Lib.hid hct0
  clear hct0
  go_wp2
  go_loopw [7, 42] (fun s i wr => Setting w b wb n zs s i wr) (fun _ i _ => zs.length - (intOf i).toNat)
  case atStart => exact ⟨0, _, Nat.zero_le _, rfl, by rw [Hct0.out]; rfl, hM, hU2⟩
  case round =>
    clear hU2 hM
    obtain ⟨k, ws, hk, rfl, rfl, hM, hU⟩ := hrel
    by_cases hlk : k < zs.length
    · obtain ⟨v, hv⟩ : ∃ v, zs[k]? = some v := ⟨_, List.getElem?_eq_getElem hlk⟩
      have hzr := hz.below (hU.below (by simp)) rfl
      obtain ⟨bz, off, ha, hc, _⟩ := hzr.cell k v hv
      have hvb := hz.byte k v hv
      have Hz := Lib.hid hz
      obtain ⟨x, hx⟩ : ∃ x, x = v % n := ⟨_, rfl⟩
      have hxn : x < n := by rw [hx]; exact Nat.mod_lt _ (by omega)
      have ex : ((v : Int) % (n : Int)) = (x : Int) := by rw [hx]; exact (Int.natCast_emod v n).symm
      have hxw : x / 64 < ws.length := by have := hM.len; omega
      have hcp := ct_put hxw n
      have hcl := ct_le ws 0 n
      have hcl2 := ct_le (put ws x) 0 n
      simp only [ct, Nat.zero_add] at hcl hcl2
      clear hv hz hzr hx
      obtain ⟨c0, hc0⟩ : ∃ c, c = ct ws n := ⟨_, rfl⟩
      obtain ⟨c1, hc1⟩ : ∃ c, c = ct (put ws x) n := ⟨_, rfl⟩
      rw [← hc0] at hcl hcp
      rw [← hc1] at hcl2 hcp
      rw [← hc0]
      have hp : has (put ws x) x = true := by rw [has_put hxw]; simp
      have Hp := Lib.hid hp
      have Hc0 := Lib.hid hc0
      have Hc1 := Lib.hid hc1
      clear hp hc0 hc1
      cases hhas : has ws x with
      | true =>
        rw [hhas] at hcp
        have hcc : c1 = c0 := by simpa using hcp
        subst hcc
        have Hh := Lib.hid hhas
        clear hcp hhas
        go_wp2_with fail
        clear ha hc
        refine (has_yes wr b wb n ws hM x hxn).mono ?_
        rintro e w3 ⟨rfl, rfl⟩
        rw [Hh.out]
        go_wp2_with fail
        refine (set_yes wr b wb n ws hM x hxn).mono ?_
        rintro e w3 ⟨rfl, hM3, hu3⟩
        have hU3 := hU.next hu3 (by intro i hi e; omega)
        rw [Hh.out]
        go_wp2_with fail
        refine (has_yes w3 b wb n _ hM3 x hxn).mono ?_
        rintro e w4 ⟨rfl, rfl⟩
        rw [Hp.out]
        go_wp2_with fail
        refine (count_yes w3 b wb n _ hM3 0 n (by omega) (by omega)).mono ?_
        rintro e w4 ⟨rfl, rfl⟩
        rw [show ct (put ws x) n - ct (put ws x) 0 = c1 by rw [← Hc1.out]; simp [ct]]
        go_wp2
        go_roundw
        case rel => exact ⟨k + 1, put ws x, by omega, by go_num, by rw [← Hc1.out], hM3, hU3⟩
        case measure => simp [intOf]; omega
      | false =>
        rw [hhas] at hcp
        have hcc : c1 = c0 + 1 := by simpa [hxn] using hcp
        have ec : (c0 : Int) + 1 = (c1 : Int) := by omega
        have Hh := Lib.hid hhas
        clear hcp hhas hcc
        go_wp2_with fail
        clear ha hc
        refine (has_yes wr b wb n ws hM x hxn).mono ?_
        rintro e w3 ⟨rfl, rfl⟩
        rw [Hh.out]
        go_wp2_with fail
        refine (set_yes wr b wb n ws hM x hxn).mono ?_
        rintro e w3 ⟨rfl, hM3, hu3⟩
        have hU3 := hU.next hu3 (by intro i hi e; omega)
        rw [Hh.out]
        go_wp2_with fail
        refine (has_yes w3 b wb n _ hM3 x hxn).mono ?_
        rintro e w4 ⟨rfl, rfl⟩
        rw [Hp.out]
        go_wp2_with fail
        refine (count_yes w3 b wb n _ hM3 0 n (by omega) (by omega)).mono ?_
        rintro e w4 ⟨rfl, rfl⟩
        rw [show ct (put ws x) n - ct (put ws x) 0 = c1 by rw [← Hc1.out]; simp [ct]]
        go_wp2
        go_roundw
        case rel => exact ⟨k + 1, put ws x, by omega, by go_num, by rw [← Hc1.out], hM3, hU3⟩
        case measure => simp [intOf]; omega
    · have hke : k = zs.length := by omega
      subst hke
      go_wp2
      go_ret
      exact ⟨rfl, hU.below (by simp)⟩

theorem law_no (w : World) (n : Nat) (a : Option Addr) (cap : Nat) (zs : List Nat) (hz : zs.length ≤ 9223372036854775807) (h : 200 < zs.length ∨ n = 0) :
    Calls Try.prog 10 #[.int .u8 (n : Int), .slice a zs.length cap] w fun e w' => e = .returned (.bool true) ∧ Below w.heap.size w w' := by
  by_cases h1 : 200 < zs.length
  · have d1 : decide (200 < (zs.length : Int)) = true := decide_eq_true (by omega)
    have d1' : decide (200 < zs.length) = true := decide_eq_true h1
    clear h
    go_enter Try.func10, Try.ntmps10
    go_wp2_with fail
    refine (awake _).mono ?_
    rintro e w1 ⟨rfl, hu1⟩
    go_wp2_with fail
    refine (awake _).mono ?_
    rintro e w2 ⟨rfl, hu2⟩
    go_wp2
    go_ret
    exact ⟨rfl, (hu1.trans hu2).below (by simp)⟩
  · have hn : n = 0 := by omega
    subst hn
    have d1 : decide (200 < (zs.length : Int)) = false := decide_eq_false (by omega)
    have d1' : decide (200 < zs.length) = false := decide_eq_false h1
    clear h h1
    go_enter Try.func10, Try.ntmps10
    go_wp2_with fail
    refine (awake _).mono ?_
    rintro e w1 ⟨rfl, hu1⟩
    go_wp2_with fail
    refine (awake _).mono ?_
    rintro e w2 ⟨rfl, hu2⟩
    go_wp2
    go_ret
    exact ⟨rfl, (hu1.trans hu2).below (by simp)⟩

theorem law (w : World) (n : Int) (hn : (Lit.int .u8 n).wf = true) (a : Option Addr) (cap : Nat) (zs : List Int) (hz : Row.Ints .u8 w a zs) :
    Calls Try.prog 10 #[.int .u8 n, .slice a zs.length cap] w fun e w' => e = .returned (.bool true) ∧ Below w.heap.size w w' := by
  have hb := bounds_u8 hn
  obtain ⟨m, rfl⟩ : ∃ m : Nat, n = (m : Int) := ⟨n.toNat, by omega⟩
  have hu := U8s.of hz
  have hlen : zs.length = (zs.map Int.toNat).length := by simp
  rw [hlen]
  by_cases h : 200 < (zs.map Int.toNat).length ∨ m = 0
  · exact law_no w m a cap _ hu.short h
  · exact law_yes w m a cap _ (by omega) (by omega) hu (by omega)
end Go.Proofs.Ytjbcjpdkflppaaa.MarksOnce
