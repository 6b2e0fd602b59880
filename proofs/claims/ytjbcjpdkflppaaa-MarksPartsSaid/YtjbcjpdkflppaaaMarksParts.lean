/- How many are set from a place to another one, and from that on to a third one, are together how many are from the first to the third one: the walk of besomlaw04.MarksParts. -/
import Derived.Test.YtjbcjpdkflppaaaMarksAwake
namespace Go.Proofs.Ytjbcjpdkflppaaa.MarksParts
open Go.RowKit Go.Proofs.Ytjbcjpdkflppaaa.Mem Go.Proofs.Ytjbcjpdkflppaaa.Pop Go.Proofs.Ytjbcjpdkflppaaa.Marks

/-- At the head of a round: so many places are set. -/
def Setting (g : Nat) (cs : List Value) (w : World) (b wb n : Nat) (zs : List Nat) (i : Value) (wr : World) : Prop :=
  ∃ k : Nat, k ≤ zs.length ∧ i = .int .i64 (k : Int) ∧ MapAt wr b wb n (putAll (List.replicate ((n + 63) / 64) 0) ((zs.take k).map (· % n))) ∧ Blk wr g cs 49 ∧ Upd (fun _ => False) w wr

set_option maxHeartbeats 1600000 in
theorem law_yes (w : World) (n : Nat) (a : Option Addr) (cap : Nat) (zs : List Nat) (x y z : Nat) (hn0 : 1 ≤ n) (hn1 : n ≤ 255) (hz : U8s w a zs) (hl : zs.length ≤ 100) (hx : x ≤ 255) (hy : y ≤ 255) (hz9 : z ≤ 255) :
    Calls Try.prog 9 #[.int .u8 (n : Int), .slice a zs.length cap, .agg #[.int .u8 (x : Int), .int .u8 (y : Int), .int .u8 (z : Int)]] w fun e w' => e = .returned (.bool true) ∧ Below w.heap.size w w' := by
  have d1 : decide (100 < (zs.length : Int)) = false := decide_eq_false (by omega)
  have d1' : decide (100 < zs.length) = false := decide_eq_false (by omega)
  have d2 : ((n : Int) == 0) = false := beq_eq_false_iff_ne.2 (by omega)
  have d2' : (n == 0) = false := beq_eq_false_iff_ne.2 (by omega)
  go_enter Try.func9, Try.ntmps9
  go_wp2_with fail
  refine (awake _).mono ?_
  rintro e w1 ⟨rfl, hu1⟩
  have hB1 := (Blk.made w [.int .u8 (x : Int), .int .u8 (y : Int), .int .u8 (z : Int)] 49).upd hu1 (by simp)
  have hU1 := ((Upd.refl (fun _ => False) w).alloc (.cells [.int .u8 (x : Int), .int .u8 (y : Int), .int .u8 (z : Int)].toArray 49)).trans hu1
  go_wp2_with fail
  refine (new_yes n _ hn0 (by omega)).mono ?_
  rintro e w2 ⟨b, wb, rfl, hM, hb, hwb, hu2⟩
  have hB2 := hB1.upd hu2 (by simp)
  have hU2 := hU1.trans hu2
  have hlt := hB1.lt
  go_wp2
  go_loopw [46] (fun i wr => Setting w.heap.size [.int .u8 (x : Int), .int .u8 (y : Int), .int .u8 (z : Int)] w b wb n zs i wr) (fun i _ => zs.length - (intOf i).toNat)
  case atStart => exact ⟨0, Nat.zero_le _, rfl, hM, hB2, hU2⟩
  case round =>
    clear hB2 hU2 hM hB1 hU1
    obtain ⟨k, hk, rfl, hM, hB, hU⟩ := hrel
    by_cases hlk : k < zs.length
    · obtain ⟨v, hv⟩ : ∃ v, zs[k]? = some v := ⟨_, List.getElem?_eq_getElem hlk⟩
      have hzr := hz.below (hU.below (by simp)) rfl
      obtain ⟨bz, off, ha, hc, _⟩ := hzr.cell k v hv
      have hvb := hz.byte k v hv
      have Hv := Lib.hid hv
      have Hz := Lib.hid hz
      have hvn : v % n < n := Nat.mod_lt _ (by omega)
      clear hv hz hzr
      go_wp2_with fail
      clear ha hc
      rw [show ((v : Int) % (n : Int)) = ((v % n : Nat) : Int) from (Int.natCast_emod v n).symm]
      refine (set_yes wr b wb n _ hM (v % n) hvn).mono ?_
      rintro e w3 ⟨rfl, hM3, hu3⟩
      have hB3 := hB.upd hu3 (by intro e; omega)
      have hU3 := hU.next hu3 (by intro i hi e; omega)
      generalize (!has (putAll (List.replicate ((n + 63) / 64) 0) (List.map (fun x => x % n) (List.take k zs))) (v % n)) = fresh
      go_wp2
      go_roundw
      case rel =>
        refine ⟨k + 1, by omega, by go_num, ?_, hB3, hU3⟩
        rw [take_snoc Hv.out, List.map_append, List.map_cons, List.map_nil, putAll_snoc]
        exact hM3
      case measure => simp [intOf]; omega
    · have hke : k = zs.length := by omega
      subst hke
      rw [List.take_length] at hM
      have hc0 := hB.cell 0 rfl
      have hc1 := hB.cell 1 rfl
      have hc2 := hB.cell 2 rfl
      generalize putAll (List.replicate ((n + 63) / 64) 0) (List.map (fun x => x % n) zs) = ws at *
      obtain ⟨A, hA⟩ : ∃ A, A = x % (n + 1) := ⟨_, rfl⟩
      have hA1 : A ≤ n := by have := Nat.mod_lt x (show 0 < n + 1 by omega); omega
      obtain ⟨B', hB'⟩ : ∃ B', B' = y % (n - A + 1) := ⟨_, rfl⟩
      have hB1' : B' ≤ n - A := by have := Nat.mod_lt y (show 0 < n - A + 1 by omega); omega
      obtain ⟨C', hC'⟩ : ∃ C', C' = z % (n - (A + B') + 1) := ⟨_, rfl⟩
      have hC1' : C' ≤ n - (A + B') := by have := Nat.mod_lt z (show 0 < n - (A + B') + 1 by omega); omega
      have eA : (x : Int) % ((n : Int) + 1) = (A : Int) := by rw [hA]; push_cast; rfl
      have eB : (y : Int) % ((n : Int) - (A : Int) + 1) = (B' : Int) := by rw [hB', show (n : Int) - (A : Int) + 1 = ((n - A + 1 : Nat) : Int) by omega]; push_cast; rfl
      obtain ⟨D, hD⟩ : ∃ D, D = A + B' := ⟨_, rfl⟩
      obtain ⟨F, hF⟩ : ∃ F, F = D + C' := ⟨_, rfl⟩
      have eD : (A : Int) + (B' : Int) = (D : Int) := by omega
      have eF : (D : Int) + (C' : Int) = (F : Int) := by omega
      have eC : (z : Int) % ((n : Int) - (D : Int) + 1) = (C' : Int) := by rw [hC', hD, show (n : Int) - ((A + B' : Nat) : Int) + 1 = ((n - (A + B') + 1 : Nat) : Int) by omega]; push_cast; rfl
      have hAD : A ≤ D := by omega
      have hDF : D ≤ F := by omega
      have hFn : F ≤ n := by omega
      have hCA : C' ≤ n := by omega
      have hDn : D ≤ n := by omega
      clear hA hB' hC' hD hF
      obtain ⟨p, hp⟩ : ∃ p, p = ct ws D - ct ws A := ⟨_, rfl⟩
      obtain ⟨q, hq⟩ : ∃ q, q = ct ws F - ct ws D := ⟨_, rfl⟩
      obtain ⟨r, hr⟩ : ∃ r, r = ct ws F - ct ws A := ⟨_, rfl⟩
      have m1 := ct_mono ws hAD
      have m2 := ct_mono ws hDF
      have m3 := ct_le ws A (F - A)
      rw [show A + (F - A) = F by omega] at m3
      have hpq : p + q = r := by omega
      have hrF : r ≤ F - A := by omega
      have Hp := Lib.hid hp
      have Hq := Lib.hid hq
      have Hr := Lib.hid hr
      clear hp hq hr m1 m2 m3
      go_wp2_with fail
      refine (count_yes wr b wb n ws hM A D hAD hDn).mono ?_
      rintro e w3 ⟨rfl, rfl⟩
      rw [← Hp.out]
      go_wp2_with fail
      refine (count_yes wr b wb n ws hM D F hDF hFn).mono ?_
      rintro e w3 ⟨rfl, rfl⟩
      rw [← Hq.out]
      go_wp2_with fail
      refine (count_yes wr b wb n ws hM A F (by omega) hFn).mono ?_
      rintro e w3 ⟨rfl, rfl⟩
      rw [← Hr.out]
      have hp9 : p ≤ 255 := by omega
      have hq9 : q ≤ 255 := by omega
      have d3 : ((p : Int) + (q : Int) == (r : Int)) = true := beq_iff_eq.2 (by omega)
      have d4 : decide ((r : Int) ≤ (F : Int) - (A : Int)) = true := decide_eq_true (by omega)
      clear hpq
      go_wp2
      go_ret
      exact ⟨rfl, hU.below (by simp)⟩

theorem law_no (w : World) (n : Nat) (a : Option Addr) (cap : Nat) (zs : List Nat) (x y z : Nat) (hz : zs.length ≤ 9223372036854775807) (h : 100 < zs.length ∨ n = 0) :
    Calls Try.prog 9 #[.int .u8 (n : Int), .slice a zs.length cap, .agg #[.int .u8 (x : Int), .int .u8 (y : Int), .int .u8 (z : Int)]] w fun e w' => e = .returned (.bool true) ∧ Below w.heap.size w w' := by
  by_cases h1 : 100 < zs.length
  · have d1 : decide (100 < (zs.length : Int)) = true := decide_eq_true (by omega)
    have d1' : decide (100 < zs.length) = true := decide_eq_true h1
    clear h
    go_enter Try.func9, Try.ntmps9
    go_wp2_with fail
    refine (awake _).mono ?_
    rintro e w1 ⟨rfl, hu1⟩
    have hU1 := ((Upd.refl (fun _ => False) w).alloc (.cells [.int .u8 (x : Int), .int .u8 (y : Int), .int .u8 (z : Int)].toArray 49)).trans hu1
    go_wp2_with fail
    refine (awake _).mono ?_
    rintro e w2 ⟨rfl, hu2⟩
    go_wp2
    go_ret
    exact ⟨rfl, (hU1.trans hu2).below (by simp)⟩
  · have hn : n = 0 := by omega
    subst hn
    have d1 : decide (100 < (zs.length : Int)) = false := decide_eq_false (by omega)
    have d1' : decide (100 < zs.length) = false := decide_eq_false h1
    clear h h1
    go_enter Try.func9, Try.ntmps9
    go_wp2_with fail
    refine (awake _).mono ?_
    rintro e w1 ⟨rfl, hu1⟩
    have hU1 := ((Upd.refl (fun _ => False) w).alloc (.cells [.int .u8 (x : Int), .int .u8 (y : Int), .int .u8 (z : Int)].toArray 49)).trans hu1
    go_wp2_with fail
    refine (awake _).mono ?_
    rintro e w2 ⟨rfl, hu2⟩
    go_wp2
    go_ret
    exact ⟨rfl, (hU1.trans hu2).below (by simp)⟩

theorem law (w : World) (n : Int) (hn : (Lit.int .u8 n).wf = true) (a : Option Addr) (cap : Nat) (zs : List Int) (hz : Row.Ints .u8 w a zs) (xs : List Int) (hx : xs.length = 3) (hxs : ∀ x ∈ xs, (Lit.int .u8 x).wf = true) :
    Calls Try.prog 9 #[.int .u8 n, .slice a zs.length cap, .agg (xs.map (Value.int .u8)).toArray] w fun e w' => e = .returned (.bool true) ∧ Below w.heap.size w w' := by
  have hb := bounds_u8 hn
  obtain ⟨m, rfl⟩ : ∃ m : Nat, n = (m : Int) := ⟨n.toNat, by omega⟩
  match xs, hx with
  | [x, y, z], _ =>
    have bx := bounds_u8 (hxs x (by simp))
    have by' := bounds_u8 (hxs y (by simp))
    have bz := bounds_u8 (hxs z (by simp))
    obtain ⟨x', rfl⟩ : ∃ m : Nat, x = (m : Int) := ⟨x.toNat, by omega⟩
    obtain ⟨y', rfl⟩ : ∃ m : Nat, y = (m : Int) := ⟨y.toNat, by omega⟩
    obtain ⟨z', rfl⟩ : ∃ m : Nat, z = (m : Int) := ⟨z.toNat, by omega⟩
    have hu := U8s.of hz
    have hlen : zs.length = (zs.map Int.toNat).length := by simp
    rw [hlen]
    by_cases h : 100 < (zs.map Int.toNat).length ∨ m = 0
    · exact law_no w m a cap _ x' y' z' hu.short h
    · exact law_yes w m a cap _ x' y' z' (by omega) (by omega) hu (by omega) (by omega) (by omega) (by omega)
end Go.Proofs.Ytjbcjpdkflppaaa.MarksParts
