/- alloc.New: slices.Repeat of one number. -/
import Derived.Test.YtapjajclmbpjmaaGreatDoorCell
import Derived.Test.YtapjajclmbpjmaaGreatDoorHead
import Derived.Laws.Bits64b
set_option linter.unusedSimpArgs false
namespace Go.Proofs.YtapjajclmbpjmaaGreatDoor.Sys
open Go.RowKit Go.Proofs.YtapjajclmbpjmaaGreatDoor.Mem Go.Proofs.YtapjajclmbpjmaaGreatDoor.Heap

theorem mask_small (a : Nat) (ha : a < 4294967296) : bits .and .u64 (a : Int) 4294967295 = (a : Int) := by
  have h := bits_and_u64_nat a 4294967295 (by omega) (by omega)
  have e : a &&& 4294967295 = a := by
    have := Nat.and_two_pow_sub_one_eq_mod a 32
    rw [show 2 ^ 32 - 1 = 4294967295 by rfl] at this
    rw [this]
    exact Nat.mod_eq_of_lt (by omega)
  rw [e] at h
  exact h
theorem mul64_one (n : Nat) (w : World) (hn : n ≤ 64) :
    Calls Tryz.prog 69 #[.int .u64 1, .int .u64 (n : Int)] w fun e w' => e = .returned (.tuple #[.int .u64 0, .int .u64 (n : Int)]) ∧ w' = w := by
  have m1 : bits .and .u64 1 4294967295 = 1 := mask_small 1 (by omega)
  have m0 : bits .and .u64 0 4294967295 = 0 := mask_small 0 (by omega)
  have m2 := mask_small n (by omega)
  have v1 : IntKind.u64.wrap (n : Int) = (n : Int) := by rw [IntKind.wrap_u64]; omega
  have v2 : (n : Int) / 4294967296 = 0 := by omega
  go_enter Tryz.func69, Tryz.ntmps69
  go_wp2_with fail
  go_ret2
  exact ⟨rfl, rfl⟩
theorem mul_one (n : Nat) (w : World) (hn : n ≤ 64) :
    Calls Tryz.prog 45 #[.int .u64 1, .int .u64 (n : Int)] w fun e w' => e = .returned (.tuple #[.int .u64 0, .int .u64 (n : Int)]) ∧ w' = w := by
  have HM := Lib.hid (fun (V : World) => mul64_one n V hn)
  have v1 : IntKind.u64.wrap (n : Int) = (n : Int) := by rw [IntKind.wrap_u64]; omega
  go_enter Tryz.func45, Tryz.ntmps45
  go_wp2_with fail
  refine (HM.out _).mono ?_
  rintro e w1 ⟨rfl, rfl⟩
  go_wp2_with fail
  go_ret2
  exact ⟨rfl, rfl⟩
theorem run_copy_part (P : Program) (w : World) (t e t' : TypeId) (ht : P.underlying t = some (.slice e)) (hs : (P.info? e).map (·.size) = some 1) (g o dLen dCap : Nat) (a : Addr) (sLen sCap : Nat) (cur cs : List Value) (hB : Blk w g cur t') (hn : cs.length = min sLen dLen)
    (hsrc : ∀ j v, cs[j]? = some v → w.cell? (a.add j) = some v) (hfit : o + cs.length ≤ cur.length) (h1 : ∀ v ∈ cs, v.oneCell' = true) :
    ∃ w', (∀ ty, (Builtin.copy_ #[t, t] ty #[.slice (some ⟨g, o, none⟩) dLen dCap, .slice (some a) sLen sCap]).run P w = .ok (.int .i64 (cs.length : Int)) w') ∧ Blk w' g (cur.take o ++ cs ++ cur.drop (o + cs.length)) t' ∧ Upd (fun k => k = g) w w' := by
  refine ⟨w.setRow g (cur.take o ++ cs ++ cur.drop (o + cs.length)).toArray, fun ty => ?_, ?_, ⟨rfl, rfl, rfl, by simp, fun k _ hk => setRow_other w g k _ hk⟩⟩
  · exact run_copy_row (P := P) w t t ty e g o dLen dCap a sLen sCap cur.toArray t' cs ht hs hB hn hsrc (by simpa using hfit) h1
  · exact setRow_heap w g _ (cur.take o ++ cs ++ cur.drop (o + cs.length)).toArray t' _ hB
theorem rep_step (n m k : Nat) :
    (ints (List.replicate m (-1) ++ List.replicate (n - m) 0)).take m ++ ints (List.replicate k (-1)) ++ (ints (List.replicate m (-1) ++ List.replicate (n - m) 0)).drop (m + (ints (List.replicate k (-1))).length) = ints (List.replicate (m + k) (-1) ++ List.replicate (n - (m + k)) 0) := by
  simp only [ints, List.map_append, List.map_replicate, List.length_replicate]
  rw [List.take_left' (by simp), ← List.drop_drop, List.drop_left' (by simp), List.drop_replicate, List.replicate_append_replicate, Nat.sub_sub]
set_option maxRecDepth 20000 in
set_option maxHeartbeats 2000000 in
theorem repeat_one (n xb : Nat) (w : World) (h1 : 1 ≤ n) (hn : n ≤ 64) (hx : Blk w xb [.int .i64 (-1)] 3) :
    Calls Tryz.prog 31 #[.slice (some ⟨xb, 0, none⟩) 1 1, .int .i64 (n : Int)] w fun e w' => ∃ nb, e = .returned (.slice (some ⟨nb, 0, none⟩) n n) ∧ Blk w' nb (ints (List.replicate n (-1))) 3 ∧ w.heap.size ≤ nb ∧ Upd (fun _ => False) w w' := by
  obtain ⟨i0, hi0, hz0, hz1, hz2⟩ := info_parts infoInt
  have hsz : (Tryz.prog.info? 3).map (·.size) = some 1 := by rw [hi0]; simp [hz1]
  have HM := Lib.hid (fun (V : World) => mul_one n V hn)
  have hmk1 := run_make_row' (P := Tryz.prog) 47 3 (.int .i64 0) 8 Tryz.underlying47 infoInt rfl .i64 .i64 n (by omega) (by omega)
  rw [made_zeros] at hmk1
  have v1 : IntKind.u64.wrap (n : Int) = (n : Int) := by rw [IntKind.wrap_u64]; omega
  have v2 : IntKind.i64.wrap (n : Int) = (n : Int) := IntWalk.i64_in _ (by omega)
  have d0 : decide ((n : Int) < 0) = false := decide_eq_false (by omega)
  have d1 : decide (9223372036854775807 < (n : Int)) = false := decide_eq_false (by omega)
  have d1' : decide (9223372036854775807 < n) = false := decide_eq_false (by omega)
  have hB1 := Blk.made w (ints (List.replicate n 0)) 3
  have hu1 := (Upd.refl (fun _ => False) w).alloc (.cells (ints (List.replicate n 0)).toArray 3)
  have hx1 := hx.alloc (.cells (ints (List.replicate n 0)).toArray 3)
  obtain ⟨W2, hc1, hB2, hu2⟩ := run_copy_part Tryz.prog (w.alloc (.cells (ints (List.replicate n 0)).toArray 3)) 47 3 3 Tryz.underlying47 hsz w.heap.size 0 n n ⟨xb, 0, none⟩ 1 1 _ [.int .i64 (-1)] hB1 (by show 1 = min 1 n; omega) (fun j v hv => by
      match j, hv with
      | 0, hv => cases hv; exact hx1.cell 0 rfl
      | j + 1, hv => cases hv) (by simp [ints]; omega) (by simp [Value.oneCell'])
  have e1 := rep_step n 0 1
  rw [Nat.zero_add] at e1
  have hB2' : Blk W2 w.heap.size (ints (List.replicate 1 (-1) ++ List.replicate (n - 1) 0)) 3 := by
    rw [← e1]
    exact hB2
  have hu3 := hu1.next hu2 (fun i hi e => by omega)
  have HB2 := Lib.hid hB2'
  have HU2 := Lib.hid hu3
  clear hB2 hB2' hu2 hu3 hu1 hx1 hB1 hx e1
  go_enter Tryz.func31, Tryz.ntmps31
  go_wp2_with fail
  refine (HM.out _).mono ?_
  rintro e w1 ⟨rfl, rfl⟩
  go_wp2_with fail
  clear hc1
  go_loopw [8] (fun k wr => ∃ m : Nat, 1 ≤ m ∧ m ≤ n ∧ k = .int .i64 (m : Int) ∧ Blk wr w1.heap.size (ints (List.replicate m (-1) ++ List.replicate (n - m) 0)) 3 ∧ Upd (fun _ => False) w1 wr) (fun k _ => n - (intOf k).toNat)
  case atStart => exact ⟨1, Nat.le_refl _, h1, rfl, HB2.out, HU2.out⟩
  case round =>
    obtain ⟨m, hm1, hmn, rfl, hB, hU⟩ := hrel
    by_cases hlt : m < n
    · obtain ⟨k, hk⟩ : ∃ k, k = min m (n - m) := ⟨_, rfl⟩
      obtain ⟨W3, hc3, hB3, hu4⟩ := run_copy_part Tryz.prog wr.drew 47 3 3 Tryz.underlying47 hsz w1.heap.size m (n - m) (n - m) ⟨w1.heap.size, 0, none⟩ m n _ (ints (List.replicate k (-1))) hB.drew (by simp [ints]; omega) (fun j v hv => by
        have hj : j < k := by
          have := (List.getElem?_eq_some_iff.1 hv).1
          simpa [ints] using this
        have hadd : (⟨w1.heap.size, 0, none⟩ : Addr).add j = ⟨w1.heap.size, j, none⟩ := by unfold Addr.add; split <;> simp_all
        rw [hadd]
        refine hB.drew.cell j ?_
        rw [← hv]
        simp only [ints, List.map_append, List.map_replicate]
        rw [List.getElem?_append_left (by rw [List.length_replicate]; omega), List.getElem?_replicate, List.getElem?_replicate, if_pos (by omega), if_pos hj]) (by simp [ints]; omega) (by intro v hv; simp [ints] at hv; rw [hv.2]; rfl)
      rw [rep_step] at hB3
      have hcl : (ints (List.replicate k (-1))).length = k := by simp [ints]
      rw [hcl] at hc3
      have HB3 := Lib.hid hB3
      have HU3 := Lib.hid (hU.drew.next hu4 (fun i hi e => by omega))
      have d2 : decide ((m : Int) < (n : Int)) = true := decide_eq_true (by omega)
      have d2' : decide (m < n) = true := decide_eq_true hlt
      have i1 : (0 : Int) ≤ (m : Int) := by omega
      have i2 : (m : Int) ≤ (n : Int) := by omega
      have i3 : m ≤ n := by omega
      have s1 : IntKind.i64.wrap ((m : Int) + (k : Int)) = ((m + k : Nat) : Int) := by rw [IntWalk.i64_in _ (by omega)]; omega
      have Hk := Lib.hid hk
      have hif : (if n = m then (some ⟨w1.heap.size, 0, none⟩ : Option Addr) else some ⟨w1.heap.size, m, none⟩) = some ⟨w1.heap.size, m, none⟩ := if_neg (by omega)
      clear hB hU hB3 hu4 hcl hk
      go_wp2_with fail
      refine wp_region_held_drew (S := (fun _ => True)) (by kernel_rfl) trivial (fun hHeld => ?_)
      simp only [List.size_toArray, List.length_cons, List.length_nil, Nat.reduceAdd]
      refine take_any (i := 0) (v := ?_) (by rfl) (by kernel_rfl) (by exact (fun _ _ _ h => h)) (by rfl) hHeld ?_ ?_
      rotate_left
      · ((intro V hV; obtain _ := hV; go_simp) <;> (with_reducible rfl))
      try simp only [Act.put, List.getElem?_toArray, List.getElem?_cons_succ, List.getElem?_cons_zero, List.getElem_toArray, List.getElem_cons_succ, List.getElem_cons_zero, List.setIfInBounds_toArray, List.set_cons_zero, List.set_cons_succ]
      refine take_any (i := 1) (v := ?_) (by rfl) (by kernel_rfl) (by exact (fun _ _ _ h => h)) (by rfl) hHeld ?_ ?_
      rotate_left
      · ((intro V hV; obtain _ := hV; go_simp) <;> (with_reducible rfl))
      try simp only [Act.put, List.getElem?_toArray, List.getElem?_cons_succ, List.getElem?_cons_zero, List.getElem_toArray, List.getElem_cons_succ, List.getElem_cons_zero, List.setIfInBounds_toArray, List.set_cons_zero, List.set_cons_succ]
      refine take_any (i := 2) (v := ?_) (by rfl) (by kernel_rfl) (by exact (fun _ _ _ h => h)) (by rfl) hHeld ?_ ?_
      rotate_left
      · ((intro V hV; obtain _ := hV; go_simp) <;> (with_reducible rfl))
      try simp only [Act.put, List.getElem?_toArray, List.getElem?_cons_succ, List.getElem?_cons_zero, List.getElem_toArray, List.getElem_cons_succ, List.getElem_cons_zero, List.setIfInBounds_toArray, List.set_cons_zero, List.set_cons_succ]
      refine take_any (i := 3) (v := ?_) (by rfl) (by kernel_rfl) (by exact (fun _ _ _ h => h)) (by rfl) hHeld ?_ ?_
      rotate_left
      · ((intro V hV; obtain _ := hV; go_simp) <;> (with_reducible rfl))
      try simp only [Act.put, List.getElem?_toArray, List.getElem?_cons_succ, List.getElem?_cons_zero, List.getElem_toArray, List.getElem_cons_succ, List.getElem_cons_zero, List.setIfInBounds_toArray, List.set_cons_zero, List.set_cons_succ]
      refine take_any (i := 4) (v := ?_) (by rfl) (by kernel_rfl) (by exact (fun _ _ _ h => h)) (by rfl) hHeld ?_ ?_
      rotate_left
      · ((intro V hV; obtain _ := hV; go_simp) <;> (with_reducible rfl))
      try simp only [Act.put, List.getElem?_toArray, List.getElem?_cons_succ, List.getElem?_cons_zero, List.getElem_toArray, List.getElem_cons_succ, List.getElem_cons_zero, List.setIfInBounds_toArray, List.set_cons_zero, List.set_cons_succ]
      refine take_any (i := 5) (v := ?_) (by rfl) (by kernel_rfl) (by exact (fun _ _ _ h => h)) (by rfl) hHeld ?_ ?_
      rotate_left
      · ((intro V hV; obtain _ := hV; go_simp) <;> (with_reducible rfl))
      try simp only [Act.put, List.getElem?_toArray, List.getElem?_cons_succ, List.getElem?_cons_zero, List.getElem_toArray, List.getElem_cons_succ, List.getElem_cons_zero, List.setIfInBounds_toArray, List.set_cons_zero, List.set_cons_succ]
      refine take_any (i := 6) (v := ?_) (by rfl) (by kernel_rfl) (by exact (fun _ _ _ h => h)) (by rfl) hHeld ?_ ?_
      rotate_left
      · ((intro V hV; obtain _ := hV; go_simp) <;> (with_reducible rfl))
      try simp only [Act.put, List.getElem?_toArray, List.getElem?_cons_succ, List.getElem?_cons_zero, List.getElem_toArray, List.getElem_cons_succ, List.getElem_cons_zero, List.setIfInBounds_toArray, List.set_cons_zero, List.set_cons_succ]
      refine next_last (i := 7) (by rfl) (by kernel_rfl) (fun KK hK => ?_)
      go_simp
      refine hK.out _ _ trivial (fun hHeld => ?_)
      clear hK KK
      try simp only [Act.put, List.getElem?_toArray, List.getElem?_cons_succ, List.getElem?_cons_zero, List.getElem_toArray, List.getElem_cons_succ, List.getElem_cons_zero, List.setIfInBounds_toArray, List.set_cons_zero, List.set_cons_succ]
      clear hc3 hif
      refine take_any (i := 8) (v := ?_) (by rfl) (by kernel_rfl) (by exact (fun _ _ _ h => h)) (by rfl) hHeld ?_ ?_
      rotate_left
      · ((intro V hV; obtain _ := hV; go_simp) <;> (with_reducible rfl))
      try simp only [Act.put, List.getElem?_toArray, List.getElem?_cons_succ, List.getElem?_cons_zero, List.getElem_toArray, List.getElem_cons_succ, List.getElem_cons_zero, List.setIfInBounds_toArray, List.set_cons_zero, List.set_cons_succ]
      refine take_any (i := 9) (v := ?_) (by rfl) (by kernel_rfl) (by exact (fun _ _ _ h => h)) (by rfl) hHeld ?_ ?_
      rotate_left
      · ((intro V hV; obtain _ := hV; go_simp) <;> (with_reducible rfl))
      try simp only [Act.put, List.getElem?_toArray, List.getElem?_cons_succ, List.getElem?_cons_zero, List.getElem_toArray, List.getElem_cons_succ, List.getElem_cons_zero, List.setIfInBounds_toArray, List.set_cons_zero, List.set_cons_succ]
      refine wpAnyH_done (by kernel_rfl) ?_ _
      go_wp2_with fail
      go_roundw
      case rel => exact ⟨m + k, by omega, by have := Hk.out; omega, rfl, HB3.out, HU3.out⟩
      case measure => have := Hk.out; simp [intOf]; omega
    · obtain rfl : m = n := by omega
      have d2 : decide ((m : Int) < (m : Int)) = false := decide_eq_false (by omega)
      rw [Nat.sub_self, List.replicate_zero, List.append_nil] at hB
      have HB := Lib.hid hB
      have HU := Lib.hid hU
      clear hB hU
      go_wp2_with fail
      go_ret
      exact ⟨w1.heap.size, rfl, HB.out, Nat.le_refl _, HU.out⟩
end Go.Proofs.YtapjajclmbpjmaaGreatDoor.Sys
