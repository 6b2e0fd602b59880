/- A system's small parts: is it collecting; how many roots; one more; an object that is too large for a buffer. -/
import Derived.Test.YtapjajclmbpjmaaGreatDoorSysNew
import Derived.Test.YtapjajclmbpjmaaGreatDoorTabM
set_option linter.unusedSimpArgs false
namespace Go.Proofs.YtapjajclmbpjmaaGreatDoor.Sys
open Go.RowKit Go.Proofs.YtapjajclmbpjmaaGreatDoor.Mem Go.Proofs.YtapjajclmbpjmaaGreatDoor.Heap Go.Proofs.YtapjajclmbpjmaaGreatDoor.Obj

theorem collecting_no (w : World) (s : Nat) (hc : w.cell? ⟨s, 11, none⟩ = some (.pointer none)) :
    Calls Tryz.prog 9 #[.pointer (some ⟨s, 0, none⟩)] w fun e w' => e = .returned (.bool false) ∧ w' = w := by
  have cl := World.block_lt_of_cell? w _ hc
  go_enter Tryz.func9, Tryz.ntmps9
  go_wp2
  go_ret
  exact ⟨rfl, rfl⟩
theorem rootsLen_any (w : World) (r : Nat) (p : Option Addr) (n cap : Nat) (hc : w.cell? ⟨r, 0, none⟩ = some (.slice p n cap)) :
    Calls Tryz.prog 36 #[.pointer (some ⟨r, 0, none⟩)] w fun e w' => e = .returned (.int .i64 (n : Int)) ∧ w' = w := by
  have cl := World.block_lt_of_cell? w _ hc
  go_enter Tryz.func36, Tryz.ntmps36
  go_wp2
  go_ret
  exact ⟨rfl, rfl⟩
/-- Behind a Push. -/
def PushEnd (w w' : World) (B r : Nat) (p : Option Addr) (n cap : Nat) (xs : List Int) (v2 v3 : Value) : Prop :=
  ∃ q cap', Blk w' r [.slice q (n + 1) cap', v2, v3] 86 ∧ w'.ownsRow B 3 1 (.slice q (n + 1) cap') (n + 1) (ints xs) ∧ Upd (fun k => k = r ∨ (Value.slice p n cap).ownBlock = some k) w w'
set_option maxRecDepth 20000 in
theorem push_any (w : World) (B r : Nat) (p : Option Addr) (n cap : Nat) (l : List Int) (v2 v3 : Value) (hr : Blk w r [.slice p n cap, v2, v3] 86) (ho : w.ownsRow B 3 1 (.slice p n cap) n (ints l)) (hB : B ≤ w.heap.size) (hrB : r < B) (hn : n < 1024) (x : Int) (hx : 0 ≤ x) :
    Calls Tryz.prog 32 #[.pointer (some ⟨r, 0, none⟩), .int .i64 x] w fun e w' => e = .returned (.int .i64 0) ∧ PushEnd w w' B r p n cap (l ++ [x]) v2 v3 := by
  obtain ⟨i0, hi0, hz0, hz1, hz2⟩ := info_parts infoInt
  have d0 : decide (x < 0) = false := decide_eq_false (by omega)
  have d1 : decide ((1024 : Int) ≤ (n : Int)) = false := decide_eq_false (by omega)
  have d1' : decide (1024 ≤ n) = false := decide_eq_false (by omega)
  have c0 := hr.cell 0 rfl
  have cl := hr.lt
  have HR := Lib.hid hr
  have HO := Lib.hid ho
  clear hr ho
  go_enter Tryz.func32, Tryz.ntmps32
  go_wp2_with (first | (at_builtin; refine wpList_append_lies _ rfl _ _ 47 rfl B 3 i0 _ 1 8 Tryz.underlying47 hi0 hz0 hz1 hz2 rfl (by decide) _ n (ints l) rfl (HO.out.alloc _) ⟨w.heap.size, 0, none⟩ 1 1 [.int .i64 x] rfl rfl ?c1 ?c2 (by decide) ?c3 ?c4 ?c5 _ rfl ?_))
  case c1 => exact Mem.cells_new w [.int .i64 x] _
  case c2 => simp [Value.oneCell']
  case c3 => simp only [maxLen]; omega
  case c4 => omega
  case c5 => simp only [World.size_alloc]; omega
  intro g2 cap2 w2 hO2 hg2 hat2 hlt2
  have hu2 : Upd (fun k => (Value.slice p n cap).ownBlock = some k) w w2 := ((Upd.refl _ w).alloc _).grown hg2 (fun k hk _ => hk)
  have hr2 := HR.out.upd hu2 (fun e => by have := (HO.out.lt r e).1; omega)
  have hg := (hO2.lt g2 rfl).1
  clear c0 cl
  have c0 := hr2.cell 0 rfl
  have cf := hr2.frozen 0
  have cl := hr2.lt
  have HR2 := Lib.hid hr2
  have HO2 := Lib.hid hO2
  have HU2 := Lib.hid hu2
  clear hr2 hO2 hg2 hat2 hu2
  go_wp2_with fail
  go_ret
  have hus : Upd (fun k => k = r) w2 (w2.setCell ⟨r, 0, none⟩ (.slice (some ⟨g2, 0, none⟩) (n + 1) cap2)) := (Upd.refl _ w2).setCell (p := ⟨r, 0, none⟩) _ (fun _ => rfl)
  refine ⟨rfl, some ⟨g2, 0, none⟩, cap2, HR2.out.set 0 _, ?_, (HU2.out.mono (fun _ _ e => .inr e)).next hus (fun _ _ e => .inl e)⟩
  have h := own_upd HO2.out hus (fun k hk e => by have := (HO2.out.lt k hk).1; omega)
  rw [show ints (l ++ [x]) = ints l ++ [.int .i64 x] by simp [ints]]
  exact h
theorem has_any (w : World) (p : Option Addr) (n cap : Nat) (x : Int) :
    Calls Tryz.prog 124 #[.slice p n cap, .int .i64 x] w fun e w' => e = .returned (.bool (decide (0 ≤ x) && decide (x < (n : Int)))) ∧ w' = w := by
  by_cases h0 : 0 ≤ x
  · have d0 : decide (0 ≤ x) = true := decide_eq_true h0
    obtain ⟨b, hb⟩ : ∃ b, decide (x < (n : Int)) = b := ⟨_, rfl⟩
    have HF := Lib.hid (show (decide (0 ≤ x) && decide (x < (n : Int))) = b by rw [d0, hb, Bool.true_and])
    clear h0
    go_enter Tryz.func124, Tryz.ntmps124
    go_wp2
    go_ret
    exact ⟨by rw [HF.out]; rfl, rfl⟩
  · have d0 : decide (0 ≤ x) = false := decide_eq_false h0
    have HF := Lib.hid (show (decide (0 ≤ x) && decide (x < (n : Int))) = false by rw [d0, Bool.false_and])
    clear h0
    go_enter Tryz.func124, Tryz.ntmps124
    go_wp2
    go_ret
    exact ⟨by rw [HF.out]; rfl, rfl⟩
theorem thread_any (w : World) (a : Nat) (p : Option Addr) (n cap : Nat) (x : Int) (hc : w.cell? ⟨a, 1, none⟩ = some (.slice p n cap)) :
    Calls Tryz.prog 103 #[.pointer (some ⟨a, 0, none⟩), .int .i64 x] w fun e w' => e = .returned (.bool (decide (0 ≤ x) && decide (x < (n : Int)))) ∧ w' = w := by
  have cl := World.block_lt_of_cell? w _ hc
  have HH := Lib.hid (fun (V : World) => has_any V p n cap x)
  go_enter Tryz.func103, Tryz.ntmps103
  go_wp2_with fail
  refine (HH.out _).mono ?_
  rintro e w1 ⟨rfl, rfl⟩
  go_wp2
  go_ret
  exact ⟨rfl, rfl⟩
theorem keepS {S : Nat → Prop} {w w' : World} (h : Upd S w w') {b : Nat} {o : Nat} {x : Value} (hs : ¬ S b) (hc : w.cell? ⟨b, o, none⟩ = some x) : w'.cell? ⟨b, o, none⟩ = some x := by
  have hb := World.block_lt_of_cell? w _ hc
  rw [World.cell?, h.block b hb hs]
  exact hc
set_option maxRecDepth 20000 in
set_option maxHeartbeats 2000000 in
/-- An object at the top. -/
theorem place_any (w : World) (a h wb sb n : Nat) (os : List Ob) (rest : List Int) (H : HeapAt w h wb sb n os rest) (hc : w.cell? ⟨a, 0, none⟩ = some (.pointer (some ⟨h, 0, none⟩))) (ha : a ≠ h ∧ a ≠ wb ∧ a ≠ sb) (k l p : Nat) (hg : goodB k l p = true) (hl : 1 + l ≤ rest.length) :
    Calls Tryz.prog 104 #[.pointer (some ⟨a, 0, none⟩), .agg #[.int .i64 (k : Int), .int .i64 (l : Int), .int .i64 (p : Int)]] w fun e w' => e = .returned (.tuple #[.int .i64 (top os : Int), .int .i64 0]) ∧
      HeapAt w' h wb sb n (os ++ [⟨k, p, List.replicate l 0⟩]) (rest.drop (1 + l)) ∧ Upd (fun k => k = h ∨ k = wb ∨ k = sb) w w' := by
  have cl := World.block_lt_of_cell? w _ hc
  have hu := (Upd.refl (fun _ => False) w).alloc (.cells #[.int .i64 (k : Int), .int .i64 (l : Int), .int .i64 (p : Int)] 136)
  have hb := Blk.made w [.int .i64 (k : Int), .int .i64 (l : Int), .int .i64 (p : Int)] 136
  have b0 := hb.cell 0 rfl
  have b1 := hb.cell 1 rfl
  have b2 := hb.cell 2 rfl
  have a0 := keepC hu hc
  have HP := Lib.hid (fun (V : World) (hV : Upd (fun _ => False) w V) => place_yes V h wb sb n os rest (H.quiet hV) k l p hg hl)
  have HU := Lib.hid hu
  have HB := Lib.hid hb
  have HA := Lib.hid a0
  have h1 := H.str.lt
  have h2 := H.wds.lt
  have h3 := H.sts.lt
  clear hu hb H hg
  go_enter Tryz.func104, Tryz.ntmps104
  go_upto_region 1 with (fail)
  generalize w.alloc (.cells #[.int .i64 (k : Int), .int .i64 (l : Int), .int .i64 (p : Int)] 136) = w1 at *
  generalize hbx : w.heap.size = bx at *
  refine wp_region_held_drew (S := (fun V => V.cell? ⟨a, 0, none⟩ = some (.pointer (some ⟨h, 0, none⟩)) ∧ V.cell? ⟨bx, 0, none⟩ = some (.int .i64 (k : Int)) ∧ V.cell? ⟨bx, 1, none⟩ = some (.int .i64 (l : Int)) ∧ V.cell? ⟨bx, 2, none⟩ = some (.int .i64 (p : Int)))) (by kernel_rfl) ⟨a0, b0, b1, b2⟩ (fun hHeld => ?_)
  simp only [List.size_toArray, List.length_cons, List.length_nil, Nat.reduceAdd]
  refine take_any (i := 0) (v := ?_) (by rfl) (by kernel_rfl) (by exact (fun _ _ _ h => h)) (by rfl) hHeld ?_ ?_
  rotate_left
  · ((intro V hV; obtain ⟨hV0, hV1, hV2, hV3⟩ := hV; go_simp) <;> (with_reducible rfl))
  try simp only [Act.put, List.getElem?_toArray, List.getElem?_cons_succ, List.getElem?_cons_zero, List.getElem_toArray, List.getElem_cons_succ, List.getElem_cons_zero, List.setIfInBounds_toArray, List.set_cons_zero, List.set_cons_succ]
  refine take_any (i := 1) (v := ?_) (by rfl) (by kernel_rfl) (by exact (fun _ _ _ h => h)) (by rfl) hHeld ?_ ?_
  rotate_left
  · ((intro V hV; obtain ⟨hV0, hV1, hV2, hV3⟩ := hV; go_simp) <;> (with_reducible rfl))
  try simp only [Act.put, List.getElem?_toArray, List.getElem?_cons_succ, List.getElem?_cons_zero, List.getElem_toArray, List.getElem_cons_succ, List.getElem_cons_zero, List.setIfInBounds_toArray, List.set_cons_zero, List.set_cons_succ]
  refine take_any (i := 2) (v := ?_) (by rfl) (by kernel_rfl) (by exact (fun _ _ _ h => h)) (by rfl) hHeld ?_ ?_
  rotate_left
  · ((intro V hV; obtain ⟨hV0, hV1, hV2, hV3⟩ := hV; go_simp) <;> (with_reducible rfl))
  try simp only [Act.put, List.getElem?_toArray, List.getElem?_cons_succ, List.getElem?_cons_zero, List.getElem_toArray, List.getElem_cons_succ, List.getElem_cons_zero, List.setIfInBounds_toArray, List.set_cons_zero, List.set_cons_succ]
  refine take_any (i := 3) (v := ?_) (by rfl) (by kernel_rfl) (by exact (fun _ _ _ h => h)) (by rfl) hHeld ?_ ?_
  rotate_left
  · ((intro V hV; obtain ⟨hV0, hV1, hV2, hV3⟩ := hV; go_simp) <;> (with_reducible rfl))
  try simp only [Act.put, List.getElem?_toArray, List.getElem?_cons_succ, List.getElem?_cons_zero, List.getElem_toArray, List.getElem_cons_succ, List.getElem_cons_zero, List.setIfInBounds_toArray, List.set_cons_zero, List.set_cons_succ]
  refine take_any (i := 4) (v := ?_) (by rfl) (by kernel_rfl) (by exact (fun _ _ _ h => h)) (by rfl) hHeld ?_ ?_
  rotate_left
  · ((intro V hV; obtain ⟨hV0, hV1, hV2, hV3⟩ := hV; go_simp) <;> (with_reducible rfl))
  try simp only [Act.put, List.getElem?_toArray, List.getElem?_cons_succ, List.getElem?_cons_zero, List.getElem_toArray, List.getElem_cons_succ, List.getElem_cons_zero, List.setIfInBounds_toArray, List.set_cons_zero, List.set_cons_succ]
  refine next_last (i := 5) (by rfl) (by kernel_rfl) (fun KK hK => ?_)
  go_simp
  refine (HP.out w1.drew HU.out.drew).mono ?_
  rintro y V ⟨rfl, hH, hu1⟩
  have hbx' : bx ≠ h ∧ bx ≠ wb ∧ bx ≠ sb := by omega
  have hU1 := ((Upd.refl (fun _ => False) w1).drew.mono (T := fun k => k = h ∨ k = wb ∨ k = sb) (fun _ _ h => h.elim)).trans hu1
  have HU1 := Lib.hid ((HU.out.mono (fun _ _ h => h.elim)).trans hU1)
  have HH := Lib.hid hH
  refine hK.out _ _ ⟨keepS hU1 (fun e => by rcases e with e | e | e; (· exact ha.1 e); (· exact ha.2.1 e); (· exact ha.2.2 e)) a0, keepS hU1 (by omega) b0, keepS hU1 (by omega) b1, keepS hU1 (by omega) b2⟩ (fun hHeld => ?_)
  clear hK KK
  try simp only [Act.put, List.getElem?_toArray, List.getElem?_cons_succ, List.getElem?_cons_zero, List.getElem_toArray, List.getElem_cons_succ, List.getElem_cons_zero, List.setIfInBounds_toArray, List.set_cons_zero, List.set_cons_succ]
  clear hU1 hu1 hH
  refine take_any (i := 6) (v := ?_) (by rfl) (by kernel_rfl) (by exact (fun _ _ _ h => h)) (by rfl) hHeld ?_ ?_
  rotate_left
  · ((intro V hV; obtain ⟨hV0, hV1, hV2, hV3⟩ := hV; go_simp) <;> (with_reducible rfl))
  try simp only [Act.put, List.getElem?_toArray, List.getElem?_cons_succ, List.getElem?_cons_zero, List.getElem_toArray, List.getElem_cons_succ, List.getElem_cons_zero, List.setIfInBounds_toArray, List.set_cons_zero, List.set_cons_succ]
  refine take_any (i := 7) (v := ?_) (by rfl) (by kernel_rfl) (by exact (fun _ _ _ h => h)) (by rfl) hHeld ?_ ?_
  rotate_left
  · ((intro V hV; obtain ⟨hV0, hV1, hV2, hV3⟩ := hV; go_simp) <;> (with_reducible rfl))
  try simp only [Act.put, List.getElem?_toArray, List.getElem?_cons_succ, List.getElem?_cons_zero, List.getElem_toArray, List.getElem_cons_succ, List.getElem_cons_zero, List.setIfInBounds_toArray, List.set_cons_zero, List.set_cons_succ]
  refine take_any (i := 8) (v := ?_) (by rfl) (by kernel_rfl) (by exact (fun _ _ _ h => h)) (by rfl) hHeld ?_ ?_
  rotate_left
  · ((intro V hV; obtain ⟨hV0, hV1, hV2, hV3⟩ := hV; go_simp) <;> (with_reducible rfl))
  try simp only [Act.put, List.getElem?_toArray, List.getElem?_cons_succ, List.getElem?_cons_zero, List.getElem_toArray, List.getElem_cons_succ, List.getElem_cons_zero, List.setIfInBounds_toArray, List.set_cons_zero, List.set_cons_succ]
  refine take_any (i := 9) (v := ?_) (by rfl) (by kernel_rfl) (by exact (fun _ _ _ h => h)) (by rfl) hHeld ?_ ?_
  rotate_left
  · ((intro V hV; obtain ⟨hV0, hV1, hV2, hV3⟩ := hV; go_simp) <;> (with_reducible rfl))
  try simp only [Act.put, List.getElem?_toArray, List.getElem?_cons_succ, List.getElem?_cons_zero, List.getElem_toArray, List.getElem_cons_succ, List.getElem_cons_zero, List.setIfInBounds_toArray, List.set_cons_zero, List.set_cons_succ]
  refine take_any (i := 10) (v := ?_) (by rfl) (by kernel_rfl) (by exact (fun _ _ _ h => h)) (by rfl) hHeld ?_ ?_
  rotate_left
  · ((intro V hV; obtain ⟨hV0, hV1, hV2, hV3⟩ := hV; go_simp) <;> (with_reducible rfl))
  try simp only [Act.put, List.getElem?_toArray, List.getElem?_cons_succ, List.getElem?_cons_zero, List.getElem_toArray, List.getElem_cons_succ, List.getElem_cons_zero, List.setIfInBounds_toArray, List.set_cons_zero, List.set_cons_succ]
  refine wpAnyH_done (by kernel_rfl) ?_ _
  go_wp2_with fail
  go_ret2
  exact ⟨rfl, HH.out, HU1.out⟩
/-- A new object, too large for a buffer. -/
theorem alloc_big (w : World) (a h wb sb n : Nat) (os : List Ob) (rest : List Int) (H : HeapAt w h wb sb n os rest) (bp : Option Addr) (t tc : Nat) (size : Int) (hA : Blk w a [.pointer (some ⟨h, 0, none⟩), .slice bp t tc, .int .i64 size] 73) (ha : a ≠ h ∧ a ≠ wb ∧ a ≠ sb)
    (th : Nat) (hth : th < t) (k l p : Nat) (hg : goodB k l p = true) (hk : k ≠ 15) (half : Int) (hh : wrap64 (size.tdiv 2) = half) (hs : half < 1 + (l : Int)) (hl : 1 + l ≤ rest.length) :
    Calls Tryz.prog 84 #[.pointer (some ⟨a, 0, none⟩), .int .i64 (th : Int), .agg #[.int .i64 (k : Int), .int .i64 (l : Int), .int .i64 (p : Int)]] w fun e w' => e = .returned (.tuple #[.int .i64 (top os : Int), .int .i64 0]) ∧
      HeapAt w' h wb sb n (os ++ [⟨k, p, List.replicate l 0⟩]) (rest.drop (1 + l)) ∧ Upd (fun k => k = h ∨ k = wb ∨ k = sb) w w' := by
  have hgb := of_decide_eq_true hg
  have hu := (Upd.refl (fun _ => False) w).alloc (.cells #[.int .i64 (k : Int), .int .i64 (l : Int), .int .i64 (p : Int)] 136)
  have hb := Blk.made w [.int .i64 (k : Int), .int .i64 (l : Int), .int .i64 (p : Int)] 136
  have b0 := hb.cell 0 rfl
  have b1 := hb.cell 1 rfl
  have b2 := hb.cell 2 rfl
  have HPk := Lib.hid (fun (V : World) => pack_yes k l p hg V)
  have HTh := Lib.hid (fun (V : World) (hV : Upd (fun _ => False) w V) => thread_any V a bp t tc th (keepC hV (hA.cell 1 rfl)))
  have HPl := Lib.hid (fun (V : World) (hV : Upd (fun _ => False) w V) => place_any V a h wb sb n os rest (H.quiet hV) (keepC hV (hA.cell 0 rfl)) ha k l p hg hl)
  have HU := Lib.hid hu
  have HB := Lib.hid hb
  have HA := Lib.hid hA
  have s1 : IntKind.i64.wrap (1 + (l : Int)) = 1 + (l : Int) := IntWalk.i64_in _ (by omega)
  have d1 : decide ((0 : Int) ≤ (th : Int)) = true := decide_eq_true (by omega)
  have d2 : decide ((th : Int) < (t : Int)) = true := decide_eq_true (by omega)
  have d2' : decide (th < t) = true := decide_eq_true hth
  have d3 : ((k : Int) == 15) = false := by rw [beq_eq_false_iff_ne]; omega
  have d4 : decide (half < 1 + (l : Int)) = true := decide_eq_true hs
  have hal := hA.lt
  clear hu hA H hgb hg
  go_enter Tryz.func84, Tryz.ntmps84
  go_wp2_with fail
  refine (HPk.out _).mono ?_
  rintro e w1 ⟨rfl, hu1⟩
  have HU1 := Lib.hid (HU.out.trans hu1)
  have hb1 := hb.upd hu1 (fun h => h)
  clear b0 b1 b2 hb hu1
  have b0 := hb1.cell 0 rfl
  have b1 := hb1.cell 1 rfl
  have b2 := hb1.cell 2 rfl
  have hA1 := HA.out.upd HU1.out (fun h => h)
  have a2 := hA1.cell 2 rfl
  have al := hA1.lt
  clear hb1 hA1
  go_wp2_with fail
  refine (HTh.out _ HU1.out).mono ?_
  rintro e w2 ⟨rfl, rfl⟩
  go_wp2_with fail
  refine (HPl.out _ HU1.out).mono ?_
  rintro e w3 ⟨rfl, hH, hu3⟩
  have HH := Lib.hid hH
  have HU3 := Lib.hid ((HU1.out.mono (fun _ _ h => h.elim)).trans hu3)
  clear hH hu3
  go_wp2_with fail
  go_ret2
  exact ⟨rfl, HH.out, HU3.out⟩
end Go.Proofs.YtapjajclmbpjmaaGreatDoor.Sys
