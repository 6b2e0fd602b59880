/- phase.New of an empty heap that has no roots. -/
import Derived.Test.YtapjajclmbpjmaaGreatDoorMarkerNew
set_option linter.unusedSimpArgs false
namespace Go.Proofs.YtapjajclmbpjmaaGreatDoor.Sys
open Go.RowKit Go.Proofs.YtapjajclmbpjmaaGreatDoor.Mem Go.Proofs.YtapjajclmbpjmaaGreatDoor.Heap Go.Proofs.YtapjajclmbpjmaaGreatDoor.Obj

/-- What phase.New answers: a collection; none. -/
def PhaseAns (b : Bool) (e : Ending) : Prop := ∃ x, e = .returned (.tuple #[.pointer x, .int .i64 (if b then 0 else 1)]) ∧ x.isSome = b
set_option maxRecDepth 20000 in
set_option maxHeartbeats 8000000 in
theorem phase_empty (w : World) (h wb sb sz : Nat) (H : HeapAt w h wb sb sz [] (List.replicate sz 0)) (n m c p g : Int) :
    Calls Tryz.prog 19 #[.pointer (some ⟨h, 0, none⟩), .slice none 0 0, .agg #[.int .i64 n, .int .i64 m, .int .i64 c, .int .i64 p, .int .i64 g]] w fun e w' => PhaseAns (fitsB n m c) e ∧ Upd (fun _ => False) w w' := by
  have hu0 := (Upd.refl (fun _ => False) w).alloc (.cells #[.int .i64 n, .int .i64 m, .int .i64 c, .int .i64 p, .int .i64 g] 23)
  have hb0 : Blk (w.alloc (.cells #[.int .i64 n, .int .i64 m, .int .i64 c, .int .i64 p, .int .i64 g] 23)) w.heap.size [.int .i64 n, .int .i64 m, .int .i64 c, .int .i64 p, .int .i64 g] 23 := Blk.made w _ _
  have b3 := hb0.cell 3 rfl
  have bl := hb0.lt
  have HR := Lib.hid (fun (V : World) => roots_new p V)
  have HH := Lib.hid H
  have HB0 := Lib.hid hb0
  have HU0 := Lib.hid hu0
  clear H hb0 hu0
  go_enter Tryz.func19, Tryz.ntmps19
  go_wp2_with fail
  refine (HR.out _).mono ?_
  rintro e w1 ⟨r, rc, rwb, rfl, hr, hrc, hn1, hn2, hl1, hl2, hl3, hu1⟩
  have HU1 := Lib.hid (HU0.out.trans hu1)
  have hb1 := HB0.out.upd hu1 (fun h => h)
  have HB1 := Lib.hid hb1
  have HRr := Lib.hid hr
  have HRc := Lib.hid hrc
  have hsz := hu1.size
  have hs0 := HU0.out.size
  rw [World.size_alloc] at hl1 hl2 hl3
  clear b3 bl hr hrc hu1
  have b0 := hb1.cell 0 rfl
  have b1 := hb1.cell 1 rfl
  have b2 := hb1.cell 2 rfl
  have bl := hb1.lt
  clear hb1
  go_wp2_with fail
  go_loopw [22] (fun i wl => i = .int .i64 0 ∧ wl = w1) (fun _ _ => 0)
  case atStart => exact ⟨rfl, rfl⟩
  case round =>
    obtain ⟨rfl, ew⟩ := hrel
    have ew' := ew.symm
    subst ew'
    cases hf : fitsB n m c with
    | false =>
      have HNo := Lib.hid (fun (V : World) => marker_no V (some ⟨h, 0, none⟩) (.pointer (some ⟨r, 0, none⟩)) n m c hf)
      have HF := Lib.hid hf
      clear hf
      go_wp2_with fail
      refine (HNo.out _).mono ?_
      rintro e w2 ⟨rfl, hu2⟩
      have HU2 := Lib.hid (HU1.out.trans hu2)
      clear hu2
      go_wp2_with fail
      go_ret2
      exact ⟨by rw [HF.out]; exact ⟨none, rfl, rfl⟩, HU2.out⟩
    | true =>
      have hb := of_decide_eq_true hf
      obtain ⟨n', rfl⟩ : ∃ n' : Nat, n = (n' : Int) := ⟨n.toNat, by omega⟩
      obtain ⟨m', rfl⟩ : ∃ m' : Nat, m = (m' : Int) := ⟨m.toNat, by omega⟩
      obtain ⟨c', rfl⟩ : ∃ c' : Nat, c = (c' : Int) := ⟨c.toNat, by omega⟩
      have HMk := Lib.hid (marker_empty w1 h wb sb sz (HH.out.quiet HU1.out) r rc rwb _ HRr.out HRc.out ⟨hn1, hn2⟩ n' m' c' (by omega) (by omega) (by omega))
      have HF := Lib.hid hf
      clear hf
      go_wp2_with fail
      refine (HMk.out).mono ?_
      rintro e w2 ⟨x, rfl, hu2⟩
      have hb2 := HB1.out.upd hu2 (fun e => by rcases e with e | e <;> omega)
      have hr2 := HRr.out.upd hu2 (fun e => by rcases e with e | e; (· exact hn1 e); (· exact hn2 e))
      have HU2 := Lib.hid (HU1.out.next hu2 (fun i hi e => by rcases e with e | e <;> omega))
      have HB2 := Lib.hid hb2
      have HR2 := Lib.hid hr2
      clear hu2 b0 b1 b2 bl HMk
      have b0 := hb2.cell 0 rfl
      have b1 := hb2.cell 1 rfl
      have b2 := hb2.cell 2 rfl
      have b3 := hb2.cell 3 rfl
      have b4 := hb2.cell 4 rfl
      clear hb2 hr2
      go_wp2_with fail
      refine wp_region_held_drew (S := (fun V => V.cell? ⟨w.heap.size, 0, none⟩ = some (.int .i64 (n' : Int)) ∧ V.cell? ⟨w.heap.size, 1, none⟩ = some (.int .i64 (m' : Int)) ∧ V.cell? ⟨w.heap.size, 2, none⟩ = some (.int .i64 (c' : Int)) ∧ V.cell? ⟨w.heap.size, 3, none⟩ = some (.int .i64 p) ∧ V.cell? ⟨w.heap.size, 4, none⟩ = some (.int .i64 g))) (by kernel_rfl) ⟨b0, b1, b2, b3, b4⟩ (fun hHeld => ?_)
      simp only [List.size_toArray, List.length_cons, List.length_nil, Nat.reduceAdd]
      have hk : ∀ (V : World), Upd (fun _ => False) w2 V → V.cell? ⟨w.heap.size, 0, none⟩ = some (.int .i64 (n' : Int)) ∧ V.cell? ⟨w.heap.size, 1, none⟩ = some (.int .i64 (m' : Int)) ∧ V.cell? ⟨w.heap.size, 2, none⟩ = some (.int .i64 (c' : Int)) ∧ V.cell? ⟨w.heap.size, 3, none⟩ = some (.int .i64 p) ∧ V.cell? ⟨w.heap.size, 4, none⟩ = some (.int .i64 g) :=
        fun V hV => ⟨keepC hV b0, keepC hV b1, keepC hV b2, keepC hV b3, keepC hV b4⟩
      have HK := Lib.hid hk
      clear hk
      refine take_any (i := 0) (v := ?_) (by rfl) (by kernel_rfl) (by exact (fun _ _ _ h => h)) (by rfl) hHeld ?_ ?_
      rotate_left
      · ((intro V hV; obtain ⟨hV0, hV1, hV2, hV3, hV4⟩ := hV; go_simp) <;> (with_reducible rfl))
      try simp only [Act.put, List.getElem?_toArray, List.getElem?_cons_succ, List.getElem?_cons_zero, List.getElem_toArray, List.getElem_cons_succ, List.getElem_cons_zero, List.setIfInBounds_toArray, List.set_cons_zero, List.set_cons_succ]
      refine take_any (i := 1) (v := ?_) (by rfl) (by kernel_rfl) (by exact (fun _ _ _ h => h)) (by rfl) hHeld ?_ ?_
      rotate_left
      · ((intro V hV; obtain ⟨hV0, hV1, hV2, hV3, hV4⟩ := hV; go_simp) <;> (with_reducible rfl))
      try simp only [Act.put, List.getElem?_toArray, List.getElem?_cons_succ, List.getElem?_cons_zero, List.getElem_toArray, List.getElem_cons_succ, List.getElem_cons_zero, List.setIfInBounds_toArray, List.set_cons_zero, List.set_cons_succ]
      refine take_any (i := 2) (v := ?_) (by rfl) (by kernel_rfl) (by exact (fun _ _ _ h => h)) (by rfl) hHeld ?_ ?_
      rotate_left
      · ((intro V hV; obtain ⟨hV0, hV1, hV2, hV3, hV4⟩ := hV; go_simp) <;> (with_reducible rfl))
      try simp only [Act.put, List.getElem?_toArray, List.getElem?_cons_succ, List.getElem?_cons_zero, List.getElem_toArray, List.getElem_cons_succ, List.getElem_cons_zero, List.setIfInBounds_toArray, List.set_cons_zero, List.set_cons_succ]
      refine take_any (i := 3) (v := ?_) (by rfl) (by kernel_rfl) (by exact (fun _ _ _ h => h)) (by rfl) hHeld ?_ ?_
      rotate_left
      · ((intro V hV; obtain ⟨hV0, hV1, hV2, hV3, hV4⟩ := hV; go_simp) <;> (with_reducible rfl))
      try simp only [Act.put, List.getElem?_toArray, List.getElem?_cons_succ, List.getElem?_cons_zero, List.getElem_toArray, List.getElem_cons_succ, List.getElem_cons_zero, List.setIfInBounds_toArray, List.set_cons_zero, List.set_cons_succ]
      refine next_last (i := 4) (by rfl) (by kernel_rfl) (fun KK hK => ?_)
      go_simp
      refine (rootsAll_any w2.drew r none 0 [] _ _ HR2.out.drew (fun j u hu => by cases hu) (fun _ => rfl) (by simp)).mono ?_
      rintro y V ⟨⟨q, d, rfl, _⟩, hu3⟩
      have HU3 := Lib.hid ((Upd.refl (fun _ => False) w2).drew.trans hu3)
      clear hu3
      refine hK.out _ _ (HK.out _ HU3.out) (fun hHeld => ?_)
      clear hK KK
      try simp only [Act.put, List.getElem?_toArray, List.getElem?_cons_succ, List.getElem?_cons_zero, List.getElem_toArray, List.getElem_cons_succ, List.getElem_cons_zero, List.setIfInBounds_toArray, List.set_cons_zero, List.set_cons_succ]
      refine take_any (i := 5) (v := ?_) (by rfl) (by kernel_rfl) (by exact (fun _ _ _ h => h)) (by rfl) hHeld ?_ ?_
      rotate_left
      · ((intro V hV; obtain ⟨hV0, hV1, hV2, hV3, hV4⟩ := hV; go_simp) <;> (with_reducible rfl))
      try simp only [Act.put, List.getElem?_toArray, List.getElem?_cons_succ, List.getElem?_cons_zero, List.getElem_toArray, List.getElem_cons_succ, List.getElem_cons_zero, List.setIfInBounds_toArray, List.set_cons_zero, List.set_cons_succ]
      refine next_last (i := 6) (by rfl) (by kernel_rfl) (fun KK hK => ?_)
      go_simp
      refine hK.out _ _ (HK.out _ (HU3.out.alloc _)) (fun hHeld => ?_)
      clear hK KK
      try simp only [Act.put, List.getElem?_toArray, List.getElem?_cons_succ, List.getElem?_cons_zero, List.getElem_toArray, List.getElem_cons_succ, List.getElem_cons_zero, List.setIfInBounds_toArray, List.set_cons_zero, List.set_cons_succ]
      refine take_any (i := 7) (v := ?_) (by rfl) (by kernel_rfl) (by exact (fun _ _ _ h => h)) (by rfl) hHeld ?_ ?_
      rotate_left
      · ((intro V hV; obtain ⟨hV0, hV1, hV2, hV3, hV4⟩ := hV; go_simp) <;> (with_reducible rfl))
      try simp only [Act.put, List.getElem?_toArray, List.getElem?_cons_succ, List.getElem?_cons_zero, List.getElem_toArray, List.getElem_cons_succ, List.getElem_cons_zero, List.setIfInBounds_toArray, List.set_cons_zero, List.set_cons_succ]
      refine take_any (i := 8) (v := ?_) (by rfl) (by kernel_rfl) (by exact (fun _ _ _ h => h)) (by rfl) hHeld ?_ ?_
      rotate_left
      · ((intro V hV; obtain ⟨hV0, hV1, hV2, hV3, hV4⟩ := hV; go_simp) <;> (with_reducible rfl))
      try simp only [Act.put, List.getElem?_toArray, List.getElem?_cons_succ, List.getElem?_cons_zero, List.getElem_toArray, List.getElem_cons_succ, List.getElem_cons_zero, List.setIfInBounds_toArray, List.set_cons_zero, List.set_cons_succ]
      refine wpAnyH_done (by kernel_rfl) ?_ _
      go_wp2_with fail
      go_ret2
      exact ⟨by rw [HF.out]; exact ⟨some _, rfl, rfl⟩, HU2.out.trans (HU3.out.alloc _)⟩
end Go.Proofs.YtapjajclmbpjmaaGreatDoor.Sys
