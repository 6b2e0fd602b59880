/- heap.Check: all references lead to objects. -/
import Derived.Test.YtapjajclmbpjmaaGreatDoorCheck
import Derived.Test.YtapjajclmbpjmaaGreatDoorInRound
set_option linter.unusedSimpArgs false
namespace Go.Proofs.YtapjajclmbpjmaaGreatDoor.Heap
open Go.RowKit Go.Shelf Go.Proofs.YtapjajclmbpjmaaGreatDoor.Mem Go.Proofs.YtapjajclmbpjmaaGreatDoor.Obj
attribute [local go_sem] Oper.semAt_some

theorem result_int {fn : Func} {p : Tmp} (h : fn.results = #[.cell p 28]) (tmps : Array Value) (w : World) (b : Nat) (x : Int) (hp : tmps.getD p undef = .pointer (some ⟨b, 0, none⟩)) (hc : w.cell? ⟨b, 0, none⟩ = some (.int .i64 x)) :
    (results fn tmps).run Tryz.prog w = .ok (.int .i64 x) w := by
  have hp' : tmps[p]?.getD undef = .pointer (some ⟨b, 0, none⟩) := by simpa using hp
  have hu := Tryz.underlying28
  simp [results, h, hp', asAddr, loadVar, run_underlying hu, hc, go_sem]
  done

theorem walk_made (w : World) (b : Nat) :
    Calls Tryz.prog 70 #[.pointer (some ⟨b, 0, none⟩)] w fun e w' => e = .returned (.func (.func 86) #[] #[.pointer (some ⟨w.heap.size, 0, none⟩)]) ∧ w' = w.alloc (.cells #[.pointer (some ⟨b, 0, none⟩)] 51) := by
  have hmf : ∀ (fn : Fn) (first cap : Array Value) (w : World), (Instr.makeFunc fn first cap).run Tryz.prog w = .ok (.func fn first cap) w := fun _ _ _ _ => rfl
  go_enter Tryz.func70, Tryz.ntmps70
  go_wp2
  go_ret
  exact ⟨rfl, rfl⟩

set_option maxRecDepth 20000 in
set_option maxHeartbeats 2000000 in
theorem check_yes (w : World) (h wb sb n : Nat) (os : List Ob) (rest : List Int) (H : HeapAt w h wb sb n os rest) (hl : ∀ o ∈ os, ∀ x ∈ o.ws.take o.ptrs, leads os x = true ∧ -9223372036854775808 ≤ x ∧ x ≤ 9223372036854775807) :
    Calls Tryz.prog 47 #[.pointer (some ⟨h, 0, none⟩)] w fun e w' => e = .returned (.int .i64 0) ∧ Upd (fun _ => False) w w' := by
  have hmf : ∀ (fn : Fn) (first cap : Array Value) (w : World), (Instr.makeFunc fn first cap).run Tryz.prog w = .ok (.func fn first cap) w := fun _ _ _ _ => rfl
  refine (callsIn_wide (n := 3)).1 ?_
  refine callsIn_of_wp_marks Tryz.func47 rfl trivial ?_ rfl
  refine wpIn_wide.2 ?_
  simp only [Tryz.ntmps47, List.size_toArray, List.length_cons, List.length_nil, Nat.reduceAdd, Nat.reduceSub, Array.replicate_succ, Array.replicate_zero, List.push_toArray, List.append_toArray, List.nil_append, List.cons_append]
  have hl1 := H.str.lt
  have hl2 := H.wds.lt
  have hl3 := H.sts.lt
  go_wp2_with fail
  have hal := (((Upd.refl (fun _ => False) w).alloc (.cells #[.pointer (some ⟨h, 0, none⟩)] 51)).alloc (.cells #[.int .i64 0] 28)).alloc (.cells #[.pointer (some ⟨h, 0, none⟩)] 51)
  have hb0 := ((Blk.made w [.pointer (some ⟨h, 0, none⟩)] 51).alloc (.cells #[.int .i64 0] 28)).alloc (.cells #[.pointer (some ⟨h, 0, none⟩)] 51)
  have hb1 := (Blk.made' w (.cells #[.pointer (some ⟨h, 0, none⟩)] 51) [.int .i64 0] 28).alloc (.cells #[.pointer (some ⟨h, 0, none⟩)] 51)
  have hb2 := Blk.made ((w.alloc (.cells #[.pointer (some ⟨h, 0, none⟩)] 51)).alloc (.cells #[.int .i64 0] 28)) [.pointer (some ⟨h, 0, none⟩)] 51
  have hs3 : (((w.alloc (.cells #[.pointer (some ⟨h, 0, none⟩)] 51)).alloc (.cells #[.int .i64 0] 28)).alloc (.cells #[.pointer (some ⟨h, 0, none⟩)] 51)).heap.size = w.heap.size + 3 := by simp only [World.size_alloc]
  rw [World.size_alloc, World.size_alloc] at hb2
  refine (walk_made _ _).mono ?_
  rintro e w3 ⟨rfl, rfl⟩
  go_wp2
  have hH3 := H.quiet hal
  generalize ((w.alloc (.cells #[.pointer (some ⟨h, 0, none⟩)] 51)).alloc (.cells #[.int .i64 0] 28)).alloc (.cells #[.pointer (some ⟨h, 0, none⟩)] 51) = w3 at *
  refine (wpIn_wide (n := 3)).1 ?_
  refine wpIn_rangeFunc_ownH rfl (by omega) (gf := 86) (lb := #[.pointer (some ⟨w.heap.size + 2, 0, none⟩)]) rfl trivial (enters_of Tryz.func86 (by kernel_rfl) rfl)
    (walk_stops 2 (by omega) h wb sb n (w.heap.size + 2) (w.heap.size + 1) os rest w3 hH3 hb2 ⟨by omega, by omega, by omega⟩ (by omega)) (fun h k => h.trans k) (fun W l o o' _ ho hc _ => KeepC.put _ W l o o' ho hc) (Below.refl _ _) (fun _ => rfl)
    (fun _ W => HeapAt W h wb sb n os rest ∧ Blk W w.heap.size [.pointer (some ⟨h, 0, none⟩)] 51 ∧ Blk W (w.heap.size + 1) [.int .i64 0] 28 ∧ Upd (fun _ => False) w W ∧ w3.heap.size ≤ W.heap.size)
    (fun _ _ _ => False)
    (fun s W W' row hs hg hr => by
      have hne : ∀ k, k < w3.heap.size → some k ≠ row := fun k hk e => by have := (hr k e.symm).1; omega
      have hk : ∀ {b : Nat} {cs : List Value} {t : TypeId}, b < w3.heap.size → Blk W b cs t → Blk W' b cs t := fun hb h => h.of_eq (hg.block _ h.lt (hne _ hb))
      obtain ⟨h1, h2, h3, h4, h5⟩ := hs
      exact ⟨⟨hk (by omega) h1.str, hk (by omega) h1.wds, hk (by omega) h1.sts, h1.size, h1.lo, h1.hi, h1.good, h1.ne⟩, hk (by omega) h2, hk (by omega) h3, h4.grown hg (fun k e hlt => by have := (hr k e).1; omega), Nat.le_trans h5 hg.size⟩)
    (fun _ _ _ _ _ hs _ _ => hs)
    ⟨hH3, hb0, hb1, hal, Nat.le_refl _⟩
    (fun x a' W => ∃ Bx, w3.heap.size ≤ Bx ∧ Blk W Bx [.int .i64 (x.1.2.kind : Int), .int .i64 (x.1.2.len : Int), .int .i64 (x.1.2.ptrs : Int)] 136 ∧ a' = { tmps := #[.pointer (some ⟨h, 0, none⟩), .pointer (some ⟨w.heap.size, 0, none⟩), .pointer (some ⟨w.heap.size + 1, 0, none⟩), .int .i64 (x.1.1 : Int), .pointer (some ⟨Bx, 0, none⟩), .pointer (some ⟨h, 0, none⟩), .func (.func 86) #[] #[.pointer (some ⟨w.heap.size + 2, 0, none⟩)], .int .i64 (x.1.1 : Int), .agg #[.int .i64 (x.1.2.kind : Int), .int .i64 (x.1.2.len : Int), .int .i64 (x.1.2.ptrs : Int)], undef, undef, undef, undef, undef, undef, undef, undef, undef, undef, undef, undef, undef, undef, undef, undef], defers := [] })
    (fun x a' _ W W' row hs hg hr => by
      obtain ⟨Bx, h1, h2, h3⟩ := hs
      refine ⟨Bx, h1, h2.of_eq (hg.block _ h2.lt (fun e => ?_)), h3⟩
      obtain ⟨o, ho, hc⟩ := (hr Bx e.symm).2
      have h4 : W.heap[Bx]? = _ := h2
      rw [h4] at ho
      cases ho
      cases hc)
    ?assign ?body ?done ?stop
  case assign =>
    rintro l pre x W K ⟨h1, h2, h3, h4, h5⟩ hK
    dsimp only [encW]
    gi_wp2
    refine hK _ _ ?_ ?_ ?_ ?_
    · exact (KeepsOthers.alloc _ _).from _
    · exact KeepC.of_upd ((Upd.refl _ W).alloc _)
    · exact ⟨h1.quiet ((Upd.refl _ W).alloc _), h2.alloc _, h3.alloc _, h4.alloc _, by rw [World.size_alloc]; omega⟩
    · exact ⟨W.heap.size, h5, Blk.made W _ _, rfl⟩
  case body =>
    rintro l pre x a' W hl' ⟨r, hr⟩ ⟨h1, h2, h3, h4, h5⟩ ⟨Bx, hBx, hb, rfl⟩ hlt
    obtain ⟨⟨A, o⟩, hf⟩ := x
    dsimp only at hf hb ⊢
    have hfl := find_lt hf
    have hsz := h1.size
    have hhi := h1.hi
    have hgo := h1.good o (find_mem hf)
    have hpl := hgo.2.1
    have c0 := h2.cell 0 rfl
    have ch0 := h1.str.cell 0 rfl
    have x2 := hb.cell 2 rfl
    have xl := hb.lt
    have wl := h1.wds.lt
    obtain ⟨p, hp⟩ : ∃ p, p = o.ptrs := ⟨_, rfl⟩
    rw [← hp] at x2 hpl
    obtain ⟨lo, hlo⟩ : ∃ lo, lo = A + 1 := ⟨_, rfl⟩
    obtain ⟨hi, hhi2⟩ : ∃ hi, hi = lo + p := ⟨_, rfl⟩
    have s1 : IntKind.i64.wrap ((A : Int) + 1) = (lo : Int) := by rw [IntWalk.i64_in _ (by omega)]; omega
    have s2 : IntKind.i64.wrap ((lo : Int) + (p : Int)) = (hi : Int) := by rw [IntWalk.i64_in _ (by omega)]; omega
    have j1 : (0 : Int) ≤ (lo : Int) := by omega
    have j2 : (lo : Int) ≤ (hi : Int) := by omega
    have j2' : lo ≤ hi := by omega
    have j3 : (hi : Int) ≤ (n : Int) := by omega
    have j3' : hi ≤ n := by omega
    have Hlo := Lib.hid hlo
    have Hhi := Lib.hid hhi2
    clear hlo hhi2
    have hmx : Tryz.prog.follows .mixedOrders = true := by kernel_rfl
    have H1 := Lib.hid h1
    obtain ⟨off, hoff⟩ : ∃ off, off = if n = lo then 0 else lo := ⟨_, rfl⟩
    have Hoff := Lib.hid hoff
    have hif : (if n = lo then some (⟨wb, 0, none⟩ : Addr) else some ⟨wb, lo, none⟩) = some ⟨wb, off, none⟩ := by rw [hoff]; split <;> rfl
    clear hoff
    have Hf := Lib.hid hf
    have HCn := Lib.hid (fun (V : World) (hV : Upd (fun _ => False) W V) (cap : Nat) => contains_none V h wb sb n os rest (H1.out.quiet hV) off (hi - lo) cap (o.ws.take p) (by rw [List.length_take]; simp only [Ob.len] at hpl; have := Hhi.out; omega) (by rw [List.length_take]; omega)
      (fun j y hj => by
        have hjl := (List.getElem?_eq_some_iff.1 hj).1
        rw [List.length_take] at hjl
        rw [List.getElem?_take, if_pos (by omega)] at hj
        have e : off = lo := by rw [Hoff.out]; have := Hhi.out; split <;> omega
        rw [e, Hlo.out]
        exact (H1.out.quiet hV).field Hf.out hj)
      (fun y hy => hl o (find_mem Hf.out) y (by rw [← hp]; exact hy)))
    have HP := Lib.hid hp
    clear h1 hgo hfl hsz hp
    gi_wp2
    refine wpIn_region_held_drew (S := fun V => V.cell? ⟨w.heap.size, 0, none⟩ = some (.pointer (some ⟨h, 0, none⟩)) ∧ V.cell? ⟨h, 0, none⟩ = some (.slice (some ⟨wb, 0, none⟩) n n) ∧ V.cell? ⟨Bx, 2, none⟩ = some (.int .i64 (p : Int))) hmx (by kernel_rfl) ⟨c0, ch0, x2⟩ (fun hHeld => ?_)
    simp only [List.size_toArray, List.length_cons, List.length_nil, Nat.reduceAdd]
    refine take_any (i := 0) (v := ?_) (by rfl) (by kernel_rfl) (by exact (fun _ _ _ h => h)) (by rfl) hHeld ?_ ?_
    rotate_left
    · ((intro V hV; obtain ⟨hV0, hV1, hV2⟩ := hV; go_simp) <;> (with_reducible rfl))
    try simp only [Act.put, List.setIfInBounds_toArray, List.set_cons_zero, List.set_cons_succ]
    refine take_any (i := 1) (v := ?_) (by rfl) (by kernel_rfl) (by exact (fun _ _ _ h => h)) (by rfl) hHeld ?_ ?_
    rotate_left
    · ((intro V hV; obtain ⟨hV0, hV1, hV2⟩ := hV; go_simp) <;> (with_reducible rfl))
    try simp only [Act.put, List.setIfInBounds_toArray, List.set_cons_zero, List.set_cons_succ]
    refine take_any (i := 2) (v := ?_) (by rfl) (by kernel_rfl) (by exact (fun _ _ _ h => h)) (by rfl) hHeld ?_ ?_
    rotate_left
    · ((intro V hV; obtain ⟨hV0, hV1, hV2⟩ := hV; go_simp) <;> (with_reducible rfl))
    try simp only [Act.put, List.setIfInBounds_toArray, List.set_cons_zero, List.set_cons_succ]
    refine take_any (i := 3) (v := ?_) (by rfl) (by kernel_rfl) (by exact (fun _ _ _ h => h)) (by rfl) hHeld ?_ ?_
    rotate_left
    · ((intro V hV; obtain ⟨hV0, hV1, hV2⟩ := hV; go_simp) <;> (with_reducible rfl))
    try simp only [Act.put, List.setIfInBounds_toArray, List.set_cons_zero, List.set_cons_succ]
    refine take_any (i := 4) (v := ?_) (by rfl) (by kernel_rfl) (by exact (fun _ _ _ h => h)) (by rfl) hHeld ?_ ?_
    rotate_left
    · ((intro V hV; obtain ⟨hV0, hV1, hV2⟩ := hV; go_simp) <;> (with_reducible rfl))
    try simp only [Act.put, List.setIfInBounds_toArray, List.set_cons_zero, List.set_cons_succ]
    refine take_any (i := 5) (v := ?_) (by rfl) (by kernel_rfl) (by exact (fun _ _ _ h => h)) (by rfl) hHeld ?_ ?_
    rotate_left
    · ((intro V hV; obtain ⟨hV0, hV1, hV2⟩ := hV; go_simp) <;> (with_reducible rfl))
    try simp only [Act.put, List.setIfInBounds_toArray, List.set_cons_zero, List.set_cons_succ]
    refine take_any (i := 6) (v := ?_) (by rfl) (by kernel_rfl) (by exact (fun _ _ _ h => h)) (by rfl) hHeld ?_ ?_
    rotate_left
    · ((intro V hV; obtain ⟨hV0, hV1, hV2⟩ := hV; go_simp) <;> (with_reducible rfl))
    try simp only [Act.put, List.setIfInBounds_toArray, List.set_cons_zero, List.set_cons_succ]
    refine take_any (i := 7) (v := ?_) (by rfl) (by kernel_rfl) (by exact (fun _ _ _ h => h)) (by rfl) hHeld ?_ ?_
    rotate_left
    · ((intro V hV; obtain ⟨hV0, hV1, hV2⟩ := hV; go_simp) <;> (with_reducible rfl))
    try simp only [Act.put, List.setIfInBounds_toArray, List.set_cons_zero, List.set_cons_succ]
    refine take_any (i := 8) (v := ?_) (by rfl) (by kernel_rfl) (by exact (fun _ _ _ h => h)) (by rfl) hHeld ?_ ?_
    rotate_left
    · ((intro V hV; obtain ⟨hV0, hV1, hV2⟩ := hV; go_simp) <;> (with_reducible rfl))
    try simp only [Act.put, List.setIfInBounds_toArray, List.set_cons_zero, List.set_cons_succ]
    refine take_any (i := 9) (v := ?_) (by rfl) (by kernel_rfl) (by exact (fun _ _ _ h => h)) (by rfl) hHeld ?_ ?_
    rotate_left
    · ((intro V hV; obtain ⟨hV0, hV1, hV2⟩ := hV; go_simp) <;> (with_reducible rfl))
    try simp only [Act.put, List.setIfInBounds_toArray, List.set_cons_zero, List.set_cons_succ]
    refine take_any (i := 10) (v := ?_) (by rfl) (by kernel_rfl) (by exact (fun _ _ _ h => h)) (by rfl) hHeld ?_ ?_
    rotate_left
    · ((intro V hV; obtain ⟨hV0, hV1, hV2⟩ := hV; go_simp) <;> (with_reducible rfl))
    try simp only [Act.put, List.setIfInBounds_toArray, List.set_cons_zero, List.set_cons_succ]
    refine take_any (i := 11) (v := ?_) (by rfl) (by kernel_rfl) (by exact (fun _ _ _ h => h)) (by rfl) hHeld ?_ ?_
    rotate_left
    · ((intro V hV; obtain ⟨hV0, hV1, hV2⟩ := hV; go_simp) <;> (with_reducible rfl))
    try simp only [Act.put, List.setIfInBounds_toArray, List.set_cons_zero, List.set_cons_succ]
    refine take_any (i := 12) (v := ?_) (by rfl) (by kernel_rfl) (by exact (fun _ _ _ h => h)) (by rfl) hHeld ?_ ?_
    rotate_left
    · ((intro V hV; obtain ⟨hV0, hV1, hV2⟩ := hV; go_simp) <;> (with_reducible rfl))
    try simp only [Act.put, List.setIfInBounds_toArray, List.set_cons_zero, List.set_cons_succ]
    refine take_any (i := 13) (v := ?_) (by rfl) (by kernel_rfl) (by exact (fun _ _ _ h => h)) (by rfl) hHeld ?_ ?_
    rotate_left
    · ((intro V hV; obtain ⟨hV0, hV1, hV2⟩ := hV; go_simp) <;> (with_reducible rfl))
    try simp only [Act.put, List.setIfInBounds_toArray, List.set_cons_zero, List.set_cons_succ]
    refine next_last (i := 14) (by rfl) (by kernel_rfl) (fun KK hK => ?_)
    go_simp
    go_at_call 43
    refine (HCn.out _ ((Upd.refl _ W).drew) _).mono ?_
    rintro e W2 ⟨rfl, hu2⟩
    refine hK.out _ _ ⟨keepC hu2 c0, keepC hu2 ch0, keepC hu2 x2⟩ (fun hHeld => ?_)
    clear hK KK
    try simp only [Act.put, List.setIfInBounds_toArray, List.set_cons_zero, List.set_cons_succ]
    refine take_any (i := 15) (v := ?_) (by rfl) (by kernel_rfl) (by exact (fun _ _ _ h => h)) (by rfl) hHeld ?_ ?_
    rotate_left
    · ((intro V hV; obtain ⟨hV0, hV1, hV2⟩ := hV; go_simp) <;> (with_reducible rfl))
    try simp only [Act.put, List.setIfInBounds_toArray, List.set_cons_zero, List.set_cons_succ]
    refine wpAnyH_done (by kernel_rfl) ?_ _
    refine ⟨by simp, ?_⟩
    simp only [Act.put, List.getElem?_toArray, List.getElem?_cons_succ, List.getElem?_cons_zero, List.getElem_toArray, List.getElem_cons_succ, List.getElem_cons_zero, List.setIfInBounds_toArray, List.set_cons_zero, List.set_cons_succ]
    gi_wp2
    have hu' := ((Upd.refl (fun _ => False) W).drew).trans hu2
    refine ⟨⟨hu'.size, fun k o hk ho hc => ?_⟩, KeepC.of_upd (hu'.mono (fun _ _ h => h.elim)), H1.out.quiet hu', h2.upd hu' (fun h => h), h3.upd hu' (fun h => h), h4.trans hu', Nat.le_trans h5 hu'.size⟩
    rw [hu'.block k (Array.getElem?_eq_some_iff.1 ho).1 (fun h => h)]
    exact ho
  case done =>
    rintro D xs W hD rfl ⟨h1, h2, h3, h4, h5⟩ hK
    have c0 := h3.cell 0 rfl
    have f0 := h3.frozen 0
    go_wp2
    have hK2 : (W.setCell ⟨w.heap.size + 1, 0, none⟩ (.int .i64 0)).heap[D]? = some (.deferred (some [])) := by
      rw [((Upd.refl (fun k => k = w.heap.size + 1) W).setCell (p := ⟨w.heap.size + 1, 0, none⟩) (.int .i64 0) (fun _ => rfl)).block D (Array.getElem?_eq_some_iff.1 hK).1 (by omega)]
      exact hK
    refine ⟨by simp, .inl ⟨_, _, rfl, run_takeDeferred hK2, ?_⟩⟩
    have hrc : ((W.setCell ⟨w.heap.size + 1, 0, none⟩ (.int .i64 0)).putObj D (Obj.deferred none)).cell? ⟨w.heap.size + 1, 0, none⟩ = some (.int .i64 0) :=
      cell_kept (h3.set 0 (.int .i64 0) |>.cell 0 rfl) (grownBy_putObj' _ D (.deferred none)) (fun r e => by cases e; exact ⟨_, hK2, rfl⟩)
    refine ⟨_, result_int rfl _ _ _ _ rfl hrc, rfl, ?_⟩
    exact (h4.setCell (p := ⟨w.heap.size + 1, 0, none⟩) _ (fun h => by have h : w.heap.size + 1 < w.heap.size := h; omega)).grown (grownBy_putObj' _ D (.deferred none)) (fun k e hlt => by cases e; omega)
  case stop =>
    rintro D c pre W _ _ hx _
    exact hx.elim
end Go.Proofs.YtapjajclmbpjmaaGreatDoor.Heap
