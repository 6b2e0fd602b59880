/- Tallies: a heap's. -/
import Derived.Test.YtjlcjcgoaakniaaTallyCount
import Derived.Test.YtjlcjcgoaakniaaWalk
set_option linter.unusedSimpArgs false
namespace Go.Proofs.Ytjlcjcgoaakniaa.Tally
open Go.RowKit Go.Shelf Go.Proofs.Ytjlcjcgoaakniaa.Mem Go.Proofs.Ytjlcjcgoaakniaa.Obj Go.Proofs.Ytjlcjcgoaakniaa.Heap
attribute [local go_sem] Oper.semAt_some

theorem size_any (w : World) (h wb sb n : Nat) (os : List Ob) (rest : List Int) (H : HeapAt w h wb sb n os rest) :
    Calls Try.prog 43 #[.pointer (some ⟨h, 0, none⟩)] w fun e w' => e = .returned (.int .i64 (n : Int)) ∧ w = w' := by
  have c0 := H.str.cell 0 rfl
  clear H
  go_enter Try.func43, Try.ntmps43
  go_wp2
  go_ret
  exact ⟨rfl, rfl⟩
theorem walk_made (w : World) (b : Nat) :
    Calls Try.prog 64 #[.pointer (some ⟨b, 0, none⟩)] w fun e w' => e = .returned (.func (.func 80) #[] #[.pointer (some ⟨w.heap.size, 0, none⟩)]) ∧ w' = w.alloc (.cells #[.pointer (some ⟨b, 0, none⟩)] 69) := by
  have hmf : ∀ (fn : Fn) (first cap : Array Value) (w : World), (Instr.makeFunc fn first cap).run Try.prog w = .ok (.func fn first cap) w := fun _ _ _ _ => rfl
  go_enter Try.func64, Try.ntmps64
  go_wp2
  go_ret
  exact ⟨rfl, rfl⟩

theorem gen_calls {P : Program} {f : FuncId} {args : Array Value} {W : World} {R : Ending → World → Prop} (h : ∀ w2, w2 = W → Calls P f args w2 R) : Calls P f args W R := h W rfl
theorem there_made (w : World) (o : Go.Obj) (cs : Array Value) (t : TypeId) {n : Nat} (hn : n = cs.size) : ((w.alloc o).alloc (.cells cs t)).there (w.heap.size + 1) 0 n := by
  subst hn
  have h : Blk ((w.alloc o).alloc (.cells cs t)) (w.heap.size + 1) cs.toList t := Blk.made' w o cs.toList t
  intro j hj
  have hj2 : cs.toList[0 + j]? = some (cs.toList[0 + j]'(by simpa using hj)) := List.getElem?_eq_getElem _
  exact ⟨by rw [h.cell (0 + j) hj2]; rfl, h.frozen (0 + j)⟩

theorem tot_told {os : List Ob} (hg : ∀ o ∈ os, o.good) : ∀ (pre : List (Go.Proofs.Ytjlcjcgoaakniaa.Heap.Told os)), tot (pre.map (fun x => kw x.1.2)) ≤ 4097 * pre.length
  | [] => Nat.le_refl _
  | x :: pre => by
    have h1 := tot_told hg pre
    have h2 := hg _ (find_mem x.2)
    rw [List.map_cons, tot_cons, List.length_cons]
    have h3 := h2.2.2.1
    show 1 + (1 + x.1.2.len) + tot (pre.map (fun x => kw x.1.2)) ≤ _
    omega
theorem len_top : ∀ (os : List Ob), os.length ≤ top os
  | [] => Nat.le_refl _
  | o :: os => by have := len_top os; rw [top_cons, List.length_cons]; omega

attribute [-simp] Try.sizeOf56 in
set_option maxRecDepth 20000 in
set_option maxHeartbeats 2000000 in
theorem tof_any (w : World) (h wb sb n : Nat) (os : List Ob) (rest : List Int) (H : HeapAt w h wb sb n os rest) :
    Calls Try.prog 39 #[.pointer (some ⟨h, 0, none⟩)] w fun e w' => e = .returned (ag 33 (tal (os.map kw) (n : Int))) ∧ Upd (fun _ => False) w w' := by
  obtain ⟨size, hsize⟩ : ∃ size : Int, size = (n : Int) := ⟨_, rfl⟩
  rw [← hsize]
  have HSize := Lib.hid hsize
  obtain ⟨W0, hW0⟩ : ∃ W0, W0 = (w.alloc (.cells #[.int .i64 0, .int .i64 0, .int .i64 0, .int .i64 0, .int .i64 0, .int .i64 0, .int .i64 0, .int .i64 0, .int .i64 0, .int .i64 0, .int .i64 0, .int .i64 0, .int .i64 0, .int .i64 0, .int .i64 0, .int .i64 0, .int .i64 0, .int .i64 0, .int .i64 0, .int .i64 0, .int .i64 0, .int .i64 0, .int .i64 0, .int .i64 0, .int .i64 0, .int .i64 0, .int .i64 0, .int .i64 0, .int .i64 0, .int .i64 0, .int .i64 0, .int .i64 0, .int .i64 0] 56)).alloc (.cells #[.int .i64 0, .int .i64 0, .int .i64 0, .int .i64 0, .int .i64 0, .int .i64 0, .int .i64 0, .int .i64 0, .int .i64 0, .int .i64 0, .int .i64 0, .int .i64 0, .int .i64 0, .int .i64 0, .int .i64 0, .int .i64 0, .int .i64 0, .int .i64 0, .int .i64 0, .int .i64 0, .int .i64 0, .int .i64 0, .int .i64 0, .int .i64 0, .int .i64 0, .int .i64 0, .int .i64 0, .int .i64 0, .int .i64 0, .int .i64 0, .int .i64 0, .int .i64 0, .int .i64 0] 56) := ⟨_, rfl⟩
  have HW0 := Lib.hid hW0
  have hu0 : Upd (fun _ => False) w W0 := by rw [hW0]; exact ((Upd.refl _ w).alloc _).alloc _
  have hz : Blk W0 w.heap.size (cf 33 fun _ => 0) 56 := by
    rw [hW0, cf_zero]
    exact (Blk.made w _ _).alloc _
  have ht : Blk W0 (w.heap.size + 1) (cf 33 fun _ => 0) 56 := by
    rw [hW0, cf_zero]
    exact Blk.made' w _ _ _
  have hth : World.there ((w.alloc (.cells #[.int .i64 0, .int .i64 0, .int .i64 0, .int .i64 0, .int .i64 0, .int .i64 0, .int .i64 0, .int .i64 0, .int .i64 0, .int .i64 0, .int .i64 0, .int .i64 0, .int .i64 0, .int .i64 0, .int .i64 0, .int .i64 0, .int .i64 0, .int .i64 0, .int .i64 0, .int .i64 0, .int .i64 0, .int .i64 0, .int .i64 0, .int .i64 0, .int .i64 0, .int .i64 0, .int .i64 0, .int .i64 0, .int .i64 0, .int .i64 0, .int .i64 0, .int .i64 0, .int .i64 0] 56)).alloc (.cells #[.int .i64 0, .int .i64 0, .int .i64 0, .int .i64 0, .int .i64 0, .int .i64 0, .int .i64 0, .int .i64 0, .int .i64 0, .int .i64 0, .int .i64 0, .int .i64 0, .int .i64 0, .int .i64 0, .int .i64 0, .int .i64 0, .int .i64 0, .int .i64 0, .int .i64 0, .int .i64 0, .int .i64 0, .int .i64 0, .int .i64 0, .int .i64 0, .int .i64 0, .int .i64 0, .int .i64 0, .int .i64 0, .int .i64 0, .int .i64 0, .int .i64 0, .int .i64 0, .int .i64 0] 56)) (w.heap.size + 1) 0 33 := by
    rw [← hW0]
    exact fun j hj => ⟨by rw [ht.cell (0 + j) (cf_get (by omega))]; rfl, ht.frozen (0 + j)⟩
  have hbd : ∀ W : World, (Instr.build 56 #[(1, .int .i64 size)]).run Try.prog W = .ok (ag 33 (tal [] size)) W := fun W => by
    rw [ag, cf_start]
    exact run_build W _ _ _ (by kernel_rfl)
  have HOne := Lib.hid (show (#[.int .i64 0, .int .i64 0, .int .i64 0, .int .i64 0, .int .i64 0, .int .i64 0, .int .i64 0, .int .i64 0, .int .i64 0, .int .i64 0, .int .i64 0, .int .i64 0, .int .i64 0, .int .i64 0, .int .i64 0, .int .i64 0, .int .i64 0, .int .i64 0, .int .i64 0, .int .i64 0, .int .i64 0, .int .i64 0, .int .i64 0, .int .i64 0, .int .i64 0, .int .i64 0, .int .i64 0, .int .i64 0, .int .i64 0, .int .i64 0, .int .i64 0, .int .i64 0, .int .i64 size] : Array Value).all (·.oneCell') = true by have h := cf_one 33 (tal [] size); rw [cf_start] at h; exact h)
  have HZ := Lib.hid hz
  have HT := Lib.hid ht
  have HU0 := Lib.hid hu0
  have HH := Lib.hid H
  have hszc := fun (W : World) (hu : Upd (fun _ => False) w W) => size_any W h wb sb n os rest (H.quiet hu)
  rw [← hsize] at hszc
  have HSz := Lib.hid hszc
  have hl := H.str.lt
  have hl2 := H.wds.lt
  have hl3 := H.sts.lt
  clear hW0 hu0 hz ht hth H hszc hsize
  refine (callsIn_wide (n := 3)).1 ?_
  refine callsIn_of_wp_marks Try.func39 rfl trivial ?_ rfl
  refine wpIn_wide.2 ?_
  simp only [Try.ntmps39, List.size_toArray, List.length_cons, List.length_nil, Nat.reduceAdd, Nat.reduceSub, Array.replicate_succ, Array.replicate_zero, List.push_toArray, List.append_toArray, List.nil_append, List.cons_append]
  go_wp2_with fail
  refine (HSz.out _ ((Upd.refl _ w).alloc _)).mono ?_
  rintro e w1 ⟨rfl, rfl⟩
  go_wp2_with (refine wpList_store_mid rfl 56 _ _ rfl _ _ _ rfl rfl ?there (by kernel_rfl) ?one ?_)
  case there => exact there_made w _ _ _ rfl
  case one => exact HOne.out
  refine gen_calls (fun w2 hw2 => ?_)
  have hus : Upd (fun k => k = w.heap.size + 1) W0 w2 := by
    rw [hw2, HW0.out]
    exact upd_setCells (S := fun k => k = w.heap.size + 1) (w.heap.size + 1) (fun _ => rfl) _ _ _ (Upd.refl _ _)
  have ht2 : Blk w2 (w.heap.size + 1) (cf 33 (tal [] size)) 56 := by
    have h := HT.out
    rw [HW0.out] at h
    rw [hw2, cf_start]
    exact blk_stored h (by rw [cf_len]; rfl)
  have hz2 := HZ.out.upd hus (by omega)
  have hu2 := HU0.out.next hus (fun i hi h => by omega)
  have HZ2 := Lib.hid hz2
  have HT2 := Lib.hid ht2
  have HU2 := Lib.hid hu2
  clear hus hz2 ht2 hu2 HZ HT HU0  HOne hw2 HW0 HSz hbd
  refine (walk_made _ _).mono ?_
  rintro e w3 ⟨rfl, rfl⟩
  go_wp2
  have hal := (Upd.refl (fun _ => False) w2).alloc (.cells #[.pointer (some ⟨h, 0, none⟩)] 69)
  have hbx := Blk.made w2 [.pointer (some ⟨h, 0, none⟩)] 69
  have hs3 : (w2.alloc (.cells #[.pointer (some ⟨h, 0, none⟩)] 69)).heap.size = w2.heap.size + 1 := by rw [World.size_alloc]
  have ht3 := HT2.out.upd hal (fun h => h)
  have hz3 := HZ2.out.upd hal (fun h => h)
  have hu3 := HU2.out.trans hal
  have hH3 := HH.out.quiet hu3
  have hlt2 := HT2.out.lt
  have hH3g := hH3.good
  have hsz3 := hH3.size
  have hhi3 := hH3.hi
  have hlos := len_top os
  generalize w2.alloc (.cells #[.pointer (some ⟨h, 0, none⟩)] 69) = w3 at *
  generalize w2.heap.size = bx at *
  clear hal HT2 HZ2 HU2
  refine (wpIn_wide (n := 3)).1 ?_
  refine wpIn_rangeFunc_ownH rfl (by omega) (gf := 80) (lb := #[.pointer (some ⟨bx, 0, none⟩)]) rfl trivial (enters_of Try.func80 (by kernel_rfl) rfl)
    (walk_stops 2 (by omega) h wb sb n bx (w.heap.size + 1) os rest w3 hH3 hbx ⟨by omega, by omega, by omega⟩ (by omega)) (fun h k => h.trans k) (fun W l o o' _ ho hc _ => KeepC.put _ W l o o' ho hc) (Below.refl _ _) (fun _ => rfl)
    (fun pre W => Blk W (w.heap.size + 1) (cf 33 (tal (pre.map (fun x => kw x.1.2)) size)) 56 ∧ Blk W w.heap.size (cf 33 fun _ => 0) 56 ∧ Upd (fun _ => False) w W ∧ w3.heap.size ≤ W.heap.size)
    (fun _ _ _ => False)
    (fun s W W' row hs hg hr => by
      have hne : ∀ k, k < w3.heap.size → some k ≠ row := fun k hk e => by have := (hr k e.symm).1; omega
      exact ⟨hs.1.of_eq (hg.block _ hs.1.lt (hne _ (by omega))), hs.2.1.of_eq (hg.block _ hs.2.1.lt (hne _ (by omega))), hs.2.2.1.grown hg (fun k e hlt => by have := (hr k e).1; omega), Nat.le_trans hs.2.2.2 hg.size⟩)
    (fun _ _ _ _ _ hs _ _ => hs)
    ⟨ht3, hz3, hu3, Nat.le_refl _⟩
    (fun x a' W => ∃ Bx, w3.heap.size ≤ Bx ∧ Blk W Bx [.int .i64 (x.1.2.kind : Int), .int .i64 (x.1.2.len : Int), .int .i64 (x.1.2.ptrs : Int)] 105 ∧ a' = { tmps := #[.pointer (some ⟨h, 0, none⟩), undef, .pointer (some ⟨w.heap.size, 0, none⟩), .pointer (some ⟨w.heap.size + 1, 0, none⟩), undef, .pointer (some ⟨Bx, 0, none⟩), .pointer (some ⟨h, 0, none⟩), .int .i64 size, ag 33 (tal [] size), .pointer (some ⟨h, 0, none⟩), .func (.func 80) #[] #[.pointer (some ⟨bx, 0, none⟩)], .int .i64 (x.1.1 : Int), .agg #[.int .i64 (x.1.2.kind : Int), .int .i64 (x.1.2.len : Int), .int .i64 (x.1.2.ptrs : Int)], undef, undef, undef, undef, undef, undef, undef], defers := [] })
    (fun x a' _ W W' row hs hg hr => by
      obtain ⟨Bx, h1, h2, h3⟩ := hs
      refine ⟨Bx, h1, h2.of_eq (hg.block _ h2.lt (fun e => ?_)), h3⟩
      obtain ⟨o, ho, hc⟩ := (hr Bx e.symm).2
      have h4 : W.heap[Bx]? = _ := h2
      rw [h4] at ho
      cases ho
      cases hc)
    ?assign ?body ?done ?stop
  case assign =>
    rintro l pre x W K ⟨h1, h2, h3, h4⟩ hK
    dsimp only [encW]
    gi_wp2
    refine hK _ _ ?_ ?_ ?_ ?_
    · exact (KeepsOthers.alloc _ _).from _
    · exact KeepC.of_upd ((Upd.refl _ W).alloc _)
    · exact ⟨h1.alloc _, h2.alloc _, h3.alloc _, by rw [World.size_alloc]; omega⟩
    · exact ⟨W.heap.size, h4, Blk.made W _ _, by rw [ag, cf_start]⟩
  case body =>
    rintro l pre x a' W hl ⟨r, hr⟩ ⟨h1, h2, h3, h4⟩ ⟨Bx, hBx, hb, rfl⟩ hlt
    have hgo := hH3g _ (find_mem x.2)
    have hk15 := hgo.1
    have hl4 := hgo.2.2.1
    have htt := tot_told hH3g (pre ++ [x])
    rw [List.map_append, List.length_append, List.length_singleton] at htt
    have hsn : (pre ++ [x]).map (fun x => kw x.1.2) = pre.map (fun x => kw x.1.2) ++ [(x.1.2.kind, 1 + x.1.2.len)] := by rw [List.map_append]; rfl
    have hct := count_any W (w.heap.size + 1) (pre.map (fun x => kw x.1.2)) size x.1.2.kind (1 + x.1.2.len) h1 (by omega) (Nat.le_trans htt (by omega))
    have HSn := Lib.hid hsn
    obtain ⟨kn, hkn⟩ : ∃ kn, kn = x.1.2.kind := ⟨_, rfl⟩
    obtain ⟨ln, hln⟩ : ∃ ln, ln = x.1.2.len := ⟨_, rfl⟩
    rw [← hkn, ← hln] at hb hct
    rw [← hln] at hl4
    have c0 := hb.cell 0 rfl
    have c1 := hb.cell 1 rfl
    have cl := hb.lt
    have s1 : IntKind.i64.wrap (1 + (ln : Int)) = ((1 + ln : Nat) : Int) := by rw [IntWalk.i64_in _ (by omega)]; push_cast; rfl
    rw [show ((1 + ln : Nat) : Int) = 1 + (ln : Int) by push_cast; rfl] at hct s1
    have HCt := Lib.hid hct
    have HEq := Lib.hid (show (kn, 1 + ln) = (x.1.2.kind, 1 + x.1.2.len) by rw [hkn, hln])
    clear hgo htt hct hsn hkn hln hb
    gi_wp2_with fail
    refine ⟨trivial, (CallsIn.inRound l (callsIn_wide.2 HCt.out)).mono ?_⟩
    rintro e W' ⟨rfl, hB', hu'⟩
    gi_wp2
    refine ⟨⟨hu'.size, fun k o hk ho hc => ?_⟩, KeepC.of_upd hu', ?_, h2.upd hu' (by omega), h3.next hu' (fun i hi e => by omega), Nat.le_trans h4 hu'.size⟩
    · rw [hu'.block k (Array.getElem?_eq_some_iff.1 ho).1 (by omega)]
      exact ho
    · rw [HSn.out, ← HEq.out]
      exact hB'
  case done =>
    rintro D xs W hD rfl ⟨h1, h2, h3, h4⟩ hK
    have e : (told os os.length).map (fun x => kw x.1.2) = os.map kw := by rw [told_map os kw _ (Nat.le_refl _), List.take_length]
    rw [e] at h1
    have hr := Blk.range h1 0 33 (by omega)
    have hth : W.there w.heap.size 0 33 := fun j hj => ⟨by rw [h2.cell (0 + j) (cf_get (by omega))]; rfl, h2.frozen (0 + j)⟩
    have Hr := Lib.hid hr
    have Hth := Lib.hid hth
    have H3 := Lib.hid h3
    have HK := Lib.hid hK
    clear h1 h2 h3 hr hth e hK
    go_wp2_with (first | (refine wpList_load_mid rfl 56 _ rfl (w.heap.size + 1) 0 rfl (cf 33 (tal (os.map kw) size)) _ (by simpa using Hr.out) Try.underlying56 rfl (by kernel_rfl) ?_) | (refine wpList_store_mid rfl 56 _ _ rfl w.heap.size 0 (cf 33 (tal (os.map kw) size)).toArray rfl rfl ?there (by kernel_rfl) (cf_one _ _) ?_))
    case there =>
      have e : (cf 33 (tal (os.map kw) size)).toArray.size = 33 := by simp [cf]
      rw [e]; exact Hth.out
    try simp only [Exit.inBlock, Exit.then]
    have hrg := World.rangeAt_setCells_same W w.heap.size 0 (cf 33 (tal (os.map kw) size)) (by rw [cf_len]; exact Hth.out)
    have hK2 : (W.setCells w.heap.size 0 (cf 33 (tal (os.map kw) size))).heap[D]? = some (.deferred (some [])) := by
      rw [(upd_setCells (S := fun k => k = w.heap.size) w.heap.size (fun _ => rfl) _ 0 W (Upd.refl _ W)).block D (Array.getElem?_eq_some_iff.1 HK.out).1 (by omega)]
      exact HK.out
    refine ⟨by simp, .inl ⟨_, _, rfl, run_takeDeferred hK2, ?_⟩⟩
    refine ⟨_, results_cell_mid rfl _ _ w.heap.size 0 (cf 33 (tal (os.map kw) size)) _ rfl (fun j v hv => cell_kept (hrg j v hv) (grownBy_putObj' _ D (.deferred none)) (fun r e => by cases e; exact ⟨_, hK2, rfl⟩)) Try.underlying56 rfl (by kernel_rfl), rfl, ?_⟩
    exact (upd_setCells _ (fun h => by omega) _ _ _ H3.out).grown (grownBy_putObj' _ D (.deferred none)) (fun k e hlt => by cases e; omega)
  case stop =>
    rintro D c pre W _ _ hx _
    exact hx.elim
end Go.Proofs.Ytjlcjcgoaakniaa.Tally
