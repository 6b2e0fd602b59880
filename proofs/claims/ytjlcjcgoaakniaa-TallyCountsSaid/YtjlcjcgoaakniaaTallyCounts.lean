/- The law TallyCounts: of any heap, and of what is reached in it, each kind's objects and words are counted; their sum is told. -/
import Derived.Test.YtjlcjcgoaakniaaGraphReaches
import Derived.Test.YtjlcjcgoaakniaaTallyOf
import Derived.Test.YtjlcjcgoaakniaaTallyLay
set_option linter.unusedSimpArgs false
namespace Go.Proofs.Ytjlcjcgoaakniaa.Build
open Go.RowKit Go.Deep Go.Proofs.Ytjlcjcgoaakniaa.Mem Go.Proofs.Ytjlcjcgoaakniaa.Obj Go.Proofs.Ytjlcjcgoaakniaa.Ref Go.Proofs.Ytjlcjcgoaakniaa.Heap
open Go.Proofs.Ytjlcjcgoaakniaa.Tally (cf cf_get cf_len cf_one cf_zero blk_stored gen_last)

attribute [-go_sem] run_eql_struct run_equalIn_agg in
attribute [-simp] Try.sizeOf56 in
set_option maxRecDepth 20000 in
set_option maxHeartbeats 40000000 in
theorem tcounts_few (w : World) (na ra : Option Addr) (nc rc : Nat) (ns : List GNd) (rs : List Nat) (hn : NodesIn w na ns) (hr : Bytes w ra rs) (hf : (∀ n ∈ ns, n.edges.length ≤ 10) ∧ ns.length ≤ 14 ∧ rs.length ≤ 14) :
    Calls Try.prog 13 #[gv na ns.length nc ra rs.length rc] w fun e w' => e = .returned (.bool true) ∧ Upd (fun _ => False) w w' := by
  have hu0 := (Upd.refl (fun _ => False) w).alloc (.cells (GB na ns.length nc ra rs.length rc).toArray 67)
  have HB := Lib.hid (Blk.made w (GB na ns.length nc ra rs.length rc) 67)
  have HU := Lib.hid hu0
  have HN := Lib.hid hn
  have HR := Lib.hid hr
  have HF := Lib.hid hf
  have hnl := hf.2.1
  have hrl := hf.2.2
  clear hu0 hn hr hf
  go_enter Try.func13, Try.ntmps13
  go_wp2_with fail
  refine (Tally.awake19 _).mono ?_
  rintro e w1 ⟨rfl, hu1⟩
  have hB1 := HB.out.upd hu1 (fun h => h)
  have b0 := hB1.cell 0 rfl
  have b1 := hB1.cell 1 rfl
  have bl := hB1.lt
  have hfew := few_any w1 na ra nc rc ns rs.length (HN.out.quiet (HU.out.trans hu1)) (by omega) (by omega)
  rw [decide_eq_true HF.out] at hfew
  have HFew := Lib.hid hfew
  have HU1 := Lib.hid (HU.out.trans hu1)
  have HB1 := Lib.hid hB1
  clear hB1 hfew hu1
  go_wp2_with fail
  refine (HFew.out).mono ?_
  rintro e w2 ⟨rfl, hu2⟩
  have hB2 := HB1.out.upd hu2 (fun h => h)
  have HU2 := Lib.hid (HU1.out.trans hu2)
  clear b0 b1 bl
  have b0 := hB2.cell 0 rfl
  have b1 := hB2.cell 1 rfl
  have bl := hB2.lt
  have hbd := build_any w2 na ra nc rc ns rs (HN.out.quiet HU2.out) (HR.out.quiet HU2.out) ⟨HF.out.1, hnl, hrl⟩ 2 (by omega)
  rw [show ((2 : Nat) : Int) = 2 from rfl] at hbd
  have HBd := Lib.hid hbd
  clear hB2 hu2 hbd
  go_wp2_with fail
  refine (HBd.out).mono ?_
  rintro e w3 ⟨h, wb, sb, rest, va, vc, vr, S, rfl, hH, hro, hRf, _, _, _, _, _, _, _, hu3⟩
  obtain ⟨ga, gc, rfl⟩ := hRf.form
  have hat : ∀ a ∈ atOf ns, a ≤ 65536 := fun a ha => by have h1 := atOf_le ha; have h2 := tot_le ns HF.out.1; omega
  have hT := told ns rs hH.good (by omega) hat
  obtain ⟨sz, hsz⟩ : ∃ sz, sz = 1 + 2 + tot ns := ⟨_, rfl⟩
  rw [← hsz] at hH ⊢
  obtain ⟨os, hos⟩ : ∃ os, os = obsOf ns := ⟨_, rfl⟩
  obtain ⟨Xs, hXs⟩ : ∃ Xs, Xs = rs.map (placeOf (atOf ns)) := ⟨_, rfl⟩
  rw [← hos] at hH hRf ⊢
  have hXl : Xs.length = rs.length := by rw [hXs, List.length_map]
  have hg := hT.good
  have hw64 := hT.w64
  have hpt := hT.ptrs
  have hrt := hT.roots
  rw [← hos] at hg hw64 hpt hrt
  rw [← hXs] at hrt hro
  obtain ⟨ks, nds, hform⟩ := form_total (fun x hx => (hrt x hx).1) hpt
  have htop : top os ≤ 65536 := by have := hH.size; have := hH.hi; omega
  have hal := (Upd.refl (fun _ => False) w3).alloc (.cells #[.int .i64 (sz : Int), .slice ga os.length gc] 73)
  have hro' := own_upd hro hal (fun _ _ h => h)
  rw [← hXl] at hro'
  have hri := ints_own hro' (fun x hx => (hrt x hx).2) (by omega)
  have hof := Graph.of_any _ h wb sb sz os rest (hH.quiet hal) va vc Xs hri (by omega) (fun x hx => (hrt x hx).2) hw64
  rw [hform, hXl] at hof
  have HOf := Lib.hid hof
  have HRi := Lib.hid hri
  have HRf := Lib.hid (hRf.ref.quiet hal)
  have HBx := Lib.hid (Blk.made w3 [.int .i64 (sz : Int), .slice ga os.length gc] 73)
  have HU3 := Lib.hid ((HU2.out.trans hu3).trans hal)
  have HG := Lib.hid hg
  have HW64 := Lib.hid hw64
  have HPt := Lib.hid hpt
  have HRt := Lib.hid hrt
  have HForm := Lib.hid hform
  have HXl := Lib.hid hXl
  have hol := hRf.few
  have HHp := Lib.hid (hH.quiet hal)
  clear hat hT hsz hos hXs hH hRf hro hro' hri hof hXl hg hw64 hpt hrt hform hal hu3 b0 b1 bl HBd
  go_wp2_with fail
  refine (HOf.out).mono ?_
  rintro e w4 ⟨hu4, gva, gvn, rfl, hF⟩
  obtain ⟨fa, fc, rfl⟩ : ∃ a c, gva = .slice a ks.length c := own_form hF.roots
  obtain ⟨fn, fd, rfl⟩ : ∃ a c, gvn = .slice a nds.length c := by obtain ⟨nv, _, hn, _⟩ := hF.nodes; exact own_form hn
  have hal := (Upd.refl (fun _ => False) w4).alloc (.cells #[.slice fa ks.length fc, .slice fn nds.length fd] 78)
  have HFm := Lib.hid (Blk.made w4 [.slice fa ks.length fc, .slice fn nds.length fd] 78)
  have hb4 := HBx.out.upd hu4 (fun h => h)
  have k0 := hb4.cell 0 rfl
  have k1 := hb4.cell 1 rfl
  have kl := hb4.lt
  have HBx4 := Lib.hid (hb4.upd hal (fun h => h))
  have HF4 := Lib.hid (hF.quiet hal)
  have hu4' := hu4.trans hal
  have HR4 := Lib.hid (HRf.out.quiet hu4')
  have HU4 := Lib.hid (HU3.out.trans hu4')
  have hri4 := ints_below HRi.out (hu4'.below (fun _ _ h => h)) rfl
  have HHp4 := Lib.hid (HHp.out.quiet hu4')
  have HRi4 := Lib.hid hri4
  clear hu4 hF hal hb4 hu4' hri4 HOf
  go_upto_region 5 with (fail)
  have hbf := HFm.out
  have hl4 := HFm.out.lt
  generalize w4.alloc (.cells #[.slice fa ks.length fc, .slice fn nds.length fd] 78) = w5 at *
  have f0 := hbf.cell 0 rfl
  have f1 := hbf.cell 1 rfl
  have hfit := form_fits HForm.out HG.out
  have hlen := len_nwords nds
  have hrgt := form_right (size := 65536) HForm.out HG.out (by omega) (by omega) (by omega)
  obtain ⟨gnv, gnm, hgn, hgw⟩ := HF4.out.nodes
  have hnk := NodesAt.of_own gnm hgn hgw
  have htotk : tot' (nds.map Tally.kwn) ≤ 1000000 := by
    rw [tot_kwn]; omega
  have hoft := fun (W : World) (hu : Upd (fun _ => False) w5 W) => Tally.tof_any W h wb sb sz os rest (HHp4.out.quiet hu)
  have hlit := fun (W : World) (hu : Upd (fun _ => False) w5 W) => Tally.live_any W fa ks.length fc _ nds (hnk.quiet hu) (fun n hn => by have := hrgt.each n hn; omega) htotk (by omega) 77
  obtain ⟨T1, hT1⟩ : ∃ T1, T1 = Tally.tal (os.map Tally.kw) (sz : Int) := ⟨_, rfl⟩
  obtain ⟨T2, hT2⟩ : ∃ T2, T2 = Tally.tal (nds.map Tally.kwn) 77 := ⟨_, rfl⟩
  rw [← hT1] at hoft
  rw [← hT2] at hlit
  have HOfT := Lib.hid hoft
  have HLiT := Lib.hid hlit
  have HT1 := Lib.hid hT1
  have HT2 := Lib.hid hT2
  have HC0 := Lib.hid ((Upd.refl (fun _ => False) w5).drew)
  clear hbf hfit hlen hrgt hgn hgw gnm hnk htotk hoft hlit hT1 hT2
  go_cut [8, 9] (fun s8 s9 wd => TwoLaid w5 T1 T2 s8 s9 wd)
  case first =>
    refine wp_region_held_drew (S := (fun V => V.cell? ⟨w4.heap.size, 0, none⟩ = some (.slice fa ks.length fc) ∧ V.cell? ⟨w4.heap.size, 1, none⟩ = some (.slice fn nds.length fd))) (by kernel_rfl) ⟨keepC' HC0.out f0, keepC' HC0.out f1⟩ (fun hHeld => ?_)
    simp only [List.size_toArray, List.length_cons, List.length_nil, Nat.reduceAdd]
    refine gen_last (fun wX0 hwX0 => ?_)
    have HD0 := Lib.hid (show Upd (fun _ => False) w5 wX0 by rw [hwX0]; exact (Upd.refl _ _).drew)
    have hHeld : _ := hHeld
    rw [← hwX0] at hHeld
    clear hwX0
    refine take_any (i := 0) (v := ?_) (by rfl) (by kernel_rfl) (by exact (fun _ _ _ h => h)) (by rfl) hHeld ?_ ?_
    rotate_left
    · ((intro V hV; obtain ⟨hV0, hV1⟩ := hV; go_simp) <;> (with_reducible rfl))
    try simp only [Act.put, List.setIfInBounds_toArray, List.set_cons_zero, List.set_cons_succ]
    refine take_any (i := 2) (v := ?_) (by rfl) (by kernel_rfl) (by exact (fun _ _ _ h => h)) (by rfl) hHeld ?_ ?_
    rotate_left
    · ((intro V hV; obtain ⟨hV0, hV1⟩ := hV; go_simp) <;> (with_reducible rfl))
    try simp only [Act.put, List.setIfInBounds_toArray, List.set_cons_zero, List.set_cons_succ]
    refine three_any 1 4 5 (by rfl) (by rfl) (by rfl) (by kernel_rfl) (fun KK hK => ?_) (fun KK hK => ?_) (fun KK hK => ?_)
    · have HCl := Lib.hid (HOfT.out _ HD0.out)
      go_simp
      refine (HCl.out).mono ?_
      rintro e9 wX1 ⟨rfl, hu1⟩
      have hs1 := hu1.size
      have HD1 := Lib.hid (HD0.out.trans hu1)
      clear hu1 HCl
      go_wp2_with fail
      refine hK.out _ _ ⟨keepC' HD1.out f0, keepC' HD1.out f1⟩ (fun hHeld => ?_)
      clear hK KK
      try simp only [Act.put, List.setIfInBounds_toArray, List.set_cons_zero, List.set_cons_succ]
      refine three_any 3 4 5 (by rfl) (by rfl) (by rfl) (by kernel_rfl) (fun KK hK => ?_) (fun KK hK => ?_) (fun KK hK => ?_)
      · have HCl := Lib.hid (HLiT.out _ HD1.out)
        go_simp
        refine (HCl.out).mono ?_
        rintro e9 wX2 ⟨rfl, hu2⟩
        have hs2 := hu2.size
        have HD2 := Lib.hid (HD1.out.trans hu2)
        clear hu2 HCl
        go_wp2_with fail
        refine hK.out _ _ ⟨keepC' HD2.out f0, keepC' HD2.out f1⟩ (fun hHeld => ?_)
        clear hK KK
        try simp only [Act.put, List.setIfInBounds_toArray, List.set_cons_zero, List.set_cons_succ]
        refine both_last 4 5 (by rfl) (by rfl) (by kernel_rfl) (fun KK hK => ?_) (fun KK hK => ?_)
        · go_simp
          refine hK.out _ _ ⟨keepC' (HD2.out.alloc _) f0, keepC' (HD2.out.alloc _) f1⟩ (fun hHeld => ?_)
          clear hK KK
          try simp only [Act.put, List.setIfInBounds_toArray, List.set_cons_zero, List.set_cons_succ]
          refine gen_last (fun wX3 hwX3 => ?_)
          rw [← hwX3] at hHeld
          have hu3 : Upd (fun _ => False) wX2 wX3 := by rw [hwX3]; exact (Upd.refl _ _).alloc _
          have hb3 : Blk wX3 wX2.heap.size (cf 33 fun _ => 0) 56 := by rw [hwX3, cf_zero]; exact Blk.made wX2 _ _
          have H8_3 := Lib.hid hb3
          have hq8 : w5.heap.size ≤ wX2.heap.size := HD2.out.size
          have HD3 := Lib.hid (HD2.out.trans hu3)
          have hs3 := hb3.lt
          clear hu3 hb3 hwX3
          refine next_last (i := 5) (by rfl) (by kernel_rfl) (fun KK hK => ?_)
          go_simp
          refine hK.out _ _ ⟨keepC' (HD3.out.alloc _) f0, keepC' (HD3.out.alloc _) f1⟩ (fun hHeld => ?_)
          clear hK KK
          try simp only [Act.put, List.setIfInBounds_toArray, List.set_cons_zero, List.set_cons_succ]
          refine gen_last (fun wX4 hwX4 => ?_)
          rw [← hwX4] at hHeld
          have hu4 : Upd (fun _ => False) wX3 wX4 := by rw [hwX4]; exact (Upd.refl _ _).alloc _
          have hb4 : Blk wX4 wX3.heap.size (cf 33 fun _ => 0) 56 := by rw [hwX4, cf_zero]; exact Blk.made wX3 _ _
          have H8_4 := Lib.hid (H8_3.out.upd hu4 (fun h => h))
          have H9_4 := Lib.hid hb4
          have hq9 : w5.heap.size ≤ wX3.heap.size := HD3.out.size
          have HD4 := Lib.hid (HD3.out.trans hu4)
          have hs4 := hb4.lt
          clear hu4 hb4 hwX4
          have hne : wX2.heap.size ≠ wX3.heap.size := by omega
          refine next_last (i := 6) (by rfl) (by kernel_rfl) (fun KK hK => ?_)
          refine step_store (by rfl) 56 _ _ (by rfl) (wX2.heap.size) 0 (cf 33 T1).toArray (by rfl) (by rfl) (fun j hj => ⟨by rw [H8_4.out.cell (0 + j) (cf_get (by rw [List.size_toArray, cf_len] at hj; omega))]; rfl, H8_4.out.frozen (0 + j)⟩) (by kernel_rfl) (cf_one _ _) ?_
          have hu5 : Upd (fun k => k = wX2.heap.size) wX4 (wX4.setCells (wX2.heap.size) 0 (cf 33 T1)) := Tally.upd_setCells (S := fun k => k = wX2.heap.size) (wX2.heap.size) (fun _ => rfl) _ _ _ (Upd.refl _ _)
          have hD5 := HD4.out.next hu5 (fun i hi h => by omega)
          refine hK.out _ _ ⟨keepC' hD5 f0, keepC' hD5 f1⟩ (fun hHeld => ?_)
          clear hK KK
          try simp only [Act.put, List.setIfInBounds_toArray, List.set_cons_zero, List.set_cons_succ]
          have hn5 := blk_stored (vs := cf 33 T1) H8_4.out (by rw [cf_len, cf_len])
          have h9_5 := H9_4.out.upd hu5 (by omega)
          generalize wX4.setCells (wX2.heap.size) 0 (cf 33 T1) = wX5 at *
          have H8_5 := Lib.hid hn5
          have H9_5 := Lib.hid h9_5
          have HD5 := Lib.hid hD5
          clear hn5 h9_5 hD5 hu5
          refine next_last (i := 7) (by rfl) (by kernel_rfl) (fun KK hK => ?_)
          refine step_store (by rfl) 56 _ _ (by rfl) (wX3.heap.size) 0 (cf 33 T2).toArray (by rfl) (by rfl) (fun j hj => ⟨by rw [H9_5.out.cell (0 + j) (cf_get (by rw [List.size_toArray, cf_len] at hj; omega))]; rfl, H9_5.out.frozen (0 + j)⟩) (by kernel_rfl) (cf_one _ _) ?_
          have hu6 : Upd (fun k => k = wX3.heap.size) wX5 (wX5.setCells (wX3.heap.size) 0 (cf 33 T2)) := Tally.upd_setCells (S := fun k => k = wX3.heap.size) (wX3.heap.size) (fun _ => rfl) _ _ _ (Upd.refl _ _)
          have hD6 := HD5.out.next hu6 (fun i hi h => by omega)
          refine hK.out _ _ ⟨keepC' hD6 f0, keepC' hD6 f1⟩ (fun hHeld => ?_)
          clear hK KK
          try simp only [Act.put, List.setIfInBounds_toArray, List.set_cons_zero, List.set_cons_succ]
          have hn6 := blk_stored (vs := cf 33 T2) H9_5.out (by rw [cf_len, cf_len])
          have h8_6 := H8_5.out.upd hu6 (by omega)
          refine wpAnyH_done (by kernel_rfl) ?_ _
          go_wp2_with fail
          go_meet
          case rel => exact ⟨_, _, rfl, rfl, hne, h8_6, hn6, by omega, by omega, hD6⟩
        · go_simp
          refine hK.out _ _ ⟨keepC' (HD2.out.alloc _) f0, keepC' (HD2.out.alloc _) f1⟩ (fun hHeld => ?_)
          clear hK KK
          try simp only [Act.put, List.setIfInBounds_toArray, List.set_cons_zero, List.set_cons_succ]
          refine gen_last (fun wX3 hwX3 => ?_)
          rw [← hwX3] at hHeld
          have hu3 : Upd (fun _ => False) wX2 wX3 := by rw [hwX3]; exact (Upd.refl _ _).alloc _
          have hb3 : Blk wX3 wX2.heap.size (cf 33 fun _ => 0) 56 := by rw [hwX3, cf_zero]; exact Blk.made wX2 _ _
          have H9_3 := Lib.hid hb3
          have hq9 : w5.heap.size ≤ wX2.heap.size := HD2.out.size
          have HD3 := Lib.hid (HD2.out.trans hu3)
          have hs3 := hb3.lt
          clear hu3 hb3 hwX3
          refine next_last (i := 4) (by rfl) (by kernel_rfl) (fun KK hK => ?_)
          go_simp
          refine hK.out _ _ ⟨keepC' (HD3.out.alloc _) f0, keepC' (HD3.out.alloc _) f1⟩ (fun hHeld => ?_)
          clear hK KK
          try simp only [Act.put, List.setIfInBounds_toArray, List.set_cons_zero, List.set_cons_succ]
          refine gen_last (fun wX4 hwX4 => ?_)
          rw [← hwX4] at hHeld
          have hu4 : Upd (fun _ => False) wX3 wX4 := by rw [hwX4]; exact (Upd.refl _ _).alloc _
          have hb4 : Blk wX4 wX3.heap.size (cf 33 fun _ => 0) 56 := by rw [hwX4, cf_zero]; exact Blk.made wX3 _ _
          have H9_4 := Lib.hid (H9_3.out.upd hu4 (fun h => h))
          have H8_4 := Lib.hid hb4
          have hq8 : w5.heap.size ≤ wX3.heap.size := HD3.out.size
          have HD4 := Lib.hid (HD3.out.trans hu4)
          have hs4 := hb4.lt
          clear hu4 hb4 hwX4
          have hne : wX3.heap.size ≠ wX2.heap.size := by omega
          refine next_last (i := 6) (by rfl) (by kernel_rfl) (fun KK hK => ?_)
          refine step_store (by rfl) 56 _ _ (by rfl) (wX3.heap.size) 0 (cf 33 T1).toArray (by rfl) (by rfl) (fun j hj => ⟨by rw [H8_4.out.cell (0 + j) (cf_get (by rw [List.size_toArray, cf_len] at hj; omega))]; rfl, H8_4.out.frozen (0 + j)⟩) (by kernel_rfl) (cf_one _ _) ?_
          have hu5 : Upd (fun k => k = wX3.heap.size) wX4 (wX4.setCells (wX3.heap.size) 0 (cf 33 T1)) := Tally.upd_setCells (S := fun k => k = wX3.heap.size) (wX3.heap.size) (fun _ => rfl) _ _ _ (Upd.refl _ _)
          have hD5 := HD4.out.next hu5 (fun i hi h => by omega)
          refine hK.out _ _ ⟨keepC' hD5 f0, keepC' hD5 f1⟩ (fun hHeld => ?_)
          clear hK KK
          try simp only [Act.put, List.setIfInBounds_toArray, List.set_cons_zero, List.set_cons_succ]
          have hn5 := blk_stored (vs := cf 33 T1) H8_4.out (by rw [cf_len, cf_len])
          have h9_5 := H9_4.out.upd hu5 (by omega)
          generalize wX4.setCells (wX3.heap.size) 0 (cf 33 T1) = wX5 at *
          have H8_5 := Lib.hid hn5
          have H9_5 := Lib.hid h9_5
          have HD5 := Lib.hid hD5
          clear hn5 h9_5 hD5 hu5
          refine next_last (i := 7) (by rfl) (by kernel_rfl) (fun KK hK => ?_)
          refine step_store (by rfl) 56 _ _ (by rfl) (wX2.heap.size) 0 (cf 33 T2).toArray (by rfl) (by rfl) (fun j hj => ⟨by rw [H9_5.out.cell (0 + j) (cf_get (by rw [List.size_toArray, cf_len] at hj; omega))]; rfl, H9_5.out.frozen (0 + j)⟩) (by kernel_rfl) (cf_one _ _) ?_
          have hu6 : Upd (fun k => k = wX2.heap.size) wX5 (wX5.setCells (wX2.heap.size) 0 (cf 33 T2)) := Tally.upd_setCells (S := fun k => k = wX2.heap.size) (wX2.heap.size) (fun _ => rfl) _ _ _ (Upd.refl _ _)
          have hD6 := HD5.out.next hu6 (fun i hi h => by omega)
          refine hK.out _ _ ⟨keepC' hD6 f0, keepC' hD6 f1⟩ (fun hHeld => ?_)
          clear hK KK
          try simp only [Act.put, List.setIfInBounds_toArray, List.set_cons_zero, List.set_cons_succ]
          have hn6 := blk_stored (vs := cf 33 T2) H9_5.out (by rw [cf_len, cf_len])
          have h8_6 := H8_5.out.upd hu6 (by omega)
          refine wpAnyH_done (by kernel_rfl) ?_ _
          go_wp2_with fail
          go_meet
          case rel => exact ⟨_, _, rfl, rfl, hne, h8_6, hn6, by omega, by omega, hD6⟩
      · go_simp
        refine hK.out _ _ ⟨keepC' (HD1.out.alloc _) f0, keepC' (HD1.out.alloc _) f1⟩ (fun hHeld => ?_)
        clear hK KK
        try simp only [Act.put, List.setIfInBounds_toArray, List.set_cons_zero, List.set_cons_succ]
        refine gen_last (fun wX2 hwX2 => ?_)
        rw [← hwX2] at hHeld
        have hu2 : Upd (fun _ => False) wX1 wX2 := by rw [hwX2]; exact (Upd.refl _ _).alloc _
        have hb2 : Blk wX2 wX1.heap.size (cf 33 fun _ => 0) 56 := by rw [hwX2, cf_zero]; exact Blk.made wX1 _ _
        have H8_2 := Lib.hid hb2
        have hq8 : w5.heap.size ≤ wX1.heap.size := HD1.out.size
        have HD2 := Lib.hid (HD1.out.trans hu2)
        have hs2 := hb2.lt
        clear hu2 hb2 hwX2
        refine both_last 3 5 (by rfl) (by rfl) (by kernel_rfl) (fun KK hK => ?_) (fun KK hK => ?_)
        · have HCl := Lib.hid (HLiT.out _ HD2.out)
          go_simp
          refine (HCl.out).mono ?_
          rintro e9 wX3 ⟨rfl, hu3⟩
          have H8_3 := Lib.hid (H8_2.out.upd hu3 (fun h => h))
          have hs3 := hu3.size
          have HD3 := Lib.hid (HD2.out.trans hu3)
          clear hu3 HCl
          go_wp2_with fail
          refine hK.out _ _ ⟨keepC' HD3.out f0, keepC' HD3.out f1⟩ (fun hHeld => ?_)
          clear hK KK
          try simp only [Act.put, List.setIfInBounds_toArray, List.set_cons_zero, List.set_cons_succ]
          refine next_last (i := 5) (by rfl) (by kernel_rfl) (fun KK hK => ?_)
          go_simp
          refine hK.out _ _ ⟨keepC' (HD3.out.alloc _) f0, keepC' (HD3.out.alloc _) f1⟩ (fun hHeld => ?_)
          clear hK KK
          try simp only [Act.put, List.setIfInBounds_toArray, List.set_cons_zero, List.set_cons_succ]
          refine gen_last (fun wX4 hwX4 => ?_)
          rw [← hwX4] at hHeld
          have hu4 : Upd (fun _ => False) wX3 wX4 := by rw [hwX4]; exact (Upd.refl _ _).alloc _
          have hb4 : Blk wX4 wX3.heap.size (cf 33 fun _ => 0) 56 := by rw [hwX4, cf_zero]; exact Blk.made wX3 _ _
          have H8_4 := Lib.hid (H8_3.out.upd hu4 (fun h => h))
          have H9_4 := Lib.hid hb4
          have hq9 : w5.heap.size ≤ wX3.heap.size := HD3.out.size
          have HD4 := Lib.hid (HD3.out.trans hu4)
          have hs4 := hb4.lt
          clear hu4 hb4 hwX4
          have hne : wX1.heap.size ≠ wX3.heap.size := by omega
          refine next_last (i := 6) (by rfl) (by kernel_rfl) (fun KK hK => ?_)
          refine step_store (by rfl) 56 _ _ (by rfl) (wX1.heap.size) 0 (cf 33 T1).toArray (by rfl) (by rfl) (fun j hj => ⟨by rw [H8_4.out.cell (0 + j) (cf_get (by rw [List.size_toArray, cf_len] at hj; omega))]; rfl, H8_4.out.frozen (0 + j)⟩) (by kernel_rfl) (cf_one _ _) ?_
          have hu5 : Upd (fun k => k = wX1.heap.size) wX4 (wX4.setCells (wX1.heap.size) 0 (cf 33 T1)) := Tally.upd_setCells (S := fun k => k = wX1.heap.size) (wX1.heap.size) (fun _ => rfl) _ _ _ (Upd.refl _ _)
          have hD5 := HD4.out.next hu5 (fun i hi h => by omega)
          refine hK.out _ _ ⟨keepC' hD5 f0, keepC' hD5 f1⟩ (fun hHeld => ?_)
          clear hK KK
          try simp only [Act.put, List.setIfInBounds_toArray, List.set_cons_zero, List.set_cons_succ]
          have hn5 := blk_stored (vs := cf 33 T1) H8_4.out (by rw [cf_len, cf_len])
          have h9_5 := H9_4.out.upd hu5 (by omega)
          generalize wX4.setCells (wX1.heap.size) 0 (cf 33 T1) = wX5 at *
          have H8_5 := Lib.hid hn5
          have H9_5 := Lib.hid h9_5
          have HD5 := Lib.hid hD5
          clear hn5 h9_5 hD5 hu5
          refine next_last (i := 7) (by rfl) (by kernel_rfl) (fun KK hK => ?_)
          refine step_store (by rfl) 56 _ _ (by rfl) (wX3.heap.size) 0 (cf 33 T2).toArray (by rfl) (by rfl) (fun j hj => ⟨by rw [H9_5.out.cell (0 + j) (cf_get (by rw [List.size_toArray, cf_len] at hj; omega))]; rfl, H9_5.out.frozen (0 + j)⟩) (by kernel_rfl) (cf_one _ _) ?_
          have hu6 : Upd (fun k => k = wX3.heap.size) wX5 (wX5.setCells (wX3.heap.size) 0 (cf 33 T2)) := Tally.upd_setCells (S := fun k => k = wX3.heap.size) (wX3.heap.size) (fun _ => rfl) _ _ _ (Upd.refl _ _)
          have hD6 := HD5.out.next hu6 (fun i hi h => by omega)
          refine hK.out _ _ ⟨keepC' hD6 f0, keepC' hD6 f1⟩ (fun hHeld => ?_)
          clear hK KK
          try simp only [Act.put, List.setIfInBounds_toArray, List.set_cons_zero, List.set_cons_succ]
          have hn6 := blk_stored (vs := cf 33 T2) H9_5.out (by rw [cf_len, cf_len])
          have h8_6 := H8_5.out.upd hu6 (by omega)
          refine wpAnyH_done (by kernel_rfl) ?_ _
          go_wp2_with fail
          go_meet
          case rel => exact ⟨_, _, rfl, rfl, hne, h8_6, hn6, by omega, by omega, hD6⟩
        · go_simp
          refine hK.out _ _ ⟨keepC' (HD2.out.alloc _) f0, keepC' (HD2.out.alloc _) f1⟩ (fun hHeld => ?_)
          clear hK KK
          try simp only [Act.put, List.setIfInBounds_toArray, List.set_cons_zero, List.set_cons_succ]
          refine gen_last (fun wX3 hwX3 => ?_)
          rw [← hwX3] at hHeld
          have hu3 : Upd (fun _ => False) wX2 wX3 := by rw [hwX3]; exact (Upd.refl _ _).alloc _
          have hb3 : Blk wX3 wX2.heap.size (cf 33 fun _ => 0) 56 := by rw [hwX3, cf_zero]; exact Blk.made wX2 _ _
          have H8_3 := Lib.hid (H8_2.out.upd hu3 (fun h => h))
          have H9_3 := Lib.hid hb3
          have hq9 : w5.heap.size ≤ wX2.heap.size := HD2.out.size
          have HD3 := Lib.hid (HD2.out.trans hu3)
          have hs3 := hb3.lt
          clear hu3 hb3 hwX3
          refine next_last (i := 3) (by rfl) (by kernel_rfl) (fun KK hK => ?_)
          have HCl := Lib.hid (HLiT.out _ HD3.out)
          go_simp
          refine (HCl.out).mono ?_
          rintro e9 wX4 ⟨rfl, hu4⟩
          have H8_4 := Lib.hid (H8_3.out.upd hu4 (fun h => h))
          have H9_4 := Lib.hid (H9_3.out.upd hu4 (fun h => h))
          have hs4 := hu4.size
          have HD4 := Lib.hid (HD3.out.trans hu4)
          clear hu4 HCl
          go_wp2_with fail
          refine hK.out _ _ ⟨keepC' HD4.out f0, keepC' HD4.out f1⟩ (fun hHeld => ?_)
          clear hK KK
          try simp only [Act.put, List.setIfInBounds_toArray, List.set_cons_zero, List.set_cons_succ]
          have hne : wX1.heap.size ≠ wX2.heap.size := by omega
          refine next_last (i := 6) (by rfl) (by kernel_rfl) (fun KK hK => ?_)
          refine step_store (by rfl) 56 _ _ (by rfl) (wX1.heap.size) 0 (cf 33 T1).toArray (by rfl) (by rfl) (fun j hj => ⟨by rw [H8_4.out.cell (0 + j) (cf_get (by rw [List.size_toArray, cf_len] at hj; omega))]; rfl, H8_4.out.frozen (0 + j)⟩) (by kernel_rfl) (cf_one _ _) ?_
          have hu5 : Upd (fun k => k = wX1.heap.size) wX4 (wX4.setCells (wX1.heap.size) 0 (cf 33 T1)) := Tally.upd_setCells (S := fun k => k = wX1.heap.size) (wX1.heap.size) (fun _ => rfl) _ _ _ (Upd.refl _ _)
          have hD5 := HD4.out.next hu5 (fun i hi h => by omega)
          refine hK.out _ _ ⟨keepC' hD5 f0, keepC' hD5 f1⟩ (fun hHeld => ?_)
          clear hK KK
          try simp only [Act.put, List.setIfInBounds_toArray, List.set_cons_zero, List.set_cons_succ]
          have hn5 := blk_stored (vs := cf 33 T1) H8_4.out (by rw [cf_len, cf_len])
          have h9_5 := H9_4.out.upd hu5 (by omega)
          generalize wX4.setCells (wX1.heap.size) 0 (cf 33 T1) = wX5 at *
          have H8_5 := Lib.hid hn5
          have H9_5 := Lib.hid h9_5
          have HD5 := Lib.hid hD5
          clear hn5 h9_5 hD5 hu5
          refine next_last (i := 7) (by rfl) (by kernel_rfl) (fun KK hK => ?_)
          refine step_store (by rfl) 56 _ _ (by rfl) (wX2.heap.size) 0 (cf 33 T2).toArray (by rfl) (by rfl) (fun j hj => ⟨by rw [H9_5.out.cell (0 + j) (cf_get (by rw [List.size_toArray, cf_len] at hj; omega))]; rfl, H9_5.out.frozen (0 + j)⟩) (by kernel_rfl) (cf_one _ _) ?_
          have hu6 : Upd (fun k => k = wX2.heap.size) wX5 (wX5.setCells (wX2.heap.size) 0 (cf 33 T2)) := Tally.upd_setCells (S := fun k => k = wX2.heap.size) (wX2.heap.size) (fun _ => rfl) _ _ _ (Upd.refl _ _)
          have hD6 := HD5.out.next hu6 (fun i hi h => by omega)
          refine hK.out _ _ ⟨keepC' hD6 f0, keepC' hD6 f1⟩ (fun hHeld => ?_)
          clear hK KK
          try simp only [Act.put, List.setIfInBounds_toArray, List.set_cons_zero, List.set_cons_succ]
          have hn6 := blk_stored (vs := cf 33 T2) H9_5.out (by rw [cf_len, cf_len])
          have h8_6 := H8_5.out.upd hu6 (by omega)
          refine wpAnyH_done (by kernel_rfl) ?_ _
          go_wp2_with fail
          go_meet
          case rel => exact ⟨_, _, rfl, rfl, hne, h8_6, hn6, by omega, by omega, hD6⟩
      · go_simp
        refine hK.out _ _ ⟨keepC' (HD1.out.alloc _) f0, keepC' (HD1.out.alloc _) f1⟩ (fun hHeld => ?_)
        clear hK KK
        try simp only [Act.put, List.setIfInBounds_toArray, List.set_cons_zero, List.set_cons_succ]
        refine gen_last (fun wX2 hwX2 => ?_)
        rw [← hwX2] at hHeld
        have hu2 : Upd (fun _ => False) wX1 wX2 := by rw [hwX2]; exact (Upd.refl _ _).alloc _
        have hb2 : Blk wX2 wX1.heap.size (cf 33 fun _ => 0) 56 := by rw [hwX2, cf_zero]; exact Blk.made wX1 _ _
        have H9_2 := Lib.hid hb2
        have hq9 : w5.heap.size ≤ wX1.heap.size := HD1.out.size
        have HD2 := Lib.hid (HD1.out.trans hu2)
        have hs2 := hb2.lt
        clear hu2 hb2 hwX2
        refine both_last 3 4 (by rfl) (by rfl) (by kernel_rfl) (fun KK hK => ?_) (fun KK hK => ?_)
        · have HCl := Lib.hid (HLiT.out _ HD2.out)
          go_simp
          refine (HCl.out).mono ?_
          rintro e9 wX3 ⟨rfl, hu3⟩
          have H9_3 := Lib.hid (H9_2.out.upd hu3 (fun h => h))
          have hs3 := hu3.size
          have HD3 := Lib.hid (HD2.out.trans hu3)
          clear hu3 HCl
          go_wp2_with fail
          refine hK.out _ _ ⟨keepC' HD3.out f0, keepC' HD3.out f1⟩ (fun hHeld => ?_)
          clear hK KK
          try simp only [Act.put, List.setIfInBounds_toArray, List.set_cons_zero, List.set_cons_succ]
          refine next_last (i := 4) (by rfl) (by kernel_rfl) (fun KK hK => ?_)
          go_simp
          refine hK.out _ _ ⟨keepC' (HD3.out.alloc _) f0, keepC' (HD3.out.alloc _) f1⟩ (fun hHeld => ?_)
          clear hK KK
          try simp only [Act.put, List.setIfInBounds_toArray, List.set_cons_zero, List.set_cons_succ]
          refine gen_last (fun wX4 hwX4 => ?_)
          rw [← hwX4] at hHeld
          have hu4 : Upd (fun _ => False) wX3 wX4 := by rw [hwX4]; exact (Upd.refl _ _).alloc _
          have hb4 : Blk wX4 wX3.heap.size (cf 33 fun _ => 0) 56 := by rw [hwX4, cf_zero]; exact Blk.made wX3 _ _
          have H9_4 := Lib.hid (H9_3.out.upd hu4 (fun h => h))
          have H8_4 := Lib.hid hb4
          have hq8 : w5.heap.size ≤ wX3.heap.size := HD3.out.size
          have HD4 := Lib.hid (HD3.out.trans hu4)
          have hs4 := hb4.lt
          clear hu4 hb4 hwX4
          have hne : wX3.heap.size ≠ wX1.heap.size := by omega
          refine next_last (i := 6) (by rfl) (by kernel_rfl) (fun KK hK => ?_)
          refine step_store (by rfl) 56 _ _ (by rfl) (wX3.heap.size) 0 (cf 33 T1).toArray (by rfl) (by rfl) (fun j hj => ⟨by rw [H8_4.out.cell (0 + j) (cf_get (by rw [List.size_toArray, cf_len] at hj; omega))]; rfl, H8_4.out.frozen (0 + j)⟩) (by kernel_rfl) (cf_one _ _) ?_
          have hu5 : Upd (fun k => k = wX3.heap.size) wX4 (wX4.setCells (wX3.heap.size) 0 (cf 33 T1)) := Tally.upd_setCells (S := fun k => k = wX3.heap.size) (wX3.heap.size) (fun _ => rfl) _ _ _ (Upd.refl _ _)
          have hD5 := HD4.out.next hu5 (fun i hi h => by omega)
          refine hK.out _ _ ⟨keepC' hD5 f0, keepC' hD5 f1⟩ (fun hHeld => ?_)
          clear hK KK
          try simp only [Act.put, List.setIfInBounds_toArray, List.set_cons_zero, List.set_cons_succ]
          have hn5 := blk_stored (vs := cf 33 T1) H8_4.out (by rw [cf_len, cf_len])
          have h9_5 := H9_4.out.upd hu5 (by omega)
          generalize wX4.setCells (wX3.heap.size) 0 (cf 33 T1) = wX5 at *
          have H8_5 := Lib.hid hn5
          have H9_5 := Lib.hid h9_5
          have HD5 := Lib.hid hD5
          clear hn5 h9_5 hD5 hu5
          refine next_last (i := 7) (by rfl) (by kernel_rfl) (fun KK hK => ?_)
          refine step_store (by rfl) 56 _ _ (by rfl) (wX1.heap.size) 0 (cf 33 T2).toArray (by rfl) (by rfl) (fun j hj => ⟨by rw [H9_5.out.cell (0 + j) (cf_get (by rw [List.size_toArray, cf_len] at hj; omega))]; rfl, H9_5.out.frozen (0 + j)⟩) (by kernel_rfl) (cf_one _ _) ?_
          have hu6 : Upd (fun k => k = wX1.heap.size) wX5 (wX5.setCells (wX1.heap.size) 0 (cf 33 T2)) := Tally.upd_setCells (S := fun k => k = wX1.heap.size) (wX1.heap.size) (fun _ => rfl) _ _ _ (Upd.refl _ _)
          have hD6 := HD5.out.next hu6 (fun i hi h => by omega)
          refine hK.out _ _ ⟨keepC' hD6 f0, keepC' hD6 f1⟩ (fun hHeld => ?_)
          clear hK KK
          try simp only [Act.put, List.setIfInBounds_toArray, List.set_cons_zero, List.set_cons_succ]
          have hn6 := blk_stored (vs := cf 33 T2) H9_5.out (by rw [cf_len, cf_len])
          have h8_6 := H8_5.out.upd hu6 (by omega)
          refine wpAnyH_done (by kernel_rfl) ?_ _
          go_wp2_with fail
          go_meet
          case rel => exact ⟨_, _, rfl, rfl, hne, h8_6, hn6, by omega, by omega, hD6⟩
        · go_simp
          refine hK.out _ _ ⟨keepC' (HD2.out.alloc _) f0, keepC' (HD2.out.alloc _) f1⟩ (fun hHeld => ?_)
          clear hK KK
          try simp only [Act.put, List.setIfInBounds_toArray, List.set_cons_zero, List.set_cons_succ]
          refine gen_last (fun wX3 hwX3 => ?_)
          rw [← hwX3] at hHeld
          have hu3 : Upd (fun _ => False) wX2 wX3 := by rw [hwX3]; exact (Upd.refl _ _).alloc _
          have hb3 : Blk wX3 wX2.heap.size (cf 33 fun _ => 0) 56 := by rw [hwX3, cf_zero]; exact Blk.made wX2 _ _
          have H9_3 := Lib.hid (H9_2.out.upd hu3 (fun h => h))
          have H8_3 := Lib.hid hb3
          have hq8 : w5.heap.size ≤ wX2.heap.size := HD2.out.size
          have HD3 := Lib.hid (HD2.out.trans hu3)
          have hs3 := hb3.lt
          clear hu3 hb3 hwX3
          refine next_last (i := 3) (by rfl) (by kernel_rfl) (fun KK hK => ?_)
          have HCl := Lib.hid (HLiT.out _ HD3.out)
          go_simp
          refine (HCl.out).mono ?_
          rintro e9 wX4 ⟨rfl, hu4⟩
          have H9_4 := Lib.hid (H9_3.out.upd hu4 (fun h => h))
          have H8_4 := Lib.hid (H8_3.out.upd hu4 (fun h => h))
          have hs4 := hu4.size
          have HD4 := Lib.hid (HD3.out.trans hu4)
          clear hu4 HCl
          go_wp2_with fail
          refine hK.out _ _ ⟨keepC' HD4.out f0, keepC' HD4.out f1⟩ (fun hHeld => ?_)
          clear hK KK
          try simp only [Act.put, List.setIfInBounds_toArray, List.set_cons_zero, List.set_cons_succ]
          have hne : wX2.heap.size ≠ wX1.heap.size := by omega
          refine next_last (i := 6) (by rfl) (by kernel_rfl) (fun KK hK => ?_)
          refine step_store (by rfl) 56 _ _ (by rfl) (wX2.heap.size) 0 (cf 33 T1).toArray (by rfl) (by rfl) (fun j hj => ⟨by rw [H8_4.out.cell (0 + j) (cf_get (by rw [List.size_toArray, cf_len] at hj; omega))]; rfl, H8_4.out.frozen (0 + j)⟩) (by kernel_rfl) (cf_one _ _) ?_
          have hu5 : Upd (fun k => k = wX2.heap.size) wX4 (wX4.setCells (wX2.heap.size) 0 (cf 33 T1)) := Tally.upd_setCells (S := fun k => k = wX2.heap.size) (wX2.heap.size) (fun _ => rfl) _ _ _ (Upd.refl _ _)
          have hD5 := HD4.out.next hu5 (fun i hi h => by omega)
          refine hK.out _ _ ⟨keepC' hD5 f0, keepC' hD5 f1⟩ (fun hHeld => ?_)
          clear hK KK
          try simp only [Act.put, List.setIfInBounds_toArray, List.set_cons_zero, List.set_cons_succ]
          have hn5 := blk_stored (vs := cf 33 T1) H8_4.out (by rw [cf_len, cf_len])
          have h9_5 := H9_4.out.upd hu5 (by omega)
          generalize wX4.setCells (wX2.heap.size) 0 (cf 33 T1) = wX5 at *
          have H8_5 := Lib.hid hn5
          have H9_5 := Lib.hid h9_5
          have HD5 := Lib.hid hD5
          clear hn5 h9_5 hD5 hu5
          refine next_last (i := 7) (by rfl) (by kernel_rfl) (fun KK hK => ?_)
          refine step_store (by rfl) 56 _ _ (by rfl) (wX1.heap.size) 0 (cf 33 T2).toArray (by rfl) (by rfl) (fun j hj => ⟨by rw [H9_5.out.cell (0 + j) (cf_get (by rw [List.size_toArray, cf_len] at hj; omega))]; rfl, H9_5.out.frozen (0 + j)⟩) (by kernel_rfl) (cf_one _ _) ?_
          have hu6 : Upd (fun k => k = wX1.heap.size) wX5 (wX5.setCells (wX1.heap.size) 0 (cf 33 T2)) := Tally.upd_setCells (S := fun k => k = wX1.heap.size) (wX1.heap.size) (fun _ => rfl) _ _ _ (Upd.refl _ _)
          have hD6 := HD5.out.next hu6 (fun i hi h => by omega)
          refine hK.out _ _ ⟨keepC' hD6 f0, keepC' hD6 f1⟩ (fun hHeld => ?_)
          clear hK KK
          try simp only [Act.put, List.setIfInBounds_toArray, List.set_cons_zero, List.set_cons_succ]
          have hn6 := blk_stored (vs := cf 33 T2) H9_5.out (by rw [cf_len, cf_len])
          have h8_6 := H8_5.out.upd hu6 (by omega)
          refine wpAnyH_done (by kernel_rfl) ?_ _
          go_wp2_with fail
          go_meet
          case rel => exact ⟨_, _, rfl, rfl, hne, h8_6, hn6, by omega, by omega, hD6⟩
    · go_simp
      refine hK.out _ _ ⟨keepC' (HD0.out.alloc _) f0, keepC' (HD0.out.alloc _) f1⟩ (fun hHeld => ?_)
      clear hK KK
      try simp only [Act.put, List.setIfInBounds_toArray, List.set_cons_zero, List.set_cons_succ]
      refine gen_last (fun wX1 hwX1 => ?_)
      rw [← hwX1] at hHeld
      have hu1 : Upd (fun _ => False) wX0 wX1 := by rw [hwX1]; exact (Upd.refl _ _).alloc _
      have hb1 : Blk wX1 wX0.heap.size (cf 33 fun _ => 0) 56 := by rw [hwX1, cf_zero]; exact Blk.made wX0 _ _
      have H8_1 := Lib.hid hb1
      have hq8 : w5.heap.size ≤ wX0.heap.size := HD0.out.size
      have HD1 := Lib.hid (HD0.out.trans hu1)
      have hs1 := hb1.lt
      clear hu1 hb1 hwX1
      refine both_last 1 5 (by rfl) (by rfl) (by kernel_rfl) (fun KK hK => ?_) (fun KK hK => ?_)
      · have HCl := Lib.hid (HOfT.out _ HD1.out)
        go_simp
        refine (HCl.out).mono ?_
        rintro e9 wX2 ⟨rfl, hu2⟩
        have H8_2 := Lib.hid (H8_1.out.upd hu2 (fun h => h))
        have hs2 := hu2.size
        have HD2 := Lib.hid (HD1.out.trans hu2)
        clear hu2 HCl
        go_wp2_with fail
        refine hK.out _ _ ⟨keepC' HD2.out f0, keepC' HD2.out f1⟩ (fun hHeld => ?_)
        clear hK KK
        try simp only [Act.put, List.setIfInBounds_toArray, List.set_cons_zero, List.set_cons_succ]
        refine both_last 3 5 (by rfl) (by rfl) (by kernel_rfl) (fun KK hK => ?_) (fun KK hK => ?_)
        · have HCl := Lib.hid (HLiT.out _ HD2.out)
          go_simp
          refine (HCl.out).mono ?_
          rintro e9 wX3 ⟨rfl, hu3⟩
          have H8_3 := Lib.hid (H8_2.out.upd hu3 (fun h => h))
          have hs3 := hu3.size
          have HD3 := Lib.hid (HD2.out.trans hu3)
          clear hu3 HCl
          go_wp2_with fail
          refine hK.out _ _ ⟨keepC' HD3.out f0, keepC' HD3.out f1⟩ (fun hHeld => ?_)
          clear hK KK
          try simp only [Act.put, List.setIfInBounds_toArray, List.set_cons_zero, List.set_cons_succ]
          refine next_last (i := 5) (by rfl) (by kernel_rfl) (fun KK hK => ?_)
          go_simp
          refine hK.out _ _ ⟨keepC' (HD3.out.alloc _) f0, keepC' (HD3.out.alloc _) f1⟩ (fun hHeld => ?_)
          clear hK KK
          try simp only [Act.put, List.setIfInBounds_toArray, List.set_cons_zero, List.set_cons_succ]
          refine gen_last (fun wX4 hwX4 => ?_)
          rw [← hwX4] at hHeld
          have hu4 : Upd (fun _ => False) wX3 wX4 := by rw [hwX4]; exact (Upd.refl _ _).alloc _
          have hb4 : Blk wX4 wX3.heap.size (cf 33 fun _ => 0) 56 := by rw [hwX4, cf_zero]; exact Blk.made wX3 _ _
          have H8_4 := Lib.hid (H8_3.out.upd hu4 (fun h => h))
          have H9_4 := Lib.hid hb4
          have hq9 : w5.heap.size ≤ wX3.heap.size := HD3.out.size
          have HD4 := Lib.hid (HD3.out.trans hu4)
          have hs4 := hb4.lt
          clear hu4 hb4 hwX4
          have hne : wX0.heap.size ≠ wX3.heap.size := by omega
          refine next_last (i := 6) (by rfl) (by kernel_rfl) (fun KK hK => ?_)
          refine step_store (by rfl) 56 _ _ (by rfl) (wX0.heap.size) 0 (cf 33 T1).toArray (by rfl) (by rfl) (fun j hj => ⟨by rw [H8_4.out.cell (0 + j) (cf_get (by rw [List.size_toArray, cf_len] at hj; omega))]; rfl, H8_4.out.frozen (0 + j)⟩) (by kernel_rfl) (cf_one _ _) ?_
          have hu5 : Upd (fun k => k = wX0.heap.size) wX4 (wX4.setCells (wX0.heap.size) 0 (cf 33 T1)) := Tally.upd_setCells (S := fun k => k = wX0.heap.size) (wX0.heap.size) (fun _ => rfl) _ _ _ (Upd.refl _ _)
          have hD5 := HD4.out.next hu5 (fun i hi h => by omega)
          refine hK.out _ _ ⟨keepC' hD5 f0, keepC' hD5 f1⟩ (fun hHeld => ?_)
          clear hK KK
          try simp only [Act.put, List.setIfInBounds_toArray, List.set_cons_zero, List.set_cons_succ]
          have hn5 := blk_stored (vs := cf 33 T1) H8_4.out (by rw [cf_len, cf_len])
          have h9_5 := H9_4.out.upd hu5 (by omega)
          generalize wX4.setCells (wX0.heap.size) 0 (cf 33 T1) = wX5 at *
          have H8_5 := Lib.hid hn5
          have H9_5 := Lib.hid h9_5
          have HD5 := Lib.hid hD5
          clear hn5 h9_5 hD5 hu5
          refine next_last (i := 7) (by rfl) (by kernel_rfl) (fun KK hK => ?_)
          refine step_store (by rfl) 56 _ _ (by rfl) (wX3.heap.size) 0 (cf 33 T2).toArray (by rfl) (by rfl) (fun j hj => ⟨by rw [H9_5.out.cell (0 + j) (cf_get (by rw [List.size_toArray, cf_len] at hj; omega))]; rfl, H9_5.out.frozen (0 + j)⟩) (by kernel_rfl) (cf_one _ _) ?_
          have hu6 : Upd (fun k => k = wX3.heap.size) wX5 (wX5.setCells (wX3.heap.size) 0 (cf 33 T2)) := Tally.upd_setCells (S := fun k => k = wX3.heap.size) (wX3.heap.size) (fun _ => rfl) _ _ _ (Upd.refl _ _)
          have hD6 := HD5.out.next hu6 (fun i hi h => by omega)
          refine hK.out _ _ ⟨keepC' hD6 f0, keepC' hD6 f1⟩ (fun hHeld => ?_)
          clear hK KK
          try simp only [Act.put, List.setIfInBounds_toArray, List.set_cons_zero, List.set_cons_succ]
          have hn6 := blk_stored (vs := cf 33 T2) H9_5.out (by rw [cf_len, cf_len])
          have h8_6 := H8_5.out.upd hu6 (by omega)
          refine wpAnyH_done (by kernel_rfl) ?_ _
          go_wp2_with fail
          go_meet
          case rel => exact ⟨_, _, rfl, rfl, hne, h8_6, hn6, by omega, by omega, hD6⟩
        · go_simp
          refine hK.out _ _ ⟨keepC' (HD2.out.alloc _) f0, keepC' (HD2.out.alloc _) f1⟩ (fun hHeld => ?_)
          clear hK KK
          try simp only [Act.put, List.setIfInBounds_toArray, List.set_cons_zero, List.set_cons_succ]
          refine gen_last (fun wX3 hwX3 => ?_)
          rw [← hwX3] at hHeld
          have hu3 : Upd (fun _ => False) wX2 wX3 := by rw [hwX3]; exact (Upd.refl _ _).alloc _
          have hb3 : Blk wX3 wX2.heap.size (cf 33 fun _ => 0) 56 := by rw [hwX3, cf_zero]; exact Blk.made wX2 _ _
          have H8_3 := Lib.hid (H8_2.out.upd hu3 (fun h => h))
          have H9_3 := Lib.hid hb3
          have hq9 : w5.heap.size ≤ wX2.heap.size := HD2.out.size
          have HD3 := Lib.hid (HD2.out.trans hu3)
          have hs3 := hb3.lt
          clear hu3 hb3 hwX3
          refine next_last (i := 3) (by rfl) (by kernel_rfl) (fun KK hK => ?_)
          have HCl := Lib.hid (HLiT.out _ HD3.out)
          go_simp
          refine (HCl.out).mono ?_
          rintro e9 wX4 ⟨rfl, hu4⟩
          have H8_4 := Lib.hid (H8_3.out.upd hu4 (fun h => h))
          have H9_4 := Lib.hid (H9_3.out.upd hu4 (fun h => h))
          have hs4 := hu4.size
          have HD4 := Lib.hid (HD3.out.trans hu4)
          clear hu4 HCl
          go_wp2_with fail
          refine hK.out _ _ ⟨keepC' HD4.out f0, keepC' HD4.out f1⟩ (fun hHeld => ?_)
          clear hK KK
          try simp only [Act.put, List.setIfInBounds_toArray, List.set_cons_zero, List.set_cons_succ]
          have hne : wX0.heap.size ≠ wX2.heap.size := by omega
          refine next_last (i := 6) (by rfl) (by kernel_rfl) (fun KK hK => ?_)
          refine step_store (by rfl) 56 _ _ (by rfl) (wX0.heap.size) 0 (cf 33 T1).toArray (by rfl) (by rfl) (fun j hj => ⟨by rw [H8_4.out.cell (0 + j) (cf_get (by rw [List.size_toArray, cf_len] at hj; omega))]; rfl, H8_4.out.frozen (0 + j)⟩) (by kernel_rfl) (cf_one _ _) ?_
          have hu5 : Upd (fun k => k = wX0.heap.size) wX4 (wX4.setCells (wX0.heap.size) 0 (cf 33 T1)) := Tally.upd_setCells (S := fun k => k = wX0.heap.size) (wX0.heap.size) (fun _ => rfl) _ _ _ (Upd.refl _ _)
          have hD5 := HD4.out.next hu5 (fun i hi h => by omega)
          refine hK.out _ _ ⟨keepC' hD5 f0, keepC' hD5 f1⟩ (fun hHeld => ?_)
          clear hK KK
          try simp only [Act.put, List.setIfInBounds_toArray, List.set_cons_zero, List.set_cons_succ]
          have hn5 := blk_stored (vs := cf 33 T1) H8_4.out (by rw [cf_len, cf_len])
          have h9_5 := H9_4.out.upd hu5 (by omega)
          generalize wX4.setCells (wX0.heap.size) 0 (cf 33 T1) = wX5 at *
          have H8_5 := Lib.hid hn5
          have H9_5 := Lib.hid h9_5
          have HD5 := Lib.hid hD5
          clear hn5 h9_5 hD5 hu5
          refine next_last (i := 7) (by rfl) (by kernel_rfl) (fun KK hK => ?_)
          refine step_store (by rfl) 56 _ _ (by rfl) (wX2.heap.size) 0 (cf 33 T2).toArray (by rfl) (by rfl) (fun j hj => ⟨by rw [H9_5.out.cell (0 + j) (cf_get (by rw [List.size_toArray, cf_len] at hj; omega))]; rfl, H9_5.out.frozen (0 + j)⟩) (by kernel_rfl) (cf_one _ _) ?_
          have hu6 : Upd (fun k => k = wX2.heap.size) wX5 (wX5.setCells (wX2.heap.size) 0 (cf 33 T2)) := Tally.upd_setCells (S := fun k => k = wX2.heap.size) (wX2.heap.size) (fun _ => rfl) _ _ _ (Upd.refl _ _)
          have hD6 := HD5.out.next hu6 (fun i hi h => by omega)
          refine hK.out _ _ ⟨keepC' hD6 f0, keepC' hD6 f1⟩ (fun hHeld => ?_)
          clear hK KK
          try simp only [Act.put, List.setIfInBounds_toArray, List.set_cons_zero, List.set_cons_succ]
          have hn6 := blk_stored (vs := cf 33 T2) H9_5.out (by rw [cf_len, cf_len])
          have h8_6 := H8_5.out.upd hu6 (by omega)
          refine wpAnyH_done (by kernel_rfl) ?_ _
          go_wp2_with fail
          go_meet
          case rel => exact ⟨_, _, rfl, rfl, hne, h8_6, hn6, by omega, by omega, hD6⟩
      · go_simp
        refine hK.out _ _ ⟨keepC' (HD1.out.alloc _) f0, keepC' (HD1.out.alloc _) f1⟩ (fun hHeld => ?_)
        clear hK KK
        try simp only [Act.put, List.setIfInBounds_toArray, List.set_cons_zero, List.set_cons_succ]
        refine gen_last (fun wX2 hwX2 => ?_)
        rw [← hwX2] at hHeld
        have hu2 : Upd (fun _ => False) wX1 wX2 := by rw [hwX2]; exact (Upd.refl _ _).alloc _
        have hb2 : Blk wX2 wX1.heap.size (cf 33 fun _ => 0) 56 := by rw [hwX2, cf_zero]; exact Blk.made wX1 _ _
        have H8_2 := Lib.hid (H8_1.out.upd hu2 (fun h => h))
        have H9_2 := Lib.hid hb2
        have hq9 : w5.heap.size ≤ wX1.heap.size := HD1.out.size
        have HD2 := Lib.hid (HD1.out.trans hu2)
        have hs2 := hb2.lt
        clear hu2 hb2 hwX2
        refine next_last (i := 1) (by rfl) (by kernel_rfl) (fun KK hK => ?_)
        have HCl := Lib.hid (HOfT.out _ HD2.out)
        go_simp
        refine (HCl.out).mono ?_
        rintro e9 wX3 ⟨rfl, hu3⟩
        have H8_3 := Lib.hid (H8_2.out.upd hu3 (fun h => h))
        have H9_3 := Lib.hid (H9_2.out.upd hu3 (fun h => h))
        have hs3 := hu3.size
        have HD3 := Lib.hid (HD2.out.trans hu3)
        clear hu3 HCl
        go_wp2_with fail
        refine hK.out _ _ ⟨keepC' HD3.out f0, keepC' HD3.out f1⟩ (fun hHeld => ?_)
        clear hK KK
        try simp only [Act.put, List.setIfInBounds_toArray, List.set_cons_zero, List.set_cons_succ]
        refine next_last (i := 3) (by rfl) (by kernel_rfl) (fun KK hK => ?_)
        have HCl := Lib.hid (HLiT.out _ HD3.out)
        go_simp
        refine (HCl.out).mono ?_
        rintro e9 wX4 ⟨rfl, hu4⟩
        have H8_4 := Lib.hid (H8_3.out.upd hu4 (fun h => h))
        have H9_4 := Lib.hid (H9_3.out.upd hu4 (fun h => h))
        have hs4 := hu4.size
        have HD4 := Lib.hid (HD3.out.trans hu4)
        clear hu4 HCl
        go_wp2_with fail
        refine hK.out _ _ ⟨keepC' HD4.out f0, keepC' HD4.out f1⟩ (fun hHeld => ?_)
        clear hK KK
        try simp only [Act.put, List.setIfInBounds_toArray, List.set_cons_zero, List.set_cons_succ]
        have hne : wX0.heap.size ≠ wX1.heap.size := by omega
        refine next_last (i := 6) (by rfl) (by kernel_rfl) (fun KK hK => ?_)
        refine step_store (by rfl) 56 _ _ (by rfl) (wX0.heap.size) 0 (cf 33 T1).toArray (by rfl) (by rfl) (fun j hj => ⟨by rw [H8_4.out.cell (0 + j) (cf_get (by rw [List.size_toArray, cf_len] at hj; omega))]; rfl, H8_4.out.frozen (0 + j)⟩) (by kernel_rfl) (cf_one _ _) ?_
        have hu5 : Upd (fun k => k = wX0.heap.size) wX4 (wX4.setCells (wX0.heap.size) 0 (cf 33 T1)) := Tally.upd_setCells (S := fun k => k = wX0.heap.size) (wX0.heap.size) (fun _ => rfl) _ _ _ (Upd.refl _ _)
        have hD5 := HD4.out.next hu5 (fun i hi h => by omega)
        refine hK.out _ _ ⟨keepC' hD5 f0, keepC' hD5 f1⟩ (fun hHeld => ?_)
        clear hK KK
        try simp only [Act.put, List.setIfInBounds_toArray, List.set_cons_zero, List.set_cons_succ]
        have hn5 := blk_stored (vs := cf 33 T1) H8_4.out (by rw [cf_len, cf_len])
        have h9_5 := H9_4.out.upd hu5 (by omega)
        generalize wX4.setCells (wX0.heap.size) 0 (cf 33 T1) = wX5 at *
        have H8_5 := Lib.hid hn5
        have H9_5 := Lib.hid h9_5
        have HD5 := Lib.hid hD5
        clear hn5 h9_5 hD5 hu5
        refine next_last (i := 7) (by rfl) (by kernel_rfl) (fun KK hK => ?_)
        refine step_store (by rfl) 56 _ _ (by rfl) (wX1.heap.size) 0 (cf 33 T2).toArray (by rfl) (by rfl) (fun j hj => ⟨by rw [H9_5.out.cell (0 + j) (cf_get (by rw [List.size_toArray, cf_len] at hj; omega))]; rfl, H9_5.out.frozen (0 + j)⟩) (by kernel_rfl) (cf_one _ _) ?_
        have hu6 : Upd (fun k => k = wX1.heap.size) wX5 (wX5.setCells (wX1.heap.size) 0 (cf 33 T2)) := Tally.upd_setCells (S := fun k => k = wX1.heap.size) (wX1.heap.size) (fun _ => rfl) _ _ _ (Upd.refl _ _)
        have hD6 := HD5.out.next hu6 (fun i hi h => by omega)
        refine hK.out _ _ ⟨keepC' hD6 f0, keepC' hD6 f1⟩ (fun hHeld => ?_)
        clear hK KK
        try simp only [Act.put, List.setIfInBounds_toArray, List.set_cons_zero, List.set_cons_succ]
        have hn6 := blk_stored (vs := cf 33 T2) H9_5.out (by rw [cf_len, cf_len])
        have h8_6 := H8_5.out.upd hu6 (by omega)
        refine wpAnyH_done (by kernel_rfl) ?_ _
        go_wp2_with fail
        go_meet
        case rel => exact ⟨_, _, rfl, rfl, hne, h8_6, hn6, by omega, by omega, hD6⟩
    · go_simp
      refine hK.out _ _ ⟨keepC' (HD0.out.alloc _) f0, keepC' (HD0.out.alloc _) f1⟩ (fun hHeld => ?_)
      clear hK KK
      try simp only [Act.put, List.setIfInBounds_toArray, List.set_cons_zero, List.set_cons_succ]
      refine gen_last (fun wX1 hwX1 => ?_)
      rw [← hwX1] at hHeld
      have hu1 : Upd (fun _ => False) wX0 wX1 := by rw [hwX1]; exact (Upd.refl _ _).alloc _
      have hb1 : Blk wX1 wX0.heap.size (cf 33 fun _ => 0) 56 := by rw [hwX1, cf_zero]; exact Blk.made wX0 _ _
      have H9_1 := Lib.hid hb1
      have hq9 : w5.heap.size ≤ wX0.heap.size := HD0.out.size
      have HD1 := Lib.hid (HD0.out.trans hu1)
      have hs1 := hb1.lt
      clear hu1 hb1 hwX1
      refine both_last 1 4 (by rfl) (by rfl) (by kernel_rfl) (fun KK hK => ?_) (fun KK hK => ?_)
      · have HCl := Lib.hid (HOfT.out _ HD1.out)
        go_simp
        refine (HCl.out).mono ?_
        rintro e9 wX2 ⟨rfl, hu2⟩
        have H9_2 := Lib.hid (H9_1.out.upd hu2 (fun h => h))
        have hs2 := hu2.size
        have HD2 := Lib.hid (HD1.out.trans hu2)
        clear hu2 HCl
        go_wp2_with fail
        refine hK.out _ _ ⟨keepC' HD2.out f0, keepC' HD2.out f1⟩ (fun hHeld => ?_)
        clear hK KK
        try simp only [Act.put, List.setIfInBounds_toArray, List.set_cons_zero, List.set_cons_succ]
        refine both_last 3 4 (by rfl) (by rfl) (by kernel_rfl) (fun KK hK => ?_) (fun KK hK => ?_)
        · have HCl := Lib.hid (HLiT.out _ HD2.out)
          go_simp
          refine (HCl.out).mono ?_
          rintro e9 wX3 ⟨rfl, hu3⟩
          have H9_3 := Lib.hid (H9_2.out.upd hu3 (fun h => h))
          have hs3 := hu3.size
          have HD3 := Lib.hid (HD2.out.trans hu3)
          clear hu3 HCl
          go_wp2_with fail
          refine hK.out _ _ ⟨keepC' HD3.out f0, keepC' HD3.out f1⟩ (fun hHeld => ?_)
          clear hK KK
          try simp only [Act.put, List.setIfInBounds_toArray, List.set_cons_zero, List.set_cons_succ]
          refine next_last (i := 4) (by rfl) (by kernel_rfl) (fun KK hK => ?_)
          go_simp
          refine hK.out _ _ ⟨keepC' (HD3.out.alloc _) f0, keepC' (HD3.out.alloc _) f1⟩ (fun hHeld => ?_)
          clear hK KK
          try simp only [Act.put, List.setIfInBounds_toArray, List.set_cons_zero, List.set_cons_succ]
          refine gen_last (fun wX4 hwX4 => ?_)
          rw [← hwX4] at hHeld
          have hu4 : Upd (fun _ => False) wX3 wX4 := by rw [hwX4]; exact (Upd.refl _ _).alloc _
          have hb4 : Blk wX4 wX3.heap.size (cf 33 fun _ => 0) 56 := by rw [hwX4, cf_zero]; exact Blk.made wX3 _ _
          have H9_4 := Lib.hid (H9_3.out.upd hu4 (fun h => h))
          have H8_4 := Lib.hid hb4
          have hq8 : w5.heap.size ≤ wX3.heap.size := HD3.out.size
          have HD4 := Lib.hid (HD3.out.trans hu4)
          have hs4 := hb4.lt
          clear hu4 hb4 hwX4
          have hne : wX3.heap.size ≠ wX0.heap.size := by omega
          refine next_last (i := 6) (by rfl) (by kernel_rfl) (fun KK hK => ?_)
          refine step_store (by rfl) 56 _ _ (by rfl) (wX3.heap.size) 0 (cf 33 T1).toArray (by rfl) (by rfl) (fun j hj => ⟨by rw [H8_4.out.cell (0 + j) (cf_get (by rw [List.size_toArray, cf_len] at hj; omega))]; rfl, H8_4.out.frozen (0 + j)⟩) (by kernel_rfl) (cf_one _ _) ?_
          have hu5 : Upd (fun k => k = wX3.heap.size) wX4 (wX4.setCells (wX3.heap.size) 0 (cf 33 T1)) := Tally.upd_setCells (S := fun k => k = wX3.heap.size) (wX3.heap.size) (fun _ => rfl) _ _ _ (Upd.refl _ _)
          have hD5 := HD4.out.next hu5 (fun i hi h => by omega)
          refine hK.out _ _ ⟨keepC' hD5 f0, keepC' hD5 f1⟩ (fun hHeld => ?_)
          clear hK KK
          try simp only [Act.put, List.setIfInBounds_toArray, List.set_cons_zero, List.set_cons_succ]
          have hn5 := blk_stored (vs := cf 33 T1) H8_4.out (by rw [cf_len, cf_len])
          have h9_5 := H9_4.out.upd hu5 (by omega)
          generalize wX4.setCells (wX3.heap.size) 0 (cf 33 T1) = wX5 at *
          have H8_5 := Lib.hid hn5
          have H9_5 := Lib.hid h9_5
          have HD5 := Lib.hid hD5
          clear hn5 h9_5 hD5 hu5
          refine next_last (i := 7) (by rfl) (by kernel_rfl) (fun KK hK => ?_)
          refine step_store (by rfl) 56 _ _ (by rfl) (wX0.heap.size) 0 (cf 33 T2).toArray (by rfl) (by rfl) (fun j hj => ⟨by rw [H9_5.out.cell (0 + j) (cf_get (by rw [List.size_toArray, cf_len] at hj; omega))]; rfl, H9_5.out.frozen (0 + j)⟩) (by kernel_rfl) (cf_one _ _) ?_
          have hu6 : Upd (fun k => k = wX0.heap.size) wX5 (wX5.setCells (wX0.heap.size) 0 (cf 33 T2)) := Tally.upd_setCells (S := fun k => k = wX0.heap.size) (wX0.heap.size) (fun _ => rfl) _ _ _ (Upd.refl _ _)
          have hD6 := HD5.out.next hu6 (fun i hi h => by omega)
          refine hK.out _ _ ⟨keepC' hD6 f0, keepC' hD6 f1⟩ (fun hHeld => ?_)
          clear hK KK
          try simp only [Act.put, List.setIfInBounds_toArray, List.set_cons_zero, List.set_cons_succ]
          have hn6 := blk_stored (vs := cf 33 T2) H9_5.out (by rw [cf_len, cf_len])
          have h8_6 := H8_5.out.upd hu6 (by omega)
          refine wpAnyH_done (by kernel_rfl) ?_ _
          go_wp2_with fail
          go_meet
          case rel => exact ⟨_, _, rfl, rfl, hne, h8_6, hn6, by omega, by omega, hD6⟩
        · go_simp
          refine hK.out _ _ ⟨keepC' (HD2.out.alloc _) f0, keepC' (HD2.out.alloc _) f1⟩ (fun hHeld => ?_)
          clear hK KK
          try simp only [Act.put, List.setIfInBounds_toArray, List.set_cons_zero, List.set_cons_succ]
          refine gen_last (fun wX3 hwX3 => ?_)
          rw [← hwX3] at hHeld
          have hu3 : Upd (fun _ => False) wX2 wX3 := by rw [hwX3]; exact (Upd.refl _ _).alloc _
          have hb3 : Blk wX3 wX2.heap.size (cf 33 fun _ => 0) 56 := by rw [hwX3, cf_zero]; exact Blk.made wX2 _ _
          have H9_3 := Lib.hid (H9_2.out.upd hu3 (fun h => h))
          have H8_3 := Lib.hid hb3
          have hq8 : w5.heap.size ≤ wX2.heap.size := HD2.out.size
          have HD3 := Lib.hid (HD2.out.trans hu3)
          have hs3 := hb3.lt
          clear hu3 hb3 hwX3
          refine next_last (i := 3) (by rfl) (by kernel_rfl) (fun KK hK => ?_)
          have HCl := Lib.hid (HLiT.out _ HD3.out)
          go_simp
          refine (HCl.out).mono ?_
          rintro e9 wX4 ⟨rfl, hu4⟩
          have H9_4 := Lib.hid (H9_3.out.upd hu4 (fun h => h))
          have H8_4 := Lib.hid (H8_3.out.upd hu4 (fun h => h))
          have hs4 := hu4.size
          have HD4 := Lib.hid (HD3.out.trans hu4)
          clear hu4 HCl
          go_wp2_with fail
          refine hK.out _ _ ⟨keepC' HD4.out f0, keepC' HD4.out f1⟩ (fun hHeld => ?_)
          clear hK KK
          try simp only [Act.put, List.setIfInBounds_toArray, List.set_cons_zero, List.set_cons_succ]
          have hne : wX2.heap.size ≠ wX0.heap.size := by omega
          refine next_last (i := 6) (by rfl) (by kernel_rfl) (fun KK hK => ?_)
          refine step_store (by rfl) 56 _ _ (by rfl) (wX2.heap.size) 0 (cf 33 T1).toArray (by rfl) (by rfl) (fun j hj => ⟨by rw [H8_4.out.cell (0 + j) (cf_get (by rw [List.size_toArray, cf_len] at hj; omega))]; rfl, H8_4.out.frozen (0 + j)⟩) (by kernel_rfl) (cf_one _ _) ?_
          have hu5 : Upd (fun k => k = wX2.heap.size) wX4 (wX4.setCells (wX2.heap.size) 0 (cf 33 T1)) := Tally.upd_setCells (S := fun k => k = wX2.heap.size) (wX2.heap.size) (fun _ => rfl) _ _ _ (Upd.refl _ _)
          have hD5 := HD4.out.next hu5 (fun i hi h => by omega)
          refine hK.out _ _ ⟨keepC' hD5 f0, keepC' hD5 f1⟩ (fun hHeld => ?_)
          clear hK KK
          try simp only [Act.put, List.setIfInBounds_toArray, List.set_cons_zero, List.set_cons_succ]
          have hn5 := blk_stored (vs := cf 33 T1) H8_4.out (by rw [cf_len, cf_len])
          have h9_5 := H9_4.out.upd hu5 (by omega)
          generalize wX4.setCells (wX2.heap.size) 0 (cf 33 T1) = wX5 at *
          have H8_5 := Lib.hid hn5
          have H9_5 := Lib.hid h9_5
          have HD5 := Lib.hid hD5
          clear hn5 h9_5 hD5 hu5
          refine next_last (i := 7) (by rfl) (by kernel_rfl) (fun KK hK => ?_)
          refine step_store (by rfl) 56 _ _ (by rfl) (wX0.heap.size) 0 (cf 33 T2).toArray (by rfl) (by rfl) (fun j hj => ⟨by rw [H9_5.out.cell (0 + j) (cf_get (by rw [List.size_toArray, cf_len] at hj; omega))]; rfl, H9_5.out.frozen (0 + j)⟩) (by kernel_rfl) (cf_one _ _) ?_
          have hu6 : Upd (fun k => k = wX0.heap.size) wX5 (wX5.setCells (wX0.heap.size) 0 (cf 33 T2)) := Tally.upd_setCells (S := fun k => k = wX0.heap.size) (wX0.heap.size) (fun _ => rfl) _ _ _ (Upd.refl _ _)
          have hD6 := HD5.out.next hu6 (fun i hi h => by omega)
          refine hK.out _ _ ⟨keepC' hD6 f0, keepC' hD6 f1⟩ (fun hHeld => ?_)
          clear hK KK
          try simp only [Act.put, List.setIfInBounds_toArray, List.set_cons_zero, List.set_cons_succ]
          have hn6 := blk_stored (vs := cf 33 T2) H9_5.out (by rw [cf_len, cf_len])
          have h8_6 := H8_5.out.upd hu6 (by omega)
          refine wpAnyH_done (by kernel_rfl) ?_ _
          go_wp2_with fail
          go_meet
          case rel => exact ⟨_, _, rfl, rfl, hne, h8_6, hn6, by omega, by omega, hD6⟩
      · go_simp
        refine hK.out _ _ ⟨keepC' (HD1.out.alloc _) f0, keepC' (HD1.out.alloc _) f1⟩ (fun hHeld => ?_)
        clear hK KK
        try simp only [Act.put, List.setIfInBounds_toArray, List.set_cons_zero, List.set_cons_succ]
        refine gen_last (fun wX2 hwX2 => ?_)
        rw [← hwX2] at hHeld
        have hu2 : Upd (fun _ => False) wX1 wX2 := by rw [hwX2]; exact (Upd.refl _ _).alloc _
        have hb2 : Blk wX2 wX1.heap.size (cf 33 fun _ => 0) 56 := by rw [hwX2, cf_zero]; exact Blk.made wX1 _ _
        have H9_2 := Lib.hid (H9_1.out.upd hu2 (fun h => h))
        have H8_2 := Lib.hid hb2
        have hq8 : w5.heap.size ≤ wX1.heap.size := HD1.out.size
        have HD2 := Lib.hid (HD1.out.trans hu2)
        have hs2 := hb2.lt
        clear hu2 hb2 hwX2
        refine next_last (i := 1) (by rfl) (by kernel_rfl) (fun KK hK => ?_)
        have HCl := Lib.hid (HOfT.out _ HD2.out)
        go_simp
        refine (HCl.out).mono ?_
        rintro e9 wX3 ⟨rfl, hu3⟩
        have H9_3 := Lib.hid (H9_2.out.upd hu3 (fun h => h))
        have H8_3 := Lib.hid (H8_2.out.upd hu3 (fun h => h))
        have hs3 := hu3.size
        have HD3 := Lib.hid (HD2.out.trans hu3)
        clear hu3 HCl
        go_wp2_with fail
        refine hK.out _ _ ⟨keepC' HD3.out f0, keepC' HD3.out f1⟩ (fun hHeld => ?_)
        clear hK KK
        try simp only [Act.put, List.setIfInBounds_toArray, List.set_cons_zero, List.set_cons_succ]
        refine next_last (i := 3) (by rfl) (by kernel_rfl) (fun KK hK => ?_)
        have HCl := Lib.hid (HLiT.out _ HD3.out)
        go_simp
        refine (HCl.out).mono ?_
        rintro e9 wX4 ⟨rfl, hu4⟩
        have H9_4 := Lib.hid (H9_3.out.upd hu4 (fun h => h))
        have H8_4 := Lib.hid (H8_3.out.upd hu4 (fun h => h))
        have hs4 := hu4.size
        have HD4 := Lib.hid (HD3.out.trans hu4)
        clear hu4 HCl
        go_wp2_with fail
        refine hK.out _ _ ⟨keepC' HD4.out f0, keepC' HD4.out f1⟩ (fun hHeld => ?_)
        clear hK KK
        try simp only [Act.put, List.setIfInBounds_toArray, List.set_cons_zero, List.set_cons_succ]
        have hne : wX1.heap.size ≠ wX0.heap.size := by omega
        refine next_last (i := 6) (by rfl) (by kernel_rfl) (fun KK hK => ?_)
        refine step_store (by rfl) 56 _ _ (by rfl) (wX1.heap.size) 0 (cf 33 T1).toArray (by rfl) (by rfl) (fun j hj => ⟨by rw [H8_4.out.cell (0 + j) (cf_get (by rw [List.size_toArray, cf_len] at hj; omega))]; rfl, H8_4.out.frozen (0 + j)⟩) (by kernel_rfl) (cf_one _ _) ?_
        have hu5 : Upd (fun k => k = wX1.heap.size) wX4 (wX4.setCells (wX1.heap.size) 0 (cf 33 T1)) := Tally.upd_setCells (S := fun k => k = wX1.heap.size) (wX1.heap.size) (fun _ => rfl) _ _ _ (Upd.refl _ _)
        have hD5 := HD4.out.next hu5 (fun i hi h => by omega)
        refine hK.out _ _ ⟨keepC' hD5 f0, keepC' hD5 f1⟩ (fun hHeld => ?_)
        clear hK KK
        try simp only [Act.put, List.setIfInBounds_toArray, List.set_cons_zero, List.set_cons_succ]
        have hn5 := blk_stored (vs := cf 33 T1) H8_4.out (by rw [cf_len, cf_len])
        have h9_5 := H9_4.out.upd hu5 (by omega)
        generalize wX4.setCells (wX1.heap.size) 0 (cf 33 T1) = wX5 at *
        have H8_5 := Lib.hid hn5
        have H9_5 := Lib.hid h9_5
        have HD5 := Lib.hid hD5
        clear hn5 h9_5 hD5 hu5
        refine next_last (i := 7) (by rfl) (by kernel_rfl) (fun KK hK => ?_)
        refine step_store (by rfl) 56 _ _ (by rfl) (wX0.heap.size) 0 (cf 33 T2).toArray (by rfl) (by rfl) (fun j hj => ⟨by rw [H9_5.out.cell (0 + j) (cf_get (by rw [List.size_toArray, cf_len] at hj; omega))]; rfl, H9_5.out.frozen (0 + j)⟩) (by kernel_rfl) (cf_one _ _) ?_
        have hu6 : Upd (fun k => k = wX0.heap.size) wX5 (wX5.setCells (wX0.heap.size) 0 (cf 33 T2)) := Tally.upd_setCells (S := fun k => k = wX0.heap.size) (wX0.heap.size) (fun _ => rfl) _ _ _ (Upd.refl _ _)
        have hD6 := HD5.out.next hu6 (fun i hi h => by omega)
        refine hK.out _ _ ⟨keepC' hD6 f0, keepC' hD6 f1⟩ (fun hHeld => ?_)
        clear hK KK
        try simp only [Act.put, List.setIfInBounds_toArray, List.set_cons_zero, List.set_cons_succ]
        have hn6 := blk_stored (vs := cf 33 T2) H9_5.out (by rw [cf_len, cf_len])
        have h8_6 := H8_5.out.upd hu6 (by omega)
        refine wpAnyH_done (by kernel_rfl) ?_ _
        go_wp2_with fail
        go_meet
        case rel => exact ⟨_, _, rfl, rfl, hne, h8_6, hn6, by omega, by omega, hD6⟩
  case rest =>
    obtain ⟨b8, b9, rfl, rfl, hne, h8, h9, q8, q9, hD⟩ := hcut
    have hr8 := Blk.range' h8
    have Hr8 := Lib.hid hr8
    have hgk : ∀ x ∈ os.map Tally.kw, x.1 < 16 := by
      intro x hx
      obtain ⟨o, ho, rfl⟩ := List.mem_map.1 hx
      have := (HG.out o ho).1
      show o.kind < 16
      omega
    have hrgt := form_right (size := 65536) HForm.out HG.out (by omega) (by omega) (by have := form_fits HForm.out HG.out; omega)
    have hgn : ∀ x ∈ nds.map Tally.kwn, x.1 < 16 := by
      intro x hx
      obtain ⟨n, hn, rfl⟩ := List.mem_map.1 hx
      have := hrgt.each n hn
      show n.kind.toNat < 16
      omega
    have hfit := form_fits HForm.out HG.out
    have hlen := len_nwords nds
    have htk1 : Tally.tot (os.map Tally.kw) ≤ 1000000 := by rw [tot_kw]; have := Tally.len_top os; omega
    have htk2 : Tally.tot (nds.map Tally.kwn) ≤ 1000000 := by have h := tot_kwn nds; have h2 : Tally.tot (nds.map Tally.kwn) = nwords nds + nds.length := h; omega
    have hs1 := Tally.sums (os.map Tally.kw) (sz : Int) hgk htk1
    have hs2 := Tally.sums (nds.map Tally.kwn) 77 hgn htk2
    rw [← HT1.out, List.length_map, Tally.words_kw] at hs1
    rw [← HT2.out, Tally.words_kwn] at hs2
    obtain ⟨TP, hTP⟩ : ∃ TP, TP = top os := ⟨_, rfl⟩
    obtain ⟨NW, hNW⟩ : ∃ NW, NW = nwords nds := ⟨_, rfl⟩
    have hal1 := fun (W : World) => Tally.all_any T1 W
    rw [hs1.1, hs1.2, ← hTP] at hal1
    have hal2 := fun (W : World) (_ : Upd (fun _ => False) wc W) => Tally.all_any T2 W
    rw [hs2.2, ← hNW] at hal2
    have HAl1 := Lib.hid hal1
    have t32 : T1 32 = (sz : Int) := by rw [HT1.out]; rfl
    have u32 : T2 32 = 77 := by rw [HT2.out]; rfl
    have e1 : ag' (rws' (kwp' os (fun _ => true) os.length)) = ag' T1 := by
      refine Tally.ag_congr (fun i hi => ?_)
      show Tally.rws (Tally.kwp os (fun _ => true) os.length) i = T1 i
      rw [HT1.out, Tally.kwp_all os _ (Nat.le_refl _), List.take_length]
      unfold Tally.rws Tally.tal
      rw [if_pos hi]
    have e2 : ∀ out : List Bool, (∀ i : Nat, out[i]? = some true ↔ Rch os Xs i) → ag' (rws' (kwp' os (fun j => out.getD j false) os.length)) = ag' T2 := by
      intro out hout
      refine Tally.ag_congr (fun i hi => ?_)
      show Tally.rws (Tally.kwp os (fun j => out.getD j false) os.length) i = T2 i
      rw [HT2.out]
      unfold Tally.rws Tally.tal
      rw [if_pos hi, Tally.TF_live HG.out HForm.out hout]
    have hb5 := HBx4.out.upd hD (fun h => h)
    have hf5 := HFm.out.upd hD (fun h => h)
    have HB5 := Lib.hid hb5
    have HFm5 := Lib.hid hf5
    have HH5 := Lib.hid (HHp4.out.quiet hD)
    have HR5 := Lib.hid (HR4.out.quiet hD)
    have HF5 := Lib.hid (HF4.out.quiet hD)
    have HRi5 := Lib.hid (ints_below HRi4.out (hD.below (fun _ _ h => h)) rfl)
    have HU5 := Lib.hid (HU4.out.trans hD)
    have H8 := Lib.hid h8
    have H9 := Lib.hid h9
    have He1 := Lib.hid e1
    have He2 := Lib.hid e2
    have Ht32 := Lib.hid t32
    have Hu32 := Lib.hid u32
    have Hal2 := Lib.hid hal2
    have HNW := Lib.hid hNW
    have HTP := Lib.hid hTP
    clear hr8 hgk hgn hrgt hs1 hs2 hTP hNW hal1 hal2 t32 u32 e1 e2 hb5 hf5 hD h8 h9 f0 f1 htk1 htk2
    go_wp2_with (refine wpList_load_mid rfl 56 _ rfl b8 0 rfl (cf 33 T1) _ Hr8.out Try.underlying56 rfl (by kernel_rfl) ?_)
    refine (HAl1.out _).mono ?_
    rintro e w6 ⟨rfl, hu6⟩
    go_upto_region 7 with (fail)
    have hal := (Upd.refl (fun _ => False) w6).alloc (.cells #[.int .i64 (os.length : Int), .int .i64 (TP : Int)] 53)
    have hsb := Blk.made w6 [.int .i64 (os.length : Int), .int .i64 (TP : Int)] 53
    have hu7 := hu6.trans hal
    have h87 := H8.out.upd hu7 (fun h => h)
    have h97 := H9.out.upd hu7 (fun h => h)
    have hb7 := HB5.out.upd hu7 (fun h => h)
    have hf7 := HFm5.out.upd hu7 (fun h => h)
    have hs0 : Desk7 b8 b9 w3.heap.size w4.heap.size w6.heap.size T1 T2 (sz : Int) (os.length : Int) (TP : Int) (.slice ga os.length gc) (.slice fa ks.length fc) (.slice fn nds.length fd) (w6.alloc (.cells #[.int .i64 (os.length : Int), .int .i64 (TP : Int)] 53)) :=
      ⟨Blk.range' h87, Blk.range' h97, by rw [h87.cell 32 (cf_get (by omega)), Ht32.out], by rw [h97.cell 32 (cf_get (by omega)), Hu32.out], hb7.cell 0 rfl, hb7.cell 1 rfl, hf7.cell 0 rfl, hf7.cell 1 rfl, hsb.cell 0 rfl, hsb.cell 1 rfl⟩
    have HS0 := Lib.hid hs0
    have HU7 := Lib.hid (HU5.out.trans hu7)
    have hcum7 := Lib.hid hu7
    generalize w6.alloc (.cells #[.int .i64 (os.length : Int), .int .i64 (TP : Int)] 53) = w7 at *
    have hrw1 := fun (W : World) (hu : Upd (fun _ => False) w7 W) => Tally.rows_any W _ sz _ os (HR5.out.quiet (hcum7.out.trans hu)) (.slice none 0 0) (fun _ => true) (.inl ⟨rfl, fun _ => rfl⟩)
    have hrw2 := fun (ob : Nat) (out : List Bool) (hout : ∀ i : Nat, out[i]? = some true ↔ Rch os Xs i) (hol : out.length = os.length) (W : World) (hu : Upd (fun _ => False) w7 W) (hb : Blk W ob (bools out) 4) =>
      (show Calls Try.prog 42 #[hv sz (.slice ga os.length gc), .slice (some ⟨ob, 0, none⟩) os.length os.length] W fun e w' => e = .returned (ag' T2) ∧ Upd (fun _ => False) W w' by
        have h := Tally.rows_any W _ sz _ os (HR5.out.quiet (hcum7.out.trans hu)) (.slice (some ⟨ob, 0, none⟩) os.length os.length) (fun j => out.getD j false) (.inr ⟨ob, out, rfl, hb, hol, fun _ => rfl⟩)
        have ee := He2.out out hout
        exact h.mono fun e w' h => ⟨by rw [h.1]; exact congrArg Ending.returned ee, h.2⟩)
    have hrw1' := fun (W : World) (hu : Upd (fun _ => False) w7 W) => (show Calls Try.prog 42 #[hv sz (.slice ga os.length gc), .slice none 0 0] W fun e w' => e = .returned (ag' T1) ∧ Upd (fun _ => False) W w' from
        (hrw1 W hu).mono fun e w' h => ⟨by rw [h.1]; exact congrArg Ending.returned He1.out, h.2⟩)
    have hsz7 := fun (W : World) (hu : Upd (fun _ => False) w7 W) => (Tally.size_any W h wb sb sz os rest (HH5.out.quiet (hcum7.out.trans hu))).mono fun e w' h => (⟨h.1, h.2 ▸ Upd.refl _ _⟩ : _ ∧ Upd (fun _ => False) W w')
    have htp7 := fun (W : World) (hu : Upd (fun _ => False) w7 W) => (top_any W h wb sb sz os rest (HH5.out.quiet (hcum7.out.trans hu))).mono fun e w' h => (⟨h.1, h.2 ▸ Upd.refl _ _⟩ : _ ∧ Upd (fun _ => False) W w')
    rw [← HTP.out] at htp7
    have hrch := fun (W : World) (hu : Upd (fun _ => False) w7 W) => reach_any W _ sz _ os (HR5.out.quiet (hcum7.out.trans hu)) va vc Xs (ints_below HRi5.out ((hcum7.out.trans hu).below (fun _ _ h => h)) rfl) (fun x hx => (HRt.out x hx).2) HW64.out (fun x hx => (HRt.out x hx).1) HPt.out (by have := HXl.out; omega)
    rw [HXl.out] at hrch
    obtain ⟨gnv, gnm, hgn, hgw⟩ := HF5.out.nodes
    have hnk := NodesAt.of_own gnm hgn hgw
    have hwd7 := fun (W : World) (hu : Upd (fun _ => False) w7 W) => words_any W _ _ ks.length fc fa rfl nds (hnk.quiet (hcum7.out.trans hu)) (by omega) (by omega)
    rw [← HNW.out] at hwd7
    have HRw1 := Lib.hid hrw1'
    have HRw2 := Lib.hid hrw2
    have HSz7 := Lib.hid hsz7
    have HTp7 := Lib.hid htp7
    have HRch := Lib.hid hrch
    have HWd7 := Lib.hid hwd7
    have HAl2 := Lib.hid (fun (W : World) (hu : Upd (fun _ => False) w7 W) => Hal2.out W (hcum7.out.trans hu))
    have hqe : ∀ (F : Nat → Int) (W : World), (binOp .eql 54 (ag' F) (ag' F)).run Try.prog W = .ok (.bool true) W := same_rows'
    have hfw := Tally.field_words
    clear hsb h87 h97 hb7 hf7 hs0 hrw1 hrw1' hrw2 hsz7 htp7 hrch hgn hgw gnm hnk hwd7 hu6 hal hu7 Hal2
    refine wp_region_held_drew (S := Desk7 b8 b9 w3.heap.size w4.heap.size w6.heap.size T1 T2 (sz : Int) (os.length : Int) (TP : Int) (.slice ga os.length gc) (.slice fa ks.length fc) (.slice fn nds.length fd)) (by kernel_rfl) (HS0.out.quiet (Upd.refl _ _).drew) (fun hHeld => ?_)
    simp only [List.size_toArray, List.length_cons, List.length_nil, Nat.reduceAdd]
    refine gen_last (fun v0 hv0 => ?_)
    have HD0 := Lib.hid (show Upd (fun _ => False) w7 v0 by rw [hv0]; exact (Upd.refl _ _).drew)
    rw [← hv0] at hHeld
    clear hv0
    refine take_any (i := 0) (v := ?_) (by rfl) (by kernel_rfl) (by exact (fun _ _ _ h => h)) (by kernel_rfl) hHeld ?_ ?_
    rotate_left
    · ((intro V hV; obtain ⟨hV0, hV1, hV2, hV3, hV4, hV5, hV6, hV7, hV8, hV9⟩ := hV; go_simp) <;> (with_reducible rfl))
    try simp only [Act.put, List.getElem_toArray, List.getElem_cons_succ, List.getElem_cons_zero, List.setIfInBounds_toArray, List.set_cons_zero, List.set_cons_succ]
    refine take_any (i := 1) (v := .agg (cf 32 T1).toArray) (by rfl) (by kernel_rfl) (by exact (fun _ _ _ h => h)) (by kernel_rfl) hHeld ?_ ?_
    · intro V hV
      obtain ⟨hV0, hV1, hV2, hV3, hV4, hV5, hV6, hV7, hV8, hV9⟩ := hV
      exact exec_load_mid 54 _ (by rfl) b8 0 (by rfl) (cf 32 T1) _ (range_sub hV0 (by omega)) Try.underlying54 rfl (by kernel_rfl)
    try simp only [Act.put, List.getElem_toArray, List.getElem_cons_succ, List.getElem_cons_zero, List.setIfInBounds_toArray, List.set_cons_zero, List.set_cons_succ]
    refine take_any (i := 2) (v := ?_) (by rfl) (by kernel_rfl) (by exact (fun _ _ _ h => h)) (by kernel_rfl) hHeld ?_ ?_
    rotate_left
    · ((intro V hV; obtain ⟨hV0, hV1, hV2, hV3, hV4, hV5, hV6, hV7, hV8, hV9⟩ := hV; go_simp) <;> (with_reducible rfl))
    try simp only [Act.put, List.getElem_toArray, List.getElem_cons_succ, List.getElem_cons_zero, List.setIfInBounds_toArray, List.set_cons_zero, List.set_cons_succ]
    refine next_last (i := 3) (by rfl) (by kernel_rfl) (fun KK hK => ?_)
    have HCl := Lib.hid (HRw1.out _ HD0.out)
    refine if_wanted (by kernel_rfl) ?_
    go_simp
    refine (HCl.out).mono ?_
    rintro e9 v1 ⟨rfl, hu0⟩
    have HD1 := Lib.hid (HD0.out.trans hu0)
    clear hu0 HCl
    go_wp2_with fail
    refine hK.out _ _ (HS0.out.quiet HD1.out) (fun hHeld => ?_)
    clear hK KK
    try simp only [Act.put, List.getElem_toArray, List.getElem_cons_succ, List.getElem_cons_zero, List.setIfInBounds_toArray, List.set_cons_zero, List.set_cons_succ]
    refine take_any (i := 4) (v := ?_) (by rfl) (by kernel_rfl) (by exact (fun _ _ _ h => h)) (by kernel_rfl) hHeld ?_ ?_
    rotate_left
    · ((intro V hV; obtain ⟨hV0, hV1, hV2, hV3, hV4, hV5, hV6, hV7, hV8, hV9⟩ := hV; go_simp) <;> (with_reducible rfl))
    try simp only [Act.put, List.getElem_toArray, List.getElem_cons_succ, List.getElem_cons_zero, List.setIfInBounds_toArray, List.set_cons_zero, List.set_cons_succ]
    refine take_any (i := 5) (v := ?_) (by rfl) (by kernel_rfl) (by exact (fun _ _ _ h => h)) (by kernel_rfl) hHeld ?_ ?_
    rotate_left
    · ((intro V hV; obtain ⟨hV0, hV1, hV2, hV3, hV4, hV5, hV6, hV7, hV8, hV9⟩ := hV; go_simp) <;> (with_reducible rfl))
    try simp only [Act.put, List.getElem_toArray, List.getElem_cons_succ, List.getElem_cons_zero, List.setIfInBounds_toArray, List.set_cons_zero, List.set_cons_succ]
    refine take_any (i := 6) (v := ?_) (by rfl) (by kernel_rfl) (by exact (fun _ _ _ h => h)) (by kernel_rfl) hHeld ?_ ?_
    rotate_left
    · ((intro V hV; obtain ⟨hV0, hV1, hV2, hV3, hV4, hV5, hV6, hV7, hV8, hV9⟩ := hV; go_simp) <;> (with_reducible rfl))
    try simp only [Act.put, List.getElem_toArray, List.getElem_cons_succ, List.getElem_cons_zero, List.setIfInBounds_toArray, List.set_cons_zero, List.set_cons_succ]
    refine take_any (i := 7) (v := ?_) (by rfl) (by kernel_rfl) (by exact (fun _ _ _ h => h)) (by kernel_rfl) hHeld ?_ ?_
    rotate_left
    · ((intro V hV; obtain ⟨hV0, hV1, hV2, hV3, hV4, hV5, hV6, hV7, hV8, hV9⟩ := hV; go_simp) <;> (with_reducible rfl))
    try simp only [Act.put, List.getElem_toArray, List.getElem_cons_succ, List.getElem_cons_zero, List.setIfInBounds_toArray, List.set_cons_zero, List.set_cons_succ]
    refine take_any (i := 8) (v := ?_) (by rfl) (by kernel_rfl) (by exact (fun _ _ _ h => h)) (by kernel_rfl) hHeld ?_ ?_
    rotate_left
    · ((intro V hV; obtain ⟨hV0, hV1, hV2, hV3, hV4, hV5, hV6, hV7, hV8, hV9⟩ := hV; go_simp) <;> (with_reducible rfl))
    try simp only [Act.put, List.getElem_toArray, List.getElem_cons_succ, List.getElem_cons_zero, List.setIfInBounds_toArray, List.set_cons_zero, List.set_cons_succ]
    refine next_last (i := 9) (by rfl) (by kernel_rfl) (fun KK hK => ?_)
    have HCl := Lib.hid (HSz7.out _ HD1.out)
    refine if_wanted (by kernel_rfl) ?_
    go_simp
    refine (HCl.out).mono ?_
    rintro e9 v2 ⟨rfl, hu1⟩
    have HD2 := Lib.hid (HD1.out.trans hu1)
    clear hu1 HCl
    go_wp2_with fail
    refine hK.out _ _ (HS0.out.quiet HD2.out) (fun hHeld => ?_)
    clear hK KK
    try simp only [Act.put, List.getElem_toArray, List.getElem_cons_succ, List.getElem_cons_zero, List.setIfInBounds_toArray, List.set_cons_zero, List.set_cons_succ]
    refine take_any (i := 10) (v := ?_) (by rfl) (by kernel_rfl) (by exact (fun _ _ _ h => h)) (by kernel_rfl) hHeld ?_ ?_
    rotate_left
    · ((intro V hV; obtain ⟨hV0, hV1, hV2, hV3, hV4, hV5, hV6, hV7, hV8, hV9⟩ := hV; go_simp) <;> (with_reducible rfl))
    try simp only [Act.put, List.getElem_toArray, List.getElem_cons_succ, List.getElem_cons_zero, List.setIfInBounds_toArray, List.set_cons_zero, List.set_cons_succ]
    refine take_any (i := 11) (v := ?_) (by rfl) (by kernel_rfl) (by exact (fun _ _ _ h => h)) (by kernel_rfl) hHeld ?_ ?_
    rotate_left
    · ((intro V hV; obtain ⟨hV0, hV1, hV2, hV3, hV4, hV5, hV6, hV7, hV8, hV9⟩ := hV; go_simp) <;> (with_reducible rfl))
    try simp only [Act.put, List.getElem_toArray, List.getElem_cons_succ, List.getElem_cons_zero, List.setIfInBounds_toArray, List.set_cons_zero, List.set_cons_succ]
    refine take_any (i := 12) (v := ?_) (by rfl) (by kernel_rfl) (by exact (fun _ _ _ h => h)) (by kernel_rfl) hHeld ?_ ?_
    rotate_left
    · ((intro V hV; obtain ⟨hV0, hV1, hV2, hV3, hV4, hV5, hV6, hV7, hV8, hV9⟩ := hV; go_simp) <;> (with_reducible rfl))
    try simp only [Act.put, List.getElem_toArray, List.getElem_cons_succ, List.getElem_cons_zero, List.setIfInBounds_toArray, List.set_cons_zero, List.set_cons_succ]
    refine take_any (i := 13) (v := ?_) (by rfl) (by kernel_rfl) (by exact (fun _ _ _ h => h)) (by kernel_rfl) hHeld ?_ ?_
    rotate_left
    · ((intro V hV; obtain ⟨hV0, hV1, hV2, hV3, hV4, hV5, hV6, hV7, hV8, hV9⟩ := hV; go_simp) <;> (with_reducible rfl))
    try simp only [Act.put, List.getElem_toArray, List.getElem_cons_succ, List.getElem_cons_zero, List.setIfInBounds_toArray, List.set_cons_zero, List.set_cons_succ]
    refine take_any (i := 14) (v := .agg (cf 32 T2).toArray) (by rfl) (by kernel_rfl) (by exact (fun _ _ _ h => h)) (by kernel_rfl) hHeld ?_ ?_
    · intro V hV
      obtain ⟨hV0, hV1, hV2, hV3, hV4, hV5, hV6, hV7, hV8, hV9⟩ := hV
      exact exec_load_mid 54 _ (by rfl) b9 0 (by rfl) (cf 32 T2) _ (range_sub hV1 (by omega)) Try.underlying54 rfl (by kernel_rfl)
    try simp only [Act.put, List.getElem_toArray, List.getElem_cons_succ, List.getElem_cons_zero, List.setIfInBounds_toArray, List.set_cons_zero, List.set_cons_succ]
    refine take_any (i := 15) (v := ?_) (by rfl) (by kernel_rfl) (by exact (fun _ _ _ h => h)) (by kernel_rfl) hHeld ?_ ?_
    rotate_left
    · ((intro V hV; obtain ⟨hV0, hV1, hV2, hV3, hV4, hV5, hV6, hV7, hV8, hV9⟩ := hV; go_simp) <;> (with_reducible rfl))
    try simp only [Act.put, List.getElem_toArray, List.getElem_cons_succ, List.getElem_cons_zero, List.setIfInBounds_toArray, List.set_cons_zero, List.set_cons_succ]
    refine take_any (i := 16) (v := ?_) (by rfl) (by kernel_rfl) (by exact (fun _ _ _ h => h)) (by kernel_rfl) hHeld ?_ ?_
    rotate_left
    · ((intro V hV; obtain ⟨hV0, hV1, hV2, hV3, hV4, hV5, hV6, hV7, hV8, hV9⟩ := hV; go_simp) <;> (with_reducible rfl))
    try simp only [Act.put, List.getElem_toArray, List.getElem_cons_succ, List.getElem_cons_zero, List.setIfInBounds_toArray, List.set_cons_zero, List.set_cons_succ]
    refine take_any (i := 17) (v := ?_) (by rfl) (by kernel_rfl) (by exact (fun _ _ _ h => h)) (by kernel_rfl) hHeld ?_ ?_
    rotate_left
    · ((intro V hV; obtain ⟨hV0, hV1, hV2, hV3, hV4, hV5, hV6, hV7, hV8, hV9⟩ := hV; go_simp) <;> (with_reducible rfl))
    try simp only [Act.put, List.getElem_toArray, List.getElem_cons_succ, List.getElem_cons_zero, List.setIfInBounds_toArray, List.set_cons_zero, List.set_cons_succ]
    refine next_last (i := 18) (by rfl) (by kernel_rfl) (fun KK hK => ?_)
    have HCl := Lib.hid (HRch.out _ HD2.out)
    refine if_wanted (by kernel_rfl) ?_
    go_simp
    refine (HCl.out).mono ?_
    rintro e9 v3 ⟨ob, out, rfl, hO, hol9, hout, hu2, _⟩
    have Hout := Lib.hid hout
    have Hol := Lib.hid hol9
    have HO3 := Lib.hid hO
    clear hO hout hol9
    have HD3 := Lib.hid (HD2.out.trans hu2)
    clear hu2 HCl
    go_wp2_with fail
    refine hK.out _ _ (HS0.out.quiet HD3.out) (fun hHeld => ?_)
    clear hK KK
    try simp only [Act.put, List.getElem_toArray, List.getElem_cons_succ, List.getElem_cons_zero, List.setIfInBounds_toArray, List.set_cons_zero, List.set_cons_succ]
    refine next_last (i := 19) (by rfl) (by kernel_rfl) (fun KK hK => ?_)
    have HCl := Lib.hid (HRw2.out ob out Hout.out Hol.out _ HD3.out HO3.out)
    refine if_wanted (by kernel_rfl) ?_
    go_simp
    refine (HCl.out).mono ?_
    rintro e9 v4 ⟨rfl, hu3⟩
    have HD4 := Lib.hid (HD3.out.trans hu3)
    clear hu3 HCl
    go_wp2_with fail
    refine hK.out _ _ (HS0.out.quiet HD4.out) (fun hHeld => ?_)
    clear hK KK
    try simp only [Act.put, List.getElem_toArray, List.getElem_cons_succ, List.getElem_cons_zero, List.setIfInBounds_toArray, List.set_cons_zero, List.set_cons_succ]
    refine take_any (i := 20) (v := ?_) (by rfl) (by kernel_rfl) (by exact (fun _ _ _ h => h)) (by kernel_rfl) hHeld ?_ ?_
    rotate_left
    · ((intro V hV; obtain ⟨hV0, hV1, hV2, hV3, hV4, hV5, hV6, hV7, hV8, hV9⟩ := hV; go_simp) <;> (with_reducible rfl))
    try simp only [Act.put, List.getElem_toArray, List.getElem_cons_succ, List.getElem_cons_zero, List.setIfInBounds_toArray, List.set_cons_zero, List.set_cons_succ]
    refine take_any (i := 21) (v := ?_) (by rfl) (by kernel_rfl) (by exact (fun _ _ _ h => h)) (by kernel_rfl) hHeld ?_ ?_
    rotate_left
    · ((intro V hV; obtain ⟨hV0, hV1, hV2, hV3, hV4, hV5, hV6, hV7, hV8, hV9⟩ := hV; go_simp) <;> (with_reducible rfl))
    try simp only [Act.put, List.getElem_toArray, List.getElem_cons_succ, List.getElem_cons_zero, List.setIfInBounds_toArray, List.set_cons_zero, List.set_cons_succ]
    refine take_any (i := 22) (v := ?_) (by rfl) (by kernel_rfl) (by exact (fun _ _ _ h => h)) (by kernel_rfl) hHeld ?_ ?_
    rotate_left
    · ((intro V hV; obtain ⟨hV0, hV1, hV2, hV3, hV4, hV5, hV6, hV7, hV8, hV9⟩ := hV; go_simp) <;> (with_reducible rfl))
    try simp only [Act.put, List.getElem_toArray, List.getElem_cons_succ, List.getElem_cons_zero, List.setIfInBounds_toArray, List.set_cons_zero, List.set_cons_succ]
    refine take_any (i := 23) (v := ?_) (by rfl) (by kernel_rfl) (by exact (fun _ _ _ h => h)) (by kernel_rfl) hHeld ?_ ?_
    rotate_left
    · ((intro V hV; obtain ⟨hV0, hV1, hV2, hV3, hV4, hV5, hV6, hV7, hV8, hV9⟩ := hV; go_simp) <;> (with_reducible rfl))
    try simp only [Act.put, List.getElem_toArray, List.getElem_cons_succ, List.getElem_cons_zero, List.setIfInBounds_toArray, List.set_cons_zero, List.set_cons_succ]
    refine take_any (i := 24) (v := ?_) (by rfl) (by kernel_rfl) (by exact (fun _ _ _ h => h)) (by kernel_rfl) hHeld ?_ ?_
    rotate_left
    · ((intro V hV; obtain ⟨hV0, hV1, hV2, hV3, hV4, hV5, hV6, hV7, hV8, hV9⟩ := hV; go_simp) <;> (with_reducible rfl))
    try simp only [Act.put, List.getElem_toArray, List.getElem_cons_succ, List.getElem_cons_zero, List.setIfInBounds_toArray, List.set_cons_zero, List.set_cons_succ]
    refine take_any (i := 25) (v := ?_) (by rfl) (by kernel_rfl) (by exact (fun _ _ _ h => h)) (by kernel_rfl) hHeld ?_ ?_
    rotate_left
    · ((intro V hV; obtain ⟨hV0, hV1, hV2, hV3, hV4, hV5, hV6, hV7, hV8, hV9⟩ := hV; go_simp) <;> (with_reducible rfl))
    try simp only [Act.put, List.getElem_toArray, List.getElem_cons_succ, List.getElem_cons_zero, List.setIfInBounds_toArray, List.set_cons_zero, List.set_cons_succ]
    refine take_any (i := 26) (v := ?_) (by rfl) (by kernel_rfl) (by exact (fun _ _ _ h => h)) (by kernel_rfl) hHeld ?_ ?_
    rotate_left
    · ((intro V hV; obtain ⟨hV0, hV1, hV2, hV3, hV4, hV5, hV6, hV7, hV8, hV9⟩ := hV; go_simp) <;> (with_reducible rfl))
    try simp only [Act.put, List.getElem_toArray, List.getElem_cons_succ, List.getElem_cons_zero, List.setIfInBounds_toArray, List.set_cons_zero, List.set_cons_succ]
    refine take_any (i := 27) (v := ?_) (by rfl) (by kernel_rfl) (by exact (fun _ _ _ h => h)) (by kernel_rfl) hHeld ?_ ?_
    rotate_left
    · ((intro V hV; obtain ⟨hV0, hV1, hV2, hV3, hV4, hV5, hV6, hV7, hV8, hV9⟩ := hV; go_simp) <;> (with_reducible rfl))
    try simp only [Act.put, List.getElem_toArray, List.getElem_cons_succ, List.getElem_cons_zero, List.setIfInBounds_toArray, List.set_cons_zero, List.set_cons_succ]
    refine take_any (i := 28) (v := ?_) (by rfl) (by kernel_rfl) (by exact (fun _ _ _ h => h)) (by kernel_rfl) hHeld ?_ ?_
    rotate_left
    · ((intro V hV; obtain ⟨hV0, hV1, hV2, hV3, hV4, hV5, hV6, hV7, hV8, hV9⟩ := hV; go_simp) <;> (with_reducible rfl))
    try simp only [Act.put, List.getElem_toArray, List.getElem_cons_succ, List.getElem_cons_zero, List.setIfInBounds_toArray, List.set_cons_zero, List.set_cons_succ]
    refine take_any (i := 29) (v := ?_) (by rfl) (by kernel_rfl) (by exact (fun _ _ _ h => h)) (by kernel_rfl) hHeld ?_ ?_
    rotate_left
    · ((intro V hV; obtain ⟨hV0, hV1, hV2, hV3, hV4, hV5, hV6, hV7, hV8, hV9⟩ := hV; go_simp) <;> (with_reducible rfl))
    try simp only [Act.put, List.getElem_toArray, List.getElem_cons_succ, List.getElem_cons_zero, List.setIfInBounds_toArray, List.set_cons_zero, List.set_cons_succ]
    refine take_any (i := 30) (v := ?_) (by rfl) (by kernel_rfl) (by exact (fun _ _ _ h => h)) (by kernel_rfl) hHeld ?_ ?_
    rotate_left
    · ((intro V hV; obtain ⟨hV0, hV1, hV2, hV3, hV4, hV5, hV6, hV7, hV8, hV9⟩ := hV; go_simp) <;> (with_reducible rfl))
    try simp only [Act.put, List.getElem_toArray, List.getElem_cons_succ, List.getElem_cons_zero, List.setIfInBounds_toArray, List.set_cons_zero, List.set_cons_succ]
    refine next_last (i := 31) (by rfl) (by kernel_rfl) (fun KK hK => ?_)
    have HCl := Lib.hid (HTp7.out _ HD4.out)
    refine if_wanted (by kernel_rfl) ?_
    go_simp
    refine (HCl.out).mono ?_
    rintro e9 v5 ⟨rfl, hu4⟩
    have HD5 := Lib.hid (HD4.out.trans hu4)
    clear hu4 HCl
    go_wp2_with fail
    refine hK.out _ _ (HS0.out.quiet HD5.out) (fun hHeld => ?_)
    clear hK KK
    try simp only [Act.put, List.getElem_toArray, List.getElem_cons_succ, List.getElem_cons_zero, List.setIfInBounds_toArray, List.set_cons_zero, List.set_cons_succ]
    refine take_any (i := 32) (v := ?_) (by rfl) (by kernel_rfl) (by exact (fun _ _ _ h => h)) (by kernel_rfl) hHeld ?_ ?_
    rotate_left
    · ((intro V hV; obtain ⟨hV0, hV1, hV2, hV3, hV4, hV5, hV6, hV7, hV8, hV9⟩ := hV; go_simp) <;> (with_reducible rfl))
    try simp only [Act.put, List.getElem_toArray, List.getElem_cons_succ, List.getElem_cons_zero, List.setIfInBounds_toArray, List.set_cons_zero, List.set_cons_succ]
    refine take_any (i := 33) (v := ?_) (by rfl) (by kernel_rfl) (by exact (fun _ _ _ h => h)) (by kernel_rfl) hHeld ?_ ?_
    rotate_left
    · ((intro V hV; obtain ⟨hV0, hV1, hV2, hV3, hV4, hV5, hV6, hV7, hV8, hV9⟩ := hV; go_simp) <;> (with_reducible rfl))
    try simp only [Act.put, List.getElem_toArray, List.getElem_cons_succ, List.getElem_cons_zero, List.setIfInBounds_toArray, List.set_cons_zero, List.set_cons_succ]
    refine take_any (i := 34) (v := ?_) (by rfl) (by kernel_rfl) (by exact (fun _ _ _ h => h)) (by kernel_rfl) hHeld ?_ ?_
    rotate_left
    · ((intro V hV; obtain ⟨hV0, hV1, hV2, hV3, hV4, hV5, hV6, hV7, hV8, hV9⟩ := hV; go_simp) <;> (with_reducible rfl))
    try simp only [Act.put, List.getElem_toArray, List.getElem_cons_succ, List.getElem_cons_zero, List.setIfInBounds_toArray, List.set_cons_zero, List.set_cons_succ]
    refine take_any (i := 35) (v := ?_) (by rfl) (by kernel_rfl) (by exact (fun _ _ _ h => h)) (by kernel_rfl) hHeld ?_ ?_
    rotate_left
    · ((intro V hV; obtain ⟨hV0, hV1, hV2, hV3, hV4, hV5, hV6, hV7, hV8, hV9⟩ := hV; go_simp) <;> (with_reducible rfl))
    try simp only [Act.put, List.getElem_toArray, List.getElem_cons_succ, List.getElem_cons_zero, List.setIfInBounds_toArray, List.set_cons_zero, List.set_cons_succ]
    refine take_any (i := 36) (v := ?_) (by rfl) (by kernel_rfl) (by exact (fun _ _ _ h => h)) (by kernel_rfl) hHeld ?_ ?_
    rotate_left
    · ((intro V hV; obtain ⟨hV0, hV1, hV2, hV3, hV4, hV5, hV6, hV7, hV8, hV9⟩ := hV; go_simp) <;> (with_reducible rfl))
    try simp only [Act.put, List.getElem_toArray, List.getElem_cons_succ, List.getElem_cons_zero, List.setIfInBounds_toArray, List.set_cons_zero, List.set_cons_succ]
    refine take_any (i := 37) (v := ?_) (by rfl) (by kernel_rfl) (by exact (fun _ _ _ h => h)) (by kernel_rfl) hHeld ?_ ?_
    rotate_left
    · ((intro V hV; obtain ⟨hV0, hV1, hV2, hV3, hV4, hV5, hV6, hV7, hV8, hV9⟩ := hV; go_simp) <;> (with_reducible rfl))
    try simp only [Act.put, List.getElem_toArray, List.getElem_cons_succ, List.getElem_cons_zero, List.setIfInBounds_toArray, List.set_cons_zero, List.set_cons_succ]
    refine take_any (i := 38) (v := ?_) (by rfl) (by kernel_rfl) (by exact (fun _ _ _ h => h)) (by kernel_rfl) hHeld ?_ ?_
    rotate_left
    · ((intro V hV; obtain ⟨hV0, hV1, hV2, hV3, hV4, hV5, hV6, hV7, hV8, hV9⟩ := hV; go_simp) <;> (with_reducible rfl))
    try simp only [Act.put, List.getElem_toArray, List.getElem_cons_succ, List.getElem_cons_zero, List.setIfInBounds_toArray, List.set_cons_zero, List.set_cons_succ]
    refine take_any (i := 39) (v := ?_) (by rfl) (by kernel_rfl) (by exact (fun _ _ _ h => h)) (by kernel_rfl) hHeld ?_ ?_
    rotate_left
    · ((intro V hV; obtain ⟨hV0, hV1, hV2, hV3, hV4, hV5, hV6, hV7, hV8, hV9⟩ := hV; go_simp) <;> (with_reducible rfl))
    try simp only [Act.put, List.getElem_toArray, List.getElem_cons_succ, List.getElem_cons_zero, List.setIfInBounds_toArray, List.set_cons_zero, List.set_cons_succ]
    refine take_any (i := 40) (v := ?_) (by rfl) (by kernel_rfl) (by exact (fun _ _ _ h => h)) (by kernel_rfl) hHeld ?_ ?_
    rotate_left
    · ((intro V hV; obtain ⟨hV0, hV1, hV2, hV3, hV4, hV5, hV6, hV7, hV8, hV9⟩ := hV; go_simp) <;> (with_reducible rfl))
    try simp only [Act.put, List.getElem_toArray, List.getElem_cons_succ, List.getElem_cons_zero, List.setIfInBounds_toArray, List.set_cons_zero, List.set_cons_succ]
    refine take_any (i := 41) (v := ?_) (by rfl) (by kernel_rfl) (by exact (fun _ _ _ h => h)) (by kernel_rfl) hHeld ?_ ?_
    rotate_left
    · ((intro V hV; obtain ⟨hV0, hV1, hV2, hV3, hV4, hV5, hV6, hV7, hV8, hV9⟩ := hV; go_simp) <;> (with_reducible rfl))
    try simp only [Act.put, List.getElem_toArray, List.getElem_cons_succ, List.getElem_cons_zero, List.setIfInBounds_toArray, List.set_cons_zero, List.set_cons_succ]
    refine take_any (i := 42) (v := ?_) (by rfl) (by kernel_rfl) (by exact (fun _ _ _ h => h)) (by kernel_rfl) hHeld ?_ ?_
    rotate_left
    · ((intro V hV; obtain ⟨hV0, hV1, hV2, hV3, hV4, hV5, hV6, hV7, hV8, hV9⟩ := hV; go_simp) <;> (with_reducible rfl))
    try simp only [Act.put, List.getElem_toArray, List.getElem_cons_succ, List.getElem_cons_zero, List.setIfInBounds_toArray, List.set_cons_zero, List.set_cons_succ]
    refine take_any (i := 43) (v := .agg (cf 33 T2).toArray) (by rfl) (by kernel_rfl) (by exact (fun _ _ _ h => h)) (by kernel_rfl) hHeld ?_ ?_
    · intro V hV
      obtain ⟨hV0, hV1, hV2, hV3, hV4, hV5, hV6, hV7, hV8, hV9⟩ := hV
      exact exec_load_mid 56 _ (by rfl) b9 0 (by rfl) (cf 33 T2) _ hV1 Try.underlying56 rfl (by kernel_rfl)
    try simp only [Act.put, List.getElem_toArray, List.getElem_cons_succ, List.getElem_cons_zero, List.setIfInBounds_toArray, List.set_cons_zero, List.set_cons_succ]
    refine take_any (i := 46) (v := ?_) (by rfl) (by kernel_rfl) (by exact (fun _ _ _ h => h)) (by kernel_rfl) hHeld ?_ ?_
    rotate_left
    · ((intro V hV; obtain ⟨hV0, hV1, hV2, hV3, hV4, hV5, hV6, hV7, hV8, hV9⟩ := hV; go_simp) <;> (with_reducible rfl))
    try simp only [Act.put, List.getElem_toArray, List.getElem_cons_succ, List.getElem_cons_zero, List.setIfInBounds_toArray, List.set_cons_zero, List.set_cons_succ]
    refine next_last (i := 44) (by rfl) (by kernel_rfl) (fun KK hK => ?_)
    have HCl := Lib.hid (HAl2.out _ HD5.out)
    refine if_wanted (by kernel_rfl) ?_
    go_simp
    refine (HCl.out).mono ?_
    rintro e9 v6 ⟨rfl, hu5⟩
    have HD6 := Lib.hid (HD5.out.trans hu5)
    clear hu5 HCl
    go_wp2_with fail
    refine hK.out _ _ (HS0.out.quiet HD6.out) (fun hHeld => ?_)
    clear hK KK
    try simp only [Act.put, List.getElem_toArray, List.getElem_cons_succ, List.getElem_cons_zero, List.setIfInBounds_toArray, List.set_cons_zero, List.set_cons_succ]
    refine take_any (i := 45) (v := ?_) (by rfl) (by kernel_rfl) (by exact (fun _ _ _ h => h)) (by kernel_rfl) hHeld ?_ ?_
    rotate_left
    · ((intro V hV; obtain ⟨hV0, hV1, hV2, hV3, hV4, hV5, hV6, hV7, hV8, hV9⟩ := hV; go_simp) <;> (with_reducible rfl))
    try simp only [Act.put, List.getElem_toArray, List.getElem_cons_succ, List.getElem_cons_zero, List.setIfInBounds_toArray, List.set_cons_zero, List.set_cons_succ]
    refine next_last (i := 47) (by rfl) (by kernel_rfl) (fun KK hK => ?_)
    have HCl := Lib.hid (HWd7.out _ HD6.out)
    refine if_wanted (by kernel_rfl) ?_
    go_simp
    refine (HCl.out).mono ?_
    rintro e9 v7 ⟨rfl, hu6⟩
    have HD7 := Lib.hid (HD6.out.trans hu6)
    clear hu6 HCl
    go_wp2_with fail
    refine hK.out _ _ (HS0.out.quiet HD7.out) (fun hHeld => ?_)
    clear hK KK
    try simp only [Act.put, List.getElem_toArray, List.getElem_cons_succ, List.getElem_cons_zero, List.setIfInBounds_toArray, List.set_cons_zero, List.set_cons_succ]
    refine take_any (i := 48) (v := ?_) (by rfl) (by kernel_rfl) (by exact (fun _ _ _ h => h)) (by kernel_rfl) hHeld ?_ ?_
    rotate_left
    · ((intro V hV; obtain ⟨hV0, hV1, hV2, hV3, hV4, hV5, hV6, hV7, hV8, hV9⟩ := hV; go_simp) <;> (with_reducible rfl))
    try simp only [Act.put, List.getElem_toArray, List.getElem_cons_succ, List.getElem_cons_zero, List.setIfInBounds_toArray, List.set_cons_zero, List.set_cons_succ]
    refine take_any (i := 49) (v := ?_) (by rfl) (by kernel_rfl) (by exact (fun _ _ _ h => h)) (by kernel_rfl) hHeld ?_ ?_
    rotate_left
    · ((intro V hV; obtain ⟨hV0, hV1, hV2, hV3, hV4, hV5, hV6, hV7, hV8, hV9⟩ := hV; go_simp) <;> (with_reducible rfl))
    try simp only [Act.put, List.getElem_toArray, List.getElem_cons_succ, List.getElem_cons_zero, List.setIfInBounds_toArray, List.set_cons_zero, List.set_cons_succ]
    refine take_any (i := 50) (v := ?_) (by rfl) (by kernel_rfl) (by exact (fun _ _ _ h => h)) (by kernel_rfl) hHeld ?_ ?_
    rotate_left
    · ((intro V hV; obtain ⟨hV0, hV1, hV2, hV3, hV4, hV5, hV6, hV7, hV8, hV9⟩ := hV; go_simp) <;> (with_reducible rfl))
    try simp only [Act.put, List.getElem_toArray, List.getElem_cons_succ, List.getElem_cons_zero, List.setIfInBounds_toArray, List.set_cons_zero, List.set_cons_succ]
    refine wpAnyH_done (by kernel_rfl) ?_ _
    clear hHeld
    go_wp2
    go_ret
    exact ⟨rfl, HU7.out.trans HD7.out⟩
end Go.Proofs.Ytjlcjcgoaakniaa.Build
