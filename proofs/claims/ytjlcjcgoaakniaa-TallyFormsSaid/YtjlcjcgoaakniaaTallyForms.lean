/- The law TallyForms: a form's tally is that of its own heap. -/
import Derived.Test.YtjlcjcgoaakniaaTallyLay
import Derived.Test.YtjlcjcgoaakniaaFormHeap
set_option linter.unusedSimpArgs false
namespace Go.Proofs.Ytjlcjcgoaakniaa.Build
open Go.RowKit Go.Deep Go.Proofs.Ytjlcjcgoaakniaa.Mem Go.Proofs.Ytjlcjcgoaakniaa.Obj Go.Proofs.Ytjlcjcgoaakniaa.Ref Go.Proofs.Ytjlcjcgoaakniaa.Heap
open Go.Proofs.Ytjlcjcgoaakniaa.Tally (cf cf_get cf_len cf_one cf_zero blk_stored gen_last)
attribute [local go_sem] max2_int max_two

theorem kw_full (nds : List Nd) : ((nds.map (Obj.full nds)).map Tally.kw) = nds.map Tally.kwn := by
  rw [List.map_map]
  refine List.map_congr_left (fun n _ => ?_)
  show (n.kind.toNat, 1 + (Obj.full nds n).len) = (n.kind.toNat, 1 + n.edges.length + n.words.length)
  rw [Obj.full_len, Nat.add_assoc]
/-- All that the last region reads. -/
structure Desk8 (b8 b9 fb : Nat) (T : Nat → Int) (fn : Value) (V : World) : Prop where
  r8 : V.rangeAt b8 0 (cf 33 T)
  r9 : V.rangeAt b9 0 (cf 33 T)
  x0 : V.cell? ⟨b8, 30, none⟩ = some (.int .i64 0)
  x1 : V.cell? ⟨b8, 31, none⟩ = some (.int .i64 0)
  f1 : V.cell? ⟨fb, 1, none⟩ = some fn
theorem Desk8.quiet {b8 b9 fb : Nat} {T : Nat → Int} {fn : Value} {V V' : World} (h : Desk8 b8 b9 fb T fn V) (u : Upd (fun _ => False) V V') : Desk8 b8 b9 fb T fn V' :=
  ⟨Tally.keepR u h.r8, Tally.keepR u h.r9, keepC' u h.x0, keepC' u h.x1, keepC' u h.f1⟩
theorem row15 : ∀ (l : List (Nat × Nat)), (∀ x ∈ l, x.1 < 15) → Tally.TF l 30 = 0 ∧ Tally.TF l 31 = 0
  | [], _ => ⟨rfl, rfl⟩
  | x :: l, h => by
    obtain ⟨h1, h2⟩ := row15 l (fun y hy => h y (List.mem_cons_of_mem _ hy))
    have hx := h x List.mem_cons_self
    rw [Tally.TF_cons, Tally.TF_cons, h1, h2]
    unfold Tally.tf
    rw [if_neg (by omega), if_neg (by omega), if_neg (by omega), if_neg (by omega)]
    exact ⟨rfl, rfl⟩

attribute [-go_sem] run_eql_struct run_equalIn_agg in
attribute [-simp] Try.sizeOf56 in
set_option maxRecDepth 20000 in
set_option maxHeartbeats 40000000 in
theorem tforms_few (w : World) (na ra : Option Addr) (nc rc : Nat) (ns : List GNd) (rs : List Nat) (hn : NodesIn w na ns) (hr : Bytes w ra rs) (hf : (∀ n ∈ ns, n.edges.length ≤ 10) ∧ ns.length ≤ 14 ∧ rs.length ≤ 14) (mm : Nat) (hmm : mm < 256) :
    Calls Try.prog 14 #[gv na ns.length nc ra rs.length rc, .int .u8 (mm : Int)] w fun e w' => e = .returned (.bool true) ∧ Upd (fun _ => False) w w' := by
  have hu0 := (Upd.refl (fun _ => False) w).alloc (.cells (GB na ns.length nc ra rs.length rc).toArray 67)
  have HB := Lib.hid (Blk.made w (GB na ns.length nc ra rs.length rc) 67)
  have HU := Lib.hid hu0
  have HN := Lib.hid hn
  have HR := Lib.hid hr
  have HF := Lib.hid hf
  have hnl := hf.2.1
  have hrl := hf.2.2
  clear hu0 hn hr hf
  go_enter Try.func14, Try.ntmps14
  go_wp2_with fail
  refine (Tally.awake19 _).mono ?_
  rintro e w1 ⟨rfl, hu1⟩
  have hB1 := HB.out.upd hu1 (fun h => h)
  have b0 := hB1.cell 0 rfl
  have b1 := hB1.cell 1 rfl
  have bl := hB1.lt
  have hfew := few_any w1 na ra nc rc ns rs.length (HN.out.quiet (HU.out.trans hu1)) (by omega) (by omega)
  rw [decide_eq_true HF.out] at hfew
  have HFew := Lib.hid hfew
  have HU1 := Lib.hid (HU.out.trans hu1)
  have HB1 := Lib.hid hB1
  clear hB1 hfew hu1
  go_wp2_with fail
  refine (HFew.out).mono ?_
  rintro e w2 ⟨rfl, hu2⟩
  have hB2 := HB1.out.upd hu2 (fun h => h)
  have HU2 := Lib.hid (HU1.out.trans hu2)
  clear b0 b1 bl
  have b0 := hB2.cell 0 rfl
  have b1 := hB2.cell 1 rfl
  have bl := hB2.lt
  have hbd := build_any w2 na ra nc rc ns rs (HN.out.quiet HU2.out) (HR.out.quiet HU2.out) ⟨HF.out.1, hnl, hrl⟩ 0 (by omega)
  rw [show ((0 : Nat) : Int) = 0 from rfl] at hbd
  have HBd := Lib.hid hbd
  clear hB2 hu2 hbd
  go_wp2_with fail
  refine (HBd.out).mono ?_
  rintro e w3 ⟨h, wb, sb, rest, va, vc, vr, S, rfl, hH, hro, hRf, _, _, _, _, _, _, _, hu3⟩
  obtain ⟨ga, gc, rfl⟩ := hRf.form
  have hat : ∀ a ∈ atOf ns, a ≤ 65536 := fun a ha => by have h1 := atOf_le ha; have h2 := tot_le ns HF.out.1; omega
  have hT := told ns rs hH.good (by omega) hat
  obtain ⟨sz, hsz⟩ : ∃ sz, sz = 1 + 0 + tot ns := ⟨_, rfl⟩
  rw [← hsz] at hH ⊢
  obtain ⟨os, hos⟩ : ∃ os, os = obsOf ns := ⟨_, rfl⟩
  obtain ⟨Xs, hXs⟩ : ∃ Xs, Xs = rs.map (placeOf (atOf ns)) := ⟨_, rfl⟩
  rw [← hos] at hH hRf ⊢
  have hXl : Xs.length = rs.length := by rw [hXs, List.length_map]
  have hg := hT.good
  have hw64 := hT.w64
  have hpt := hT.ptrs
  have hrt := hT.roots
  rw [← hos] at hg hw64 hpt hrt
  rw [← hXs] at hrt hro
  obtain ⟨ks, nds, hform⟩ := form_total (fun x hx => (hrt x hx).1) hpt
  have htop : top os ≤ 65536 := by have := hH.size; have := hH.hi; omega
  have hal := (Upd.refl (fun _ => False) w3).alloc (.cells #[.int .i64 (sz : Int), .slice ga os.length gc] 73)
  have hro' := own_upd hro hal (fun _ _ h => h)
  rw [← hXl] at hro'
  have hri := ints_own hro' (fun x hx => (hrt x hx).2) (by omega)
  have hof := Graph.of_any _ h wb sb sz os rest (hH.quiet hal) va vc Xs hri (by omega) (fun x hx => (hrt x hx).2) hw64
  rw [hform, hXl] at hof
  have HOf := Lib.hid hof
  have HRi := Lib.hid hri
  have HRf := Lib.hid (hRf.ref.quiet hal)
  have HBx := Lib.hid (Blk.made w3 [.int .i64 (sz : Int), .slice ga os.length gc] 73)
  have HU3 := Lib.hid ((HU2.out.trans hu3).trans hal)
  have HG := Lib.hid hg
  have HW64 := Lib.hid hw64
  have HPt := Lib.hid hpt
  have HRt := Lib.hid hrt
  have HForm := Lib.hid hform
  have HXl := Lib.hid hXl
  have hol := hRf.few
  have htl := tot_le ns HF.out.1
  have hszs : sz ≤ 225 := by omega
  have HHp := Lib.hid (hH.quiet hal)
  clear hat hT hsz hos hXs hH hRf hro hro' hri hof hXl hg hw64 hpt hrt hform hal hu3 b0 b1 bl HBd
  go_wp2_with fail
  refine (HOf.out).mono ?_
  rintro e w4 ⟨hu4, gva, gvn, rfl, hF⟩
  obtain ⟨fa, fc, rfl⟩ : ∃ a c, gva = .slice a ks.length c := own_form hF.roots
  obtain ⟨fn, fd, rfl⟩ : ∃ a c, gvn = .slice a nds.length c := by obtain ⟨nv, _, hn, _⟩ := hF.nodes; exact own_form hn
  have hal := (Upd.refl (fun _ => False) w4).alloc (.cells #[.slice fa ks.length fc, .slice fn nds.length fd] 78)
  have HFm := Lib.hid (Blk.made w4 [.slice fa ks.length fc, .slice fn nds.length fd] 78)
  have hb4 := HBx.out.upd hu4 (fun h => h)
  have k0 := hb4.cell 0 rfl
  have k1 := hb4.cell 1 rfl
  have kl := hb4.lt
  have HBx4 := Lib.hid (hb4.upd hal (fun h => h))
  have HF4 := Lib.hid (hF.quiet hal)
  have hu4' := hu4.trans hal
  have HR4 := Lib.hid (HRf.out.quiet hu4')
  have HU4 := Lib.hid (HU3.out.trans hu4')
  have HHp4 := Lib.hid (HHp.out.quiet hu4')
  clear hu4 hF hal hb4 hu4' k0 k1 kl HOf
  go_upto_region 5 with (fail)
  have hbf := HFm.out
  have hl4 := HFm.out.lt
  generalize w4.alloc (.cells #[.slice fa ks.length fc, .slice fn nds.length fd] 78) = wf at *
  have f0 := hbf.cell 0 rfl
  have f1 := hbf.cell 1 rfl
  have hfit := form_fits HForm.out HG.out
  have hlen := len_nwords nds
  have htp : top os ≤ 225 := by have := HHp4.out.size; omega
  have hks : ks.length = rs.length := by have h1 := HForm.out; obtain ⟨L, F⟩ := form_formed h1; rw [F.roots, List.length_map]; exact HXl.out
  obtain ⟨gnv, gnm, hgn, hgw⟩ := HF4.out.nodes
  have hnk := NodesAt.of_own gnm hgn hgw
  have hik := IntsAt.of_own HF4.out.roots
  obtain ⟨NW, hNW⟩ : ∃ NW, NW = nwords nds := ⟨_, rfl⟩
  obtain ⟨Z, hZ⟩ : ∃ Z : Nat, (Z : Int) = max (NW : Int) 1 + (mm : Int) := ⟨(max (NW : Int) 1 + (mm : Int)).toNat, by omega⟩
  have s1 : IntKind.i64.wrap (max (NW : Int) 1 + (mm : Int)) = (Z : Int) := by rw [IntWalk.i64_in _ (by omega)]; omega
  have hrg : Right nds ks (Z : Int) := form_right HForm.out HG.out (by omega) (by omega) (by omega)
  have hsz := form_size HForm.out HG.out (by omega) (by have := HXl.out; omega)
  have hwd := fun (W : World) (hu : Upd (fun _ => False) wf W) => words_any W _ _ ks.length fc fa rfl nds (hnk.quiet hu) (by omega) (by omega)
  rw [← hNW] at hwd
  have hhp := fun (W : World) (hu : Upd (fun _ => False) wf W) => (Graph.heap_any W _ _ ks nds (hik.quiet hu) (hnk.quiet hu) (by omega) (by omega) (Z : Int) (fun n hn => by have := hsz.2.2 n hn; omega) (form_words64 HForm.out HW64.out))
  have htotk : Tally.tot (nds.map Tally.kwn) ≤ 1000000 := by have h := tot_kwn nds; have h2 : Tally.tot (nds.map Tally.kwn) = nwords nds + nds.length := h; omega
  have hgk : ∀ x ∈ nds.map Tally.kwn, x.1 < 15 := by
    intro x hx
    obtain ⟨n, hn, rfl⟩ := List.mem_map.1 hx
    have := hrg.each n hn
    show n.kind.toNat < 15
    omega
  have hs := Tally.sums (nds.map Tally.kwn) (Z : Int) (fun x hx => by have := hgk x hx; omega) htotk
  have h15 := row15 _ hgk
  have hlit := fun (W : World) (hu : Upd (fun _ => False) wf W) => Tally.live_any W fa ks.length fc _ nds (hnk.quiet hu) (fun n hn => by have := hrg.each n hn; omega) htotk (by omega) (Z : Int)
  have HWd := Lib.hid hwd
  have HHp := Lib.hid hhp
  have HRg := Lib.hid hrg
  have HLi0 := Lib.hid hlit
  have HS := Lib.hid hs
  have H15 := Lib.hid h15
  have HFmf := Lib.hid hbf
  have HZ := Lib.hid hZ
  clear hbf hfit hlen htp hks hgn hgw gnm hnk hik hNW hZ hrg hsz hwd hhp htotk hgk hs h15 hlit
  go_wp2_with fail
  refine (HWd.out _ (Upd.refl _ _)).mono ?_
  rintro e wg ⟨rfl, hug⟩
  have g0 := keepC' hug f0
  have g1 := keepC' hug f1
  have HUg := Lib.hid hug
  clear f0 f1 hug
  have gl := (HFmf.out.upd HUg.out (fun h => h)).lt
  go_wp2_with fail
  refine (HHp.out _ HUg.out).mono ?_
  rintro e w5 ⟨hu5, hyes, _⟩
  obtain ⟨kh, kwb, ksb, kv, rfl, hKH, hKO, q1, q2, q3⟩ := hyes HRg.out
  obtain ⟨ma, mc, rfl⟩ : ∃ a c, kv = .slice a ks.length c := Graph.own_form hKO
  rw [Int.toNat_natCast] at hKH
  have f0 := keepC' hu5 g0
  have f1 := keepC' hu5 g1
  have HU5 := Lib.hid (HUg.out.trans hu5)
  have HKH := Lib.hid hKH
  clear hu5 hyes hKH hKO q1 q2 q3 g0 g1 gl
  have fl := (HFmf.out.upd HU5.out (fun h => h)).lt
  go_upto_region 9 with (fail)
  clear fl
  have hl4 : w4.heap.size < w5.heap.size := (HFmf.out.upd HU5.out (fun h => h)).lt
  obtain ⟨T1, hT1⟩ : ∃ T1, T1 = Tally.tal (nds.map Tally.kwn) (Z : Int) := ⟨_, rfl⟩
  have hoft := fun (W : World) (hu : Upd (fun _ => False) w5 W) => Tally.tof_any W kh kwb ksb Z _ _ (HKH.out.quiet hu)
  rw [kw_full, ← hT1] at hoft
  have hlit := fun (W : World) (hu : Upd (fun _ => False) w5 W) => HLi0.out W (HU5.out.trans hu)
  rw [← hT1] at hlit
  obtain ⟨T2, hT2⟩ : ∃ T2, T2 = T1 := ⟨_, rfl⟩
  rw [← hT2] at hlit
  have HOfT := Lib.hid hoft
  have HLiT := Lib.hid hlit
  have HT1 := Lib.hid hT1
  have HT2 := Lib.hid hT2
  have HC0 := Lib.hid ((Upd.refl (fun _ => False) w5).drew)
  clear hoft hlit hT1 hT2
  go_cut [14, 15] (fun s8 s9 wd => TwoLaid w5 T1 T2 s8 s9 wd)
  case first =>
    refine wp_region_held_drew (S := (fun V => V.cell? ⟨w4.heap.size, 0, none⟩ = some (.slice fa ks.length fc) ∧ V.cell? ⟨w4.heap.size, 1, none⟩ = some (.slice fn nds.length fd))) (by kernel_rfl) ⟨keepC' HC0.out f0, keepC' HC0.out f1⟩ (fun hHeld => ?_)
    simp only [List.size_toArray, List.length_cons, List.length_nil, Nat.reduceAdd]
    refine gen_last (fun wX0 hwX0 => ?_)
    have HD0 := Lib.hid (show Upd (fun _ => False) w5 wX0 by rw [hwX0]; exact (Upd.refl _ _).drew)
    have hHeld : _ := hHeld
    rw [← hwX0] at hHeld
    clear hwX0
    refine take_any (i := 0) (v := ?_) (by rfl) (by kernel_rfl) (by exact (fun _ _ _ h => h)) (by rfl) hHeld ?_ ?_
    rotate_left
    · ((intro V hV; obtain ⟨hV0, hV1⟩ := hV; go_simp) <;> (with_reducible rfl))
    try simp only [Act.put, List.setIfInBounds_toArray, List.set_cons_zero, List.set_cons_succ]
    refine take_any (i := 2) (v := ?_) (by rfl) (by kernel_rfl) (by exact (fun _ _ _ h => h)) (by rfl) hHeld ?_ ?_
    rotate_left
    · ((intro V hV; obtain ⟨hV0, hV1⟩ := hV; go_simp) <;> (with_reducible rfl))
    try simp only [Act.put, List.setIfInBounds_toArray, List.set_cons_zero, List.set_cons_succ]
    refine take_any (i := 3) (v := ?_) (by rfl) (by kernel_rfl) (by exact (fun _ _ _ h => h)) (by rfl) hHeld ?_ ?_
    rotate_left
    · ((intro V hV; obtain ⟨hV0, hV1⟩ := hV; go_simp) <;> (with_reducible rfl))
    try simp only [Act.put, List.setIfInBounds_toArray, List.set_cons_zero, List.set_cons_succ]
    refine three_any 1 5 6 (by rfl) (by rfl) (by rfl) (by kernel_rfl) (fun KK hK => ?_) (fun KK hK => ?_) (fun KK hK => ?_)
    · have HCl := Lib.hid (HOfT.out _ HD0.out)
      go_simp
      refine (HCl.out).mono ?_
      rintro e9 wX1 ⟨rfl, hu1⟩
      have hs1 := hu1.size
      have HD1 := Lib.hid (HD0.out.trans hu1)
      clear hu1 HCl
      go_wp2_with fail
      refine hK.out _ _ ⟨keepC' HD1.out f0, keepC' HD1.out f1⟩ (fun hHeld => ?_)
      clear hK KK
      try simp only [Act.put, List.setIfInBounds_toArray, List.set_cons_zero, List.set_cons_succ]
      refine three_any 4 5 6 (by rfl) (by rfl) (by rfl) (by kernel_rfl) (fun KK hK => ?_) (fun KK hK => ?_) (fun KK hK => ?_)
      · have HCl := Lib.hid (HLiT.out _ HD1.out)
        go_simp
        refine (HCl.out).mono ?_
        rintro e9 wX2 ⟨rfl, hu2⟩
        have hs2 := hu2.size
        have HD2 := Lib.hid (HD1.out.trans hu2)
        clear hu2 HCl
        go_wp2_with fail
        refine hK.out _ _ ⟨keepC' HD2.out f0, keepC' HD2.out f1⟩ (fun hHeld => ?_)
        clear hK KK
        try simp only [Act.put, List.setIfInBounds_toArray, List.set_cons_zero, List.set_cons_succ]
        refine both_last 5 6 (by rfl) (by rfl) (by kernel_rfl) (fun KK hK => ?_) (fun KK hK => ?_)
        · go_simp
          refine hK.out _ _ ⟨keepC' (HD2.out.alloc _) f0, keepC' (HD2.out.alloc _) f1⟩ (fun hHeld => ?_)
          clear hK KK
          try simp only [Act.put, List.setIfInBounds_toArray, List.set_cons_zero, List.set_cons_succ]
          refine gen_last (fun wX3 hwX3 => ?_)
          rw [← hwX3] at hHeld
          have hu3 : Upd (fun _ => False) wX2 wX3 := by rw [hwX3]; exact (Upd.refl _ _).alloc _
          have hb3 : Blk wX3 wX2.heap.size (cf 33 fun _ => 0) 56 := by rw [hwX3, cf_zero]; exact Blk.made wX2 _ _
          have H8_3 := Lib.hid hb3
          have hq8 : w5.heap.size ≤ wX2.heap.size := HD2.out.size
          have HD3 := Lib.hid (HD2.out.trans hu3)
          have hs3 := hb3.lt
          clear hu3 hb3 hwX3
          refine next_last (i := 6) (by rfl) (by kernel_rfl) (fun KK hK => ?_)
          go_simp
          refine hK.out _ _ ⟨keepC' (HD3.out.alloc _) f0, keepC' (HD3.out.alloc _) f1⟩ (fun hHeld => ?_)
          clear hK KK
          try simp only [Act.put, List.setIfInBounds_toArray, List.set_cons_zero, List.set_cons_succ]
          refine gen_last (fun wX4 hwX4 => ?_)
          rw [← hwX4] at hHeld
          have hu4 : Upd (fun _ => False) wX3 wX4 := by rw [hwX4]; exact (Upd.refl _ _).alloc _
          have hb4 : Blk wX4 wX3.heap.size (cf 33 fun _ => 0) 56 := by rw [hwX4, cf_zero]; exact Blk.made wX3 _ _
          have H8_4 := Lib.hid (H8_3.out.upd hu4 (fun h => h))
          have H9_4 := Lib.hid hb4
          have hq9 : w5.heap.size ≤ wX3.heap.size := HD3.out.size
          have HD4 := Lib.hid (HD3.out.trans hu4)
          have hs4 := hb4.lt
          clear hu4 hb4 hwX4
          have hne : wX2.heap.size ≠ wX3.heap.size := by omega
          refine next_last (i := 7) (by rfl) (by kernel_rfl) (fun KK hK => ?_)
          refine step_store (by rfl) 56 _ _ (by rfl) (wX2.heap.size) 0 (cf 33 T1).toArray (by rfl) (by rfl) (fun j hj => ⟨by rw [H8_4.out.cell (0 + j) (cf_get (by rw [List.size_toArray, cf_len] at hj; omega))]; rfl, H8_4.out.frozen (0 + j)⟩) (by kernel_rfl) (cf_one _ _) ?_
          have hu5 : Upd (fun k => k = wX2.heap.size) wX4 (wX4.setCells (wX2.heap.size) 0 (cf 33 T1)) := Tally.upd_setCells (S := fun k => k = wX2.heap.size) (wX2.heap.size) (fun _ => rfl) _ _ _ (Upd.refl _ _)
          have hD5 := HD4.out.next hu5 (fun i hi h => by omega)
          refine hK.out _ _ ⟨keepC' hD5 f0, keepC' hD5 f1⟩ (fun hHeld => ?_)
          clear hK KK
          try simp only [Act.put, List.setIfInBounds_toArray, List.set_cons_zero, List.set_cons_succ]
          have hn5 := blk_stored (vs := cf 33 T1) H8_4.out (by rw [cf_len, cf_len])
          have h9_5 := H9_4.out.upd hu5 (by omega)
          generalize wX4.setCells (wX2.heap.size) 0 (cf 33 T1) = wX5 at *
          have H8_5 := Lib.hid hn5
          have H9_5 := Lib.hid h9_5
          have HD5 := Lib.hid hD5
          clear hn5 h9_5 hD5 hu5
          refine next_last (i := 8) (by rfl) (by kernel_rfl) (fun KK hK => ?_)
          refine step_store (by rfl) 56 _ _ (by rfl) (wX3.heap.size) 0 (cf 33 T2).toArray (by rfl) (by rfl) (fun j hj => ⟨by rw [H9_5.out.cell (0 + j) (cf_get (by rw [List.size_toArray, cf_len] at hj; omega))]; rfl, H9_5.out.frozen (0 + j)⟩) (by kernel_rfl) (cf_one _ _) ?_
          have hu6 : Upd (fun k => k = wX3.heap.size) wX5 (wX5.setCells (wX3.heap.size) 0 (cf 33 T2)) := Tally.upd_setCells (S := fun k => k = wX3.heap.size) (wX3.heap.size) (fun _ => rfl) _ _ _ (Upd.refl _ _)
          have hD6 := HD5.out.next hu6 (fun i hi h => by omega)
          refine hK.out _ _ ⟨keepC' hD6 f0, keepC' hD6 f1⟩ (fun hHeld => ?_)
          clear hK KK
          try simp only [Act.put, List.setIfInBounds_toArray, List.set_cons_zero, List.set_cons_succ]
          have hn6 := blk_stored (vs := cf 33 T2) H9_5.out (by rw [cf_len, cf_len])
          have h8_6 := H8_5.out.upd hu6 (by omega)
          refine wpAnyH_done (by kernel_rfl) ?_ _
          go_wp2_with fail
          go_meet
          case rel => exact ⟨_, _, rfl, rfl, hne, h8_6, hn6, by omega, by omega, hD6⟩
        · go_simp
          refine hK.out _ _ ⟨keepC' (HD2.out.alloc _) f0, keepC' (HD2.out.alloc _) f1⟩ (fun hHeld => ?_)
          clear hK KK
          try simp only [Act.put, List.setIfInBounds_toArray, List.set_cons_zero, List.set_cons_succ]
          refine gen_last (fun wX3 hwX3 => ?_)
          rw [← hwX3] at hHeld
          have hu3 : Upd (fun _ => False) wX2 wX3 := by rw [hwX3]; exact (Upd.refl _ _).alloc _
          have hb3 : Blk wX3 wX2.heap.size (cf 33 fun _ => 0) 56 := by rw [hwX3, cf_zero]; exact Blk.made wX2 _ _
          have H9_3 := Lib.hid hb3
          have hq9 : w5.heap.size ≤ wX2.heap.size := HD2.out.size
          have HD3 := Lib.hid (HD2.out.trans hu3)
          have hs3 := hb3.lt
          clear hu3 hb3 hwX3
          refine next_last (i := 5) (by rfl) (by kernel_rfl) (fun KK hK => ?_)
          go_simp
          refine hK.out _ _ ⟨keepC' (HD3.out.alloc _) f0, keepC' (HD3.out.alloc _) f1⟩ (fun hHeld => ?_)
          clear hK KK
          try simp only [Act.put, List.setIfInBounds_toArray, List.set_cons_zero, List.set_cons_succ]
          refine gen_last (fun wX4 hwX4 => ?_)
          rw [← hwX4] at hHeld
          have hu4 : Upd (fun _ => False) wX3 wX4 := by rw [hwX4]; exact (Upd.refl _ _).alloc _
          have hb4 : Blk wX4 wX3.heap.size (cf 33 fun _ => 0) 56 := by rw [hwX4, cf_zero]; exact Blk.made wX3 _ _
          have H9_4 := Lib.hid (H9_3.out.upd hu4 (fun h => h))
          have H8_4 := Lib.hid hb4
          have hq8 : w5.heap.size ≤ wX3.heap.size := HD3.out.size
          have HD4 := Lib.hid (HD3.out.trans hu4)
          have hs4 := hb4.lt
          clear hu4 hb4 hwX4
          have hne : wX3.heap.size ≠ wX2.heap.size := by omega
          refine next_last (i := 7) (by rfl) (by kernel_rfl) (fun KK hK => ?_)
          refine step_store (by rfl) 56 _ _ (by rfl) (wX3.heap.size) 0 (cf 33 T1).toArray (by rfl) (by rfl) (fun j hj => ⟨by rw [H8_4.out.cell (0 + j) (cf_get (by rw [List.size_toArray, cf_len] at hj; omega))]; rfl, H8_4.out.frozen (0 + j)⟩) (by kernel_rfl) (cf_one _ _) ?_
          have hu5 : Upd (fun k => k = wX3.heap.size) wX4 (wX4.setCells (wX3.heap.size) 0 (cf 33 T1)) := Tally.upd_setCells (S := fun k => k = wX3.heap.size) (wX3.heap.size) (fun _ => rfl) _ _ _ (Upd.refl _ _)
          have hD5 := HD4.out.next hu5 (fun i hi h => by omega)
          refine hK.out _ _ ⟨keepC' hD5 f0, keepC' hD5 f1⟩ (fun hHeld => ?_)
          clear hK KK
          try simp only [Act.put, List.setIfInBounds_toArray, List.set_cons_zero, List.set_cons_succ]
          have hn5 := blk_stored (vs := cf 33 T1) H8_4.out (by rw [cf_len, cf_len])
          have h9_5 := H9_4.out.upd hu5 (by omega)
          generalize wX4.setCells (wX3.heap.size) 0 (cf 33 T1) = wX5 at *
          have H8_5 := Lib.hid hn5
          have H9_5 := Lib.hid h9_5
          have HD5 := Lib.hid hD5
          clear hn5 h9_5 hD5 hu5
          refine next_last (i := 8) (by rfl) (by kernel_rfl) (fun KK hK => ?_)
          refine step_store (by rfl) 56 _ _ (by rfl) (wX2.heap.size) 0 (cf 33 T2).toArray (by rfl) (by rfl) (fun j hj => ⟨by rw [H9_5.out.cell (0 + j) (cf_get (by rw [List.size_toArray, cf_len] at hj; omega))]; rfl, H9_5.out.frozen (0 + j)⟩) (by kernel_rfl) (cf_one _ _) ?_
          have hu6 : Upd (fun k => k = wX2.heap.size) wX5 (wX5.setCells (wX2.heap.size) 0 (cf 33 T2)) := Tally.upd_setCells (S := fun k => k = wX2.heap.size) (wX2.heap.size) (fun _ => rfl) _ _ _ (Upd.refl _ _)
          have hD6 := HD5.out.next hu6 (fun i hi h => by omega)
          refine hK.out _ _ ⟨keepC' hD6 f0, keepC' hD6 f1⟩ (fun hHeld => ?_)
          clear hK KK
          try simp only [Act.put, List.setIfInBounds_toArray, List.set_cons_zero, List.set_cons_succ]
          have hn6 := blk_stored (vs := cf 33 T2) H9_5.out (by rw [cf_len, cf_len])
          have h8_6 := H8_5.out.upd hu6 (by omega)
          refine wpAnyH_done (by kernel_rfl) ?_ _
          go_wp2_with fail
          go_meet
          case rel => exact ⟨_, _, rfl, rfl, hne, h8_6, hn6, by omega, by omega, hD6⟩
      · go_simp
        refine hK.out _ _ ⟨keepC' (HD1.out.alloc _) f0, keepC' (HD1.out.alloc _) f1⟩ (fun hHeld => ?_)
        clear hK KK
        try simp only [Act.put, List.setIfInBounds_toArray, List.set_cons_zero, List.set_cons_succ]
        refine gen_last (fun wX2 hwX2 => ?_)
        rw [← hwX2] at hHeld
        have hu2 : Upd (fun _ => False) wX1 wX2 := by rw [hwX2]; exact (Upd.refl _ _).alloc _
        have hb2 : Blk wX2 wX1.heap.size (cf 33 fun _ => 0) 56 := by rw [hwX2, cf_zero]; exact Blk.made wX1 _ _
        have H8_2 := Lib.hid hb2
        have hq8 : w5.heap.size ≤ wX1.heap.size := HD1.out.size
        have HD2 := Lib.hid (HD1.out.trans hu2)
        have hs2 := hb2.lt
        clear hu2 hb2 hwX2
        refine both_last 4 6 (by rfl) (by rfl) (by kernel_rfl) (fun KK hK => ?_) (fun KK hK => ?_)
        · have HCl := Lib.hid (HLiT.out _ HD2.out)
          go_simp
          refine (HCl.out).mono ?_
          rintro e9 wX3 ⟨rfl, hu3⟩
          have H8_3 := Lib.hid (H8_2.out.upd hu3 (fun h => h))
          have hs3 := hu3.size
          have HD3 := Lib.hid (HD2.out.trans hu3)
          clear hu3 HCl
          go_wp2_with fail
          refine hK.out _ _ ⟨keepC' HD3.out f0, keepC' HD3.out f1⟩ (fun hHeld => ?_)
          clear hK KK
          try simp only [Act.put, List.setIfInBounds_toArray, List.set_cons_zero, List.set_cons_succ]
          refine next_last (i := 6) (by rfl) (by kernel_rfl) (fun KK hK => ?_)
          go_simp
          refine hK.out _ _ ⟨keepC' (HD3.out.alloc _) f0, keepC' (HD3.out.alloc _) f1⟩ (fun hHeld => ?_)
          clear hK KK
          try simp only [Act.put, List.setIfInBounds_toArray, List.set_cons_zero, List.set_cons_succ]
          refine gen_last (fun wX4 hwX4 => ?_)
          rw [← hwX4] at hHeld
          have hu4 : Upd (fun _ => False) wX3 wX4 := by rw [hwX4]; exact (Upd.refl _ _).alloc _
          have hb4 : Blk wX4 wX3.heap.size (cf 33 fun _ => 0) 56 := by rw [hwX4, cf_zero]; exact Blk.made wX3 _ _
          have H8_4 := Lib.hid (H8_3.out.upd hu4 (fun h => h))
          have H9_4 := Lib.hid hb4
          have hq9 : w5.heap.size ≤ wX3.heap.size := HD3.out.size
          have HD4 := Lib.hid (HD3.out.trans hu4)
          have hs4 := hb4.lt
          clear hu4 hb4 hwX4
          have hne : wX1.heap.size ≠ wX3.heap.size := by omega
          refine next_last (i := 7) (by rfl) (by kernel_rfl) (fun KK hK => ?_)
          refine step_store (by rfl) 56 _ _ (by rfl) (wX1.heap.size) 0 (cf 33 T1).toArray (by rfl) (by rfl) (fun j hj => ⟨by rw [H8_4.out.cell (0 + j) (cf_get (by rw [List.size_toArray, cf_len] at hj; omega))]; rfl, H8_4.out.frozen (0 + j)⟩) (by kernel_rfl) (cf_one _ _) ?_
          have hu5 : Upd (fun k => k = wX1.heap.size) wX4 (wX4.setCells (wX1.heap.size) 0 (cf 33 T1)) := Tally.upd_setCells (S := fun k => k = wX1.heap.size) (wX1.heap.size) (fun _ => rfl) _ _ _ (Upd.refl _ _)
          have hD5 := HD4.out.next hu5 (fun i hi h => by omega)
          refine hK.out _ _ ⟨keepC' hD5 f0, keepC' hD5 f1⟩ (fun hHeld => ?_)
          clear hK KK
          try simp only [Act.put, List.setIfInBounds_toArray, List.set_cons_zero, List.set_cons_succ]
          have hn5 := blk_stored (vs := cf 33 T1) H8_4.out (by rw [cf_len, cf_len])
          have h9_5 := H9_4.out.upd hu5 (by omega)
          generalize wX4.setCells (wX1.heap.size) 0 (cf 33 T1) = wX5 at *
          have H8_5 := Lib.hid hn5
          have H9_5 := Lib.hid h9_5
          have HD5 := Lib.hid hD5
          clear hn5 h9_5 hD5 hu5
          refine next_last (i := 8) (by rfl) (by kernel_rfl) (fun KK hK => ?_)
          refine step_store (by rfl) 56 _ _ (by rfl) (wX3.heap.size) 0 (cf 33 T2).toArray (by rfl) (by rfl) (fun j hj => ⟨by rw [H9_5.out.cell (0 + j) (cf_get (by rw [List.size_toArray, cf_len] at hj; omega))]; rfl, H9_5.out.frozen (0 + j)⟩) (by kernel_rfl) (cf_one _ _) ?_
          have hu6 : Upd (fun k => k = wX3.heap.size) wX5 (wX5.setCells (wX3.heap.size) 0 (cf 33 T2)) := Tally.upd_setCells (S := fun k => k = wX3.heap.size) (wX3.heap.size) (fun _ => rfl) _ _ _ (Upd.refl _ _)
          have hD6 := HD5.out.next hu6 (fun i hi h => by omega)
          refine hK.out _ _ ⟨keepC' hD6 f0, keepC' hD6 f1⟩ (fun hHeld => ?_)
          clear hK KK
          try simp only [Act.put, List.setIfInBounds_toArray, List.set_cons_zero, List.set_cons_succ]
          have hn6 := blk_stored (vs := cf 33 T2) H9_5.out (by rw [cf_len, cf_len])
          have h8_6 := H8_5.out.upd hu6 (by omega)
          refine wpAnyH_done (by kernel_rfl) ?_ _
          go_wp2_with fail
          go_meet
          case rel => exact ⟨_, _, rfl, rfl, hne, h8_6, hn6, by omega, by omega, hD6⟩
        · go_simp
          refine hK.out _ _ ⟨keepC' (HD2.out.alloc _) f0, keepC' (HD2.out.alloc _) f1⟩ (fun hHeld => ?_)
          clear hK KK
          try simp only [Act.put, List.setIfInBounds_toArray, List.set_cons_zero, List.set_cons_succ]
          refine gen_last (fun wX3 hwX3 => ?_)
          rw [← hwX3] at hHeld
          have hu3 : Upd (fun _ => False) wX2 wX3 := by rw [hwX3]; exact (Upd.refl _ _).alloc _
          have hb3 : Blk wX3 wX2.heap.size (cf 33 fun _ => 0) 56 := by rw [hwX3, cf_zero]; exact Blk.made wX2 _ _
          have H8_3 := Lib.hid (H8_2.out.upd hu3 (fun h => h))
          have H9_3 := Lib.hid hb3
          have hq9 : w5.heap.size ≤ wX2.heap.size := HD2.out.size
          have HD3 := Lib.hid (HD2.out.trans hu3)
          have hs3 := hb3.lt
          clear hu3 hb3 hwX3
          refine next_last (i := 4) (by rfl) (by kernel_rfl) (fun KK hK => ?_)
          have HCl := Lib.hid (HLiT.out _ HD3.out)
          go_simp
          refine (HCl.out).mono ?_
          rintro e9 wX4 ⟨rfl, hu4⟩
          have H8_4 := Lib.hid (H8_3.out.upd hu4 (fun h => h))
          have H9_4 := Lib.hid (H9_3.out.upd hu4 (fun h => h))
          have hs4 := hu4.size
          have HD4 := Lib.hid (HD3.out.trans hu4)
          clear hu4 HCl
          go_wp2_with fail
          refine hK.out _ _ ⟨keepC' HD4.out f0, keepC' HD4.out f1⟩ (fun hHeld => ?_)
          clear hK KK
          try simp only [Act.put, List.setIfInBounds_toArray, List.set_cons_zero, List.set_cons_succ]
          have hne : wX1.heap.size ≠ wX2.heap.size := by omega
          refine next_last (i := 7) (by rfl) (by kernel_rfl) (fun KK hK => ?_)
          refine step_store (by rfl) 56 _ _ (by rfl) (wX1.heap.size) 0 (cf 33 T1).toArray (by rfl) (by rfl) (fun j hj => ⟨by rw [H8_4.out.cell (0 + j) (cf_get (by rw [List.size_toArray, cf_len] at hj; omega))]; rfl, H8_4.out.frozen (0 + j)⟩) (by kernel_rfl) (cf_one _ _) ?_
          have hu5 : Upd (fun k => k = wX1.heap.size) wX4 (wX4.setCells (wX1.heap.size) 0 (cf 33 T1)) := Tally.upd_setCells (S := fun k => k = wX1.heap.size) (wX1.heap.size) (fun _ => rfl) _ _ _ (Upd.refl _ _)
          have hD5 := HD4.out.next hu5 (fun i hi h => by omega)
          refine hK.out _ _ ⟨keepC' hD5 f0, keepC' hD5 f1⟩ (fun hHeld => ?_)
          clear hK KK
          try simp only [Act.put, List.setIfInBounds_toArray, List.set_cons_zero, List.set_cons_succ]
          have hn5 := blk_stored (vs := cf 33 T1) H8_4.out (by rw [cf_len, cf_len])
          have h9_5 := H9_4.out.upd hu5 (by omega)
          generalize wX4.setCells (wX1.heap.size) 0 (cf 33 T1) = wX5 at *
          have H8_5 := Lib.hid hn5
          have H9_5 := Lib.hid h9_5
          have HD5 := Lib.hid hD5
          clear hn5 h9_5 hD5 hu5
          refine next_last (i := 8) (by rfl) (by kernel_rfl) (fun KK hK => ?_)
          refine step_store (by rfl) 56 _ _ (by rfl) (wX2.heap.size) 0 (cf 33 T2).toArray (by rfl) (by rfl) (fun j hj => ⟨by rw [H9_5.out.cell (0 + j) (cf_get (by rw [List.size_toArray, cf_len] at hj; omega))]; rfl, H9_5.out.frozen (0 + j)⟩) (by kernel_rfl) (cf_one _ _) ?_
          have hu6 : Upd (fun k => k = wX2.heap.size) wX5 (wX5.setCells (wX2.heap.size) 0 (cf 33 T2)) := Tally.upd_setCells (S := fun k => k = wX2.heap.size) (wX2.heap.size) (fun _ => rfl) _ _ _ (Upd.refl _ _)
          have hD6 := HD5.out.next hu6 (fun i hi h => by omega)
          refine hK.out _ _ ⟨keepC' hD6 f0, keepC' hD6 f1⟩ (fun hHeld => ?_)
          clear hK KK
          try simp only [Act.put, List.setIfInBounds_toArray, List.set_cons_zero, List.set_cons_succ]
          have hn6 := blk_stored (vs := cf 33 T2) H9_5.out (by rw [cf_len, cf_len])
          have h8_6 := H8_5.out.upd hu6 (by omega)
          refine wpAnyH_done (by kernel_rfl) ?_ _
          go_wp2_with fail
          go_meet
          case rel => exact ⟨_, _, rfl, rfl, hne, h8_6, hn6, by omega, by omega, hD6⟩
      · go_simp
        refine hK.out _ _ ⟨keepC' (HD1.out.alloc _) f0, keepC' (HD1.out.alloc _) f1⟩ (fun hHeld => ?_)
        clear hK KK
        try simp only [Act.put, List.setIfInBounds_toArray, List.set_cons_zero, List.set_cons_succ]
        refine gen_last (fun wX2 hwX2 => ?_)
        rw [← hwX2] at hHeld
        have hu2 : Upd (fun _ => False) wX1 wX2 := by rw [hwX2]; exact (Upd.refl _ _).alloc _
        have hb2 : Blk wX2 wX1.heap.size (cf 33 fun _ => 0) 56 := by rw [hwX2, cf_zero]; exact Blk.made wX1 _ _
        have H9_2 := Lib.hid hb2
        have hq9 : w5.heap.size ≤ wX1.heap.size := HD1.out.size
        have HD2 := Lib.hid (HD1.out.trans hu2)
        have hs2 := hb2.lt
        clear hu2 hb2 hwX2
        refine both_last 4 5 (by rfl) (by rfl) (by kernel_rfl) (fun KK hK => ?_) (fun KK hK => ?_)
        · have HCl := Lib.hid (HLiT.out _ HD2.out)
          go_simp
          refine (HCl.out).mono ?_
          rintro e9 wX3 ⟨rfl, hu3⟩
          have H9_3 := Lib.hid (H9_2.out.upd hu3 (fun h => h))
          have hs3 := hu3.size
          have HD3 := Lib.hid (HD2.out.trans hu3)
          clear hu3 HCl
          go_wp2_with fail
          refine hK.out _ _ ⟨keepC' HD3.out f0, keepC' HD3.out f1⟩ (fun hHeld => ?_)
          clear hK KK
          try simp only [Act.put, List.setIfInBounds_toArray, List.set_cons_zero, List.set_cons_succ]
          refine next_last (i := 5) (by rfl) (by kernel_rfl) (fun KK hK => ?_)
          go_simp
          refine hK.out _ _ ⟨keepC' (HD3.out.alloc _) f0, keepC' (HD3.out.alloc _) f1⟩ (fun hHeld => ?_)
          clear hK KK
          try simp only [Act.put, List.setIfInBounds_toArray, List.set_cons_zero, List.set_cons_succ]
          refine gen_last (fun wX4 hwX4 => ?_)
          rw [← hwX4] at hHeld
          have hu4 : Upd (fun _ => False) wX3 wX4 := by rw [hwX4]; exact (Upd.refl _ _).alloc _
          have hb4 : Blk wX4 wX3.heap.size (cf 33 fun _ => 0) 56 := by rw [hwX4, cf_zero]; exact Blk.made wX3 _ _
          have H9_4 := Lib.hid (H9_3.out.upd hu4 (fun h => h))
          have H8_4 := Lib.hid hb4
          have hq8 : w5.heap.size ≤ wX3.heap.size := HD3.out.size
          have HD4 := Lib.hid (HD3.out.trans hu4)
          have hs4 := hb4.lt
          clear hu4 hb4 hwX4
          have hne : wX3.heap.size ≠ wX1.heap.size := by omega
          refine next_last (i := 7) (by rfl) (by kernel_rfl) (fun KK hK => ?_)
          refine step_store (by rfl) 56 _ _ (by rfl) (wX3.heap.size) 0 (cf 33 T1).toArray (by rfl) (by rfl) (fun j hj => ⟨by rw [H8_4.out.cell (0 + j) (cf_get (by rw [List.size_toArray, cf_len] at hj; omega))]; rfl, H8_4.out.frozen (0 + j)⟩) (by kernel_rfl) (cf_one _ _) ?_
          have hu5 : Upd (fun k => k = wX3.heap.size) wX4 (wX4.setCells (wX3.heap.size) 0 (cf 33 T1)) := Tally.upd_setCells (S := fun k => k = wX3.heap.size) (wX3.heap.size) (fun _ => rfl) _ _ _ (Upd.refl _ _)
          have hD5 := HD4.out.next hu5 (fun i hi h => by omega)
          refine hK.out _ _ ⟨keepC' hD5 f0, keepC' hD5 f1⟩ (fun hHeld => ?_)
          clear hK KK
          try simp only [Act.put, List.setIfInBounds_toArray, List.set_cons_zero, List.set_cons_succ]
          have hn5 := blk_stored (vs := cf 33 T1) H8_4.out (by rw [cf_len, cf_len])
          have h9_5 := H9_4.out.upd hu5 (by omega)
          generalize wX4.setCells (wX3.heap.size) 0 (cf 33 T1) = wX5 at *
          have H8_5 := Lib.hid hn5
          have H9_5 := Lib.hid h9_5
          have HD5 := Lib.hid hD5
          clear hn5 h9_5 hD5 hu5
          refine next_last (i := 8) (by rfl) (by kernel_rfl) (fun KK hK => ?_)
          refine step_store (by rfl) 56 _ _ (by rfl) (wX1.heap.size) 0 (cf 33 T2).toArray (by rfl) (by rfl) (fun j hj => ⟨by rw [H9_5.out.cell (0 + j) (cf_get (by rw [List.size_toArray, cf_len] at hj; omega))]; rfl, H9_5.out.frozen (0 + j)⟩) (by kernel_rfl) (cf_one _ _) ?_
          have hu6 : Upd (fun k => k = wX1.heap.size) wX5 (wX5.setCells (wX1.heap.size) 0 (cf 33 T2)) := Tally.upd_setCells (S := fun k => k = wX1.heap.size) (wX1.heap.size) (fun _ => rfl) _ _ _ (Upd.refl _ _)
          have hD6 := HD5.out.next hu6 (fun i hi h => by omega)
          refine hK.out _ _ ⟨keepC' hD6 f0, keepC' hD6 f1⟩ (fun hHeld => ?_)
          clear hK KK
          try simp only [Act.put, List.setIfInBounds_toArray, List.set_cons_zero, List.set_cons_succ]
          have hn6 := blk_stored (vs := cf 33 T2) H9_5.out (by rw [cf_len, cf_len])
          have h8_6 := H8_5.out.upd hu6 (by omega)
          refine wpAnyH_done (by kernel_rfl) ?_ _
          go_wp2_with fail
          go_meet
          case rel => exact ⟨_, _, rfl, rfl, hne, h8_6, hn6, by omega, by omega, hD6⟩
        · go_simp
          refine hK.out _ _ ⟨keepC' (HD2.out.alloc _) f0, keepC' (HD2.out.alloc _) f1⟩ (fun hHeld => ?_)
          clear hK KK
          try simp only [Act.put, List.setIfInBounds_toArray, List.set_cons_zero, List.set_cons_succ]
          refine gen_last (fun wX3 hwX3 => ?_)
          rw [← hwX3] at hHeld
          have hu3 : Upd (fun _ => False) wX2 wX3 := by rw [hwX3]; exact (Upd.refl _ _).alloc _
          have hb3 : Blk wX3 wX2.heap.size (cf 33 fun _ => 0) 56 := by rw [hwX3, cf_zero]; exact Blk.made wX2 _ _
          have H9_3 := Lib.hid (H9_2.out.upd hu3 (fun h => h))
          have H8_3 := Lib.hid hb3
          have hq8 : w5.heap.size ≤ wX2.heap.size := HD2.out.size
          have HD3 := Lib.hid (HD2.out.trans hu3)
          have hs3 := hb3.lt
          clear hu3 hb3 hwX3
          refine next_last (i := 4) (by rfl) (by kernel_rfl) (fun KK hK => ?_)
          have HCl := Lib.hid (HLiT.out _ HD3.out)
          go_simp
          refine (HCl.out).mono ?_
          rintro e9 wX4 ⟨rfl, hu4⟩
          have H9_4 := Lib.hid (H9_3.out.upd hu4 (fun h => h))
          have H8_4 := Lib.hid (H8_3.out.upd hu4 (fun h => h))
          have hs4 := hu4.size
          have HD4 := Lib.hid (HD3.out.trans hu4)
          clear hu4 HCl
          go_wp2_with fail
          refine hK.out _ _ ⟨keepC' HD4.out f0, keepC' HD4.out f1⟩ (fun hHeld => ?_)
          clear hK KK
          try simp only [Act.put, List.setIfInBounds_toArray, List.set_cons_zero, List.set_cons_succ]
          have hne : wX2.heap.size ≠ wX1.heap.size := by omega
          refine next_last (i := 7) (by rfl) (by kernel_rfl) (fun KK hK => ?_)
          refine step_store (by rfl) 56 _ _ (by rfl) (wX2.heap.size) 0 (cf 33 T1).toArray (by rfl) (by rfl) (fun j hj => ⟨by rw [H8_4.out.cell (0 + j) (cf_get (by rw [List.size_toArray, cf_len] at hj; omega))]; rfl, H8_4.out.frozen (0 + j)⟩) (by kernel_rfl) (cf_one _ _) ?_
          have hu5 : Upd (fun k => k = wX2.heap.size) wX4 (wX4.setCells (wX2.heap.size) 0 (cf 33 T1)) := Tally.upd_setCells (S := fun k => k = wX2.heap.size) (wX2.heap.size) (fun _ => rfl) _ _ _ (Upd.refl _ _)
          have hD5 := HD4.out.next hu5 (fun i hi h => by omega)
          refine hK.out _ _ ⟨keepC' hD5 f0, keepC' hD5 f1⟩ (fun hHeld => ?_)
          clear hK KK
          try simp only [Act.put, List.setIfInBounds_toArray, List.set_cons_zero, List.set_cons_succ]
          have hn5 := blk_stored (vs := cf 33 T1) H8_4.out (by rw [cf_len, cf_len])
          have h9_5 := H9_4.out.upd hu5 (by omega)
          generalize wX4.setCells (wX2.heap.size) 0 (cf 33 T1) = wX5 at *
          have H8_5 := Lib.hid hn5
          have H9_5 := Lib.hid h9_5
          have HD5 := Lib.hid hD5
          clear hn5 h9_5 hD5 hu5
          refine next_last (i := 8) (by rfl) (by kernel_rfl) (fun KK hK => ?_)
          refine step_store (by rfl) 56 _ _ (by rfl) (wX1.heap.size) 0 (cf 33 T2).toArray (by rfl) (by rfl) (fun j hj => ⟨by rw [H9_5.out.cell (0 + j) (cf_get (by rw [List.size_toArray, cf_len] at hj; omega))]; rfl, H9_5.out.frozen (0 + j)⟩) (by kernel_rfl) (cf_one _ _) ?_
          have hu6 : Upd (fun k => k = wX1.heap.size) wX5 (wX5.setCells (wX1.heap.size) 0 (cf 33 T2)) := Tally.upd_setCells (S := fun k => k = wX1.heap.size) (wX1.heap.size) (fun _ => rfl) _ _ _ (Upd.refl _ _)
          have hD6 := HD5.out.next hu6 (fun i hi h => by omega)
          refine hK.out _ _ ⟨keepC' hD6 f0, keepC' hD6 f1⟩ (fun hHeld => ?_)
          clear hK KK
          try simp only [Act.put, List.setIfInBounds_toArray, List.set_cons_zero, List.set_cons_succ]
          have hn6 := blk_stored (vs := cf 33 T2) H9_5.out (by rw [cf_len, cf_len])
          have h8_6 := H8_5.out.upd hu6 (by omega)
          refine wpAnyH_done (by kernel_rfl) ?_ _
          go_wp2_with fail
          go_meet
          case rel => exact ⟨_, _, rfl, rfl, hne, h8_6, hn6, by omega, by omega, hD6⟩
    · go_simp
      refine hK.out _ _ ⟨keepC' (HD0.out.alloc _) f0, keepC' (HD0.out.alloc _) f1⟩ (fun hHeld => ?_)
      clear hK KK
      try simp only [Act.put, List.setIfInBounds_toArray, List.set_cons_zero, List.set_cons_succ]
      refine gen_last (fun wX1 hwX1 => ?_)
      rw [← hwX1] at hHeld
      have hu1 : Upd (fun _ => False) wX0 wX1 := by rw [hwX1]; exact (Upd.refl _ _).alloc _
      have hb1 : Blk wX1 wX0.heap.size (cf 33 fun _ => 0) 56 := by rw [hwX1, cf_zero]; exact Blk.made wX0 _ _
      have H8_1 := Lib.hid hb1
      have hq8 : w5.heap.size ≤ wX0.heap.size := HD0.out.size
      have HD1 := Lib.hid (HD0.out.trans hu1)
      have hs1 := hb1.lt
      clear hu1 hb1 hwX1
      refine both_last 1 6 (by rfl) (by rfl) (by kernel_rfl) (fun KK hK => ?_) (fun KK hK => ?_)
      · have HCl := Lib.hid (HOfT.out _ HD1.out)
        go_simp
        refine (HCl.out).mono ?_
        rintro e9 wX2 ⟨rfl, hu2⟩
        have H8_2 := Lib.hid (H8_1.out.upd hu2 (fun h => h))
        have hs2 := hu2.size
        have HD2 := Lib.hid (HD1.out.trans hu2)
        clear hu2 HCl
        go_wp2_with fail
        refine hK.out _ _ ⟨keepC' HD2.out f0, keepC' HD2.out f1⟩ (fun hHeld => ?_)
        clear hK KK
        try simp only [Act.put, List.setIfInBounds_toArray, List.set_cons_zero, List.set_cons_succ]
        refine both_last 4 6 (by rfl) (by rfl) (by kernel_rfl) (fun KK hK => ?_) (fun KK hK => ?_)
        · have HCl := Lib.hid (HLiT.out _ HD2.out)
          go_simp
          refine (HCl.out).mono ?_
          rintro e9 wX3 ⟨rfl, hu3⟩
          have H8_3 := Lib.hid (H8_2.out.upd hu3 (fun h => h))
          have hs3 := hu3.size
          have HD3 := Lib.hid (HD2.out.trans hu3)
          clear hu3 HCl
          go_wp2_with fail
          refine hK.out _ _ ⟨keepC' HD3.out f0, keepC' HD3.out f1⟩ (fun hHeld => ?_)
          clear hK KK
          try simp only [Act.put, List.setIfInBounds_toArray, List.set_cons_zero, List.set_cons_succ]
          refine next_last (i := 6) (by rfl) (by kernel_rfl) (fun KK hK => ?_)
          go_simp
          refine hK.out _ _ ⟨keepC' (HD3.out.alloc _) f0, keepC' (HD3.out.alloc _) f1⟩ (fun hHeld => ?_)
          clear hK KK
          try simp only [Act.put, List.setIfInBounds_toArray, List.set_cons_zero, List.set_cons_succ]
          refine gen_last (fun wX4 hwX4 => ?_)
          rw [← hwX4] at hHeld
          have hu4 : Upd (fun _ => False) wX3 wX4 := by rw [hwX4]; exact (Upd.refl _ _).alloc _
          have hb4 : Blk wX4 wX3.heap.size (cf 33 fun _ => 0) 56 := by rw [hwX4, cf_zero]; exact Blk.made wX3 _ _
          have H8_4 := Lib.hid (H8_3.out.upd hu4 (fun h => h))
          have H9_4 := Lib.hid hb4
          have hq9 : w5.heap.size ≤ wX3.heap.size := HD3.out.size
          have HD4 := Lib.hid (HD3.out.trans hu4)
          have hs4 := hb4.lt
          clear hu4 hb4 hwX4
          have hne : wX0.heap.size ≠ wX3.heap.size := by omega
          refine next_last (i := 7) (by rfl) (by kernel_rfl) (fun KK hK => ?_)
          refine step_store (by rfl) 56 _ _ (by rfl) (wX0.heap.size) 0 (cf 33 T1).toArray (by rfl) (by rfl) (fun j hj => ⟨by rw [H8_4.out.cell (0 + j) (cf_get (by rw [List.size_toArray, cf_len] at hj; omega))]; rfl, H8_4.out.frozen (0 + j)⟩) (by kernel_rfl) (cf_one _ _) ?_
          have hu5 : Upd (fun k => k = wX0.heap.size) wX4 (wX4.setCells (wX0.heap.size) 0 (cf 33 T1)) := Tally.upd_setCells (S := fun k => k = wX0.heap.size) (wX0.heap.size) (fun _ => rfl) _ _ _ (Upd.refl _ _)
          have hD5 := HD4.out.next hu5 (fun i hi h => by omega)
          refine hK.out _ _ ⟨keepC' hD5 f0, keepC' hD5 f1⟩ (fun hHeld => ?_)
          clear hK KK
          try simp only [Act.put, List.setIfInBounds_toArray, List.set_cons_zero, List.set_cons_succ]
          have hn5 := blk_stored (vs := cf 33 T1) H8_4.out (by rw [cf_len, cf_len])
          have h9_5 := H9_4.out.upd hu5 (by omega)
          generalize wX4.setCells (wX0.heap.size) 0 (cf 33 T1) = wX5 at *
          have H8_5 := Lib.hid hn5
          have H9_5 := Lib.hid h9_5
          have HD5 := Lib.hid hD5
          clear hn5 h9_5 hD5 hu5
          refine next_last (i := 8) (by rfl) (by kernel_rfl) (fun KK hK => ?_)
          refine step_store (by rfl) 56 _ _ (by rfl) (wX3.heap.size) 0 (cf 33 T2).toArray (by rfl) (by rfl) (fun j hj => ⟨by rw [H9_5.out.cell (0 + j) (cf_get (by rw [List.size_toArray, cf_len] at hj; omega))]; rfl, H9_5.out.frozen (0 + j)⟩) (by kernel_rfl) (cf_one _ _) ?_
          have hu6 : Upd (fun k => k = wX3.heap.size) wX5 (wX5.setCells (wX3.heap.size) 0 (cf 33 T2)) := Tally.upd_setCells (S := fun k => k = wX3.heap.size) (wX3.heap.size) (fun _ => rfl) _ _ _ (Upd.refl _ _)
          have hD6 := HD5.out.next hu6 (fun i hi h => by omega)
          refine hK.out _ _ ⟨keepC' hD6 f0, keepC' hD6 f1⟩ (fun hHeld => ?_)
          clear hK KK
          try simp only [Act.put, List.setIfInBounds_toArray, List.set_cons_zero, List.set_cons_succ]
          have hn6 := blk_stored (vs := cf 33 T2) H9_5.out (by rw [cf_len, cf_len])
          have h8_6 := H8_5.out.upd hu6 (by omega)
          refine wpAnyH_done (by kernel_rfl) ?_ _
          go_wp2_with fail
          go_meet
          case rel => exact ⟨_, _, rfl, rfl, hne, h8_6, hn6, by omega, by omega, hD6⟩
        · go_simp
          refine hK.out _ _ ⟨keepC' (HD2.out.alloc _) f0, keepC' (HD2.out.alloc _) f1⟩ (fun hHeld => ?_)
          clear hK KK
          try simp only [Act.put, List.setIfInBounds_toArray, List.set_cons_zero, List.set_cons_succ]
          refine gen_last (fun wX3 hwX3 => ?_)
          rw [← hwX3] at hHeld
          have hu3 : Upd (fun _ => False) wX2 wX3 := by rw [hwX3]; exact (Upd.refl _ _).alloc _
          have hb3 : Blk wX3 wX2.heap.size (cf 33 fun _ => 0) 56 := by rw [hwX3, cf_zero]; exact Blk.made wX2 _ _
          have H8_3 := Lib.hid (H8_2.out.upd hu3 (fun h => h))
          have H9_3 := Lib.hid hb3
          have hq9 : w5.heap.size ≤ wX2.heap.size := HD2.out.size
          have HD3 := Lib.hid (HD2.out.trans hu3)
          have hs3 := hb3.lt
          clear hu3 hb3 hwX3
          refine next_last (i := 4) (by rfl) (by kernel_rfl) (fun KK hK => ?_)
          have HCl := Lib.hid (HLiT.out _ HD3.out)
          go_simp
          refine (HCl.out).mono ?_
          rintro e9 wX4 ⟨rfl, hu4⟩
          have H8_4 := Lib.hid (H8_3.out.upd hu4 (fun h => h))
          have H9_4 := Lib.hid (H9_3.out.upd hu4 (fun h => h))
          have hs4 := hu4.size
          have HD4 := Lib.hid (HD3.out.trans hu4)
          clear hu4 HCl
          go_wp2_with fail
          refine hK.out _ _ ⟨keepC' HD4.out f0, keepC' HD4.out f1⟩ (fun hHeld => ?_)
          clear hK KK
          try simp only [Act.put, List.setIfInBounds_toArray, List.set_cons_zero, List.set_cons_succ]
          have hne : wX0.heap.size ≠ wX2.heap.size := by omega
          refine next_last (i := 7) (by rfl) (by kernel_rfl) (fun KK hK => ?_)
          refine step_store (by rfl) 56 _ _ (by rfl) (wX0.heap.size) 0 (cf 33 T1).toArray (by rfl) (by rfl) (fun j hj => ⟨by rw [H8_4.out.cell (0 + j) (cf_get (by rw [List.size_toArray, cf_len] at hj; omega))]; rfl, H8_4.out.frozen (0 + j)⟩) (by kernel_rfl) (cf_one _ _) ?_
          have hu5 : Upd (fun k => k = wX0.heap.size) wX4 (wX4.setCells (wX0.heap.size) 0 (cf 33 T1)) := Tally.upd_setCells (S := fun k => k = wX0.heap.size) (wX0.heap.size) (fun _ => rfl) _ _ _ (Upd.refl _ _)
          have hD5 := HD4.out.next hu5 (fun i hi h => by omega)
          refine hK.out _ _ ⟨keepC' hD5 f0, keepC' hD5 f1⟩ (fun hHeld => ?_)
          clear hK KK
          try simp only [Act.put, List.setIfInBounds_toArray, List.set_cons_zero, List.set_cons_succ]
          have hn5 := blk_stored (vs := cf 33 T1) H8_4.out (by rw [cf_len, cf_len])
          have h9_5 := H9_4.out.upd hu5 (by omega)
          generalize wX4.setCells (wX0.heap.size) 0 (cf 33 T1) = wX5 at *
          have H8_5 := Lib.hid hn5
          have H9_5 := Lib.hid h9_5
          have HD5 := Lib.hid hD5
          clear hn5 h9_5 hD5 hu5
          refine next_last (i := 8) (by rfl) (by kernel_rfl) (fun KK hK => ?_)
          refine step_store (by rfl) 56 _ _ (by rfl) (wX2.heap.size) 0 (cf 33 T2).toArray (by rfl) (by rfl) (fun j hj => ⟨by rw [H9_5.out.cell (0 + j) (cf_get (by rw [List.size_toArray, cf_len] at hj; omega))]; rfl, H9_5.out.frozen (0 + j)⟩) (by kernel_rfl) (cf_one _ _) ?_
          have hu6 : Upd (fun k => k = wX2.heap.size) wX5 (wX5.setCells (wX2.heap.size) 0 (cf 33 T2)) := Tally.upd_setCells (S := fun k => k = wX2.heap.size) (wX2.heap.size) (fun _ => rfl) _ _ _ (Upd.refl _ _)
          have hD6 := HD5.out.next hu6 (fun i hi h => by omega)
          refine hK.out _ _ ⟨keepC' hD6 f0, keepC' hD6 f1⟩ (fun hHeld => ?_)
          clear hK KK
          try simp only [Act.put, List.setIfInBounds_toArray, List.set_cons_zero, List.set_cons_succ]
          have hn6 := blk_stored (vs := cf 33 T2) H9_5.out (by rw [cf_len, cf_len])
          have h8_6 := H8_5.out.upd hu6 (by omega)
          refine wpAnyH_done (by kernel_rfl) ?_ _
          go_wp2_with fail
          go_meet
          case rel => exact ⟨_, _, rfl, rfl, hne, h8_6, hn6, by omega, by omega, hD6⟩
      · go_simp
        refine hK.out _ _ ⟨keepC' (HD1.out.alloc _) f0, keepC' (HD1.out.alloc _) f1⟩ (fun hHeld => ?_)
        clear hK KK
        try simp only [Act.put, List.setIfInBounds_toArray, List.set_cons_zero, List.set_cons_succ]
        refine gen_last (fun wX2 hwX2 => ?_)
        rw [← hwX2] at hHeld
        have hu2 : Upd (fun _ => False) wX1 wX2 := by rw [hwX2]; exact (Upd.refl _ _).alloc _
        have hb2 : Blk wX2 wX1.heap.size (cf 33 fun _ => 0) 56 := by rw [hwX2, cf_zero]; exact Blk.made wX1 _ _
        have H8_2 := Lib.hid (H8_1.out.upd hu2 (fun h => h))
        have H9_2 := Lib.hid hb2
        have hq9 : w5.heap.size ≤ wX1.heap.size := HD1.out.size
        have HD2 := Lib.hid (HD1.out.trans hu2)
        have hs2 := hb2.lt
        clear hu2 hb2 hwX2
        refine next_last (i := 1) (by rfl) (by kernel_rfl) (fun KK hK => ?_)
        have HCl := Lib.hid (HOfT.out _ HD2.out)
        go_simp
        refine (HCl.out).mono ?_
        rintro e9 wX3 ⟨rfl, hu3⟩
        have H8_3 := Lib.hid (H8_2.out.upd hu3 (fun h => h))
        have H9_3 := Lib.hid (H9_2.out.upd hu3 (fun h => h))
        have hs3 := hu3.size
        have HD3 := Lib.hid (HD2.out.trans hu3)
        clear hu3 HCl
        go_wp2_with fail
        refine hK.out _ _ ⟨keepC' HD3.out f0, keepC' HD3.out f1⟩ (fun hHeld => ?_)
        clear hK KK
        try simp only [Act.put, List.setIfInBounds_toArray, List.set_cons_zero, List.set_cons_succ]
        refine next_last (i := 4) (by rfl) (by kernel_rfl) (fun KK hK => ?_)
        have HCl := Lib.hid (HLiT.out _ HD3.out)
        go_simp
        refine (HCl.out).mono ?_
        rintro e9 wX4 ⟨rfl, hu4⟩
        have H8_4 := Lib.hid (H8_3.out.upd hu4 (fun h => h))
        have H9_4 := Lib.hid (H9_3.out.upd hu4 (fun h => h))
        have hs4 := hu4.size
        have HD4 := Lib.hid (HD3.out.trans hu4)
        clear hu4 HCl
        go_wp2_with fail
        refine hK.out _ _ ⟨keepC' HD4.out f0, keepC' HD4.out f1⟩ (fun hHeld => ?_)
        clear hK KK
        try simp only [Act.put, List.setIfInBounds_toArray, List.set_cons_zero, List.set_cons_succ]
        have hne : wX0.heap.size ≠ wX1.heap.size := by omega
        refine next_last (i := 7) (by rfl) (by kernel_rfl) (fun KK hK => ?_)
        refine step_store (by rfl) 56 _ _ (by rfl) (wX0.heap.size) 0 (cf 33 T1).toArray (by rfl) (by rfl) (fun j hj => ⟨by rw [H8_4.out.cell (0 + j) (cf_get (by rw [List.size_toArray, cf_len] at hj; omega))]; rfl, H8_4.out.frozen (0 + j)⟩) (by kernel_rfl) (cf_one _ _) ?_
        have hu5 : Upd (fun k => k = wX0.heap.size) wX4 (wX4.setCells (wX0.heap.size) 0 (cf 33 T1)) := Tally.upd_setCells (S := fun k => k = wX0.heap.size) (wX0.heap.size) (fun _ => rfl) _ _ _ (Upd.refl _ _)
        have hD5 := HD4.out.next hu5 (fun i hi h => by omega)
        refine hK.out _ _ ⟨keepC' hD5 f0, keepC' hD5 f1⟩ (fun hHeld => ?_)
        clear hK KK
        try simp only [Act.put, List.setIfInBounds_toArray, List.set_cons_zero, List.set_cons_succ]
        have hn5 := blk_stored (vs := cf 33 T1) H8_4.out (by rw [cf_len, cf_len])
        have h9_5 := H9_4.out.upd hu5 (by omega)
        generalize wX4.setCells (wX0.heap.size) 0 (cf 33 T1) = wX5 at *
        have H8_5 := Lib.hid hn5
        have H9_5 := Lib.hid h9_5
        have HD5 := Lib.hid hD5
        clear hn5 h9_5 hD5 hu5
        refine next_last (i := 8) (by rfl) (by kernel_rfl) (fun KK hK => ?_)
        refine step_store (by rfl) 56 _ _ (by rfl) (wX1.heap.size) 0 (cf 33 T2).toArray (by rfl) (by rfl) (fun j hj => ⟨by rw [H9_5.out.cell (0 + j) (cf_get (by rw [List.size_toArray, cf_len] at hj; omega))]; rfl, H9_5.out.frozen (0 + j)⟩) (by kernel_rfl) (cf_one _ _) ?_
        have hu6 : Upd (fun k => k = wX1.heap.size) wX5 (wX5.setCells (wX1.heap.size) 0 (cf 33 T2)) := Tally.upd_setCells (S := fun k => k = wX1.heap.size) (wX1.heap.size) (fun _ => rfl) _ _ _ (Upd.refl _ _)
        have hD6 := HD5.out.next hu6 (fun i hi h => by omega)
        refine hK.out _ _ ⟨keepC' hD6 f0, keepC' hD6 f1⟩ (fun hHeld => ?_)
        clear hK KK
        try simp only [Act.put, List.setIfInBounds_toArray, List.set_cons_zero, List.set_cons_succ]
        have hn6 := blk_stored (vs := cf 33 T2) H9_5.out (by rw [cf_len, cf_len])
        have h8_6 := H8_5.out.upd hu6 (by omega)
        refine wpAnyH_done (by kernel_rfl) ?_ _
        go_wp2_with fail
        go_meet
        case rel => exact ⟨_, _, rfl, rfl, hne, h8_6, hn6, by omega, by omega, hD6⟩
    · go_simp
      refine hK.out _ _ ⟨keepC' (HD0.out.alloc _) f0, keepC' (HD0.out.alloc _) f1⟩ (fun hHeld => ?_)
      clear hK KK
      try simp only [Act.put, List.setIfInBounds_toArray, List.set_cons_zero, List.set_cons_succ]
      refine gen_last (fun wX1 hwX1 => ?_)
      rw [← hwX1] at hHeld
      have hu1 : Upd (fun _ => False) wX0 wX1 := by rw [hwX1]; exact (Upd.refl _ _).alloc _
      have hb1 : Blk wX1 wX0.heap.size (cf 33 fun _ => 0) 56 := by rw [hwX1, cf_zero]; exact Blk.made wX0 _ _
      have H9_1 := Lib.hid hb1
      have hq9 : w5.heap.size ≤ wX0.heap.size := HD0.out.size
      have HD1 := Lib.hid (HD0.out.trans hu1)
      have hs1 := hb1.lt
      clear hu1 hb1 hwX1
      refine both_last 1 5 (by rfl) (by rfl) (by kernel_rfl) (fun KK hK => ?_) (fun KK hK => ?_)
      · have HCl := Lib.hid (HOfT.out _ HD1.out)
        go_simp
        refine (HCl.out).mono ?_
        rintro e9 wX2 ⟨rfl, hu2⟩
        have H9_2 := Lib.hid (H9_1.out.upd hu2 (fun h => h))
        have hs2 := hu2.size
        have HD2 := Lib.hid (HD1.out.trans hu2)
        clear hu2 HCl
        go_wp2_with fail
        refine hK.out _ _ ⟨keepC' HD2.out f0, keepC' HD2.out f1⟩ (fun hHeld => ?_)
        clear hK KK
        try simp only [Act.put, List.setIfInBounds_toArray, List.set_cons_zero, List.set_cons_succ]
        refine both_last 4 5 (by rfl) (by rfl) (by kernel_rfl) (fun KK hK => ?_) (fun KK hK => ?_)
        · have HCl := Lib.hid (HLiT.out _ HD2.out)
          go_simp
          refine (HCl.out).mono ?_
          rintro e9 wX3 ⟨rfl, hu3⟩
          have H9_3 := Lib.hid (H9_2.out.upd hu3 (fun h => h))
          have hs3 := hu3.size
          have HD3 := Lib.hid (HD2.out.trans hu3)
          clear hu3 HCl
          go_wp2_with fail
          refine hK.out _ _ ⟨keepC' HD3.out f0, keepC' HD3.out f1⟩ (fun hHeld => ?_)
          clear hK KK
          try simp only [Act.put, List.setIfInBounds_toArray, List.set_cons_zero, List.set_cons_succ]
          refine next_last (i := 5) (by rfl) (by kernel_rfl) (fun KK hK => ?_)
          go_simp
          refine hK.out _ _ ⟨keepC' (HD3.out.alloc _) f0, keepC' (HD3.out.alloc _) f1⟩ (fun hHeld => ?_)
          clear hK KK
          try simp only [Act.put, List.setIfInBounds_toArray, List.set_cons_zero, List.set_cons_succ]
          refine gen_last (fun wX4 hwX4 => ?_)
          rw [← hwX4] at hHeld
          have hu4 : Upd (fun _ => False) wX3 wX4 := by rw [hwX4]; exact (Upd.refl _ _).alloc _
          have hb4 : Blk wX4 wX3.heap.size (cf 33 fun _ => 0) 56 := by rw [hwX4, cf_zero]; exact Blk.made wX3 _ _
          have H9_4 := Lib.hid (H9_3.out.upd hu4 (fun h => h))
          have H8_4 := Lib.hid hb4
          have hq8 : w5.heap.size ≤ wX3.heap.size := HD3.out.size
          have HD4 := Lib.hid (HD3.out.trans hu4)
          have hs4 := hb4.lt
          clear hu4 hb4 hwX4
          have hne : wX3.heap.size ≠ wX0.heap.size := by omega
          refine next_last (i := 7) (by rfl) (by kernel_rfl) (fun KK hK => ?_)
          refine step_store (by rfl) 56 _ _ (by rfl) (wX3.heap.size) 0 (cf 33 T1).toArray (by rfl) (by rfl) (fun j hj => ⟨by rw [H8_4.out.cell (0 + j) (cf_get (by rw [List.size_toArray, cf_len] at hj; omega))]; rfl, H8_4.out.frozen (0 + j)⟩) (by kernel_rfl) (cf_one _ _) ?_
          have hu5 : Upd (fun k => k = wX3.heap.size) wX4 (wX4.setCells (wX3.heap.size) 0 (cf 33 T1)) := Tally.upd_setCells (S := fun k => k = wX3.heap.size) (wX3.heap.size) (fun _ => rfl) _ _ _ (Upd.refl _ _)
          have hD5 := HD4.out.next hu5 (fun i hi h => by omega)
          refine hK.out _ _ ⟨keepC' hD5 f0, keepC' hD5 f1⟩ (fun hHeld => ?_)
          clear hK KK
          try simp only [Act.put, List.setIfInBounds_toArray, List.set_cons_zero, List.set_cons_succ]
          have hn5 := blk_stored (vs := cf 33 T1) H8_4.out (by rw [cf_len, cf_len])
          have h9_5 := H9_4.out.upd hu5 (by omega)
          generalize wX4.setCells (wX3.heap.size) 0 (cf 33 T1) = wX5 at *
          have H8_5 := Lib.hid hn5
          have H9_5 := Lib.hid h9_5
          have HD5 := Lib.hid hD5
          clear hn5 h9_5 hD5 hu5
          refine next_last (i := 8) (by rfl) (by kernel_rfl) (fun KK hK => ?_)
          refine step_store (by rfl) 56 _ _ (by rfl) (wX0.heap.size) 0 (cf 33 T2).toArray (by rfl) (by rfl) (fun j hj => ⟨by rw [H9_5.out.cell (0 + j) (cf_get (by rw [List.size_toArray, cf_len] at hj; omega))]; rfl, H9_5.out.frozen (0 + j)⟩) (by kernel_rfl) (cf_one _ _) ?_
          have hu6 : Upd (fun k => k = wX0.heap.size) wX5 (wX5.setCells (wX0.heap.size) 0 (cf 33 T2)) := Tally.upd_setCells (S := fun k => k = wX0.heap.size) (wX0.heap.size) (fun _ => rfl) _ _ _ (Upd.refl _ _)
          have hD6 := HD5.out.next hu6 (fun i hi h => by omega)
          refine hK.out _ _ ⟨keepC' hD6 f0, keepC' hD6 f1⟩ (fun hHeld => ?_)
          clear hK KK
          try simp only [Act.put, List.setIfInBounds_toArray, List.set_cons_zero, List.set_cons_succ]
          have hn6 := blk_stored (vs := cf 33 T2) H9_5.out (by rw [cf_len, cf_len])
          have h8_6 := H8_5.out.upd hu6 (by omega)
          refine wpAnyH_done (by kernel_rfl) ?_ _
          go_wp2_with fail
          go_meet
          case rel => exact ⟨_, _, rfl, rfl, hne, h8_6, hn6, by omega, by omega, hD6⟩
        · go_simp
          refine hK.out _ _ ⟨keepC' (HD2.out.alloc _) f0, keepC' (HD2.out.alloc _) f1⟩ (fun hHeld => ?_)
          clear hK KK
          try simp only [Act.put, List.setIfInBounds_toArray, List.set_cons_zero, List.set_cons_succ]
          refine gen_last (fun wX3 hwX3 => ?_)
          rw [← hwX3] at hHeld
          have hu3 : Upd (fun _ => False) wX2 wX3 := by rw [hwX3]; exact (Upd.refl _ _).alloc _
          have hb3 : Blk wX3 wX2.heap.size (cf 33 fun _ => 0) 56 := by rw [hwX3, cf_zero]; exact Blk.made wX2 _ _
          have H9_3 := Lib.hid (H9_2.out.upd hu3 (fun h => h))
          have H8_3 := Lib.hid hb3
          have hq8 : w5.heap.size ≤ wX2.heap.size := HD2.out.size
          have HD3 := Lib.hid (HD2.out.trans hu3)
          have hs3 := hb3.lt
          clear hu3 hb3 hwX3
          refine next_last (i := 4) (by rfl) (by kernel_rfl) (fun KK hK => ?_)
          have HCl := Lib.hid (HLiT.out _ HD3.out)
          go_simp
          refine (HCl.out).mono ?_
          rintro e9 wX4 ⟨rfl, hu4⟩
          have H9_4 := Lib.hid (H9_3.out.upd hu4 (fun h => h))
          have H8_4 := Lib.hid (H8_3.out.upd hu4 (fun h => h))
          have hs4 := hu4.size
          have HD4 := Lib.hid (HD3.out.trans hu4)
          clear hu4 HCl
          go_wp2_with fail
          refine hK.out _ _ ⟨keepC' HD4.out f0, keepC' HD4.out f1⟩ (fun hHeld => ?_)
          clear hK KK
          try simp only [Act.put, List.setIfInBounds_toArray, List.set_cons_zero, List.set_cons_succ]
          have hne : wX2.heap.size ≠ wX0.heap.size := by omega
          refine next_last (i := 7) (by rfl) (by kernel_rfl) (fun KK hK => ?_)
          refine step_store (by rfl) 56 _ _ (by rfl) (wX2.heap.size) 0 (cf 33 T1).toArray (by rfl) (by rfl) (fun j hj => ⟨by rw [H8_4.out.cell (0 + j) (cf_get (by rw [List.size_toArray, cf_len] at hj; omega))]; rfl, H8_4.out.frozen (0 + j)⟩) (by kernel_rfl) (cf_one _ _) ?_
          have hu5 : Upd (fun k => k = wX2.heap.size) wX4 (wX4.setCells (wX2.heap.size) 0 (cf 33 T1)) := Tally.upd_setCells (S := fun k => k = wX2.heap.size) (wX2.heap.size) (fun _ => rfl) _ _ _ (Upd.refl _ _)
          have hD5 := HD4.out.next hu5 (fun i hi h => by omega)
          refine hK.out _ _ ⟨keepC' hD5 f0, keepC' hD5 f1⟩ (fun hHeld => ?_)
          clear hK KK
          try simp only [Act.put, List.setIfInBounds_toArray, List.set_cons_zero, List.set_cons_succ]
          have hn5 := blk_stored (vs := cf 33 T1) H8_4.out (by rw [cf_len, cf_len])
          have h9_5 := H9_4.out.upd hu5 (by omega)
          generalize wX4.setCells (wX2.heap.size) 0 (cf 33 T1) = wX5 at *
          have H8_5 := Lib.hid hn5
          have H9_5 := Lib.hid h9_5
          have HD5 := Lib.hid hD5
          clear hn5 h9_5 hD5 hu5
          refine next_last (i := 8) (by rfl) (by kernel_rfl) (fun KK hK => ?_)
          refine step_store (by rfl) 56 _ _ (by rfl) (wX0.heap.size) 0 (cf 33 T2).toArray (by rfl) (by rfl) (fun j hj => ⟨by rw [H9_5.out.cell (0 + j) (cf_get (by rw [List.size_toArray, cf_len] at hj; omega))]; rfl, H9_5.out.frozen (0 + j)⟩) (by kernel_rfl) (cf_one _ _) ?_
          have hu6 : Upd (fun k => k = wX0.heap.size) wX5 (wX5.setCells (wX0.heap.size) 0 (cf 33 T2)) := Tally.upd_setCells (S := fun k => k = wX0.heap.size) (wX0.heap.size) (fun _ => rfl) _ _ _ (Upd.refl _ _)
          have hD6 := HD5.out.next hu6 (fun i hi h => by omega)
          refine hK.out _ _ ⟨keepC' hD6 f0, keepC' hD6 f1⟩ (fun hHeld => ?_)
          clear hK KK
          try simp only [Act.put, List.setIfInBounds_toArray, List.set_cons_zero, List.set_cons_succ]
          have hn6 := blk_stored (vs := cf 33 T2) H9_5.out (by rw [cf_len, cf_len])
          have h8_6 := H8_5.out.upd hu6 (by omega)
          refine wpAnyH_done (by kernel_rfl) ?_ _
          go_wp2_with fail
          go_meet
          case rel => exact ⟨_, _, rfl, rfl, hne, h8_6, hn6, by omega, by omega, hD6⟩
      · go_simp
        refine hK.out _ _ ⟨keepC' (HD1.out.alloc _) f0, keepC' (HD1.out.alloc _) f1⟩ (fun hHeld => ?_)
        clear hK KK
        try simp only [Act.put, List.setIfInBounds_toArray, List.set_cons_zero, List.set_cons_succ]
        refine gen_last (fun wX2 hwX2 => ?_)
        rw [← hwX2] at hHeld
        have hu2 : Upd (fun _ => False) wX1 wX2 := by rw [hwX2]; exact (Upd.refl _ _).alloc _
        have hb2 : Blk wX2 wX1.heap.size (cf 33 fun _ => 0) 56 := by rw [hwX2, cf_zero]; exact Blk.made wX1 _ _
        have H9_2 := Lib.hid (H9_1.out.upd hu2 (fun h => h))
        have H8_2 := Lib.hid hb2
        have hq8 : w5.heap.size ≤ wX1.heap.size := HD1.out.size
        have HD2 := Lib.hid (HD1.out.trans hu2)
        have hs2 := hb2.lt
        clear hu2 hb2 hwX2
        refine next_last (i := 1) (by rfl) (by kernel_rfl) (fun KK hK => ?_)
        have HCl := Lib.hid (HOfT.out _ HD2.out)
        go_simp
        refine (HCl.out).mono ?_
        rintro e9 wX3 ⟨rfl, hu3⟩
        have H9_3 := Lib.hid (H9_2.out.upd hu3 (fun h => h))
        have H8_3 := Lib.hid (H8_2.out.upd hu3 (fun h => h))
        have hs3 := hu3.size
        have HD3 := Lib.hid (HD2.out.trans hu3)
        clear hu3 HCl
        go_wp2_with fail
        refine hK.out _ _ ⟨keepC' HD3.out f0, keepC' HD3.out f1⟩ (fun hHeld => ?_)
        clear hK KK
        try simp only [Act.put, List.setIfInBounds_toArray, List.set_cons_zero, List.set_cons_succ]
        refine next_last (i := 4) (by rfl) (by kernel_rfl) (fun KK hK => ?_)
        have HCl := Lib.hid (HLiT.out _ HD3.out)
        go_simp
        refine (HCl.out).mono ?_
        rintro e9 wX4 ⟨rfl, hu4⟩
        have H9_4 := Lib.hid (H9_3.out.upd hu4 (fun h => h))
        have H8_4 := Lib.hid (H8_3.out.upd hu4 (fun h => h))
        have hs4 := hu4.size
        have HD4 := Lib.hid (HD3.out.trans hu4)
        clear hu4 HCl
        go_wp2_with fail
        refine hK.out _ _ ⟨keepC' HD4.out f0, keepC' HD4.out f1⟩ (fun hHeld => ?_)
        clear hK KK
        try simp only [Act.put, List.setIfInBounds_toArray, List.set_cons_zero, List.set_cons_succ]
        have hne : wX1.heap.size ≠ wX0.heap.size := by omega
        refine next_last (i := 7) (by rfl) (by kernel_rfl) (fun KK hK => ?_)
        refine step_store (by rfl) 56 _ _ (by rfl) (wX1.heap.size) 0 (cf 33 T1).toArray (by rfl) (by rfl) (fun j hj => ⟨by rw [H8_4.out.cell (0 + j) (cf_get (by rw [List.size_toArray, cf_len] at hj; omega))]; rfl, H8_4.out.frozen (0 + j)⟩) (by kernel_rfl) (cf_one _ _) ?_
        have hu5 : Upd (fun k => k = wX1.heap.size) wX4 (wX4.setCells (wX1.heap.size) 0 (cf 33 T1)) := Tally.upd_setCells (S := fun k => k = wX1.heap.size) (wX1.heap.size) (fun _ => rfl) _ _ _ (Upd.refl _ _)
        have hD5 := HD4.out.next hu5 (fun i hi h => by omega)
        refine hK.out _ _ ⟨keepC' hD5 f0, keepC' hD5 f1⟩ (fun hHeld => ?_)
        clear hK KK
        try simp only [Act.put, List.setIfInBounds_toArray, List.set_cons_zero, List.set_cons_succ]
        have hn5 := blk_stored (vs := cf 33 T1) H8_4.out (by rw [cf_len, cf_len])
        have h9_5 := H9_4.out.upd hu5 (by omega)
        generalize wX4.setCells (wX1.heap.size) 0 (cf 33 T1) = wX5 at *
        have H8_5 := Lib.hid hn5
        have H9_5 := Lib.hid h9_5
        have HD5 := Lib.hid hD5
        clear hn5 h9_5 hD5 hu5
        refine next_last (i := 8) (by rfl) (by kernel_rfl) (fun KK hK => ?_)
        refine step_store (by rfl) 56 _ _ (by rfl) (wX0.heap.size) 0 (cf 33 T2).toArray (by rfl) (by rfl) (fun j hj => ⟨by rw [H9_5.out.cell (0 + j) (cf_get (by rw [List.size_toArray, cf_len] at hj; omega))]; rfl, H9_5.out.frozen (0 + j)⟩) (by kernel_rfl) (cf_one _ _) ?_
        have hu6 : Upd (fun k => k = wX0.heap.size) wX5 (wX5.setCells (wX0.heap.size) 0 (cf 33 T2)) := Tally.upd_setCells (S := fun k => k = wX0.heap.size) (wX0.heap.size) (fun _ => rfl) _ _ _ (Upd.refl _ _)
        have hD6 := HD5.out.next hu6 (fun i hi h => by omega)
        refine hK.out _ _ ⟨keepC' hD6 f0, keepC' hD6 f1⟩ (fun hHeld => ?_)
        clear hK KK
        try simp only [Act.put, List.setIfInBounds_toArray, List.set_cons_zero, List.set_cons_succ]
        have hn6 := blk_stored (vs := cf 33 T2) H9_5.out (by rw [cf_len, cf_len])
        have h8_6 := H8_5.out.upd hu6 (by omega)
        refine wpAnyH_done (by kernel_rfl) ?_ _
        go_wp2_with fail
        go_meet
        case rel => exact ⟨_, _, rfl, rfl, hne, h8_6, hn6, by omega, by omega, hD6⟩
  case rest =>
    obtain ⟨b8, b9, rfl, rfl, hne, h8, h9, q8, q9, hD⟩ := hcut
    have hT2 := HT2.out
    subst hT2
    have hal := fun (W : World) => Tally.all_any T2 W
    have hs := HS.out
    rw [← HT1.out, List.length_map] at hs
    rw [hs.1] at hal
    have x30 : T2 30 = 0 := by rw [HT1.out]; unfold Tally.tal; rw [if_pos (by omega), H15.out.1]; rfl
    have x31 : T2 31 = 0 := by rw [HT1.out]; unfold Tally.tal; rw [if_pos (by omega), H15.out.2]; rfl
    have hfc := HFmf.out.upd (HU5.out.trans hD) (fun h => h)
    have hs0 : Desk8 b8 b9 w4.heap.size T2 (.slice fn nds.length fd) wc := ⟨Blk.range' h8, Blk.range' h9, by rw [h8.cell 30 (cf_get (by omega)), x30], by rw [h8.cell 31 (cf_get (by omega)), x31], hfc.cell 1 rfl⟩
    have HS0 := Lib.hid hs0
    have HAl := Lib.hid hal
    have HUc := Lib.hid ((HU4.out.trans HU5.out).trans hD)
    have hqe : ∀ (W : World), (binOp .eql 56 (.agg (cf 33 T2).toArray) (.agg (cf 33 T2).toArray)).run Try.prog W = .ok (.bool true) W := fun W => Tally.same_tally T2 W
    have hq0 : ∀ (W : World), (binOp .eql 53 (.agg #[.int .i64 0, .int .i64 0]) (.agg #[.int .i64 0, .int .i64 0])).run Try.prog W = .ok (.bool true) W := fun W => by kernel_rfl
    have hfo := field_objs
    clear hal hs x30 x31 hfc hs0 h8 h9 q8 q9 hD f0 f1
    go_upto_region 10 with (fail)
    refine wp_region_held_drew (S := Desk8 b8 b9 w4.heap.size T2 (.slice fn nds.length fd)) (by kernel_rfl) (HS0.out.quiet (Upd.refl _ _).drew) (fun hHeld => ?_)
    simp only [List.size_toArray, List.length_cons, List.length_nil, Nat.reduceAdd]
    refine gen_last (fun v0 hv0 => ?_)
    have HD0 := Lib.hid (show Upd (fun _ => False) wc v0 by rw [hv0]; exact (Upd.refl _ _).drew)
    rw [← hv0] at hHeld
    clear hv0
    refine take_any (i := 0) (v := .agg (cf 33 T2).toArray) (by rfl) (by kernel_rfl) (by exact (fun _ _ _ h => h)) (by kernel_rfl) hHeld ?_ ?_
    · intro V hV
      obtain ⟨hV0, hV1, hV2, hV3, hV4⟩ := hV
      exact exec_load_mid 56 _ (by rfl) b8 0 (by rfl) (cf 33 T2) _ hV0 Try.underlying56 rfl (by kernel_rfl)
    try simp only [Act.put, List.getElem_toArray, List.getElem_cons_succ, List.getElem_cons_zero, List.setIfInBounds_toArray, List.set_cons_zero, List.set_cons_succ]
    refine take_any (i := 1) (v := .agg (cf 33 T2).toArray) (by rfl) (by kernel_rfl) (by exact (fun _ _ _ h => h)) (by kernel_rfl) hHeld ?_ ?_
    · intro V hV
      obtain ⟨hV0, hV1, hV2, hV3, hV4⟩ := hV
      exact exec_load_mid 56 _ (by rfl) b9 0 (by rfl) (cf 33 T2) _ hV1 Try.underlying56 rfl (by kernel_rfl)
    try simp only [Act.put, List.getElem_toArray, List.getElem_cons_succ, List.getElem_cons_zero, List.setIfInBounds_toArray, List.set_cons_zero, List.set_cons_succ]
    refine take_any (i := 2) (v := ?_) (by rfl) (by kernel_rfl) (by exact (fun _ _ _ h => h)) (by kernel_rfl) hHeld ?_ ?_
    rotate_left
    · ((intro V hV; obtain ⟨hV0, hV1, hV2, hV3, hV4⟩ := hV; go_simp) <;> (with_reducible rfl))
    try simp only [Act.put, List.getElem_toArray, List.getElem_cons_succ, List.getElem_cons_zero, List.setIfInBounds_toArray, List.set_cons_zero, List.set_cons_succ]
    refine take_any (i := 3) (v := ?_) (by rfl) (by kernel_rfl) (by exact (fun _ _ _ h => h)) (by kernel_rfl) hHeld ?_ ?_
    rotate_left
    · ((intro V hV; obtain ⟨hV0, hV1, hV2, hV3, hV4⟩ := hV; go_simp) <;> (with_reducible rfl))
    try simp only [Act.put, List.getElem_toArray, List.getElem_cons_succ, List.getElem_cons_zero, List.setIfInBounds_toArray, List.set_cons_zero, List.set_cons_succ]
    refine take_any (i := 4) (v := .agg (cf 33 T2).toArray) (by rfl) (by kernel_rfl) (by exact (fun _ _ _ h => h)) (by kernel_rfl) hHeld ?_ ?_
    · intro V hV
      obtain ⟨hV0, hV1, hV2, hV3, hV4⟩ := hV
      exact exec_load_mid 56 _ (by rfl) b8 0 (by rfl) (cf 33 T2) _ hV0 Try.underlying56 rfl (by kernel_rfl)
    try simp only [Act.put, List.getElem_toArray, List.getElem_cons_succ, List.getElem_cons_zero, List.setIfInBounds_toArray, List.set_cons_zero, List.set_cons_succ]
    refine take_any (i := 7) (v := ?_) (by rfl) (by kernel_rfl) (by exact (fun _ _ _ h => h)) (by kernel_rfl) hHeld ?_ ?_
    rotate_left
    · ((intro V hV; obtain ⟨hV0, hV1, hV2, hV3, hV4⟩ := hV; go_simp) <;> (with_reducible rfl))
    try simp only [Act.put, List.getElem_toArray, List.getElem_cons_succ, List.getElem_cons_zero, List.setIfInBounds_toArray, List.set_cons_zero, List.set_cons_succ]
    refine take_any (i := 8) (v := ?_) (by rfl) (by kernel_rfl) (by exact (fun _ _ _ h => h)) (by kernel_rfl) hHeld ?_ ?_
    rotate_left
    · ((intro V hV; obtain ⟨hV0, hV1, hV2, hV3, hV4⟩ := hV; go_simp) <;> (with_reducible rfl))
    try simp only [Act.put, List.getElem_toArray, List.getElem_cons_succ, List.getElem_cons_zero, List.setIfInBounds_toArray, List.set_cons_zero, List.set_cons_succ]
    refine take_any (i := 9) (v := ?_) (by rfl) (by kernel_rfl) (by exact (fun _ _ _ h => h)) (by kernel_rfl) hHeld ?_ ?_
    rotate_left
    · ((intro V hV; obtain ⟨hV0, hV1, hV2, hV3, hV4⟩ := hV; go_simp) <;> (with_reducible rfl))
    try simp only [Act.put, List.getElem_toArray, List.getElem_cons_succ, List.getElem_cons_zero, List.setIfInBounds_toArray, List.set_cons_zero, List.set_cons_succ]
    refine next_last (i := 5) (by rfl) (by kernel_rfl) (fun KK hK => ?_)
    have HCl := Lib.hid (HAl.out v0)
    refine if_wanted (by kernel_rfl) ?_
    go_simp
    refine (HCl.out).mono ?_
    rintro e9 v1 ⟨rfl, hu0⟩
    have HD1 := Lib.hid (HD0.out.trans hu0)
    clear hu0 HCl
    go_wp2_with fail
    refine hK.out _ _ (HS0.out.quiet HD1.out) (fun hHeld => ?_)
    clear hK KK
    try simp only [Act.put, List.getElem_toArray, List.getElem_cons_succ, List.getElem_cons_zero, List.setIfInBounds_toArray, List.set_cons_zero, List.set_cons_succ]
    refine take_any (i := 6) (v := ?_) (by rfl) (by kernel_rfl) (by exact (fun _ _ _ h => h)) (by kernel_rfl) hHeld ?_ ?_
    rotate_left
    · ((intro V hV; obtain ⟨hV0, hV1, hV2, hV3, hV4⟩ := hV; go_simp) <;> (with_reducible rfl))
    try simp only [Act.put, List.getElem_toArray, List.getElem_cons_succ, List.getElem_cons_zero, List.setIfInBounds_toArray, List.set_cons_zero, List.set_cons_succ]
    refine take_any (i := 10) (v := ?_) (by rfl) (by kernel_rfl) (by exact (fun _ _ _ h => h)) (by kernel_rfl) hHeld ?_ ?_
    rotate_left
    · ((intro V hV; obtain ⟨hV0, hV1, hV2, hV3, hV4⟩ := hV; go_simp) <;> (with_reducible rfl))
    try simp only [Act.put, List.getElem_toArray, List.getElem_cons_succ, List.getElem_cons_zero, List.setIfInBounds_toArray, List.set_cons_zero, List.set_cons_succ]
    refine take_any (i := 11) (v := ?_) (by rfl) (by kernel_rfl) (by exact (fun _ _ _ h => h)) (by kernel_rfl) hHeld ?_ ?_
    rotate_left
    · ((intro V hV; obtain ⟨hV0, hV1, hV2, hV3, hV4⟩ := hV; go_simp) <;> (with_reducible rfl))
    try simp only [Act.put, List.getElem_toArray, List.getElem_cons_succ, List.getElem_cons_zero, List.setIfInBounds_toArray, List.set_cons_zero, List.set_cons_succ]
    refine take_any (i := 12) (v := ?_) (by rfl) (by kernel_rfl) (by exact (fun _ _ _ h => h)) (by kernel_rfl) hHeld ?_ ?_
    rotate_left
    · ((intro V hV; obtain ⟨hV0, hV1, hV2, hV3, hV4⟩ := hV; go_simp) <;> (with_reducible rfl))
    try simp only [Act.put, List.getElem_toArray, List.getElem_cons_succ, List.getElem_cons_zero, List.setIfInBounds_toArray, List.set_cons_zero, List.set_cons_succ]
    refine take_any (i := 13) (v := ?_) (by rfl) (by kernel_rfl) (by exact (fun _ _ _ h => h)) (by kernel_rfl) hHeld ?_ ?_
    rotate_left
    · ((intro V hV; obtain ⟨hV0, hV1, hV2, hV3, hV4⟩ := hV; go_simp) <;> (with_reducible rfl))
    try simp only [Act.put, List.getElem_toArray, List.getElem_cons_succ, List.getElem_cons_zero, List.setIfInBounds_toArray, List.set_cons_zero, List.set_cons_succ]
    refine take_any (i := 14) (v := ?_) (by rfl) (by kernel_rfl) (by exact (fun _ _ _ h => h)) (by kernel_rfl) hHeld ?_ ?_
    rotate_left
    · ((intro V hV; obtain ⟨hV0, hV1, hV2, hV3, hV4⟩ := hV; go_simp) <;> (with_reducible rfl))
    try simp only [Act.put, List.getElem_toArray, List.getElem_cons_succ, List.getElem_cons_zero, List.setIfInBounds_toArray, List.set_cons_zero, List.set_cons_succ]
    refine take_any (i := 15) (v := ?_) (by rfl) (by kernel_rfl) (by exact (fun _ _ _ h => h)) (by kernel_rfl) hHeld ?_ ?_
    rotate_left
    · ((intro V hV; obtain ⟨hV0, hV1, hV2, hV3, hV4⟩ := hV; go_simp) <;> (with_reducible rfl))
    try simp only [Act.put, List.getElem_toArray, List.getElem_cons_succ, List.getElem_cons_zero, List.setIfInBounds_toArray, List.set_cons_zero, List.set_cons_succ]
    refine take_any (i := 16) (v := ?_) (by rfl) (by kernel_rfl) (by exact (fun _ _ _ h => h)) (by kernel_rfl) hHeld ?_ ?_
    rotate_left
    · ((intro V hV; obtain ⟨hV0, hV1, hV2, hV3, hV4⟩ := hV; go_simp) <;> (with_reducible rfl))
    try simp only [Act.put, List.getElem_toArray, List.getElem_cons_succ, List.getElem_cons_zero, List.setIfInBounds_toArray, List.set_cons_zero, List.set_cons_succ]
    refine take_any (i := 17) (v := ?_) (by rfl) (by kernel_rfl) (by exact (fun _ _ _ h => h)) (by kernel_rfl) hHeld ?_ ?_
    rotate_left
    · ((intro V hV; obtain ⟨hV0, hV1, hV2, hV3, hV4⟩ := hV; go_simp) <;> (with_reducible rfl))
    try simp only [Act.put, List.getElem_toArray, List.getElem_cons_succ, List.getElem_cons_zero, List.setIfInBounds_toArray, List.set_cons_zero, List.set_cons_succ]
    refine take_any (i := 18) (v := ?_) (by rfl) (by kernel_rfl) (by exact (fun _ _ _ h => h)) (by kernel_rfl) hHeld ?_ ?_
    rotate_left
    · ((intro V hV; obtain ⟨hV0, hV1, hV2, hV3, hV4⟩ := hV; go_simp) <;> (with_reducible rfl))
    try simp only [Act.put, List.getElem_toArray, List.getElem_cons_succ, List.getElem_cons_zero, List.setIfInBounds_toArray, List.set_cons_zero, List.set_cons_succ]
    refine take_any (i := 19) (v := ?_) (by rfl) (by kernel_rfl) (by exact (fun _ _ _ h => h)) (by kernel_rfl) hHeld ?_ ?_
    rotate_left
    · ((intro V hV; obtain ⟨hV0, hV1, hV2, hV3, hV4⟩ := hV; go_simp) <;> (with_reducible rfl))
    try simp only [Act.put, List.getElem_toArray, List.getElem_cons_succ, List.getElem_cons_zero, List.setIfInBounds_toArray, List.set_cons_zero, List.set_cons_succ]
    refine wpAnyH_done (by kernel_rfl) ?_ _
    clear hHeld
    go_wp2
    go_ret
    exact ⟨rfl, HUc.out.trans HD1.out⟩
end Go.Proofs.Ytjlcjcgoaakniaa.Build
