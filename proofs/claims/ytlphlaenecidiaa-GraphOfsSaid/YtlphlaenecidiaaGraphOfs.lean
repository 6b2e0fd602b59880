/- The law GraphOfs: the form of any heap and roots is the document's; that of its own heap is that again. -/
import Derived.Test.YtlphlaenecidiaaGraphReaches
import Derived.Test.YtlphlaenecidiaaGraphArg
import Derived.Test.YtlphlaenecidiaaSame
import Derived.Test.YtlphlaenecidiaaFormHeap
import Derived.Test.YtlphlaenecidiaaOfsP
set_option linter.unusedSimpArgs false
namespace Go.Proofs.Ytlphlaenecidiaa.Build
open Go.RowKit Go.Proofs.Ytlphlaenecidiaa.Mem Go.Proofs.Ytlphlaenecidiaa.Obj Go.Proofs.Ytlphlaenecidiaa.Ref Go.Proofs.Ytlphlaenecidiaa.Heap
attribute [local go_sem] max2_int max_two

set_option maxRecDepth 20000 in
set_option maxHeartbeats 4000000 in
theorem ofs_few (w : World) (na ra pa : Option Addr) (nc rc pc m : Nat) (ns : List GNd) (rs : List Nat) (hn : NodesIn w na ns) (hr : Bytes w pa rs) (hf : (∀ n ∈ ns, n.edges.length ≤ 10) ∧ ns.length ≤ 14 ∧ m ≤ 14) (hrl : rs.length ≤ 14) :
    Calls Try.prog 7 #[gv na ns.length nc ra m rc, .slice pa rs.length pc] w fun e w' => e = .returned (.bool true) ∧ Upd (fun _ => False) w w' := by
  have hu0 := (Upd.refl (fun _ => False) w).alloc (.cells (GB na ns.length nc ra m rc).toArray 46)
  have HB := Lib.hid (Blk.made w (GB na ns.length nc ra m rc) 46)
  have HU := Lib.hid hu0
  have HN := Lib.hid hn
  have HR := Lib.hid hr
  have HF := Lib.hid hf
  have hnl := hf.2.1
  have hml := hf.2.2
  clear hu0 hn hr hf
  go_enter Try.func7, Try.ntmps7
  go_wp2_with fail
  refine (Raw.awake16 _).mono ?_
  rintro e w1 ⟨rfl, hu1⟩
  have hB1 := HB.out.upd hu1 (fun h => h)
  have b0 := hB1.cell 0 rfl
  have b1 := hB1.cell 1 rfl
  have bl := hB1.lt
  have hfew := few_any w1 na ra nc rc ns m (HN.out.quiet (HU.out.trans hu1)) (by omega) (by omega)
  rw [decide_eq_true HF.out] at hfew
  have HFew := Lib.hid hfew
  have HU1 := Lib.hid (HU.out.trans hu1)
  have HB1 := Lib.hid hB1
  clear hB1 hfew hu1
  go_wp2_with fail
  refine (HFew.out).mono ?_
  rintro e w2 ⟨rfl, hu2⟩
  have hB2 := HB1.out.upd hu2 (fun h => h)
  have HU2 := Lib.hid (HU1.out.trans hu2)
  clear b0 b1 bl
  have b0 := hB2.cell 0 rfl
  have b1 := hB2.cell 1 rfl
  have bl := hB2.lt
  have bf := hB2.frozen 1
  have d14 : decide (14 < (rs.length : Int)) = false := decide_eq_false (by omega)
  have d14' : decide (14 < rs.length) = false := decide_eq_false (by omega)
  have HB2 := Lib.hid hB2
  clear hB2 hu2
  go_upto_region 4 with (fail)
  have us : Upd (fun k => k = w.heap.size) w2 (w2.setCell ⟨w.heap.size, 1, none⟩ (.slice pa rs.length pc)) := (Upd.refl (fun k => k = w.heap.size) w2).setCell (p := ⟨w.heap.size, 1, none⟩) _ (fun _ => rfl)
  have hB3 := HB2.out.set 1 (.slice pa rs.length pc)
  have hU3 := HU2.out.next us (fun i hi h => by omega)
  generalize w2.setCell ⟨w.heap.size, 1, none⟩ (.slice pa rs.length pc) = w2s at *
  clear b0 b1 bl bf us
  have b0 := hB3.cell 0 rfl
  have b1 := hB3.cell 1 rfl
  have bl := hB3.lt
  have hbd := build_any w2s na pa nc pc ns rs (HN.out.quiet hU3) (HR.out.quiet hU3) ⟨HF.out.1, hnl, hrl⟩ 1 (by omega)
  rw [show ((1 : Nat) : Int) = 1 from rfl] at hbd
  have HBd := Lib.hid hbd
  have HU2s := Lib.hid hU3
  clear hB3 hbd hU3
  go_wp2_with fail
  refine (HBd.out).mono ?_
  rintro e w3 ⟨h, wb, sb, rest, va, vc, vr, S, rfl, hH, hro, hRf, _, _, _, _, _, _, _, hu3⟩
  obtain ⟨ga, gc, rfl⟩ := hRf.form
  have hat : ∀ a ∈ atOf ns, a ≤ 65536 := fun a ha => by have h1 := atOf_le ha; have h2 := tot_le ns HF.out.1; omega
  have hT := told ns rs hH.good (by omega) hat
  obtain ⟨sz, hsz⟩ : ∃ sz, sz = 1 + 1 + tot ns := ⟨_, rfl⟩
  rw [← hsz] at hH ⊢
  obtain ⟨os, hos⟩ : ∃ os, os = obsOf ns := ⟨_, rfl⟩
  obtain ⟨Xs, hXs⟩ : ∃ Xs, Xs = rs.map (placeOf (atOf ns)) := ⟨_, rfl⟩
  rw [← hos] at hH hRf ⊢
  have hXl : Xs.length = rs.length := by rw [hXs, List.length_map]
  have hg := hT.good
  have hw64 := hT.w64
  have hpt := hT.ptrs
  have hrt := hT.roots
  rw [← hos] at hg hw64 hpt hrt
  rw [← hXs] at hrt hro
  obtain ⟨ks, nds, hform⟩ := form_total (fun x hx => (hrt x hx).1) hpt
  have htop : top os ≤ 65536 := by have := hH.size; have := hH.hi; omega
  have hal := (Upd.refl (fun _ => False) w3).alloc (.cells #[.int .i64 (sz : Int), .slice ga os.length gc] 30)
  have hro' := own_upd hro hal (fun _ _ h => h)
  rw [← hXl] at hro'
  have hri := ints_own hro' (fun x hx => (hrt x hx).2) (by omega)
  have hof := Graph.of_any _ h wb sb sz os rest (hH.quiet hal) va vc Xs hri (by omega) (fun x hx => (hrt x hx).2) hw64
  rw [hform, hXl] at hof
  have HOf := Lib.hid hof
  have HRi := Lib.hid hri
  have HRf := Lib.hid (hRf.ref.quiet hal)
  have HBx := Lib.hid (Blk.made w3 [.int .i64 (sz : Int), .slice ga os.length gc] 30)
  have HU3 := Lib.hid ((HU2s.out.trans hu3).trans hal)
  have HG := Lib.hid hg
  have HW64 := Lib.hid hw64
  have HPt := Lib.hid hpt
  have HRt := Lib.hid hrt
  have HForm := Lib.hid hform
  have HXl := Lib.hid hXl
  have hol := hRf.few
  have HHp := Lib.hid (hH.quiet hal)
  clear hat hT hsz hos hXs hH hRf hro hro' hri hof hXl hg hw64 hpt hrt hform hal hu3 b0 b1 bl HBd
  go_wp2_with fail
  refine (HOf.out).mono ?_
  rintro e w4 ⟨hu4, gva, gvn, rfl, hF⟩
  obtain ⟨fa, fc, rfl⟩ : ∃ a c, gva = .slice a ks.length c := own_form hF.roots
  obtain ⟨fn, fd, rfl⟩ : ∃ a c, gvn = .slice a nds.length c := by obtain ⟨nv, _, hn, _⟩ := hF.nodes; exact own_form hn
  have hal := (Upd.refl (fun _ => False) w4).alloc (.cells #[.slice fa ks.length fc, .slice fn nds.length fd] 35)
  have HFm := Lib.hid (Blk.made w4 [.slice fa ks.length fc, .slice fn nds.length fd] 35)
  have hb4 := HBx.out.upd hu4 (fun h => h)
  have k0 := hb4.cell 0 rfl
  have k1 := hb4.cell 1 rfl
  have kl := hb4.lt
  have HBx4 := Lib.hid (hb4.upd hal (fun h => h))
  have HF4 := Lib.hid (hF.quiet hal)
  have hu4' := hu4.trans hal
  have HR4 := Lib.hid (HRf.out.quiet hu4')
  have HU4 := Lib.hid (HU3.out.trans hu4')
  have hri4 := ints_below HRi.out (hu4'.below (fun _ _ h => h)) rfl
  have HHp4 := Lib.hid (HHp.out.quiet hu4')
  have hrc := Ref.of_any _ _ sz _ os (HRf.out.quiet hu4') va vc Xs hri4 (by have := HXl.out; omega) (fun x hx => (HRt.out x hx).2.2) (fun o ho x hx => (HW64.out o ho x hx).2)
  rw [HForm.out, HXl.out] at hrc
  have HRc := Lib.hid hrc
  clear hu4 hF hal hb4 hu4' hri4 hrc HOf
  go_wp2_with fail
  refine (HRc.out).mono ?_
  rintro e w6 ⟨hu6, rva, rvn, rfl, hra, rnv, hnm, hrn, hrw⟩
  obtain ⟨xa, xc, rfl⟩ : ∃ a c, rva = .slice a ks.length c := own_form hra
  obtain ⟨ya, yc, rfl⟩ : ∃ a c, rvn = .slice a nds.length c := own_form hrn
  have hFm6 := HFm.out.upd hu6 (fun h => h)
  have f0 := hFm6.cell 0 rfl
  have f1 := hFm6.cell 1 rfl
  have fl := hFm6.lt
  have hF6 := HF4.out.quiet hu6
  obtain ⟨gnv, gnm, hgn, hgw⟩ := hF6.nodes
  have hsz := form_size HForm.out HG.out htop (by have := HXl.out; omega)
  have hmild : Mild nds := ⟨hsz.2.1, hsz.2.2⟩
  have hik := IntsAt.of_own hF6.roots
  have hnk := NodesAt.of_own gnm hgn hgw
  have hir := IntsAt.of_own hra
  have hnr := NodesAt.of_own hnm hrn hrw
  have hfit := form_fits HForm.out HG.out
  obtain ⟨NW, hNW⟩ : ∃ NW, NW = nwords nds := ⟨_, rfl⟩
  obtain ⟨TP, hTP⟩ : ∃ TP, TP = top os := ⟨_, rfl⟩
  rw [← hNW, ← hTP] at hfit
  rw [← hTP] at htop
  have HH6 := Lib.hid (HHp4.out.quiet hu6)
  have hlen := len_nwords nds
  have hks : ks.length = rs.length := by have h1 := HForm.out; obtain ⟨L, F⟩ := form_formed h1; rw [F.roots, List.length_map]; exact HXl.out
  have his := fun (W : World) (hu : Upd (fun _ => False) w6 W) => (is_any W _ _ _ _ ks ks nds nds (hik.quiet hu) (hnk.quiet hu) (hir.quiet hu) (hnr.quiet hu) hsz.1 hsz.1 hsz.2.1 hsz.2.2 hsz.2.2).mono fun e w' h => (⟨h.1, h.2, hu⟩ : _ ∧ Upd (fun _ => False) W w' ∧ Upd (fun _ => False) w6 W)
  rw [show decide (ks = ks ∧ nds = nds) = true by simp] at his
  have hwf := fun (W : World) (hu : Upd (fun _ => False) w6 W) => (words_any W _ _ ks.length fc fa rfl nds (hnk.quiet hu) (by omega) (by omega)).mono fun e w' h => (⟨h.1, h.2, hu⟩ : _ ∧ Upd (fun _ => False) W w' ∧ Upd (fun _ => False) w6 W)
  rw [← hNW] at hwf
  have htp := fun (W : World) (hu : Upd (fun _ => False) w6 W) => top_any W h wb sb sz os rest (HH6.out.quiet hu)
  rw [← hTP] at htp
  have hrg : Right nds ks (max (NW : Int) 1) := form_right HForm.out HG.out (by omega) (by omega) (by omega)
  have hhp := fun (W : World) (hu : Upd (fun _ => False) w6 W) => (Graph.heap_any W _ _ ks nds (hik.quiet hu) (hnk.quiet hu) (by omega) (by omega) (max (NW : Int) 1) (fun n hn => by have := hsz.2.2 n hn; omega) (form_words64 HForm.out HW64.out)).mono fun e w' h => (⟨h, hu⟩ : _ ∧ Upd (fun _ => False) w6 W)
  have HKs := Lib.hid hks
  have HIs := Lib.hid his
  have HWf := Lib.hid hwf
  have HTp := Lib.hid htp
  have HHp := Lib.hid hhp
  have HRg := Lib.hid hrg
  have HFm6 := Lib.hid hFm6
  have HU6 := Lib.hid (HU4.out.trans hu6)
  have Hik := Lib.hid hik
  have Hnk := Lib.hid hnk
  have Hir := Lib.hid hir
  have Hnr := Lib.hid hnr
  have HMild := Lib.hid hmild
  have HSz := Lib.hid hsz
  have HNW := Lib.hid hNW
  have HTP := Lib.hid hTP
  have dgt : decide ((TP : Int) < (NW : Int)) = false := decide_eq_false (by omega)
  have dgt' : decide (TP < NW) = false := decide_eq_false (by omega)
  clear his hwf htp hhp hrg hFm6 hu6 hik hnk hir hnr hmild hF6 hgn hgw gnm hra hrn hrw hnm hsz hNW hTP hlen hks k0 k1 kl
  go_wp2_with fail
  refine (HIs.out _ (Upd.refl _ _)).mono ?_
  rintro e w7 ⟨rfl, hu7, _⟩
  have g0 := keepC' hu7 f0
  have g1 := keepC' hu7 f1
  have HU7 := Lib.hid hu7
  clear f0 f1 fl hu7
  have gl := (HFm6.out.upd HU7.out (fun h => h)).lt
  go_wp2_with fail
  refine (HWf.out _ HU7.out).mono ?_
  rintro e w8 ⟨rfl, hu8, _⟩
  have HU8 := Lib.hid (HU7.out.trans hu8)
  have f0 := keepC' hu8 g0
  have f1 := keepC' hu8 g1
  clear g0 g1 gl hu8
  have fl := (HFm6.out.upd HU8.out (fun h => h)).lt
  go_wp2_with fail
  refine (HTp.out _ HU8.out).mono ?_
  rintro e w9 ⟨rfl, rfl⟩
  go_upto_region 9 with (fail)
  have hcum : Upd (fun _ => False) w6 w8.drew := HU8.out.drew
  have e0 : w8.drew.cell? ⟨w4.heap.size, 0, none⟩ = some (.slice fa ks.length fc) := f0
  have e1 : w8.drew.cell? ⟨w4.heap.size, 1, none⟩ = some (.slice fn nds.length fd) := f1
  refine wp_region_held_drew (S := (fun V => V.cell? ⟨w4.heap.size, 0, none⟩ = some (.slice fa ks.length fc) ∧ V.cell? ⟨w4.heap.size, 1, none⟩ = some (.slice fn nds.length fd))) (by kernel_rfl) ⟨f0, f1⟩ (fun hHeld => ?_)
  simp only [List.size_toArray, List.length_cons, List.length_nil, Nat.reduceAdd]
  refine take_any (i := 0) (v := ?_) (by rfl) (by kernel_rfl) (by exact (fun _ _ _ h => h)) (by rfl) hHeld ?_ ?_
  rotate_left
  · ((intro V hV; obtain ⟨hV0, hV1⟩ := hV; go_simp) <;> (with_reducible rfl))
  try simp only [Act.put, List.setIfInBounds_toArray, List.set_cons_zero, List.set_cons_succ]
  refine take_any (i := 1) (v := ?_) (by rfl) (by kernel_rfl) (by exact (fun _ _ _ h => h)) (by rfl) hHeld ?_ ?_
  rotate_left
  · ((intro V hV; obtain ⟨hV0, hV1⟩ := hV; go_simp) <;> (with_reducible rfl))
  try simp only [Act.put, List.setIfInBounds_toArray, List.set_cons_zero, List.set_cons_succ]
  refine next_last (i := 2) (by rfl) (by kernel_rfl) (fun KK hK => ?_)
  have HCl := Lib.hid (HWf.out _ hcum)
  go_simp
  refine (HCl.out).mono ?_
  rintro e9 w9 ⟨rfl, hu9, _⟩
  have g0 := keepC' hu9 e0
  have g1 := keepC' hu9 e1
  have HU9 := Lib.hid (hcum.trans hu9)
  clear hu9 HCl hcum e0 e1 f0 f1 fl
  go_wp2_with fail
  refine hK.out _ _ ⟨g0, g1⟩ (fun hHeld => ?_)
  clear hK KK
  try simp only [Act.put, List.setIfInBounds_toArray, List.set_cons_zero, List.set_cons_succ]
  refine take_any (i := 3) (v := ?_) (by rfl) (by kernel_rfl) (by exact (fun _ _ _ h => h)) (by rfl) hHeld ?_ ?_
  rotate_left
  · ((intro V hV; obtain ⟨hV0, hV1⟩ := hV; go_simp) <;> (with_reducible rfl))
  try simp only [Act.put, List.setIfInBounds_toArray, List.set_cons_zero, List.set_cons_succ]
  refine next_last (i := 4) (by rfl) (by kernel_rfl) (fun KK hK => ?_)
  have HCl := Lib.hid (HHp.out _ HU9.out)
  go_simp
  refine (HCl.out).mono ?_
  rintro e9 w10 ⟨⟨hu10, hyes, _⟩, _⟩
  obtain ⟨kh, kwb, ksb, kv, rfl, hKH, hKO, q1, q2, q3⟩ := hyes HRg.out
  obtain ⟨ma, mc, rfl⟩ : ∃ a c, kv = .slice a ks.length c := own_form hKO
  have f0 := keepC' hu10 g0
  have f1 := keepC' hu10 g1
  have HU10 := Lib.hid (HU9.out.trans hu10)
  have HKH := Lib.hid hKH
  have HKO := Lib.hid hKO
  clear hu10 hyes hKH hKO HCl q1 q2 q3 g0 g1
  go_wp2_with fail
  refine hK.out _ _ ⟨f0, f1⟩ (fun hHeld => ?_)
  clear hK KK
  try simp only [Act.put, List.setIfInBounds_toArray, List.set_cons_zero, List.set_cons_succ]
  refine take_any (i := 5) (v := ?_) (by rfl) (by kernel_rfl) (by exact (fun _ _ _ h => h)) (by rfl) hHeld ?_ ?_
  rotate_left
  · ((intro V hV; obtain ⟨hV0, hV1⟩ := hV; go_simp) <;> (with_reducible rfl))
  try simp only [Act.put, List.setIfInBounds_toArray, List.set_cons_zero, List.set_cons_succ]
  refine take_any (i := 6) (v := ?_) (by rfl) (by kernel_rfl) (by exact (fun _ _ _ h => h)) (by rfl) hHeld ?_ ?_
  rotate_left
  · ((intro V hV; obtain ⟨hV0, hV1⟩ := hV; go_simp) <;> (with_reducible rfl))
  try simp only [Act.put, List.setIfInBounds_toArray, List.set_cons_zero, List.set_cons_succ]
  refine take_any (i := 7) (v := ?_) (by rfl) (by kernel_rfl) (by exact (fun _ _ _ h => h)) (by rfl) hHeld ?_ ?_
  rotate_left
  · ((intro V hV; obtain ⟨hV0, hV1⟩ := hV; go_simp) <;> (with_reducible rfl))
  try simp only [Act.put, List.setIfInBounds_toArray, List.set_cons_zero, List.set_cons_succ]
  refine take_any (i := 8) (v := ?_) (by rfl) (by kernel_rfl) (by exact (fun _ _ _ h => h)) (by rfl) hHeld ?_ ?_
  rotate_left
  · ((intro V hV; obtain ⟨hV0, hV1⟩ := hV; go_simp) <;> (with_reducible rfl))
  try simp only [Act.put, List.setIfInBounds_toArray, List.set_cons_zero, List.set_cons_succ]
  refine take_any (i := 9) (v := ?_) (by rfl) (by kernel_rfl) (by exact (fun _ _ _ h => h)) (by rfl) hHeld ?_ ?_
  rotate_left
  · ((intro V hV; obtain ⟨hV0, hV1⟩ := hV; go_simp) <;> (with_reducible rfl))
  try simp only [Act.put, List.setIfInBounds_toArray, List.set_cons_zero, List.set_cons_succ]
  refine take_any (i := 10) (v := ?_) (by rfl) (by kernel_rfl) (by exact (fun _ _ _ h => h)) (by rfl) hHeld ?_ ?_
  rotate_left
  · ((intro V hV; obtain ⟨hV0, hV1⟩ := hV; go_simp) <;> (with_reducible rfl))
  try simp only [Act.put, List.setIfInBounds_toArray, List.set_cons_zero, List.set_cons_succ]
  refine take_any (i := 11) (v := ?_) (by rfl) (by kernel_rfl) (by exact (fun _ _ _ h => h)) (by rfl) hHeld ?_ ?_
  rotate_left
  · ((intro V hV; obtain ⟨hV0, hV1⟩ := hV; go_simp) <;> (with_reducible rfl))
  try simp only [Act.put, List.setIfInBounds_toArray, List.set_cons_zero, List.set_cons_succ]
  refine wpAnyH_done (by kernel_rfl) ?_ _
  clear hHeld
  have fl := (HFm6.out.upd HU10.out (fun h => h)).lt
  have hot : ∀ (W : World), Upd (fun _ => False) w10 W → Calls Try.prog 21 #[.pointer (some ⟨kh, 0, none⟩)] W fun e w' => e = .returned (.int .i64 (NW : Int)) ∧ Upd (fun _ => False) W w' ∧ Upd (fun _ => False) w10 W := by
    intro W hu
    have h1 := top_any W kh kwb ksb _ _ _ (HKH.out.quiet hu)
    rw [own_top, ← HNW.out] at h1
    exact h1.mono fun e w' h => ⟨h.1, h.2 ▸ Upd.refl _ _, hu⟩
  have hwf2 : ∀ (W : World), Upd (fun _ => False) w10 W → Calls Try.prog 18 #[.agg #[.slice fa ks.length fc, .slice fn nds.length fd]] W fun e w' => e = .returned (.int .i64 (NW : Int)) ∧ Upd (fun _ => False) W w' ∧ Upd (fun _ => False) w10 W :=
    fun W hu => (HWf.out W (HU10.out.trans hu)).mono fun e w' h => ⟨h.1, h.2.1, hu⟩
  have HOt := Lib.hid hot
  have HWf2 := Lib.hid hwf2
  have hcum : Upd (fun _ => False) w10 w10.drew := (Upd.refl _ _).drew
  clear hot hwf2
  go_wp2
  go_region_held3 (fun V => V.cell? ⟨w4.heap.size, 0, none⟩ = some (.slice fa ks.length fc) ∧ V.cell? ⟨w4.heap.size, 1, none⟩ = some (.slice fn nds.length fd))
    (first | exact ⟨f0, f1⟩ | (with_reducible exact ⟨keepC' hcum f0, keepC' hcum f1⟩))
    (first | (go_at_call 21; (with_reducible refine (HOt.out _ hcum).mono ?_); rintro e11 w11 ⟨rfl, hu, hW⟩; clear hcum; have hcum := hW.trans hu; clear hu hW) | (go_at_call 18; (with_reducible refine (HWf2.out _ hcum).mono ?_); rintro e11 w11 ⟨rfl, hu, hW⟩; clear hcum; have hcum := hW.trans hu; clear hu hW))
  have HU11 := Lib.hid (HU10.out.trans hcum)
  have hkeys : (ks.map (fun k => refAt nds k.toNat)).length = ks.length := List.length_map _
  have hmem : ∀ x ∈ ks.map (fun k => refAt nds k.toNat), -9223372036854775808 ≤ x ∧ x ≤ 9223372036854775807 := by
    intro x hx
    obtain ⟨e, _, rfl⟩ := List.mem_map.1 hx
    have := refAt_bound nds e.toNat
    rw [← HNW.out] at this
    omega
  have hko := own_upd HKO.out hcum (fun _ _ h => h)
  rw [← hkeys] at hko
  have hof2 := Graph.of_any w11 kh kwb ksb _ _ _ (HKH.out.quiet hcum) ma mc (ks.map (fun k => refAt nds k.toNat)) (ints_own hko hmem (by rw [hkeys, HKs.out]; omega)) (by rw [hkeys, HKs.out]; omega) hmem (own_words64 (form_words64 HForm.out HW64.out) (by rw [← HNW.out]; omega))
  rw [form_own HForm.out HG.out, hkeys] at hof2
  have HOf2 := Lib.hid hof2
  have hB11 := HFm6.out.upd HU11.out (fun h => h)
  have HB11 := Lib.hid hB11
  clear f0 f1 fl hcum hkeys hmem hko hof2 hB11
  go_wp2_with fail
  refine (HOf2.out).mono ?_
  rintro e w12 ⟨hu12, gva2, gvn2, rfl, hF12⟩
  obtain ⟨ta, tc, rfl⟩ : ∃ a c, gva2 = .slice a ks.length c := own_form hF12.roots
  obtain ⟨tn, td, rfl⟩ : ∃ a c, gvn2 = .slice a nds.length c := by obtain ⟨nv, _, hn, _⟩ := hF12.nodes; exact own_form hn
  have hal := (Upd.refl (fun _ => False) w12).alloc (.cells #[.slice ta ks.length tc, .slice tn nds.length td] 35)
  have hFm := Blk.made w12 [.slice ta ks.length tc, .slice tn nds.length td] 35
  have hF13 := hF12.quiet hal
  have hu13 := HU11.out.trans (hu12.trans hal)
  have hB13 := HFm6.out.upd hu13 (fun h => h)
  have f0 := hB13.cell 0 rfl
  have f1 := hB13.cell 1 rfl
  have fl := hB13.lt
  have t0 := hFm.cell 0 rfl
  have t1 := hFm.cell 1 rfl
  have tl := hFm.lt
  obtain ⟨tnv, tnm, htn, htw⟩ := hF13.nodes
  have htk := IntsAt.of_own hF13.roots
  have htd := NodesAt.of_own tnm htn htw
  have hsm := (sameForm_any _ _ _ _ _ ks ks nds nds htk htd (Hik.out.quiet hu13) (Hnk.out.quiet hu13) HSz.out.1 HSz.out.1 HMild.out HMild.out)
  rw [show decide (ks = ks ∧ nds = nds) = true by simp] at hsm
  have his := fun (W : World) (hu : Upd (fun _ => False) (w12.alloc (.cells #[.slice ta ks.length tc, .slice tn nds.length td] 35)) W) => (is_any W _ _ _ _ ks ks nds nds (htk.quiet hu) (htd.quiet hu) (Hir.out.quiet (hu13.trans hu)) (Hnr.out.quiet (hu13.trans hu)) HSz.out.1 HSz.out.1 HSz.out.2.1 HSz.out.2.2 HSz.out.2.2)
  rw [show decide (ks = ks ∧ nds = nds) = true by simp] at his
  have HSm := Lib.hid hsm
  have HIs2 := Lib.hid his
  have HU13 := Lib.hid (HU6.out.trans hu13)
  have HFm13 := Lib.hid hFm
  clear hu12 hF12 hal hFm hF13 hu13 hB13 htn htw tnm htk htd hsm his HOf2
  go_wp2_with fail
  refine (HSm.out).mono ?_
  rintro e w14 ⟨rfl, hu14⟩
  have g0 := keepC' hu14 t0
  have g1 := keepC' hu14 t1
  have HU14 := Lib.hid hu14
  have gl := (HFm13.out.upd hu14 (fun h => h)).lt
  clear f0 f1 fl t0 t1 tl hu14
  go_wp2_with fail
  refine (HIs2.out _ HU14.out).mono ?_
  rintro e w15 ⟨rfl, hu15⟩
  have HU15 := Lib.hid ((HU13.out.trans HU14.out).trans hu15)
  clear hu15 g0 g1
  go_wp2
  go_ret
  exact ⟨rfl, HU15.out⟩
end Go.Proofs.Ytlphlaenecidiaa.Build
