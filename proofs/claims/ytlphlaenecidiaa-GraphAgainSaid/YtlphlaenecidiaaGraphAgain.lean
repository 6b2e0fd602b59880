/- The law GraphAgain: a root more that is there already adds no node; a root more that is none adds none either. -/
import Derived.Test.YtlphlaenecidiaaGraphReaches
import Derived.Test.YtlphlaenecidiaaSame
import Derived.Test.YtlphlaenecidiaaAgainP
set_option linter.unusedSimpArgs false
namespace Go.Proofs.Ytlphlaenecidiaa.Build
open Go.RowKit Go.Proofs.Ytlphlaenecidiaa.Mem Go.Proofs.Ytlphlaenecidiaa.Obj Go.Proofs.Ytlphlaenecidiaa.Ref Go.Proofs.Ytlphlaenecidiaa.Heap

/-- The second form, laid. -/
def Again (w5 : World) (n : Nat) (ks : List Int) (nds : List Nd) (s11 s12 : Value) (wd : World) : Prop := ∃ (ab : Nat) (ma mn : Option Addr) (mc md : Nat), s11 = .pointer (some ⟨ab, 0, none⟩) ∧ s12 = .int .i64 0 ∧ Blk wd ab [.slice ma n mc, .slice mn nds.length md] 35 ∧
  Graph.FormAt wd w5.heap.size (.slice ma n mc) (.slice mn nds.length md) ks nds ∧ Upd (fun _ => False) w5 wd ∧ w5.heap.size ≤ ab
theorem FormAt_base {w : World} {base base' : Nat} {va vn : Value} {ks : List Int} {nds : List Nd} (h : Graph.FormAt w base va vn ks nds) (hb : base' ≤ base) : Graph.FormAt w base' va vn ks nds := by
  obtain ⟨nv, h1, h2, h3⟩ := h.nodes
  exact ⟨own_base h.roots hb, nv, h1, own_base h2 hb, fun p hp => ⟨own_base (h3 p hp).1 hb, own_base (h3 p hp).2 hb⟩⟩
theorem FormAt_off {w w' : World} {base ab : Nat} {va vn : Value} {ks : List Int} {nds : List Nd} {cs : List Value} (h : Graph.FormAt w base va vn ks nds) (hB : Blk w ab cs 35) (u : Upd (fun k => k = ab) w w') : Graph.FormAt w' base va vn ks nds := by
  obtain ⟨nv, h1, h2, h3⟩ := h.nodes
  exact ⟨own_upd h.roots u (fun g hg e => own_offR h.roots hB (by decide) (e ▸ hg)), nv, h1, own_upd h2 u (fun g hg e => own_offR h2 hB (by decide) (e ▸ hg)), fun p hp => ⟨own_upd (h3 p hp).1 u (fun g hg e => own_offR (h3 p hp).1 hB (by decide) (e ▸ hg)), own_upd (h3 p hp).2 u (fun g hg e => own_offR (h3 p hp).2 hB (by decide) (e ▸ hg))⟩⟩
theorem again_words {os : List Ob} {rs ks : List Int} {nds : List Nd} (h : form os rs = some (ks, nds)) (hg : ∀ o ∈ os, o.good) (ht : top os ≤ 65536) : nwords nds ≤ 1000000000 := by
  obtain ⟨L, F⟩ := form_formed h
  have key : ∀ l : List Nd, (∀ n ∈ l, 1 + n.edges.length + n.words.length ≤ 4096) → nwords l ≤ l.length * 4096 := by
    intro l
    induction l with
    | nil => intro _; exact Nat.zero_le _
    | cons n l ih =>
      intro hl
      have h1 := hl n List.mem_cons_self
      have h2 := ih (fun m hm => hl m (List.mem_cons_of_mem _ hm))
      rw [nwords, List.length_cons]
      omega
  have hlen := F.seen.len
  have h1 := key nds (fun n hn => by
    rw [F.nodes] at hn
    obtain ⟨a, ha, rfl⟩ := List.mem_map.1 hn
    obtain ⟨o, ho, _⟩ := F.seen.2 a ha
    obtain ⟨_, h2, h3, _⟩ := hg o (find_mem ho)
    unfold nodeOf
    rw [ho]
    simp only [List.length_map, List.length_take, List.length_drop]
    simp only [Ob.len] at h2 h3
    omega)
  rw [F.len] at h1
  omega
theorem keepSet2 {w : World} {b c o o' j : Nat} {u u' x : Value} (hne : b ≠ c) (hs : w.cell? ⟨b, j, none⟩ = some x) : ((w.setCell ⟨c, o, none⟩ u).setCell ⟨c, o', none⟩ u').cell? ⟨b, j, none⟩ = some x := by
  have e := (((Upd.refl (fun k => k = c) w).setCell (p := ⟨c, o, none⟩) u (fun _ => rfl)).setCell (p := ⟨c, o', none⟩) u' (fun _ => rfl))
  rw [World.cell?, e.block b (World.block_lt_of_cell? w _ hs) hne]
  exact hs

set_option maxRecDepth 20000 in
set_option maxHeartbeats 4000000 in
theorem again_few (w : World) (na ra : Option Addr) (nc rc : Nat) (ns : List GNd) (rs : List Nat) (hn : NodesIn w na ns) (hr : Bytes w ra rs) (hf : (∀ n ∈ ns, n.edges.length ≤ 10) ∧ ns.length ≤ 14 ∧ rs.length ≤ 14) (h0 : 0 < rs.length) (kk : Nat) (hkk : kk < 256) :
    Calls Try.prog 6 #[gv na ns.length nc ra rs.length rc, .int .u8 (kk : Int)] w fun e w' => e = .returned (.bool true) ∧ Upd (fun _ => False) w w' := by
  have hu0 := (Upd.refl (fun _ => False) w).alloc (.cells (GB na ns.length nc ra rs.length rc).toArray 46)
  have HB := Lib.hid (Blk.made w (GB na ns.length nc ra rs.length rc) 46)
  have HU := Lib.hid hu0
  have HN := Lib.hid hn
  have HR := Lib.hid hr
  have HF := Lib.hid hf
  have hnl := hf.2.1
  have dz : ((rs.length : Int) == 0) = false := by rw [beq_eq_false_iff_ne]; omega
  have dz' : (rs.length == 0) = false := by rw [beq_eq_false_iff_ne]; omega
  obtain ⟨ii, hii⟩ : ∃ ii : Nat, ii = kk % rs.length := ⟨_, rfl⟩
  have hil : ii < rs.length := by rw [hii]; exact Nat.mod_lt _ h0
  have hrem : ((kk : Int) % (rs.length : Int)) = (ii : Int) := by rw [hii]; push_cast; rfl
  have HIi := Lib.hid hii
  clear hii
  have hrl := hf.2.2
  clear hu0 hn hr hf
  go_enter Try.func6, Try.ntmps6
  go_wp2_with fail
  refine (Raw.awake16 _).mono ?_
  rintro e w1 ⟨rfl, hu1⟩
  have hB1 := HB.out.upd hu1 (fun h => h)
  have b0 := hB1.cell 0 rfl
  have b1 := hB1.cell 1 rfl
  have bl := hB1.lt
  have hfew := few_any w1 na ra nc rc ns rs.length (HN.out.quiet (HU.out.trans hu1)) (by omega) (by omega)
  rw [decide_eq_true HF.out] at hfew
  have HFew := Lib.hid hfew
  have HU1 := Lib.hid (HU.out.trans hu1)
  have HB1 := Lib.hid hB1
  clear hB1 hfew hu1
  go_wp2_with fail
  refine (HFew.out).mono ?_
  rintro e w2 ⟨rfl, hu2⟩
  have hB2 := HB1.out.upd hu2 (fun h => h)
  have HU2 := Lib.hid (HU1.out.trans hu2)
  clear b0 b1 bl
  have b0 := hB2.cell 0 rfl
  have b1 := hB2.cell 1 rfl
  have bl := hB2.lt
  have hbd := build_any w2 na ra nc rc ns rs (HN.out.quiet HU2.out) (HR.out.quiet HU2.out) ⟨HF.out.1, hnl, hrl⟩ 0 (by omega)
  rw [show ((0 : Nat) : Int) = 0 from rfl] at hbd
  have HBd := Lib.hid hbd
  clear hB2 hu2 hbd
  go_wp2_with fail
  refine (HBd.out).mono ?_
  rintro e w3 ⟨h, wb, sb, rest, va, vc, vr, S, rfl, hH, hro, hRf, _, _, _, _, _, _, _, hu3⟩
  obtain ⟨ga, gc, rfl⟩ := hRf.form
  have hat : ∀ a ∈ atOf ns, a ≤ 65536 := fun a ha => by have h1 := atOf_le ha; have h2 := tot_le ns HF.out.1; omega
  have hT := told ns rs hH.good (by omega) hat
  obtain ⟨sz, hsz⟩ : ∃ sz, sz = 1 + 0 + tot ns := ⟨_, rfl⟩
  rw [← hsz] at hH ⊢
  obtain ⟨os, hos⟩ : ∃ os, os = obsOf ns := ⟨_, rfl⟩
  obtain ⟨Xs, hXs⟩ : ∃ Xs, Xs = rs.map (placeOf (atOf ns)) := ⟨_, rfl⟩
  rw [← hos] at hH hRf ⊢
  have hXl : Xs.length = rs.length := by rw [hXs, List.length_map]
  have hg := hT.good
  have hw64 := hT.w64
  have hpt := hT.ptrs
  have hrt := hT.roots
  rw [← hos] at hg hw64 hpt hrt
  rw [← hXs] at hrt hro
  obtain ⟨ks, nds, hform⟩ := form_total (fun x hx => (hrt x hx).1) hpt
  have htop : top os ≤ 65536 := by have := hH.size; have := hH.hi; omega
  have hal := (Upd.refl (fun _ => False) w3).alloc (.cells #[.int .i64 (sz : Int), .slice ga os.length gc] 30)
  have hro' := own_upd hro hal (fun _ _ h => h)
  rw [← hXl] at hro'
  have hri := ints_own hro' (fun x hx => (hrt x hx).2) (by omega)
  have hof := Graph.of_any _ h wb sb sz os rest (hH.quiet hal) va vc Xs hri (by omega) (fun x hx => (hrt x hx).2) hw64
  rw [hform, hXl] at hof
  have HOf := Lib.hid hof
  have HRi := Lib.hid hri
  have HRo := Lib.hid hro'
  have HHp := Lib.hid (hH.quiet hal)
  obtain ⟨x, hxi⟩ : ∃ x, Xs[ii]? = some x := ⟨_, List.getElem?_eq_getElem (by omega)⟩
  have HXi := Lib.hid hxi
  obtain ⟨kv, hkv, hform2⟩ := form_again hform hxi
  have HKv := Lib.hid hkv
  have HForm2 := Lib.hid hform2
  clear hxi hkv hform2
  have HRf := Lib.hid (hRf.ref.quiet hal)
  have HBx := Lib.hid (Blk.made w3 [.int .i64 (sz : Int), .slice ga os.length gc] 30)
  have HU3 := Lib.hid ((HU2.out.trans hu3).trans hal)
  have HG := Lib.hid hg
  have HW64 := Lib.hid hw64
  have HPt := Lib.hid hpt
  have HRt := Lib.hid hrt
  have HForm := Lib.hid hform
  have HXl := Lib.hid hXl
  have hol := hRf.few
  clear hat hT hsz hos hXs hH hRf hro hro' hri hof hXl hg hw64 hpt hrt hform hal hu3 b0 b1 bl HBd
  go_wp2_with fail
  refine (HOf.out).mono ?_
  rintro e w4 ⟨hu4, gva, gvn, rfl, hF⟩
  obtain ⟨fa, fc, rfl⟩ : ∃ a c, gva = .slice a ks.length c := own_form hF.roots
  obtain ⟨fn, fd, rfl⟩ : ∃ a c, gvn = .slice a nds.length c := by obtain ⟨nv, _, hn, _⟩ := hF.nodes; exact own_form hn
  have hal := (Upd.refl (fun _ => False) w4).alloc (.cells #[.slice fa ks.length fc, .slice fn nds.length fd] 35)
  have hFm := Blk.made w4 [.slice fa ks.length fc, .slice fn nds.length fd] 35
  have hF4 := hF.quiet hal
  have hu4' := hu4.trans hal
  have hU4 := HU3.out.trans hu4'
  have hri4 := ints_below HRi.out (hu4'.below (fun _ _ h => h)) rfl
  have hro4 := own_upd HRo.out hu4' (fun _ _ h => h)
  have hhp4 := HHp.out.quiet hu4'
  clear hu4 hF hal hu4' HOf
  go_wp2
  generalize w4.alloc (.cells #[.slice fa ks.length fc, .slice fn nds.length fd] 35) = w5 at *
  simp only [hrem]
  have HRem := Lib.hid hrem
  clear hrem
  obtain ⟨vb, voff, hva, c0, _⟩ := hri4.cell ii x HXi.out
  subst hva
  have hvb : vb < w5.heap.size := World.block_lt_of_cell? w5 _ c0
  rw [HXl.out] at hro4
  have S0 := Lib.hid (src_own hro4)
  obtain ⟨i0, hi0, hz0, hz1, hz2⟩ := info_parts Ref.infoInt
  have HXn := Lib.hid (show (nums Xs).length = rs.length * 1 by rw [nums_len, HXl.out, Nat.mul_one])
  have HNs := Lib.hid (show nums Xs ++ [Value.int .i64 x, Value.int .i64 0] = nums (Xs ++ [x, 0]) by simp [nums])
  have hkl : (ks ++ [kv, 0]).length = ks.length + 2 := by simp
  have HKl := Lib.hid hkl
  have hof2 : ∀ (W : World) (b2 : Option Addr) (c2 : Nat), Upd (fun _ => False) w5 W → W.ownsRow w5.heap.size 3 1 (.slice b2 (rs.length + 2) c2) (rs.length + 2) (nums (Xs ++ [x, 0])) → Calls Try.prog 12 #[.pointer (some ⟨h, 0, none⟩), .slice b2 (rs.length + 2) c2] W (Graph.OfEnd W (some (ks ++ [kv, 0], nds))) := by
    intro W b2 c2 hu ho
    have hl2 : (Xs ++ [x, 0]).length = rs.length + 2 := by simp [HXl.out]
    have hmem : ∀ y ∈ Xs ++ [x, 0], -9223372036854775808 ≤ y ∧ y ≤ 9223372036854775807 := by
      intro y hy
      rcases List.mem_append.1 hy with hy | hy
      · exact (HRt.out y hy).2
      · rcases List.mem_cons.1 hy with rfl | hy
        · exact (HRt.out _ (List.mem_of_getElem? HXi.out)).2
        · rw [List.mem_singleton] at hy; subst hy; omega
    rw [← hl2] at ho ⊢
    have := Graph.of_any W h wb sb sz os rest (hhp4.quiet hu) b2 c2 (Xs ++ [x, 0]) (ints_own ho hmem (by omega)) (by omega) hmem HW64.out
    rwa [HForm2.out] at this
  have HOf2 := Lib.hid hof2
  have hfin1 : ∀ (wC : World) (ma mn : Option Addr) (mc md : Nat) (s12 : Value), Graph.FormAt wC w5.heap.size (.slice ma (ks.length + 2) mc) (.slice mn nds.length md) (ks ++ [kv, 0]) nds → Upd (fun _ => False) w5 wC → s12 = .int .i64 0 →
      Again w5 (ks.length + 2) (ks ++ [kv, 0]) nds (.pointer (some ⟨wC.heap.size, 0, none⟩)) s12 (wC.alloc (.cells #[.slice ma (ks.length + 2) mc, .slice mn nds.length md] 35)) := fun wC ma mn mc md s12 hF hu hs =>
    ⟨_, ma, mn, mc, md, rfl, hs, Blk.made wC _ _, hF.quiet ((Upd.refl _ wC).alloc _), hu.alloc _, hu.size⟩
  have hfin2 : ∀ (wC : World) (ab : Nat) (ma mn : Option Addr) (mc md : Nat) (s12 : Value), Graph.FormAt wC w5.heap.size (.slice ma (ks.length + 2) mc) (.slice mn nds.length md) (ks ++ [kv, 0]) nds → Blk wC ab [.slice none 0 0, .slice none 0 0] 35 → w5.heap.size ≤ ab → Upd (fun _ => False) w5 wC → s12 = .int .i64 0 →
      Again w5 (ks.length + 2) (ks ++ [kv, 0]) nds (.pointer (some ⟨ab, 0, none⟩)) s12 ((wC.setCell ⟨ab, 0, none⟩ (.slice ma (ks.length + 2) mc)).setCell ⟨ab, 1, none⟩ (.slice mn nds.length md)) := fun wC ab ma mn mc md s12 hF hB hab hu hs => by
    have us : Upd (fun k => k = ab) wC ((wC.setCell ⟨ab, 0, none⟩ (.slice ma (ks.length + 2) mc)).setCell ⟨ab, 1, none⟩ (.slice mn nds.length md)) := ((Upd.refl (fun k => k = ab) wC).setCell (p := ⟨ab, 0, none⟩) _ (fun _ => rfl)).setCell (p := ⟨ab, 1, none⟩) _ (fun _ => rfl)
    exact ⟨ab, ma, mn, mc, md, rfl, hs, (hB.set 0 _).set 1 _, FormAt_off hF hB us, hu.next us (fun i hi h => by omega), hab⟩
  have Fin1 := Lib.hid hfin1
  have Fin2 := Lib.hid hfin2
  have HF4 := Lib.hid hF4
  have HFm := Lib.hid hFm
  have HU4 := Lib.hid hU4
  have HRi4 := Lib.hid hri4
  clear hfin1 hfin2 hof2 hF4 hFm hU4 hri4 hro4 hhp4 hkl
  go_cut [11, 12] (fun s11 s12 wd => Again w5 (ks.length + 2) (ks ++ [kv, 0]) nds s11 s12 wd)
  case first =>
    refine wp_region_held_drew (S := (fun V => V.cell? ⟨vb, voff + ii, none⟩ = some (.int .i64 x))) (by kernel_rfl) c0 (fun hHeld => ?_)
    simp only [List.size_toArray, List.length_cons, List.length_nil, Nat.reduceAdd]
    refine take_any (i := 0) (v := ?_) (by rfl) (by kernel_rfl) (by exact (fun _ _ _ h => h)) (by rfl) hHeld ?_ ?_
    rotate_left
    · ((intro V hV; obtain hV0 := hV; go_simp) <;> (with_reducible rfl))
    try simp only [Act.put, List.setIfInBounds_toArray, List.set_cons_zero, List.set_cons_succ]
    refine take_any (i := 2) (v := ?_) (by rfl) (by kernel_rfl) (by exact (fun _ _ _ h => h)) (by rfl) hHeld ?_ ?_
    rotate_left
    · ((intro V hV; obtain hV0 := hV; go_simp) <;> (with_reducible rfl))
    try simp only [Act.put, List.setIfInBounds_toArray, List.set_cons_zero, List.set_cons_succ]
    refine take_any (i := 4) (v := ?_) (by rfl) (by kernel_rfl) (by exact (fun _ _ _ h => h)) (by rfl) hHeld ?_ ?_
    rotate_left
    · ((intro V hV; obtain hV0 := hV; go_simp) <;> (with_reducible rfl))
    try simp only [Act.put, List.setIfInBounds_toArray, List.set_cons_zero, List.set_cons_succ]
    refine take_any (i := 5) (v := ?_) (by rfl) (by kernel_rfl) (by exact (fun _ _ _ h => h)) (by rfl) hHeld ?_ ?_
    rotate_left
    · ((intro V hV; obtain hV0 := hV; go_simp) <;> (with_reducible rfl))
    try simp only [Act.put, List.setIfInBounds_toArray, List.set_cons_zero, List.set_cons_succ]
    refine take_any (i := 6) (v := ?_) (by rfl) (by kernel_rfl) (by exact (fun _ _ _ h => h)) (by rfl) hHeld ?_ ?_
    rotate_left
    · ((intro V hV; obtain hV0 := hV; go_simp) <;> (with_reducible rfl))
    try simp only [Act.put, List.setIfInBounds_toArray, List.set_cons_zero, List.set_cons_succ]
    refine take_any (i := 7) (v := ?_) (by rfl) (by kernel_rfl) (by exact (fun _ _ _ h => h)) (by rfl) hHeld ?_ ?_
    rotate_left
    · ((intro V hV; obtain hV0 := hV; go_simp) <;> (with_reducible rfl))
    try simp only [Act.put, List.setIfInBounds_toArray, List.set_cons_zero, List.set_cons_succ]
    refine three_any 1 8 14 (by rfl) (by rfl) (by rfl) (by kernel_rfl) (fun KK hK => ?_) (fun KK hK => ?_) (fun KK hK => ?_)
    · go_simp
      refine hK.out _ _ (keepC' (((Upd.refl _ _).alloc (.cells #[] 3)).drew) c0) (fun hHeld => ?_)
      clear hK KK
      try simp only [Act.put, List.setIfInBounds_toArray, List.set_cons_zero, List.set_cons_succ]
      refine three_any 3 8 14 (by rfl) (by rfl) (by rfl) (by kernel_rfl) (fun KK hK => ?_) (fun KK hK => ?_) (fun KK hK => ?_)
      · have oe0 := own_empty w5 3 1 w5.heap.size (by first | exact Nat.le_refl _ | (simp only [World.size_alloc]; omega))
        have OE := Lib.hid oe0
        have SR := Lib.hid (S0.out.quiet ((Upd.refl (fun _ => False) w5).alloc (.cells #[] 3)))
        clear oe0
        refine step_app _ (by rfl) _ _ 22 (by rfl) w5.heap.size 3 i0 _ 1 8 Try.underlying22 hi0 hz0 hz1 hz2 rfl (by decide) _ 0 [] (by rfl) OE.out _ _ _ (nums Xs) (by rfl) HXn.out SR.out (nums_one _) (by simp only [maxLen]; omega) (by omega) (by simp only [World.size_alloc, World.size_drew]; omega) ?_
        intro v1 wA ho1 hg1 hat1
        rw [Nat.zero_add, List.nil_append] at ho1
        obtain ⟨b1, c1', rfl⟩ := own_form ho1
        have hcum : Upd (fun _ => False) w5 wA := (((Upd.refl (fun _ => False) w5).alloc (.cells #[] 3)).drew).grown hg1 (fun g hg hlt => by have h : (w5.heap.size) = g := Option.some.inj hg; omega)
        have cA := keepC' hcum c0
        have HOA := Lib.hid ho1
        have HCumA := Lib.hid hcum
        have hsA := hcum.size
        clear ho1 hg1 hat1 hcum
        refine hK.out _ _ cA (fun hHeld => ?_)
        clear hK KK
        try simp only [Act.put, List.setIfInBounds_toArray, List.set_cons_zero, List.set_cons_succ]
        refine both_last 8 14 (by rfl) (by rfl) (by kernel_rfl) (fun KK hK => ?_) (fun KK hK => ?_)
        · go_simp
          refine hK.out _ _ (keepC' (((Upd.refl _ _).alloc (.cells #[.int .i64 x, .int .i64 0] 3))) cA) (fun hHeld => ?_)
          clear hK KK
          try simp only [Act.put, List.setIfInBounds_toArray, List.set_cons_zero, List.set_cons_succ]
          refine both_last 9 14 (by rfl) (by rfl) (by kernel_rfl) (fun KK hK => ?_) (fun KK hK => ?_)
          · have hOW := (Blk.made wA [.int .i64 x, .int .i64 0] 3)
            have HOW := Lib.hid hOW
            have HOwnW := Lib.hid (HOA.out.alloc (.cells #[.int .i64 x, .int .i64 0] 3))
            clear hOW
            refine step_app _ (by rfl) _ _ 22 (by rfl) w5.heap.size 3 i0 _ 1 8 Try.underlying22 hi0 hz0 hz1 hz2 rfl (by decide) _ rs.length (nums Xs) (by rfl) HOwnW.out _ _ _ [.int .i64 x, .int .i64 0] (by rfl) rfl (fun j u hu => ⟨_, rfl, blk_src HOW.out j u hu⟩) (by simp [Value.oneCell']) (by simp only [maxLen]; omega) (by omega) (by first | omega | (simp only [World.size_alloc]; omega)) ?_
            intro v2 wB ho2 hg2 hat2
            obtain ⟨b2, c2, rfl⟩ := own_form ho2
            have ug : Upd (fun g => (Value.slice b1 rs.length c1').ownBlock = some g) (wA.alloc (.cells #[.int .i64 x, .int .i64 0] 3)) wB := (Upd.refl _ _).grown hg2 (fun g hg _ => hg)
            have hcum : Upd (fun _ => False) w5 wB := (HCumA.out.alloc (.cells #[.int .i64 x, .int .i64 0] 3)).next ug (fun i hi h => by have := (HOA.out.lt i h).1; omega)
            have cB := keepC' hcum c0
            rw [HNs.out] at ho2
            have HOB2 := Lib.hid ho2
            have HCumB := Lib.hid hcum
            have hsB := hcum.size
            clear ho2 hg2 hat2 ug hcum
            refine hK.out _ _ cB (fun hHeld => ?_)
            clear hK KK
            try simp only [Act.put, List.setIfInBounds_toArray, List.set_cons_zero, List.set_cons_succ]
            refine both_last 10 14 (by rfl) (by rfl) (by kernel_rfl) (fun KK hK => ?_) (fun KK hK => ?_)
            · have HCl := Lib.hid (HOf2.out _ b2 c2 HCumB.out HOB2.out)
              go_simp
              refine (HCl.out).mono ?_
              rintro e10 wC ⟨hu10, gva6, gvn6, rfl, hF6⟩
              obtain ⟨ma, mc, rfl⟩ : ∃ a c, gva6 = .slice a (ks ++ [kv, 0]).length c := own_form hF6.roots
              obtain ⟨mn, md, rfl⟩ : ∃ a c, gvn6 = .slice a nds.length c := by obtain ⟨nv, _, hn, _⟩ := hF6.nodes; exact own_form hn
              rw [HKl.out] at hF6 ⊢
              have hcum := HCumB.out.trans hu10
              have cC := keepC' hcum c0
              have HCumC := Lib.hid hcum
              have HF6 := Lib.hid (FormAt_base (base' := w5.heap.size) hF6 (by first | exact hsB | (simp only [World.size_alloc]; omega)))
              have hsC := hcum.size
              clear hu10 hF6 hcum HCl
              go_wp2_with fail
              refine hK.out _ _ cC (fun hHeld => ?_)
              clear hK KK
              try simp only [Act.put, List.setIfInBounds_toArray, List.set_cons_zero, List.set_cons_succ]
              refine take_any (i := 11) (v := ?_) (by rfl) (by kernel_rfl) (by exact (fun _ _ _ h => h)) (by rfl) hHeld ?_ ?_
              rotate_left
              · ((intro V hV; obtain hV0 := hV; go_simp) <;> (with_reducible rfl))
              try simp only [Act.put, List.setIfInBounds_toArray, List.set_cons_zero, List.set_cons_succ]
              refine take_any (i := 12) (v := ?_) (by rfl) (by kernel_rfl) (by exact (fun _ _ _ h => h)) (by rfl) hHeld ?_ ?_
              rotate_left
              · ((intro V hV; obtain hV0 := hV; go_simp) <;> (with_reducible rfl))
              try simp only [Act.put, List.setIfInBounds_toArray, List.set_cons_zero, List.set_cons_succ]
              refine take_any (i := 13) (v := ?_) (by rfl) (by kernel_rfl) (by exact (fun _ _ _ h => h)) (by rfl) hHeld ?_ ?_
              rotate_left
              · ((intro V hV; obtain hV0 := hV; go_simp) <;> (with_reducible rfl))
              try simp only [Act.put, List.setIfInBounds_toArray, List.set_cons_zero, List.set_cons_succ]
              refine next_last (i := 14) (by rfl) (by kernel_rfl) (fun KK hK => ?_)
              go_simp
              refine hK.out _ _ (keepC' (((Upd.refl _ _).alloc (.cells #[.slice none 0 0, .slice none 0 0] 35))) cC) (fun hHeld => ?_)
              clear hK KK
              try simp only [Act.put, List.setIfInBounds_toArray, List.set_cons_zero, List.set_cons_succ]
              refine next_last (i := 15) (by rfl) (by kernel_rfl) (fun KK hK => ?_)
              go_simp
              refine hK.out _ _ (keepC' ((Upd.refl _ _).alloc _) cC) (fun hHeld => ?_)
              clear hK KK
              try simp only [Act.put, List.setIfInBounds_toArray, List.set_cons_zero, List.set_cons_succ]
              refine next_last (i := 16) (by rfl) (by kernel_rfl) (fun KK hK => ?_)
              go_simp
              refine hK.out _ _ (keepC' ((Upd.refl _ _).alloc _) cC) (fun hHeld => ?_)
              clear hK KK
              try simp only [Act.put, List.setIfInBounds_toArray, List.set_cons_zero, List.set_cons_succ]
              refine wpAnyH_done (by kernel_rfl) ?_ _
              go_wp2_with fail
              go_meet
              case rel => exact Fin1.out _ _ _ _ _ _ HF6.out HCumC.out rfl
            · go_simp
              refine hK.out _ _ (keepC' (((Upd.refl _ _).alloc (.cells #[.slice none 0 0, .slice none 0 0] 35))) cB) (fun hHeld => ?_)
              clear hK KK
              try simp only [Act.put, List.setIfInBounds_toArray, List.set_cons_zero, List.set_cons_succ]
              refine next_last (i := 10) (by rfl) (by kernel_rfl) (fun KK hK => ?_)
              have HCl := Lib.hid (HOf2.out _ b2 c2 (HCumB.out.alloc (.cells #[.slice none 0 0, .slice none 0 0] 35)) (HOB2.out.alloc (.cells #[.slice none 0 0, .slice none 0 0] 35)))
              have HZ10 := Lib.hid (Blk.made wB [.slice none 0 0, .slice none 0 0] 35)
              go_simp
              refine (HCl.out).mono ?_
              rintro e10 wC ⟨hu10, gva6, gvn6, rfl, hF6⟩
              obtain ⟨ma, mc, rfl⟩ : ∃ a c, gva6 = .slice a (ks ++ [kv, 0]).length c := own_form hF6.roots
              obtain ⟨mn, md, rfl⟩ : ∃ a c, gvn6 = .slice a nds.length c := by obtain ⟨nv, _, hn, _⟩ := hF6.nodes; exact own_form hn
              rw [HKl.out] at hF6 ⊢
              have hcum := (HCumB.out.alloc (.cells #[.slice none 0 0, .slice none 0 0] 35)).trans hu10
              have cC := keepC' hcum c0
              have HCumC := Lib.hid hcum
              have HF6 := Lib.hid (FormAt_base (base' := w5.heap.size) hF6 (by first | exact hsB | (simp only [World.size_alloc]; omega)))
              have hsC := hcum.size
              have hzc := HZ10.out.upd hu10 (fun h => h)
              have z0 := hzc.cell 0 rfl
              have z1 := hzc.cell 1 rfl
              have zf0 := hzc.frozen 0
              have zf1 := hzc.frozen 1
              have zl := hzc.lt
              have HZC := Lib.hid hzc
              clear hzc
              clear hu10 hF6 hcum HCl
              go_wp2_with fail
              refine hK.out _ _ cC (fun hHeld => ?_)
              clear hK KK
              try simp only [Act.put, List.setIfInBounds_toArray, List.set_cons_zero, List.set_cons_succ]
              refine take_any (i := 11) (v := ?_) (by rfl) (by kernel_rfl) (by exact (fun _ _ _ h => h)) (by rfl) hHeld ?_ ?_
              rotate_left
              · ((intro V hV; obtain hV0 := hV; go_simp) <;> (with_reducible rfl))
              try simp only [Act.put, List.setIfInBounds_toArray, List.set_cons_zero, List.set_cons_succ]
              refine take_any (i := 12) (v := ?_) (by rfl) (by kernel_rfl) (by exact (fun _ _ _ h => h)) (by rfl) hHeld ?_ ?_
              rotate_left
              · ((intro V hV; obtain hV0 := hV; go_simp) <;> (with_reducible rfl))
              try simp only [Act.put, List.setIfInBounds_toArray, List.set_cons_zero, List.set_cons_succ]
              refine take_any (i := 13) (v := ?_) (by rfl) (by kernel_rfl) (by exact (fun _ _ _ h => h)) (by rfl) hHeld ?_ ?_
              rotate_left
              · ((intro V hV; obtain hV0 := hV; go_simp) <;> (with_reducible rfl))
              try simp only [Act.put, List.setIfInBounds_toArray, List.set_cons_zero, List.set_cons_succ]
              refine next_last (i := 15) (by rfl) (by kernel_rfl) (fun KK hK => ?_)
              have hne : vb ≠ (wB.heap.size) := by omega
              go_simp
              refine hK.out _ _ (keepSet2 hne cC) (fun hHeld => ?_)
              clear hK KK
              try simp only [Act.put, List.setIfInBounds_toArray, List.set_cons_zero, List.set_cons_succ]
              refine next_last (i := 16) (by rfl) (by kernel_rfl) (fun KK hK => ?_)
              go_simp
              refine hK.out _ _ (keepSet2 hne cC) (fun hHeld => ?_)
              clear hK KK
              try simp only [Act.put, List.setIfInBounds_toArray, List.set_cons_zero, List.set_cons_succ]
              refine wpAnyH_done (by kernel_rfl) ?_ _
              go_wp2_with fail
              go_meet
              case rel => exact Fin2.out _ _ _ _ _ _ _ HF6.out HZC.out (by omega) HCumC.out rfl
          · go_simp
            refine hK.out _ _ (keepC' ((((Upd.refl _ _).alloc (.cells #[.int .i64 x, .int .i64 0] 3)).alloc (.cells #[.slice none 0 0, .slice none 0 0] 35))) cA) (fun hHeld => ?_)
            clear hK KK
            try simp only [Act.put, List.setIfInBounds_toArray, List.set_cons_zero, List.set_cons_succ]
            refine next_last (i := 9) (by rfl) (by kernel_rfl) (fun KK hK => ?_)
            have hOW := ((Blk.made wA [.int .i64 x, .int .i64 0] 3).alloc (.cells #[.slice none 0 0, .slice none 0 0] 35))
            have HOW := Lib.hid hOW
            have HOwnW := Lib.hid ((HOA.out.alloc (.cells #[.int .i64 x, .int .i64 0] 3)).alloc (.cells #[.slice none 0 0, .slice none 0 0] 35))
            clear hOW
            have HZW := Lib.hid (Blk.made' wA (.cells #[.int .i64 x, .int .i64 0] 3) [.slice none 0 0, .slice none 0 0] 35)
            refine step_app _ (by rfl) _ _ 22 (by rfl) w5.heap.size 3 i0 _ 1 8 Try.underlying22 hi0 hz0 hz1 hz2 rfl (by decide) _ rs.length (nums Xs) (by rfl) HOwnW.out _ _ _ [.int .i64 x, .int .i64 0] (by rfl) rfl (fun j u hu => ⟨_, rfl, blk_src HOW.out j u hu⟩) (by simp [Value.oneCell']) (by simp only [maxLen]; omega) (by omega) (by first | omega | (simp only [World.size_alloc]; omega)) ?_
            intro v2 wB ho2 hg2 hat2
            obtain ⟨b2, c2, rfl⟩ := own_form ho2
            have ug : Upd (fun g => (Value.slice b1 rs.length c1').ownBlock = some g) ((wA.alloc (.cells #[.int .i64 x, .int .i64 0] 3)).alloc (.cells #[.slice none 0 0, .slice none 0 0] 35)) wB := (Upd.refl _ _).grown hg2 (fun g hg _ => hg)
            have hcum : Upd (fun _ => False) w5 wB := ((HCumA.out.alloc (.cells #[.int .i64 x, .int .i64 0] 3)).alloc (.cells #[.slice none 0 0, .slice none 0 0] 35)).next ug (fun i hi h => by have := (HOA.out.lt i h).1; omega)
            have cB := keepC' hcum c0
            rw [HNs.out] at ho2
            have HOB2 := Lib.hid ho2
            have HCumB := Lib.hid hcum
            have hsB := hcum.size
            have HZB := Lib.hid (HZW.out.upd ug (fun h => own_offR HOwnW.out HZW.out (by decide) h))
            clear ho2 hg2 hat2 ug hcum
            refine hK.out _ _ cB (fun hHeld => ?_)
            clear hK KK
            try simp only [Act.put, List.setIfInBounds_toArray, List.set_cons_zero, List.set_cons_succ]
            refine next_last (i := 10) (by rfl) (by kernel_rfl) (fun KK hK => ?_)
            have HCl := Lib.hid (HOf2.out _ b2 c2 HCumB.out HOB2.out)
            have HZ10 := Lib.hid HZB.out
            go_simp
            refine (HCl.out).mono ?_
            rintro e10 wC ⟨hu10, gva6, gvn6, rfl, hF6⟩
            obtain ⟨ma, mc, rfl⟩ : ∃ a c, gva6 = .slice a (ks ++ [kv, 0]).length c := own_form hF6.roots
            obtain ⟨mn, md, rfl⟩ : ∃ a c, gvn6 = .slice a nds.length c := by obtain ⟨nv, _, hn, _⟩ := hF6.nodes; exact own_form hn
            rw [HKl.out] at hF6 ⊢
            have hcum := HCumB.out.trans hu10
            have cC := keepC' hcum c0
            have HCumC := Lib.hid hcum
            have HF6 := Lib.hid (FormAt_base (base' := w5.heap.size) hF6 (by first | exact hsB | (simp only [World.size_alloc]; omega)))
            have hsC := hcum.size
            have hzc := HZ10.out.upd hu10 (fun h => h)
            have z0 := hzc.cell 0 rfl
            have z1 := hzc.cell 1 rfl
            have zf0 := hzc.frozen 0
            have zf1 := hzc.frozen 1
            have zl := hzc.lt
            have HZC := Lib.hid hzc
            clear hzc
            clear hu10 hF6 hcum HCl
            go_wp2_with fail
            refine hK.out _ _ cC (fun hHeld => ?_)
            clear hK KK
            try simp only [Act.put, List.setIfInBounds_toArray, List.set_cons_zero, List.set_cons_succ]
            refine take_any (i := 11) (v := ?_) (by rfl) (by kernel_rfl) (by exact (fun _ _ _ h => h)) (by rfl) hHeld ?_ ?_
            rotate_left
            · ((intro V hV; obtain hV0 := hV; go_simp) <;> (with_reducible rfl))
            try simp only [Act.put, List.setIfInBounds_toArray, List.set_cons_zero, List.set_cons_succ]
            refine take_any (i := 12) (v := ?_) (by rfl) (by kernel_rfl) (by exact (fun _ _ _ h => h)) (by rfl) hHeld ?_ ?_
            rotate_left
            · ((intro V hV; obtain hV0 := hV; go_simp) <;> (with_reducible rfl))
            try simp only [Act.put, List.setIfInBounds_toArray, List.set_cons_zero, List.set_cons_succ]
            refine take_any (i := 13) (v := ?_) (by rfl) (by kernel_rfl) (by exact (fun _ _ _ h => h)) (by rfl) hHeld ?_ ?_
            rotate_left
            · ((intro V hV; obtain hV0 := hV; go_simp) <;> (with_reducible rfl))
            try simp only [Act.put, List.setIfInBounds_toArray, List.set_cons_zero, List.set_cons_succ]
            refine next_last (i := 15) (by rfl) (by kernel_rfl) (fun KK hK => ?_)
            have hne : vb ≠ (wA.heap.size + 1) := by omega
            go_simp
            refine hK.out _ _ (keepSet2 hne cC) (fun hHeld => ?_)
            clear hK KK
            try simp only [Act.put, List.setIfInBounds_toArray, List.set_cons_zero, List.set_cons_succ]
            refine next_last (i := 16) (by rfl) (by kernel_rfl) (fun KK hK => ?_)
            go_simp
            refine hK.out _ _ (keepSet2 hne cC) (fun hHeld => ?_)
            clear hK KK
            try simp only [Act.put, List.setIfInBounds_toArray, List.set_cons_zero, List.set_cons_succ]
            refine wpAnyH_done (by kernel_rfl) ?_ _
            go_wp2_with fail
            go_meet
            case rel => exact Fin2.out _ _ _ _ _ _ _ HF6.out HZC.out (by omega) HCumC.out rfl
        · go_simp
          refine hK.out _ _ (keepC' (((Upd.refl _ _).alloc (.cells #[.slice none 0 0, .slice none 0 0] 35))) cA) (fun hHeld => ?_)
          clear hK KK
          try simp only [Act.put, List.setIfInBounds_toArray, List.set_cons_zero, List.set_cons_succ]
          refine next_last (i := 8) (by rfl) (by kernel_rfl) (fun KK hK => ?_)
          go_simp
          refine hK.out _ _ (keepC' ((((Upd.refl _ _).alloc (.cells #[.slice none 0 0, .slice none 0 0] 35)).alloc (.cells #[.int .i64 x, .int .i64 0] 3))) cA) (fun hHeld => ?_)
          clear hK KK
          try simp only [Act.put, List.setIfInBounds_toArray, List.set_cons_zero, List.set_cons_succ]
          refine next_last (i := 9) (by rfl) (by kernel_rfl) (fun KK hK => ?_)
          have hOW := (Blk.made' wA (.cells #[.slice none 0 0, .slice none 0 0] 35) [.int .i64 x, .int .i64 0] 3)
          have HOW := Lib.hid hOW
          have HOwnW := Lib.hid ((HOA.out.alloc (.cells #[.slice none 0 0, .slice none 0 0] 35)).alloc (.cells #[.int .i64 x, .int .i64 0] 3))
          clear hOW
          have HZW := Lib.hid ((Blk.made wA [.slice none 0 0, .slice none 0 0] 35).alloc (.cells #[.int .i64 x, .int .i64 0] 3))
          refine step_app _ (by rfl) _ _ 22 (by rfl) w5.heap.size 3 i0 _ 1 8 Try.underlying22 hi0 hz0 hz1 hz2 rfl (by decide) _ rs.length (nums Xs) (by rfl) HOwnW.out _ _ _ [.int .i64 x, .int .i64 0] (by rfl) rfl (fun j u hu => ⟨_, rfl, blk_src HOW.out j u hu⟩) (by simp [Value.oneCell']) (by simp only [maxLen]; omega) (by omega) (by first | omega | (simp only [World.size_alloc]; omega)) ?_
          intro v2 wB ho2 hg2 hat2
          obtain ⟨b2, c2, rfl⟩ := own_form ho2
          have ug : Upd (fun g => (Value.slice b1 rs.length c1').ownBlock = some g) ((wA.alloc (.cells #[.slice none 0 0, .slice none 0 0] 35)).alloc (.cells #[.int .i64 x, .int .i64 0] 3)) wB := (Upd.refl _ _).grown hg2 (fun g hg _ => hg)
          have hcum : Upd (fun _ => False) w5 wB := ((HCumA.out.alloc (.cells #[.slice none 0 0, .slice none 0 0] 35)).alloc (.cells #[.int .i64 x, .int .i64 0] 3)).next ug (fun i hi h => by have := (HOA.out.lt i h).1; omega)
          have cB := keepC' hcum c0
          rw [HNs.out] at ho2
          have HOB2 := Lib.hid ho2
          have HCumB := Lib.hid hcum
          have hsB := hcum.size
          have HZB := Lib.hid (HZW.out.upd ug (fun h => own_offR HOwnW.out HZW.out (by decide) h))
          clear ho2 hg2 hat2 ug hcum
          refine hK.out _ _ cB (fun hHeld => ?_)
          clear hK KK
          try simp only [Act.put, List.setIfInBounds_toArray, List.set_cons_zero, List.set_cons_succ]
          refine next_last (i := 10) (by rfl) (by kernel_rfl) (fun KK hK => ?_)
          have HCl := Lib.hid (HOf2.out _ b2 c2 HCumB.out HOB2.out)
          have HZ10 := Lib.hid HZB.out
          go_simp
          refine (HCl.out).mono ?_
          rintro e10 wC ⟨hu10, gva6, gvn6, rfl, hF6⟩
          obtain ⟨ma, mc, rfl⟩ : ∃ a c, gva6 = .slice a (ks ++ [kv, 0]).length c := own_form hF6.roots
          obtain ⟨mn, md, rfl⟩ : ∃ a c, gvn6 = .slice a nds.length c := by obtain ⟨nv, _, hn, _⟩ := hF6.nodes; exact own_form hn
          rw [HKl.out] at hF6 ⊢
          have hcum := HCumB.out.trans hu10
          have cC := keepC' hcum c0
          have HCumC := Lib.hid hcum
          have HF6 := Lib.hid (FormAt_base (base' := w5.heap.size) hF6 (by first | exact hsB | (simp only [World.size_alloc]; omega)))
          have hsC := hcum.size
          have hzc := HZ10.out.upd hu10 (fun h => h)
          have z0 := hzc.cell 0 rfl
          have z1 := hzc.cell 1 rfl
          have zf0 := hzc.frozen 0
          have zf1 := hzc.frozen 1
          have zl := hzc.lt
          have HZC := Lib.hid hzc
          clear hzc
          clear hu10 hF6 hcum HCl
          go_wp2_with fail
          refine hK.out _ _ cC (fun hHeld => ?_)
          clear hK KK
          try simp only [Act.put, List.setIfInBounds_toArray, List.set_cons_zero, List.set_cons_succ]
          refine take_any (i := 11) (v := ?_) (by rfl) (by kernel_rfl) (by exact (fun _ _ _ h => h)) (by rfl) hHeld ?_ ?_
          rotate_left
          · ((intro V hV; obtain hV0 := hV; go_simp) <;> (with_reducible rfl))
          try simp only [Act.put, List.setIfInBounds_toArray, List.set_cons_zero, List.set_cons_succ]
          refine take_any (i := 12) (v := ?_) (by rfl) (by kernel_rfl) (by exact (fun _ _ _ h => h)) (by rfl) hHeld ?_ ?_
          rotate_left
          · ((intro V hV; obtain hV0 := hV; go_simp) <;> (with_reducible rfl))
          try simp only [Act.put, List.setIfInBounds_toArray, List.set_cons_zero, List.set_cons_succ]
          refine take_any (i := 13) (v := ?_) (by rfl) (by kernel_rfl) (by exact (fun _ _ _ h => h)) (by rfl) hHeld ?_ ?_
          rotate_left
          · ((intro V hV; obtain hV0 := hV; go_simp) <;> (with_reducible rfl))
          try simp only [Act.put, List.setIfInBounds_toArray, List.set_cons_zero, List.set_cons_succ]
          refine next_last (i := 15) (by rfl) (by kernel_rfl) (fun KK hK => ?_)
          have hne : vb ≠ (wA.heap.size) := by omega
          go_simp
          refine hK.out _ _ (keepSet2 hne cC) (fun hHeld => ?_)
          clear hK KK
          try simp only [Act.put, List.setIfInBounds_toArray, List.set_cons_zero, List.set_cons_succ]
          refine next_last (i := 16) (by rfl) (by kernel_rfl) (fun KK hK => ?_)
          go_simp
          refine hK.out _ _ (keepSet2 hne cC) (fun hHeld => ?_)
          clear hK KK
          try simp only [Act.put, List.setIfInBounds_toArray, List.set_cons_zero, List.set_cons_succ]
          refine wpAnyH_done (by kernel_rfl) ?_ _
          go_wp2_with fail
          go_meet
          case rel => exact Fin2.out _ _ _ _ _ _ _ HF6.out HZC.out (by omega) HCumC.out rfl
      · go_simp
        refine hK.out _ _ (keepC' ((((Upd.refl _ _).alloc (.cells #[] 3)).alloc (.cells #[.int .i64 x, .int .i64 0] 3)).drew) c0) (fun hHeld => ?_)
        clear hK KK
        try simp only [Act.put, List.setIfInBounds_toArray, List.set_cons_zero, List.set_cons_succ]
        refine both_last 3 14 (by rfl) (by rfl) (by kernel_rfl) (fun KK hK => ?_) (fun KK hK => ?_)
        · have oe0 := own_empty w5 3 1 w5.heap.size (by first | exact Nat.le_refl _ | (simp only [World.size_alloc]; omega))
          have oe1 := own_upd oe0 ((Upd.refl (fun _ => False) _).alloc (.cells #[.int .i64 x, .int .i64 0] 3)) (fun _ _ h => h)
          have OE := Lib.hid oe1
          have SR := Lib.hid (S0.out.quiet (((Upd.refl (fun _ => False) w5).alloc (.cells #[] 3)).alloc (.cells #[.int .i64 x, .int .i64 0] 3)))
          clear oe0 oe1
          refine step_app _ (by rfl) _ _ 22 (by rfl) w5.heap.size 3 i0 _ 1 8 Try.underlying22 hi0 hz0 hz1 hz2 rfl (by decide) _ 0 [] (by rfl) OE.out _ _ _ (nums Xs) (by rfl) HXn.out SR.out (nums_one _) (by simp only [maxLen]; omega) (by omega) (by simp only [World.size_alloc, World.size_drew]; omega) ?_
          intro v1 wA ho1 hg1 hat1
          rw [Nat.zero_add, List.nil_append] at ho1
          obtain ⟨b1, c1', rfl⟩ := own_form ho1
          have hcum : Upd (fun _ => False) w5 wA := ((((Upd.refl (fun _ => False) w5).alloc (.cells #[] 3)).alloc (.cells #[.int .i64 x, .int .i64 0] 3)).drew).grown hg1 (fun g hg hlt => by have h : (w5.heap.size) = g := Option.some.inj hg; omega)
          have cA := keepC' hcum c0
          have hOB := (Blk.made' w5 (.cells #[] 3) [.int .i64 x, .int .i64 0] 3).drew.of_eq (hg1.block (w5.heap.size + 1) (Blk.made' w5 (.cells #[] 3) [.int .i64 x, .int .i64 0] 3).lt (fun e => by have h : (w5.heap.size + 1) = (w5.heap.size) := Option.some.inj e; omega))
          have HOBA := Lib.hid hOB
          clear hOB
          have HOA := Lib.hid ho1
          have HCumA := Lib.hid hcum
          have hsA := hcum.size
          clear ho1 hg1 hat1 hcum
          refine hK.out _ _ cA (fun hHeld => ?_)
          clear hK KK
          try simp only [Act.put, List.setIfInBounds_toArray, List.set_cons_zero, List.set_cons_succ]
          refine both_last 9 14 (by rfl) (by rfl) (by kernel_rfl) (fun KK hK => ?_) (fun KK hK => ?_)
          · have hOW := HOBA.out
            have HOW := Lib.hid hOW
            have HOwnW := Lib.hid HOA.out
            clear hOW
            refine step_app _ (by rfl) _ _ 22 (by rfl) w5.heap.size 3 i0 _ 1 8 Try.underlying22 hi0 hz0 hz1 hz2 rfl (by decide) _ rs.length (nums Xs) (by rfl) HOwnW.out _ _ _ [.int .i64 x, .int .i64 0] (by rfl) rfl (fun j u hu => ⟨_, rfl, blk_src HOW.out j u hu⟩) (by simp [Value.oneCell']) (by simp only [maxLen]; omega) (by omega) (by first | omega | (simp only [World.size_alloc]; omega)) ?_
            intro v2 wB ho2 hg2 hat2
            obtain ⟨b2, c2, rfl⟩ := own_form ho2
            have ug : Upd (fun g => (Value.slice b1 rs.length c1').ownBlock = some g) wA wB := (Upd.refl _ _).grown hg2 (fun g hg _ => hg)
            have hcum : Upd (fun _ => False) w5 wB := HCumA.out.next ug (fun i hi h => by have := (HOA.out.lt i h).1; omega)
            have cB := keepC' hcum c0
            rw [HNs.out] at ho2
            have HOB2 := Lib.hid ho2
            have HCumB := Lib.hid hcum
            have hsB := hcum.size
            clear ho2 hg2 hat2 ug hcum
            refine hK.out _ _ cB (fun hHeld => ?_)
            clear hK KK
            try simp only [Act.put, List.setIfInBounds_toArray, List.set_cons_zero, List.set_cons_succ]
            refine both_last 10 14 (by rfl) (by rfl) (by kernel_rfl) (fun KK hK => ?_) (fun KK hK => ?_)
            · have HCl := Lib.hid (HOf2.out _ b2 c2 HCumB.out HOB2.out)
              go_simp
              refine (HCl.out).mono ?_
              rintro e10 wC ⟨hu10, gva6, gvn6, rfl, hF6⟩
              obtain ⟨ma, mc, rfl⟩ : ∃ a c, gva6 = .slice a (ks ++ [kv, 0]).length c := own_form hF6.roots
              obtain ⟨mn, md, rfl⟩ : ∃ a c, gvn6 = .slice a nds.length c := by obtain ⟨nv, _, hn, _⟩ := hF6.nodes; exact own_form hn
              rw [HKl.out] at hF6 ⊢
              have hcum := HCumB.out.trans hu10
              have cC := keepC' hcum c0
              have HCumC := Lib.hid hcum
              have HF6 := Lib.hid (FormAt_base (base' := w5.heap.size) hF6 (by first | exact hsB | (simp only [World.size_alloc]; omega)))
              have hsC := hcum.size
              clear hu10 hF6 hcum HCl
              go_wp2_with fail
              refine hK.out _ _ cC (fun hHeld => ?_)
              clear hK KK
              try simp only [Act.put, List.setIfInBounds_toArray, List.set_cons_zero, List.set_cons_succ]
              refine take_any (i := 11) (v := ?_) (by rfl) (by kernel_rfl) (by exact (fun _ _ _ h => h)) (by rfl) hHeld ?_ ?_
              rotate_left
              · ((intro V hV; obtain hV0 := hV; go_simp) <;> (with_reducible rfl))
              try simp only [Act.put, List.setIfInBounds_toArray, List.set_cons_zero, List.set_cons_succ]
              refine take_any (i := 12) (v := ?_) (by rfl) (by kernel_rfl) (by exact (fun _ _ _ h => h)) (by rfl) hHeld ?_ ?_
              rotate_left
              · ((intro V hV; obtain hV0 := hV; go_simp) <;> (with_reducible rfl))
              try simp only [Act.put, List.setIfInBounds_toArray, List.set_cons_zero, List.set_cons_succ]
              refine take_any (i := 13) (v := ?_) (by rfl) (by kernel_rfl) (by exact (fun _ _ _ h => h)) (by rfl) hHeld ?_ ?_
              rotate_left
              · ((intro V hV; obtain hV0 := hV; go_simp) <;> (with_reducible rfl))
              try simp only [Act.put, List.setIfInBounds_toArray, List.set_cons_zero, List.set_cons_succ]
              refine next_last (i := 14) (by rfl) (by kernel_rfl) (fun KK hK => ?_)
              go_simp
              refine hK.out _ _ (keepC' (((Upd.refl _ _).alloc (.cells #[.slice none 0 0, .slice none 0 0] 35))) cC) (fun hHeld => ?_)
              clear hK KK
              try simp only [Act.put, List.setIfInBounds_toArray, List.set_cons_zero, List.set_cons_succ]
              refine next_last (i := 15) (by rfl) (by kernel_rfl) (fun KK hK => ?_)
              go_simp
              refine hK.out _ _ (keepC' ((Upd.refl _ _).alloc _) cC) (fun hHeld => ?_)
              clear hK KK
              try simp only [Act.put, List.setIfInBounds_toArray, List.set_cons_zero, List.set_cons_succ]
              refine next_last (i := 16) (by rfl) (by kernel_rfl) (fun KK hK => ?_)
              go_simp
              refine hK.out _ _ (keepC' ((Upd.refl _ _).alloc _) cC) (fun hHeld => ?_)
              clear hK KK
              try simp only [Act.put, List.setIfInBounds_toArray, List.set_cons_zero, List.set_cons_succ]
              refine wpAnyH_done (by kernel_rfl) ?_ _
              go_wp2_with fail
              go_meet
              case rel => exact Fin1.out _ _ _ _ _ _ HF6.out HCumC.out rfl
            · go_simp
              refine hK.out _ _ (keepC' (((Upd.refl _ _).alloc (.cells #[.slice none 0 0, .slice none 0 0] 35))) cB) (fun hHeld => ?_)
              clear hK KK
              try simp only [Act.put, List.setIfInBounds_toArray, List.set_cons_zero, List.set_cons_succ]
              refine next_last (i := 10) (by rfl) (by kernel_rfl) (fun KK hK => ?_)
              have HCl := Lib.hid (HOf2.out _ b2 c2 (HCumB.out.alloc (.cells #[.slice none 0 0, .slice none 0 0] 35)) (HOB2.out.alloc (.cells #[.slice none 0 0, .slice none 0 0] 35)))
              have HZ10 := Lib.hid (Blk.made wB [.slice none 0 0, .slice none 0 0] 35)
              go_simp
              refine (HCl.out).mono ?_
              rintro e10 wC ⟨hu10, gva6, gvn6, rfl, hF6⟩
              obtain ⟨ma, mc, rfl⟩ : ∃ a c, gva6 = .slice a (ks ++ [kv, 0]).length c := own_form hF6.roots
              obtain ⟨mn, md, rfl⟩ : ∃ a c, gvn6 = .slice a nds.length c := by obtain ⟨nv, _, hn, _⟩ := hF6.nodes; exact own_form hn
              rw [HKl.out] at hF6 ⊢
              have hcum := (HCumB.out.alloc (.cells #[.slice none 0 0, .slice none 0 0] 35)).trans hu10
              have cC := keepC' hcum c0
              have HCumC := Lib.hid hcum
              have HF6 := Lib.hid (FormAt_base (base' := w5.heap.size) hF6 (by first | exact hsB | (simp only [World.size_alloc]; omega)))
              have hsC := hcum.size
              have hzc := HZ10.out.upd hu10 (fun h => h)
              have z0 := hzc.cell 0 rfl
              have z1 := hzc.cell 1 rfl
              have zf0 := hzc.frozen 0
              have zf1 := hzc.frozen 1
              have zl := hzc.lt
              have HZC := Lib.hid hzc
              clear hzc
              clear hu10 hF6 hcum HCl
              go_wp2_with fail
              refine hK.out _ _ cC (fun hHeld => ?_)
              clear hK KK
              try simp only [Act.put, List.setIfInBounds_toArray, List.set_cons_zero, List.set_cons_succ]
              refine take_any (i := 11) (v := ?_) (by rfl) (by kernel_rfl) (by exact (fun _ _ _ h => h)) (by rfl) hHeld ?_ ?_
              rotate_left
              · ((intro V hV; obtain hV0 := hV; go_simp) <;> (with_reducible rfl))
              try simp only [Act.put, List.setIfInBounds_toArray, List.set_cons_zero, List.set_cons_succ]
              refine take_any (i := 12) (v := ?_) (by rfl) (by kernel_rfl) (by exact (fun _ _ _ h => h)) (by rfl) hHeld ?_ ?_
              rotate_left
              · ((intro V hV; obtain hV0 := hV; go_simp) <;> (with_reducible rfl))
              try simp only [Act.put, List.setIfInBounds_toArray, List.set_cons_zero, List.set_cons_succ]
              refine take_any (i := 13) (v := ?_) (by rfl) (by kernel_rfl) (by exact (fun _ _ _ h => h)) (by rfl) hHeld ?_ ?_
              rotate_left
              · ((intro V hV; obtain hV0 := hV; go_simp) <;> (with_reducible rfl))
              try simp only [Act.put, List.setIfInBounds_toArray, List.set_cons_zero, List.set_cons_succ]
              refine next_last (i := 15) (by rfl) (by kernel_rfl) (fun KK hK => ?_)
              have hne : vb ≠ (wB.heap.size) := by omega
              go_simp
              refine hK.out _ _ (keepSet2 hne cC) (fun hHeld => ?_)
              clear hK KK
              try simp only [Act.put, List.setIfInBounds_toArray, List.set_cons_zero, List.set_cons_succ]
              refine next_last (i := 16) (by rfl) (by kernel_rfl) (fun KK hK => ?_)
              go_simp
              refine hK.out _ _ (keepSet2 hne cC) (fun hHeld => ?_)
              clear hK KK
              try simp only [Act.put, List.setIfInBounds_toArray, List.set_cons_zero, List.set_cons_succ]
              refine wpAnyH_done (by kernel_rfl) ?_ _
              go_wp2_with fail
              go_meet
              case rel => exact Fin2.out _ _ _ _ _ _ _ HF6.out HZC.out (by omega) HCumC.out rfl
          · go_simp
            refine hK.out _ _ (keepC' (((Upd.refl _ _).alloc (.cells #[.slice none 0 0, .slice none 0 0] 35))) cA) (fun hHeld => ?_)
            clear hK KK
            try simp only [Act.put, List.setIfInBounds_toArray, List.set_cons_zero, List.set_cons_succ]
            refine next_last (i := 9) (by rfl) (by kernel_rfl) (fun KK hK => ?_)
            have hOW := (HOBA.out.alloc (.cells #[.slice none 0 0, .slice none 0 0] 35))
            have HOW := Lib.hid hOW
            have HOwnW := Lib.hid (HOA.out.alloc (.cells #[.slice none 0 0, .slice none 0 0] 35))
            clear hOW
            have HZW := Lib.hid (Blk.made wA [.slice none 0 0, .slice none 0 0] 35)
            refine step_app _ (by rfl) _ _ 22 (by rfl) w5.heap.size 3 i0 _ 1 8 Try.underlying22 hi0 hz0 hz1 hz2 rfl (by decide) _ rs.length (nums Xs) (by rfl) HOwnW.out _ _ _ [.int .i64 x, .int .i64 0] (by rfl) rfl (fun j u hu => ⟨_, rfl, blk_src HOW.out j u hu⟩) (by simp [Value.oneCell']) (by simp only [maxLen]; omega) (by omega) (by first | omega | (simp only [World.size_alloc]; omega)) ?_
            intro v2 wB ho2 hg2 hat2
            obtain ⟨b2, c2, rfl⟩ := own_form ho2
            have ug : Upd (fun g => (Value.slice b1 rs.length c1').ownBlock = some g) (wA.alloc (.cells #[.slice none 0 0, .slice none 0 0] 35)) wB := (Upd.refl _ _).grown hg2 (fun g hg _ => hg)
            have hcum : Upd (fun _ => False) w5 wB := (HCumA.out.alloc (.cells #[.slice none 0 0, .slice none 0 0] 35)).next ug (fun i hi h => by have := (HOA.out.lt i h).1; omega)
            have cB := keepC' hcum c0
            rw [HNs.out] at ho2
            have HOB2 := Lib.hid ho2
            have HCumB := Lib.hid hcum
            have hsB := hcum.size
            have HZB := Lib.hid (HZW.out.upd ug (fun h => own_offR HOwnW.out HZW.out (by decide) h))
            clear ho2 hg2 hat2 ug hcum
            refine hK.out _ _ cB (fun hHeld => ?_)
            clear hK KK
            try simp only [Act.put, List.setIfInBounds_toArray, List.set_cons_zero, List.set_cons_succ]
            refine next_last (i := 10) (by rfl) (by kernel_rfl) (fun KK hK => ?_)
            have HCl := Lib.hid (HOf2.out _ b2 c2 HCumB.out HOB2.out)
            have HZ10 := Lib.hid HZB.out
            go_simp
            refine (HCl.out).mono ?_
            rintro e10 wC ⟨hu10, gva6, gvn6, rfl, hF6⟩
            obtain ⟨ma, mc, rfl⟩ : ∃ a c, gva6 = .slice a (ks ++ [kv, 0]).length c := own_form hF6.roots
            obtain ⟨mn, md, rfl⟩ : ∃ a c, gvn6 = .slice a nds.length c := by obtain ⟨nv, _, hn, _⟩ := hF6.nodes; exact own_form hn
            rw [HKl.out] at hF6 ⊢
            have hcum := HCumB.out.trans hu10
            have cC := keepC' hcum c0
            have HCumC := Lib.hid hcum
            have HF6 := Lib.hid (FormAt_base (base' := w5.heap.size) hF6 (by first | exact hsB | (simp only [World.size_alloc]; omega)))
            have hsC := hcum.size
            have hzc := HZ10.out.upd hu10 (fun h => h)
            have z0 := hzc.cell 0 rfl
            have z1 := hzc.cell 1 rfl
            have zf0 := hzc.frozen 0
            have zf1 := hzc.frozen 1
            have zl := hzc.lt
            have HZC := Lib.hid hzc
            clear hzc
            clear hu10 hF6 hcum HCl
            go_wp2_with fail
            refine hK.out _ _ cC (fun hHeld => ?_)
            clear hK KK
            try simp only [Act.put, List.setIfInBounds_toArray, List.set_cons_zero, List.set_cons_succ]
            refine take_any (i := 11) (v := ?_) (by rfl) (by kernel_rfl) (by exact (fun _ _ _ h => h)) (by rfl) hHeld ?_ ?_
            rotate_left
            · ((intro V hV; obtain hV0 := hV; go_simp) <;> (with_reducible rfl))
            try simp only [Act.put, List.setIfInBounds_toArray, List.set_cons_zero, List.set_cons_succ]
            refine take_any (i := 12) (v := ?_) (by rfl) (by kernel_rfl) (by exact (fun _ _ _ h => h)) (by rfl) hHeld ?_ ?_
            rotate_left
            · ((intro V hV; obtain hV0 := hV; go_simp) <;> (with_reducible rfl))
            try simp only [Act.put, List.setIfInBounds_toArray, List.set_cons_zero, List.set_cons_succ]
            refine take_any (i := 13) (v := ?_) (by rfl) (by kernel_rfl) (by exact (fun _ _ _ h => h)) (by rfl) hHeld ?_ ?_
            rotate_left
            · ((intro V hV; obtain hV0 := hV; go_simp) <;> (with_reducible rfl))
            try simp only [Act.put, List.setIfInBounds_toArray, List.set_cons_zero, List.set_cons_succ]
            refine next_last (i := 15) (by rfl) (by kernel_rfl) (fun KK hK => ?_)
            have hne : vb ≠ (wA.heap.size) := by omega
            go_simp
            refine hK.out _ _ (keepSet2 hne cC) (fun hHeld => ?_)
            clear hK KK
            try simp only [Act.put, List.setIfInBounds_toArray, List.set_cons_zero, List.set_cons_succ]
            refine next_last (i := 16) (by rfl) (by kernel_rfl) (fun KK hK => ?_)
            go_simp
            refine hK.out _ _ (keepSet2 hne cC) (fun hHeld => ?_)
            clear hK KK
            try simp only [Act.put, List.setIfInBounds_toArray, List.set_cons_zero, List.set_cons_succ]
            refine wpAnyH_done (by kernel_rfl) ?_ _
            go_wp2_with fail
            go_meet
            case rel => exact Fin2.out _ _ _ _ _ _ _ HF6.out HZC.out (by omega) HCumC.out rfl
        · go_simp
          refine hK.out _ _ (keepC' (((((Upd.refl _ _).alloc (.cells #[] 3)).alloc (.cells #[.int .i64 x, .int .i64 0] 3)).alloc (.cells #[.slice none 0 0, .slice none 0 0] 35)).drew) c0) (fun hHeld => ?_)
          clear hK KK
          try simp only [Act.put, List.setIfInBounds_toArray, List.set_cons_zero, List.set_cons_succ]
          refine next_last (i := 3) (by rfl) (by kernel_rfl) (fun KK hK => ?_)
          have oe0 := own_empty w5 3 1 w5.heap.size (by first | exact Nat.le_refl _ | (simp only [World.size_alloc]; omega))
          have oe1 := own_upd oe0 ((Upd.refl (fun _ => False) _).alloc (.cells #[.int .i64 x, .int .i64 0] 3)) (fun _ _ h => h)
          have oe2 := own_upd oe1 ((Upd.refl (fun _ => False) _).alloc (.cells #[.slice none 0 0, .slice none 0 0] 35)) (fun _ _ h => h)
          have OE := Lib.hid oe2
          have SR := Lib.hid (S0.out.quiet ((((Upd.refl (fun _ => False) w5).alloc (.cells #[] 3)).alloc (.cells #[.int .i64 x, .int .i64 0] 3)).alloc (.cells #[.slice none 0 0, .slice none 0 0] 35)))
          clear oe0 oe1 oe2
          refine step_app _ (by rfl) _ _ 22 (by rfl) w5.heap.size 3 i0 _ 1 8 Try.underlying22 hi0 hz0 hz1 hz2 rfl (by decide) _ 0 [] (by rfl) OE.out _ _ _ (nums Xs) (by rfl) HXn.out SR.out (nums_one _) (by simp only [maxLen]; omega) (by omega) (by simp only [World.size_alloc, World.size_drew]; omega) ?_
          intro v1 wA ho1 hg1 hat1
          rw [Nat.zero_add, List.nil_append] at ho1
          obtain ⟨b1, c1', rfl⟩ := own_form ho1
          have hcum : Upd (fun _ => False) w5 wA := (((((Upd.refl (fun _ => False) w5).alloc (.cells #[] 3)).alloc (.cells #[.int .i64 x, .int .i64 0] 3)).alloc (.cells #[.slice none 0 0, .slice none 0 0] 35)).drew).grown hg1 (fun g hg hlt => by have h : (w5.heap.size) = g := Option.some.inj hg; omega)
          have cA := keepC' hcum c0
          have hOB := ((Blk.made' w5 (.cells #[] 3) [.int .i64 x, .int .i64 0] 3).alloc (.cells #[.slice none 0 0, .slice none 0 0] 35)).drew.of_eq (hg1.block (w5.heap.size + 1) ((Blk.made' w5 (.cells #[] 3) [.int .i64 x, .int .i64 0] 3).alloc (.cells #[.slice none 0 0, .slice none 0 0] 35)).lt (fun e => by have h : (w5.heap.size + 1) = (w5.heap.size) := Option.some.inj e; omega))
          have HOBA := Lib.hid hOB
          clear hOB
          have hZ := (Go.Proofs.Ytlphlaenecidiaa.Heap.Blk.made3 w5 (.cells #[] 3) (.cells #[.int .i64 x, .int .i64 0] 3) [.slice none 0 0, .slice none 0 0] 35).drew.of_eq (hg1.block (w5.heap.size + 1 + 1) (Go.Proofs.Ytlphlaenecidiaa.Heap.Blk.made3 w5 (.cells #[] 3) (.cells #[.int .i64 x, .int .i64 0] 3) [.slice none 0 0, .slice none 0 0] 35).lt (fun e => by have h : (w5.heap.size + 1 + 1) = (w5.heap.size) := Option.some.inj e; omega))
          have HZA := Lib.hid hZ
          clear hZ
          have HOA := Lib.hid ho1
          have HCumA := Lib.hid hcum
          have hsA := hcum.size
          clear ho1 hg1 hat1 hcum
          refine hK.out _ _ cA (fun hHeld => ?_)
          clear hK KK
          try simp only [Act.put, List.setIfInBounds_toArray, List.set_cons_zero, List.set_cons_succ]
          refine next_last (i := 9) (by rfl) (by kernel_rfl) (fun KK hK => ?_)
          have hOW := HOBA.out
          have HOW := Lib.hid hOW
          have HOwnW := Lib.hid HOA.out
          clear hOW
          have HZW := Lib.hid HZA.out
          refine step_app _ (by rfl) _ _ 22 (by rfl) w5.heap.size 3 i0 _ 1 8 Try.underlying22 hi0 hz0 hz1 hz2 rfl (by decide) _ rs.length (nums Xs) (by rfl) HOwnW.out _ _ _ [.int .i64 x, .int .i64 0] (by rfl) rfl (fun j u hu => ⟨_, rfl, blk_src HOW.out j u hu⟩) (by simp [Value.oneCell']) (by simp only [maxLen]; omega) (by omega) (by first | omega | (simp only [World.size_alloc]; omega)) ?_
          intro v2 wB ho2 hg2 hat2
          obtain ⟨b2, c2, rfl⟩ := own_form ho2
          have ug : Upd (fun g => (Value.slice b1 rs.length c1').ownBlock = some g) wA wB := (Upd.refl _ _).grown hg2 (fun g hg _ => hg)
          have hcum : Upd (fun _ => False) w5 wB := HCumA.out.next ug (fun i hi h => by have := (HOA.out.lt i h).1; omega)
          have cB := keepC' hcum c0
          rw [HNs.out] at ho2
          have HOB2 := Lib.hid ho2
          have HCumB := Lib.hid hcum
          have hsB := hcum.size
          have HZB := Lib.hid (HZW.out.upd ug (fun h => own_offR HOwnW.out HZW.out (by decide) h))
          clear ho2 hg2 hat2 ug hcum
          refine hK.out _ _ cB (fun hHeld => ?_)
          clear hK KK
          try simp only [Act.put, List.setIfInBounds_toArray, List.set_cons_zero, List.set_cons_succ]
          refine next_last (i := 10) (by rfl) (by kernel_rfl) (fun KK hK => ?_)
          have HCl := Lib.hid (HOf2.out _ b2 c2 HCumB.out HOB2.out)
          have HZ10 := Lib.hid HZB.out
          go_simp
          refine (HCl.out).mono ?_
          rintro e10 wC ⟨hu10, gva6, gvn6, rfl, hF6⟩
          obtain ⟨ma, mc, rfl⟩ : ∃ a c, gva6 = .slice a (ks ++ [kv, 0]).length c := own_form hF6.roots
          obtain ⟨mn, md, rfl⟩ : ∃ a c, gvn6 = .slice a nds.length c := by obtain ⟨nv, _, hn, _⟩ := hF6.nodes; exact own_form hn
          rw [HKl.out] at hF6 ⊢
          have hcum := HCumB.out.trans hu10
          have cC := keepC' hcum c0
          have HCumC := Lib.hid hcum
          have HF6 := Lib.hid (FormAt_base (base' := w5.heap.size) hF6 (by first | exact hsB | (simp only [World.size_alloc]; omega)))
          have hsC := hcum.size
          have hzc := HZ10.out.upd hu10 (fun h => h)
          have z0 := hzc.cell 0 rfl
          have z1 := hzc.cell 1 rfl
          have zf0 := hzc.frozen 0
          have zf1 := hzc.frozen 1
          have zl := hzc.lt
          have HZC := Lib.hid hzc
          clear hzc
          clear hu10 hF6 hcum HCl
          go_wp2_with fail
          refine hK.out _ _ cC (fun hHeld => ?_)
          clear hK KK
          try simp only [Act.put, List.setIfInBounds_toArray, List.set_cons_zero, List.set_cons_succ]
          refine take_any (i := 11) (v := ?_) (by rfl) (by kernel_rfl) (by exact (fun _ _ _ h => h)) (by rfl) hHeld ?_ ?_
          rotate_left
          · ((intro V hV; obtain hV0 := hV; go_simp) <;> (with_reducible rfl))
          try simp only [Act.put, List.setIfInBounds_toArray, List.set_cons_zero, List.set_cons_succ]
          refine take_any (i := 12) (v := ?_) (by rfl) (by kernel_rfl) (by exact (fun _ _ _ h => h)) (by rfl) hHeld ?_ ?_
          rotate_left
          · ((intro V hV; obtain hV0 := hV; go_simp) <;> (with_reducible rfl))
          try simp only [Act.put, List.setIfInBounds_toArray, List.set_cons_zero, List.set_cons_succ]
          refine take_any (i := 13) (v := ?_) (by rfl) (by kernel_rfl) (by exact (fun _ _ _ h => h)) (by rfl) hHeld ?_ ?_
          rotate_left
          · ((intro V hV; obtain hV0 := hV; go_simp) <;> (with_reducible rfl))
          try simp only [Act.put, List.setIfInBounds_toArray, List.set_cons_zero, List.set_cons_succ]
          refine next_last (i := 15) (by rfl) (by kernel_rfl) (fun KK hK => ?_)
          have hne : vb ≠ (w5.heap.size + 1 + 1) := by omega
          go_simp
          refine hK.out _ _ (keepSet2 hne cC) (fun hHeld => ?_)
          clear hK KK
          try simp only [Act.put, List.setIfInBounds_toArray, List.set_cons_zero, List.set_cons_succ]
          refine next_last (i := 16) (by rfl) (by kernel_rfl) (fun KK hK => ?_)
          go_simp
          refine hK.out _ _ (keepSet2 hne cC) (fun hHeld => ?_)
          clear hK KK
          try simp only [Act.put, List.setIfInBounds_toArray, List.set_cons_zero, List.set_cons_succ]
          refine wpAnyH_done (by kernel_rfl) ?_ _
          go_wp2_with fail
          go_meet
          case rel => exact Fin2.out _ _ _ _ _ _ _ HF6.out HZC.out (by omega) HCumC.out rfl
      · go_simp
        refine hK.out _ _ (keepC' ((((Upd.refl _ _).alloc (.cells #[] 3)).alloc (.cells #[.slice none 0 0, .slice none 0 0] 35)).drew) c0) (fun hHeld => ?_)
        clear hK KK
        try simp only [Act.put, List.setIfInBounds_toArray, List.set_cons_zero, List.set_cons_succ]
        refine both_last 3 8 (by rfl) (by rfl) (by kernel_rfl) (fun KK hK => ?_) (fun KK hK => ?_)
        · have oe0 := own_empty w5 3 1 w5.heap.size (by first | exact Nat.le_refl _ | (simp only [World.size_alloc]; omega))
          have oe1 := own_upd oe0 ((Upd.refl (fun _ => False) _).alloc (.cells #[.slice none 0 0, .slice none 0 0] 35)) (fun _ _ h => h)
          have OE := Lib.hid oe1
          have SR := Lib.hid (S0.out.quiet (((Upd.refl (fun _ => False) w5).alloc (.cells #[] 3)).alloc (.cells #[.slice none 0 0, .slice none 0 0] 35)))
          clear oe0 oe1
          refine step_app _ (by rfl) _ _ 22 (by rfl) w5.heap.size 3 i0 _ 1 8 Try.underlying22 hi0 hz0 hz1 hz2 rfl (by decide) _ 0 [] (by rfl) OE.out _ _ _ (nums Xs) (by rfl) HXn.out SR.out (nums_one _) (by simp only [maxLen]; omega) (by omega) (by simp only [World.size_alloc, World.size_drew]; omega) ?_
          intro v1 wA ho1 hg1 hat1
          rw [Nat.zero_add, List.nil_append] at ho1
          obtain ⟨b1, c1', rfl⟩ := own_form ho1
          have hcum : Upd (fun _ => False) w5 wA := ((((Upd.refl (fun _ => False) w5).alloc (.cells #[] 3)).alloc (.cells #[.slice none 0 0, .slice none 0 0] 35)).drew).grown hg1 (fun g hg hlt => by have h : (w5.heap.size) = g := Option.some.inj hg; omega)
          have cA := keepC' hcum c0
          have hZ := (Blk.made' w5 (.cells #[] 3) [.slice none 0 0, .slice none 0 0] 35).drew.of_eq (hg1.block (w5.heap.size + 1) (Blk.made' w5 (.cells #[] 3) [.slice none 0 0, .slice none 0 0] 35).lt (fun e => by have h : (w5.heap.size + 1) = (w5.heap.size) := Option.some.inj e; omega))
          have HZA := Lib.hid hZ
          clear hZ
          have HOA := Lib.hid ho1
          have HCumA := Lib.hid hcum
          have hsA := hcum.size
          clear ho1 hg1 hat1 hcum
          refine hK.out _ _ cA (fun hHeld => ?_)
          clear hK KK
          try simp only [Act.put, List.setIfInBounds_toArray, List.set_cons_zero, List.set_cons_succ]
          refine next_last (i := 8) (by rfl) (by kernel_rfl) (fun KK hK => ?_)
          go_simp
          refine hK.out _ _ (keepC' (((Upd.refl _ _).alloc (.cells #[.int .i64 x, .int .i64 0] 3))) cA) (fun hHeld => ?_)
          clear hK KK
          try simp only [Act.put, List.setIfInBounds_toArray, List.set_cons_zero, List.set_cons_succ]
          refine next_last (i := 9) (by rfl) (by kernel_rfl) (fun KK hK => ?_)
          have hOW := (Blk.made wA [.int .i64 x, .int .i64 0] 3)
          have HOW := Lib.hid hOW
          have HOwnW := Lib.hid (HOA.out.alloc (.cells #[.int .i64 x, .int .i64 0] 3))
          clear hOW
          have HZW := Lib.hid (HZA.out.alloc (.cells #[.int .i64 x, .int .i64 0] 3))
          refine step_app _ (by rfl) _ _ 22 (by rfl) w5.heap.size 3 i0 _ 1 8 Try.underlying22 hi0 hz0 hz1 hz2 rfl (by decide) _ rs.length (nums Xs) (by rfl) HOwnW.out _ _ _ [.int .i64 x, .int .i64 0] (by rfl) rfl (fun j u hu => ⟨_, rfl, blk_src HOW.out j u hu⟩) (by simp [Value.oneCell']) (by simp only [maxLen]; omega) (by omega) (by first | omega | (simp only [World.size_alloc]; omega)) ?_
          intro v2 wB ho2 hg2 hat2
          obtain ⟨b2, c2, rfl⟩ := own_form ho2
          have ug : Upd (fun g => (Value.slice b1 rs.length c1').ownBlock = some g) (wA.alloc (.cells #[.int .i64 x, .int .i64 0] 3)) wB := (Upd.refl _ _).grown hg2 (fun g hg _ => hg)
          have hcum : Upd (fun _ => False) w5 wB := (HCumA.out.alloc (.cells #[.int .i64 x, .int .i64 0] 3)).next ug (fun i hi h => by have := (HOA.out.lt i h).1; omega)
          have cB := keepC' hcum c0
          rw [HNs.out] at ho2
          have HOB2 := Lib.hid ho2
          have HCumB := Lib.hid hcum
          have hsB := hcum.size
          have HZB := Lib.hid (HZW.out.upd ug (fun h => own_offR HOwnW.out HZW.out (by decide) h))
          clear ho2 hg2 hat2 ug hcum
          refine hK.out _ _ cB (fun hHeld => ?_)
          clear hK KK
          try simp only [Act.put, List.setIfInBounds_toArray, List.set_cons_zero, List.set_cons_succ]
          refine next_last (i := 10) (by rfl) (by kernel_rfl) (fun KK hK => ?_)
          have HCl := Lib.hid (HOf2.out _ b2 c2 HCumB.out HOB2.out)
          have HZ10 := Lib.hid HZB.out
          go_simp
          refine (HCl.out).mono ?_
          rintro e10 wC ⟨hu10, gva6, gvn6, rfl, hF6⟩
          obtain ⟨ma, mc, rfl⟩ : ∃ a c, gva6 = .slice a (ks ++ [kv, 0]).length c := own_form hF6.roots
          obtain ⟨mn, md, rfl⟩ : ∃ a c, gvn6 = .slice a nds.length c := by obtain ⟨nv, _, hn, _⟩ := hF6.nodes; exact own_form hn
          rw [HKl.out] at hF6 ⊢
          have hcum := HCumB.out.trans hu10
          have cC := keepC' hcum c0
          have HCumC := Lib.hid hcum
          have HF6 := Lib.hid (FormAt_base (base' := w5.heap.size) hF6 (by first | exact hsB | (simp only [World.size_alloc]; omega)))
          have hsC := hcum.size
          have hzc := HZ10.out.upd hu10 (fun h => h)
          have z0 := hzc.cell 0 rfl
          have z1 := hzc.cell 1 rfl
          have zf0 := hzc.frozen 0
          have zf1 := hzc.frozen 1
          have zl := hzc.lt
          have HZC := Lib.hid hzc
          clear hzc
          clear hu10 hF6 hcum HCl
          go_wp2_with fail
          refine hK.out _ _ cC (fun hHeld => ?_)
          clear hK KK
          try simp only [Act.put, List.setIfInBounds_toArray, List.set_cons_zero, List.set_cons_succ]
          refine take_any (i := 11) (v := ?_) (by rfl) (by kernel_rfl) (by exact (fun _ _ _ h => h)) (by rfl) hHeld ?_ ?_
          rotate_left
          · ((intro V hV; obtain hV0 := hV; go_simp) <;> (with_reducible rfl))
          try simp only [Act.put, List.setIfInBounds_toArray, List.set_cons_zero, List.set_cons_succ]
          refine take_any (i := 12) (v := ?_) (by rfl) (by kernel_rfl) (by exact (fun _ _ _ h => h)) (by rfl) hHeld ?_ ?_
          rotate_left
          · ((intro V hV; obtain hV0 := hV; go_simp) <;> (with_reducible rfl))
          try simp only [Act.put, List.setIfInBounds_toArray, List.set_cons_zero, List.set_cons_succ]
          refine take_any (i := 13) (v := ?_) (by rfl) (by kernel_rfl) (by exact (fun _ _ _ h => h)) (by rfl) hHeld ?_ ?_
          rotate_left
          · ((intro V hV; obtain hV0 := hV; go_simp) <;> (with_reducible rfl))
          try simp only [Act.put, List.setIfInBounds_toArray, List.set_cons_zero, List.set_cons_succ]
          refine next_last (i := 15) (by rfl) (by kernel_rfl) (fun KK hK => ?_)
          have hne : vb ≠ (w5.heap.size + 1) := by omega
          go_simp
          refine hK.out _ _ (keepSet2 hne cC) (fun hHeld => ?_)
          clear hK KK
          try simp only [Act.put, List.setIfInBounds_toArray, List.set_cons_zero, List.set_cons_succ]
          refine next_last (i := 16) (by rfl) (by kernel_rfl) (fun KK hK => ?_)
          go_simp
          refine hK.out _ _ (keepSet2 hne cC) (fun hHeld => ?_)
          clear hK KK
          try simp only [Act.put, List.setIfInBounds_toArray, List.set_cons_zero, List.set_cons_succ]
          refine wpAnyH_done (by kernel_rfl) ?_ _
          go_wp2_with fail
          go_meet
          case rel => exact Fin2.out _ _ _ _ _ _ _ HF6.out HZC.out (by omega) HCumC.out rfl
        · go_simp
          refine hK.out _ _ (keepC' (((((Upd.refl _ _).alloc (.cells #[] 3)).alloc (.cells #[.slice none 0 0, .slice none 0 0] 35)).alloc (.cells #[.int .i64 x, .int .i64 0] 3)).drew) c0) (fun hHeld => ?_)
          clear hK KK
          try simp only [Act.put, List.setIfInBounds_toArray, List.set_cons_zero, List.set_cons_succ]
          refine next_last (i := 3) (by rfl) (by kernel_rfl) (fun KK hK => ?_)
          have oe0 := own_empty w5 3 1 w5.heap.size (by first | exact Nat.le_refl _ | (simp only [World.size_alloc]; omega))
          have oe1 := own_upd oe0 ((Upd.refl (fun _ => False) _).alloc (.cells #[.slice none 0 0, .slice none 0 0] 35)) (fun _ _ h => h)
          have oe2 := own_upd oe1 ((Upd.refl (fun _ => False) _).alloc (.cells #[.int .i64 x, .int .i64 0] 3)) (fun _ _ h => h)
          have OE := Lib.hid oe2
          have SR := Lib.hid (S0.out.quiet ((((Upd.refl (fun _ => False) w5).alloc (.cells #[] 3)).alloc (.cells #[.slice none 0 0, .slice none 0 0] 35)).alloc (.cells #[.int .i64 x, .int .i64 0] 3)))
          clear oe0 oe1 oe2
          refine step_app _ (by rfl) _ _ 22 (by rfl) w5.heap.size 3 i0 _ 1 8 Try.underlying22 hi0 hz0 hz1 hz2 rfl (by decide) _ 0 [] (by rfl) OE.out _ _ _ (nums Xs) (by rfl) HXn.out SR.out (nums_one _) (by simp only [maxLen]; omega) (by omega) (by simp only [World.size_alloc, World.size_drew]; omega) ?_
          intro v1 wA ho1 hg1 hat1
          rw [Nat.zero_add, List.nil_append] at ho1
          obtain ⟨b1, c1', rfl⟩ := own_form ho1
          have hcum : Upd (fun _ => False) w5 wA := (((((Upd.refl (fun _ => False) w5).alloc (.cells #[] 3)).alloc (.cells #[.slice none 0 0, .slice none 0 0] 35)).alloc (.cells #[.int .i64 x, .int .i64 0] 3)).drew).grown hg1 (fun g hg hlt => by have h : (w5.heap.size) = g := Option.some.inj hg; omega)
          have cA := keepC' hcum c0
          have hZ := ((Blk.made' w5 (.cells #[] 3) [.slice none 0 0, .slice none 0 0] 35).alloc (.cells #[.int .i64 x, .int .i64 0] 3)).drew.of_eq (hg1.block (w5.heap.size + 1) ((Blk.made' w5 (.cells #[] 3) [.slice none 0 0, .slice none 0 0] 35).alloc (.cells #[.int .i64 x, .int .i64 0] 3)).lt (fun e => by have h : (w5.heap.size + 1) = (w5.heap.size) := Option.some.inj e; omega))
          have HZA := Lib.hid hZ
          clear hZ
          have hOB := (Go.Proofs.Ytlphlaenecidiaa.Heap.Blk.made3 w5 (.cells #[] 3) (.cells #[.slice none 0 0, .slice none 0 0] 35) [.int .i64 x, .int .i64 0] 3).drew.of_eq (hg1.block (w5.heap.size + 1 + 1) (Go.Proofs.Ytlphlaenecidiaa.Heap.Blk.made3 w5 (.cells #[] 3) (.cells #[.slice none 0 0, .slice none 0 0] 35) [.int .i64 x, .int .i64 0] 3).lt (fun e => by have h : (w5.heap.size + 1 + 1) = (w5.heap.size) := Option.some.inj e; omega))
          have HOBA := Lib.hid hOB
          clear hOB
          have HOA := Lib.hid ho1
          have HCumA := Lib.hid hcum
          have hsA := hcum.size
          clear ho1 hg1 hat1 hcum
          refine hK.out _ _ cA (fun hHeld => ?_)
          clear hK KK
          try simp only [Act.put, List.setIfInBounds_toArray, List.set_cons_zero, List.set_cons_succ]
          refine next_last (i := 9) (by rfl) (by kernel_rfl) (fun KK hK => ?_)
          have hOW := HOBA.out
          have HOW := Lib.hid hOW
          have HOwnW := Lib.hid HOA.out
          clear hOW
          have HZW := Lib.hid HZA.out
          refine step_app _ (by rfl) _ _ 22 (by rfl) w5.heap.size 3 i0 _ 1 8 Try.underlying22 hi0 hz0 hz1 hz2 rfl (by decide) _ rs.length (nums Xs) (by rfl) HOwnW.out _ _ _ [.int .i64 x, .int .i64 0] (by rfl) rfl (fun j u hu => ⟨_, rfl, blk_src HOW.out j u hu⟩) (by simp [Value.oneCell']) (by simp only [maxLen]; omega) (by omega) (by first | omega | (simp only [World.size_alloc]; omega)) ?_
          intro v2 wB ho2 hg2 hat2
          obtain ⟨b2, c2, rfl⟩ := own_form ho2
          have ug : Upd (fun g => (Value.slice b1 rs.length c1').ownBlock = some g) wA wB := (Upd.refl _ _).grown hg2 (fun g hg _ => hg)
          have hcum : Upd (fun _ => False) w5 wB := HCumA.out.next ug (fun i hi h => by have := (HOA.out.lt i h).1; omega)
          have cB := keepC' hcum c0
          rw [HNs.out] at ho2
          have HOB2 := Lib.hid ho2
          have HCumB := Lib.hid hcum
          have hsB := hcum.size
          have HZB := Lib.hid (HZW.out.upd ug (fun h => own_offR HOwnW.out HZW.out (by decide) h))
          clear ho2 hg2 hat2 ug hcum
          refine hK.out _ _ cB (fun hHeld => ?_)
          clear hK KK
          try simp only [Act.put, List.setIfInBounds_toArray, List.set_cons_zero, List.set_cons_succ]
          refine next_last (i := 10) (by rfl) (by kernel_rfl) (fun KK hK => ?_)
          have HCl := Lib.hid (HOf2.out _ b2 c2 HCumB.out HOB2.out)
          have HZ10 := Lib.hid HZB.out
          go_simp
          refine (HCl.out).mono ?_
          rintro e10 wC ⟨hu10, gva6, gvn6, rfl, hF6⟩
          obtain ⟨ma, mc, rfl⟩ : ∃ a c, gva6 = .slice a (ks ++ [kv, 0]).length c := own_form hF6.roots
          obtain ⟨mn, md, rfl⟩ : ∃ a c, gvn6 = .slice a nds.length c := by obtain ⟨nv, _, hn, _⟩ := hF6.nodes; exact own_form hn
          rw [HKl.out] at hF6 ⊢
          have hcum := HCumB.out.trans hu10
          have cC := keepC' hcum c0
          have HCumC := Lib.hid hcum
          have HF6 := Lib.hid (FormAt_base (base' := w5.heap.size) hF6 (by first | exact hsB | (simp only [World.size_alloc]; omega)))
          have hsC := hcum.size
          have hzc := HZ10.out.upd hu10 (fun h => h)
          have z0 := hzc.cell 0 rfl
          have z1 := hzc.cell 1 rfl
          have zf0 := hzc.frozen 0
          have zf1 := hzc.frozen 1
          have zl := hzc.lt
          have HZC := Lib.hid hzc
          clear hzc
          clear hu10 hF6 hcum HCl
          go_wp2_with fail
          refine hK.out _ _ cC (fun hHeld => ?_)
          clear hK KK
          try simp only [Act.put, List.setIfInBounds_toArray, List.set_cons_zero, List.set_cons_succ]
          refine take_any (i := 11) (v := ?_) (by rfl) (by kernel_rfl) (by exact (fun _ _ _ h => h)) (by rfl) hHeld ?_ ?_
          rotate_left
          · ((intro V hV; obtain hV0 := hV; go_simp) <;> (with_reducible rfl))
          try simp only [Act.put, List.setIfInBounds_toArray, List.set_cons_zero, List.set_cons_succ]
          refine take_any (i := 12) (v := ?_) (by rfl) (by kernel_rfl) (by exact (fun _ _ _ h => h)) (by rfl) hHeld ?_ ?_
          rotate_left
          · ((intro V hV; obtain hV0 := hV; go_simp) <;> (with_reducible rfl))
          try simp only [Act.put, List.setIfInBounds_toArray, List.set_cons_zero, List.set_cons_succ]
          refine take_any (i := 13) (v := ?_) (by rfl) (by kernel_rfl) (by exact (fun _ _ _ h => h)) (by rfl) hHeld ?_ ?_
          rotate_left
          · ((intro V hV; obtain hV0 := hV; go_simp) <;> (with_reducible rfl))
          try simp only [Act.put, List.setIfInBounds_toArray, List.set_cons_zero, List.set_cons_succ]
          refine next_last (i := 15) (by rfl) (by kernel_rfl) (fun KK hK => ?_)
          have hne : vb ≠ (w5.heap.size + 1) := by omega
          go_simp
          refine hK.out _ _ (keepSet2 hne cC) (fun hHeld => ?_)
          clear hK KK
          try simp only [Act.put, List.setIfInBounds_toArray, List.set_cons_zero, List.set_cons_succ]
          refine next_last (i := 16) (by rfl) (by kernel_rfl) (fun KK hK => ?_)
          go_simp
          refine hK.out _ _ (keepSet2 hne cC) (fun hHeld => ?_)
          clear hK KK
          try simp only [Act.put, List.setIfInBounds_toArray, List.set_cons_zero, List.set_cons_succ]
          refine wpAnyH_done (by kernel_rfl) ?_ _
          go_wp2_with fail
          go_meet
          case rel => exact Fin2.out _ _ _ _ _ _ _ HF6.out HZC.out (by omega) HCumC.out rfl
    · go_simp
      refine hK.out _ _ (keepC' (((Upd.refl _ _).alloc (.cells #[.int .i64 x, .int .i64 0] 3)).drew) c0) (fun hHeld => ?_)
      clear hK KK
      try simp only [Act.put, List.setIfInBounds_toArray, List.set_cons_zero, List.set_cons_succ]
      refine both_last 1 14 (by rfl) (by rfl) (by kernel_rfl) (fun KK hK => ?_) (fun KK hK => ?_)
      · go_simp
        refine hK.out _ _ (keepC' ((((Upd.refl _ _).alloc (.cells #[.int .i64 x, .int .i64 0] 3)).alloc (.cells #[] 3)).drew) c0) (fun hHeld => ?_)
        clear hK KK
        try simp only [Act.put, List.setIfInBounds_toArray, List.set_cons_zero, List.set_cons_succ]
        refine both_last 3 14 (by rfl) (by rfl) (by kernel_rfl) (fun KK hK => ?_) (fun KK hK => ?_)
        · have oe0 := own_empty (w5.alloc (.cells #[.int .i64 x, .int .i64 0] 3)) 3 1 w5.heap.size (by first | exact Nat.le_refl _ | (simp only [World.size_alloc]; omega))
          simp only [World.size_alloc] at oe0
          have OE := Lib.hid oe0
          have SR := Lib.hid (S0.out.quiet (((Upd.refl (fun _ => False) w5).alloc (.cells #[.int .i64 x, .int .i64 0] 3)).alloc (.cells #[] 3)))
          clear oe0
          refine step_app _ (by rfl) _ _ 22 (by rfl) w5.heap.size 3 i0 _ 1 8 Try.underlying22 hi0 hz0 hz1 hz2 rfl (by decide) _ 0 [] (by rfl) OE.out _ _ _ (nums Xs) (by rfl) HXn.out SR.out (nums_one _) (by simp only [maxLen]; omega) (by omega) (by simp only [World.size_alloc, World.size_drew]; omega) ?_
          intro v1 wA ho1 hg1 hat1
          rw [Nat.zero_add, List.nil_append] at ho1
          obtain ⟨b1, c1', rfl⟩ := own_form ho1
          have hcum : Upd (fun _ => False) w5 wA := ((((Upd.refl (fun _ => False) w5).alloc (.cells #[.int .i64 x, .int .i64 0] 3)).alloc (.cells #[] 3)).drew).grown hg1 (fun g hg hlt => by have h : (w5.heap.size + 1) = g := Option.some.inj hg; omega)
          have cA := keepC' hcum c0
          have hOB := ((Blk.made w5 [.int .i64 x, .int .i64 0] 3).alloc (.cells #[] 3)).drew.of_eq (hg1.block (w5.heap.size) ((Blk.made w5 [.int .i64 x, .int .i64 0] 3).alloc (.cells #[] 3)).lt (fun e => by have h : (w5.heap.size) = (w5.heap.size + 1) := Option.some.inj e; omega))
          have HOBA := Lib.hid hOB
          clear hOB
          have HOA := Lib.hid ho1
          have HCumA := Lib.hid hcum
          have hsA := hcum.size
          clear ho1 hg1 hat1 hcum
          refine hK.out _ _ cA (fun hHeld => ?_)
          clear hK KK
          try simp only [Act.put, List.setIfInBounds_toArray, List.set_cons_zero, List.set_cons_succ]
          refine both_last 9 14 (by rfl) (by rfl) (by kernel_rfl) (fun KK hK => ?_) (fun KK hK => ?_)
          · have hOW := HOBA.out
            have HOW := Lib.hid hOW
            have HOwnW := Lib.hid HOA.out
            clear hOW
            refine step_app _ (by rfl) _ _ 22 (by rfl) w5.heap.size 3 i0 _ 1 8 Try.underlying22 hi0 hz0 hz1 hz2 rfl (by decide) _ rs.length (nums Xs) (by rfl) HOwnW.out _ _ _ [.int .i64 x, .int .i64 0] (by rfl) rfl (fun j u hu => ⟨_, rfl, blk_src HOW.out j u hu⟩) (by simp [Value.oneCell']) (by simp only [maxLen]; omega) (by omega) (by first | omega | (simp only [World.size_alloc]; omega)) ?_
            intro v2 wB ho2 hg2 hat2
            obtain ⟨b2, c2, rfl⟩ := own_form ho2
            have ug : Upd (fun g => (Value.slice b1 rs.length c1').ownBlock = some g) wA wB := (Upd.refl _ _).grown hg2 (fun g hg _ => hg)
            have hcum : Upd (fun _ => False) w5 wB := HCumA.out.next ug (fun i hi h => by have := (HOA.out.lt i h).1; omega)
            have cB := keepC' hcum c0
            rw [HNs.out] at ho2
            have HOB2 := Lib.hid ho2
            have HCumB := Lib.hid hcum
            have hsB := hcum.size
            clear ho2 hg2 hat2 ug hcum
            refine hK.out _ _ cB (fun hHeld => ?_)
            clear hK KK
            try simp only [Act.put, List.setIfInBounds_toArray, List.set_cons_zero, List.set_cons_succ]
            refine both_last 10 14 (by rfl) (by rfl) (by kernel_rfl) (fun KK hK => ?_) (fun KK hK => ?_)
            · have HCl := Lib.hid (HOf2.out _ b2 c2 HCumB.out HOB2.out)
              go_simp
              refine (HCl.out).mono ?_
              rintro e10 wC ⟨hu10, gva6, gvn6, rfl, hF6⟩
              obtain ⟨ma, mc, rfl⟩ : ∃ a c, gva6 = .slice a (ks ++ [kv, 0]).length c := own_form hF6.roots
              obtain ⟨mn, md, rfl⟩ : ∃ a c, gvn6 = .slice a nds.length c := by obtain ⟨nv, _, hn, _⟩ := hF6.nodes; exact own_form hn
              rw [HKl.out] at hF6 ⊢
              have hcum := HCumB.out.trans hu10
              have cC := keepC' hcum c0
              have HCumC := Lib.hid hcum
              have HF6 := Lib.hid (FormAt_base (base' := w5.heap.size) hF6 (by first | exact hsB | (simp only [World.size_alloc]; omega)))
              have hsC := hcum.size
              clear hu10 hF6 hcum HCl
              go_wp2_with fail
              refine hK.out _ _ cC (fun hHeld => ?_)
              clear hK KK
              try simp only [Act.put, List.setIfInBounds_toArray, List.set_cons_zero, List.set_cons_succ]
              refine take_any (i := 11) (v := ?_) (by rfl) (by kernel_rfl) (by exact (fun _ _ _ h => h)) (by rfl) hHeld ?_ ?_
              rotate_left
              · ((intro V hV; obtain hV0 := hV; go_simp) <;> (with_reducible rfl))
              try simp only [Act.put, List.setIfInBounds_toArray, List.set_cons_zero, List.set_cons_succ]
              refine take_any (i := 12) (v := ?_) (by rfl) (by kernel_rfl) (by exact (fun _ _ _ h => h)) (by rfl) hHeld ?_ ?_
              rotate_left
              · ((intro V hV; obtain hV0 := hV; go_simp) <;> (with_reducible rfl))
              try simp only [Act.put, List.setIfInBounds_toArray, List.set_cons_zero, List.set_cons_succ]
              refine take_any (i := 13) (v := ?_) (by rfl) (by kernel_rfl) (by exact (fun _ _ _ h => h)) (by rfl) hHeld ?_ ?_
              rotate_left
              · ((intro V hV; obtain hV0 := hV; go_simp) <;> (with_reducible rfl))
              try simp only [Act.put, List.setIfInBounds_toArray, List.set_cons_zero, List.set_cons_succ]
              refine next_last (i := 14) (by rfl) (by kernel_rfl) (fun KK hK => ?_)
              go_simp
              refine hK.out _ _ (keepC' (((Upd.refl _ _).alloc (.cells #[.slice none 0 0, .slice none 0 0] 35))) cC) (fun hHeld => ?_)
              clear hK KK
              try simp only [Act.put, List.setIfInBounds_toArray, List.set_cons_zero, List.set_cons_succ]
              refine next_last (i := 15) (by rfl) (by kernel_rfl) (fun KK hK => ?_)
              go_simp
              refine hK.out _ _ (keepC' ((Upd.refl _ _).alloc _) cC) (fun hHeld => ?_)
              clear hK KK
              try simp only [Act.put, List.setIfInBounds_toArray, List.set_cons_zero, List.set_cons_succ]
              refine next_last (i := 16) (by rfl) (by kernel_rfl) (fun KK hK => ?_)
              go_simp
              refine hK.out _ _ (keepC' ((Upd.refl _ _).alloc _) cC) (fun hHeld => ?_)
              clear hK KK
              try simp only [Act.put, List.setIfInBounds_toArray, List.set_cons_zero, List.set_cons_succ]
              refine wpAnyH_done (by kernel_rfl) ?_ _
              go_wp2_with fail
              go_meet
              case rel => exact Fin1.out _ _ _ _ _ _ HF6.out HCumC.out rfl
            · go_simp
              refine hK.out _ _ (keepC' (((Upd.refl _ _).alloc (.cells #[.slice none 0 0, .slice none 0 0] 35))) cB) (fun hHeld => ?_)
              clear hK KK
              try simp only [Act.put, List.setIfInBounds_toArray, List.set_cons_zero, List.set_cons_succ]
              refine next_last (i := 10) (by rfl) (by kernel_rfl) (fun KK hK => ?_)
              have HCl := Lib.hid (HOf2.out _ b2 c2 (HCumB.out.alloc (.cells #[.slice none 0 0, .slice none 0 0] 35)) (HOB2.out.alloc (.cells #[.slice none 0 0, .slice none 0 0] 35)))
              have HZ10 := Lib.hid (Blk.made wB [.slice none 0 0, .slice none 0 0] 35)
              go_simp
              refine (HCl.out).mono ?_
              rintro e10 wC ⟨hu10, gva6, gvn6, rfl, hF6⟩
              obtain ⟨ma, mc, rfl⟩ : ∃ a c, gva6 = .slice a (ks ++ [kv, 0]).length c := own_form hF6.roots
              obtain ⟨mn, md, rfl⟩ : ∃ a c, gvn6 = .slice a nds.length c := by obtain ⟨nv, _, hn, _⟩ := hF6.nodes; exact own_form hn
              rw [HKl.out] at hF6 ⊢
              have hcum := (HCumB.out.alloc (.cells #[.slice none 0 0, .slice none 0 0] 35)).trans hu10
              have cC := keepC' hcum c0
              have HCumC := Lib.hid hcum
              have HF6 := Lib.hid (FormAt_base (base' := w5.heap.size) hF6 (by first | exact hsB | (simp only [World.size_alloc]; omega)))
              have hsC := hcum.size
              have hzc := HZ10.out.upd hu10 (fun h => h)
              have z0 := hzc.cell 0 rfl
              have z1 := hzc.cell 1 rfl
              have zf0 := hzc.frozen 0
              have zf1 := hzc.frozen 1
              have zl := hzc.lt
              have HZC := Lib.hid hzc
              clear hzc
              clear hu10 hF6 hcum HCl
              go_wp2_with fail
              refine hK.out _ _ cC (fun hHeld => ?_)
              clear hK KK
              try simp only [Act.put, List.setIfInBounds_toArray, List.set_cons_zero, List.set_cons_succ]
              refine take_any (i := 11) (v := ?_) (by rfl) (by kernel_rfl) (by exact (fun _ _ _ h => h)) (by rfl) hHeld ?_ ?_
              rotate_left
              · ((intro V hV; obtain hV0 := hV; go_simp) <;> (with_reducible rfl))
              try simp only [Act.put, List.setIfInBounds_toArray, List.set_cons_zero, List.set_cons_succ]
              refine take_any (i := 12) (v := ?_) (by rfl) (by kernel_rfl) (by exact (fun _ _ _ h => h)) (by rfl) hHeld ?_ ?_
              rotate_left
              · ((intro V hV; obtain hV0 := hV; go_simp) <;> (with_reducible rfl))
              try simp only [Act.put, List.setIfInBounds_toArray, List.set_cons_zero, List.set_cons_succ]
              refine take_any (i := 13) (v := ?_) (by rfl) (by kernel_rfl) (by exact (fun _ _ _ h => h)) (by rfl) hHeld ?_ ?_
              rotate_left
              · ((intro V hV; obtain hV0 := hV; go_simp) <;> (with_reducible rfl))
              try simp only [Act.put, List.setIfInBounds_toArray, List.set_cons_zero, List.set_cons_succ]
              refine next_last (i := 15) (by rfl) (by kernel_rfl) (fun KK hK => ?_)
              have hne : vb ≠ (wB.heap.size) := by omega
              go_simp
              refine hK.out _ _ (keepSet2 hne cC) (fun hHeld => ?_)
              clear hK KK
              try simp only [Act.put, List.setIfInBounds_toArray, List.set_cons_zero, List.set_cons_succ]
              refine next_last (i := 16) (by rfl) (by kernel_rfl) (fun KK hK => ?_)
              go_simp
              refine hK.out _ _ (keepSet2 hne cC) (fun hHeld => ?_)
              clear hK KK
              try simp only [Act.put, List.setIfInBounds_toArray, List.set_cons_zero, List.set_cons_succ]
              refine wpAnyH_done (by kernel_rfl) ?_ _
              go_wp2_with fail
              go_meet
              case rel => exact Fin2.out _ _ _ _ _ _ _ HF6.out HZC.out (by omega) HCumC.out rfl
          · go_simp
            refine hK.out _ _ (keepC' (((Upd.refl _ _).alloc (.cells #[.slice none 0 0, .slice none 0 0] 35))) cA) (fun hHeld => ?_)
            clear hK KK
            try simp only [Act.put, List.setIfInBounds_toArray, List.set_cons_zero, List.set_cons_succ]
            refine next_last (i := 9) (by rfl) (by kernel_rfl) (fun KK hK => ?_)
            have hOW := (HOBA.out.alloc (.cells #[.slice none 0 0, .slice none 0 0] 35))
            have HOW := Lib.hid hOW
            have HOwnW := Lib.hid (HOA.out.alloc (.cells #[.slice none 0 0, .slice none 0 0] 35))
            clear hOW
            have HZW := Lib.hid (Blk.made wA [.slice none 0 0, .slice none 0 0] 35)
            refine step_app _ (by rfl) _ _ 22 (by rfl) w5.heap.size 3 i0 _ 1 8 Try.underlying22 hi0 hz0 hz1 hz2 rfl (by decide) _ rs.length (nums Xs) (by rfl) HOwnW.out _ _ _ [.int .i64 x, .int .i64 0] (by rfl) rfl (fun j u hu => ⟨_, rfl, blk_src HOW.out j u hu⟩) (by simp [Value.oneCell']) (by simp only [maxLen]; omega) (by omega) (by first | omega | (simp only [World.size_alloc]; omega)) ?_
            intro v2 wB ho2 hg2 hat2
            obtain ⟨b2, c2, rfl⟩ := own_form ho2
            have ug : Upd (fun g => (Value.slice b1 rs.length c1').ownBlock = some g) (wA.alloc (.cells #[.slice none 0 0, .slice none 0 0] 35)) wB := (Upd.refl _ _).grown hg2 (fun g hg _ => hg)
            have hcum : Upd (fun _ => False) w5 wB := (HCumA.out.alloc (.cells #[.slice none 0 0, .slice none 0 0] 35)).next ug (fun i hi h => by have := (HOA.out.lt i h).1; omega)
            have cB := keepC' hcum c0
            rw [HNs.out] at ho2
            have HOB2 := Lib.hid ho2
            have HCumB := Lib.hid hcum
            have hsB := hcum.size
            have HZB := Lib.hid (HZW.out.upd ug (fun h => own_offR HOwnW.out HZW.out (by decide) h))
            clear ho2 hg2 hat2 ug hcum
            refine hK.out _ _ cB (fun hHeld => ?_)
            clear hK KK
            try simp only [Act.put, List.setIfInBounds_toArray, List.set_cons_zero, List.set_cons_succ]
            refine next_last (i := 10) (by rfl) (by kernel_rfl) (fun KK hK => ?_)
            have HCl := Lib.hid (HOf2.out _ b2 c2 HCumB.out HOB2.out)
            have HZ10 := Lib.hid HZB.out
            go_simp
            refine (HCl.out).mono ?_
            rintro e10 wC ⟨hu10, gva6, gvn6, rfl, hF6⟩
            obtain ⟨ma, mc, rfl⟩ : ∃ a c, gva6 = .slice a (ks ++ [kv, 0]).length c := own_form hF6.roots
            obtain ⟨mn, md, rfl⟩ : ∃ a c, gvn6 = .slice a nds.length c := by obtain ⟨nv, _, hn, _⟩ := hF6.nodes; exact own_form hn
            rw [HKl.out] at hF6 ⊢
            have hcum := HCumB.out.trans hu10
            have cC := keepC' hcum c0
            have HCumC := Lib.hid hcum
            have HF6 := Lib.hid (FormAt_base (base' := w5.heap.size) hF6 (by first | exact hsB | (simp only [World.size_alloc]; omega)))
            have hsC := hcum.size
            have hzc := HZ10.out.upd hu10 (fun h => h)
            have z0 := hzc.cell 0 rfl
            have z1 := hzc.cell 1 rfl
            have zf0 := hzc.frozen 0
            have zf1 := hzc.frozen 1
            have zl := hzc.lt
            have HZC := Lib.hid hzc
            clear hzc
            clear hu10 hF6 hcum HCl
            go_wp2_with fail
            refine hK.out _ _ cC (fun hHeld => ?_)
            clear hK KK
            try simp only [Act.put, List.setIfInBounds_toArray, List.set_cons_zero, List.set_cons_succ]
            refine take_any (i := 11) (v := ?_) (by rfl) (by kernel_rfl) (by exact (fun _ _ _ h => h)) (by rfl) hHeld ?_ ?_
            rotate_left
            · ((intro V hV; obtain hV0 := hV; go_simp) <;> (with_reducible rfl))
            try simp only [Act.put, List.setIfInBounds_toArray, List.set_cons_zero, List.set_cons_succ]
            refine take_any (i := 12) (v := ?_) (by rfl) (by kernel_rfl) (by exact (fun _ _ _ h => h)) (by rfl) hHeld ?_ ?_
            rotate_left
            · ((intro V hV; obtain hV0 := hV; go_simp) <;> (with_reducible rfl))
            try simp only [Act.put, List.setIfInBounds_toArray, List.set_cons_zero, List.set_cons_succ]
            refine take_any (i := 13) (v := ?_) (by rfl) (by kernel_rfl) (by exact (fun _ _ _ h => h)) (by rfl) hHeld ?_ ?_
            rotate_left
            · ((intro V hV; obtain hV0 := hV; go_simp) <;> (with_reducible rfl))
            try simp only [Act.put, List.setIfInBounds_toArray, List.set_cons_zero, List.set_cons_succ]
            refine next_last (i := 15) (by rfl) (by kernel_rfl) (fun KK hK => ?_)
            have hne : vb ≠ (wA.heap.size) := by omega
            go_simp
            refine hK.out _ _ (keepSet2 hne cC) (fun hHeld => ?_)
            clear hK KK
            try simp only [Act.put, List.setIfInBounds_toArray, List.set_cons_zero, List.set_cons_succ]
            refine next_last (i := 16) (by rfl) (by kernel_rfl) (fun KK hK => ?_)
            go_simp
            refine hK.out _ _ (keepSet2 hne cC) (fun hHeld => ?_)
            clear hK KK
            try simp only [Act.put, List.setIfInBounds_toArray, List.set_cons_zero, List.set_cons_succ]
            refine wpAnyH_done (by kernel_rfl) ?_ _
            go_wp2_with fail
            go_meet
            case rel => exact Fin2.out _ _ _ _ _ _ _ HF6.out HZC.out (by omega) HCumC.out rfl
        · go_simp
          refine hK.out _ _ (keepC' (((((Upd.refl _ _).alloc (.cells #[.int .i64 x, .int .i64 0] 3)).alloc (.cells #[] 3)).alloc (.cells #[.slice none 0 0, .slice none 0 0] 35)).drew) c0) (fun hHeld => ?_)
          clear hK KK
          try simp only [Act.put, List.setIfInBounds_toArray, List.set_cons_zero, List.set_cons_succ]
          refine next_last (i := 3) (by rfl) (by kernel_rfl) (fun KK hK => ?_)
          have oe0 := own_empty (w5.alloc (.cells #[.int .i64 x, .int .i64 0] 3)) 3 1 w5.heap.size (by first | exact Nat.le_refl _ | (simp only [World.size_alloc]; omega))
          simp only [World.size_alloc] at oe0
          have oe1 := own_upd oe0 ((Upd.refl (fun _ => False) _).alloc (.cells #[.slice none 0 0, .slice none 0 0] 35)) (fun _ _ h => h)
          have OE := Lib.hid oe1
          have SR := Lib.hid (S0.out.quiet ((((Upd.refl (fun _ => False) w5).alloc (.cells #[.int .i64 x, .int .i64 0] 3)).alloc (.cells #[] 3)).alloc (.cells #[.slice none 0 0, .slice none 0 0] 35)))
          clear oe0 oe1
          refine step_app _ (by rfl) _ _ 22 (by rfl) w5.heap.size 3 i0 _ 1 8 Try.underlying22 hi0 hz0 hz1 hz2 rfl (by decide) _ 0 [] (by rfl) OE.out _ _ _ (nums Xs) (by rfl) HXn.out SR.out (nums_one _) (by simp only [maxLen]; omega) (by omega) (by simp only [World.size_alloc, World.size_drew]; omega) ?_
          intro v1 wA ho1 hg1 hat1
          rw [Nat.zero_add, List.nil_append] at ho1
          obtain ⟨b1, c1', rfl⟩ := own_form ho1
          have hcum : Upd (fun _ => False) w5 wA := (((((Upd.refl (fun _ => False) w5).alloc (.cells #[.int .i64 x, .int .i64 0] 3)).alloc (.cells #[] 3)).alloc (.cells #[.slice none 0 0, .slice none 0 0] 35)).drew).grown hg1 (fun g hg hlt => by have h : (w5.heap.size + 1) = g := Option.some.inj hg; omega)
          have cA := keepC' hcum c0
          have hOB := (((Blk.made w5 [.int .i64 x, .int .i64 0] 3).alloc (.cells #[] 3)).alloc (.cells #[.slice none 0 0, .slice none 0 0] 35)).drew.of_eq (hg1.block (w5.heap.size) (((Blk.made w5 [.int .i64 x, .int .i64 0] 3).alloc (.cells #[] 3)).alloc (.cells #[.slice none 0 0, .slice none 0 0] 35)).lt (fun e => by have h : (w5.heap.size) = (w5.heap.size + 1) := Option.some.inj e; omega))
          have HOBA := Lib.hid hOB
          clear hOB
          have hZ := (Go.Proofs.Ytlphlaenecidiaa.Heap.Blk.made3 w5 (.cells #[.int .i64 x, .int .i64 0] 3) (.cells #[] 3) [.slice none 0 0, .slice none 0 0] 35).drew.of_eq (hg1.block (w5.heap.size + 1 + 1) (Go.Proofs.Ytlphlaenecidiaa.Heap.Blk.made3 w5 (.cells #[.int .i64 x, .int .i64 0] 3) (.cells #[] 3) [.slice none 0 0, .slice none 0 0] 35).lt (fun e => by have h : (w5.heap.size + 1 + 1) = (w5.heap.size + 1) := Option.some.inj e; omega))
          have HZA := Lib.hid hZ
          clear hZ
          have HOA := Lib.hid ho1
          have HCumA := Lib.hid hcum
          have hsA := hcum.size
          clear ho1 hg1 hat1 hcum
          refine hK.out _ _ cA (fun hHeld => ?_)
          clear hK KK
          try simp only [Act.put, List.setIfInBounds_toArray, List.set_cons_zero, List.set_cons_succ]
          refine next_last (i := 9) (by rfl) (by kernel_rfl) (fun KK hK => ?_)
          have hOW := HOBA.out
          have HOW := Lib.hid hOW
          have HOwnW := Lib.hid HOA.out
          clear hOW
          have HZW := Lib.hid HZA.out
          refine step_app _ (by rfl) _ _ 22 (by rfl) w5.heap.size 3 i0 _ 1 8 Try.underlying22 hi0 hz0 hz1 hz2 rfl (by decide) _ rs.length (nums Xs) (by rfl) HOwnW.out _ _ _ [.int .i64 x, .int .i64 0] (by rfl) rfl (fun j u hu => ⟨_, rfl, blk_src HOW.out j u hu⟩) (by simp [Value.oneCell']) (by simp only [maxLen]; omega) (by omega) (by first | omega | (simp only [World.size_alloc]; omega)) ?_
          intro v2 wB ho2 hg2 hat2
          obtain ⟨b2, c2, rfl⟩ := own_form ho2
          have ug : Upd (fun g => (Value.slice b1 rs.length c1').ownBlock = some g) wA wB := (Upd.refl _ _).grown hg2 (fun g hg _ => hg)
          have hcum : Upd (fun _ => False) w5 wB := HCumA.out.next ug (fun i hi h => by have := (HOA.out.lt i h).1; omega)
          have cB := keepC' hcum c0
          rw [HNs.out] at ho2
          have HOB2 := Lib.hid ho2
          have HCumB := Lib.hid hcum
          have hsB := hcum.size
          have HZB := Lib.hid (HZW.out.upd ug (fun h => own_offR HOwnW.out HZW.out (by decide) h))
          clear ho2 hg2 hat2 ug hcum
          refine hK.out _ _ cB (fun hHeld => ?_)
          clear hK KK
          try simp only [Act.put, List.setIfInBounds_toArray, List.set_cons_zero, List.set_cons_succ]
          refine next_last (i := 10) (by rfl) (by kernel_rfl) (fun KK hK => ?_)
          have HCl := Lib.hid (HOf2.out _ b2 c2 HCumB.out HOB2.out)
          have HZ10 := Lib.hid HZB.out
          go_simp
          refine (HCl.out).mono ?_
          rintro e10 wC ⟨hu10, gva6, gvn6, rfl, hF6⟩
          obtain ⟨ma, mc, rfl⟩ : ∃ a c, gva6 = .slice a (ks ++ [kv, 0]).length c := own_form hF6.roots
          obtain ⟨mn, md, rfl⟩ : ∃ a c, gvn6 = .slice a nds.length c := by obtain ⟨nv, _, hn, _⟩ := hF6.nodes; exact own_form hn
          rw [HKl.out] at hF6 ⊢
          have hcum := HCumB.out.trans hu10
          have cC := keepC' hcum c0
          have HCumC := Lib.hid hcum
          have HF6 := Lib.hid (FormAt_base (base' := w5.heap.size) hF6 (by first | exact hsB | (simp only [World.size_alloc]; omega)))
          have hsC := hcum.size
          have hzc := HZ10.out.upd hu10 (fun h => h)
          have z0 := hzc.cell 0 rfl
          have z1 := hzc.cell 1 rfl
          have zf0 := hzc.frozen 0
          have zf1 := hzc.frozen 1
          have zl := hzc.lt
          have HZC := Lib.hid hzc
          clear hzc
          clear hu10 hF6 hcum HCl
          go_wp2_with fail
          refine hK.out _ _ cC (fun hHeld => ?_)
          clear hK KK
          try simp only [Act.put, List.setIfInBounds_toArray, List.set_cons_zero, List.set_cons_succ]
          refine take_any (i := 11) (v := ?_) (by rfl) (by kernel_rfl) (by exact (fun _ _ _ h => h)) (by rfl) hHeld ?_ ?_
          rotate_left
          · ((intro V hV; obtain hV0 := hV; go_simp) <;> (with_reducible rfl))
          try simp only [Act.put, List.setIfInBounds_toArray, List.set_cons_zero, List.set_cons_succ]
          refine take_any (i := 12) (v := ?_) (by rfl) (by kernel_rfl) (by exact (fun _ _ _ h => h)) (by rfl) hHeld ?_ ?_
          rotate_left
          · ((intro V hV; obtain hV0 := hV; go_simp) <;> (with_reducible rfl))
          try simp only [Act.put, List.setIfInBounds_toArray, List.set_cons_zero, List.set_cons_succ]
          refine take_any (i := 13) (v := ?_) (by rfl) (by kernel_rfl) (by exact (fun _ _ _ h => h)) (by rfl) hHeld ?_ ?_
          rotate_left
          · ((intro V hV; obtain hV0 := hV; go_simp) <;> (with_reducible rfl))
          try simp only [Act.put, List.setIfInBounds_toArray, List.set_cons_zero, List.set_cons_succ]
          refine next_last (i := 15) (by rfl) (by kernel_rfl) (fun KK hK => ?_)
          have hne : vb ≠ (w5.heap.size + 1 + 1) := by omega
          go_simp
          refine hK.out _ _ (keepSet2 hne cC) (fun hHeld => ?_)
          clear hK KK
          try simp only [Act.put, List.setIfInBounds_toArray, List.set_cons_zero, List.set_cons_succ]
          refine next_last (i := 16) (by rfl) (by kernel_rfl) (fun KK hK => ?_)
          go_simp
          refine hK.out _ _ (keepSet2 hne cC) (fun hHeld => ?_)
          clear hK KK
          try simp only [Act.put, List.setIfInBounds_toArray, List.set_cons_zero, List.set_cons_succ]
          refine wpAnyH_done (by kernel_rfl) ?_ _
          go_wp2_with fail
          go_meet
          case rel => exact Fin2.out _ _ _ _ _ _ _ HF6.out HZC.out (by omega) HCumC.out rfl
      · go_simp
        refine hK.out _ _ (keepC' ((((Upd.refl _ _).alloc (.cells #[.int .i64 x, .int .i64 0] 3)).alloc (.cells #[.slice none 0 0, .slice none 0 0] 35)).drew) c0) (fun hHeld => ?_)
        clear hK KK
        try simp only [Act.put, List.setIfInBounds_toArray, List.set_cons_zero, List.set_cons_succ]
        refine next_last (i := 1) (by rfl) (by kernel_rfl) (fun KK hK => ?_)
        go_simp
        refine hK.out _ _ (keepC' (((((Upd.refl _ _).alloc (.cells #[.int .i64 x, .int .i64 0] 3)).alloc (.cells #[.slice none 0 0, .slice none 0 0] 35)).alloc (.cells #[] 3)).drew) c0) (fun hHeld => ?_)
        clear hK KK
        try simp only [Act.put, List.setIfInBounds_toArray, List.set_cons_zero, List.set_cons_succ]
        refine next_last (i := 3) (by rfl) (by kernel_rfl) (fun KK hK => ?_)
        have oe0 := own_empty ((w5.alloc (.cells #[.int .i64 x, .int .i64 0] 3)).alloc (.cells #[.slice none 0 0, .slice none 0 0] 35)) 3 1 w5.heap.size (by first | exact Nat.le_refl _ | (simp only [World.size_alloc]; omega))
        simp only [World.size_alloc] at oe0
        have OE := Lib.hid oe0
        have SR := Lib.hid (S0.out.quiet ((((Upd.refl (fun _ => False) w5).alloc (.cells #[.int .i64 x, .int .i64 0] 3)).alloc (.cells #[.slice none 0 0, .slice none 0 0] 35)).alloc (.cells #[] 3)))
        clear oe0
        refine step_app _ (by rfl) _ _ 22 (by rfl) w5.heap.size 3 i0 _ 1 8 Try.underlying22 hi0 hz0 hz1 hz2 rfl (by decide) _ 0 [] (by rfl) OE.out _ _ _ (nums Xs) (by rfl) HXn.out SR.out (nums_one _) (by simp only [maxLen]; omega) (by omega) (by simp only [World.size_alloc, World.size_drew]; omega) ?_
        intro v1 wA ho1 hg1 hat1
        rw [Nat.zero_add, List.nil_append] at ho1
        obtain ⟨b1, c1', rfl⟩ := own_form ho1
        have hcum : Upd (fun _ => False) w5 wA := (((((Upd.refl (fun _ => False) w5).alloc (.cells #[.int .i64 x, .int .i64 0] 3)).alloc (.cells #[.slice none 0 0, .slice none 0 0] 35)).alloc (.cells #[] 3)).drew).grown hg1 (fun g hg hlt => by have h : (w5.heap.size + 1 + 1) = g := Option.some.inj hg; omega)
        have cA := keepC' hcum c0
        have hOB := (((Blk.made w5 [.int .i64 x, .int .i64 0] 3).alloc (.cells #[.slice none 0 0, .slice none 0 0] 35)).alloc (.cells #[] 3)).drew.of_eq (hg1.block (w5.heap.size) (((Blk.made w5 [.int .i64 x, .int .i64 0] 3).alloc (.cells #[.slice none 0 0, .slice none 0 0] 35)).alloc (.cells #[] 3)).lt (fun e => by have h : (w5.heap.size) = (w5.heap.size + 1 + 1) := Option.some.inj e; omega))
        have HOBA := Lib.hid hOB
        clear hOB
        have hZ := ((Blk.made' w5 (.cells #[.int .i64 x, .int .i64 0] 3) [.slice none 0 0, .slice none 0 0] 35).alloc (.cells #[] 3)).drew.of_eq (hg1.block (w5.heap.size + 1) ((Blk.made' w5 (.cells #[.int .i64 x, .int .i64 0] 3) [.slice none 0 0, .slice none 0 0] 35).alloc (.cells #[] 3)).lt (fun e => by have h : (w5.heap.size + 1) = (w5.heap.size + 1 + 1) := Option.some.inj e; omega))
        have HZA := Lib.hid hZ
        clear hZ
        have HOA := Lib.hid ho1
        have HCumA := Lib.hid hcum
        have hsA := hcum.size
        clear ho1 hg1 hat1 hcum
        refine hK.out _ _ cA (fun hHeld => ?_)
        clear hK KK
        try simp only [Act.put, List.setIfInBounds_toArray, List.set_cons_zero, List.set_cons_succ]
        refine next_last (i := 9) (by rfl) (by kernel_rfl) (fun KK hK => ?_)
        have hOW := HOBA.out
        have HOW := Lib.hid hOW
        have HOwnW := Lib.hid HOA.out
        clear hOW
        have HZW := Lib.hid HZA.out
        refine step_app _ (by rfl) _ _ 22 (by rfl) w5.heap.size 3 i0 _ 1 8 Try.underlying22 hi0 hz0 hz1 hz2 rfl (by decide) _ rs.length (nums Xs) (by rfl) HOwnW.out _ _ _ [.int .i64 x, .int .i64 0] (by rfl) rfl (fun j u hu => ⟨_, rfl, blk_src HOW.out j u hu⟩) (by simp [Value.oneCell']) (by simp only [maxLen]; omega) (by omega) (by first | omega | (simp only [World.size_alloc]; omega)) ?_
        intro v2 wB ho2 hg2 hat2
        obtain ⟨b2, c2, rfl⟩ := own_form ho2
        have ug : Upd (fun g => (Value.slice b1 rs.length c1').ownBlock = some g) wA wB := (Upd.refl _ _).grown hg2 (fun g hg _ => hg)
        have hcum : Upd (fun _ => False) w5 wB := HCumA.out.next ug (fun i hi h => by have := (HOA.out.lt i h).1; omega)
        have cB := keepC' hcum c0
        rw [HNs.out] at ho2
        have HOB2 := Lib.hid ho2
        have HCumB := Lib.hid hcum
        have hsB := hcum.size
        have HZB := Lib.hid (HZW.out.upd ug (fun h => own_offR HOwnW.out HZW.out (by decide) h))
        clear ho2 hg2 hat2 ug hcum
        refine hK.out _ _ cB (fun hHeld => ?_)
        clear hK KK
        try simp only [Act.put, List.setIfInBounds_toArray, List.set_cons_zero, List.set_cons_succ]
        refine next_last (i := 10) (by rfl) (by kernel_rfl) (fun KK hK => ?_)
        have HCl := Lib.hid (HOf2.out _ b2 c2 HCumB.out HOB2.out)
        have HZ10 := Lib.hid HZB.out
        go_simp
        refine (HCl.out).mono ?_
        rintro e10 wC ⟨hu10, gva6, gvn6, rfl, hF6⟩
        obtain ⟨ma, mc, rfl⟩ : ∃ a c, gva6 = .slice a (ks ++ [kv, 0]).length c := own_form hF6.roots
        obtain ⟨mn, md, rfl⟩ : ∃ a c, gvn6 = .slice a nds.length c := by obtain ⟨nv, _, hn, _⟩ := hF6.nodes; exact own_form hn
        rw [HKl.out] at hF6 ⊢
        have hcum := HCumB.out.trans hu10
        have cC := keepC' hcum c0
        have HCumC := Lib.hid hcum
        have HF6 := Lib.hid (FormAt_base (base' := w5.heap.size) hF6 (by first | exact hsB | (simp only [World.size_alloc]; omega)))
        have hsC := hcum.size
        have hzc := HZ10.out.upd hu10 (fun h => h)
        have z0 := hzc.cell 0 rfl
        have z1 := hzc.cell 1 rfl
        have zf0 := hzc.frozen 0
        have zf1 := hzc.frozen 1
        have zl := hzc.lt
        have HZC := Lib.hid hzc
        clear hzc
        clear hu10 hF6 hcum HCl
        go_wp2_with fail
        refine hK.out _ _ cC (fun hHeld => ?_)
        clear hK KK
        try simp only [Act.put, List.setIfInBounds_toArray, List.set_cons_zero, List.set_cons_succ]
        refine take_any (i := 11) (v := ?_) (by rfl) (by kernel_rfl) (by exact (fun _ _ _ h => h)) (by rfl) hHeld ?_ ?_
        rotate_left
        · ((intro V hV; obtain hV0 := hV; go_simp) <;> (with_reducible rfl))
        try simp only [Act.put, List.setIfInBounds_toArray, List.set_cons_zero, List.set_cons_succ]
        refine take_any (i := 12) (v := ?_) (by rfl) (by kernel_rfl) (by exact (fun _ _ _ h => h)) (by rfl) hHeld ?_ ?_
        rotate_left
        · ((intro V hV; obtain hV0 := hV; go_simp) <;> (with_reducible rfl))
        try simp only [Act.put, List.setIfInBounds_toArray, List.set_cons_zero, List.set_cons_succ]
        refine take_any (i := 13) (v := ?_) (by rfl) (by kernel_rfl) (by exact (fun _ _ _ h => h)) (by rfl) hHeld ?_ ?_
        rotate_left
        · ((intro V hV; obtain hV0 := hV; go_simp) <;> (with_reducible rfl))
        try simp only [Act.put, List.setIfInBounds_toArray, List.set_cons_zero, List.set_cons_succ]
        refine next_last (i := 15) (by rfl) (by kernel_rfl) (fun KK hK => ?_)
        have hne : vb ≠ (w5.heap.size + 1) := by omega
        go_simp
        refine hK.out _ _ (keepSet2 hne cC) (fun hHeld => ?_)
        clear hK KK
        try simp only [Act.put, List.setIfInBounds_toArray, List.set_cons_zero, List.set_cons_succ]
        refine next_last (i := 16) (by rfl) (by kernel_rfl) (fun KK hK => ?_)
        go_simp
        refine hK.out _ _ (keepSet2 hne cC) (fun hHeld => ?_)
        clear hK KK
        try simp only [Act.put, List.setIfInBounds_toArray, List.set_cons_zero, List.set_cons_succ]
        refine wpAnyH_done (by kernel_rfl) ?_ _
        go_wp2_with fail
        go_meet
        case rel => exact Fin2.out _ _ _ _ _ _ _ HF6.out HZC.out (by omega) HCumC.out rfl
    · go_simp
      refine hK.out _ _ (keepC' (((Upd.refl _ _).alloc (.cells #[.slice none 0 0, .slice none 0 0] 35)).drew) c0) (fun hHeld => ?_)
      clear hK KK
      try simp only [Act.put, List.setIfInBounds_toArray, List.set_cons_zero, List.set_cons_succ]
      refine both_last 1 8 (by rfl) (by rfl) (by kernel_rfl) (fun KK hK => ?_) (fun KK hK => ?_)
      · go_simp
        refine hK.out _ _ (keepC' ((((Upd.refl _ _).alloc (.cells #[.slice none 0 0, .slice none 0 0] 35)).alloc (.cells #[] 3)).drew) c0) (fun hHeld => ?_)
        clear hK KK
        try simp only [Act.put, List.setIfInBounds_toArray, List.set_cons_zero, List.set_cons_succ]
        refine both_last 3 8 (by rfl) (by rfl) (by kernel_rfl) (fun KK hK => ?_) (fun KK hK => ?_)
        · have oe0 := own_empty (w5.alloc (.cells #[.slice none 0 0, .slice none 0 0] 35)) 3 1 w5.heap.size (by first | exact Nat.le_refl _ | (simp only [World.size_alloc]; omega))
          simp only [World.size_alloc] at oe0
          have OE := Lib.hid oe0
          have SR := Lib.hid (S0.out.quiet (((Upd.refl (fun _ => False) w5).alloc (.cells #[.slice none 0 0, .slice none 0 0] 35)).alloc (.cells #[] 3)))
          clear oe0
          refine step_app _ (by rfl) _ _ 22 (by rfl) w5.heap.size 3 i0 _ 1 8 Try.underlying22 hi0 hz0 hz1 hz2 rfl (by decide) _ 0 [] (by rfl) OE.out _ _ _ (nums Xs) (by rfl) HXn.out SR.out (nums_one _) (by simp only [maxLen]; omega) (by omega) (by simp only [World.size_alloc, World.size_drew]; omega) ?_
          intro v1 wA ho1 hg1 hat1
          rw [Nat.zero_add, List.nil_append] at ho1
          obtain ⟨b1, c1', rfl⟩ := own_form ho1
          have hcum : Upd (fun _ => False) w5 wA := ((((Upd.refl (fun _ => False) w5).alloc (.cells #[.slice none 0 0, .slice none 0 0] 35)).alloc (.cells #[] 3)).drew).grown hg1 (fun g hg hlt => by have h : (w5.heap.size + 1) = g := Option.some.inj hg; omega)
          have cA := keepC' hcum c0
          have hZ := ((Blk.made w5 [.slice none 0 0, .slice none 0 0] 35).alloc (.cells #[] 3)).drew.of_eq (hg1.block (w5.heap.size) ((Blk.made w5 [.slice none 0 0, .slice none 0 0] 35).alloc (.cells #[] 3)).lt (fun e => by have h : (w5.heap.size) = (w5.heap.size + 1) := Option.some.inj e; omega))
          have HZA := Lib.hid hZ
          clear hZ
          have HOA := Lib.hid ho1
          have HCumA := Lib.hid hcum
          have hsA := hcum.size
          clear ho1 hg1 hat1 hcum
          refine hK.out _ _ cA (fun hHeld => ?_)
          clear hK KK
          try simp only [Act.put, List.setIfInBounds_toArray, List.set_cons_zero, List.set_cons_succ]
          refine next_last (i := 8) (by rfl) (by kernel_rfl) (fun KK hK => ?_)
          go_simp
          refine hK.out _ _ (keepC' (((Upd.refl _ _).alloc (.cells #[.int .i64 x, .int .i64 0] 3))) cA) (fun hHeld => ?_)
          clear hK KK
          try simp only [Act.put, List.setIfInBounds_toArray, List.set_cons_zero, List.set_cons_succ]
          refine next_last (i := 9) (by rfl) (by kernel_rfl) (fun KK hK => ?_)
          have hOW := (Blk.made wA [.int .i64 x, .int .i64 0] 3)
          have HOW := Lib.hid hOW
          have HOwnW := Lib.hid (HOA.out.alloc (.cells #[.int .i64 x, .int .i64 0] 3))
          clear hOW
          have HZW := Lib.hid (HZA.out.alloc (.cells #[.int .i64 x, .int .i64 0] 3))
          refine step_app _ (by rfl) _ _ 22 (by rfl) w5.heap.size 3 i0 _ 1 8 Try.underlying22 hi0 hz0 hz1 hz2 rfl (by decide) _ rs.length (nums Xs) (by rfl) HOwnW.out _ _ _ [.int .i64 x, .int .i64 0] (by rfl) rfl (fun j u hu => ⟨_, rfl, blk_src HOW.out j u hu⟩) (by simp [Value.oneCell']) (by simp only [maxLen]; omega) (by omega) (by first | omega | (simp only [World.size_alloc]; omega)) ?_
          intro v2 wB ho2 hg2 hat2
          obtain ⟨b2, c2, rfl⟩ := own_form ho2
          have ug : Upd (fun g => (Value.slice b1 rs.length c1').ownBlock = some g) (wA.alloc (.cells #[.int .i64 x, .int .i64 0] 3)) wB := (Upd.refl _ _).grown hg2 (fun g hg _ => hg)
          have hcum : Upd (fun _ => False) w5 wB := (HCumA.out.alloc (.cells #[.int .i64 x, .int .i64 0] 3)).next ug (fun i hi h => by have := (HOA.out.lt i h).1; omega)
          have cB := keepC' hcum c0
          rw [HNs.out] at ho2
          have HOB2 := Lib.hid ho2
          have HCumB := Lib.hid hcum
          have hsB := hcum.size
          have HZB := Lib.hid (HZW.out.upd ug (fun h => own_offR HOwnW.out HZW.out (by decide) h))
          clear ho2 hg2 hat2 ug hcum
          refine hK.out _ _ cB (fun hHeld => ?_)
          clear hK KK
          try simp only [Act.put, List.setIfInBounds_toArray, List.set_cons_zero, List.set_cons_succ]
          refine next_last (i := 10) (by rfl) (by kernel_rfl) (fun KK hK => ?_)
          have HCl := Lib.hid (HOf2.out _ b2 c2 HCumB.out HOB2.out)
          have HZ10 := Lib.hid HZB.out
          go_simp
          refine (HCl.out).mono ?_
          rintro e10 wC ⟨hu10, gva6, gvn6, rfl, hF6⟩
          obtain ⟨ma, mc, rfl⟩ : ∃ a c, gva6 = .slice a (ks ++ [kv, 0]).length c := own_form hF6.roots
          obtain ⟨mn, md, rfl⟩ : ∃ a c, gvn6 = .slice a nds.length c := by obtain ⟨nv, _, hn, _⟩ := hF6.nodes; exact own_form hn
          rw [HKl.out] at hF6 ⊢
          have hcum := HCumB.out.trans hu10
          have cC := keepC' hcum c0
          have HCumC := Lib.hid hcum
          have HF6 := Lib.hid (FormAt_base (base' := w5.heap.size) hF6 (by first | exact hsB | (simp only [World.size_alloc]; omega)))
          have hsC := hcum.size
          have hzc := HZ10.out.upd hu10 (fun h => h)
          have z0 := hzc.cell 0 rfl
          have z1 := hzc.cell 1 rfl
          have zf0 := hzc.frozen 0
          have zf1 := hzc.frozen 1
          have zl := hzc.lt
          have HZC := Lib.hid hzc
          clear hzc
          clear hu10 hF6 hcum HCl
          go_wp2_with fail
          refine hK.out _ _ cC (fun hHeld => ?_)
          clear hK KK
          try simp only [Act.put, List.setIfInBounds_toArray, List.set_cons_zero, List.set_cons_succ]
          refine take_any (i := 11) (v := ?_) (by rfl) (by kernel_rfl) (by exact (fun _ _ _ h => h)) (by rfl) hHeld ?_ ?_
          rotate_left
          · ((intro V hV; obtain hV0 := hV; go_simp) <;> (with_reducible rfl))
          try simp only [Act.put, List.setIfInBounds_toArray, List.set_cons_zero, List.set_cons_succ]
          refine take_any (i := 12) (v := ?_) (by rfl) (by kernel_rfl) (by exact (fun _ _ _ h => h)) (by rfl) hHeld ?_ ?_
          rotate_left
          · ((intro V hV; obtain hV0 := hV; go_simp) <;> (with_reducible rfl))
          try simp only [Act.put, List.setIfInBounds_toArray, List.set_cons_zero, List.set_cons_succ]
          refine take_any (i := 13) (v := ?_) (by rfl) (by kernel_rfl) (by exact (fun _ _ _ h => h)) (by rfl) hHeld ?_ ?_
          rotate_left
          · ((intro V hV; obtain hV0 := hV; go_simp) <;> (with_reducible rfl))
          try simp only [Act.put, List.setIfInBounds_toArray, List.set_cons_zero, List.set_cons_succ]
          refine next_last (i := 15) (by rfl) (by kernel_rfl) (fun KK hK => ?_)
          have hne : vb ≠ (w5.heap.size) := by omega
          go_simp
          refine hK.out _ _ (keepSet2 hne cC) (fun hHeld => ?_)
          clear hK KK
          try simp only [Act.put, List.setIfInBounds_toArray, List.set_cons_zero, List.set_cons_succ]
          refine next_last (i := 16) (by rfl) (by kernel_rfl) (fun KK hK => ?_)
          go_simp
          refine hK.out _ _ (keepSet2 hne cC) (fun hHeld => ?_)
          clear hK KK
          try simp only [Act.put, List.setIfInBounds_toArray, List.set_cons_zero, List.set_cons_succ]
          refine wpAnyH_done (by kernel_rfl) ?_ _
          go_wp2_with fail
          go_meet
          case rel => exact Fin2.out _ _ _ _ _ _ _ HF6.out HZC.out (by omega) HCumC.out rfl
        · go_simp
          refine hK.out _ _ (keepC' (((((Upd.refl _ _).alloc (.cells #[.slice none 0 0, .slice none 0 0] 35)).alloc (.cells #[] 3)).alloc (.cells #[.int .i64 x, .int .i64 0] 3)).drew) c0) (fun hHeld => ?_)
          clear hK KK
          try simp only [Act.put, List.setIfInBounds_toArray, List.set_cons_zero, List.set_cons_succ]
          refine next_last (i := 3) (by rfl) (by kernel_rfl) (fun KK hK => ?_)
          have oe0 := own_empty (w5.alloc (.cells #[.slice none 0 0, .slice none 0 0] 35)) 3 1 w5.heap.size (by first | exact Nat.le_refl _ | (simp only [World.size_alloc]; omega))
          simp only [World.size_alloc] at oe0
          have oe1 := own_upd oe0 ((Upd.refl (fun _ => False) _).alloc (.cells #[.int .i64 x, .int .i64 0] 3)) (fun _ _ h => h)
          have OE := Lib.hid oe1
          have SR := Lib.hid (S0.out.quiet ((((Upd.refl (fun _ => False) w5).alloc (.cells #[.slice none 0 0, .slice none 0 0] 35)).alloc (.cells #[] 3)).alloc (.cells #[.int .i64 x, .int .i64 0] 3)))
          clear oe0 oe1
          refine step_app _ (by rfl) _ _ 22 (by rfl) w5.heap.size 3 i0 _ 1 8 Try.underlying22 hi0 hz0 hz1 hz2 rfl (by decide) _ 0 [] (by rfl) OE.out _ _ _ (nums Xs) (by rfl) HXn.out SR.out (nums_one _) (by simp only [maxLen]; omega) (by omega) (by simp only [World.size_alloc, World.size_drew]; omega) ?_
          intro v1 wA ho1 hg1 hat1
          rw [Nat.zero_add, List.nil_append] at ho1
          obtain ⟨b1, c1', rfl⟩ := own_form ho1
          have hcum : Upd (fun _ => False) w5 wA := (((((Upd.refl (fun _ => False) w5).alloc (.cells #[.slice none 0 0, .slice none 0 0] 35)).alloc (.cells #[] 3)).alloc (.cells #[.int .i64 x, .int .i64 0] 3)).drew).grown hg1 (fun g hg hlt => by have h : (w5.heap.size + 1) = g := Option.some.inj hg; omega)
          have cA := keepC' hcum c0
          have hZ := (((Blk.made w5 [.slice none 0 0, .slice none 0 0] 35).alloc (.cells #[] 3)).alloc (.cells #[.int .i64 x, .int .i64 0] 3)).drew.of_eq (hg1.block (w5.heap.size) (((Blk.made w5 [.slice none 0 0, .slice none 0 0] 35).alloc (.cells #[] 3)).alloc (.cells #[.int .i64 x, .int .i64 0] 3)).lt (fun e => by have h : (w5.heap.size) = (w5.heap.size + 1) := Option.some.inj e; omega))
          have HZA := Lib.hid hZ
          clear hZ
          have hOB := (Go.Proofs.Ytlphlaenecidiaa.Heap.Blk.made3 w5 (.cells #[.slice none 0 0, .slice none 0 0] 35) (.cells #[] 3) [.int .i64 x, .int .i64 0] 3).drew.of_eq (hg1.block (w5.heap.size + 1 + 1) (Go.Proofs.Ytlphlaenecidiaa.Heap.Blk.made3 w5 (.cells #[.slice none 0 0, .slice none 0 0] 35) (.cells #[] 3) [.int .i64 x, .int .i64 0] 3).lt (fun e => by have h : (w5.heap.size + 1 + 1) = (w5.heap.size + 1) := Option.some.inj e; omega))
          have HOBA := Lib.hid hOB
          clear hOB
          have HOA := Lib.hid ho1
          have HCumA := Lib.hid hcum
          have hsA := hcum.size
          clear ho1 hg1 hat1 hcum
          refine hK.out _ _ cA (fun hHeld => ?_)
          clear hK KK
          try simp only [Act.put, List.setIfInBounds_toArray, List.set_cons_zero, List.set_cons_succ]
          refine next_last (i := 9) (by rfl) (by kernel_rfl) (fun KK hK => ?_)
          have hOW := HOBA.out
          have HOW := Lib.hid hOW
          have HOwnW := Lib.hid HOA.out
          clear hOW
          have HZW := Lib.hid HZA.out
          refine step_app _ (by rfl) _ _ 22 (by rfl) w5.heap.size 3 i0 _ 1 8 Try.underlying22 hi0 hz0 hz1 hz2 rfl (by decide) _ rs.length (nums Xs) (by rfl) HOwnW.out _ _ _ [.int .i64 x, .int .i64 0] (by rfl) rfl (fun j u hu => ⟨_, rfl, blk_src HOW.out j u hu⟩) (by simp [Value.oneCell']) (by simp only [maxLen]; omega) (by omega) (by first | omega | (simp only [World.size_alloc]; omega)) ?_
          intro v2 wB ho2 hg2 hat2
          obtain ⟨b2, c2, rfl⟩ := own_form ho2
          have ug : Upd (fun g => (Value.slice b1 rs.length c1').ownBlock = some g) wA wB := (Upd.refl _ _).grown hg2 (fun g hg _ => hg)
          have hcum : Upd (fun _ => False) w5 wB := HCumA.out.next ug (fun i hi h => by have := (HOA.out.lt i h).1; omega)
          have cB := keepC' hcum c0
          rw [HNs.out] at ho2
          have HOB2 := Lib.hid ho2
          have HCumB := Lib.hid hcum
          have hsB := hcum.size
          have HZB := Lib.hid (HZW.out.upd ug (fun h => own_offR HOwnW.out HZW.out (by decide) h))
          clear ho2 hg2 hat2 ug hcum
          refine hK.out _ _ cB (fun hHeld => ?_)
          clear hK KK
          try simp only [Act.put, List.setIfInBounds_toArray, List.set_cons_zero, List.set_cons_succ]
          refine next_last (i := 10) (by rfl) (by kernel_rfl) (fun KK hK => ?_)
          have HCl := Lib.hid (HOf2.out _ b2 c2 HCumB.out HOB2.out)
          have HZ10 := Lib.hid HZB.out
          go_simp
          refine (HCl.out).mono ?_
          rintro e10 wC ⟨hu10, gva6, gvn6, rfl, hF6⟩
          obtain ⟨ma, mc, rfl⟩ : ∃ a c, gva6 = .slice a (ks ++ [kv, 0]).length c := own_form hF6.roots
          obtain ⟨mn, md, rfl⟩ : ∃ a c, gvn6 = .slice a nds.length c := by obtain ⟨nv, _, hn, _⟩ := hF6.nodes; exact own_form hn
          rw [HKl.out] at hF6 ⊢
          have hcum := HCumB.out.trans hu10
          have cC := keepC' hcum c0
          have HCumC := Lib.hid hcum
          have HF6 := Lib.hid (FormAt_base (base' := w5.heap.size) hF6 (by first | exact hsB | (simp only [World.size_alloc]; omega)))
          have hsC := hcum.size
          have hzc := HZ10.out.upd hu10 (fun h => h)
          have z0 := hzc.cell 0 rfl
          have z1 := hzc.cell 1 rfl
          have zf0 := hzc.frozen 0
          have zf1 := hzc.frozen 1
          have zl := hzc.lt
          have HZC := Lib.hid hzc
          clear hzc
          clear hu10 hF6 hcum HCl
          go_wp2_with fail
          refine hK.out _ _ cC (fun hHeld => ?_)
          clear hK KK
          try simp only [Act.put, List.setIfInBounds_toArray, List.set_cons_zero, List.set_cons_succ]
          refine take_any (i := 11) (v := ?_) (by rfl) (by kernel_rfl) (by exact (fun _ _ _ h => h)) (by rfl) hHeld ?_ ?_
          rotate_left
          · ((intro V hV; obtain hV0 := hV; go_simp) <;> (with_reducible rfl))
          try simp only [Act.put, List.setIfInBounds_toArray, List.set_cons_zero, List.set_cons_succ]
          refine take_any (i := 12) (v := ?_) (by rfl) (by kernel_rfl) (by exact (fun _ _ _ h => h)) (by rfl) hHeld ?_ ?_
          rotate_left
          · ((intro V hV; obtain hV0 := hV; go_simp) <;> (with_reducible rfl))
          try simp only [Act.put, List.setIfInBounds_toArray, List.set_cons_zero, List.set_cons_succ]
          refine take_any (i := 13) (v := ?_) (by rfl) (by kernel_rfl) (by exact (fun _ _ _ h => h)) (by rfl) hHeld ?_ ?_
          rotate_left
          · ((intro V hV; obtain hV0 := hV; go_simp) <;> (with_reducible rfl))
          try simp only [Act.put, List.setIfInBounds_toArray, List.set_cons_zero, List.set_cons_succ]
          refine next_last (i := 15) (by rfl) (by kernel_rfl) (fun KK hK => ?_)
          have hne : vb ≠ (w5.heap.size) := by omega
          go_simp
          refine hK.out _ _ (keepSet2 hne cC) (fun hHeld => ?_)
          clear hK KK
          try simp only [Act.put, List.setIfInBounds_toArray, List.set_cons_zero, List.set_cons_succ]
          refine next_last (i := 16) (by rfl) (by kernel_rfl) (fun KK hK => ?_)
          go_simp
          refine hK.out _ _ (keepSet2 hne cC) (fun hHeld => ?_)
          clear hK KK
          try simp only [Act.put, List.setIfInBounds_toArray, List.set_cons_zero, List.set_cons_succ]
          refine wpAnyH_done (by kernel_rfl) ?_ _
          go_wp2_with fail
          go_meet
          case rel => exact Fin2.out _ _ _ _ _ _ _ HF6.out HZC.out (by omega) HCumC.out rfl
      · go_simp
        refine hK.out _ _ (keepC' ((((Upd.refl _ _).alloc (.cells #[.slice none 0 0, .slice none 0 0] 35)).alloc (.cells #[.int .i64 x, .int .i64 0] 3)).drew) c0) (fun hHeld => ?_)
        clear hK KK
        try simp only [Act.put, List.setIfInBounds_toArray, List.set_cons_zero, List.set_cons_succ]
        refine next_last (i := 1) (by rfl) (by kernel_rfl) (fun KK hK => ?_)
        go_simp
        refine hK.out _ _ (keepC' (((((Upd.refl _ _).alloc (.cells #[.slice none 0 0, .slice none 0 0] 35)).alloc (.cells #[.int .i64 x, .int .i64 0] 3)).alloc (.cells #[] 3)).drew) c0) (fun hHeld => ?_)
        clear hK KK
        try simp only [Act.put, List.setIfInBounds_toArray, List.set_cons_zero, List.set_cons_succ]
        refine next_last (i := 3) (by rfl) (by kernel_rfl) (fun KK hK => ?_)
        have oe0 := own_empty ((w5.alloc (.cells #[.slice none 0 0, .slice none 0 0] 35)).alloc (.cells #[.int .i64 x, .int .i64 0] 3)) 3 1 w5.heap.size (by first | exact Nat.le_refl _ | (simp only [World.size_alloc]; omega))
        simp only [World.size_alloc] at oe0
        have OE := Lib.hid oe0
        have SR := Lib.hid (S0.out.quiet ((((Upd.refl (fun _ => False) w5).alloc (.cells #[.slice none 0 0, .slice none 0 0] 35)).alloc (.cells #[.int .i64 x, .int .i64 0] 3)).alloc (.cells #[] 3)))
        clear oe0
        refine step_app _ (by rfl) _ _ 22 (by rfl) w5.heap.size 3 i0 _ 1 8 Try.underlying22 hi0 hz0 hz1 hz2 rfl (by decide) _ 0 [] (by rfl) OE.out _ _ _ (nums Xs) (by rfl) HXn.out SR.out (nums_one _) (by simp only [maxLen]; omega) (by omega) (by simp only [World.size_alloc, World.size_drew]; omega) ?_
        intro v1 wA ho1 hg1 hat1
        rw [Nat.zero_add, List.nil_append] at ho1
        obtain ⟨b1, c1', rfl⟩ := own_form ho1
        have hcum : Upd (fun _ => False) w5 wA := (((((Upd.refl (fun _ => False) w5).alloc (.cells #[.slice none 0 0, .slice none 0 0] 35)).alloc (.cells #[.int .i64 x, .int .i64 0] 3)).alloc (.cells #[] 3)).drew).grown hg1 (fun g hg hlt => by have h : (w5.heap.size + 1 + 1) = g := Option.some.inj hg; omega)
        have cA := keepC' hcum c0
        have hZ := (((Blk.made w5 [.slice none 0 0, .slice none 0 0] 35).alloc (.cells #[.int .i64 x, .int .i64 0] 3)).alloc (.cells #[] 3)).drew.of_eq (hg1.block (w5.heap.size) (((Blk.made w5 [.slice none 0 0, .slice none 0 0] 35).alloc (.cells #[.int .i64 x, .int .i64 0] 3)).alloc (.cells #[] 3)).lt (fun e => by have h : (w5.heap.size) = (w5.heap.size + 1 + 1) := Option.some.inj e; omega))
        have HZA := Lib.hid hZ
        clear hZ
        have hOB := ((Blk.made' w5 (.cells #[.slice none 0 0, .slice none 0 0] 35) [.int .i64 x, .int .i64 0] 3).alloc (.cells #[] 3)).drew.of_eq (hg1.block (w5.heap.size + 1) ((Blk.made' w5 (.cells #[.slice none 0 0, .slice none 0 0] 35) [.int .i64 x, .int .i64 0] 3).alloc (.cells #[] 3)).lt (fun e => by have h : (w5.heap.size + 1) = (w5.heap.size + 1 + 1) := Option.some.inj e; omega))
        have HOBA := Lib.hid hOB
        clear hOB
        have HOA := Lib.hid ho1
        have HCumA := Lib.hid hcum
        have hsA := hcum.size
        clear ho1 hg1 hat1 hcum
        refine hK.out _ _ cA (fun hHeld => ?_)
        clear hK KK
        try simp only [Act.put, List.setIfInBounds_toArray, List.set_cons_zero, List.set_cons_succ]
        refine next_last (i := 9) (by rfl) (by kernel_rfl) (fun KK hK => ?_)
        have hOW := HOBA.out
        have HOW := Lib.hid hOW
        have HOwnW := Lib.hid HOA.out
        clear hOW
        have HZW := Lib.hid HZA.out
        refine step_app _ (by rfl) _ _ 22 (by rfl) w5.heap.size 3 i0 _ 1 8 Try.underlying22 hi0 hz0 hz1 hz2 rfl (by decide) _ rs.length (nums Xs) (by rfl) HOwnW.out _ _ _ [.int .i64 x, .int .i64 0] (by rfl) rfl (fun j u hu => ⟨_, rfl, blk_src HOW.out j u hu⟩) (by simp [Value.oneCell']) (by simp only [maxLen]; omega) (by omega) (by first | omega | (simp only [World.size_alloc]; omega)) ?_
        intro v2 wB ho2 hg2 hat2
        obtain ⟨b2, c2, rfl⟩ := own_form ho2
        have ug : Upd (fun g => (Value.slice b1 rs.length c1').ownBlock = some g) wA wB := (Upd.refl _ _).grown hg2 (fun g hg _ => hg)
        have hcum : Upd (fun _ => False) w5 wB := HCumA.out.next ug (fun i hi h => by have := (HOA.out.lt i h).1; omega)
        have cB := keepC' hcum c0
        rw [HNs.out] at ho2
        have HOB2 := Lib.hid ho2
        have HCumB := Lib.hid hcum
        have hsB := hcum.size
        have HZB := Lib.hid (HZW.out.upd ug (fun h => own_offR HOwnW.out HZW.out (by decide) h))
        clear ho2 hg2 hat2 ug hcum
        refine hK.out _ _ cB (fun hHeld => ?_)
        clear hK KK
        try simp only [Act.put, List.setIfInBounds_toArray, List.set_cons_zero, List.set_cons_succ]
        refine next_last (i := 10) (by rfl) (by kernel_rfl) (fun KK hK => ?_)
        have HCl := Lib.hid (HOf2.out _ b2 c2 HCumB.out HOB2.out)
        have HZ10 := Lib.hid HZB.out
        go_simp
        refine (HCl.out).mono ?_
        rintro e10 wC ⟨hu10, gva6, gvn6, rfl, hF6⟩
        obtain ⟨ma, mc, rfl⟩ : ∃ a c, gva6 = .slice a (ks ++ [kv, 0]).length c := own_form hF6.roots
        obtain ⟨mn, md, rfl⟩ : ∃ a c, gvn6 = .slice a nds.length c := by obtain ⟨nv, _, hn, _⟩ := hF6.nodes; exact own_form hn
        rw [HKl.out] at hF6 ⊢
        have hcum := HCumB.out.trans hu10
        have cC := keepC' hcum c0
        have HCumC := Lib.hid hcum
        have HF6 := Lib.hid (FormAt_base (base' := w5.heap.size) hF6 (by first | exact hsB | (simp only [World.size_alloc]; omega)))
        have hsC := hcum.size
        have hzc := HZ10.out.upd hu10 (fun h => h)
        have z0 := hzc.cell 0 rfl
        have z1 := hzc.cell 1 rfl
        have zf0 := hzc.frozen 0
        have zf1 := hzc.frozen 1
        have zl := hzc.lt
        have HZC := Lib.hid hzc
        clear hzc
        clear hu10 hF6 hcum HCl
        go_wp2_with fail
        refine hK.out _ _ cC (fun hHeld => ?_)
        clear hK KK
        try simp only [Act.put, List.setIfInBounds_toArray, List.set_cons_zero, List.set_cons_succ]
        refine take_any (i := 11) (v := ?_) (by rfl) (by kernel_rfl) (by exact (fun _ _ _ h => h)) (by rfl) hHeld ?_ ?_
        rotate_left
        · ((intro V hV; obtain hV0 := hV; go_simp) <;> (with_reducible rfl))
        try simp only [Act.put, List.setIfInBounds_toArray, List.set_cons_zero, List.set_cons_succ]
        refine take_any (i := 12) (v := ?_) (by rfl) (by kernel_rfl) (by exact (fun _ _ _ h => h)) (by rfl) hHeld ?_ ?_
        rotate_left
        · ((intro V hV; obtain hV0 := hV; go_simp) <;> (with_reducible rfl))
        try simp only [Act.put, List.setIfInBounds_toArray, List.set_cons_zero, List.set_cons_succ]
        refine take_any (i := 13) (v := ?_) (by rfl) (by kernel_rfl) (by exact (fun _ _ _ h => h)) (by rfl) hHeld ?_ ?_
        rotate_left
        · ((intro V hV; obtain hV0 := hV; go_simp) <;> (with_reducible rfl))
        try simp only [Act.put, List.setIfInBounds_toArray, List.set_cons_zero, List.set_cons_succ]
        refine next_last (i := 15) (by rfl) (by kernel_rfl) (fun KK hK => ?_)
        have hne : vb ≠ (w5.heap.size) := by omega
        go_simp
        refine hK.out _ _ (keepSet2 hne cC) (fun hHeld => ?_)
        clear hK KK
        try simp only [Act.put, List.setIfInBounds_toArray, List.set_cons_zero, List.set_cons_succ]
        refine next_last (i := 16) (by rfl) (by kernel_rfl) (fun KK hK => ?_)
        go_simp
        refine hK.out _ _ (keepSet2 hne cC) (fun hHeld => ?_)
        clear hK KK
        try simp only [Act.put, List.setIfInBounds_toArray, List.set_cons_zero, List.set_cons_succ]
        refine wpAnyH_done (by kernel_rfl) ?_ _
        go_wp2_with fail
        go_meet
        case rel => exact Fin2.out _ _ _ _ _ _ _ HF6.out HZC.out (by omega) HCumC.out rfl
  case rest =>
    obtain ⟨ab, ma, mn, mc, md, rfl, rfl, hA, hF6, hu6, hab⟩ := hcut
    obtain ⟨w6, rfl⟩ : ∃ w6, w6 = wc := ⟨_, rfl⟩
    have hfb := HFm.out.upd hu6 (fun h => h)
    have g0 := hfb.cell 0 rfl
    have g1 := hfb.cell 1 rfl
    have gl := hfb.lt
    have a0 := hA.cell 0 rfl
    have a1 := hA.cell 1 rfl
    have af0 := hA.frozen 0
    have al := hA.lt
    have dn : ((nds.length : Int) != (nds.length : Int)) = false := by simp
    have dk : ((ks.length : Int) + 2 != (ks.length : Int) + 2) = false := by simp
    have dk' : (((ks.length + 2 : Nat) : Int) != (ks.length : Int) + 2) = false := by simp
    have HA := Lib.hid hA
    have HF6 := Lib.hid hF6
    have HU6 := Lib.hid (HU4.out.trans hu6)
    have HF5 := Lib.hid (HF4.out.quiet hu6)
    have HFb := Lib.hid hfb
    clear hA hF6 hu6 hfb
    have hki : ii < ks.length := (List.getElem?_eq_some_iff.1 HKv.out).1
    have hf5r := HF5.out.roots
    have hf6r := HF6.out.roots
    rw [HKl.out] at hf6r
    obtain ⟨fg, hfg⟩ : ∃ fg, fa = some ⟨fg, 0, none⟩ := by
      obtain ⟨fg, fcap, he, _⟩ := own_some hf5r (by omega)
      injection he with h1 _ _
      exact ⟨fg, h1⟩
    obtain ⟨mg, hmg⟩ : ∃ mg, ma = some ⟨mg, 0, none⟩ := by
      obtain ⟨fg, fcap, he, _⟩ := own_some hf6r (by omega)
      injection he with h1 _ _
      exact ⟨fg, h1⟩
    subst hfg
    subst hmg
    have r2 := own_at hf5r ii (u := .int .i64 kv) (by simp [ints, HKv.out])
    have r1 := own_at hf6r ks.length (u := .int .i64 kv) (by simp [ints])
    have r3 := own_at hf6r (ks.length + 1) (u := .int .i64 0) (by simp [ints])
    have j1 : (0 : Int) ≤ (ks.length : Int) := by omega
    have j2 : (ks.length : Int) < (ks.length : Int) + 2 := by omega
    have j2' : (ks.length : Int) < ((ks.length + 2 : Nat) : Int) := by omega
    have j3 : (0 : Int) ≤ (ii : Int) := by omega
    have j4 : (ii : Int) < (ks.length : Int) := by omega
    have j5 : (0 : Int) ≤ (ks.length : Int) + 1 := by omega
    have j6 : (ks.length : Int) + 1 < ((ks.length + 2 : Nat) : Int) := by omega
    have hkl2 : ks.length ≤ 1000000 := by have h1 := HForm.out; obtain ⟨L, F⟩ := form_formed h1; rw [F.roots, List.length_map]; have := HXl.out; omega
    have w1' : IntKind.i64.wrap ((ks.length : Int) + 1) = (ks.length : Int) + 1 := IntWalk.i64_in _ (by omega)
    have dv : (kv != kv) = false := by simp
    have d0' : ((0 : Int) != 0) = false := by decide
    clear hf5r hf6r
    go_upto_region 10 with (fail)
    go_quiet (fail)
    have uq : Upd (fun _ => False) w6 (w6.drewN nq) := (Upd.refl _ w6).drewN nq
    have hA7 := HA.out.upd uq (fun h => h)
    have hB7 := HFb.out.upd uq (fun h => h)
    have hF7 := HF6.out.quiet uq
    have hF57 := HF5.out.quiet uq
    have hU7 := HU6.out.trans uq
    generalize w6.drewN nq = w7 at *
    have hmc : ks.length + 2 ≤ mc := by
      have h1 := hF7.roots
      rw [HKl.out] at h1
      rcases h1.2 with ⟨hv, _⟩ | ⟨g, cap, cur, hv, _, _, hc, _⟩
      · cases hv
      · cases hv; exact hc
    have p1 : (ks.length : Int) ≤ (mc : Int) := by omega
    clear r1 r2 r3 g0 g1 a0 a1 uq af0
    have g0 := hB7.cell 0 rfl
    have g1 := hB7.cell 1 rfl
    have gl := hB7.lt
    have a0 := hA7.cell 0 rfl
    have a1 := hA7.cell 1 rfl
    have af0 := hA7.frozen 0
    have al := hA7.lt
    have HA7 := Lib.hid hA7
    have HB7 := Lib.hid hB7
    have HF7 := Lib.hid hF7
    have HF57 := Lib.hid hF57
    have HU7 := Lib.hid hU7
    clear hA7 hB7 hF7 hF57 hU7
    go_wp2_with fail
    go_upto_region 13 with (fail)
    have hne : w4.heap.size ≠ ab := by have := HFm.out.lt; omega
    have us : Upd (fun k => k = ab) w7 (w7.setCell ⟨ab, 0, none⟩ (.slice (some ⟨mg, 0, none⟩) ks.length mc)) := (Upd.refl (fun k => k = ab) w7).setCell (p := ⟨ab, 0, none⟩) _ (fun _ => rfl)
    have hA8 := HA7.out.set 0 (.slice (some ⟨mg, 0, none⟩) ks.length mc)
    have hB8 := HB7.out.upd us hne
    have hF8 := FormAt_off HF7.out HA7.out us
    have hF58 := FormAt_off HF57.out HA7.out us
    have hU8 := HU7.out.next us (fun i hi h => by have := HU4.out.size; omega)
    generalize w7.setCell ⟨ab, 0, none⟩ (.slice (some ⟨mg, 0, none⟩) ks.length mc) = w8 at *
    clear g0 g1 gl a0 a1 af0 al us
    have g0 := hB8.cell 0 rfl
    have g1 := hB8.cell 1 rfl
    have a0 := hA8.cell 0 rfl
    have a1 := hA8.cell 1 rfl
    have hsz := form_size HForm.out HG.out htop (by have := HXl.out; omega)
    have hmild : Mild nds := ⟨hsz.2.1, hsz.2.2⟩
    have ikf : IntsAt w8 (.slice (some ⟨fg, 0, none⟩) ks.length fc) ks := IntsAt.of_own hF58.roots
    have ikm : IntsAt w8 (.slice (some ⟨mg, 0, none⟩) ks.length mc) ks := by
      obtain ⟨a', cap', he, _, hc⟩ := IntsAt.of_own hF8.roots
      injection he with h1 _ _
      subst h1
      refine ⟨_, mc, rfl, by omega, fun j y hj => hc j y ?_⟩
      rw [List.getElem?_append_left (List.getElem?_eq_some_iff.1 hj).1]
      exact hj
    have inf : NodesAt w8 (.slice fn nds.length fd) nds := by obtain ⟨nv, h1, h2, h3⟩ := hF58.nodes; exact NodesAt.of_own h1 h2 h3
    have inm : NodesAt w8 (.slice mn nds.length md) nds := by obtain ⟨nv, h1, h2, h3⟩ := hF8.nodes; exact NodesAt.of_own h1 h2 h3
    have hnw : nwords nds ≤ 1000000000 := again_words HForm.out HG.out htop
    have hsm := fun (W : World) (hu : Upd (fun _ => False) w8 W) => (sameForm_any W _ _ _ _ ks ks nds nds (ikf.quiet hu) (inf.quiet hu) (ikm.quiet hu) (inm.quiet hu) hsz.1 hsz.1 hmild hmild).mono fun e w' h => (⟨h.1, h.2, hu⟩ : _ ∧ Upd (fun _ => False) W w' ∧ Upd (fun _ => False) w8 W)
    rw [show decide (ks = ks ∧ nds = nds) = true by simp] at hsm
    have hwf := fun (W : World) (hu : Upd (fun _ => False) w8 W) => (words_any W _ _ ks.length fc (some ⟨fg, 0, none⟩) rfl nds (inf.quiet hu) hnw (by omega)).mono fun e w' h => (⟨h.1, h.2, hu⟩ : _ ∧ Upd (fun _ => False) W w' ∧ Upd (fun _ => False) w8 W)
    have hwm := fun (W : World) (hu : Upd (fun _ => False) w8 W) => (words_any W _ _ ks.length mc (some ⟨mg, 0, none⟩) rfl nds (inm.quiet hu) hnw (by omega)).mono fun e w' h => (⟨h.1, h.2, hu⟩ : _ ∧ Upd (fun _ => False) W w' ∧ Upd (fun _ => False) w8 W)
    have HSm := Lib.hid hsm
    have HWf := Lib.hid hwf
    have HWm := Lib.hid hwm
    have HU8 := Lib.hid hU8
    have hcum : Upd (fun _ => False) w8 w8.drew := (Upd.refl _ w8).drew
    clear hA8 hB8 hF8 hF58 hU8 hsz hmild ikf ikm inf inm hsm hwf hwm
    go_region_held3 (fun V => V.cell? ⟨w4.heap.size, 0, none⟩ = some (.slice (some ⟨fg, 0, none⟩) ks.length fc) ∧ V.cell? ⟨w4.heap.size, 1, none⟩ = some (.slice fn nds.length fd) ∧ V.cell? ⟨ab, 0, none⟩ = some (.slice (some ⟨mg, 0, none⟩) ks.length mc) ∧ V.cell? ⟨ab, 1, none⟩ = some (.slice mn nds.length md))
      (with_reducible first | exact keep4' hcum ⟨g0, g1, a0, a1⟩)
      (first | (go_at_call 20; refine (HSm.out _ hcum).mono ?_; rintro e9 w9 ⟨rfl, hu, hW⟩; clear hcum; have hcum := hW.trans hu; clear hu hW) | (go_at_call 18; (with_reducible refine (HWf.out _ hcum).mono ?_); rintro e9 w9 ⟨rfl, hu, hW⟩; clear hcum; have hcum := hW.trans hu; clear hu hW) | (go_at_call 18; (with_reducible refine (HWm.out _ hcum).mono ?_); rintro e9 w9 ⟨rfl, hu, hW⟩; clear hcum; have hcum := hW.trans hu; clear hu hW))
    all_goals
      have HU9 := Lib.hid (HU8.out.trans hcum)
      clear hcum g0 g1 a0 a1
      go_wp2
      go_ret
      exact ⟨rfl, HU9.out⟩
end Go.Proofs.Ytlphlaenecidiaa.Build
