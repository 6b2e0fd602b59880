/- besomlaw11.Build: a told graph's heap, its roots, the document's heap. -/
import Derived.Test.YtlphlaenecidiaaBuildR
import Derived.Test.YtlphlaenecidiaaHead
import Derived.Deep.RegionHeld3
set_option linter.unusedSimpArgs false
namespace Go.Proofs.Ytlphlaenecidiaa.Build
open Go.RowKit Go.Proofs.Ytlphlaenecidiaa.Mem Go.Proofs.Ytlphlaenecidiaa.Obj Go.Proofs.Ytlphlaenecidiaa.Ref Go.Proofs.Ytlphlaenecidiaa.Heap

theorem tot_take {ns : List GNd} {k : Nat} {n : GNd} (h : ns[k]? = some n) : tot (ns.take (k + 1)) = tot (ns.take k) + (3 + n.len) := by
  rw [List.take_add_one, h, Option.toList_some, tot_append, tot, tot]; omega
theorem tot_le (ns : List GNd) (h : ∀ n ∈ ns, n.edges.length ≤ 10) : tot ns ≤ ns.length * 16 := by
  induction ns with
  | nil => simp [tot]
  | cons n ns ih =>
    have h1 := ih (fun m hm => h m (List.mem_cons_of_mem _ hm))
    have h2 := h n List.mem_cons_self
    have h3 : n.len ≤ 13 := by unfold GNd.len; omega
    rw [tot, List.length_cons]
    omega
theorem tot_take_le (ns : List GNd) (k : Nat) : tot (ns.take k) ≤ tot ns := by
  conv => rhs; rw [← List.take_append_drop k ns]
  rw [tot_append]; omega

/-- What Build answers. -/
def BuildEnd (w : World) (ns : List GNd) (rs : List Nat) (room : Nat) (e : Ending) (w' : World) : Prop :=
  ∃ (h wb sb : Nat) (rest : List Int) (va : Option Addr) (vc : Nat) (vr : Value) (S : Nat → Prop), e = .returned (.tuple #[.pointer (some ⟨h, 0, none⟩), .slice va rs.length vc, hv (1 + room + tot ns) vr]) ∧
    HeapAt w' h wb sb (1 + room + tot ns) (obsOf ns) rest ∧ w'.ownsRow w.heap.size 3 1 (.slice va rs.length vc) rs.length (nums (rs.map (placeOf (atOf ns)))) ∧ RefAtS w' w.heap.size vr (obsOf ns) S ∧ S h ∧ S wb ∧ S sb ∧
    (∀ g, (Value.slice va rs.length vc).ownBlock = some g → g ≠ wb) ∧ w.heap.size ≤ h ∧ w.heap.size ≤ wb ∧ w.heap.size ≤ sb ∧ Upd (fun _ => False) w w'

/-- The objects when so many nodes are placed. -/
def layK (ns : List GNd) (k : Nat) : List Ob := layG 0 (ns.take k) ((ns.take k).map zeros)
theorem layK_succ {ns : List GNd} {k : Nat} {n : GNd} (h : ns[k]? = some n) : layK ns (k + 1) = layK ns k ++ fill k n ++ [nodeOb n (zeros n)] := by
  have hk : k < ns.length := (List.getElem?_eq_some_iff.1 h).1
  unfold layK
  rw [List.take_add_one, h, Option.toList_some, List.map_append, List.map_singleton, layG_snoc 0 (Fits.zeros _), List.length_take, show 0 + min k ns.length = k by omega]
theorem atK_succ {ns : List GNd} {k : Nat} {n : GNd} (h : ns[k]? = some n) : atG 0 0 (ns.take (k + 1)) = atG 0 0 (ns.take k) ++ [top (layK ns k ++ fill k n)] := by
  have hk : k < ns.length := (List.getElem?_eq_some_iff.1 h).1
  unfold layK
  rw [List.take_add_one, h, Option.toList_some, atG_snoc 0 0 (Fits.zeros _), List.length_take, show 0 + min k ns.length = k by omega, top_append, Nat.zero_add]
theorem layK_top (ns : List GNd) (k : Nat) : top (layK ns k) ≤ tot (ns.take k) := layG_top 0 (Fits.zeros _)
theorem layK_zero (ns : List GNd) : layK ns 0 = [] := by simp [layK, layG]
theorem placeOf_in {l : List Nat} (h : ∀ a ∈ l, a ≤ 65536) (e : Nat) : -9223372036854775808 ≤ placeOf l e ∧ placeOf l e ≤ 9223372036854775807 := by
  unfold placeOf
  cases ha : l[e % (l.length + 1)]? with
  | none => simp
  | some a =>
    have := h a (List.mem_of_getElem? ha)
    simp only
    omega
theorem keep2set {w : World} {b c : Nat} {o o' : Nat} {u u' x y : Value} (hne : b ≠ c) (hs : w.cell? ⟨b, 0, none⟩ = some x ∧ w.cell? ⟨b, 1, none⟩ = some y) :
    ((w.setCell ⟨c, o, none⟩ u).setCell ⟨c, o', none⟩ u').drew.cell? ⟨b, 0, none⟩ = some x ∧ ((w.setCell ⟨c, o, none⟩ u).setCell ⟨c, o', none⟩ u').drew.cell? ⟨b, 1, none⟩ = some y := by
  have e := (((Upd.refl (fun k => k = c) w).setCell (p := ⟨c, o, none⟩) u (fun _ => rfl)).setCell (p := ⟨c, o', none⟩) u' (fun _ => rfl)).drew
  have one : ∀ {j : Nat} {x : Value}, w.cell? ⟨b, j, none⟩ = some x → ((w.setCell ⟨c, o, none⟩ u).setCell ⟨c, o', none⟩ u').drew.cell? ⟨b, j, none⟩ = some x := fun {j x} hc => by
    rw [World.cell?, e.block b (World.block_lt_of_cell? w _ hc) hne]
    exact hc
  exact ⟨one hs.1, one hs.2⟩
/-- Loop 1. -/
def Sizing (w : World) (ns : List GNd) (room : Nat) (s i : Value) (wr : World) : Prop := ∃ k : Nat, k ≤ ns.length ∧ i = .int .i64 (k : Int) ∧ s = .int .i64 ((1 + room + tot (ns.take k) : Nat) : Int) ∧ Upd (fun _ => False) w wr

set_option maxRecDepth 100000 in
set_option maxHeartbeats 8000000 in
theorem build_any (w : World) (na ra : Option Addr) (nc rc : Nat) (ns : List GNd) (rs : List Nat) (hn : NodesIn w na ns) (hr : Bytes w ra rs) (hf : Few ns rs) (room : Nat) (hroom : room ≤ 100) :
    Calls Try.prog 16 #[gv na ns.length nc ra rs.length rc, .int .i64 (room : Int)] w (BuildEnd w ns rs room) := by
  obtain ⟨i0, hi0, hz0, hz1, hz2⟩ := info_parts Ref.infoInt
  have hnl : ns.length ≤ 14 := hf.2.1
  have hrl : rs.length ≤ 14 := hf.2.2
  have htl := tot_le ns hf.1
  have HG0 := Lib.hid ((Blk.made w (GB na ns.length nc ra rs.length rc) 46).alloc (.cells #[.int .i64 0, .slice none 0 0] 30))
  have HR0 := Lib.hid (Blk.made' w (.cells (GB na ns.length nc ra rs.length rc).toArray 46) [.int .i64 0, .slice none 0 0] 30)
  have HU0 := Lib.hid (((Upd.refl (fun _ => False) w).alloc (.cells (GB na ns.length nc ra rs.length rc).toArray 46)).alloc (.cells #[.int .i64 0, .slice none 0 0] 30))
  have HN := Lib.hid hn
  have HRs := Lib.hid hr
  have HF := Lib.hid hf.1
  clear hn hr hf
  go_enter Try.func16, Try.ntmps16
  go_wp2
  go_loopw [7, 33] (fun s i wr => Sizing w ns room s i wr ∧ Blk wr w.heap.size (GB na ns.length nc ra rs.length rc) 46 ∧ Blk wr (w.heap.size + 1) [.int .i64 0, .slice none 0 0] 30) (fun _ i _ => ns.length - (intOf i).toNat)
  case atStart => exact ⟨⟨0, Nat.zero_le _, rfl, by go_num, HU0.out⟩, HG0.out, HR0.out⟩
  case round =>
    obtain ⟨⟨k, hk, rfl, rfl, hU⟩, hB, hR⟩ := hrel
    have b0 := hB.cell 0 rfl
    have b1 := hB.cell 1 rfl
    have bl := hB.lt
    have HBr := Lib.hid hB
    have HRr := Lib.hid hR
    have HUr := Lib.hid hU
    have htk := tot_take_le ns k
    by_cases hlk : k < ns.length
    · obtain ⟨n, hnk⟩ : ∃ n, ns[k]? = some n := ⟨_, List.getElem?_eq_getElem hlk⟩
      obtain ⟨b, off, ea, ec, rfl, hbl, c0, c1, c2, hby, hkk, hmm⟩ := (HN.out.quiet hU) k n hnk
      have d1 : decide ((k : Int) < (ns.length : Int)) = true := decide_eq_true (by omega)
      have d1' : decide (k < ns.length) = true := decide_eq_true hlk
      have i1 : (0 : Int) ≤ (k : Int) := by omega
      have i2 : (k : Int) < (ns.length : Int) := by omega
      have hel := HF.out n (List.mem_of_getElem? hnk)
      have htt := tot_take hnk
      obtain ⟨T, hT⟩ : ∃ T, T = tot (ns.take k) := ⟨_, rfl⟩
      rw [← hT] at htt htk ⊢
      have hts : 1 + room + T ≤ 1000 := by omega
      have HTt := Lib.hid htt
      have HNk := Lib.hid hnk
      have HT := Lib.hid hT
      clear hnk hB hU hR hby htt hT
      go_wp2
      go_roundw
      case rel =>
        refine ⟨⟨k + 1, by omega, by go_num, ?_, HUr.out.alloc _⟩, HBr.out.alloc _, HRr.out.alloc _⟩
        rw [HTt.out, GNd.len]
        go_num
      case measure => simp [intOf]; omega
    · have hke : k = ns.length := by omega
      subst hke
      rw [List.take_length]
      obtain ⟨sz, hsz⟩ : ∃ sz, sz = 1 + room + tot ns := ⟨_, rfl⟩
      rw [← hsz]
      have hs1 : 1 ≤ sz := by omega
      have hs2 : sz ≤ 65536 := by omega
      have HSz := Lib.hid hsz
      clear hB hU hR hsz htk
      go_wp2_with fail
      refine (new_yes sz wr hs1 hs2).mono ?_
      rintro e w1 ⟨h, wb, sb, rfl, hH, hh, hwb, hsb, hu1⟩
      have hal := (Upd.refl (fun _ => False) w1).alloc (.cells #[.int .i64 (sz : Int), .slice none 0 0] 30)
      have hu0 := (HUr.out.trans hu1).trans hal
      have hst0 : St w (GB na ns.length nc ra rs.length rc) h wb sb w1.heap.size sz (layK ns 0) (layK ns 0) (.slice none 0 0) (.slice none 0 0) (atG 0 0 (ns.take 0)) (w1.alloc (.cells #[.int .i64 (sz : Int), .slice none 0 0] 30)) := by
        rw [layK_zero]
        have hw := HUr.out.size
        have hw1 := hu1.size
        have hR1 := (HRr.out.upd hu1 (fun h => h)).lt
        have hl1 := hH.str.lt
        have hl2 := hH.wds.lt
        have hl3 := hH.sts.lt
        refine ⟨⟨_, hH.quiet hal⟩, ⟨fun k => k < w1.heap.size + 1, ⟨⟨[], rfl, World.ownsRow_nil _ _ _ _, (fun p hp => by cases hp), (fun p hp => by cases hp)⟩, by simp, (fun o ho => by cases ho)⟩, by show h < _; omega, by show wb < _; omega, by show sb < _; omega, Nat.lt_succ_self _, by show w.heap.size + 1 < _; omega, (fun g hg => by cases hg), (fun k hk => by simpa using hk)⟩, Blk.made _ _ _, World.ownsRow_nil _ _ _ _, (fun g hg => by cases hg), (HBr.out.upd hu1 (fun h => h)).alloc _, (HRr.out.upd hu1 (fun h => h)).alloc _, hu0, by omega⟩
      have HSt0 := Lib.hid hst0
      have g0 := (HBr.out.upd hu1 (fun h => h)).cell 0 rfl
      have g1 := (HBr.out.upd hu1 (fun h => h)).cell 1 rfl
      have gl := (HBr.out.upd hu1 (fun h => h)).lt
      clear hst0 hal hu0 hH hu1
      go_wp2
      clear g0 g1 gl
      obtain ⟨mb, hmb⟩ : ∃ mb, w1.heap.size = mb := ⟨_, rfl⟩
      rw [hmb] at HSt0 ⊢
      clear hmb
      obtain ⟨wi, rfl⟩ : ∃ wi, wi = wr := ⟨_, rfl⟩
      go_loopw [13, 59] (fun vat i wr => ∃ (k : Nat) (vr : Value), k ≤ ns.length ∧ i = .int .i64 (k : Int) ∧ St w (GB na ns.length nc ra rs.length rc) h wb sb mb sz (layK ns k) (layK ns k) vr vat (atG 0 0 (ns.take k)) wr) (fun _ i _ => ns.length - (intOf i).toNat)
      case atStart => exact ⟨0, _, Nat.zero_le _, rfl, HSt0.out⟩
      case round =>
        clear HSt0
        obtain ⟨k, vr, hk, rfl, hSt⟩ := hrel
        obtain ⟨l, hl⟩ : ∃ l, l = atG 0 0 (ns.take k) := ⟨_, rfl⟩
        obtain ⟨os, hos⟩ : ∃ os, os = layK ns k := ⟨_, rfl⟩
        rw [← hl, ← hos] at hSt
        have hll : l.length = k := by rw [hl, atG_len, List.length_take]; omega
        obtain ⟨va, vc, rfl⟩ := own_form hSt.ats
        rw [hll]
        rw [hll] at hSt
        have HL := Lib.hid hl
        have HOs := Lib.hid hos
        have HSt := Lib.hid hSt
        have HLl := Lib.hid hll
        have b0 := hSt.gbk.cell 0 rfl
        have b1 := hSt.gbk.cell 1 rfl
        have bl := hSt.gbk.lt
        clear hl hos hll
        by_cases hlk : k < ns.length
        · obtain ⟨n, hnk⟩ : ∃ n, ns[k]? = some n := ⟨_, List.getElem?_eq_getElem hlk⟩
          obtain ⟨b, off, ea, ec, rfl, hbl, c0, c1, c2, hby, hkk, hmm⟩ := (HN.out.quiet hSt.upd) k n hnk
          have d1 : decide ((k : Int) < (ns.length : Int)) = true := decide_eq_true (by omega)
          have d1' : decide (k < ns.length) = true := decide_eq_true hlk
          have i1 : (0 : Int) ≤ (k : Int) := by omega
          have i2 : (k : Int) < (ns.length : Int) := by omega
          have hel := HF.out n (List.mem_of_getElem? hnk)
          have HNk := Lib.hid hnk
          obtain ⟨q2, hq2⟩ : ∃ q2 : Nat, ((n.kind : Int) % 2) = (q2 : Int) := ⟨n.kind % 2, by omega⟩
          obtain ⟨q15, hq15⟩ : ∃ q15 : Nat, ((n.kind : Int) % 15) = (q15 : Int) := ⟨n.kind % 15, by omega⟩
          obtain ⟨q4, hq4⟩ : ∃ q4 : Nat, ((n.more : Int) % 4) = (q4 : Int) := ⟨n.more % 4, by omega⟩
          have hqb : q2 ≤ 1 ∧ q15 ≤ 14 ∧ q4 ≤ 3 := by omega
          have hlen : n.len = n.edges.length + q4 := by unfold GNd.len; omega
          have htk2 := tot_take hnk
          have htl2 := tot_take_le ns (k + 1)
          have hlt2 := layK_top ns k
          rw [← HOs.out] at hlt2
          have hsz2 := HSz.out
          have hroom1 : top os + 1 + q2 ≤ sz := by omega
          have hroom2 : top os + 3 + n.edges.length + q4 ≤ sz := by omega
          have HLen := Lib.hid hlen
          clear hlen htk2 htl2 hlt2 hsz2
          have hX := Blk.made wr [.int .u8 (n.kind : Int), .slice ea n.edges.length ec, .int .u8 (n.more : Int)] 59
          have hua := (Upd.refl (fun _ => False) wr).alloc (.cells #[.int .u8 (n.kind : Int), .slice ea n.edges.length ec, .int .u8 (n.more : Int)] 59)
          have HX := Lib.hid hX
          have HS1 := Lib.hid (hSt.quiet hua)
          clear hSt hnk hby hX hua
          by_cases hfi : k % 3 = 2
          focus
            have d3 : (((k : Int) % 3) == 2) = true := by rw [beq_iff_eq]; omega
            have hfill : fill k n = [⟨15, 0, List.replicate q2 0⟩] := by unfold fill; rw [if_pos hfi, show n.kind % 2 = q2 by omega]
            have HFill := Lib.hid hfill
            have hpl := hplace_st HS1.out 15 q2 0 (goodB_yes (by omega)) hroom1
            rw [show ((15 : Nat) : Int) = 15 from rfl, show ((0 : Nat) : Int) = 0 from rfl] at hpl
            have HPl := Lib.hid hpl
            clear hfill hpl hfi
            go_wp2_with fail
            refine (HPl.out).mono ?_
            rintro e w2 ⟨rfl, hS2, hu2⟩
            obtain ⟨hrest, hH1⟩ := HS1.out.heap
            have hX2 := HX.out.upd hu2 (heap_off hH1 HX.out (by decide) (by decide) (by decide))
            have HX2 := Lib.hid hX2
            have e0 := hX2.cell 0 rfl
            have xl := hX2.lt
            have m0 := hS2.mbk.cell 0 rfl
            have m1 := hS2.mbk.cell 1 rfl
            have ml := hS2.mbk.lt
            obtain ⟨ma, mc, rfl⟩ : ∃ a c, vr = .slice a os.length c := by obtain ⟨S, R, _⟩ := hS2.ref; exact R.form
            have hpl := rplace_st hS2 15 q2 0 (goodB_yes (by omega)) hroom1 hs2
            rw [show ((15 : Nat) : Int) = 15 from rfl, show ((0 : Nat) : Int) = 0 from rfl] at hpl
            have HPl2 := Lib.hid hpl
            have HS2 := Lib.hid hS2
            clear hS2 hu2 hX2 hpl hH1 HPl
            go_wp2_with fail
            refine (HPl2.out).mono ?_
            rintro e w3 ⟨mb2, mc2, rfl, hBk, hu3⟩
            have hmb3 := HS2.out.mbk.upd hu3 (fun h => h)
            have n0 := hmb3.cell 0 rfl
            have n1 := hmb3.cell 1 rfl
            have nf0 := hmb3.frozen 0
            have nf1 := hmb3.frozen 1
            have nl := hmb3.lt
            have HBk := Lib.hid hBk
            have HX3 := Lib.hid (HX2.out.upd hu3 (fun h => h))
            have hxmb : wr.heap.size ≠ mb := fun e => by have := ((HX2.out.upd hu3 (fun h => h)).unique (by rw [e]; exact hmb3)).2; exact absurd this (by decide)
            clear hBk hu3 hmb3 m0 m1 ml e0 xl HPl2
            go_upto_region 16 with (fail)
            have hS4 := HBk.out w3 (Upd.refl _ _)
            have hX4 := Blk.back HX3.out hxmb (.int .i64 (sz : Int)) (.slice mb2 (os.length + 1) mc2)
            have hlen1 : (os ++ [(⟨15, 0, List.replicate q2 0⟩ : Ob)]).length = os.length + 1 := by simp
            rw [hlen1] at hS4
            obtain ⟨os1, hos1⟩ : ∃ os1, os1 = os ++ fill k n := ⟨_, rfl⟩
            have hos1l : os.length + 1 = os1.length := by rw [hos1, HFill.out]; simp
            have htop1 : top os1 = top os + 1 + q2 := by rw [hos1, HFill.out, top_append, top_cons, top_nil]; simp [Ob.len]; omega
            rw [← HFill.out, ← hos1] at hS4
            obtain ⟨ga, hga⟩ : ∃ ga, ga = mb2 := ⟨_, rfl⟩
            obtain ⟨gc, hgc⟩ : ∃ gc, gc = mc2 := ⟨_, rfl⟩
            rw [hos1l] at hS4 hX4
            simp only [hos1l]
            rw [← hga, ← hgc] at hS4 hX4 ⊢
            generalize (w3.setCell ⟨mb, 0, none⟩ (.int .i64 (sz : Int))).setCell ⟨mb, 1, none⟩ (.slice ga os1.length gc) = w4 at *
            have hroom3 : top os1 + 1 + (n.edges.length + q4) ≤ sz := by omega
            have HS4 := Lib.hid hS4
            have HX4 := Lib.hid hX4
            have HOs1 := Lib.hid hos1
            clear hS4 hX4 hlen1 hos1 hos1l htop1 hga hgc HX3 HX2 HBk HS2 n0 n1 nf0 nf1 nl hroom1 hroom2
            skip
          rotate_left
          focus
            have d3 : (((k : Int) % 3) == 2) = false := by rw [beq_eq_false_iff_ne]; omega
            have hfill : fill k n = [] := by unfold fill; rw [if_neg hfi]
            obtain ⟨os1, hos1⟩ : ∃ os1, os1 = os ++ fill k n := ⟨_, rfl⟩
            have hoe : os1 = os := by rw [hos1, hfill, List.append_nil]
            obtain ⟨ga, gc, rfl⟩ : ∃ a c, vr = .slice a os1.length c := by obtain ⟨S, R, _⟩ := HS1.out.ref; rw [hoe]; exact R.form
            have hroom3 : top os1 + 1 + (n.edges.length + q4) ≤ sz := by rw [hoe]; omega
            have hS4 := HS1.out
            rw [← hoe] at hS4
            have HS4' := Lib.hid hS4
            have HOs1 := Lib.hid hos1
            clear hS4 hfi hfill hos1 hoe hroom1 hroom2
            go_upto_region 16 with (fail)
            obtain ⟨w4, hw4⟩ : ∃ w4, wr.alloc (.cells #[.int .u8 (n.kind : Int), .slice ea n.edges.length ec, .int .u8 (n.more : Int)] 59) = w4 := ⟨_, rfl⟩
            have hS4 := HS4'.out
            have hX4 := HX.out
            rw [hw4] at hS4 hX4 ⊢
            have HS4 := Lib.hid hS4
            have HX4 := Lib.hid hX4
            clear hS4 hX4 hw4 HS4'
            skip
          all_goals
            have e0 := HX4.out.cell 0 rfl
            have e1 := HX4.out.cell 1 rfl
            have e2 := HX4.out.cell 2 rfl
            have xl := HX4.out.lt
            have hnc : ((n.edges.length + q4 : Nat) : Int) = (n.edges.length : Int) + (q4 : Int) := by push_cast; rfl
            have hS5 := HS4.out.quiet ((Upd.refl (fun _ => False) w4).alloc (.cells #[.int .i64 (q15 : Int), .int .i64 ((n.edges.length : Int) + (q4 : Int)), .int .i64 (n.edges.length : Int)] 53))
            have hpl := hplace_st hS5 q15 (n.edges.length + q4) n.edges.length (goodB_yes (by omega)) hroom3
            rw [hnc] at hpl
            have HPl := Lib.hid hpl
            have HNc := Lib.hid hnc
            have HS5 := Lib.hid hS5
            have HX5 := Lib.hid (HX4.out.alloc (.cells #[.int .i64 (q15 : Int), .int .i64 ((n.edges.length : Int) + (q4 : Int)), .int .i64 (n.edges.length : Int)] 53))
            have HD5 := Lib.hid (Blk.made w4 [.int .i64 (q15 : Int), .int .i64 ((n.edges.length : Int) + (q4 : Int)), .int .i64 (n.edges.length : Int)] 53)
            clear hS5 hpl hnc
            go_wp2_with fail
            refine (HPl.out).mono ?_
            rintro e w5 ⟨rfl, hS6, hu5⟩
            obtain ⟨hrest, hH1⟩ := HS5.out.heap
            have hD6 := HD5.out.upd hu5 (heap_off hH1 HD5.out (by decide) (by decide) (by decide))
            have y0 := hD6.cell 0 rfl
            have y1 := hD6.cell 1 rfl
            have y2 := hD6.cell 2 rfl
            have yl := hD6.lt
            have m0 := hS6.mbk.cell 0 rfl
            have m1 := hS6.mbk.cell 1 rfl
            have ml := hS6.mbk.lt
            have hpl := rplace_st hS6 q15 (n.edges.length + q4) n.edges.length (goodB_yes (by omega)) hroom3 hs2
            rw [HNc.out] at hpl
            have HPl2 := Lib.hid hpl
            have HS6 := Lib.hid hS6
            clear hS6 hu5 hD6 hpl hH1 HPl e0 e1 e2 xl
            go_wp2_with fail
            refine (HPl2.out).mono ?_
            rintro e w6 ⟨na2, nc2, rfl, hBk, hu6⟩
            have hl7 : (os1 ++ [(⟨q15, n.edges.length, List.replicate (n.edges.length + q4) 0⟩ : Ob)]).length = os1.length + 1 := by simp
            rw [hl7]
            have hBk7 := hBk w6 (Upd.refl _ w6)
            rw [hl7] at hBk7
            have hS7 := hBk7.quiet ((Upd.refl _ _).alloc (.cells #[.int .i64 (sz : Int), .slice na2 (os1.length + 1) nc2] 30))
            have hmb7 := (HS6.out.mbk.upd hu6 (fun h => h))
            have n0 := hmb7.cell 0 rfl
            have n1 := hmb7.cell 1 rfl
            have nf0 := hmb7.frozen 0
            have nf1 := hmb7.frozen 1
            have nl := hmb7.lt
            have HS7 := Lib.hid hS7
            clear hBk hl7 hu6 hmb7 hBk7 hS7 m0 m1 ml y0 y1 y2 yl HPl2
            go_upto_region 20 with (fail)
            have hS7 := HS7.out
            generalize ((w6.setCell ⟨mb, 0, none⟩ (.int .i64 (sz : Int))).setCell ⟨mb, 1, none⟩ (.slice na2 (os1.length + 1) nc2)).alloc (.cells #[.int .i64 (sz : Int), .slice na2 (os1.length + 1) nc2] 30) = w7 at *
            have hats := hS7.ats
            rw [HLl.out] at hats
            have HS7 := Lib.hid hS7
            have HAts := Lib.hid hats
            clear hS7 hats n0 n1 nf0 nf1 nl HX5 HD5 HS5 HS6 HX4 HS4
            go_wp2_with (first | (at_builtin; refine wpList_append_lies _ rfl _ _ 22 rfl w.heap.size 3 i0 _ 1 8 Try.underlying22 hi0 hz0 hz1 hz2 rfl (by decide) _ k (nums (adr l)) rfl (HAts.out.alloc _) ⟨w7.heap.size, 0, none⟩ 1 1 [.int .i64 (top os1 : Int)] rfl rfl ?_ ?_ (by decide) ?_ ?_ ?_ _ rfl ?_))
            · exact cells_new _ _ _
            · simp [Value.oneCell']
            · simp only [maxLen]; omega
            · omega
            · have := HS7.out.upd.size; simp only [World.size_alloc]; omega
            intro g cap w8 hO8 hg8 hat8 hlt8
            have u8 : Upd (fun j => (Value.slice va k vc).ownBlock = some j) w7 w8 := ((Upd.refl _ w7).alloc (.cells #[.int .i64 (top os1 : Int)] 3)).grown hg8 (fun j hj _ => hj)
            have hb8 : ∀ j, (Value.slice (some ⟨g, 0, none⟩) (k + 1) cap).ownBlock = some j → (Value.slice va k vc).ownBlock = some j ∨ w7.heap.size ≤ j := by
              intro j hj
              have hgj : g = j := Option.some.inj hj
              subst hgj
              rcases hat8 with h | h
              · exact .inl h
              · right
                have := World.size_alloc w7 (.cells #[.int .i64 (top os1 : Int)] 3)
                omega
            have hO8' : w8.ownsRow w.heap.size 3 1 (.slice (some ⟨g, 0, none⟩) (k + 1) cap) (l.length + 1) (nums (adr l) ++ [.int .i64 ((top os1 : Nat) : Int)]) := by
              rw [HLl.out]
              exact hO8
            have hS8 := HS7.out.more hO8' u8 hb8
            have HS8 := Lib.hid hS8
            clear hO8 hg8 hat8 hlt8 u8 hb8 hO8' hS8
            go_wp2
            go_roundw
            case rel =>
              refine ⟨k + 1, .slice na2 (os1.length + 1) nc2, by omega, by go_num, ?_⟩
              rw [atK_succ HNk.out, layK_succ HNk.out, ← HOs.out, ← HL.out, ← HOs1.out]
              have hz : nodeOb n (zeros n) = ⟨q15, n.edges.length, List.replicate (n.edges.length + q4) 0⟩ := by
                unfold nodeOb zeros GNd.len
                rw [show n.kind % 15 = q15 by omega, show n.more % 4 = q4 by omega]
              rw [hz]
              exact HS8.out
            case measure => simp [intOf]; omega
        · have hke : k = ns.length := by omega
          subst hke
          have hat : l = atOf ns := by rw [HL.out, List.take_length]; rfl
          have hos2 : os = layG 0 ns (wordsAt (atOf ns) ns 0 0) := by rw [HOs.out, layK, List.take_length, wordsAt_start]
          have hSt2 := HSt.out
          rw [hos2, hat] at hSt2
          have HSt2 := Lib.hid hSt2
          have hlb : ∀ a ∈ atOf ns, a ≤ 65536 := fun a ha => by have h1 := atOf_le ha; have h2 := HSz.out; omega
          have HLb := Lib.hid hlb
          clear hSt hat hos2 hSt2 HSt HL HOs HLl hlb
          go_wp2
          clear b0 b1 bl
          obtain ⟨wj, rfl⟩ : ∃ wj, wj = wr := ⟨_, rfl⟩
          go_loopw [120] (fun i wr => ∃ (k : Nat) (vr : Value), k ≤ ns.length ∧ i = .int .i64 (k : Int) ∧ St w (GB na ns.length nc ra rs.length rc) h wb sb mb sz (layG 0 ns (wordsAt (atOf ns) ns k 0)) (layG 0 ns (wordsAt (atOf ns) ns k 0)) vr (.slice va ns.length vc) (atOf ns) wr) (fun i _ => ns.length - (intOf i).toNat)
          case atStart => exact ⟨0, _, Nat.zero_le _, rfl, HSt2.out⟩
          case round =>
            clear HSt2
            obtain ⟨k, vr, hk, rfl, hSt⟩ := hrel
            have HSt := Lib.hid hSt
            have b0 := hSt.gbk.cell 0 rfl
            have b1 := hSt.gbk.cell 1 rfl
            have bl := hSt.gbk.lt
            by_cases hlk : k < ns.length
            · obtain ⟨n, hnk⟩ : ∃ n, ns[k]? = some n := ⟨_, List.getElem?_eq_getElem hlk⟩
              obtain ⟨b, off, ea, ec, rfl, hbl0, c0', c1', c2', hby, hkk, hmm⟩ := HN.out k n hnk
              have c0 := keepC' hSt.upd c0'
              have c1 := keepC' hSt.upd c1'
              have c2 := keepC' hSt.upd c2'
              have hbl := Nat.lt_of_lt_of_le hbl0 hSt.upd.size
              clear c0' c1' c2'
              obtain ⟨ag, hva⟩ : ∃ ag, va = some ⟨ag, 0, none⟩ := by
                obtain ⟨ag, acap, hae, _⟩ := own_some hSt.ats (by rw [atOf_len]; omega)
                injection hae with h1 _ _
                exact ⟨ag, h1⟩
              subst hva
              obtain ⟨a, ha⟩ : ∃ a, (atOf ns)[k]? = some a := ⟨_, List.getElem?_eq_getElem (by rw [atOf_len]; exact hlk)⟩
              have d1 : decide ((k : Int) < (ns.length : Int)) = true := decide_eq_true (by omega)
              have d1' : decide (k < ns.length) = true := decide_eq_true hlk
              have i1 : (0 : Int) ≤ (k : Int) := by omega
              have i2 : (k : Int) < (ns.length : Int) := by omega
              have hel := HF.out n (List.mem_of_getElem? hnk)
              have HNk := Lib.hid hnk
              have HA := Lib.hid ha
              obtain ⟨q4, hq4⟩ : ∃ q4 : Nat, ((n.more : Int) % 4) = (q4 : Int) := ⟨n.more % 4, by omega⟩
              have hlen : n.len = n.edges.length + q4 := by unfold GNd.len; omega
              have HLen := Lib.hid hlen
              have hq4b : q4 ≤ 3 := by omega
              have hX := Blk.made wr [.int .u8 (n.kind : Int), .slice ea n.edges.length ec, .int .u8 (n.more : Int)] 59
              have hua := (Upd.refl (fun _ => False) wr).alloc (.cells #[.int .u8 (n.kind : Int), .slice ea n.edges.length ec, .int .u8 (n.more : Int)] 59)
              have HX := Lib.hid hX
              have HS1 := Lib.hid (hSt.quiet hua)
              have HBy := Lib.hid hby
              clear hSt hnk hby hX hua hlen ha HSt
              go_wp2
              obtain ⟨xb, hxb⟩ : ∃ xb, wr.heap.size = xb := ⟨_, rfl⟩
              have hX := HX.out
              rw [hxb] at hX ⊢
              have HX := Lib.hid hX
              clear hxb hX c0 c1 c2 hbl b0 b1 bl
              obtain ⟨wk, rfl⟩ : ∃ wk, wk = wr := ⟨_, rfl⟩
              have HS0 := Lib.hid (show ∃ vr, St w (GB (some ⟨b, off, none⟩) ns.length nc ra rs.length rc) h wb sb mb sz (layG 0 ns (wordsAt (atOf ns) ns k 0)) (layG 0 ns (wordsAt (atOf ns) ns k 0)) vr (.slice (some ⟨ag, 0, none⟩) ns.length vc) (atOf ns) _ from ⟨_, HS1.out⟩)
              go_loopw [128] (fun i wr => ∃ (f : Nat) (vr : Value), f ≤ n.edges.length ∧ i = .int .i64 (f : Int) ∧ St w (GB (some ⟨b, off, none⟩) ns.length nc ra rs.length rc) h wb sb mb sz (layG 0 ns (wordsAt (atOf ns) ns k f)) (layG 0 ns (wordsAt (atOf ns) ns k f)) vr (.slice (some ⟨ag, 0, none⟩) ns.length vc) (atOf ns) wr ∧ Blk wr xb [.int .u8 (n.kind : Int), .slice ea n.edges.length ec, .int .u8 (n.more : Int)] 59) (fun i _ => n.edges.length - (intOf i).toNat)
              case atStart => exact ⟨0, _, Nat.zero_le _, rfl, HS1.out, HX.out⟩
              case round =>
                clear HS0 HS1 HX
                obtain ⟨f, vr, hf, rfl, hSt, hX⟩ := hrel
                have HSt := Lib.hid hSt
                have HX := Lib.hid hX
                have x1 := hX.cell 1 rfl
                have x2 := hX.cell 2 rfl
                have xl := hX.lt
                by_cases hlf : f < n.edges.length
                · obtain ⟨e, hef⟩ : ∃ e, n.edges[f]? = some e := ⟨_, List.getElem?_eq_getElem hlf⟩
                  obtain ⟨eb, eoff, rfl, hec, hebl, he256⟩ := (HBy.out.quiet hSt.upd) f e hef
                  have d2 : decide ((f : Int) < (n.edges.length : Int)) = true := decide_eq_true (by omega)
                  have d2' : decide (f < n.edges.length) = true := decide_eq_true hlf
                  have j1 : (0 : Int) ≤ (f : Int) := by omega
                  have j2 : (f : Int) < (n.edges.length : Int) := by omega
                  have hsp := write_step HNk.out HA.out (by have := HLen.out; omega) (full_edge (l := atOf ns) (i := k) hef)
                  have hnob : (nodeOb n (stage (atOf ns) k f n)).len = n.len := stage_len _ _ _ _ (by have := HLen.out; omega)
                  have hld : leads (layG 0 ns (wordsAt (atOf ns) ns k f)) (placeOf (atOf ns) e) = true := placeOf_leads (wordsAt_fits _ _ _ _ (fun m hm => by rw [HNk.out] at hm; cases hm; have := HLen.out; omega)) e
                  have hpb : -9223372036854775808 ≤ placeOf (atOf ns) e ∧ placeOf (atOf ns) e ≤ 9223372036854775807 := placeOf_in HLb.out e
                  have hk15 : (nodeOb n (stage (atOf ns) k f n)).kind ≠ 15 := by have := Nat.mod_lt n.kind (show 0 < 15 by omega); show n.kind % 15 ≠ 15; omega
                  have hats := hSt.ats
                  rw [atOf_len] at hats
                  have ac := own_at hats k (u := .int .i64 (a : Int)) (by simp only [nums, adr, List.getElem?_map, HA.out, Option.map_some])
                  have HSp := Lib.hid hsp
                  have HNob := Lib.hid hnob
                  have HLd := Lib.hid hld
                  have HPb := Lib.hid hpb
                  have HK15 := Lib.hid hk15
                  obtain ⟨X, hXp⟩ : ∃ X, X = placeOf (atOf ns) e := ⟨_, rfl⟩
                  have HXp := Lib.hid hXp
                  have hiv : IntsAt wr (.slice (some ⟨ag, 0, none⟩) ns.length vc) (adr (atOf ns)) := IntsAt.of_own (base := w.heap.size) (by rw [show (adr (atOf ns)).length = (atOf ns).length by simp [adr]]; exact hSt.ats)
                  have hpl := place_still wr.drew _ (atOf ns) (hiv.quiet (Upd.refl _ wr).drew) (by rw [atOf_len]; omega) HLb.out e he256
                  rw [← hXp] at hpl
                  have HPl := Lib.hid hpl
                  have HIv := Lib.hid hiv
                  clear hsp hnob hld hpb hk15 hXp hiv hpl hSt hX hef hats
                  go_wp2
                  go_still_tail 9, (by kernel_rfl)
                  still_call HPl.out
                  repeat still_step
                  refine wpStill_nil ?_
                  change wpList _ _ _ _ _ wr.drew
                  have HS4 := Lib.hid (HSt.out.quiet (Upd.refl _ wr).drew)
                  have HX4 := Lib.hid (HX.out.drew)
                  have HW := Lib.hid (hwrite_st HS4.out a f _ X (by rw [HXp.out]; exact HPb.out) HSp.out.1 (by rw [HNob.out]; have := HLen.out; omega) HK15.out (fun _ => by rw [HXp.out]; exact HLd.out))
                  rw [HXp.out, HSp.out.2] at HW
                  rw [← HXp.out] at HW
                  clear ac x1 x2 xl hec HPl
                  go_wp2_with fail
                  refine (HW.out).mono ?_
                  rintro e5 w5 ⟨rfl, hS5, hu5⟩
                  obtain ⟨hrest, hH4⟩ := HS4.out.heap
                  have hX5 := HX4.out.upd hu5 (heap_off hH4 HX4.out (by decide) (by decide) (by decide))
                  have HX5 := Lib.hid hX5
                  have hats := hS5.ats
                  rw [atOf_len] at hats
                  have ac := own_at hats k (u := .int .i64 (a : Int)) (by simp only [nums, adr, List.getElem?_map, HA.out, Option.map_some])
                  have m0 := hS5.mbk.cell 0 rfl
                  have m1 := hS5.mbk.cell 1 rfl
                  have ml := hS5.mbk.lt
                  obtain ⟨ga, gn, gc, rfl⟩ : ∃ a n c, vr = .slice a n c := by obtain ⟨S, R, _⟩ := hS5.ref; obtain ⟨a, c, e⟩ := R.form; exact ⟨a, _, c, e⟩
                  have hiv : IntsAt w5 (.slice (some ⟨ag, 0, none⟩) ns.length vc) (adr (atOf ns)) := IntsAt.of_own (base := w.heap.size) (by rw [show (adr (atOf ns)).length = (atOf ns).length by simp [adr], atOf_len]; exact hats)
                  have hpl := place_any w5.drew _ (atOf ns) (hiv.quiet (Upd.refl _ w5).drew) (by rw [atOf_len]; omega) HLb.out e he256
                  rw [← HXp.out] at hpl
                  have HPl := Lib.hid hpl
                  have HS5 := Lib.hid (hS5.quiet (Upd.refl _ w5).drew)
                  clear hats hiv hpl hS5 hu5 hH4 hX5 HW HS4 HX4 HSt HX HIv
                  have HW := Lib.hid (rwrite_st HS5.out a f _ X (by rw [HXp.out]; exact HPb.out.2) HSp.out.1 (by rw [HNob.out]; have := HLen.out; omega) HK15.out (fun _ => by rw [HXp.out]; exact HLd.out))
                  rw [HXp.out, HSp.out.2] at HW
                  rw [← HXp.out] at HW
                  go_wp2
                  refine wp_region_head 9 (S := (fun V => V.cell? ⟨mb, 0, none⟩ = some (.int .i64 (sz : Int)) ∧ V.cell? ⟨mb, 1, none⟩ = some (.slice ga gn gc) ∧ V.cell? ⟨ag, k, none⟩ = some (.int .i64 (a : Int)))) (by kernel_rfl) (by kernel_rfl) ⟨m0, m1, ac⟩ (fun hHeld => ?_)
                  simp only [headOf, List.take_succ_cons, List.take_zero]
                  refine take_head (i := 0) (v := ?_) (by rfl) (by kernel_rfl) (by exact (fun _ _ _ h => h)) (by rfl) hHeld ?_ ?_
                  rotate_left
                  · ((intro V hV; obtain ⟨hV0, hV1, hV2⟩ := hV; go_simp) <;> (with_reducible rfl))
                  try simp only [Act.put, List.setIfInBounds_toArray, List.set_cons_zero, List.set_cons_succ]
                  refine take_head (i := 1) (v := ?_) (by rfl) (by kernel_rfl) (by exact (fun _ _ _ h => h)) (by rfl) hHeld ?_ ?_
                  rotate_left
                  · ((intro V hV; obtain ⟨hV0, hV1, hV2⟩ := hV; go_simp) <;> (with_reducible rfl))
                  try simp only [Act.put, List.setIfInBounds_toArray, List.set_cons_zero, List.set_cons_succ]
                  refine take_head (i := 2) (v := ?_) (by rfl) (by kernel_rfl) (by exact (fun _ _ _ h => h)) (by rfl) hHeld ?_ ?_
                  rotate_left
                  · ((intro V hV; obtain ⟨hV0, hV1, hV2⟩ := hV; go_simp) <;> (with_reducible rfl))
                  try simp only [Act.put, List.setIfInBounds_toArray, List.set_cons_zero, List.set_cons_succ]
                  refine take_head (i := 3) (v := ?_) (by rfl) (by kernel_rfl) (by exact (fun _ _ _ h => h)) (by rfl) hHeld ?_ ?_
                  rotate_left
                  · ((intro V hV; obtain ⟨hV0, hV1, hV2⟩ := hV; go_simp) <;> (with_reducible rfl))
                  try simp only [Act.put, List.setIfInBounds_toArray, List.set_cons_zero, List.set_cons_succ]
                  refine take_head (i := 4) (v := ?_) (by rfl) (by kernel_rfl) (by exact (fun _ _ _ h => h)) (by rfl) hHeld ?_ ?_
                  rotate_left
                  · ((intro V hV; obtain ⟨hV0, hV1, hV2⟩ := hV; go_simp) <;> (with_reducible rfl))
                  try simp only [Act.put, List.setIfInBounds_toArray, List.set_cons_zero, List.set_cons_succ]
                  refine take_head (i := 5) (v := ?_) (by rfl) (by kernel_rfl) (by exact (fun _ _ _ h => h)) (by rfl) hHeld ?_ ?_
                  rotate_left
                  · ((intro V hV; obtain ⟨hV0, hV1, hV2⟩ := hV; go_simp) <;> (with_reducible rfl))
                  try simp only [Act.put, List.setIfInBounds_toArray, List.set_cons_zero, List.set_cons_succ]
                  refine take_head (i := 6) (v := ?_) (by rfl) (by kernel_rfl) (by exact (fun _ _ _ h => h)) (by rfl) hHeld ?_ ?_
                  rotate_left
                  · ((intro V hV; obtain ⟨hV0, hV1, hV2⟩ := hV; go_simp) <;> (with_reducible rfl))
                  try simp only [Act.put, List.setIfInBounds_toArray, List.set_cons_zero, List.set_cons_succ]
                  refine take_head (i := 7) (v := ?_) (by rfl) (by kernel_rfl) (by exact (fun _ _ _ h => h)) (by rfl) hHeld ?_ ?_
                  rotate_left
                  · ((intro V hV; obtain ⟨hV0, hV1, hV2⟩ := hV; go_simp) <;> (with_reducible rfl))
                  try simp only [Act.put, List.setIfInBounds_toArray, List.set_cons_zero, List.set_cons_succ]
                  refine next_last (i := 8) (by rfl) (by kernel_rfl) (fun KK hK => ?_)
                  go_simp
                  refine (HPl.out).mono ?_
                  rintro e8 w8 ⟨rfl, rfl⟩
                  go_wp2_with fail
                  refine hK.out _ _ ⟨m0, m1, ac⟩ (fun hHeld => ?_)
                  clear hK KK
                  try simp only [Act.put, List.setIfInBounds_toArray, List.set_cons_zero, List.set_cons_succ]
                  refine head_end (by kernel_rfl) ?_
                  simp only [List.size_toArray, List.length_cons, List.length_nil, Nat.reduceAdd, Nat.reduceSub]
                  refine next_tail (i := 9) (by rfl) (by kernel_rfl) (fun KK hK => ?_)
                  go_simp
                  refine (HW.out).mono ?_
                  rintro e6 w6 ⟨nb6, nc6, rfl, hBk, hu6⟩
                  have hS7 := hBk w6 (Upd.refl _ _)
                  have hmb6 := HS5.out.mbk.upd hu6 (fun h => h)
                  have n0 := hmb6.cell 0 rfl
                  have n1 := hmb6.cell 1 rfl
                  have nf0 := hmb6.frozen 0
                  have nf1 := hmb6.frozen 1
                  have nl := hmb6.lt
                  have hX6 := HX5.out.drew.upd hu6 (fun h => h)
                  have hxmb : xb ≠ mb := fun e => by have := (hX6.unique (by rw [e]; exact hmb6)).2; exact absurd this (by decide)
                  obtain ⟨N6, hN6⟩ : ∃ N, N = (layG 0 ns (wordsAt (atOf ns) ns k (f + 1))).length := ⟨_, rfl⟩
                  rw [← hN6] at hS7 ⊢
                  have hX7 := Blk.back hX6 hxmb (.int .i64 (sz : Int)) (.slice nb6 N6 nc6)
                  have HS7 := Lib.hid hS7
                  have HX7 := Lib.hid hX7
                  clear hBk hS7 hmb6 hX6 hxmb hX7 hu6 hN6 HW HS5 HX5 ac m0 m1 ml HPl hHeld
                  go_wp2_with fail
                  refine hK.out _ _ ?_
                  clear hK KK
                  try simp only [Act.put, List.setIfInBounds_toArray, List.set_cons_zero, List.set_cons_succ]
                  refine take_tail (i := 10) (v := ?_) (by rfl) (by kernel_rfl) (by exact (fun _ _ _ h => h)) (by rfl) ?_ ?_
                  rotate_left
                  · ((intro V; go_simp) <;> (with_reducible rfl))
                  try simp only [Act.put, List.setIfInBounds_toArray, List.set_cons_zero, List.set_cons_succ]
                  refine take_tail (i := 11) (v := ?_) (by rfl) (by kernel_rfl) (by exact (fun _ _ _ h => h)) (by rfl) ?_ ?_
                  rotate_left
                  · ((intro V; go_simp) <;> (with_reducible rfl))
                  try simp only [Act.put, List.setIfInBounds_toArray, List.set_cons_zero, List.set_cons_succ]
                  refine take_tail (i := 12) (v := ?_) (by rfl) (by kernel_rfl) (by exact (fun _ _ _ h => h)) (by rfl) ?_ ?_
                  rotate_left
                  · ((intro V; go_simp) <;> (with_reducible rfl))
                  try simp only [Act.put, List.setIfInBounds_toArray, List.set_cons_zero, List.set_cons_succ]
                  refine next_tail (i := 13) (by rfl) (by kernel_rfl) (fun KK hK => ?_)
                  go_simp
                  refine hK.out _ _ ?_
                  clear hK KK
                  try simp only [Act.put, List.setIfInBounds_toArray, List.set_cons_zero, List.set_cons_succ]
                  refine tail_end (by kernel_rfl) ?_
                  go_wp2
                  go_roundw
                  case rel => exact ⟨f + 1, _, by omega, by go_num, HS7.out, HX7.out⟩
                  case measure => simp [intOf]; omega
                · have hfe : f = n.edges.length := by omega
                  subst hfe
                  have d2 : decide ((n.edges.length : Int) < (n.edges.length : Int)) = false := decide_eq_false (by omega)
                  have d2' : decide (n.edges.length < n.edges.length) = false := decide_eq_false (by omega)
                  clear hSt hX x1
                  go_wp2
                  obtain ⟨wl, rfl⟩ : ∃ wl, wl = wr := ⟨_, rfl⟩
                  have HQ4 := Lib.hid hq4
                  clear x2 xl d2 d2' hq4
                  go_loopw [161] (fun i wr => ∃ (f : Nat) (vr : Value), f ≤ q4 ∧ i = .int .i64 (f : Int) ∧ St w (GB (some ⟨b, off, none⟩) ns.length nc ra rs.length rc) h wb sb mb sz (layG 0 ns (wordsAt (atOf ns) ns k (n.edges.length + f))) (layG 0 ns (wordsAt (atOf ns) ns k (n.edges.length + f))) vr (.slice (some ⟨ag, 0, none⟩) ns.length vc) (atOf ns) wr ∧ Blk wr xb [.int .u8 (n.kind : Int), .slice ea n.edges.length ec, .int .u8 (n.more : Int)] 59) (fun i _ => q4 - (intOf i).toNat)
                  case atStart => exact ⟨0, _, Nat.zero_le _, rfl, HSt.out, HX.out⟩
                  case round =>
                    clear HSt HX
                    obtain ⟨f, vr, hf, rfl, hSt, hX⟩ := hrel
                    have HSt := Lib.hid hSt
                    have HX := Lib.hid hX
                    have x1 := hX.cell 1 rfl
                    have xl := hX.lt
                    by_cases hlf : f < q4
                    · have d2 : decide ((f : Int) < (q4 : Int)) = true := decide_eq_true (by omega)
                      have d2' : decide (f < q4) = true := decide_eq_true hlf
                      have hlen := HLen.out
                      have hsp := write_step HNk.out HA.out (f := n.edges.length + f) (by omega) (full_more (l := atOf ns) (i := k) (by have := HQ4.out; omega))
                      have hnob : (nodeOb n (stage (atOf ns) k (n.edges.length + f) n)).len = n.len := stage_len _ _ _ _ (by omega)
                      have hk15 : (nodeOb n (stage (atOf ns) k (n.edges.length + f) n)).kind ≠ 15 := by have := Nat.mod_lt n.kind (show 0 < 15 by omega); show n.kind % 15 ≠ 15; omega
                      have hats := hSt.ats
                      rw [atOf_len] at hats
                      have ac := own_at hats k (u := .int .i64 (a : Int)) (by simp only [nums, adr, List.getElem?_map, HA.out, Option.map_some])
                      have HSp := Lib.hid hsp
                      have HNob := Lib.hid hnob
                      have HK15 := Lib.hid hk15
                      have hc1 : ((n.edges.length + f : Nat) : Int) = (n.edges.length : Int) + (f : Int) := by push_cast; rfl
                      have hc2 : ((100 * k + f : Nat) : Int) = 100 * (k : Int) + (f : Int) := by push_cast; rfl
                      have HC1 := Lib.hid hc1
                      have HC2 := Lib.hid hc2
                      have hnp : ¬ n.edges.length + f < (nodeOb n (stage (atOf ns) k (n.edges.length + f) n)).ptrs := by show ¬ n.edges.length + f < n.edges.length; omega
                      have HNp := Lib.hid hnp
                      have w1' : IntKind.i64.wrap ((n.edges.length : Int) + (f : Int)) = (n.edges.length : Int) + (f : Int) := IntWalk.i64_in _ (by omega)
                      have w2' : IntKind.i64.wrap (100 * (k : Int)) = 100 * (k : Int) := IntWalk.i64_in _ (by omega)
                      have w3' : IntKind.i64.wrap (100 * (k : Int) + (f : Int)) = 100 * (k : Int) + (f : Int) := IntWalk.i64_in _ (by omega)
                      clear hsp hnob hk15 hSt hX hats hlen hc1 hc2 hnp
                      go_wp2
                      go_still_tail 14, (by kernel_rfl)
                      change wpList _ _ _ _ _ wr.drew
                      have HS4 := Lib.hid (HSt.out.quiet (Upd.refl _ wr).drew)
                      have HX4 := Lib.hid (HX.out.drew)
                      have HW := Lib.hid (hwrite_st HS4.out a (n.edges.length + f) _ ((100 * k + f : Nat) : Int) (by omega) HSp.out.1 (by rw [HNob.out]; have := HLen.out; omega) HK15.out (fun h => absurd h HNp.out))
                      rw [HSp.out.2, HC1.out, HC2.out] at HW
                      clear ac x1 xl
                      go_wp2_with fail
                      refine (HW.out).mono ?_
                      rintro e5 w5 ⟨rfl, hS5, hu5⟩
                      obtain ⟨hrest, hH4⟩ := HS4.out.heap
                      have hX5 := HX4.out.upd hu5 (heap_off hH4 HX4.out (by decide) (by decide) (by decide))
                      have HX5 := Lib.hid hX5
                      have x1 := hX5.cell 1 rfl
                      have xl := hX5.lt
                      have hats := hS5.ats
                      rw [atOf_len] at hats
                      have ac := own_at hats k (u := .int .i64 (a : Int)) (by simp only [nums, adr, List.getElem?_map, HA.out, Option.map_some])
                      have m0 := hS5.mbk.cell 0 rfl
                      have m1 := hS5.mbk.cell 1 rfl
                      have ml := hS5.mbk.lt
                      obtain ⟨ga, gn, gc, rfl⟩ : ∃ a n c, vr = .slice a n c := by obtain ⟨S, R, _⟩ := hS5.ref; obtain ⟨a, c, e⟩ := R.form; exact ⟨a, _, c, e⟩
                      have HS5 := Lib.hid (hS5.quiet (Upd.refl _ w5).drew)
                      clear hats hS5 hu5 hH4 hX5 HW HS4 HX4 HSt HX
                      have HW := Lib.hid (rwrite_st HS5.out a (n.edges.length + f) _ ((100 * k + f : Nat) : Int) (by omega) HSp.out.1 (by rw [HNob.out]; have := HLen.out; omega) HK15.out (fun h => absurd h HNp.out))
                      rw [HSp.out.2, HC1.out, HC2.out] at HW
                      go_wp2
                      refine wp_region_head 14 (S := (fun V => V.cell? ⟨mb, 0, none⟩ = some (.int .i64 (sz : Int)) ∧ V.cell? ⟨mb, 1, none⟩ = some (.slice ga gn gc) ∧ V.cell? ⟨ag, k, none⟩ = some (.int .i64 (a : Int)) ∧ V.cell? ⟨xb, 1, none⟩ = some (.slice ea n.edges.length ec))) (by kernel_rfl) (by kernel_rfl) ⟨m0, m1, ac, x1⟩ (fun hHeld => ?_)
                      simp only [headOf, List.take_succ_cons, List.take_zero]
                      refine take_head (i := 0) (v := ?_) (by rfl) (by kernel_rfl) (by exact (fun _ _ _ h => h)) (by rfl) hHeld ?_ ?_
                      rotate_left
                      · ((intro V hV; obtain ⟨hV0, hV1, hV2, hV3⟩ := hV; go_simp) <;> (with_reducible rfl))
                      try simp only [Act.put, List.setIfInBounds_toArray, List.set_cons_zero, List.set_cons_succ]
                      refine take_head (i := 1) (v := ?_) (by rfl) (by kernel_rfl) (by exact (fun _ _ _ h => h)) (by rfl) hHeld ?_ ?_
                      rotate_left
                      · ((intro V hV; obtain ⟨hV0, hV1, hV2, hV3⟩ := hV; go_simp) <;> (with_reducible rfl))
                      try simp only [Act.put, List.setIfInBounds_toArray, List.set_cons_zero, List.set_cons_succ]
                      refine take_head (i := 2) (v := ?_) (by rfl) (by kernel_rfl) (by exact (fun _ _ _ h => h)) (by rfl) hHeld ?_ ?_
                      rotate_left
                      · ((intro V hV; obtain ⟨hV0, hV1, hV2, hV3⟩ := hV; go_simp) <;> (with_reducible rfl))
                      try simp only [Act.put, List.setIfInBounds_toArray, List.set_cons_zero, List.set_cons_succ]
                      refine take_head (i := 3) (v := ?_) (by rfl) (by kernel_rfl) (by exact (fun _ _ _ h => h)) (by rfl) hHeld ?_ ?_
                      rotate_left
                      · ((intro V hV; obtain ⟨hV0, hV1, hV2, hV3⟩ := hV; go_simp) <;> (with_reducible rfl))
                      try simp only [Act.put, List.setIfInBounds_toArray, List.set_cons_zero, List.set_cons_succ]
                      refine take_head (i := 4) (v := ?_) (by rfl) (by kernel_rfl) (by exact (fun _ _ _ h => h)) (by rfl) hHeld ?_ ?_
                      rotate_left
                      · ((intro V hV; obtain ⟨hV0, hV1, hV2, hV3⟩ := hV; go_simp) <;> (with_reducible rfl))
                      try simp only [Act.put, List.setIfInBounds_toArray, List.set_cons_zero, List.set_cons_succ]
                      refine take_head (i := 5) (v := ?_) (by rfl) (by kernel_rfl) (by exact (fun _ _ _ h => h)) (by rfl) hHeld ?_ ?_
                      rotate_left
                      · ((intro V hV; obtain ⟨hV0, hV1, hV2, hV3⟩ := hV; go_simp) <;> (with_reducible rfl))
                      try simp only [Act.put, List.setIfInBounds_toArray, List.set_cons_zero, List.set_cons_succ]
                      refine take_head (i := 6) (v := ?_) (by rfl) (by kernel_rfl) (by exact (fun _ _ _ h => h)) (by rfl) hHeld ?_ ?_
                      rotate_left
                      · ((intro V hV; obtain ⟨hV0, hV1, hV2, hV3⟩ := hV; go_simp) <;> (with_reducible rfl))
                      try simp only [Act.put, List.setIfInBounds_toArray, List.set_cons_zero, List.set_cons_succ]
                      refine take_head (i := 7) (v := ?_) (by rfl) (by kernel_rfl) (by exact (fun _ _ _ h => h)) (by rfl) hHeld ?_ ?_
                      rotate_left
                      · ((intro V hV; obtain ⟨hV0, hV1, hV2, hV3⟩ := hV; go_simp) <;> (with_reducible rfl))
                      try simp only [Act.put, List.setIfInBounds_toArray, List.set_cons_zero, List.set_cons_succ]
                      refine take_head (i := 8) (v := ?_) (by rfl) (by kernel_rfl) (by exact (fun _ _ _ h => h)) (by rfl) hHeld ?_ ?_
                      rotate_left
                      · ((intro V hV; obtain ⟨hV0, hV1, hV2, hV3⟩ := hV; go_simp) <;> (with_reducible rfl))
                      try simp only [Act.put, List.setIfInBounds_toArray, List.set_cons_zero, List.set_cons_succ]
                      refine take_head (i := 9) (v := ?_) (by rfl) (by kernel_rfl) (by exact (fun _ _ _ h => h)) (by rfl) hHeld ?_ ?_
                      rotate_left
                      · ((intro V hV; obtain ⟨hV0, hV1, hV2, hV3⟩ := hV; go_simp) <;> (with_reducible rfl))
                      try simp only [Act.put, List.setIfInBounds_toArray, List.set_cons_zero, List.set_cons_succ]
                      refine take_head (i := 10) (v := ?_) (by rfl) (by kernel_rfl) (by exact (fun _ _ _ h => h)) (by rfl) hHeld ?_ ?_
                      rotate_left
                      · ((intro V hV; obtain ⟨hV0, hV1, hV2, hV3⟩ := hV; go_simp) <;> (with_reducible rfl))
                      try simp only [Act.put, List.setIfInBounds_toArray, List.set_cons_zero, List.set_cons_succ]
                      refine take_head (i := 11) (v := ?_) (by rfl) (by kernel_rfl) (by exact (fun _ _ _ h => h)) (by rfl) hHeld ?_ ?_
                      rotate_left
                      · ((intro V hV; obtain ⟨hV0, hV1, hV2, hV3⟩ := hV; go_simp) <;> (with_reducible rfl))
                      try simp only [Act.put, List.setIfInBounds_toArray, List.set_cons_zero, List.set_cons_succ]
                      refine take_head (i := 12) (v := ?_) (by rfl) (by kernel_rfl) (by exact (fun _ _ _ h => h)) (by rfl) hHeld ?_ ?_
                      rotate_left
                      · ((intro V hV; obtain ⟨hV0, hV1, hV2, hV3⟩ := hV; go_simp) <;> (with_reducible rfl))
                      try simp only [Act.put, List.setIfInBounds_toArray, List.set_cons_zero, List.set_cons_succ]
                      refine take_head (i := 13) (v := ?_) (by rfl) (by kernel_rfl) (by exact (fun _ _ _ h => h)) (by rfl) hHeld ?_ ?_
                      rotate_left
                      · ((intro V hV; obtain ⟨hV0, hV1, hV2, hV3⟩ := hV; go_simp) <;> (with_reducible rfl))
                      try simp only [Act.put, List.setIfInBounds_toArray, List.set_cons_zero, List.set_cons_succ]
                      refine head_end (by kernel_rfl) ?_
                      simp only [List.size_toArray, List.length_cons, List.length_nil, Nat.reduceAdd, Nat.reduceSub]
                      refine next_tail (i := 14) (by rfl) (by kernel_rfl) (fun KK hK => ?_)
                      go_simp
                      refine (HW.out).mono ?_
                      rintro e6 w6 ⟨nb6, nc6, rfl, hBk, hu6⟩
                      have hS7 := hBk w6 (Upd.refl _ _)
                      have hmb6 := HS5.out.mbk.upd hu6 (fun h => h)
                      have n0 := hmb6.cell 0 rfl
                      have n1 := hmb6.cell 1 rfl
                      have nf0 := hmb6.frozen 0
                      have nf1 := hmb6.frozen 1
                      have nl := hmb6.lt
                      have hX6 := HX5.out.drew.upd hu6 (fun h => h)
                      have hxmb : xb ≠ mb := fun e => by have := (hX6.unique (by rw [e]; exact hmb6)).2; exact absurd this (by decide)
                      obtain ⟨N6, hN6⟩ : ∃ N, N = (layG 0 ns (wordsAt (atOf ns) ns k (n.edges.length + f + 1))).length := ⟨_, rfl⟩
                      rw [← hN6] at hS7 ⊢
                      have hX7 := Blk.back hX6 hxmb (.int .i64 (sz : Int)) (.slice nb6 N6 nc6)
                      have HS7 := Lib.hid hS7
                      have HX7 := Lib.hid hX7
                      clear hBk hS7 hmb6 hX6 hxmb hX7 hu6 hN6 HW HS5 HX5 ac m0 m1 ml hHeld x1 xl w1' w2' w3'
                      go_wp2_with fail
                      refine hK.out _ _ ?_
                      clear hK KK
                      try simp only [Act.put, List.setIfInBounds_toArray, List.set_cons_zero, List.set_cons_succ]
                      refine take_tail (i := 15) (v := ?_) (by rfl) (by kernel_rfl) (by exact (fun _ _ _ h => h)) (by rfl) ?_ ?_
                      rotate_left
                      · ((intro V; go_simp) <;> (with_reducible rfl))
                      try simp only [Act.put, List.setIfInBounds_toArray, List.set_cons_zero, List.set_cons_succ]
                      refine take_tail (i := 16) (v := ?_) (by rfl) (by kernel_rfl) (by exact (fun _ _ _ h => h)) (by rfl) ?_ ?_
                      rotate_left
                      · ((intro V; go_simp) <;> (with_reducible rfl))
                      try simp only [Act.put, List.setIfInBounds_toArray, List.set_cons_zero, List.set_cons_succ]
                      refine take_tail (i := 17) (v := ?_) (by rfl) (by kernel_rfl) (by exact (fun _ _ _ h => h)) (by rfl) ?_ ?_
                      rotate_left
                      · ((intro V; go_simp) <;> (with_reducible rfl))
                      try simp only [Act.put, List.setIfInBounds_toArray, List.set_cons_zero, List.set_cons_succ]
                      refine next_tail (i := 18) (by rfl) (by kernel_rfl) (fun KK hK => ?_)
                      go_simp
                      refine hK.out _ _ ?_
                      clear hK KK
                      try simp only [Act.put, List.setIfInBounds_toArray, List.set_cons_zero, List.set_cons_succ]
                      refine tail_end (by kernel_rfl) ?_
                      go_wp2
                      go_roundw
                      case rel => exact ⟨f + 1, _, by omega, by go_num, HS7.out, HX7.out⟩
                      case measure => simp [intOf]; omega
                    · have hfq : f = q4 := by omega
                      subst hfq
                      have d2 : decide ((f : Int) < (f : Int)) = false := decide_eq_false (by omega)
                      have d2' : decide (f < f) = false := decide_eq_false (by omega)
                      clear hSt hX x1 xl
                      go_wp2
                      go_roundw
                      case rel =>
                        refine ⟨k + 1, vr, by omega, by go_num, ?_⟩
                        rw [← wordsAt_next _ _ _ _ HNk.out, HLen.out]
                        exact HSt.out
                      case measure => simp [intOf]; omega
            · have hke : k = ns.length := by omega
              subst hke
              have hos3 : layG 0 ns (wordsAt (atOf ns) ns ns.length 0) = obsOf ns := by rw [wordsAt_end]; rfl
              have hRt := hSt.root
              have hlo := hSt.lo
              rw [hos3] at hRt
              have HRt := Lib.hid hRt
              have HLo := Lib.hid hlo
              clear hSt HSt hos3 hRt hlo
              go_wp2
              clear b0 b1 bl
              obtain ⟨wk, rfl⟩ : ∃ wk, wk = wr := ⟨_, rfl⟩
              go_loopw [25, 202] (fun vrs i wr => ∃ k : Nat, k ≤ rs.length ∧ i = .int .i64 (k : Int) ∧ Rt w (GB na ns.length nc ra rs.length rc) h wb sb mb sz (obsOf ns) vr (.slice va ns.length vc) (atOf ns) vrs ((rs.take k).map (placeOf (atOf ns))) wr) (fun _ i _ => rs.length - (intOf i).toNat)
              case atStart => exact ⟨0, Nat.zero_le _, rfl, HRt.out⟩
              case round =>
                clear HRt
                obtain ⟨k, hk, rfl, hRt⟩ := hrel
                obtain ⟨Ks, hKs⟩ : ∃ Ks, Ks = (rs.take k).map (placeOf (atOf ns)) := ⟨_, rfl⟩
                rw [← hKs] at hRt
                have hkl : Ks.length = k := by rw [hKs, List.length_map, List.length_take]; omega
                have HKs := Lib.hid hKs
                clear hKs
                have hro := hRt.rts
                rw [hkl] at hro
                obtain ⟨xa, xc, rfl⟩ := own_form hro
                have HRt := Lib.hid hRt
                have HRo := Lib.hid hro
                have HKl := Lib.hid hkl
                by_cases hlk : k < rs.length
                · obtain ⟨r, hrk⟩ : ∃ r, rs[k]? = some r := ⟨_, List.getElem?_eq_getElem hlk⟩
                  obtain ⟨rb, roff, rfl, hrc, hrbl, hr256⟩ := (HRs.out.quiet hRt.upd) k r hrk
                  have d1 : decide ((k : Int) < (rs.length : Int)) = true := decide_eq_true (by omega)
                  have d1' : decide (k < rs.length) = true := decide_eq_true hlk
                  have i1 : (0 : Int) ≤ (k : Int) := by omega
                  have i2 : (k : Int) < (rs.length : Int) := by omega
                  have hats := hRt.ats
                  rw [atOf_len] at hats
                  have hiv : IntsAt wr (.slice va ns.length vc) (adr (atOf ns)) := IntsAt.of_own (base := w.heap.size) (by rw [show (adr (atOf ns)).length = (atOf ns).length by simp [adr], atOf_len]; exact hats)
                  have hpl := place_any wr _ (atOf ns) hiv (by rw [atOf_len]; omega) HLb.out r hr256
                  obtain ⟨X, hXp⟩ : ∃ X, X = placeOf (atOf ns) r := ⟨_, rfl⟩
                  rw [← hXp] at hpl
                  have HXp := Lib.hid hXp
                  have HPl := Lib.hid hpl
                  have HRk := Lib.hid hrk
                  clear hRt hro hkl hats hiv hpl hXp hrk
                  go_wp2_with fail
                  refine (HPl.out).mono ?_
                  rintro e8 w8 ⟨rfl, rfl⟩
                  go_wp2_with (first | (at_builtin; refine wpList_append_lies _ rfl _ _ 22 rfl w.heap.size 3 i0 _ 1 8 Try.underlying22 hi0 hz0 hz1 hz2 rfl (by decide) _ k (nums Ks) rfl (HRo.out.alloc _) ⟨wr.heap.size, 0, none⟩ 1 1 [.int .i64 X] rfl rfl ?_ ?_ (by decide) ?_ ?_ ?_ _ rfl ?_))
                  · exact cells_new _ _ _
                  · simp [Value.oneCell']
                  · simp only [maxLen]; omega
                  · omega
                  · have := HRt.out.upd.size; simp only [World.size_alloc]; omega
                  intro g cap w9 hO9 hg9 hat9 hlt9
                  have u9 : Upd (fun j => (Value.slice xa k xc).ownBlock = some j) wr w9 := ((Upd.refl _ wr).alloc (.cells #[.int .i64 X] 3)).grown hg9 (fun j hj _ => hj)
                  have hb9 : ∀ j, (Value.slice (some ⟨g, 0, none⟩) (k + 1) cap).ownBlock = some j → (Value.slice xa k xc).ownBlock = some j ∨ wr.heap.size ≤ j := by
                    intro j hj
                    have hgj : g = j := Option.some.inj hj
                    subst hgj
                    rcases hat9 with h | h
                    · exact .inl h
                    · right
                      have := World.size_alloc wr (.cells #[.int .i64 X] 3)
                      omega
                  have hO9' : w9.ownsRow w.heap.size 3 1 (.slice (some ⟨g, 0, none⟩) (k + 1) cap) (Ks.length + 1) (nums Ks ++ [.int .i64 X]) := by
                    rw [HKl.out]
                    exact hO9
                  have hR9 := HRt.out.more hO9' u9 hb9
                  have HR9 := Lib.hid hR9
                  clear hO9 hg9 hat9 hlt9 u9 hb9 hO9' hR9 hrc
                  go_wp2
                  go_roundw
                  case rel =>
                    refine ⟨k + 1, by omega, by go_num, ?_⟩
                    rw [List.take_add_one, HRk.out, Option.toList_some, List.map_append, List.map_singleton, ← HXp.out, ← HKs.out]
                    exact HR9.out
                  case measure => simp [intOf]; omega
                · have hke : k = rs.length := by omega
                  subst hke
                  have m0 := hRt.mbk.cell 0 rfl
                  have m1 := hRt.mbk.cell 1 rfl
                  have r0 := hRt.res.cell 0 rfl
                  have r1 := hRt.res.cell 1 rfl
                  have rf0 := hRt.res.frozen 0
                  have rf1 := hRt.res.frozen 1
                  have rl := hRt.res.lt
                  have ml := hRt.mbk.lt
                  obtain ⟨ga, gn, gc, rfl⟩ : ∃ a n c, vr = .slice a n c := by obtain ⟨S, R, _⟩ := hRt.ref; obtain ⟨a, c, e⟩ := R.form; exact ⟨a, _, c, e⟩
                  have hmr : mb ≠ w.heap.size + 1 := by have := HLo.out; omega
                  clear hRt hro hkl
                  go_wp2
                  go_region_held3 (fun V => V.cell? ⟨mb, 0, none⟩ = some (.int .i64 (sz : Int)) ∧ V.cell? ⟨mb, 1, none⟩ = some (.slice ga gn gc))
                    (first | exact ⟨m0, m1⟩ | (with_reducible exact keep2set hmr ⟨m0, m1⟩)) (fail)
                  go_wp2
                  have hR9 := HRt.out
                  have us : Upd (fun j => j = w.heap.size + 1) wr ((wr.setCell ⟨w.heap.size + 1, 0, none⟩ (.int .i64 (sz : Int))).setCell ⟨w.heap.size + 1, 1, none⟩ (.slice ga gn gc)).drew := (((Upd.refl (fun j => j = w.heap.size + 1) wr).setCell (p := ⟨w.heap.size + 1, 0, none⟩) _ (fun _ => rfl)).setCell (p := ⟨w.heap.size + 1, 1, none⟩) _ (fun _ => rfl)).drew
                  obtain ⟨rest, H⟩ := hR9.heap
                  obtain ⟨S, R, s1, s2, s3, s7, s4⟩ := hR9.ref
                  have hoff := heap_off H hR9.res (by decide) (by decide) (by decide)
                  have hvr : ∀ g, (Value.slice ga gn gc).ownBlock = some g → ¬ g = w.heap.size + 1 := by
                    obtain ⟨L, _, hL, _⟩ := R.rows
                    rintro g hg rfl
                    exact own_offR hL hR9.res (by decide) hg
                  have hks2 := HKs.out
                  rw [List.take_length] at hks2
                  have hro2 := HRo.out
                  rw [hks2] at hro2
                  have hlo2 := HLo.out
                  refine bodyPost_ret (res_tmp2_cell rfl _ _ (w.heap.size + 1) _ 30 _ _ _ rfl rfl rfl ((hR9.res.set 0 (.int .i64 (sz : Int))).set 1 (.slice ga gn gc)).drew Try.underlying30 rfl (by kernel_rfl)) rfl ⟨h, wb, sb, rest, xa, xc, .slice ga gn gc, S, ?_, ?_, own_upd hro2 us (fun g hg e => own_offR hro2 hR9.res (by decide) (e ▸ hg)), R.upd us (fun k hk => by subst hk; exact s7) hvr, s1, s2, s3, fun g hg => (hR9.off g hg).1, hlo2.1, hlo2.2.1, hlo2.2.2.1, hR9.upd.next us (fun i hi h => by omega)⟩
                  · rw [← HSz.out]
                    rfl
                  · rw [← HSz.out]
                    exact H.upd us (fun e => hoff (.inl e.symm)) (fun e => hoff (.inr (.inl e.symm))) (fun e => hoff (.inr (.inr e.symm)))
end Go.Proofs.Ytlphlaenecidiaa.Build
