/- The law GraphReaches: as many nodes as objects are reached, and as many words. -/
import Derived.Test.YtlphlaenecidiaaBuild3
import Derived.Test.YtlphlaenecidiaaReach
import Derived.Test.YtlphlaenecidiaaReachQ
import Derived.Test.YtlphlaenecidiaaAwake16
namespace Go.Proofs.Ytlphlaenecidiaa.Build
open Go.RowKit Go.Proofs.Ytlphlaenecidiaa.Mem Go.Proofs.Ytlphlaenecidiaa.Obj Go.Proofs.Ytlphlaenecidiaa.Ref Go.Proofs.Ytlphlaenecidiaa.Heap

theorem ints_own {w : World} {base : Nat} {a : Option Addr} {c : Nat} {xs : List Int} (h : w.ownsRow base 3 1 (.slice a xs.length c) xs.length (nums xs)) (hx : ∀ x ∈ xs, -9223372036854775808 ≤ x ∧ x ≤ 9223372036854775807) (hl : xs.length ≤ 1000000) : Row.Ints .i64 w a xs := by
  obtain ⟨a', cap, e, _, hc⟩ := IntsAt.of_own h
  cases e
  refine ⟨fun j x hj => ?_, fun j x hj => Graph.wf64 (hx x (List.mem_of_getElem? hj)), by omega⟩
  exact hc j x hj

/-- What the laws know of a told graph's objects. -/
structure Told (ns : List GNd) (rs : List Nat) : Prop where
  good : ∀ o ∈ obsOf ns, o.good
  w64 : ∀ o ∈ obsOf ns, ∀ x ∈ o.ws, -9223372036854775808 ≤ x ∧ x ≤ 9223372036854775807
  ptrs : ∀ o ∈ obsOf ns, ∀ x ∈ o.ws.take o.ptrs, leads (obsOf ns) x = true
  roots : ∀ x ∈ rs.map (placeOf (atOf ns)), leads (obsOf ns) x = true ∧ -9223372036854775808 ≤ x ∧ x ≤ 9223372036854775807
theorem mem_layG {o : Ob} : ∀ (i : Nat) {ns : List GNd} {ws : List (List Int)}, o ∈ layG i ns ws → (o.ptrs = 0 ∧ ∀ x ∈ o.ws, x = 0) ∨ ∃ (k : Nat) (n : GNd) (w : List Int), ns[k]? = some n ∧ ws[k]? = some w ∧ o = nodeOb n w
  | _, [], ws, h => by simp [layG] at h
  | _, _ :: _, [], h => by simp [layG] at h
  | i, n :: ns, w :: ws, h => by
    rw [layG, List.mem_append, List.mem_cons] at h
    rcases h with h | h | h
    · left
      unfold fill at h
      split at h
      · rw [List.mem_singleton] at h
        subst h
        exact ⟨rfl, fun x hx => (List.mem_replicate.1 hx).2⟩
      · cases h
    · exact .inr ⟨0, n, w, rfl, rfl, h⟩
    · rcases mem_layG (i + 1) h with h | ⟨k, m, u, h1, h2, h3⟩
      · exact .inl h
      · exact .inr ⟨k + 1, m, u, by simpa using h1, by simpa using h2, h3⟩
theorem told (ns : List GNd) (rs : List Nat) (hg : ∀ o ∈ obsOf ns, o.good) (hl : ns.length ≤ 100000) (hm : ∀ a ∈ atOf ns, a ≤ 65536) : Told ns rs := by
  refine ⟨hg, fun o ho x hx => ?_, fun o ho x hx => ?_, fun x hx => ?_⟩
  · rcases mem_layG 0 ho with ⟨_, h⟩ | ⟨k, n, w, h1, h2, rfl⟩
    · rw [h x hx]; omega
    · rw [List.getElem?_mapIdx, h1] at h2
      cases h2
      have hk : k < ns.length := (List.getElem?_eq_some_iff.1 h1).1
      simp only [nodeOb, full] at hx
      rcases List.mem_append.1 hx with hx | hx
      · obtain ⟨e, _, rfl⟩ := List.mem_map.1 hx
        exact placeOf_in hm e
      · obtain ⟨j, hj, rfl⟩ := List.mem_map.1 hx
        have := List.mem_range.1 hj
        omega
  · rcases mem_layG 0 ho with ⟨h, _⟩ | ⟨k, n, w, h1, h2, rfl⟩
    · rw [h] at hx; simp at hx
    · rw [List.getElem?_mapIdx, h1] at h2
      cases h2
      simp only [nodeOb, full] at hx
      rw [List.take_append_of_le_length (by simp), List.take_of_length_le (by simp)] at hx
      obtain ⟨e, _, rfl⟩ := List.mem_map.1 hx
      exact placeOf_leads (obsOf_fits ns) e
  · obtain ⟨e, _, rfl⟩ := List.mem_map.1 hx
    exact ⟨placeOf_leads (obsOf_fits ns) e, placeOf_in hm e⟩

set_option maxHeartbeats 1000000 in
theorem reaches_great (w : World) (na ra : Option Addr) (nc rc : Nat) (ns : List GNd) (m : Nat) (hn : NodesIn w na ns) (hnl : ns.length ≤ 9223372036854775807) (hml : m ≤ 9223372036854775807) (h : ¬ ((∀ n ∈ ns, n.edges.length ≤ 10) ∧ ns.length ≤ 14 ∧ m ≤ 14)) :
    Calls Try.prog 4 #[gv na ns.length nc ra m rc] w fun e w' => e = .returned (.bool true) ∧ Upd (fun _ => False) w w' := by
  have hu0 := (Upd.refl (fun _ => False) w).alloc (.cells (GB na ns.length nc ra m rc).toArray 46)
  have HB := Lib.hid (Blk.made w (GB na ns.length nc ra m rc) 46)
  have HU := Lib.hid hu0
  have HN := Lib.hid hn
  have HH := Lib.hid h
  clear hu0 hn h
  go_enter Try.func4, Try.ntmps4
  go_wp2_with fail
  refine (Raw.awake16 _).mono ?_
  rintro e w1 ⟨rfl, hu1⟩
  have hB1 := HB.out.upd hu1 (fun h => h)
  have b0 := hB1.cell 0 rfl
  have b1 := hB1.cell 1 rfl
  have bl := hB1.lt
  have hfew := few_any w1 na ra nc rc ns m (HN.out.quiet (HU.out.trans hu1)) hnl hml
  rw [decide_eq_false HH.out] at hfew
  have HFew := Lib.hid hfew
  have HU1 := Lib.hid (HU.out.trans hu1)
  clear hB1 hfew hu1
  go_wp2_with fail
  refine (HFew.out).mono ?_
  rintro e w2 ⟨rfl, hu2⟩
  have HU2 := Lib.hid (HU1.out.trans hu2)
  clear hu2 b0 b1 bl
  go_wp2_with fail
  refine (Raw.awake16 _).mono ?_
  rintro e w3 ⟨rfl, hu3⟩
  have HU3 := Lib.hid (HU2.out.trans hu3)
  clear hu3
  go_wp2
  go_ret
  exact ⟨rfl, HU3.out⟩

set_option maxRecDepth 20000 in
set_option maxHeartbeats 4000000 in
theorem reaches_few (w : World) (na ra : Option Addr) (nc rc : Nat) (ns : List GNd) (rs : List Nat) (hn : NodesIn w na ns) (hr : Bytes w ra rs) (hf : (∀ n ∈ ns, n.edges.length ≤ 10) ∧ ns.length ≤ 14 ∧ rs.length ≤ 14) :
    Calls Try.prog 4 #[gv na ns.length nc ra rs.length rc] w fun e w' => e = .returned (.bool true) ∧ Upd (fun _ => False) w w' := by
  have hu0 := (Upd.refl (fun _ => False) w).alloc (.cells (GB na ns.length nc ra rs.length rc).toArray 46)
  have HB := Lib.hid (Blk.made w (GB na ns.length nc ra rs.length rc) 46)
  have HU := Lib.hid hu0
  have HN := Lib.hid hn
  have HR := Lib.hid hr
  have HF := Lib.hid hf
  have hnl := hf.2.1
  have hrl := hf.2.2
  clear hu0 hn hr hf
  go_enter Try.func4, Try.ntmps4
  go_wp2_with fail
  refine (Raw.awake16 _).mono ?_
  rintro e w1 ⟨rfl, hu1⟩
  have hB1 := HB.out.upd hu1 (fun h => h)
  have b0 := hB1.cell 0 rfl
  have b1 := hB1.cell 1 rfl
  have bl := hB1.lt
  have hfew := few_any w1 na ra nc rc ns rs.length (HN.out.quiet (HU.out.trans hu1)) (by omega) (by omega)
  rw [decide_eq_true HF.out] at hfew
  have HFew := Lib.hid hfew
  have HU1 := Lib.hid (HU.out.trans hu1)
  have HB1 := Lib.hid hB1
  clear hB1 hfew hu1
  go_wp2_with fail
  refine (HFew.out).mono ?_
  rintro e w2 ⟨rfl, hu2⟩
  have hB2 := HB1.out.upd hu2 (fun h => h)
  have HU2 := Lib.hid (HU1.out.trans hu2)
  clear b0 b1 bl
  have b0 := hB2.cell 0 rfl
  have b1 := hB2.cell 1 rfl
  have bl := hB2.lt
  have hbd := build_any w2 na ra nc rc ns rs (HN.out.quiet HU2.out) (HR.out.quiet HU2.out) ⟨HF.out.1, hnl, hrl⟩ 0 (by omega)
  rw [show ((0 : Nat) : Int) = 0 from rfl] at hbd
  have HBd := Lib.hid hbd
  clear hB2 hu2 hbd
  go_wp2_with fail
  refine (HBd.out).mono ?_
  rintro e w3 ⟨h, wb, sb, rest, va, vc, vr, S, rfl, hH, hro, hRf, _, _, _, _, _, _, _, hu3⟩
  obtain ⟨ga, gc, rfl⟩ := hRf.form
  have hat : ∀ a ∈ atOf ns, a ≤ 65536 := fun a ha => by have h1 := atOf_le ha; have h2 := tot_le ns HF.out.1; omega
  have hT := told ns rs hH.good (by omega) hat
  obtain ⟨sz, hsz⟩ : ∃ sz, sz = 1 + 0 + tot ns := ⟨_, rfl⟩
  rw [← hsz] at hH ⊢
  obtain ⟨os, hos⟩ : ∃ os, os = obsOf ns := ⟨_, rfl⟩
  obtain ⟨Xs, hXs⟩ : ∃ Xs, Xs = rs.map (placeOf (atOf ns)) := ⟨_, rfl⟩
  rw [← hos] at hH hRf ⊢
  have hXl : Xs.length = rs.length := by rw [hXs, List.length_map]
  have hg := hT.good
  have hw64 := hT.w64
  have hpt := hT.ptrs
  have hrt := hT.roots
  rw [← hos] at hg hw64 hpt hrt
  rw [← hXs] at hrt hro
  obtain ⟨ks, nds, hform⟩ := form_total (fun x hx => (hrt x hx).1) hpt
  have htop : top os ≤ 65536 := by have := hH.size; have := hH.hi; omega
  have hal := (Upd.refl (fun _ => False) w3).alloc (.cells #[.int .i64 (sz : Int), .slice ga os.length gc] 30)
  have hro' := own_upd hro hal (fun _ _ h => h)
  rw [← hXl] at hro'
  have hri := ints_own hro' (fun x hx => (hrt x hx).2) (by omega)
  have hof := Graph.of_any _ h wb sb sz os rest (hH.quiet hal) va vc Xs hri (by omega) (fun x hx => (hrt x hx).2) hw64
  rw [hform, hXl] at hof
  have HOf := Lib.hid hof
  have HRi := Lib.hid hri
  have HRf := Lib.hid (hRf.ref.quiet hal)
  have HBx := Lib.hid (Blk.made w3 [.int .i64 (sz : Int), .slice ga os.length gc] 30)
  have HU3 := Lib.hid ((HU2.out.trans hu3).trans hal)
  have HG := Lib.hid hg
  have HW64 := Lib.hid hw64
  have HPt := Lib.hid hpt
  have HRt := Lib.hid hrt
  have HForm := Lib.hid hform
  have HXl := Lib.hid hXl
  have hol := hRf.few
  clear hat hT hsz hos hXs hH hRf hro hro' hri hof hXl hg hw64 hpt hrt hform hal hu3 b0 b1 bl HBd
  go_wp2_with fail
  refine (HOf.out).mono ?_
  rintro e w4 ⟨hu4, gva, gvn, rfl, hF⟩
  obtain ⟨fa, fc, rfl⟩ : ∃ a c, gva = .slice a ks.length c := own_form hF.roots
  obtain ⟨fn, fd, rfl⟩ : ∃ a c, gvn = .slice a nds.length c := by obtain ⟨nv, _, hn, _⟩ := hF.nodes; exact own_form hn
  have hal := (Upd.refl (fun _ => False) w4).alloc (.cells #[.slice fa ks.length fc, .slice fn nds.length fd] 35)
  have HFm := Lib.hid (Blk.made w4 [.slice fa ks.length fc, .slice fn nds.length fd] 35)
  have hb4 := HBx.out.upd hu4 (fun h => h)
  have k0 := hb4.cell 0 rfl
  have k1 := hb4.cell 1 rfl
  have kl := hb4.lt
  have HBx4 := Lib.hid (hb4.upd hal (fun h => h))
  have HF4 := Lib.hid (hF.quiet hal)
  have hu4' := hu4.trans hal
  have HR4 := Lib.hid (HRf.out.quiet hu4')
  have HU4 := Lib.hid (HU3.out.trans hu4')
  have hri4 := ints_below HRi.out (hu4'.below (fun _ _ h => h)) rfl
  have hrc := reach_any _ _ sz _ os (HRf.out.quiet hu4') va vc Xs hri4 (fun x hx => (HRt.out x hx).2) HW64.out (fun x hx => (HRt.out x hx).1) HPt.out (by have := HXl.out; omega)
  rw [HXl.out] at hrc
  have HRc := Lib.hid hrc
  clear hu4 hF hal hb4 hu4' hri4 hrc HOf
  go_wp2_with fail
  refine (HRc.out).mono ?_
  rintro e w5 ⟨ob, out, rfl, hO, hol2, hout, hu5, _⟩
  obtain ⟨p, hp⟩ : ∃ p : Nat → Bool, p = fun i => out.getD i false := ⟨_, rfl⟩
  obtain ⟨g, hgd⟩ : ∃ g : Nat → Nat, g = fun i => 1 + ((os[i]?).map Ob.len).getD 0 := ⟨_, rfl⟩
  have hcnt := reach_counts HG.out HForm.out hout
  rw [← hp, ← hgd] at hcnt
  have hgb : ∀ i, g i ≤ 4096 := by
    intro i
    rw [hgd]
    show 1 + ((os[i]?).map Ob.len).getD 0 ≤ 4096
    cases ho : os[i]? with
    | none => simp
    | some o =>
      have := (HG.out o (List.mem_of_getElem? ho)).2.2.1
      simp only [Option.map_some, Option.getD_some]
      omega
  have hpb : ∀ (i : Nat) (b : Bool), out[i]? = some b → p i = b := by
    intro i b hb
    rw [hp]
    simp only [List.getD_eq_getElem?_getD, hb, Option.getD_some]
  have hgo : ∀ (i : Nat) (o : Ob), os[i]? = some o → g i = 1 + o.len := by
    intro i o ho
    rw [hgd]
    simp only [ho, Option.map_some, Option.getD_some]
  have HO := Lib.hid hO
  have HCnt := Lib.hid hcnt
  have HGb := Lib.hid hgb
  have HPb := Lib.hid hpb
  have HGo := Lib.hid hgo
  have HOl := Lib.hid hol2
  have HBx5 := Lib.hid (HBx4.out.upd hu5 (fun h => h))
  have HFm5 := Lib.hid (HFm.out.upd hu5 (fun h => h))
  have HF5 := Lib.hid (HF4.out.quiet hu5)
  have HR5 := Lib.hid (HR4.out.quiet hu5)
  have HU5 := Lib.hid (HU4.out.trans hu5)
  clear hp hgd hcnt hgb hpb hgo hO hol2 hout hu5 k0 k1 kl HRc
  have k0 := HBx5.out.cell 0 rfl
  have k1 := HBx5.out.cell 1 rfl
  have kl := HBx5.out.lt
  have f0 := HFm5.out.cell 0 rfl
  have f1 := HFm5.out.cell 1 rfl
  have fl := HFm5.out.lt
  go_wp2
  go_loop [8, 9, 36] (fun n s i => ∃ k : Nat, k ≤ os.length ∧ i = .int .i64 (k : Int) ∧ n = .int .i64 (sumTo p (fun _ => 1) k : Int) ∧ s = .int .i64 (sumTo p g k : Int)) (fun _ _ i => os.length - (intOf i).toNat)
  case atStart => exact ⟨0, Nat.zero_le _, rfl, rfl, rfl⟩
  case round =>
    obtain ⟨k, hk, rfl, rfl, rfl⟩ := hrel
    have hs1 := sumTo_le (p := p) (g := fun _ => 1) (B := 1) (fun _ => Nat.le_refl _) k
    have hs2 := sumTo_le (p := p) HGb.out k
    by_cases hlk : k < os.length
    · obtain ⟨o, ho⟩ : ∃ o, os[k]? = some o := ⟨_, List.getElem?_eq_getElem hlk⟩
      obtain ⟨b, hb⟩ : ∃ b, out[k]? = some b := ⟨_, List.getElem?_eq_getElem (by rw [HOl.out]; exact hlk)⟩
      have y0 := blk_bool HO.out hb
      have yl := HO.out.lt
      obtain ⟨og, ocap, hoe, _, hogl⟩ := HR5.out.some' (by omega)
      cases hoe
      obtain ⟨oa, wv, _, _, q0, q1, q2, q3, q4⟩ := HR5.out.at' ho
      have d1 : decide ((k : Int) < (os.length : Int)) = true := decide_eq_true (by omega)
      have d1' : decide (k < os.length) = true := decide_eq_true hlk
      have i1 : (0 : Int) ≤ (k : Int) := by omega
      have i2 : (k : Int) < (os.length : Int) := by omega
      have hgk := HGo.out k o ho
      have hlb := HGb.out k
      have hpk := HPb.out k b hb
      have e1 : sumTo p (fun _ => 1) (k + 1) = sumTo p (fun _ => 1) k + (if b then 1 else 0) := by rw [sumTo, hpk]
      have e2 : sumTo p g (k + 1) = sumTo p g k + (if b then 1 + o.len else 0) := by rw [sumTo, hpk, hgk]
      have E1 := Lib.hid e1
      have E2 := Lib.hid e2
      obtain ⟨N, hN⟩ : ∃ N, N = sumTo p (fun _ => 1) k := ⟨_, rfl⟩
      obtain ⟨M, hM⟩ : ∃ M, M = sumTo p g k := ⟨_, rfl⟩
      rw [← hN] at hs1 E1 ⊢
      rw [← hM] at hs2 E2 ⊢
      have hNb : N ≤ 1000000 := by omega
      have hMb : M ≤ 1000000000 := by omega
      have hLb : o.len ≤ 4096 := by omega
      clear hs1 hs2 ho hb hgk hlb hpk e1 e2 hN hM q0 q1 q3 q4
      cases b with
      | true =>
        go_wp2
        go_round
        case rel =>
          refine ⟨k + 1, by omega, by go_num, ?_, ?_⟩
          · rw [E1.out]; simp only [if_true]; go_num
          · rw [E2.out]; simp only [if_true]; go_num
        case measure => simp [intOf]; omega
      | false =>
        go_wp2
        go_round
        case rel =>
          refine ⟨k + 1, by omega, by go_num, ?_, ?_⟩
          · rw [E1.out]; rfl
          · rw [E2.out]; rfl
        case measure => simp [intOf]; omega
    · have hke : k = os.length := by omega
      subst hke
      obtain ⟨c1, c2, c3⟩ := HCnt.out
      rw [← c1, ← c2]
      have hnb : nwords nds ≤ 1000000000 := by omega
      have hnl2 : nds.length ≤ 1000000000 := by omega
      obtain ⟨gnv, gnm, hgn, hgw⟩ := HF5.out.nodes
      have hwd := words_any w5 _ _ ks.length fc fa rfl nds (NodesAt.of_own gnm hgn hgw) hnb hnl2
      have HWd := Lib.hid hwd
      have hkx : ks.length = rs.length := c3.trans HXl.out
      have HKx := Lib.hid hkx
      rw [hkx] at f0 HWd
      clear c1 c2 c3 hs1 hs2 hwd hkx hgn hgw gnm k0 k1 kl hlk
      go_wp2_with fail
      refine (HWd.out).mono ?_
      rintro e w6 ⟨rfl, hu6⟩
      have hf6 := HFm5.out.upd hu6 (fun h => h)
      rw [HKx.out] at hf6
      have f0 := hf6.cell 0 rfl
      have fl := hf6.lt
      have HU6 := Lib.hid (HU5.out.trans hu6)
      clear hu6 hf6 f1
      go_wp2
      go_ret
      exact ⟨rfl, HU6.out⟩
theorem reaches_yes (w : World) (na ra : Option Addr) (nc rc : Nat) (ns : List GNd) (rs : List Nat) (hn : NodesIn w na ns) (hr : Bytes w ra rs) (hnl : ns.length ≤ 9223372036854775807) (hrl : rs.length ≤ 9223372036854775807) :
    Calls Try.prog 4 #[gv na ns.length nc ra rs.length rc] w fun e w' => e = .returned (.bool true) ∧ Below w.heap.size w w' := by
  have key : Calls Try.prog 4 #[gv na ns.length nc ra rs.length rc] w fun e w' => e = .returned (.bool true) ∧ Upd (fun _ => False) w w' := by
    by_cases h : (∀ n ∈ ns, n.edges.length ≤ 10) ∧ ns.length ≤ 14 ∧ rs.length ≤ 14
    · exact reaches_few w na ra nc rc ns rs hn hr h
    · exact reaches_great w na ra nc rc ns rs.length hn hnl hrl h
  exact key.mono fun e w' h => ⟨h.1, h.2.below (fun _ _ h => h)⟩
end Go.Proofs.Ytlphlaenecidiaa.Build
