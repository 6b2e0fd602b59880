/- The law GraphOrders. -/
import Derived.Test.YtlphlaenecidiaaOrders1
import Derived.Test.YtlphlaenecidiaaHead
import Derived.Test.YtlphlaenecidiaaGraphReaches
import Derived.Test.YtlphlaenecidiaaSame
import Derived.Test.YtlphlaenecidiaaApp
set_option linter.unusedSimpArgs false
namespace Go.Proofs.Ytlphlaenecidiaa.Build
open Go.RowKit Go.Proofs.Ytlphlaenecidiaa.Mem Go.Proofs.Ytlphlaenecidiaa.Obj Go.Proofs.Ytlphlaenecidiaa.Ref Go.Proofs.Ytlphlaenecidiaa.Heap

theorem infoByte : (Try.prog.info? 5).map (fun i => (i.zero, i.size, i.bytes)) = some (some (.int .u8 0), 1, 1) := by kernel_rfl
theorem infoGNode : (Try.prog.info? 59).map (fun i => (i.zero, i.size, i.bytes)) = some (some (.agg #[.int .u8 0, .slice none 0 0, .int .u8 0]), 3, 40) := by kernel_rfl

/-- While the other graph's nodes are made. -/
def Othering (w3 : World) (ns : List GNd) (k ob : Nat) (i : Value) (wr : World) : Prop :=
  ∃ (j : Nat) (l : List (GNd × Value)) (vN : Value), j ≤ ns.length ∧ i = .int .i64 (j : Int) ∧ l.map (·.1) = (otherG ns k).take j ∧ Blk wr ob [vN, .slice none 0 0] 46 ∧ wr.ownsRow w3.heap.size 59 3 vN j (gcells l) ∧
    (∀ p ∈ l, wr.ownsRow w3.heap.size 5 1 p.2 p.1.edges.length (byts p.1.edges)) ∧ Upd (fun b => b = ob) w3 wr

/-- While a node's edges are turned. -/
def Turning (wo : World) (n k : Nat) (es : List Nat) (kind : Nat) (i : Value) (wx : World) : Prop :=
  ∃ (f : Nat) (ve : Value), f ≤ es.length ∧ i = .int .i64 (f : Int) ∧ Blk wx (wo.heap.size + 1) [.int .u8 (kind : Int), ve, .int .u8 0] 59 ∧ wx.ownsRow wo.heap.size 5 1 ve f (byts ((es.take f).map (turned n k))) ∧ Upd (fun _ => False) wo wx

/-- While the roots are turned. -/
def TurnRoots (wo : World) (n k ob : Nat) (rs : List Nat) (vN : Value) (i : Value) (wx : World) : Prop :=
  ∃ (f : Nat) (vR : Value), f ≤ rs.length ∧ i = .int .i64 (f : Int) ∧ Blk wx ob [vN, vR] 46 ∧ wx.ownsRow wo.heap.size 5 1 vR f (byts ((rs.take f).map (turned n k))) ∧ Upd (fun b => b = ob) wo wx
/-- While the plain graph's nodes are made. -/
def Plaining (w w4 : World) (ns : List GNd) (pb : Nat) (vr : Value) (i : Value) (wx : World) : Prop :=
  ∃ (j : Nat) (l : List (GNd × Value)) (vP : Value), j ≤ ns.length ∧ i = .int .i64 (j : Int) ∧ l.map (·.1) = (plainG ns).take j ∧ Blk wx pb [vP, vr] 46 ∧ wx.ownsRow w4.heap.size 59 3 vP j (gcells l) ∧ EdgesIn w l ∧ Upd (fun b => b = pb) w4 wx

set_option maxRecDepth 20000 in
set_option maxHeartbeats 20000000 in
theorem orders_few (w : World) (na ra : Option Addr) (nc rc : Nat) (ns : List GNd) (rs : List Nat) (hn : NodesIn w na ns) (hr : Bytes w ra rs) (hf : (∀ n ∈ ns, n.edges.length ≤ 10) ∧ ns.length ≤ 14 ∧ rs.length ≤ 14) (h0 : 0 < ns.length) (kk : Nat) (hkk : kk < 256) :
    Calls Try.prog 5 #[gv na ns.length nc ra rs.length rc, .int .u8 (kk : Int)] w fun e w' => e = .returned (.bool true) ∧ Upd (fun _ => False) w w' := by
  obtain ⟨i0, hi0, hz0, hz1, hz2⟩ := info_parts infoByte
  obtain ⟨j0, hj0, hy0, hy1, hy2⟩ := info_parts infoGNode
  have hu0 := (Upd.refl (fun _ => False) w).alloc (.cells (GB na ns.length nc ra rs.length rc).toArray 46)
  have HB := Lib.hid (Blk.made w (GB na ns.length nc ra rs.length rc) 46)
  have HU := Lib.hid hu0
  have HN := Lib.hid hn
  have HR := Lib.hid hr
  have HF := Lib.hid hf
  have hnl := hf.2.1
  have hrl := hf.2.2
  have dz : ((ns.length : Int) == 0) = false := by rw [beq_eq_false_iff_ne]; omega
  have dz' : (ns.length == 0) = false := by rw [beq_eq_false_iff_ne]; omega
  obtain ⟨k, hk⟩ : ∃ k : Nat, k = kk % ns.length := ⟨_, rfl⟩
  have hkl : k < ns.length := by rw [hk]; exact Nat.mod_lt _ h0
  have hrem : ((kk : Int) % (ns.length : Int)) = (k : Int) := by rw [hk]; push_cast; rfl
  have hcv : IntKind.i64.wrap (kk : Int) = (kk : Int) := IntWalk.i64_in _ (by omega)
  clear hu0 hn hr hf hk
  go_enter Try.func5, Try.ntmps5
  go_wp2_with fail
  refine (Raw.awake16 _).mono ?_
  rintro e w1 ⟨rfl, hu1⟩
  have hB1 := HB.out.upd hu1 (fun h => h)
  have b0 := hB1.cell 0 rfl
  have b1 := hB1.cell 1 rfl
  have bl := hB1.lt
  have hfew := few_any w1 na ra nc rc ns rs.length (HN.out.quiet (HU.out.trans hu1)) (by omega) (by omega)
  rw [decide_eq_true HF.out] at hfew
  have HFew := Lib.hid hfew
  have HU1 := Lib.hid (HU.out.trans hu1)
  have HB1 := Lib.hid hB1
  clear hB1 hfew hu1
  go_wp2_with fail
  refine (HFew.out).mono ?_
  rintro e w2 ⟨rfl, hu2⟩
  have hB2 := HB1.out.upd hu2 (fun h => h)
  have HU2 := Lib.hid (HU1.out.trans hu2)
  clear b0 b1 bl
  have b0 := hB2.cell 0 rfl
  have b1 := hB2.cell 1 rfl
  have bl := hB2.lt
  have HB2 := Lib.hid hB2
  clear hB2 hu2
  go_wp2_with fail
  -- PRINTED by tools/gen_orders.py from here on
  have hw3 : Upd (fun _ => False) w2 (((w2.alloc (.cells #[.int .i64 (ns.length : Int)] 3)).alloc (.cells #[.int .i64 (k : Int)] 3)).alloc (.cells #[.slice none 0 0, .slice none 0 0] 46)) := (((Upd.refl _ w2).alloc _).alloc _).alloc _
  have hnb := ((Blk.made w2 [.int .i64 (ns.length : Int)] 3).alloc (.cells #[.int .i64 (k : Int)] 3)).alloc (.cells #[.slice none 0 0, .slice none 0 0] 46)
  have hkb := (Blk.made' w2 (.cells #[.int .i64 (ns.length : Int)] 3) [.int .i64 (k : Int)] 3).alloc (.cells #[.slice none 0 0, .slice none 0 0] 46)
  have hob := Blk.made ((w2.alloc (.cells #[.int .i64 (ns.length : Int)] 3)).alloc (.cells #[.int .i64 (k : Int)] 3)) [.slice none 0 0, .slice none 0 0] 46
  rw [World.size_alloc, World.size_alloc] at hob
  have hs3 : (((w2.alloc (.cells #[.int .i64 (ns.length : Int)] 3)).alloc (.cells #[.int .i64 (k : Int)] 3)).alloc (.cells #[.slice none 0 0, .slice none 0 0] 46)).heap.size = w2.heap.size + 1 + 1 + 1 := by simp only [World.size_alloc]
  have hsb : w.heap.size < w2.heap.size := bl
  generalize (((w2.alloc (.cells #[.int .i64 (ns.length : Int)] 3)).alloc (.cells #[.int .i64 (k : Int)] 3)).alloc (.cells #[.slice none 0 0, .slice none 0 0] 46)) = w3 at *
  have HNb := Lib.hid hnb
  have HKb := Lib.hid hkb
  have HOb := Lib.hid hob
  have HW3 := Lib.hid hw3
  have HB3 := Lib.hid (HB2.out.upd hw3 (fun h => h))
  have HS3 := Lib.hid hs3
  clear hnb hkb hob hw3 b0 b1 bl HB2 hrem hcv hs3
  go_loopw [52] (fun i wr => Othering w3 ns k (w2.heap.size + 1 + 1) i wr) (fun i _ => ns.length - (intOf i).toNat)
  case atStart => exact ⟨0, [], .slice none 0 0, Nat.zero_le _, rfl, rfl, HOb.out, World.ownsRow_nil _ _ _ _, fun p hp => (by cases hp), Upd.refl _ _⟩
  case round =>
    obtain ⟨j, l, vN, hj, rfl, hl, hbo, hrow, heach, hU⟩ := hrel
    generalize wr = wo at *
    have HL := Lib.hid hl
    have HBo := Lib.hid hbo
    have HRow := Lib.hid hrow
    have HEach := Lib.hid heach
    have HUr := Lib.hid hU
    have hUs := hU.size
    have hB := HB3.out.upd hU (by omega)
    have hN := HNb.out.upd hU (by omega)
    have hK := HKb.out.upd hU (by omega)
    have b0 := hB.cell 0 rfl
    have b1 := hB.cell 1 rfl
    have bl := hB.lt
    have n0 := hN.cell 0 rfl
    have nl := hN.lt
    have k0 := hK.cell 0 rfl
    have kl := hK.lt
    have ol := hbo.lt
    have HBr := Lib.hid hB
    have HNr := Lib.hid hN
    have HKr := Lib.hid hK
    clear hl hbo hrow heach hB hN hK
    have hUw : Upd (fun _ => False) w wo := (HU2.out.trans HW3.out).next hU (fun i hi e => by omega)
    have HUw := Lib.hid hUw
    clear hU hUw
    by_cases hlj : j < ns.length
    · obtain ⟨s, hs⟩ : ∃ s, s = (j + k) % ns.length := ⟨_, rfl⟩
      have hsl : s < ns.length := by rw [hs]; exact Nat.mod_lt _ h0
      obtain ⟨x, hx⟩ : ∃ x, ns[s]? = some x := ⟨_, List.getElem?_eq_getElem hsl⟩
      obtain ⟨b, off, ea, ec, rfl, x0, x1, x2, x3, hby, xk, xm⟩ := HN.out.quiet HUw.out s x hx
      have hxe := HF.out.1 x (List.mem_of_getElem? hx)
      obtain ⟨jk, hjk⟩ : ∃ jk, jk = j + k := ⟨_, rfl⟩
      have s1 : IntKind.i64.wrap ((j : Int) + (k : Int)) = (jk : Int) := by rw [IntWalk.i64_in _ (by omega)]; omega
      have s2 : (jk : Int) % (ns.length : Int) = (s : Int) := by rw [hs, hjk]; push_cast; rfl
      have s2' : Int.tmod (jk : Int) (ns.length : Int) = (s : Int) := by rw [Int.tmod_eq_emod_of_nonneg (by omega)]; exact s2
      have hne : ns ≠ [] := by intro h; rw [h] at h0; simp at h0
      have i1 : (0 : Int) ≤ (s : Int) := by omega
      have i2 : (s : Int) < (ns.length : Int) := by omega
      have d1 : decide ((j : Int) < (ns.length : Int)) = true := decide_eq_true (by omega)
      have d1' : decide (j < ns.length) = true := decide_eq_true hlj
      have HX := Lib.hid hx
      have HS := Lib.hid hs
      have HBy := Lib.hid hby
      clear hx hby hs hjk
      go_wp2_with fail
      refine wp_region_last (S := fun V => V.cell? ⟨w.heap.size, 0, none⟩ = some (.slice (some ⟨b, off, none⟩) ns.length nc) ∧ V.cell? ⟨w2.heap.size, 0, none⟩ = some (.int .i64 (ns.length : Int)) ∧ V.cell? ⟨w2.heap.size + 1, 0, none⟩ = some (.int .i64 (k : Int)) ∧ V.cell? ⟨b, off + s * 3, none⟩ = some (.int .u8 (x.kind : Int)) ∧ V.cell? ⟨b, off + s * 3 + 1, none⟩ = some (.slice ea x.edges.length ec) ∧ V.cell? ⟨b, off + s * 3 + 2, none⟩ = some (.int .u8 (x.more : Int))) (by kernel_rfl) (by kernel_rfl) ⟨b0, n0, k0, x1, x2, x3⟩ (fun hHeld => ?_)
      simp only [List.pop_toArray, List.dropLast_cons_cons, List.dropLast_singleton, List.size_toArray, List.length_cons, List.length_nil, Nat.reduceAdd, Nat.reduceSub]
      refine take_last (i := 0) (v := ?_) (by rfl) (by kernel_rfl) (by exact (fun _ _ _ h => h)) (by rfl) hHeld ?_ ?_
      rotate_left
      · ((intro V hV; obtain ⟨hV0, hV1, hV2, hV3, hV4, hV5⟩ := hV; go_simp) <;> (with_reducible rfl))
      try simp only [Act.put, List.getElem?_toArray, List.getElem?_cons_succ, List.getElem?_cons_zero, List.getElem_toArray, List.getElem_cons_succ, List.getElem_cons_zero, List.setIfInBounds_toArray, List.set_cons_zero, List.set_cons_succ]
      refine take_last (i := 1) (v := ?_) (by rfl) (by kernel_rfl) (by exact (fun _ _ _ h => h)) (by rfl) hHeld ?_ ?_
      rotate_left
      · ((intro V hV; obtain ⟨hV0, hV1, hV2, hV3, hV4, hV5⟩ := hV; go_simp) <;> (with_reducible rfl))
      try simp only [Act.put, List.getElem?_toArray, List.getElem?_cons_succ, List.getElem?_cons_zero, List.getElem_toArray, List.getElem_cons_succ, List.getElem_cons_zero, List.setIfInBounds_toArray, List.set_cons_zero, List.set_cons_succ]
      refine take_last (i := 2) (v := ?_) (by rfl) (by kernel_rfl) (by exact (fun _ _ _ h => h)) (by rfl) hHeld ?_ ?_
      rotate_left
      · ((intro V hV; obtain ⟨hV0, hV1, hV2, hV3, hV4, hV5⟩ := hV; go_simp) <;> (with_reducible rfl))
      try simp only [Act.put, List.getElem?_toArray, List.getElem?_cons_succ, List.getElem?_cons_zero, List.getElem_toArray, List.getElem_cons_succ, List.getElem_cons_zero, List.setIfInBounds_toArray, List.set_cons_zero, List.set_cons_succ]
      refine take_last (i := 3) (v := ?_) (by rfl) (by kernel_rfl) (by exact (fun _ _ _ h => h)) (by rfl) hHeld ?_ ?_
      rotate_left
      · ((intro V hV; obtain ⟨hV0, hV1, hV2, hV3, hV4, hV5⟩ := hV; go_simp) <;> (with_reducible rfl))
      try simp only [Act.put, List.getElem?_toArray, List.getElem?_cons_succ, List.getElem?_cons_zero, List.getElem_toArray, List.getElem_cons_succ, List.getElem_cons_zero, List.setIfInBounds_toArray, List.set_cons_zero, List.set_cons_succ]
      refine take_last (i := 4) (v := ?_) (by rfl) (by kernel_rfl) (by exact (fun _ _ _ h => h)) (by rfl) hHeld ?_ ?_
      rotate_left
      · ((intro V hV; obtain ⟨hV0, hV1, hV2, hV3, hV4, hV5⟩ := hV; go_simp) <;> (with_reducible rfl))
      try simp only [Act.put, List.getElem?_toArray, List.getElem?_cons_succ, List.getElem?_cons_zero, List.getElem_toArray, List.getElem_cons_succ, List.getElem_cons_zero, List.setIfInBounds_toArray, List.set_cons_zero, List.set_cons_succ]
      refine take_last (i := 5) (v := ?_) (by rfl) (by kernel_rfl) (by exact (fun _ _ _ h => h)) (by rfl) hHeld ?_ ?_
      rotate_left
      · ((intro V hV; obtain ⟨hV0, hV1, hV2, hV3, hV4, hV5⟩ := hV; go_simp) <;> (with_reducible rfl))
      try simp only [Act.put, List.getElem?_toArray, List.getElem?_cons_succ, List.getElem?_cons_zero, List.getElem_toArray, List.getElem_cons_succ, List.getElem_cons_zero, List.setIfInBounds_toArray, List.set_cons_zero, List.set_cons_succ]
      refine take_last (i := 6) (v := ?_) (by rfl) (by kernel_rfl) (by exact (fun _ _ _ h => h)) (by rfl) hHeld ?_ ?_
      rotate_left
      · ((intro V hV; obtain ⟨hV0, hV1, hV2, hV3, hV4, hV5⟩ := hV; go_simp) <;> (with_reducible rfl))
      try simp only [Act.put, List.getElem?_toArray, List.getElem?_cons_succ, List.getElem?_cons_zero, List.getElem_toArray, List.getElem_cons_succ, List.getElem_cons_zero, List.setIfInBounds_toArray, List.set_cons_zero, List.set_cons_succ]
      refine take_last (i := 7) (v := ?_) (by rfl) (by kernel_rfl) (by exact (fun _ _ _ h => h)) (by rfl) hHeld ?_ ?_
      rotate_left
      · ((intro V hV; obtain ⟨hV0, hV1, hV2, hV3, hV4, hV5⟩ := hV; go_simp) <;> (with_reducible rfl))
      try simp only [Act.put, List.getElem?_toArray, List.getElem?_cons_succ, List.getElem?_cons_zero, List.getElem_toArray, List.getElem_cons_succ, List.getElem_cons_zero, List.setIfInBounds_toArray, List.set_cons_zero, List.set_cons_succ]
      refine take_last (i := 8) (v := ?_) (by rfl) (by kernel_rfl) (by exact (fun _ _ _ h => h)) (by rfl) hHeld ?_ ?_
      rotate_left
      · ((intro V hV; obtain ⟨hV0, hV1, hV2, hV3, hV4, hV5⟩ := hV; go_simp) <;> (with_reducible rfl))
      try simp only [Act.put, List.getElem?_toArray, List.getElem?_cons_succ, List.getElem?_cons_zero, List.getElem_toArray, List.getElem_cons_succ, List.getElem_cons_zero, List.setIfInBounds_toArray, List.set_cons_zero, List.set_cons_succ]
      refine next_last (i := 9) (by rfl) (by kernel_rfl) (fun KK hK => ?_)
      go_simp
      have hua : Upd (fun _ => False) wo (wo.drew.alloc (.cells #[.int .u8 0, .slice none 0 0, .int .u8 0] 59)) := ((Upd.refl _ wo).drew).alloc _
      refine hK.out _ _ ⟨Ref.keepC hua b0, Ref.keepC hua n0, Ref.keepC hua k0, Ref.keepC hua x1, Ref.keepC hua x2, Ref.keepC hua x3⟩ (fun hHeld => ?_)
      clear hK KK
      try simp only [Act.put, List.getElem?_toArray, List.getElem?_cons_succ, List.getElem?_cons_zero, List.getElem_toArray, List.getElem_cons_succ, List.getElem_cons_zero, List.setIfInBounds_toArray, List.set_cons_zero, List.set_cons_succ]
      refine last_end (by kernel_rfl) (by rfl) (fun KK hK => ?_)
      go_simp
      refine hK.out _ _ ?_
      clear hK KK
      go_wp2_with fail
      have hwy : Upd (fun _ => False) wo ((wo.alloc (.cells #[.int .u8 (x.kind : Int), .slice ea x.edges.length ec, .int .u8 (x.more : Int)] 59)).alloc (.cells #[.int .u8 (x.kind : Int), .slice none 0 0, .int .u8 0] 59)).drew := (((Upd.refl _ wo).alloc _).alloc _).drew
      have hyb := (Blk.made' wo (.cells #[.int .u8 (x.kind : Int), .slice ea x.edges.length ec, .int .u8 (x.more : Int)] 59) [.int .u8 (x.kind : Int), .slice none 0 0, .int .u8 0] 59).drew
      generalize ((wo.alloc (.cells #[.int .u8 (x.kind : Int), .slice ea x.edges.length ec, .int .u8 (x.more : Int)] 59)).alloc (.cells #[.int .u8 (x.kind : Int), .slice none 0 0, .int .u8 0] 59)).drew = wy at *
      have HWy := Lib.hid hwy
      have HYb := Lib.hid hyb
      clear hwy hyb b0 b1 bl n0 nl k0 kl x0 x1 x2 x3 hua hHeld
      go_loopw [70] (fun i wx => Turning wo ns.length k x.edges x.kind i wx) (fun i _ => x.edges.length - (intOf i).toNat)
      case atStart => exact ⟨0, .slice none 0 0, Nat.zero_le _, rfl, HYb.out, World.ownsRow_nil _ _ _ _, HWy.out⟩
      case round =>
        obtain ⟨f, ve, hf, rfl, hby, hrv, hux⟩ := hrel
        obtain ⟨va, vc, rfl⟩ := Mem.own_form hrv
        have HByb := Lib.hid hby
        have HRv := Lib.hid hrv
        have HUx := Lib.hid hux
        have y1 := hby.cell 1 rfl
        have yf := hby.frozen 1
        have yl := hby.lt
        have hxs := hux.size
        have HNx := Lib.hid (HNr.out.upd hux (fun h => h))
        have HKx := Lib.hid (HKr.out.upd hux (fun h => h))
        clear hby hrv hux
        by_cases hlf : f < x.edges.length
        · obtain ⟨e, he⟩ : ∃ e, x.edges[f]? = some e := ⟨_, List.getElem?_eq_getElem hlf⟩
          obtain ⟨b2, o2, rfl, e0, el, e256⟩ := HBy.out.quiet HUx.out f e he
          have g1 : decide ((f : Int) < (x.edges.length : Int)) = true := decide_eq_true (by omega)
          have g1' : decide (f < x.edges.length) = true := decide_eq_true hlf
          have j1 : (0 : Int) ≤ (f : Int) := by omega
          have j2 : (f : Int) < (x.edges.length : Int) := by omega
          have HE := Lib.hid he
          clear he
          go_wp2_with fail
          refine wp_region_last (S := fun V => V.cell? ⟨wo.heap.size + 1, 1, none⟩ = some (.slice va f vc)) (by kernel_rfl) (by kernel_rfl) y1 (fun hHeld => ?_)
          simp only [List.pop_toArray, List.dropLast_cons_cons, List.dropLast_singleton, List.size_toArray, List.length_cons, List.length_nil, Nat.reduceAdd, Nat.reduceSub]
          refine take_last (i := 0) (v := ?_) (by rfl) (by kernel_rfl) (by exact (fun _ _ _ h => h)) (by rfl) hHeld ?_ ?_
          rotate_left
          · ((intro V hV; obtain hV0 := hV; go_simp) <;> (with_reducible rfl))
          try simp only [Act.put, List.getElem?_toArray, List.getElem?_cons_succ, List.getElem?_cons_zero, List.getElem_toArray, List.getElem_cons_succ, List.getElem_cons_zero, List.setIfInBounds_toArray, List.set_cons_zero, List.set_cons_succ]
          refine take_last (i := 1) (v := ?_) (by rfl) (by kernel_rfl) (by exact (fun _ _ _ h => h)) (by rfl) hHeld ?_ ?_
          rotate_left
          · ((intro V hV; obtain hV0 := hV; go_simp) <;> (with_reducible rfl))
          try simp only [Act.put, List.getElem?_toArray, List.getElem?_cons_succ, List.getElem?_cons_zero, List.getElem_toArray, List.getElem_cons_succ, List.getElem_cons_zero, List.setIfInBounds_toArray, List.set_cons_zero, List.set_cons_succ]
          refine take_last (i := 2) (v := ?_) (by rfl) (by kernel_rfl) (by exact (fun _ _ _ h => h)) (by rfl) hHeld ?_ ?_
          rotate_left
          · ((intro V hV; obtain hV0 := hV; go_simp) <;> (with_reducible rfl))
          try simp only [Act.put, List.getElem?_toArray, List.getElem?_cons_succ, List.getElem?_cons_zero, List.getElem_toArray, List.getElem_cons_succ, List.getElem_cons_zero, List.setIfInBounds_toArray, List.set_cons_zero, List.set_cons_succ]
          refine take_last (i := 3) (v := ?_) (by rfl) (by kernel_rfl) (by exact (fun _ _ _ h => h)) (by rfl) hHeld ?_ ?_
          rotate_left
          · ((intro V hV; obtain hV0 := hV; go_simp) <;> (with_reducible rfl))
          try simp only [Act.put, List.getElem?_toArray, List.getElem?_cons_succ, List.getElem?_cons_zero, List.getElem_toArray, List.getElem_cons_succ, List.getElem_cons_zero, List.setIfInBounds_toArray, List.set_cons_zero, List.set_cons_succ]
          refine next_last (i := 4) (by rfl) (by kernel_rfl) (fun KK hK => ?_)
          go_simp
          go_at_call 19
          refine (to_any _ w2.heap.size (w2.heap.size + 1) ns.length k e (HNx.out.drew) (HKx.out.drew) h0 hnl hkl e256).mono ?_
          rintro x' w' ⟨rfl, rfl⟩
          refine hK.out _ _ y1 (fun hHeld => ?_)
          clear hK KK
          try simp only [Act.put, List.getElem?_toArray, List.getElem?_cons_succ, List.getElem?_cons_zero, List.getElem_toArray, List.getElem_cons_succ, List.getElem_cons_zero, List.setIfInBounds_toArray, List.set_cons_zero, List.set_cons_succ]
          refine next_last (i := 5) (by rfl) (by kernel_rfl) (fun KK hK => ?_)
          go_simp
          refine hK.out _ _ (Ref.keepC (((Upd.refl (fun _ => False) wr).drew).alloc _) y1) (fun hHeld => ?_)
          clear hK KK
          try simp only [Act.put, List.getElem?_toArray, List.getElem?_cons_succ, List.getElem?_cons_zero, List.getElem_toArray, List.getElem_cons_succ, List.getElem_cons_zero, List.setIfInBounds_toArray, List.set_cons_zero, List.set_cons_succ]
          refine next_last (i := 6) (by rfl) (by kernel_rfl) (fun KK hK => ?_)
          have hnew := Blk.made wr.drew [.int .u8 (turned ns.length k e : Int)] 5
          have hown := HRv.out.drew.alloc (.cells #[.int .u8 (turned ns.length k e : Int)] 5)
          have HNew := Lib.hid hnew
          have HOwn := Lib.hid hown
          clear hnew hown
          refine step_app _ (by rfl) _ _ 44 (by rfl) wo.heap.size 5 i0 _ 1 1 Try.underlying44 hi0 hz0 hz1 hz2 rfl (by decide) _ f (byts ((x.edges.take f).map (turned ns.length k))) (by rfl) HOwn.out _ _ _ [.int .u8 (turned ns.length k e : Int)] (by rfl) rfl (fun j u hu => ⟨_, rfl, blk_src HNew.out j u hu⟩) (by simp [Value.oneCell']) (by simp only [maxLen]; omega) (by omega) (by show wo.heap.size ≤ (wr.alloc _).heap.size; rw [World.size_alloc]; omega) ?_
          intro v5 w5 ho5 hg5 hat5
          obtain ⟨va', vc', rfl⟩ := Mem.own_form ho5
          have ug : Upd (fun g => (Value.slice va f vc).ownBlock = some g) ((wr.alloc (.cells #[.int .u8 (turned ns.length k e : Int)] 5)).drew) w5 := (Upd.refl _ _).grown hg5 (fun g hg _ => hg)
          have hB5 := ((HByb.out.alloc (.cells #[.int .u8 (turned ns.length k e : Int)] 5)).drew).upd ug (Ref.own_offB HRv.out HByb.out (by decide))
          have hcum : Upd (fun _ => False) wo w5 := ((HUx.out.alloc (.cells #[.int .u8 (turned ns.length k e : Int)] 5)).drew).next ug (fun i hi h => by have := (HRv.out.lt i h).1; omega)
          clear y1 yf yl
          have y1 := hB5.cell 1 rfl
          have yf := hB5.frozen 1
          have yl := hB5.lt
          have HB5 := Lib.hid hB5
          have HO5 := Lib.hid ho5
          have HCum := Lib.hid hcum
          clear hB5 hcum ho5 hg5 hat5 ug
          refine hK.out _ _ y1 (fun hHeld => ?_)
          clear hK KK
          try simp only [Act.put, List.getElem?_toArray, List.getElem?_cons_succ, List.getElem?_cons_zero, List.getElem_toArray, List.getElem_cons_succ, List.getElem_cons_zero, List.setIfInBounds_toArray, List.set_cons_zero, List.set_cons_succ]
          refine take_last (i := 7) (v := ?_) (by rfl) (by kernel_rfl) (by exact (fun _ _ _ h => h)) (by rfl) hHeld ?_ ?_
          rotate_left
          · ((intro V hV; obtain hV0 := hV; go_simp) <;> (with_reducible rfl))
          try simp only [Act.put, List.getElem?_toArray, List.getElem?_cons_succ, List.getElem?_cons_zero, List.getElem_toArray, List.getElem_cons_succ, List.getElem_cons_zero, List.setIfInBounds_toArray, List.set_cons_zero, List.set_cons_succ]
          refine last_end (by kernel_rfl) (by rfl) (fun KK hK => ?_)
          go_simp
          refine hK.out _ _ ?_
          clear hK KK
          go_wp2_with fail
          go_roundw
          case rel =>
            have us : Upd (fun g => g = wo.heap.size + 1) w5 (w5.setCell ⟨wo.heap.size + 1, 1, none⟩ (.slice va' (f + 1) vc')) := (Upd.refl _ w5).setCell _ (fun _ => rfl)
            refine ⟨f + 1, .slice va' (f + 1) vc', by omega, by go_num, HB5.out.set 1 _, ?_, HCum.out.next us (fun i hi e => by omega)⟩
            rw [List.take_add_one, HE.out, Option.toList_some, List.map_append, List.map_singleton, byts_snoc]
            exact own_upd HO5.out us (fun g hg e => Ref.own_offB HO5.out HB5.out (by decide) (e ▸ hg))
          case measure => simp [intOf]; omega
        · have hfe : f = x.edges.length := by omega
          subst hfe
          have hrv2 := HRv.out
          rw [List.take_length] at hrv2
          have HRv2 := Lib.hid hrv2
          have hbo2 := HBo.out.upd HUx.out (fun h => h)
          have o0 := hbo2.cell 0 rfl
          have of0 := hbo2.frozen 0
          have ol := hbo2.lt
          have y0 := HByb.out.cell 0 rfl
          have y2 := HByb.out.cell 2 rfl
          have HBo2 := Lib.hid hbo2
          have HRow2 := Lib.hid (own_upd HRow.out HUx.out (fun _ _ h => h))
          obtain ⟨vna, vnc, rfl⟩ := Mem.own_form HRow2.out
          clear hrv2 hbo2 HRv
          go_wp2_with (first | (at_builtin; refine wpList_append_lies _ rfl _ _ 43 rfl w3.heap.size 59 j0 _ 3 40 Try.underlying43 hj0 hy0 hy1 hy2 rfl (by decide) _ j (gcells l) rfl (HRow2.out.alloc _) ⟨wr.heap.size, 0, none⟩ 1 1 [.int .u8 (x.kind : Int), .slice va x.edges.length vc, .int .u8 0] rfl rfl ?c1 ?c2 (by decide) ?c3 ?c4 ?c5 _ rfl ?_))
          case c1 => exact cells_new _ _ _
          case c2 => simp [Value.oneCell']
          case c3 => simp only [maxLen]; omega
          case c4 => omega
          case c5 => first | omega | (simp only [World.size_alloc]; omega)
          intro g2 cap2 w5 hN5 hg5 hat5 hlt5
          have u5 : Upd (fun q => (Value.slice vna j vnc).ownBlock = some q) wr w5 := ((Upd.refl _ wr).alloc (.cells #[.int .u8 (x.kind : Int), .slice va x.edges.length vc, .int .u8 0] 59)).grown hg5 (fun k hk _ => hk)
          have hO5 := HBo2.out.upd u5 (Ref.own_offB HRow2.out HBo2.out (by decide))
          have hE5 : ∀ p ∈ l, w5.ownsRow w3.heap.size 5 1 p.2 p.1.edges.length (byts p.1.edges) := fun p hp => own_upd (own_upd (HEach.out p hp) HUx.out (fun _ _ h => h)) u5 (fun g hg h => Ref.own_apart (own_upd (HEach.out p hp) HUx.out (fun _ _ h => h)) HRow2.out (by decide) g hg h)
          have hv5 := own_upd HRv2.out u5 (fun g hg h => Ref.own_apart HRv2.out HRow2.out (by decide) g hg h)
          have hcum : Upd (fun q => q = w2.heap.size + 1 + 1) w3 w5 := (HUr.out.next HUx.out (fun _ _ h => h.elim)).next u5 (fun i hi e => by have := (HRow2.out.lt i e).1; omega)
          clear o0 of0 ol y0 y2 y1 yf yl
          have o0 := hO5.cell 0 rfl
          have of0 := hO5.frozen 0
          have ol := hO5.lt
          have HN5 := Lib.hid hN5
          have HO5 := Lib.hid hO5
          have HE5 := Lib.hid hE5
          have HV5 := Lib.hid hv5
          have HC5 := Lib.hid hcum
          clear hN5 hg5 hat5 hlt5 u5 hO5 hE5 hv5 hcum
          go_wp2_with fail
          go_roundw
          case rel =>
            have us : Upd (fun q => q = w2.heap.size + 1 + 1) w5 (w5.setCell ⟨w2.heap.size + 1 + 1, 0, none⟩ (.slice (some ⟨g2, 0, none⟩) (j + 1) cap2)) := (Upd.refl _ w5).setCell _ (fun _ => rfl)
            have hat := otherG_at hkl hlj (HS.out ▸ HX.out)
            refine ⟨j + 1, l ++ [(otherN ns.length k x, .slice va x.edges.length vc)], .slice (some ⟨g2, 0, none⟩) (j + 1) cap2, by omega, by go_num, ?_, HO5.out.set 0 _, ?_, ?_, HC5.out.next us (fun _ _ h => h)⟩
            · rw [List.map_append, HL.out, List.take_add_one, hat]; rfl
            · rw [gcells_snoc]
              exact own_upd HN5.out us (fun g hg e => Ref.own_offB HN5.out HO5.out (by decide) (e ▸ hg))
            · intro p hp
              rcases List.mem_append.1 hp with hp | hp
              · exact own_upd (HE5.out p hp) us (fun g hg e => Ref.own_offB (HE5.out p hp) HO5.out (by decide) (e ▸ hg))
              · rw [List.mem_singleton] at hp
                subst hp
                have h6 := own_upd HV5.out us (fun g hg e => Ref.own_offB HV5.out HO5.out (by decide) (e ▸ hg))
                simp only [otherN, List.length_map]
                exact own_base h6 (by omega)
          case measure => simp [intOf]; omega
    · have hje : j = ns.length := by omega
      subst hje
      have hl2 := HL.out
      rw [List.take_of_length_le (by rw [otherG_len hkl]; exact Nat.le_refl _)] at hl2
      have HL2 := Lib.hid hl2
      clear hl2 HL n0 nl k0 kl
      have hos : w2.heap.size + 1 + 1 < wo.heap.size := ol
      go_wp2_with fail
      go_loopw [93] (fun i wx => TurnRoots wo ns.length k (w2.heap.size + 1 + 1) rs vN i wx) (fun i _ => rs.length - (intOf i).toNat)
      case atStart => exact ⟨0, .slice none 0 0, Nat.zero_le _, rfl, HBo.out, World.ownsRow_nil _ _ _ _, Upd.refl _ _⟩
      case round =>
        obtain ⟨f, vR, hf, rfl, hbr, hrv, hux⟩ := hrel
        obtain ⟨va, vc, rfl⟩ := Mem.own_form hrv
        clear b0 b1 bl
        have HBx := Lib.hid hbr
        have HRv := Lib.hid hrv
        have HUx := Lib.hid hux
        have y1 := hbr.cell 1 rfl
        have yf := hbr.frozen 1
        have yl := hbr.lt
        have hxs := hux.size
        have HNx := Lib.hid (HNr.out.upd hux (by omega))
        have HKx := Lib.hid (HKr.out.upd hux (by omega))
        have HUq := Lib.hid (HUw.out.next hux (fun i hi e => by omega))
        clear hbr hrv hux
        by_cases hlf : f < rs.length
        · obtain ⟨e, he⟩ : ∃ e, rs[f]? = some e := ⟨_, List.getElem?_eq_getElem hlf⟩
          obtain ⟨b2, o2, rfl, e0, el, e256⟩ := HR.out.quiet HUq.out f e he
          have g1 : decide ((f : Int) < (rs.length : Int)) = true := decide_eq_true (by omega)
          have g1' : decide (f < rs.length) = true := decide_eq_true hlf
          have j1 : (0 : Int) ≤ (f : Int) := by omega
          have j2 : (f : Int) < (rs.length : Int) := by omega
          have HE := Lib.hid he
          clear he
          go_wp2_with fail
          refine wp_region_last (S := fun V => V.cell? ⟨w2.heap.size + 1 + 1, 1, none⟩ = some (.slice va f vc)) (by kernel_rfl) (by kernel_rfl) y1 (fun hHeld => ?_)
          simp only [List.pop_toArray, List.dropLast_cons_cons, List.dropLast_singleton, List.size_toArray, List.length_cons, List.length_nil, Nat.reduceAdd, Nat.reduceSub]
          refine take_last (i := 0) (v := ?_) (by rfl) (by kernel_rfl) (by exact (fun _ _ _ h => h)) (by rfl) hHeld ?_ ?_
          rotate_left
          · ((intro V hV; obtain hV0 := hV; go_simp) <;> (with_reducible rfl))
          try simp only [Act.put, List.getElem?_toArray, List.getElem?_cons_succ, List.getElem?_cons_zero, List.getElem_toArray, List.getElem_cons_succ, List.getElem_cons_zero, List.setIfInBounds_toArray, List.set_cons_zero, List.set_cons_succ]
          refine take_last (i := 1) (v := ?_) (by rfl) (by kernel_rfl) (by exact (fun _ _ _ h => h)) (by rfl) hHeld ?_ ?_
          rotate_left
          · ((intro V hV; obtain hV0 := hV; go_simp) <;> (with_reducible rfl))
          try simp only [Act.put, List.getElem?_toArray, List.getElem?_cons_succ, List.getElem?_cons_zero, List.getElem_toArray, List.getElem_cons_succ, List.getElem_cons_zero, List.setIfInBounds_toArray, List.set_cons_zero, List.set_cons_succ]
          refine take_last (i := 2) (v := ?_) (by rfl) (by kernel_rfl) (by exact (fun _ _ _ h => h)) (by rfl) hHeld ?_ ?_
          rotate_left
          · ((intro V hV; obtain hV0 := hV; go_simp) <;> (with_reducible rfl))
          try simp only [Act.put, List.getElem?_toArray, List.getElem?_cons_succ, List.getElem?_cons_zero, List.getElem_toArray, List.getElem_cons_succ, List.getElem_cons_zero, List.setIfInBounds_toArray, List.set_cons_zero, List.set_cons_succ]
          refine take_last (i := 3) (v := ?_) (by rfl) (by kernel_rfl) (by exact (fun _ _ _ h => h)) (by rfl) hHeld ?_ ?_
          rotate_left
          · ((intro V hV; obtain hV0 := hV; go_simp) <;> (with_reducible rfl))
          try simp only [Act.put, List.getElem?_toArray, List.getElem?_cons_succ, List.getElem?_cons_zero, List.getElem_toArray, List.getElem_cons_succ, List.getElem_cons_zero, List.setIfInBounds_toArray, List.set_cons_zero, List.set_cons_succ]
          refine next_last (i := 4) (by rfl) (by kernel_rfl) (fun KK hK => ?_)
          go_simp
          go_at_call 19
          refine (to_any _ w2.heap.size (w2.heap.size + 1) ns.length k e (HNx.out.drew) (HKx.out.drew) h0 hnl hkl e256).mono ?_
          rintro x' w' ⟨rfl, rfl⟩
          refine hK.out _ _ y1 (fun hHeld => ?_)
          clear hK KK
          try simp only [Act.put, List.getElem?_toArray, List.getElem?_cons_succ, List.getElem?_cons_zero, List.getElem_toArray, List.getElem_cons_succ, List.getElem_cons_zero, List.setIfInBounds_toArray, List.set_cons_zero, List.set_cons_succ]
          refine next_last (i := 5) (by rfl) (by kernel_rfl) (fun KK hK => ?_)
          go_simp
          refine hK.out _ _ (Ref.keepC (((Upd.refl (fun _ => False) wr).drew).alloc _) y1) (fun hHeld => ?_)
          clear hK KK
          try simp only [Act.put, List.getElem?_toArray, List.getElem?_cons_succ, List.getElem?_cons_zero, List.getElem_toArray, List.getElem_cons_succ, List.getElem_cons_zero, List.setIfInBounds_toArray, List.set_cons_zero, List.set_cons_succ]
          refine next_last (i := 6) (by rfl) (by kernel_rfl) (fun KK hK => ?_)
          have hnew := Blk.made wr.drew [.int .u8 (turned ns.length k e : Int)] 5
          have hown := HRv.out.drew.alloc (.cells #[.int .u8 (turned ns.length k e : Int)] 5)
          have HNew := Lib.hid hnew
          have HOwn := Lib.hid hown
          clear hnew hown
          refine step_app _ (by rfl) _ _ 44 (by rfl) wo.heap.size 5 i0 _ 1 1 Try.underlying44 hi0 hz0 hz1 hz2 rfl (by decide) _ f (byts ((rs.take f).map (turned ns.length k))) (by rfl) HOwn.out _ _ _ [.int .u8 (turned ns.length k e : Int)] (by rfl) rfl (fun j u hu => ⟨_, rfl, blk_src HNew.out j u hu⟩) (by simp [Value.oneCell']) (by simp only [maxLen]; omega) (by omega) (by show wo.heap.size ≤ (wr.alloc _).heap.size; rw [World.size_alloc]; omega) ?_
          intro v5 w5 ho5 hg5 hat5
          obtain ⟨va', vc', rfl⟩ := Mem.own_form ho5
          have ug : Upd (fun g => (Value.slice va f vc).ownBlock = some g) ((wr.alloc (.cells #[.int .u8 (turned ns.length k e : Int)] 5)).drew) w5 := (Upd.refl _ _).grown hg5 (fun g hg _ => hg)
          have hB5 := ((HBx.out.alloc (.cells #[.int .u8 (turned ns.length k e : Int)] 5)).drew).upd ug (Ref.own_offB HRv.out HBx.out (by decide))
          have hcum : Upd (fun q => q = w2.heap.size + 1 + 1) wo w5 := ((HUx.out.alloc (.cells #[.int .u8 (turned ns.length k e : Int)] 5)).drew).next ug (fun i hi h => by have := (HRv.out.lt i h).1; omega)
          clear y1 yf yl
          have y1 := hB5.cell 1 rfl
          have yf := hB5.frozen 1
          have yl := hB5.lt
          have HB5 := Lib.hid hB5
          have HO5 := Lib.hid ho5
          have HCum := Lib.hid hcum
          clear hB5 hcum ho5 hg5 hat5 ug
          refine hK.out _ _ y1 (fun hHeld => ?_)
          clear hK KK
          try simp only [Act.put, List.getElem?_toArray, List.getElem?_cons_succ, List.getElem?_cons_zero, List.getElem_toArray, List.getElem_cons_succ, List.getElem_cons_zero, List.setIfInBounds_toArray, List.set_cons_zero, List.set_cons_succ]
          refine take_last (i := 7) (v := ?_) (by rfl) (by kernel_rfl) (by exact (fun _ _ _ h => h)) (by rfl) hHeld ?_ ?_
          rotate_left
          · ((intro V hV; obtain hV0 := hV; go_simp) <;> (with_reducible rfl))
          try simp only [Act.put, List.getElem?_toArray, List.getElem?_cons_succ, List.getElem?_cons_zero, List.getElem_toArray, List.getElem_cons_succ, List.getElem_cons_zero, List.setIfInBounds_toArray, List.set_cons_zero, List.set_cons_succ]
          refine last_end (by kernel_rfl) (by rfl) (fun KK hK => ?_)
          go_simp
          refine hK.out _ _ ?_
          clear hK KK
          go_wp2_with fail
          go_roundw
          case rel =>
            have us : Upd (fun g => g = w2.heap.size + 1 + 1) w5 (w5.setCell ⟨w2.heap.size + 1 + 1, 1, none⟩ (.slice va' (f + 1) vc')) := (Upd.refl _ w5).setCell _ (fun _ => rfl)
            refine ⟨f + 1, .slice va' (f + 1) vc', by omega, by go_num, HB5.out.set 1 _, ?_, HCum.out.next us (fun _ _ e => e)⟩
            rw [List.take_add_one, HE.out, Option.toList_some, List.map_append, List.map_singleton, byts_snoc]
            exact own_upd HO5.out us (fun g hg e => Ref.own_offB HO5.out HB5.out (by decide) (e ▸ hg))
          case measure => simp [intOf]; omega
        · have hfe : f = rs.length := by omega
          subst hfe
          have hrv2 := HRv.out
          rw [List.take_length] at hrv2
          have HRv2 := Lib.hid hrv2
          have HRow2 := Lib.hid (own_upd HRow.out HUx.out (fun g hg e => Ref.own_offB HRow.out HBo.out (by decide) (e ▸ hg)))
          have HEach2 := Lib.hid (fun p hp => own_upd (HEach.out p hp) HUx.out (fun g hg e => Ref.own_offB (HEach.out p hp) HBo.out (by decide) (e ▸ hg)))
          have HB6 := Lib.hid (HBr.out.upd HUx.out (by omega))
          have b0 := HB6.out.cell 0 rfl
          have b1 := HB6.out.cell 1 rfl
          have bl := HB6.out.lt
          have hws := HUw.out.size
          clear hrv2 HRv y1 yf yl HNr HKr HNx HKx HRow HEach HBo HUr HBr
          generalize wr = w4 at *
          go_wp2_with fail
          have hu5 : Upd (fun _ => False) w4 (w4.alloc (.cells #[.slice none 0 0, .slice ra rs.length rc] 46)) := (Upd.refl _ w4).alloc _
          have hpb := Blk.made w4 [.slice none 0 0, .slice ra rs.length rc] 46
          have hs5 : (w4.alloc (.cells #[.slice none 0 0, .slice ra rs.length rc] 46)).heap.size = w4.heap.size + 1 := World.size_alloc _ _
          generalize w4.alloc (.cells #[.slice none 0 0, .slice ra rs.length rc] 46) = w5 at *
          have HPb := Lib.hid hpb
          have HU5 := Lib.hid (HUq.out.trans hu5)
          have HQ5 := Lib.hid hu5
          have HS5 := Lib.hid hs5
          have hls : w4.heap.size < w5.heap.size := by omega
          have hlw : w.heap.size ≤ w4.heap.size := by omega
          have HBq := Lib.hid (HB6.out.upd hu5 (fun h => h))
          clear hpb hu5 hs5 b0 b1 bl
          go_loopw [112] (fun i wx => Plaining w w5 ns w4.heap.size (.slice ra rs.length rc) i wx) (fun i _ => ns.length - (intOf i).toNat)
          case atStart => exact ⟨0, [], .slice none 0 0, Nat.zero_le _, rfl, rfl, HPb.out, World.ownsRow_nil _ _ _ _, fun p hp => (by cases hp), Upd.refl _ _⟩
          case round =>
            obtain ⟨j, lp, vP, hj, rfl, hlp, hbp, hrp, hep, hup⟩ := hrel
            obtain ⟨vpa, vpc, rfl⟩ := Mem.own_form hrp
            have HLp := Lib.hid hlp
            have HBp := Lib.hid hbp
            have HRp := Lib.hid hrp
            have HEp := Lib.hid hep
            have HUp := Lib.hid hup
            have p0 := hbp.cell 0 rfl
            have p1 := hbp.cell 1 rfl
            have pf0 := hbp.frozen 0
            have pl := hbp.lt
            have hps := hup.size
            have HUz := Lib.hid (HU5.out.next hup (fun i hi e => by omega))
            clear hlp hbp hrp hep hup
            by_cases hlj : j < ns.length
            · obtain ⟨x, hx⟩ : ∃ x, ns[j]? = some x := ⟨_, List.getElem?_eq_getElem hlj⟩
              obtain ⟨b, off, ea, ec, rfl, x0, x1, x2, x3, hby, xk, xm⟩ := HN.out j x hx
              have y1 := Ref.keepC HUz.out x1
              have y2 := Ref.keepC HUz.out x2
              have y3 := Ref.keepC HUz.out x3
              have yl : b < wr.heap.size := Nat.lt_of_lt_of_le x0 HUz.out.size
              have i1 : (0 : Int) ≤ (j : Int) := by omega
              have i2 : (j : Int) < (ns.length : Int) := by omega
              have d1 : decide ((j : Int) < (ns.length : Int)) = true := decide_eq_true (by omega)
              have d1' : decide (j < ns.length) = true := decide_eq_true hlj
              have HX := Lib.hid hx
              have HBy := Lib.hid hby
              clear hx hby x0 x1 x2 x3
              go_wp2_with (first | (at_builtin; refine wpList_append_lies _ rfl _ _ 43 rfl w5.heap.size 59 j0 _ 3 40 Try.underlying43 hj0 hy0 hy1 hy2 rfl (by decide) _ j (gcells lp) rfl ((HRp.out.alloc _).alloc _) ⟨wr.heap.size + 1, 0, none⟩ 1 1 [.int .u8 (x.kind : Int), .slice ea x.edges.length ec, .int .u8 0] rfl rfl ?c1 ?c2 (by decide) ?c3 ?c4 ?c5 _ rfl ?_))
              case c1 => exact cells_new2 _ _ _ _
              case c2 => simp [Value.oneCell']
              case c3 => simp only [maxLen]; omega
              case c4 => omega
              case c5 => first | omega | (simp only [World.size_alloc]; omega)
              intro g2 cap2 w6 hN6 hg6 hat6 hlt6
              have u6 : Upd (fun q => (Value.slice vpa j vpc).ownBlock = some q) wr w6 := (((Upd.refl _ wr).alloc (.cells #[.int .u8 (x.kind : Int), .slice ea x.edges.length ec, .int .u8 (x.more : Int)] 59)).alloc (.cells #[.int .u8 (x.kind : Int), .slice ea x.edges.length ec, .int .u8 0] 59)).grown hg6 (fun k hk _ => hk)
              have hP6 := HBp.out.upd u6 (Ref.own_offB HRp.out HBp.out (by decide))
              have hcum : Upd (fun q => q = w4.heap.size) w5 w6 := HUp.out.next u6 (fun i hi e => by have := (HRp.out.lt i e).1; omega)
              clear p0 pf0 pl y1 y2 y3 yl
              have p0 := hP6.cell 0 rfl
              have pf0 := hP6.frozen 0
              have pl := hP6.lt
              have HN6 := Lib.hid hN6
              have HP6 := Lib.hid hP6
              have HC6 := Lib.hid hcum
              clear hN6 hg6 hat6 hlt6 u6 hP6 hcum
              go_wp2_with fail
              go_roundw
              case rel =>
                have us : Upd (fun q => q = w4.heap.size) w6 (w6.setCell ⟨w4.heap.size, 0, none⟩ (.slice (some ⟨g2, 0, none⟩) (j + 1) cap2)) := (Upd.refl _ w6).setCell _ (fun _ => rfl)
                refine ⟨j + 1, lp ++ [(plainN x, .slice ea x.edges.length ec)], .slice (some ⟨g2, 0, none⟩) (j + 1) cap2, by omega, by go_num, ?_, HP6.out.set 0 _, ?_, ?_, HC6.out.next us (fun _ _ h => h)⟩
                · rw [List.map_append, HLp.out, List.take_add_one, plainG, List.getElem?_map, HX.out]; rfl
                · rw [gcells_snoc]
                  exact own_upd HN6.out us (fun g hg e => Ref.own_offB HN6.out HP6.out (by decide) (e ▸ hg))
                · intro p hp
                  rcases List.mem_append.1 hp with hp | hp
                  · exact HEp.out p hp
                  · rw [List.mem_singleton] at hp
                    subst hp
                    exact ⟨ea, ec, rfl, HBy.out, xk, by simp [plainN]⟩
              case measure => simp [intOf]; omega
            · have hje : j = ns.length := by omega
              subst hje
              have hpl : (plainG ns).length = ns.length := by simp [plainG]
              have hol : (otherG ns k).length = ns.length := otherG_len hkl
              have hlp2 := HLp.out
              rw [List.take_of_length_le (by omega)] at hlp2
              have hrp2 := HRp.out
              rw [← hpl] at hrp2
              obtain ⟨_, _, e', hnp⟩ := NodesIn.of_own hlp2 hrp2 (HEp.out.quiet HUz.out)
              rw [hpl] at e'
              cases e'
              have hrq := HR.out.quiet HUz.out
              have h4r : Upd (fun _ => False) w4 wr := HQ5.out.next HUp.out (fun i hi e => by omega)
              have hk256 := kinds_in HN.out
              have heo := edges_of_own (k := k) h0 hnl hk256 HL2.out (fun p hp => own_upd (HEach2.out p hp) h4r (fun _ _ h => h))
              have hro := own_upd HRow2.out h4r (fun _ _ h => h)
              rw [← hol] at hro
              obtain ⟨vNa, vNc, rfl⟩ := Mem.own_form HRow2.out
              obtain ⟨_, _, e', hno⟩ := NodesIn.of_own HL2.out hro heo
              rw [hol] at e'
              cases e'
              have hto : (rs.map (turned ns.length k)).length = rs.length := by simp
              have hrv3 := own_upd HRv2.out h4r (fun _ _ h => h)
              rw [← hto] at hrv3
              obtain ⟨_, _, e', hbo⟩ := Bytes.of_own hrv3 (fun y hy => by obtain ⟨z, _, rfl⟩ := List.mem_map.1 hy; exact turned_lt hnl h0)
              rw [hto] at e'
              cases e'
              obtain ⟨ks, nds, hf1, hf2⟩ := orders_form hkl rs
              have hob := HBx.out.upd h4r (fun h => h)
              have HForm1 := Lib.hid hf1
              have HForm2 := Lib.hid hf2
              have HNo := Lib.hid hno
              have HBo := Lib.hid hbo
              have HOb6 := Lib.hid hob
              have hbd1 := build_any wr _ ra vpc rc (plainG ns) rs hnp hrq ⟨plain_few HF.out.1, by omega, hrl⟩ 0 (by omega)
              rw [show ((0 : Nat) : Int) = 0 from rfl, hpl] at hbd1
              have HBd1 := Lib.hid hbd1
              have hwr := HUz.out.size
              clear hbd1 hlp2 hrp2 hnp hrq heo hro hrv3 hbo hf1 hf2 hno hob hk256
              go_wp2_with fail
              refine (HBd1.out).mono ?_
              rintro e wA ⟨hA, wbA, sbA, restA, vaA, vcA, vrA, SA, rfl, hHA, hroA, hRfA, _, _, _, _, _, _, _, huA⟩
              obtain ⟨gaA, gcA, rfl⟩ := hRfA.form
              have hTA := told (plainG ns) rs hHA.good (by omega) (fun a ha => by have h1 := atOf_le ha; have h2 := tot_le (plainG ns) (plain_few HF.out.1); omega)
              obtain ⟨szA, hszA⟩ : ∃ szA, szA = 1 + 0 + tot (plainG ns) := ⟨_, rfl⟩
              rw [← hszA] at hHA ⊢
              have hob2 := HOb6.out.upd huA (fun h => h)
              have o0 := hob2.cell 0 rfl
              have o1 := hob2.cell 1 rfl
              have ol := hob2.lt
              have halA := (Upd.refl (fun _ => False) wA).alloc (.cells #[.int .i64 (szA : Int), .slice gaA (obsOf (plainG ns)).length gcA] 30)
              have hHA' := hHA.quiet halA
              have hroA' := own_upd hroA halA (fun _ _ h => h)
              have hbd2 := build_any (wA.alloc (.cells #[.int .i64 (szA : Int), .slice gaA (obsOf (plainG ns)).length gcA] 30)) _ _ vNc vc (otherG ns k) (rs.map (turned ns.length k)) (HNo.out.quiet (huA.trans halA)) (HBo.out.quiet (huA.trans halA)) ⟨other_few h0 HF.out.1, by omega, by omega⟩ 0 (by omega)
              rw [show ((0 : Nat) : Int) = 0 from rfl, hol, hto] at hbd2
              have HBd2 := Lib.hid hbd2
              have HHA := Lib.hid hHA'
              have HRoA := Lib.hid hroA'
              have HTA := Lib.hid hTA
              have HUA := Lib.hid ((HUz.out.trans huA).trans halA)
              clear hszA hHA hHA' hroA hroA' hRfA hTA halA hob2 hbd2 p0 p1 pf0 pl
              go_wp2_with fail
              generalize wA.alloc (.cells #[.int .i64 (szA : Int), .slice gaA (obsOf (plainG ns)).length gcA] 30) = wA' at *
              refine (HBd2.out).mono ?_
              rintro e wB ⟨hB, wbB, sbB, restB, vaB, vcB, vrB, SB, rfl, hHB, hroB, hRfB, _, _, _, _, _, _, _, huB⟩
              obtain ⟨gaB, gcB, rfl⟩ := hRfB.form
              have hTB := told (otherG ns k) (rs.map (turned ns.length k)) hHB.good (by omega) (fun a ha => by have h1 := atOf_le ha; have h2 := tot_le (otherG ns k) (other_few h0 HF.out.1); omega)
              obtain ⟨szB, hszB⟩ : ∃ szB, szB = 1 + 0 + tot (otherG ns k) := ⟨_, rfl⟩
              rw [← hszB] at hHB ⊢
              have halB := (Upd.refl (fun _ => False) wB).alloc (.cells #[.int .i64 (szB : Int), .slice gaB (obsOf (otherG ns k)).length gcB] 30)
              have hHB' := hHB.quiet halB
              have hroB' := own_upd hroB halB (fun _ _ h => h)
              rw [hto] at hroB'
              have hXA : (rs.map (placeOf (atOf (plainG ns)))).length = rs.length := by simp
              have hXB : ((rs.map (turned ns.length k)).map (placeOf (atOf (otherG ns k)))).length = rs.length := by simp
              have hroA2 := own_upd HRoA.out (huB.trans halB) (fun _ _ h => h)
              rw [← hXA] at hroA2
              rw [← hXB] at hroB'
              have hriA := ints_own hroA2 (fun x hx => (HTA.out.roots x hx).2) (by omega)
              have hriB := ints_own hroB' (fun x hx => (hTB.roots x hx).2) (by omega)
              have hofA := fun (V : World) (hV : Upd (fun _ => False) (wB.alloc (.cells #[.int .i64 (szB : Int), .slice gaB (obsOf (otherG ns k)).length gcB] 30)) V) => Graph.of_any V hA wbA sbA szA (obsOf (plainG ns)) restA ((HHA.out.quiet (huB.trans halB)).quiet hV) vaA vcA (rs.map (placeOf (atOf (plainG ns)))) (Graph.ints_below hriA (hV.below (fun _ _ h => h)) rfl) (by omega) (fun x hx => (HTA.out.roots x hx).2) HTA.out.w64
              have hofB := fun (V : World) (hV : Upd (fun _ => False) (wB.alloc (.cells #[.int .i64 (szB : Int), .slice gaB (obsOf (otherG ns k)).length gcB] 30)) V) => Graph.of_any V hB wbB sbB szB (obsOf (otherG ns k)) restB (hHB'.quiet hV) vaB vcB ((rs.map (turned ns.length k)).map (placeOf (atOf (otherG ns k)))) (Graph.ints_below hriB (hV.below (fun _ _ h => h)) rfl) (by omega) (fun x hx => (hTB.roots x hx).2) hTB.w64
              simp only [HForm1.out, HForm2.out, hXA, hXB] at hofA hofB
              have HOfA := Lib.hid hofA
              have HOfB := Lib.hid hofB
              have htop : top (obsOf (plainG ns)) ≤ 65536 := by have := HHA.out.size; have := HHA.out.hi; omega
              have hsz := form_size HForm1.out HTA.out.good htop (by omega)
              have HSz := Lib.hid hsz
              have HUB := Lib.hid ((HUA.out.trans huB).trans halB)
              clear hszB hHB hHB' hroB hroB' hRfB hTB halB hroA2 hriA hriB hofA hofB hsz htop o0 o1 ol
              go_wp2_with fail
              generalize wB.alloc (.cells #[.int .i64 (szB : Int), .slice gaB (obsOf (otherG ns k)).length gcB] 30) = wB' at *
              refine (HOfA.out _ (Upd.refl _ _)).mono ?_
              rintro e wC ⟨huC, gvaC, gvnC, rfl, hFC⟩
              obtain ⟨fa, fc, rfl⟩ : ∃ a c, gvaC = .slice a ks.length c := Mem.own_form hFC.roots
              obtain ⟨fn, fd, rfl⟩ : ∃ a c, gvnC = .slice a nds.length c := by obtain ⟨nv, _, hn, _⟩ := hFC.nodes; exact Mem.own_form hn
              have halC := (Upd.refl (fun _ => False) wC).alloc (.cells #[.slice fa ks.length fc, .slice fn nds.length fd] 35)
              have hbC := Blk.made wC [.slice fa ks.length fc, .slice fn nds.length fd] 35
              have HFC := Lib.hid (hFC.quiet halC)
              have HBC := Lib.hid hbC
              have HUC := Lib.hid (huC.trans halC)
              clear hFC halC hbC huC
              go_wp2_with fail
              generalize hgC : wC.heap.size = bC at *
              clear hgC
              generalize wC.alloc (.cells #[.slice fa ks.length fc, .slice fn nds.length fd] 35) = wC' at *
              refine (HOfB.out _ HUC.out).mono ?_
              rintro e wD ⟨huD, gvaD, gvnD, rfl, hFD⟩
              obtain ⟨ea, ec, rfl⟩ : ∃ a c, gvaD = .slice a ks.length c := Mem.own_form hFD.roots
              obtain ⟨en, ed, rfl⟩ : ∃ a c, gvnD = .slice a nds.length c := by obtain ⟨nv, _, hn, _⟩ := hFD.nodes; exact Mem.own_form hn
              have halD := (Upd.refl (fun _ => False) wD).alloc (.cells #[.slice ea ks.length ec, .slice en nds.length ed] 35)
              have hbC2 := (HBC.out.upd huD (fun h => h)).upd halD (fun h => h)
              have hbD := Blk.made wD [.slice ea ks.length ec, .slice en nds.length ed] 35
              have hFC2 := HFC.out.quiet (huD.trans halD)
              have hFD2 := hFD.quiet halD
              have HUD := Lib.hid (HUB.out.trans ((HUC.out.trans huD).trans halD))
              have HSC := Lib.hid (fun (V : World) (hV : Upd (fun _ => False) (wD.alloc (.cells #[.slice ea ks.length ec, .slice en nds.length ed] 35)) V) => by
                obtain ⟨n1, m1, o1, r1⟩ := hFC2.nodes
                obtain ⟨n2, m2, o2, r2⟩ := hFD2.nodes
                have h := sameForm_any V _ _ _ _ ks ks nds nds ((IntsAt.of_own hFC2.roots).quiet hV) ((NodesAt.of_own m1 o1 r1).quiet hV) ((IntsAt.of_own hFD2.roots).quiet hV) ((NodesAt.of_own m2 o2 r2).quiet hV) HSz.out.1 HSz.out.1 ⟨HSz.out.2.1, HSz.out.2.2⟩ ⟨HSz.out.2.1, HSz.out.2.2⟩
                rw [decide_eq_true (show ks = ks ∧ nds = nds from ⟨rfl, rfl⟩)] at h
                exact h)
              have f0 := hbC2.cell 0 rfl
              have f1 := hbC2.cell 1 rfl
              have fl := hbC2.lt
              have d0 := hbD.cell 0 rfl
              have d1 := hbD.cell 1 rfl
              have dl := hbD.lt
              clear halD hbC2 hbD hFC2 hFD2 huD hFD
              go_wp2_with fail
              refine (HSC.out _ (Upd.refl _ _)).mono ?_
              rintro e wE ⟨rfl, huE⟩
              have HUE := Lib.hid (HUD.out.trans huE)
              clear huE f0 f1 fl d0 d1 dl
              go_wp2
              go_ret
              exact ⟨rfl, HUE.out⟩
end Go.Proofs.Ytlphlaenecidiaa.Build
