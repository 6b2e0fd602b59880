/- The law GraphOrders at every input: told graphs that are great, and those without roots, have nothing to show. -/
import Derived.Test.YtlphlaenecidiaaGraphOrders
import Derived.Test.YtlphlaenecidiaaGraphArg
set_option linter.unusedSimpArgs false
namespace Go.Proofs.Ytlphlaenecidiaa.Build
open Go.RowKit Go.Proofs.Ytlphlaenecidiaa.Mem Go.Proofs.Ytlphlaenecidiaa.Obj Go.Proofs.Ytlphlaenecidiaa.Ref Go.Proofs.Ytlphlaenecidiaa.Heap
set_option maxHeartbeats 1000000 in
theorem orders_great (w : World) (na ra : Option Addr) (nc rc : Nat) (ns : List GNd) (m : Nat) (hn : NodesIn w na ns) (hnl : ns.length ≤ 9223372036854775807) (hml : m ≤ 9223372036854775807) (h : ¬ ((∀ n ∈ ns, n.edges.length ≤ 10) ∧ ns.length ≤ 14 ∧ m ≤ 14)) (kk : Nat) :
    Calls Try.prog 5 #[gv na ns.length nc ra m rc, .int .u8 (kk : Int)] w fun e w' => e = .returned (.bool true) ∧ Upd (fun _ => False) w w' := by
  have hu0 := (Upd.refl (fun _ => False) w).alloc (.cells (GB na ns.length nc ra m rc).toArray 46)
  have HB := Lib.hid (Blk.made w (GB na ns.length nc ra m rc) 46)
  have HU := Lib.hid hu0
  have HN := Lib.hid hn
  have HH := Lib.hid h
  clear hu0 hn h
  go_enter Try.func5, Try.ntmps5
  go_wp2_with fail
  refine (Raw.awake16 _).mono ?_
  rintro e w1 ⟨rfl, hu1⟩
  have hB1 := HB.out.upd hu1 (fun h => h)
  have b0 := hB1.cell 0 rfl
  have b1 := hB1.cell 1 rfl
  have bl := hB1.lt
  have hfew := few_any w1 na ra nc rc ns m (HN.out.quiet (HU.out.trans hu1)) hnl hml
  rw [decide_eq_false HH.out] at hfew
  have HFew := Lib.hid hfew
  have HU1 := Lib.hid (HU.out.trans hu1)
  clear hB1 hfew hu1
  go_wp2_with fail
  refine (HFew.out).mono ?_
  rintro e w2 ⟨rfl, hu2⟩
  have HU2 := Lib.hid (HU1.out.trans hu2)
  clear hu2 b0 b1 bl
  go_wp2_with fail
  refine (Raw.awake16 _).mono ?_
  rintro e w3 ⟨rfl, hu3⟩
  have HU3 := Lib.hid (HU2.out.trans hu3)
  clear hu3
  go_wp2
  go_ret
  exact ⟨rfl, HU3.out⟩
set_option maxHeartbeats 1000000 in
theorem orders_none (w : World) (na ra : Option Addr) (nc rc m : Nat) (hm : m ≤ 14) (kk : Nat) :
    Calls Try.prog 5 #[gv na 0 nc ra m rc, .int .u8 (kk : Int)] w fun e w' => e = .returned (.bool true) ∧ Upd (fun _ => False) w w' := by
  have hu0 := (Upd.refl (fun _ => False) w).alloc (.cells (GB na 0 nc ra m rc).toArray 46)
  have HB := Lib.hid (Blk.made w (GB na 0 nc ra m rc) 46)
  have HU := Lib.hid hu0
  clear hu0
  go_enter Try.func5, Try.ntmps5
  go_wp2_with fail
  refine (Raw.awake16 _).mono ?_
  rintro e w1 ⟨rfl, hu1⟩
  have hB1 := HB.out.upd hu1 (fun h => h)
  have b0 := hB1.cell 0 rfl
  have b1 := hB1.cell 1 rfl
  have bl := hB1.lt
  have hfew := few_any w1 na ra nc rc [] m (fun i n h => by simp at h) (by simp) (by omega)
  rw [decide_eq_true ⟨fun n h => (by cases h), (by simp), hm⟩] at hfew
  have HFew := Lib.hid hfew
  have HB1 := Lib.hid hB1
  have HU1 := Lib.hid (HU.out.trans hu1)
  clear hB1 hfew hu1
  go_wp2_with fail
  refine (HFew.out).mono ?_
  rintro e w2 ⟨rfl, hu2⟩
  have hB2 := HB1.out.upd hu2 (fun h => h)
  have HU2 := Lib.hid (HU1.out.trans hu2)
  clear hu2 b0 b1 bl
  have b0 := hB2.cell 0 rfl
  have b1 := hB2.cell 1 rfl
  have bl := hB2.lt
  have d0 : (((0 : Nat) : Int) == 0) = true := by decide
  clear hB2
  go_wp2_with fail
  refine (Raw.awake16 _).mono ?_
  rintro e w3 ⟨rfl, hu3⟩
  have HU3 := Lib.hid (HU2.out.trans hu3)
  clear hu3
  go_wp2
  go_ret
  exact ⟨rfl, HU3.out⟩
theorem orders_yes (w : World) (na ra : Option Addr) (nc rc : Nat) (ns : List GNd) (rs : List Nat) (hn : NodesIn w na ns) (hr : Bytes w ra rs) (hnl : ns.length ≤ 9223372036854775807) (hrl : rs.length ≤ 9223372036854775807) (k : Int) (hk : (Lit.int .u8 k).wf = true) :
    Calls Try.prog 5 #[gv na ns.length nc ra rs.length rc, .int .u8 k] w fun e w' => e = .returned (.bool true) ∧ Below w.heap.size w w' := by
  have hk2 := u8_in hk
  obtain ⟨kk, rfl⟩ : ∃ kk : Nat, k = (kk : Int) := ⟨k.toNat, by omega⟩
  have key : Calls Try.prog 5 #[gv na ns.length nc ra rs.length rc, .int .u8 (kk : Int)] w fun e w' => e = .returned (.bool true) ∧ Upd (fun _ => False) w w' := by
    by_cases h : (∀ n ∈ ns, n.edges.length ≤ 10) ∧ ns.length ≤ 14 ∧ rs.length ≤ 14
    · by_cases h0 : 0 < ns.length
      · exact orders_few w na ra nc rc ns rs hn hr h h0 kk (by omega)
      · rw [show ns.length = 0 by omega]
        exact orders_none w na ra nc rc rs.length h.2.2 kk
    · exact orders_great w na ra nc rc ns rs.length hn hnl hrl h kk
  exact key.mono fun e w' h => ⟨h.1, h.2.below (fun _ _ h => h)⟩
end Go.Proofs.Ytlphlaenecidiaa.Build
