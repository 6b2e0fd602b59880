/- The law GraphOfs at every input: told graphs that are great, and too many roots, have nothing to show. -/
import Derived.Test.YtlphlaenecidiaaGraphOfs
set_option linter.unusedSimpArgs false
namespace Go.Proofs.Ytlphlaenecidiaa.Build
open Go.RowKit Go.Proofs.Ytlphlaenecidiaa.Mem Go.Proofs.Ytlphlaenecidiaa.Obj Go.Proofs.Ytlphlaenecidiaa.Ref Go.Proofs.Ytlphlaenecidiaa.Heap
set_option maxHeartbeats 1000000 in
theorem ofs_great (w : World) (na ra : Option Addr) (nc rc : Nat) (ns : List GNd) (m : Nat) (hn : NodesIn w na ns) (hnl : ns.length ≤ 9223372036854775807) (hml : m ≤ 9223372036854775807) (h : ¬ ((∀ n ∈ ns, n.edges.length ≤ 10) ∧ ns.length ≤ 14 ∧ m ≤ 14)) (pa : Option Addr) (l pc : Nat) :
    Calls Try.prog 7 #[gv na ns.length nc ra m rc, .slice pa l pc] w fun e w' => e = .returned (.bool true) ∧ Upd (fun _ => False) w w' := by
  have hu0 := (Upd.refl (fun _ => False) w).alloc (.cells (GB na ns.length nc ra m rc).toArray 46)
  have HB := Lib.hid (Blk.made w (GB na ns.length nc ra m rc) 46)
  have HU := Lib.hid hu0
  have HN := Lib.hid hn
  have HH := Lib.hid h
  clear hu0 hn h
  go_enter Try.func7, Try.ntmps7
  go_wp2_with fail
  refine (Raw.awake16 _).mono ?_
  rintro e w1 ⟨rfl, hu1⟩
  have hB1 := HB.out.upd hu1 (fun h => h)
  have b0 := hB1.cell 0 rfl
  have b1 := hB1.cell 1 rfl
  have bl := hB1.lt
  have hfew := few_any w1 na ra nc rc ns m (HN.out.quiet (HU.out.trans hu1)) hnl hml
  rw [decide_eq_false HH.out] at hfew
  have HFew := Lib.hid hfew
  have HU1 := Lib.hid (HU.out.trans hu1)
  clear hB1 hfew hu1
  go_wp2_with fail
  refine (HFew.out).mono ?_
  rintro e w2 ⟨rfl, hu2⟩
  have HU2 := Lib.hid (HU1.out.trans hu2)
  clear hu2 b0 b1 bl
  go_wp2_with fail
  refine (Raw.awake16 _).mono ?_
  rintro e w3 ⟨rfl, hu3⟩
  have HU3 := Lib.hid (HU2.out.trans hu3)
  clear hu3
  go_wp2
  go_ret
  exact ⟨rfl, HU3.out⟩
set_option maxHeartbeats 1000000 in
theorem ofs_long (w : World) (na ra : Option Addr) (nc rc : Nat) (ns : List GNd) (m : Nat) (hn : NodesIn w na ns) (h : (∀ n ∈ ns, n.edges.length ≤ 10) ∧ ns.length ≤ 14 ∧ m ≤ 14) (pa : Option Addr) (l pc : Nat) (hl : 14 < l) :
    Calls Try.prog 7 #[gv na ns.length nc ra m rc, .slice pa l pc] w fun e w' => e = .returned (.bool true) ∧ Upd (fun _ => False) w w' := by
  have hu0 := (Upd.refl (fun _ => False) w).alloc (.cells (GB na ns.length nc ra m rc).toArray 46)
  have HB := Lib.hid (Blk.made w (GB na ns.length nc ra m rc) 46)
  have HU := Lib.hid hu0
  have HN := Lib.hid hn
  have HH := Lib.hid h
  have hnl := h.2.1
  have hml := h.2.2
  have d14 : decide (14 < (l : Int)) = true := decide_eq_true (by omega)
  have d14' : decide (14 < l) = true := decide_eq_true hl
  clear hu0 hn h
  go_enter Try.func7, Try.ntmps7
  go_wp2_with fail
  refine (Raw.awake16 _).mono ?_
  rintro e w1 ⟨rfl, hu1⟩
  have hB1 := HB.out.upd hu1 (fun h => h)
  have b0 := hB1.cell 0 rfl
  have b1 := hB1.cell 1 rfl
  have bl := hB1.lt
  have hfew := few_any w1 na ra nc rc ns m (HN.out.quiet (HU.out.trans hu1)) (by omega) (by omega)
  rw [decide_eq_true HH.out] at hfew
  have HFew := Lib.hid hfew
  have HU1 := Lib.hid (HU.out.trans hu1)
  clear hB1 hfew hu1
  go_wp2_with fail
  refine (HFew.out).mono ?_
  rintro e w2 ⟨rfl, hu2⟩
  have HU2 := Lib.hid (HU1.out.trans hu2)
  clear hu2 b0 b1 bl
  go_wp2_with fail
  refine (Raw.awake16 _).mono ?_
  rintro e w3 ⟨rfl, hu3⟩
  have HU3 := Lib.hid (HU2.out.trans hu3)
  clear hu3
  go_wp2
  go_ret
  exact ⟨rfl, HU3.out⟩
theorem bytes_of {w : World} {a : Option Addr} {zs : List Int} (h : Row.Ints .u8 w a zs) : Bytes w a (zs.map Int.toNat) := by
  intro j x hj
  rw [List.getElem?_map] at hj
  cases hz : zs[j]? with
  | none => rw [hz] at hj; cases hj
  | some z =>
    rw [hz] at hj
    cases hj
    obtain ⟨b, off, e, hc, hb⟩ := h.cell j z hz
    have hu := u8_in (h.wf j z hz)
    refine ⟨b, off, e, ?_, hb, by omega⟩
    rw [hc, show ((z.toNat : Nat) : Int) = z by omega]
theorem ofs_yes (w : World) (na ra pa : Option Addr) (nc rc pc : Nat) (ns : List GNd) (rs : List Nat) (zs : List Int) (hn : NodesIn w na ns) (hz : Row.Ints .u8 w pa zs) (hnl : ns.length ≤ 9223372036854775807) (hrl : rs.length ≤ 9223372036854775807) :
    Calls Try.prog 7 #[gv na ns.length nc ra rs.length rc, .slice pa zs.length pc] w fun e w' => e = .returned (.bool true) ∧ Below w.heap.size w w' := by
  have key : Calls Try.prog 7 #[gv na ns.length nc ra rs.length rc, .slice pa zs.length pc] w fun e w' => e = .returned (.bool true) ∧ Upd (fun _ => False) w w' := by
    by_cases h : (∀ n ∈ ns, n.edges.length ≤ 10) ∧ ns.length ≤ 14 ∧ rs.length ≤ 14
    · by_cases hl : zs.length ≤ 14
      · have := ofs_few w na ra pa nc rc pc rs.length ns (zs.map Int.toNat) hn (bytes_of hz) h (by rw [List.length_map]; exact hl)
        rw [List.length_map] at this
        exact this
      · exact ofs_long w na ra nc rc ns rs.length hn h pa zs.length pc (by omega)
    · exact ofs_great w na ra nc rc ns rs.length hn hnl hrl h pa zs.length pc
  exact key.mono fun e w' h => ⟨h.1, h.2.below (fun _ _ h => h)⟩
end Go.Proofs.Ytlphlaenecidiaa.Build
