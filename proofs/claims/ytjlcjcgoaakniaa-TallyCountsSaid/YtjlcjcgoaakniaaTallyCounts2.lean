/- The law TallyCounts at every input: told graphs that are great have nothing to show. -/
import Derived.Test.YtjlcjcgoaakniaaTallyCounts
import Derived.Test.YtjlcjcgoaakniaaGraphArg
set_option linter.unusedSimpArgs false
namespace Go.Proofs.Ytjlcjcgoaakniaa.Build
open Go.RowKit Go.Proofs.Ytjlcjcgoaakniaa.Mem Go.Proofs.Ytjlcjcgoaakniaa.Obj Go.Proofs.Ytjlcjcgoaakniaa.Ref Go.Proofs.Ytjlcjcgoaakniaa.Heap
set_option maxHeartbeats 1000000 in
theorem tcounts_great (w : World) (na ra : Option Addr) (nc rc : Nat) (ns : List GNd) (m : Nat) (hn : NodesIn w na ns) (hnl : ns.length ≤ 9223372036854775807) (hml : m ≤ 9223372036854775807) (h : ¬ ((∀ n ∈ ns, n.edges.length ≤ 10) ∧ ns.length ≤ 14 ∧ m ≤ 14)) :
    Calls Try.prog 13 #[gv na ns.length nc ra m rc] w fun e w' => e = .returned (.bool true) ∧ Upd (fun _ => False) w w' := by
  have hu0 := (Upd.refl (fun _ => False) w).alloc (.cells (GB na ns.length nc ra m rc).toArray 67)
  have HB := Lib.hid (Blk.made w (GB na ns.length nc ra m rc) 67)
  have HU := Lib.hid hu0
  have HN := Lib.hid hn
  have HH := Lib.hid h
  clear hu0 hn h
  go_enter Try.func13, Try.ntmps13
  go_wp2_with fail
  refine (Tally.awake19 _).mono ?_
  rintro e w1 ⟨rfl, hu1⟩
  have hB1 := HB.out.upd hu1 (fun h => h)
  have b0 := hB1.cell 0 rfl
  have b1 := hB1.cell 1 rfl
  have bl := hB1.lt
  have hfew := few_any w1 na ra nc rc ns m (HN.out.quiet (HU.out.trans hu1)) hnl hml
  rw [decide_eq_false HH.out] at hfew
  have HFew := Lib.hid hfew
  have HU1 := Lib.hid (HU.out.trans hu1)
  clear hB1 hfew hu1
  go_wp2_with fail
  refine (HFew.out).mono ?_
  rintro e w2 ⟨rfl, hu2⟩
  have HU2 := Lib.hid (HU1.out.trans hu2)
  clear hu2 b0 b1 bl
  go_wp2_with fail
  refine (Tally.awake19 _).mono ?_
  rintro e w3 ⟨rfl, hu3⟩
  have HU3 := Lib.hid (HU2.out.trans hu3)
  clear hu3
  go_wp2
  go_ret
  exact ⟨rfl, HU3.out⟩
theorem tcounts_yes (w : World) (na ra : Option Addr) (nc rc : Nat) (ns : List GNd) (rs : List Nat) (hn : NodesIn w na ns) (hr : Bytes w ra rs) (hnl : ns.length ≤ 9223372036854775807) (hrl : rs.length ≤ 9223372036854775807) :
    Calls Try.prog 13 #[gv na ns.length nc ra rs.length rc] w fun e w' => e = .returned (.bool true) ∧ Below w.heap.size w w' := by
  have key : Calls Try.prog 13 #[gv na ns.length nc ra rs.length rc] w fun e w' => e = .returned (.bool true) ∧ Upd (fun _ => False) w w' := by
    by_cases h : (∀ n ∈ ns, n.edges.length ≤ 10) ∧ ns.length ≤ 14 ∧ rs.length ≤ 14
    · exact tcounts_few w na ra nc rc ns rs hn hr h
    · exact tcounts_great w na ra nc rc ns rs.length hn hnl hrl h
  exact key.mono fun e w' h => ⟨h.1, h.2.below (fun _ _ h => h)⟩
end Go.Proofs.Ytjlcjcgoaakniaa.Build
