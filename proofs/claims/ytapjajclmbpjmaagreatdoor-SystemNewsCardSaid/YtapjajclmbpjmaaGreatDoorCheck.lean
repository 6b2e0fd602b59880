/- heap.Check: parts: astray; slices.IndexFunc and ContainsFunc over words that all lead to objects. -/
import Derived.Test.YtapjajclmbpjmaaGreatDoorWalk
set_option linter.unusedSimpArgs false
namespace Go.Proofs.YtapjajclmbpjmaaGreatDoor.Heap
open Go.RowKit Go.Proofs.YtapjajclmbpjmaaGreatDoor.Mem Go.Proofs.YtapjajclmbpjmaaGreatDoor.Obj

theorem astray_any (w : World) (h wb sb n : Nat) (os : List Ob) (rest : List Int) (H : HeapAt w h wb sb n os rest) (x : Int) (hx : -9223372036854775808 ≤ x ∧ x ≤ 9223372036854775807) :
    Calls Tryz.prog 71 #[.pointer (some ⟨h, 0, none⟩), .int .i64 x] w fun e w' => e = .returned (.bool (!leads os x)) ∧ Upd (fun _ => False) w w' := by
  have HL := Lib.hid (leads_any w h wb sb n os rest H x hx)
  clear H
  go_enter Tryz.func71, Tryz.ntmps71
  go_wp2_with fail
  refine (HL.out).mono ?_
  rintro e w1 ⟨rfl, hu⟩
  have HU := Lib.hid hu
  clear hu
  go_wp2
  go_ret
  exact ⟨rfl, HU.out⟩

set_option maxHeartbeats 1000000 in
theorem index_none (w : World) (h wb sb n : Nat) (os : List Ob) (rest : List Int) (H : HeapAt w h wb sb n os rest) (o m cap : Nat) (xs : List Int) (hm : xs.length = m) (hml : xs.length ≤ 65536) (hc : ∀ j x, xs[j]? = some x → w.cell? ⟨wb, o + j, none⟩ = some (.int .i64 x)) (hx : ∀ x ∈ xs, leads os x = true ∧ -9223372036854775808 ≤ x ∧ x ≤ 9223372036854775807) :
    Calls Tryz.prog 67 #[.slice (some ⟨wb, o, none⟩) m cap, .func (.func 71) #[.pointer (some ⟨h, 0, none⟩)] #[]] w fun e w' => e = .returned (.int .i64 (-1)) ∧ Upd (fun _ => False) w w' := by
  have HH := Lib.hid H
  have HC := Lib.hid hc
  have HX := Lib.hid hx
  have hwl := H.wds.lt
  subst hm
  clear H hc hx
  go_enter Tryz.func67, Tryz.ntmps67
  go_wp2
  go_loopw [8] (fun i wr => ∃ k : Nat, k ≤ xs.length ∧ i = .int .i64 (k : Int) ∧ Upd (fun _ => False) w wr) (fun i _ => xs.length - (intOf i).toNat)
  case atStart => exact ⟨0, Nat.zero_le _, rfl, Upd.refl _ _⟩
  case round =>
    obtain ⟨k, hk, rfl, hU⟩ := hrel
    have HU := Lib.hid hU
    by_cases hlk : k < xs.length
    · obtain ⟨x, hxk⟩ : ∃ x, xs[k]? = some x := ⟨_, List.getElem?_eq_getElem hlk⟩
      have hb := HX.out x (List.mem_of_getElem? hxk)
      have c0 : wr.cell? ⟨wb, o + k, none⟩ = some (.int .i64 x) := by rw [World.cell?, hU.block wb hwl (fun h => h)]; exact HC.out k x hxk
      have ha := astray_any wr h wb sb n os rest (HH.out.quiet hU) x hb.2
      rw [hb.1] at ha
      have HA := Lib.hid ha
      have d1 : decide ((k : Int) < (xs.length : Int)) = true := decide_eq_true (by omega)
      have d1' : decide (k < xs.length) = true := decide_eq_true hlk
      have i1 : (0 : Int) ≤ (k : Int) := by omega
      have i2 : (k : Int) < (xs.length : Int) := by omega
      clear hb ha hU hxk
      go_wp2_with fail
      refine (HA.out).mono ?_
      rintro e w2 ⟨rfl, hu2⟩
      have HU2 := Lib.hid (HU.out.trans hu2)
      clear hu2 c0
      go_wp2
      go_roundw
      case rel => exact ⟨k + 1, by omega, by go_num, HU2.out⟩
      case measure => simp [intOf]; omega
    · obtain rfl : k = xs.length := by omega
      clear hU
      go_wp2
      go_ret
      exact ⟨rfl, HU.out⟩

theorem contains_none (w : World) (h wb sb n : Nat) (os : List Ob) (rest : List Int) (H : HeapAt w h wb sb n os rest) (o m cap : Nat) (xs : List Int) (hm : xs.length = m) (hml : xs.length ≤ 65536) (hc : ∀ j x, xs[j]? = some x → w.cell? ⟨wb, o + j, none⟩ = some (.int .i64 x)) (hx : ∀ x ∈ xs, leads os x = true ∧ -9223372036854775808 ≤ x ∧ x ≤ 9223372036854775807) :
    Calls Tryz.prog 43 #[.slice (some ⟨wb, o, none⟩) m cap, .func (.func 71) #[.pointer (some ⟨h, 0, none⟩)] #[]] w fun e w' => e = .returned (.bool false) ∧ Upd (fun _ => False) w w' := by
  have HI := Lib.hid (index_none w h wb sb n os rest H o m cap xs hm hml hc hx)
  clear H hc hx
  go_enter Tryz.func43, Tryz.ntmps43
  go_wp2_with fail
  refine (HI.out).mono ?_
  rintro e w1 ⟨rfl, hu⟩
  have HU := Lib.hid hu
  clear hu
  go_wp2
  go_ret
  exact ⟨rfl, HU.out⟩
end Go.Proofs.YtapjajclmbpjmaaGreatDoor.Heap
