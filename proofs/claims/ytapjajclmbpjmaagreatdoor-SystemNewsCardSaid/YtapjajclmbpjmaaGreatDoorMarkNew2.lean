/- marker.New: do all roots lead to objects? The roots' first part is opened. -/
import Derived.Test.YtapjajclmbpjmaaGreatDoorMarkNew
set_option linter.unusedSimpArgs false
namespace Go.Proofs.YtapjajclmbpjmaaGreatDoor.Sys
open Go.RowKit Go.Proofs.YtapjajclmbpjmaaGreatDoor.Mem Go.Proofs.YtapjajclmbpjmaaGreatDoor.Heap Go.Proofs.YtapjajclmbpjmaaGreatDoor.Obj

/-- No root of some leads to what is no object. -/
def allLead (os : List Ob) (l : List Int) : Bool := l.all fun x => leads os x
theorem astray1_any (w : World) (xb h wb sb n : Nat) (os : List Ob) (rest : List Int) (H : HeapAt w h wb sb n os rest) (hx : w.cell? ⟨xb, 0, none⟩ = some (.pointer (some ⟨h, 0, none⟩))) (x : Int) (h64 : -9223372036854775808 ≤ x ∧ x ≤ 9223372036854775807) :
    Calls Tryz.prog 48 #[.int .i64 x, .pointer (some ⟨xb, 0, none⟩)] w fun e w' => e = .returned (.bool (!leads os x)) ∧ Upd (fun _ => False) w w' := by
  have HL := Lib.hid (mleads_any w h wb sb n os rest H x h64)
  clear H
  go_enter Tryz.func48, Tryz.ntmps48
  go_wp2_with fail
  refine (HL.out).mono ?_
  rintro e w1 ⟨rfl, hu⟩
  have HU := Lib.hid hu
  clear hu
  go_wp2
  go_ret
  exact ⟨rfl, HU.out⟩
theorem keepC {w w' : World} (h : Upd (fun _ => False) w w') {b : Nat} {o : Nat} {x : Value} (hc : w.cell? ⟨b, o, none⟩ = some x) : w'.cell? ⟨b, o, none⟩ = some x := by
  have hb := World.block_lt_of_cell? w _ hc
  rw [World.cell?, h.block b hb (fun x => x)]
  exact hc
set_option maxRecDepth 20000 in
set_option maxHeartbeats 2000000 in
theorem index_leads (w : World) (xb h wb sb n : Nat) (os : List Ob) (rest : List Int) (H : HeapAt w h wb sb n os rest) (hx : w.cell? ⟨xb, 0, none⟩ = some (.pointer (some ⟨h, 0, none⟩))) (p : Option Addr) (c : Nat) (l : List Int) (hs : SrcAt w p (ints l)) (hll : l.length ≤ 65536) (h64 : ∀ x ∈ l, -9223372036854775808 ≤ x ∧ x ≤ 9223372036854775807) :
    Calls Tryz.prog 67 #[.slice p l.length c, .func (.func 48) #[] #[.pointer (some ⟨xb, 0, none⟩)]] w fun e w' => (∃ i : Int, e = .returned (.int .i64 i) ∧ decide (0 ≤ i) = !allLead os l) ∧ Upd (fun _ => False) w w' := by
  have HH := Lib.hid H
  have HS := Lib.hid hs
  have HX := Lib.hid h64
  have HB := Lib.hid hx
  clear H hs h64 hx
  go_enter Tryz.func67, Tryz.ntmps67
  go_wp2
  go_loopw [8] (fun i wr => ∃ k : Nat, k ≤ l.length ∧ i = .int .i64 (k : Int) ∧ allLead os (l.take k) = true ∧ Upd (fun _ => False) w wr) (fun i _ => l.length - (intOf i).toNat)
  case atStart => exact ⟨0, Nat.zero_le _, rfl, rfl, Upd.refl _ _⟩
  case round =>
    obtain ⟨k, hk, rfl, hal, hU⟩ := hrel
    have HU := Lib.hid hU
    have HAl := Lib.hid hal
    clear hal
    by_cases hlk : k < l.length
    · obtain ⟨x, hxk⟩ : ∃ x, l[k]? = some x := ⟨_, List.getElem?_eq_getElem hlk⟩
      obtain ⟨ad, hp, hcx⟩ := HS.out.quiet hU k (.int .i64 x) (by rw [ints, List.getElem?_map, hxk]; rfl)
      obtain ⟨b, o, m⟩ := ad
      subst hp
      have ha := astray1_any wr xb h wb sb n os rest (HH.out.quiet hU) (keepC hU HB.out) x (HX.out x (List.mem_of_getElem? hxk))
      obtain ⟨y, hy⟩ : ∃ y, leads os x = y := ⟨_, rfl⟩
      rw [hy] at ha
      have HA := Lib.hid ha
      have d1 : decide ((k : Int) < (l.length : Int)) = true := decide_eq_true (by omega)
      have d1' : decide (k < l.length) = true := decide_eq_true hlk
      have i1 : (0 : Int) ≤ (k : Int) := by omega
      have i2 : (k : Int) < (l.length : Int) := by omega
      have HY := Lib.hid hy
      have HXk := Lib.hid hxk
      clear ha hU hxk hy
      go_wp2_with fail
      refine (HA.out).mono ?_
      rintro e w2 ⟨rfl, hu2⟩
      have HU2 := Lib.hid (HU.out.trans hu2)
      clear hu2 hcx
      cases y
      · go_wp2
        go_ret
        refine ⟨⟨(k : Int), rfl, ?_⟩, HU2.out⟩
        have hf : allLead os l = false := by
          unfold allLead
          rw [List.all_eq_false]
          exact ⟨x, List.mem_of_getElem? HXk.out, by rw [HY.out]; decide⟩
        rw [hf, decide_eq_true i1]
        rfl
      · go_wp2
        go_roundw
        case rel =>
          refine ⟨k + 1, by omega, by go_num, ?_, HU2.out⟩
          have h1 := HAl.out
          unfold allLead at h1 ⊢
          rw [List.take_add_one, HXk.out, Option.toList_some, List.all_append, h1, List.all_cons, HY.out]
          rfl
        case measure => simp [intOf]; omega
    · obtain rfl : k = l.length := by omega
      clear hU
      go_wp2
      go_ret
      refine ⟨⟨-1, rfl, ?_⟩, HU.out⟩
      have h1 := HAl.out
      rw [List.take_length] at h1
      rw [h1]
      rfl
theorem contains_leads (w : World) (xb h wb sb n : Nat) (os : List Ob) (rest : List Int) (H : HeapAt w h wb sb n os rest) (hx : w.cell? ⟨xb, 0, none⟩ = some (.pointer (some ⟨h, 0, none⟩))) (p : Option Addr) (c : Nat) (l : List Int) (hs : SrcAt w p (ints l)) (hll : l.length ≤ 65536) (h64 : ∀ x ∈ l, -9223372036854775808 ≤ x ∧ x ≤ 9223372036854775807) :
    Calls Tryz.prog 43 #[.slice p l.length c, .func (.func 48) #[] #[.pointer (some ⟨xb, 0, none⟩)]] w fun e w' => e = .returned (.bool (!allLead os l)) ∧ Upd (fun _ => False) w w' := by
  have HI := Lib.hid (index_leads w xb h wb sb n os rest H hx p c l hs hll h64)
  clear H hs h64 hx
  go_enter Tryz.func43, Tryz.ntmps43
  go_wp2_with fail
  refine (HI.out).mono ?_
  rintro e w1 ⟨⟨i, rfl, hi⟩, hu⟩
  have HU := Lib.hid hu
  clear hu
  go_wp2
  go_ret
  exact ⟨rfl, HU.out⟩

/-! ### A store into fresh cells -/
theorem infoTouch : (Tryz.prog.info? 201).map (fun i => (i.zero, i.size, i.bytes)) = some (some (.agg #[.int .i64 0, .int .i64 0, .int .i64 0, .int .i64 0, .int .i64 0]), 5, 40) := by kernel_rfl
theorem store1_any (w : World) (xb : Nat) (x y : Int) (hx : w.cell? ⟨xb, 0, none⟩ = some (.int .i64 x)) :
    Calls Tryz.prog 94 #[.int .i64 y, .pointer (some ⟨xb, 0, none⟩)] w fun e w' => e = .returned (.tuple #[.int .i64 x, .bool true]) ∧ w' = w := by
  go_enter Tryz.func94, Tryz.ntmps94
  go_wp2
  go_ret2
  exact ⟨rfl, rfl⟩
end Go.Proofs.YtapjajclmbpjmaaGreatDoor.Sys
