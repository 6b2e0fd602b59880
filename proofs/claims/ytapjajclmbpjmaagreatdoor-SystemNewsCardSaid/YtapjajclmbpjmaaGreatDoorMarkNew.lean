/- marker.New: its parts: what roots lead to; copies of roots; numbers in their ranges. alloc.New. -/
import Derived.Test.YtapjajclmbpjmaaGreatDoorAllocNew
import Derived.Test.YtapjajclmbpjmaaGreatDoorCheck2
import Derived.Lib.SliceRun
set_option linter.unusedSimpArgs false
namespace Go.Proofs.YtapjajclmbpjmaaGreatDoor.Sys
open Go.RowKit Go.Proofs.YtapjajclmbpjmaaGreatDoor.Mem Go.Proofs.YtapjajclmbpjmaaGreatDoor.Heap Go.Proofs.YtapjajclmbpjmaaGreatDoor.Obj

theorem mleads_zero (w : World) (hb : Value) : Calls Tryz.prog 49 #[hb, .int .i64 0] w fun e w' => e = .returned (.bool true) ∧ Upd (fun _ => False) w w' := by
  go_enter Tryz.func49, Tryz.ntmps49
  go_wp2
  go_ret
  exact ⟨rfl, Upd.refl _ _⟩

set_option maxHeartbeats 1000000 in
theorem mleads_any (w : World) (h wb sb n : Nat) (os : List Ob) (rest : List Int) (H : HeapAt w h wb sb n os rest) (x : Int) (hx : -9223372036854775808 ≤ x ∧ x ≤ 9223372036854775807) :
    Calls Tryz.prog 49 #[.pointer (some ⟨h, 0, none⟩), .int .i64 x] w fun e w' => e = .returned (.bool (leads os x)) ∧ Upd (fun _ => False) w w' := by
  by_cases h0 : x = 0
  · subst h0
    exact mleads_zero w _
  · have d0 : (x == 0) = false := by rw [beq_eq_false_iff_ne]; exact h0
    have hl := leads_look os x h0
    have hs := H.size
    have hhi := H.hi
    obtain ⟨y, hy, hyl⟩ : ∃ y, IntKind.i64.wrap (x - 1) = y ∧ lookAt os (x - 1) = lookAt os y := by
      by_cases hm : x = -9223372036854775808
      · subst hm
        refine ⟨9223372036854775807, by decide, ?_⟩
        rw [lookAt_max (by omega)]
        unfold lookAt
        rw [if_pos (by decide)]
      · exact ⟨x - 1, IntWalk.i64_in _ (by omega), rfl⟩
    rw [hyl] at hl
    have HL := Lib.hid hl
    have HH := Lib.hid H
    clear hl hyl H hs
    cases ho : lookAt os y with
    | none =>
      have hl2 := HL.out
      rw [ho] at hl2
      have HHd := Lib.hid (head_no w h wb sb n os rest HH.out y ho)
      have HL2 := Lib.hid hl2
      clear ho hl2
      go_enter Tryz.func49, Tryz.ntmps49
      go_wp2_with fail
      refine (HHd.out).mono ?_
      rintro e w1 ⟨rfl, hu1⟩
      have HU := Lib.hid (hu1.alloc (.cells #[.int .i64 0, .int .i64 0, .int .i64 0] 136))
      clear hu1
      go_wp2
      go_ret
      exact ⟨ret_bool HL2.out.symm, HU.out⟩
    | some o =>
      obtain ⟨a, rfl, hf⟩ := lookAt_some ho
      have hl2 := HL.out
      rw [ho] at hl2
      have HHd := Lib.hid (head_yes w h wb sb n os rest HH.out a o hf)
      have HL2 := Lib.hid hl2
      clear ho hl2 hf
      by_cases hk : o.kind = 15
      · have dk : ((o.kind : Int) != 15) = false := by rw [bne_eq_false_iff_eq]; omega
        have hfin : leads os x = false := by rw [HL2.out]; exact decide_eq_false (by omega)
        have Hfin := Lib.hid hfin
        clear hk hfin
        go_enter Tryz.func49, Tryz.ntmps49
        go_wp2_with fail
        refine (HHd.out).mono ?_
        rintro e w1 ⟨rfl, hu1⟩
        have HU := Lib.hid (hu1.alloc (.cells #[.int .i64 (o.kind : Int), .int .i64 (o.len : Int), .int .i64 (o.ptrs : Int)] 136))
        clear hu1
        go_wp2
        go_ret
        exact ⟨ret_bool Hfin.out.symm, HU.out⟩
      · have dk : ((o.kind : Int) != 15) = true := by rw [bne_iff_ne]; omega
        have hfin : leads os x = true := by rw [HL2.out]; exact decide_eq_true hk
        have Hfin := Lib.hid hfin
        clear hk hfin
        go_enter Tryz.func49, Tryz.ntmps49
        go_wp2_with fail
        refine (HHd.out).mono ?_
        rintro e w1 ⟨rfl, hu1⟩
        have HU := Lib.hid (hu1.alloc (.cells #[.int .i64 (o.kind : Int), .int .i64 (o.len : Int), .int .i64 (o.ptrs : Int)] 136))
        clear hu1
        go_wp2
        go_ret
        exact ⟨ret_bool Hfin.out.symm, HU.out⟩


/-- May a marking's numbers be? -/
def fitsB (n r c : Int) : Bool := decide (1 ≤ n ∧ n ≤ 64 ∧ 2 ≤ r ∧ r ≤ 1024 ∧ 1 ≤ c ∧ c ≤ 4095)
theorem fits_any (n r c : Int) (w : World) : Calls Tryz.prog 46 #[.int .i64 n, .int .i64 r, .int .i64 c] w fun e w' => e = .returned (.bool (fitsB n r c)) ∧ w' = w := by
  by_cases h1 : 1 ≤ n
  · have d1 : decide ((1 : Int) ≤ n) = true := decide_eq_true h1
    by_cases h2 : n ≤ 64
    · have d2 : decide (n ≤ (64 : Int)) = true := decide_eq_true h2
      by_cases h3 : 2 ≤ r
      · have d3 : decide ((2 : Int) ≤ r) = true := decide_eq_true h3
        by_cases h4 : r ≤ 1024
        · have d4 : decide (r ≤ (1024 : Int)) = true := decide_eq_true h4
          by_cases h5 : 1 ≤ c
          · have d5 : decide ((1 : Int) ≤ c) = true := decide_eq_true h5
            obtain ⟨b, hb⟩ : ∃ b, decide (c ≤ (4095 : Int)) = b := ⟨_, rfl⟩
            have HF := Lib.hid (show fitsB n r c = b by rw [← hb]; unfold fitsB; exact decide_eq_decide.2 ⟨fun h => h.2.2.2.2.2, fun h => ⟨h1, h2, h3, h4, h5, h⟩⟩)
            clear h1 h2 h3 h4 h5
            go_enter Tryz.func46, Tryz.ntmps46
            go_wp2
            go_ret
            exact ⟨by rw [HF.out]; rfl, rfl⟩
          · have d5 : decide ((1 : Int) ≤ c) = false := decide_eq_false h5
            have HF := Lib.hid (show fitsB n r c = false from decide_eq_false (fun h => h5 h.2.2.2.2.1))
            clear h1 h2 h3 h4 h5
            go_enter Tryz.func46, Tryz.ntmps46
            go_wp2
            go_ret
            exact ⟨by rw [HF.out]; rfl, rfl⟩
        · have d4 : decide (r ≤ (1024 : Int)) = false := decide_eq_false h4
          have HF := Lib.hid (show fitsB n r c = false from decide_eq_false (fun h => h4 h.2.2.2.1))
          clear h1 h2 h3 h4
          go_enter Tryz.func46, Tryz.ntmps46
          go_wp2
          go_ret
          exact ⟨by rw [HF.out]; rfl, rfl⟩
      · have d3 : decide ((2 : Int) ≤ r) = false := decide_eq_false h3
        have HF := Lib.hid (show fitsB n r c = false from decide_eq_false (fun h => h3 h.2.2.1))
        clear h1 h2 h3
        go_enter Tryz.func46, Tryz.ntmps46
        go_wp2
        go_ret
        exact ⟨by rw [HF.out]; rfl, rfl⟩
    · have d2 : decide (n ≤ (64 : Int)) = false := decide_eq_false h2
      have HF := Lib.hid (show fitsB n r c = false from decide_eq_false (fun h => h2 h.2.1))
      clear h1 h2
      go_enter Tryz.func46, Tryz.ntmps46
      go_wp2
      go_ret
      exact ⟨by rw [HF.out]; rfl, rfl⟩
  · have d1 : decide ((1 : Int) ≤ n) = false := decide_eq_false h1
    have HF := Lib.hid (show fitsB n r c = false from decide_eq_false (fun h => h1 h.1))
    clear h1
    go_enter Tryz.func46, Tryz.ntmps46
    go_wp2
    go_ret
    exact ⟨by rw [HF.out]; rfl, rfl⟩

set_option maxRecDepth 20000 in
/-- A copy of some numbers. -/
theorem clone_any (w : World) (p : Option Addr) (c : Nat) (l : List Int) (hs : SrcAt w p (ints l)) (hp : p = none → c = 0) (hl : l.length ≤ 65536) :
    Calls Tryz.prog 16 #[.slice p l.length c] w fun e w' => (∃ q d, e = .returned (.slice q l.length d) ∧ w'.ownsRow w.heap.size 3 1 (.slice q l.length d) l.length (ints l)) ∧ Upd (fun _ => False) w w' := by
  obtain ⟨i0, hi0, hz0, hz1, hz2⟩ := info_parts infoInt
  have HS := Lib.hid hs
  cases p with
  | none =>
    have hln : l = [] := by
      cases l with
      | nil => rfl
      | cons x l => obtain ⟨ad, e, _⟩ := hs 0 (.int .i64 x) rfl; cases e
    obtain rfl := hp rfl
    subst hln
    have hnil := fun (W : World) => Lib.run_eql_slice_nil (P := Tryz.prog) W 47 3 none 0 0 0 0 Tryz.underlying47
    go_enter Tryz.func16, Tryz.ntmps16
    go_wp2_with fail
    go_ret
    exact ⟨⟨none, 0, rfl, ⟨rfl, .inl ⟨rfl, rfl⟩⟩⟩, Upd.refl _ _⟩
  | some a =>
    clear hs hp
    have hnil := fun (W : World) => Lib.run_eql_slice_nil (P := Tryz.prog) W 47 3 (some a) l.length c 0 0 Tryz.underlying47
    go_enter Tryz.func16, Tryz.ntmps16
    go_wp2_with (first | (at_builtin; refine wpList_app _ rfl _ _ 47 rfl w.heap.size 3 i0 _ 1 8 Tryz.underlying47 hi0 hz0 hz1 hz2 rfl (by decide) _ 0 [] rfl (own_empty w 3 1 w.heap.size (Nat.le_refl _)) (some a) l.length c (ints l) rfl ?c1 ?c2 ?c3 ?c4 ?c5 ?c6 ?_))
    case c1 => simp [ints]
    case c2 => exact HS.out.quiet ((Upd.refl _ w).alloc _)
    case c3 => intro u hu; obtain ⟨x, _, rfl⟩ := List.mem_map.1 hu; rfl
    case c4 => simp only [maxLen]; omega
    case c5 => omega
    case c6 => simp only [World.size_alloc]; omega
    intro v5 w5 hO5 hg5 hat5
    obtain ⟨a5, c5, rfl⟩ := own_form hO5
    have hu5 : Upd (fun _ => False) w w5 := ((Upd.refl _ w).alloc _).grown hg5 (fun k hk hlt => by injection hk with hk; have hk' : w.heap.size = k := hk; omega)
    have HO5 := Lib.hid hO5
    have HU5 := Lib.hid hu5
    clear hO5 hu5 hg5 hat5
    go_wp2_with fail
    go_ret
    exact ⟨⟨a5, c5, rfl, HO5.out⟩, HU5.out⟩
end Go.Proofs.YtapjajclmbpjmaaGreatDoor.Sys
