/- The law GraphRaw: words read as a heap, and its form, by the program and by the document. -/
import Derived.Test.YtlphlaenecidiaaRefOf
import Derived.Test.YtlphlaenecidiaaRef4
import Derived.Test.YtlphlaenecidiaaAwake16
import Derived.Test.YtlphlaenecidiaaIs
import Derived.Test.YtlphlaenecidiaaForm2
namespace Go.Proofs.Ytlphlaenecidiaa.Raw
open Go.RowKit Go.Proofs.Ytlphlaenecidiaa.Mem Go.Proofs.Ytlphlaenecidiaa.Obj Go.Proofs.Ytlphlaenecidiaa.Heap

set_option maxHeartbeats 1000000 in
theorem hof_empty (w : World) (a : Option Addr) (c : Nat) : Calls Try.prog 10 #[.slice a 0 c, .int .i64 0] w fun e w' => e = .returned (.tuple #[.pointer none, .int .i64 1]) ∧ Upd (fun _ => False) w w' := by
  have HN := Lib.hid (new_no 0 w (by omega))
  go_enter Try.func10, Try.ntmps10
  go_wp2_with fail
  refine (HN.out).mono ?_
  rintro e w1 ⟨rfl, rfl⟩
  go_wp2
  go_ret2
  exact ⟨rfl, Upd.refl _ _⟩
set_option maxHeartbeats 1000000 in
theorem rof_empty (w : World) (a : Option Addr) (c : Nat) : Calls Try.prog 11 #[.slice a 0 c, .int .i64 0] w fun e w' => e = .returned (.tuple #[.agg #[.int .i64 0, .slice none 0 0], .int .i64 1]) ∧ Upd (fun _ => False) w w' := by
  have HB := Lib.hid (Blk.made w [.int .i64 0, .slice none 0 0] 30)
  have HU := Lib.hid ((Upd.refl (fun _ => False) w).alloc (.cells #[.int .i64 0, .slice none 0 0] 30))
  go_enter Try.func11, Try.ntmps11
  go_wp2
  refine bodyPost_ret (res_cell_tmp rfl _ _ w.heap.size _ 30 _ _ rfl rfl HB.out Try.underlying30 rfl (by kernel_rfl)) rfl ⟨rfl, HU.out⟩

set_option maxHeartbeats 1000000 in
/-- What is great is not asked. -/
theorem law_great (w : World) (a b : Option Addr) (c d n m : Nat) (h : 100 < n ∨ n ≤ 100 ∧ 20 < m) :
    Calls Try.prog 3 #[.slice a n c, .slice b m d] w fun e w' => e = .returned (.bool true) ∧ Upd (fun _ => False) w w' := by
  rcases h with h | ⟨h, h'⟩
  · have d1 : decide ((100 : Int) < (n : Int)) = true := decide_eq_true (by omega)
    have d1' : decide (100 < n) = true := decide_eq_true h
    go_enter Try.func3, Try.ntmps3
    go_wp2_with fail
    refine (awake16 w).mono ?_
    rintro e w1 ⟨rfl, hu1⟩
    go_wp2_with fail
    refine (awake16 w1).mono ?_
    rintro e w2 ⟨rfl, hu2⟩
    have HU := Lib.hid (hu1.trans hu2)
    clear hu1 hu2
    go_wp2
    go_ret
    exact ⟨rfl, HU.out⟩
  · have d1 : decide ((100 : Int) < (n : Int)) = false := decide_eq_false (by omega)
    have d1' : decide (100 < n) = false := decide_eq_false (by omega)
    have d2 : decide ((20 : Int) < (m : Int)) = true := decide_eq_true (by omega)
    have d2' : decide (20 < m) = true := decide_eq_true h'
    go_enter Try.func3, Try.ntmps3
    go_wp2_with fail
    refine (awake16 w).mono ?_
    rintro e w1 ⟨rfl, hu1⟩
    go_wp2_with fail
    refine (awake16 w1).mono ?_
    rintro e w2 ⟨rfl, hu2⟩
    have HU := Lib.hid (hu1.trans hu2)
    clear hu1 hu2
    go_wp2
    go_ret
    exact ⟨rfl, HU.out⟩

set_option maxHeartbeats 1000000 in
/-- No words. -/
theorem law_none (w : World) (a b : Option Addr) (c d m : Nat) (h : m ≤ 20) :
    Calls Try.prog 3 #[.slice a 0 c, .slice b m d] w fun e w' => e = .returned (.bool true) ∧ Upd (fun _ => False) w w' := by
  have d2 : decide ((20 : Int) < (m : Int)) = false := decide_eq_false (by omega)
  have d2' : decide (20 < m) = false := decide_eq_false (by omega)
  go_enter Try.func3, Try.ntmps3
  go_wp2_with fail
  refine (awake16 w).mono ?_
  rintro e w1 ⟨rfl, hu1⟩
  go_wp2_with fail
  refine (hof_empty w1 a c).mono ?_
  rintro e w2 ⟨rfl, hu2⟩
  go_wp2_with fail
  refine (rof_empty w2 a c).mono ?_
  rintro e w3 ⟨rfl, hu3⟩
  have HU := Lib.hid (((hu1.trans hu2).trans hu3).alloc (.cells #[.int .i64 0, .slice none 0 0] 30))
  clear hu1 hu2 hu3
  go_wp2
  go_ret
  exact ⟨rfl, HU.out⟩

set_option maxHeartbeats 4000000 in
/-- Some words. -/
theorem law_some (w : World) (a b : Option Addr) (c d : Nat) (W R : List Int) (hz : Row.Ints .i64 w a W) (hr : Row.Ints .i64 w b R) (h0 : 1 ≤ W.length) (h1 : W.length ≤ 100) (h2 : R.length ≤ 20) (hcap : W.length ≤ c) :
    Calls Try.prog 3 #[.slice a W.length c, .slice b R.length d] w fun e w' => e = .returned (.bool true) ∧ Upd (fun _ => False) w w' := by
  have d1 : decide ((100 : Int) < (W.length : Int)) = false := decide_eq_false (by omega)
  have d1' : decide (100 < W.length) = false := decide_eq_false (by omega)
  have d2 : decide ((20 : Int) < (R.length : Int)) = false := decide_eq_false (by omega)
  have d2' : decide (20 < R.length) = false := decide_eq_false (by omega)
  have HZ := Lib.hid hz
  have HR := Lib.hid hr
  clear hz hr
  go_enter Try.func3, Try.ntmps3
  go_wp2_with fail
  refine (awake16 w).mono ?_
  rintro e w1 ⟨rfl, hu1⟩
  have hz1 := Ref.ints_below HZ.out (hu1.below (fun _ _ h => h)) rfl
  have HZ1 := Lib.hid hz1
  have HU1 := Lib.hid hu1
  have HHof := Lib.hid (hof_any w1 a c W hz1 (fun x hx => (in64 hz1 x hx).2) W.length (Nat.le_refl _) h0 (by omega))
  rw [List.take_length] at HHof
  clear hz1 hu1
  cases hp : parse W.length [] W with
  | none =>
    rw [hp] at HHof
    go_wp2_with fail
    refine (HHof.out).mono ?_
    rintro e w2 ⟨hu2, rfl⟩
    have hz2 := Ref.ints_below HZ1.out (hu2.below (fun _ _ h => h)) rfl
    have hrof := Ref.rof_any w2 a c W hz2 (fun x hx => (in64 hz2 x hx).2) W.length (Nat.le_refl _) h0 (by omega) hcap
    rw [List.take_length, hp] at hrof
    have HRof := Lib.hid hrof
    have HU2 := Lib.hid (HU1.out.trans hu2)
    clear hz2 hrof hu2 hp
    go_wp2_with fail
    refine (HRof.out).mono ?_
    rintro e w3 ⟨hu3, rfl⟩
    have HU3 := Lib.hid ((HU2.out.trans hu3).alloc (.cells #[.int .i64 0, .slice none 0 0] 30))
    clear hu3
    go_wp2
    go_ret
    exact ⟨rfl, HU3.out⟩
  | some os =>
    rw [hp] at HHof
    have hw64 : ∀ o ∈ os, ∀ x ∈ o.ws, -9223372036854775808 ≤ x ∧ x ≤ 9223372036854775807 := fun o ho x hx => in64 HZ1.out x (parse_words hp ho hx)
    have HW64 := Lib.hid hw64
    have HP := Lib.hid hp
    clear hw64
    go_wp2_with fail
    refine (HHof.out).mono ?_
    rintro e w2 ⟨hu2, h, wb, sb, rfl, hH, hb1, hb2, hb3⟩
    have hz2 := Ref.ints_below HZ1.out (hu2.below (fun _ _ h => h)) rfl
    have hrof := Ref.rof_any w2 a c W hz2 (fun x hx => (in64 hz2 x hx).2) W.length (Nat.le_refl _) h0 (by omega) hcap
    rw [List.take_length, hp] at hrof
    have HRof := Lib.hid hrof
    have HU2 := Lib.hid (HU1.out.trans hu2)
    have HH2 := Lib.hid hH
    clear hz2 hrof hu2 hp hH HHof
    go_wp2_with fail
    refine (HRof.out).mono ?_
    rintro e w3 ⟨hu3, v, rfl, hRef⟩
    obtain ⟨va, vc, rfl⟩ := hRef.form
    have hBx := Blk.made w3 [.int .i64 (W.length : Int), .slice va os.length vc] 30
    have hu3' := hu3.alloc (.cells #[.int .i64 (W.length : Int), .slice va os.length vc] 30)
    have hul := (Upd.refl (fun _ => False) w3).alloc (.cells #[.int .i64 (W.length : Int), .slice va os.length vc] 30)
    have HU3 := Lib.hid (HU2.out.trans hu3')
    have HH3 := Lib.hid (HH2.out.quiet hu3')
    have HRef3 := Lib.hid (hRef.quiet hul)
    have HBx := Lib.hid hBx
    clear hu3 hBx hu3' hRef hul HRof
    go_wp2_with fail
    have hr4 := Ref.ints_below HR.out (HU3.out.below (fun _ _ h => h)) rfl
    have hgof := Graph.of_any _ h wb sb _ os _ HH3.out b d R hr4 (by omega) (in64 hr4) HW64.out
    have HGof := Lib.hid hgof
    clear hr4 hgof
    cases hf : form os R with
    | none =>
      rw [hf] at HGof
      refine (HGof.out).mono ?_
      rintro e w4 ⟨hu4, rfl⟩
      have k0 := (HBx.out.upd hu4 (fun h => h)).cell 0 rfl
      have k1 := (HBx.out.upd hu4 (fun h => h)).cell 1 rfl
      have hl := (HBx.out.upd hu4 (fun h => h)).lt
      have hu5 := hu4.alloc (.cells #[.slice none 0 0, .slice none 0 0] 35)
      have HU5 := Lib.hid (HU3.out.trans hu5)
      have hr5 := Ref.ints_below HR.out (HU5.out.below (fun _ _ h => h)) rfl
      have hof := Ref.of_any _ _ W.length _ os (HRef3.out.quiet hu5) b d R hr5 (by omega) (fun x hx => (in64 hr5 x hx).2) (fun o ho x hx => (HW64.out o ho x hx).2)
      rw [hf] at hof
      have HOf := Lib.hid hof
      clear hu4 hu5 hr5 hof hf HGof
      go_wp2_with fail
      refine (HOf.out).mono ?_
      rintro e w6 ⟨hu6, rfl⟩
      have HFm := Lib.hid ((Blk.made w4 [.slice none 0 0, .slice none 0 0] 35).upd hu6 (fun h => h))
      have f0 := HFm.out.cell 0 rfl
      have f1 := HFm.out.cell 1 rfl
      have fl := HFm.out.lt
      have HU6 := Lib.hid (HU5.out.trans hu6)
      clear hu6 k0 k1
      go_wp2
      go_ret
      exact ⟨rfl, HU6.out⟩
    | some p =>
      obtain ⟨ks, nds⟩ := p
      rw [hf] at HGof
      refine (HGof.out).mono ?_
      rintro e w4 ⟨hu4, gva, gvn, rfl, hF⟩
      obtain ⟨ga, gc, rfl⟩ : ∃ a c, gva = .slice a ks.length c := own_form hF.roots
      obtain ⟨gn, gd, rfl⟩ : ∃ a c, gvn = .slice a nds.length c := by obtain ⟨nv, _, hn, _⟩ := hF.nodes; exact own_form hn
      have k0 := (HBx.out.upd hu4 (fun h => h)).cell 0 rfl
      have k1 := (HBx.out.upd hu4 (fun h => h)).cell 1 rfl
      have hl := (HBx.out.upd hu4 (fun h => h)).lt
      have hua := (Upd.refl (fun _ => False) w4).alloc (.cells #[.slice ga ks.length gc, .slice gn nds.length gd] 35)
      have hF5 := hF.quiet hua
      have HF5 := Lib.hid hF5
      have hu5 := hu4.alloc (.cells #[.slice ga ks.length gc, .slice gn nds.length gd] 35)
      have HU5 := Lib.hid (HU3.out.trans hu5)
      have hr5 := Ref.ints_below HR.out (HU5.out.below (fun _ _ h => h)) rfl
      have hof := Ref.of_any _ _ W.length _ os (HRef3.out.quiet hu5) b d R hr5 (by omega) (fun x hx => (in64 hr5 x hx).2) (fun o ho x hx => (HW64.out o ho x hx).2)
      rw [hf] at hof
      have HOf := Lib.hid hof
      have HFo := Lib.hid hf
      clear hu4 hu5 hr5 hof hf HGof hF hF5 hua
      go_wp2_with fail
      refine (HOf.out).mono ?_
      rintro e w6 ⟨hu6, rva, rvn, rfl, hra, rnv, hnm, hrn, hrw⟩
      have HFm := Lib.hid ((Blk.made w4 [.slice ga ks.length gc, .slice gn nds.length gd] 35).upd hu6 (fun h => h))
      have f0 := HFm.out.cell 0 rfl
      have f1 := HFm.out.cell 1 rfl
      have fl := HFm.out.lt
      have hF6 := HF5.out.quiet hu6
      obtain ⟨gnv, gnm, hgn, hgw⟩ := hF6.nodes
      have HU6 := Lib.hid (HU5.out.trans hu6)
      have hlen := form_size HFo.out HH3.out.good (by have := HH3.out.size; omega) (by omega)
      have his := Ref.is_any w6 _ _ rva rvn ks ks nds nds (Ref.IntsAt.of_own hF6.roots) (Ref.NodesAt.of_own gnm hgn hgw) (Ref.IntsAt.of_own hra) (Ref.NodesAt.of_own hnm hrn hrw) hlen.1 hlen.1 hlen.2.1 hlen.2.2 hlen.2.2
      rw [show decide (ks = ks ∧ nds = nds) = true by simp] at his
      have HIs := Lib.hid his
      clear hu6 k0 k1 hF6 hgn hgw hra hrn hrw his hlen hnm gnm
      go_wp2_with fail
      refine (HIs.out).mono ?_
      rintro e w7 ⟨rfl, hu7⟩
      have HU7 := Lib.hid (HU6.out.trans hu7)
      clear hu7 f0 f1
      go_wp2
      go_ret
      exact ⟨rfl, HU7.out⟩

theorem law_yes (a b : Option Addr) (c d : Nat) (W R : List Int) (w : World) (hz : Row.Ints .i64 w a W) (hr : Row.Ints .i64 w b R) (hcap : W.length ≤ c) :
    Calls Try.prog 3 #[.slice a W.length c, .slice b R.length d] w fun e w' => e = .returned (.bool true) ∧ Below w.heap.size w w' := by
  have key : Calls Try.prog 3 #[.slice a W.length c, .slice b R.length d] w fun e w' => e = .returned (.bool true) ∧ Upd (fun _ => False) w w' := by
    by_cases h : 100 < W.length ∨ W.length ≤ 100 ∧ 20 < R.length
    · exact law_great w a b c d _ _ h
    · by_cases h0 : W.length = 0
      · rw [h0]; exact law_none w a b c d _ (by omega)
      · exact law_some w a b c d W R hz hr (by omega) (by omega) (by omega) hcap
  exact key.mono fun e w' h => ⟨h.1, h.2.below (fun _ _ h => h)⟩
end Go.Proofs.Ytlphlaenecidiaa.Raw
