/- besomref11.Reach: what is reached. -/
import Derived.Test.YtlphlaenecidiaaReachP
import Derived.Test.YtlphlaenecidiaaRef4
import Derived.Test.YtlphlaenecidiaaRefOf
import Derived.Test.YtlphlaenecidiaaHeap4
import Derived.Deep.RegionHeld3
import Derived.Deep.LoopGhost
namespace Go.Proofs.Ytlphlaenecidiaa.Ref
open Go.RowKit Go.Proofs.Ytlphlaenecidiaa.Mem Go.Proofs.Ytlphlaenecidiaa.Obj Go.Proofs.Ytlphlaenecidiaa.Heap

theorem lead_ix {os : List Ob} {x : Int} (h : leads os x = true) (h0 : 0 < x) : ∃ i, ixOf os x = some i ∧ i < os.length ∧ idxOf os (x - 1) = (i : Int) := by
  rw [leads_idx os x h0] at h
  unfold ixOf
  cases hi : findIdx 0 os (x - 1).toNat with
  | none => rw [hi] at h; cases h
  | some i =>
    obtain ⟨o, ho, _⟩ := findIdx_some hi
    refine ⟨i, rfl, (List.getElem?_eq_some_iff.1 ho).1, ?_⟩
    unfold idxOf
    rw [if_neg (by omega), hi]
theorem blk_bool {w : World} {b : Nat} {out : List Bool} {t : TypeId} (h : Blk w b (bools out) t) {i : Nat} {v : Bool} (hv : out[i]? = some v) : w.cell? ⟨b, i, none⟩ = some (.bool v) := h.cell i (by simp [bools, hv])
theorem bools_set (out : List Bool) (i : Nat) (v : Bool) : (bools out).set i (.bool v) = bools (out.set i v) := by simp [bools, List.map_set]
theorem bools_len (out : List Bool) : (bools out).length = out.length := by simp [bools]

theorem closed_all {os : List Ob} {rs : List Int} {out : List Bool} (h : MInv os rs out) (hc : ∀ j, j < os.length → closedAt os out j) (i : Nat) : closedAt os out i := fun hi => hc i (by have := (List.getElem?_eq_some_iff.1 hi).1; rwa [h.len] at this) hi
/-- What Reach answers. -/
def ReachEnd (w : World) (os : List Ob) (rs : List Int) (e : Ending) (w' : World) : Prop :=
  ∃ (ob : Nat) (out : List Bool), e = .returned (.slice (some ⟨ob, 0, none⟩) os.length os.length) ∧ Blk w' ob (bools out) 4 ∧ out.length = os.length ∧ (∀ i, out[i]? = some true ↔ Rch os rs i) ∧ Upd (fun _ => False) w w' ∧ w.heap.size ≤ ob
/-- What stands in the loops. -/
structure RLoop (w : World) (size : Nat) (v : Value) (os : List Ob) (rs : List Int) (ob : Nat) (out : List Bool) (wr : World) : Prop where
  marks : Blk wr ob (bools out) 4
  box : Blk wr w.heap.size [.int .i64 (size : Int), v] 30
  upd : Upd (fun _ => False) w wr
  inv : MInv os rs out
  lo : w.heap.size < ob
theorem RLoop.quiet {w wr w' : World} {size ob : Nat} {v : Value} {os : List Ob} {rs : List Int} {out : List Bool} (s : RLoop w size v os rs ob out wr) (u : Upd (fun _ => False) wr w') : RLoop w size v os rs ob out w' :=
  ⟨s.marks.upd u (fun h => h), s.box.upd u (fun h => h), s.upd.trans u, s.inv, s.lo⟩
theorem RLoop.set {w wr : World} {size ob : Nat} {v : Value} {os : List Ob} {rs : List Int} {out : List Bool} (s : RLoop w size v os rs ob out wr) {i : Nat} (hr : Rch os rs i) : RLoop w size v os rs ob (out.set i true) (wr.setCell ⟨ob, i, none⟩ (.bool true)) := by
  have hlo := s.lo
  refine ⟨?_, s.box.setOther _ (by simp only; omega), s.upd.setCell _ (fun h => by simp only at h; omega), s.inv.set hr, s.lo⟩
  rw [← bools_set]
  exact s.marks.set i _
theorem keep3o {w : World} {c o : Nat} {u x y z : Value} {p q r : Addr} (h1 : p.block ≠ c) (h2 : q.block ≠ c) (h3 : r.block ≠ c) (hs : w.cell? p = some x ∧ w.cell? q = some y ∧ w.cell? r = some z) :
    (w.setCell ⟨c, o, none⟩ u).cell? p = some x ∧ (w.setCell ⟨c, o, none⟩ u).cell? q = some y ∧ (w.setCell ⟨c, o, none⟩ u).cell? r = some z := by
  have e := ((Upd.refl (fun k => k = c) w).setCell (p := ⟨c, o, none⟩) u (fun _ => rfl))
  have one : ∀ {p : Addr} {x : Value}, p.block ≠ c → w.cell? p = some x → (w.setCell ⟨c, o, none⟩ u).cell? p = some x := fun {p x} hn hc => by
    rw [World.cell?, e.block p.block (World.block_lt_of_cell? w _ hc) hn]
    exact hc
  exact ⟨one h1 hs.1, one h2 hs.2.1, one h3 hs.2.2⟩

set_option maxRecDepth 20000 in
set_option maxHeartbeats 8000000 in
theorem reach_any (w : World) (base size : Nat) (v : Value) (os : List Ob) (R : RefAt w base v os) (a : Option Addr) (cap : Nat) (rs : List Int) (hz : Row.Ints .i64 w a rs) (hx64 : ∀ x ∈ rs, -9223372036854775808 ≤ x ∧ x ≤ 9223372036854775807) (hw64 : ∀ o ∈ os, ∀ x ∈ o.ws, -9223372036854775808 ≤ x ∧ x ≤ 9223372036854775807)
    (hlr : ∀ x ∈ rs, leads os x = true) (hlp : ∀ o ∈ os, ∀ x ∈ o.ws.take o.ptrs, leads os x = true) (hrl : rs.length ≤ 1000000) :
    Calls Try.prog 17 #[hv size v, .slice a rs.length cap] w (ReachEnd w os rs) := by
  obtain ⟨va, vc, rfl⟩ := R.form
  have hol := R.few
  have hmk := run_make_row' (P := Try.prog) 50 4 (.bool false) 1 Try.underlying50 infoBool rfl .i64 .i64 os.length (by omega) (by omega)
  rw [madeCells_one, show List.replicate os.length (Value.bool false) = bools (List.replicate os.length false) by simp [bools]] at hmk
  obtain ⟨cs0, hcs0⟩ : ∃ cs, cs = bools (List.replicate os.length false) := ⟨_, rfl⟩
  rw [← hcs0] at hmk
  have hbx := Blk.made w [.int .i64 (size : Int), .slice va os.length vc] 30
  have hu := ((Upd.refl (fun _ => False) w).alloc (.cells #[.int .i64 (size : Int), .slice va os.length vc] 30)).alloc (.cells cs0.toArray 4)
  have hinv : MInv os rs (List.replicate os.length false) := ⟨by simp, fun i hi => by rw [List.getElem?_replicate] at hi; split at hi <;> cases hi⟩
  have hst0 : RLoop w size (.slice va os.length vc) os rs (w.heap.size + 1) (List.replicate os.length false) ((w.alloc (.cells #[.int .i64 (size : Int), .slice va os.length vc] 30)).alloc (.cells cs0.toArray 4)) :=
    ⟨by rw [← hcs0]; exact Blk.made' w _ cs0 _, hbx.alloc _, hu, hinv, Nat.lt_succ_self _⟩
  have HS0 := Lib.hid hst0
  have HR := Lib.hid R
  have HZ := Lib.hid hz
  have HX := Lib.hid hx64
  have HW := Lib.hid hw64
  have HLr := Lib.hid hlr
  have HLp := Lib.hid hlp
  clear hbx hu hinv hst0 hcs0 R hz hx64 hw64 hlr hlp
  go_enter Try.func17, Try.ntmps17
  go_wp2
  go_loopw [17] (fun i wr => ∃ (k : Nat) (out : List Bool), k ≤ rs.length ∧ i = .int .i64 (k : Int) ∧ RLoop w size (.slice va os.length vc) os rs (w.heap.size + 1) out wr ∧ ∀ x ∈ rs.take k, Marked os out x) (fun i _ => rs.length - (intOf i).toNat)
  case atStart => exact ⟨0, _, Nat.zero_le _, rfl, HS0.out, fun x hx => by simp at hx⟩
  case round =>
    clear HS0
    obtain ⟨k, out, hk, rfl, hS, hM⟩ := hrel
    have HS := Lib.hid hS
    have HM := Lib.hid hM
    have b0 := hS.box.cell 0 rfl
    have b1 := hS.box.cell 1 rfl
    have bl := hS.box.lt
    by_cases hlk : k < rs.length
    · obtain ⟨x, hx⟩ : ∃ x, rs[k]? = some x := ⟨_, List.getElem?_eq_getElem hlk⟩
      obtain ⟨bz, off, rfl, hc0, hbz0⟩ := HZ.out.cell k x hx
      have hc := keepC' hS.upd hc0
      have hbz : bz < wr.heap.size := Nat.lt_of_lt_of_le hbz0 hS.upd.size
      have d1 : decide ((k : Int) < (rs.length : Int)) = true := decide_eq_true (by omega)
      have d1' : decide (k < rs.length) = true := decide_eq_true hlk
      have i1 : (0 : Int) ≤ (k : Int) := by omega
      have i2 : (k : Int) < (rs.length : Int) := by omega
      have hxm := List.mem_of_getElem? hx
      have hxb := HX.out x hxm
      have hld := HLr.out x hxm
      have hts : rs.take (k + 1) = rs.take k ++ [x] := by rw [List.take_add_one, hx]; rfl
      have HTs := Lib.hid hts
      have HXm := Lib.hid hxm
      by_cases hx0 : 0 < x
      · obtain ⟨ix, hix, hixl, hio⟩ := lead_ix hld hx0
        have d2 : decide (0 < x) = true := decide_eq_true hx0
        have hfi := fun W (hu : Upd (fun _ => False) wr W) => (find_any W base size _ os ((HR.out.quiet hS.upd).quiet hu) (x - 1)).mono fun e w' h => (⟨h.1, h.2, hu⟩ : _ ∧ Upd (fun _ => False) W w' ∧ Upd (fun _ => False) wr W)
        rw [hio] at hfi
        have HFi := Lib.hid hfi
        have m1 : IntKind.i64.wrap (x - 1) = x - 1 := IntWalk.i64_in _ (by omega)
        have hrch : Rch os rs ix := .root hxm hx0 hix
        obtain ⟨bo, hbo⟩ : ∃ b, out[ix]? = some b := ⟨_, List.getElem?_eq_getElem (by rw [hS.inv.len]; exact hixl)⟩
        have HBo := Lib.hid hbo
        have hixo : ix < out.length := (List.getElem?_eq_some_iff.1 hbo).1
        have HRch := Lib.hid hrch
        have HIx := Lib.hid hix
        have j1 : (0 : Int) ≤ (ix : Int) := by omega
        have j2 : (ix : Int) < (os.length : Int) := by omega
        have n1 : w.heap.size ≠ w.heap.size + 1 := by omega
        have n2 : bz ≠ w.heap.size + 1 := by omega
        clear hS hM hx hxm hld hts hix hio hfi hrch hxb hbo
        go_wp2
        go_region_held3 (fun V => V.cell? ⟨w.heap.size, 0, none⟩ = some (.int .i64 (size : Int)) ∧ V.cell? ⟨w.heap.size, 1, none⟩ = some (.slice va os.length vc) ∧ V.cell? ⟨bz, off + k, none⟩ = some (.int .i64 x))
          (with_reducible first | exact keep3' (Upd.refl _ _).drew ⟨b0, b1, hc⟩ | exact t3 | exact keep3o n1 n1 n2 t3)
          (first | (go_at_call 31; refine (HFi.out _ ((Upd.refl _ _).drew)).mono ?_; rintro e w2 ⟨rfl, hu, hW⟩; have hcum := hW.trans hu; have t3 := keep3' hcum ⟨b0, b1, hc⟩; have hs2 := HS.out.quiet hcum; have y0 := blk_bool hs2.marks HBo.out; have yf := hs2.marks.frozen ix; have yl := hs2.marks.lt; have HS2 := Lib.hid hs2; clear hcum hu hW hs2))
        have HS3 := Lib.hid (HS2.out.set (i := ix) HRch.out)
        clear t3 y0 yf yl b0 b1 bl hc
        go_wp2
        go_roundw
        case rel =>
          refine ⟨k + 1, out.set ix true, by omega, by go_num, HS3.out, fun y hy => ?_⟩
          rw [HTs.out] at hy
          rcases List.mem_append.1 hy with hy | hy
          · exact (HM.out y hy).set _
          · rw [List.mem_singleton] at hy
            subst hy
            exact Marked.here HIx.out hixo
        case measure => simp [intOf]; omega
      · have d2 : decide (0 < x) = false := decide_eq_false hx0
        clear hS hM hx hxm hld hts hxb
        go_wp2
        go_roundw
        case rel =>
          refine ⟨k + 1, out, by omega, by go_num, HS.out, fun y hy => ?_⟩
          rw [HTs.out] at hy
          rcases List.mem_append.1 hy with hy | hy
          · exact HM.out y hy
          · rw [List.mem_singleton] at hy
            subst hy
            exact fun h => absurd h hx0
        case measure => simp [intOf]; omega
    · have hke : k = rs.length := by omega
      subst hke
      rw [List.take_length] at hM
      have HM2 := Lib.hid hM
      clear hS hM HM
      go_wp2
      clear b0 b1 bl
      obtain ⟨wi, rfl⟩ : ∃ wi, wi = wr := ⟨_, rfl⟩
      go_loopg [7] (2 * unset out + 1) (fun g more wr => ∃ (o2 : List Bool) (m : Bool), more = .bool m ∧ RLoop w size (.slice va os.length vc) os rs (w.heap.size + 1) o2 wr ∧ (∀ x ∈ rs, Marked os o2 x) ∧ (m = false → ∀ i, closedAt os o2 i) ∧ 2 * unset o2 + (if m then 1 else 0) ≤ g)
      case atStart => exact ⟨out, true, rfl, HS.out, HM2.out, (fun h => by cases h), Nat.le_refl _⟩
      case round =>
        clear HS HM2
        obtain ⟨o0, m, rfl, hS, hM, hcl, hg⟩ := hrel
        have HS := Lib.hid hS
        have HM := Lib.hid hM
        have b0 := hS.box.cell 0 rfl
        have b1 := hS.box.cell 1 rfl
        have bl := hS.box.lt
        cases m with
        | false =>
          have HC := Lib.hid (hcl rfl)
          clear hS hM hcl hg
          go_wp2
          go_ret
          exact ⟨w.heap.size + 1, o0, rfl, HS.out.marks, HS.out.inv.len, HS.out.inv.full HM.out HC.out, HS.out.upd, Nat.le_succ _⟩
        | true =>
          simp only [if_true] at hg
          have HG := Lib.hid hg
          have HStart := Lib.hid (show RLoop w size (.slice va os.length vc) os rs (w.heap.size + 1) o0 wr ∧ (∀ x ∈ rs, Marked os o0 x) from ⟨hS, hM⟩)
          clear hS hM hcl hg
          go_wp2
          clear b0 b1 bl
          obtain ⟨wj, rfl⟩ : ∃ wj, wj = wr := ⟨_, rfl⟩
          go_loopw [7, 39] (fun more i wr => ∃ (k : Nat) (o2 : List Bool) (m : Bool), k ≤ os.length ∧ i = .int .i64 (k : Int) ∧ more = .bool m ∧ RLoop w size (.slice va os.length vc) os rs (w.heap.size + 1) o2 wr ∧ (∀ x ∈ rs, Marked os o2 x) ∧ (m = false → o2 = o0 ∧ ∀ j, j < k → closedAt os o2 j) ∧ (m = true → unset o2 < unset o0)) (fun _ i _ => os.length - (intOf i).toNat)
          case atStart => exact ⟨0, o0, false, Nat.zero_le _, rfl, rfl, HStart.out.1, HStart.out.2, fun _ => ⟨rfl, fun j hj => by omega⟩, (fun h => by cases h)⟩
          case round =>
            clear HS HM HStart
            obtain ⟨k, o2, m, hk, rfl, rfl, hS, hM, hf, ht⟩ := hrel
            have HS := Lib.hid hS
            have HM := Lib.hid hM
            have HFl := Lib.hid hf
            have HTr := Lib.hid ht
            by_cases hlk : k < os.length
            · obtain ⟨o, ho⟩ : ∃ o, os[k]? = some o := ⟨_, List.getElem?_eq_getElem hlk⟩
              have hgo := HR.out.good o (List.mem_of_getElem? ho)
              have hpl : o.ptrs ≤ o.ws.length := hgo.2.1
              have hwl : o.ws.length ≤ 4095 := hgo.2.2.1
              have hpo : ptrsOf os k = o.ws.take o.ptrs := by unfold ptrsOf; rw [ho]
              have d1 : decide ((k : Int) < (os.length : Int)) = true := decide_eq_true (by omega)
              have d1' : decide (k < os.length) = true := decide_eq_true hlk
              have i1 : (0 : Int) ≤ (k : Int) := by omega
              have i2 : (k : Int) < (os.length : Int) := by omega
              have Ho := Lib.hid ho
              have HPo := Lib.hid hpo
              have HSt := Lib.hid (show RLoop w size (.slice va os.length vc) os rs (w.heap.size + 1) o2 wr ∧ (∀ x ∈ rs, Marked os o2 x) from ⟨hS, hM⟩)
              clear hS hM hf ht ho hpo hgo
              go_wp2
              obtain ⟨wk, rfl⟩ : ∃ wk, wk = wr := ⟨_, rfl⟩
              go_loopw [7, 9] (fun more i wr => ∃ (f : Nat) (o3 : List Bool) (m : Bool), f ≤ o.ptrs ∧ i = .int .i64 (f : Int) ∧ more = .bool m ∧ RLoop w size (.slice va os.length vc) os rs (w.heap.size + 1) o3 wr ∧ (∀ x ∈ rs, Marked os o3 x) ∧ (m = false → o3 = o0 ∧ (∀ j, j < k → closedAt os o3 j) ∧ (o3[k]? = some true → ∀ x ∈ (o.ws.take o.ptrs).take f, Marked os o3 x)) ∧ (m = true → unset o3 < unset o0)) (fun _ i _ => o.ptrs - (intOf i).toNat)
              case atStart => exact ⟨0, o2, m, Nat.zero_le _, rfl, rfl, HSt.out.1, HSt.out.2, fun h => ⟨(HFl.out h).1, (HFl.out h).2, fun _ x hx => by simp at hx⟩, HTr.out⟩
              case round =>
                clear HS HM HFl HTr HSt
                obtain ⟨f, o3, m3, hfp, rfl, rfl, hS, hM, hf, ht⟩ := hrel
                have HS := Lib.hid hS
                have HM := Lib.hid hM
                have HFl := Lib.hid hf
                have HTr := Lib.hid ht
                have b0 := hS.box.cell 0 rfl
                have b1 := hS.box.cell 1 rfl
                have bl := hS.box.lt
                obtain ⟨bk, hbk⟩ : ∃ b, o3[k]? = some b := ⟨_, List.getElem?_eq_getElem (by rw [hS.inv.len]; exact hlk)⟩
                have y0 := blk_bool hS.marks hbk
                have yl := hS.marks.lt
                have HBk := Lib.hid hbk
                obtain ⟨og, ocap, hoe, _, hogl⟩ := (HR.out.quiet hS.upd).some' (by omega)
                cases hoe
                obtain ⟨oa, wv, _, hwv, k0, k1, k2, k3, k4⟩ := (HR.out.quiet hS.upd).at' Ho.out
                obtain ⟨xa, xc, rfl⟩ := hwv.form
                have Hwv := Lib.hid hwv
                clear hS hM hf ht hbk hwv k0 k1 k2
                cases bk with
                | false =>
                  go_wp2
                  go_roundw
                  case rel =>
                    refine ⟨k + 1, o3, m3, by omega, by go_num, rfl, HS.out, HM.out, fun h => ⟨(HFl.out h).1, fun j hj => ?_⟩, HTr.out⟩
                    by_cases e : j = k
                    · subst e
                      exact fun h2 => by rw [HBk.out] at h2; cases h2
                    · exact (HFl.out h).2.1 j (by omega)
                  case measure => simp [intOf]; omega
                | true =>
                  by_cases hfl : f < o.ptrs
                  · obtain ⟨x, hx⟩ : ∃ x, o.ws[f]? = some x := ⟨_, List.getElem?_eq_getElem (by omega)⟩
                    obtain ⟨xb, xo, hxa, hxc, hxbl⟩ := Hwv.out.at' hx
                    subst hxa
                    have d2 : decide ((f : Int) < (o.ptrs : Int)) = true := decide_eq_true (by omega)
                    have d2' : decide (f < o.ptrs) = true := decide_eq_true hfl
                    have j1 : (0 : Int) ≤ (f : Int) := by omega
                    have j2 : (f : Int) < (o.ws.length : Int) := by omega
                    have hxt : (o.ws.take o.ptrs)[f]? = some x := by rw [List.getElem?_take, if_pos hfl, hx]
                    have hts : (o.ws.take o.ptrs).take (f + 1) = (o.ws.take o.ptrs).take f ++ [x] := by rw [List.take_add_one, hxt]; rfl
                    have hom := List.mem_of_getElem? Ho.out
                    have hxb := HW.out o hom x (List.mem_of_getElem? hx)
                    have hld := HLp.out o hom x (List.mem_of_getElem? hxt)
                    have HTs := Lib.hid hts
                    have HXt := Lib.hid hxt
                    have HXb := Lib.hid hxb
                    have HLd := Lib.hid hld
                    have m1 : 0 < x → IntKind.i64.wrap (x - 1) = x - 1 := fun h => IntWalk.i64_in _ (by omega)
                    clear hx hxt hts hom hxb hld
                    by_cases hx0 : 0 < x
                    · obtain ⟨ix, hix, hixl, hio⟩ := lead_ix HLd.out hx0
                      have d3 : decide (0 < x) = true := decide_eq_true hx0
                      have HM1 := Lib.hid (m1 hx0)
                      have hfi := (find_any wr base size _ os (HR.out.quiet HS.out.upd) (x - 1))
                      rw [hio] at hfi
                      have HFi := Lib.hid hfi
                      have HIx := Lib.hid hix
                      have HIo := Lib.hid hio
                      obtain ⟨bi, hbi⟩ : ∃ b, o3[ix]? = some b := ⟨_, List.getElem?_eq_getElem (by rw [HS.out.inv.len]; exact hixl)⟩
                      have HBi := Lib.hid hbi
                      have hixo : ix < o3.length := (List.getElem?_eq_some_iff.1 hbi).1
                      have e1 : (0 : Int) ≤ (ix : Int) := by omega
                      have e2 : (ix : Int) < (os.length : Int) := by omega
                      have hxb1 := HXb.out
                      have q1 : -9223372036854775808 ≤ x := hxb1.1
                      have q2 : x ≤ 9223372036854775807 := hxb1.2
                      clear m1 hfi hix hio hbi hxb1
                      go_wp2_with fail
                      refine (HFi.out).mono ?_
                      rintro e w2 ⟨rfl, hu2⟩
                      have hs2 := HS.out.quiet hu2
                      have y1 := blk_bool hs2.marks HBi.out
                      have yl1 := hs2.marks.lt
                      have b0' := hs2.box.cell 0 rfl
                      have b1' := hs2.box.cell 1 rfl
                      have bl' := hs2.box.lt
                      have HS2 := Lib.hid hs2
                      have hfi := (find_any w2 base size _ os (HR.out.quiet hs2.upd) (x - 1))
                      rw [HIo.out] at hfi
                      have HFi2 := Lib.hid hfi
                      clear hs2 hfi hu2 b0 b1 bl y0 yl k3 k4 hxc HFi
                      cases bi with
                      | true =>
                        go_wp2
                        go_roundw
                        case rel =>
                          refine ⟨f + 1, o3, m3, by omega, by go_num, rfl, HS2.out, HM.out, fun h => ⟨(HFl.out h).1, (HFl.out h).2.1, fun hk3 y hy => ?_⟩, HTr.out⟩
                          rw [HTs.out] at hy
                          rcases List.mem_append.1 hy with hy | hy
                          · exact (HFl.out h).2.2 hk3 y hy
                          · rw [List.mem_singleton] at hy
                            subst hy
                            intro _ i hi
                            rw [HIx.out] at hi
                            cases hi
                            exact HBi.out
                        case measure => simp [intOf]; omega
                      | false =>
                        go_wp2_with fail
                        refine (HFi2.out).mono ?_
                        rintro e w3 ⟨rfl, hu3⟩
                        have hs3 := HS2.out.quiet hu3
                        have z1 := blk_bool hs3.marks HBi.out
                        have zf := hs3.marks.frozen ix
                        have zl := hs3.marks.lt
                        have hrch : Rch os rs ix := .edge (HS2.out.inv.sound k HBk.out) (x := x) (by rw [HPo.out]; exact List.mem_of_getElem? HXt.out) hx0 HIx.out
                        have HS4 := Lib.hid (hs3.set (i := ix) hrch)
                        have hun := unset_set HBi.out
                        have HUn := Lib.hid hun
                        clear hs3 hu3 y1 yl1 b0' b1' bl' hrch hun
                        go_wp2
                        go_roundw
                        case rel =>
                          refine ⟨f + 1, o3.set ix true, true, by omega, by go_num, rfl, HS4.out, fun y hy => (HM.out y hy).set _, (fun h => by cases h), fun _ => ?_⟩
                          have h1 := HUn.out
                          cases m3 with
                          | false => have h2 := (HFl.out rfl).1; subst h2; omega
                          | true => have h2 := HTr.out rfl; omega
                        case measure => simp [intOf]; omega
                    · have d3 : decide (0 < x) = false := decide_eq_false hx0
                      clear m1
                      go_wp2
                      go_roundw
                      case rel =>
                        refine ⟨f + 1, o3, m3, by omega, by go_num, rfl, HS.out, HM.out, fun h => ⟨(HFl.out h).1, (HFl.out h).2.1, fun hk3 y hy => ?_⟩, HTr.out⟩
                        rw [HTs.out] at hy
                        rcases List.mem_append.1 hy with hy | hy
                        · exact (HFl.out h).2.2 hk3 y hy
                        · rw [List.mem_singleton] at hy
                          subst hy
                          exact fun h => absurd h hx0
                      case measure => simp [intOf]; omega
                  · have hfe : f = o.ptrs := by omega
                    subst hfe
                    have d2 : decide ((o.ptrs : Int) < (o.ptrs : Int)) = false := decide_eq_false (by omega)
                    have d2' : decide (o.ptrs < o.ptrs) = false := decide_eq_false (by omega)
                    have hall : (o.ws.take o.ptrs).take o.ptrs = o.ws.take o.ptrs := by rw [List.take_take, Nat.min_self]
                    have HAll := Lib.hid hall
                    clear hall
                    go_wp2
                    go_roundw
                    case rel =>
                      refine ⟨k + 1, o3, m3, by omega, by go_num, rfl, HS.out, HM.out, fun h => ⟨(HFl.out h).1, fun j hj => ?_⟩, HTr.out⟩
                      by_cases e : j = k
                      · subst e
                        intro h2 x hx
                        rw [HPo.out, ← HAll.out] at hx
                        exact (HFl.out h).2.2 h2 x hx
                      · exact (HFl.out h).2.1 j (by omega)
                    case measure => simp [intOf]; omega
            · have hke : k = os.length := by omega
              subst hke
              clear hS hM hf ht
              cases m with
              | false =>
                have HF2 := Lib.hid (HFl.out rfl)
                clear HFl HTr
                go_wp2
                go_roundg (2 * unset o2)
                case rel => exact ⟨o2, false, rfl, HS.out, HM.out, fun _ => closed_all HS.out.inv HF2.out.2, Nat.le_refl _⟩
                case measure => have := HG.out; rw [HF2.out.1]; omega
              | true =>
                have HT2 := Lib.hid (HTr.out rfl)
                clear HFl HTr
                go_wp2
                go_roundg (2 * unset o2 + 1)
                case rel => exact ⟨o2, true, rfl, HS.out, HM.out, (fun h => by cases h), Nat.le_refl _⟩
                case measure => have h1 := HG.out; have h2 := HT2.out; omega
end Go.Proofs.Ytlphlaenecidiaa.Ref
