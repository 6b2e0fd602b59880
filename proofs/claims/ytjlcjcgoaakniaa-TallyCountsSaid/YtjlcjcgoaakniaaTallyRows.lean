/- Tallies: a told heap's rows. -/
import Derived.Test.YtjlcjcgoaakniaaTallyCount
import Derived.Test.YtjlcjcgoaakniaaReach
import Derived.Test.YtjlcjcgoaakniaaMrgLast
set_option linter.unusedSimpArgs false
namespace Go.Proofs.Ytjlcjcgoaakniaa.Tally
open Go.RowKit Go.Proofs.Ytjlcjcgoaakniaa.Mem Go.Proofs.Ytjlcjcgoaakniaa.Obj Go.Proofs.Ytjlcjcgoaakniaa.Heap

/-- Of which objects is told. -/
def Picked (w : World) (v : Value) (p : Nat → Bool) (n : Nat) : Prop := (v = .slice none 0 0 ∧ ∀ i, p i = true) ∨ (∃ (ob : Nat) (out : List Bool), v = .slice (some ⟨ob, 0, none⟩) n n ∧ Blk w ob (bools out) 4 ∧ out.length = n ∧ ∀ i, p i = out.getD i false)
theorem Picked.quiet {w w' : World} {v : Value} {p : Nat → Bool} {n : Nat} (h : Picked w v p n) (u : Upd (fun _ => False) w w') : Picked w' v p n := by
  rcases h with h | ⟨ob, out, e, hb, hl, hp⟩
  · exact .inl h
  · exact .inr ⟨ob, out, e, hb.upd u (fun h => h), hl, hp⟩
/-- Rows, as numbers. -/
def rws (l : List (Nat × Nat)) (i : Nat) : Int := (TF l i : Int)
theorem rws_snoc (l : List (Nat × Nat)) (k n : Nat) (i : Nat) : rws (l ++ [(k, n)]) i = if i = k * 2 + 1 then rws l (k * 2 + 1) + (n : Int) else if i = k * 2 then rws l (k * 2) + 1 else rws l i := by
  unfold rws
  rw [TF_snoc]
  by_cases e1 : i = k * 2 + 1
  · subst e1
    have ht : tf (k, n) (k * 2 + 1) = n := by unfold tf; rw [if_neg (show ¬ k * 2 + 1 = 2 * k by omega), if_pos (show k * 2 + 1 = 2 * k + 1 by omega)]
    rw [if_pos rfl, ht]
    push_cast
    rfl
  · rw [if_neg e1]
    by_cases e2 : i = k * 2
    · subst e2
      have ht : tf (k, n) (k * 2) = 1 := by unfold tf; rw [if_pos (show k * 2 = 2 * k by omega)]
      rw [if_pos rfl, ht]
      push_cast
      rfl
    · have ht : tf (k, n) i = 0 := by unfold tf; rw [if_neg (show ¬ i = 2 * k by omega), if_neg (show ¬ i = 2 * k + 1 by omega)]
      rw [if_neg e2, ht, Nat.add_zero]
/-- While rows are counted. -/
def Rowing (w : World) (os : List Ob) (p : Nat → Bool) (i : Value) (wr : World) : Prop :=
  ∃ k : Nat, k ≤ os.length ∧ i = .int .i64 (k : Int) ∧ Blk wr (w.heap.size + 1) (cf 32 fun _ => 0) 54 ∧ Blk wr (w.heap.size + 2) (cf 32 (rws (kwp os p k))) 54 ∧ Upd (fun _ => False) w wr
theorem tot_kwp {os : List Ob} (hg : ∀ o ∈ os, o.good) (p : Nat → Bool) : ∀ k, tot (kwp os p k) ≤ 4097 * k
  | 0 => Nat.le_refl _
  | k + 1 => by
    have h1 := tot_kwp hg p k
    rw [kwp, tot_append]
    cases ho : os[k]? with
    | none => rw [show tot ([] : List (Nat × Nat)) = 0 from rfl]; omega
    | some o =>
      have h2 := (hg o (List.mem_of_getElem? ho)).2.2.1
      have h3 : tot [kw o] = 1 + (1 + o.len) := by simp [tot, kw]
      by_cases hp : p k = true
      · simp only [hp, if_true]
        rw [h3]
        omega
      · show tot (kwp os p k) + tot (if p k = true then [kw o] else []) ≤ _
        rw [if_neg hp, show tot ([] : List (Nat × Nat)) = 0 from rfl]; omega

set_option maxRecDepth 20000 in
set_option maxHeartbeats 2000000 in
theorem rows_any (w : World) (base sz : Nat) (v : Value) (os : List Ob) (R : Ref.RefAt w base v os) (ov : Value) (p : Nat → Bool) (hp : Picked w ov p os.length) :
    Calls Try.prog 42 #[Ref.hv sz v, ov] w fun e w' => e = .returned (ag 32 (rws (kwp os p os.length))) ∧ Upd (fun _ => False) w w' := by
  obtain ⟨va, vc, rfl⟩ := R.form
  have hfew := R.few
  have hgood := R.good
  have hu0 := (((Upd.refl (fun _ => False) w).alloc (.cells #[.int .i64 (sz : Int), .slice va os.length vc] 73)).alloc (.cells (cf 32 fun _ => 0).toArray 54)).alloc (.cells (cf 32 fun _ => 0).toArray 54)
  have hz := (Blk.made' w (.cells #[.int .i64 (sz : Int), .slice va os.length vc] 73) (cf 32 fun _ => 0) 54).alloc (.cells (cf 32 fun _ => 0).toArray 54)
  have ht := Blk.made' (w.alloc (.cells #[.int .i64 (sz : Int), .slice va os.length vc] 73)) (.cells (cf 32 fun _ => 0).toArray 54) (cf 32 fun _ => 0) 54
  rw [World.size_alloc] at ht
  have HU0 := Lib.hid hu0
  have HZ := Lib.hid hz
  have HT := Lib.hid ht
  have HR := Lib.hid R
  have HP := Lib.hid hp
  have hq0 : ∀ W : World, (binOp .eql 85 (.slice none 0 0) (.slice none 0 0)).run Try.prog W = .ok (.bool true) W := fun W => by kernel_rfl
  have hq1 : ∀ (W : World) (ob n : Nat), (binOp .eql 85 (.slice (some ⟨ob, 0, none⟩) n n) (.slice none 0 0)).run Try.prog W = .ok (.bool false) W := fun W ob n => by kernel_rfl
  clear hu0 hz ht R hp
  go_enter Try.func42, Try.ntmps42
  go_wp2
  go_loopw [11] (fun i wr => Rowing w os p i wr) (fun i _ => os.length - (intOf i).toNat)
  case atStart => exact ⟨0, Nat.zero_le _, rfl, HZ.out, HT.out, HU0.out⟩
  case round =>
    obtain ⟨k, hk, rfl, hz, ht, hU⟩ := hrel
    have hz1 := hz.lt
    have ht1 := ht.lt
    have hpq := HP.out.quiet hU
    have Hz := Lib.hid hz
    have Ht := Lib.hid ht
    have HU := Lib.hid hU
    by_cases hlk : k < os.length
    · obtain ⟨o, ho⟩ : ∃ o, os[k]? = some o := ⟨_, List.getElem?_eq_getElem hlk⟩
      have hgo := hgood o (List.mem_of_getElem? ho)
      have hk15 := hgo.1
      have hl4 := hgo.2.2.1
      have htb := tot_kwp hgood p k
      obtain ⟨og, ocap, hoe, _, hogl⟩ := (HR.out.quiet hU).some' (by omega)
      cases hoe
      obtain ⟨oa, wv, _, hwv, k0, k1, k2, k3, k4⟩ := (HR.out.quiet hU).at' ho
      obtain ⟨xa, xc, rfl⟩ := hwv.form
      have hstep : p k = true → kwp os p (k + 1) = kwp os p k ++ [(o.kind, 1 + o.len)] := fun hp => by
        rw [kwp, ho]
        simp only [hp, if_true]
        rfl
      have hskip : p k = false → kwp os p (k + 1) = kwp os p k := fun hp => by
        rw [kwp, ho]
        simp [hp]
      obtain ⟨kn, hkn⟩ : ∃ kn, kn = o.kind := ⟨_, rfl⟩
      obtain ⟨ln, hln⟩ : ∃ ln, ln = o.len := ⟨_, rfl⟩
      rw [← hkn, ← hln] at hstep
      rw [← hkn] at k1 hk15
      rw [← hln] at k2 hl4
      obtain ⟨A0, hA0⟩ : ∃ A0, A0 = rws (kwp os p k) (kn * 2) := ⟨_, rfl⟩
      obtain ⟨A1, hA1⟩ : ∃ A1, A1 = rws (kwp os p k) (kn * 2 + 1) := ⟨_, rfl⟩
      have b0 : 0 ≤ A0 ∧ A0 ≤ 300000000 := by have := TF_le (kwp os p k) (kn * 2); rw [hA0]; unfold rws; omega
      have b1 : 0 ≤ A1 ∧ A1 ≤ 300000000 := by have := TF_le (kwp os p k) (kn * 2 + 1); rw [hA1]; unfold rws; omega
      have t0 := ht.cell (kn * 2) (v := .int .i64 A0) (by rw [cf_get (by omega), hA0])
      have tf0 := ht.frozen (kn * 2)
      have s0 : IntKind.i64.wrap (A0 + 1) = A0 + 1 := IntWalk.i64_in _ (by omega)
      have s1 : IntKind.i64.wrap (1 + (ln : Int)) = 1 + (ln : Int) := IntWalk.i64_in _ (by omega)
      have s2 : IntKind.i64.wrap (A1 + (1 + (ln : Int))) = A1 + (1 + (ln : Int)) := IntWalk.i64_in _ (by omega)
      have d1 : decide ((k : Int) < (os.length : Int)) = true := decide_eq_true (by omega)
      have d1' : decide (k < os.length) = true := decide_eq_true hlk
      have i1 : (0 : Int) ≤ (k : Int) := by omega
      have i2 : (k : Int) < (os.length : Int) := by omega
      have j1 : (0 : Int) ≤ (kn : Int) := by omega
      have j2 : (kn : Int) < 16 := by omega
      have hal := (Upd.refl (fun _ => False) wr).alloc (.cells #[.int .i64 (oa : Int), .int .i64 (kn : Int), .int .i64 (ln : Int), .int .i64 (o.ptrs : Int), .slice xa o.ws.length xc] 127)
      have hxb := Blk.made wr [.int .i64 (oa : Int), .int .i64 (kn : Int), .int .i64 (ln : Int), .int .i64 (o.ptrs : Int), .slice xa o.ws.length xc] 127
      have HAl := Lib.hid hal
      have HXb := Lib.hid hxb
      have HStep := Lib.hid hstep
      have HSkip := Lib.hid hskip
      have HA0 := Lib.hid hA0
      have HA1 := Lib.hid hA1
      clear hal hxb hstep hskip hA0 hA1 hkn hln hgo htb hwv ho hz ht hU
      rcases hpq with ⟨rfl, hpt⟩ | ⟨ob, out, rfl, hb, hl, hpo⟩
      · have hpk := hpt k
        clear hpt
        go_upto_region 7 with (fail)
        have us : Upd (fun j => j = w.heap.size + 2) wr ((wr.setCell ⟨w.heap.size + 1 + 1, kn * 2, none⟩ (.int .i64 (A0 + 1))).alloc (.cells #[.int .i64 (oa : Int), .int .i64 (kn : Int), .int .i64 (ln : Int), .int .i64 (o.ptrs : Int), .slice xa o.ws.length xc] 127)) := ((Upd.refl (fun j => j = w.heap.size + 2) wr).setCell (p := ⟨w.heap.size + 1 + 1, kn * 2, none⟩) _ (fun _ => rfl)).alloc _
        have hx3 : Blk ((wr.setCell ⟨w.heap.size + 1 + 1, kn * 2, none⟩ (.int .i64 (A0 + 1))).alloc (.cells #[.int .i64 (oa : Int), .int .i64 (kn : Int), .int .i64 (ln : Int), .int .i64 (o.ptrs : Int), .slice xa o.ws.length xc] 127)) wr.heap.size [.int .i64 (oa : Int), .int .i64 (kn : Int), .int .i64 (ln : Int), .int .i64 (o.ptrs : Int), .slice xa o.ws.length xc] 127 := by
          have h := Blk.made (wr.setCell ⟨w.heap.size + 1 + 1, kn * 2, none⟩ (.int .i64 (A0 + 1))) [.int .i64 (oa : Int), .int .i64 (kn : Int), .int .i64 (ln : Int), .int .i64 (o.ptrs : Int), .slice xa o.ws.length xc] 127
          simpa using h
        have hz3 := Hz.out.upd us (by omega)
        have ht3 := (Ht.out.set (kn * 2) (.int .i64 (A0 + 1))).alloc (.cells #[.int .i64 (oa : Int), .int .i64 (kn : Int), .int .i64 (ln : Int), .int .i64 (o.ptrs : Int), .slice xa o.ws.length xc] 127)
        have hu3 := HU.out.next us (fun i hi h => by omega)
        generalize ((wr.setCell ⟨w.heap.size + 1 + 1, kn * 2, none⟩ (.int .i64 (A0 + 1))).alloc (.cells #[.int .i64 (oa : Int), .int .i64 (kn : Int), .int .i64 (ln : Int), .int .i64 (o.ptrs : Int), .slice xa o.ws.length xc] 127)) = w3 at *
        generalize wr.heap.size = xb at *
        have x1 := hx3.cell 1 rfl
        have x2 := hx3.cell 2 rfl
        have xl := hx3.lt
        have e1 := ht3.cell (kn * 2 + 1) (v := .int .i64 A1) (by rw [List.getElem?_set_ne (by omega), cf_get (by omega), HA1.out])
        have ef := ht3.frozen (kn * 2 + 1)
        have el := ht3.lt
        have Hz3 := Lib.hid hz3
        have Ht3 := Lib.hid ht3
        have Hu3 := Lib.hid hu3
        clear hx3 hz3 ht3 hu3 us t0 tf0 k0 k1 k2 k3 k4
        refine wp_region_last (S := (fun V => V.cell? ⟨xb, 1, none⟩ = some (.int .i64 (kn : Int)) ∧ V.cell? ⟨xb, 2, none⟩ = some (.int .i64 (ln : Int)) ∧ V.cell? ⟨w.heap.size + 2, kn * 2 + 1, none⟩ = some (.int .i64 A1))) (by kernel_rfl) (by kernel_rfl) ⟨x1, x2, e1⟩ (fun hHeld => ?_)
        simp only [List.pop_toArray, List.dropLast_cons_cons, List.dropLast_singleton, List.size_toArray, List.length_cons, List.length_nil, Nat.reduceAdd, Nat.reduceSub]
        refine take_last (i := 0) (v := ?_) (by rfl) (by kernel_rfl) (by exact (fun _ _ _ h => h)) (by rfl) hHeld ?_ ?_
        rotate_left
        · ((intro V hV; obtain ⟨hV0, hV1, hV2⟩ := hV; go_simp) <;> (with_reducible rfl))
        try simp only [Act.put, List.setIfInBounds_toArray, List.set_cons_zero, List.set_cons_succ]
        refine take_last (i := 1) (v := ?_) (by rfl) (by kernel_rfl) (by exact (fun _ _ _ h => h)) (by rfl) hHeld ?_ ?_
        rotate_left
        · ((intro V hV; obtain ⟨hV0, hV1, hV2⟩ := hV; go_simp) <;> (with_reducible rfl))
        try simp only [Act.put, List.setIfInBounds_toArray, List.set_cons_zero, List.set_cons_succ]
        refine take_last (i := 2) (v := ?_) (by rfl) (by kernel_rfl) (by exact (fun _ _ _ h => h)) (by rfl) hHeld ?_ ?_
        rotate_left
        · ((intro V hV; obtain ⟨hV0, hV1, hV2⟩ := hV; go_simp) <;> (with_reducible rfl))
        try simp only [Act.put, List.setIfInBounds_toArray, List.set_cons_zero, List.set_cons_succ]
        refine take_last (i := 3) (v := ?_) (by rfl) (by kernel_rfl) (by exact (fun _ _ _ h => h)) (by rfl) hHeld ?_ ?_
        rotate_left
        · ((intro V hV; obtain ⟨hV0, hV1, hV2⟩ := hV; go_simp) <;> (with_reducible rfl))
        try simp only [Act.put, List.setIfInBounds_toArray, List.set_cons_zero, List.set_cons_succ]
        refine take_last (i := 4) (v := ?_) (by rfl) (by kernel_rfl) (by exact (fun _ _ _ h => h)) (by rfl) hHeld ?_ ?_
        rotate_left
        · ((intro V hV; obtain ⟨hV0, hV1, hV2⟩ := hV; go_simp) <;> (with_reducible rfl))
        try simp only [Act.put, List.setIfInBounds_toArray, List.set_cons_zero, List.set_cons_succ]
        refine take_last (i := 5) (v := ?_) (by rfl) (by kernel_rfl) (by exact (fun _ _ _ h => h)) (by rfl) hHeld ?_ ?_
        rotate_left
        · ((intro V hV; obtain ⟨hV0, hV1, hV2⟩ := hV; go_simp) <;> (with_reducible rfl))
        try simp only [Act.put, List.setIfInBounds_toArray, List.set_cons_zero, List.set_cons_succ]
        refine take_last (i := 6) (v := ?_) (by rfl) (by kernel_rfl) (by exact (fun _ _ _ h => h)) (by rfl) hHeld ?_ ?_
        rotate_left
        · ((intro V hV; obtain ⟨hV0, hV1, hV2⟩ := hV; go_simp) <;> (with_reducible rfl))
        try simp only [Act.put, List.setIfInBounds_toArray, List.set_cons_zero, List.set_cons_succ]
        refine take_last (i := 7) (v := ?_) (by rfl) (by kernel_rfl) (by exact (fun _ _ _ h => h)) (by rfl) hHeld ?_ ?_
        rotate_left
        · ((intro V hV; obtain ⟨hV0, hV1, hV2⟩ := hV; go_simp) <;> (with_reducible rfl))
        try simp only [Act.put, List.setIfInBounds_toArray, List.set_cons_zero, List.set_cons_succ]
        refine take_last (i := 8) (v := ?_) (by rfl) (by kernel_rfl) (by exact (fun _ _ _ h => h)) (by rfl) hHeld ?_ ?_
        rotate_left
        · ((intro V hV; obtain ⟨hV0, hV1, hV2⟩ := hV; go_simp) <;> (with_reducible rfl))
        try simp only [Act.put, List.setIfInBounds_toArray, List.set_cons_zero, List.set_cons_succ]
        refine take_last (i := 9) (v := ?_) (by rfl) (by kernel_rfl) (by exact (fun _ _ _ h => h)) (by rfl) hHeld ?_ ?_
        rotate_left
        · ((intro V hV; obtain ⟨hV0, hV1, hV2⟩ := hV; go_simp) <;> (with_reducible rfl))
        try simp only [Act.put, List.setIfInBounds_toArray, List.set_cons_zero, List.set_cons_succ]
        refine take_last (i := 10) (v := ?_) (by rfl) (by kernel_rfl) (by exact (fun _ _ _ h => h)) (by rfl) hHeld ?_ ?_
        rotate_left
        · ((intro V hV; obtain ⟨hV0, hV1, hV2⟩ := hV; go_simp) <;> (with_reducible rfl))
        try simp only [Act.put, List.setIfInBounds_toArray, List.set_cons_zero, List.set_cons_succ]
        refine take_last (i := 11) (v := ?_) (by rfl) (by kernel_rfl) (by exact (fun _ _ _ h => h)) (by rfl) hHeld ?_ ?_
        rotate_left
        · ((intro V hV; obtain ⟨hV0, hV1, hV2⟩ := hV; go_simp) <;> (with_reducible rfl))
        try simp only [Act.put, List.setIfInBounds_toArray, List.set_cons_zero, List.set_cons_succ]
        refine take_last (i := 12) (v := ?_) (by rfl) (by kernel_rfl) (by exact (fun _ _ _ h => h)) (by rfl) hHeld ?_ ?_
        rotate_left
        · ((intro V hV; obtain ⟨hV0, hV1, hV2⟩ := hV; go_simp) <;> (with_reducible rfl))
        try simp only [Act.put, List.setIfInBounds_toArray, List.set_cons_zero, List.set_cons_succ]
        refine last_end (by kernel_rfl) (by rfl) (fun KK hK => ?_)
        go_simp
        refine hK.out _ _ ?_
        clear hK KK
        go_wp2
        go_roundw
        case rel =>
          refine ⟨k + 1, by omega, by go_num, ?_, ?_, ?_⟩
          · exact (Hz3.out.upd ((Upd.refl (fun j => j = w.heap.size + 2) w3).drew.setCell (p := ⟨w.heap.size + 2, kn * 2 + 1, none⟩) _ (fun _ => rfl)) (by omega))
          · have h1 := Ht3.out.drew.set (kn * 2 + 1) (.int .i64 (A1 + (1 + (ln : Int))))
            rw [cf_set (g := fun i => if i = kn * 2 then A0 + 1 else rws (kwp os p k) i) (fun i _ => rfl), cf_set (g := rws (kwp os p (k + 1))) (fun i _ => ?side)] at h1
            · exact h1
            case side =>
              rw [HStep.out hpk, rws_snoc, ← HA0.out, ← HA1.out]
              push_cast
              rfl
          · exact Hu3.out.next ((Upd.refl (fun j => j = w.heap.size + 2) w3).drew.setCell (p := ⟨w.heap.size + 2, kn * 2 + 1, none⟩) _ (fun _ => rfl)) (fun i hi h => by omega)
        case measure => simp [intOf]; omega
      · obtain ⟨bk, hbk⟩ : ∃ b, out[k]? = some b := ⟨_, List.getElem?_eq_getElem (by omega)⟩
        have hpk : p k = bk := by rw [hpo, List.getD_eq_getElem?_getD, hbk]; rfl
        have y0 : wr.cell? ⟨ob, k, none⟩ = some (.bool bk) := hb.cell k (by rw [bools, List.getElem?_map, hbk]; rfl)
        have yl := hb.lt
        clear hb hl hpo hbk
        cases bk with
        | false =>
          go_wp2
          go_roundw
          case rel =>
            refine ⟨k + 1, by omega, by go_num, Hz.out.upd HAl.out (fun h => h), ?_, HU.out.trans HAl.out⟩
            rw [HSkip.out hpk]
            exact Ht.out.upd HAl.out (fun h => h)
          case measure => simp [intOf]; omega
        | true =>
          go_upto_region 7 with (fail)
          have us : Upd (fun j => j = w.heap.size + 2) wr ((wr.setCell ⟨w.heap.size + 1 + 1, kn * 2, none⟩ (.int .i64 (A0 + 1))).alloc (.cells #[.int .i64 (oa : Int), .int .i64 (kn : Int), .int .i64 (ln : Int), .int .i64 (o.ptrs : Int), .slice xa o.ws.length xc] 127)) := ((Upd.refl (fun j => j = w.heap.size + 2) wr).setCell (p := ⟨w.heap.size + 1 + 1, kn * 2, none⟩) _ (fun _ => rfl)).alloc _
          have hx3 : Blk ((wr.setCell ⟨w.heap.size + 1 + 1, kn * 2, none⟩ (.int .i64 (A0 + 1))).alloc (.cells #[.int .i64 (oa : Int), .int .i64 (kn : Int), .int .i64 (ln : Int), .int .i64 (o.ptrs : Int), .slice xa o.ws.length xc] 127)) wr.heap.size [.int .i64 (oa : Int), .int .i64 (kn : Int), .int .i64 (ln : Int), .int .i64 (o.ptrs : Int), .slice xa o.ws.length xc] 127 := by
            have h := Blk.made (wr.setCell ⟨w.heap.size + 1 + 1, kn * 2, none⟩ (.int .i64 (A0 + 1))) [.int .i64 (oa : Int), .int .i64 (kn : Int), .int .i64 (ln : Int), .int .i64 (o.ptrs : Int), .slice xa o.ws.length xc] 127
            simpa using h
          have hz3 := Hz.out.upd us (by omega)
          have ht3 := (Ht.out.set (kn * 2) (.int .i64 (A0 + 1))).alloc (.cells #[.int .i64 (oa : Int), .int .i64 (kn : Int), .int .i64 (ln : Int), .int .i64 (o.ptrs : Int), .slice xa o.ws.length xc] 127)
          have hu3 := HU.out.next us (fun i hi h => by omega)
          generalize ((wr.setCell ⟨w.heap.size + 1 + 1, kn * 2, none⟩ (.int .i64 (A0 + 1))).alloc (.cells #[.int .i64 (oa : Int), .int .i64 (kn : Int), .int .i64 (ln : Int), .int .i64 (o.ptrs : Int), .slice xa o.ws.length xc] 127)) = w3 at *
          generalize wr.heap.size = xb at *
          have x1 := hx3.cell 1 rfl
          have x2 := hx3.cell 2 rfl
          have xl := hx3.lt
          have e1 := ht3.cell (kn * 2 + 1) (v := .int .i64 A1) (by rw [List.getElem?_set_ne (by omega), cf_get (by omega), HA1.out])
          have ef := ht3.frozen (kn * 2 + 1)
          have el := ht3.lt
          have Hz3 := Lib.hid hz3
          have Ht3 := Lib.hid ht3
          have Hu3 := Lib.hid hu3
          clear hx3 hz3 ht3 hu3 us t0 tf0 k0 k1 k2 k3 k4
          refine wp_region_last (S := (fun V => V.cell? ⟨xb, 1, none⟩ = some (.int .i64 (kn : Int)) ∧ V.cell? ⟨xb, 2, none⟩ = some (.int .i64 (ln : Int)) ∧ V.cell? ⟨w.heap.size + 2, kn * 2 + 1, none⟩ = some (.int .i64 A1))) (by kernel_rfl) (by kernel_rfl) ⟨x1, x2, e1⟩ (fun hHeld => ?_)
          simp only [List.pop_toArray, List.dropLast_cons_cons, List.dropLast_singleton, List.size_toArray, List.length_cons, List.length_nil, Nat.reduceAdd, Nat.reduceSub]
          refine take_last (i := 0) (v := ?_) (by rfl) (by kernel_rfl) (by exact (fun _ _ _ h => h)) (by rfl) hHeld ?_ ?_
          rotate_left
          · ((intro V hV; obtain ⟨hV0, hV1, hV2⟩ := hV; go_simp) <;> (with_reducible rfl))
          try simp only [Act.put, List.setIfInBounds_toArray, List.set_cons_zero, List.set_cons_succ]
          refine take_last (i := 1) (v := ?_) (by rfl) (by kernel_rfl) (by exact (fun _ _ _ h => h)) (by rfl) hHeld ?_ ?_
          rotate_left
          · ((intro V hV; obtain ⟨hV0, hV1, hV2⟩ := hV; go_simp) <;> (with_reducible rfl))
          try simp only [Act.put, List.setIfInBounds_toArray, List.set_cons_zero, List.set_cons_succ]
          refine take_last (i := 2) (v := ?_) (by rfl) (by kernel_rfl) (by exact (fun _ _ _ h => h)) (by rfl) hHeld ?_ ?_
          rotate_left
          · ((intro V hV; obtain ⟨hV0, hV1, hV2⟩ := hV; go_simp) <;> (with_reducible rfl))
          try simp only [Act.put, List.setIfInBounds_toArray, List.set_cons_zero, List.set_cons_succ]
          refine take_last (i := 3) (v := ?_) (by rfl) (by kernel_rfl) (by exact (fun _ _ _ h => h)) (by rfl) hHeld ?_ ?_
          rotate_left
          · ((intro V hV; obtain ⟨hV0, hV1, hV2⟩ := hV; go_simp) <;> (with_reducible rfl))
          try simp only [Act.put, List.setIfInBounds_toArray, List.set_cons_zero, List.set_cons_succ]
          refine take_last (i := 4) (v := ?_) (by rfl) (by kernel_rfl) (by exact (fun _ _ _ h => h)) (by rfl) hHeld ?_ ?_
          rotate_left
          · ((intro V hV; obtain ⟨hV0, hV1, hV2⟩ := hV; go_simp) <;> (with_reducible rfl))
          try simp only [Act.put, List.setIfInBounds_toArray, List.set_cons_zero, List.set_cons_succ]
          refine take_last (i := 5) (v := ?_) (by rfl) (by kernel_rfl) (by exact (fun _ _ _ h => h)) (by rfl) hHeld ?_ ?_
          rotate_left
          · ((intro V hV; obtain ⟨hV0, hV1, hV2⟩ := hV; go_simp) <;> (with_reducible rfl))
          try simp only [Act.put, List.setIfInBounds_toArray, List.set_cons_zero, List.set_cons_succ]
          refine take_last (i := 6) (v := ?_) (by rfl) (by kernel_rfl) (by exact (fun _ _ _ h => h)) (by rfl) hHeld ?_ ?_
          rotate_left
          · ((intro V hV; obtain ⟨hV0, hV1, hV2⟩ := hV; go_simp) <;> (with_reducible rfl))
          try simp only [Act.put, List.setIfInBounds_toArray, List.set_cons_zero, List.set_cons_succ]
          refine take_last (i := 7) (v := ?_) (by rfl) (by kernel_rfl) (by exact (fun _ _ _ h => h)) (by rfl) hHeld ?_ ?_
          rotate_left
          · ((intro V hV; obtain ⟨hV0, hV1, hV2⟩ := hV; go_simp) <;> (with_reducible rfl))
          try simp only [Act.put, List.setIfInBounds_toArray, List.set_cons_zero, List.set_cons_succ]
          refine take_last (i := 8) (v := ?_) (by rfl) (by kernel_rfl) (by exact (fun _ _ _ h => h)) (by rfl) hHeld ?_ ?_
          rotate_left
          · ((intro V hV; obtain ⟨hV0, hV1, hV2⟩ := hV; go_simp) <;> (with_reducible rfl))
          try simp only [Act.put, List.setIfInBounds_toArray, List.set_cons_zero, List.set_cons_succ]
          refine take_last (i := 9) (v := ?_) (by rfl) (by kernel_rfl) (by exact (fun _ _ _ h => h)) (by rfl) hHeld ?_ ?_
          rotate_left
          · ((intro V hV; obtain ⟨hV0, hV1, hV2⟩ := hV; go_simp) <;> (with_reducible rfl))
          try simp only [Act.put, List.setIfInBounds_toArray, List.set_cons_zero, List.set_cons_succ]
          refine take_last (i := 10) (v := ?_) (by rfl) (by kernel_rfl) (by exact (fun _ _ _ h => h)) (by rfl) hHeld ?_ ?_
          rotate_left
          · ((intro V hV; obtain ⟨hV0, hV1, hV2⟩ := hV; go_simp) <;> (with_reducible rfl))
          try simp only [Act.put, List.setIfInBounds_toArray, List.set_cons_zero, List.set_cons_succ]
          refine take_last (i := 11) (v := ?_) (by rfl) (by kernel_rfl) (by exact (fun _ _ _ h => h)) (by rfl) hHeld ?_ ?_
          rotate_left
          · ((intro V hV; obtain ⟨hV0, hV1, hV2⟩ := hV; go_simp) <;> (with_reducible rfl))
          try simp only [Act.put, List.setIfInBounds_toArray, List.set_cons_zero, List.set_cons_succ]
          refine take_last (i := 12) (v := ?_) (by rfl) (by kernel_rfl) (by exact (fun _ _ _ h => h)) (by rfl) hHeld ?_ ?_
          rotate_left
          · ((intro V hV; obtain ⟨hV0, hV1, hV2⟩ := hV; go_simp) <;> (with_reducible rfl))
          try simp only [Act.put, List.setIfInBounds_toArray, List.set_cons_zero, List.set_cons_succ]
          refine last_end (by kernel_rfl) (by rfl) (fun KK hK => ?_)
          go_simp
          refine hK.out _ _ ?_
          clear hK KK
          go_wp2
          go_roundw
          case rel =>
            refine ⟨k + 1, by omega, by go_num, ?_, ?_, ?_⟩
            · exact (Hz3.out.upd ((Upd.refl (fun j => j = w.heap.size + 2) w3).drew.setCell (p := ⟨w.heap.size + 2, kn * 2 + 1, none⟩) _ (fun _ => rfl)) (by omega))
            · have h1 := Ht3.out.drew.set (kn * 2 + 1) (.int .i64 (A1 + (1 + (ln : Int))))
              rw [cf_set (g := fun i => if i = kn * 2 then A0 + 1 else rws (kwp os p k) i) (fun i _ => rfl), cf_set (g := rws (kwp os p (k + 1))) (fun i _ => ?side)] at h1
              · exact h1
              case side =>
                rw [HStep.out hpk, rws_snoc, ← HA0.out, ← HA1.out]
                push_cast
                rfl
            · exact Hu3.out.next ((Upd.refl (fun j => j = w.heap.size + 2) w3).drew.setCell (p := ⟨w.heap.size + 2, kn * 2 + 1, none⟩) _ (fun _ => rfl)) (fun i hi h => by omega)
          case measure => simp [intOf]; omega
    · have hke : k = os.length := by omega
      subst hke
      have hr := Blk.range ht 0 32 (by omega)
      have hth : wr.there (w.heap.size + 1) 0 32 := fun j hj => ⟨by rw [hz.cell (0 + j) (cf_get (by omega))]; rfl, hz.frozen (0 + j)⟩
      have Hr := Lib.hid hr
      have Hth := Lib.hid hth
      clear hr hth hz ht hU hpq
      go_wp2_with (first | (refine wpList_load_mid rfl 54 _ rfl (w.heap.size + 1 + 1) 0 rfl (cf 32 (rws (kwp os p os.length))) _ (by simpa using Hr.out) Try.underlying54 rfl (by kernel_rfl) ?_) | (refine wpList_store_mid rfl 54 _ _ rfl (w.heap.size + 1) 0 (cf 32 (rws (kwp os p os.length))).toArray rfl rfl ?there (by kernel_rfl) (cf_one _ _) ?_))
      case there =>
        have e : (cf 32 (rws (kwp os p os.length))).toArray.size = 32 := by simp [cf]
        rw [e]; exact Hth.out
      try simp only [Exit.inBlock, Exit.then]
      refine bodyPost_ret (results_cell_mid rfl _ _ (w.heap.size + 1) 0 (cf 32 (rws (kwp os p os.length))) _ rfl ?_ Try.underlying54 rfl (by kernel_rfl)) rfl ?_
      · exact World.rangeAt_setCells_same _ _ _ _ (by rw [cf_len]; exact Hth.out)
      · exact ⟨rfl, upd_setCells _ (fun h => by omega) _ _ _ HU.out⟩
end Go.Proofs.Ytjlcjcgoaakniaa.Tally
