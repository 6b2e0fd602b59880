/- The law ScriptAlls: the walk. -/
import Derived.Test.YtlphlaenecidiaaDoorScrA
set_option linter.unusedSimpArgs false
namespace Go.Proofs.YtlphlaenecidiaaDoor.Scr
open Go.RowKit Go.Proofs.YtlphlaenecidiaaDoor.Mem

theorem ent_ne (w : World) (a : Ent) : (binOp .neq 25 a.val a.val).run Tryd.prog w = .ok (.bool false) w := by
  rw [Ent.val, run_neq_struct, run_equalIn_agg w 9999 25 _ _ (by kernel_rfl) (by kernel_rfl)]
  rw [show (Program.fieldsOf Tryd.prog 25).toList = [{ name := "Op", type := 3, offset := 0, embedded := false, tag := "", pkgPath := "", byteOffset := 0 }, { name := "Numbers", type := 23, offset := 1, embedded := false, tag := "", pkgPath := "", byteOffset := 8 }] by kernel_rfl]
  simp [Op.eqFields, part, run_equalIn_int w 9998 3 .i64 .i64 _ _ Tryd.underlying3, nums_eq]
theorem ext_list (L : List UInt8) (a b : Nat) : ((⟨L.toArray⟩ : ByteArray).extract a b).data.toList = (L.drop a).take (b - a) := by
  rw [ByteArray.data_extract]
  simp
/-- What All told, in plain words. -/
def Told (H : Nat) (a : Except Nat (List Ent)) (p : Option Addr) (n c : Nat) (k f : Int) (w' : World) : Prop :=
  match a with
  | .ok es => n = es.length ∧ k = 0 ∧ f = 0 ∧ w'.ownsRow H 25 5 (.slice p n c) n (ecells es)
  | .error j => n = 0 ∧ k = (j : Int) + 1 ∧ f = 10
theorem AllAns.told {H : Nat} {a : Except Nat (List Ent)} {x : Ending} {w' : World} (h : AllAns H a x w') : ∃ p n c k f, x = .returned (.tuple #[.slice p n c, .int .i64 k, .int .i64 f]) ∧ Told H a p n c k f w' := by
  unfold AllAns at h
  cases a with
  | ok es =>
    obtain ⟨p, c, rfl, ho⟩ := h
    exact ⟨_, _, _, _, _, rfl, rfl, rfl, rfl, ho⟩
  | error j => exact ⟨_, _, _, _, _, h, rfl, rfl, rfl⟩

theorem own_at5 {w : World} {base : Nat} {e : TypeId} {size g cap : Nat} {n : Nat} {xs : List Value} (h : w.ownsRow base e size (.slice (some ⟨g, 0, none⟩) n cap) n xs) (j : Nat) {u : Value} (hu : xs[j]? = some u) : w.cell? ⟨g, j, none⟩ = some u := own_at h j hu
attribute [-go_sem] run_neq_struct run_equalIn_agg in
set_option maxRecDepth 20000 in
set_option maxHeartbeats 8000000 in
theorem alls_any (w : World) (T : Tabs w) (R : Errs w) (s : ByteArray) :
    Calls Tryd.prog 6 #[.string s] w fun x w' => x = .returned (.bool true) ∧ Upd (fun _ => False) w w' := by
  have HAw := Lib.hid (fun (V : World) (hV : Upd (fun _ => False) w V) => awake_any V (T.quiet hV) (R.quiet hV))
  by_cases hlen : 600 < s.size
  · have d1 : decide ((600 : Int) < (s.size : Int)) = true := decide_eq_true (by omega)
    have d1' : decide (600 < s.size) = true := decide_eq_true hlen
    clear T R
    go_enter Tryd.func6, Tryd.ntmps6
    go_wp2_with fail
    refine (HAw.out _ (Upd.refl _ _)).mono ?_
    rintro x w1 ⟨rfl, hu1⟩
    have HU1 := Lib.hid hu1
    clear hu1
    go_wp2_with fail
    refine (HAw.out _ HU1.out).mono ?_
    rintro x w2 ⟨rfl, hu2⟩
    have HU2 := Lib.hid (HU1.out.trans hu2)
    clear hu2
    go_wp2_with fail
    go_ret
    exact ⟨rfl, HU2.out⟩
  · have d1 : decide ((600 : Int) < (s.size : Int)) = false := decide_eq_false (by omega)
    have d1' : decide (600 < s.size) = false := decide_eq_false hlen
    obtain ⟨L, hl⟩ : ∃ L, s.data.toList = L := ⟨_, rfl⟩
    have hLs : s.size = L.length := by rw [← hl]; simp
    have hget : ∀ j (h : j < s.size), L[j]? = some s[j] := fun j h => by
      rw [← hl, Array.getElem?_toList, Array.getElem?_eq_getElem h]
      rfl
    have hLn : s.size ≤ 600 := by omega
    have HAll := Lib.hid (fun (V : World) (hV : Upd (fun _ => False) w V) => all_any V (T.quiet hV) (R.quiet hV) s L hl (by omega))
    have HExt := Lib.hid (fun (a b : Nat) => (by rw [str_eq hl, ext_list] : (s.extract a b).data.toList = (L.drop a).take (b - a)))
    obtain ⟨i0, hi0, hz0, hz1, hz2⟩ := info_parts infoEnt
    have HLs := Lib.hid hLs
    have HGet := Lib.hid hget
    clear T R hl hLs hget
    go_enter Tryd.func6, Tryd.ntmps6
    go_wp2_with fail
    refine (HAw.out _ (Upd.refl _ _)).mono ?_
    rintro x w1 ⟨rfl, hu1⟩
    have HU1 := Lib.hid hu1
    clear hu1
    go_wp2_with fail
    refine (HAll.out _ HU1.out).mono ?_
    rintro x w2 ⟨hu2, hans⟩
    obtain ⟨pa, na, ca, k, f, rfl, htold⟩ := hans.told
    have HTold := Lib.hid htold
    have HU2 := Lib.hid (HU1.out.trans hu2)
    clear hu2 htold hans
    go_wp2_with fail
    go_loopw [6, 7, 8, 30] (fun v fr ln ix wr => ∃ (W : List Ent) (a : Option Addr) (c fm i : Nat), v = .slice a W.length c ∧ fr = .int .i64 (fm : Int) ∧ ln = .int .i64 ((W.length : Int) + 1) ∧ ix = .int .i64 (i : Int) ∧ fm ≤ i ∧ i ≤ s.size ∧ W.length ≤ i ∧ wr.ownsRow w2.heap.size 25 5 (.slice a W.length c) W.length (ecells W) ∧ behind W (alls ((L.drop fm).take (i - fm)) (L.drop i)) = alls [] L ∧ Upd (fun _ => False) w2 wr) (fun _ _ _ ix _ => s.size - (Lib.intOf ix).toNat)
    case atStart => exact ⟨[], none, 0, 0, 0, rfl, rfl, rfl, rfl, Nat.le_refl _, Nat.zero_le _, Nat.le_refl _, ⟨rfl, .inl ⟨rfl, rfl⟩⟩, behind_nil _, Upd.refl _ _⟩
    case round =>
      obtain ⟨W, a, c, fm, i, rfl, rfl, rfl, rfl, hfm, hi, hWi, hO, hb, hU⟩ := hrel
      have HO := Lib.hid hO
      have HB := Lib.hid hb
      have HU := Lib.hid hU
      clear hO hb hU
      by_cases hil : i < s.size
      · obtain ⟨ch, hc⟩ : ∃ ch, s[i] = ch := ⟨_, rfl⟩
        have hlc : L.drop i = ch :: L.drop (i + 1) := by
          have h1 := HGet.out i hil
          have h2 := (List.getElem?_eq_some_iff.1 h1)
          rw [← hc, ← h2.2]
          exact List.drop_eq_getElem_cons h2.1
        have d2 : decide ((i : Int) < (s.size : Int)) = true := decide_eq_true (by omega)
        have d2' : decide (i < s.size) = true := decide_eq_true hil
        have i5 : (0 : Int) ≤ (i : Int) := by omega
        have i6 : (i : Int) < (s.size : Int) := by omega
        have HLc := Lib.hid hlc
        clear hlc
        by_cases h10 : ch = 10
        · have e1 : ((ch.toNat : Int) != 10) = false := by rw [h10]; rfl
          have e1' : ((ch.toNat : Int) == 10) = true := by rw [h10]; rfl
          have j1 : (0 : Int) ≤ (fm : Int) := by omega
          have j2 : (fm : Int) ≤ (i : Int) := by omega
          have j3 : (i : Int) ≤ (s.size : Int) := by omega
          have H10 := Lib.hid h10
          clear h10
          obtain ⟨p, hp⟩ : ∃ p, p = (L.drop fm).take (i - fm) := ⟨_, rfl⟩
          have HPr := Lib.hid (fun (V : World) => parseRef_any V (s.extract fm i) p (by rw [HExt.out, hp]) (by have : (s.extract fm i).size ≤ s.size := by { rw [ByteArray.size_extract]; omega }; omega))
          have hb1 := HB.out
          rw [← hp, HLc.out, H10.out] at hb1
          by_cases hf : fits p
          · obtain ⟨E, hE⟩ : ∃ E, E = made (spl p) := ⟨_, rfl⟩
            have hpr := HPr.out
            rw [show parsedR p = .tuple #[.int .i64 E.op, E.nums, .bool true] by unfold parsedR; rw [if_pos hf, hE]] at hpr
            rw [alls_fit hf, behind_two, ← hE] at hb1
            have HPr1 := Lib.hid hpr
            have HB1 := Lib.hid hb1
            clear hpr hb1 hE hf hp HPr
            go_wp2_with fail
            refine (HPr1.out _).mono ?_
            rintro x w3 ⟨rfl, hu3⟩
            have HO3 := Lib.hid (own_upd HO.out hu3 (fun _ _ h => h))
            have HU3 := Lib.hid (HU.out.trans hu3)
            clear hu3
            go_upto_region 13 with (fail)
            have hbn : Blk (w3.alloc (.cells #[.int .i64 E.n0, .int .i64 E.n1, .int .i64 E.n2, .int .i64 E.n3] 23)) w3.heap.size E.numCells 23 := Blk.made w3 E.numCells 23
            have hu4 := HU3.out.alloc (.cells #[.int .i64 E.n0, .int .i64 E.n1, .int .i64 E.n2, .int .i64 E.n3] 23)
            have ho4 := HO3.out.alloc (.cells #[.int .i64 E.n0, .int .i64 E.n1, .int .i64 E.n2, .int .i64 E.n3] 23)
            generalize w3.alloc (.cells #[.int .i64 E.n0, .int .i64 E.n1, .int .i64 E.n2, .int .i64 E.n3] 23) = w4 at *
            generalize w3.heap.size = nb at *
            have c0 := hbn.cell 0 rfl
            have c1 := hbn.cell 1 rfl
            have c2 := hbn.cell 2 rfl
            have c3 := hbn.cell 3 rfl
            have cl := hbn.lt
            have HU4 := Lib.hid hu4
            have HO4 := Lib.hid ho4
            clear hbn hu4 ho4
            go_wp2_with (first | (at_builtin; refine wpList_append_lies _ rfl _ _ 37 rfl w2.heap.size 25 i0 _ 5 40 Tryd.underlying37 hi0 hz0 hz1 hz2 rfl (by decide) _ W.length (ecells W) rfl (HO4.out.alloc _) ⟨w4.heap.size, 0, none⟩ 1 1 E.cells rfl rfl ?c1 ?c2 (by decide) ?c3 ?c4 ?c5 _ rfl ?_))
            case c1 => exact cells_new w4 E.cells _
            case c2 => exact cells_one E
            case c3 => simp only [maxLen]; omega
            case c4 => omega
            case c5 => have := HU4.out.size; simp only [World.size_alloc]; omega
            intro g5 cap5 w5 hO5 hg5 hat5 hlt5
            have hU5 : Upd (fun _ => False) w2 w5 := (HU4.out.alloc _).grown hg5 (fun k hk hlt => by have := HO4.out.lt k hk; omega)
            rw [← ecells_snoc] at hO5
            have HU5 := Lib.hid hU5
            have HO5 := Lib.hid hO5
            clear hO5 hg5 hat5 hU5 c0 c1 c2 c3
            go_wp2_with fail
            go_roundw
            case rel =>
              refine ⟨W ++ [E], some ⟨g5, 0, none⟩, cap5, i + 1, i + 1, by rw [List.length_append]; rfl, by go_num, by rw [List.length_append]; go_num, by go_num, Nat.le_refl _, by omega, by rw [List.length_append, List.length_singleton]; omega, by rw [List.length_append]; exact HO5.out, ?_, HU5.out⟩
              rw [Nat.sub_self, List.take_zero]
              exact HB1.out
            case measure => simp [Lib.intOf]; omega
          · have hpr := HPr.out
            rw [show parsedR p = .tuple #[.int .i64 0, .agg #[.int .i64 0, .int .i64 0, .int .i64 0, .int .i64 0], .bool false] from parsedR_no hf] at hpr
            rw [alls_not hf] at hb1
            have htold := HTold.out
            rw [← hb1] at htold
            have htold' : na = 0 ∧ k = ((W.length + 0 : Nat) : Int) + 1 ∧ f = 10 := htold
            obtain ⟨rfl, hk, rfl⟩ := htold'
            rw [Nat.add_zero] at hk
            subst hk
            have HPr1 := Lib.hid hpr
            clear hpr hb1 hf hp HPr htold
            go_wp2_with fail
            refine (HPr1.out _).mono ?_
            rintro x w3 ⟨rfl, hu3⟩
            have HU3 := Lib.hid (HU2.out.trans (HU.out.trans hu3))
            clear hu3
            go_wp2_with fail
            go_ret
            exact ⟨rfl, HU3.out.alloc _⟩
        · have e1 : ((ch.toNat : Int) != 10) = true := by
            rw [bne_iff_ne]
            intro h
            apply h10
            apply UInt8.toNat_inj.1
            have e : (10 : UInt8).toNat = 10 := rfl
            omega
          have e1' : ((ch.toNat : Int) == 10) = false := by
            rw [beq_eq_false_iff_ne]
            rw [bne_iff_ne] at e1
            exact e1
          have H10 := Lib.hid h10
          clear h10
          go_wp2_with fail
          go_roundw
          case rel =>
            refine ⟨W, a, c, fm, i + 1, rfl, rfl, rfl, by go_num, by omega, by omega, by omega, HO.out, ?_, HU.out⟩
            have h := HB.out
            rw [HLc.out, alls_char H10.out] at h
            rw [← h]
            congr 2
            rw [show i + 1 - fm = (i - fm) + 1 by omega, List.take_add_one]
            congr 1
            rw [List.getElem?_drop, show fm + (i - fm) = i by omega, HGet.out i hil, hc]
            rfl
          case measure => simp [Lib.intOf]; omega
      · obtain rfl : i = s.size := by omega
        have d2 : decide ((s.size : Int) < (s.size : Int)) = false := decide_eq_false (by omega)
        have hdr : L.drop s.size = [] := List.drop_eq_nil_of_le (by rw [← HLs.out]; exact Nat.le_refl _)
        have hb1 := HB.out
        rw [hdr, alls_stop] at hb1
        have hpl : ((L.drop fm).take (s.size - fm)).length = s.size - fm := by
          rw [List.length_take, List.length_drop, ← HLs.out, Nat.min_self]
        by_cases hfl : fm < s.size
        · rw [if_neg (by intro h; rw [h] at hpl; simp at hpl; omega)] at hb1
          have d3 : decide ((fm : Int) < (s.size : Int)) = true := decide_eq_true (by omega)
          have d3' : decide (fm < s.size) = true := decide_eq_true hfl
          have htold := HTold.out
          rw [← hb1] at htold
          have htold' : na = 0 ∧ k = ((W.length + 0 : Nat) : Int) + 1 ∧ f = 10 := htold
          obtain ⟨rfl, hk, rfl⟩ := htold'
          rw [Nat.add_zero] at hk
          subst hk
          have HU3 := Lib.hid (HU2.out.trans HU.out)
          clear hb1 htold hdr hpl
          go_wp2_with fail
          go_ret
          exact ⟨rfl, HU3.out⟩
        · rw [if_pos (List.eq_nil_of_length_eq_zero (by rw [hpl]; omega))] at hb1
          have d3 : decide ((fm : Int) < (s.size : Int)) = false := decide_eq_false (by omega)
          have d3' : decide (fm < s.size) = false := decide_eq_false hfl
          have htold := HTold.out
          rw [← hb1] at htold
          have htold' : na = (W ++ []).length ∧ k = 0 ∧ f = 0 ∧ w2.ownsRow w1.heap.size 25 5 (.slice pa na ca) na (ecells (W ++ [])) := htold
          rw [List.append_nil] at htold'
          obtain ⟨rfl, rfl, rfl, hOa⟩ := htold'
          have HOa := Lib.hid (own_upd (S := fun _ => False) hOa HU.out (fun _ _ h => h))
          have HU3 := Lib.hid (HU2.out.trans HU.out)
          clear hb1 htold hdr hpl hOa
          go_wp2_with fail
          go_loopw [102] (fun ix wl => ∃ i : Nat, i ≤ W.length ∧ ix = .int .i64 (i : Int) ∧ Upd (fun _ => False) wr wl) (fun ix _ => W.length - (Lib.intOf ix).toNat)
          case atStart => exact ⟨0, Nat.zero_le _, rfl, Upd.refl _ _⟩
          case round =>
            obtain ⟨i, hi2, rfl, hU4⟩ := hrel
            have HU4 := Lib.hid hU4
            clear hU4
            by_cases hil : i < W.length
            · obtain ⟨e, he⟩ : ∃ e, W[i]? = some e := ⟨_, List.getElem?_eq_getElem hil⟩
              obtain ⟨ga, ca', hpa, hga⟩ := own_some HOa.out (by omega)
              obtain ⟨gb, cb', hpb, hgb⟩ := own_some HO.out (by omega)
              injection hpa with hpa1 _ hpa2
              injection hpb with hpb1 _ hpb2
              subst hpa1 hpb1 hpa2 hpb2
              have xa : ∀ q, q < 5 → ∀ u, e.cells[q]? = some u → wr.cell? ⟨ga, i * 5 + q, none⟩ = some u := fun q hq u hu => keepC HU4.out (own_at5 HOa.out (i * 5 + q) (by rw [ecells_at W i e he q hq]; exact hu))
              have xb : ∀ q, q < 5 → ∀ u, e.cells[q]? = some u → wr.cell? ⟨gb, i * 5 + q, none⟩ = some u := fun q hq u hu => keepC HU4.out (own_at5 HO.out (i * 5 + q) (by rw [ecells_at W i e he q hq]; exact hu))
              have a0 : wr.cell? ⟨ga, i * 5, none⟩ = some (.int .i64 e.op) := xa 0 (by decide) _ rfl
              have a1 := xa 1 (by decide) _ rfl
              have a2 := xa 2 (by decide) _ rfl
              have a3 := xa 3 (by decide) _ rfl
              have a4 := xa 4 (by decide) _ rfl
              have b0 : wr.cell? ⟨gb, i * 5, none⟩ = some (.int .i64 e.op) := xb 0 (by decide) _ rfl
              have b1 := xb 1 (by decide) _ rfl
              have b2 := xb 2 (by decide) _ rfl
              have b3 := xb 3 (by decide) _ rfl
              have b4 := xb 4 (by decide) _ rfl
              have heq : ∀ V : World, (binOp .neq 25 (.agg #[.int .i64 e.op, .int .i64 e.n0, .int .i64 e.n1, .int .i64 e.n2, .int .i64 e.n3]) (.agg #[.int .i64 e.op, .int .i64 e.n0, .int .i64 e.n1, .int .i64 e.n2, .int .i64 e.n3])).run Tryd.prog V = .ok (.bool false) V := fun V => ent_ne V e
              have d4 : decide ((i : Int) < (W.length : Int)) = true := decide_eq_true (by omega)
              have d4' : decide (i < W.length) = true := decide_eq_true hil
              have i5 : (0 : Int) ≤ (i : Int) := by omega
              have i6 : (i : Int) < (W.length : Int) := by omega
              clear xa xb he
              go_wp2_with fail
              refine wp_region_held_drew (S := (fun V => V.cell? ⟨ga, i * 5, none⟩ = some (.int .i64 e.op) ∧ V.cell? ⟨ga, i * 5 + 1, none⟩ = some (.int .i64 e.n0) ∧ V.cell? ⟨ga, i * 5 + 2, none⟩ = some (.int .i64 e.n1) ∧ V.cell? ⟨ga, i * 5 + 3, none⟩ = some (.int .i64 e.n2) ∧ V.cell? ⟨ga, i * 5 + 4, none⟩ = some (.int .i64 e.n3) ∧ V.cell? ⟨gb, i * 5, none⟩ = some (.int .i64 e.op) ∧ V.cell? ⟨gb, i * 5 + 1, none⟩ = some (.int .i64 e.n0) ∧ V.cell? ⟨gb, i * 5 + 2, none⟩ = some (.int .i64 e.n1) ∧ V.cell? ⟨gb, i * 5 + 3, none⟩ = some (.int .i64 e.n2) ∧ V.cell? ⟨gb, i * 5 + 4, none⟩ = some (.int .i64 e.n3))) (by kernel_rfl) ⟨a0, a1, a2, a3, a4, b0, b1, b2, b3, b4⟩ (fun hHeld => ?_)
              simp only [List.size_toArray, List.length_cons, List.length_nil, Nat.reduceAdd]
              refine take_any (i := 0) (v := ?_) (by rfl) (by kernel_rfl) (by exact (fun _ _ _ h => h)) (by rfl) hHeld ?_ ?_
              rotate_left
              · ((intro V hV; obtain ⟨hV0, hV1, hV2, hV3, hV4, hV5, hV6, hV7, hV8, hV9⟩ := hV; go_simp) <;> (with_reducible rfl))
              try simp only [Act.put, List.getElem?_toArray, List.getElem?_cons_succ, List.getElem?_cons_zero, List.getElem_toArray, List.getElem_cons_succ, List.getElem_cons_zero, List.setIfInBounds_toArray, List.set_cons_zero, List.set_cons_succ]
              refine take_any (i := 1) (v := ?_) (by rfl) (by kernel_rfl) (by exact (fun _ _ _ h => h)) (by rfl) hHeld ?_ ?_
              rotate_left
              · ((intro V hV; obtain ⟨hV0, hV1, hV2, hV3, hV4, hV5, hV6, hV7, hV8, hV9⟩ := hV; go_simp) <;> (with_reducible rfl))
              try simp only [Act.put, List.getElem?_toArray, List.getElem?_cons_succ, List.getElem?_cons_zero, List.getElem_toArray, List.getElem_cons_succ, List.getElem_cons_zero, List.setIfInBounds_toArray, List.set_cons_zero, List.set_cons_succ]
              refine take_any (i := 2) (v := ?_) (by rfl) (by kernel_rfl) (by exact (fun _ _ _ h => h)) (by rfl) hHeld ?_ ?_
              rotate_left
              · ((intro V hV; obtain ⟨hV0, hV1, hV2, hV3, hV4, hV5, hV6, hV7, hV8, hV9⟩ := hV; go_simp) <;> (with_reducible rfl))
              try simp only [Act.put, List.getElem?_toArray, List.getElem?_cons_succ, List.getElem?_cons_zero, List.getElem_toArray, List.getElem_cons_succ, List.getElem_cons_zero, List.setIfInBounds_toArray, List.set_cons_zero, List.set_cons_succ]
              refine take_any (i := 3) (v := ?_) (by rfl) (by kernel_rfl) (by exact (fun _ _ _ h => h)) (by rfl) hHeld ?_ ?_
              rotate_left
              · ((intro V hV; obtain ⟨hV0, hV1, hV2, hV3, hV4, hV5, hV6, hV7, hV8, hV9⟩ := hV; go_simp) <;> (with_reducible rfl))
              try simp only [Act.put, List.getElem?_toArray, List.getElem?_cons_succ, List.getElem?_cons_zero, List.getElem_toArray, List.getElem_cons_succ, List.getElem_cons_zero, List.setIfInBounds_toArray, List.set_cons_zero, List.set_cons_succ]
              refine take_any (i := 4) (v := ?_) (by rfl) (by kernel_rfl) (by exact (fun _ _ _ h => h)) (by rfl) hHeld ?_ ?_
              rotate_left
              · ((intro V hV; obtain ⟨hV0, hV1, hV2, hV3, hV4, hV5, hV6, hV7, hV8, hV9⟩ := hV; go_simp) <;> (with_reducible rfl))
              try simp only [Act.put, List.getElem?_toArray, List.getElem?_cons_succ, List.getElem?_cons_zero, List.getElem_toArray, List.getElem_cons_succ, List.getElem_cons_zero, List.setIfInBounds_toArray, List.set_cons_zero, List.set_cons_succ]
              refine take_any (i := 5) (v := ?_) (by rfl) (by kernel_rfl) (by exact (fun _ _ _ h => h)) (by rfl) hHeld ?_ ?_
              rotate_left
              · ((intro V hV; obtain ⟨hV0, hV1, hV2, hV3, hV4, hV5, hV6, hV7, hV8, hV9⟩ := hV; go_simp) <;> (with_reducible rfl))
              try simp only [Act.put, List.getElem?_toArray, List.getElem?_cons_succ, List.getElem?_cons_zero, List.getElem_toArray, List.getElem_cons_succ, List.getElem_cons_zero, List.setIfInBounds_toArray, List.set_cons_zero, List.set_cons_succ]
              refine take_any (i := 6) (v := ?_) (by rfl) (by kernel_rfl) (by exact (fun _ _ _ h => h)) (by rfl) hHeld ?_ ?_
              rotate_left
              · ((intro V hV; obtain ⟨hV0, hV1, hV2, hV3, hV4, hV5, hV6, hV7, hV8, hV9⟩ := hV; go_simp) <;> (with_reducible rfl))
              try simp only [Act.put, List.getElem?_toArray, List.getElem?_cons_succ, List.getElem?_cons_zero, List.getElem_toArray, List.getElem_cons_succ, List.getElem_cons_zero, List.setIfInBounds_toArray, List.set_cons_zero, List.set_cons_succ]
              refine take_any (i := 7) (v := ?_) (by rfl) (by kernel_rfl) (by exact (fun _ _ _ h => h)) (by rfl) hHeld ?_ ?_
              rotate_left
              · ((intro V hV; obtain ⟨hV0, hV1, hV2, hV3, hV4, hV5, hV6, hV7, hV8, hV9⟩ := hV; go_simp) <;> (with_reducible rfl))
              try simp only [Act.put, List.getElem?_toArray, List.getElem?_cons_succ, List.getElem?_cons_zero, List.getElem_toArray, List.getElem_cons_succ, List.getElem_cons_zero, List.setIfInBounds_toArray, List.set_cons_zero, List.set_cons_succ]
              refine take_any (i := 8) (v := ?_) (by rfl) (by kernel_rfl) (by exact (fun _ _ _ h => h)) (by rfl) hHeld ?_ ?_
              rotate_left
              · ((intro V hV; obtain ⟨hV0, hV1, hV2, hV3, hV4, hV5, hV6, hV7, hV8, hV9⟩ := hV; go_simp) <;> (with_reducible rfl))
              try simp only [Act.put, List.getElem?_toArray, List.getElem?_cons_succ, List.getElem?_cons_zero, List.getElem_toArray, List.getElem_cons_succ, List.getElem_cons_zero, List.setIfInBounds_toArray, List.set_cons_zero, List.set_cons_succ]
              refine wpAnyH_done (by kernel_rfl) ?_ _
              go_wp2_with fail
              go_roundw
              case rel => exact ⟨i + 1, by omega, by go_num, HU4.out.drew⟩
              case measure => simp [Lib.intOf]; omega
            · obtain rfl : i = W.length := by omega
              have d4 : decide ((W.length : Int) < (W.length : Int)) = false := decide_eq_false (by omega)
              go_wp2_with fail
              go_ret
              exact ⟨rfl, HU3.out.trans HU4.out⟩
end Go.Proofs.YtlphlaenecidiaaDoor.Scr
