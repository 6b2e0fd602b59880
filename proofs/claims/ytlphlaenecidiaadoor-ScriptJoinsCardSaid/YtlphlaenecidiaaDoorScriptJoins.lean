/- The law ScriptJoins: the walk. -/
import Derived.Test.YtlphlaenecidiaaDoorScriptAlls
set_option linter.unusedSimpArgs false
namespace Go.Proofs.YtlphlaenecidiaaDoor.Scr
open Go.RowKit Go.Proofs.YtlphlaenecidiaaDoor.Mem

theorem own_src {w : World} {base : Nat} {e : TypeId} {size n c : Nat} {p : Option Addr} {xs : List Value} (h : w.ownsRow base e size (.slice p n c) n xs) : SrcAt w p xs := by
  intro j u hu
  rcases h.2 with ⟨hv, hn⟩ | ⟨g, cap, cur, hv, _⟩
  · have := h.1
    rw [hn, Nat.zero_mul] at this
    rw [List.eq_nil_of_length_eq_zero this] at hu
    cases hu
  · simp only [Value.slice.injEq] at hv
    obtain ⟨rfl, _, rfl⟩ := hv
    refine ⟨_, rfl, ?_⟩
    have hadd : (⟨g, 0, none⟩ : Addr).add j = ⟨g, j, none⟩ := by unfold Addr.add; split <;> simp_all
    rw [hadd]
    exact own_at h j hu
theorem alls_len : ∀ (l p : List UInt8) (es : List Ent), alls p l = .ok es → es.length ≤ l.length
  | [], p, es, h => by
    rw [alls_stop] at h
    split at h
    · injection h with h; subst h; exact Nat.le_refl _
    · cases h
  | c :: l, p, es, h => by
    by_cases hc : c = 10
    · subst hc
      by_cases hf : fits p
      · rw [alls_fit hf] at h
        cases ha : alls [] l with
        | error k => rw [ha] at h; cases h
        | ok fs =>
          rw [ha] at h
          injection h with h
          have := alls_len l [] fs ha
          rw [← h, List.length_append, List.length_singleton, List.length_cons]
          omega
      · rw [alls_not hf] at h; cases h
    · rw [alls_char hc] at h
      have := alls_len l _ es h
      rw [List.length_cons]; omega
theorem alls_lenE : ∀ (l p : List UInt8) (k : Nat), alls p l = .error k → k ≤ l.length
  | [], p, k, h => by
    rw [alls_stop] at h
    split at h
    · cases h
    · injection h with h; omega
  | c :: l, p, k, h => by
    by_cases hc : c = 10
    · subst hc
      by_cases hf : fits p
      · rw [alls_fit hf] at h
        cases ha : alls [] l with
        | ok fs => rw [ha] at h; cases h
        | error j =>
          rw [ha] at h
          injection h with h
          have := alls_lenE l [] j ha
          rw [← h, List.length_singleton, List.length_cons]
          omega
      · rw [alls_not hf] at h
        injection h with h
        omega
    · rw [alls_char hc] at h
      have := alls_lenE l _ k h
      rw [List.length_cons]; omega
theorem ecells_one (es : List Ent) : ∀ u ∈ ecells es, u.oneCell' = true := by
  intro u hu
  obtain ⟨E, _, h⟩ := List.mem_flatMap.1 hu
  exact cells_one E u h
attribute [-go_sem] run_neq_struct run_equalIn_agg in
set_option maxRecDepth 20000 in
set_option maxHeartbeats 8000000 in
theorem joins_any (w : World) (T : Tabs w) (R : Errs w) (s t : ByteArray) :
    Calls Tryd.prog 7 #[.string s, .string t] w fun x w' => x = .returned (.bool true) ∧ Upd (fun _ => False) w w' := by
  have HAw := Lib.hid (fun (V : World) (hV : Upd (fun _ => False) w V) => awake_any V (T.quiet hV) (R.quiet hV))
  by_cases hlen : 300 < s.size ∨ 300 < t.size
  · by_cases hs : 300 < s.size
    · have d1 : decide ((300 : Int) < (s.size : Int)) = true := decide_eq_true (by omega)
      have d1' : decide (300 < s.size) = true := decide_eq_true hs
      clear T R
      go_enter Tryd.func7, Tryd.ntmps7
      go_wp2_with fail
      refine (HAw.out _ (Upd.refl _ _)).mono ?_
      rintro x w1 ⟨rfl, hu1⟩
      have HU1 := Lib.hid hu1
      clear hu1
      go_wp2_with fail
      refine (HAw.out _ HU1.out).mono ?_
      rintro x w2 ⟨rfl, hu2⟩
      have HU2 := Lib.hid (HU1.out.trans hu2)
      clear hu2
      go_wp2_with fail
      go_ret
      exact ⟨rfl, HU2.out⟩
    · have ht : 300 < t.size := by omega
      have d1 : decide ((300 : Int) < (s.size : Int)) = false := decide_eq_false (by omega)
      have d1' : decide (300 < s.size) = false := decide_eq_false hs
      have d2 : decide ((300 : Int) < (t.size : Int)) = true := decide_eq_true (by omega)
      have d2' : decide (300 < t.size) = true := decide_eq_true ht
      clear T R
      go_enter Tryd.func7, Tryd.ntmps7
      go_wp2_with fail
      refine (HAw.out _ (Upd.refl _ _)).mono ?_
      rintro x w1 ⟨rfl, hu1⟩
      have HU1 := Lib.hid hu1
      clear hu1
      go_wp2_with fail
      refine (HAw.out _ HU1.out).mono ?_
      rintro x w2 ⟨rfl, hu2⟩
      have HU2 := Lib.hid (HU1.out.trans hu2)
      clear hu2
      go_wp2_with fail
      go_ret
      exact ⟨rfl, HU2.out⟩
  · have hs : ¬ 300 < s.size := fun h => hlen (.inl h)
    have ht : ¬ 300 < t.size := fun h => hlen (.inr h)
    have d1 : decide ((300 : Int) < (s.size : Int)) = false := decide_eq_false (by omega)
    have d1' : decide (300 < s.size) = false := decide_eq_false hs
    have d2 : decide ((300 : Int) < (t.size : Int)) = false := decide_eq_false (by omega)
    have d2' : decide (300 < t.size) = false := decide_eq_false ht
    obtain ⟨A, ha⟩ : ∃ A, s.data.toList = A := ⟨_, rfl⟩
    obtain ⟨B, hb⟩ : ∃ B, t.data.toList = B := ⟨_, rfl⟩
    have hA : s.size = A.length := by rw [← ha]; simp
    have hB : t.size = B.length := by rw [← hb]; simp
    have hget : ∀ j (h : j < s.size), A[j]? = some s[j] := fun j h => by
      rw [← ha, Array.getElem?_toList, Array.getElem?_eq_getElem h]
      rfl
    have HA1 := Lib.hid (fun (V : World) (hV : Upd (fun _ => False) w V) => all_any V (T.quiet hV) (R.quiet hV) s A ha (by omega))
    have HA2 := Lib.hid (fun (V : World) (hV : Upd (fun _ => False) w V) => all_any V (T.quiet hV) (R.quiet hV) t B hb (by omega))
    have HA3 := Lib.hid (fun (V : World) (hV : Upd (fun _ => False) w V) => all_any V (T.quiet hV) (R.quiet hV) (s ++ t) (A ++ B) (by rw [ByteArray.data_append, Array.toList_append, ha, hb]) (by rw [ByteArray.size_append]; omega))
    obtain ⟨i0, hi0, hz0, hz1, hz2⟩ := info_parts infoEnt
    have q1 : ¬ 9223372036854775807 < s.size + t.size := by omega
    have hAl : A.length ≤ 300 := by omega
    have hBl : B.length ≤ 300 := by omega
    have HA := Lib.hid hA
    have HGet := Lib.hid hget
    clear T R ha hb hA hB hget hlen
    go_enter Tryd.func7, Tryd.ntmps7
    go_wp2_with fail
    refine (HAw.out _ (Upd.refl _ _)).mono ?_
    rintro x w1 ⟨rfl, hu1⟩
    have HU1 := Lib.hid hu1
    clear hu1
    go_wp2_with fail
    refine (HA1.out _ HU1.out).mono ?_
    rintro x w2 ⟨hu2, hans⟩
    obtain ⟨p1, n1, c1, k1, f1, rfl, ht1⟩ := hans.told
    have HT1 := Lib.hid ht1
    have HU2 := Lib.hid (HU1.out.trans hu2)
    clear hu2 ht1 hans
    go_wp2_with fail
    refine (HA2.out _ HU2.out).mono ?_
    rintro x w3 ⟨hu3, hans⟩
    obtain ⟨p2, n2, c2, k2, f2, rfl, ht2⟩ := hans.told
    have HT2 := Lib.hid ht2
    have HU3 := Lib.hid (HU2.out.trans hu3)
    have HUa := Lib.hid hu3
    clear hu3 ht2 hans
    go_wp2_with fail
    refine (HA3.out _ HU3.out).mono ?_
    rintro x w4 ⟨hu4, hans⟩
    obtain ⟨p3, n3, c3, k3, f3, rfl, ht3⟩ := hans.told
    have HT3 := Lib.hid ht3
    have HU4 := Lib.hid (HU3.out.trans hu4)
    have HUb := Lib.hid hu4
    clear hu4 ht3 hans
    cases hx1 : alls [] A with
    | error k =>
      have t1 := HT1.out
      rw [hx1] at t1
      have t1' : n1 = 0 ∧ k1 = (k : Int) + 1 ∧ f1 = 10 := t1
      obtain ⟨rfl, rfl, rfl⟩ := t1'
      have g0 : decide ((0 : Int) < (k : Int) + 1) = true := decide_eq_true (by omega)
      cases hx3 : alls [] (A ++ B) with
      | error j =>
        have t3 := HT3.out
        rw [hx3] at t3
        have t3' : n3 = 0 ∧ k3 = (j : Int) + 1 ∧ f3 = 10 := t3
        obtain ⟨rfl, rfl, rfl⟩ := t3'
        clear t1 t3 hx1 hx3
        go_wp2_with fail
        go_ret
        exact ⟨rfl, HU4.out⟩
      | ok gs =>
        have t3 := HT3.out
        rw [hx3] at t3
        have t3' : n3 = gs.length ∧ k3 = 0 ∧ f3 = 0 ∧ w4.ownsRow w3.heap.size 25 5 (.slice p3 n3 c3) n3 (ecells gs) := t3
        obtain ⟨rfl, rfl, rfl, _⟩ := t3'
        have hA0 : A ≠ [] := fun h => by subst h; rw [alls_stop, if_pos rfl] at hx1; cases hx1
        have hpos : 0 < A.length := List.length_pos_iff.2 hA0
        have hs0 : s.size - 1 < s.size := by have := HA.out; omega
        obtain ⟨ch, hc⟩ : ∃ ch, s[s.size - 1]'hs0 = ch := ⟨_, rfl⟩
        have hne : ch ≠ 10 := fun h => by
          have hl : A.getLast? = some 10 := by
            rw [List.getLast?_eq_getElem?, ← HA.out, HGet.out _ hs0, hc, h]
          have := alls_err A [] B k hx1 hl
          rw [this] at hx3
          cases hx3
        have e1 : ((ch.toNat : Int) != 10) = true := by
          rw [bne_iff_ne]
          intro h
          apply hne
          apply UInt8.toNat_inj.1
          have e : (10 : UInt8).toNat = 10 := rfl
          omega
        have hsz : 0 < s.size := by have := HA.out; omega
        obtain ⟨z, hz⟩ : ∃ z, s.size = z + 1 := ⟨s.size - 1, by omega⟩
        clear t1 t3 hx1 hx3 hne
        have s1 : IntKind.i64.wrap ((s.size : Int) - 1) = ((s.size - 1 : Nat) : Int) := by rw [IntWalk.i64_in _ (by omega)]; omega
        have i1 : (0 : Int) ≤ ((s.size - 1 : Nat) : Int) := by omega
        have i2 : ((s.size - 1 : Nat) : Int) < (s.size : Int) := by omega
        clear hz
        go_wp2_with fail
        go_ret
        exact ⟨rfl, HU4.out⟩
    | ok es =>
      have t1 := HT1.out
      rw [hx1] at t1
      have t1' : n1 = es.length ∧ k1 = 0 ∧ f1 = 0 ∧ w2.ownsRow w1.heap.size 25 5 (.slice p1 n1 c1) n1 (ecells es) := t1
      obtain ⟨rfl, rfl, rfl, ho1⟩ := t1'
      have happ := alls_app A [] B es hx1
      have hle := alls_len A [] es hx1
      cases hx2 : alls [] B with
      | error k =>
        have hlk := alls_lenE B [] k hx2
        rw [hx2] at happ
        have t2 := HT2.out
        rw [hx2] at t2
        have t2' : n2 = 0 ∧ k2 = (k : Int) + 1 ∧ f2 = 10 := t2
        obtain ⟨rfl, rfl, rfl⟩ := t2'
        have t3 := HT3.out
        rw [happ] at t3
        have t3' : n3 = 0 ∧ k3 = ((es.length + k : Nat) : Int) + 1 ∧ f3 = 10 := t3
        obtain ⟨rfl, rfl, rfl⟩ := t3'
        clear t1 t2 t3 hx1 hx2 happ ho1
        have s1 : IntKind.i64.wrap ((es.length : Int) + ((k : Int) + 1)) = ((es.length + k : Nat) : Int) + 1 := by rw [IntWalk.i64_in _ (by omega)]; omega
        go_wp2_with fail
        go_ret
        exact ⟨rfl, HU4.out⟩
      | ok fs =>
        have hlf := alls_len B [] fs hx2
        rw [hx2] at happ
        have t2 := HT2.out
        rw [hx2] at t2
        have t2' : n2 = fs.length ∧ k2 = 0 ∧ f2 = 0 ∧ w3.ownsRow w2.heap.size 25 5 (.slice p2 n2 c2) n2 (ecells fs) := t2
        obtain ⟨rfl, rfl, rfl, ho2⟩ := t2'
        have t3 := HT3.out
        rw [happ] at t3
        have t3' : n3 = (es ++ fs).length ∧ k3 = 0 ∧ f3 = 0 ∧ w4.ownsRow w3.heap.size 25 5 (.slice p3 n3 c3) n3 (ecells (es ++ fs)) := t3
        obtain ⟨hn3, rfl, rfl, ho3⟩ := t3'
        rw [List.length_append] at hn3
        subst hn3
        have HS1 := Lib.hid ((own_src ho1).quiet (HUa.out.trans HUb.out))
        have HS2 := Lib.hid ((own_src ho2).quiet HUb.out)
        have HO3 := Lib.hid ho3
        have s1 : IntKind.i64.wrap ((es.length : Int) + (fs.length : Int)) = ((es.length + fs.length : Nat) : Int) := by rw [IntWalk.i64_in _ (by omega)]; omega
        clear t1 t2 t3 hx1 hx2 happ ho1 ho2 ho3
        go_wp2_with (first | (at_builtin; refine wpList_app _ rfl _ _ 37 rfl w4.heap.size 25 i0 _ 5 40 Tryd.underlying37 hi0 hz0 hz1 hz2 rfl (by decide) _ 0 [] rfl (own_empty w4 25 5 w4.heap.size (Nat.le_refl _)) p1 es.length c1 (ecells es) rfl ?c1 ?c2 ?c3 ?c4 ?c5 ?c6 ?_))
        case c1 => exact ecells_len es
        case c2 => exact HS1.out.quiet ((Upd.refl _ w4).alloc _)
        case c3 => exact ecells_one es
        case c4 => simp only [maxLen]; omega
        case c5 => omega
        case c6 => simp only [World.size_alloc]; omega
        intro v5 w5 hO5 hg5 hat5
        obtain ⟨a5, c5, rfl⟩ := own_form hO5
        have hu5 : Upd (fun _ => False) w4 w5 := ((Upd.refl _ w4).alloc _).grown hg5 (fun k hk hlt => by injection hk with hk; have hk' : w4.heap.size = k := hk; omega)
        have HO5 := Lib.hid hO5
        have HU5 := Lib.hid hu5
        clear hO5 hu5 hg5 hat5
        go_wp2_with (first | (at_builtin; refine wpList_app _ rfl _ _ 37 rfl w4.heap.size 25 i0 _ 5 40 Tryd.underlying37 hi0 hz0 hz1 hz2 rfl (by decide) _ es.length (ecells es) rfl HO5.out p2 fs.length c2 (ecells fs) rfl ?c1 ?c2 ?c3 ?c4 ?c5 ?c6 ?_))
        case c1 => exact ecells_len fs
        case c2 => exact HS2.out.quiet HU5.out
        case c3 => exact ecells_one fs
        case c4 => simp only [maxLen]; omega
        case c5 => omega
        case c6 => exact HU5.out.size
        intro v6 w6 hO6 hg6 hat6
        obtain ⟨a6, c6, rfl⟩ := own_form hO6
        rw [← ecells_app] at hO6
        have hu6 : Upd (fun _ => False) w4 w6 := HU5.out.grown hg6 (fun k hk hlt => by have := HO5.out.lt k hk; omega)
        obtain ⟨W, hW⟩ : ∃ W, W = es ++ fs := ⟨_, rfl⟩
        have hWl : es.length + fs.length = W.length := by rw [hW, List.length_append]
        have ho3' := own_upd (S := fun _ => False) HO3.out hu6 (fun _ _ h => h)
        rw [← hW, hWl] at hO6 ho3'
        rw [hWl]
        have HO6 := Lib.hid hO6
        have HOa := Lib.hid ho3'
        have HU6 := Lib.hid (HU4.out.trans hu6)
        clear hO6 hu6 hg6 hat6 ho3' HO3 s1 hWl hle hlf hW
        go_wp2_with fail
        go_loopw [112] (fun ix wl => ∃ i : Nat, i ≤ W.length ∧ ix = .int .i64 (i : Int) ∧ Upd (fun _ => False) w6 wl) (fun ix _ => W.length - (Lib.intOf ix).toNat)
        case atStart => exact ⟨0, Nat.zero_le _, rfl, Upd.refl _ _⟩
        case round =>
          obtain ⟨i, hi2, rfl, hU7⟩ := hrel
          have HU7 := Lib.hid hU7
          clear hU7
          by_cases hil : i < W.length
          · obtain ⟨e, he⟩ : ∃ e, W[i]? = some e := ⟨_, List.getElem?_eq_getElem hil⟩
            obtain ⟨ga, ca', hpa, hga⟩ := own_some HOa.out (by omega)
            obtain ⟨gb, cb', hpb, hgb⟩ := own_some HO6.out (by omega)
            injection hpa with hpa1 _ hpa2
            injection hpb with hpb1 _ hpb2
            subst hpa1 hpb1 hpa2 hpb2
            have xa : ∀ q, q < 5 → ∀ u, e.cells[q]? = some u → wr.cell? ⟨ga, i * 5 + q, none⟩ = some u := fun q hq u hu => keepC HU7.out (own_at5 HOa.out (i * 5 + q) (by rw [ecells_at W i e he q hq]; exact hu))
            have xb : ∀ q, q < 5 → ∀ u, e.cells[q]? = some u → wr.cell? ⟨gb, i * 5 + q, none⟩ = some u := fun q hq u hu => keepC HU7.out (own_at5 HO6.out (i * 5 + q) (by rw [ecells_at W i e he q hq]; exact hu))
            have b0 : wr.cell? ⟨gb, i * 5, none⟩ = some (.int .i64 e.op) := xb 0 (by decide) _ rfl
            have b1 := xb 1 (by decide) _ rfl
            have b2 := xb 2 (by decide) _ rfl
            have b3 := xb 3 (by decide) _ rfl
            have b4 := xb 4 (by decide) _ rfl
            have heq : ∀ V : World, (binOp .neq 25 (.agg #[.int .i64 e.op, .int .i64 e.n0, .int .i64 e.n1, .int .i64 e.n2, .int .i64 e.n3]) (.agg #[.int .i64 e.op, .int .i64 e.n0, .int .i64 e.n1, .int .i64 e.n2, .int .i64 e.n3])).run Tryd.prog V = .ok (.bool false) V := fun V => ent_ne V e
            have d4 : decide ((i : Int) < (W.length : Int)) = true := decide_eq_true (by omega)
            have d4' : decide (i < W.length) = true := decide_eq_true hil
            have i5 : (0 : Int) ≤ (i : Int) := by omega
            have i6 : (i : Int) < (W.length : Int) := by omega
            have HXa := Lib.hid xa
            clear xa xb he
            go_upto_region 15 with (fail)
            have hbe : Blk (wr.alloc (.cells #[.int .i64 e.op, .int .i64 e.n0, .int .i64 e.n1, .int .i64 e.n2, .int .i64 e.n3] 25)) wr.heap.size e.cells 25 := Blk.made wr e.cells 25
            have hu8 : Upd (fun _ => False) wr (wr.alloc (.cells #[.int .i64 e.op, .int .i64 e.n0, .int .i64 e.n1, .int .i64 e.n2, .int .i64 e.n3] 25)) := (Upd.refl _ wr).alloc (.cells #[.int .i64 e.op, .int .i64 e.n0, .int .i64 e.n1, .int .i64 e.n2, .int .i64 e.n3] 25)
            generalize wr.alloc (.cells #[.int .i64 e.op, .int .i64 e.n0, .int .i64 e.n1, .int .i64 e.n2, .int .i64 e.n3] 25) = w8 at *
            generalize wr.heap.size = eb at *
            have a0 : w8.cell? ⟨ga, i * 5, none⟩ = some (.int .i64 e.op) := keepC hu8 (HXa.out 0 (by decide) _ rfl)
            have a1 := keepC hu8 (HXa.out 1 (by decide) _ rfl)
            have a2 := keepC hu8 (HXa.out 2 (by decide) _ rfl)
            have a3 := keepC hu8 (HXa.out 3 (by decide) _ rfl)
            have a4 := keepC hu8 (HXa.out 4 (by decide) _ rfl)
            have e0 := hbe.cell 0 rfl
            have e1 := hbe.cell 1 rfl
            have e2 := hbe.cell 2 rfl
            have e3 := hbe.cell 3 rfl
            have e4 := hbe.cell 4 rfl
            have HU8 := Lib.hid (HU7.out.trans hu8)
            clear hu8 hbe b0 b1 b2 b3 b4
            refine wp_region_held_drew (S := (fun V => V.cell? ⟨ga, i * 5, none⟩ = some (.int .i64 e.op) ∧ V.cell? ⟨ga, i * 5 + 1, none⟩ = some (.int .i64 e.n0) ∧ V.cell? ⟨ga, i * 5 + 2, none⟩ = some (.int .i64 e.n1) ∧ V.cell? ⟨ga, i * 5 + 3, none⟩ = some (.int .i64 e.n2) ∧ V.cell? ⟨ga, i * 5 + 4, none⟩ = some (.int .i64 e.n3) ∧ V.cell? ⟨eb, 0, none⟩ = some (.int .i64 e.op) ∧ V.cell? ⟨eb, 1, none⟩ = some (.int .i64 e.n0) ∧ V.cell? ⟨eb, 2, none⟩ = some (.int .i64 e.n1) ∧ V.cell? ⟨eb, 3, none⟩ = some (.int .i64 e.n2) ∧ V.cell? ⟨eb, 4, none⟩ = some (.int .i64 e.n3))) (by kernel_rfl) ⟨a0, a1, a2, a3, a4, e0, e1, e2, e3, e4⟩ (fun hHeld => ?_)
            simp only [List.size_toArray, List.length_cons, List.length_nil, Nat.reduceAdd]
            refine take_any (i := 0) (v := ?_) (by rfl) (by kernel_rfl) (by exact (fun _ _ _ h => h)) (by rfl) hHeld ?_ ?_
            rotate_left
            · ((intro V hV; obtain ⟨hV0, hV1, hV2, hV3, hV4, hV5, hV6, hV7, hV8, hV9⟩ := hV; go_simp) <;> (with_reducible rfl))
            try simp only [Act.put, List.getElem?_toArray, List.getElem?_cons_succ, List.getElem?_cons_zero, List.getElem_toArray, List.getElem_cons_succ, List.getElem_cons_zero, List.setIfInBounds_toArray, List.set_cons_zero, List.set_cons_succ]
            refine take_any (i := 1) (v := ?_) (by rfl) (by kernel_rfl) (by exact (fun _ _ _ h => h)) (by rfl) hHeld ?_ ?_
            rotate_left
            · ((intro V hV; obtain ⟨hV0, hV1, hV2, hV3, hV4, hV5, hV6, hV7, hV8, hV9⟩ := hV; go_simp) <;> (with_reducible rfl))
            try simp only [Act.put, List.getElem?_toArray, List.getElem?_cons_succ, List.getElem?_cons_zero, List.getElem_toArray, List.getElem_cons_succ, List.getElem_cons_zero, List.setIfInBounds_toArray, List.set_cons_zero, List.set_cons_succ]
            refine take_any (i := 2) (v := ?_) (by rfl) (by kernel_rfl) (by exact (fun _ _ _ h => h)) (by rfl) hHeld ?_ ?_
            rotate_left
            · ((intro V hV; obtain ⟨hV0, hV1, hV2, hV3, hV4, hV5, hV6, hV7, hV8, hV9⟩ := hV; go_simp) <;> (with_reducible rfl))
            try simp only [Act.put, List.getElem?_toArray, List.getElem?_cons_succ, List.getElem?_cons_zero, List.getElem_toArray, List.getElem_cons_succ, List.getElem_cons_zero, List.setIfInBounds_toArray, List.set_cons_zero, List.set_cons_succ]
            refine take_any (i := 3) (v := ?_) (by rfl) (by kernel_rfl) (by exact (fun _ _ _ h => h)) (by rfl) hHeld ?_ ?_
            rotate_left
            · ((intro V hV; obtain ⟨hV0, hV1, hV2, hV3, hV4, hV5, hV6, hV7, hV8, hV9⟩ := hV; go_simp) <;> (with_reducible rfl))
            try simp only [Act.put, List.getElem?_toArray, List.getElem?_cons_succ, List.getElem?_cons_zero, List.getElem_toArray, List.getElem_cons_succ, List.getElem_cons_zero, List.setIfInBounds_toArray, List.set_cons_zero, List.set_cons_succ]
            refine take_any (i := 4) (v := ?_) (by rfl) (by kernel_rfl) (by exact (fun _ _ _ h => h)) (by rfl) hHeld ?_ ?_
            rotate_left
            · ((intro V hV; obtain ⟨hV0, hV1, hV2, hV3, hV4, hV5, hV6, hV7, hV8, hV9⟩ := hV; go_simp) <;> (with_reducible rfl))
            try simp only [Act.put, List.getElem?_toArray, List.getElem?_cons_succ, List.getElem?_cons_zero, List.getElem_toArray, List.getElem_cons_succ, List.getElem_cons_zero, List.setIfInBounds_toArray, List.set_cons_zero, List.set_cons_succ]
            refine take_any (i := 5) (v := ?_) (by rfl) (by kernel_rfl) (by exact (fun _ _ _ h => h)) (by rfl) hHeld ?_ ?_
            rotate_left
            · ((intro V hV; obtain ⟨hV0, hV1, hV2, hV3, hV4, hV5, hV6, hV7, hV8, hV9⟩ := hV; go_simp) <;> (with_reducible rfl))
            try simp only [Act.put, List.getElem?_toArray, List.getElem?_cons_succ, List.getElem?_cons_zero, List.getElem_toArray, List.getElem_cons_succ, List.getElem_cons_zero, List.setIfInBounds_toArray, List.set_cons_zero, List.set_cons_succ]
            refine wpAnyH_done (by kernel_rfl) ?_ _
            go_wp2_with fail
            go_roundw
            case rel => exact ⟨i + 1, by omega, by go_num, HU8.out.drew⟩
            case measure => simp [Lib.intOf]; omega
          · obtain rfl : i = W.length := by omega
            have d4 : decide ((W.length : Int) < (W.length : Int)) = false := decide_eq_false (by omega)
            go_wp2_with fail
            go_ret
            exact ⟨rfl, HU6.out.trans HU7.out⟩
end Go.Proofs.YtlphlaenecidiaaDoor.Scr
