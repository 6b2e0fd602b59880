/- Contracts of package heap: Of. -/
import Derived.Test.YtlphlaenecidiaaHeap4
import Derived.Test.YtlphlaenecidiaaParse
import Derived.Test.YtlphlaenecidiaaRow
import Derived.Deep.LoopGhost
namespace Go.Proofs.Ytlphlaenecidiaa.Heap
open Go.RowKit Go.Proofs.Ytlphlaenecidiaa.Mem Go.Proofs.Ytlphlaenecidiaa.Obj

/-- The builtin copy, of all cells of a block. -/
theorem run_copy_all (P : Program) (w : World) (t e t' : TypeId) (ht : P.underlying t = some (.slice e)) (hs : (P.info? e).map (·.size) = some 1) (g n scap : Nat) (ad : Addr) (cur cs : List Value) (hB : Blk w g cur t') (hl : cur.length = n) (hc : cs.length = n)
    (hsrc : ∀ j v, cs[j]? = some v → w.cell? (ad.add j) = some v) (h1 : ∀ v ∈ cs, v.oneCell' = true) :
    ∃ w', (∀ ty, (Builtin.copy_ #[t, t] ty #[.slice (some ⟨g, 0, none⟩) n n, .slice (some ad) n scap]).run P w = .ok (.int .i64 (n : Int)) w') ∧ Blk w' g cs t' ∧ Upd (fun k => k = g) w w' := by
  refine ⟨w.setRow g (cur.take 0 ++ cs ++ cur.drop (0 + cs.length)).toArray, fun ty => ?_, ?_, ?_⟩
  · have h := run_copy_row (P := P) w t t ty e g 0 n n ad n scap cur.toArray t' cs ht hs hB (by rw [hc]; simp) hsrc (by simp; omega) h1
    rw [hc] at h ⊢
    exact h
  · have h := setRow_heap w g _ (cur.take 0 ++ cs ++ cur.drop (0 + cs.length)).toArray t' _ hB
    have e : cur.take 0 ++ cs ++ cur.drop (0 + cs.length) = cs := by
      rw [List.drop_eq_nil_of_le (by omega)]
      simp
    rw [e] at h ⊢
    exact h
  · exact ⟨rfl, rfl, rfl, by simp, fun k _ hk => setRow_other w g k _ hk⟩

/-- What Of answers. -/
def HofEnd (w : World) (n : Nat) (rest : List Ob → List Int) (r : Option (List Ob)) (e : Ending) (w' : World) : Prop :=
  Upd (fun _ => False) w w' ∧ match r with
    | none => e = .returned (.tuple #[.pointer none, .int .i64 2])
    | some os => ∃ h wb sb, e = .returned (.tuple #[.pointer (some ⟨h, 0, none⟩), .int .i64 0]) ∧ HeapAt w' h wb sb n os (rest os) ∧ w.heap.size ≤ h ∧ w.heap.size ≤ wb ∧ w.heap.size ≤ sb

theorem taken_marks (os : List Ob) (rest : List Int) (o : Ob) (h : 1 + o.len ≤ rest.length) :
    (Obj.marks os ++ List.replicate rest.length false).set (top os) true = Obj.marks (os ++ [o]) ++ List.replicate (rest.drop (1 + o.len)).length false := by
  rw [marks_append, List.set_append_right _ _ (by rw [marks_length]; exact Nat.le_refl _), marks_length, Nat.sub_self]
  obtain ⟨m, hm⟩ : ∃ m, rest.length = 1 + o.len + m := ⟨rest.length - (1 + o.len), by omega⟩
  simp only [Obj.marks, List.append_nil, List.append_assoc, List.length_drop, hm]
  rw [show 1 + o.len + m = (o.len + m) + 1 by omega, List.replicate_succ, List.set_cons_zero, show o.len + m + 1 - (1 + o.len) = m by omega, ← List.replicate_append_replicate]
  rfl

/-- The loop. -/
def Taking (w : World) (W : List Int) (u : Nat) (h wb sb : Nat) (g : Nat) (wr : World) : Prop :=
  ∃ (os : List Ob) (rest : List Int), W = flat os ++ rest ∧ top os ≤ u ∧ u - top os ≤ g ∧ parse u [] (W.take u) = parse g os (rest.take (u - top os)) ∧ HeapAt wr h wb sb W.length os rest ∧ Upd (fun _ => False) w wr

set_option maxRecDepth 20000 in
set_option maxHeartbeats 2000000 in
theorem hof_any (w : World) (a : Option Addr) (cap : Nat) (W : List Int) (hz : Row.Ints .i64 w a W) (hW : ∀ x ∈ W, x ≤ 9223372036854775807) (u : Nat) (hu : u ≤ W.length) (h0 : 1 ≤ W.length) (h1 : W.length ≤ 65536) :
    Calls Try.prog 10 #[.slice a W.length cap, .int .i64 (u : Int)] w (HofEnd w W.length (fun os => W.drop (top os)) (parse u [] (W.take u))) := by
  obtain ⟨i0, hi0, hz0, hz1, hz2⟩ := info_parts infoInt
  obtain ⟨x0, hx0⟩ : ∃ x, W[0]? = some x := ⟨_, List.getElem?_eq_getElem (by omega)⟩
  obtain ⟨bz, off, rfl, _, hbz⟩ := hz.cell 0 x0 hx0
  have HZ := Lib.hid hz
  have HX := Lib.hid hW
  have HN := Lib.hid (new_yes W.length w h0 h1)
  have hsz : (Try.prog.info? 3).map (·.size) = some 1 := by rw [hi0]; simp [hz1]
  have Hsz := Lib.hid hsz
  have d1 : decide ((u : Int) < 0) = false := decide_eq_false (by omega)
  have d2 : decide ((W.length : Int) < (u : Int)) = false := decide_eq_false (by omega)
  have d2' : decide (W.length < u) = false := decide_eq_false (by omega)
  clear hz hW hx0 hsz
  go_enter Try.func10, Try.ntmps10
  go_wp2_with fail
  refine (HN.out).mono ?_
  rintro e w1 ⟨h, wb, sb, rfl, hH, g1, g2, g3, hu1⟩
  have c0 := hH.str.cell 0 rfl
  have hne := hH.ne
  obtain ⟨w2, hrun, hB2, hU2⟩ := run_copy_all Try.prog w1 22 3 3 Try.underlying22 Hsz.out wb W.length cap ⟨bz, off, none⟩ _ (ints W) hH.wds (by simp [ints, flat]) (by simp [ints])
    (fun j v hv => by
      rw [ints, List.getElem?_map] at hv
      cases hx : W[j]? with
      | none => rw [hx] at hv; cases hv
      | some x =>
        rw [hx] at hv
        cases hv
        obtain ⟨b', o', he, hc, hl⟩ := HZ.out.cell j x hx
        cases he
        have hadd : (⟨bz, off, none⟩ : Addr).add j = ⟨bz, off + j, none⟩ := by unfold Addr.add; split <;> simp_all
        rw [hadd, World.cell?, hu1.block bz hl (fun h => h)]
        exact hc)
    (fun v hv => by obtain ⟨x, _, rfl⟩ := List.mem_map.1 hv; rfl)
  have hH2 : HeapAt w2 h wb sb W.length [] W := ⟨hH.str.upd hU2 hne.1, by simpa [flat] using hB2, by have := hH.sts.upd hU2 (fun e => hne.2.2 e.symm); simpa [Obj.marks] using this, by simp [top, flat], h0, h1, (fun o ho => by cases ho), hne⟩
  have HH2 := Lib.hid hH2
  have HU2 := Lib.hid (hu1.next hU2 (fun i hi e => by omega))
  have hl := hH.str.lt
  clear hH hB2 hU2 hH2 hu1
  go_wp2
  go_loopg [] u (fun g wr => Taking w W u h wb sb g wr)
  case atStart => exact ⟨[], W, rfl, Nat.zero_le _, Nat.le_refl _, rfl, HH2.out, HU2.out⟩
  case round =>
    obtain ⟨os, rest, hWr, htu, hg, hp, hH, hU⟩ := hrel
    have HWr := Lib.hid hWr
    have HP := Lib.hid hp
    have HH := Lib.hid hH
    have HU := Lib.hid hU
    have hlen : W.length = top os + rest.length := by rw [hWr]; simp [top]
    have c0 := hH.str.cell 0 rfl
    have c1 := hH.str.cell 1 rfl
    have c2 := hH.str.cell 2 rfl
    have hl := hH.str.lt
    obtain ⟨T, hT⟩ : ∃ T, T = top os := ⟨_, rfl⟩
    rw [← hT] at c1 htu hg hlen
    have HT := Lib.hid hT
    clear hWr hp hH hU hT hrun
    by_cases hlt : T < u
    · have d3 : decide ((T : Int) < (u : Int)) = true := decide_eq_true (by omega)
      have d3' : decide (T < u) = true := decide_eq_true hlt
      obtain ⟨x, ws, hrx⟩ : ∃ x ws, rest = x :: ws := by
        cases rest with
        | nil => simp at hlen; omega
        | cons x ws => exact ⟨x, ws, rfl⟩
      subst hrx
      obtain ⟨g', rfl⟩ : ∃ g', gk = g' + 1 := ⟨gk - 1, by omega⟩
      have hWT : W[T]? = some x := by
        have h2 := HWr.out
        rw [h2, HT.out, List.getElem?_append_right (by simp [top])]
        simp [top]
      have hx64 := HX.out x (List.mem_of_getElem? hWT)
      obtain ⟨b', o', he, hc, _⟩ := HZ.out.cell T x hWT
      cases he
      have hc2 : wr.cell? ⟨bz, off + T, none⟩ = some (.int .i64 x) := by
        rw [World.cell?, HU.out.block bz hbz (fun h => h)]
        exact hc
      have i1 : (0 : Int) ≤ (T : Int) := by omega
      have i2 : (T : Int) < (W.length : Int) := by omega
      have hsp : (x :: ws).take (u - T) = x :: ws.take (u - T - 1) := by
        obtain ⟨m, hm⟩ : ∃ m, u - T = m + 1 := ⟨u - T - 1, by omega⟩
        rw [hm]
        rfl
      have hp2 : parse u [] (W.take u) = if okW x = true ∧ lenOf x ≤ (ws.take (u - T - 1)).length then parse g' (os ++ [obOf x ((ws.take (u - T - 1)).take (lenOf x))]) ((ws.take (u - T - 1)).drop (lenOf x)) else none := by
        have h2 := HP.out
        rw [← HT.out, hsp, parse_cons] at h2
        exact h2
      have HP2 := Lib.hid hp2
      have hwl : T + ws.length + 1 = W.length := by simp at hlen; omega
      clear hWT hc hsp hp2 hlen
      cases hok : okW x with
      | false =>
        have hnone : parse u [] (W.take u) = none := by
          rw [HP2.out, if_neg (fun h => by rw [hok] at h; cases h.1)]
        have HNone := Lib.hid hnone
        have HUn := Lib.hid (unpack_no x hok hx64)
        clear hnone hok hx64
        go_wp2_with fail
        refine (HUn.out _).mono ?_
        rintro e w3 ⟨rfl, hu3⟩
        have HU3 := Lib.hid ((HU.out.trans hu3).alloc (.cells #[.int .i64 0, .int .i64 0, .int .i64 0] 53))
        have HH3 := Lib.hid (HH.out.quiet hu3)
        have k1 := HH3.out.str.cell 1 rfl
        rw [← HT.out] at k1
        have kl := HH3.out.str.lt
        clear hu3 c0 c1 c2 hc2
        go_wp2
        go_quiet (fail)
        have HU4 := Lib.hid (HU3.out.drewN nq)
        clear HU3
        generalize ((w3.alloc (.cells #[.int .i64 0, .int .i64 0, .int .i64 0] 53)).drewN nq) = w4 at *
        go_wp2
        go_ret2
        refine ⟨HU4.out, ?_⟩
        rw [HNone.out]
        rfl
      | true =>
        obtain ⟨e0, e1, e2, e3, e4, e5, e6, e7⟩ := okW_parts hok
        obtain ⟨L, hL⟩ : ∃ L, L = lenOf x := ⟨_, rfl⟩
        rw [← hL] at e4 e5 e6
        have hun := unpack_yes x hok hx64
        rw [e4] at hun
        have HUn := Lib.hid hun
        have HLe := Lib.hid hL
        have HOk := Lib.hid hok
        obtain ⟨K, hK⟩ : ∃ K, K = x % 16 := ⟨_, rfl⟩
        obtain ⟨Pn, hPn⟩ : ∃ Pn, Pn = x / 16 % 4096 := ⟨_, rfl⟩
        rw [← hK, ← hPn] at HUn
        have m1 : IntKind.i64.wrap ((u : Int) - (T : Int)) = (u : Int) - (T : Int) := IntWalk.i64_in _ (by omega)
        clear hun hL hok e0 e1 e2 e3 e4 e6 e7 hK hPn hx64
        by_cases hLu : u - T ≤ L
        · have hnone : parse u [] (W.take u) = none := by
            rw [HP2.out, if_neg (fun h => by have := h.2; rw [List.length_take, ← HLe.out] at this; omega)]
          have HNone := Lib.hid hnone
          have d4 : decide ((u : Int) - (T : Int) ≤ (L : Int)) = true := decide_eq_true (by omega)
          clear hnone
          go_wp2_with fail
          refine (HUn.out _).mono ?_
          rintro e w3 ⟨rfl, hu3⟩
          have HU3 := Lib.hid ((HU.out.trans hu3).alloc (.cells #[.int .i64 K, .int .i64 (L : Int), .int .i64 Pn] 53))
          have HH3 := Lib.hid (HH.out.quiet hu3)
          have k1 := HH3.out.str.cell 1 rfl
          rw [← HT.out] at k1
          have kl := HH3.out.str.lt
          clear hu3 c0 c1 c2 hc2
          go_wp2
          go_quiet (fail)
          have HU4 := Lib.hid (HU3.out.drewN nq)
          clear HU3
          generalize ((w3.alloc (.cells #[.int .i64 K, .int .i64 (L : Int), .int .i64 Pn] 53)).drewN nq) = w4 at *
          go_wp2
          go_ret2
          refine ⟨HU4.out, ?_⟩
          rw [HNone.out]
          rfl
        · have d4 : decide ((u : Int) - (T : Int) ≤ (L : Int)) = false := decide_eq_false (by omega)
          go_wp2_with fail
          refine (HUn.out _).mono ?_
          rintro e w3 ⟨rfl, hu3⟩
          have HU3 := Lib.hid ((HU.out.trans hu3).alloc (.cells #[.int .i64 K, .int .i64 (L : Int), .int .i64 Pn] 53))
          have HH3 := Lib.hid ((HH.out.quiet hu3).quiet ((Upd.refl _ w3).alloc (.cells #[.int .i64 K, .int .i64 (L : Int), .int .i64 Pn] 53)))
          have HB3 := Lib.hid (Blk.made w3 [.int .i64 K, .int .i64 (L : Int), .int .i64 Pn] 53)
          have k1 := (HH.out.quiet hu3).str.cell 1 rfl
          rw [← HT.out] at k1
          have kl := (HH.out.quiet hu3).str.lt
          have ksb : sb < w3.heap.size := (HH.out.quiet hu3).sts.lt
          have khb : h < w3.heap.size := kl
          clear hu3 c0 c1 c2 hc2
          go_wp2
          go_quiet (fail)
          have HU4 := Lib.hid (HU3.out.drewN nq)
          have HH4 := Lib.hid (HH3.out.quiet ((Upd.refl _ _).drewN nq))
          have HB4 := Lib.hid (HB3.out.drewN nq)
          clear HU3 HH3 HB3 k1 kl
          generalize ((w3.alloc (.cells #[.int .i64 K, .int .i64 (L : Int), .int .i64 Pn] 53)).drewN nq) = w4 at *
          have k1 := HH4.out.str.cell 1 rfl
          rw [← HT.out] at k1
          have k2 := HH4.out.str.cell 2 rfl
          have kl := HH4.out.str.lt
          have f1 := HH4.out.sts.frozen T
          have ks := HH4.out.sts.lt
          have k3 : w4.cell? ⟨sb, T, none⟩ = some (.bool false) := by
            apply HH4.out.sts.cell
            have hml : (Obj.marks os).length = T := by rw [marks_length]; exact HT.out.symm
            rw [bools, List.getElem?_map, List.getElem?_append_right (by omega), hml, Nat.sub_self]
            rfl
          have htop : top (os ++ [obOf x (ws.take L)]) = T + (1 + L) := by
            rw [top_append, top_cons, top_nil, ← HT.out]
            simp only [obOf, Ob.len, List.length_take]
            omega
          have hLw : (ws.take L).length = L := by rw [List.length_take]; omega
          have hol : (obOf x (ws.take L)).len = L := hLw
          have hmk : (Obj.marks os ++ List.replicate (x :: ws).length false).set T true = Obj.marks (os ++ [obOf x (ws.take L)]) ++ List.replicate (ws.drop L).length false := by
            have h2 := taken_marks os (x :: ws) (obOf x (ws.take L)) (by rw [hol]; simp; omega)
            rw [← HT.out, hol, show (1 + L) = L + 1 by omega, List.drop_succ_cons] at h2
            exact h2
          have hfl : flat os ++ x :: ws = flat (os ++ [obOf x (ws.take L)]) ++ ws.drop L := by
            rw [flat_append]
            simp only [flat, List.append_nil, List.append_assoc, List.cons_append, obOf_word HOk.out (hLw.trans HLe.out)]
            simp only [obOf, List.take_append_drop]
          have hgood : ∀ o ∈ os ++ [obOf x (ws.take L)], o.good := by
            intro o ho
            rcases List.mem_append.1 ho with ho | ho
            · exact HH4.out.good o ho
            · rw [List.mem_singleton] at ho
              subst ho
              exact obOf_good HOk.out (hLw.trans HLe.out)
          have hp3 : parse u [] (W.take u) = parse g' (os ++ [obOf x (ws.take L)]) ((ws.drop L).take (u - (T + (1 + L)))) := by
            have e1 : lenOf x ≤ (ws.take (u - T - 1)).length := by rw [← HLe.out, List.length_take]; omega
            rw [HP2.out, if_pos ⟨HOk.out, e1⟩, ← HLe.out, List.take_take, List.drop_take, show min L (u - T - 1) = L by omega, show u - T - 1 - L = u - (T + (1 + L)) by omega]
          have HTop := Lib.hid htop
          have HMk := Lib.hid hmk
          have HFl := Lib.hid hfl
          have HGood := Lib.hid hgood
          have HP3 := Lib.hid hp3
          clear htop hLw hol hmk hfl hgood hp3
          go_wp2
          go_region
          have u5 : Upd (fun k => k = sb) w4 (w4.setCell ⟨sb, T, none⟩ (.bool true)).drew := ((Upd.refl (fun k => k = sb) w4).setCell _ (fun _ => rfl)).drew
          have hS5 : Blk (w4.setCell ⟨sb, T, none⟩ (.bool true)).drew sb (bools (Obj.marks (os ++ [obOf x (ws.take L)]) ++ List.replicate (ws.drop L).length false)) 4 := by
            have h2 := (HH4.out.sts.set T (.bool true)).drew
            rw [← HMk.out]
            have e : (bools (Obj.marks os ++ List.replicate (x :: ws).length false)).set T (.bool true) = bools ((Obj.marks os ++ List.replicate (x :: ws).length false).set T true) := by
              simp only [bools, List.map_set]
            rw [e] at h2
            exact h2
          have hStr5 := HH4.out.str.upd u5 hne.2.1
          have hW5 := HH4.out.wds.upd u5 hne.2.2
          have hB5 := HB4.out.upd u5 (by omega)
          have hU5 := HU4.out.next u5 (fun i hi e => by omega)
          have HS5 := Lib.hid hS5
          have HStr5 := Lib.hid hStr5
          have HW5 := Lib.hid hW5
          have HU5 := Lib.hid hU5
          have hsl5 : w3.heap.size < (w4.setCell ⟨sb, T, none⟩ (.bool true)).drew.heap.size := hB5.lt
          have p1 := hStr5.cell 1 rfl
          rw [← HT.out] at p1
          have p2 := hB5.cell 1 rfl
          have f2 := hStr5.frozen 1
          have pl := hStr5.lt
          clear u5 hS5 hStr5 hW5 hB5 hU5 k1 k2 k3 kl f1 ks
          generalize (w4.setCell ⟨sb, T, none⟩ (.bool true)).drew = w5 at *
          have m2 : IntKind.i64.wrap (1 + (L : Int)) = 1 + (L : Int) := IntWalk.i64_in _ (by omega)
          have m3 : IntKind.i64.wrap ((T : Int) + (1 + (L : Int))) = (T : Int) + (1 + (L : Int)) := IntWalk.i64_in _ (by omega)
          go_wp2
          go_region
          go_wp2
          go_roundg g'
          case rel =>
            have u6 : Upd (fun k => k = h) w5 (w5.setCell ⟨h, 1, none⟩ (.int .i64 ((T : Int) + (1 + (L : Int))))).drew := ((Upd.refl (fun k => k = h) w5).setCell _ (fun _ => rfl)).drew
            refine ⟨os ++ [obOf x (ws.take L)], ws.drop L, ?_, by rw [HTop.out]; omega, by rw [HTop.out]; omega, by rw [HTop.out]; exact HP3.out, ⟨?_, ?_, HS5.out.upd u6 (fun e => hne.2.1 e.symm), ?_, h0, h1, HGood.out, hne⟩, HU5.out.next u6 (fun i hi e => by omega)⟩
            · rw [← HFl.out]; exact HWr.out
            · have h2 := (HStr5.out.set 1 (.int .i64 ((T : Int) + (1 + (L : Int))))).drew
              rw [HTop.out, show (((T + (1 + L)) : Nat) : Int) = (T : Int) + (1 + (L : Int)) by omega]
              exact h2
            · rw [← HFl.out]
              exact HW5.out.upd u6 (fun e => hne.1 e.symm)
            · rw [HTop.out, List.length_drop]
              omega
          case measure => exact Nat.lt_succ_self _
    · have d3 : decide ((T : Int) < (u : Int)) = false := decide_eq_false (by omega)
      have d3' : decide (T < u) = false := decide_eq_false hlt
      have hend : parse u [] (W.take u) = some os := by
        rw [HP.out, ← HT.out, show u - T = 0 by omega, List.take_zero, parse_nil]
      have HE := Lib.hid hend
      clear hend
      go_wp2
      go_ret2
      refine ⟨HU.out, ?_⟩
      rw [HE.out]
      have hr : W.drop (top os) = rest := by
        have h2 := HWr.out
        rw [h2, List.drop_append, List.drop_eq_nil_of_le (by simp [top])]
        simp [top]
      refine ⟨h, wb, sb, rfl, ?_, g1, g2, g3⟩
      show HeapAt wr h wb sb W.length os (W.drop (top os))
      rw [hr]
      exact HH.out
end Go.Proofs.Ytlphlaenecidiaa.Heap
