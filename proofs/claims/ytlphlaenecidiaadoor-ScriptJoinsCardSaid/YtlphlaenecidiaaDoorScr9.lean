/- Scripts: the document's Parse: the walk. -/
import Derived.Test.YtlphlaenecidiaaDoorScr9P
import Derived.Test.YtlphlaenecidiaaDoorOwnSet
import Derived.Test.YtlphlaenecidiaaDoorLast
import Derived.Test.YtlphlaenecidiaaDoorHead
set_option linter.unusedSimpArgs false
namespace Go.Proofs.YtlphlaenecidiaaDoor.Scr
open Go.RowKit Go.Proofs.YtlphlaenecidiaaDoor.Mem

theorem infoStr : (Tryd.prog.info? 9).map (fun i => (i.zero, i.size, i.bytes)) = some (some (.string ⟨#[]⟩), 1, 16) := by kernel_rfl
abbrev strV (p : List UInt8) : Value := .string ⟨p.toArray⟩
/-- What the document's Parse answers. -/
def parsedR (l : List UInt8) : Value := if fits l then .tuple #[.int .i64 (made (spl l)).op, (made (spl l)).nums, .bool true] else .tuple #[.int .i64 0, (mkEnt 0 []).nums, .bool false]
theorem parsedR_no {l : List UInt8} (h : ¬ fits l) : parsedR l = .tuple #[.int .i64 0, (mkEnt 0 []).nums, .bool false] := by unfold parsedR; rw [if_neg h]
theorem keepC {w w' : World} (h : Upd (fun _ => False) w w') {b : Nat} {o : Nat} {x : Value} (hc : w.cell? ⟨b, o, none⟩ = some x) : w'.cell? ⟨b, o, none⟩ = some x := by
  have hb := World.block_lt_of_cell? w _ hc
  rw [World.cell?, h.block b hb (fun x => x)]
  exact hc
theorem keepS {S : Nat → Prop} {w w' : World} (h : Upd S w w') {b : Nat} {o : Nat} {x : Value} (hs : ¬ S b) (hc : w.cell? ⟨b, o, none⟩ = some x) : w'.cell? ⟨b, o, none⟩ = some x := by
  have hb := World.block_lt_of_cell? w _ hc
  rw [World.cell?, h.block b hb hs]
  exact hc
theorem Blk.set4 {w : World} {b : Nat} {x0 x1 x2 x3 : Value} {t : TypeId} (h : Blk w b [x0, x1, x2, x3] t) (y0 y1 y2 y3 : Value) :
    Blk ((((w.setCell ⟨b, 0, none⟩ y0).setCell ⟨b, 1, none⟩ y1).setCell ⟨b, 2, none⟩ y2).setCell ⟨b, 3, none⟩ y3) b [y0, y1, y2, y3] t :=
  (((h.set 0 y0).set 1 y1).set 2 y2).set 3 y3
theorem Upd.set4 {S : Nat → Prop} {a w : World} (h : Upd S a w) (b : Nat) (y0 y1 y2 y3 : Value) (hb : b < a.heap.size → S b) :
    Upd S a ((((w.setCell ⟨b, 0, none⟩ y0).setCell ⟨b, 1, none⟩ y1).setCell ⟨b, 2, none⟩ y2).setCell ⟨b, 3, none⟩ y3) :=
  (((h.setCell (p := ⟨b, 0, none⟩) y0 hb).setCell (p := ⟨b, 1, none⟩) y1 hb).setCell (p := ⟨b, 2, none⟩) y2 hb).setCell (p := ⟨b, 3, none⟩) y3 hb
theorem mkNum_set (op : Int) (l : List Int) (j : Nat) (x : Int) (hj : j < 4) (hx : l[j]? = some x) : (mkEnt op (l.take j)).numCells.set j (.int .i64 x) = (mkEnt op (l.take (j + 1))).numCells := by
  have h := mkEnt_set op l j x hj hx
  have e : ∀ (E : Ent), E.cells = .int .i64 E.op :: E.numCells := fun _ => rfl
  rw [e, e, Nat.add_comm, List.set_cons_succ] at h
  exact (List.cons.inj h).2
theorem res_tmp_cell_tmp {P : Program} {fn : Func} {p q r : Tmp} {ty : TypeId} (h : fn.results = #[.tmp p, .cell q ty, .tmp r]) (tmps : Array Value) (w : World) (b : Nat) (cs : List Value) (t : TypeId) (v u : Value) (d : TypeDesc)
    (hp : tmps.getD p undef = v) (hq : tmps.getD q undef = .pointer (some ⟨b, 0, none⟩)) (hr : tmps.getD r undef = u) (hc : Blk w b cs t) (hu : P.underlying ty = some d) (hd : d.isRow = true) (hi : (P.info? ty).map (·.size) = some cs.length) :
    (results fn tmps).run P w = .ok (.tuple #[v, .agg cs.toArray, u]) w := by
  have hp' : tmps[p]?.getD undef = v := by simpa using hp
  have hq' : tmps[q]?.getD undef = .pointer (some ⟨b, 0, none⟩) := by simpa using hq
  have hr' : tmps[r]?.getD undef = u := by simpa using hr
  simp [results, h, hp', hq', hr', asAddr, run_loadVar_mid w b 0 ty cs d hc.whole hu hd hi]

theorem ext_one (s : ByteArray) (j : Nat) (h : j < s.size) : (s.extract j (j + 1)).data = #[s[j]] := by
  rw [ByteArray.data_extract]
  have h' : j < s.data.size := h
  apply Array.ext
  · simp; omega
  · intro i h1 h2
    have : i = 0 := by simp at h2; omega
    subst this
    simp
    rfl
theorem str_snoc (p : List UInt8) (s : ByteArray) (j : Nat) (h : j < s.size) (c : UInt8) (hc : s[j] = c) : (⟨p.toArray⟩ : ByteArray) ++ s.extract j (j + 1) = ⟨(p ++ [c]).toArray⟩ := by
  apply ByteArray.ext
  rw [ByteArray.data_append, ext_one s j h, hc]
  simp
theorem set_snoc {α β : Type} (f : α → β) (A : List α) (p : α) (x : β) : ((A ++ [p]).map f).set A.length x = A.map f ++ [x] := by
  rw [List.map_append, List.set_append_right _ _ (by rw [List.length_map]; exact Nat.le_refl _), List.length_map, Nat.sub_self]
  rfl
theorem opOf_many {p : List UInt8} (h : opOf p ≠ 0) : 0 ≤ manyOf (opOf p) := by
  have := opOf_range p
  unfold manyOf
  rw [if_pos (by omega)]
  omega
set_option maxRecDepth 20000 in
set_option maxHeartbeats 8000000 in
theorem parseRef_any (w : World) (s : ByteArray) (l : List UInt8) (hl : s.data.toList = l) (hsz : s.size ≤ 100000) :
    Calls Tryd.prog 10 #[.string s] w fun x w' => x = .returned (parsedR l) ∧ Upd (fun _ => False) w w' := by
  obtain ⟨i0, hi0, hz0, hz1, hz2⟩ := info_parts infoStr
  have hsl : s.size = l.length := by rw [← hl]; simp
  have hget : ∀ j (h : j < s.size), l[j]? = some s[j] := fun j h => by
    rw [← hl, Array.getElem?_toList, Array.getElem?_eq_getElem h]
    rfl
  have hb0 : Blk (w.alloc (.cells #[.int .i64 0, .int .i64 0, .int .i64 0, .int .i64 0] 23)) w.heap.size (mkEnt 0 []).numCells 23 := Blk.made w (mkEnt 0 []).numCells 23
  have hu0 := (Upd.refl (fun _ => False) w).alloc (.cells #[.int .i64 0, .int .i64 0, .int .i64 0, .int .i64 0] 23)
  have hs0 : (w.alloc (.cells #[.int .i64 0, .int .i64 0, .int .i64 0, .int .i64 0] 23)).heap.size = w.heap.size + 1 := World.size_alloc _ _
  have ho0 := own_one (w.alloc (.cells #[.int .i64 0, .int .i64 0, .int .i64 0, .int .i64 0] 23)) 9 (w.heap.size + 1) (.string ⟨#[]⟩) (by omega)
  have hu1 := (Upd.refl (fun _ => False) (w.alloc (.cells #[.int .i64 0, .int .i64 0, .int .i64 0, .int .i64 0] 23))).alloc (.cells #[.string ⟨#[]⟩] 9)
  rw [hs0] at ho0
  have HL := Lib.hid hl
  have HSl := Lib.hid hsl
  have HGet := Lib.hid hget
  clear hl hsl hget
  go_enter Tryd.func10, Tryd.ntmps10
  go_wp2_with fail
  generalize w.alloc (.cells #[.int .i64 0, .int .i64 0, .int .i64 0, .int .i64 0] 23) = w0 at *
  generalize w0.alloc (.cells #[.string ⟨#[]⟩] 9) = w1 at *
  have HB0 := Lib.hid hb0
  have HU0 := Lib.hid hu0
  have HU1 := Lib.hid hu1
  have HO0 := Lib.hid ho0
  have HS0 := Lib.hid hs0
  clear hb0 hu0 hu1 ho0 hs0
  go_loopw [5, 6] (fun v i wr => ∃ (j : Nat) (A : List (List UInt8)) (p : List UInt8) (g cap : Nat), j ≤ s.size ∧ i = .int .i64 (j : Int) ∧ v = .slice (some ⟨g, 0, none⟩) (A.length + 1) cap ∧ wr.ownsRow (w.heap.size + 1) 9 1 (.slice (some ⟨g, 0, none⟩) (A.length + 1) cap) (A.length + 1) ((A ++ [p]).map strV) ∧ A ++ glue p (spl (l.drop j)) = spl l ∧ A.length ≤ j ∧ p.length ≤ j ∧ Upd (fun _ => False) w0 wr) (fun _ i _ => s.size - (Lib.intOf i).toNat)
  case atStart => exact ⟨0, [], [], _, _, Nat.zero_le _, rfl, rfl, HO0.out, by rw [List.nil_append, List.drop_zero]; exact glue_nil l, Nat.le_refl _, Nat.le_refl _, HU1.out⟩
  case round =>
    obtain ⟨j, A, p, g, cap, hj, rfl, rfl, hO, hA, hAl, hpl, hU⟩ := hrel
    have hg := hO.lt g rfl
    have HO := Lib.hid hO
    have HA := Lib.hid hA
    have HU := Lib.hid hU
    clear hA hU
    by_cases hjl : j < s.size
    · obtain ⟨c, hc⟩ : ∃ c, s[j] = c := ⟨_, rfl⟩
      have hlc : l.drop j = c :: l.drop (j + 1) := by
        have h1 := HGet.out j hjl
        have h2 := (List.getElem?_eq_some_iff.1 h1)
        rw [← hc, ← h2.2]
        exact List.drop_eq_getElem_cons h2.1
      have d1 : decide ((j : Int) < (s.size : Int)) = true := decide_eq_true (by omega)
      have d1' : decide (j < s.size) = true := decide_eq_true hjl
      have i5 : (0 : Int) ≤ (j : Int) := by omega
      have i6 : (j : Int) < (s.size : Int) := by omega
      have HLc := Lib.hid hlc
      clear hlc
      by_cases h32 : c = 32
      · have e1 : ((c.toNat : Int) == 32) = true := by rw [h32]; rfl
        have H32 := Lib.hid h32
        clear h32
        go_wp2_with (first | (at_builtin; refine wpList_append_lies _ rfl _ _ 41 rfl (w.heap.size + 1) 9 i0 _ 1 16 Tryd.underlying41 hi0 hz0 hz1 hz2 rfl (by decide) _ (A.length + 1) ((A ++ [p]).map strV) rfl (HO.out.alloc _) ⟨wr.heap.size, 0, none⟩ 1 1 [.string ⟨#[]⟩] rfl rfl ?c1 ?c2 (by decide) ?c3 ?c4 ?c5 _ rfl ?_))
        case c1 => exact cells_new _ _ _
        case c2 => simp [Value.oneCell']
        case c3 => simp only [maxLen]; omega
        case c4 => omega
        case c5 => simp only [World.size_alloc]; omega
        intro g2 cap2 w2 hO2 hg2 hat2 hlt2
        have hU2 : Upd (fun _ => False) w0 w2 := (HU.out.alloc _).grown hg2 (fun k hk hlt => by have := HO.out.lt k hk; have := HS0.out; omega)
        have HU2 := Lib.hid hU2
        have HO2 := Lib.hid hO2
        clear hO2 hg2 hat2 hU2
        go_wp2_with fail
        go_roundw
        case rel =>
          refine ⟨j + 1, A ++ [p], [], g2, cap2, by omega, by go_num, by rw [List.length_append]; rfl, ?_, ?_, by rw [List.length_append, List.length_singleton]; omega, Nat.zero_le _, HU2.out⟩
          · have h := HO2.out
            rw [List.length_append, List.length_singleton]
            simpa [strV] using h
          · have h := HA.out
            rw [HLc.out, H32.out, glue_blank] at h
            rw [glue_nil, List.append_assoc]
            exact h
        case measure => simp [Lib.intOf]; omega
      · have e1 : ((c.toNat : Int) == 32) = false := by
          rw [beq_eq_false_iff_ne]
          intro h
          apply h32
          apply UInt8.toNat_inj.1
          have e : (32 : UInt8).toNat = 32 := rfl
          omega
        have H32 := Lib.hid h32
        have c0 := own_at hO A.length (u := strV p) (by rw [List.map_append, List.getElem?_append_right (by rw [List.length_map]; exact Nat.le_refl _), List.length_map, Nat.sub_self]; rfl)
        have cf := own_unfrozen hO A.length
        have s1 : IntKind.i64.wrap (A.length : Int) = (A.length : Int) := IntWalk.i64_in _ (by omega)
        have s2 : IntKind.i64.wrap ((j : Int) + 1) = ((j + 1 : Nat) : Int) := by rw [IntWalk.i64_in _ (by omega)]; omega
        have i7 : (0 : Int) ≤ (A.length : Int) := by omega
        have i8 : (A.length : Int) < (A.length : Int) + 1 := by omega
        have i9 : (0 : Int) ≤ (j : Int) + 1 := by omega
        have q1 : ¬ 9223372036854775807 < p.length + (min (j + 1) s.size - j) := by omega
        have i10 : (j : Int) + 1 ≤ (s.size : Int) := by omega
        have i11 : (j : Int) ≤ (j : Int) + 1 := by omega
        clear h32
        go_wp2_with fail
        refine wp_region_last (S := (fun V => V.cell? ⟨g, A.length, none⟩ = some (strV p))) (by kernel_rfl) (by kernel_rfl) c0 (fun hHeld => ?_)
        simp only [List.pop_toArray, List.dropLast_cons_cons, List.dropLast_singleton, List.size_toArray, List.length_cons, List.length_nil, Nat.reduceAdd, Nat.reduceSub]
        refine take_last (i := 0) (v := ?_) (by rfl) (by kernel_rfl) (by exact (fun _ _ _ h => h)) (by rfl) hHeld ?_ ?_
        rotate_left
        · ((intro V hV; obtain hV0 := hV; go_simp) <;> (with_reducible rfl))
        try simp only [Act.put, List.getElem?_toArray, List.getElem?_cons_succ, List.getElem?_cons_zero, List.getElem_toArray, List.getElem_cons_succ, List.getElem_cons_zero, List.setIfInBounds_toArray, List.set_cons_zero, List.set_cons_succ]
        refine take_last (i := 1) (v := ?_) (by rfl) (by kernel_rfl) (by exact (fun _ _ _ h => h)) (by rfl) hHeld ?_ ?_
        rotate_left
        · ((intro V hV; obtain hV0 := hV; go_simp) <;> (with_reducible rfl))
        try simp only [Act.put, List.getElem?_toArray, List.getElem?_cons_succ, List.getElem?_cons_zero, List.getElem_toArray, List.getElem_cons_succ, List.getElem_cons_zero, List.setIfInBounds_toArray, List.set_cons_zero, List.set_cons_succ]
        refine take_last (i := 2) (v := ?_) (by rfl) (by kernel_rfl) (by exact (fun _ _ _ h => h)) (by rfl) hHeld ?_ ?_
        rotate_left
        · ((intro V hV; obtain hV0 := hV; go_simp) <;> (with_reducible rfl))
        try simp only [Act.put, List.getElem?_toArray, List.getElem?_cons_succ, List.getElem?_cons_zero, List.getElem_toArray, List.getElem_cons_succ, List.getElem_cons_zero, List.setIfInBounds_toArray, List.set_cons_zero, List.set_cons_succ]
        refine take_last (i := 3) (v := ?_) (by rfl) (by kernel_rfl) (by exact (fun _ _ _ h => h)) (by rfl) hHeld ?_ ?_
        rotate_left
        · ((intro V hV; obtain hV0 := hV; go_simp) <;> (with_reducible rfl))
        try simp only [Act.put, List.getElem?_toArray, List.getElem?_cons_succ, List.getElem?_cons_zero, List.getElem_toArray, List.getElem_cons_succ, List.getElem_cons_zero, List.setIfInBounds_toArray, List.set_cons_zero, List.set_cons_succ]
        refine take_last (i := 4) (v := ?_) (by rfl) (by kernel_rfl) (by exact (fun _ _ _ h => h)) (by rfl) hHeld ?_ ?_
        rotate_left
        · ((intro V hV; obtain hV0 := hV; go_simp) <;> (with_reducible rfl))
        try simp only [Act.put, List.getElem?_toArray, List.getElem?_cons_succ, List.getElem?_cons_zero, List.getElem_toArray, List.getElem_cons_succ, List.getElem_cons_zero, List.setIfInBounds_toArray, List.set_cons_zero, List.set_cons_succ]
        refine take_last (i := 5) (v := ?_) (by rfl) (by kernel_rfl) (by exact (fun _ _ _ h => h)) (by rfl) hHeld ?_ ?_
        rotate_left
        · ((intro V hV; obtain hV0 := hV; go_simp) <;> (with_reducible rfl))
        try simp only [Act.put, List.getElem?_toArray, List.getElem?_cons_succ, List.getElem?_cons_zero, List.getElem_toArray, List.getElem_cons_succ, List.getElem_cons_zero, List.setIfInBounds_toArray, List.set_cons_zero, List.set_cons_succ]
        refine take_last (i := 6) (v := ?_) (by rfl) (by kernel_rfl) (by exact (fun _ _ _ h => h)) (by rfl) hHeld ?_ ?_
        rotate_left
        · ((intro V hV; obtain hV0 := hV; go_simp) <;> (with_reducible rfl))
        try simp only [Act.put, List.getElem?_toArray, List.getElem?_cons_succ, List.getElem?_cons_zero, List.getElem_toArray, List.getElem_cons_succ, List.getElem_cons_zero, List.setIfInBounds_toArray, List.set_cons_zero, List.set_cons_succ]
        refine take_last (i := 7) (v := ?_) (by rfl) (by kernel_rfl) (by exact (fun _ _ _ h => h)) (by rfl) hHeld ?_ ?_
        rotate_left
        · ((intro V hV; obtain hV0 := hV; go_simp) <;> (with_reducible rfl))
        try simp only [Act.put, List.getElem?_toArray, List.getElem?_cons_succ, List.getElem?_cons_zero, List.getElem_toArray, List.getElem_cons_succ, List.getElem_cons_zero, List.setIfInBounds_toArray, List.set_cons_zero, List.set_cons_succ]
        refine take_last (i := 8) (v := ?_) (by rfl) (by kernel_rfl) (by exact (fun _ _ _ h => h)) (by rfl) hHeld ?_ ?_
        rotate_left
        · ((intro V hV; obtain hV0 := hV; go_simp) <;> (with_reducible rfl))
        try simp only [Act.put, List.getElem?_toArray, List.getElem?_cons_succ, List.getElem?_cons_zero, List.getElem_toArray, List.getElem_cons_succ, List.getElem_cons_zero, List.setIfInBounds_toArray, List.set_cons_zero, List.set_cons_succ]
        refine take_last (i := 9) (v := ?_) (by rfl) (by kernel_rfl) (by exact (fun _ _ _ h => h)) (by rfl) hHeld ?_ ?_
        rotate_left
        · ((intro V hV; obtain hV0 := hV; go_simp) <;> (with_reducible rfl))
        try simp only [Act.put, List.getElem?_toArray, List.getElem?_cons_succ, List.getElem?_cons_zero, List.getElem_toArray, List.getElem_cons_succ, List.getElem_cons_zero, List.setIfInBounds_toArray, List.set_cons_zero, List.set_cons_succ]
        refine take_last (i := 10) (v := ?_) (by rfl) (by kernel_rfl) (by exact (fun _ _ _ h => h)) (by rfl) hHeld ?_ ?_
        rotate_left
        · ((intro V hV; obtain hV0 := hV; go_simp) <;> (with_reducible rfl))
        try simp only [Act.put, List.getElem?_toArray, List.getElem?_cons_succ, List.getElem?_cons_zero, List.getElem_toArray, List.getElem_cons_succ, List.getElem_cons_zero, List.setIfInBounds_toArray, List.set_cons_zero, List.set_cons_succ]
        refine take_last (i := 11) (v := ?_) (by rfl) (by kernel_rfl) (by exact (fun _ _ _ h => h)) (by rfl) hHeld ?_ ?_
        rotate_left
        · ((intro V hV; obtain hV0 := hV; go_simp) <;> (with_reducible rfl))
        try simp only [Act.put, List.getElem?_toArray, List.getElem?_cons_succ, List.getElem?_cons_zero, List.getElem_toArray, List.getElem_cons_succ, List.getElem_cons_zero, List.setIfInBounds_toArray, List.set_cons_zero, List.set_cons_succ]
        refine take_last (i := 12) (v := ?_) (by rfl) (by kernel_rfl) (by exact (fun _ _ _ h => h)) (by rfl) hHeld ?_ ?_
        rotate_left
        · ((intro V hV; obtain hV0 := hV; go_simp) <;> (with_reducible rfl))
        try simp only [Act.put, List.getElem?_toArray, List.getElem?_cons_succ, List.getElem?_cons_zero, List.getElem_toArray, List.getElem_cons_succ, List.getElem_cons_zero, List.setIfInBounds_toArray, List.set_cons_zero, List.set_cons_succ]
        refine take_last (i := 13) (v := ?_) (by rfl) (by kernel_rfl) (by exact (fun _ _ _ h => h)) (by rfl) hHeld ?_ ?_
        rotate_left
        · ((intro V hV; obtain hV0 := hV; go_simp) <;> (with_reducible rfl))
        try simp only [Act.put, List.getElem?_toArray, List.getElem?_cons_succ, List.getElem?_cons_zero, List.getElem_toArray, List.getElem_cons_succ, List.getElem_cons_zero, List.setIfInBounds_toArray, List.set_cons_zero, List.set_cons_succ]
        refine take_last (i := 14) (v := ?_) (by rfl) (by kernel_rfl) (by exact (fun _ _ _ h => h)) (by rfl) hHeld ?_ ?_
        rotate_left
        · ((intro V hV; obtain hV0 := hV; go_simp) <;> (with_reducible rfl))
        try simp only [Act.put, List.getElem?_toArray, List.getElem?_cons_succ, List.getElem?_cons_zero, List.getElem_toArray, List.getElem_cons_succ, List.getElem_cons_zero, List.setIfInBounds_toArray, List.set_cons_zero, List.set_cons_succ]
        refine take_last (i := 15) (v := ?_) (by rfl) (by kernel_rfl) (by exact (fun _ _ _ h => h)) (by rfl) hHeld ?_ ?_
        rotate_left
        · ((intro V hV; obtain hV0 := hV; go_simp) <;> (with_reducible rfl))
        try simp only [Act.put, List.getElem?_toArray, List.getElem?_cons_succ, List.getElem?_cons_zero, List.getElem_toArray, List.getElem_cons_succ, List.getElem_cons_zero, List.setIfInBounds_toArray, List.set_cons_zero, List.set_cons_succ]
        refine take_last (i := 16) (v := ?_) (by rfl) (by kernel_rfl) (by exact (fun _ _ _ h => h)) (by rfl) hHeld ?_ ?_
        rotate_left
        · ((intro V hV; obtain hV0 := hV; go_simp) <;> (with_reducible rfl))
        try simp only [Act.put, List.getElem?_toArray, List.getElem?_cons_succ, List.getElem?_cons_zero, List.getElem_toArray, List.getElem_cons_succ, List.getElem_cons_zero, List.setIfInBounds_toArray, List.set_cons_zero, List.set_cons_succ]
        refine last_end (by kernel_rfl) (by rfl) (fun KK hK => ?_)
        go_simp
        refine hK.out _ _ ?_
        clear hK KK
        have hst := own_set (HO.out.drew) A.length (.string (⟨p.toArray⟩ ++ s.extract j (j + 1)))
        have HSt := Lib.hid hst
        clear hst
        go_wp2_with fail
        go_roundw
        case rel =>
          refine ⟨j + 1, A, p ++ [c], g, cap, by omega, by go_num, rfl, ?_, ?_, by omega, by rw [List.length_append, List.length_singleton]; omega, (HU.out.drew).setCell _ (fun hlt => by have h1 := HS0.out; have h2 : g < w0.heap.size := hlt; omega)⟩
          · have h := HSt.out
            rw [str_snoc p s j hjl c hc, set_snoc] at h
            rw [str_snoc p s j hjl c hc, List.map_append]
            exact h
          · have h := HA.out
            rw [HLc.out, glue_char H32.out] at h
            exact h
        case measure => simp [Lib.intOf]; omega
    · have hje : j = s.size := by omega
      subst hje
      have d1 : decide ((s.size : Int) < (s.size : Int)) = false := decide_eq_false (by omega)
      have hsp : spl l = A ++ [p] := by
        have h := HA.out
        rw [List.drop_eq_nil_of_le (by rw [← HSl.out]; omega), glue_end] at h
        exact h.symm
      obtain ⟨p0, rest, hpr⟩ : ∃ p0 rest, A ++ [p] = p0 :: rest := by cases A <;> exact ⟨_, _, rfl⟩
      have hnr : rest.length = A.length := by have := congrArg List.length hpr; simp at this; omega
      rw [hpr] at hsp
      have hcl : ∀ (i : Nat) (q : List UInt8), (p0 :: rest)[i]? = some q → wr.cell? ⟨g, i, none⟩ = some (strV q) := fun i q hq => own_at hO i (by rw [hpr, List.getElem?_map, hq]; rfl)
      have hb2 := HB0.out.upd HU.out (fun h => h)
      have hu2 := HU0.out.trans HU.out
      have HSp := Lib.hid hsp
      have HNr := Lib.hid hnr
      have HCl := Lib.hid hcl
      have HB2 := Lib.hid hb2
      have HU2 := Lib.hid hu2
      clear hsp hnr hcl hb2 hu2 hpr hO HO HA HU hj hAl hpl HU1 HO0
      generalize wr = w2 at *
      go_wp2_with fail
      go_loopw [7, 8] (fun op k wr => ∃ K : Nat, 1 ≤ K ∧ K ≤ 13 ∧ k = .int .i64 (K : Int) ∧ op = .int .i64 (opTo p0 K) ∧ Upd (fun _ => False) w2 wr) (fun _ k _ => 13 - (Lib.intOf k).toNat)
      case atStart => exact ⟨1, by omega, by omega, rfl, rfl, Upd.refl _ _⟩
      case round =>
        obtain ⟨K, hK1, hK13, rfl, rfl, hU3⟩ := hrel
        have g0 := keepC hU3 (HCl.out 0 p0 rfl)
        have HU3 := Lib.hid hU3
        clear hU3
        by_cases hK : K ≤ 12
        · have d2 : decide ((K : Int) ≤ 12) = true := decide_eq_true (by omega)
          have d2' : decide (K ≤ 12) = true := decide_eq_true hK
          obtain ⟨b, hb⟩ : ∃ b, (wordR (K : Int) == p0) = b := ⟨_, rfl⟩
          have hbw : b = decide (wordsL.getD K [] = p0) := by
            rw [← hb]
            unfold wordR
            rw [if_pos (by omega), Int.toNat_natCast]
            by_cases h : wordsL.getD K [] = p0
            · rw [decide_eq_true h, beq_iff_eq]; exact h
            · rw [decide_eq_false h, beq_eq_false_iff_ne]; exact h
          have HBw := Lib.hid hbw
          clear hbw
          go_wp2_with fail
          refine wp_region_held_drew (S := (fun V => V.cell? ⟨g, 0, none⟩ = some (strV p0))) (by kernel_rfl) g0 (fun hHeld => ?_)
          simp only [List.size_toArray, List.length_cons, List.length_nil, Nat.reduceAdd]
          refine take_any (i := 0) (v := ?_) (by rfl) (by kernel_rfl) (by exact (fun _ _ _ h => h)) (by rfl) hHeld ?_ ?_
          rotate_left
          · ((intro V hV; obtain hV0 := hV; go_simp) <;> (with_reducible rfl))
          try simp only [Act.put, List.getElem?_toArray, List.getElem?_cons_succ, List.getElem?_cons_zero, List.getElem_toArray, List.getElem_cons_succ, List.getElem_cons_zero, List.setIfInBounds_toArray, List.set_cons_zero, List.set_cons_succ]
          refine take_any (i := 2) (v := ?_) (by rfl) (by kernel_rfl) (by exact (fun _ _ _ h => h)) (by rfl) hHeld ?_ ?_
          rotate_left
          · ((intro V hV; obtain hV0 := hV; go_simp) <;> (with_reducible rfl))
          try simp only [Act.put, List.getElem?_toArray, List.getElem?_cons_succ, List.getElem?_cons_zero, List.getElem_toArray, List.getElem_cons_succ, List.getElem_cons_zero, List.setIfInBounds_toArray, List.set_cons_zero, List.set_cons_succ]
          refine take_any (i := 3) (v := ?_) (by rfl) (by kernel_rfl) (by exact (fun _ _ _ h => h)) (by rfl) hHeld ?_ ?_
          rotate_left
          · ((intro V hV; obtain hV0 := hV; go_simp) <;> (with_reducible rfl))
          try simp only [Act.put, List.getElem?_toArray, List.getElem?_cons_succ, List.getElem?_cons_zero, List.getElem_toArray, List.getElem_cons_succ, List.getElem_cons_zero, List.setIfInBounds_toArray, List.set_cons_zero, List.set_cons_succ]
          refine take_any (i := 4) (v := ?_) (by rfl) (by kernel_rfl) (by exact (fun _ _ _ h => h)) (by rfl) hHeld ?_ ?_
          rotate_left
          · ((intro V hV; obtain hV0 := hV; go_simp) <;> (with_reducible rfl))
          try simp only [Act.put, List.getElem?_toArray, List.getElem?_cons_succ, List.getElem?_cons_zero, List.getElem_toArray, List.getElem_cons_succ, List.getElem_cons_zero, List.setIfInBounds_toArray, List.set_cons_zero, List.set_cons_succ]
          refine next_last (i := 1) (by rfl) (by kernel_rfl) (fun KK hK => ?_)
          go_simp
          refine (wordRef_any _ _).mono ?_
          rintro y V ⟨rfl, hu⟩
          have HUV := Lib.hid hu
          have g1 := keepC hu g0
          clear hu
          refine hK.out _ _ g1 (fun hHeld => ?_)
          clear hK KK
          try simp only [Act.put, List.getElem?_toArray, List.getElem?_cons_succ, List.getElem?_cons_zero, List.getElem_toArray, List.getElem_cons_succ, List.getElem_cons_zero, List.setIfInBounds_toArray, List.set_cons_zero, List.set_cons_succ]
          refine take_any (i := 5) (v := ?_) (by rfl) (by kernel_rfl) (by exact (fun _ _ _ h => h)) (by rfl) hHeld ?_ ?_
          rotate_left
          · ((intro V hV; obtain hV0 := hV; go_simp) <;> (with_reducible rfl))
          try simp only [Act.put, List.getElem?_toArray, List.getElem?_cons_succ, List.getElem?_cons_zero, List.getElem_toArray, List.getElem_cons_succ, List.getElem_cons_zero, List.setIfInBounds_toArray, List.set_cons_zero, List.set_cons_succ]
          refine wpAnyH_done (by kernel_rfl) ?_ _
          have hop2 : opTo p0 (K + 1) = if b = true then (K : Int) else opTo p0 K := by
            rw [opTo, HBw.out]
            by_cases h : wordsL.getD K [] = p0
            · rw [if_pos ⟨hK1, h⟩, decide_eq_true h, if_pos rfl]
            · rw [if_neg (fun h2 => h h2.2), decide_eq_false h, if_neg (by decide)]
          have HOp2 := Lib.hid hop2
          clear hop2 hb
          cases b
          · go_wp2_with fail
            go_roundw
            case rel => exact ⟨K + 1, by omega, by omega, by go_num, by rw [HOp2.out, if_neg (by decide)], (HU3.out.drew).trans HUV.out⟩
            case measure => simp [Lib.intOf]; omega
          · go_wp2_with fail
            go_roundw
            case rel => exact ⟨K + 1, by omega, by omega, by go_num, by rw [HOp2.out, if_pos rfl], (HU3.out.drew).trans HUV.out⟩
            case measure => simp [Lib.intOf]; omega
        · obtain rfl : K = 13 := by omega
          rw [opTo_all]
          obtain ⟨op, hop⟩ : ∃ op, op = opOf p0 := ⟨_, rfl⟩
          rw [← hop]
          have HOp := Lib.hid hop
          have hor := opOf_range p0
          rw [← hop] at hor
          clear hop
          go_upto_region 15 with (fail)
          have hb9 : Blk (wr.alloc (.cells #[.int .i64 0, .int .i64 0, .int .i64 0, .int .i64 0] 23)) wr.heap.size (mkEnt 0 []).numCells 23 := Blk.made wr (mkEnt 0 []).numCells 23
          have hu4 := HU3.out.alloc (.cells #[.int .i64 0, .int .i64 0, .int .i64 0, .int .i64 0] 23)
          have hlt9 : w.heap.size < wr.heap.size := by have := HB2.out.lt; have := HU3.out.size; omega
          have hg9 : g < wr.heap.size := by have := HU3.out.size; omega
          generalize wr.alloc (.cells #[.int .i64 0, .int .i64 0, .int .i64 0, .int .i64 0] 23) = w4 at *
          generalize wr.heap.size = b9 at *
          have hb4 := HB2.out.upd hu4 (fun h => h)
          have hu5 := HU2.out.trans hu4
          have q0 := hb9.cell 0 rfl
          have q1 := hb9.cell 1 rfl
          have q2 := hb9.cell 2 rfl
          have q3 := hb9.cell 3 rfl
          have r0 := hb4.cell 0 rfl
          have r1 := hb4.cell 1 rfl
          have r2 := hb4.cell 2 rfl
          have r3 := hb4.cell 3 rfl
          have rf0 := hb4.frozen 0
          have rf1 := hb4.frozen 1
          have rf2 := hb4.frozen 2
          have rf3 := hb4.frozen 3
          have rl := hb4.lt
          have HB9 := Lib.hid hb9
          have HB4 := Lib.hid hb4
          have HU4 := Lib.hid hu4
          have HU5 := Lib.hid hu5
          clear hb9 hb4 hu4 hu5 g0
          by_cases h0 : op = 0
          · have e0 : (op == 0) = true := by rw [beq_iff_eq]; exact h0
            have hno : ¬ fits l := fun hf => hf.1 (by rw [HSp.out]; exact HOp.out.symm.trans h0)
            have HNo := Lib.hid (parsedR_no hno)
            clear hno h0
            go_wp2_with fail
            refine wp_region_held_drew (S := (fun V => V.cell? ⟨b9, 0, none⟩ = some (.int .i64 0) ∧ V.cell? ⟨b9, 1, none⟩ = some (.int .i64 0) ∧ V.cell? ⟨b9, 2, none⟩ = some (.int .i64 0) ∧ V.cell? ⟨b9, 3, none⟩ = some (.int .i64 0))) (by kernel_rfl) ⟨q0, q1, q2, q3⟩ (fun hHeld => ?_)
            simp only [List.size_toArray, List.length_cons, List.length_nil, Nat.reduceAdd]
            refine take_any (i := 0) (v := ?_) (by rfl) (by kernel_rfl) (by exact (fun _ _ _ h => h)) (by rfl) hHeld ?_ ?_
            rotate_left
            · ((intro V hV; obtain ⟨hV0, hV1, hV2, hV3⟩ := hV; go_simp) <;> (with_reducible rfl))
            try simp only [Act.put, List.getElem?_toArray, List.getElem?_cons_succ, List.getElem?_cons_zero, List.getElem_toArray, List.getElem_cons_succ, List.getElem_cons_zero, List.setIfInBounds_toArray, List.set_cons_zero, List.set_cons_succ]
            refine take_any (i := 1) (v := ?_) (by rfl) (by kernel_rfl) (by exact (fun _ _ _ h => h)) (by rfl) hHeld ?_ ?_
            rotate_left
            · ((intro V hV; obtain ⟨hV0, hV1, hV2, hV3⟩ := hV; go_simp) <;> (with_reducible rfl))
            try simp only [Act.put, List.getElem?_toArray, List.getElem?_cons_succ, List.getElem?_cons_zero, List.getElem_toArray, List.getElem_cons_succ, List.getElem_cons_zero, List.setIfInBounds_toArray, List.set_cons_zero, List.set_cons_succ]
            refine next_last (i := 2) (by rfl) (by kernel_rfl) (fun KK hK => ?_)
            go_simp
            have hb9 := (((((HB9.out.drew).setOther (a := ⟨w.heap.size, 0, none⟩) (.int .i64 0) (by show b9 ≠ w.heap.size; omega)).setOther (a := ⟨w.heap.size, 1, none⟩) (.int .i64 0) (by show b9 ≠ w.heap.size; omega)).setOther (a := ⟨w.heap.size, 2, none⟩) (.int .i64 0) (by show b9 ≠ w.heap.size; omega)).setOther (a := ⟨w.heap.size, 3, none⟩) (.int .i64 0) (by show b9 ≠ w.heap.size; omega))
            refine hK.out _ _ ⟨hb9.cell 0 rfl, hb9.cell 1 rfl, hb9.cell 2 rfl, hb9.cell 3 rfl⟩ (fun hHeld => ?_)
            clear hK KK
            try simp only [Act.put, List.getElem?_toArray, List.getElem?_cons_succ, List.getElem?_cons_zero, List.getElem_toArray, List.getElem_cons_succ, List.getElem_cons_zero, List.setIfInBounds_toArray, List.set_cons_zero, List.set_cons_succ]
            refine take_any (i := 3) (v := ?_) (by rfl) (by kernel_rfl) (by exact (fun _ _ _ h => h)) (by rfl) hHeld ?_ ?_
            rotate_left
            · ((intro V hV; obtain ⟨hV0, hV1, hV2, hV3⟩ := hV; go_simp) <;> (with_reducible rfl))
            try simp only [Act.put, List.getElem?_toArray, List.getElem?_cons_succ, List.getElem?_cons_zero, List.getElem_toArray, List.getElem_cons_succ, List.getElem_cons_zero, List.setIfInBounds_toArray, List.set_cons_zero, List.set_cons_succ]
            refine wpAnyH_done (by kernel_rfl) ?_ _
            go_wp2_with fail
            refine bodyPost_ret (res_tmp_cell_tmp rfl _ _ w.heap.size _ 23 _ _ _ rfl rfl rfl (Blk.set4 HB4.out.drew (.int .i64 0) (.int .i64 0) (.int .i64 0) (.int .i64 0)) Tryd.underlying23 rfl (by kernel_rfl)) rfl ⟨ret_v (by rw [HNo.out]; rfl), Upd.set4 HU5.out.drew _ _ _ _ _ (fun h => by omega)⟩
          · have e0 : (op == 0) = false := by rw [beq_eq_false_iff_ne]; exact h0
            have h0p : opOf p0 ≠ 0 := by rw [← HOp.out]; exact h0
            have hm0 := opOf_many h0p
            rw [← HOp.out] at hm0
            obtain ⟨m, hm⟩ : ∃ m : Nat, manyOf op = (m : Int) := ⟨(manyOf op).toNat, by omega⟩
            have hm4 := many_range op
            rw [hm] at hm4
            have s1 : IntKind.i64.wrap (1 + (m : Int)) = 1 + (m : Int) := IntWalk.i64_in _ (by omega)
            have hmr := manyRef_any w4 op
            rw [hm] at hmr
            have HMr := Lib.hid hmr
            have HM := Lib.hid hm
            have H0p := Lib.hid h0p
            clear hm hmr h0p hm0 h0
            by_cases hnm : A.length = m
            · obtain ⟨n, hn⟩ : ∃ n, n = A.length := ⟨_, rfl⟩
              have hnr := HNr.out
              rw [← hn] at hnr hnm ⊢
              have HNr2 := Lib.hid hnr
              subst hnm
              have d1 : ((n : Int) + 1 != 1 + (n : Int)) = false := by rw [bne_eq_false_iff_eq]; omega
              clear hn hnr HNr
              go_wp2_with fail
              refine (HMr.out).mono ?_
              rintro x V ⟨rfl, rfl⟩
              obtain ⟨vals, hvals⟩ : ∃ vals : List Int, vals = rest.map fun q => (numR q).1 := ⟨_, rfl⟩
              have hvl : vals.length = n := by rw [hvals, List.length_map, HNr2.out]
              have HVals := Lib.hid hvals
              clear hvals q0 q1 q2 q3 r0 r1 r2 r3 rf0 rf1 rf2 rf3
              go_wp2_with fail
              go_loopw [10] (fun i wl => ∃ j : Nat, j ≤ n ∧ i = .int .i64 ((j : Int) + 1) ∧ Blk wl b9 (mkEnt op (vals.take j)).numCells 23 ∧ (∀ q ∈ rest.take j, (numR q).2 = true) ∧ Upd (fun b => b = b9) V wl) (fun i _ => n + 1 - (Lib.intOf i).toNat)
              case atStart => exact ⟨0, Nat.zero_le _, rfl, HB9.out, by simp, Upd.refl _ _⟩
              case round =>
                obtain ⟨j, hj, rfl, hB, hok, hU6⟩ := hrel
                have HB := Lib.hid hB
                have HOk := Lib.hid hok
                have HU6 := Lib.hid hU6
                have HU7 := Lib.hid (HU5.out.next hU6 (fun i hi e => by omega))
                clear hB hok hU6
                by_cases hjn : j < n
                · obtain ⟨q, hq⟩ : ∃ q, rest[j]? = some q := ⟨_, List.getElem?_eq_getElem (by have := HNr2.out; omega)⟩
                  have g1 : wr.cell? ⟨g, j + 1, none⟩ = some (strV q) := keepS HU6.out (by omega) (keepC HU4.out (HCl.out (j + 1) q (by rw [List.getElem?_cons_succ]; exact hq)))
                  have hql : q.length ≤ 1000000 := by
                    have h1 := spl_len l q (by rw [HSp.out]; exact List.mem_cons_of_mem _ (List.mem_of_getElem? hq))
                    have h2 := HSl.out
                    omega
                  have HNum := Lib.hid (number_any wr ⟨q.toArray⟩ q rfl hql)
                  have hv : vals[j]? = some (numR q).1 := by rw [HVals.out, List.getElem?_map, hq]; rfl
                  have HV := Lib.hid hv
                  have HQ := Lib.hid hq
                  have d2 : decide ((j : Int) + 1 < (n : Int) + 1) = true := decide_eq_true (by omega)
                  have d2' : decide ((j : Int) < (n : Int)) = true := decide_eq_true (by omega)
                  have d2'' : decide (j < n) = true := decide_eq_true (by omega)
                  have j1 : (0 : Int) ≤ (j : Int) + 1 := by omega
                  have j2 : (j : Int) + 1 < (n : Int) + 1 := by omega
                  have j3 : (0 : Int) ≤ (j : Int) := by omega
                  have j4 : (j : Int) < 4 := by omega
                  have j5 : j < 4 := by omega
                  have s2 : IntKind.i64.wrap (j : Int) = (j : Int) := IntWalk.i64_in _ (by omega)
                  clear hq hv hql
                  go_wp2_with fail
                  refine (HNum.out).mono ?_
                  rintro x V2 ⟨rfl, hu8⟩
                  have HB8 := Lib.hid (HB.out.upd hu8 (fun h => h))
                  have HU8 := Lib.hid (HU6.out.next hu8 (fun _ _ h => h.elim))
                  have HU9 := Lib.hid (HU7.out.trans hu8)
                  have hb8 := (HB4.out.upd HU6.out (by omega)).upd hu8 (fun h => h)
                  have HR8 := Lib.hid hb8
                  clear hu8 g1
                  by_cases hb : (numR q).2 = true
                  · have bl := HB8.out.lt
                    have bf := HB8.out.frozen j
                    obtain ⟨old, hold⟩ : ∃ old, (mkEnt op (vals.take j)).numCells[j]? = some old := ⟨_, List.getElem?_eq_getElem (by show j < 4; omega)⟩
                    have bc := HB8.out.cell j hold
                    clear hb8 hold
                    go_wp2_with fail
                    go_roundw
                    case rel =>
                      refine ⟨j + 1, by omega, by go_num, ?_, ?_, HU8.out.setCell _ (fun _ => rfl)⟩
                      · rw [← mkNum_set op vals j _ (by omega) HV.out]
                        exact HB8.out.set j _
                      · intro q' hq'
                        rw [List.take_add_one, HQ.out, Option.toList_some, List.mem_append, List.mem_singleton] at hq'
                        rcases hq' with h | h
                        · exact HOk.out q' h
                        · rw [h]; exact hb
                    case measure => simp [Lib.intOf]; omega
                  · have hb' : (numR q).2 = false := by cases h : (numR q).2 <;> simp_all
                    have hno : ¬ fits l := fun hf => hb ((fits_iff HSp.out H0p.out (by rw [← HOp.out, HM.out, HNr2.out])).1 hf q (List.mem_of_getElem? HQ.out))
                    have HNo := Lib.hid (parsedR_no hno)
                    have r0 := hb8.cell 0 rfl
                    have r1 := hb8.cell 1 rfl
                    have r2 := hb8.cell 2 rfl
                    have r3 := hb8.cell 3 rfl
                    have rf0 := hb8.frozen 0
                    have rf1 := hb8.frozen 1
                    have rf2 := hb8.frozen 2
                    have rf3 := hb8.frozen 3
                    have rl := hb8.lt
                    clear hno hb hb8
                    go_wp2_with fail
                    refine bodyPost_ret (res_tmp_cell_tmp rfl _ _ w.heap.size _ 23 _ _ _ rfl rfl rfl (Blk.set4 HR8.out (.int .i64 0) (.int .i64 0) (.int .i64 0) (.int .i64 0)) Tryd.underlying23 rfl (by kernel_rfl)) rfl ⟨ret_v (by rw [HNo.out]; rfl), Upd.set4 HU9.out _ _ _ _ _ (fun h => by omega)⟩
                · obtain rfl : j = n := by omega
                  have hall : ∀ q ∈ rest, (numR q).2 = true := by
                    have h := HOk.out
                    rw [List.take_of_length_le (by rw [HNr2.out]; exact Nat.le_refl _)] at h
                    exact h
                  have hf : fits l := (fits_iff HSp.out H0p.out (by rw [← HOp.out, HM.out, HNr2.out])).2 hall
                  obtain ⟨E, hE⟩ : ∃ E, E = mkEnt op vals := ⟨_, rfl⟩
                  have hmade : made (spl l) = E := by
                    rw [hE, HVals.out, HSp.out, HOp.out]
                    show mkEnt (opOf p0) (rest.map numOf) = _
                    rw [List.map_congr_left (fun q hq => num_of_ok (hall q hq))]
                  have hB2 := HB.out
                  rw [List.take_of_length_le (by omega), ← hE] at hB2
                  have hop : op = E.op := by rw [hE]; rfl
                  have q0 := hB2.cell 0 rfl
                  have q1 := hB2.cell 1 rfl
                  have q2 := hB2.cell 2 rfl
                  have q3 := hB2.cell 3 rfl
                  have hb8 := HB4.out.upd HU6.out (by omega)
                  have r0 := hb8.cell 0 rfl
                  have r1 := hb8.cell 1 rfl
                  have r2 := hb8.cell 2 rfl
                  have r3 := hb8.cell 3 rfl
                  have rf0 := hb8.frozen 0
                  have rf1 := hb8.frozen 1
                  have rf2 := hb8.frozen 2
                  have rf3 := hb8.frozen 3
                  have rl := hb8.lt
                  have HR8 := Lib.hid hb8
                  have HF := Lib.hid hf
                  have HMade := Lib.hid hmade
                  have HB2' := Lib.hid hB2
                  have HOpE := Lib.hid hop
                  clear hb8 hf hmade hB2 hop hall hE
                  have d2 : decide ((j : Int) + 1 < (j : Int) + 1) = false := decide_eq_false (by omega)
                  have d2' : decide ((j : Int) < (j : Int)) = false := decide_eq_false (by omega)
                  go_wp2_with fail
                  refine wp_region_held_drew (S := (fun V => V.cell? ⟨b9, 0, none⟩ = some (.int .i64 E.n0) ∧ V.cell? ⟨b9, 1, none⟩ = some (.int .i64 E.n1) ∧ V.cell? ⟨b9, 2, none⟩ = some (.int .i64 E.n2) ∧ V.cell? ⟨b9, 3, none⟩ = some (.int .i64 E.n3))) (by kernel_rfl) ⟨q0, q1, q2, q3⟩ (fun hHeld => ?_)
                  simp only [List.size_toArray, List.length_cons, List.length_nil, Nat.reduceAdd]
                  refine take_any (i := 0) (v := ?_) (by rfl) (by kernel_rfl) (by exact (fun _ _ _ h => h)) (by rfl) hHeld ?_ ?_
                  rotate_left
                  · ((intro V hV; obtain ⟨hV0, hV1, hV2, hV3⟩ := hV; go_simp) <;> (with_reducible rfl))
                  try simp only [Act.put, List.getElem?_toArray, List.getElem?_cons_succ, List.getElem?_cons_zero, List.getElem_toArray, List.getElem_cons_succ, List.getElem_cons_zero, List.setIfInBounds_toArray, List.set_cons_zero, List.set_cons_succ]
                  refine take_any (i := 1) (v := ?_) (by rfl) (by kernel_rfl) (by exact (fun _ _ _ h => h)) (by rfl) hHeld ?_ ?_
                  rotate_left
                  · ((intro V hV; obtain ⟨hV0, hV1, hV2, hV3⟩ := hV; go_simp) <;> (with_reducible rfl))
                  try simp only [Act.put, List.getElem?_toArray, List.getElem?_cons_succ, List.getElem?_cons_zero, List.getElem_toArray, List.getElem_cons_succ, List.getElem_cons_zero, List.setIfInBounds_toArray, List.set_cons_zero, List.set_cons_succ]
                  refine take_any (i := 2) (v := ?_) (by rfl) (by kernel_rfl) (by exact (fun _ _ _ h => h)) (by rfl) hHeld ?_ ?_
                  rotate_left
                  · ((intro V hV; obtain ⟨hV0, hV1, hV2, hV3⟩ := hV; go_simp) <;> (with_reducible rfl))
                  try simp only [Act.put, List.getElem?_toArray, List.getElem?_cons_succ, List.getElem?_cons_zero, List.getElem_toArray, List.getElem_cons_succ, List.getElem_cons_zero, List.setIfInBounds_toArray, List.set_cons_zero, List.set_cons_succ]
                  refine next_last (i := 3) (by rfl) (by kernel_rfl) (fun KK hK => ?_)
                  go_simp
                  have hb9 := (((((HB2'.out.drew).setOther (a := ⟨w.heap.size, 0, none⟩) (.int .i64 E.n0) (by show b9 ≠ w.heap.size; omega)).setOther (a := ⟨w.heap.size, 1, none⟩) (.int .i64 E.n1) (by show b9 ≠ w.heap.size; omega)).setOther (a := ⟨w.heap.size, 2, none⟩) (.int .i64 E.n2) (by show b9 ≠ w.heap.size; omega)).setOther (a := ⟨w.heap.size, 3, none⟩) (.int .i64 E.n3) (by show b9 ≠ w.heap.size; omega))
                  refine hK.out _ _ ⟨hb9.cell 0 rfl, hb9.cell 1 rfl, hb9.cell 2 rfl, hb9.cell 3 rfl⟩ (fun hHeld => ?_)
                  clear hK KK
                  try simp only [Act.put, List.getElem?_toArray, List.getElem?_cons_succ, List.getElem?_cons_zero, List.getElem_toArray, List.getElem_cons_succ, List.getElem_cons_zero, List.setIfInBounds_toArray, List.set_cons_zero, List.set_cons_succ]
                  refine take_any (i := 4) (v := ?_) (by rfl) (by kernel_rfl) (by exact (fun _ _ _ h => h)) (by rfl) hHeld ?_ ?_
                  rotate_left
                  · ((intro V hV; obtain ⟨hV0, hV1, hV2, hV3⟩ := hV; go_simp) <;> (with_reducible rfl))
                  try simp only [Act.put, List.getElem?_toArray, List.getElem?_cons_succ, List.getElem?_cons_zero, List.getElem_toArray, List.getElem_cons_succ, List.getElem_cons_zero, List.setIfInBounds_toArray, List.set_cons_zero, List.set_cons_succ]
                  refine wpAnyH_done (by kernel_rfl) ?_ _
                  go_wp2_with fail
                  refine bodyPost_ret (res_tmp_cell_tmp rfl _ _ w.heap.size _ 23 _ _ _ rfl rfl rfl (Blk.set4 HR8.out.drew (.int .i64 E.n0) (.int .i64 E.n1) (.int .i64 E.n2) (.int .i64 E.n3)) Tryd.underlying23 rfl (by kernel_rfl)) rfl ⟨ret_v (by unfold parsedR; rw [if_pos HF.out, HMade.out, HOpE.out]; rfl), Upd.set4 HU7.out.drew _ _ _ _ _ (fun h => by omega)⟩
            · have d1 : ((A.length : Int) + 1 != 1 + (m : Int)) = true := by rw [bne_iff_ne]; omega
              have hno : ¬ fits l := fun hf => by
                have h2 := hf.2.1
                rw [HSp.out, show (p0 :: rest).getD 0 [] = p0 from rfl, ← HOp.out, HM.out, List.length_cons, HNr.out] at h2
                omega
              have HNo := Lib.hid (parsedR_no hno)
              clear hno hnm
              go_wp2_with fail
              refine (HMr.out).mono ?_
              rintro x V ⟨rfl, rfl⟩
              go_wp2_with fail
              refine wp_region_held_drew (S := (fun V => V.cell? ⟨b9, 0, none⟩ = some (.int .i64 0) ∧ V.cell? ⟨b9, 1, none⟩ = some (.int .i64 0) ∧ V.cell? ⟨b9, 2, none⟩ = some (.int .i64 0) ∧ V.cell? ⟨b9, 3, none⟩ = some (.int .i64 0))) (by kernel_rfl) ⟨q0, q1, q2, q3⟩ (fun hHeld => ?_)
              simp only [List.size_toArray, List.length_cons, List.length_nil, Nat.reduceAdd]
              refine take_any (i := 0) (v := ?_) (by rfl) (by kernel_rfl) (by exact (fun _ _ _ h => h)) (by rfl) hHeld ?_ ?_
              rotate_left
              · ((intro V hV; obtain ⟨hV0, hV1, hV2, hV3⟩ := hV; go_simp) <;> (with_reducible rfl))
              try simp only [Act.put, List.getElem?_toArray, List.getElem?_cons_succ, List.getElem?_cons_zero, List.getElem_toArray, List.getElem_cons_succ, List.getElem_cons_zero, List.setIfInBounds_toArray, List.set_cons_zero, List.set_cons_succ]
              refine take_any (i := 1) (v := ?_) (by rfl) (by kernel_rfl) (by exact (fun _ _ _ h => h)) (by rfl) hHeld ?_ ?_
              rotate_left
              · ((intro V hV; obtain ⟨hV0, hV1, hV2, hV3⟩ := hV; go_simp) <;> (with_reducible rfl))
              try simp only [Act.put, List.getElem?_toArray, List.getElem?_cons_succ, List.getElem?_cons_zero, List.getElem_toArray, List.getElem_cons_succ, List.getElem_cons_zero, List.setIfInBounds_toArray, List.set_cons_zero, List.set_cons_succ]
              refine next_last (i := 2) (by rfl) (by kernel_rfl) (fun KK hK => ?_)
              go_simp
              have hb9 := (((((HB9.out.drew).setOther (a := ⟨w.heap.size, 0, none⟩) (.int .i64 0) (by show b9 ≠ w.heap.size; omega)).setOther (a := ⟨w.heap.size, 1, none⟩) (.int .i64 0) (by show b9 ≠ w.heap.size; omega)).setOther (a := ⟨w.heap.size, 2, none⟩) (.int .i64 0) (by show b9 ≠ w.heap.size; omega)).setOther (a := ⟨w.heap.size, 3, none⟩) (.int .i64 0) (by show b9 ≠ w.heap.size; omega))
              refine hK.out _ _ ⟨hb9.cell 0 rfl, hb9.cell 1 rfl, hb9.cell 2 rfl, hb9.cell 3 rfl⟩ (fun hHeld => ?_)
              clear hK KK
              try simp only [Act.put, List.getElem?_toArray, List.getElem?_cons_succ, List.getElem?_cons_zero, List.getElem_toArray, List.getElem_cons_succ, List.getElem_cons_zero, List.setIfInBounds_toArray, List.set_cons_zero, List.set_cons_succ]
              refine take_any (i := 3) (v := ?_) (by rfl) (by kernel_rfl) (by exact (fun _ _ _ h => h)) (by rfl) hHeld ?_ ?_
              rotate_left
              · ((intro V hV; obtain ⟨hV0, hV1, hV2, hV3⟩ := hV; go_simp) <;> (with_reducible rfl))
              try simp only [Act.put, List.getElem?_toArray, List.getElem?_cons_succ, List.getElem?_cons_zero, List.getElem_toArray, List.getElem_cons_succ, List.getElem_cons_zero, List.setIfInBounds_toArray, List.set_cons_zero, List.set_cons_succ]
              refine wpAnyH_done (by kernel_rfl) ?_ _
              go_wp2_with fail
              refine bodyPost_ret (res_tmp_cell_tmp rfl _ _ w.heap.size _ 23 _ _ _ rfl rfl rfl (Blk.set4 HB4.out.drew (.int .i64 0) (.int .i64 0) (.int .i64 0) (.int .i64 0)) Tryd.underlying23 rfl (by kernel_rfl)) rfl ⟨ret_v (by rw [HNo.out]; rfl), Upd.set4 HU5.out.drew _ _ _ _ _ (fun h => by omega)⟩
end Go.Proofs.YtlphlaenecidiaaDoor.Scr
