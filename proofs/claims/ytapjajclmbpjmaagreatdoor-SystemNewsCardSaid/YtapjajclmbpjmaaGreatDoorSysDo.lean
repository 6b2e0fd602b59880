/- A system's Do: a new object. -/
import Derived.Test.YtapjajclmbpjmaaGreatDoorSysOps
set_option linter.unusedSimpArgs false
namespace Go.Proofs.YtapjajclmbpjmaaGreatDoor.Sys
open Go.RowKit Go.Proofs.YtapjajclmbpjmaaGreatDoor.Mem Go.Proofs.YtapjajclmbpjmaaGreatDoor.Heap Go.Proofs.YtapjajclmbpjmaaGreatDoor.Obj

/-- What stands behind a new object. -/
def MadeEnd (V w' : World) (h hwb hsb n r at_ : Nat) (os' : List Ob) (rest' : List Int) (l : List Int) (m : Nat) (v2 v3 : Value) : Prop :=
  HeapAt w' h hwb hsb n os' rest' ∧ (∃ q cap', Blk w' r [.slice q (m + 1) cap', v2, v3] 86 ∧ w'.ownsRow V.heap.size 3 1 (.slice q (m + 1) cap') (m + 1) (ints (l ++ [(at_ : Int) + 1]))) ∧ Upd (fun k => k = h ∨ k = hwb ∨ k = hsb ∨ k = r) V w'
set_option maxRecDepth 20000 in
set_option maxHeartbeats 4000000 in
theorem make_first (w : World) (s r a h hwb hsb n at_ : Nat) (os' : List Ob) (rest' : List Int) (c2 : w.cell? ⟨s, 9, none⟩ = some (.pointer (some ⟨r, 0, none⟩))) (c3 : w.cell? ⟨s, 10, none⟩ = some (.pointer (some ⟨a, 0, none⟩)))
    (v2 v3 : Value) (hr : Blk w r [.slice none 0 0, v2, v3] 86) (ap : s ≠ h ∧ s ≠ hwb ∧ s ≠ hsb ∧ s ≠ r ∧ r ≠ h ∧ r ≠ hwb ∧ r ≠ hsb) (lt : h < w.heap.size ∧ hwb < w.heap.size ∧ hsb < w.heap.size) (hat : at_ < 65536)
    (th : Int) (k l p : Int) (HAl : ∀ V, Upd (fun _ => False) w V → Calls Tryz.prog 84 #[.pointer (some ⟨a, 0, none⟩), .int .i64 th, .agg #[.int .i64 k, .int .i64 l, .int .i64 p]] V fun e w' => e = .returned (.tuple #[.int .i64 (at_ : Int), .int .i64 0]) ∧ HeapAt w' h hwb hsb n os' rest' ∧ Upd (fun k => k = h ∨ k = hwb ∨ k = hsb) V w') :
    Calls Tryz.prog 61 #[.pointer (some ⟨s, 0, none⟩), .int .i64 th, .agg #[.int .i64 k, .int .i64 l, .int .i64 p]] w fun e w' => e = .returned (.int .i64 0) ∧ MadeEnd w w' h hwb hsb n r at_ os' rest' [] 0 v2 v3 := by
  have hu := (Upd.refl (fun _ => False) w).alloc (.cells #[.int .i64 k, .int .i64 l, .int .i64 p] 136)
  have hb := Blk.made w [.int .i64 k, .int .i64 l, .int .i64 p] 136
  have sl := World.block_lt_of_cell? w _ c2
  have c2' := keepC hu c2
  have c3' := keepC hu c3
  have b0 := hb.cell 0 rfl
  have b1 := hb.cell 1 rfl
  have b2 := hb.cell 2 rfl
  have HLen := Lib.hid (fun (V : World) (hV : Upd (fun _ => False) w V) => rootsLen_any V r none 0 0 (keepC hV (hr.cell 0 rfl)))
  have HA := Lib.hid HAl
  have HU := Lib.hid hu
  have HR := Lib.hid hr
  have rl := hr.lt
  clear HAl hu hb hr c2 c3
  have c2 := c2'
  have c3 := c3'
  have HC2 := Lib.hid c2'
  have HC3 := Lib.hid c3'
  clear c2' c3'
  have s1 : IntKind.i64.wrap ((at_ : Int) + 1) = (at_ : Int) + 1 := IntWalk.i64_in _ (by omega)
  go_enter Tryz.func61, Tryz.ntmps61
  go_upto_region 1 with (fail)
  generalize w.alloc (.cells #[.int .i64 k, .int .i64 l, .int .i64 p] 136) = w1 at *
  go_wp2_with fail
  refine (HLen.out _ HU.out).mono ?_
  rintro e w2 ⟨rfl, rfl⟩
  go_upto_region 3 with (fail)
  refine wp_region_held_drew (S := (fun V => V.cell? ⟨s, 10, none⟩ = some (.pointer (some ⟨a, 0, none⟩)) ∧ V.cell? ⟨w.heap.size, 0, none⟩ = some (.int .i64 k) ∧ V.cell? ⟨w.heap.size, 1, none⟩ = some (.int .i64 l) ∧ V.cell? ⟨w.heap.size, 2, none⟩ = some (.int .i64 p))) (by kernel_rfl) ⟨c3, b0, b1, b2⟩ (fun hHeld => ?_)
  simp only [List.size_toArray, List.length_cons, List.length_nil, Nat.reduceAdd]
  refine take_any (i := 0) (v := ?_) (by rfl) (by kernel_rfl) (by exact (fun _ _ _ h => h)) (by rfl) hHeld ?_ ?_
  rotate_left
  · ((intro V hV; obtain ⟨hV0, hV1, hV2, hV3⟩ := hV; go_simp) <;> (with_reducible rfl))
  try simp only [Act.put, List.getElem?_toArray, List.getElem?_cons_succ, List.getElem?_cons_zero, List.getElem_toArray, List.getElem_cons_succ, List.getElem_cons_zero, List.setIfInBounds_toArray, List.set_cons_zero, List.set_cons_succ]
  refine take_any (i := 1) (v := ?_) (by rfl) (by kernel_rfl) (by exact (fun _ _ _ h => h)) (by rfl) hHeld ?_ ?_
  rotate_left
  · ((intro V hV; obtain ⟨hV0, hV1, hV2, hV3⟩ := hV; go_simp) <;> (with_reducible rfl))
  try simp only [Act.put, List.getElem?_toArray, List.getElem?_cons_succ, List.getElem?_cons_zero, List.getElem_toArray, List.getElem_cons_succ, List.getElem_cons_zero, List.setIfInBounds_toArray, List.set_cons_zero, List.set_cons_succ]
  refine take_any (i := 2) (v := ?_) (by rfl) (by kernel_rfl) (by exact (fun _ _ _ h => h)) (by rfl) hHeld ?_ ?_
  rotate_left
  · ((intro V hV; obtain ⟨hV0, hV1, hV2, hV3⟩ := hV; go_simp) <;> (with_reducible rfl))
  try simp only [Act.put, List.getElem?_toArray, List.getElem?_cons_succ, List.getElem?_cons_zero, List.getElem_toArray, List.getElem_cons_succ, List.getElem_cons_zero, List.setIfInBounds_toArray, List.set_cons_zero, List.set_cons_succ]
  refine take_any (i := 3) (v := ?_) (by rfl) (by kernel_rfl) (by exact (fun _ _ _ h => h)) (by rfl) hHeld ?_ ?_
  rotate_left
  · ((intro V hV; obtain ⟨hV0, hV1, hV2, hV3⟩ := hV; go_simp) <;> (with_reducible rfl))
  try simp only [Act.put, List.getElem?_toArray, List.getElem?_cons_succ, List.getElem?_cons_zero, List.getElem_toArray, List.getElem_cons_succ, List.getElem_cons_zero, List.setIfInBounds_toArray, List.set_cons_zero, List.set_cons_succ]
  refine take_any (i := 4) (v := ?_) (by rfl) (by kernel_rfl) (by exact (fun _ _ _ h => h)) (by rfl) hHeld ?_ ?_
  rotate_left
  · ((intro V hV; obtain ⟨hV0, hV1, hV2, hV3⟩ := hV; go_simp) <;> (with_reducible rfl))
  try simp only [Act.put, List.getElem?_toArray, List.getElem?_cons_succ, List.getElem?_cons_zero, List.getElem_toArray, List.getElem_cons_succ, List.getElem_cons_zero, List.setIfInBounds_toArray, List.set_cons_zero, List.set_cons_succ]
  refine take_any (i := 5) (v := ?_) (by rfl) (by kernel_rfl) (by exact (fun _ _ _ h => h)) (by rfl) hHeld ?_ ?_
  rotate_left
  · ((intro V hV; obtain ⟨hV0, hV1, hV2, hV3⟩ := hV; go_simp) <;> (with_reducible rfl))
  try simp only [Act.put, List.getElem?_toArray, List.getElem?_cons_succ, List.getElem?_cons_zero, List.getElem_toArray, List.getElem_cons_succ, List.getElem_cons_zero, List.setIfInBounds_toArray, List.set_cons_zero, List.set_cons_succ]
  refine next_last (i := 6) (by rfl) (by kernel_rfl) (fun KK hK => ?_)
  go_simp
  refine (HA.out _ HU.out.drew).mono ?_
  rintro y V ⟨rfl, hH, hu1⟩
  have hU1 := ((Upd.refl (fun _ => False) w2).drew.mono (T := fun k => k = h ∨ k = hwb ∨ k = hsb) (fun _ _ h => h.elim)).trans hu1
  have HU1 := Lib.hid ((HU.out.mono (fun _ _ h => h.elim)).trans hU1)
  have HC2b := Lib.hid (keepS hU1 (fun e => by rcases e with e | e | e; (· exact ap.1 e); (· exact ap.2.1 e); (· exact ap.2.2.1 e)) HC2.out)
  have HH := Lib.hid hH
  have hsz1 := HU1.out.size
  refine hK.out _ _ ⟨keepS hU1 (fun e => by rcases e with e | e | e; (· exact ap.1 e); (· exact ap.2.1 e); (· exact ap.2.2.1 e)) c3, keepS hU1 (by omega) b0, keepS hU1 (by omega) b1, keepS hU1 (by omega) b2⟩ (fun hHeld => ?_)
  clear hK KK
  try simp only [Act.put, List.getElem?_toArray, List.getElem?_cons_succ, List.getElem?_cons_zero, List.getElem_toArray, List.getElem_cons_succ, List.getElem_cons_zero, List.setIfInBounds_toArray, List.set_cons_zero, List.set_cons_succ]
  clear hU1 hu1 hH
  refine take_any (i := 7) (v := ?_) (by rfl) (by kernel_rfl) (by exact (fun _ _ _ h => h)) (by rfl) hHeld ?_ ?_
  rotate_left
  · ((intro V hV; obtain ⟨hV0, hV1, hV2, hV3⟩ := hV; go_simp) <;> (with_reducible rfl))
  try simp only [Act.put, List.getElem?_toArray, List.getElem?_cons_succ, List.getElem?_cons_zero, List.getElem_toArray, List.getElem_cons_succ, List.getElem_cons_zero, List.setIfInBounds_toArray, List.set_cons_zero, List.set_cons_succ]
  refine take_any (i := 8) (v := ?_) (by rfl) (by kernel_rfl) (by exact (fun _ _ _ h => h)) (by rfl) hHeld ?_ ?_
  rotate_left
  · ((intro V hV; obtain ⟨hV0, hV1, hV2, hV3⟩ := hV; go_simp) <;> (with_reducible rfl))
  try simp only [Act.put, List.getElem?_toArray, List.getElem?_cons_succ, List.getElem?_cons_zero, List.getElem_toArray, List.getElem_cons_succ, List.getElem_cons_zero, List.setIfInBounds_toArray, List.set_cons_zero, List.set_cons_succ]
  refine take_any (i := 9) (v := ?_) (by rfl) (by kernel_rfl) (by exact (fun _ _ _ h => h)) (by rfl) hHeld ?_ ?_
  rotate_left
  · ((intro V hV; obtain ⟨hV0, hV1, hV2, hV3⟩ := hV; go_simp) <;> (with_reducible rfl))
  try simp only [Act.put, List.getElem?_toArray, List.getElem?_cons_succ, List.getElem?_cons_zero, List.getElem_toArray, List.getElem_cons_succ, List.getElem_cons_zero, List.setIfInBounds_toArray, List.set_cons_zero, List.set_cons_succ]
  refine take_any (i := 10) (v := ?_) (by rfl) (by kernel_rfl) (by exact (fun _ _ _ h => h)) (by rfl) hHeld ?_ ?_
  rotate_left
  · ((intro V hV; obtain ⟨hV0, hV1, hV2, hV3⟩ := hV; go_simp) <;> (with_reducible rfl))
  try simp only [Act.put, List.getElem?_toArray, List.getElem?_cons_succ, List.getElem?_cons_zero, List.getElem_toArray, List.getElem_cons_succ, List.getElem_cons_zero, List.setIfInBounds_toArray, List.set_cons_zero, List.set_cons_succ]
  refine take_any (i := 11) (v := ?_) (by rfl) (by kernel_rfl) (by exact (fun _ _ _ h => h)) (by rfl) hHeld ?_ ?_
  rotate_left
  · ((intro V hV; obtain ⟨hV0, hV1, hV2, hV3⟩ := hV; go_simp) <;> (with_reducible rfl))
  try simp only [Act.put, List.getElem?_toArray, List.getElem?_cons_succ, List.getElem?_cons_zero, List.getElem_toArray, List.getElem_cons_succ, List.getElem_cons_zero, List.setIfInBounds_toArray, List.set_cons_zero, List.set_cons_succ]
  refine wpAnyH_done (by kernel_rfl) ?_ _
  have hr3 := HR.out.upd HU1.out (fun e => by rcases e with e | e | e; (· exact ap.2.2.2.2.1 e); (· exact ap.2.2.2.2.2.1 e); (· exact ap.2.2.2.2.2.2 e))
  have HR3 := Lib.hid hr3
  have HPu := Lib.hid (push_any V V.heap.size r none 0 0 [] v2 v3 hr3 ⟨rfl, .inl ⟨rfl, rfl⟩⟩ (Nat.le_refl _) hr3.lt (by omega) ((at_ : Int) + 1) (by omega))
  have c2b := HC2b.out
  clear c2 c3 b0 b1 b2 hr3
  go_wp2_with fail
  refine (HPu.out).mono ?_
  rintro e w4 ⟨rfl, q, cap', h1, h2, h3⟩
  have hu4 : Upd (fun k => k = r) V w4 := h3.mono (fun _ _ e => by rcases e with e | e; (· exact e); (· cases e))
  have HF := Lib.hid (show MadeEnd w w4 h hwb hsb n r at_ os' rest' [] 0 v2 v3 from
    ⟨HH.out.upd hu4 (fun e => ap.2.2.2.2.1 e.symm) (fun e => ap.2.2.2.2.2.1 e.symm) (fun e => ap.2.2.2.2.2.2 e.symm), ⟨q, cap', h1, own_base h2 hsz1⟩,
      (HU1.out.mono (fun _ _ e => by rcases e with e | e | e; (· exact .inl e); (· exact .inr (.inl e)); (· exact .inr (.inr (.inl e))))).next hu4 (fun _ _ e => .inr (.inr (.inr e)))⟩)
  clear h1 h2 h3 hu4 c2b
  go_wp2_with fail
  go_ret
  exact ⟨rfl, HF.out⟩

set_option maxRecDepth 20000 in
set_option maxHeartbeats 4000000 in
theorem change_alloc (w : World) (s : Nat) (th k p l : Int) (Q : World → World → Prop)
    (hmk : ∀ V, Upd (fun _ => False) w V → Calls Tryz.prog 61 #[.pointer (some ⟨s, 0, none⟩), .int .i64 th, .agg #[.int .i64 k, .int .i64 l, .int .i64 p]] V fun e w' => e = .returned (.int .i64 0) ∧ Q V w') :
    Calls Tryz.prog 39 #[.pointer (some ⟨s, 0, none⟩), .agg #[.int .i64 1, .int .i64 th, .int .i64 k, .int .i64 p, .int .i64 l]] w fun e w' => e = .returned (.int .i64 0) ∧ ∃ V, Upd (fun _ => False) w V ∧ Q V w' := by
  have hu := ((Upd.refl (fun _ => False) w).alloc (.cells #[.int .i64 1, .int .i64 th, .int .i64 k, .int .i64 p, .int .i64 l] 46)).alloc (.cells #[.int .i64 th, .int .i64 k, .int .i64 p, .int .i64 l] 44)
  have hb := (Blk.made w [.int .i64 1, .int .i64 th, .int .i64 k, .int .i64 p, .int .i64 l] 46).alloc (.cells #[.int .i64 th, .int .i64 k, .int .i64 p, .int .i64 l] 44)
  have hn := Blk.made' w (.cells #[.int .i64 1, .int .i64 th, .int .i64 k, .int .i64 p, .int .i64 l] 46) [.int .i64 th, .int .i64 k, .int .i64 p, .int .i64 l] 44
  have HM := Lib.hid hmk
  have HU := Lib.hid hu
  have HB := Lib.hid hb
  have HN := Lib.hid hn
  clear hmk hu hb hn
  go_enter Tryz.func39, Tryz.ntmps39
  go_upto_region 2 with (fail)
  generalize (w.alloc (.cells #[.int .i64 1, .int .i64 th, .int .i64 k, .int .i64 p, .int .i64 l] 46)).alloc (.cells #[.int .i64 th, .int .i64 k, .int .i64 p, .int .i64 l] 44) = w1 at *
  have b0 := HB.out.cell 0 rfl
  have n0 := HN.out.cell 0 rfl
  have n1 := HN.out.cell 1 rfl
  have n2 := HN.out.cell 2 rfl
  have n3 := HN.out.cell 3 rfl
  go_wp2_with fail
  refine (HM.out _ HU.out).mono ?_
  rintro e w2 ⟨rfl, hq⟩
  have HQ := Lib.hid hq
  clear hq b0 n0 n1 n2 n3
  go_wp2_with fail
  go_ret
  exact ⟨rfl, w1, HU.out, HQ.out⟩
theorem res_cell1 {P : Program} {fn : Func} {p : Tmp} {ty : TypeId} (h : fn.results = #[.cell p ty]) (tmps : Array Value) (w : World) (b : Nat) (cs : List Value) (t : TypeId) (d : TypeDesc)
    (hp : tmps.getD p undef = .pointer (some ⟨b, 0, none⟩)) (hc : Blk w b cs t) (hu : P.underlying ty = some d) (hd : d.isRow = true) (hi : (P.info? ty).map (·.size) = some cs.length) :
    (results fn tmps).run P w = .ok (.agg cs.toArray) w := by
  have hp' : tmps[p]?.getD undef = .pointer (some ⟨b, 0, none⟩) := by simpa using hp
  simp [results, h, hp', asAddr, run_loadVar_mid w b 0 ty cs d hc.whole hu hd hi]
theorem set_same {α : Type} : ∀ (l : List α) (i : Nat) (x : α), l[i]? = some x → l.set i x = l
  | [], _, _, h => by cases h
  | a :: l, 0, x, h => by injection h with h; rw [List.set_cons_zero, h]
  | a :: l, i + 1, x, h => by rw [List.set_cons_succ, set_same l i x h]
/-- What stands behind a Do that makes an object. -/
def DoEnd (w w' : World) (s : Nat) (cs : List Value) (Q : World → World → Prop) : Prop :=
  ∃ V w1 rb, Upd (fun _ => False) w V ∧ Q V w1 ∧ w.heap.size ≤ rb ∧ rb < V.heap.size ∧ Upd (fun k => k = s ∨ k = rb) w1 w' ∧ Blk w' s cs 63
set_option maxRecDepth 20000 in
set_option maxHeartbeats 8000000 in
theorem do_alloc (w : World) (T : Scr.Tabs w) (s : Nat) (cs : List Value) (hs : Blk w s cs 63) (h11 : cs[11]? = some (.pointer none)) (h12 : cs[12]? = some (.bool false)) (th k p l : Int) (S : Nat → Prop) (hS : ¬ S s) (hSl : ∀ k, S k → k < w.heap.size) (Q : World → World → Prop) (hQ : ∀ V w', Q V w' → Upd S V w')
    (hmk : ∀ V, Upd (fun _ => False) w V → Calls Tryz.prog 61 #[.pointer (some ⟨s, 0, none⟩), .int .i64 th, .agg #[.int .i64 k, .int .i64 l, .int .i64 p]] V fun e w' => e = .returned (.int .i64 0) ∧ Q V w') :
    Calls Tryz.prog 21 #[.pointer (some ⟨s, 0, none⟩), .agg #[.int .i64 1, .int .i64 th, .int .i64 k, .int .i64 p, .int .i64 l]] w fun e w' => e = .returned (.agg #[.int .i64 0, .int .i64 0]) ∧ DoEnd w w' s cs Q := by
  have hgood : decide (Scr.Ent.good ⟨1, th, k, p, l⟩) = true := decide_eq_true ⟨by show (0 : Int) ≤ Scr.manyOf 1; decide, fun x hx => by
    have e : (Scr.manyOf 1).toNat = 4 := by decide
    have hx' : x ∈ [th, k, p, l].drop (Scr.manyOf 1).toNat := hx
    rw [e] at hx'
    cases hx'⟩
  have HG := Lib.hid (fun (V : World) (hV : Upd (fun _ => False) w V) => (hgood ▸ Scr.good_any V (T.quiet hV) ⟨1, th, k, p, l⟩ : Calls Tryz.prog 28 #[.agg #[.int .i64 1, .int .i64 th, .int .i64 k, .int .i64 p, .int .i64 l]] V fun e w' => e = .returned (.bool true) ∧ Upd (fun _ => False) V w'))
  have HCol := Lib.hid (fun (V : World) (hV : Upd (fun _ => False) w V) => collecting_no V s (keepC hV (hs.cell 11 h11)))
  have HCh := Lib.hid (fun (V : World) (hV : Upd (fun _ => False) w V) => change_alloc V s th k p l Q (fun W hW => hmk W (hV.trans hW)))
  have hu := ((Upd.refl (fun _ => False) w).alloc (.cells #[.int .i64 1, .int .i64 th, .int .i64 k, .int .i64 p, .int .i64 l] 46)).alloc (.cells #[.int .i64 0, .int .i64 0] 42)
  have hb := (Blk.made w [.int .i64 1, .int .i64 th, .int .i64 k, .int .i64 p, .int .i64 l] 46).alloc (.cells #[.int .i64 0, .int .i64 0] 42)
  have hr := Blk.made' w (.cells #[.int .i64 1, .int .i64 th, .int .i64 k, .int .i64 p, .int .i64 l] 46) [.int .i64 0, .int .i64 0] 42
  have HU := Lib.hid hu
  have HB := Lib.hid hb
  have HR := Lib.hid hr
  have HSb := Lib.hid hs
  have HQ := Lib.hid hQ
  have hsl := hs.lt
  clear hu hb hr hs hmk hgood hQ T
  go_enter Tryz.func21, Tryz.ntmps21
  go_upto_region 1 with (fail)
  generalize (w.alloc (.cells #[.int .i64 1, .int .i64 th, .int .i64 k, .int .i64 p, .int .i64 l] 46)).alloc (.cells #[.int .i64 0, .int .i64 0] 42) = w1 at *
  have b0 := HB.out.cell 0 rfl
  have b1 := HB.out.cell 1 rfl
  have b2 := HB.out.cell 2 rfl
  have b3 := HB.out.cell 3 rfl
  have b4 := HB.out.cell 4 rfl
  go_wp2_with fail
  refine (HG.out _ HU.out).mono ?_
  rintro e w2 ⟨rfl, hu2⟩
  have HU2 := Lib.hid (HU.out.trans hu2)
  have hb2 := HB.out.upd hu2 (fun h => h)
  have HR2 := Lib.hid (HR.out.upd hu2 (fun h => h))
  clear b0 b1 b2 b3 b4 hu2
  have b0 := hb2.cell 0 rfl
  have b1 := hb2.cell 1 rfl
  have b2 := hb2.cell 2 rfl
  have b3 := hb2.cell 3 rfl
  have b4 := hb2.cell 4 rfl
  have HB2 := Lib.hid hb2
  clear hb2
  go_upto_region 4 with (fail)
  have hu3 : Upd (fun _ => False) w2 (w2.alloc (.cells #[.int .i64 th, .int .i64 k, .int .i64 p, .int .i64 l] 44)) := (Upd.refl _ w2).alloc _
  generalize w2.alloc (.cells #[.int .i64 th, .int .i64 k, .int .i64 p, .int .i64 l] 44) = w3 at *
  have hb3 := HB2.out.upd hu3 (fun h => h)
  have HR3 := Lib.hid (HR2.out.upd hu3 (fun h => h))
  have HU3 := Lib.hid (HU2.out.trans hu3)
  clear b0 b1 b2 b3 b4 hu3
  have b0 := hb3.cell 0 rfl
  have b1 := hb3.cell 1 rfl
  have b2 := hb3.cell 2 rfl
  have b3 := hb3.cell 3 rfl
  have b4 := hb3.cell 4 rfl
  clear hb3
  go_wp2_with fail
  refine (HCol.out _ HU3.out).mono ?_
  rintro e w4 ⟨rfl, rfl⟩
  go_wp2_with fail
  refine (HCh.out _ HU3.out).mono ?_
  rintro e w5 ⟨rfl, V, hV, hq⟩
  have hu5 := HQ.out V w5 hq
  have hsz := HU3.out.size
  have hr5 := (HR3.out.upd hV (fun h => h)).upd hu5 (fun e => by have := hSl _ e; omega)
  have hs5 := (HSb.out.upd (HU3.out.trans hV) (fun h => h)).upd hu5 hS
  have hrl := (HR3.out.upd hV (fun h => h)).lt
  have HV := Lib.hid (HU3.out.trans hV)
  have HQ5 := Lib.hid hq
  have HR5 := Lib.hid hr5
  have HS5 := Lib.hid hs5
  clear hV hq hu5 b0 b1 b2 b3 b4
  have r0 := hr5.cell 0 rfl
  have r1 := hr5.cell 1 rfl
  have rf0 := hr5.frozen 0
  have rf1 := hr5.frozen 1
  have rl := hr5.lt
  have s12 := hs5.cell 12 h12
  have sf := hs5.frozen 12
  have sl := hs5.lt
  have hne : s ≠ w.heap.size + 1 := by omega
  clear hr5 hs5
  go_wp2_with fail
  have h1 := HS5.out.set 12 (.bool false)
  rw [set_same _ _ _ h12] at h1
  have h2 : Blk (((w5.setCell ⟨s, 12, none⟩ (.bool false)).setCell ⟨w.heap.size + 1, 0, none⟩ (.int .i64 0)).setCell ⟨w.heap.size + 1, 1, none⟩ (.int .i64 0)) s cs 63 := (h1.setOther (a := ⟨w.heap.size + 1, 0, none⟩) _ hne).setOther (a := ⟨w.heap.size + 1, 1, none⟩) _ hne
  have h3 : Blk (((w5.setCell ⟨s, 12, none⟩ (.bool false)).setCell ⟨w.heap.size + 1, 0, none⟩ (.int .i64 0)).setCell ⟨w.heap.size + 1, 1, none⟩ (.int .i64 0)) (w.heap.size + 1) [.int .i64 0, .int .i64 0] 42 := ((HR5.out.setOther (a := ⟨s, 12, none⟩) (.bool false) (fun e => hne e.symm)).set 0 (.int .i64 0)).set 1 (.int .i64 0)
  have h4 : Upd (fun k => k = s ∨ k = w.heap.size + 1) w5 (((w5.setCell ⟨s, 12, none⟩ (.bool false)).setCell ⟨w.heap.size + 1, 0, none⟩ (.int .i64 0)).setCell ⟨w.heap.size + 1, 1, none⟩ (.int .i64 0)) :=
    (((Upd.refl _ w5).setCell (p := ⟨s, 12, none⟩) _ (fun _ => .inl rfl)).setCell (p := ⟨w.heap.size + 1, 0, none⟩) _ (fun _ => .inr rfl)).setCell (p := ⟨w.heap.size + 1, 1, none⟩) _ (fun _ => .inr rfl)
  exact bodyPost_ret (res_cell1 rfl _ _ (w.heap.size + 1) _ 42 _ rfl h3 Tryz.underlying42 rfl (by kernel_rfl)) rfl ⟨rfl, V, w5, w.heap.size + 1, HV.out, HQ5.out, by omega, hrl, h4, h2⟩
end Go.Proofs.YtapjajclmbpjmaaGreatDoor.Sys
