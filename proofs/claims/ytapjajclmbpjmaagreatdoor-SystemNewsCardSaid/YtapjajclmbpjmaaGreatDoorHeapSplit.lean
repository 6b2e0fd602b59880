/- heap.Split: an object in a filler's place, of which some is left. -/
import Derived.Test.YtapjajclmbpjmaaGreatDoorHeap4
import Derived.Test.YtapjajclmbpjmaaGreatDoorHeapSplitP
set_option linter.unusedSimpArgs false
namespace Go.Proofs.YtapjajclmbpjmaaGreatDoor.Heap
open Go.RowKit Go.Proofs.YtapjajclmbpjmaaGreatDoor.Mem Go.Proofs.YtapjajclmbpjmaaGreatDoor.Obj

theorem find_here (os1 bs : List Ob) (F : Ob) : find (os1 ++ F :: bs) (top os1) = some F := by
  rw [find_append_right (Nat.le_refl _), Nat.sub_self]
  rfl
/-- What stands behind a split. -/
def SplitEnd (w w' : World) (h wb sb n : Nat) (os : List Ob) (rest : List Int) : Prop := HeapAt w' h wb sb n os rest ∧ Upd (fun k => k = wb ∨ k = sb) w w'
theorem split_heap {w w1 w2 : World} {h wb sb n : Nat} {os1 bs : List Ob} {F : Ob} {rest : List Int} (H : HeapAt w h wb sb n (os1 ++ F :: bs) rest) {k l p m : Nat} (hg : goodB k l p = true) (hl : l + 1 + m = F.len)
    (u1 : Upd (fun k => k = wb ∨ k = sb) w w1) (u2 : Upd (fun k => k = wb ∨ k = sb) w1 w2)
    (hw : Blk w2 wb (ints (flat os1 ++ ((k + 16 * (p + 4096 * l) : Nat) : Int) :: (List.replicate l 0 ++ ((15 + 16 * (0 + 4096 * m) : Nat) : Int) :: (List.replicate m 0 ++ (flat bs ++ rest))))) 3)
    (hb : Blk w2 sb (bools ((Obj.marks (os1 ++ F :: bs) ++ List.replicate rest.length false).set (top os1 + 1 + l) true)) 4) :
    SplitEnd w w2 h wb sb n (os1 ++ ⟨k, p, List.replicate l 0⟩ :: ⟨15, 0, List.replicate m 0⟩ :: bs) rest := by
  have hgb := of_decide_eq_true hg
  have hFl : F.len ≤ 4095 := (H.good F (by simp)).2.2.1
  have htop : top (os1 ++ ⟨k, p, List.replicate l 0⟩ :: ⟨15, 0, List.replicate m 0⟩ :: bs) = top (os1 ++ F :: bs) := by
    rw [top_append, top_append, top_cons, top_cons, top_cons]
    simp only [Ob.len, List.length_replicate]
    have : F.ws.length = F.len := rfl
    omega
  have u := u1.trans u2
  have hne := H.ne
  refine ⟨⟨?_, ?_, ?_, by rw [htop]; exact H.size, H.lo, H.hi, ?_, H.ne⟩, u⟩
  · rw [htop]
    exact H.str.upd u (fun e => by rcases e with e | e; (· exact hne.1 e); (· exact hne.2.1 e))
  · rw [flat_at]
    simp only [Ob.word, Ob.len, List.length_replicate, flat, List.cons_append, List.append_assoc]
    exact hw
  · rw [← split_mark2 os1 bs F _ ⟨k, p, List.replicate l 0⟩ ⟨15, 0, List.replicate m 0⟩ l m (by simp [Ob.len]) (by simp [Ob.len]) hl]
    exact hb
  · intro o ho
    rcases List.mem_append.1 ho with ho | ho
    · exact H.good o (List.mem_append_left _ ho)
    · rcases List.mem_cons.1 ho with rfl | ho
      · refine ⟨by show k ≤ 15; omega, by show p ≤ (List.replicate l (0 : Int)).length; rw [List.length_replicate]; omega, by show (List.replicate l (0 : Int)).length ≤ 4095; rw [List.length_replicate]; omega, fun hk => by have hk' : k = 15 := hk; show p = 0; omega⟩
      · rcases List.mem_cons.1 ho with rfl | ho
        · exact ⟨Nat.le_refl _, Nat.zero_le _, by show (List.replicate m (0 : Int)).length ≤ 4095; rw [List.length_replicate]; omega, fun _ => rfl⟩
        · exact H.good o (List.mem_append_right _ (List.mem_cons_of_mem _ ho))
set_option maxRecDepth 20000 in
set_option maxHeartbeats 4000000 in
theorem split_part (w : World) (h wb sb n : Nat) (os1 bs : List Ob) (F : Ob) (rest : List Int) (H : HeapAt w h wb sb n (os1 ++ F :: bs) rest) (hF : F.kind = 15) (k l p m : Nat) (hg : goodB k l p = true) (hl : l + 1 + m = F.len) (T : Nat) (hT : T = top os1) :
    Calls Tryz.prog 126 #[.pointer (some ⟨h, 0, none⟩), .int .i64 (T : Int), .agg #[.int .i64 (k : Int), .int .i64 (l : Int), .int .i64 (p : Int)]] w fun e w' => e = .returned (.tuple #[.int .i64 ((T + 1 + l : Nat) : Int), .int .i64 0]) ∧
      SplitEnd w w' h wb sb n (os1 ++ ⟨k, p, List.replicate l 0⟩ :: ⟨15, 0, List.replicate m 0⟩ :: bs) rest := by
  have hgb := of_decide_eq_true hg
  have hFl : F.len ≤ 4095 := (H.good F (by simp)).2.2.1
  have hfa := find_here os1 bs F
  have hfl := find_lt hfa
  have hsz := H.size
  have hhi := H.hi
  have hu := (Upd.refl (fun _ => False) w).alloc (.cells #[.int .i64 (k : Int), .int .i64 (l : Int), .int .i64 (p : Int)] 136)
  have hb := Blk.made w [.int .i64 (k : Int), .int .i64 (l : Int), .int .i64 (p : Int)] 136
  rw [← hT] at hfa hfl
  have hkk : (F.kind : Int) = 15 := by omega
  have hll : (F.len : Int) = (l : Int) + 1 + (m : Int) := by omega
  have HHd := Lib.hid (fun (V : World) (hV : Upd (fun _ => False) w V) => (hkk ▸ hll ▸ head_yes V h wb sb n _ rest (H.quiet hV) T F hfa : Calls Tryz.prog 72 #[.pointer (some ⟨h, 0, none⟩), .int .i64 (T : Int)] V fun e w' => e = .returned (.tuple #[.agg #[.int .i64 15, .int .i64 ((l : Int) + 1 + (m : Int)), .int .i64 (F.ptrs : Int)], .int .i64 0]) ∧ Upd (fun _ => False) V w'))
  have HGd := Lib.hid (fun (V : World) => (hg ▸ Heap.good_any (k : Int) (l : Int) (p : Int) V : Calls Tryz.prog 108 #[hd k l p] V fun e w' => e = .returned (.bool true) ∧ Upd (fun _ => False) V w'))
  have HLay := Lib.hid (fun (V : World) (hV : Upd (fun _ => False) w V) => lay_any V h wb sb n T k l p (.int .i64 (top (os1 ++ F :: bs) : Int)) (flat (os1 ++ F :: bs) ++ rest) (Obj.marks (os1 ++ F :: bs) ++ List.replicate rest.length false) (H.str.upd hV (fun h => h)) (H.wds.upd hV (fun h => h)) (H.sts.upd hV (fun h => h)) (by rw [List.length_append, hsz]; rfl) (by rw [List.length_append, List.length_replicate, marks_length, hsz]) H.ne hhi (by omega) hg)
  have HU := Lib.hid hu
  have HB := Lib.hid hb
  have HH := Lib.hid H
  have HT := Lib.hid hT
  have e15 : ((15 : Int) != 15) = false := rfl
  have hlo := H.str.lt
  have hlw := H.wds.lt
  have hls := H.sts.lt
  have HG := Lib.hid hg
  obtain ⟨a, ha⟩ : ∃ a, a = T + 1 + l := ⟨_, rfl⟩
  have HA := Lib.hid ha
  have s3 : IntKind.i64.wrap ((T : Int) + 1) = (T : Int) + 1 := IntWalk.i64_in _ (by omega)
  have s4 : IntKind.i64.wrap ((T : Int) + 1 + (l : Int)) = (a : Int) := by rw [IntWalk.i64_in _ (by omega)]; omega
  have s5 : IntKind.i64.wrap (m : Int) = (m : Int) := IntWalk.i64_in _ (by omega)
  clear hu hb H hfa hg hgb hT ha
  go_enter Tryz.func126, Tryz.ntmps126
  go_upto_region 1 with (fail)
  generalize w.alloc (.cells #[.int .i64 (k : Int), .int .i64 (l : Int), .int .i64 (p : Int)] 136) = w1 at *
  go_wp2_with fail
  refine (HHd.out _ HU.out).mono ?_
  rintro e w2 ⟨rfl, hu2⟩
  have HU2 := Lib.hid (HU.out.trans hu2)
  have HB2 := Lib.hid (HB.out.upd hu2 (fun h => h))
  clear hu2
  have hsb : w.heap.size < w2.heap.size := HB2.out.lt
  go_upto_region 2 with (fail)
  have hb3 := Blk.made w2 [.int .i64 15, .int .i64 ((l : Int) + 1 + (m : Int)), .int .i64 (F.ptrs : Int)] 136
  have hu3 := HU2.out.alloc (.cells #[.int .i64 15, .int .i64 ((l : Int) + 1 + (m : Int)), .int .i64 (F.ptrs : Int)] 136)
  have hx3 := HB2.out.alloc (.cells #[.int .i64 15, .int .i64 ((l : Int) + 1 + (m : Int)), .int .i64 (F.ptrs : Int)] 136)
  generalize w2.alloc (.cells #[.int .i64 15, .int .i64 ((l : Int) + 1 + (m : Int)), .int .i64 (F.ptrs : Int)] 136) = w3 at *
  have x0 := hx3.cell 0 rfl
  have x1 := hx3.cell 1 rfl
  have x2 := hx3.cell 2 rfl
  have y0 := hb3.cell 0 rfl
  have y1 := hb3.cell 1 rfl
  have HU3 := Lib.hid hu3
  have HX3 := Lib.hid hx3
  clear hb3 hu3 hx3
  have s1 : IntKind.i64.wrap ((l : Int) + 1 + (m : Int) - (l : Int)) = (m : Int) + 1 := by rw [IntWalk.i64_in _ (by omega)]; omega
  have d1 : decide ((m : Int) + 1 < 0) = false := decide_eq_false (by omega)
  have z1 : ((m : Int) + 1 == 0) = false := by rw [beq_eq_false_iff_ne]; omega
  go_wp2_with fail
  refine (HGd.out _).mono ?_
  rintro e w4 ⟨rfl, hu4⟩
  have HU4 := Lib.hid (HU3.out.trans hu4)
  have hx4 := HX3.out.upd hu4 (fun h => h)
  clear x0 x1 x2 y0 y1
  have x0 := hx4.cell 0 rfl
  have x1 := hx4.cell 1 rfl
  have x2 := hx4.cell 2 rfl
  have HX4 := Lib.hid hx4
  clear hu4 hx4
  go_wp2_with fail
  refine (HLay.out _ HU4.out).mono ?_
  rintro e w5 ⟨rfl, h1, h2, hu5⟩
  rw [HT.out, split_one os1 bs F rest _ l (by omega)] at h1
  rw [HT.out, split_mark1] at h2
  have hne := HH.out.ne
  have hst5 := (HH.out.str.upd HU4.out (fun h => h)).upd hu5 (fun e => by rcases e with e | e; (· exact hne.1 e); (· exact hne.2.1 e))
  have hx5 := HX4.out.upd hu5 (fun e => by rcases e with e | e <;> omega)
  have hg15 : goodB ((15 : Nat) : Int) ((m : Nat) : Int) ((0 : Nat) : Int) = true := goodB_yes (by omega)
  have hlay := lay_any w5 h wb sb n a 15 m 0 (.int .i64 (top (os1 ++ F :: bs) : Int)) _ _ hst5 h1 h2 (by
      have hA := HA.out
      have hF1 : F.ws.length = F.len := rfl
      rw [top_append, top_cons] at hsz
      simp only [List.length_append, List.length_cons, List.length_replicate, List.length_drop]
      have h5 : (flat os1).length = top os1 := rfl
      have h6 : (flat bs).length = top bs := rfl
      omega) (by rw [List.length_append, List.length_replicate, marks_length, hsz]) hne hhi (by have := HA.out; omega) hg15
  have HLay2 := Lib.hid hlay
  have HU5 := Lib.hid ((HU4.out.mono (fun _ _ h => h.elim)).trans hu5)
  clear x0 x1 x2 h1 h2 hu5 hst5 hlay hg15
  have x1 := hx5.cell 1 rfl
  clear hx5
  go_wp2_with fail
  refine (HLay2.out).mono ?_
  rintro e w6 ⟨rfl, h3, h4, hu6⟩
  have hT := HT.out
  have hA := HA.out
  have hfin := split_heap (k := k) (l := l) (p := p) (m := m) HH.out HG.out (by omega) HU5.out hu6 (by
    rw [hA, hT] at h3
    have h5 := split_two os1 bs F rest ((k + 16 * (p + 4096 * l) : Nat) : Int) ((15 + 16 * (0 + 4096 * m) : Nat) : Int) l m (by omega)
    simp only at h5
    rw [← h5]
    exact h3) (by rw [← hT, ← hA]; exact h4)
  have HF := Lib.hid hfin
  clear h3 h4 hu6 hfin hT hA
  go_wp2_with fail
  go_ret2
  exact ⟨by rw [← HA.out]; rfl, HF.out⟩
end Go.Proofs.YtapjajclmbpjmaaGreatDoor.Heap
