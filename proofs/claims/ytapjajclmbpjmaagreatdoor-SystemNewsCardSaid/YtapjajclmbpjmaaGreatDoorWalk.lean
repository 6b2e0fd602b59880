/- heap.Walk: each object's address and head, over whatever loop. -/
import Derived.Test.YtapjajclmbpjmaaGreatDoorHeap4
import Derived.RangeFuncNested
import Derived.RangeFuncBound
import Derived.RangeFuncCalls
import Derived.RangeFuncLeaves
import Derived.Shelf.Abstract
import Derived.Shelf.RegionOpen
import Derived.WalkKit
import Derived.OwnWalkIn
import Derived.TacticsInMore
import Derived.LoopNIn
import Derived.LoopIn
namespace Go.Proofs.YtapjajclmbpjmaaGreatDoor.Heap
open Go.RowKit Go.Shelf Go.Proofs.YtapjajclmbpjmaaGreatDoor.Mem Go.Proofs.YtapjajclmbpjmaaGreatDoor.Obj
attribute [local go_sem] Oper.semAt_some

theorem find_at {os : List Ob} {k : Nat} {o : Ob} (h : os[k]? = some o) : find os (top (os.take k)) = some o := by
  have hk := List.getElem?_eq_some_iff.1 h
  obtain ⟨ps, hps⟩ : ∃ ps, ps = os.take k := ⟨_, rfl⟩
  have e : os = ps ++ o :: os.drop (k + 1) := by
    rw [hps]
    conv => lhs; rw [← List.take_append_drop k os, List.drop_eq_getElem_cons hk.1, hk.2]
  rw [← hps, e, find_append_right (Nat.le_refl _), Nat.sub_self, find_cons, if_pos rfl]
/-- An object and its address. -/
abbrev Told (os : List Ob) := { x : Nat × Ob // find os x.1 = some x.2 }
/-- What came when so many rounds are over. -/
def told (os : List Ob) : Nat → List (Told os)
  | 0 => []
  | k + 1 => told os k ++ (match h : os[k]? with | some o => [⟨(top (os.take k), o), find_at h⟩] | none => [])
theorem told_succ {os : List Ob} {k : Nat} {o : Ob} (h : os[k]? = some o) : told os (k + 1) = told os k ++ [⟨(top (os.take k), o), find_at h⟩] := by
  rw [told]
  congr 1
  split
  · rename_i o' h'
    have : o' = o := Option.some.inj (h'.symm.trans h)
    subst this
    rfl
  · rename_i h'
    rw [h] at h'
    cases h'
theorem told_map {β : Type} (os : List Ob) (f : Ob → β) : ∀ k, k ≤ os.length → (told os k).map (fun x => f x.1.2) = (os.take k).map f
  | 0, _ => rfl
  | k + 1, h => by
    obtain ⟨o, ho⟩ : ∃ o, os[k]? = some o := ⟨_, List.getElem?_eq_getElem (by omega)⟩
    rw [told_succ ho, List.map_append, told_map os f k (by omega), List.take_add_one, ho]
    simp
theorem told_length (os : List Ob) (k : Nat) (h : k ≤ os.length) : (told os k).length = k := by
  have := congrArg List.length (told_map os (fun o => o) k h)
  simpa [h] using this
def encW {os : List Ob} (x : Told os) : Array Value := #[.int .i64 (x.1.1 : Int), .agg #[.int .i64 (x.1.2.kind : Int), .int .i64 (x.1.2.len : Int), .int .i64 (x.1.2.ptrs : Int)]]

/-- All cells stay but those of a block. -/
def KeepC (tb : Nat) (W W' : World) : Prop := (∀ (a : Addr) (v : Value), a.block ≠ tb → W.cell? a = some v → W'.cell? a = some v) ∧ W.heap.size ≤ W'.heap.size
theorem KeepC.refl (tb : Nat) (W : World) : KeepC tb W W := ⟨fun _ _ _ h => h, Nat.le_refl _⟩
theorem KeepC.trans {tb : Nat} {A B C : World} (h : KeepC tb A B) (k : KeepC tb B C) : KeepC tb A C := ⟨fun a v ha hv => k.1 a v ha (h.1 a v ha hv), Nat.le_trans h.2 k.2⟩
theorem KeepC.of_upd {tb : Nat} {A B : World} (u : Upd (fun k => k = tb) A B) : KeepC tb A B := ⟨fun a v ha hv => by
  have hb := World.block_lt_of_cell? A _ hv
  rw [World.cell?, u.block _ hb ha]
  exact hv, u.size⟩
theorem KeepC.put (tb : Nat) (W : World) (l : Nat) (o o' : Obj) (h : W.heap[l]? = some o) (hc : o.isCells = false) : KeepC tb W (W.putObj l o') := by
  have hg := grownBy_putObj' W l o'
  refine ⟨fun a v _ hv => ?_, hg.size⟩
  have hb := World.block_lt_of_cell? W _ hv
  have hne : a.block ≠ l := by
    intro e
    obtain ⟨ob, h1, h2⟩ := cells_of_cell hv
    rw [e, h] at h1
    cases h1
    rw [hc] at h2
    cases h2
  rw [World.cell?, hg.block _ hb (fun e => hne (Option.some.inj e))]
  exact hv
theorem abides {β : Type} {B : Nat} {J : β → World → Prop} (h : AbidesFrom B J) {s : β} {W W' : World} (hs : J s W) (u : Upd (fun _ => False) W W') : J s W' :=
  h s W W' none hs ⟨u.os, u.tape, u.output, u.size, fun k hk _ => u.block k hk (fun h => h)⟩ (fun r e => by cases e)

set_option maxRecDepth 100000 in
set_option maxHeartbeats 2000000 in
theorem walk_stops (n : Nat) (hn : 1 ≤ n) (h wb sb m bx tb : Nat) (os : List Ob) (rest : List Int) (w : World) (H : HeapAt w h wb sb m os rest) (hbx : Blk w bx [.pointer (some ⟨h, 0, none⟩)] 51) (hne : h ≠ tb ∧ wb ≠ tb ∧ bx ≠ tb) (htb : tb < w.heap.size) :
    SeqStopsK Fence.wide n Tryz.prog 86 #[.pointer (some ⟨bx, 0, none⟩)] encW (KeepC tb) (fun xs => xs = told os os.length) (fun pre => ∃ k, k ≤ os.length ∧ pre = told os k) os.length w := fun l J Jx W hW hJ hJx hY h0 => by
  have hH : HeapAt W h wb sb m os rest := ⟨H.str.below hW H.str.lt, H.wds.below hW H.wds.lt, H.sts.below hW H.sts.lt, H.size, H.lo, H.hi, H.good, H.ne⟩
  have hb := hbx.below hW hbx.lt
  have ch0 := hH.str.cell 0 rfl
  have ch1 := hH.str.cell 1 rfl
  have cb0 := hb.cell 0 rfl
  have htW : tb < W.heap.size := Nat.lt_of_lt_of_le htb hW.size
  obtain ⟨T, hT⟩ : ∃ T, T = top os := ⟨_, rfl⟩
  rw [← hT] at ch1
  have hTb : T ≤ 65536 := by have := hH.size; have := hH.hi; omega
  have hTm : T ≤ m := by have := hH.size; omega
  have HH := Lib.hid hH
  have HT := Lib.hid hT
  have HCh0 := Lib.hid ch0
  have HCh1 := Lib.hid ch1
  have HCb0 := Lib.hid cb0
  have HY := Lib.hid hY
  have HJa := Lib.hid hJ
  clear hH hb ch0 ch1 cb0 hT hY hJ hJx H hbx hW
  refine callsIn_of_wp Tryz.func86 rfl trivial ?_ rfl
  simp only [Tryz.ntmps86, List.size_toArray, List.length_cons, List.length_nil, Nat.reduceAdd, Nat.reduceSub, Array.replicate_succ, Array.replicate_zero, List.push_toArray, List.append_toArray, List.nil_append, List.cons_append]
  gi_wp2
  gi_loopw [3] (fun i wr => ∃ k : Nat, k ≤ os.length ∧ i = .int .i64 (top (os.take k) : Int) ∧ J (told os k) wr ∧ KeepC tb W wr) (fun i _ => T - (intOf i).toNat)
  case atStart => exact ⟨0, Nat.zero_le _, rfl, h0, KeepC.refl _ _⟩
  case round =>
    obtain ⟨k, hk, rfl, hJs, hkc⟩ := hrel
    by_cases hlt : k < os.length
    · obtain ⟨o, ho⟩ : ∃ o, os[k]? = some o := ⟨_, List.getElem?_eq_getElem hlt⟩
      have hf := find_at ho
      have hlt2 := find_lt hf
      rw [← HT.out] at hlt2
      obtain ⟨A, hA⟩ : ∃ A, A = top (os.take k) := ⟨_, rfl⟩
      have hnx : top (os.take (k + 1)) = A + 1 + o.len := by rw [List.take_add_one, ho, Option.toList_some, top_append, top_cons, top_nil, ← hA]; omega
      have htold := told_succ ho
      rw [← hA] at hf hlt2 ⊢
      have htold2 : told os (k + 1) = told os k ++ [⟨(A, o), hf⟩] := by rw [htold]; subst hA; rfl
      have hHH := HH.out
      have cw := hkc.1 _ _ hne.2.1 (hHH.word hf)
      have c0 := hkc.1 _ _ hne.1 HCh0.out
      have c1 := hkc.1 _ _ hne.1 HCh1.out
      have cb := hkc.1 _ _ hne.2.2 HCb0.out
      have hgo := hHH.good o (find_mem hf)
      have hwp := word_parts hgo
      have hun := fun w => unpack_yes o.word (okW_ob hgo) (by omega) w
      rw [hwp.2.1, hwp.2.2.1, hwp.2.2.2.1] at hun
      have d1 : decide ((A : Int) < (T : Int)) = true := decide_eq_true (by omega)
      have d1' : decide (A < T) = true := decide_eq_true (by omega)
      have i1 : (0 : Int) ≤ (A : Int) := by omega
      have i2 : (A : Int) < (m : Int) := by omega
      have hll := hgo.2.2.1
      obtain ⟨LN, hLN⟩ : ∃ LN, LN = o.len := ⟨_, rfl⟩
      have hln2 : LN ≤ 4095 := by omega
      have hAT : A + 1 + LN ≤ T := by omega
      have s1 : IntKind.i64.wrap (1 + (LN : Int)) = 1 + (LN : Int) := IntWalk.i64_in _ (by omega)
      have s2 : IntKind.i64.wrap ((A : Int) + (1 + (LN : Int))) = (A : Int) + (1 + (LN : Int)) := IntWalk.i64_in _ (by omega)
      rw [← hLN] at hun hnx
      have HUn := Lib.hid hun
      have HNx := Lib.hid hnx
      have HTo := Lib.hid htold2
      have Hf := Lib.hid hf
      have HJs := Lib.hid hJs
      have HKc := Lib.hid hkc
      have HLn := Lib.hid hLN
      have hwsz := hkc.2
      clear hHH hgo hwp hun hnx htold htold2 hA ho hll hlt2 hJs hkc hLN
      gi_wp2_with fail
      refine ⟨trivial, (callsIn_wide.2 (HUn.out _)).mono ?_⟩
      rintro e w1 ⟨rfl, hu1⟩
      have hal := hu1.alloc (.cells #[.int .i64 (o.kind : Int), .int .i64 (LN : Int), .int .i64 (o.ptrs : Int)] 136)
      have hB1 := Blk.made w1 [.int .i64 (o.kind : Int), .int .i64 (LN : Int), .int .i64 (o.ptrs : Int)] 136
      have hs1 := hu1.size
      obtain ⟨fn, tmps, assign, body, hy, hR⟩ := HY.out _ ⟨(A, o), hf⟩ _ (abides HJa.out HJs.out hal) (by rw [told_length os k hk]; exact hlt)
      dsimp only [encW] at hy
      rw [← HLn.out] at hy
      have HAl := Lib.hid hal
      have HB1 := Lib.hid hB1
      clear hu1 hal hB1 c0 c1 cb cw
      gi_wp2
      refine hR.mono ?_
      rintro e W3 (⟨rfl, hJ3, hk3⟩ | ⟨rfl, hJx3⟩)
      · have x1 := hk3.1 _ _ (by simp only; omega) (HB1.out.cell 1 rfl)
        have HJ3 := Lib.hid hJ3
        have HK3 := Lib.hid hk3
        clear hJ3 hk3 hy
        gi_wp2
        go_roundw
        case rel =>
          refine ⟨k + 1, by omega, ?_, ?_, HKc.out.trans ((KeepC.of_upd (HAl.out.mono (fun _ _ h => h.elim))).trans HK3.out)⟩
          · rw [HNx.out]; push_cast; congr 1; omega
          · rw [HTo.out]; exact HJ3.out
        case measure => simp [intOf]; omega
      · clear hy
        gi_wp2
        refine bodyPost_ret (results_none rfl _ _ _) rfl ?_
        exact ⟨⟨_, rfl⟩, .inr ⟨_, ⟨k + 1, by omega, HTo.out.symm⟩, hJx3⟩⟩
    · obtain rfl : k = os.length := by omega
      have c0 := hkc.1 _ _ hne.1 HCh0.out
      have c1 := hkc.1 _ _ hne.1 HCh1.out
      have cb := hkc.1 _ _ hne.2.2 HCb0.out
      rw [List.take_length, ← HT.out]
      gi_wp2
      go_end0
      exact ⟨⟨_, rfl⟩, .inl ⟨_, rfl, hJs⟩⟩
end Go.Proofs.YtapjajclmbpjmaaGreatDoor.Heap
