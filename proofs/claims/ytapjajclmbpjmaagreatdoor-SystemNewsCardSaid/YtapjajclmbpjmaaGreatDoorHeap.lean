/- Contracts of package heap: heads, and what is looked up. -/
import Derived.Test.YtapjajclmbpjmaaGreatDoorObj
import Derived.Test.YtapjajclmbpjmaaGreatDoorRes
import Derived.Test.YtapjajclmbpjmaaGreatDoorProg
import Derived.RegionTactic
import Derived.BigRegion
import Derived.ChangeAlike
namespace Go.Proofs.YtapjajclmbpjmaaGreatDoor.Heap
open Go.RowKit Go.Proofs.YtapjajclmbpjmaaGreatDoor.Mem Go.Proofs.YtapjajclmbpjmaaGreatDoor.Obj

/-- A head, as a value. -/
def hd (k l p : Int) : Value := .agg #[.int .i64 k, .int .i64 l, .int .i64 p]
def goodB (k l p : Int) : Bool := decide (0 ≤ k ∧ k ≤ 15 ∧ 0 ≤ l ∧ l ≤ 4095 ∧ 0 ≤ p ∧ p ≤ l ∧ (k = 15 → p = 0))
theorem goodB_yes {k l p : Int} (h : 0 ≤ k ∧ k ≤ 15 ∧ 0 ≤ l ∧ l ≤ 4095 ∧ 0 ≤ p ∧ p ≤ l ∧ (k = 15 → p = 0)) : goodB k l p = true := decide_eq_true h
theorem goodB_no {k l p : Int} (h : ¬ (0 ≤ k ∧ k ≤ 15 ∧ 0 ≤ l ∧ l ≤ 4095 ∧ 0 ≤ p ∧ p ≤ l ∧ (k = 15 → p = 0))) : goodB k l p = false := decide_eq_false h
theorem goodB_ob {o : Ob} (h : o.good) : goodB o.kind o.len o.ptrs = true := by
  obtain ⟨h1, h2, h3, h4⟩ := h
  exact goodB_yes ⟨by omega, by omega, by omega, by omega, by omega, by omega, by omega⟩

theorem ret_bool {a b : Bool} (h : a = b) : Ending.returned (.bool a) = .returned (.bool b) := by rw [h]

set_option maxHeartbeats 1000000 in
theorem good_any (k l p : Int) (w : World) :
    Calls Tryz.prog 108 #[hd k l p] w fun e w' => e = .returned (.bool (goodB k l p)) ∧ Upd (fun _ => False) w w' := by
  unfold hd
  have hu := (Upd.refl (fun _ => False) w).alloc (.cells #[.int .i64 k, .int .i64 l, .int .i64 p] 136)
  have HU := Lib.hid hu
  clear hu
  by_cases h0 : 0 ≤ k
  · by_cases h1 : k ≤ 15
    · by_cases h2 : 0 ≤ l
      · by_cases h3 : l ≤ 4095
        · by_cases h4 : 0 ≤ p
          · by_cases h5 : p ≤ l
            · by_cases h6 : k = 15
              · have e6 : (k != 15) = false := by rw [bne_eq_false_iff_eq]; exact h6
                by_cases h7 : p = 0
                · have e7 : (p == 0) = true := by rw [beq_iff_eq]; exact h7
                  have hg : goodB k l p = true := goodB_yes ⟨h0, h1, h2, h3, h4, h5, fun _ => h7⟩
                  have HG := Lib.hid hg
                  clear hg h6 h7
                  go_enter Tryz.func108, Tryz.ntmps108
                  go_wp2
                  go_ret
                  exact ⟨ret_bool HG.out.symm, HU.out⟩
                · have e7 : (p == 0) = false := by rw [beq_eq_false_iff_ne]; exact h7
                  have hg : goodB k l p = false := goodB_no (fun h => h7 (h.2.2.2.2.2.2 h6))
                  have HG := Lib.hid hg
                  clear hg h6 h7
                  go_enter Tryz.func108, Tryz.ntmps108
                  go_wp2
                  go_ret
                  exact ⟨ret_bool HG.out.symm, HU.out⟩
              · have e6 : (k != 15) = true := by rw [bne_iff_ne]; exact h6
                have hg : goodB k l p = true := goodB_yes ⟨h0, h1, h2, h3, h4, h5, fun h => absurd h h6⟩
                have HG := Lib.hid hg
                clear hg h6
                go_enter Tryz.func108, Tryz.ntmps108
                go_wp2
                go_ret
                exact ⟨ret_bool HG.out.symm, HU.out⟩
            · have HG := Lib.hid (goodB_no (k := k) (l := l) (p := p) (fun h => h5 h.2.2.2.2.2.1))
              have d : decide (p ≤ l) = false := decide_eq_false h5
              go_enter Tryz.func108, Tryz.ntmps108
              go_wp2
              go_ret
              exact ⟨ret_bool HG.out.symm, HU.out⟩
          · have HG := Lib.hid (goodB_no (k := k) (l := l) (p := p) (fun h => h4 h.2.2.2.2.1))
            have d : decide (0 ≤ p) = false := decide_eq_false h4
            go_enter Tryz.func108, Tryz.ntmps108
            go_wp2
            go_ret
            exact ⟨ret_bool HG.out.symm, HU.out⟩
        · have HG := Lib.hid (goodB_no (k := k) (l := l) (p := p) (fun h => h3 h.2.2.2.1))
          have d : decide (l ≤ 4095) = false := decide_eq_false h3
          go_enter Tryz.func108, Tryz.ntmps108
          go_wp2
          go_ret
          exact ⟨ret_bool HG.out.symm, HU.out⟩
      · have HG := Lib.hid (goodB_no (k := k) (l := l) (p := p) (fun h => h2 h.2.2.1))
        have d : decide (0 ≤ l) = false := decide_eq_false h2
        go_enter Tryz.func108, Tryz.ntmps108
        go_wp2
        go_ret
        exact ⟨ret_bool HG.out.symm, HU.out⟩
    · have HG := Lib.hid (goodB_no (k := k) (l := l) (p := p) (fun h => h1 h.2.1))
      have d : decide (k ≤ 15) = false := decide_eq_false h1
      go_enter Tryz.func108, Tryz.ntmps108
      go_wp2
      go_ret
      exact ⟨ret_bool HG.out.symm, HU.out⟩
  · have HG := Lib.hid (goodB_no (k := k) (l := l) (p := p) (fun h => h0 h.1))
    have d : decide (0 ≤ k) = false := decide_eq_false h0
    go_enter Tryz.func108, Tryz.ntmps108
    go_wp2
    go_ret
    exact ⟨ret_bool HG.out.symm, HU.out⟩

/-- A word's head: what Unpack answers. -/
def okW (x : Int) : Bool := decide (0 ≤ x) && goodB (x % 16) (x / 16 / 4096) (x / 16 % 4096)
theorem okW_ob {o : Ob} (h : o.good) : okW o.word = true := by
  obtain ⟨h1, h2, h3, h4, _⟩ := word_parts h
  unfold okW
  rw [h2, h3, h4, goodB_ob h, decide_eq_true h1]
  rfl

set_option maxHeartbeats 1000000 in
theorem unpack_yes (x : Int) (h : okW x = true) (hx : x ≤ 9223372036854775807) (w : World) :
    Calls Tryz.prog 87 #[.int .i64 x] w fun e w' => e = .returned (.tuple #[.agg #[.int .i64 (x % 16), .int .i64 (x / 16 / 4096), .int .i64 (x / 16 % 4096)], .int .i64 0]) ∧ Upd (fun _ => False) w w' := by
  unfold okW at h
  have h0 : 0 ≤ x := of_decide_eq_true (Bool.and_eq_true_iff.1 h).1
  have hg := (Bool.and_eq_true_iff.1 h).2
  have HG := Lib.hid hg
  have d0 : decide (x < 0) = false := decide_eq_false (by omega)
  clear h hg
  go_enter Tryz.func87, Tryz.ntmps87
  go_wp2_with fail
  have hb0 := (Blk.made w [.int .i64 0, .int .i64 0, .int .i64 0] 136).alloc (.cells #[.int .i64 (x % 16), .int .i64 (x / 16 / 4096), .int .i64 (x / 16 % 4096)] 136)
  have hb1 := Blk.made' w (.cells #[.int .i64 0, .int .i64 0, .int .i64 0] 136) [.int .i64 (x % 16), .int .i64 (x / 16 / 4096), .int .i64 (x / 16 % 4096)] 136
  have hu := (((Upd.refl (fun _ => False) w).alloc (.cells #[.int .i64 0, .int .i64 0, .int .i64 0] 136)).alloc (.cells #[.int .i64 (x % 16), .int .i64 (x / 16 / 4096), .int .i64 (x / 16 % 4096)] 136))
  have HB0 := Lib.hid hb0
  have HB1 := Lib.hid hb1
  have HU := Lib.hid hu
  clear hb0 hb1 hu
  refine (good_any _ _ _ _).mono ?_
  rintro e w1 ⟨rfl, hu1⟩
  rw [HG.out]
  have g0 := HB0.out.upd hu1 (fun h => h)
  have g1 := HB1.out.upd hu1 (fun h => h)
  obtain ⟨_, hf0, hf1, hf2⟩ := g0.three
  obtain ⟨⟨c0, c1, c2⟩, _⟩ := g1.three
  have G0 := Lib.hid g0
  have HU1 := Lib.hid (HU.out.trans hu1)
  have hl := g0.lt
  clear g0 g1 hu1
  go_wp2
  refine bodyPost_ret (res_cell_tmp rfl _ _ w.heap.size _ 136 _ _ rfl rfl (G0.out.set3 _ _ _) Tryz.underlying136 rfl (by kernel_rfl)) rfl ⟨rfl, HU1.out.set3 _ _ _ _ (by omega)⟩

set_option maxHeartbeats 1000000 in
theorem unpack_no (x : Int) (h : okW x = false) (hx : x ≤ 9223372036854775807) (w : World) :
    Calls Tryz.prog 87 #[.int .i64 x] w fun e w' => e = .returned (.tuple #[.agg #[.int .i64 0, .int .i64 0, .int .i64 0], .int .i64 2]) ∧ Upd (fun _ => False) w w' := by
  have hb0 := Blk.made w [.int .i64 0, .int .i64 0, .int .i64 0] 136
  by_cases h0 : x < 0
  · have d0 : decide (x < 0) = true := decide_eq_true h0
    have HB0 := Lib.hid hb0
    have HU := Lib.hid ((Upd.refl (fun _ => False) w).alloc (.cells #[.int .i64 0, .int .i64 0, .int .i64 0] 136))
    clear h hb0
    go_enter Tryz.func87, Tryz.ntmps87
    go_wp2
    refine bodyPost_ret (res_cell_tmp rfl _ _ w.heap.size _ 136 _ _ rfl rfl HB0.out Tryz.underlying136 rfl (by kernel_rfl)) rfl ⟨rfl, HU.out⟩
  · have d0 : decide (x < 0) = false := decide_eq_false h0
    have hg : goodB (x % 16) (x / 16 / 4096) (x / 16 % 4096) = false := by
      unfold okW at h
      rw [decide_eq_true (by omega : 0 ≤ x), Bool.true_and] at h
      exact h
    have HG := Lib.hid hg
    have hi0 : 0 ≤ x := by omega
    clear h hg hb0
    go_enter Tryz.func87, Tryz.ntmps87
    go_wp2_with fail
    have hb0 := (Blk.made w [.int .i64 0, .int .i64 0, .int .i64 0] 136).alloc (.cells #[.int .i64 (x % 16), .int .i64 (x / 16 / 4096), .int .i64 (x / 16 % 4096)] 136)
    have hu := (((Upd.refl (fun _ => False) w).alloc (.cells #[.int .i64 0, .int .i64 0, .int .i64 0] 136)).alloc (.cells #[.int .i64 (x % 16), .int .i64 (x / 16 / 4096), .int .i64 (x / 16 % 4096)] 136))
    have HB0 := Lib.hid hb0
    have HU := Lib.hid hu
    clear hb0 hu
    refine (good_any _ _ _ _).mono ?_
    rintro e w1 ⟨rfl, hu1⟩
    rw [HG.out]
    have g0 := HB0.out.upd hu1 (fun h => h)
    obtain ⟨_, hf0, hf1, hf2⟩ := g0.three
    have c0 := g0.cell 0 rfl
    have c1 := g0.cell 1 rfl
    have c2 := g0.cell 2 rfl
    have G0 := Lib.hid g0
    have HU1 := Lib.hid (HU.out.trans hu1)
    have hl := g0.lt
    clear g0 hu1
    go_wp2
    refine bodyPost_ret (res_cell_tmp rfl _ _ w.heap.size _ 136 _ _ rfl rfl (G0.out.set3 _ _ _) Tryz.underlying136 rfl (by kernel_rfl)) rfl ⟨rfl, HU1.out.set3 _ _ _ _ (by omega)⟩

theorem ret_two {a b c d : Int} (h : a = c) (h' : b = d) : Ending.returned (.tuple #[.int .i64 a, .int .i64 b]) = .returned (.tuple #[.int .i64 c, .int .i64 d]) := by rw [h, h']

set_option maxRecDepth 20000 in
set_option maxHeartbeats 1000000 in
theorem pack_yes (k l p : Nat) (h : goodB k l p = true) (w : World) :
    Calls Tryz.prog 102 #[.agg #[.int .i64 (k : Int), .int .i64 (l : Int), .int .i64 (p : Int)]] w fun e w' => e = .returned (.tuple #[.int .i64 ((k + 16 * (p + 4096 * l) : Nat) : Int), .int .i64 0]) ∧ Upd (fun _ => False) w w' := by
  have hb := of_decide_eq_true h
  have hk : k ≤ 15 := by omega
  have hl : l ≤ 4095 := by omega
  have hp : p ≤ 4095 := by omega
  have HG := Lib.hid h
  clear h hb
  go_enter Tryz.func102, Tryz.ntmps102
  go_wp2_with fail
  have hb0 := (Blk.made w [.int .i64 (k : Int), .int .i64 (l : Int), .int .i64 (p : Int)] 136)
  have hu := ((Upd.refl (fun _ => False) w).alloc (.cells #[.int .i64 (k : Int), .int .i64 (l : Int), .int .i64 (p : Int)] 136))
  have HB0 := Lib.hid hb0
  have HU := Lib.hid hu
  clear hb0 hu
  refine (good_any _ _ _ _).mono ?_
  rintro e w1 ⟨rfl, hu1⟩
  rw [HG.out]
  have g0 := HB0.out.upd hu1 (fun h => h)
  obtain ⟨⟨c0, c1, c2⟩, _⟩ := g0.three
  have HU1 := Lib.hid (HU.out.trans hu1)
  clear g0 hu1
  go_wp2
  go_ret2
  exact ⟨ret_two (by push_cast; omega) rfl, HU1.out⟩

set_option maxHeartbeats 1000000 in
theorem pack_no (k l p : Int) (h : goodB k l p = false) (w : World) :
    Calls Tryz.prog 102 #[.agg #[.int .i64 k, .int .i64 l, .int .i64 p]] w fun e w' => e = .returned (.tuple #[.int .i64 0, .int .i64 1]) ∧ Upd (fun _ => False) w w' := by
  have HG := Lib.hid h
  clear h
  go_enter Tryz.func102, Tryz.ntmps102
  go_wp2_with fail
  have hu := ((Upd.refl (fun _ => False) w).alloc (.cells #[.int .i64 k, .int .i64 l, .int .i64 p] 136))
  have HU := Lib.hid hu
  clear hu
  refine (good_any _ _ _ _).mono ?_
  rintro e w1 ⟨rfl, hu1⟩
  rw [HG.out]
  have HU1 := Lib.hid (HU.out.trans hu1)
  clear hu1
  go_wp2
  go_ret2
  exact ⟨rfl, HU1.out⟩

/-! ### A heap in memory -/
def ints (zs : List Int) : List Value := zs.map (Value.int .i64)
def bools (bs : List Bool) : List Value := bs.map Value.bool

/-- A heap lies in block h: its words in block wb, where objects begin in block sb; its objects, and the words beyond them. -/
structure HeapAt (w : World) (h wb sb n : Nat) (os : List Ob) (rest : List Int) : Prop where
  str : Blk w h [.slice (some ⟨wb, 0, none⟩) n n, .int .i64 (top os : Int), .slice (some ⟨sb, 0, none⟩) n n] 70
  wds : Blk w wb (ints (flat os ++ rest)) 3
  sts : Blk w sb (bools (Obj.marks os ++ List.replicate rest.length false)) 4
  size : n = top os + rest.length
  lo : 1 ≤ n
  hi : n ≤ 65536
  good : ∀ o ∈ os, o.good
  ne : h ≠ wb ∧ h ≠ sb ∧ wb ≠ sb

theorem HeapAt.upd {S : Nat → Prop} {w w' : World} {h wb sb n : Nat} {os : List Ob} {rest : List Int} (H : HeapAt w h wb sb n os rest) (u : Upd S w w') (h1 : ¬ S h) (h2 : ¬ S wb) (h3 : ¬ S sb) : HeapAt w' h wb sb n os rest :=
  ⟨H.str.upd u h1, H.wds.upd u h2, H.sts.upd u h3, H.size, H.lo, H.hi, H.good, H.ne⟩
theorem HeapAt.quiet {w w' : World} {h wb sb n : Nat} {os : List Ob} {rest : List Int} (H : HeapAt w h wb sb n os rest) (u : Upd (fun _ => False) w w') : HeapAt w' h wb sb n os rest := H.upd u (fun h => h) (fun h => h) (fun h => h)
theorem HeapAt.word {w : World} {h wb sb n : Nat} {os : List Ob} {rest : List Int} (H : HeapAt w h wb sb n os rest) {a : Nat} {o : Ob} (hf : find os a = some o) : w.cell? ⟨wb, a, none⟩ = some (.int .i64 o.word) := by
  apply H.wds.cell
  have := flat_head hf
  have hl : a < (flat os).length := (List.getElem?_eq_some_iff.1 this).1
  rw [ints, List.getElem?_map, List.getElem?_append_left hl, this]
  rfl
theorem HeapAt.field {w : World} {h wb sb n : Nat} {os : List Ob} {rest : List Int} (H : HeapAt w h wb sb n os rest) {a i : Nat} {o : Ob} {x : Int} (hf : find os a = some o) (hx : o.ws[i]? = some x) : w.cell? ⟨wb, a + 1 + i, none⟩ = some (.int .i64 x) := by
  apply H.wds.cell
  have hi : i < o.len := (List.getElem?_eq_some_iff.1 hx).1
  have := flat_word hf hi
  rw [hx] at this
  have hl : a + 1 + i < (flat os).length := (List.getElem?_eq_some_iff.1 this).1
  rw [ints, List.getElem?_map, List.getElem?_append_left hl, this]
  rfl
theorem HeapAt.mark {w : World} {h wb sb n : Nat} {os : List Ob} {rest : List Int} (H : HeapAt w h wb sb n os rest) {a : Nat} (ha : a < top os) : w.cell? ⟨sb, a, none⟩ = some (.bool (find os a).isSome) := by
  apply H.sts.cell
  have := marks_at ha
  have hl : a < (Obj.marks os).length := by rw [marks_length]; exact ha
  rw [bools, List.getElem?_map, List.getElem?_append_left hl, this]
  rfl

set_option maxHeartbeats 1000000 in
theorem head_yes (w : World) (h wb sb n : Nat) (os : List Ob) (rest : List Int) (H : HeapAt w h wb sb n os rest) (a : Nat) (o : Ob) (hf : find os a = some o) :
    Calls Tryz.prog 72 #[.pointer (some ⟨h, 0, none⟩), .int .i64 (a : Int)] w fun e w' => e = .returned (.tuple #[.agg #[.int .i64 (o.kind : Int), .int .i64 (o.len : Int), .int .i64 (o.ptrs : Int)], .int .i64 0]) ∧ Upd (fun _ => False) w w' := by
  have hb0 := Blk.made w [.int .i64 0, .int .i64 0, .int .i64 0] 136
  have hlt := find_lt hf
  have hgo := H.good o (find_mem hf)
  have hs := H.size
  have hhi := H.hi
  have c0 := H.str.cell 0 rfl
  have c1 := H.str.cell 1 rfl
  have c2 := H.str.cell 2 rfl
  have c3 := H.mark (a := a) (by omega)
  rw [hf, Option.isSome_some] at c3
  have c4 := H.word hf
  obtain ⟨p1, p2, p3, p4, p5⟩ := word_parts hgo
  have d1 : decide ((top os : Int) ≤ (a : Int)) = false := decide_eq_false (by omega)
  have d1' : decide (top os ≤ a) = false := decide_eq_false (by omega)
  have d0 : decide ((a : Int) < 0) = false := decide_eq_false (by omega)
  have ha1 : a < n := by omega
  have l1 := H.str.lt
  have l2 := H.wds.lt
  have l3 := H.sts.lt
  have ha2 : (a : Int) < (n : Int) := by omega
  have hun := fun w => unpack_yes o.word (okW_ob hgo) (by omega) w
  rw [p2, p3, p4] at hun
  obtain ⟨T, hT⟩ : ∃ T, T = top os := ⟨_, rfl⟩
  rw [← hT] at c1 d1 d1' hlt hs
  have HUN := Lib.hid hun
  have HB0 := Lib.hid hb0
  have HU := Lib.hid ((Upd.refl (fun _ => False) w).alloc (.cells #[.int .i64 0, .int .i64 0, .int .i64 0] 136))
  generalize o.word = X at *
  clear hgo p2 p3 p4 hun hb0 hf H hs hT
  go_enter Tryz.func72, Tryz.ntmps72
  go_wp2_with fail
  refine (HUN.out _).mono ?_
  rintro e w1 ⟨rfl, hu1⟩
  have g0 := HB0.out.upd hu1 (fun h => h)
  obtain ⟨_, hf0, hf1, hf2⟩ := g0.three
  have k0 := g0.cell 0 rfl
  have k1 := g0.cell 1 rfl
  have k2 := g0.cell 2 rfl
  have G0 := Lib.hid g0
  have HU1 := Lib.hid (HU.out.trans hu1)
  have hl := g0.lt
  clear g0 hu1
  go_wp2
  refine bodyPost_ret (res_cell_tmp rfl _ _ w.heap.size _ 136 _ _ rfl rfl (G0.out.set3 _ _ _) Tryz.underlying136 rfl (by kernel_rfl)) rfl ⟨rfl, HU1.out.set3 _ _ _ _ (by omega)⟩
end Go.Proofs.YtapjajclmbpjmaaGreatDoor.Heap
