/- Contracts of package heap: heads, and what is looked up. -/
import Derived.Test.YtjlcjcgoaakniaaMrgObj
import Derived.Test.YtjlcjcgoaakniaaMrgMem
import Derived.Test.YtjlcjcgoaakniaaProg
import Derived.RegionTactic
import Derived.BigRegion
import Derived.ChangeAlike
import Derived.IntWalk
namespace Go.Proofs.Ytjlcjcgoaakniaa.Heap
open Go.RowKit Go.Proofs.Ytjlcjcgoaakniaa.Mem Go.Proofs.Ytjlcjcgoaakniaa.Obj

/-- A head, as a value. -/
def hd (k l p : Int) : Value := .agg #[.int .i64 k, .int .i64 l, .int .i64 p]
def goodB (k l p : Int) : Bool := decide (0 ≤ k ∧ k ≤ 15 ∧ 0 ≤ l ∧ l ≤ 4095 ∧ 0 ≤ p ∧ p ≤ l ∧ (k = 15 → p = 0))
theorem goodB_yes {k l p : Int} (h : 0 ≤ k ∧ k ≤ 15 ∧ 0 ≤ l ∧ l ≤ 4095 ∧ 0 ≤ p ∧ p ≤ l ∧ (k = 15 → p = 0)) : goodB k l p = true := decide_eq_true h
theorem goodB_no {k l p : Int} (h : ¬ (0 ≤ k ∧ k ≤ 15 ∧ 0 ≤ l ∧ l ≤ 4095 ∧ 0 ≤ p ∧ p ≤ l ∧ (k = 15 → p = 0))) : goodB k l p = false := decide_eq_false h
theorem goodB_ob {o : Ob} (h : o.good) : goodB o.kind o.len o.ptrs = true := by
  obtain ⟨h1, h2, h3, h4⟩ := h
  exact goodB_yes ⟨by omega, by omega, by omega, by omega, by omega, by omega, by omega⟩

theorem ret_bool {a b : Bool} (h : a = b) : Ending.returned (.bool a) = .returned (.bool b) := by rw [h]

set_option maxHeartbeats 1000000 in
theorem good_any (k l p : Int) (w : World) :
    Calls Try.prog 82 #[hd k l p] w fun e w' => e = .returned (.bool (goodB k l p)) ∧ Upd (fun _ => False) w w' := by
  unfold hd
  have hu := (Upd.refl (fun _ => False) w).alloc (.cells #[.int .i64 k, .int .i64 l, .int .i64 p] 105)
  have HU := Lib.hid hu
  clear hu
  by_cases h0 : 0 ≤ k
  · by_cases h1 : k ≤ 15
    · by_cases h2 : 0 ≤ l
      · by_cases h3 : l ≤ 4095
        · by_cases h4 : 0 ≤ p
          · by_cases h5 : p ≤ l
            · by_cases h6 : k = 15
              · have e6 : (k != 15) = false := by rw [bne_eq_false_iff_eq]; exact h6
                by_cases h7 : p = 0
                · have e7 : (p == 0) = true := by rw [beq_iff_eq]; exact h7
                  have hg : goodB k l p = true := goodB_yes ⟨h0, h1, h2, h3, h4, h5, fun _ => h7⟩
                  have HG := Lib.hid hg
                  clear hg h6 h7
                  go_enter Try.func82, Try.ntmps82
                  go_wp2
                  go_ret
                  exact ⟨ret_bool HG.out.symm, HU.out⟩
                · have e7 : (p == 0) = false := by rw [beq_eq_false_iff_ne]; exact h7
                  have hg : goodB k l p = false := goodB_no (fun h => h7 (h.2.2.2.2.2.2 h6))
                  have HG := Lib.hid hg
                  clear hg h6 h7
                  go_enter Try.func82, Try.ntmps82
                  go_wp2
                  go_ret
                  exact ⟨ret_bool HG.out.symm, HU.out⟩
              · have e6 : (k != 15) = true := by rw [bne_iff_ne]; exact h6
                have hg : goodB k l p = true := goodB_yes ⟨h0, h1, h2, h3, h4, h5, fun h => absurd h h6⟩
                have HG := Lib.hid hg
                clear hg h6
                go_enter Try.func82, Try.ntmps82
                go_wp2
                go_ret
                exact ⟨ret_bool HG.out.symm, HU.out⟩
            · have HG := Lib.hid (goodB_no (k := k) (l := l) (p := p) (fun h => h5 h.2.2.2.2.2.1))
              have d : decide (p ≤ l) = false := decide_eq_false h5
              go_enter Try.func82, Try.ntmps82
              go_wp2
              go_ret
              exact ⟨ret_bool HG.out.symm, HU.out⟩
          · have HG := Lib.hid (goodB_no (k := k) (l := l) (p := p) (fun h => h4 h.2.2.2.2.1))
            have d : decide (0 ≤ p) = false := decide_eq_false h4
            go_enter Try.func82, Try.ntmps82
            go_wp2
            go_ret
            exact ⟨ret_bool HG.out.symm, HU.out⟩
        · have HG := Lib.hid (goodB_no (k := k) (l := l) (p := p) (fun h => h3 h.2.2.2.1))
          have d : decide (l ≤ 4095) = false := decide_eq_false h3
          go_enter Try.func82, Try.ntmps82
          go_wp2
          go_ret
          exact ⟨ret_bool HG.out.symm, HU.out⟩
      · have HG := Lib.hid (goodB_no (k := k) (l := l) (p := p) (fun h => h2 h.2.2.1))
        have d : decide (0 ≤ l) = false := decide_eq_false h2
        go_enter Try.func82, Try.ntmps82
        go_wp2
        go_ret
        exact ⟨ret_bool HG.out.symm, HU.out⟩
    · have HG := Lib.hid (goodB_no (k := k) (l := l) (p := p) (fun h => h1 h.2.1))
      have d : decide (k ≤ 15) = false := decide_eq_false h1
      go_enter Try.func82, Try.ntmps82
      go_wp2
      go_ret
      exact ⟨ret_bool HG.out.symm, HU.out⟩
  · have HG := Lib.hid (goodB_no (k := k) (l := l) (p := p) (fun h => h0 h.1))
    have d : decide (0 ≤ k) = false := decide_eq_false h0
    go_enter Try.func82, Try.ntmps82
    go_wp2
    go_ret
    exact ⟨ret_bool HG.out.symm, HU.out⟩

/-- A word's head: what Unpack answers. -/
def okW (x : Int) : Bool := decide (0 ≤ x) && goodB (x % 16) (x / 16 / 4096) (x / 16 % 4096)
theorem okW_ob {o : Ob} (h : o.good) : okW o.word = true := by
  obtain ⟨h1, h2, h3, h4, _⟩ := word_parts h
  unfold okW
  rw [h2, h3, h4, goodB_ob h, decide_eq_true h1]
  rfl

set_option maxHeartbeats 1000000 in
theorem unpack_yes (x : Int) (h : okW x = true) (hx : x ≤ 9223372036854775807) (w : World) :
    Calls Try.prog 81 #[.int .i64 x] w fun e w' => e = .returned (.tuple #[.agg #[.int .i64 (x % 16), .int .i64 (x / 16 / 4096), .int .i64 (x / 16 % 4096)], .int .i64 0]) ∧ Upd (fun _ => False) w w' := by
  unfold okW at h
  have h0 : 0 ≤ x := of_decide_eq_true (Bool.and_eq_true_iff.1 h).1
  have hg := (Bool.and_eq_true_iff.1 h).2
  have HG := Lib.hid hg
  have d0 : decide (x < 0) = false := decide_eq_false (by omega)
  clear h hg
  go_enter Try.func81, Try.ntmps81
  go_wp2_with fail
  have hb0 := (Blk.made w [.int .i64 0, .int .i64 0, .int .i64 0] 105).alloc (.cells #[.int .i64 (x % 16), .int .i64 (x / 16 / 4096), .int .i64 (x / 16 % 4096)] 105)
  have hb1 := Blk.made' w (.cells #[.int .i64 0, .int .i64 0, .int .i64 0] 105) [.int .i64 (x % 16), .int .i64 (x / 16 / 4096), .int .i64 (x / 16 % 4096)] 105
  have hu := (((Upd.refl (fun _ => False) w).alloc (.cells #[.int .i64 0, .int .i64 0, .int .i64 0] 105)).alloc (.cells #[.int .i64 (x % 16), .int .i64 (x / 16 / 4096), .int .i64 (x / 16 % 4096)] 105))
  have HB0 := Lib.hid hb0
  have HB1 := Lib.hid hb1
  have HU := Lib.hid hu
  clear hb0 hb1 hu
  refine (good_any _ _ _ _).mono ?_
  rintro e w1 ⟨rfl, hu1⟩
  rw [HG.out]
  have g0 := HB0.out.upd hu1 (fun h => h)
  have g1 := HB1.out.upd hu1 (fun h => h)
  obtain ⟨_, hf0, hf1, hf2⟩ := g0.three
  obtain ⟨⟨c0, c1, c2⟩, _⟩ := g1.three
  have G0 := Lib.hid g0
  have HU1 := Lib.hid (HU.out.trans hu1)
  have hl := g0.lt
  clear g0 g1 hu1
  go_wp2
  refine bodyPost_ret (res_cell_tmp rfl _ _ w.heap.size _ 105 _ _ rfl rfl (G0.out.set3 _ _ _) Try.underlying105 rfl (by kernel_rfl)) rfl ⟨rfl, HU1.out.set3 _ _ _ _ (by omega)⟩

set_option maxHeartbeats 1000000 in
theorem unpack_no (x : Int) (h : okW x = false) (hx : x ≤ 9223372036854775807) (w : World) :
    Calls Try.prog 81 #[.int .i64 x] w fun e w' => e = .returned (.tuple #[.agg #[.int .i64 0, .int .i64 0, .int .i64 0], .int .i64 2]) ∧ Upd (fun _ => False) w w' := by
  have hb0 := Blk.made w [.int .i64 0, .int .i64 0, .int .i64 0] 105
  by_cases h0 : x < 0
  · have d0 : decide (x < 0) = true := decide_eq_true h0
    have HB0 := Lib.hid hb0
    have HU := Lib.hid ((Upd.refl (fun _ => False) w).alloc (.cells #[.int .i64 0, .int .i64 0, .int .i64 0] 105))
    clear h hb0
    go_enter Try.func81, Try.ntmps81
    go_wp2
    refine bodyPost_ret (res_cell_tmp rfl _ _ w.heap.size _ 105 _ _ rfl rfl HB0.out Try.underlying105 rfl (by kernel_rfl)) rfl ⟨rfl, HU.out⟩
  · have d0 : decide (x < 0) = false := decide_eq_false h0
    have hg : goodB (x % 16) (x / 16 / 4096) (x / 16 % 4096) = false := by
      unfold okW at h
      rw [decide_eq_true (by omega : 0 ≤ x), Bool.true_and] at h
      exact h
    have HG := Lib.hid hg
    have hi0 : 0 ≤ x := by omega
    clear h hg hb0
    go_enter Try.func81, Try.ntmps81
    go_wp2_with fail
    have hb0 := (Blk.made w [.int .i64 0, .int .i64 0, .int .i64 0] 105).alloc (.cells #[.int .i64 (x % 16), .int .i64 (x / 16 / 4096), .int .i64 (x / 16 % 4096)] 105)
    have hu := (((Upd.refl (fun _ => False) w).alloc (.cells #[.int .i64 0, .int .i64 0, .int .i64 0] 105)).alloc (.cells #[.int .i64 (x % 16), .int .i64 (x / 16 / 4096), .int .i64 (x / 16 % 4096)] 105))
    have HB0 := Lib.hid hb0
    have HU := Lib.hid hu
    clear hb0 hu
    refine (good_any _ _ _ _).mono ?_
    rintro e w1 ⟨rfl, hu1⟩
    rw [HG.out]
    have g0 := HB0.out.upd hu1 (fun h => h)
    obtain ⟨_, hf0, hf1, hf2⟩ := g0.three
    have c0 := g0.cell 0 rfl
    have c1 := g0.cell 1 rfl
    have c2 := g0.cell 2 rfl
    have G0 := Lib.hid g0
    have HU1 := Lib.hid (HU.out.trans hu1)
    have hl := g0.lt
    clear g0 hu1
    go_wp2
    refine bodyPost_ret (res_cell_tmp rfl _ _ w.heap.size _ 105 _ _ rfl rfl (G0.out.set3 _ _ _) Try.underlying105 rfl (by kernel_rfl)) rfl ⟨rfl, HU1.out.set3 _ _ _ _ (by omega)⟩

theorem ret_two {a b c d : Int} (h : a = c) (h' : b = d) : Ending.returned (.tuple #[.int .i64 a, .int .i64 b]) = .returned (.tuple #[.int .i64 c, .int .i64 d]) := by rw [h, h']

set_option maxRecDepth 20000 in
set_option maxHeartbeats 1000000 in
theorem pack_yes (k l p : Nat) (h : goodB k l p = true) (w : World) :
    Calls Try.prog 71 #[.agg #[.int .i64 (k : Int), .int .i64 (l : Int), .int .i64 (p : Int)]] w fun e w' => e = .returned (.tuple #[.int .i64 ((k + 16 * (p + 4096 * l) : Nat) : Int), .int .i64 0]) ∧ Upd (fun _ => False) w w' := by
  have hb := of_decide_eq_true h
  have hk : k ≤ 15 := by omega
  have hl : l ≤ 4095 := by omega
  have hp : p ≤ 4095 := by omega
  have HG := Lib.hid h
  clear h hb
  go_enter Try.func71, Try.ntmps71
  go_wp2_with fail
  have hb0 := (Blk.made w [.int .i64 (k : Int), .int .i64 (l : Int), .int .i64 (p : Int)] 105)
  have hu := ((Upd.refl (fun _ => False) w).alloc (.cells #[.int .i64 (k : Int), .int .i64 (l : Int), .int .i64 (p : Int)] 105))
  have HB0 := Lib.hid hb0
  have HU := Lib.hid hu
  clear hb0 hu
  refine (good_any _ _ _ _).mono ?_
  rintro e w1 ⟨rfl, hu1⟩
  rw [HG.out]
  have g0 := HB0.out.upd hu1 (fun h => h)
  obtain ⟨⟨c0, c1, c2⟩, _⟩ := g0.three
  have HU1 := Lib.hid (HU.out.trans hu1)
  clear g0 hu1
  go_wp2
  go_ret2
  exact ⟨ret_two (by push_cast; omega) rfl, HU1.out⟩

set_option maxHeartbeats 1000000 in
theorem pack_no (k l p : Int) (h : goodB k l p = false) (w : World) :
    Calls Try.prog 71 #[.agg #[.int .i64 k, .int .i64 l, .int .i64 p]] w fun e w' => e = .returned (.tuple #[.int .i64 0, .int .i64 1]) ∧ Upd (fun _ => False) w w' := by
  have HG := Lib.hid h
  clear h
  go_enter Try.func71, Try.ntmps71
  go_wp2_with fail
  have hu := ((Upd.refl (fun _ => False) w).alloc (.cells #[.int .i64 k, .int .i64 l, .int .i64 p] 105))
  have HU := Lib.hid hu
  clear hu
  refine (good_any _ _ _ _).mono ?_
  rintro e w1 ⟨rfl, hu1⟩
  rw [HG.out]
  have HU1 := Lib.hid (HU.out.trans hu1)
  clear hu1
  go_wp2
  go_ret2
  exact ⟨rfl, HU1.out⟩

/-! ### A heap in memory -/
def ints (zs : List Int) : List Value := zs.map (Value.int .i64)
def bools (bs : List Bool) : List Value := bs.map Value.bool

/-- A heap lies in block h: its words in block wb, where objects begin in block sb; its objects, and the words beyond them. -/
structure HeapAt (w : World) (h wb sb n : Nat) (os : List Ob) (rest : List Int) : Prop where
  str : Blk w h [.slice (some ⟨wb, 0, none⟩) n n, .int .i64 (top os : Int), .slice (some ⟨sb, 0, none⟩) n n] 129
  wds : Blk w wb (ints (flat os ++ rest)) 3
  sts : Blk w sb (bools (Obj.marks os ++ List.replicate rest.length false)) 4
  size : n = top os + rest.length
  lo : 1 ≤ n
  hi : n ≤ 65536
  good : ∀ o ∈ os, o.good
  ne : h ≠ wb ∧ h ≠ sb ∧ wb ≠ sb

theorem HeapAt.upd {S : Nat → Prop} {w w' : World} {h wb sb n : Nat} {os : List Ob} {rest : List Int} (H : HeapAt w h wb sb n os rest) (u : Upd S w w') (h1 : ¬ S h) (h2 : ¬ S wb) (h3 : ¬ S sb) : HeapAt w' h wb sb n os rest :=
  ⟨H.str.upd u h1, H.wds.upd u h2, H.sts.upd u h3, H.size, H.lo, H.hi, H.good, H.ne⟩
theorem HeapAt.quiet {w w' : World} {h wb sb n : Nat} {os : List Ob} {rest : List Int} (H : HeapAt w h wb sb n os rest) (u : Upd (fun _ => False) w w') : HeapAt w' h wb sb n os rest := H.upd u (fun h => h) (fun h => h) (fun h => h)
theorem HeapAt.word {w : World} {h wb sb n : Nat} {os : List Ob} {rest : List Int} (H : HeapAt w h wb sb n os rest) {a : Nat} {o : Ob} (hf : find os a = some o) : w.cell? ⟨wb, a, none⟩ = some (.int .i64 o.word) := by
  apply H.wds.cell
  have := flat_head hf
  have hl : a < (flat os).length := (List.getElem?_eq_some_iff.1 this).1
  rw [ints, List.getElem?_map, List.getElem?_append_left hl, this]
  rfl
theorem HeapAt.field {w : World} {h wb sb n : Nat} {os : List Ob} {rest : List Int} (H : HeapAt w h wb sb n os rest) {a i : Nat} {o : Ob} {x : Int} (hf : find os a = some o) (hx : o.ws[i]? = some x) : w.cell? ⟨wb, a + 1 + i, none⟩ = some (.int .i64 x) := by
  apply H.wds.cell
  have hi : i < o.len := (List.getElem?_eq_some_iff.1 hx).1
  have := flat_word hf hi
  rw [hx] at this
  have hl : a + 1 + i < (flat os).length := (List.getElem?_eq_some_iff.1 this).1
  rw [ints, List.getElem?_map, List.getElem?_append_left hl, this]
  rfl
theorem HeapAt.mark {w : World} {h wb sb n : Nat} {os : List Ob} {rest : List Int} (H : HeapAt w h wb sb n os rest) {a : Nat} (ha : a < top os) : w.cell? ⟨sb, a, none⟩ = some (.bool (find os a).isSome) := by
  apply H.sts.cell
  have := marks_at ha
  have hl : a < (Obj.marks os).length := by rw [marks_length]; exact ha
  rw [bools, List.getElem?_map, List.getElem?_append_left hl, this]
  rfl

set_option maxHeartbeats 1000000 in
theorem head_yes (w : World) (h wb sb n : Nat) (os : List Ob) (rest : List Int) (H : HeapAt w h wb sb n os rest) (a : Nat) (o : Ob) (hf : find os a = some o) :
    Calls Try.prog 78 #[.pointer (some ⟨h, 0, none⟩), .int .i64 (a : Int)] w fun e w' => e = .returned (.tuple #[.agg #[.int .i64 (o.kind : Int), .int .i64 (o.len : Int), .int .i64 (o.ptrs : Int)], .int .i64 0]) ∧ Upd (fun _ => False) w w' := by
  have hb0 := Blk.made w [.int .i64 0, .int .i64 0, .int .i64 0] 105
  have hlt := find_lt hf
  have hgo := H.good o (find_mem hf)
  have hs := H.size
  have hhi := H.hi
  have c0 := H.str.cell 0 rfl
  have c1 := H.str.cell 1 rfl
  have c2 := H.str.cell 2 rfl
  have c3 := H.mark (a := a) (by omega)
  rw [hf, Option.isSome_some] at c3
  have c4 := H.word hf
  obtain ⟨p1, p2, p3, p4, p5⟩ := word_parts hgo
  have d1 : decide ((top os : Int) ≤ (a : Int)) = false := decide_eq_false (by omega)
  have d1' : decide (top os ≤ a) = false := decide_eq_false (by omega)
  have d0 : decide ((a : Int) < 0) = false := decide_eq_false (by omega)
  have ha1 : a < n := by omega
  have l1 := H.str.lt
  have l2 := H.wds.lt
  have l3 := H.sts.lt
  have ha2 : (a : Int) < (n : Int) := by omega
  have hun := fun w => unpack_yes o.word (okW_ob hgo) (by omega) w
  rw [p2, p3, p4] at hun
  obtain ⟨T, hT⟩ : ∃ T, T = top os := ⟨_, rfl⟩
  rw [← hT] at c1 d1 d1' hlt hs
  have HUN := Lib.hid hun
  have HB0 := Lib.hid hb0
  have HU := Lib.hid ((Upd.refl (fun _ => False) w).alloc (.cells #[.int .i64 0, .int .i64 0, .int .i64 0] 105))
  generalize o.word = X at *
  clear hgo p2 p3 p4 hun hb0 hf H hs hT
  go_enter Try.func78, Try.ntmps78
  go_wp2_with fail
  refine (HUN.out _).mono ?_
  rintro e w1 ⟨rfl, hu1⟩
  have g0 := HB0.out.upd hu1 (fun h => h)
  obtain ⟨_, hf0, hf1, hf2⟩ := g0.three
  have k0 := g0.cell 0 rfl
  have k1 := g0.cell 1 rfl
  have k2 := g0.cell 2 rfl
  have G0 := Lib.hid g0
  have HU1 := Lib.hid (HU.out.trans hu1)
  have hl := g0.lt
  clear g0 hu1
  go_wp2
  refine bodyPost_ret (res_cell_tmp rfl _ _ w.heap.size _ 105 _ _ rfl rfl (G0.out.set3 _ _ _) Try.underlying105 rfl (by kernel_rfl)) rfl ⟨rfl, HU1.out.set3 _ _ _ _ (by omega)⟩
end Go.Proofs.Ytjlcjcgoaakniaa.Heap

/- Words read as objects: plain. -/

namespace Go.Proofs.Ytjlcjcgoaakniaa.Heap
open Go.Proofs.Ytjlcjcgoaakniaa.Obj

/-- The object that a head's word begins. -/
def obOf (x : Int) (ws : List Int) : Ob := ⟨(x % 16).toNat, (x / 16 % 4096).toNat, ws⟩
def lenOf (x : Int) : Nat := (x / 16 / 4096).toNat
/-- All words, as objects. -/
def parse : Nat → List Ob → List Int → Option (List Ob)
  | _, os, [] => some os
  | 0, _, _ :: _ => none
  | f + 1, os, x :: ws => if okW x = true ∧ lenOf x ≤ ws.length then parse f (os ++ [obOf x (ws.take (lenOf x))]) (ws.drop (lenOf x)) else none
theorem parse_nil (f : Nat) (os : List Ob) : parse f os [] = some os := by cases f <;> rfl
theorem parse_cons (f : Nat) (os : List Ob) (x : Int) (ws : List Int) : parse (f + 1) os (x :: ws) = if okW x = true ∧ lenOf x ≤ ws.length then parse f (os ++ [obOf x (ws.take (lenOf x))]) (ws.drop (lenOf x)) else none := rfl

theorem okW_parts {x : Int} (h : okW x = true) : 0 ≤ x ∧ x < 268435456 ∧ x % 16 = ((x % 16).toNat : Int) ∧ x / 16 % 4096 = ((x / 16 % 4096).toNat : Int) ∧ x / 16 / 4096 = (lenOf x : Int) ∧ lenOf x ≤ 4095 ∧ (x / 16 % 4096).toNat ≤ lenOf x ∧ ((x % 16).toNat = 15 → (x / 16 % 4096).toNat = 0) := by
  unfold okW goodB at h
  rw [Bool.and_eq_true] at h
  have h0 := of_decide_eq_true h.1
  have h1 := of_decide_eq_true h.2
  unfold lenOf
  omega
theorem obOf_good {x : Int} {ws : List Int} (h : okW x = true) (hl : ws.length = lenOf x) : (obOf x ws).good := by
  obtain ⟨h0, h1, h2, h3, h4, h5, h6, h7⟩ := okW_parts h
  unfold Ob.good obOf Ob.len
  simp only
  rw [hl]
  exact ⟨by omega, h6, h5, h7⟩
theorem obOf_word {x : Int} {ws : List Int} (h : okW x = true) (hl : ws.length = lenOf x) : (obOf x ws).word = x := by
  obtain ⟨h0, h1, h2, h3, h4, h5, h6, h7⟩ := okW_parts h
  unfold Ob.word obOf Ob.len
  simp only
  rw [hl]
  omega

theorem parse_flat : ∀ {f : Nat} {os os' : List Ob} {ws : List Int}, parse f os ws = some os' → flat os' = flat os ++ ws
  | f, os, os', [], h => by
    rw [parse_nil] at h
    cases h
    simp
  | 0, os, os', x :: ws, h => by cases h
  | f + 1, os, os', x :: ws, h => by
    rw [parse_cons] at h
    split at h
    · rename_i hc
      have hl : (ws.take (lenOf x)).length = lenOf x := by rw [List.length_take]; omega
      rw [parse_flat h, flat_append]
      simp only [flat, List.append_nil, List.append_assoc, List.cons_append, obOf_word hc.1 hl]
      simp only [obOf, List.take_append_drop]
    · cases h
theorem parse_good : ∀ {f : Nat} {os os' : List Ob} {ws : List Int}, (∀ o ∈ os, o.good) → parse f os ws = some os' → ∀ o ∈ os', o.good
  | f, os, os', [], hg, h => by
    rw [parse_nil] at h
    cases h
    exact hg
  | 0, os, os', x :: ws, hg, h => by cases h
  | f + 1, os, os', x :: ws, hg, h => by
    rw [parse_cons] at h
    split at h
    · rename_i hc
      have hl : (ws.take (lenOf x)).length = lenOf x := by rw [List.length_take]; omega
      refine parse_good (fun o ho => ?_) h
      rcases List.mem_append.1 ho with ho | ho
      · exact hg o ho
      · rw [List.mem_singleton] at ho
        subst ho
        exact obOf_good hc.1 hl
    · cases h
theorem mem_flat {os : List Ob} {o : Ob} {x : Int} (ho : o ∈ os) (hx : x ∈ o.ws) : x ∈ flat os := by
  induction os with
  | nil => cases ho
  | cons p os ih =>
    rcases List.mem_cons.1 ho with rfl | ho
    · exact List.mem_cons_of_mem _ (List.mem_append_left _ hx)
    · exact List.mem_cons_of_mem _ (List.mem_append_right _ (ih ho))
theorem parse_words {f : Nat} {os : List Ob} {ws : List Int} (h : parse f [] ws = some os) {o : Ob} {x : Int} (ho : o ∈ os) (hx : x ∈ o.ws) : x ∈ ws := by
  have := mem_flat ho hx
  rw [parse_flat h] at this
  simpa [flat] using this
end Go.Proofs.Ytjlcjcgoaakniaa.Heap

/- Contracts of the document's heads: Good, Unpack. -/

namespace Go.Proofs.Ytjlcjcgoaakniaa.Ref
open Go.RowKit Go.Proofs.Ytjlcjcgoaakniaa.Mem Go.Proofs.Ytjlcjcgoaakniaa.Obj Go.Proofs.Ytjlcjcgoaakniaa.Heap

set_option maxHeartbeats 1000000 in
theorem rgood_any (k l p : Int) (w : World) :
    Calls Try.prog 73 #[.agg #[.int .i64 k, .int .i64 l, .int .i64 p]] w fun e w' => e = .returned (.bool (goodB k l p)) ∧ Upd (fun _ => False) w w' := by
  have hu := (Upd.refl (fun _ => False) w).alloc (.cells #[.int .i64 k, .int .i64 l, .int .i64 p] 105)
  have HU := Lib.hid hu
  clear hu
  obtain ⟨r, hr⟩ : ∃ r, r = goodB k l p := ⟨_, rfl⟩
  rw [← hr]
  by_cases h0 : k < 0
  · have HG := Lib.hid (hr.trans (goodB_no (fun h => by omega)))
    have d : decide (k < 0) = true := decide_eq_true h0
    clear hr
    go_enter Try.func73, Try.ntmps73
    go_wp2
    go_ret
    exact ⟨ret_bool HG.out.symm, HU.out⟩
  · have d0 : decide (k < 0) = false := decide_eq_false h0
    by_cases h1 : 15 < k
    · have HG := Lib.hid (hr.trans (goodB_no (fun h => by omega)))
      have d : decide (15 < k) = true := decide_eq_true h1
      clear hr h0
      go_enter Try.func73, Try.ntmps73
      go_wp2
      go_ret
      exact ⟨ret_bool HG.out.symm, HU.out⟩
    · have d1 : decide (15 < k) = false := decide_eq_false h1
      by_cases h2 : l < 0
      · have HG := Lib.hid (hr.trans (goodB_no (fun h => by omega)))
        have d : decide (l < 0) = true := decide_eq_true h2
        clear hr h0 h1
        go_enter Try.func73, Try.ntmps73
        go_wp2
        go_ret
        exact ⟨ret_bool HG.out.symm, HU.out⟩
      · have d2 : decide (l < 0) = false := decide_eq_false h2
        by_cases h3 : 4095 < l
        · have HG := Lib.hid (hr.trans (goodB_no (fun h => by omega)))
          have d : decide (4095 < l) = true := decide_eq_true h3
          clear hr h0 h1 h2
          go_enter Try.func73, Try.ntmps73
          go_wp2
          go_ret
          exact ⟨ret_bool HG.out.symm, HU.out⟩
        · have d3 : decide (4095 < l) = false := decide_eq_false h3
          by_cases h4 : p < 0
          · have HG := Lib.hid (hr.trans (goodB_no (fun h => by omega)))
            have d : decide (p < 0) = true := decide_eq_true h4
            clear hr h0 h1 h2 h3
            go_enter Try.func73, Try.ntmps73
            go_wp2
            go_ret
            exact ⟨ret_bool HG.out.symm, HU.out⟩
          · have d4 : decide (p < 0) = false := decide_eq_false h4
            by_cases h5 : l < p
            · have HG := Lib.hid (hr.trans (goodB_no (fun h => by omega)))
              have d : decide (l < p) = true := decide_eq_true h5
              clear hr h0 h1 h2 h3 h4
              go_enter Try.func73, Try.ntmps73
              go_wp2
              go_ret
              exact ⟨ret_bool HG.out.symm, HU.out⟩
            · have d5 : decide (l < p) = false := decide_eq_false h5
              by_cases h6 : k = 15
              · have d6 : (k != 15) = false := by rw [bne_eq_false_iff_eq]; exact h6
                by_cases h7 : p = 0
                · have d7 : (p == 0) = true := by rw [beq_iff_eq]; exact h7
                  have HG := Lib.hid (hr.trans (goodB_yes (by omega)))
                  clear hr h0 h1 h2 h3 h4 h5 h6 h7
                  go_enter Try.func73, Try.ntmps73
                  go_wp2
                  go_ret
                  exact ⟨ret_bool HG.out.symm, HU.out⟩
                · have d7 : (p == 0) = false := by rw [beq_eq_false_iff_ne]; exact h7
                  have HG := Lib.hid (hr.trans (goodB_no (fun h => h7 (h.2.2.2.2.2.2 h6))))
                  clear hr h0 h1 h2 h3 h4 h5 h6 h7
                  go_enter Try.func73, Try.ntmps73
                  go_wp2
                  go_ret
                  exact ⟨ret_bool HG.out.symm, HU.out⟩
              · have d6 : (k != 15) = true := by rw [bne_iff_ne]; exact h6
                have HG := Lib.hid (hr.trans (goodB_yes ⟨by omega, by omega, by omega, by omega, by omega, by omega, fun h => absurd h h6⟩))
                clear hr h0 h1 h2 h3 h4 h5 h6
                go_enter Try.func73, Try.ntmps73
                go_wp2
                go_ret
                exact ⟨ret_bool HG.out.symm, HU.out⟩

/-- What Unpack answers. -/
def UnEnd (x : Int) (w : World) (e : Ending) (w' : World) : Prop :=
  Upd (fun _ => False) w w' ∧ if okW x = true then e = .returned (.tuple #[.agg #[.int .i64 (x % 16), .int .i64 (x / 65536), .int .i64 (x / 16 % 4096)], .bool true]) else e = .returned (.tuple #[.agg #[.int .i64 0, .int .i64 0, .int .i64 0], .bool false])

theorem okW_big {x : Int} (h : 268435456 ≤ x) : okW x = false := by
  unfold okW
  rw [goodB_no (fun h2 => by omega), Bool.and_false]
theorem okW_neg {x : Int} (h : x < 0) : okW x = false := by
  unfold okW
  rw [decide_eq_false (by omega), Bool.false_and]

end Go.Proofs.Ytjlcjcgoaakniaa.Ref
