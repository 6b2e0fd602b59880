/- Scripts: the table of numbers; Many, Good. -/
import Derived.Test.YtapjajclmbpjmaaGreatDoorHeap4
set_option linter.unusedSimpArgs false
namespace Go.Proofs.YtapjajclmbpjmaaGreatDoor.Scr
open Go.RowKit Go.Proofs.YtapjajclmbpjmaaGreatDoor.Mem

def manyL : List Nat := [0, 4, 0, 1, 0, 2, 3, 3, 2, 0, 2, 0, 0]
/-- What the program's table holds. -/
structure Tabs (w : World) : Prop where
  many : ∀ (j n : Nat), manyL[j]? = some n → w.cell? ⟨1, j, none⟩ = some (.int .i64 (n : Int))
  low : 2 ≤ w.heap.size
theorem Tabs.quiet {w w' : World} (T : Tabs w) (u : Upd (fun _ => False) w w') : Tabs w' := by
  refine ⟨fun j n h => ?_, Nat.le_trans T.low u.size⟩
  have hc := T.many j n h
  rw [World.cell?, u.block _ (World.block_lt_of_cell? w _ hc) (fun h => h)]
  exact hc
theorem ret_i {a b : Int} (h : a = b) : Ending.returned (.int .i64 a) = .returned (.int .i64 b) := by rw [h]
theorem ret_b {a b : Bool} (h : a = b) : Ending.returned (.bool a) = .returned (.bool b) := by rw [h]
/-- How many numbers an op has. -/
def manyOf (op : Int) : Int := if 1 ≤ op ∧ op ≤ 12 then ((manyL.getD op.toNat 0 : Nat) : Int) else -1

theorem many_any (w : World) (T : Tabs w) (op : Int) :
    Calls Tryz.prog 42 #[.int .i64 op] w fun e w' => e = .returned (.int .i64 (manyOf op)) ∧ w' = w := by
  by_cases h1 : op < 1
  · have d1 : decide (op < 1) = true := decide_eq_true h1
    have hm : manyOf op = -1 := by unfold manyOf; rw [if_neg (by omega)]
    have HM := Lib.hid hm
    clear hm
    go_enter Tryz.func42, Tryz.ntmps42
    go_wp2
    go_ret
    exact ⟨ret_i HM.out.symm, rfl⟩
  · have d1 : decide (op < 1) = false := decide_eq_false h1
    by_cases h2 : 12 < op
    · have d2 : decide (12 < op) = true := decide_eq_true h2
      have hm : manyOf op = -1 := by unfold manyOf; rw [if_neg (by omega)]
      have HM := Lib.hid hm
      clear hm
      go_enter Tryz.func42, Tryz.ntmps42
      go_wp2
      go_ret
      exact ⟨ret_i HM.out.symm, rfl⟩
    · have d2 : decide (12 < op) = false := decide_eq_false h2
      obtain ⟨k, rfl⟩ : ∃ k : Nat, op = (k : Int) := ⟨op.toNat, by omega⟩
      have hkl : k < manyL.length := by simp only [manyL, List.length_cons, List.length_nil]; omega
      obtain ⟨n, hn⟩ : ∃ n, manyL[k]? = some n := ⟨_, List.getElem?_eq_getElem hkl⟩
      have c0 := T.many k n hn
      have cl := T.low
      have hm : manyOf (k : Int) = (n : Int) := by unfold manyOf; rw [if_pos (by omega), Int.toNat_natCast, List.getD_eq_getElem?_getD, hn]; rfl
      have HM := Lib.hid hm
      have i1 : (0 : Int) ≤ (k : Int) := by omega
      have i2 : (k : Int) < 13 := by omega
      clear hm hn hkl
      go_enter Tryz.func42, Tryz.ntmps42
      go_wp2
      go_ret
      exact ⟨ret_i HM.out.symm, rfl⟩

/-- An entry's cells. -/
structure Ent where
  op : Int
  n0 : Int
  n1 : Int
  n2 : Int
  n3 : Int
  deriving DecidableEq
def Ent.ns (e : Ent) : List Int := [e.n0, e.n1, e.n2, e.n3]
def Ent.cells (e : Ent) : List Value := [.int .i64 e.op, .int .i64 e.n0, .int .i64 e.n1, .int .i64 e.n2, .int .i64 e.n3]
abbrev Ent.val (e : Ent) : Value := .agg #[.int .i64 e.op, .int .i64 e.n0, .int .i64 e.n1, .int .i64 e.n2, .int .i64 e.n3]
/-- May it be? -/
def Ent.good (e : Ent) : Prop := 0 ≤ manyOf e.op ∧ ∀ x ∈ e.ns.drop (manyOf e.op).toNat, x = 0
instance (e : Ent) : Decidable e.good := by unfold Ent.good; infer_instance

theorem nonzero_any (w : World) (x : Int) :
    Calls Tryz.prog 44 #[.int .i64 x] w fun e w' => e = .returned (.bool (x != 0)) ∧ w' = w := by
  go_enter Tryz.func44, Tryz.ntmps44
  go_wp2
  go_ret
  exact ⟨rfl, rfl⟩

/-- The first that isn't nought. -/
def firstNz : List Int → Nat → Int
  | [], _ => -1
  | x :: xs, k => if x = 0 then firstNz xs (k + 1) else (k : Int)
theorem firstNz_neg : ∀ (xs : List Int) (k : Nat), firstNz xs k < 0 ↔ ∀ x ∈ xs, x = 0
  | [], k => by simp [firstNz]
  | x :: xs, k => by
    rw [firstNz]
    by_cases h : x = 0
    · rw [if_pos h, firstNz_neg xs (k + 1)]
      constructor
      · intro h1 y hy
        rcases List.mem_cons.1 hy with rfl | hy
        · exact h
        · exact h1 y hy
      · intro h1 y hy
        exact h1 y (List.mem_cons_of_mem _ hy)
    · rw [if_neg h]
      constructor
      · intro h1; omega
      · intro h1; exact absurd (h1 x List.mem_cons_self) h
set_option maxHeartbeats 1000000 in
theorem index_nz (w : World) (b o m cap : Nat) (xs : List Int) (hm : xs.length = m) (hml : xs.length ≤ 100) (hc : ∀ j x, xs[j]? = some x → w.cell? ⟨b, o + j, none⟩ = some (.int .i64 x)) :
    Calls Tryz.prog 67 #[.slice (some ⟨b, o, none⟩) m cap, .func (.func 44) #[] #[]] w fun e w' => e = .returned (.int .i64 (firstNz xs 0)) ∧ w' = w := by
  have HC := Lib.hid hc
  subst hm
  clear hc
  go_enter Tryz.func67, Tryz.ntmps67
  go_wp2
  go_loopw [8] (fun i wr => ∃ k : Nat, k ≤ xs.length ∧ i = .int .i64 (k : Int) ∧ firstNz xs 0 = firstNz (xs.drop k) k ∧ wr = w) (fun i _ => xs.length - (intOf i).toNat)
  case atStart => exact ⟨0, Nat.zero_le _, rfl, by rw [List.drop_zero], rfl⟩
  case round =>
    obtain ⟨k, hk, rfl, hf, e⟩ := hrel
    have e' := e.symm
    subst e'
    have HF := Lib.hid hf
    clear hf
    by_cases hlk : k < xs.length
    · obtain ⟨x, hxk⟩ : ∃ x, xs[k]? = some x := ⟨_, List.getElem?_eq_getElem hlk⟩
      have c0 := HC.out k x hxk
      have hd : xs.drop k = x :: xs.drop (k + 1) := by rw [List.drop_eq_getElem_cons hlk]; congr 1; exact (List.getElem?_eq_some_iff.1 hxk).2
      have HD := Lib.hid hd
      have d1 : decide ((k : Int) < (xs.length : Int)) = true := decide_eq_true (by omega)
      have d1' : decide (k < xs.length) = true := decide_eq_true hlk
      have i1 : (0 : Int) ≤ (k : Int) := by omega
      have i2 : (k : Int) < (xs.length : Int) := by omega
      clear hd hxk
      by_cases hx : x = 0
      · have d2 : (x != 0) = false := by rw [bne_eq_false_iff_eq]; exact hx
        have HX := Lib.hid hx
        have HNz := Lib.hid (d2 ▸ nonzero_any w x)
        clear hx
        go_wp2_with fail
        refine (HNz.out).mono ?_
        rintro e w2 ⟨rfl, rfl⟩
        go_wp2
        go_roundw
        case rel => exact ⟨k + 1, by omega, by go_num, by rw [HF.out, HD.out, firstNz, if_pos HX.out], by trivial⟩
        case measure => simp [intOf]; omega
      · have d2 : (x != 0) = true := by rw [bne_iff_ne]; exact hx
        have HX := Lib.hid hx
        have HNz := Lib.hid (d2 ▸ nonzero_any w x)
        clear hx
        go_wp2_with fail
        refine (HNz.out).mono ?_
        rintro e w2 ⟨rfl, rfl⟩
        go_wp2
        go_ret
        exact ⟨ret_i (by rw [HF.out, HD.out, firstNz, if_neg HX.out]), rfl⟩
    · have hke : k = xs.length := by omega
      subst hke
      go_wp2
      go_ret
      exact ⟨ret_i (by rw [HF.out, List.drop_length]; rfl), rfl⟩
theorem contains_nz (w : World) (b o m cap : Nat) (xs : List Int) (hm : xs.length = m) (hml : xs.length ≤ 100) (hc : ∀ j x, xs[j]? = some x → w.cell? ⟨b, o + j, none⟩ = some (.int .i64 x)) :
    Calls Tryz.prog 43 #[.slice (some ⟨b, o, none⟩) m cap, .func (.func 44) #[] #[]] w fun e w' => e = .returned (.bool (decide (0 ≤ firstNz xs 0))) ∧ w' = w := by
  have HI := Lib.hid (index_nz w b o m cap xs hm hml hc)
  clear hc
  go_enter Tryz.func43, Tryz.ntmps43
  go_wp2_with fail
  refine (HI.out).mono ?_
  rintro e w1 ⟨rfl, rfl⟩
  go_wp2
  go_ret
  exact ⟨rfl, rfl⟩

theorem many_range (op : Int) : -1 ≤ manyOf op ∧ manyOf op ≤ 4 := by
  unfold manyOf
  split
  · rename_i h
    obtain ⟨k, rfl⟩ : ∃ k : Nat, op = (k : Int) := ⟨op.toNat, by omega⟩
    rw [Int.toNat_natCast]
    have : ∀ j : Nat, manyL.getD j 0 ≤ 4 := by
      intro j
      rw [List.getD_eq_getElem?_getD]
      cases hj : manyL[j]? with
      | none => simp
      | some n =>
        have := List.mem_of_getElem? hj
        simp only [manyL, List.mem_cons, List.not_mem_nil, or_false] at this
        simp only [Option.getD_some]
        omega
    have := this k
    omega
  · omega
theorem cells_drop (e : Ent) (w : World) (b m : Nat) (hB : Blk w b e.cells 46) (off : Nat) (ho : m = 4 ∨ off = 1 + m) (j : Nat) (x : Int) (hj : (e.ns.drop m)[j]? = some x) : w.cell? ⟨b, off + j, none⟩ = some (.int .i64 x) := by
  have hl := (List.getElem?_eq_some_iff.1 hj).1
  rw [List.length_drop] at hl
  simp only [Ent.ns, List.length_cons, List.length_nil] at hl
  have ho' : off = 1 + m := by omega
  subst ho'
  rw [List.getElem?_drop] at hj
  have : e.cells[1 + m + j]? = some (.int .i64 x) := by
    rw [show 1 + m + j = (m + j) + 1 by omega]
    simp only [Ent.cells, List.getElem?_cons_succ]
    have h4 : (e.ns.map fun z => Value.int .i64 z)[m + j]? = some (.int .i64 x) := by rw [List.getElem?_map, hj]; rfl
    exact h4
  exact hB.cell _ this
theorem good_iff (e : Ent) (m : Nat) (h : manyOf e.op = (m : Int)) : decide e.good = !decide (0 ≤ firstNz (e.ns.drop m) 0) := by
  have h1 := firstNz_neg (e.ns.drop m) 0
  have h2 : e.good ↔ firstNz (e.ns.drop m) 0 < 0 := by
    rw [h1]
    unfold Ent.good
    rw [h, Int.toNat_natCast]
    exact ⟨fun h => h.2, fun h => ⟨by omega, h⟩⟩
  rw [Bool.eq_iff_iff, decide_eq_true_iff, Bool.not_eq_true', decide_eq_false_iff_not, h2]
  omega
set_option maxHeartbeats 2000000 in
theorem good_any (w : World) (T : Tabs w) (e : Ent) :
    Calls Tryz.prog 28 #[e.val] w fun x w' => x = .returned (.bool (decide e.good)) ∧ Upd (fun _ => False) w w' := by
  have hu0 := (Upd.refl (fun _ => False) w).alloc (.cells e.cells.toArray 46)
  have hb := Blk.made w e.cells 46
  have HM := Lib.hid (many_any _ (T.quiet hu0) e.op)
  have HU := Lib.hid hu0
  have HB := Lib.hid hb
  have hr := many_range e.op
  clear hu0 hb
  by_cases hn : manyOf e.op < 0
  · have hg : decide e.good = false := decide_eq_false (fun h => by have := h.1; omega)
    have hm1 : manyOf e.op = -1 := by omega
    have hmo := HM.out
    rw [hm1] at hmo
    have HM2 := Lib.hid hmo
    have HG := Lib.hid hg
    clear hg hm1 hmo hn hr HM
    go_enter Tryz.func28, Tryz.ntmps28
    go_wp2_with fail
    refine (HM2.out).mono ?_
    rintro x w1 ⟨rfl, rfl⟩
    go_wp2
    go_ret
    exact ⟨ret_b HG.out.symm, HU.out⟩
  · obtain ⟨m, hm⟩ : ∃ m : Nat, manyOf e.op = (m : Int) := ⟨(manyOf e.op).toNat, by omega⟩
    have hg := good_iff e m hm
    have hmo := HM.out
    rw [hm] at hmo
    have HM2 := Lib.hid hmo
    have HG := Lib.hid hg
    have hm4 : m ≤ 4 := by omega
    obtain ⟨off, hoff⟩ : ∃ off, off = if 4 = m then 1 else 1 + m := ⟨_, rfl⟩
    have hc := contains_nz (w.alloc (.cells e.cells.toArray 46)) w.heap.size off (4 - m) (4 - m) (e.ns.drop m) (by simp [Ent.ns]) (by simp [Ent.ns]; omega) (cells_drop e _ _ m HB.out off (by rw [hoff]; split <;> omega))
    have HC := Lib.hid hc
    clear hg hmo hn hr HM hc hm
    go_enter Tryz.func28, Tryz.ntmps28
    go_wp2_with fail
    refine (HM2.out).mono ?_
    rintro x w1 ⟨rfl, rfl⟩
    clear HM2
    have i1 : (0 : Int) ≤ (m : Int) := by omega
    have i2 : (m : Int) ≤ 4 := by omega
    have hif : (if 4 = m then (⟨w.heap.size, 1, none⟩ : Addr) else ⟨w.heap.size, 1 + m, none⟩) = ⟨w.heap.size, off, none⟩ := by rw [hoff]; split <;> rfl
    clear hoff
    go_wp2_with fail
    refine (HC.out).mono ?_
    rintro x w2 ⟨rfl, rfl⟩
    go_wp2
    go_ret
    exact ⟨ret_b HG.out.symm, HU.out⟩

end Go.Proofs.YtapjajclmbpjmaaGreatDoor.Scr
