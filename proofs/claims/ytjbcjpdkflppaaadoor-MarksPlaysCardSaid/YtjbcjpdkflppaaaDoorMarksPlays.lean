/- Whatever places are set, each call answers as the document says: the walk of besomlaw04.MarksPlays. -/
import Derived.Test.YtjbcjpdkflppaaaDoorNext
namespace Go.Proofs.YtjbcjpdkflppaaaDoor.MarksPlays
open Go.RowKit Go.Proofs.YtjbcjpdkflppaaaDoor.Mem Go.Proofs.YtjbcjpdkflppaaaDoor.Pop Go.Proofs.YtjbcjpdkflppaaaDoor.Marks

/-- Which places are set, as cells. -/
def inCells (ws : List Nat) (n : Nat) : List Value := (List.range n).map fun i => Value.bool (has ws i)
theorem inCells_get {ws : List Nat} {n i : Nat} (h : i < n) : (inCells ws n)[i]? = some (.bool (has ws i)) := by simp [inCells, h]
theorem inCells_len (ws : List Nat) (n : Nat) : (inCells ws n).length = n := by simp [inCells]
theorem inCells_put {ws : List Nat} {n x : Nat} (hx : x < n) (hw : x / 64 < ws.length) : (inCells ws n).set x (.bool true) = inCells (put ws x) n := by
  apply List.ext_getElem?
  intro i
  rw [List.getElem?_set, inCells_len]
  by_cases hi : i < n
  · rw [inCells_get hi, inCells_get hi, has_put hw]
    by_cases e : x = i
    · subst e; rw [if_pos rfl, if_pos hi]; simp
    · have : decide (i = x) = false := decide_eq_false (fun h => e h.symm)
      rw [if_neg e, this, Bool.false_or]
  · rw [List.getElem?_eq_none (by rw [inCells_len]; omega), List.getElem?_eq_none (by rw [inCells_len]; omega)]
    by_cases e : x = i
    · subst e; omega
    · rw [if_neg e]

def cnt (ws : List Nat) (p q : Int) : Nat → Nat
  | 0 => 0
  | k + 1 => cnt ws p q k + (if has ws k = true ∧ p ≤ (k : Int) ∧ (k : Int) < q then 1 else 0)
def nxt (ws : List Nat) (p : Int) : Nat → Int
  | 0 => -1
  | k + 1 => if has ws k = true ∧ p ≤ (k : Int) ∧ nxt ws p k < 0 then (k : Int) else nxt ws p k

theorem cnt_ct (ws : List Nat) (p q : Nat) (hpq : p ≤ q) : ∀ k, cnt ws p q k + ct ws (min k p) = ct ws (min k q)
  | 0 => by simp [cnt]
  | k + 1 => by
    have ih := cnt_ct ws p q hpq k
    unfold cnt
    by_cases h1 : k < p
    · rw [show min (k + 1) p = k + 1 by omega, show min (k + 1) q = k + 1 by omega]
      rw [show min k p = k by omega, show min k q = k by omega] at ih
      have e : ¬ (has ws k = true ∧ (p : Int) ≤ (k : Int) ∧ (k : Int) < (q : Int)) := by omega
      rw [if_neg e]
      simp only [ct]
      omega
    · by_cases h2 : k < q
      · rw [show min (k + 1) p = p by omega, show min (k + 1) q = k + 1 by omega]
        rw [show min k p = p by omega, show min k q = k by omega] at ih
        simp only [ct]
        cases hb : has ws k
        · simp; omega
        · have e : (true = true ∧ (p : Int) ≤ (k : Int) ∧ (k : Int) < (q : Int)) := ⟨rfl, by omega, by omega⟩
          rw [if_pos e]; simp; omega
      · rw [show min (k + 1) p = p by omega, show min (k + 1) q = q by omega]
        rw [show min k p = p by omega, show min k q = q by omega] at ih
        have e : ¬ (has ws k = true ∧ (p : Int) ≤ (k : Int) ∧ (k : Int) < (q : Int)) := by omega
        rw [if_neg e]
        omega
theorem cnt_le (ws : List Nat) (p q : Int) : ∀ k, cnt ws p q k ≤ k
  | 0 => Nat.le_refl _
  | k + 1 => by
    unfold cnt
    have := cnt_le ws p q k
    split <;> omega

theorem nxt_is (ws : List Nat) (p : Int) : ∀ k, (nxt ws p k = -1 ∧ ∀ i : Nat, i < k → p ≤ (i : Int) → has ws i = false) ∨ (∃ j : Nat, nxt ws p k = (j : Int) ∧ j < k ∧ p ≤ (j : Int) ∧ has ws j = true ∧ ∀ i : Nat, i < j → p ≤ (i : Int) → has ws i = false)
  | 0 => .inl ⟨rfl, fun i h => by omega⟩
  | k + 1 => by
    unfold nxt
    rcases nxt_is ws p k with ⟨h1, h2⟩ | ⟨j, h1, h2, h3, h4, h5⟩
    · by_cases hc : has ws k = true ∧ p ≤ (k : Int) ∧ nxt ws p k < 0
      · rw [if_pos hc]
        exact .inr ⟨k, rfl, by omega, hc.2.1, hc.1, h2⟩
      · rw [if_neg hc]
        refine .inl ⟨h1, fun i hi hp => ?_⟩
        by_cases e : i = k
        · subst e
          cases hb : has ws i
          · rfl
          · exact absurd ⟨hb, hp, by omega⟩ hc
        · exact h2 i (by omega) hp
    · have hc : ¬ (has ws k = true ∧ p ≤ (k : Int) ∧ nxt ws p k < 0) := by omega
      rw [if_neg hc]
      exact .inr ⟨j, h1, by omega, h3, h4, h5⟩

/-- What the last tests ask. -/
theorem next_fits {ws : List Nat} {n p : Nat} {r e : Int} (hb : ∀ i, n ≤ i → has ws i = false) (h : NextIs ws p r e) :
    (nxt ws p n < 0 ∧ e = 13 ∧ r = 0) ∨ (¬ nxt ws p n < 0 ∧ e = 0 ∧ r = nxt ws p n) := by
  rcases nxt_is ws p n with ⟨h1, h2⟩ | ⟨j, h1, h2, h3, h4, h5⟩
  · rcases h with ⟨rfl, j, rfl, g1, g2, g3⟩ | ⟨rfl, rfl, g1⟩
    · exfalso
      by_cases hj : j < n
      · rw [h2 j hj (by omega)] at g2; cases g2
      · rw [hb j (by omega)] at g2; cases g2
    · exact .inl ⟨by omega, rfl, rfl⟩
  · rcases h with ⟨rfl, i, rfl, g1, g2, g3⟩ | ⟨rfl, rfl, g1⟩
    · refine .inr ⟨by omega, rfl, ?_⟩
      rw [h1]
      rcases Nat.lt_trichotomy i j with hl | hl | hl
      · rw [h5 i hl (by omega)] at g2; cases g2
      · rw [hl]
      · rw [g3 j (by omega) hl] at h4; cases h4
    · rw [g1 j (by omega)] at h4; cases h4

theorem ints_below {B : Nat} {w w' : World} {k : IntKind} {a : Option Addr} {zs : List Int} (h : Row.Ints k w a zs) (hb : Below B w w') (hB : B = w.heap.size) : Row.Ints k w' a zs := by
  subst hB
  refine ⟨fun j x hx => ?_, h.wf, h.short⟩
  obtain ⟨b, off, e, hc, hlt⟩ := h.cell j x hx
  exact ⟨b, off, e, (hb.cell (p := ⟨b, off + j, none⟩) hlt).trans hc, Nat.lt_of_lt_of_le hlt hb.size⟩

theorem infoBool : (Tryd.prog.info? 4).map (fun i => (i.zero, i.size, i.bytes)) = some (some (.bool false), 1, 1) := by kernel_rfl

/-- Loop 1. -/
def Laying (w : World) (b wb ib n : Nat) (x0 x1 : Int) (m : Nat) (i : Value) (wr : World) : Prop :=
  ∃ (k : Nat) (ws : List Nat), k ≤ m ∧ i = .int .i64 (k : Int) ∧ MapAt wr b wb n ws ∧ (∀ j, n ≤ j → has ws j = false) ∧ Blk wr ib (inCells ws n) 4 ∧ Blk wr w.heap.size [.int .i64 x0, .int .i64 x1] 38 ∧ Upd (fun _ => False) w wr

/-- Loop 2. -/
def Looking (ws : List Nat) (n : Nat) (x0 x1 : Int) (wr : World) (c t i : Value) (wv : World) : Prop :=
  ∃ k : Nat, k ≤ n ∧ i = .int .i64 (k : Int) ∧ c = .int .i64 (cnt ws x0 x1 k : Nat) ∧ t = .int .i64 (nxt ws x0 k) ∧ wv = wr

set_option maxRecDepth 20000 in
set_option maxHeartbeats 4000000 in
theorem law_yes (w : World) (hT : Table w) (n : Nat) (a : Option Addr) (cap : Nat) (zs : List Int) (x0 x1 : Int) (hn0 : 1 ≤ n) (hn1 : n ≤ 255) (hz : Row.Ints .i64 w a zs) (hl : zs.length ≤ 100) :
    Calls Tryd.prog 4 #[.int .u8 (n : Int), .slice a zs.length cap, .agg #[.int .i64 x0, .int .i64 x1]] w fun e w' => e = .returned (.bool true) ∧ Below w.heap.size w w' := by
  have hT0 := Lib.hid hT
  clear hT
  have d1 : decide (100 < (zs.length : Int)) = false := decide_eq_false (by omega)
  have d1' : decide (100 < zs.length) = false := decide_eq_false (by omega)
  have d2 : ((n : Int) == 0) = false := beq_eq_false_iff_ne.2 (by omega)
  have d2' : (n == 0) = false := beq_eq_false_iff_ne.2 (by omega)
  have hmk := run_make_row' (P := Tryd.prog) 40 4 (.bool false) 1 Tryd.underlying40 infoBool rfl .i64 .i64 n (by omega) (by omega)
  go_enter Tryd.func4, Tryd.ntmps4
  go_wp2_with fail
  refine (awake _).mono ?_
  rintro e w1 ⟨rfl, hu1⟩
  have hX1 := (Blk.made w [.int .i64 x0, .int .i64 x1] 38).upd hu1 (fun h => h)
  have hU1 := ((Upd.refl (fun _ => False) w).alloc _).trans hu1
  have hsz1 := hX1.lt
  go_wp2_with fail
  refine (new_yes n _ hn0 (by omega)).mono ?_
  rintro e w2 ⟨b, wb, rfl, hM2, hb, hwb, hu2⟩
  have hX2 := hX1.upd hu2 (fun h => h)
  have hU2 := hU1.trans hu2
  clear hX1 hU1 hu1 hu2
  go_wp2_with fail
  refine (size_any w2 b wb n _ hM2).mono ?_
  rintro e w3 ⟨rfl, rfl⟩
  have hbl := hM2.str.lt
  have hwbl := hM2.wds.lt
  go_wp2_with fail
  have hI0 : Blk (w2.alloc (.cells (madeCells #[.bool false] n) 4)) w2.heap.size (inCells (List.replicate ((n + 63) / 64) 0) n) 4 := by
    have e : madeCells #[Value.bool false] n = (inCells (List.replicate ((n + 63) / 64) 0) n).toArray := by
      rw [madeCells_one]
      congr 1
      apply List.ext_getElem
      · simp [inCells]
      · intro j h1 h2
        simp [inCells, has_zero]
    rw [e]
    exact Blk.made _ _ _
  have hM0 := hM2.upd ((Upd.refl (fun _ => False) w2).alloc (.cells (madeCells #[.bool false] n) 4)) (fun h => h) (fun h => h)
  obtain ⟨ib, hib⟩ : ∃ ib, ib = w2.heap.size := ⟨_, rfl⟩
  have hX0 := hX2.alloc (.cells (madeCells #[.bool false] n) 4)
  have hU0 := hU2.alloc (.cells (madeCells #[.bool false] n) 4)
  have HI0 := Lib.hid hI0
  have HM0 := Lib.hid hM0
  have HX0 := Lib.hid hX0
  have HU0 := Lib.hid hU0
  have Hib := Lib.hid hib
  have q1 : w.heap.size < b := by omega
  have q2 : w.heap.size < wb := by omega
  have q3 : b < ib := by omega
  have q4 : wb < ib := by omega
  have hbwb := hM2.ne
  clear hI0 hM0 hX0 hU0 hM2 hX2 hU2 hmk
  rw [← Hib.out]
  clear hbl hwbl hb hwb hsz1 hib
  go_loopw [62] (fun i wr => Laying w b wb ib n x0 x1 zs.length i wr) (fun i _ => zs.length - (intOf i).toNat)
  case atStart =>
    refine ⟨0, _, Nat.zero_le _, rfl, HM0.out, fun j _ => has_zero _ _, ?_, HX0.out, HU0.out⟩
    have := HI0.out
    rw [← Hib.out] at this
    exact this
  case round =>
    obtain ⟨k, ws, hk, rfl, hM, hbd, hI, hX, hU⟩ := hrel
    by_cases hlk : k < zs.length
    · obtain ⟨v, hv⟩ : ∃ v, zs[k]? = some v := ⟨_, List.getElem?_eq_getElem hlk⟩
      have hzr := ints_below hz (hU.below (fun _ _ h => h)) rfl
      obtain ⟨bz, off, rfl, hc, _⟩ := hzr.cell k v hv
      have dk : decide ((k : Int) < (zs.length : Int)) = true := decide_eq_true (by omega)
      have dk' : decide (k < zs.length) = true := decide_eq_true hlk
      clear hzr hv
      by_cases hin : 0 ≤ v ∧ v < (n : Int)
      · obtain ⟨x, rfl⟩ : ∃ x : Nat, v = (x : Int) := ⟨v.toNat, by omega⟩
        have hxn : x < n := by omega
        have hxw : x / 64 < ws.length := by have := hM.len; omega
        have c2 : decide ((n : Int) ≤ (x : Int)) = false := decide_eq_false (by omega)
        have c2' : decide (n ≤ x) = false := decide_eq_false (by omega)
        have hbd2 : ∀ j, n ≤ j → has (put ws x) j = false := fun j hj => by
          rw [has_put hxw, hbd j hj]
          have : decide (j = x) = false := decide_eq_false (by omega)
          rw [this]; rfl
        have hput := inCells_put (ws := ws) hxn hxw
        have Hput := Lib.hid hput
        have Hbd2 := Lib.hid hbd2
        obtain ⟨hs, hhs⟩ : ∃ hs, hs = has ws x := ⟨_, rfl⟩
        have Hhs := Lib.hid hhs
        clear hin hbd hbd2 hput hhs
        go_wp2_with fail
        clear hc
        refine (set_yes wr b wb n ws hM x hxn).mono ?_
        rintro e w3 ⟨rfl, hM3, hu3⟩
        rw [← Hhs.out]
        have hU3 := hU.next hu3 (by intro i hi e; omega)
        have hI3 := hI.upd hu3 (by omega)
        have hX3 := hX.upd hu3 (by omega)
        have i0 := hI3.cell x (inCells_get hxn)
        rw [← Hhs.out] at i0
        have if0 := hI3.frozen x
        have hil := hI3.lt
        have hneq : ((!hs) == hs) = false := by cases hs <;> rfl
        go_wp2
        go_roundw
        case rel =>
          refine ⟨k + 1, put ws x, by omega, by go_num, ?_, Hbd2.out, ?_, ?_, ?_⟩
          · exact hM3.upd ((Upd.refl (fun k => k = ib) w3).setCell (p := ⟨ib, x, none⟩) (.bool true) (fun _ => rfl)) (by omega) (by omega)
          · rw [← Hput.out]; exact hI3.set x _
          · exact hX3.setOther _ (by simp; omega)
          · exact hU3.setCell _ (fun h => by have h' : ib < w.heap.size := h; omega)
        case measure => simp [intOf]; omega
      · by_cases hneg : v < 0
        · have c1 : decide (v < 0) = true := decide_eq_true hneg
          clear hin
          go_wp2_with fail
          clear hc
          refine (set_no wr b wb n ws hM v (.inl hneg)).mono ?_
          rintro e w3 ⟨rfl, rfl⟩
          go_wp2
          go_roundw
          case rel => exact ⟨k + 1, ws, by omega, by go_num, hM, hbd, hI, hX, hU⟩
          case measure => simp [intOf]; omega
        · have c1 : decide (v < 0) = false := decide_eq_false hneg
          have hge : (n : Int) ≤ v := by omega
          have c2 : decide ((n : Int) ≤ v) = true := decide_eq_true hge
          clear hin
          go_wp2_with fail
          clear hc
          refine (set_no wr b wb n ws hM v (.inr hge)).mono ?_
          rintro e w3 ⟨rfl, rfl⟩
          go_wp2
          go_roundw
          case rel => exact ⟨k + 1, ws, by omega, by go_num, hM, hbd, hI, hX, hU⟩
          case measure => simp [intOf]; omega
    · have hke : k = zs.length := by omega
      subst hke
      have hct := cnt_ct ws
      have hcl := cnt_le ws x0 x1
      have HM := Lib.hid hM
      have HI := Lib.hid hI
      have HX := Lib.hid hX
      have HU := Lib.hid hU
      have Hbd := Lib.hid hbd
      clear hM hI hX hU hbd
      go_wp2
      go_loopw [15, 16, 100] (fun c t i wv => Looking ws n x0 x1 wr c t i wv) (fun _ _ i _ => n - (intOf i).toNat)
      case atStart => exact ⟨0, Nat.zero_le _, rfl, rfl, rfl, rfl⟩
      case round =>
        obtain ⟨k, hk, rfl, rfl, rfl, rfl⟩ := hrel
        by_cases hlk2 : k < n
        · have hM := HM.out
          have ci := HI.out.cell k (inCells_get hlk2)
          have cx0 := HX.out.cell 0 rfl
          have cx1 := HX.out.cell 1 rfl
          have hck : cnt ws x0 x1 k ≤ k := hcl k
          have hcs : cnt ws x0 x1 (k + 1) = cnt ws x0 x1 k + (if has ws k = true ∧ x0 ≤ (k : Int) ∧ (k : Int) < x1 then 1 else 0) := rfl
          have hns : nxt ws x0 (k + 1) = if has ws k = true ∧ x0 ≤ (k : Int) ∧ nxt ws x0 k < 0 then (k : Int) else nxt ws x0 k := rfl
          obtain ⟨C, hC⟩ : ∃ C, C = cnt ws x0 x1 k := ⟨_, rfl⟩
          obtain ⟨T, hT⟩ : ∃ T, T = nxt ws x0 k := ⟨_, rfl⟩
          rw [← hC] at hcs hck ⊢
          rw [← hT] at hns ⊢
          have Hcs := Lib.hid hcs
          have Hns := Lib.hid hns
          have e1 : decide ((k : Int) < (n : Int)) = true := decide_eq_true (by omega)
          have e1' : decide (k < n) = true := decide_eq_true hlk2
          clear hcs hns hC hT hct hcl
          obtain ⟨hs, hhs⟩ : ∃ hs, hs = has ws k := ⟨_, rfl⟩
          rw [← hhs] at ci
          have Hhs := Lib.hid hhs
          clear hhs
          go_wp2_with fail
          refine (has_yes wr b wb n ws hM k hlk2).mono ?_
          rintro e w3 ⟨rfl, rfl⟩
          rw [← Hhs.out]
          have f0 : (false != false) = false := rfl
          have f1 : (true != true) = false := rfl
          have fin : ∀ (c' t' : Int), c' = ((cnt ws x0 x1 (k + 1) : Nat) : Int) → t' = nxt ws x0 (k + 1) → Looking ws n x0 x1 wr (.int .i64 c') (.int .i64 t') (.int .i64 ((k : Int) + 1)) wr := fun c' t' h1 h2 => ⟨k + 1, by omega, by go_num, by rw [h1], by rw [h2], rfl⟩
          have Hfin := Lib.hid fin
          clear fin
          cases hs with
          | false =>
            go_wp2
            go_roundw
            case rel =>
              have g := Hhs.out
              exact Hfin.out _ _ (by rw [Hcs.out, ← g]; simp) (by rw [Hns.out, ← g]; simp)
            case measure => simp [intOf]; omega
          | true =>
            by_cases p0 : x0 ≤ (k : Int)
            · have b0 : decide (x0 ≤ (k : Int)) = true := decide_eq_true p0
              by_cases p1 : (k : Int) < x1
              all_goals by_cases p2 : T < 0
              all_goals first | (have b1 : decide ((k : Int) < x1) = true := decide_eq_true p1) | (have b1 : decide ((k : Int) < x1) = false := decide_eq_false p1)
              all_goals first | (have b2 : decide (T < 0) = true := decide_eq_true p2) | (have b2 : decide (T < 0) = false := decide_eq_false p2)
              all_goals have Hp1 := Lib.hid p1
              all_goals have Hp2 := Lib.hid p2
              all_goals have Hp0 := Lib.hid p0
              all_goals clear p0 p1 p2
              all_goals
                go_wp2
                go_roundw
                case rel =>
                  have g := Hhs.out
                  have p0 := Hp0.out
                  have p1 := Hp1.out
                  have p2 := Hp2.out
                  exact Hfin.out _ _ (by rw [Hcs.out, ← g]; simp only [true_and]; split <;> omega) (by rw [Hns.out, ← g]; simp only [true_and]; split <;> omega)
                case measure => simp [intOf]; omega
            · have b0 : decide (x0 ≤ (k : Int)) = false := decide_eq_false p0
              have Hp0 := Lib.hid p0
              clear p0
              go_wp2
              go_roundw
              case rel =>
                have g := Hhs.out
                have p0 := Hp0.out
                exact Hfin.out _ _ (by rw [Hcs.out, ← g]; simp only [true_and]; split <;> omega) (by rw [Hns.out, ← g]; simp only [true_and]; split <;> omega)
              case measure => simp [intOf]; omega
        · have hke : k = n := by omega
          subst hke
          have hM := HM.out
          have hX := HX.out
          have cx0 := hX.cell 0 rfl
          have cx1 := hX.cell 1 rfl
          have hbd := Hbd.out
          have hnf := fun p r e h => next_fits (p := p) (r := r) (e := e) hbd h
          have e1 : decide ((k : Int) < (k : Int)) = false := decide_eq_false (by omega)
          have e1' : decide (k < k) = false := decide_eq_false (by omega)
          have hck : cnt ws x0 x1 k ≤ k := hcl k
          have hct2 := fun p q h => hct p q h k
          obtain ⟨C, hC⟩ : ∃ C, C = cnt ws x0 x1 k := ⟨_, rfl⟩
          obtain ⟨T, hT⟩ : ∃ T, T = nxt ws x0 k := ⟨_, rfl⟩
          rw [← hC] at hck ⊢
          rw [← hT] at ⊢
          have HC := Lib.hid hC
          have HT' := Lib.hid hT
          have Hct2 := Lib.hid hct2
          have Hnf := Lib.hid hnf
          have HTab := Lib.hid (hT0.out.upd HU.out (fun h => h))
          clear hC hT hct hcl hbd hnf hct2
          have Hend := Lib.hid (HU.out.below (fun _ _ h => h))
          have Hno := Lib.hid (fun (i : Int) (hi : i < 0 ∨ (k : Int) ≤ i) => has_no wr b wb k ws hM i hi)
          by_cases hbad : x0 < 0 ∨ x1 < x0 ∨ (k : Int) < x1
          · by_cases g0 : x0 < 0
            · have b0 : decide (x0 < 0) = true := decide_eq_true g0
              go_wp2_with fail
              refine (count_no wr b wb k ws hM x0 x1 hbad).mono ?_
              rintro e w3 ⟨rfl, rfl⟩
              clear hbad
              go_wp2_with fail
              refine (next_bad wr b wb k ws hM x0 (.inl g0)).mono ?_
              rintro e w3 ⟨rfl, rfl⟩
              go_wp2
              go_ret
              exact ⟨rfl, Hend.out⟩
            · have b0 : decide (x0 < 0) = false := decide_eq_false g0
              by_cases g3 : (k : Int) < x0
              · have b3 : decide ((k : Int) < x0) = true := decide_eq_true g3
                by_cases g1 : x1 < x0
                all_goals first | (have b1 : decide (x1 < x0) = true := decide_eq_true g1) | (have b1 : decide (x1 < x0) = false := decide_eq_false g1)
                all_goals first | (have b2 : decide ((k : Int) < x1) = true := decide_eq_true (by omega)) | skip
                all_goals
                  go_wp2_with fail
                  refine (count_no wr b wb k ws hM x0 x1 hbad).mono ?_
                  rintro e w3 ⟨rfl, rfl⟩
                  clear hbad g1
                  go_wp2_with fail
                  refine (next_bad wr b wb k ws hM x0 (.inr g3)).mono ?_
                  rintro e w3 ⟨rfl, rfl⟩
                  go_wp2
                  go_ret
                  exact ⟨rfl, Hend.out⟩
              · have b3 : decide ((k : Int) < x0) = false := decide_eq_false g3
                obtain ⟨p, rfl⟩ : ∃ p : Nat, x0 = (p : Int) := ⟨x0.toNat, by omega⟩
                by_cases g1 : x1 < (p : Int)
                all_goals first | (have b1 : decide (x1 < (p : Int)) = true := decide_eq_true g1) | (have b1 : decide (x1 < (p : Int)) = false := decide_eq_false g1)
                all_goals first | (have b2 : decide ((k : Int) < x1) = true := decide_eq_true (by omega)) | skip
                all_goals
                  go_wp2_with fail
                  refine (count_no wr b wb k ws hM p x1 hbad).mono ?_
                  rintro e w3 ⟨rfl, rfl⟩
                  clear hbad g1
                  go_wp2_with fail
                  refine (next_any wr b wb k ws hM HTab.out p (by omega)).mono ?_
                  rintro e w3 ⟨r, err, rfl, hn, rfl⟩
                  rcases (show (T < 0 ∧ err = 13 ∧ r = 0) ∨ (¬ T < 0 ∧ err = 0 ∧ T = r) from by rw [HT'.out]; have := Hnf.out _ _ _ hn; omega) with ⟨t0, rfl, rfl⟩ | ⟨t0, rfl, rfl⟩
                  · have t1 : decide (T < 0) = true := decide_eq_true t0
                    clear t0 hn
                    go_wp2
                    go_ret
                    exact ⟨rfl, Hend.out⟩
                  · have t1 : decide (T < 0) = false := decide_eq_false t0
                    clear t0 hn
                    go_wp2_with (first | ((with_reducible refine (Hno.out (-1) (.inl (by decide))).mono ?_); rintro e w3 ⟨rfl, rfl⟩) | ((with_reducible refine (Hno.out (k : Int) (.inr (Int.le_refl _))).mono ?_); rintro e w3 ⟨rfl, rfl⟩))
                    go_ret
                    exact ⟨rfl, Hend.out⟩
          · obtain ⟨p, rfl⟩ : ∃ p : Nat, x0 = (p : Int) := ⟨x0.toNat, by omega⟩
            obtain ⟨q, rfl⟩ : ∃ q : Nat, x1 = (q : Int) := ⟨x1.toNat, by omega⟩
            have b0 : decide ((p : Int) < 0) = false := decide_eq_false (by omega)
            have b1 : decide ((q : Int) < (p : Int)) = false := decide_eq_false (by omega)
            have b1' : decide (q < p) = false := decide_eq_false (by omega)
            have b2 : decide ((k : Int) < (q : Int)) = false := decide_eq_false (by omega)
            have b2' : decide (k < q) = false := decide_eq_false (by omega)
            have b3 : decide ((k : Int) < (p : Int)) = false := decide_eq_false (by omega)
            have b3' : decide (k < p) = false := decide_eq_false (by omega)
            have hpq : p ≤ q := by omega
            have hqk : q ≤ k := by omega
            have hpk : p ≤ k := by omega
            have hC1 : ct ws q - ct ws p = C := by
              have h1 := Hct2.out p q hpq
              rw [HC.out]
              rw [show min k p = p by omega, show min k q = q by omega] at h1
              omega
            have HC1 := Lib.hid hC1
            clear hC1 hbad
            go_wp2_with fail
            refine (count_yes wr b wb k ws hM p q hpq hqk).mono ?_
            rintro e w3 ⟨rfl, rfl⟩
            rw [HC1.out]
            have ne : ((C : Int) != (C : Int)) = false := by simp
            go_wp2_with fail
            refine (next_any wr b wb k ws hM HTab.out p hpk).mono ?_
            rintro e w3 ⟨r, err, rfl, hn, rfl⟩
            rcases (show (T < 0 ∧ err = 13 ∧ r = 0) ∨ (¬ T < 0 ∧ err = 0 ∧ T = r) from by rw [HT'.out]; have := Hnf.out _ _ _ hn; omega) with ⟨t0, rfl, rfl⟩ | ⟨t0, rfl, rfl⟩
            · have t1 : decide (T < 0) = true := decide_eq_true t0
              clear t0 hn
              go_wp2
              go_ret
              exact ⟨rfl, Hend.out⟩
            · have t1 : decide (T < 0) = false := decide_eq_false t0
              clear t0 hn
              go_wp2_with (first | ((with_reducible refine (Hno.out (-1) (.inl (by decide))).mono ?_); rintro e w3 ⟨rfl, rfl⟩) | ((with_reducible refine (Hno.out (k : Int) (.inr (Int.le_refl _))).mono ?_); rintro e w3 ⟨rfl, rfl⟩))
              go_ret
              exact ⟨rfl, Hend.out⟩

set_option maxRecDepth 20000 in
theorem law_no (w : World) (n : Nat) (a : Option Addr) (cap : Nat) (zs : List Int) (x0 x1 : Int) (hz : zs.length ≤ 9223372036854775807) (h : 100 < zs.length ∨ n = 0) :
    Calls Tryd.prog 4 #[.int .u8 (n : Int), .slice a zs.length cap, .agg #[.int .i64 x0, .int .i64 x1]] w fun e w' => e = .returned (.bool true) ∧ Below w.heap.size w w' := by
  by_cases h1 : 100 < zs.length
  · have d1 : decide (100 < (zs.length : Int)) = true := decide_eq_true (by omega)
    have d1' : decide (100 < zs.length) = true := decide_eq_true h1
    clear h
    go_enter Tryd.func4, Tryd.ntmps4
    go_wp2_with fail
    refine (awake _).mono ?_
    rintro e w1 ⟨rfl, hu1⟩
    have hU1 := ((Upd.refl (fun _ => False) w).alloc (.cells [.int .i64 x0, .int .i64 x1].toArray 38)).trans hu1
    go_wp2_with fail
    refine (awake _).mono ?_
    rintro e w2 ⟨rfl, hu2⟩
    go_wp2
    go_ret
    exact ⟨rfl, (hU1.trans hu2).below (by simp)⟩
  · have hn : n = 0 := by omega
    subst hn
    have d1 : decide (100 < (zs.length : Int)) = false := decide_eq_false (by omega)
    have d1' : decide (100 < zs.length) = false := decide_eq_false h1
    clear h h1
    go_enter Tryd.func4, Tryd.ntmps4
    go_wp2_with fail
    refine (awake _).mono ?_
    rintro e w1 ⟨rfl, hu1⟩
    have hU1 := ((Upd.refl (fun _ => False) w).alloc (.cells [.int .i64 x0, .int .i64 x1].toArray 38)).trans hu1
    go_wp2_with fail
    refine (new_no 0 _ (.inl (by decide))).mono ?_
    rintro e w2 ⟨rfl, rfl⟩
    go_wp2
    go_ret
    exact ⟨rfl, hU1.below (by simp)⟩

theorem law (w : World) (hT : Table w) (n : Int) (hn : (Lit.int .u8 n).wf = true) (a : Option Addr) (cap : Nat) (zs : List Int) (hz : Row.Ints .i64 w a zs) (xs : List Int) (hx : xs.length = 2) :
    Calls Tryd.prog 4 #[.int .u8 n, .slice a zs.length cap, .agg (xs.map (Value.int .i64)).toArray] w fun e w' => e = .returned (.bool true) ∧ Below w.heap.size w w' := by
  have hb := bounds_u8 hn
  obtain ⟨m, rfl⟩ : ∃ m : Nat, n = (m : Int) := ⟨n.toNat, by omega⟩
  match xs, hx with
  | [x, y], _ =>
    by_cases h : 100 < zs.length ∨ m = 0
    · exact law_no w m a cap zs x y hz.short h
    · exact law_yes w hT m a cap zs x y (by omega) (by omega) hz (by omega)
end Go.Proofs.YtjbcjpdkflppaaaDoor.MarksPlays
