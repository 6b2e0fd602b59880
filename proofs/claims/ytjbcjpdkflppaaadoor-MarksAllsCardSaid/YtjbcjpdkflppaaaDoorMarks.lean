/- Maps of bits: what marks.New, Size, Has, Set, Clear, Count answer, and what becomes of memory. -/
import Derived.Test.YtjbcjpdkflppaaaDoorBits
import Derived.KernelRfl
import Derived.Laws.BitsAllLaws
namespace Go.Proofs.YtjbcjpdkflppaaaDoor.Marks
open Go.RowKit Go.Proofs.YtjbcjpdkflppaaaDoor.Mem Go.Proofs.YtjbcjpdkflppaaaDoor.Pop

theorem infoWord : (Tryd.prog.info? 47).map (fun i => (i.zero, i.size, i.bytes)) = some (some (.int .u64 0), 1, 8) := by kernel_rfl

def wordCells (ws : List Nat) : List Value := ws.map fun x : Nat => Value.int .u64 (x : Int)

/-- A map of n places lies in block b, its words in block wb. -/
structure MapAt (w : World) (b wb n : Nat) (ws : List Nat) : Prop where
  str : Blk w b [.slice (some ⟨wb, 0, none⟩) ws.length ws.length, .int .i64 (n : Int)] 46
  wds : Blk w wb (wordCells ws) 47
  ne : b ≠ wb
  len : ws.length = (n + 63) / 64
  lo : 1 ≤ n
  hi : n ≤ 65536
  fit : ∀ (k : Nat) (x : Nat), ws[k]? = some x → x < 18446744073709551616

theorem MapAt.upd {S : Nat → Prop} {w w' : World} {b wb n : Nat} {ws : List Nat} (h : MapAt w b wb n ws) (u : Upd S w w') (hb : ¬ S b) (hw : ¬ S wb) : MapAt w' b wb n ws :=
  ⟨h.str.upd u hb, h.wds.upd u hw, h.ne, h.len, h.lo, h.hi, h.fit⟩

/-- Is the bit of a place set? -/
def has (ws : List Nat) (i : Nat) : Bool := (ws.getD (i / 64) 0).testBit (i % 64)
/-- The words behind a bit that is set. -/
def put (ws : List Nat) (i : Nat) : List Nat := ws.set (i / 64) (ws.getD (i / 64) 0 ||| 2 ^ (i % 64))

theorem put_length (ws : List Nat) (i : Nat) : (put ws i).length = ws.length := by simp [put]
theorem has_put {ws : List Nat} {i j : Nat} (h : i / 64 < ws.length) : has (put ws i) j = (decide (j = i) || has ws j) := by
  unfold has put
  by_cases hk : j / 64 = i / 64
  · rw [hk, List.getD_eq_getElem?_getD, List.getElem?_set_self h, Option.getD_some, Nat.testBit_or, Nat.testBit_two_pow]
    by_cases hm : i % 64 = j % 64
    · have : j = i := by omega
      subst this; simp
    · have : j ≠ i := fun e => hm (by rw [e])
      simp [hm, this]
  · have hne : j ≠ i := fun e => hk (by rw [e])
    rw [List.getD_eq_getElem?_getD, List.getElem?_set_ne (Ne.symm hk), ← List.getD_eq_getElem?_getD]
    simp [hne]

theorem word_at {ws : List Nat} {k : Nat} (h : k < ws.length) : (wordCells ws)[k]? = some (.int .u64 ((ws.getD k 0 : Nat) : Int)) := by
  simp [wordCells, List.getD_eq_getElem?_getD, List.getElem?_eq_getElem h]
theorem MapAt.lt_word {w : World} {b wb n : Nat} {ws : List Nat} (h : MapAt w b wb n ws) (k : Nat) : ws.getD k 0 < 18446744073709551616 := by
  rw [List.getD_eq_getElem?_getD]
  cases hk : ws[k]? with
  | none => simp
  | some x => exact h.fit k x hk

theorem MapAt.stored {w : World} {b wb n : Nat} {ws : List Nat} (h : MapAt w b wb n ws) (k x : Nat) (hx : x < 18446744073709551616) : MapAt (w.setCell ⟨wb, k, none⟩ (.int .u64 (x : Int))) b wb n (ws.set k x) := by
  have e : wordCells (ws.set k x) = (wordCells ws).set k (.int .u64 (x : Int)) := by simp [wordCells, List.map_set]
  refine ⟨?_, ?_, h.ne, by simpa using h.len, h.lo, h.hi, ?_⟩
  · rw [List.length_set]; exact h.str.setOther _ h.ne
  · rw [e]; exact h.wds.set k _
  · intro j y hy
    rw [List.getElem?_set] at hy
    split at hy
    · split at hy
      · simp at hy; subst hy; exact hx
      · simp at hy
    · exact h.fit j y hy
theorem MapAt.drew {w : World} {b wb n : Nat} {ws : List Nat} (h : MapAt w b wb n ws) : MapAt w.drew b wb n ws := h.upd ((Upd.refl (fun _ => False) w).drew) (by simp) (by simp)

theorem bit_one (x i : Nat) (hx : x < 18446744073709551616) : (bits BinOp.and IntKind.u64 ((x : Int) / 2 ^ i) 1 == 1) = x.testBit i := by
  have e : ((x : Int) / 2 ^ i) = ((x / 2 ^ i : Nat) : Int) := by push_cast; rfl
  have hlt : x / 2 ^ i < 18446744073709551616 := Nat.lt_of_le_of_lt (Nat.div_le_self _ _) hx
  rw [e, show (1 : Int) = ((1 : Nat) : Int) by rfl, u64_and_nat _ _ hlt (by omega), Nat.and_one_is_mod, Nat.testBit_eq_decide_div_mod_eq]
  rw [Bool.eq_iff_iff]
  simp only [beq_iff_eq, decide_eq_true_eq]
  omega

theorem size_any (w : World) (b wb n : Nat) (ws : List Nat) (h : MapAt w b wb n ws) :
    Calls Tryd.prog 12 #[.pointer (some ⟨b, 0, none⟩)] w fun e w' => e = .returned (.int .i64 (n : Int)) ∧ w = w' := by
  have h1 := h.str.cell 1 rfl
  clear h
  go_enter Tryd.func12, Tryd.ntmps12
  go_wp2
  go_ret
  exact ⟨rfl, rfl⟩

theorem has_yes (w : World) (b wb n : Nat) (ws : List Nat) (h : MapAt w b wb n ws) (i : Nat) (hi : i < n) :
    Calls Tryd.prog 13 #[.pointer (some ⟨b, 0, none⟩), .int .i64 (i : Int)] w fun e w' => e = .returned (.bool (has ws i)) ∧ w = w' := by
  have h0 := h.str.cell 0 rfl
  have h1 := h.str.cell 1 rfl
  have hn := h.hi
  have hl := h.len
  have hk : i / 64 < ws.length := by omega
  have hk' : (i : Int) / 64 < (ws.length : Int) := by omega
  have hx := h.wds.cell (i / 64) (word_at hk)
  have hfit := h.lt_word (i / 64)
  have d1 : decide ((i : Int) < (n : Int)) = true := decide_eq_true (by omega)
  have d1' : decide (i < n) = true := decide_eq_true hi
  have hhas : has ws i = (ws.getD (i / 64) 0).testBit (i % 64) := rfl
  generalize ws.getD (i / 64) 0 = x at *
  have hbit := bit_one x (i % 64) hfit
  have Hhas := Lib.hid hhas
  clear hhas hl h
  go_enter Tryd.func13, Tryd.ntmps13
  go_wp2
  go_ret
  exact ⟨by rw [Hhas.out]; rfl, rfl⟩

theorem has_no (w : World) (b wb n : Nat) (ws : List Nat) (h : MapAt w b wb n ws) (i : Int) (hi : i < 0 ∨ (n : Int) ≤ i) :
    Calls Tryd.prog 13 #[.pointer (some ⟨b, 0, none⟩), .int .i64 i] w fun e w' => e = .returned (.bool false) ∧ w = w' := by
  have h1 := h.str.cell 1 rfl
  clear h
  by_cases h0 : 0 ≤ i
  · have d0 : decide (0 ≤ i) = true := decide_eq_true h0
    have d1 : decide (i < (n : Int)) = false := decide_eq_false (by omega)
    clear hi
    go_enter Tryd.func13, Tryd.ntmps13
    go_wp2
    go_ret
    exact ⟨rfl, rfl⟩
  · have d0 : decide (0 ≤ i) = false := decide_eq_false h0
    clear hi h0
    go_enter Tryd.func13, Tryd.ntmps13
    go_wp2
    go_ret
    exact ⟨rfl, rfl⟩

theorem set_no (w : World) (b wb n : Nat) (ws : List Nat) (h : MapAt w b wb n ws) (i : Int) (hi : i < 0 ∨ (n : Int) ≤ i) :
    Calls Tryd.prog 8 #[.pointer (some ⟨b, 0, none⟩), .int .i64 i] w fun e w' => e = .returned (.tuple #[.bool false, .int .i64 1]) ∧ w = w' := by
  have h1 := h.str.cell 1 rfl
  clear h
  by_cases h0 : i < 0
  · have d0 : decide (i < 0) = true := decide_eq_true h0
    clear hi
    go_enter Tryd.func8, Tryd.ntmps8
    go_wp2
    go_ret2
    exact ⟨rfl, rfl⟩
  · have d0 : decide (i < 0) = false := decide_eq_false h0
    have d1 : decide ((n : Int) ≤ i) = true := decide_eq_true (by omega)
    clear hi h0
    go_enter Tryd.func8, Tryd.ntmps8
    go_wp2
    go_ret2
    exact ⟨rfl, rfl⟩

theorem or_bit (x i : Nat) (hx : x < 18446744073709551616) (hi : i < 64) : bits BinOp.or IntKind.u64 (x : Int) (IntKind.u64.wrap (2 ^ i)) = ((x ||| 2 ^ i : Nat) : Int) ∧ x ||| 2 ^ i < 18446744073709551616 := by
  have hp : 2 ^ i < 18446744073709551616 := by
    have := Nat.pow_lt_pow_right (a := 2) (by omega) (show i < 64 by omega)
    simpa using this
  have e1 : IntKind.u64.wrap (2 ^ i) = ((2 ^ i : Nat) : Int) := by
    have := wrap_u64 (2 ^ i) hp
    simpa using this
  refine ⟨by rw [e1, u64_or_nat _ _ hx hp], ?_⟩
  have := @Nat.or_lt_two_pow x (2 ^ i) 64 (by simpa using hx) (by simpa using hp)
  simpa using this

set_option maxHeartbeats 800000 in
theorem set_yes (w : World) (b wb n : Nat) (ws : List Nat) (h : MapAt w b wb n ws) (i : Nat) (hi : i < n) :
    Calls Tryd.prog 8 #[.pointer (some ⟨b, 0, none⟩), .int .i64 (i : Int)] w fun e w' => e = .returned (.tuple #[.bool (!has ws i), .int .i64 0]) ∧ MapAt w' b wb n (put ws i) ∧ Upd (fun k => k = wb) w w' := by
  have h0 := h.str.cell 0 rfl
  have h1 := h.str.cell 1 rfl
  have hn := h.hi
  have hl := h.len
  have hk : i / 64 < ws.length := by omega
  have hk' : (i : Int) / 64 < (ws.length : Int) := by omega
  have hx := h.wds.cell (i / 64) (word_at hk)
  have hfr := h.wds.frozen (i / 64)
  have hfit := h.lt_word (i / 64)
  have d0 : decide ((i : Int) < 0) = false := decide_eq_false (by omega)
  have d1 : decide ((n : Int) ≤ (i : Int)) = false := decide_eq_false (by omega)
  have d1' : decide (n ≤ i) = false := decide_eq_false (by omega)
  have hput : put ws i = ws.set (i / 64) (ws.getD (i / 64) 0 ||| 2 ^ (i % 64)) := rfl
  generalize ws.getD (i / 64) 0 = x at *
  obtain ⟨hor, hlt⟩ := or_bit x (i % 64) hfit (by omega)
  have Hput := Lib.hid hput
  have H := Lib.hid h
  clear hput hl
  go_enter Tryd.func8, Tryd.ntmps8
  go_wp2_with fail
  refine (has_yes w b wb n ws h i hi).mono ?_
  rintro e w1 ⟨rfl, rfl⟩
  obtain ⟨y, hy⟩ : ∃ y, y = has ws i := ⟨_, rfl⟩
  rw [← hy]
  have Hy := Lib.hid hy
  clear h hy
  go_wp2
  go_region
  go_wp2
  go_ret2
  refine ⟨by rw [← Hy.out]; rfl, ?_, ?_⟩
  · rw [Hput.out]; exact (H.out.stored _ _ hlt).drew
  · exact ((Upd.refl (fun k => k = wb) w).setCell _ (fun _ => rfl)).drew

theorem new_no (n : Int) (w : World) (h : n < 1 ∨ 65536 < n) :
    Calls Tryd.prog 7 #[.int .i64 n] w fun e w' => e = .returned (.tuple #[.pointer none, .int .i64 1]) ∧ w = w' := by
  by_cases h0 : n < 1
  · have d0 : decide (n < 1) = true := decide_eq_true h0
    clear h
    go_enter Tryd.func7, Tryd.ntmps7
    go_wp2
    go_ret2
    exact ⟨rfl, rfl⟩
  · have d0 : decide (n < 1) = false := decide_eq_false h0
    have d1 : decide (65536 < n) = true := decide_eq_true (by omega)
    clear h h0
    go_enter Tryd.func7, Tryd.ntmps7
    go_wp2
    go_ret2
    exact ⟨rfl, rfl⟩

theorem new_yes (n : Nat) (w : World) (h0 : 1 ≤ n) (h1 : n ≤ 65536) :
    Calls Tryd.prog 7 #[.int .i64 (n : Int)] w fun e w' => ∃ b wb, e = .returned (.tuple #[.pointer (some ⟨b, 0, none⟩), .int .i64 0]) ∧ MapAt w' b wb n (List.replicate ((n + 63) / 64) 0) ∧
      w.heap.size ≤ b ∧ w.heap.size ≤ wb ∧ Upd (fun _ => False) w w' := by
  have d0 : decide ((n : Int) < 1) = false := decide_eq_false (by omega)
  have d0' : decide (n < 1) = false := decide_eq_false (by omega)
  have d1 : decide (65536 < (n : Int)) = false := decide_eq_false (by omega)
  have d1' : decide (65536 < n) = false := decide_eq_false (by omega)
  obtain ⟨c, hc⟩ : ∃ c : Nat, c = (n + 63) / 64 := ⟨_, rfl⟩
  have hmk := run_make_row' (P := Tryd.prog) 44 47 (.int .u64 0) 8 Tryd.underlying44 infoWord rfl .i64 .i64 c (by omega) (by omega)
  have e1 : ((n : Int) + 64 - 1) / 64 = (c : Int) := by omega
  have e2 : ((n : Int) + 63) / 64 = (c : Int) := by omega
  have Hc := Lib.hid hc
  clear hc
  go_enter Tryd.func7, Tryd.ntmps7
  go_wp2
  go_ret2
  refine ⟨w.heap.size + 1, w.heap.size, rfl, ?_, by omega, by omega, ((Upd.refl _ _).alloc _).alloc _⟩
  rw [← Hc.out, madeCells_one]
  refine ⟨?_, ?_, by omega, by rw [List.length_replicate, Hc.out], h0, h1, ?_⟩
  · rw [List.length_replicate]; exact Blk.made' _ _ _ _
  · rw [show wordCells (List.replicate c 0) = List.replicate c (.int .u64 0) by simp [wordCells]]
    exact (Blk.made _ _ _).alloc _
  · intro k x hx
    rw [List.getElem?_replicate] at hx
    split at hx
    · simp at hx; omega
    · simp at hx

theorem has_zero (c i : Nat) : has (List.replicate c 0) i = false := by
  unfold has
  rw [List.getD_eq_getElem?_getD, List.getElem?_replicate]
  split <;> simp

theorem clear_any (w : World) (b wb n : Nat) (ws : List Nat) (h : MapAt w b wb n ws) :
    Calls Tryd.prog 16 #[.pointer (some ⟨b, 0, none⟩)] w fun e w' => e = .returned (.tuple #[]) ∧ MapAt w' b wb n (List.replicate ws.length 0) ∧ Upd (fun k => k = wb) w w' := by
  obtain ⟨i0, hi, hz0, hz1, hz2⟩ := info_parts infoWord
  have h0 := h.str.cell 0 rfl
  obtain ⟨w1, hrun, hB, hU⟩ := run_clear Tryd.prog w 44 0 47 i0 (.int .u64 0) Tryd.underlying44 hi hz0 rfl rfl wb 0 ws.length ws.length (wordCells ws) h.wds (by simp [wordCells])
  have H := Lib.hid h
  clear h
  go_enter Tryd.func16, Tryd.ntmps16
  go_wp2
  go_end0
  refine ⟨rfl, ⟨?_, ?_, H.out.ne, by rw [List.length_replicate]; exact H.out.len, H.out.lo, H.out.hi, ?_⟩, hU⟩
  · rw [List.length_replicate]; exact H.out.str.upd hU H.out.ne
  · have e : List.take 0 (wordCells ws) ++ List.replicate ws.length (.int .u64 0) ++ List.drop (0 + ws.length) (wordCells ws) = wordCells (List.replicate ws.length 0) := by
      simp [wordCells]
    rw [← e]; exact hB
  · intro k x hx
    rw [List.getElem?_replicate] at hx
    split at hx
    · simp at hx; omega
    · simp at hx

/-! ### How many are set -/

/-- How many places below k are set. -/
def ct (ws : List Nat) : Nat → Nat
  | 0 => 0
  | k + 1 => ct ws k + (has ws k).toNat

theorem ct_word (ws : List Nat) (q : Nat) : ∀ r, r ≤ 64 → ct ws (64 * q + r) = ct ws (64 * q) + cb (ws.getD q 0) r
  | 0, _ => rfl
  | r + 1, h => by
    show ct ws (64 * q + r) + (has ws (64 * q + r)).toNat = _
    rw [ct_word ws q r (by omega), cb_succ]
    have e : has ws (64 * q + r) = (ws.getD q 0).testBit r := by
      unfold has
      rw [show (64 * q + r) / 64 = q by omega, show (64 * q + r) % 64 = r by omega]
    rw [e]; omega
theorem ct_mono (ws : List Nat) : ∀ {a b : Nat}, a ≤ b → ct ws a ≤ ct ws b := by
  intro a b h
  induction b with
  | zero => rw [show a = 0 by omega]; exact Nat.le_refl _
  | succ b ih =>
    by_cases e : a = b + 1
    · rw [e]; exact Nat.le_refl _
    · have := ih (by omega)
      show _ ≤ ct ws b + _
      omega
theorem ct_le (ws : List Nat) (a : Nat) : ∀ k, ct ws (a + k) ≤ ct ws a + k
  | 0 => Nat.le_refl _
  | k + 1 => by
    have := ct_le ws a k
    have h : (has ws (a + k)).toNat ≤ 1 := by cases has ws (a + k) <;> simp
    have e : ct ws (a + (k + 1)) = ct ws (a + k) + (has ws (a + k)).toNat := rfl
    rw [e]
    omega

/-- At the head of a round of ahead: so many words have been looked at. -/
def Ahead (ws : List Nat) (q : Nat) (n i : Value) : Prop := ∃ k : Nat, k ≤ q ∧ i = .int .i64 (k : Int) ∧ n = .int .i64 (ct ws (64 * k) : Nat)

set_option maxHeartbeats 800000 in
theorem ahead_any (w : World) (b wb n : Nat) (ws : List Nat) (h : MapAt w b wb n ws) (i : Nat) (hi : i ≤ n) :
    Calls Tryd.prog 19 #[.pointer (some ⟨b, 0, none⟩), .int .i64 (i : Int)] w fun e w' => e = .returned (.int .i64 (ct ws i : Nat)) ∧ w = w' := by
  have h0 := h.str.cell 0 rfl
  have hn := h.hi
  have hl := h.len
  have hq : i / 64 ≤ ws.length := by omega
  have hq' : (i : Int) / 64 ≤ (ws.length : Int) := by omega
  have hlast : 0 < i % 64 → i / 64 < ws.length := by omega
  have hcell : ∀ k, k < ws.length → w.cell? ⟨wb, k, none⟩ = some (.int .u64 ((ws.getD k 0 : Nat) : Int)) := fun k hk => h.wds.cell k (word_at hk)
  have hfit := h.lt_word
  have Hcell := Lib.hid hcell
  clear hl h hcell
  go_enter Tryd.func19, Tryd.ntmps19
  go_wp2
  go_loop [5, 16] (fun s x => Ahead ws (i / 64) s x) (fun _ x => i / 64 - (intOf x).toNat)
  case atStart => exact ⟨0, by omega, rfl, rfl⟩
  case round =>
    obtain ⟨k, hk, rfl, rfl⟩ := hrel
    have hct : ct ws (64 * k) ≤ 64 * k := by have := ct_le ws 0 (64 * k); simpa [ct] using this
    by_cases hlt : k < i / 64
    · have hlt' : (k : Int) < (i : Int) / 64 := by omega
      have hkl : k < ws.length := by omega
      have hx := Hcell.out k hkl
      have hfx := hfit k
      have hw := ct_word ws k 64 (Nat.le_refl _)
      generalize ws.getD k 0 = x at *
      have Hw := Lib.hid hw
      have hcb := cb_le x 64
      clear hw
      go_wp2_with fail
      refine (ones_any x w hfx).mono ?_
      rintro e w1 ⟨rfl, rfl⟩
      go_wp2
      go_round
      case rel =>
        refine ⟨k + 1, by omega, by go_num, ?_⟩
        rw [show 64 * (k + 1) = 64 * k + 64 by omega, Hw.out]
        go_num
      case measure => simp [intOf]; omega
    · have hke : k = i / 64 := by omega
      subst hke
      have hf : ¬ ((i / 64 : Nat) : Int) < (i : Int) / 64 := by omega
      by_cases hr : 0 < i % 64
      · have hr' : 0 < (i : Int) % 64 := by omega
        have hkl := hlast hr
        have hx := Hcell.out _ hkl
        have hfx := hfit (i / 64)
        have hw := ct_word ws (i / 64) (i % 64) (by omega)
        rw [show 64 * (i / 64) + i % 64 = i by omega] at hw
        generalize ws.getD (i / 64) 0 = x at *
        have hcb := cb_le x (i % 64)
        have hcm := cb_mod x (i % 64) 64 (by omega)
        have Hw := Lib.hid hw
        obtain ⟨y, hy⟩ : ∃ y, y = x % 2 ^ (i % 64) := ⟨_, rfl⟩
        have hfy : y < 18446744073709551616 := by rw [hy]; exact Nat.lt_of_le_of_lt (Nat.mod_le _ _) hfx
        rw [← hy] at hcm
        have Hcm := Lib.hid hcm
        have Hy := Lib.hid hy
        clear hw hcm hy
        go_wp2_with fail
        rw [show (i : Int) % 64 = ((i % 64 : Nat) : Int) by omega]
        refine (below_any x (i % 64) w hfx (by omega)).mono ?_
        rintro e w1 ⟨rfl, rfl⟩
        rw [← Hy.out]
        go_wp2_with fail
        refine (ones_any y w hfy).mono ?_
        rintro e w1 ⟨rfl, rfl⟩
        rw [Hcm.out]
        go_wp2
        go_ret
        exact ⟨by rw [Hw.out]; push_cast; rfl, rfl⟩
      · have hr' : ¬ 0 < (i : Int) % 64 := by omega
        have hw := ct_word ws (i / 64) 0 (by omega)
        have hii : 64 * (i / 64) = i := by omega
        have Hii := Lib.hid hii
        clear hii hw
        go_wp2
        go_ret
        exact ⟨by rw [Hii.out]; rfl, rfl⟩

theorem count_no (w : World) (b wb n : Nat) (ws : List Nat) (h : MapAt w b wb n ws) (i j : Int) (hij : i < 0 ∨ j < i ∨ (n : Int) < j) :
    Calls Tryd.prog 14 #[.pointer (some ⟨b, 0, none⟩), .int .i64 i, .int .i64 j] w fun e w' => e = .returned (.tuple #[.int .i64 0, .int .i64 1]) ∧ w = w' := by
  have h1 := h.str.cell 1 rfl
  clear h
  by_cases h0 : i < 0
  · have d0 : decide (i < 0) = true := decide_eq_true h0
    clear hij
    go_enter Tryd.func14, Tryd.ntmps14
    go_wp2
    go_ret2
    exact ⟨rfl, rfl⟩
  · have d0 : decide (i < 0) = false := decide_eq_false h0
    by_cases h2 : j < i
    · have d1 : decide (j < i) = true := decide_eq_true h2
      clear hij
      go_enter Tryd.func14, Tryd.ntmps14
      go_wp2
      go_ret2
      exact ⟨rfl, rfl⟩
    · have d1 : decide (j < i) = false := decide_eq_false h2
      have d2 : decide ((n : Int) < j) = true := decide_eq_true (by omega)
      clear hij h0 h2
      go_enter Tryd.func14, Tryd.ntmps14
      go_wp2
      go_ret2
      exact ⟨rfl, rfl⟩

theorem count_yes (w : World) (b wb n : Nat) (ws : List Nat) (h : MapAt w b wb n ws) (i j : Nat) (hij : i ≤ j) (hj : j ≤ n) :
    Calls Tryd.prog 14 #[.pointer (some ⟨b, 0, none⟩), .int .i64 (i : Int), .int .i64 (j : Int)] w fun e w' => e = .returned (.tuple #[.int .i64 ((ct ws j - ct ws i : Nat) : Int), .int .i64 0]) ∧ w = w' := by
  have h1 := h.str.cell 1 rfl
  have d0 : decide ((i : Int) < 0) = false := decide_eq_false (by omega)
  have d1 : decide ((j : Int) < (i : Int)) = false := decide_eq_false (by omega)
  have d1' : decide (j < i) = false := decide_eq_false (by omega)
  have d2 : decide ((n : Int) < (j : Int)) = false := decide_eq_false (by omega)
  have d2' : decide (n < j) = false := decide_eq_false (by omega)
  have hm := ct_mono ws hij
  have hlo : ct ws j ≤ 65536 := by have := ct_le ws 0 j; have := h.hi; simp [ct] at *; omega
  go_enter Tryd.func14, Tryd.ntmps14
  go_wp2_with fail
  refine (ahead_any w b wb n ws h j hj).mono ?_
  rintro e w1 ⟨rfl, rfl⟩
  go_wp2_with fail
  refine (ahead_any w b wb n ws h i (by omega)).mono ?_
  rintro e w1 ⟨rfl, rfl⟩
  have hsub : ((ct ws j : Nat) : Int) - ((ct ws i : Nat) : Int) = ((ct ws j - ct ws i : Nat) : Int) := by omega
  have Hs := Lib.hid hsub
  clear hsub
  go_wp2
  go_ret2
  exact ⟨by rw [← Hs.out]; rfl, rfl⟩
end Go.Proofs.YtjbcjpdkflppaaaDoor.Marks
