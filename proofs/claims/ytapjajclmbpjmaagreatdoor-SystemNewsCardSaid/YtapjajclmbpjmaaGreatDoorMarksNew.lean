/- Maps of bits: a new one. -/
import Derived.Test.YtapjajclmbpjmaaGreatDoorBits
import Derived.KernelRfl
import Derived.Laws.BitsAllLaws
namespace Go.Proofs.YtapjajclmbpjmaaGreatDoor.Marks
open Go.RowKit Go.Proofs.YtapjajclmbpjmaaGreatDoor.Mem Go.Proofs.YtapjajclmbpjmaaGreatDoor.Pop

theorem infoWord : (Tryz.prog.info? 90).map (fun i => (i.zero, i.size, i.bytes)) = some (some (.int .u64 0), 1, 8) := by kernel_rfl

def wordCells (ws : List Nat) : List Value := ws.map fun x : Nat => Value.int .u64 (x : Int)

/-- A map of n places lies in block b, its words in block wb. -/
structure MapAt (w : World) (b wb n : Nat) (ws : List Nat) : Prop where
  str : Blk w b [.slice (some ⟨wb, 0, none⟩) ws.length ws.length, .int .i64 (n : Int)] 155
  wds : Blk w wb (wordCells ws) 90
  ne : b ≠ wb
  len : ws.length = (n + 63) / 64
  lo : 1 ≤ n
  hi : n ≤ 65536
  fit : ∀ (k : Nat) (x : Nat), ws[k]? = some x → x < 18446744073709551616

theorem MapAt.upd {S : Nat → Prop} {w w' : World} {b wb n : Nat} {ws : List Nat} (h : MapAt w b wb n ws) (u : Upd S w w') (hb : ¬ S b) (hw : ¬ S wb) : MapAt w' b wb n ws :=
  ⟨h.str.upd u hb, h.wds.upd u hw, h.ne, h.len, h.lo, h.hi, h.fit⟩

/-- Is the bit of a place set? -/
def has (ws : List Nat) (i : Nat) : Bool := (ws.getD (i / 64) 0).testBit (i % 64)
/-- The words behind a bit that is set. -/
def put (ws : List Nat) (i : Nat) : List Nat := ws.set (i / 64) (ws.getD (i / 64) 0 ||| 2 ^ (i % 64))

theorem put_length (ws : List Nat) (i : Nat) : (put ws i).length = ws.length := by simp [put]
theorem has_put {ws : List Nat} {i j : Nat} (h : i / 64 < ws.length) : has (put ws i) j = (decide (j = i) || has ws j) := by
  unfold has put
  by_cases hk : j / 64 = i / 64
  · rw [hk, List.getD_eq_getElem?_getD, List.getElem?_set_self h, Option.getD_some, Nat.testBit_or, Nat.testBit_two_pow]
    by_cases hm : i % 64 = j % 64
    · have : j = i := by omega
      subst this; simp
    · have : j ≠ i := fun e => hm (by rw [e])
      simp [hm, this]
  · have hne : j ≠ i := fun e => hk (by rw [e])
    rw [List.getD_eq_getElem?_getD, List.getElem?_set_ne (Ne.symm hk), ← List.getD_eq_getElem?_getD]
    simp [hne]

theorem word_at {ws : List Nat} {k : Nat} (h : k < ws.length) : (wordCells ws)[k]? = some (.int .u64 ((ws.getD k 0 : Nat) : Int)) := by
  simp [wordCells, List.getD_eq_getElem?_getD, List.getElem?_eq_getElem h]
theorem MapAt.lt_word {w : World} {b wb n : Nat} {ws : List Nat} (h : MapAt w b wb n ws) (k : Nat) : ws.getD k 0 < 18446744073709551616 := by
  rw [List.getD_eq_getElem?_getD]
  cases hk : ws[k]? with
  | none => simp
  | some x => exact h.fit k x hk

theorem MapAt.stored {w : World} {b wb n : Nat} {ws : List Nat} (h : MapAt w b wb n ws) (k x : Nat) (hx : x < 18446744073709551616) : MapAt (w.setCell ⟨wb, k, none⟩ (.int .u64 (x : Int))) b wb n (ws.set k x) := by
  have e : wordCells (ws.set k x) = (wordCells ws).set k (.int .u64 (x : Int)) := by simp [wordCells, List.map_set]
  refine ⟨?_, ?_, h.ne, by simpa using h.len, h.lo, h.hi, ?_⟩
  · rw [List.length_set]; exact h.str.setOther _ h.ne
  · rw [e]; exact h.wds.set k _
  · intro j y hy
    rw [List.getElem?_set] at hy
    split at hy
    · split at hy
      · simp at hy; subst hy; exact hx
      · simp at hy
    · exact h.fit j y hy
theorem MapAt.drew {w : World} {b wb n : Nat} {ws : List Nat} (h : MapAt w b wb n ws) : MapAt w.drew b wb n ws := h.upd ((Upd.refl (fun _ => False) w).drew) (by simp) (by simp)

theorem bit_one (x i : Nat) (hx : x < 18446744073709551616) : (bits BinOp.and IntKind.u64 ((x : Int) / 2 ^ i) 1 == 1) = x.testBit i := by
  have e : ((x : Int) / 2 ^ i) = ((x / 2 ^ i : Nat) : Int) := by push_cast; rfl
  have hlt : x / 2 ^ i < 18446744073709551616 := Nat.lt_of_le_of_lt (Nat.div_le_self _ _) hx
  rw [e, show (1 : Int) = ((1 : Nat) : Int) by rfl, u64_and_nat _ _ hlt (by omega), Nat.and_one_is_mod, Nat.testBit_eq_decide_div_mod_eq]
  rw [Bool.eq_iff_iff]
  simp only [beq_iff_eq, decide_eq_true_eq]
  omega

theorem new_yes (n : Nat) (w : World) (h0 : 1 ≤ n) (h1 : n ≤ 65536) :
    Calls Tryz.prog 50 #[.int .i64 (n : Int)] w fun e w' => ∃ b wb, e = .returned (.tuple #[.pointer (some ⟨b, 0, none⟩), .int .i64 0]) ∧ MapAt w' b wb n (List.replicate ((n + 63) / 64) 0) ∧
      w.heap.size ≤ b ∧ w.heap.size ≤ wb ∧ Upd (fun _ => False) w w' := by
  have d0 : decide ((n : Int) < 1) = false := decide_eq_false (by omega)
  have d0' : decide (n < 1) = false := decide_eq_false (by omega)
  have d1 : decide (65536 < (n : Int)) = false := decide_eq_false (by omega)
  have d1' : decide (65536 < n) = false := decide_eq_false (by omega)
  obtain ⟨c, hc⟩ : ∃ c : Nat, c = (n + 63) / 64 := ⟨_, rfl⟩
  have hmk := run_make_row' (P := Tryz.prog) 153 90 (.int .u64 0) 8 Tryz.underlying153 infoWord rfl .i64 .i64 c (by omega) (by omega)
  have e1 : ((n : Int) + 64 - 1) / 64 = (c : Int) := by omega
  have e2 : ((n : Int) + 63) / 64 = (c : Int) := by omega
  have Hc := Lib.hid hc
  clear hc
  go_enter Tryz.func50, Tryz.ntmps50
  go_wp2
  go_ret2
  refine ⟨w.heap.size + 1, w.heap.size, rfl, ?_, by omega, by omega, ((Upd.refl _ _).alloc _).alloc _⟩
  rw [← Hc.out, madeCells_one]
  refine ⟨?_, ?_, by omega, by rw [List.length_replicate, Hc.out], h0, h1, ?_⟩
  · rw [List.length_replicate]; exact Blk.made' _ _ _ _
  · rw [show wordCells (List.replicate c 0) = List.replicate c (.int .u64 0) by simp [wordCells]]
    exact (Blk.made _ _ _).alloc _
  · intro k x hx
    rw [List.getElem?_replicate] at hx
    split at hx
    · simp at hx; omega
    · simp at hx

end Go.Proofs.YtapjajclmbpjmaaGreatDoor.Marks
