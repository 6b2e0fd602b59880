/- Scripts: a good entry's line is its own: plain. -/
import Derived.Test.YtlphlaenecidiaaDoorScrE
namespace Go.Proofs.YtlphlaenecidiaaDoor.Scr
open Go

theorem word_op : ∀ k : Nat, 1 ≤ k → k ≤ 12 → opOf (wordsL.getD k []) = (k : Int) := by
  intro k h1 h2
  rcases (show k = 1 ∨ k = 2 ∨ k = 3 ∨ k = 4 ∨ k = 5 ∨ k = 6 ∨ k = 7 ∨ k = 8 ∨ k = 9 ∨ k = 10 ∨ k = 11 ∨ k = 12 by omega) with rfl | rfl | rfl | rfl | rfl | rfl | rfl | rfl | rfl | rfl | rfl | rfl <;> decide
theorem word_plain (k : Nat) : (32 : UInt8) ∉ wordsL.getD k [] := by
  rw [List.getD_eq_getElem?_getD]
  cases h : wordsL[k]? with
  | none => simp
  | some l =>
    have := List.mem_of_getElem? h
    simp only [wordsL, List.mem_cons, List.not_mem_nil, or_false] at this
    simp only [Option.getD_some]
    rcases this with rfl | rfl | rfl | rfl | rfl | rfl | rfl | rfl | rfl | rfl | rfl | rfl | rfl <;> decide
/-- How many numbers it has. -/
def Ent.m (e : Ent) : Nat := (manyOf e.op).toNat
theorem Ent.good_op {e : Ent} (h : e.good) : 1 ≤ e.op ∧ e.op ≤ 12 ∧ manyOf e.op = (e.m : Int) ∧ e.m ≤ 4 := by
  have h0 := h.1
  have hr := many_range e.op
  have : 1 ≤ e.op ∧ e.op ≤ 12 := by
    unfold manyOf at h0
    split at h0
    · assumption
    · omega
  exact ⟨this.1, this.2, by unfold Ent.m; omega, by unfold Ent.m; omega⟩
theorem Ent.line_eq (e : Ent) : e.line = wordOf e.op ++ (((e.ns.take e.m).map Lib.itoa).flatMap fun x => 32 :: x) := by
  unfold Ent.line Ent.m
  rw [List.flatMap_map]
theorem line_spl (e : Ent) : spl e.line = wordOf e.op :: (e.ns.take e.m).map Lib.itoa := by
  rw [e.line_eq]
  refine spl_join _ (word_plain _) _ (fun x hx => ?_)
  obtain ⟨n, _, rfl⟩ := List.mem_map.1 hx
  exact itoa_plain n
theorem mkEnt_self {e : Ent} (h : e.good) : mkEnt e.op (e.ns.take e.m) = e := by
  have hz : ∀ x ∈ e.ns.drop e.m, x = 0 := h.2
  have hm := (Ent.good_op h).2.2.2
  have hg : ∀ i, (e.ns.take e.m).getD i 0 = e.ns.getD i 0 := by
    intro i
    rw [List.getD_eq_getElem?_getD, List.getD_eq_getElem?_getD, List.getElem?_take]
    split
    · rfl
    · rename_i hi
      cases hx : e.ns[i]? with
      | none => rfl
      | some x =>
        have : (e.ns.drop e.m)[i - e.m]? = some x := by rw [List.getElem?_drop, show e.m + (i - e.m) = i by omega]; exact hx
        rw [Option.getD_none, Option.getD_some, hz x (List.mem_of_getElem? this)]
  unfold mkEnt
  simp only [hg]
  rfl
def Ent.in64 (e : Ent) : Prop := ∀ x ∈ e.ns, -9223372036854775808 ≤ x ∧ x ≤ 9223372036854775807
theorem fits_line {e : Ent} (h : e.good) (h64 : e.in64) : fits e.line ∧ made (spl e.line) = e := by
  obtain ⟨h1, h2, h3, h4⟩ := Ent.good_op h
  obtain ⟨k, hk⟩ : ∃ k : Nat, e.op = (k : Int) := ⟨e.op.toNat, by omega⟩
  have hop : opOf (wordOf e.op) = e.op := by
    unfold wordOf
    rw [hk, Int.toNat_natCast]
    exact word_op k (by omega) (by omega)
  have hhd : opOf ((spl e.line).getD 0 []) = e.op := by rw [line_spl]; exact hop
  have htl : (spl e.line).tail.map numOf = e.ns.take e.m := by
    rw [line_spl, List.tail_cons, List.map_map]
    conv => rhs; rw [← List.map_id (e.ns.take e.m)]
    exact List.map_congr_left (fun x hx => numOf_itoa x (h64 x (List.mem_of_mem_take hx)))
  have hmade : made (spl e.line) = e := by
    unfold made
    rw [hhd, htl, mkEnt_self h]
  refine ⟨⟨by rw [hhd]; omega, ?_, ?_, ?_⟩, hmade⟩
  · rw [hhd, h3, line_spl, List.length_cons, List.length_map, List.length_take]
    simp only [Ent.ns, List.length_cons, List.length_nil]
    omega
  · rw [hmade]; exact h
  · rw [hmade]
/-- Good entries that are unlike have unlike lines. -/
theorem line_inj {a b : Ent} (ha : a.good) (hb : b.good) (ha64 : a.in64) (hb64 : b.in64) (h : a.line = b.line) : a = b := by
  have h1 := (fits_line ha ha64).2
  have h2 := (fits_line hb hb64).2
  rw [h, h2] at h1
  exact h1.symm
/-- As many blanks as numbers. -/
theorem count_plain {l : List UInt8} (h : (32 : UInt8) ∉ l) : l.count 32 = 0 := List.count_eq_zero.2 h
theorem line_blanks {e : Ent} (h : e.good) : e.line.count 32 = e.m := by
  have hm := (Ent.good_op h).2.2.2
  have hw : ∀ ws : List (List UInt8), (∀ x ∈ ws, (32 : UInt8) ∉ x) → (ws.flatMap fun x => 32 :: x).count 32 = ws.length := by
    intro ws
    induction ws with
    | nil => intro _; rfl
    | cons x ws ih =>
      intro hx
      rw [List.flatMap_cons, List.count_append, ih (fun y hy => hx y (List.mem_cons_of_mem _ hy)), List.count_cons_self, count_plain (hx x List.mem_cons_self), List.length_cons]
      omega
  rw [e.line_eq, List.count_append, count_plain (show (32 : UInt8) ∉ wordOf e.op from word_plain _), hw _ (fun x hx => by obtain ⟨n, _, rfl⟩ := List.mem_map.1 hx; exact itoa_plain n), List.length_map, List.length_take]
  simp only [Ent.ns, List.length_cons, List.length_nil]
  omega
theorem line_len {e : Ent} (h64 : e.in64) : e.line.length ≤ 200 := by
  have hi : ∀ (ns : List Int), (∀ x ∈ ns, -9223372036854775808 ≤ x ∧ x ≤ 9223372036854775807) → (ns.flatMap fun n => 32 :: Lib.itoa n).length ≤ 22 * ns.length := by
    intro ns
    induction ns with
    | nil => intro _; exact Nat.le_refl _
    | cons n ns ih =>
      intro h
      have h1 := h n List.mem_cons_self
      have h2 := Lib.itoa_length_le n h1.1 h1.2
      have h3 := ih (fun x hx => h x (List.mem_cons_of_mem _ hx))
      rw [List.flatMap_cons, List.length_append, List.length_cons, List.length_cons]
      omega
  have hw : (wordOf e.op).length ≤ 10 := by
    unfold wordOf
    rw [List.getD_eq_getElem?_getD]
    cases h : wordsL[e.op.toNat]? with
    | none => simp
    | some l =>
      have := List.mem_of_getElem? h
      simp only [wordsL, List.mem_cons, List.not_mem_nil, or_false] at this
      simp only [Option.getD_some]
      rcases this with rfl | rfl | rfl | rfl | rfl | rfl | rfl | rfl | rfl | rfl | rfl | rfl | rfl <;> decide
  unfold Ent.line
  have h1 := hi (e.ns.take (manyOf e.op).toNat) (fun x hx => h64 x (List.mem_of_mem_take hx))
  have h2 : (e.ns.take (manyOf e.op).toNat).length ≤ 4 := by rw [List.length_take]; simp only [Ent.ns, List.length_cons, List.length_nil]; omega
  rw [List.length_append]
  omega

open Go.RowKit Go.Proofs.YtlphlaenecidiaaDoor.Mem
attribute [-go_sem] run_eql_struct run_equalIn_agg in
set_option maxRecDepth 20000 in
/-- A fixed fact. -/
theorem awake_any (w : World) (T : Tabs w) (R : Errs w) :
    Calls Tryd.prog 8 #[] w fun e w' => e = .returned (.bool true) ∧ Upd (fun _ => False) w w' := by
  have hp := parse_any w T R ⟨#[108, 105, 110, 107, 32, 48, 32, 49, 32, 50]⟩ (by decide)
  have hl : (⟨#[108, 105, 110, 107, 32, 48, 32, 49, 32, 50]⟩ : ByteArray).data.toList = (⟨6, 0, 1, 2, 0⟩ : Ent).line := by
    have i0 : Lib.itoa 0 = [48] := by simp [Lib.itoa, Lib.decDigits]
    have i1 : Lib.itoa 1 = [49] := by simp [Lib.itoa, Lib.decDigits]
    have i2 : Lib.itoa 2 = [50] := by simp [Lib.itoa, Lib.decDigits]
    show _ = [108, 105, 110, 107] ++ ([0, 1, 2].flatMap fun n : Int => 32 :: Lib.itoa n)
    simp only [List.flatMap_cons, List.flatMap_nil, i0, i1, i2]
    rfl
  have hg : (⟨6, 0, 1, 2, 0⟩ : Ent).good := by decide
  have h64 : (⟨6, 0, 1, 2, 0⟩ : Ent).in64 := by
    intro x hx
    simp only [Ent.ns, List.mem_cons, List.not_mem_nil, or_false] at hx
    rcases hx with rfl | rfl | rfl | rfl <;> omega
  have hf := fits_line hg h64
  have hv : parsed (⟨#[108, 105, 110, 107, 32, 48, 32, 49, 32, 50]⟩ : ByteArray).data.toList = .tuple #[(⟨6, 0, 1, 2, 0⟩ : Ent).val, .int .i64 0] := by
    rw [hl]
    unfold parsed
    rw [if_pos hf.1, hf.2]
  rw [hv] at hp
  have HP := Lib.hid hp
  have heq : ∀ W : World, (binOp .eql 25 (.agg #[.int .i64 6, .int .i64 0, .int .i64 1, .int .i64 2, .int .i64 0]) (.agg #[.int .i64 6, .int .i64 0, .int .i64 1, .int .i64 2, .int .i64 0])).run Tryd.prog W = .ok (.bool true) W := fun W => by
    have h := ent_eq W ⟨6, 0, 1, 2, 0⟩ ⟨6, 0, 1, 2, 0⟩
    rw [decide_eq_true rfl] at h
    exact h
  clear hp hl hg h64 hf hv
  go_enter Tryd.func8, Tryd.ntmps8
  go_wp2_with fail
  refine (HP.out).mono ?_
  rintro x w1 ⟨rfl, hu1⟩
  have HU := Lib.hid hu1
  clear hu1
  go_wp2
  go_ret
  exact ⟨rfl, HU.out.alloc _⟩
end Go.Proofs.YtlphlaenecidiaaDoor.Scr
