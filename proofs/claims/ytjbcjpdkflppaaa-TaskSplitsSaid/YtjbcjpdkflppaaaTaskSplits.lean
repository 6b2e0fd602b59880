/- A task's parts follow one another, all of it, each but the last one of as many words as are told: the walk of besomlaw07.TaskSplits. -/
import Derived.Test.YtjbcjpdkflppaaaTask
import Derived.Test.YtjbcjpdkflppaaaSplit
import Derived.Deep.QuietTactic
import Derived.BigQuiet
namespace Go.Proofs.Ytjbcjpdkflppaaa.Task
open Go.RowKit Go.Proofs.Ytjbcjpdkflppaaa.Mem

theorem ref_good_yes (a b c : Int) (w : World) (h0 : 0 ≤ a) (h1 : a < 65536) (h2 : 0 ≤ b) (h3 : b ≤ c) (h4 : c ≤ 4095) :
    Calls Try.prog 15 #[.int .i64 a, .int .i64 b, .int .i64 c] w fun e w' => e = .returned (.bool true) ∧ w = w' := by
  have d0 : decide (0 ≤ a) = true := decide_eq_true h0
  have d1 : decide (a ≤ 65535) = true := decide_eq_true (by omega)
  have d2 : decide (0 ≤ b) = true := decide_eq_true h2
  have d3 : decide (b ≤ c) = true := decide_eq_true h3
  have d4 : decide (c ≤ 4095) = true := decide_eq_true h4
  go_enter Try.func15, Try.ntmps15
  go_wp2
  go_ret
  exact ⟨rfl, rfl⟩

theorem ref_good_no (a b c : Int) (w : World) (h : ¬ (0 ≤ a ∧ a < 65536 ∧ 0 ≤ b ∧ b ≤ c ∧ c ≤ 4095)) :
    Calls Try.prog 15 #[.int .i64 a, .int .i64 b, .int .i64 c] w fun e w' => e = .returned (.bool false) ∧ w = w' := by
  by_cases h0 : 0 ≤ a
  · have d0 : decide (0 ≤ a) = true := decide_eq_true h0
    by_cases h1 : a ≤ 65535
    · have d1 : decide (a ≤ 65535) = true := decide_eq_true h1
      by_cases h2 : 0 ≤ b
      · have d2 : decide (0 ≤ b) = true := decide_eq_true h2
        by_cases h3 : b ≤ c
        · have d3 : decide (b ≤ c) = true := decide_eq_true h3
          have d4 : decide (c ≤ 4095) = false := decide_eq_false (by omega)
          clear h
          go_enter Try.func15, Try.ntmps15
          go_wp2
          go_ret
          exact ⟨rfl, rfl⟩
        · have d3 : decide (b ≤ c) = false := decide_eq_false h3
          clear h h3
          go_enter Try.func15, Try.ntmps15
          go_wp2
          go_ret
          exact ⟨rfl, rfl⟩
      · have d2 : decide (0 ≤ b) = false := decide_eq_false h2
        clear h h2
        go_enter Try.func15, Try.ntmps15
        go_wp2
        go_ret
        exact ⟨rfl, rfl⟩
    · have d1 : decide (a ≤ 65535) = false := decide_eq_false h1
      clear h h1
      go_enter Try.func15, Try.ntmps15
      go_wp2
      go_ret
      exact ⟨rfl, rfl⟩
  · have d0 : decide (0 ≤ a) = false := decide_eq_false h0
    clear h h0
    go_enter Try.func15, Try.ntmps15
    go_wp2
    go_ret
    exact ⟨rfl, rfl⟩

theorem awake (w : World) : Calls Try.prog 11 #[] w fun e w' => e = .returned (.bool true) ∧ Upd (fun _ => False) w w' := by
  go_enter Try.func11, Try.ntmps11
  go_wp2_with fail
  refine (pack_yes 0 0 0 _ (by omega) (by omega) (by omega) (by omega) (by omega)).mono ?_
  rintro e w1 ⟨rfl, hu⟩
  go_wp2
  go_ret
  exact ⟨rfl, hu⟩

/-- Where the parts of a task begin and end, and how long they are. -/
inductive Row (p b m : Int) : Int → List T3 → Prop
  | last {a : Int} (h : a ≤ b) (h1 : b - a ≤ m) : Row p b m a [⟨p, a, b⟩]
  | more {a : Int} {l : List T3} (h : m < b - a) (hr : Row p b m (a + m) l) : Row p b m a (⟨p, a, a + m⟩ :: l)

theorem pieces_row {p b m : Int} : ∀ (d : Nat) (a : Int), 1 ≤ m → a ≤ b → b - a ≤ d → Row p b m a (pieces d m p a b) := by
  intro d
  induction d with
  | zero => intro a hm h hd; exact .last h (by omega)
  | succ d ih =>
    intro a hm h hd
    by_cases hc : b - a > m
    · rw [pieces_go hc]; exact .more hc (ih _ hm (by omega) (by omega))
    · rw [pieces_end hc]; exact .last h (by omega)

theorem Row.pos {p b m a : Int} {l : List T3} (h : Row p b m a l) : 0 < l.length := by cases h <;> simp
theorem Row.le {p b m a : Int} {l : List T3} (h : Row p b m a l) : a ≤ b ∨ b - a > m := by cases h <;> omega

theorem law_no (p a b m : Int) (w : World) (h : ¬ (0 ≤ p ∧ p < 65536 ∧ 0 ≤ a ∧ a ≤ b ∧ b ≤ 4095)) :
    Calls Try.prog 7 #[.agg #[.int .i64 p, .int .i64 a, .int .i64 b], .int .i64 m] w fun e w' => e = .returned (.bool true) ∧ Below w.heap.size w w' := by
  have H := Lib.hid h
  clear h
  go_enter Try.func7, Try.ntmps7
  go_wp2_with fail
  refine (awake _).mono ?_
  rintro e w1 ⟨rfl, hu⟩
  have hB := (Blk.made w [.int .i64 p, .int .i64 a, .int .i64 b] 23).upd hu (by simp)
  have hU := ((Upd.refl (fun _ => False) w).alloc (.cells [.int .i64 p, .int .i64 a, .int .i64 b].toArray 23)).trans hu
  have hc0 := hB.cell 0 rfl
  have hc1 := hB.cell 1 rfl
  have hc2 := hB.cell 2 rfl
  go_wp2_with fail
  refine (ref_good_no p a b _ H.out).mono ?_
  rintro e w2 ⟨rfl, rfl⟩
  go_wp2_with fail
  refine (awake _).mono ?_
  rintro e w2 ⟨rfl, hu2⟩
  go_wp2
  go_ret
  exact ⟨rfl, (hU.trans hu2).below (by simp)⟩

/-- At the head of a round: the parts that are still to be looked at, and where they begin. -/
def Here (g : Nat) (w : World) (p a0 b m : Int) (l : List T3) (v : Value) (x i : Value) (w' : World) : Prop :=
  ∃ (k : Nat) (a : Int) (rest : List T3), x = .int .i64 a ∧ i = .int .i64 k ∧ l.drop k = rest ∧ 0 ≤ a ∧ ((rest = [] ∧ a = b ∧ k = l.length) ∨ (Row p b m a rest ∧ (1 < l.length → a < b))) ∧
    Blk w' g [.int .i64 p, .int .i64 a0, .int .i64 b] 23 ∧ w'.ownsRow (g + 1) 23 3 v l.length (cellsOf l) ∧ Upd (fun _ => False) w w'

attribute [local go_sem] max2_int max_two

set_option maxHeartbeats 1600000 in
theorem law_yes (p a b m : Int) (w : World) (h0 : 0 ≤ p) (h1 : p < 65536) (h2 : 0 ≤ a) (h3 : a ≤ b) (h4 : b ≤ 4095) :
    Calls Try.prog 7 #[.agg #[.int .i64 p, .int .i64 a, .int .i64 b], .int .i64 m] w fun e w' => e = .returned (.bool true) ∧ Below w.heap.size w w' := by
  go_enter Try.func7, Try.ntmps7
  go_wp2_with fail
  refine (awake _).mono ?_
  rintro e w1 ⟨rfl, hu⟩
  have hB := (Blk.made w [.int .i64 p, .int .i64 a, .int .i64 b] 23).upd hu (by simp)
  have hU := ((Upd.refl (fun _ => False) w).alloc (.cells [.int .i64 p, .int .i64 a, .int .i64 b].toArray 23)).trans hu
  have hc0 := hB.cell 0 rfl
  have hc1 := hB.cell 1 rfl
  have hc2 := hB.cell 2 rfl
  go_wp2_with fail
  refine (ref_good_yes p a b _ h0 h1 h2 h3 h4).mono ?_
  rintro e w2 ⟨rfl, rfl⟩
  go_wp2_with fail
  refine (split_any p a b m _ h2 h3 h4).mono ?_
  rintro e w2 ⟨v, rfl, hO, hu2⟩
  have hB2 := hB.upd hu2 (by simp)
  have hU2 := hU.trans hu2
  clear hc0 hc1 hc2
  have hc1 := hB2.cell 1 rfl
  have hlw := hB.lt
  have hR := pieces_row (p := p) (m := max m 1) (b := b) 4095 a (by omega) h3 (by omega)
  have hO' := own_base hO (show w.heap.size + 1 ≤ w1.heap.size + 1 by omega)
  have hone : 1 < (pieces 4095 (max m 1) p a b).length → a < b := by
    intro hl
    by_cases hab : max m 1 < b - a
    · omega
    · rw [pieces_end (by omega)] at hl; simp at hl
  have hpos := hR.pos
  generalize hl : pieces 4095 (max m 1) p a b = l at *
  clear hl
  obtain ⟨m1, hm⟩ : ∃ m1, m1 = max m 1 := ⟨_, rfl⟩
  have hm1 : 1 ≤ m1 := by omega
  rw [← hm] at hR
  have Hm := Lib.hid hm
  clear hm
  obtain ⟨g, cap, rfl, _, _, hlc, hcm⟩ := own_some hO' hpos
  have hlen : l.length ≤ 9223372036854775807 := Nat.le_trans hlc hcm
  go_wp2
  rw [show max m 1 = m1 from Hm.out.symm]
  go_loopw [7, 32] (fun x i wr => Here w.heap.size w p a b m1 l (.slice (some ⟨g, 0, none⟩) l.length cap) x i wr) (fun _ i _ => l.length - (intOf i).toNat)
  case atStart => exact ⟨0, a, l, rfl, rfl, rfl, h2, .inr ⟨hR, hone⟩, hB2, hO', hU2⟩
  case round =>
    obtain ⟨k, x, rest, rfl, rfl, hd, hx0, hstate, hB, hO, hU⟩ := hrel
    clear hB2 hO' hU2 hc1 hR hone
    have hc0 := hB.cell 0 rfl
    have hc2 := hB.cell 2 rfl
    rcases hstate with ⟨rfl, rfl, hk⟩ | ⟨hR, hone⟩
    · have Hd := Lib.hid hd
      clear hd
      subst hk
      go_wp2
      go_ret
      exact ⟨rfl, hU.below (by simp)⟩
    · obtain ⟨t, ht⟩ : ∃ t, l[k]? = some t := by
        cases hg : l[k]? with
        | some t => exact ⟨t, rfl⟩
        | none =>
          have := hR.pos
          rw [← hd, List.length_drop] at this
          simp at hg
          omega
      have hk : k < l.length := by
        rcases Nat.lt_or_ge k l.length with h | h
        · exact h
        · simp [List.getElem?_eq_none h] at ht
      obtain ⟨e1, e2, e3⟩ := cellsOf_at l k t ht
      have hx1 := own_at hO _ e1
      have hx2 := own_at hO _ e2
      have hx3 := own_at hO _ e3
      have hdk : l.drop k = t :: l.drop (k + 1) := by
        rw [List.drop_eq_getElem_cons hk]
        congr 1
        have := List.getElem?_eq_getElem hk
        rw [this] at ht
        exact Option.some.inj ht
      rw [hdk] at hd
      have Hd := Lib.hid hd
      clear hd e1 e2 e3 hdk ht
      have hsz := hU.size
      have hlt := hB.lt
      cases hR with
      | last hle h1 =>
        obtain ⟨ht, hdr⟩ := List.cons.inj Hd.out
        subst ht
        have hkl : k + 1 = l.length := by
          have := congrArg List.length hdr
          simp at this
          omega
        have hBt := Blk.made wr [.int .i64 p, .int .i64 x, .int .i64 b] 23
        have d1 : decide (b < x) = false := decide_eq_false (by omega)
        go_wp2_with fail
        refine (len_any p x b _ (by omega) (by omega) (by omega) (by omega)).mono ?_
        rintro e w3 ⟨rfl, hu3⟩
        have hBt3 := hBt.upd hu3 (by simp)
        have hB3 := (hB.alloc _).upd hu3 (by simp)
        have hU3 := (hU.alloc _).trans hu3
        have hO3 := own_upd (hO.alloc _) hu3 (by simp)
        clear hc0 hc2 hx1 hx2 hx3
        have hc2 := hB3.cell 2 rfl
        have ht0 := hBt3.cell 0 rfl
        have ht1 := hBt3.cell 1 rfl
        have ht2 := hBt3.cell 2 rfl
        have d2 : decide (m1 < b - x) = false := decide_eq_false (by omega)
        have d3 : decide ((k : Int) < (l.length : Int) - 1) = false := decide_eq_false (by omega)
        by_cases hl1 : 1 < l.length
        · have d4 : decide ((1 : Int) < (l.length : Int)) = true := decide_eq_true (by omega)
          have d5 : decide (1 < l.length) = true := decide_eq_true hl1
          have d6 : (b - x == 0) = false := beq_eq_false_iff_ne.2 (by have := hone hl1; omega)
          go_wp2_with fail
          refine (len_any p x b _ (by omega) (by omega) (by omega) (by omega)).mono ?_
          rintro e w4 ⟨rfl, hu4⟩
          have hBt4 := hBt3.upd hu4 (by simp)
          have hB4 := hB3.upd hu4 (by simp)
          have hU4 := hU3.trans hu4
          have hO4 := own_upd hO3 hu4 (by simp)
          clear hc2 ht0 ht1 ht2
          have ht2 := hBt4.cell 2 rfl
          go_wp2
          go_roundw
          case rel => exact ⟨k + 1, b, [], rfl, by go_num, hdr, by omega, .inl ⟨rfl, rfl, hkl⟩, hB4, hO4, hU4⟩
          case measure => simp [intOf]; omega
        · have d4 : decide ((1 : Int) < (l.length : Int)) = false := decide_eq_false (by omega)
          have d5 : decide (1 < l.length) = false := decide_eq_false hl1
          go_wp2
          go_roundw
          case rel => exact ⟨k + 1, b, [], rfl, by go_num, hdr, by omega, .inl ⟨rfl, rfl, hkl⟩, hB3, hO3, hU3⟩
          case measure => simp [intOf]; omega
      | more hgt hr =>
        obtain ⟨ht, hdr⟩ := List.cons.inj Hd.out
        subst ht
        have hpr := hr.pos
        have hkl : k + 1 < l.length := by
          rw [← hdr] at hpr
          simp at hpr
          omega
        have hBt := Blk.made wr [.int .i64 p, .int .i64 x, .int .i64 (x + m1)] 23
        have d1 : decide (x + m1 < x) = false := decide_eq_false (by omega)
        go_wp2_with fail
        refine (len_any p x (x + m1) _ (by omega) (by omega) (by omega) (by omega)).mono ?_
        rintro e w3 ⟨rfl, hu3⟩
        rw [show x + m1 - x = m1 from by omega]
        have hBt3 := hBt.upd hu3 (by simp)
        have hB3 := (hB.alloc _).upd hu3 (by simp)
        have hU3 := (hU.alloc _).trans hu3
        have hO3 := own_upd (hO.alloc _) hu3 (by simp)
        clear hc0 hc2 hx1 hx2 hx3
        have ht0 := hBt3.cell 0 rfl
        have ht1 := hBt3.cell 1 rfl
        have ht2 := hBt3.cell 2 rfl
        have d2 : decide (m1 < m1) = false := decide_eq_false (by omega)
        have d3 : decide ((k : Int) < (l.length : Int) - 1) = true := decide_eq_true (by omega)
        go_wp2_with fail
        refine (len_any p x (x + m1) _ (by omega) (by omega) (by omega) (by omega)).mono ?_
        rintro e w4 ⟨rfl, hu4⟩
        rw [show x + m1 - x = m1 from by omega]
        have hBt4 := hBt3.upd hu4 (by simp)
        have hB4 := hB3.upd hu4 (by simp)
        have hU4 := hU3.trans hu4
        have hO4 := own_upd hO3 hu4 (by simp)
        clear ht0 ht1 ht2
        have ht0 := hBt4.cell 0 rfl
        have ht1 := hBt4.cell 1 rfl
        have ht2 := hBt4.cell 2 rfl
        have d4 : decide ((1 : Int) < (l.length : Int)) = true := decide_eq_true (by omega)
        have d5 : decide (1 < l.length) = true := decide_eq_true (by omega)
        have d6 : (m1 == 0) = false := beq_eq_false_iff_ne.2 (by omega)
        go_wp2_with fail
        refine (len_any p x (x + m1) _ (by omega) (by omega) (by omega) (by omega)).mono ?_
        rintro e w5 ⟨rfl, hu5⟩
        rw [show x + m1 - x = m1 from by omega]
        have hBt5 := hBt4.upd hu5 (by simp)
        have hB5 := hB4.upd hu5 (by simp)
        have hU5 := hU4.trans hu5
        have hO5 := own_upd hO4 hu5 (by simp)
        clear ht0 ht1 ht2
        have ht2 := hBt5.cell 2 rfl
        go_wp2
        go_roundw
        case rel => exact ⟨k + 1, x + m1, _, rfl, by go_num, hdr, by omega, .inr ⟨hr, fun _ => by omega⟩, hB5, hO5, hU5⟩
        case measure => simp [intOf]; omega

theorem splits_law (p a b m : Int) (w : World) :
    Calls Try.prog 7 #[.agg #[.int .i64 p, .int .i64 a, .int .i64 b], .int .i64 m] w fun e w' => e = .returned (.bool true) ∧ Below w.heap.size w w' := by
  by_cases h : 0 ≤ p ∧ p < 65536 ∧ 0 ≤ a ∧ a ≤ b ∧ b ≤ 4095
  · exact law_yes p a b m w h.1 h.2.1 h.2.2.1 h.2.2.2.1 h.2.2.2.2
  · exact law_no p a b m w h
end Go.Proofs.Ytjbcjpdkflppaaa.Task
