/- A task's parts: what task.Split answers, in memory of its own. -/
import Derived.Test.YtjbcjpdkflppaaaProg
import Derived.Test.YtjbcjpdkflppaaaMem
import Derived.Laws.AppendOwn
import Derived.Deep.LoopGhost
import Derived.KernelRfl
namespace Go.Proofs.Ytjbcjpdkflppaaa.Task
open Go.RowKit Go.Proofs.Ytjbcjpdkflppaaa.Mem

/-- A task: its address, from, to. -/
structure T3 where
  at_ : Int
  from_ : Int
  to_ : Int

def T3.cells (t : T3) : List Value := [.int .i64 t.at_, .int .i64 t.from_, .int .i64 t.to_]
def cellsOf (l : List T3) : List Value := l.flatMap T3.cells

/-- A task's parts, of m words each but the last one. -/
def pieces : Nat → Int → Int → Int → Int → List T3
  | 0, _, p, a, b => [⟨p, a, b⟩]
  | d + 1, m, p, a, b => if b - a > m then ⟨p, a, a + m⟩ :: pieces d m p (a + m) b else [⟨p, a, b⟩]

theorem pieces_go {d : Nat} {m p a b : Int} (h : b - a > m) : pieces (d + 1) m p a b = ⟨p, a, a + m⟩ :: pieces d m p (a + m) b := by
  simp only [pieces]; rw [if_pos h]
theorem pieces_end {d : Nat} {m p a b : Int} (h : ¬ b - a > m) : pieces d m p a b = [⟨p, a, b⟩] := by
  cases d with
  | zero => rfl
  | succ d => simp only [pieces]; rw [if_neg h]
theorem pieces_length {m p : Int} : ∀ (d : Nat) (a b : Int), (pieces d m p a b).length ≤ d + 1 := by
  intro d
  induction d with
  | zero => intro a b; simp [pieces]
  | succ d ih =>
    intro a b
    simp only [pieces]
    split
    · have := ih (a + m) b; simp; omega
    · simp
theorem cellsOf_length (l : List T3) : (cellsOf l).length = l.length * 3 := by
  induction l with
  | nil => rfl
  | cons x t ih =>
    have : cellsOf (x :: t) = x.cells ++ cellsOf t := rfl
    rw [this, List.length_append, ih, List.length_cons]
    show 3 + _ = _
    omega
theorem cellsOf_append (l k : List T3) : cellsOf (l ++ k) = cellsOf l ++ cellsOf k := by simp [cellsOf]
theorem cellsOf_one (t : T3) : cellsOf [t] = [.int .i64 t.at_, .int .i64 t.from_, .int .i64 t.to_] := rfl
theorem cellsOf_at (l : List T3) : ∀ (i : Nat) (t : T3), l[i]? = some t → (cellsOf l)[i * 3]? = some (.int .i64 t.at_) ∧ (cellsOf l)[i * 3 + 1]? = some (.int .i64 t.from_) ∧ (cellsOf l)[i * 3 + 2]? = some (.int .i64 t.to_) := by
  induction l with
  | nil => intro i t h; simp at h
  | cons x r ih =>
    intro i t h
    have e : cellsOf (x :: r) = .int .i64 x.at_ :: .int .i64 x.from_ :: .int .i64 x.to_ :: cellsOf r := rfl
    rw [e]
    cases i with
    | zero => simp at h; subst h; exact ⟨rfl, rfl, rfl⟩
    | succ i =>
      obtain ⟨h1, h2, h3⟩ := ih i t (by simpa using h)
      have e3 : (i + 1) * 3 = i * 3 + 3 := by omega
      rw [e3]
      exact ⟨h1, h2, h3⟩

theorem infoTask : (Try.prog.info? 23).map (fun i => (i.zero, i.size, i.bytes)) = some (some (.agg #[.int .i64 0, .int .i64 0, .int .i64 0]), 3, 24) := by kernel_rfl

theorem len_any (a b c : Int) (w : World) (h0 : 0 ≤ b) (h1 : b ≤ 4095) (h2 : 0 ≤ c) (h3 : c ≤ 4095) :
    Calls Try.prog 17 #[.agg #[.int .i64 a, .int .i64 b, .int .i64 c]] w fun e w' => e = .returned (.int .i64 (c - b)) ∧ Upd (fun _ => False) w w' := by
  go_enter Try.func17, Try.ntmps17
  go_wp2
  go_ret
  exact ⟨rfl, (Upd.refl _ _).alloc _⟩

/-- What a round of Split leaves: what is collected, and what is to come, are all parts. -/
def Going (g : Nat) (B : Nat) (w : World) (m p a0 b : Int) (k : Nat) (v : Value) (w' : World) : Prop :=
  ∃ (acc : List T3) (a : Int), 0 ≤ a ∧ a ≤ b ∧ b - a ≤ k ∧ acc.length + k ≤ 4095 ∧ acc ++ pieces k m p a b = pieces 4095 m p a0 b ∧ Blk w' g [.int .i64 p, .int .i64 a, .int .i64 b] 23 ∧
    w'.ownsRow B 23 3 v acc.length (cellsOf acc) ∧ Upd (fun _ => False) w w'

attribute [local go_sem] max2_int max_two

set_option maxHeartbeats 800000 in
theorem split_any (p a0 b m : Int) (w : World) (h0 : 0 ≤ a0) (h1 : a0 ≤ b) (h2 : b ≤ 4095) :
    Calls Try.prog 24 #[.agg #[.int .i64 p, .int .i64 a0, .int .i64 b], .int .i64 m] w fun e w' => ∃ v, e = .returned v ∧
      w'.ownsRow (w.heap.size + 1) 23 3 v (pieces 4095 (max m 1) p a0 b).length (cellsOf (pieces 4095 (max m 1) p a0 b)) ∧ Upd (fun _ => False) w w' := by
  obtain ⟨i0, hi, hz0, hz1, hz2⟩ := info_parts infoTask
  obtain ⟨m1, hm⟩ : ∃ m1, m1 = max m 1 := ⟨_, rfl⟩
  have hm1 : 1 ≤ m1 := by omega
  have Hm := Lib.hid hm
  go_enter Try.func24, Try.ntmps24
  go_wp2
  rw [← hm]
  clear hm
  go_loopg [5] 4095 (fun k v wr => Going w.heap.size (w.heap.size + 1) w m1 p a0 b k v wr)
  case atStart =>
    exact ⟨[], a0, h0, h1, by omega, by simp, rfl, Blk.made _ _ _, World.ownsRow_nil _ _ _ _, (Upd.refl _ _).alloc _⟩
  case round =>
    obtain ⟨acc, a, g0, g1, g2, g3, g4, hB, hO, hU⟩ := hrel
    have G4 := Lib.hid g4
    have hc0 := hB.cell 0 rfl
    have hc1 := hB.cell 1 rfl
    have hc2 := hB.cell 2 rfl
    have hf0 := hB.frozen 1
    clear g4
    go_wp2_with fail
    refine (len_any p a b wr (by omega) (by omega) (by omega) (by omega)).mono ?_
    rintro e w1 ⟨rfl, hu1⟩
    have hB1 := hB.upd hu1 (by simp)
    have hO1 := own_upd hO hu1 (by simp)
    have hU1 := hU.trans hu1
    have hc0 := hB1.cell 0 rfl
    have hc1 := hB1.cell 1 rfl
    have hc2 := hB1.cell 2 rfl
    have hf0 := hB1.frozen 1
    have hsz := hU1.size
    by_cases hgo : m1 < b - a
    · obtain ⟨k, rfl⟩ : ∃ k, gk = k + 1 := ⟨gk - 1, by omega⟩
      go_wp2_with (first | (at_builtin; refine wpList_append_own _ rfl _ _ 45 rfl (w.heap.size + 1) 23 i0 _ 3 24 Try.underlying45 hi hz0 hz1 hz2 rfl (by decide) _ acc.length (cellsOf acc) rfl (hO1.alloc _) ⟨w1.heap.size, 0, none⟩ 1 1 (cellsOf [⟨p, a, a + m1⟩]) rfl rfl ?c1 ?c2 ?c3 ?c4 ?c5 ?_))
      case c1 => exact cells_new _ _ _
      case c2 => simp [cellsOf_one, Value.oneCell']
      case c3 => simp only [maxLen]; omega
      case c4 => omega
      case c5 => simp only [World.size_alloc]; omega
      intro v' w2 hO2 hg2 _
      have hne : v'.ownBlock ≠ some w.heap.size := fun e => by have := (hO2.lt _ e).1; omega
      have hne0 : u5.ownBlock ≠ some w.heap.size := fun e => by have := (hO1.lt _ e).1; omega
      have hB2 : Blk w2 w.heap.size [.int .i64 p, .int .i64 a, .int .i64 b] 23 := (hB1.alloc _).of_eq (hg2.block _ (by have := hB1.lt; simp; omega) (Ne.symm hne0))
      have hU2 : Upd (fun _ => False) w w2 := (hU1.alloc _).grown hg2 (fun k hk hlt => by have := (hO1.lt k hk).1; omega)
      clear hc0 hc1 hc2 hf0
      have hc0 := hB2.cell 0 rfl
      have hc1 := hB2.cell 1 rfl
      have hc2 := hB2.cell 2 rfl
      have hf0 := hB2.frozen 1
      go_wp2
      go_roundg k
      case measure => omega
      case rel =>
        refine ⟨acc ++ [⟨p, a, a + m1⟩], a + m1, by omega, by omega, by omega, by simp; omega, ?_, hB2.set 1 _, ?_, hU2.setCell _ (by simp)⟩
        · rw [List.append_assoc, ← G4.out, pieces_go hgo]; rfl
        · rw [cellsOf_append, List.length_append]
          exact own_upd (S := fun k => k = w.heap.size) hO2 ((Upd.refl _ _).setCell _ (fun _ => rfl)) (fun k hk e => hne (by rw [hk, e]))
    · go_wp2_with (first | (at_builtin; refine wpList_append_own _ rfl _ _ 45 rfl (w.heap.size + 1) 23 i0 _ 3 24 Try.underlying45 hi hz0 hz1 hz2 rfl (by decide) _ acc.length (cellsOf acc) rfl (hO1.alloc _) ⟨w1.heap.size, 0, none⟩ 1 1 (cellsOf [⟨p, a, b⟩]) rfl rfl ?c1 ?c2 ?c3 ?c4 ?c5 ?_))
      case c1 => exact cells_new _ _ _
      case c2 => simp [cellsOf_one, Value.oneCell']
      case c3 => simp only [maxLen]; omega
      case c4 => omega
      case c5 => simp only [World.size_alloc]; omega
      intro v' w2 hO2 hg2 _
      have hU2 : Upd (fun _ => False) w w2 := (hU1.alloc _).grown hg2 (fun k hk hlt => by have := (hO1.lt k hk).1; omega)
      have hfin : acc ++ [⟨p, a, b⟩] = pieces 4095 (max m 1) p a0 b := by rw [← Hm.out, ← G4.out, pieces_end (by omega)]
      have Hfin := Lib.hid hfin
      clear hfin
      go_wp2
      go_ret
      refine ⟨v', rfl, ?_, hU2⟩
      rw [← Hfin.out, cellsOf_append, List.length_append]
      exact hO2
end Go.Proofs.Ytjbcjpdkflppaaa.Task
