/- Tallies: an object more is counted; a form's tally. -/
import Derived.Test.YtjlcjcgoaakniaaTallyP
import Derived.Test.YtjlcjcgoaakniaaTallyEq
import Derived.Great.BuildSlice
import Derived.WalkMore
set_option linter.unusedSimpArgs false
namespace Go.Proofs.Ytjlcjcgoaakniaa.Tally
open Go.RowKit Go.Proofs.Ytjlcjcgoaakniaa.Mem Go.Proofs.Ytjlcjcgoaakniaa.Obj

theorem tal_snoc (l : List (Nat × Nat)) (size : Int) (k n : Nat) (hk : k < 16) (hb : tot (l ++ [(k, n)]) ≤ 1000000000) (i : Nat) (_ : i < 33) :
    tal (l ++ [(k, n)]) size i = if i = k * 2 + 1 then wadd (tal l size (k * 2 + 1)) (n : Int) else if i = k * 2 then wadd (tal l size (k * 2)) 1 else tal l size i := by
  have h1 := TF_le l (k * 2)
  have h2 := TF_le l (k * 2 + 1)
  rw [tot_append, tot_cons] at hb
  unfold tal
  rw [if_pos (by omega : k * 2 + 1 < 32), if_pos (by omega : k * 2 < 32), TF_snoc]
  by_cases e1 : i = k * 2 + 1
  · subst e1
    have ht : tf (k, n) (k * 2 + 1) = n := by unfold tf; rw [if_neg (show ¬ k * 2 + 1 = 2 * k by omega), if_pos (show k * 2 + 1 = 2 * k + 1 by omega)]
    rw [if_pos rfl, if_pos (by omega), wadd_in (by omega), ht]
    push_cast
    rfl
  · rw [if_neg e1]
    by_cases e2 : i = k * 2
    · subst e2
      have ht : tf (k, n) (k * 2) = 1 := by unfold tf; rw [if_pos (show k * 2 = 2 * k by omega)]
      rw [if_pos rfl, if_pos (by omega), wadd_in (by omega), ht]
      push_cast
      rfl
    · have ht : tf (k, n) i = 0 := by unfold tf; rw [if_neg (show ¬ i = 2 * k by omega), if_neg (show ¬ i = 2 * k + 1 by omega)]
      rw [if_neg e2, ht, Nat.add_zero]

set_option maxRecDepth 20000 in
set_option maxHeartbeats 1000000 in
theorem count_any (w : World) (tb : Nat) (l : List (Nat × Nat)) (size : Int) (k n : Nat) (hB : Blk w tb (cf 33 (tal l size)) 56) (hk : k < 16) (hb : tot (l ++ [(k, n)]) ≤ 1000000000) :
    Calls Try.prog 65 #[.pointer (some ⟨tb, 0, none⟩), .int .i64 (k : Int), .int .i64 (n : Int)] w fun e w' => e = .returned (.tuple #[]) ∧ Blk w' tb (cf 33 (tal (l ++ [(k, n)]) size)) 56 ∧ Upd (fun j => j = tb) w w' := by
  have hsn := tal_snoc l size k n hk hb
  obtain ⟨A, hA⟩ : ∃ A, A = tal l size := ⟨_, rfl⟩
  rw [← hA] at hB hsn
  have b0 := hB.cell (k * 2) (cf_get (by omega))
  have b1 := hB.cell (k * 2 + 1) (cf_get (by omega))
  have f0 := hB.frozen (k * 2)
  have f1 := hB.frozen (k * 2 + 1)
  have bl := hB.lt
  have i1 : (0 : Int) ≤ (k : Int) := by omega
  have i2 : (k : Int) < 16 := by omega
  have hfin : ∀ W : World, Upd (fun _ => False) w W → Blk ((W.setCell ⟨tb, k * 2, none⟩ (.int .i64 (wadd (A (k * 2)) 1))).setCell ⟨tb, k * 2 + 1, none⟩ (.int .i64 (wadd (A (k * 2 + 1)) (n : Int)))) tb (cf 33 (tal (l ++ [(k, n)]) size)) 56 ∧
      Upd (fun j => j = tb) w ((W.setCell ⟨tb, k * 2, none⟩ (.int .i64 (wadd (A (k * 2)) 1))).setCell ⟨tb, k * 2 + 1, none⟩ (.int .i64 (wadd (A (k * 2 + 1)) (n : Int)))) := by
    intro W hu
    refine ⟨?_, ((hu.mono (T := fun j => j = tb) (fun _ _ h => h.elim)).setCell (p := ⟨tb, k * 2, none⟩) _ (fun _ => rfl)).setCell (p := ⟨tb, k * 2 + 1, none⟩) _ (fun _ => rfl)⟩
    have h := ((hB.upd hu (fun h => h)).set (k * 2) (.int .i64 (wadd (A (k * 2)) 1))).set (k * 2 + 1) (.int .i64 (wadd (A (k * 2 + 1)) (n : Int)))
    rw [cf_set (g := fun i => if i = k * 2 then wadd (A (k * 2)) 1 else A i) (fun i _ => rfl), cf_set (g := tal (l ++ [(k, n)]) size) hsn] at h
    exact h
  have HFin := Lib.hid hfin
  have hcum : Upd (fun _ => False) w w.drew := (Upd.refl _ w).drew
  have HCum := Lib.hid hcum
  clear hfin hB hb hsn hA hk hcum
  go_enter Try.func65, Try.ntmps65
  go_wp2
  go_region_law (first | (go_simp; go_at_call 54; refine (plus_any _ _ _ _ _).mono ?_; rintro e w2 ⟨rfl, hu⟩; have q0 := keep0 hu b0; have q1 := keep0 hu b1; have q2 := keepF hu b0 f0; have q3 := keepF hu b1 f1))
  all_goals
    go_end0
    exact ⟨rfl, HFin.out _ (HCum.out.trans hu)⟩

theorem blk_setCells {b : Nat} {t : TypeId} : ∀ (vs : List Value) (o : Nat) (w : World) (cs : List Value), Blk w b cs t → o + vs.length ≤ cs.length → Blk (w.setCells b o vs) b (cs.take o ++ vs ++ cs.drop (o + vs.length)) t
  | [], o, w, cs, h, _ => by
    rw [World.setCells, List.append_nil, List.length_nil, Nat.add_zero, List.take_append_drop]
    exact h
  | v :: r, o, w, cs, h, hl => by
    rw [List.length_cons] at hl
    have h1 := blk_setCells r (o + 1) _ _ (h.set o v) (by rw [List.length_set]; omega)
    rw [World.setCells]
    have e : (cs.set o v).take (o + 1) ++ r ++ (cs.set o v).drop (o + 1 + r.length) = cs.take o ++ v :: r ++ cs.drop (o + (v :: r).length) := by
      have hset : cs.set o v = cs.take o ++ v :: cs.drop (o + 1) := by rw [List.set_eq_take_append_cons_drop, if_pos (by omega)]
      obtain ⟨ps, hps⟩ : ∃ ps, ps = cs.take o := ⟨_, rfl⟩
      have l1 : ps.length = o := by rw [hps, List.length_take]; omega
      rw [hset, ← hps]
      have t1 := List.take_length_add_append (l₁ := ps) (l₂ := v :: cs.drop (o + 1)) 1
      have t2 := List.drop_length_add_append (l₁ := ps) (l₂ := v :: cs.drop (o + 1)) (1 + r.length)
      rw [l1] at t1 t2
      rw [t1, show o + 1 + r.length = o + (1 + r.length) by omega, t2, show 1 + r.length = r.length + 1 by omega, List.drop_succ_cons, List.drop_drop, List.length_cons]
      rw [show o + 1 + r.length = o + (r.length + 1) by omega]
      simp
    rw [e] at h1
    exact h1
theorem blk_stored {b : Nat} {t : TypeId} {w : World} {cs vs : List Value} (h : Blk w b cs t) (hl : vs.length = cs.length) : Blk (w.setCells b 0 vs) b vs t := by
  have h1 := blk_setCells vs 0 w cs h (by omega)
  rwa [List.take_zero, List.nil_append, List.drop_eq_nil_of_le (by omega), List.append_nil] at h1
theorem cf_start (size : Int) : cf 33 (tal [] size) = [.int .i64 0, .int .i64 0, .int .i64 0, .int .i64 0, .int .i64 0, .int .i64 0, .int .i64 0, .int .i64 0, .int .i64 0, .int .i64 0, .int .i64 0, .int .i64 0, .int .i64 0, .int .i64 0, .int .i64 0, .int .i64 0, .int .i64 0, .int .i64 0, .int .i64 0, .int .i64 0, .int .i64 0, .int .i64 0, .int .i64 0, .int .i64 0, .int .i64 0, .int .i64 0, .int .i64 0, .int .i64 0, .int .i64 0, .int .i64 0, .int .i64 0, .int .i64 0, .int .i64 size] := rfl

theorem gen_last {α : Type} {f : α → Prop} {x : α} (h : ∀ y, y = x → f y) : f x := h x rfl
theorem cf_zero : cf 33 (fun _ => 0) = [.int .i64 0, .int .i64 0, .int .i64 0, .int .i64 0, .int .i64 0, .int .i64 0, .int .i64 0, .int .i64 0, .int .i64 0, .int .i64 0, .int .i64 0, .int .i64 0, .int .i64 0, .int .i64 0, .int .i64 0, .int .i64 0, .int .i64 0, .int .i64 0, .int .i64 0, .int .i64 0, .int .i64 0, .int .i64 0, .int .i64 0, .int .i64 0, .int .i64 0, .int .i64 0, .int .i64 0, .int .i64 0, .int .i64 0, .int .i64 0, .int .i64 0, .int .i64 0, .int .i64 0] := rfl
/-- While a form's nodes are counted. -/
def Counting (w : World) (nds : List Nd) (size : Int) (i : Value) (wr : World) : Prop :=
  ∃ k : Nat, k ≤ nds.length ∧ i = .int .i64 (k : Int) ∧ Blk wr (w.heap.size + 1) (cf 33 fun _ => 0) 56 ∧ Blk wr (w.heap.size + 2) (cf 33 (tal ((nds.take k).map kwn) size)) 56 ∧ Upd (fun _ => False) w wr

theorem tot_take (l : List (Nat × Nat)) (k : Nat) : tot (l.take k) ≤ tot l := by
  conv => rhs; rw [← List.take_append_drop k l]
  rw [tot_append]; omega

attribute [-simp] Try.sizeOf56 in
set_option maxRecDepth 20000 in
set_option maxHeartbeats 2000000 in
theorem live_any (w : World) (va : Option Addr) (vl vc : Nat) (vn : Value) (nds : List Nd) (hn : Ref.NodesAt w vn nds) (hk : ∀ n ∈ nds, 0 ≤ n.kind ∧ n.kind ≤ 14) (hb : tot (nds.map kwn) ≤ 1000000) (hl : nds.length ≤ 1000000) (size : Int) :
    Calls Try.prog 40 #[.agg #[.slice va vl vc, vn], .int .i64 size] w fun e w' => e = .returned (ag 33 (tal (nds.map kwn) size)) ∧ Upd (fun _ => False) w w' := by
  obtain ⟨na, nc, rfl⟩ := hn.form
  obtain ⟨W0, hW0⟩ : ∃ W0, W0 = (((w.alloc (.cells #[.slice va vl vc, .slice na nds.length nc] 78)).alloc (.cells #[.int .i64 0, .int .i64 0, .int .i64 0, .int .i64 0, .int .i64 0, .int .i64 0, .int .i64 0, .int .i64 0, .int .i64 0, .int .i64 0, .int .i64 0, .int .i64 0, .int .i64 0, .int .i64 0, .int .i64 0, .int .i64 0, .int .i64 0, .int .i64 0, .int .i64 0, .int .i64 0, .int .i64 0, .int .i64 0, .int .i64 0, .int .i64 0, .int .i64 0, .int .i64 0, .int .i64 0, .int .i64 0, .int .i64 0, .int .i64 0, .int .i64 0, .int .i64 0, .int .i64 0] 56)).alloc (.cells #[.int .i64 0, .int .i64 0, .int .i64 0, .int .i64 0, .int .i64 0, .int .i64 0, .int .i64 0, .int .i64 0, .int .i64 0, .int .i64 0, .int .i64 0, .int .i64 0, .int .i64 0, .int .i64 0, .int .i64 0, .int .i64 0, .int .i64 0, .int .i64 0, .int .i64 0, .int .i64 0, .int .i64 0, .int .i64 0, .int .i64 0, .int .i64 0, .int .i64 0, .int .i64 0, .int .i64 0, .int .i64 0, .int .i64 0, .int .i64 0, .int .i64 0, .int .i64 0, .int .i64 0] 56)) := ⟨_, rfl⟩
  have HW0 := Lib.hid hW0
  have hu0 : Upd (fun _ => False) w (((w.alloc (.cells #[.slice va vl vc, .slice na nds.length nc] 78)).alloc (.cells #[.int .i64 0, .int .i64 0, .int .i64 0, .int .i64 0, .int .i64 0, .int .i64 0, .int .i64 0, .int .i64 0, .int .i64 0, .int .i64 0, .int .i64 0, .int .i64 0, .int .i64 0, .int .i64 0, .int .i64 0, .int .i64 0, .int .i64 0, .int .i64 0, .int .i64 0, .int .i64 0, .int .i64 0, .int .i64 0, .int .i64 0, .int .i64 0, .int .i64 0, .int .i64 0, .int .i64 0, .int .i64 0, .int .i64 0, .int .i64 0, .int .i64 0, .int .i64 0, .int .i64 0] 56)).alloc (.cells #[.int .i64 0, .int .i64 0, .int .i64 0, .int .i64 0, .int .i64 0, .int .i64 0, .int .i64 0, .int .i64 0, .int .i64 0, .int .i64 0, .int .i64 0, .int .i64 0, .int .i64 0, .int .i64 0, .int .i64 0, .int .i64 0, .int .i64 0, .int .i64 0, .int .i64 0, .int .i64 0, .int .i64 0, .int .i64 0, .int .i64 0, .int .i64 0, .int .i64 0, .int .i64 0, .int .i64 0, .int .i64 0, .int .i64 0, .int .i64 0, .int .i64 0, .int .i64 0, .int .i64 0] 56)) := (((Upd.refl (fun _ => False) w).alloc _).alloc _).alloc _
  have hz : Blk (((w.alloc (.cells #[.slice va vl vc, .slice na nds.length nc] 78)).alloc (.cells #[.int .i64 0, .int .i64 0, .int .i64 0, .int .i64 0, .int .i64 0, .int .i64 0, .int .i64 0, .int .i64 0, .int .i64 0, .int .i64 0, .int .i64 0, .int .i64 0, .int .i64 0, .int .i64 0, .int .i64 0, .int .i64 0, .int .i64 0, .int .i64 0, .int .i64 0, .int .i64 0, .int .i64 0, .int .i64 0, .int .i64 0, .int .i64 0, .int .i64 0, .int .i64 0, .int .i64 0, .int .i64 0, .int .i64 0, .int .i64 0, .int .i64 0, .int .i64 0, .int .i64 0] 56)).alloc (.cells #[.int .i64 0, .int .i64 0, .int .i64 0, .int .i64 0, .int .i64 0, .int .i64 0, .int .i64 0, .int .i64 0, .int .i64 0, .int .i64 0, .int .i64 0, .int .i64 0, .int .i64 0, .int .i64 0, .int .i64 0, .int .i64 0, .int .i64 0, .int .i64 0, .int .i64 0, .int .i64 0, .int .i64 0, .int .i64 0, .int .i64 0, .int .i64 0, .int .i64 0, .int .i64 0, .int .i64 0, .int .i64 0, .int .i64 0, .int .i64 0, .int .i64 0, .int .i64 0, .int .i64 0] 56)) (w.heap.size + 1) (cf 33 fun _ => 0) 56 := by
    rw [cf_zero]
    exact (Blk.made' w _ [.int .i64 0, .int .i64 0, .int .i64 0, .int .i64 0, .int .i64 0, .int .i64 0, .int .i64 0, .int .i64 0, .int .i64 0, .int .i64 0, .int .i64 0, .int .i64 0, .int .i64 0, .int .i64 0, .int .i64 0, .int .i64 0, .int .i64 0, .int .i64 0, .int .i64 0, .int .i64 0, .int .i64 0, .int .i64 0, .int .i64 0, .int .i64 0, .int .i64 0, .int .i64 0, .int .i64 0, .int .i64 0, .int .i64 0, .int .i64 0, .int .i64 0, .int .i64 0, .int .i64 0] 56).alloc _
  have ht : Blk (((w.alloc (.cells #[.slice va vl vc, .slice na nds.length nc] 78)).alloc (.cells #[.int .i64 0, .int .i64 0, .int .i64 0, .int .i64 0, .int .i64 0, .int .i64 0, .int .i64 0, .int .i64 0, .int .i64 0, .int .i64 0, .int .i64 0, .int .i64 0, .int .i64 0, .int .i64 0, .int .i64 0, .int .i64 0, .int .i64 0, .int .i64 0, .int .i64 0, .int .i64 0, .int .i64 0, .int .i64 0, .int .i64 0, .int .i64 0, .int .i64 0, .int .i64 0, .int .i64 0, .int .i64 0, .int .i64 0, .int .i64 0, .int .i64 0, .int .i64 0, .int .i64 0] 56)).alloc (.cells #[.int .i64 0, .int .i64 0, .int .i64 0, .int .i64 0, .int .i64 0, .int .i64 0, .int .i64 0, .int .i64 0, .int .i64 0, .int .i64 0, .int .i64 0, .int .i64 0, .int .i64 0, .int .i64 0, .int .i64 0, .int .i64 0, .int .i64 0, .int .i64 0, .int .i64 0, .int .i64 0, .int .i64 0, .int .i64 0, .int .i64 0, .int .i64 0, .int .i64 0, .int .i64 0, .int .i64 0, .int .i64 0, .int .i64 0, .int .i64 0, .int .i64 0, .int .i64 0, .int .i64 0] 56)) (w.heap.size + 2) (cf 33 fun _ => 0) 56 := by
    rw [cf_zero]
    have h := Blk.made' (w.alloc (.cells #[.slice va vl vc, .slice na nds.length nc] 78)) (.cells #[.int .i64 0, .int .i64 0, .int .i64 0, .int .i64 0, .int .i64 0, .int .i64 0, .int .i64 0, .int .i64 0, .int .i64 0, .int .i64 0, .int .i64 0, .int .i64 0, .int .i64 0, .int .i64 0, .int .i64 0, .int .i64 0, .int .i64 0, .int .i64 0, .int .i64 0, .int .i64 0, .int .i64 0, .int .i64 0, .int .i64 0, .int .i64 0, .int .i64 0, .int .i64 0, .int .i64 0, .int .i64 0, .int .i64 0, .int .i64 0, .int .i64 0, .int .i64 0, .int .i64 0] 56) [.int .i64 0, .int .i64 0, .int .i64 0, .int .i64 0, .int .i64 0, .int .i64 0, .int .i64 0, .int .i64 0, .int .i64 0, .int .i64 0, .int .i64 0, .int .i64 0, .int .i64 0, .int .i64 0, .int .i64 0, .int .i64 0, .int .i64 0, .int .i64 0, .int .i64 0, .int .i64 0, .int .i64 0, .int .i64 0, .int .i64 0, .int .i64 0, .int .i64 0, .int .i64 0, .int .i64 0, .int .i64 0, .int .i64 0, .int .i64 0, .int .i64 0, .int .i64 0, .int .i64 0] 56
    rw [World.size_alloc] at h
    exact h
  have hfb : Blk (((w.alloc (.cells #[.slice va vl vc, .slice na nds.length nc] 78)).alloc (.cells #[.int .i64 0, .int .i64 0, .int .i64 0, .int .i64 0, .int .i64 0, .int .i64 0, .int .i64 0, .int .i64 0, .int .i64 0, .int .i64 0, .int .i64 0, .int .i64 0, .int .i64 0, .int .i64 0, .int .i64 0, .int .i64 0, .int .i64 0, .int .i64 0, .int .i64 0, .int .i64 0, .int .i64 0, .int .i64 0, .int .i64 0, .int .i64 0, .int .i64 0, .int .i64 0, .int .i64 0, .int .i64 0, .int .i64 0, .int .i64 0, .int .i64 0, .int .i64 0, .int .i64 0] 56)).alloc (.cells #[.int .i64 0, .int .i64 0, .int .i64 0, .int .i64 0, .int .i64 0, .int .i64 0, .int .i64 0, .int .i64 0, .int .i64 0, .int .i64 0, .int .i64 0, .int .i64 0, .int .i64 0, .int .i64 0, .int .i64 0, .int .i64 0, .int .i64 0, .int .i64 0, .int .i64 0, .int .i64 0, .int .i64 0, .int .i64 0, .int .i64 0, .int .i64 0, .int .i64 0, .int .i64 0, .int .i64 0, .int .i64 0, .int .i64 0, .int .i64 0, .int .i64 0, .int .i64 0, .int .i64 0] 56)) w.heap.size [.slice va vl vc, .slice na nds.length nc] 78 := ((Blk.made w _ _).alloc _).alloc _
  have hbd : ∀ W : World, (Instr.build 56 #[(1, .int .i64 size)]).run Try.prog W = .ok (ag 33 (tal [] size)) W := fun W => by
    rw [ag, cf_start]
    exact run_build W _ _ _ (by kernel_rfl)
  have HOne := Lib.hid (show (#[.int .i64 0, .int .i64 0, .int .i64 0, .int .i64 0, .int .i64 0, .int .i64 0, .int .i64 0, .int .i64 0, .int .i64 0, .int .i64 0, .int .i64 0, .int .i64 0, .int .i64 0, .int .i64 0, .int .i64 0, .int .i64 0, .int .i64 0, .int .i64 0, .int .i64 0, .int .i64 0, .int .i64 0, .int .i64 0, .int .i64 0, .int .i64 0, .int .i64 0, .int .i64 0, .int .i64 0, .int .i64 0, .int .i64 0, .int .i64 0, .int .i64 0, .int .i64 0, .int .i64 size] : Array Value).all (·.oneCell') = true by have h := cf_one 33 (tal [] size); rw [cf_start] at h; exact h)
  have HThere := Lib.hid (show World.there (((w.alloc (.cells #[.slice va vl vc, .slice na nds.length nc] 78)).alloc (.cells #[.int .i64 0, .int .i64 0, .int .i64 0, .int .i64 0, .int .i64 0, .int .i64 0, .int .i64 0, .int .i64 0, .int .i64 0, .int .i64 0, .int .i64 0, .int .i64 0, .int .i64 0, .int .i64 0, .int .i64 0, .int .i64 0, .int .i64 0, .int .i64 0, .int .i64 0, .int .i64 0, .int .i64 0, .int .i64 0, .int .i64 0, .int .i64 0, .int .i64 0, .int .i64 0, .int .i64 0, .int .i64 0, .int .i64 0, .int .i64 0, .int .i64 0, .int .i64 0, .int .i64 0] 56)).alloc (.cells #[.int .i64 0, .int .i64 0, .int .i64 0, .int .i64 0, .int .i64 0, .int .i64 0, .int .i64 0, .int .i64 0, .int .i64 0, .int .i64 0, .int .i64 0, .int .i64 0, .int .i64 0, .int .i64 0, .int .i64 0, .int .i64 0, .int .i64 0, .int .i64 0, .int .i64 0, .int .i64 0, .int .i64 0, .int .i64 0, .int .i64 0, .int .i64 0, .int .i64 0, .int .i64 0, .int .i64 0, .int .i64 0, .int .i64 0, .int .i64 0, .int .i64 0, .int .i64 0, .int .i64 0] 56)) (w.heap.size + 1 + 1) 0 33 from fun j hj => ⟨by rw [ht.cell (0 + j) (cf_get (by omega))]; rfl, ht.frozen (0 + j)⟩)
  rw [← hW0] at hu0 hz ht hfb
  clear hW0
  have HFb := Lib.hid hfb
  have HU0 := Lib.hid hu0
  have HZ := Lib.hid hz
  have HT := Lib.hid ht
  have HN := Lib.hid hn
  have HK := Lib.hid hk
  clear hu0 hz ht hn hk hfb
  go_enter Try.func40, Try.ntmps40
  go_wp2
  go_step3
  go_wp2_with (refine wpList_store_mid rfl 56 _ _ rfl (w.heap.size + 1 + 1) 0 #[.int .i64 0, .int .i64 0, .int .i64 0, .int .i64 0, .int .i64 0, .int .i64 0, .int .i64 0, .int .i64 0, .int .i64 0, .int .i64 0, .int .i64 0, .int .i64 0, .int .i64 0, .int .i64 0, .int .i64 0, .int .i64 0, .int .i64 0, .int .i64 0, .int .i64 0, .int .i64 0, .int .i64 0, .int .i64 0, .int .i64 0, .int .i64 0, .int .i64 0, .int .i64 0, .int .i64 0, .int .i64 0, .int .i64 0, .int .i64 0, .int .i64 0, .int .i64 0, .int .i64 size] rfl rfl HThere.out (by kernel_rfl) HOne.out ?_)
  refine gen_last (fun w2 hw2 => ?_)
  have hus : Upd (fun k => k = w.heap.size + 1 + 1) W0 w2 := by
    rw [hw2, HW0.out]
    exact upd_setCells (S := fun k => k = w.heap.size + 1 + 1) (w.heap.size + 1 + 1) (fun _ => rfl) _ _ _ (Upd.refl _ _)
  have ht2 : Blk w2 (w.heap.size + 2) (cf 33 (tal [] size)) 56 := by
    have h := HT.out
    rw [HW0.out] at h
    rw [hw2, cf_start]
    exact blk_stored h (by rw [cf_len]; rfl)
  have hz2 := HZ.out.upd hus (by omega)
  have hf2 := HFb.out.upd hus (by omega)
  have hu2 := HU0.out.next hus (fun i hi h => by omega)
  have HZ2 := Lib.hid hz2
  have HT3 := Lib.hid ht2
  have HF2 := Lib.hid hf2
  have HU2 := Lib.hid hu2
  clear hus hz2 ht2 hf2 hu2 HZ HT HU0 HFb HThere HOne hbd hw2 HW0
  have b0 := HF2.out.cell 0 rfl
  have b1 := HF2.out.cell 1 rfl
  go_wp2
  go_step3
  go_wp2
  clear b0 b1
  go_loopw [13] (fun i wr => Counting w nds size i wr) (fun i _ => nds.length - (intOf i).toNat)
  case atStart => exact ⟨0, Nat.zero_le _, rfl, HZ2.out, HT3.out, HU2.out⟩
  case round =>
    obtain ⟨k, hk, rfl, hz, ht, hU⟩ := hrel
    have Hz := Lib.hid hz
    have Ht := Lib.hid ht
    have HU := Lib.hid hU
    have htl := ht.lt
    have hzl := hz.lt
    clear hz ht hU
    by_cases hlk : k < nds.length
    · obtain ⟨⟨kind, es, ws⟩, hnd⟩ : ∃ nd, nds[k]? = some nd := ⟨_, List.getElem?_eq_getElem hlk⟩
      obtain ⟨a', c', e', hx⟩ := HN.out.quiet HU.out
      cases e'
      obtain ⟨b, o, ve, vw, rfl, hbl, c0, c1, c2, he, hw⟩ := hx k _ hnd
      have hgd := HK.out _ (List.mem_of_getElem? hnd)
      dsimp only at c0 he hw hgd
      obtain ⟨ea, ec, rfl⟩ := he.form
      obtain ⟨wa, wc, rfl⟩ := hw.form
      obtain ⟨kn, rfl⟩ : ∃ kn : Nat, kind = (kn : Int) := ⟨kind.toNat, by omega⟩
      have d1 : decide ((k : Int) < (nds.length : Int)) = true := decide_eq_true (by omega)
      have d1' : decide (k < nds.length) = true := decide_eq_true hlk
      have i1 : (0 : Int) ≤ (k : Int) := by omega
      have i2 : (k : Int) < (nds.length : Int) := by omega
      have d2 : decide ((kn : Int) < 0) = false := decide_eq_false (by omega)
      have d3 : decide (14 < (kn : Int)) = false := decide_eq_false (by omega)
      have d3' : decide (14 < kn) = false := decide_eq_false (by omega)
      have hsn : ((nds.take (k + 1)).map kwn) = (nds.take k).map kwn ++ [(kn, 1 + es.length + ws.length)] := by
        rw [List.take_add_one, hnd, Option.toList_some, List.map_append]
        rfl
      have htk := tot_take (nds.map kwn) (k + 1)
      rw [← List.map_take, hsn] at htk
      have hlen : 1 + (1 + es.length + ws.length) ≤ 1000000 := by rw [tot_append, tot_cons] at htk; omega
      obtain ⟨m, hm⟩ : ∃ m, m = 1 + es.length + ws.length := ⟨_, rfl⟩
      rw [← hm] at hsn htk
      have s1 : IntKind.i64.wrap (1 + (es.length : Int)) = 1 + (es.length : Int) := IntWalk.i64_in _ (by omega)
      have s2 : IntKind.i64.wrap (1 + (es.length : Int) + (ws.length : Int)) = (m : Int) := by rw [IntWalk.i64_in _ (by omega)]; omega
      have hct := fun (W : World) (hu : Upd (fun _ => False) wr W) => count_any W (w.heap.size + 2) ((nds.take k).map kwn) size kn m (Ht.out.upd hu (fun h => h)) (by omega) (by omega)
      rw [← hsn] at hct
      have HCt := Lib.hid hct
      have hal := (Upd.refl (fun _ => False) wr).alloc (.cells #[.int .i64 (kn : Int), .slice ea es.length ec, .slice wa ws.length wc] 119)
      have HAl := Lib.hid hal
      clear hx he hw hnd hsn htk hct hal hm
      go_wp2_with fail
      refine (HCt.out _ HAl.out).mono ?_
      rintro e w3 ⟨rfl, hB3, hu3⟩
      have HB3 := Lib.hid hB3
      have HU3 := Lib.hid hu3
      clear hB3 hu3 c0 c1 c2
      go_wp2
      refine ⟨⟨k + 1, by omega, by go_num, (Hz.out.upd HAl.out (fun h => h)).upd HU3.out (by omega), HB3.out, (HU.out.trans HAl.out).next HU3.out (fun i hi h => by omega)⟩, by simp [intOf]; omega⟩
    · have hke : k = nds.length := by omega
      subst hke
      have ht := Ht.out
      rw [List.take_length] at ht
      have hr := Blk.range ht 0 33 (by omega)
      have hth : wr.there (w.heap.size + 1) 0 33 := fun j hj => ⟨by rw [Hz.out.cell (0 + j) (cf_get (by omega))]; rfl, Hz.out.frozen (0 + j)⟩
      have Hr := Lib.hid hr
      have Hth := Lib.hid hth
      clear ht hr hth
      go_wp2_with (first | (refine wpList_load_mid rfl 56 _ rfl (w.heap.size + 1 + 1) 0 rfl (cf 33 (tal (nds.map kwn) size)) _ (by simpa using Hr.out) Try.underlying56 rfl (by kernel_rfl) ?_) | (refine wpList_store_mid rfl 56 _ _ rfl (w.heap.size + 1) 0 (cf 33 (tal (nds.map kwn) size)).toArray rfl rfl ?there (by kernel_rfl) (cf_one _ _) ?_))
      case there =>
        have e : (cf 33 (tal (nds.map kwn) size)).toArray.size = 33 := by simp [cf]
        rw [e]; exact Hth.out
      rw [Exit.noGoto_ret]
      try simp only [Exit.inBlock, Exit.then]
      refine bodyPost_ret (results_cell_mid rfl _ _ (w.heap.size + 1) 0 (cf 33 (tal (nds.map kwn) size)) _ rfl ?_ Try.underlying56 rfl (by kernel_rfl)) rfl ?_
      · exact World.rangeAt_setCells_same _ _ _ _ (by rw [cf_len]; exact Hth.out)
      · exact ⟨rfl, upd_setCells _ (fun h => by omega) _ _ _ HU.out⟩
end Go.Proofs.Ytjlcjcgoaakniaa.Tally
