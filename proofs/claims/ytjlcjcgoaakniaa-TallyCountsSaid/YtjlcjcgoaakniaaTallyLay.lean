/- Two tallies that are laid; loads of many cells in regions. -/
import Derived.Test.YtjlcjcgoaakniaaGraphReaches
import Derived.Test.YtjlcjcgoaakniaaTallyOf
import Derived.Test.YtjlcjcgoaakniaaTallyRows
import Derived.Test.YtjlcjcgoaakniaaOfsP
import Derived.Deep.MidRow
set_option linter.unusedSimpArgs false
namespace Go.Proofs.Ytjlcjcgoaakniaa.Build
open Go.RowKit Go.Deep Go.Proofs.Ytjlcjcgoaakniaa.Mem Go.Proofs.Ytjlcjcgoaakniaa.Obj Go.Proofs.Ytjlcjcgoaakniaa.Ref Go.Proofs.Ytjlcjcgoaakniaa.Heap
open Go.Proofs.Ytjlcjcgoaakniaa.Tally (cf cf_get cf_len cf_one cf_zero blk_stored gen_last)

abbrev tot' := @Tally.tot
theorem tot_kwn : ∀ (nds : List Nd), tot' (nds.map Tally.kwn) = nwords nds + nds.length
  | [] => rfl
  | n :: nds => by
    have := tot_kwn nds
    show Tally.tot (Tally.kwn n :: nds.map Tally.kwn) = _
    rw [Tally.tot_cons, nwords, List.length_cons]
    simp only [Tally.kwn]
    have h : Tally.tot (nds.map Tally.kwn) = nwords nds + nds.length := this
    omega
/-- Two tallies are laid. -/
def TwoLaid (w5 : World) (T1 T2 : Nat → Int) (s8 s9 : Value) (wd : World) : Prop := ∃ b8 b9 : Nat, s8 = .pointer (some ⟨b8, 0, none⟩) ∧ s9 = .pointer (some ⟨b9, 0, none⟩) ∧ b8 ≠ b9 ∧
  Blk wd b8 (cf 33 T1) 56 ∧ Blk wd b9 (cf 33 T2) 56 ∧ w5.heap.size ≤ b8 ∧ w5.heap.size ≤ b9 ∧ Upd (fun _ => False) w5 wd
theorem step_store {P : Program} {ops : Array Oper} {op : Oper} {a : Act} {w : World} {K : Act → World → Prop} {Q : Exit → Act → World → Prop} {E : Prop} (hgd : op.guard = none) (ty : TypeId) (x y : Operand) (ho : op.op = .store ty x y)
    (b o : Nat) (cells : Array Value) (hx : a.eval x = .pointer (some ⟨b, o, none⟩)) (hy : a.eval y = .agg cells) (ht : w.there b o cells.size) (hi : (P.info? ty).map (·.size) = some cells.size) (h1 : cells.all (·.oneCell') = true)
    (h : K (a.put op.dst undef) (w.setCells b o cells.toList)) : if Region.wanted op (yielded ops a.tmps) = true then Oper.wp P op a w K Q else E := by
  have hw : Region.wanted op (yielded ops a.tmps) = true := by simp [Region.wanted, hgd]
  rw [if_pos hw]
  exact wp_store_mid ty x y ho b o cells hx hy ht hi h1 h
abbrev ag' (F : Nat → Int) : Value := Tally.ag 32 F
abbrev rws' := @Tally.rws
abbrev kwp' := @Tally.kwp
theorem tot_kw : ∀ (os : List Ob), Tally.tot (os.map Tally.kw) = top os + os.length
  | [] => rfl
  | o :: os => by
    rw [List.map_cons, Tally.tot_cons, tot_kw os, top_cons, List.length_cons]
    simp only [Tally.kw]
    omega
theorem if_wanted {c : Bool} {A B : Prop} (h : c = true) (ha : A) : if c = true then A else B := by rw [if_pos h]; exact ha
theorem Blk.range' {w : World} {b n : Nat} {f : Nat → Int} {t : TypeId} (h : Blk w b (cf n f) t) : w.rangeAt b 0 (cf n f) := by
  intro j v hv
  rw [Nat.zero_add]
  exact h.cell j hv
theorem range_sub {w : World} {b n m : Nat} {f : Nat → Int} (h : w.rangeAt b 0 (cf n f)) (hm : m ≤ n) : w.rangeAt b 0 (cf m f) := by
  intro j v hv
  have hj : j < m := by
    rcases Nat.lt_or_ge j m with h | h
    · exact h
    · rw [Tally.cf_none h] at hv; cases hv
  refine h j v ?_
  rw [cf_get hj] at hv
  rw [cf_get (by omega)]
  exact hv
theorem exec_load_mid {P : Program} {op : Oper} {a : Act} {w : World} (ty : TypeId) (x : Operand) (ho : op.op = .load ty x) (b o : Nat) (hx : a.eval x = .pointer (some ⟨b, o, none⟩)) (cs : List Value) (d : TypeDesc) (hc : w.rangeAt b o cs)
    (hu : P.underlying ty = some d) (hd : d.isRow = true) (hi : (P.info? ty).map (·.size) = some cs.length) : (execOp a.eval op).run P w = .ok (.value (.agg cs.toArray)) w := by
  unfold execOp
  simp only [ho, hx, Instr.loadAt, Instr.sureAddr, Sem.run_bind, Sem.run_pure, Result.andThen_ok, run_loadVar_mid w b o ty cs d hc hu hd hi]
/-- All that the last region reads. -/
structure Desk7 (b8 b9 hb fb sb : Nat) (T1 T2 : Nat → Int) (sz ol tp : Int) (gl fr fn : Value) (V : World) : Prop where
  r8 : V.rangeAt b8 0 (cf 33 T1)
  r9 : V.rangeAt b9 0 (cf 33 T2)
  s8 : V.cell? ⟨b8, 32, none⟩ = some (.int .i64 sz)
  s9 : V.cell? ⟨b9, 32, none⟩ = some (.int .i64 77)
  h0 : V.cell? ⟨hb, 0, none⟩ = some (.int .i64 sz)
  h1 : V.cell? ⟨hb, 1, none⟩ = some gl
  f0 : V.cell? ⟨fb, 0, none⟩ = some fr
  f1 : V.cell? ⟨fb, 1, none⟩ = some fn
  x0 : V.cell? ⟨sb, 0, none⟩ = some (.int .i64 ol)
  x1 : V.cell? ⟨sb, 1, none⟩ = some (.int .i64 tp)
theorem Desk7.quiet {b8 b9 hb fb sb : Nat} {T1 T2 : Nat → Int} {sz ol tp : Int} {gl fr fn : Value} {V V' : World} (h : Desk7 b8 b9 hb fb sb T1 T2 sz ol tp gl fr fn V) (u : Upd (fun _ => False) V V') : Desk7 b8 b9 hb fb sb T1 T2 sz ol tp gl fr fn V' :=
  ⟨Tally.keepR u h.r8, Tally.keepR u h.r9, keepC' u h.s8, keepC' u h.s9, keepC' u h.h0, keepC' u h.h1, keepC' u h.f0, keepC' u h.f1, keepC' u h.x0, keepC' u h.x1⟩
theorem same_rows' (F : Nat → Int) (W : World) : (binOp .eql 54 (ag' F) (ag' F)).run Try.prog W = .ok (.bool true) W := by
  obtain ⟨d, hd⟩ : ∃ d, 10000 = d + 3 := ⟨9997, rfl⟩
  have h := run_eql_struct (P := Try.prog) W 54 (cf 32 F).toArray (cf 32 F).toArray
  rw [hd, Tally.same_rows] at h
  exact h
theorem field_objs (x y : Int) (w : World) : (Instr.field 53 (.agg #[.int .i64 x, .int .i64 y]) 0).run Try.prog w = .ok (.int .i64 x) w := by
  simp [Instr.field, asAgg, part]
end Go.Proofs.Ytjlcjcgoaakniaa.Build
