/- Contracts of package heap: Of. -/
import Derived.Test.YtjlcjcgoaakniaaMrgHeap2
import Derived.Test.YtjlcjcgoaakniaaMrgHeap
import Derived.Test.YtjlcjcgoaakniaaMrgRow
import Derived.Deep.LoopGhost
namespace Go.Proofs.Ytjlcjcgoaakniaa.Heap
open Go.RowKit Go.Proofs.Ytjlcjcgoaakniaa.Mem Go.Proofs.Ytjlcjcgoaakniaa.Obj

/-- The builtin copy, of all cells of a block. -/
theorem run_copy_all (P : Program) (w : World) (t e t' : TypeId) (ht : P.underlying t = some (.slice e)) (hs : (P.info? e).map (·.size) = some 1) (g n scap : Nat) (ad : Addr) (cur cs : List Value) (hB : Blk w g cur t') (hl : cur.length = n) (hc : cs.length = n)
    (hsrc : ∀ j v, cs[j]? = some v → w.cell? (ad.add j) = some v) (h1 : ∀ v ∈ cs, v.oneCell' = true) :
    ∃ w', (∀ ty, (Builtin.copy_ #[t, t] ty #[.slice (some ⟨g, 0, none⟩) n n, .slice (some ad) n scap]).run P w = .ok (.int .i64 (n : Int)) w') ∧ Blk w' g cs t' ∧ Upd (fun k => k = g) w w' := by
  refine ⟨w.setRow g (cur.take 0 ++ cs ++ cur.drop (0 + cs.length)).toArray, fun ty => ?_, ?_, ?_⟩
  · have h := run_copy_row (P := P) w t t ty e g 0 n n ad n scap cur.toArray t' cs ht hs hB (by rw [hc]; simp) hsrc (by simp; omega) h1
    rw [hc] at h ⊢
    exact h
  · have h := setRow_heap w g _ (cur.take 0 ++ cs ++ cur.drop (0 + cs.length)).toArray t' _ hB
    have e : cur.take 0 ++ cs ++ cur.drop (0 + cs.length) = cs := by
      rw [List.drop_eq_nil_of_le (by omega)]
      simp
    rw [e] at h ⊢
    exact h
  · exact ⟨rfl, rfl, rfl, by simp, fun k _ hk => setRow_other w g k _ hk⟩

/-- What Of answers. -/
def HofEnd (w : World) (n : Nat) (rest : List Ob → List Int) (r : Option (List Ob)) (e : Ending) (w' : World) : Prop :=
  Upd (fun _ => False) w w' ∧ match r with
    | none => e = .returned (.tuple #[.pointer none, .int .i64 2])
    | some os => ∃ h wb sb, e = .returned (.tuple #[.pointer (some ⟨h, 0, none⟩), .int .i64 0]) ∧ HeapAt w' h wb sb n os (rest os) ∧ w.heap.size ≤ h ∧ w.heap.size ≤ wb ∧ w.heap.size ≤ sb

theorem taken_marks (os : List Ob) (rest : List Int) (o : Ob) (h : 1 + o.len ≤ rest.length) :
    (Obj.marks os ++ List.replicate rest.length false).set (top os) true = Obj.marks (os ++ [o]) ++ List.replicate (rest.drop (1 + o.len)).length false := by
  rw [marks_append, List.set_append_right _ _ (by rw [marks_length]; exact Nat.le_refl _), marks_length, Nat.sub_self]
  obtain ⟨m, hm⟩ : ∃ m, rest.length = 1 + o.len + m := ⟨rest.length - (1 + o.len), by omega⟩
  simp only [Obj.marks, List.append_nil, List.append_assoc, List.length_drop, hm]
  rw [show 1 + o.len + m = (o.len + m) + 1 by omega, List.replicate_succ, List.set_cons_zero, show o.len + m + 1 - (1 + o.len) = m by omega, ← List.replicate_append_replicate]
  rfl

/-- The loop. -/
def Taking (w : World) (W : List Int) (u : Nat) (h wb sb : Nat) (g : Nat) (wr : World) : Prop :=
  ∃ (os : List Ob) (rest : List Int), W = flat os ++ rest ∧ top os ≤ u ∧ u - top os ≤ g ∧ parse u [] (W.take u) = parse g os (rest.take (u - top os)) ∧ HeapAt wr h wb sb W.length os rest ∧ Upd (fun _ => False) w wr

end Go.Proofs.Ytjlcjcgoaakniaa.Heap
