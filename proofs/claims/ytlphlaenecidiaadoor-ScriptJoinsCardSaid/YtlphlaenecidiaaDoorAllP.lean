/- Scripts: a text's entries, line by line: plain. -/
import Derived.Test.YtlphlaenecidiaaDoorScr9P
import Derived.Lib.IndexMore
namespace Go.Proofs.YtlphlaenecidiaaDoor.Scr
open Go

/-- The entries of a text, a part of its first line ahead of it; or how many lines are ahead of the first one that is none. -/
def alls : List UInt8 → List UInt8 → Except Nat (List Ent)
  | p, [] => if p = [] then .ok [] else .error 0
  | p, c :: r => if c = 10 then (if fits p then (match alls [] r with
      | .ok es => .ok (made (spl p) :: es)
      | .error k => .error (k + 1)) else .error 0) else alls (p ++ [c]) r
/-- Some entries ahead. -/
def behind (es : List Ent) : Except Nat (List Ent) → Except Nat (List Ent)
  | .ok fs => .ok (es ++ fs)
  | .error k => .error (es.length + k)
theorem behind_nil (x : Except Nat (List Ent)) : behind [] x = x := by
  cases x
  · show Except.error (0 + _) = _
    rw [Nat.zero_add]
  · rfl
theorem alls_stop (p : List UInt8) : alls p [] = if p = [] then .ok [] else .error 0 := by rw [alls]
theorem alls_char {c : UInt8} (h : c ≠ 10) (p r : List UInt8) : alls p (c :: r) = alls (p ++ [c]) r := by rw [alls, if_neg h]
theorem alls_not {p : List UInt8} (h : ¬ fits p) (r : List UInt8) : alls p (10 :: r) = .error 0 := by rw [alls, if_pos rfl, if_neg h]
theorem alls_fit {p : List UInt8} (h : fits p) (r : List UInt8) : alls p (10 :: r) = behind [made (spl p)] (alls [] r) := by
  rw [alls, if_pos rfl, if_pos h]
  cases alls [] r with
  | ok es => rfl
  | error k => show Except.error (k + 1) = .error (1 + k); rw [Nat.add_comm]
theorem behind_two (es fs : List Ent) (x : Except Nat (List Ent)) : behind es (behind fs x) = behind (es ++ fs) x := by
  cases x with
  | ok l => simp [behind]
  | error k => simp [behind, Nat.add_assoc]
theorem alls_skip : ∀ (a : List UInt8), (10 : UInt8) ∉ a → ∀ p r, alls p (a ++ r) = alls (p ++ a) r
  | [], _, p, r => by rw [List.nil_append, List.append_nil]
  | c :: a, h, p, r => by
    have h1 : c ≠ 10 := fun e => h (by rw [e]; exact List.mem_cons_self)
    rw [List.cons_append, alls_char h1, alls_skip a (fun h2 => h (List.mem_cons_of_mem _ h2)), List.append_assoc]
    rfl
theorem alls_last {a : List UInt8} (h : (10 : UInt8) ∉ a) (h0 : a ≠ []) : alls [] a = .error 0 := by
  have := alls_skip a h [] []
  rw [List.append_nil, List.nil_append, alls_stop, if_neg h0] at this
  exact this
theorem alls_line {a : List UInt8} (h : (10 : UInt8) ∉ a) (b : List UInt8) : alls [] (a ++ 10 :: b) = alls a (10 :: b) := by
  rw [alls_skip a h, List.nil_append]
theorem alls_app : ∀ (a p b : List UInt8) (es : List Ent), alls p a = .ok es → alls p (a ++ b) = behind es (alls [] b)
  | [], p, b, es, h => by
    rw [alls_stop] at h
    split at h
    · rename_i hp
      injection h with h
      subst h
      subst hp
      rw [behind_nil, List.nil_append]
    · cases h
  | c :: a, p, b, es, h => by
    by_cases hc : c = 10
    · subst hc
      by_cases hf : fits p
      · rw [alls_fit hf] at h
        rw [List.cons_append, alls_fit hf]
        cases ha : alls [] a with
        | error k => rw [ha] at h; cases h
        | ok fs =>
          rw [ha] at h
          injection h with h
          rw [alls_app a [] b fs ha, behind_two, ← h]
      · rw [alls_not hf] at h
        cases h
    · rw [alls_char hc] at h
      rw [List.cons_append, alls_char hc]
      exact alls_app a _ b es h
theorem alls_err : ∀ (a p b : List UInt8) (k : Nat), alls p a = .error k → a.getLast? = some 10 → alls p (a ++ b) = .error k
  | [], _, _, _, _, hl => by cases hl
  | c :: a, p, b, k, h, hl => by
    by_cases hc : c = 10
    · subst hc
      by_cases hf : fits p
      · rw [alls_fit hf] at h
        rw [List.cons_append, alls_fit hf]
        cases ha : alls [] a with
        | ok fs => rw [ha] at h; cases h
        | error j =>
          rw [ha] at h
          have h0 : a ≠ [] := fun e => by subst e; rw [alls_stop, if_pos rfl] at ha; cases ha
          have hl' : a.getLast? = some 10 := by
            cases a with
            | nil => exact absurd rfl h0
            | cons d a => rw [List.getLast?_cons_cons] at hl; exact hl
          rw [alls_err a [] b j ha hl']
          exact h
      · rw [alls_not hf] at h
        rw [List.cons_append, alls_not hf]
        exact h
    · rw [alls_char hc] at h
      rw [List.cons_append, alls_char hc]
      cases a with
      | nil =>
        rw [List.getLast?_singleton] at hl
        exact absurd (Option.some.inj hl) hc
      | cons d a =>
        rw [List.getLast?_cons_cons] at hl
        exact alls_err (d :: a) _ b k h hl

/-! ### The first line's end -/
theorem first_end : ∀ (s : List UInt8), (10 : UInt8) ∈ s → ∃ a b, s = a ++ 10 :: b ∧ (10 : UInt8) ∉ a
  | [], h => by cases h
  | c :: s, h => by
    by_cases hc : c = 10
    · exact ⟨[], s, by rw [hc]; rfl, fun h => by cases h⟩
    · rcases List.mem_cons.1 h with h | h
      · exact absurd h.symm hc
      · obtain ⟨a, b, rfl, ha⟩ := first_end s h
        exact ⟨c :: a, b, rfl, fun h2 => (List.mem_cons.1 h2).elim (fun e => hc e.symm) ha⟩
theorem occ_ten (s : List UInt8) (i : Nat) : Lib.occAt s [10] i = decide (s[i]? = some 10) := by
  unfold Lib.occAt
  cases hd : s.drop i with
  | nil =>
    have : s.length ≤ i := by simpa using hd
    rw [List.getElem?_eq_none this]
    rfl
  | cons c t =>
    have : s[i]? = some c := by rw [← List.head?_drop, hd]; rfl
    rw [this]
    by_cases e : c = 10
    · subst e; simp [List.isPrefixOf]
    · have e' : ¬ (10 : UInt8) = c := fun h => e h.symm
      simp [List.isPrefixOf, e, e']
theorem cut_hit {a : List UInt8} (h : (10 : UInt8) ∉ a) (b : List UInt8) : Lib.cut (a ++ 10 :: b) [10] = (a, b, true) := by
  have hi : Lib.index (a ++ 10 :: b) [10] = (a.length : Int) := by
    refine Lib.index_first (by simp) (by rw [occ_ten]; simp) (fun j hj => ?_)
    rw [occ_ten]
    apply decide_eq_false
    rw [List.getElem?_append_left hj]
    intro e
    exact h (List.mem_of_getElem? e)
  unfold Lib.cut
  rw [hi, if_pos (by omega), Int.toNat_natCast]
  simp
theorem cut_miss {a : List UInt8} (h : (10 : UInt8) ∉ a) : Lib.cut a [10] = (a, [], false) := by
  have hi : Lib.index a [10] = -1 := by
    refine Lib.index_none (fun j _ => ?_)
    rw [occ_ten]
    exact decide_eq_false (fun e => h (List.mem_of_getElem? e))
  unfold Lib.cut
  rw [hi, if_neg (by omega)]
/-- The cells of some entries. -/
def ecells (es : List Ent) : List Value := es.flatMap Ent.cells
theorem ecells_snoc (es : List Ent) (e : Ent) : ecells (es ++ [e]) = ecells es ++ e.cells := by simp [ecells]
theorem ecells_app (es fs : List Ent) : ecells (es ++ fs) = ecells es ++ ecells fs := by simp [ecells]
theorem ecells_len : ∀ es : List Ent, (ecells es).length = es.length * 5
  | [] => rfl
  | e :: es => by
    have := ecells_len es
    unfold ecells at *
    rw [List.flatMap_cons, List.length_append, this, List.length_cons]
    show 5 + _ = _
    omega
theorem ecells_at : ∀ (es : List Ent) (i : Nat) (e : Ent), es[i]? = some e → ∀ k, k < 5 → (ecells es)[i * 5 + k]? = e.cells[k]?
  | [], i, e, h, _, _ => by cases h
  | x :: es, 0, e, h, k, hk => by
    injection h with h
    subst h
    unfold ecells
    rw [List.flatMap_cons, Nat.zero_mul, Nat.zero_add, List.getElem?_append_left (by show k < 5; exact hk)]
  | x :: es, i + 1, e, h, k, hk => by
    have ih := ecells_at es i e h k hk
    unfold ecells at *
    rw [List.flatMap_cons, List.getElem?_append_right (by show 5 ≤ _; omega)]
    rw [show (i + 1) * 5 + k - x.cells.length = i * 5 + k by show _ - 5 = _; omega]
    exact ih
end Go.Proofs.YtlphlaenecidiaaDoor.Scr
