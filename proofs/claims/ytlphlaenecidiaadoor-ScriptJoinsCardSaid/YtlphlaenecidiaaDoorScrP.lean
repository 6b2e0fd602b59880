/- Numerals and lines: plain lists, no program here. -/
import Derived.Lib.AtoiAll
import Derived.Lib.ItoaNum
import Derived.Lib.SplitLaws
import Derived.Lib.Split
namespace Go.Proofs.YtlphlaenecidiaaDoor.Scr
open Go

/-! ### A numeral is read as its number -/
theorem digit_toNat {d : Nat} (h : d < 10) : (UInt8.ofNat (48 + d)).toNat = 48 + d := by
  simp only [UInt8.toNat_ofNat']
  omega
theorem parse_append : ∀ (l r : List UInt8) (acc : Nat), Lib.parseUint10 acc (l ++ r) = match Lib.parseUint10 acc l with | .ok a => Lib.parseUint10 a r | .syntax => .syntax | .range => .range
  | [], r, acc => rfl
  | c :: l, r, acc => by
    rw [List.cons_append, Lib.parseUint10, Lib.parseUint10]
    split
    · split
      · rfl
      · split
        · rfl
        · exact parse_append l r _
    · rfl
theorem parse_dec (u : Nat) (h : u < 18446744073709551616) : Lib.parseUint10 0 (Lib.decDigits u) = .ok u := by
  induction u using Nat.strongRecOn with
  | _ u ih =>
    by_cases h10 : u < 10
    · rw [Lib.decDigits, dif_pos h10]
      simp only [Lib.parseUint10, digit_toNat h10]
      rw [if_pos (by omega), if_neg (by omega), if_neg (by omega)]
      congr 1
      omega
    · rw [Lib.decDigits, dif_neg h10, parse_append, ih (u / 10) (by omega) (by omega)]
      have hd : u % 10 < 10 := by omega
      simp only [Lib.parseUint10, digit_toNat hd]
      rw [if_pos (by omega), if_neg (by omega), if_neg (by omega)]
      congr 1
      omega
theorem dec_ne (u : Nat) : Lib.decDigits u ≠ [] := by
  rw [Lib.decDigits]
  split
  · simp
  · simp
theorem dec_digits (u : Nat) : ∀ c ∈ Lib.decDigits u, 48 ≤ c.toNat ∧ c.toNat ≤ 57 := by
  induction u using Nat.strongRecOn with
  | _ u ih =>
    by_cases h10 : u < 10
    · rw [Lib.decDigits, dif_pos h10]
      intro c hc
      rw [List.mem_singleton] at hc
      subst hc
      rw [digit_toNat h10]
      omega
    · rw [Lib.decDigits, dif_neg h10]
      intro c hc
      rcases List.mem_append.1 hc with hc | hc
      · exact ih (u / 10) (by omega) c hc
      · rw [List.mem_singleton] at hc
        subst hc
        rw [digit_toNat (by omega)]
        omega
theorem atoi_itoa (n : Int) (h0 : -9223372036854775808 ≤ n) (h1 : n ≤ 9223372036854775807) : Lib.atoiAll (Lib.itoa n) = .ok n := by
  unfold Lib.itoa
  by_cases hn : n < 0
  · rw [if_pos hn]
    unfold Lib.atoiAll
    have hp : Lib.parseMag (Lib.decDigits n.natAbs) = .ok n.natAbs := by
      unfold Lib.parseMag
      rw [if_neg (dec_ne _)]
      exact parse_dec _ (by omega)
    have h45 : (45 : UInt8).toNat = 45 := rfl
    simp only [h45, or_true, if_true, hp, not_true_eq_false, false_and, if_false, true_and]
    rw [if_neg (by omega)]
    congr 1
    omega
  · rw [if_neg hn]
    obtain ⟨c, r, hc⟩ : ∃ c r, Lib.decDigits n.toNat = c :: r := List.exists_cons_of_ne_nil (dec_ne _)
    have hd := dec_digits n.toNat c (by rw [hc]; exact List.mem_cons_self)
    have hp : Lib.parseMag (c :: r) = .ok n.toNat := by
      unfold Lib.parseMag
      rw [if_neg (by simp), ← hc]
      exact parse_dec _ (by omega)
    rw [hc]
    unfold Lib.atoiAll
    simp only
    rw [if_neg (by omega), hp]
    have h45 : ¬ c.toNat = 45 := by omega
    simp only [h45, not_false_eq_true, true_and, false_and, if_false]
    rw [if_neg (by omega)]
    congr 1
    omega
theorem itoa_inj {a b : Int} (ha : -9223372036854775808 ≤ a ∧ a ≤ 9223372036854775807) (hb : -9223372036854775808 ≤ b ∧ b ≤ 9223372036854775807) (h : Lib.itoa a = Lib.itoa b) : a = b := by
  have h1 := atoi_itoa a ha.1 ha.2
  have h2 := atoi_itoa b hb.1 hb.2
  rw [h, h2] at h1
  cases h1
  rfl
/-- A numeral has no blank. -/
theorem itoa_plain (n : Int) : (32 : UInt8) ∉ Lib.itoa n := by
  have hd : ∀ u, (32 : UInt8) ∉ Lib.decDigits u := fun u h => by
    have := dec_digits u _ h
    have e : (32 : UInt8).toNat = 32 := rfl
    omega
  unfold Lib.itoa
  split
  · intro h
    rcases List.mem_cons.1 h with h | h
    · cases h
    · exact hd _ h
  · exact hd _

/-! ### A line in its parts -/
/-- The parts between blanks. -/
def spl : List UInt8 → List (List UInt8)
  | [] => [[]]
  | c :: l => if c = 32 then [] :: spl l else match spl l with
    | p :: ps => (c :: p) :: ps
    | [] => [[c]]
theorem spl_ne : ∀ l, spl l ≠ []
  | [] => by simp [spl]
  | c :: l => by
    rw [spl]
    split
    · simp
    · split <;> simp
theorem spl_plain : ∀ (a : List UInt8), (32 : UInt8) ∉ a → spl a = [a]
  | [], _ => rfl
  | c :: a, h => by
    have h1 : c ≠ 32 := fun e => h (by rw [e]; exact List.mem_cons_self)
    rw [spl, if_neg h1, spl_plain a (fun h2 => h (List.mem_cons_of_mem _ h2))]
theorem spl_cut : ∀ (a b : List UInt8), (32 : UInt8) ∉ a → spl (a ++ 32 :: b) = a :: spl b
  | [], b, _ => by rw [List.nil_append, spl, if_pos rfl]
  | c :: a, b, h => by
    have h1 : c ≠ 32 := fun e => h (by rw [e]; exact List.mem_cons_self)
    rw [List.cons_append, spl, if_neg h1, spl_cut a b (fun h2 => h (List.mem_cons_of_mem _ h2))]
theorem spl_join (w : List UInt8) (hw : (32 : UInt8) ∉ w) : ∀ (ws : List (List UInt8)), (∀ x ∈ ws, (32 : UInt8) ∉ x) → spl (w ++ ws.flatMap fun x => 32 :: x) = w :: ws := by
  intro ws
  induction ws generalizing w with
  | nil => intro _; rw [List.flatMap_nil, List.append_nil]; exact spl_plain w hw
  | cons x ws ih =>
    intro h
    rw [List.flatMap_cons, List.cons_append, spl_cut w _ hw, ih x (h x List.mem_cons_self) (fun y hy => h y (List.mem_cons_of_mem _ hy))]
/-- The first blank. -/
theorem first_blank : ∀ (s : List UInt8), (32 : UInt8) ∈ s → ∃ a b, s = a ++ 32 :: b ∧ (32 : UInt8) ∉ a
  | [], h => by cases h
  | c :: s, h => by
    by_cases hc : c = 32
    · exact ⟨[], s, by rw [hc]; rfl, fun h => by cases h⟩
    · rcases List.mem_cons.1 h with h | h
      · exact absurd h.symm hc
      · obtain ⟨a, b, rfl, ha⟩ := first_blank s h
        exact ⟨c :: a, b, rfl, fun h2 => (List.mem_cons.1 h2).elim (fun e => hc e.symm) ha⟩
theorem occ_one (s : List UInt8) (i : Nat) : Lib.occAt s [32] i = decide (s[i]? = some 32) := by
  unfold Lib.occAt
  cases hd : s.drop i with
  | nil =>
    have : s.length ≤ i := by simpa using hd
    rw [List.getElem?_eq_none this]
    rfl
  | cons c t =>
    have : s[i]? = some c := by rw [← List.head?_drop, hd]; rfl
    rw [this]
    by_cases e : c = 32
    · subst e; simp [List.isPrefixOf]
    · have e' : ¬ (32 : UInt8) = c := fun h => e h.symm
      simp [List.isPrefixOf, e, e']
theorem index_cut (a b : List UInt8) (h : (32 : UInt8) ∉ a) : Lib.index (a ++ 32 :: b) [32] = (a.length : Int) := by
  refine Lib.index_first (by simp) (by rw [occ_one]; simp) (fun j hj => ?_)
  rw [occ_one]
  apply decide_eq_false
  rw [List.getElem?_append_left hj]
  intro e
  exact h (List.mem_of_getElem? e)
theorem index_plain (a : List UInt8) (h : (32 : UInt8) ∉ a) : Lib.index a [32] = -1 := by
  refine Lib.index_none (fun j _ => ?_)
  rw [occ_one]
  exact decide_eq_false (fun e => h (List.mem_of_getElem? e))
theorem split_spl (n : Nat) : ∀ (s : List UInt8), s.length ≤ n → Lib.split s [32] = spl s := by
  induction n with
  | zero =>
    intro s hs
    obtain rfl : s = [] := List.length_eq_zero_iff.1 (by omega)
    rfl
  | succ n ih =>
    intro s hs
    by_cases h : (32 : UInt8) ∈ s
    · obtain ⟨a, b, rfl, ha⟩ := first_blank s h
      have hi := index_cut a b ha
      have hc := Lib.count_hit (sub := [32]) (by simp) hi
      have hdrop : (a ++ 32 :: b).drop (a.length + 1) = b := by
        rw [List.drop_append, List.drop_of_length_le (by omega)]
        simp
      simp only [List.length_cons, List.length_nil] at hc
      rw [Nat.zero_add, hdrop] at hc
      have ihb := ih b (by rw [List.length_append, List.length_cons] at hs; omega)
      rw [spl_cut a b ha, ← ihb]
      unfold Lib.split
      rw [hc, Nat.add_comm, Lib.splitK, hi]
      rw [if_neg (by rw [beq_iff_eq]; omega)]
      simp only [Int.toNat_natCast, List.length_cons, List.length_nil, Nat.zero_add, Nat.add_zero]
      rw [hdrop, List.take_left']
      rfl
    · have hi := index_plain s h
      unfold Lib.split
      rw [Lib.count_miss hi, Lib.splitK, spl_plain s h]
theorem spl_len : ∀ (l : List UInt8), ∀ p ∈ spl l, p.length ≤ l.length
  | [], p, h => by
    rw [spl, List.mem_singleton] at h
    subst h
    exact Nat.le_refl _
  | c :: l, p, h => by
    rw [spl] at h
    split at h
    · rcases List.mem_cons.1 h with rfl | h
      · exact Nat.zero_le _
      · have := spl_len l p h; rw [List.length_cons]; omega
    · split at h
      · rename_i q qs hq
        rcases List.mem_cons.1 h with rfl | h
        · have := spl_len l q (by rw [hq]; exact List.mem_cons_self)
          rw [List.length_cons, List.length_cons]; omega
        · have := spl_len l p (by rw [hq]; exact List.mem_cons_of_mem _ h)
          rw [List.length_cons]; omega
      · rw [List.mem_singleton] at h
        subst h
        simp
end Go.Proofs.YtlphlaenecidiaaDoor.Scr
