/- Scripts: the document's Parse: what it reckons, plain. -/
import Derived.Test.YtlphlaenecidiaaDoorScr8
namespace Go.Proofs.YtlphlaenecidiaaDoor.Scr
open Go

/-- A word set before the first of some parts. -/
def glue (p : List UInt8) : List (List UInt8) → List (List UInt8)
  | q :: qs => (p ++ q) :: qs
  | [] => [p]
theorem glue_nil (l : List UInt8) : glue [] (spl l) = spl l := by
  cases h : spl l with
  | nil => exact absurd h (spl_ne l)
  | cons q qs => rfl
theorem glue_blank (p r : List UInt8) : glue p (spl (32 :: r)) = p :: spl r := by
  rw [spl, if_pos rfl, glue, List.append_nil]
theorem glue_char {c : UInt8} (h : c ≠ 32) (p r : List UInt8) : glue p (spl (c :: r)) = glue (p ++ [c]) (spl r) := by
  rw [spl, if_neg h]
  cases hs : spl r with
  | nil => exact absurd hs (spl_ne r)
  | cons q qs => simp [glue]
theorem glue_end (p : List UInt8) : glue p (spl []) = [p] := by simp [spl, glue]
theorem spl_flat : ∀ (l p0 : List UInt8) (rest : List (List UInt8)), spl l = p0 :: rest → l = p0 ++ rest.flatMap fun x => 32 :: x
  | [], p0, rest, h => by
    rw [spl] at h
    cases h
    rfl
  | c :: l, p0, rest, h => by
    rw [spl] at h
    split at h
    · rename_i hc
      cases hs : spl l with
      | nil => exact absurd hs (spl_ne l)
      | cons q qs =>
        rw [hs] at h
        cases h
        have := spl_flat l q qs hs
        rw [List.nil_append, List.flatMap_cons, hc]
        rw [List.cons_append, ← this]
    · cases hs : spl l with
      | nil => exact absurd hs (spl_ne l)
      | cons q qs =>
        rw [hs] at h
        injection h with h1 h2
        have := spl_flat l q qs hs
        rw [← h1, ← h2, List.cons_append, ← this]

/-- The last op below K whose word it is. -/
def opTo (p : List UInt8) : Nat → Int
  | 0 => 0
  | K + 1 => if 1 ≤ K ∧ wordsL.getD K [] = p then (K : Int) else opTo p K
theorem opTo_none {p : List UInt8} : ∀ K, (∀ k, 1 ≤ k → k < K → wordsL.getD k [] ≠ p) → opTo p K = 0
  | 0, _ => rfl
  | K + 1, h => by
    rw [opTo, if_neg (fun h2 => h K h2.1 (by omega) h2.2)]
    exact opTo_none K (fun k h1 h2 => h k h1 (by omega))
theorem idx_none : ∀ (zs : List ByteArray) (x : ByteArray) (i : Nat), x ∉ zs → Lib.idxFromS zs x i = -1
  | [], x, i, _ => rfl
  | z :: zs, x, i, h => by
    unfold Lib.idxFromS
    split
    · rename_i hz
      exfalso
      apply h
      rw [hz]
      exact List.mem_cons_self
    · exact idx_none zs x (i + 1) (fun h2 => h (List.mem_cons_of_mem _ h2))
theorem op_word {p : List UInt8} (h : opOf p ≠ 0) : ∃ k : Nat, 1 ≤ k ∧ k ≤ 12 ∧ wordsL.getD k [] = p := by
  by_cases hm : (⟨p.toArray⟩ : ByteArray) ∈ wordsB
  · obtain ⟨q, hq, he⟩ := List.mem_map.1 hm
    have hqp : q = p := by
      have := congrArg (fun b : ByteArray => b.data.toList) he
      simpa using this
    subst hqp
    obtain ⟨i, hi⟩ := List.mem_iff_getElem?.1 hq
    have hil : i < 12 := (List.getElem?_eq_some_iff.1 hi).1
    refine ⟨i + 1, by omega, by omega, ?_⟩
    rw [List.getD_eq_getElem?_getD, show wordsL[i + 1]? = wordsL.tail[i]? from List.getElem?_tail.symm, hi]
    rfl
  · exfalso
    apply h
    unfold opOf Lib.idxOfS
    rw [idx_none _ _ _ hm]
    rfl
theorem opTo_all (p : List UInt8) : opTo p 13 = opOf p := by
  by_cases h : ∃ k : Nat, 1 ≤ k ∧ k ≤ 12 ∧ wordsL.getD k [] = p
  · obtain ⟨k, h1, h2, rfl⟩ := h
    rw [word_op k h1 h2]
    rcases (show k = 1 ∨ k = 2 ∨ k = 3 ∨ k = 4 ∨ k = 5 ∨ k = 6 ∨ k = 7 ∨ k = 8 ∨ k = 9 ∨ k = 10 ∨ k = 11 ∨ k = 12 by omega) with rfl | rfl | rfl | rfl | rfl | rfl | rfl | rfl | rfl | rfl | rfl | rfl <;> decide
  · rw [opTo_none 13 (fun k h1 h2 h3 => h ⟨k, h1, by omega, h3⟩)]
    by_cases h0 : opOf p = 0
    · exact h0.symm
    · exact absurd (op_word h0) h
theorem word_of {p : List UInt8} (h : opOf p ≠ 0) : wordOf (opOf p) = p := by
  obtain ⟨k, h1, h2, rfl⟩ := op_word h
  rw [word_op k h1 h2]
  unfold wordOf
  rw [Int.toNat_natCast]

/-- A line is an entry's just where its parts are numerals. -/
theorem mk_good {op : Int} {L : List Int} (hm : manyOf op = (L.length : Int)) (h4 : L.length ≤ 4) : (mkEnt op L).good ∧ (mkEnt op L).ns.take L.length = L := by
  have hz : ∀ i, L.length ≤ i → L.getD i 0 = 0 := fun i h => by rw [List.getD_eq_getElem?_getD, List.getElem?_eq_none h]; rfl
  have hmm : manyOf (mkEnt op L).op = (L.length : Int) := hm
  refine ⟨⟨by rw [hmm]; omega, ?_⟩, ?_⟩
  · rw [hmm, Int.toNat_natCast]
    match L, h4, hz with
    | [], _, hz => simp [mkEnt, Ent.ns]
    | [a], _, hz => simp [mkEnt, Ent.ns]
    | [a, b], _, hz => simp [mkEnt, Ent.ns]
    | [a, b, c], _, hz => simp [mkEnt, Ent.ns]
    | [a, b, c, d], _, hz => simp [mkEnt, Ent.ns]
  · match L, h4 with
    | [], _ => rfl
    | [a], _ => rfl
    | [a, b], _ => rfl
    | [a, b, c], _ => rfl
    | [a, b, c, d], _ => rfl
theorem num_of_ok {p : List UInt8} (h : (numR p).2 = true) : numOf p = (numR p).1 := by
  have h1 := numR_ok h
  have h2 := numR_64 p
  have h3 := numOf_itoa (numR p).1 h2
  rw [h1] at h3
  exact h3
theorem made64 (ps : List (List UInt8)) : (made ps).in64 := by
  have hg : ∀ i, -9223372036854775808 ≤ (ps.tail.map numOf).getD i 0 ∧ (ps.tail.map numOf).getD i 0 ≤ 9223372036854775807 := by
    intro i
    rw [List.getD_eq_getElem?_getD]
    cases hv : (ps.tail.map numOf)[i]? with
    | none => simp
    | some v =>
      obtain ⟨b, _, rfl⟩ := List.mem_map.1 (List.mem_of_getElem? hv)
      exact numOf_64 _
  intro x hx
  simp only [made, mkEnt, Ent.ns, List.mem_cons, List.not_mem_nil, or_false] at hx
  rcases hx with rfl | rfl | rfl | rfl <;> exact hg _
theorem fits_iff {l p0 : List UInt8} {rest : List (List UInt8)} (hs : spl l = p0 :: rest) (h0 : opOf p0 ≠ 0) (hm : manyOf (opOf p0) = (rest.length : Int)) : fits l ↔ ∀ p ∈ rest, (numR p).2 = true := by
  have hr := many_range (opOf p0)
  have hmade : made (spl l) = mkEnt (opOf p0) (rest.map numOf) := by rw [hs]; rfl
  constructor
  · intro hf p hp
    have hg := hf.2.2.1
    have hl := hf.2.2.2
    have h64 := made64 (spl l)
    have h1 := line_spl (made (spl l))
    rw [hl, hs] at h1
    have h2 : rest = ((made (p0 :: rest)).ns.take (made (p0 :: rest)).m).map Lib.itoa := (List.cons.inj h1).2
    rw [← hs] at h2
    rw [h2] at hp
    obtain ⟨n, hn, rfl⟩ := List.mem_map.1 hp
    have hn64 := h64 n (List.mem_of_mem_take hn)
    rw [numR_itoa n hn64.1 hn64.2]
  · intro h
    have hg := mk_good (op := opOf p0) (L := rest.map numOf) (by rw [List.length_map]; exact hm) (by rw [List.length_map]; omega)
    refine ⟨by rw [hs]; exact h0, by rw [hs, List.length_cons, show ((p0 :: rest).getD 0 []) = p0 from rfl, hm]; omega, by rw [hmade]; exact hg.1, ?_⟩
    rw [hmade, Ent.line_eq]
    have hm2 : (mkEnt (opOf p0) (rest.map numOf)).m = (rest.map numOf).length := by
      unfold Ent.m
      show (manyOf (opOf p0)).toNat = _
      rw [hm, Int.toNat_natCast, List.length_map]
    rw [hm2, hg.2, List.map_map]
    have he : rest.map (Lib.itoa ∘ numOf) = rest := by
      conv => rhs; rw [← List.map_id rest]
      refine List.map_congr_left (fun p hp => ?_)
      show Lib.itoa (numOf p) = p
      rw [num_of_ok (h p hp)]
      exact numR_ok (h p hp)
    rw [he]
    show wordOf (opOf p0) ++ _ = l
    rw [word_of h0]
    exact (spl_flat l p0 rest hs).symm
end Go.Proofs.YtlphlaenecidiaaDoor.Scr
