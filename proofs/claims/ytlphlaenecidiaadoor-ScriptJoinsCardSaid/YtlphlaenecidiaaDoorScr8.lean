/- Scripts: the document's number. -/
import Derived.Test.YtlphlaenecidiaaDoorScr7
set_option linter.unusedSimpArgs false
namespace Go.Proofs.YtlphlaenecidiaaDoor.Scr
open Go.RowKit Go.Proofs.YtlphlaenecidiaaDoor.Mem

/-! ### Plain: what number computes -/
def nStep (neg : Bool) (acc : Int) (c : UInt8) : Int := if neg = true then IntKind.i64.wrap (IntKind.i64.wrap (acc * 10) - ((c.toNat - 48 : Nat) : Int)) else IntKind.i64.wrap (IntKind.i64.wrap (acc * 10) + ((c.toNat - 48 : Nat) : Int))
def numW (neg : Bool) : Int → List UInt8 → Option Int
  | acc, [] => some acc
  | acc, c :: r => if 48 ≤ c.toNat ∧ c.toNat ≤ 57 then numW neg (nStep neg acc c) r else none
def isNeg (l : List UInt8) : Bool := decide (l.head? = some 45)
def numR (l : List UInt8) : Int × Bool := if l = [] ∨ 20 < l.length then (0, false) else match numW (isNeg l) 0 (if isNeg l = true then l.tail else l) with
  | none => (0, false)
  | some n => (n, decide (Lib.itoa n = l))
theorem nStep_64 (neg : Bool) (acc : Int) (c : UInt8) : -9223372036854775808 ≤ nStep neg acc c ∧ nStep neg acc c ≤ 9223372036854775807 := by
  have h : ∀ x, -9223372036854775808 ≤ IntKind.i64.wrap x ∧ IntKind.i64.wrap x ≤ 9223372036854775807 := fun x => by rw [IntKind.wrap_i64]; omega
  unfold nStep
  split
  · exact h _
  · exact h _
theorem numW_64 (neg : Bool) : ∀ (l : List UInt8) (acc n : Int), -9223372036854775808 ≤ acc ∧ acc ≤ 9223372036854775807 → numW neg acc l = some n → -9223372036854775808 ≤ n ∧ n ≤ 9223372036854775807
  | [], acc, n, ha, h => by
    rw [numW, Option.some.injEq] at h
    rw [← h]; exact ha
  | c :: r, acc, n, ha, h => by
    rw [numW] at h
    split at h
    · exact numW_64 neg r _ n (nStep_64 neg acc c) h
    · cases h
theorem numR_64 (l : List UInt8) : -9223372036854775808 ≤ (numR l).1 ∧ (numR l).1 ≤ 9223372036854775807 := by
  unfold numR
  split
  · simp
  · split
    · simp
    · rename_i n h
      exact numW_64 _ _ 0 n (by omega) h
theorem numR_ok {l : List UInt8} (h : (numR l).2 = true) : Lib.itoa (numR l).1 = l := by
  unfold numR at h ⊢
  split at h
  · cases h
  · rename_i h1
    rw [if_neg h1]
    split at h
    · cases h
    · simpa using h
theorem nd_le : ∀ (k u : Nat), u < 10 ^ (k + 1) → Lib.nDigits u ≤ k + 1
  | 0, u, h => by rw [Lib.nDigits_small (by simpa using h)]; omega
  | k + 1, u, h => by
    by_cases h10 : u < 10
    · rw [Lib.nDigits_small h10]; omega
    · rw [Lib.nDigits_big h10]
      have := nd_le k (u / 10) (by rw [Nat.pow_succ] at h; omega)
      omega
theorem dec_19 (u : Nat) (h : u ≤ 9223372036854775808) : (Lib.decDigits u).length ≤ 19 := by
  rw [Lib.decDigits_length]
  exact nd_le 18 u (by omega)
def sg (neg : Bool) (h : Nat) : Int := if neg = true then -(h : Int) else (h : Int)
theorem numW_parse (neg : Bool) : ∀ (l : List UInt8) (acc u : Nat), Lib.parseUint10 acc l = .ok u → numW neg (IntKind.i64.wrap (sg neg acc)) l = some (IntKind.i64.wrap (sg neg u))
  | [], acc, u, h => by
    rw [Lib.parseUint10] at h
    cases h
    rfl
  | c :: r, acc, u, h => by
    rw [Lib.parseUint10] at h
    split at h
    · rename_i hc
      split at h
      · cases h
      · split at h
        · cases h
        · rw [numW, if_pos hc, ← numW_parse neg r _ u h]
          congr 1
          unfold nStep sg
          cases neg
          · simp only [Bool.false_eq_true, if_false, IntKind.wrap_i64]
            omega
          · simp only [if_true, IntKind.wrap_i64]
            omega
    · cases h
theorem numR_itoa (m : Int) (h0 : -9223372036854775808 ≤ m) (h1 : m ≤ 9223372036854775807) : numR (Lib.itoa m) = (m, true) := by
  by_cases hn : m < 0
  · have hi : Lib.itoa m = 45 :: Lib.decDigits m.natAbs := by unfold Lib.itoa; rw [if_pos hn]
    have hg : isNeg (Lib.itoa m) = true := by rw [hi]; rfl
    have hp := numW_parse true _ 0 _ (parse_dec m.natAbs (by omega))
    have hw0 : IntKind.i64.wrap (sg true 0) = 0 := by decide
    have hw : IntKind.i64.wrap (sg true m.natAbs) = m := by
      unfold sg
      rw [if_pos rfl, IntWalk.i64_in _ (by omega)]
      omega
    rw [hw0, hw] at hp
    have hl : (Lib.itoa m).length ≤ 20 := by
      have := dec_19 m.natAbs (by omega)
      rw [hi, List.length_cons]
      omega
    unfold numR
    rw [if_neg (by rw [hi] at hl ⊢; simp at hl ⊢; omega), hg, if_pos rfl, hi, List.tail_cons, hp]
    simp [hi]
  · obtain ⟨u, rfl⟩ : ∃ u : Nat, m = (u : Int) := ⟨m.toNat, by omega⟩
    have hi : Lib.itoa (u : Int) = Lib.decDigits u := by unfold Lib.itoa; rw [if_neg hn, Int.toNat_natCast]
    have hne := dec_ne u
    have hg : isNeg (Lib.itoa (u : Int)) = false := by
      rw [hi]
      unfold isNeg
      rw [decide_eq_false_iff_not]
      intro h
      have := dec_digits u 45 (List.mem_of_mem_head? h)
      have e : (45 : UInt8).toNat = 45 := rfl
      omega
    have hp := numW_parse false _ 0 _ (parse_dec u (by omega))
    have hw0 : IntKind.i64.wrap (sg false 0) = 0 := by decide
    have hw : IntKind.i64.wrap (sg false u) = (u : Int) := by
      unfold sg
      rw [if_neg (by simp), IntWalk.i64_in _ (by omega)]
    rw [hw0, hw] at hp
    have hl : (Lib.itoa (u : Int)).length ≤ 20 := by
      have := dec_19 u (by omega)
      rw [hi]
      omega
    unfold numR
    rw [if_neg (by rw [hi] at hl ⊢; simp [hne]; omega), hg, if_neg (by simp), hi, hp]
    simp [hi]

/-! ### The walk -/
theorem num_ret {x y : Int × Bool} (h : x = y) : Ending.returned (.tuple #[.int .i64 x.1, .bool x.2]) = .returned (.tuple #[.int .i64 y.1, .bool y.2]) := by rw [h]
set_option maxRecDepth 20000 in
set_option maxHeartbeats 8000000 in
theorem number_any (w : World) (s : ByteArray) (l : List UInt8) (hl : s.data.toList = l) (hsz : s.size ≤ 1000000) :
    Calls Tryd.prog 21 #[.string s] w fun x w' => x = .returned (.tuple #[.int .i64 (numR l).1, .bool (numR l).2]) ∧ Upd (fun _ => False) w w' := by
  have hsl : s.size = l.length := by rw [← hl]; simp
  by_cases hz : s.size = 0
  · have hn : numR l = (0, false) := by
      unfold numR
      rw [if_pos (.inl (List.eq_nil_of_length_eq_zero (by omega)))]
    have HN := Lib.hid hn
    clear hn hl hsl
    go_enter Tryd.func21, Tryd.ntmps21
    go_wp2
    go_ret2
    exact ⟨num_ret HN.out.symm, Upd.refl _ _⟩
  · have z1 : ((s.size : Int) == 0) = false := beq_eq_false_iff_ne.2 (by omega)
    by_cases h20 : 20 < s.size
    · have z2 : decide ((20 : Int) < (s.size : Int)) = true := decide_eq_true (by omega)
      have z2' : decide (20 < s.size) = true := decide_eq_true h20
      have hn : numR l = (0, false) := by
        unfold numR
        rw [if_pos (.inr (by omega))]
      have HN := Lib.hid hn
      clear hn hl hsl
      go_enter Tryd.func21, Tryd.ntmps21
      go_wp2
      go_ret2
      exact ⟨num_ret HN.out.symm, Upd.refl _ _⟩
    · have z2 : decide ((20 : Int) < (s.size : Int)) = false := decide_eq_false (by omega)
      have z2' : decide (20 < s.size) = false := decide_eq_false h20
      obtain ⟨neg, hneg⟩ : ∃ neg, neg = isNeg l := ⟨_, rfl⟩
      obtain ⟨B, hB⟩ : ∃ B, B = (if neg = true then l.tail else l) := ⟨_, rfl⟩
      have hnum : numR l = match numW neg 0 B with
          | none => (0, false)
          | some n => (n, decide (Lib.itoa n = l)) := by
        rw [hB, hneg]
        unfold numR
        rw [if_neg (by rintro (h | h); (· rw [h, List.length_nil] at hsl; omega); (· omega))]
      have hget : ∀ j (h : j < s.size), l[j]? = some s[j] := fun j h => by
        rw [← hl, Array.getElem?_toList, Array.getElem?_eq_getElem h]
        rfl
      have h0 : 0 < s.size := by omega
      obtain ⟨c0, hc0⟩ : ∃ c0, s[0]'h0 = c0 := ⟨_, rfl⟩
      have hn45 : neg = decide (c0.toNat = 45) := by
        rw [hneg]
        unfold isNeg
        have h1 := hget 0 h0
        rw [hc0] at h1
        rw [List.head?_eq_getElem?, h1, decide_eq_decide, Option.some.injEq, ← UInt8.toNat_inj]
        exact Iff.rfl
      have Hl := Lib.hid hl
      have HL := Lib.hid hsl
      have HB := Lib.hid hB
      have HNum := Lib.hid hnum
      have HGet := Lib.hid hget
      have HN45 := Lib.hid hn45
      clear hl hsl hneg hB hnum hget hn45
      go_enter Tryd.func21, Tryd.ntmps21
      go_wp2_with fail
      clear z1 z2 z2'
      go_loopw [4, 5] (fun n i wr => ∃ (j : Nat) (acc : Int), j ≤ s.size ∧ i = .int .i64 (j : Int) ∧ n = .int .i64 acc ∧ ((j = 0 ∧ acc = 0) ∨ (1 ≤ j ∧ numW neg acc (l.drop j) = numW neg 0 B)) ∧ wr = w) (fun _ i _ => s.size - (Lib.intOf i).toNat)
      case atStart => exact ⟨0, 0, Nat.zero_le _, rfl, rfl, .inl ⟨rfl, rfl⟩, rfl⟩
      case round =>
        obtain ⟨j, acc, hj, rfl, rfl, hin, ew⟩ := hrel
        have ew' := ew.symm
        subst ew'
        by_cases hjl : j < s.size
        · obtain ⟨c, hc⟩ : ∃ c, s[j]'hjl = c := ⟨_, rfl⟩
          have hlc := HGet.out j hjl
          rw [hc] at hlc
          have hdr : l.drop j = c :: l.drop (j + 1) := by
            obtain ⟨h1, h2⟩ := List.getElem?_eq_some_iff.1 hlc
            rw [List.drop_eq_getElem_cons h1, h2]
          have hgen : ¬ (c.toNat = 45 ∧ j = 0) → numW neg acc (c :: l.drop (j + 1)) = numW neg 0 B := by
            intro hne
            rw [← hdr]
            rcases hin with ⟨rfl, rfl⟩ | ⟨_, h⟩
            · have hcc : c = c0 := by rw [← hc, ← hc0]
              have : neg = false := by
                rw [HN45.out, decide_eq_false_iff_not, ← hcc]
                intro h; exact hne ⟨h, rfl⟩
              rw [HB.out, this, List.drop_zero]
              simp
            · exact h
          have hneg0 : j = 0 → c0 = c := by
            intro h; subst h; rw [← hc, ← hc0]
          have d1 : decide ((j : Int) < (s.size : Int)) = true := decide_eq_true (by omega)
          have d1' : decide (j < s.size) = true := decide_eq_true hjl
          have i5 : (0 : Int) ≤ (j : Int) := by omega
          have i6 : (j : Int) < (s.size : Int) := by omega
          have HDr := Lib.hid hdr
          have HGen := Lib.hid hgen
          have HIn := Lib.hid hin
          have HNeg0 := Lib.hid hneg0
          clear hlc hdr hgen hin hneg0
          by_cases h45 : c.toNat = 45
          · have e45 : ((c.toNat : Int) == 45) = true := by rw [beq_iff_eq]; omega
            by_cases hj0 : j = 0
            · subst hj0
              have hcc := HNeg0.out rfl
              have hrel : acc = 0 ∧ numW neg acc (l.drop 1) = numW neg 0 B := by
                rcases HIn.out with ⟨_, h⟩ | ⟨h, _⟩
                · refine ⟨h, ?_⟩
                  have : neg = true := by rw [HN45.out, hcc]; exact decide_eq_true h45
                  rw [h, HB.out, if_pos this, List.drop_one]
                · omega
              have HRel := Lib.hid hrel
              subst hcc
              clear h45 hrel
              go_wp2_with fail
              go_roundw
              case rel => exact ⟨1, acc, by omega, rfl, rfl, .inr ⟨by omega, HRel.out.2⟩, trivial⟩
              case measure => simp [Lib.intOf]; omega
            · have j0 : ((j : Int) == 0) = false := beq_eq_false_iff_ne.2 (by omega)
              have k1 : decide ((c.toNat : Int) < 48) = true := decide_eq_true (by omega)
              have hno : numR l = (0, false) := by
                rw [HNum.out, ← HGen.out (by omega), numW, if_neg (by omega)]
              have HNo := Lib.hid hno
              clear hno h45 hj0
              go_wp2_with fail
              go_ret2
              exact ⟨num_ret HNo.out.symm, Upd.refl _ _⟩
          · have e45 : ((c.toNat : Int) == 45) = false := beq_eq_false_iff_ne.2 (by omega)
            by_cases hk1 : c.toNat < 48
            · have k1 : decide ((c.toNat : Int) < 48) = true := decide_eq_true (by omega)
              have hno : numR l = (0, false) := by
                rw [HNum.out, ← HGen.out (by omega), numW, if_neg (by omega)]
              have HNo := Lib.hid hno
              clear hno h45 hk1
              go_wp2_with fail
              go_ret2
              exact ⟨num_ret HNo.out.symm, Upd.refl _ _⟩
            · have k1 : decide ((c.toNat : Int) < 48) = false := decide_eq_false (by omega)
              by_cases hk2 : 57 < c.toNat
              · have k2 : decide ((57 : Int) < (c.toNat : Int)) = true := decide_eq_true (by omega)
                have hno : numR l = (0, false) := by
                  rw [HNum.out, ← HGen.out (by omega), numW, if_neg (by omega)]
                have HNo := Lib.hid hno
                clear hno h45 hk1 hk2
                go_wp2_with fail
                go_ret2
                exact ⟨num_ret HNo.out.symm, Upd.refl _ _⟩
              · have k2 : decide ((57 : Int) < (c.toNat : Int)) = false := decide_eq_false (by omega)
                obtain ⟨d, hd⟩ : ∃ d, d = c.toNat - 48 := ⟨_, rfl⟩
                obtain ⟨A, hA⟩ : ∃ A, A = IntKind.i64.wrap (acc * 10) := ⟨_, rfl⟩
                have s1 : IntKind.u8.wrap ((c.toNat : Int) - 48) = (d : Int) := by rw [IntWalk.u8_in _ (by omega)]; omega
                have s2 : IntKind.i64.wrap (d : Int) = (d : Int) := IntWalk.i64_in _ (by omega)
                have s3 : IntKind.i64.wrap (acc * 10) = A := hA.symm
                have s3' : wrap64 (acc * 10) = A := by rw [← IntWalk.i64_left]; exact hA.symm
                have hgn := HGen.out (by omega)
                rw [numW, if_pos (by omega)] at hgn
                have hst : nStep neg acc c = if neg = true then IntKind.i64.wrap (A - (d : Int)) else IntKind.i64.wrap (A + (d : Int)) := by
                  unfold nStep
                  rw [hd, hA]
                have HGn := Lib.hid hgn
                have HSt := Lib.hid hst
                have hn45 := HN45.out
                have HA := Lib.hid hA
                clear hgn hst hd h45 hk1 hk2 hA
                cases neg
                · have e0 : ((c0.toNat : Int) == 45) = false := beq_eq_false_iff_ne.2 (fun h => by
                    have := of_decide_eq_false hn45.symm
                    omega)
                  clear hn45
                  go_wp2_with fail
                  go_roundw
                  case rel => exact ⟨j + 1, _, by omega, by go_num, rfl, .inr ⟨by omega, by rw [← HGn.out, HSt.out, if_neg (by simp), IntWalk.i64_left]⟩, trivial⟩
                  case measure => simp [Lib.intOf]; omega
                · have e0 : ((c0.toNat : Int) == 45) = true := by
                    rw [beq_iff_eq]
                    have := of_decide_eq_true hn45.symm
                    omega
                  clear hn45
                  go_wp2_with fail
                  go_roundw
                  case rel => exact ⟨j + 1, _, by omega, by go_num, rfl, .inr ⟨by omega, by rw [← HGn.out, HSt.out, if_pos rfl, IntWalk.i64_left]⟩, trivial⟩
                  case measure => simp [Lib.intOf]; omega
        · have hje : j = s.size := by omega
          subst hje
          have d1 : decide ((s.size : Int) < (s.size : Int)) = false := decide_eq_false (by omega)
          have hend : numW neg 0 B = some acc := by
            rcases hin with ⟨h, _⟩ | ⟨_, h⟩
            · omega
            · rw [List.drop_eq_nil_of_le (by rw [← HL.out]; omega), numW] at h
              exact h.symm
          have h64 := numW_64 _ _ 0 acc (by omega) hend
          have hn : numR l = (acc, decide (Lib.itoa acc = l)) := by rw [HNum.out, hend]
          have hil := Lib.itoa_length_le acc h64.1 h64.2
          obtain ⟨q, hq⟩ : ∃ q, decide (Lib.itoa acc = l) = q := ⟨_, rfl⟩
          rw [hq] at hn
          have heq : (Lib.itoa acc == s.toList) = q := by
            rw [← hq, ByteArray.toList_eq, Hl.out]
            by_cases h : Lib.itoa acc = l
            · rw [decide_eq_true h, beq_iff_eq]; exact h
            · rw [decide_eq_false h, beq_eq_false_iff_ne]; exact h
          have HN := Lib.hid hn
          have HD := Lib.hid (fun (V : World) => dec_any V acc h64.1 h64.2)
          clear hin hend hn hq
          go_wp2_with fail
          refine (HD.out _).mono ?_
          rintro x w2 ⟨rfl, hu⟩
          have HU := Lib.hid hu
          clear hu
          go_wp2_with fail
          go_ret2
          exact ⟨num_ret HN.out.symm, HU.out⟩
end Go.Proofs.YtlphlaenecidiaaDoor.Scr
