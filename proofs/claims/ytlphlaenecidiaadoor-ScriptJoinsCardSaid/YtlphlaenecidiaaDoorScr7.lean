/- Scripts: the document's own words: Decimal, Text. -/
import Derived.Test.YtlphlaenecidiaaDoorScr6
import Derived.Laws.BytesArg
set_option linter.unusedSimpArgs false
namespace Go.Proofs.YtlphlaenecidiaaDoor.Scr
open Go.RowKit Go.Proofs.YtlphlaenecidiaaDoor.Mem

theorem dec_step (m : Nat) (s : List UInt8) : (if m / 10 = 0 then UInt8.ofNat (48 + m % 10) :: s else Lib.decDigits (m / 10) ++ (UInt8.ofNat (48 + m % 10) :: s)) = Lib.decDigits m ++ s := by
  rw [Lib.decDigits.eq_1 m]
  by_cases h10 : m < 10
  · rw [dif_pos h10, if_pos (by omega)]
    rw [show m % 10 = m by omega]
    rfl
  · rw [dif_neg h10, if_neg (by omega), List.append_assoc]
    rfl
theorem dec_len (u : Nat) (h : u ≤ 9223372036854775807) : (Lib.decDigits u).length ≤ 21 := by
  have := Lib.itoa_length_le (u : Int) (by omega) (by omega)
  rw [show Lib.itoa (u : Int) = Lib.decDigits u by unfold Lib.itoa; rw [if_neg (by omega), Int.toNat_natCast]] at this
  exact this

theorem conv_one (D : Nat) (W : World) :
    (convert 61 9 (.slice (some ⟨W.heap.size, 0, none⟩) 1 1)).run Tryd.prog (W.alloc (.cells #[.int .u8 (D : Int)] 5)) = .ok (.string ⟨#[UInt8.ofNat D]⟩) (W.alloc (.cells #[.int .u8 (D : Int)] 5)) := by
  have h := run_convert_bytes_arg (P := Tryd.prog) (W.alloc (.cells #[.int .u8 (D : Int)] 5)) 61 5 Tryd.underlying61 Tryd.underlying5 W.heap.size 0 1 1 [(D : Int)] rfl (fun i hi => by
    obtain rfl : i = 0 := by omega
    simp) 9 Tryd.underlying9
  rw [h]
  rfl
def sEmpty : Value → Nat
  | .string b => if b.data.toList = [] then 1 else 0
  | _ => 0
theorem str_cons (x : UInt8) (l : List UInt8) : ((⟨#[x]⟩ : ByteArray) ++ (⟨l.toArray⟩ : ByteArray)) = ⟨(x :: l).toArray⟩ := by
  apply ByteArray.ext
  simp [ByteArray.data_append]
theorem sE_cons (x : UInt8) (l : List UInt8) : sEmpty (.string ((⟨#[x]⟩ : ByteArray) ++ (⟨l.toArray⟩ : ByteArray))) = 0 := by
  rw [str_cons]
  simp [sEmpty]
set_option maxRecDepth 20000 in
set_option maxHeartbeats 4000000 in
theorem dec_pos (w : World) (N : Nat) (hN : N ≤ 9223372036854775807) :
    Calls Tryd.prog 25 #[.int .i64 (N : Int)] w fun e w' => e = .returned (.string ⟨(Lib.decDigits N).toArray⟩) ∧ Upd (fun _ => False) w w' := by
  have e1 : ((N : Int) == -9223372036854775808) = false := beq_eq_false_iff_ne.2 (by omega)
  have d1 : decide ((N : Int) < 0) = false := decide_eq_false (by omega)
  have HL := Lib.hid (dec_len N hN)
  go_enter Tryd.func25, Tryd.ntmps25
  go_wp2_with fail
  clear e1 d1
  go_loopw [0, 3] (fun n s wr => ∃ (m : Nat) (l : List UInt8), m ≤ N ∧ n = .int .i64 (m : Int) ∧ s = .string ⟨l.toArray⟩ ∧ ((l = [] ∧ m = N) ∨ (l ≠ [] ∧ (if m = 0 then l else Lib.decDigits m ++ l) = Lib.decDigits N)) ∧ Upd (fun _ => False) w wr) (fun n s _ => (Lib.intOf n).toNat + sEmpty s)
  case atStart => exact ⟨N, [], Nat.le_refl _, rfl, rfl, .inl ⟨rfl, rfl⟩, Upd.refl _ _⟩
  case round =>
    obtain ⟨m, l, hm, rfl, rfl, hl, hU⟩ := hrel
    have HUr := Lib.hid hU
    have hll : l.length ≤ 21 := by
      rcases hl with ⟨rfl, _⟩ | ⟨_, h⟩
      · simp
      · have := HL.out
        rw [← h] at this
        split at this
        · exact this
        · rw [List.length_append] at this; omega
    have HLl := Lib.hid hl
    clear hl hU
    have step : l ≠ [] ∨ m ≠ 0 ∨ True := .inr (.inr trivial)
    clear step
    by_cases hend : m = 0 ∧ l ≠ []
    · obtain ⟨rfl, hne⟩ := hend
      have hd : l = Lib.decDigits N := by
        rcases HLl.out with ⟨h, _⟩ | ⟨_, h⟩
        · exact absurd h hne
        · exact h
      obtain ⟨c, r, rfl⟩ : ∃ c r, l = c :: r := List.exists_cons_of_ne_nil hne
      have HD := Lib.hid hd
      clear hd hne HLl
      go_wp2_with fail
      go_ret
      exact ⟨ret_s HD.out, HUr.out⟩
    · obtain ⟨d, hd⟩ : ∃ d, d = m % 10 := ⟨_, rfl⟩
      obtain ⟨D, hD⟩ : ∃ D, D = 48 + d := ⟨_, rfl⟩
      obtain ⟨q, hq⟩ : ∃ q, q = m / 10 := ⟨_, rfl⟩
      have s1 : (m : Int) % 10 = (d : Int) := by omega
      have s1' : Int.tmod (m : Int) 10 = (d : Int) := by rw [Int.tmod_eq_emod_of_nonneg (by omega)]; exact s1
      have s2 : IntKind.i64.wrap (48 + (d : Int)) = (D : Int) := by rw [IntWalk.i64_in _ (by omega)]; omega
      have s3 : IntKind.u8.wrap (D : Int) = (D : Int) := by unfold IntKind.wrap; simp only [IntKind.bits, IntKind.signed]; simp; omega
      have s4 : (m : Int) / 10 = (q : Int) := by omega
      have s4' : Int.tdiv (m : Int) 10 = (q : Int) := by rw [Int.tdiv_eq_ediv_of_nonneg (by omega)]; exact s4
      have HQ := Lib.hid hq
      have HDd := Lib.hid (show D = 48 + m % 10 by omega)
      have q1 : 1 + l.length ≤ 9223372036854775807 := by omega
      clear hd hD hq
      by_cases hm0 : m = 0
      · have hle : l = [] := by
          rcases l with _ | ⟨c, r⟩
          · rfl
          · exact absurd ⟨hm0, by simp⟩ hend
        subst hm0
        subst hle
        have hcv : ∀ W : World, (convert 61 9 (.slice (some ⟨W.heap.size, 0, none⟩) 1 1)).run Tryd.prog (W.alloc (.cells #[.int .u8 48] 5)) = .ok (.string ⟨#[48]⟩) (W.alloc (.cells #[.int .u8 48] 5)) := conv_one 48
        clear hend
        go_wp2_with fail
        go_roundw
        case rel => exact ⟨0, [48], by omega, rfl, rfl, .inr ⟨by simp, by
          rcases HLl.out with ⟨_, h⟩ | ⟨h, _⟩
          · rw [← h, if_pos rfl, Lib.decDigits, dif_pos (by omega)]; rfl
          · exact absurd rfl h⟩, (HUr.out.alloc _)⟩
        case measure => exact (show 0 + sEmpty (.string ((⟨#[48]⟩ : ByteArray) ++ (⟨([] : List UInt8).toArray⟩ : ByteArray))) < 0 + sEmpty (.string ⟨#[]⟩) by rw [sE_cons]; decide)
      · have hcv := conv_one D
        have g1 : decide ((0 : Int) < (m : Int)) = true := decide_eq_true (by omega)
        have g1' : decide (0 < m) = true := decide_eq_true (by omega)
        clear hend
        go_wp2_with fail
        go_roundw
        case rel => exact ⟨q, UInt8.ofNat D :: l, by have := HQ.out; omega, rfl, by rw [str_cons], .inr ⟨by simp, by
          rcases HLl.out with ⟨h, h2⟩ | ⟨h, h2⟩
          · subst h
            subst h2
            rw [HQ.out, HDd.out, dec_step, List.append_nil]
          · rw [if_neg hm0] at h2
            rw [HQ.out, HDd.out, dec_step, h2]⟩, (HUr.out.alloc _)⟩
        case measure => have h1 := sE_cons (UInt8.ofNat D) l; have h2 := HQ.out; simp only [Lib.intOf, Int.toNat_natCast]; omega
theorem itoa_least : Lib.itoa (-9223372036854775808) = [45, 57, 50, 50, 51, 51, 55, 50, 48, 51, 54, 56, 53, 52, 55, 55, 53, 56, 48, 56] := by
  simp [Lib.itoa, Lib.decDigits]
set_option maxRecDepth 20000 in
set_option maxHeartbeats 4000000 in
/-- The document's decimal is the library's. -/
theorem dec_any (w : World) (n : Int) (h0 : -9223372036854775808 ≤ n) (h1 : n ≤ 9223372036854775807) :
    Calls Tryd.prog 25 #[.int .i64 n] w fun e w' => e = .returned (.string ⟨(Lib.itoa n).toArray⟩) ∧ Upd (fun _ => False) w w' := by
  by_cases hp : 0 ≤ n
  · obtain ⟨N, rfl⟩ : ∃ N : Nat, n = (N : Int) := ⟨n.toNat, by omega⟩
    rw [show Lib.itoa (N : Int) = Lib.decDigits N by unfold Lib.itoa; rw [if_neg (by omega), Int.toNat_natCast]]
    exact dec_pos w N (by omega)
  · by_cases hl : n = -9223372036854775808
    · subst hl
      have HI := Lib.hid itoa_least
      go_enter Tryd.func25, Tryd.ntmps25
      go_wp2
      go_ret
      exact ⟨ret_s HI.out.symm, Upd.refl _ _⟩
    · obtain ⟨N, hN⟩ : ∃ N : Nat, (N : Int) = -n := ⟨(-n).toNat, by omega⟩
      have hi : Lib.itoa n = 45 :: Lib.decDigits N := by
        unfold Lib.itoa
        rw [if_pos (by omega), show n.natAbs = N by omega]
      have hlen := dec_len N (by omega)
      have HI := Lib.hid hi
      have hc := dec_pos w N (by omega)
      rw [hN] at hc
      have HC := Lib.hid hc
      have e1 : (n == -9223372036854775808) = false := beq_eq_false_iff_ne.2 hl
      have d1 : decide (n < 0) = true := decide_eq_true (by omega)
      have s1 : IntKind.i64.wrap (-n) = -n := IntWalk.i64_in _ (by omega)
      have q1 : 1 + (Lib.decDigits N).length ≤ 9223372036854775807 := by omega
      clear hi hc hl hp hN
      go_enter Tryd.func25, Tryd.ntmps25
      go_wp2_with fail
      refine (HC.out).mono ?_
      rintro x w1 ⟨rfl, hu⟩
      have HU := Lib.hid hu
      clear hu
      go_wp2_with fail
      go_ret
      refine ⟨?_, HU.out⟩
      rw [HI.out, str_cons]
      rfl

/-- The four numbers as an array. -/
abbrev Ent.nums (e : Ent) : Value := .agg #[.int .i64 e.n0, .int .i64 e.n1, .int .i64 e.n2, .int .i64 e.n3]
def Ent.numCells (e : Ent) : List Value := [.int .i64 e.n0, .int .i64 e.n1, .int .i64 e.n2, .int .i64 e.n3]
theorem num_cell {e : Ent} {w : World} {b : Nat} (hB : Blk w b e.numCells 23) (j : Nat) (x : Int) (hj : e.ns[j]? = some x) : w.cell? ⟨b, j, none⟩ = some (.int .i64 x) := by
  refine hB.cell j ?_
  rcases j with _ | _ | _ | _ | j
  all_goals simp [Ent.ns] at hj
  all_goals subst hj; rfl
set_option maxRecDepth 20000 in
set_option maxHeartbeats 4000000 in
/-- The document's line of a good entry is its own. -/
theorem textRef_any (w : World) (e : Ent) (h64 : e.in64) (hop : 1 ≤ e.op ∧ e.op ≤ 12) :
    Calls Tryd.prog 15 #[.int .i64 e.op, e.nums] w fun x w' => x = .returned (.string ⟨e.line.toArray⟩) ∧ Upd (fun _ => False) w w' := by
  have hr := many_range e.op
  have hm0 : 0 ≤ manyOf e.op := by unfold manyOf; rw [if_pos hop]; omega
  obtain ⟨m, hm⟩ : ∃ m : Nat, manyOf e.op = (m : Int) := ⟨(manyOf e.op).toNat, by omega⟩
  have hline : e.line = wordR e.op ++ (e.ns.take m).flatMap fun n => 32 :: Lib.itoa n := by
    unfold Ent.line wordOf wordR
    rw [if_pos hop, hm, Int.toNat_natCast]
  have hm4 : m ≤ 4 := by omega
  obtain ⟨wd, hwd⟩ : ∃ wd, wd = wordR e.op := ⟨_, rfl⟩
  have hwl : (⟨wd.toArray⟩ : ByteArray).size ≤ 10 + 30 * 0 := by
    have h2 : wd = wordsL.getD e.op.toNat [] := by rw [hwd]; unfold wordR; rw [if_pos hop]
    obtain ⟨k, hk⟩ : ∃ k : Nat, e.op = (k : Int) := ⟨e.op.toNat, by omega⟩
    rw [hk, Int.toNat_natCast] at h2
    have h13 : k < 13 := by omega
    rw [h2]
    exact (show ∀ k, k < 13 → (⟨(wordsL.getD k []).toArray⟩ : ByteArray).size ≤ 10 + 30 * 0 by decide) k h13
  have hb := Blk.made w e.numCells 23
  have hu0 := (Upd.refl (fun _ => False) w).alloc (.cells e.numCells.toArray 23)
  rw [← hwd] at hline
  have hwr := fun (V : World) => wordRef_any V e.op
  rw [← hwd] at hwr
  have hmr := fun (V : World) => manyRef_any V e.op
  rw [hm] at hmr
  have HLine := Lib.hid hline
  have H64 := Lib.hid h64
  have HWl := Lib.hid hwl
  have HW := Lib.hid hwr
  have HM := Lib.hid hmr
  have HB := Lib.hid hb
  have HU := Lib.hid hu0
  clear hr hm0 hm hline hwd hwl hb hu0 hwr hmr h64 hop
  go_enter Tryd.func15, Tryd.ntmps15
  go_wp2_with fail
  refine (HW.out _).mono ?_
  rintro x w1 ⟨rfl, hu1⟩
  have HB1 := Lib.hid (HB.out.upd hu1 (fun h => h))
  have HU1 := Lib.hid (HU.out.trans hu1)
  clear hu1
  go_wp2_with fail
  go_loopw [5, 6] (fun r i wr => ∃ (j : Nat) (s : ByteArray), j ≤ m ∧ i = .int .i64 (j : Int) ∧ r = .string s ∧ s.data.toList = wd ++ ((e.ns.take j).flatMap fun n => 32 :: Lib.itoa n) ∧ s.size ≤ 10 + 30 * j ∧ Upd (fun _ => False) w1 wr) (fun _ i _ => m - (Lib.intOf i).toNat)
  case atStart => exact ⟨0, _, Nat.zero_le _, rfl, rfl, by simp, HWl.out, Upd.refl _ _⟩
  case round =>
    obtain ⟨j, s, hj, rfl, rfl, hs, hsz, hU⟩ := hrel
    have HS := Lib.hid hs
    have HUr := Lib.hid hU
    by_cases hjm : j < m
    · obtain ⟨n, hn⟩ : ∃ n, e.ns[j]? = some n := ⟨_, List.getElem?_eq_getElem (by simp only [Ent.ns, List.length_cons, List.length_nil]; omega)⟩
      have hBr := HB1.out.upd hU (fun h => h)
      have n0 := num_cell hBr j n hn
      have hb64 := H64.out n (List.mem_of_getElem? hn)
      have HIt := Lib.hid (fun (V : World) => dec_any V n hb64.1 hb64.2)
      have d1 : decide ((j : Int) < (m : Int)) = true := decide_eq_true (by omega)
      have d1' : decide (j < m) = true := decide_eq_true hjm
      have i5 : (0 : Int) ≤ (j : Int) := by omega
      have i6 : (j : Int) < 4 := by omega
      have i7 : j < 4 := by omega
      have HN := Lib.hid hn
      have hil := Lib.itoa_length_le n hb64.1 hb64.2
      have q1 : s.size + 1 ≤ 9223372036854775807 := by omega
      have q2 : s.size + 1 + (Lib.itoa n).length ≤ 9223372036854775807 := by omega
      clear hs hU hn hBr
      go_wp2_with fail
      refine (HM.out _).mono ?_
      rintro x w2 ⟨rfl, rfl⟩
      go_wp2_with fail
      refine (HIt.out _).mono ?_
      rintro x w2 ⟨rfl, hu2⟩
      have HU2 := Lib.hid (HUr.out.trans hu2)
      clear n0 HIt hu2
      go_wp2_with fail
      go_roundw
      case rel =>
        refine ⟨j + 1, _, by omega, by go_num, rfl, ?_, ?_, HU2.out⟩
        rotate_left
        · have e1 : (s ++ (⟨#[32]⟩ : ByteArray) ++ ⟨(Lib.itoa n).toArray⟩).size = s.size + 1 + (Lib.itoa n).length := by simp [ByteArray.size_append]; rfl
          omega
        rw [List.take_add_one, HN.out, Option.toList_some, List.flatMap_append, ← List.append_assoc, ← HS.out]
        simp [ByteArray.data_append]
      case measure => simp [Lib.intOf]; omega
    · have hje : j = m := by omega
      subst hje
      have d1 : decide ((j : Int) < (j : Int)) = false := decide_eq_false (by omega)
      clear hs hU
      go_wp2_with fail
      refine (HM.out _).mono ?_
      rintro x w2 ⟨rfl, rfl⟩
      go_wp2_with fail
      go_ret
      exact ⟨by rw [HLine.out, ← HS.out]; rfl, HU1.out.trans HUr.out⟩
end Go.Proofs.YtlphlaenecidiaaDoor.Scr
