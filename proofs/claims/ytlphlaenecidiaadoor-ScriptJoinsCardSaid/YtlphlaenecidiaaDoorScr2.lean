/- Scripts: an entry's line. -/
import Derived.Test.YtlphlaenecidiaaDoorScr1
import Derived.Lib.ItoaLen
set_option linter.unusedSimpArgs false
namespace Go.Proofs.YtlphlaenecidiaaDoor.Scr
open Go.RowKit Go.Proofs.YtlphlaenecidiaaDoor.Mem

theorem Upd.grew {S : Nat → Prop} {a w : World} (h : Upd S a w) (os : Array Obj) : Upd S a (Go.Sort.grow w os) := by
  refine ⟨h.os, h.tape, h.output, ?_, fun k hk hs => ?_⟩
  · show _ ≤ (w.heap ++ os).size
    rw [Array.size_append]
    have := h.size
    omega
  · show (w.heap ++ os)[k]? = _
    rw [Array.getElem?_append_left (by have := h.size; omega)]
    exact h.block k hk hs

/-- An op's word. -/
def wordOf (op : Int) : List UInt8 := wordsL.getD op.toNat []
/-- A good entry's line. -/
def Ent.line (e : Ent) : List UInt8 := wordOf e.op ++ (e.ns.take (manyOf e.op).toNat).flatMap fun n => 32 :: Lib.itoa n
theorem str_eq {s : ByteArray} {l : List UInt8} (h : s.data.toList = l) : s = ⟨l.toArray⟩ := by
  subst h
  rfl
theorem cells_take (e : Ent) (w : World) (b : Nat) (hB : Blk w b e.cells 25) (j : Nat) (x : Int) (hj : e.ns[j]? = some x) : w.cell? ⟨b, 1 + j, none⟩ = some (.int .i64 x) := by
  have := cells_drop e w b 0 hB 1 (by omega) j x (by simpa using hj)
  exact this
set_option maxHeartbeats 4000000 in
theorem text_any (w : World) (T : Tabs w) (e : Ent) (h64 : ∀ x ∈ e.ns, -9223372036854775808 ≤ x ∧ x ≤ 9223372036854775807) :
    Calls Tryd.prog 12 #[e.val] w fun x w' => x = .returned (.string ⟨(if e.good then e.line else []).toArray⟩) ∧ Upd (fun _ => False) w w' := by
  have hu0 := (Upd.refl (fun _ => False) w).alloc (.cells e.cells.toArray 25)
  have hb := Blk.made w e.cells 25
  have hgd := good_any _ (T.quiet hu0) e
  have HU := Lib.hid hu0
  have HB := Lib.hid hb
  have HT := Lib.hid T
  by_cases hg : e.good
  · rw [decide_eq_true hg] at hgd
    have HGd := Lib.hid hgd
    have hm0 := hg.1
    have hop : 1 ≤ e.op ∧ e.op ≤ 12 := by
      unfold manyOf at hm0
      split at hm0
      · assumption
      · omega
    rw [if_pos hg]
    have hr := many_range e.op
    obtain ⟨m, hm⟩ : ∃ m : Nat, manyOf e.op = (m : Int) := ⟨(manyOf e.op).toNat, by omega⟩
    obtain ⟨k, hk⟩ : ∃ k : Nat, e.op = (k : Int) := ⟨e.op.toNat, by omega⟩
    have hkl : k < manyL.length := by simp only [manyL, List.length_cons, List.length_nil]; omega
    have hkw : k < wordsL.length := by simp only [wordsL, List.length_cons, List.length_nil]; omega
    obtain ⟨wd, hwd⟩ : ∃ wd, wordsL[k]? = some wd := ⟨_, List.getElem?_eq_getElem hkw⟩
    have hmn : manyL[k]? = some m := by
      have h2 : manyOf e.op = ((manyL.getD k 0 : Nat) : Int) := by unfold manyOf; rw [if_pos hop, hk, Int.toNat_natCast]
      rw [List.getElem?_eq_getElem hkl]
      rw [List.getD_eq_getElem?_getD, List.getElem?_eq_getElem hkl, Option.getD_some, hm] at h2
      congr 1
      omega
    have hline : e.line = wd ++ (e.ns.take m).flatMap fun n => 32 :: Lib.itoa n := by
      unfold Ent.line wordOf
      rw [hk, Int.toNat_natCast, ← hk, hm, Int.toNat_natCast, List.getD_eq_getElem?_getD, hwd]
      rfl
    have hm4 : m ≤ 4 := by omega
    have HLine := Lib.hid hline
    have H64 := Lib.hid h64
    have HWd := Lib.hid hwd
    have HWl := Lib.hid (show (⟨wd.toArray⟩ : ByteArray).size ≤ 10 + 30 * 0 by
      have h5 := List.mem_of_getElem? hwd
      simp only [wordsL, List.mem_cons, List.not_mem_nil, or_false] at h5
      rcases h5 with rfl | rfl | rfl | rfl | rfl | rfl | rfl | rfl | rfl | rfl | rfl | rfl | rfl <;> decide)
    have HMn := Lib.hid hmn
    have HE0 := Lib.hid hk
    have i1 : (0 : Int) ≤ (k : Int) := by omega
    have i2 : (k : Int) < 13 := by omega
    have i3 : (0 : Int) ≤ (m : Int) := by omega
    have i4 : (m : Int) ≤ 4 := by omega
    clear hgd hg hm0 hop hr hm hkl hkw hwd hmn hline h64 hu0 hb T hk
    go_enter Tryd.func12, Tryd.ntmps12
    go_wp2_with fail
    refine (HGd.out).mono ?_
    rintro x w1 ⟨rfl, hu1⟩
    have hB1 := HB.out.upd hu1 (fun h => h)
    have T1 := (HT.out.quiet HU.out).quiet hu1
    have b0 := hB1.cell 0 rfl
    have bl := hB1.lt
    have c0 := T1.words k wd HWd.out
    have c1 := T1.many k m HMn.out
    have cl := T1.low
    have HB1 := Lib.hid hB1
    have HT1 := Lib.hid T1
    have HU1 := Lib.hid (HU.out.trans hu1)
    rw [HE0.out] at b0
    clear hB1 T1 hu1
    go_wp2_with fail
    clear b0 bl c0 c1 cl
    go_loopw [3, 20] (fun r i wr => ∃ (j : Nat) (s : ByteArray), j ≤ m ∧ i = .int .i64 (j : Int) ∧ r = .string s ∧ s.data.toList = wd ++ ((e.ns.take j).flatMap fun n => 32 :: Lib.itoa n) ∧ s.size ≤ 10 + 30 * j ∧ Upd (fun _ => False) w1 wr) (fun _ i _ => m - (Lib.intOf i).toNat)
    case atStart => exact ⟨0, _, Nat.zero_le _, rfl, rfl, by simp, HWl.out, Upd.refl _ _⟩
    case round =>
      obtain ⟨j, s, hj, rfl, rfl, hs, hsz, hU⟩ := hrel
      have HS := Lib.hid hs
      have HUr := Lib.hid hU
      by_cases hjm : j < m
      · obtain ⟨n, hn⟩ : ∃ n, e.ns[j]? = some n := ⟨_, List.getElem?_eq_getElem (by simp only [Ent.ns, List.length_cons, List.length_nil]; omega)⟩
        have n0 := cells_take e wr w.heap.size (HB1.out.upd hU (fun h => h)) j n hn
        have hb64 := H64.out n (List.mem_of_getElem? hn)
        have hit := Tryd.strconv_Itoa n hb64.1 hb64.2 wr (HT1.out.quiet hU).pow
        have HIt := Lib.hid hit
        have d1 : decide ((j : Int) < (m : Int)) = true := decide_eq_true (by omega)
        have d1' : decide (j < m) = true := decide_eq_true hjm
        have i5 : (0 : Int) ≤ (j : Int) := by omega
        have i6 : (j : Int) < (m : Int) := by omega
        have HN := Lib.hid hn
        have hil := Lib.itoa_length_le n hb64.1 hb64.2
        have q1 : 1 + (Lib.itoa n).length ≤ 9223372036854775807 := by omega
        have q2 : s.size + (1 + (Lib.itoa n).length) ≤ 9223372036854775807 := by omega
        clear hs hU hit hn
        go_wp2_with fail
        refine (HIt.out).mono ?_
        rintro x w2 ⟨rfl, k', os, rfl⟩
        have HU2 := Lib.hid (Upd.grew ((HUr.out).drewN k') os)
        generalize Go.Sort.grow (wr.drewN k') os = w2 at *
        clear n0 HIt
        go_wp2_with fail
        go_roundw
        case rel =>
          refine ⟨j + 1, _, by omega, by go_num, rfl, ?_, ?_, HU2.out⟩
          rotate_left
          · have e1 : (s ++ ((⟨#[32]⟩ : ByteArray) ++ ⟨(Lib.itoa n).toArray⟩)).size = s.size + (1 + (Lib.itoa n).length) := by simp [ByteArray.size_append]; rfl
            omega
          rw [List.take_add_one, HN.out, Option.toList_some, List.flatMap_append, ← List.append_assoc, ← HS.out]
          simp [ByteArray.data_append]
        case measure => simp [Lib.intOf]; omega
      · have hje : j = m := by omega
        subst hje
        clear hs hU
        go_wp2_with fail
        go_ret
        exact ⟨by rw [HLine.out, ← HS.out]; rfl, HU1.out.trans HUr.out⟩
  · rw [decide_eq_false hg] at hgd
    have HGd := Lib.hid hgd
    rw [if_neg hg]
    clear hgd hg hu0 hb T h64
    go_enter Tryd.func12, Tryd.ntmps12
    go_wp2_with fail
    refine (HGd.out).mono ?_
    rintro x w1 ⟨rfl, hu1⟩
    have HU1 := Lib.hid (HU.out.trans hu1)
    clear hu1
    go_wp2
    go_ret
    exact ⟨rfl, HU1.out⟩
end Go.Proofs.YtlphlaenecidiaaDoor.Scr
