/- Scripts: the document's own words: Many, Word, Decimal, Text. -/
import Derived.Test.YtlphlaenecidiaaDoorScr5
set_option linter.unusedSimpArgs false
namespace Go.Proofs.YtlphlaenecidiaaDoor.Scr
open Go.RowKit Go.Proofs.YtlphlaenecidiaaDoor.Mem

theorem op_cases (op : Int) : (op = 1 ∨ op = 2 ∨ op = 3 ∨ op = 4 ∨ op = 5 ∨ op = 6 ∨ op = 7 ∨ op = 8 ∨ op = 9 ∨ op = 10 ∨ op = 11 ∨ op = 12) ∨ (op < 1 ∨ 12 < op) := by omega
set_option maxHeartbeats 4000000 in
theorem manyRef_any (w : World) (op : Int) :
    Calls Tryd.prog 13 #[.int .i64 op] w fun e w' => e = .returned (.int .i64 (manyOf op)) ∧ w' = w := by
  rcases op_cases op with h | h
  · rcases h with rfl | rfl | rfl | rfl | rfl | rfl | rfl | rfl | rfl | rfl | rfl | rfl <;>
    · go_enter Tryd.func13, Tryd.ntmps13
      go_wp2
      go_ret
      exact ⟨ret_i (by decide), rfl⟩
  · have hm : manyOf op = -1 := by unfold manyOf; rw [if_neg (by omega)]
    have HM := Lib.hid hm
    have e1 : (op == 1) = false := beq_eq_false_iff_ne.2 (by omega)
    have e2 : (op == 2) = false := beq_eq_false_iff_ne.2 (by omega)
    have e3 : (op == 3) = false := beq_eq_false_iff_ne.2 (by omega)
    have e4 : (op == 4) = false := beq_eq_false_iff_ne.2 (by omega)
    have e5 : (op == 5) = false := beq_eq_false_iff_ne.2 (by omega)
    have e6 : (op == 6) = false := beq_eq_false_iff_ne.2 (by omega)
    have e7 : (op == 7) = false := beq_eq_false_iff_ne.2 (by omega)
    have e8 : (op == 8) = false := beq_eq_false_iff_ne.2 (by omega)
    have e9 : (op == 9) = false := beq_eq_false_iff_ne.2 (by omega)
    have e10 : (op == 10) = false := beq_eq_false_iff_ne.2 (by omega)
    have e11 : (op == 11) = false := beq_eq_false_iff_ne.2 (by omega)
    have e12 : (op == 12) = false := beq_eq_false_iff_ne.2 (by omega)
    clear hm
    go_enter Tryd.func13, Tryd.ntmps13
    go_wp2
    go_ret
    exact ⟨ret_i HM.out.symm, rfl⟩

/-- An op's word; none. -/
def wordR (op : Int) : List UInt8 := if 1 ≤ op ∧ op ≤ 12 then wordsL.getD op.toNat [] else []
theorem ret_s {s t : List UInt8} (h : s = t) : Ending.returned (.string ⟨s.toArray⟩) = .returned (.string ⟨t.toArray⟩) := by rw [h]
set_option maxHeartbeats 4000000 in
theorem wordRef_any (w : World) (op : Int) :
    Calls Tryd.prog 20 #[.int .i64 op] w fun e w' => e = .returned (.string ⟨(wordR op).toArray⟩) ∧ Upd (fun _ => False) w w' := by
  rcases op_cases op with h | h
  · rcases h with rfl | rfl | rfl | rfl | rfl | rfl | rfl | rfl | rfl | rfl | rfl | rfl <;>
    · go_enter Tryd.func20, Tryd.ntmps20
      go_wp2
      go_ret
      exact ⟨rfl, (Upd.refl _ _).alloc _⟩
  · have hm : wordR op = [] := by unfold wordR; rw [if_neg (by omega)]
    have HM := Lib.hid hm
    clear hm
    rcases h with h | h
    · have d1 : decide (op < 1) = true := decide_eq_true h
      go_enter Tryd.func20, Tryd.ntmps20
      go_wp2
      go_ret
      exact ⟨ret_s HM.out.symm, (Upd.refl _ _).alloc _⟩
    · have d1 : decide (op < 1) = false := decide_eq_false (by omega)
      have d2 : decide (12 < op) = true := decide_eq_true h
      go_enter Tryd.func20, Tryd.ntmps20
      go_wp2
      go_ret
      exact ⟨ret_s HM.out.symm, (Upd.refl _ _).alloc _⟩
end Go.Proofs.YtlphlaenecidiaaDoor.Scr
