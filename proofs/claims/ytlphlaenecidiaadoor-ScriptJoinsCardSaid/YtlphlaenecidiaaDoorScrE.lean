/- Scripts: the same entry. -/
import Derived.Test.YtlphlaenecidiaaDoorScr4
import Derived.ChangeKeysEq
namespace Go.Proofs.YtlphlaenecidiaaDoor.Scr
open Go Go.RowKit

theorem nums_eq (w : World) (a0 a1 a2 a3 b0 b1 b2 b3 : Int) :
    (Op.equalIn 9999 23 (.agg #[.int .i64 a0, .int .i64 a1, .int .i64 a2, .int .i64 a3]) (.agg #[.int .i64 b0, .int .i64 b1, .int .i64 b2, .int .i64 b3])).run Tryd.prog w = .ok (a0 == b0 && (a1 == b1 && (a2 == b2 && a3 == b3))) w := by
  obtain ⟨i, hi⟩ := Option.isSome_iff_exists.1 (show (Tryd.prog.info? 3).isSome = true by kernel_rfl)
  rw [run_equalIn_array w 9998 _ _ Tryd.underlying23 hi]
  rw [show Program.cellsOf Tryd.prog 3 = 1 by kernel_rfl]
  simp only [show List.range 4 = [0, 1, 2, 3] from rfl, Op.eqItems]
  simp [part, run_equalIn_int w 9997 3 .i64 .i64 _ _ Tryd.underlying3]
  by_cases h0 : a0 = b0 <;> by_cases h1 : a1 = b1 <;> by_cases h2 : a2 = b2 <;> by_cases h3 : a3 = b3 <;> simp [h0, h1, h2, h3]
theorem ent_eq (w : World) (a b : Ent) : (binOp .eql 25 a.val b.val).run Tryd.prog w = .ok (.bool (decide (a = b))) w := by
  have h : decide (a = b) = (a.op == b.op && (a.n0 == b.n0 && (a.n1 == b.n1 && (a.n2 == b.n2 && a.n3 == b.n3)))) := by
    rw [Bool.eq_iff_iff]
    simp only [decide_eq_true_iff, Bool.and_eq_true, beq_iff_eq]
    cases a
    cases b
    simp
  rw [h, Ent.val, Ent.val, run_eql_struct, run_equalIn_agg w 9999 25 _ _ (by kernel_rfl) (by kernel_rfl)]
  rw [show (Program.fieldsOf Tryd.prog 25).toList = [{ name := "Op", type := 3, offset := 0, embedded := false, tag := "", pkgPath := "", byteOffset := 0 }, { name := "Numbers", type := 23, offset := 1, embedded := false, tag := "", pkgPath := "", byteOffset := 8 }] by kernel_rfl]
  simp [Op.eqFields, part, run_equalIn_int w 9998 3 .i64 .i64 _ _ Tryd.underlying3, nums_eq]
  by_cases g : a.op = b.op <;> by_cases g0 : a.n0 = b.n0 <;> by_cases g1 : a.n1 = b.n1 <;> by_cases g2 : a.n2 = b.n2 <;> by_cases g3 : a.n3 = b.n3 <;> simp [g, g0, g1, g2, g3]
end Go.Proofs.YtlphlaenecidiaaDoor.Scr
