/- A tally is the same as itself. -/
import Derived.Test.YtjlcjcgoaakniaaTally2
import Derived.ChangeKeysEq
namespace Go.Proofs.Ytjlcjcgoaakniaa.Tally
open Go.RowKit Go.Proofs.Ytjlcjcgoaakniaa.Mem Go.Proofs.Ytjlcjcgoaakniaa.Gauge

theorem part_row (F : Nat → Int) (k : Nat) (hk : k < 16) (w : World) : (part 53 (cf 32 F).toArray (k * 2)).run Try.prog w = .ok (two (F (2 * k)) (F (2 * k + 1))) w := by
  have h := run_part Try.prog w 54 53 16 32 F k _ Try.underlying54 Try.underlying53 rfl (by kernel_rfl) hk rfl
  unfold Instr.index at h
  simp only [Sem.run_bind, asIntOf, Sem.run_pure, Result.andThen_ok, run_underlying Try.underlying54 w, ag] at h
  rw [if_pos (by omega)] at h
  simp only [Sem.run_bind, Try.sizeOf53, Result.andThen_ok] at h
  simpa using h

theorem eq_rows (F : Nat → Int) (w : World) (d : Nat) : ∀ is : List Nat, (∀ i ∈ is, i < 16) → (Op.eqItems (d + 2) 53 2 (cf 32 F).toArray (cf 32 F).toArray is).run Try.prog w = .ok true w
  | [], _ => by simp [Op.eqItems]
  | i :: is, h => by
    have hp := part_row F i (h i (by simp)) w
    have ih := eq_rows F w d is (fun j hj => h j (by simp [hj]))
    have he : (Op.equalIn (d + 2) 53 (two (F (2 * i)) (F (2 * i + 1))) (two (F (2 * i)) (F (2 * i + 1)))).run Try.prog w = .ok true w := by
      rw [run_equalIn_agg w (d + 1) 53 _ _ (by kernel_rfl) (by kernel_rfl)]
      rw [show (Program.fieldsOf Try.prog 53).toList = [{ name := "Objects", type := 3, offset := 0, embedded := false, tag := "", pkgPath := "", byteOffset := 0 }, { name := "Words", type := 3, offset := 1, embedded := false, tag := "", pkgPath := "", byteOffset := 8 }] by kernel_rfl]
      simp [Op.eqFields, part, run_equalIn_int w d 3 .i64 .i64 _ _ Try.underlying3]
    simp only [Op.eqItems, Sem.run_bind, hp, he, Result.andThen_ok, Bool.not_true, Bool.false_eq_true, if_false, ih]

theorem same_rows (F : Nat → Int) (w : World) (d : Nat) : (Op.equalIn (d + 3) 54 (ag 32 F) (ag 32 F)).run Try.prog w = .ok true w := by
  obtain ⟨i, hi⟩ := Option.isSome_iff_exists.1 (show (Try.prog.info? 53).isSome = true by kernel_rfl)
  rw [run_equalIn_array w (d + 2) _ _ Try.underlying54 hi]
  rw [show Program.cellsOf Try.prog 53 = 2 by kernel_rfl]
  exact eq_rows F w d _ (fun j hj => by simpa using hj)

theorem part_rows (F : Nat → Int) (w : World) : (part 54 (cf 33 F).toArray 0).run Try.prog w = .ok (ag 32 F) w := by
  unfold part
  simp only [Sem.run_bind, Try.isAgg54, Try.sizeOf54, Result.andThen_ok, if_true, Sem.run_pure]
  have e : (cf 33 F).toArray.extract 0 (0 + 32) = (cf 32 F).toArray := by
    apply Array.ext
    · simp [cf]
    · intro j h1 h2
      rw [Array.getElem_extract]
      simp [cf]
  rw [e]

theorem part_size (F : Nat → Int) (w : World) : (part 3 (cf 33 F).toArray 32).run Try.prog w = .ok (.int .i64 (F 32)) w := by
  have h := field_size F w
  unfold Instr.field at h
  simp only [Sem.run_bind, Try.runUnderlying56, Result.andThen_ok] at h
  simpa [asAgg] using h

theorem tally_fields : (Program.fieldsOf Try.prog 56).toList = [{ name := "Rows", type := 54, offset := 0, embedded := false, tag := "", pkgPath := "", byteOffset := 0 }, { name := "Size", type := 3, offset := 32, embedded := false, tag := "", pkgPath := "", byteOffset := 256 }] := by kernel_rfl

theorem eq_fields2 {P : Program} {w : World} {d : Nat} {xs ys : Array Value} {f g : Field} {a b x y : Value} (hf : f.name ≠ "_") (hg : g.name ≠ "_") (h1 : (part f.type xs f.offset).run P w = .ok a w) (h2 : (part f.type ys f.offset).run P w = .ok b w) (h3 : (Op.equalIn d f.type a b).run P w = .ok true w)
    (g1 : (part g.type xs g.offset).run P w = .ok x w) (g2 : (part g.type ys g.offset).run P w = .ok y w) (g3 : (Op.equalIn d g.type x y).run P w = .ok true w) : (Op.eqFields d xs ys [f, g]).run P w = .ok true w := by
  simp only [Op.eqFields, ne_eq, hf, hg, not_false_eq_true, if_true, Sem.run_bind, h1, h2, h3, g1, g2, g3, Result.andThen_ok, Bool.not_true, Bool.false_eq_true, if_false, Sem.run_pure]

theorem same_in (F : Nat → Int) (w : World) (d : Nat) : (Op.equalIn (d + 4) 56 (ag 33 F) (ag 33 F)).run Try.prog w = .ok true w := by
  have h := run_equalIn_agg (P := Try.prog) w (d + 3) 56 (cf 33 F).toArray (cf 33 F).toArray (by kernel_rfl) (by kernel_rfl)
  rw [tally_fields] at h
  refine h.trans ?_
  refine eq_fields2 (by simp) (by simp) (part_rows F w) (part_rows F w) (same_rows F w d) (part_size F w) (part_size F w) ?_
  rw [run_equalIn_int w (d + 2) 3 .i64 .i64 _ _ Try.underlying3, beq_self_eq_true]

theorem same_tally (F : Nat → Int) (w : World) : (binOp .eql 56 (ag 33 F) (ag 33 F)).run Try.prog w = .ok (.bool true) w := by
  obtain ⟨d, hd⟩ : ∃ d, 10000 = d + 4 := ⟨9996, rfl⟩
  have h := run_eql_struct (P := Try.prog) w 56 (cf 33 F).toArray (cf 33 F).toArray
  rw [hd, same_in] at h
  exact h
end Go.Proofs.Ytjlcjcgoaakniaa.Tally
