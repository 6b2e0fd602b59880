/- Scripts: the library's calls of Parse. -/
import Derived.Test.YtlphlaenecidiaaDoorScr2
import Derived.Test.YtlphlaenecidiaaDoorScrP
import Derived.Lib.SmallJoins
set_option linter.unusedSimpArgs false
namespace Go.Proofs.YtlphlaenecidiaaDoor.Scr
open Go.RowKit Go.Proofs.YtlphlaenecidiaaDoor.Mem

/-- What the library's sentinels hold. -/
def Errs (w : World) : Prop := (∃ t p, w.cell? ⟨2, 0, none⟩ = some (.iface t p)) ∧ ∃ t p, w.cell? ⟨3, 0, none⟩ = some (.iface t p)
theorem Errs.quiet {w w' : World} (T : Errs w) (u : Upd (fun _ => False) w w') : Errs w' := by
  have keep : ∀ {a : Addr} {v : Value}, w.cell? a = some v → w'.cell? a = some v := fun {a} {v} h => by
    rw [World.cell?, u.block _ (World.block_lt_of_cell? w a h) (fun h => h)]
    exact h
  obtain ⟨⟨t, p, h1⟩, t', p', h2⟩ := T
  exact ⟨⟨t, p, keep h1⟩, t', p', keep h2⟩
/-- The number that comes of a part. -/
def numOf (l : List UInt8) : Int := match Lib.atoiAll l with
  | .ok v => v
  | .syntax => 0
  | .range => Lib.atoiSat l
theorem numOf_64 (l : List UInt8) : -9223372036854775808 ≤ numOf l ∧ numOf l ≤ 9223372036854775807 := by
  unfold numOf
  rcases h : Lib.atoiAll l with v | _ | _
  · simp only
    unfold Lib.atoiAll at h
    cases l with
    | nil => cases h
    | cons c r =>
      simp only at h
      split at h
      · cases h
      · cases h
      · rename_i u hu
        by_cases hc : c.toNat = 45
        · simp only [hc, not_true_eq_false, false_and, if_false, true_and, if_true] at h
          split at h
          · cases h
          · cases h; omega
        · simp only [hc, not_false_eq_true, true_and, false_and, if_false] at h
          split at h
          · cases h
          · cases h; omega
  · simp only; omega
  · simp only
    unfold Lib.atoiSat
    split <;> omega
theorem numOf_itoa (n : Int) (h : -9223372036854775808 ≤ n ∧ n ≤ 9223372036854775807) : numOf (Lib.itoa n) = n := by
  unfold numOf
  rw [atoi_itoa n h.1 h.2]
theorem upd_bytes {w : World} (e : TypeId) (t : ByteArray) : Upd (fun _ => False) w (Lib.bytesWorld w e t) :=
  Upd.of_below (Go.Joins.below_bytesWorld _ w e t (Nat.le_refl _)) _
theorem atoi_any (w : World) (R : Errs w) (s : ByteArray) (hs : s.size ≤ 281474976710656) :
    Calls Tryd.prog 19 #[.string s] w fun x w' => (∃ ev, x = .returned (.tuple #[.int .i64 (numOf s.data.toList), ev])) ∧ Upd (fun _ => False) w w' := by
  rcases h : Lib.atoiAll s.data.toList with v | _ | _
  · have hn : numOf s.data.toList = v := by unfold numOf; rw [h]
    rw [hn]
    refine (Tryd.strconv_Atoi_ok s (by omega) v h w).mono (fun x w' hx => ?_)
    obtain ⟨rfl, hw⟩ := hx
    refine ⟨⟨_, rfl⟩, ?_⟩
    rcases hw with rfl | ⟨t, rfl⟩
    · exact Upd.refl _ _
    · exact upd_bytes _ _
  · obtain ⟨⟨t, p, h1⟩, _⟩ := R
    have hn : numOf s.data.toList = 0 := by unfold numOf; rw [h]
    rw [hn]
    refine (Tryd.strconv_Atoi_syntax s hs h _ w h1 (.inr ⟨t, p, rfl⟩)).mono (fun x w' hx => ?_)
    obtain ⟨N, hx, _, _, hb⟩ := hx
    exact ⟨⟨_, hx⟩, Upd.of_below hb _⟩
  · obtain ⟨_, t, p, h1⟩ := R
    have hn : numOf s.data.toList = Lib.atoiSat s.data.toList := by unfold numOf; rw [h]
    rw [hn]
    refine (Tryd.strconv_Atoi_range s hs h _ w h1 (.inr ⟨t, p, rfl⟩)).mono (fun x w' hx => ?_)
    obtain ⟨N, hx, _, _, hb⟩ := hx
    exact ⟨⟨_, hx⟩, Upd.of_below hb _⟩

/-- The words that are looked through. -/
def wordsB : List ByteArray := wordsL.tail.map fun l => ⟨l.toArray⟩
theorem wordsB_cell (w : World) (T : Tabs w) (j : Nat) (h : j < wordsB.length) : w.cell? ⟨0, 1 + j, none⟩ = some (.string (wordsB.getD j ByteArray.empty)) := by
  have hj : j < 12 := h
  obtain ⟨s, hs⟩ : ∃ s, wordsL[1 + j]? = some s := ⟨_, List.getElem?_eq_getElem (by show 1 + j < 13; omega)⟩
  have h1 := T.words (1 + j) s hs
  rw [h1]
  have h2 : wordsB[j]? = some ⟨s.toArray⟩ := by
    rw [wordsB, List.getElem?_map, List.getElem?_tail, Nat.add_comm, hs]
    rfl
  rw [List.getD_eq_getElem?_getD, h2]
  rfl
theorem index_words (w : World) (T : Tabs w) (x : ByteArray) (c : Nat) :
    Calls Tryd.prog 18 #[.slice (some ⟨0, 1, none⟩) 12 c, .string x] w fun e w' => e = .returned (.int .i64 (Lib.idxOfS wordsB x)) ∧ w' = w := by
  have h := Tryd.slices_Index_string 0 1 12 c wordsB x w (by decide) (by decide) (fun j hj => wordsB_cell w T j hj)
  rw [List.take_of_length_le (by decide)] at h
  exact h
end Go.Proofs.YtlphlaenecidiaaDoor.Scr
