/- Two tallies together have both's rows, whichever comes first; with an empty one it is the one: the walk of besomlaw19.TallyAdds. -/
import Derived.Test.YtjlcjcgoaakniaaTallyEq
namespace Go.Proofs.Ytjlcjcgoaakniaa.TallyAdds
open Go.RowKit Go.Proofs.Ytjlcjcgoaakniaa.Mem Go.Proofs.Ytjlcjcgoaakniaa.Gauge Go.Proofs.Ytjlcjcgoaakniaa.Tally

def setMany (old : List Value) (o : Nat) : List Value → List Value
  | [] => old
  | v :: r => setMany (old.set o v) (o + 1) r
theorem blk_setMany {b : Nat} {t : TypeId} : ∀ (vs : List Value) (o : Nat) (w : World) (old : List Value), Blk w b old t → Blk (w.setCells b o vs) b (setMany old o vs) t
  | [], _, _, _, h => h
  | v :: r, o, w, old, h => by
    rw [World.setCells]
    exact blk_setMany r (o + 1) _ _ (h.set o v)
theorem setMany_get : ∀ (vs : List Value) (o : Nat) (old : List Value) (i : Nat), o + vs.length ≤ old.length → (setMany old o vs)[i]? = if o ≤ i ∧ i < o + vs.length then vs[i - o]? else old[i]?
  | [], o, old, i, _ => by
    unfold setMany
    rw [if_neg (by intro h; have := h.2; simp only [List.length_nil] at this; omega)]
  | v :: r, o, old, i, h => by
    simp only [List.length_cons] at h ⊢
    unfold setMany
    rw [setMany_get r (o + 1) _ i (by rw [List.length_set]; omega)]
    by_cases h1 : i = o
    · subst h1
      rw [if_neg (by omega), if_pos (by omega), List.getElem?_set_self (by omega), Nat.sub_self]
      rfl
    · by_cases h2 : o + 1 ≤ i ∧ i < o + 1 + r.length
      · rw [if_pos h2, if_pos (by omega), show i - o = (i - (o + 1)) + 1 by omega]
        rfl
      · rw [if_neg h2, if_neg (by omega), List.getElem?_set_ne (fun e => h1 e.symm)]
theorem blk_setCells {w : World} {b : Nat} {t : TypeId} {old vs : List Value} (h : Blk w b old t) (hl : old.length = vs.length) : Blk (w.setCells b 0 vs) b vs t := by
  have := blk_setMany vs 0 w old h
  have e : setMany old 0 vs = vs := by
    apply List.ext_getElem?
    intro i
    rw [setMany_get vs 0 old i (by omega)]
    by_cases hi : i < vs.length
    · rw [if_pos (by omega), Nat.sub_zero]
    · rw [if_neg (by omega), List.getElem?_eq_none (by omega), List.getElem?_eq_none (by omega)]
  rwa [e] at this

theorem keep6' {w w' : World} (h : Upd (fun _ => False) w w') {b1 b2 b3 o1 o2 o3 : Nat} {r1 r2 r3 : List Value} {p q r : Addr} {a b c : Value} (hs : w.rangeAt b1 o1 r1 ∧ w.rangeAt b2 o2 r2 ∧ w.rangeAt b3 o3 r3 ∧ w.cell? p = some a ∧ w.cell? q = some b ∧ w.cell? r = some c) :
    w'.rangeAt b1 o1 r1 ∧ w'.rangeAt b2 o2 r2 ∧ w'.rangeAt b3 o3 r3 ∧ w'.cell? p = some a ∧ w'.cell? q = some b ∧ w'.cell? r = some c :=
  ⟨keepR h hs.1, keepR h hs.2.1, keepR h hs.2.2.1, keep0 h hs.2.2.2.1, keep0 h hs.2.2.2.2.1, keep0 h hs.2.2.2.2.2⟩

/-- At the head of a round. -/
def Looking (A B : Nat → Int) (w : World) (g : Nat) (i : Value) (wr : World) : Prop :=
  ∃ k : Nat, k ≤ 16 ∧ i = .int .i64 (k : Int) ∧ Blk wr w.heap.size (cf 33 A) 56 ∧ Blk wr (w.heap.size + 1) (cf 33 B) 56 ∧ Blk wr g (cf 33 fun i => wadd (A i) (B i)) 56 ∧ Upd (fun _ => False) w wr

attribute [-go_sem] run_eql_struct run_equalIn_agg
set_option maxHeartbeats 1000000 in
attribute [-simp] Try.sizeOf56 in
set_option maxRecDepth 20000 in
theorem law_nat (A B : Nat → Int) (hw : ∀ i, i < 33 → wrap64 (A i) = A i) (w : World) :
    Calls Try.prog 11 #[ag 33 A, ag 33 B] w fun e w' => e = .returned (.bool true) ∧ Below w.heap.size w w' := by
  obtain ⟨n, hn⟩ : ∃ n, n = 33 := ⟨_, rfl⟩
  have hsz : ∀ W : World, (sizeOf 56).run Try.prog W = .ok n W := fun W => by rw [hn]; exact Try.sizeOf56 W
  have hldA : ∀ W : World, W.rangeAt w.heap.size 0 (cf 33 A) → (loadCellsFrom ⟨w.heap.size, 0, none⟩ 0 n #[]).run Try.prog W = .ok (cf 33 A).toArray W := fun W h => by
    rw [hn]; exact run_cells33 _ W _ _ h
  have hldB : ∀ W : World, W.rangeAt (w.heap.size + 1) 0 (cf 33 B) → (loadCellsFrom ⟨w.heap.size + 1, 0, none⟩ 0 n #[]).run Try.prog W = .ok (cf 33 B).toArray W := fun W h => by
    rw [hn]; exact run_cells33 _ W _ _ h
  have HN := Lib.hid hn
  clear hn
  go_enter Try.func11, Try.ntmps11
  go_wp2_with fail
  refine (awake19 _).mono ?_
  rintro e w1 ⟨rfl, hu1⟩
  have hA := ((Blk.made w (cf 33 A) 56).alloc (.cells (cf 33 B).toArray 56)).upd hu1 (fun h => h)
  have hB := (Blk.made' w (.cells (cf 33 A).toArray 56) (cf 33 B) 56).upd hu1 (fun h => h)
  have hla := hldA _ (Blk.range hA 0 33 (by omega))
  have hlb := hldB _ (Blk.range hB 0 33 (by omega))
  go_wp2_with fail
  refine (add_any A B _).mono ?_
  rintro e w2 ⟨rfl, hu2⟩
  have hA2 := hA.upd hu2 (fun h => h)
  have hB2 := hB.upd hu2 (fun h => h)
  have HA := Lib.hid hA2
  have HB := Lib.hid hB2
  clear hA hB hA2 hB2 hla hlb
  go_wp2_with (refine wpList_store_mid rfl 56 _ _ rfl w2.heap.size 0 (cf 33 fun i => wadd (A i) (B i)).toArray rfl rfl ?there (by kernel_rfl) (cf_one _ _) ?_)
  case there =>
    have e : (cf 33 fun i => wadd (A i) (B i)).toArray.size = 33 := by simp [cf]
    have hb : Blk (w2.alloc (.cells (cf 33 fun _ => 0).toArray 56)) w2.heap.size (cf 33 fun _ => 0) 56 := Blk.made w2 _ _
    have ht : (w2.alloc (.cells (cf 33 fun _ => 0).toArray 56)).there w2.heap.size 0 33 := fun j hj => ⟨by rw [hb.cell (0 + j) (cf_get (by omega))]; rfl, hb.frozen (0 + j)⟩
    rw [e]
    exact ht
  obtain ⟨C, hC⟩ : ∃ C : Nat → Int, C = fun i => wadd (A i) (B i) := ⟨_, rfl⟩
  have g1 : w2.heap.size ≠ w.heap.size := by have := HA.out.lt; omega
  have g2 : w2.heap.size ≠ w.heap.size + 1 := by have := HB.out.lt; omega
  have hgs : w.heap.size ≤ w2.heap.size := by have := HA.out.lt; omega
  have hC0 : Blk ((w2.alloc (.cells (cf 33 fun _ => 0).toArray 56)).setCells w2.heap.size 0 (cf 33 fun i => wadd (A i) (B i))) w2.heap.size (cf 33 fun i => wadd (A i) (B i)) 56 :=
    blk_setCells (Blk.made w2 (cf 33 fun _ => 0) _) (by rw [cf_len, cf_len])
  have HC0 := Lib.hid hC0
  have HU1 := Lib.hid hu1
  have HU2 := Lib.hid hu2
  clear hC0 hu1 hu2
  go_loopw [12] (fun i wr => Looking A B w w2.heap.size i wr) (fun i _ => 16 - (intOf i).toNat)
  case atStart =>
    refine ⟨0, by omega, rfl, ?_, ?_, HC0.out, ?_⟩
    · exact (HA.out.alloc _).upd (upd_setCells (S := fun k => k = w2.heap.size) _ (fun _ => rfl) _ _ _ (Upd.refl _ _)) (fun h => g1 h.symm)
    · exact (HB.out.alloc _).upd (upd_setCells (S := fun k => k = w2.heap.size) _ (fun _ => rfl) _ _ _ (Upd.refl _ _)) (fun h => g2 h.symm)
    · exact upd_setCells _ (fun h => by omega) _ _ _ ((((((Upd.refl _ w).alloc _).alloc _).trans HU1.out).trans HU2.out).alloc _)
  case round =>
    obtain ⟨k, hk, rfl, hA, hB, hCb, hU⟩ := hrel
    by_cases hlk : k < 16
    · have d1 : decide ((k : Int) < 16) = true := decide_eq_true (by omega)
      have d2 : decide (k < 16) = true := decide_eq_true hlk
      have i1 : (0 : Int) ≤ (k : Int) := by omega
      have i2 : (k : Int) < 16 := by omega
      have a0 := hA.cell (k * 2) (cf_get (by omega))
      have a1 := hA.cell (k * 2 + 1) (cf_get (by omega))
      have b0 := hB.cell (k * 2) (cf_get (by omega))
      have b1 := hB.cell (k * 2 + 1) (cf_get (by omega))
      have c0 := hCb.cell (k * 2) (cf_get (by omega))
      have c1 := hCb.cell (k * 2 + 1) (cf_get (by omega))
      clear hldA hldB
      go_wp2_with fail
      go_quiet (fail)
      go_wp2
      go_roundw
      case rel => exact ⟨k + 1, by omega, by go_num, hA, hB, hCb, hU.drewN _⟩
      case measure => simp [intOf]; omega
    · have hke : k = 16 := by omega
      subst hke
      have a0 := hA.cell 32 (cf_get (by omega))
      have b0 := hB.cell 32 (cf_get (by omega))
      have c0 := hCb.cell 32 (cf_get (by omega))
      obtain ⟨s, hs⟩ : ∃ s, wrap64 (A 32 + B 32) = s := ⟨_, rfl⟩
      rw [show wadd (A 32) (B 32) = s from hs] at c0
      have hs' : IntKind.i64.wrap (A 32 + B 32) = s := (IntWalk.i64_left _).trans hs
      have ra := Blk.range hA 0 33 (by omega)
      have rb := Blk.range hB 0 33 (by omega)
      have rc := Blk.range hCb 0 33 (by omega)
      simp only [Nat.zero_add] at ra rb rc
      have hldC : ∀ W : World, W.rangeAt w2.heap.size 0 (cf 33 fun i => wadd (A i) (B i)) → (loadCellsFrom ⟨w2.heap.size, 0, none⟩ 0 n #[]).run Try.prog W = .ok (cf 33 fun i => wadd (A i) (B i)).toArray W := fun W h => by
        rw [HN.out]; exact run_cells33 _ W _ _ h
      have hsC := fun W => same_tally (fun i => wadd (A i) (B i)) W
      have hsA := fun W => same_tally A W
      have had : ∀ W : World, Calls Try.prog 31 #[ag 33 B, ag 33 A] W fun e w' => e = .returned (ag 33 fun i => wadd (A i) (B i)) ∧ Upd (fun _ => False) W w' := fun W => by
        have h := add_any B A W
        rw [show (fun i => wadd (B i) (A i)) = fun i => wadd (A i) (B i) from funext fun i => by rw [wadd, wadd, Int.add_comm]] at h
        exact h
      have haz : ∀ W : World, Calls Try.prog 31 #[ag 33 A, .agg #[.int .i64 0, .int .i64 0, .int .i64 0, .int .i64 0, .int .i64 0, .int .i64 0, .int .i64 0, .int .i64 0, .int .i64 0, .int .i64 0, .int .i64 0, .int .i64 0, .int .i64 0, .int .i64 0, .int .i64 0, .int .i64 0, .int .i64 0, .int .i64 0, .int .i64 0, .int .i64 0, .int .i64 0, .int .i64 0, .int .i64 0, .int .i64 0, .int .i64 0, .int .i64 0, .int .i64 0, .int .i64 0, .int .i64 0, .int .i64 0, .int .i64 0, .int .i64 0, .int .i64 0]] W fun e w' => e = .returned (ag 33 A) ∧ Upd (fun _ => False) W w' := fun W => by
        have h := add_any A (fun _ => 0) W
        have e : (ag 33 fun i => wadd (A i) 0) = ag 33 A := ag_congr (fun i hi => by show wrap64 (A i + 0) = A i; rw [Int.add_zero]; exact hw i hi)
        rw [e] at h
        exact h
      have Had := Lib.hid had
      have Haz := Lib.hid haz
      clear had haz hA hB hCb HC0
      go_wp2_with fail
      go_region_held3 (fun W => W.rangeAt w.heap.size 0 (cf 33 A) ∧ W.rangeAt (w.heap.size + 1) 0 (cf 33 B) ∧ W.rangeAt w2.heap.size 0 (cf 33 fun i => wadd (A i) (B i)) ∧ W.cell? ⟨w.heap.size, 32, none⟩ = some (.int .i64 (A 32)) ∧ W.cell? ⟨w.heap.size + 1, 32, none⟩ = some (.int .i64 (B 32)) ∧ W.cell? ⟨w2.heap.size, 32, none⟩ = some (.int .i64 s))
        (first | exact ⟨ra, rb, rc, a0, b0, c0⟩ | exact keep6' hu (by assumption))
        (first | (go_at_call_of 31 (Value.agg (cf 33 B).toArray); refine (Had.out _).mono ?_; rintro e w3 ⟨rfl, hu⟩; have u1 := hu) | (go_at_call_of 31 (Value.agg (cf 33 A).toArray); refine (Haz.out _).mono ?_; rintro e w4 ⟨rfl, hu⟩; have u2 := hu))
      go_wp2
      go_ret
      exact ⟨rfl, (((hU.drewN _).trans u1).trans u2).below (fun _ _ h => h)⟩

theorem ag_of (zs : List Int) (hl : zs.length = 33) : Value.agg (zs.map (Value.int .i64)).toArray = ag 33 fun i => zs.getD i 0 := by
  show Value.agg _ = Value.agg _
  congr 2
  apply List.ext_getElem
  · simp [cf, hl]
  · intro i h1 h2
    have hi : i < zs.length := by simpa using h1
    simp [cf, List.getD_eq_getElem?_getD, List.getElem?_eq_getElem hi]

theorem law (w : World) (zs ys : List Int) (hl : zs.length = 33) (hz : ∀ x ∈ zs, (Lit.int .i64 x).wf = true) (hy : ys.length = 33) :
    Calls Try.prog 11 #[.agg (zs.map (Value.int .i64)).toArray, .agg (ys.map (Value.int .i64)).toArray] w fun e w' => e = .returned (.bool true) ∧ Below w.heap.size w w' := by
  rw [ag_of zs hl, ag_of ys hy]
  refine law_nat _ _ (fun i hi => ?_) w
  have hi' : i < zs.length := by omega
  have e : zs.getD i 0 = zs[i] := by simp [List.getD_eq_getElem?_getD, List.getElem?_eq_getElem hi']
  rw [e]
  have h := hz zs[i] (List.getElem_mem hi')
  simp only [Lit.wf, Bool.and_eq_true, decide_eq_true_eq] at h
  have h1 : IntKind.i64.min = -9223372036854775808 := by decide +kernel
  have h2 : IntKind.i64.max = 9223372036854775807 := by decide +kernel
  rw [h1, h2] at h
  exact IntWalk.wrap64_in _ h
end Go.Proofs.Ytjlcjcgoaakniaa.TallyAdds
