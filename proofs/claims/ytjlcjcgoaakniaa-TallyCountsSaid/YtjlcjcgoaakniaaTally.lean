/- Tallies: rows of 33 numbers; two together. -/
import Derived.Test.YtjlcjcgoaakniaaGauge5
import Derived.Deep.MidRow
import Derived.Deep.RegionHeld3
import Derived.Deep.RegionLaw
namespace Go.Proofs.Ytjlcjcgoaakniaa.Tally
open Go.RowKit Go.Proofs.Ytjlcjcgoaakniaa.Mem Go.Proofs.Ytjlcjcgoaakniaa.Gauge

/-- n numbers as cells. -/
def cf (n : Nat) (f : Nat → Int) : List Value := (List.range n).map fun i => Value.int .i64 (f i)
theorem cf_len (n : Nat) (f : Nat → Int) : (cf n f).length = n := by simp [cf]
theorem cf_get {n : Nat} {f : Nat → Int} {i : Nat} (h : i < n) : (cf n f)[i]? = some (.int .i64 (f i)) := by
  simp [cf, h]
theorem cf_none {n : Nat} {f : Nat → Int} {i : Nat} (h : n ≤ i) : (cf n f)[i]? = none := by
  simp [cf]; exact h
theorem cf_one (n : Nat) (f : Nat → Int) : (cf n f).toArray.all (·.oneCell') = true := by
  rw [Array.all_eq_true_iff_forall_mem]
  intro v hv
  simp [cf] at hv
  obtain ⟨i, _, rfl⟩ := hv
  rfl
theorem cf_congr {n : Nat} {f g : Nat → Int} (h : ∀ i, i < n → f i = g i) : cf n f = cf n g := by
  unfold cf
  apply List.map_congr_left
  intro i hi
  rw [h i (List.mem_range.1 hi)]
theorem cf_set {n : Nat} {f g : Nat → Int} {k : Nat} {x : Int} (hg : ∀ i, i < n → g i = if i = k then x else f i) : (cf n f).set k (.int .i64 x) = cf n g := by
  apply List.ext_getElem?
  intro i
  rw [List.getElem?_set]
  by_cases hn : i < n
  · rw [cf_get hn, cf_get hn, cf_len, hg i hn]
    by_cases hk : k = i
    · subst hk; rw [if_pos rfl, if_pos hn, if_pos rfl]
    · rw [if_neg hk, if_neg (fun h => hk h.symm)]
  · rw [cf_none (by omega), cf_none (by omega), cf_len]
    by_cases hk : k = i
    · subst hk; rw [if_pos rfl, if_neg hn]
    · rw [if_neg hk]
abbrev ag (n : Nat) (f : Nat → Int) : Value := .agg (cf n f).toArray
theorem ag_congr {n : Nat} {f g : Nat → Int} (h : ∀ i, i < n → f i = g i) : ag n f = ag n g := by
  rw [ag, ag, cf_congr h]

@[simp] abbrev two (x y : Int) : Value := .agg #[.int .i64 x, .int .i64 y]
abbrev wadd (x y : Int) : Int := wrap64 (x + y)

theorem last_block (W : World) {n : Nat} {cs : Array Value} {t : TypeId} (h : n = W.heap.size) : (W.alloc (.cells cs t)).heap[n]? = some (.cells cs t (0, 0)) := by
  subst h
  unfold World.alloc
  simp

theorem plus_any (a b c d : Int) (w : World) :
    Calls Try.prog 54 #[two a b, two c d] w fun e w' => e = .returned (two (wadd a c) (wadd b d)) ∧ Upd (fun _ => False) w w' := by
  go_enter Try.func54, Try.ntmps54
  go_wp2
  try simp only [Exit.inBlock, Exit.then]
  refine bodyPost_ret (results_cell_row rfl _ _ (w.heap.size + 2) 53 #[.int .i64 (wadd a c), .int .i64 (wadd b d)] (0, 0) _ rfl ?_ Try.underlying53 rfl (by kernel_rfl)) rfl ?_
  · refine last_block _ ?_
    rw [World.size_alloc, World.size_alloc]
  · exact ⟨rfl, (((Upd.refl _ w).alloc _).alloc _).alloc _⟩

theorem Blk.range {w : World} {b : Nat} {n : Nat} {f : Nat → Int} {t : TypeId} (h : Blk w b (cf n f) t) (o m : Nat) (hm : o + m ≤ n) : w.rangeAt b o (cf m fun i => f (o + i)) := by
  intro j v hv
  have hj : j < m := by
    rcases Nat.lt_or_ge j m with h | h
    · exact h
    · rw [cf_none h] at hv; cases hv
  rw [cf_get hj] at hv
  rw [← hv]
  exact h.cell (o + j) (cf_get (by omega))

/-- A row of two cells out of many. -/
theorem run_part (P : Program) (w : World) (t e : TypeId) (N n : Nat) (f : Nat → Int) (k : Nat) (d : TypeDesc) (hu : P.underlying t = some (.array N e)) (he : P.underlying e = some d) (hd : d.isRow = true) (hi : (P.info? e).map (·.size) = some 2) (hk : k < N) (hn : n = 2 * N) :
    (Instr.index t (ag n f) (.int .i64 (k : Int))).run P w = .ok (two (f (2 * k)) (f (2 * k + 1))) w := by
  have hagg : (isAgg e).run P w = .ok true w := by
    unfold isAgg
    rw [Sem.run_bind, run_underlying he w]
    cases d <;> simp_all
  have hsz : (sizeOf e).run P w = .ok 2 w := by
    cases hq : P.info? e with
    | none => simp [hq] at hi
    | some i =>
      have hs : i.size = 2 := by simpa [hq] using hi
      simp [sizeOf, typeInfo, hq, hs]
  unfold Instr.index
  simp only [Sem.run_bind, asIntOf, Sem.run_pure, Result.andThen_ok, run_underlying hu w, ag]
  rw [if_pos (by omega)]
  simp only [Sem.run_bind, hsz, Result.andThen_ok]
  unfold part
  simp only [Sem.run_bind, hagg, hsz, Result.andThen_ok, if_true, Sem.run_pure]
  congr 2
  apply Array.ext
  · simp [cf]; omega
  · intro j h1 h2
    have hj : j < 2 := by simpa using h2
    rw [Array.getElem_extract]
    simp only [cf, List.getElem_toArray, List.getElem_map, List.getElem_range]
    rcases (show j = 0 ∨ j = 1 by omega) with rfl | rfl
    · show Value.int .i64 (f ((k : Int).toNat * 2 + 0)) = Value.int .i64 (f (2 * k))
      congr 2; omega
    · show Value.int .i64 (f ((k : Int).toNat * 2 + 1)) = Value.int .i64 (f (2 * k + 1))
      congr 2; omega

theorem keep0 {w w' : World} (h : Upd (fun _ => False) w w') {p : Addr} {v : Value} (hc : w.cell? p = some v) : w'.cell? p = some v := by
  have hb := World.block_lt_of_cell? w p hc
  rw [World.cell?, h.block p.block hb (fun x => x)]
  exact hc

theorem cell_old (w : World) (o : Obj) {p : Addr} {v : Value} (hc : w.cell? p = some v) : (w.alloc o).cell? p = some v := by
  have hb := World.block_lt_of_cell? w p hc
  rw [World.cell?_alloc_lt _ _ _ hb]; exact hc

theorem frozen_old (w : World) (o : Obj) {p : Addr} {v : Value} (hc : w.cell? p = some v) (hf : w.frozen? p = false) : (w.alloc o).frozen? p = false := by
  have hb := World.block_lt_of_cell? w p hc
  rw [World.frozen?, Below.heap_alloc w o p.block hb]; exact hf
theorem keepF {w w' : World} (h : Upd (fun _ => False) w w') {p : Addr} {v : Value} (hc : w.cell? p = some v) (hf : w.frozen? p = false) : w'.frozen? p = false := by
  have hb := World.block_lt_of_cell? w p hc
  rw [World.frozen?, h.block p.block hb (fun x => x)]
  exact hf

theorem keep6 {w w' : World} (h : Upd (fun _ => False) w w') {p q r s : Addr} {a b c d : Value} (hs : w.cell? p = some a ∧ w.cell? q = some b ∧ w.cell? r = some c ∧ w.cell? s = some d ∧ w.frozen? p = false ∧ w.frozen? q = false) :
    w'.cell? p = some a ∧ w'.cell? q = some b ∧ w'.cell? r = some c ∧ w'.cell? s = some d ∧ w'.frozen? p = false ∧ w'.frozen? q = false :=
  ⟨keep0 h hs.1, keep0 h hs.2.1, keep0 h hs.2.2.1, keep0 h hs.2.2.2.1, keepF h hs.1 hs.2.2.2.2.1, keepF h hs.2.1 hs.2.2.2.2.2⟩

theorem results_cell_mid {P : Program} {fn : Func} {p : Tmp} {ty : TypeId} (h : fn.results = #[.cell p ty]) (tmps : Array Value) (w : World) (b o : Nat) (cs : List Value) (d : TypeDesc)
    (hp : tmps.getD p undef = .pointer (some ⟨b, o, none⟩)) (hc : w.rangeAt b o cs) (hu : P.underlying ty = some d) (hd : d.isRow = true) (hi : (P.info? ty).map (·.size) = some cs.length) :
    (results fn tmps).run P w = .ok (.agg cs.toArray) w := by
  have hp' : tmps[p]?.getD undef = .pointer (some ⟨b, o, none⟩) := by simpa using hp
  simp [results, h, hp', asAddr, run_loadVar_mid w b o ty cs d hc hu hd hi]

theorem upd_setCells {S : Nat → Prop} {a : World} (b : Nat) (hb : b < a.heap.size → S b) : ∀ (vs : List Value) (o : Nat) (w : World), Upd S a w → Upd S a (w.setCells b o vs)
  | [], _, _, h => h
  | v :: r, o, w, h => by
    rw [World.setCells]
    exact upd_setCells b hb r (o + 1) _ (h.setCell v hb)

def mix (A B : Nat → Int) (n : Nat) (i : Nat) : Int := if i < n then wadd (A i) (B i) else A i

def Going (A B : Nat → Int) (w : World) (i : Value) (wr : World) : Prop :=
  ∃ k : Nat, k ≤ 16 ∧ i = .int .i64 (k : Int) ∧ Blk wr w.heap.size (cf 33 (mix A B (2 * k))) 56 ∧ Blk wr (w.heap.size + 1) (cf 33 B) 56 ∧ Blk wr (w.heap.size + 2) (cf 33 fun _ => 0) 56 ∧ Upd (fun _ => False) w wr

set_option maxRecDepth 20000 in
theorem add_any (A B : Nat → Int) (w : World) :
    Calls Try.prog 31 #[ag 33 A, ag 33 B] w fun e w' => e = .returned (ag 33 fun i => wadd (A i) (B i)) ∧ Upd (fun _ => False) w w' := by
  have hidx : ∀ (w : World) (k : Nat), k < 16 → (Instr.index 54 (ag 32 B) (.int .i64 (k : Int))).run Try.prog w = .ok (two (B (2 * k)) (B (2 * k + 1))) w := fun w k hk =>
    run_part _ w _ 53 16 32 B k _ Try.underlying54 Try.underlying53 rfl (by kernel_rfl) hk rfl
  go_enter Try.func31, Try.ntmps31
  go_wp2_with (refine wpList_load_mid rfl 54 _ rfl (w.heap.size + 1) 0 rfl (cf 32 B) _ ?rng Try.underlying54 rfl (by kernel_rfl) ?_)
  case rng =>
    exact Blk.range (n := 33) ((Blk.made' w _ (cf 33 B) 56).alloc _) 0 32 (by omega)
  go_loopw [9] (fun i wr => Going A B w i wr) (fun i _ => 16 - (intOf i).toNat)
  case atStart =>
    refine ⟨0, by omega, rfl, ?_, ?_, ?_, (((Upd.refl _ w).alloc _).alloc _).alloc _⟩
    · exact ((Blk.made w (cf 33 A) 56).alloc _).alloc _
    · exact (Blk.made' w _ (cf 33 B) 56).alloc _
    · have h := Blk.made ((w.alloc (.cells (cf 33 A).toArray 56)).alloc (.cells (cf 33 B).toArray 56)) (cf 33 fun _ => 0) 56
      rw [World.size_alloc, World.size_alloc] at h
      exact h
  case round =>
    obtain ⟨k, hk, rfl, hA, hB, hR, hU⟩ := hrel
    by_cases hlk : k < 16
    · have d1 : decide ((k : Int) < 16) = true := decide_eq_true (by omega)
      have d2 : decide (k < 16) = true := decide_eq_true hlk
      have hix := hidx wr k hlk
      have a0 := hA.cell (2 * k) (cf_get (by omega))
      have a1 := hA.cell (2 * k + 1) (cf_get (by omega))
      have fz0 := hA.frozen (2 * k)
      have fz1 := hA.frozen (2 * k + 1)
      clear hidx
      go_wp2_with fail
      have e1 : wr.heap.size ≠ w.heap.size := by have := hA.lt; omega
      have b0 := cell_old wr (.cells #[.int .i64 (B (2 * k)), .int .i64 (B (2 * k + 1))] 53) a0
      have b1 := cell_old wr (.cells #[.int .i64 (B (2 * k)), .int .i64 (B (2 * k + 1))] 53) a1
      have n0 := (Blk.made wr [.int .i64 (B (2 * k)), .int .i64 (B (2 * k + 1))] 53).cell 0 rfl
      have n1 := (Blk.made wr [.int .i64 (B (2 * k)), .int .i64 (B (2 * k + 1))] 53).cell 1 rfl
      have N0 := Lib.hid n0
      have N1 := Lib.hid n1
      have B0 := Lib.hid b0
      have B1 := Lib.hid b1
      have F0 := Lib.hid (frozen_old wr (.cells #[.int .i64 (B (2 * k)), .int .i64 (B (2 * k + 1))] 53) a0 fz0)
      have F1 := Lib.hid (frozen_old wr (.cells #[.int .i64 (B (2 * k)), .int .i64 (B (2 * k + 1))] 53) a1 fz1)
      have m2 : 2 * k = k * 2 := by omega
      have f0 := frozen_old wr (.cells #[.int .i64 (B (2 * k)), .int .i64 (B (2 * k + 1))] 53) a0 fz0
      have f1 := frozen_old wr (.cells #[.int .i64 (B (2 * k)), .int .i64 (B (2 * k + 1))] 53) a1 fz1
      have i1 : (0 : Int) ≤ (k : Int) := by omega
      have i2 : (k : Int) < 16 := by omega
      clear N0 N1 B0 B1 F0 F1 m2
      have a0' := b0
      have a1' := b1
      rw [show 2 * k = k * 2 from Nat.mul_comm _ _] at *
      go_region_law (first | (go_simp; go_at_call 54; refine (plus_any _ _ _ _ _).mono ?_; rintro e w2 ⟨rfl, hu⟩; have q0 := keep0 hu b0; have q1 := keep0 hu b1; have q2 := keepF hu b0 f0; have q3 := keepF hu b1 f1))
      go_wp2
      all_goals
        refine ⟨⟨k + 1, by omega, by go_num, ?_, ?_, ?_, ?_⟩, by simp [intOf]; omega⟩
        · have h := ((((hA.alloc (.cells #[.int .i64 (B (k * 2)), .int .i64 (B (k * 2 + 1))] 53)).drew).upd hu (fun h => h)).set (k * 2) (.int .i64 (wadd (mix A B (k * 2) (k * 2)) (B (k * 2))))).set (k * 2 + 1) (.int .i64 (wadd (mix A B (k * 2) (k * 2 + 1)) (B (k * 2 + 1))))
          rw [cf_set (g := fun i => if i = k * 2 then wadd (mix A B (k * 2) (k * 2)) (B (k * 2)) else mix A B (k * 2) i) (fun i _ => rfl), cf_set (g := mix A B (2 * (k + 1))) ?_] at h
          · exact h
          · intro i _
            unfold mix
            by_cases h1 : i = k * 2 + 1
            · subst h1; rw [if_pos rfl, if_pos (by omega), if_neg (by omega)]
            · rw [if_neg h1]
              by_cases h2 : i = k * 2
              · subst h2; rw [if_pos rfl, if_pos (by omega), if_neg (by omega)]
              · rw [if_neg h2]
                by_cases h3 : i < k * 2
                · rw [if_pos h3, if_pos (by omega)]
                · rw [if_neg h3, if_neg (by omega)]
        · exact ((((hB.alloc _).drew).upd hu (fun h => h)).setOther _ (by simp)).setOther _ (by simp)
        · exact ((((hR.alloc _).drew).upd hu (fun h => h)).setOther _ (by simp)).setOther _ (by simp)
        · exact (((((hU.alloc _).drew).trans hu).setCell _ (fun h => by simp at h)).setCell _ (fun h => by simp at h))
    · have hke : k = 16 := by omega
      subst hke
      clear hidx
      have a0 := hA.cell 32 (cf_get (by omega))
      have b0 := hB.cell 32 (cf_get (by omega))
      have fz := hA.frozen 32
      have fR := fun j => hR.frozen j
      rw [show mix A B (2 * 16) 32 = A 32 from rfl] at a0
      have hA2 := hA.set 32 (.int .i64 (wadd (A 32) (B 32)))
      rw [cf_set (g := fun i => wadd (A i) (B i)) ?side] at hA2
      case side =>
        intro i hi
        unfold mix
        by_cases h : i = 32
        · subst h; rw [if_pos rfl]
        · rw [if_neg h, if_pos (by omega)]
      have hR2 := hR.setOther (a := ⟨w.heap.size, 32, none⟩) (.int .i64 (wadd (A 32) (B 32))) (by simp)
      have hr := Blk.range hA2 0 33 (by omega)
      have ht : (wr.setCell ⟨w.heap.size, 32, none⟩ (.int .i64 (wadd (A 32) (B 32)))).there (w.heap.size + 2) 0 33 := fun j hj => ⟨by rw [hR2.cell (0 + j) (cf_get (by omega))]; rfl, hR2.frozen (0 + j)⟩
      have Hr := Lib.hid hr
      have Ht := Lib.hid ht
      have HA := Lib.hid hA
      have HR := Lib.hid hR
      clear hr ht hA hB hR hA2 hR2 fR
      go_wp2_with (first | (refine wpList_load_mid rfl 56 _ rfl w.heap.size 0 rfl (cf 33 fun i => wadd (A i) (B i)) _ (by simpa using Hr.out) Try.underlying56 rfl (by kernel_rfl) ?_) | (refine wpList_store_mid rfl 56 _ _ rfl (w.heap.size + 2) 0 (cf 33 fun i => wadd (A i) (B i)).toArray rfl rfl ?there (by kernel_rfl) (cf_one _ _) ?_))
      case there =>
        have e : (cf 33 fun i => wadd (A i) (B i)).toArray.size = 33 := by simp [cf]
        rw [e]; exact Ht.out
      try simp only [Exit.inBlock, Exit.then]
      refine bodyPost_ret (results_cell_mid rfl _ _ (w.heap.size + 2) 0 (cf 33 fun i => wadd (A i) (B i)) _ rfl ?_ Try.underlying56 rfl (by kernel_rfl)) rfl ?_
      · exact World.rangeAt_setCells_same _ _ _ _ (by rw [cf_len]; exact Ht.out)
      · exact ⟨rfl, upd_setCells _ (fun h => by omega) _ _ _ (hU.setCell _ (fun h => by simp at h))⟩
end Go.Proofs.Ytjlcjcgoaakniaa.Tally
