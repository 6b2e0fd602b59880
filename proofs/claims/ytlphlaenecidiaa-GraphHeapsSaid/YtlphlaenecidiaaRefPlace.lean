/- The document's heap: one object more. -/
import Derived.Test.YtlphlaenecidiaaRefOf
import Derived.Test.YtlphlaenecidiaaRefTop
import Derived.Test.YtlphlaenecidiaaRes2
import Derived.Test.YtlphlaenecidiaaHeap4
set_option linter.unusedSimpArgs false
namespace Go.Proofs.Ytlphlaenecidiaa.Ref
open Go.RowKit Go.Proofs.Ytlphlaenecidiaa.Mem Go.Proofs.Ytlphlaenecidiaa.Obj Go.Proofs.Ytlphlaenecidiaa.Heap

theorem src_own {w : World} {base : Nat} {e : TypeId} {size : Nat} {a : Option Addr} {n c : Nat} {xs : List Value} (h : w.ownsRow base e size (.slice a n c) n xs) : SrcAt w a xs := by
  intro j u hu
  rcases h.2 with ⟨hv, h0⟩ | ⟨g, cap, cur, hv, _, _⟩
  · have hl := h.1
    rw [h0, Nat.zero_mul] at hl
    rw [List.eq_nil_of_length_eq_zero hl] at hu
    simp at hu
  · cases hv
    refine ⟨_, rfl, ?_⟩
    exact h.cells rfl j u hu
theorem ocells_one {w : World} : ∀ {l : List (Ob × Value)} {s : Nat}, (∀ p ∈ l, IntsAt w p.2 p.1.ws) → ∀ u ∈ ocells s l, u.oneCell' = true
  | [], _, _, u, hu => by cases hu
  | (o, v) :: l, s, h, u, hu => by
    rw [ocells, List.mem_append] at hu
    rcases hu with hu | hu
    · obtain ⟨a, c, hv⟩ := (h (o, v) List.mem_cons_self).form
      simp only at hv
      subst hv
      simp only [List.mem_cons, List.not_mem_nil, or_false] at hu
      rcases hu with rfl | rfl | rfl | rfl | rfl <;> rfl
    · exact ocells_one (fun p hp => h p (List.mem_cons_of_mem _ hp)) u hu

theorem blk_src {w : World} {b : Nat} {cs : List Value} {t : TypeId} (h : Blk w b cs t) (j : Nat) (u : Value) (hu : cs[j]? = some u) : w.cell? ((⟨b, 0, none⟩ : Addr).add j) = some u := by
  rw [add_at, Nat.zero_add]
  exact h.cell j hu
theorem cells_new2 (w : World) (o : Obj) (cs : List Value) (t : TypeId) : ∀ (j : Nat) (u : Value), cs[j]? = some u → ((w.alloc o).alloc (.cells cs.toArray t)).cell? ((⟨w.heap.size + 1, 0, none⟩ : Addr).add j) = some u := by
  have h := cells_new (w.alloc o) cs t
  rwa [World.size_alloc] at h
/-- A slice that lies in no block of S. -/
def OffS (S : Nat → Prop) (v : Value) : Prop := ∀ (a : Addr) (n c : Nat), v = .slice (some a) n c → ¬ S a.block
/-- A slice that lies in the world. -/
def InW (w : World) (v : Value) : Prop := ∀ (a : Addr) (n c : Nat), v = .slice (some a) n c → a.block < w.heap.size
theorem IntsAt.updS {S T : Nat → Prop} {w w' : World} {v : Value} {xs : List Int} (h : IntsAt w v xs) (ho : OffS S v) (u : Upd T w w') (hT : ∀ k, T k → S k) : IntsAt w' v xs := by
  obtain ⟨a, cap, rfl, hc, hx⟩ := h
  refine ⟨a, cap, rfl, hc, fun j x hj => ?_⟩
  obtain ⟨b, off, e, h1, h2⟩ := hx j x hj
  subst e
  refine ⟨b, off, rfl, ?_, Nat.lt_of_lt_of_le h2 u.size⟩
  rw [World.cell?, u.block b h2 (fun h => ho _ _ _ rfl (hT _ h))]
  exact h1
/-- The document's heap lies there, its words in no block of S. -/
structure RefAtS (w : World) (base : Nat) (v : Value) (os : List Ob) (S : Nat → Prop) : Prop where
  rows : ∃ L : List (Ob × Value), L.map (·.1) = os ∧ w.ownsRow base 55 5 v os.length (ocells 0 L) ∧ (∀ p ∈ L, IntsAt w p.2 p.1.ws) ∧ ∀ p ∈ L, OffS S p.2 ∧ InW w p.2
  few : os.length ≤ 65536
  good : ∀ o ∈ os, o.good
theorem RefAtS.ref {w : World} {base : Nat} {v : Value} {os : List Ob} {S : Nat → Prop} (h : RefAtS w base v os S) : RefAt w base v os := by
  obtain ⟨L, h1, h2, h3, _⟩ := h.rows
  exact ⟨⟨L, h1, h2, h3⟩, h.few, h.good⟩
theorem RefAtS.upd {S T : Nat → Prop} {w w' : World} {base : Nat} {v : Value} {os : List Ob} (h : RefAtS w base v os S) (u : Upd T w w') (hT : ∀ k, T k → S k) (hv : ∀ g, v.ownBlock = some g → ¬ T g) : RefAtS w' base v os S := by
  obtain ⟨L, h1, h2, h3, h4⟩ := h.rows
  exact ⟨⟨L, h1, own_upd h2 u hv, fun p hp => (h3 p hp).updS (h4 p hp).1 u hT, fun p hp => ⟨(h4 p hp).1, fun a n c e => Nat.lt_of_lt_of_le ((h4 p hp).2 a n c e) u.size⟩⟩, h.few, h.good⟩
theorem RefAtS.quiet {S : Nat → Prop} {w w' : World} {base : Nat} {v : Value} {os : List Ob} (h : RefAtS w base v os S) (u : Upd (fun _ => False) w w') : RefAtS w' base v os S := h.upd u (fun _ h => h.elim) (fun _ _ h => h)
theorem RefAtS.sub {S T : Nat → Prop} {w : World} {base : Nat} {v : Value} {os : List Ob} (h : RefAtS w base v os S) (hT : ∀ k, T k → S k) : RefAtS w base v os T := by
  obtain ⟨L, h1, h2, h3, h4⟩ := h.rows
  exact ⟨⟨L, h1, h2, h3, fun p hp => ⟨fun a n c e ht => (h4 p hp).1 a n c e (hT _ ht), (h4 p hp).2⟩⟩, h.few, h.good⟩
/-- Blocks that are new are none of its. -/
theorem RefAtS.grow {S T : Nat → Prop} {w : World} {base : Nat} {v : Value} {os : List Ob} (h : RefAtS w base v os S) (hT : ∀ k, T k → S k ∨ w.heap.size ≤ k) : RefAtS w base v os T := by
  obtain ⟨L, h1, h2, h3, h4⟩ := h.rows
  refine ⟨⟨L, h1, h2, h3, fun p hp => ⟨fun a n c e ht => ?_, (h4 p hp).2⟩⟩, h.few, h.good⟩
  rcases hT _ ht with h | h
  · exact (h4 p hp).1 a n c e h
  · have := (h4 p hp).2 a n c e
    omega
theorem RefAtS.form {w : World} {base : Nat} {v : Value} {os : List Ob} {S : Nat → Prop} (h : RefAtS w base v os S) : ∃ a cap, v = .slice a os.length cap := h.ref.form

/-- One object more. -/
def RPlaced (w : World) (S : Nat → Prop) (size : Nat) (t : Nat) (os : List Ob) (o : Ob) (e : Ending) (w' : World) : Prop :=
  ∃ v, e = .returned (.tuple #[hv size v, .int .i64 (t : Int), .int .i64 0]) ∧ RefAtS w' w.heap.size v (os ++ [o]) S ∧ Upd (fun _ => False) w w'
/-- Behind the append. -/
def RPut (w w2 : World) (S : Nat → Prop) (size : Nat) (os : List Ob) (o : Ob) (wd : World) : Prop :=
  ∃ (b : Option Addr) (c : Nat), (∀ w', Upd (fun k => k = w.heap.size + 2) wd w' → RefAtS w' w.heap.size (.slice b (os.length + 1) c) (os ++ [o]) S) ∧ Blk wd w.heap.size [.int .i64 (size : Int), .slice b (os.length + 1) c] 30 ∧ Blk wd (w.heap.size + 2) [.int .i64 0, .slice none 0 0] 30 ∧ Upd (fun k => k = w.heap.size) w2 wd

set_option maxRecDepth 20000 in
set_option maxHeartbeats 4000000 in
theorem rplace_any (w : World) (base size : Nat) (v : Value) (os : List Ob) (S : Nat → Prop) (hS : ∀ k, S k → k < w.heap.size) (R : RefAtS w base v os S) (k l p : Nat) (hg : goodB k l p = true) (hroom : top os + 1 + l ≤ size) (hsz : size ≤ 65536) :
    Calls Try.prog 33 #[hv size v, .agg #[.int .i64 (k : Int), .int .i64 (l : Int), .int .i64 (p : Int)]] w (RPlaced w S size (top os) os ⟨k, p, List.replicate l 0⟩) := by
  obtain ⟨j0, hj0, hy0, hy1, hy2⟩ := info_parts infoObj
  obtain ⟨va, vc, rfl⟩ := R.form
  have hmk := run_make_row' (P := Try.prog) 22 3 (.int .i64 0) 8 Try.underlying22 infoInt rfl .i64 .i64 l (by omega) (by omega)
  rw [madeCells_one] at hmk
  obtain ⟨cs0, hcs0⟩ : ∃ cs, cs = List.replicate l (Value.int .i64 0) := ⟨_, rfl⟩
  rw [← hcs0] at hmk
  have HCs := Lib.hid hcs0
  clear hcs0
  have hol : os.length ≤ 65536 := R.few
  have HB0 := Lib.hid (((Blk.made w [.int .i64 (size : Int), .slice va os.length vc] 30).alloc (.cells #[.int .i64 (k : Int), .int .i64 (l : Int), .int .i64 (p : Int)] 53)).alloc (.cells #[.int .i64 0, .slice none 0 0] 30))
  have HB1 := Lib.hid ((Blk.made' w (.cells #[.int .i64 (size : Int), .slice va os.length vc] 30) [.int .i64 (k : Int), .int .i64 (l : Int), .int .i64 (p : Int)] 53).alloc (.cells #[.int .i64 0, .slice none 0 0] 30))
  have HB2 := Lib.hid (Go.Proofs.Ytlphlaenecidiaa.Heap.Blk.made3 w (.cells #[.int .i64 (size : Int), .slice va os.length vc] 30) (.cells #[.int .i64 (k : Int), .int .i64 (l : Int), .int .i64 (p : Int)] 53) [.int .i64 0, .slice none 0 0] 30)
  have hu0 := ((((Upd.refl (fun _ => False) w).alloc (.cells #[.int .i64 (size : Int), .slice va os.length vc] 30)).alloc (.cells #[.int .i64 (k : Int), .int .i64 (l : Int), .int .i64 (p : Int)] 53)).alloc (.cells #[.int .i64 0, .slice none 0 0] 30))
  have HU0 := Lib.hid hu0
  have HR := Lib.hid R
  have HG := Lib.hid hg
  clear hu0 R hg
  go_enter Try.func33, Try.ntmps33
  go_wp2_with fail
  refine (rgood_any _ _ _ _).mono ?_
  rintro e w1 ⟨rfl, hu1⟩
  rw [HG.out]
  have k0 := (HB0.out.upd hu1 (fun h => h)).cell 0 rfl
  have k1 := (HB0.out.upd hu1 (fun h => h)).cell 1 rfl
  have kl := (HB0.out.upd hu1 (fun h => h)).lt
  have HRt := Lib.hid (rtop_any w1 base size _ os (HR.out.ref.quiet (HU0.out.trans hu1)) (by omega))
  have HU1 := Lib.hid hu1
  clear hu1
  go_wp2_with fail
  refine (HRt.out).mono ?_
  rintro e w2 ⟨rfl, hu2⟩
  have HU2 := Lib.hid (HU0.out.trans (HU1.out.trans hu2))
  have HH2 := Lib.hid ((HB0.out.upd HU1.out (fun h => h)).upd hu2 (fun h => h))
  have HD2 := Lib.hid ((HB1.out.upd HU1.out (fun h => h)).upd hu2 (fun h => h))
  have HRs2 := Lib.hid ((HB2.out.upd HU1.out (fun h => h)).upd hu2 (fun h => h))
  have HR2 := Lib.hid (HR.out.quiet HU2.out)
  have c0 := HH2.out.cell 0 rfl
  have c1 := HH2.out.cell 1 rfl
  have q0 := HD2.out.cell 0 rfl
  have q1 := HD2.out.cell 1 rfl
  have q2 := HD2.out.cell 2 rfl
  have hl0 := HH2.out.lt
  have hl1 := HD2.out.lt
  have hl2 := HRs2.out.lt
  have hw2 := HU2.out.size
  obtain ⟨T, hT⟩ : ∃ T, T = top os := ⟨_, rfl⟩
  rw [← hT] at hroom
  have d1 : decide ((size : Int) < (T : Int) + 1 + (l : Int)) = false := decide_eq_false (by omega)
  have HT := Lib.hid hT
  rw [← hT]
  clear hu2 k0 k1 kl hT HRt
  go_wp2
  obtain ⟨L0, hL0, hL1', hL2', hL3'⟩ := HR.out.rows
  have HOff := Lib.hid hL3'
  have hL1 := own_upd hL1' HU2.out (fun _ _ h => h)
  have hL2 : ∀ p ∈ L0, IntsAt w2 p.2 p.1.ws := fun p hp => (hL2' p hp).quiet HU2.out
  have HRw := Lib.hid hL2'
  clear hL1' hL2' hL3'
  have HOL := Lib.hid (show (ocells 0 L0).length = os.length * 5 from hL1.1)
  have HRo := Lib.hid hL2
  have HL1 := Lib.hid hL1
  have HLm := Lib.hid hL0
  clear hL1 hL2 hL0
  have s0 := src_own HL1.out
  have S0 := Lib.hid s0
  have hfin : ∀ (wd w6 : World) (b2 : Option Addr) (c2 : Nat) (mb : Nat), w6.ownsRow w2.heap.size 55 5 (.slice b2 (os.length + 1) c2) (os.length + 1) (ocells 0 L0 ++ [.int .i64 (T : Int), .int .i64 (k : Int), .int .i64 (l : Int), .int .i64 (p : Int), .slice (some ⟨mb, 0, none⟩) l l]) → Blk w6 mb cs0 3 → Blk w6 w.heap.size [.int .i64 (size : Int), .slice va os.length vc] 30 →
      Blk w6 (w.heap.size + 2) [.int .i64 0, .slice none 0 0] 30 → Upd (fun _ => False) w2 w6 → w2.heap.size ≤ mb → wd = w6.setCell ⟨w.heap.size, 1, none⟩ (.slice b2 (os.length + 1) c2) → RPut w w2 S size os ⟨k, p, List.replicate l 0⟩ wd := by
    intro wd w6 b2 c2 mb ho hm hh hr hu hmbl hwd
    subst hwd
    have uset : Upd (fun k => k = w.heap.size) w6 (w6.setCell ⟨w.heap.size, 1, none⟩ (.slice b2 (os.length + 1) c2)) := (Upd.refl _ w6).setCell _ (fun _ => rfl)
    have hmb : mb ≠ w.heap.size := by
      intro e
      rw [e] at hm
      have := (hm.unique hh).2
      exact absurd this (by decide)
    have hmb2 : mb ≠ w.heap.size + 2 := by
      intro e
      rw [e] at hm
      have := (hm.unique hr).2
      exact absurd this (by decide)
    refine ⟨b2, c2, fun w' hw' => ?_, hh.set 1 _, hr.upd uset (by omega), (hu.mono (fun _ _ h => h.elim)).trans uset⟩
    have hall : Upd (fun _ => False) w w' := ((HU2.out.trans hu).next uset (fun i hi h => by omega)).next hw' (fun i hi h => by omega)
    have hown := own_upd ho uset (fun g hg e => own_offR ho hh (by decide) (e ▸ hg))
    have hr' := hr.upd uset (by omega)
    have hown' := own_upd hown hw' (fun g hg e => own_offR hown hr' (by decide) (e ▸ hg))
    have hm' := (hm.upd uset hmb).upd hw' hmb2
    have hlen : os.length ≤ top os := by
      have : ∀ l : List Ob, l.length ≤ top l := by
        intro l
        induction l with
        | nil => exact Nat.le_refl _
        | cons o l ih => rw [top_cons, List.length_cons]; omega
      exact this os
    have hTt := HT.out
    refine ⟨⟨L0 ++ [(⟨k, p, List.replicate l 0⟩, .slice (some ⟨mb, 0, none⟩) l l)], by simp [HLm.out], ?_, fun q hq => ?_, fun q hq => ?_⟩, by rw [List.length_append, List.length_singleton]; omega, fun o ho => ?_⟩
    · rw [ocells_snoc, HLm.out, List.length_append, Nat.zero_add, ← HT.out, List.length_singleton, show Ob.len ⟨k, p, List.replicate l 0⟩ = l by simp [Ob.len]]
      exact own_base hown' HU2.out.size
    · rcases List.mem_append.1 hq with hq | hq
      · exact (HRw.out q hq).quiet hall
      · rw [List.mem_singleton] at hq
        subst hq
        refine ⟨_, l, by simp, by simp, fun j x hj => ⟨mb, 0, rfl, ?_, hm'.lt⟩⟩
        have hj2 : cs0[j]? = some (.int .i64 x) := by
          rw [HCs.out]
          simp only [List.getElem?_replicate] at hj ⊢
          split at hj
          · rename_i h; cases hj; rw [if_pos h]
          · cases hj
        have := hm'.cell j hj2
        rwa [Nat.zero_add]
    · rcases List.mem_append.1 hq with hq | hq
      · exact ⟨(HOff.out q hq).1, fun a n c e => Nat.lt_of_lt_of_le ((HOff.out q hq).2 a n c e) hall.size⟩
      · rw [List.mem_singleton] at hq
        subst hq
        refine ⟨fun a n c e hs => ?_, fun a n c e => ?_⟩
        · cases e
          have h1 := hS _ hs
          have h2 := HU2.out.size
          simp only at h1
          omega
        · cases e
          exact hm'.lt
    · rcases List.mem_append.1 ho with ho | ho
      · exact HR.out.good o ho
      · rw [List.mem_singleton] at ho
        subst ho
        have hb := of_decide_eq_true HG.out
        refine ⟨by simp only; omega, ?_, ?_, fun h => ?_⟩
        · simp only [Ob.len, List.length_replicate]; omega
        · simp only [Ob.len, List.length_replicate]; omega
        · simp only at h ⊢; omega
  have Fin := Lib.hid hfin
  clear s0 hfin
  go_cut [] (fun wd => RPut w w2 S size os ⟨k, p, List.replicate l 0⟩ wd)
  case first =>
    refine wp_region_last (S := (fun V => V.cell? ⟨w.heap.size, 1, none⟩ = some (.slice va os.length vc) ∧ V.cell? ⟨w.heap.size + 1, 0, none⟩ = some (.int .i64 (k : Int)) ∧ V.cell? ⟨w.heap.size + 1, 1, none⟩ = some (.int .i64 (l : Int)) ∧ V.cell? ⟨w.heap.size + 1, 2, none⟩ = some (.int .i64 (p : Int)))) (by kernel_rfl) (by kernel_rfl) ⟨c1, q0, q1, q2⟩ (fun hHeld => ?_)
    simp only [List.pop_toArray, List.dropLast_cons_cons, List.dropLast_singleton, List.size_toArray, List.length_cons, List.length_nil, Nat.reduceAdd, Nat.reduceSub]
    refine take_last (i := 1) (v := ?_) (by rfl) (by kernel_rfl) (by exact (fun _ _ _ h => h)) (by rfl) hHeld ?_ ?_
    rotate_left
    · ((intro V hV; obtain ⟨hV0, hV1, hV2, hV3⟩ := hV; go_simp) <;> (with_reducible rfl))
    try simp only [Act.put, List.setIfInBounds_toArray, List.set_cons_zero, List.set_cons_succ]
    refine take_last (i := 2) (v := ?_) (by rfl) (by kernel_rfl) (by exact (fun _ _ _ h => h)) (by rfl) hHeld ?_ ?_
    rotate_left
    · ((intro V hV; obtain ⟨hV0, hV1, hV2, hV3⟩ := hV; go_simp) <;> (with_reducible rfl))
    try simp only [Act.put, List.setIfInBounds_toArray, List.set_cons_zero, List.set_cons_succ]
    refine take_last (i := 4) (v := ?_) (by rfl) (by kernel_rfl) (by exact (fun _ _ _ h => h)) (by rfl) hHeld ?_ ?_
    rotate_left
    · ((intro V hV; obtain ⟨hV0, hV1, hV2, hV3⟩ := hV; go_simp) <;> (with_reducible rfl))
    try simp only [Act.put, List.setIfInBounds_toArray, List.set_cons_zero, List.set_cons_succ]
    refine take_last (i := 5) (v := ?_) (by rfl) (by kernel_rfl) (by exact (fun _ _ _ h => h)) (by rfl) hHeld ?_ ?_
    rotate_left
    · ((intro V hV; obtain ⟨hV0, hV1, hV2, hV3⟩ := hV; go_simp) <;> (with_reducible rfl))
    try simp only [Act.put, List.setIfInBounds_toArray, List.set_cons_zero, List.set_cons_succ]
    refine take_last (i := 6) (v := ?_) (by rfl) (by kernel_rfl) (by exact (fun _ _ _ h => h)) (by rfl) hHeld ?_ ?_
    rotate_left
    · ((intro V hV; obtain ⟨hV0, hV1, hV2, hV3⟩ := hV; go_simp) <;> (with_reducible rfl))
    try simp only [Act.put, List.setIfInBounds_toArray, List.set_cons_zero, List.set_cons_succ]
    refine take_last (i := 7) (v := ?_) (by rfl) (by kernel_rfl) (by exact (fun _ _ _ h => h)) (by rfl) hHeld ?_ ?_
    rotate_left
    · ((intro V hV; obtain ⟨hV0, hV1, hV2, hV3⟩ := hV; go_simp) <;> (with_reducible rfl))
    try simp only [Act.put, List.setIfInBounds_toArray, List.set_cons_zero, List.set_cons_succ]
    refine both_last 0 8 (by rfl) (by rfl) (by kernel_rfl) (fun KK hK => ?_) (fun KK hK => ?_)
    · go_simp
      refine hK.out _ _ (keep4' ((Upd.refl _ _).alloc _).drew ⟨c1, q0, q1, q2⟩) (fun hHeld => ?_)
      clear hK KK
      try simp only [Act.put, List.setIfInBounds_toArray, List.set_cons_zero, List.set_cons_succ]
      refine both_last 3 8 (by rfl) (by rfl) (by kernel_rfl) (fun KK hK => ?_) (fun KK hK => ?_)
      · have oe := (own_empty w2 55 5 w2.heap.size (by first | exact Nat.le_refl _ | (simp only [World.size_alloc]; omega)))
        have OE := Lib.hid oe
        have SR := Lib.hid (S0.out.quiet ((Upd.refl (fun _ => False) w2).alloc (.cells #[] 55)))
        clear oe
        refine step_app _ (by rfl) _ _ 28 (by rfl) w2.heap.size 55 j0 _ 5 56 Try.underlying28 hj0 hy0 hy1 hy2 rfl (by decide) _ 0 [] (by rfl) OE.out _ _ _ (ocells 0 L0) (by rfl) HOL.out SR.out (ocells_one HRo.out) (by simp only [maxLen]; omega) (by omega) (by simp only [World.size_alloc, World.size_drew]; omega) ?_
        intro v1 w4 ho1 hg1 hat1
        rw [Nat.zero_add, List.nil_append] at ho1
        obtain ⟨b1, c1', rfl⟩ := own_form ho1
        have hcum : Upd (fun _ => False) w2 w4 := (((Upd.refl (fun _ => False) w2).alloc (.cells #[] 55)).drew).grown hg1 (fun g hg hlt => by have h : (w2.heap.size) = g := Option.some.inj hg; omega)
        have p1 := keepC' hcum c1
        have p2 := keepC' hcum q0
        have p3 := keepC' hcum q1
        have p4 := keepC' hcum q2
        have HO1 := Lib.hid ho1
        have HCum := Lib.hid hcum
        have hs4 := hcum.size
        clear ho1 hg1 hat1 hcum
        refine hK.out _ _ ⟨p1, p2, p3, p4⟩ (fun hHeld => ?_)
        clear hK KK
        try simp only [Act.put, List.setIfInBounds_toArray, List.set_cons_zero, List.set_cons_succ]
        refine next_last (i := 8) (by rfl) (by kernel_rfl) (fun KK hK => ?_)
        go_simp
        refine hK.out _ _ (keep4' ((Upd.refl _ _).alloc _) ⟨p1, p2, p3, p4⟩) (fun hHeld => ?_)
        clear hK KK
        try simp only [Act.put, List.setIfInBounds_toArray, List.set_cons_zero, List.set_cons_succ]
        refine take_last (i := 9) (v := ?_) (by rfl) (by kernel_rfl) (by exact (fun _ _ _ h => h)) (by rfl) hHeld ?_ ?_
        rotate_left
        · ((intro V hV; obtain ⟨hV0, hV1, hV2, hV3⟩ := hV; go_simp) <;> (with_reducible rfl))
        try simp only [Act.put, List.setIfInBounds_toArray, List.set_cons_zero, List.set_cons_succ]
        refine next_last (i := 10) (by rfl) (by kernel_rfl) (fun KK hK => ?_)
        go_simp
        refine hK.out _ _ (keep4' (((Upd.refl _ _).alloc _).alloc _) ⟨p1, p2, p3, p4⟩) (fun hHeld => ?_)
        clear hK KK
        try simp only [Act.put, List.setIfInBounds_toArray, List.set_cons_zero, List.set_cons_succ]
        refine next_last (i := 11) (by rfl) (by kernel_rfl) (fun KK hK => ?_)
        have hownW := (HO1.out.alloc (.cells cs0.toArray 3)).alloc (.cells #[.int .i64 (T : Int), .int .i64 (k : Int), .int .i64 (l : Int), .int .i64 (p : Int), .slice (some ⟨(w4.heap.size), 0, none⟩) l l] 55)
        have hMW := ((Blk.made w4 cs0 3).alloc (.cells #[.int .i64 (T : Int), .int .i64 (k : Int), .int .i64 (l : Int), .int .i64 (p : Int), .slice (some ⟨(w4.heap.size), 0, none⟩) l l] 55))
        have hOW := (Blk.made' w4 (.cells cs0.toArray 3) [.int .i64 (T : Int), .int .i64 (k : Int), .int .i64 (l : Int), .int .i64 (p : Int), .slice (some ⟨(w4.heap.size), 0, none⟩) l l] 55)
        have HOwnW := Lib.hid hownW
        have HMW := Lib.hid hMW
        have HOW := Lib.hid hOW
        clear hownW hMW hOW
        refine step_app _ (by rfl) _ _ 28 (by rfl) w2.heap.size 55 j0 _ 5 56 Try.underlying28 hj0 hy0 hy1 hy2 rfl (by decide) _ os.length (ocells 0 L0) (by rfl) HOwnW.out _ _ _ [.int .i64 (T : Int), .int .i64 (k : Int), .int .i64 (l : Int), .int .i64 (p : Int), .slice (some ⟨(w4.heap.size), 0, none⟩) l l] (by rfl) rfl (fun j u hu => ⟨_, rfl, blk_src HOW.out j u hu⟩) (by simp [Value.oneCell']) (by simp only [maxLen]; omega) (by omega) (by first | omega | (simp only [World.size_alloc]; omega)) ?_
        intro v2 w6 ho2 hg2 hat2
        obtain ⟨b2, c2, rfl⟩ := own_form ho2
        have ug : Upd (fun g => (Value.slice b1 os.length c1').ownBlock = some g) ((w4.alloc (.cells cs0.toArray 3)).alloc (.cells #[.int .i64 (T : Int), .int .i64 (k : Int), .int .i64 (l : Int), .int .i64 (p : Int), .slice (some ⟨(w4.heap.size), 0, none⟩) l l] 55)) w6 := (Upd.refl _ _).grown hg2 (fun g hg _ => hg)
        have u6 : Upd (fun g => (Value.slice b1 os.length c1').ownBlock = some g) w4 w6 := (((Upd.refl _ w4).alloc (.cells cs0.toArray 3)).alloc (.cells #[.int .i64 (T : Int), .int .i64 (k : Int), .int .i64 (l : Int), .int .i64 (p : Int), .slice (some ⟨(w4.heap.size), 0, none⟩) l l] 55)).trans ug
        have hnew : ∀ g, (Value.slice b1 os.length c1').ownBlock = some g → w2.heap.size ≤ g := fun g hg => (HO1.out.lt g hg).1
        have hold : ∀ i, i < w2.heap.size → ¬ (Value.slice b1 os.length c1').ownBlock = some i := fun i hi h => by have := hnew i h; omega
        have hH6 := (HH2.out.upd HCum.out (fun h => h)).upd u6 (hold _ hl0)
        have hD6 := (HD2.out.upd HCum.out (fun h => h)).upd u6 (hold _ hl1)
        have hR6 := (HRs2.out.upd HCum.out (fun h => h)).upd u6 (hold _ hl2)
        have hM6 := HMW.out.upd ug (fun h => own_offR HOwnW.out HMW.out (by decide) h)
        have z1 := hH6.cell 1 rfl
        have z2 := hD6.cell 0 rfl
        have z3 := hD6.cell 1 rfl
        have z4 := hD6.cell 2 rfl
        have zf := hH6.frozen 1
        have zl := hH6.lt
        have HU6 := Lib.hid (HCum.out.next u6 (fun i hi h => hold i hi h))
        have HH6 := Lib.hid hH6
        have HR6 := Lib.hid hR6
        have HM6 := Lib.hid hM6
        have HO6 := Lib.hid ho2
        have HD6 := Lib.hid hD6
        clear ug u6 hnew hold hH6 hD6 hR6 hM6 ho2 hg2 hat2
        refine hK.out _ _ ⟨z1, z2, z3, z4⟩ (fun hHeld => ?_)
        clear hK KK
        try simp only [Act.put, List.setIfInBounds_toArray, List.set_cons_zero, List.set_cons_succ]
        refine take_last (i := 12) (v := ?_) (by rfl) (by kernel_rfl) (by exact (fun _ _ _ h => h)) (by rfl) hHeld ?_ ?_
        rotate_left
        · ((intro V hV; obtain ⟨hV0, hV1, hV2, hV3⟩ := hV; go_simp) <;> (with_reducible rfl))
        try simp only [Act.put, List.setIfInBounds_toArray, List.set_cons_zero, List.set_cons_succ]
        refine last_end (by kernel_rfl) (by rfl) (fun KK hK => ?_)
        go_simp
        refine hK.out _ _ ?_
        clear hK KK
        go_wp2_with fail
        go_meet
        case rel => exact Fin.out _ _ _ _ _ HO6.out HM6.out HH6.out HR6.out HU6.out (by omega) rfl
      · go_simp
        refine hK.out _ _ (keep4' (((Upd.refl _ _).alloc _).alloc _).drew ⟨c1, q0, q1, q2⟩) (fun hHeld => ?_)
        clear hK KK
        try simp only [Act.put, List.setIfInBounds_toArray, List.set_cons_zero, List.set_cons_succ]
        refine take_last (i := 9) (v := ?_) (by rfl) (by kernel_rfl) (by exact (fun _ _ _ h => h)) (by rfl) hHeld ?_ ?_
        rotate_left
        · ((intro V hV; obtain ⟨hV0, hV1, hV2, hV3⟩ := hV; go_simp) <;> (with_reducible rfl))
        try simp only [Act.put, List.setIfInBounds_toArray, List.set_cons_zero, List.set_cons_succ]
        refine both_last 3 10 (by rfl) (by rfl) (by kernel_rfl) (fun KK hK => ?_) (fun KK hK => ?_)
        · have oe := (own_empty w2 55 5 w2.heap.size (by first | exact Nat.le_refl _ | (simp only [World.size_alloc]; omega)))
          have oe1 := own_upd oe ((Upd.refl (fun _ => False) _).alloc (.cells cs0.toArray 3)) (fun _ _ h => h)
          have OE := Lib.hid oe1
          have SR := Lib.hid (S0.out.quiet (((Upd.refl (fun _ => False) w2).alloc (.cells #[] 55)).alloc (.cells cs0.toArray 3)))
          clear oe oe1
          refine step_app _ (by rfl) _ _ 28 (by rfl) w2.heap.size 55 j0 _ 5 56 Try.underlying28 hj0 hy0 hy1 hy2 rfl (by decide) _ 0 [] (by rfl) OE.out _ _ _ (ocells 0 L0) (by rfl) HOL.out SR.out (ocells_one HRo.out) (by simp only [maxLen]; omega) (by omega) (by simp only [World.size_alloc, World.size_drew]; omega) ?_
          intro v1 w4 ho1 hg1 hat1
          rw [Nat.zero_add, List.nil_append] at ho1
          obtain ⟨b1, c1', rfl⟩ := own_form ho1
          have hcum : Upd (fun _ => False) w2 w4 := ((((Upd.refl (fun _ => False) w2).alloc (.cells #[] 55)).alloc (.cells cs0.toArray 3)).drew).grown hg1 (fun g hg hlt => by have h : (w2.heap.size) = g := Option.some.inj hg; omega)
          have p1 := keepC' hcum c1
          have p2 := keepC' hcum q0
          have p3 := keepC' hcum q1
          have p4 := keepC' hcum q2
          have hmk4 := (Blk.made' w2 (.cells #[] 55) cs0 3).drew.of_eq (hg1.block (w2.heap.size + 1) (Blk.made' w2 (.cells #[] 55) cs0 3).lt (fun e => by have h : (w2.heap.size + 1) = (w2.heap.size) := Option.some.inj e; omega))
          have HMk4 := Lib.hid hmk4
          clear hmk4
          have HO1 := Lib.hid ho1
          have HCum := Lib.hid hcum
          have hs4 := hcum.size
          clear ho1 hg1 hat1 hcum
          refine hK.out _ _ ⟨p1, p2, p3, p4⟩ (fun hHeld => ?_)
          clear hK KK
          try simp only [Act.put, List.setIfInBounds_toArray, List.set_cons_zero, List.set_cons_succ]
          refine next_last (i := 10) (by rfl) (by kernel_rfl) (fun KK hK => ?_)
          go_simp
          refine hK.out _ _ (keep4' ((Upd.refl _ _).alloc _) ⟨p1, p2, p3, p4⟩) (fun hHeld => ?_)
          clear hK KK
          try simp only [Act.put, List.setIfInBounds_toArray, List.set_cons_zero, List.set_cons_succ]
          refine next_last (i := 11) (by rfl) (by kernel_rfl) (fun KK hK => ?_)
          have hownW := (HO1.out.alloc (.cells #[.int .i64 (T : Int), .int .i64 (k : Int), .int .i64 (l : Int), .int .i64 (p : Int), .slice (some ⟨(w2.heap.size + 1), 0, none⟩) l l] 55))
          have hMW := HMk4.out.alloc (.cells #[.int .i64 (T : Int), .int .i64 (k : Int), .int .i64 (l : Int), .int .i64 (p : Int), .slice (some ⟨(w2.heap.size + 1), 0, none⟩) l l] 55)
          have hOW := (Blk.made w4 [.int .i64 (T : Int), .int .i64 (k : Int), .int .i64 (l : Int), .int .i64 (p : Int), .slice (some ⟨(w2.heap.size + 1), 0, none⟩) l l] 55)
          have HOwnW := Lib.hid hownW
          have HMW := Lib.hid hMW
          have HOW := Lib.hid hOW
          clear hownW hMW hOW
          refine step_app _ (by rfl) _ _ 28 (by rfl) w2.heap.size 55 j0 _ 5 56 Try.underlying28 hj0 hy0 hy1 hy2 rfl (by decide) _ os.length (ocells 0 L0) (by rfl) HOwnW.out _ _ _ [.int .i64 (T : Int), .int .i64 (k : Int), .int .i64 (l : Int), .int .i64 (p : Int), .slice (some ⟨(w2.heap.size + 1), 0, none⟩) l l] (by rfl) rfl (fun j u hu => ⟨_, rfl, blk_src HOW.out j u hu⟩) (by simp [Value.oneCell']) (by simp only [maxLen]; omega) (by omega) (by first | omega | (simp only [World.size_alloc]; omega)) ?_
          intro v2 w6 ho2 hg2 hat2
          obtain ⟨b2, c2, rfl⟩ := own_form ho2
          have ug : Upd (fun g => (Value.slice b1 os.length c1').ownBlock = some g) (w4.alloc (.cells #[.int .i64 (T : Int), .int .i64 (k : Int), .int .i64 (l : Int), .int .i64 (p : Int), .slice (some ⟨(w2.heap.size + 1), 0, none⟩) l l] 55)) w6 := (Upd.refl _ _).grown hg2 (fun g hg _ => hg)
          have u6 : Upd (fun g => (Value.slice b1 os.length c1').ownBlock = some g) w4 w6 := ((Upd.refl _ w4).alloc (.cells #[.int .i64 (T : Int), .int .i64 (k : Int), .int .i64 (l : Int), .int .i64 (p : Int), .slice (some ⟨(w2.heap.size + 1), 0, none⟩) l l] 55)).trans ug
          have hnew : ∀ g, (Value.slice b1 os.length c1').ownBlock = some g → w2.heap.size ≤ g := fun g hg => (HO1.out.lt g hg).1
          have hold : ∀ i, i < w2.heap.size → ¬ (Value.slice b1 os.length c1').ownBlock = some i := fun i hi h => by have := hnew i h; omega
          have hH6 := (HH2.out.upd HCum.out (fun h => h)).upd u6 (hold _ hl0)
          have hD6 := (HD2.out.upd HCum.out (fun h => h)).upd u6 (hold _ hl1)
          have hR6 := (HRs2.out.upd HCum.out (fun h => h)).upd u6 (hold _ hl2)
          have hM6 := HMW.out.upd ug (fun h => own_offR HOwnW.out HMW.out (by decide) h)
          have z1 := hH6.cell 1 rfl
          have z2 := hD6.cell 0 rfl
          have z3 := hD6.cell 1 rfl
          have z4 := hD6.cell 2 rfl
          have zf := hH6.frozen 1
          have zl := hH6.lt
          have HU6 := Lib.hid (HCum.out.next u6 (fun i hi h => hold i hi h))
          have HH6 := Lib.hid hH6
          have HR6 := Lib.hid hR6
          have HM6 := Lib.hid hM6
          have HO6 := Lib.hid ho2
          have HD6 := Lib.hid hD6
          clear ug u6 hnew hold hH6 hD6 hR6 hM6 ho2 hg2 hat2
          refine hK.out _ _ ⟨z1, z2, z3, z4⟩ (fun hHeld => ?_)
          clear hK KK
          try simp only [Act.put, List.setIfInBounds_toArray, List.set_cons_zero, List.set_cons_succ]
          refine take_last (i := 12) (v := ?_) (by rfl) (by kernel_rfl) (by exact (fun _ _ _ h => h)) (by rfl) hHeld ?_ ?_
          rotate_left
          · ((intro V hV; obtain ⟨hV0, hV1, hV2, hV3⟩ := hV; go_simp) <;> (with_reducible rfl))
          try simp only [Act.put, List.setIfInBounds_toArray, List.set_cons_zero, List.set_cons_succ]
          refine last_end (by kernel_rfl) (by rfl) (fun KK hK => ?_)
          go_simp
          refine hK.out _ _ ?_
          clear hK KK
          go_wp2_with fail
          go_meet
          case rel => exact Fin.out _ _ _ _ _ HO6.out HM6.out HH6.out HR6.out HU6.out (by omega) rfl
        · go_simp
          refine hK.out _ _ (keep4' ((((Upd.refl _ _).alloc _).alloc _).alloc _).drew ⟨c1, q0, q1, q2⟩) (fun hHeld => ?_)
          clear hK KK
          try simp only [Act.put, List.setIfInBounds_toArray, List.set_cons_zero, List.set_cons_succ]
          refine next_last (i := 3) (by rfl) (by kernel_rfl) (fun KK hK => ?_)
          have oe := (own_empty w2 55 5 w2.heap.size (by first | exact Nat.le_refl _ | (simp only [World.size_alloc]; omega)))
          have oe1 := own_upd oe ((Upd.refl (fun _ => False) _).alloc (.cells cs0.toArray 3)) (fun _ _ h => h)
          have oe2 := own_upd oe1 ((Upd.refl (fun _ => False) _).alloc (.cells #[.int .i64 (T : Int), .int .i64 (k : Int), .int .i64 (l : Int), .int .i64 (p : Int), .slice (some ⟨(w2.heap.size + 1), 0, none⟩) l l] 55)) (fun _ _ h => h)
          have OE := Lib.hid oe2
          have SR := Lib.hid (S0.out.quiet ((((Upd.refl (fun _ => False) w2).alloc (.cells #[] 55)).alloc (.cells cs0.toArray 3)).alloc (.cells #[.int .i64 (T : Int), .int .i64 (k : Int), .int .i64 (l : Int), .int .i64 (p : Int), .slice (some ⟨(w2.heap.size + 1), 0, none⟩) l l] 55)))
          clear oe oe1 oe2
          refine step_app _ (by rfl) _ _ 28 (by rfl) w2.heap.size 55 j0 _ 5 56 Try.underlying28 hj0 hy0 hy1 hy2 rfl (by decide) _ 0 [] (by rfl) OE.out _ _ _ (ocells 0 L0) (by rfl) HOL.out SR.out (ocells_one HRo.out) (by simp only [maxLen]; omega) (by omega) (by simp only [World.size_alloc, World.size_drew]; omega) ?_
          intro v1 w4 ho1 hg1 hat1
          rw [Nat.zero_add, List.nil_append] at ho1
          obtain ⟨b1, c1', rfl⟩ := own_form ho1
          have hcum : Upd (fun _ => False) w2 w4 := (((((Upd.refl (fun _ => False) w2).alloc (.cells #[] 55)).alloc (.cells cs0.toArray 3)).alloc (.cells #[.int .i64 (T : Int), .int .i64 (k : Int), .int .i64 (l : Int), .int .i64 (p : Int), .slice (some ⟨(w2.heap.size + 1), 0, none⟩) l l] 55)).drew).grown hg1 (fun g hg hlt => by have h : (w2.heap.size) = g := Option.some.inj hg; omega)
          have p1 := keepC' hcum c1
          have p2 := keepC' hcum q0
          have p3 := keepC' hcum q1
          have p4 := keepC' hcum q2
          have hmk4 := ((Blk.made' w2 (.cells #[] 55) cs0 3).alloc (.cells #[.int .i64 (T : Int), .int .i64 (k : Int), .int .i64 (l : Int), .int .i64 (p : Int), .slice (some ⟨(w2.heap.size + 1), 0, none⟩) l l] 55)).drew.of_eq (hg1.block (w2.heap.size + 1) ((Blk.made' w2 (.cells #[] 55) cs0 3).alloc (.cells #[.int .i64 (T : Int), .int .i64 (k : Int), .int .i64 (l : Int), .int .i64 (p : Int), .slice (some ⟨(w2.heap.size + 1), 0, none⟩) l l] 55)).lt (fun e => by have h : (w2.heap.size + 1) = (w2.heap.size) := Option.some.inj e; omega))
          have HMk4 := Lib.hid hmk4
          clear hmk4
          have hob4 := (Go.Proofs.Ytlphlaenecidiaa.Heap.Blk.made3 w2 (.cells #[] 55) (.cells cs0.toArray 3) [.int .i64 (T : Int), .int .i64 (k : Int), .int .i64 (l : Int), .int .i64 (p : Int), .slice (some ⟨(w2.heap.size + 1), 0, none⟩) l l] 55).drew.of_eq (hg1.block (w2.heap.size + 1 + 1) (Go.Proofs.Ytlphlaenecidiaa.Heap.Blk.made3 w2 (.cells #[] 55) (.cells cs0.toArray 3) [.int .i64 (T : Int), .int .i64 (k : Int), .int .i64 (l : Int), .int .i64 (p : Int), .slice (some ⟨(w2.heap.size + 1), 0, none⟩) l l] 55).lt (fun e => by have h : (w2.heap.size + 1 + 1) = (w2.heap.size) := Option.some.inj e; omega))
          have HOb4 := Lib.hid hob4
          clear hob4
          have HO1 := Lib.hid ho1
          have HCum := Lib.hid hcum
          have hs4 := hcum.size
          clear ho1 hg1 hat1 hcum
          refine hK.out _ _ ⟨p1, p2, p3, p4⟩ (fun hHeld => ?_)
          clear hK KK
          try simp only [Act.put, List.setIfInBounds_toArray, List.set_cons_zero, List.set_cons_succ]
          refine next_last (i := 11) (by rfl) (by kernel_rfl) (fun KK hK => ?_)
          have hownW := (HO1.out)
          have hMW := HMk4.out
          have hOW := HOb4.out
          have HOwnW := Lib.hid hownW
          have HMW := Lib.hid hMW
          have HOW := Lib.hid hOW
          clear hownW hMW hOW
          refine step_app _ (by rfl) _ _ 28 (by rfl) w2.heap.size 55 j0 _ 5 56 Try.underlying28 hj0 hy0 hy1 hy2 rfl (by decide) _ os.length (ocells 0 L0) (by rfl) HOwnW.out _ _ _ [.int .i64 (T : Int), .int .i64 (k : Int), .int .i64 (l : Int), .int .i64 (p : Int), .slice (some ⟨(w2.heap.size + 1), 0, none⟩) l l] (by rfl) rfl (fun j u hu => ⟨_, rfl, blk_src HOW.out j u hu⟩) (by simp [Value.oneCell']) (by simp only [maxLen]; omega) (by omega) (by first | omega | (simp only [World.size_alloc]; omega)) ?_
          intro v2 w6 ho2 hg2 hat2
          obtain ⟨b2, c2, rfl⟩ := own_form ho2
          have ug : Upd (fun g => (Value.slice b1 os.length c1').ownBlock = some g) w4 w6 := (Upd.refl _ _).grown hg2 (fun g hg _ => hg)
          have u6 : Upd (fun g => (Value.slice b1 os.length c1').ownBlock = some g) w4 w6 := (Upd.refl _ w4).trans ug
          have hnew : ∀ g, (Value.slice b1 os.length c1').ownBlock = some g → w2.heap.size ≤ g := fun g hg => (HO1.out.lt g hg).1
          have hold : ∀ i, i < w2.heap.size → ¬ (Value.slice b1 os.length c1').ownBlock = some i := fun i hi h => by have := hnew i h; omega
          have hH6 := (HH2.out.upd HCum.out (fun h => h)).upd u6 (hold _ hl0)
          have hD6 := (HD2.out.upd HCum.out (fun h => h)).upd u6 (hold _ hl1)
          have hR6 := (HRs2.out.upd HCum.out (fun h => h)).upd u6 (hold _ hl2)
          have hM6 := HMW.out.upd ug (fun h => own_offR HOwnW.out HMW.out (by decide) h)
          have z1 := hH6.cell 1 rfl
          have z2 := hD6.cell 0 rfl
          have z3 := hD6.cell 1 rfl
          have z4 := hD6.cell 2 rfl
          have zf := hH6.frozen 1
          have zl := hH6.lt
          have HU6 := Lib.hid (HCum.out.next u6 (fun i hi h => hold i hi h))
          have HH6 := Lib.hid hH6
          have HR6 := Lib.hid hR6
          have HM6 := Lib.hid hM6
          have HO6 := Lib.hid ho2
          have HD6 := Lib.hid hD6
          clear ug u6 hnew hold hH6 hD6 hR6 hM6 ho2 hg2 hat2
          refine hK.out _ _ ⟨z1, z2, z3, z4⟩ (fun hHeld => ?_)
          clear hK KK
          try simp only [Act.put, List.setIfInBounds_toArray, List.set_cons_zero, List.set_cons_succ]
          refine take_last (i := 12) (v := ?_) (by rfl) (by kernel_rfl) (by exact (fun _ _ _ h => h)) (by rfl) hHeld ?_ ?_
          rotate_left
          · ((intro V hV; obtain ⟨hV0, hV1, hV2, hV3⟩ := hV; go_simp) <;> (with_reducible rfl))
          try simp only [Act.put, List.setIfInBounds_toArray, List.set_cons_zero, List.set_cons_succ]
          refine last_end (by kernel_rfl) (by rfl) (fun KK hK => ?_)
          go_simp
          refine hK.out _ _ ?_
          clear hK KK
          go_wp2_with fail
          go_meet
          case rel => exact Fin.out _ _ _ _ _ HO6.out HM6.out HH6.out HR6.out HU6.out (by omega) rfl
    · go_simp
      refine hK.out _ _ (keep4' ((Upd.refl _ _).alloc _).drew ⟨c1, q0, q1, q2⟩) (fun hHeld => ?_)
      clear hK KK
      try simp only [Act.put, List.setIfInBounds_toArray, List.set_cons_zero, List.set_cons_succ]
      refine take_last (i := 9) (v := ?_) (by rfl) (by kernel_rfl) (by exact (fun _ _ _ h => h)) (by rfl) hHeld ?_ ?_
      rotate_left
      · ((intro V hV; obtain ⟨hV0, hV1, hV2, hV3⟩ := hV; go_simp) <;> (with_reducible rfl))
      try simp only [Act.put, List.setIfInBounds_toArray, List.set_cons_zero, List.set_cons_succ]
      refine both_last 0 10 (by rfl) (by rfl) (by kernel_rfl) (fun KK hK => ?_) (fun KK hK => ?_)
      · go_simp
        refine hK.out _ _ (keep4' (((Upd.refl _ _).alloc _).alloc _).drew ⟨c1, q0, q1, q2⟩) (fun hHeld => ?_)
        clear hK KK
        try simp only [Act.put, List.setIfInBounds_toArray, List.set_cons_zero, List.set_cons_succ]
        refine both_last 3 10 (by rfl) (by rfl) (by kernel_rfl) (fun KK hK => ?_) (fun KK hK => ?_)
        · have oe := (own_empty (w2.alloc (.cells cs0.toArray 3)) 55 5 w2.heap.size (by first | exact Nat.le_refl _ | (simp only [World.size_alloc]; omega)))
          simp only [World.size_alloc] at oe
          have OE := Lib.hid oe
          have SR := Lib.hid (S0.out.quiet (((Upd.refl (fun _ => False) w2).alloc (.cells cs0.toArray 3)).alloc (.cells #[] 55)))
          clear oe
          refine step_app _ (by rfl) _ _ 28 (by rfl) w2.heap.size 55 j0 _ 5 56 Try.underlying28 hj0 hy0 hy1 hy2 rfl (by decide) _ 0 [] (by rfl) OE.out _ _ _ (ocells 0 L0) (by rfl) HOL.out SR.out (ocells_one HRo.out) (by simp only [maxLen]; omega) (by omega) (by simp only [World.size_alloc, World.size_drew]; omega) ?_
          intro v1 w4 ho1 hg1 hat1
          rw [Nat.zero_add, List.nil_append] at ho1
          obtain ⟨b1, c1', rfl⟩ := own_form ho1
          have hcum : Upd (fun _ => False) w2 w4 := ((((Upd.refl (fun _ => False) w2).alloc (.cells cs0.toArray 3)).alloc (.cells #[] 55)).drew).grown hg1 (fun g hg hlt => by have h : (w2.heap.size + 1) = g := Option.some.inj hg; omega)
          have p1 := keepC' hcum c1
          have p2 := keepC' hcum q0
          have p3 := keepC' hcum q1
          have p4 := keepC' hcum q2
          have hmk4 := ((Blk.made w2 cs0 3).alloc (.cells #[] 55)).drew.of_eq (hg1.block (w2.heap.size) ((Blk.made w2 cs0 3).alloc (.cells #[] 55)).lt (fun e => by have h : (w2.heap.size) = (w2.heap.size + 1) := Option.some.inj e; omega))
          have HMk4 := Lib.hid hmk4
          clear hmk4
          have HO1 := Lib.hid ho1
          have HCum := Lib.hid hcum
          have hs4 := hcum.size
          clear ho1 hg1 hat1 hcum
          refine hK.out _ _ ⟨p1, p2, p3, p4⟩ (fun hHeld => ?_)
          clear hK KK
          try simp only [Act.put, List.setIfInBounds_toArray, List.set_cons_zero, List.set_cons_succ]
          refine next_last (i := 10) (by rfl) (by kernel_rfl) (fun KK hK => ?_)
          go_simp
          refine hK.out _ _ (keep4' ((Upd.refl _ _).alloc _) ⟨p1, p2, p3, p4⟩) (fun hHeld => ?_)
          clear hK KK
          try simp only [Act.put, List.setIfInBounds_toArray, List.set_cons_zero, List.set_cons_succ]
          refine next_last (i := 11) (by rfl) (by kernel_rfl) (fun KK hK => ?_)
          have hownW := (HO1.out.alloc (.cells #[.int .i64 (T : Int), .int .i64 (k : Int), .int .i64 (l : Int), .int .i64 (p : Int), .slice (some ⟨(w2.heap.size), 0, none⟩) l l] 55))
          have hMW := HMk4.out.alloc (.cells #[.int .i64 (T : Int), .int .i64 (k : Int), .int .i64 (l : Int), .int .i64 (p : Int), .slice (some ⟨(w2.heap.size), 0, none⟩) l l] 55)
          have hOW := (Blk.made w4 [.int .i64 (T : Int), .int .i64 (k : Int), .int .i64 (l : Int), .int .i64 (p : Int), .slice (some ⟨(w2.heap.size), 0, none⟩) l l] 55)
          have HOwnW := Lib.hid hownW
          have HMW := Lib.hid hMW
          have HOW := Lib.hid hOW
          clear hownW hMW hOW
          refine step_app _ (by rfl) _ _ 28 (by rfl) w2.heap.size 55 j0 _ 5 56 Try.underlying28 hj0 hy0 hy1 hy2 rfl (by decide) _ os.length (ocells 0 L0) (by rfl) HOwnW.out _ _ _ [.int .i64 (T : Int), .int .i64 (k : Int), .int .i64 (l : Int), .int .i64 (p : Int), .slice (some ⟨(w2.heap.size), 0, none⟩) l l] (by rfl) rfl (fun j u hu => ⟨_, rfl, blk_src HOW.out j u hu⟩) (by simp [Value.oneCell']) (by simp only [maxLen]; omega) (by omega) (by first | omega | (simp only [World.size_alloc]; omega)) ?_
          intro v2 w6 ho2 hg2 hat2
          obtain ⟨b2, c2, rfl⟩ := own_form ho2
          have ug : Upd (fun g => (Value.slice b1 os.length c1').ownBlock = some g) (w4.alloc (.cells #[.int .i64 (T : Int), .int .i64 (k : Int), .int .i64 (l : Int), .int .i64 (p : Int), .slice (some ⟨(w2.heap.size), 0, none⟩) l l] 55)) w6 := (Upd.refl _ _).grown hg2 (fun g hg _ => hg)
          have u6 : Upd (fun g => (Value.slice b1 os.length c1').ownBlock = some g) w4 w6 := ((Upd.refl _ w4).alloc (.cells #[.int .i64 (T : Int), .int .i64 (k : Int), .int .i64 (l : Int), .int .i64 (p : Int), .slice (some ⟨(w2.heap.size), 0, none⟩) l l] 55)).trans ug
          have hnew : ∀ g, (Value.slice b1 os.length c1').ownBlock = some g → w2.heap.size ≤ g := fun g hg => (HO1.out.lt g hg).1
          have hold : ∀ i, i < w2.heap.size → ¬ (Value.slice b1 os.length c1').ownBlock = some i := fun i hi h => by have := hnew i h; omega
          have hH6 := (HH2.out.upd HCum.out (fun h => h)).upd u6 (hold _ hl0)
          have hD6 := (HD2.out.upd HCum.out (fun h => h)).upd u6 (hold _ hl1)
          have hR6 := (HRs2.out.upd HCum.out (fun h => h)).upd u6 (hold _ hl2)
          have hM6 := HMW.out.upd ug (fun h => own_offR HOwnW.out HMW.out (by decide) h)
          have z1 := hH6.cell 1 rfl
          have z2 := hD6.cell 0 rfl
          have z3 := hD6.cell 1 rfl
          have z4 := hD6.cell 2 rfl
          have zf := hH6.frozen 1
          have zl := hH6.lt
          have HU6 := Lib.hid (HCum.out.next u6 (fun i hi h => hold i hi h))
          have HH6 := Lib.hid hH6
          have HR6 := Lib.hid hR6
          have HM6 := Lib.hid hM6
          have HO6 := Lib.hid ho2
          have HD6 := Lib.hid hD6
          clear ug u6 hnew hold hH6 hD6 hR6 hM6 ho2 hg2 hat2
          refine hK.out _ _ ⟨z1, z2, z3, z4⟩ (fun hHeld => ?_)
          clear hK KK
          try simp only [Act.put, List.setIfInBounds_toArray, List.set_cons_zero, List.set_cons_succ]
          refine take_last (i := 12) (v := ?_) (by rfl) (by kernel_rfl) (by exact (fun _ _ _ h => h)) (by rfl) hHeld ?_ ?_
          rotate_left
          · ((intro V hV; obtain ⟨hV0, hV1, hV2, hV3⟩ := hV; go_simp) <;> (with_reducible rfl))
          try simp only [Act.put, List.setIfInBounds_toArray, List.set_cons_zero, List.set_cons_succ]
          refine last_end (by kernel_rfl) (by rfl) (fun KK hK => ?_)
          go_simp
          refine hK.out _ _ ?_
          clear hK KK
          go_wp2_with fail
          go_meet
          case rel => exact Fin.out _ _ _ _ _ HO6.out HM6.out HH6.out HR6.out HU6.out (by omega) rfl
        · go_simp
          refine hK.out _ _ (keep4' ((((Upd.refl _ _).alloc _).alloc _).alloc _).drew ⟨c1, q0, q1, q2⟩) (fun hHeld => ?_)
          clear hK KK
          try simp only [Act.put, List.setIfInBounds_toArray, List.set_cons_zero, List.set_cons_succ]
          refine next_last (i := 3) (by rfl) (by kernel_rfl) (fun KK hK => ?_)
          have oe := (own_empty (w2.alloc (.cells cs0.toArray 3)) 55 5 w2.heap.size (by first | exact Nat.le_refl _ | (simp only [World.size_alloc]; omega)))
          simp only [World.size_alloc] at oe
          have oe1 := own_upd oe ((Upd.refl (fun _ => False) _).alloc (.cells #[.int .i64 (T : Int), .int .i64 (k : Int), .int .i64 (l : Int), .int .i64 (p : Int), .slice (some ⟨(w2.heap.size), 0, none⟩) l l] 55)) (fun _ _ h => h)
          have OE := Lib.hid oe1
          have SR := Lib.hid (S0.out.quiet ((((Upd.refl (fun _ => False) w2).alloc (.cells cs0.toArray 3)).alloc (.cells #[] 55)).alloc (.cells #[.int .i64 (T : Int), .int .i64 (k : Int), .int .i64 (l : Int), .int .i64 (p : Int), .slice (some ⟨(w2.heap.size), 0, none⟩) l l] 55)))
          clear oe oe1
          refine step_app _ (by rfl) _ _ 28 (by rfl) w2.heap.size 55 j0 _ 5 56 Try.underlying28 hj0 hy0 hy1 hy2 rfl (by decide) _ 0 [] (by rfl) OE.out _ _ _ (ocells 0 L0) (by rfl) HOL.out SR.out (ocells_one HRo.out) (by simp only [maxLen]; omega) (by omega) (by simp only [World.size_alloc, World.size_drew]; omega) ?_
          intro v1 w4 ho1 hg1 hat1
          rw [Nat.zero_add, List.nil_append] at ho1
          obtain ⟨b1, c1', rfl⟩ := own_form ho1
          have hcum : Upd (fun _ => False) w2 w4 := (((((Upd.refl (fun _ => False) w2).alloc (.cells cs0.toArray 3)).alloc (.cells #[] 55)).alloc (.cells #[.int .i64 (T : Int), .int .i64 (k : Int), .int .i64 (l : Int), .int .i64 (p : Int), .slice (some ⟨(w2.heap.size), 0, none⟩) l l] 55)).drew).grown hg1 (fun g hg hlt => by have h : (w2.heap.size + 1) = g := Option.some.inj hg; omega)
          have p1 := keepC' hcum c1
          have p2 := keepC' hcum q0
          have p3 := keepC' hcum q1
          have p4 := keepC' hcum q2
          have hmk4 := (((Blk.made w2 cs0 3).alloc (.cells #[] 55)).alloc (.cells #[.int .i64 (T : Int), .int .i64 (k : Int), .int .i64 (l : Int), .int .i64 (p : Int), .slice (some ⟨(w2.heap.size), 0, none⟩) l l] 55)).drew.of_eq (hg1.block (w2.heap.size) (((Blk.made w2 cs0 3).alloc (.cells #[] 55)).alloc (.cells #[.int .i64 (T : Int), .int .i64 (k : Int), .int .i64 (l : Int), .int .i64 (p : Int), .slice (some ⟨(w2.heap.size), 0, none⟩) l l] 55)).lt (fun e => by have h : (w2.heap.size) = (w2.heap.size + 1) := Option.some.inj e; omega))
          have HMk4 := Lib.hid hmk4
          clear hmk4
          have hob4 := (Go.Proofs.Ytlphlaenecidiaa.Heap.Blk.made3 w2 (.cells cs0.toArray 3) (.cells #[] 55) [.int .i64 (T : Int), .int .i64 (k : Int), .int .i64 (l : Int), .int .i64 (p : Int), .slice (some ⟨(w2.heap.size), 0, none⟩) l l] 55).drew.of_eq (hg1.block (w2.heap.size + 1 + 1) (Go.Proofs.Ytlphlaenecidiaa.Heap.Blk.made3 w2 (.cells cs0.toArray 3) (.cells #[] 55) [.int .i64 (T : Int), .int .i64 (k : Int), .int .i64 (l : Int), .int .i64 (p : Int), .slice (some ⟨(w2.heap.size), 0, none⟩) l l] 55).lt (fun e => by have h : (w2.heap.size + 1 + 1) = (w2.heap.size + 1) := Option.some.inj e; omega))
          have HOb4 := Lib.hid hob4
          clear hob4
          have HO1 := Lib.hid ho1
          have HCum := Lib.hid hcum
          have hs4 := hcum.size
          clear ho1 hg1 hat1 hcum
          refine hK.out _ _ ⟨p1, p2, p3, p4⟩ (fun hHeld => ?_)
          clear hK KK
          try simp only [Act.put, List.setIfInBounds_toArray, List.set_cons_zero, List.set_cons_succ]
          refine next_last (i := 11) (by rfl) (by kernel_rfl) (fun KK hK => ?_)
          have hownW := (HO1.out)
          have hMW := HMk4.out
          have hOW := HOb4.out
          have HOwnW := Lib.hid hownW
          have HMW := Lib.hid hMW
          have HOW := Lib.hid hOW
          clear hownW hMW hOW
          refine step_app _ (by rfl) _ _ 28 (by rfl) w2.heap.size 55 j0 _ 5 56 Try.underlying28 hj0 hy0 hy1 hy2 rfl (by decide) _ os.length (ocells 0 L0) (by rfl) HOwnW.out _ _ _ [.int .i64 (T : Int), .int .i64 (k : Int), .int .i64 (l : Int), .int .i64 (p : Int), .slice (some ⟨(w2.heap.size), 0, none⟩) l l] (by rfl) rfl (fun j u hu => ⟨_, rfl, blk_src HOW.out j u hu⟩) (by simp [Value.oneCell']) (by simp only [maxLen]; omega) (by omega) (by first | omega | (simp only [World.size_alloc]; omega)) ?_
          intro v2 w6 ho2 hg2 hat2
          obtain ⟨b2, c2, rfl⟩ := own_form ho2
          have ug : Upd (fun g => (Value.slice b1 os.length c1').ownBlock = some g) w4 w6 := (Upd.refl _ _).grown hg2 (fun g hg _ => hg)
          have u6 : Upd (fun g => (Value.slice b1 os.length c1').ownBlock = some g) w4 w6 := (Upd.refl _ w4).trans ug
          have hnew : ∀ g, (Value.slice b1 os.length c1').ownBlock = some g → w2.heap.size ≤ g := fun g hg => (HO1.out.lt g hg).1
          have hold : ∀ i, i < w2.heap.size → ¬ (Value.slice b1 os.length c1').ownBlock = some i := fun i hi h => by have := hnew i h; omega
          have hH6 := (HH2.out.upd HCum.out (fun h => h)).upd u6 (hold _ hl0)
          have hD6 := (HD2.out.upd HCum.out (fun h => h)).upd u6 (hold _ hl1)
          have hR6 := (HRs2.out.upd HCum.out (fun h => h)).upd u6 (hold _ hl2)
          have hM6 := HMW.out.upd ug (fun h => own_offR HOwnW.out HMW.out (by decide) h)
          have z1 := hH6.cell 1 rfl
          have z2 := hD6.cell 0 rfl
          have z3 := hD6.cell 1 rfl
          have z4 := hD6.cell 2 rfl
          have zf := hH6.frozen 1
          have zl := hH6.lt
          have HU6 := Lib.hid (HCum.out.next u6 (fun i hi h => hold i hi h))
          have HH6 := Lib.hid hH6
          have HR6 := Lib.hid hR6
          have HM6 := Lib.hid hM6
          have HO6 := Lib.hid ho2
          have HD6 := Lib.hid hD6
          clear ug u6 hnew hold hH6 hD6 hR6 hM6 ho2 hg2 hat2
          refine hK.out _ _ ⟨z1, z2, z3, z4⟩ (fun hHeld => ?_)
          clear hK KK
          try simp only [Act.put, List.setIfInBounds_toArray, List.set_cons_zero, List.set_cons_succ]
          refine take_last (i := 12) (v := ?_) (by rfl) (by kernel_rfl) (by exact (fun _ _ _ h => h)) (by rfl) hHeld ?_ ?_
          rotate_left
          · ((intro V hV; obtain ⟨hV0, hV1, hV2, hV3⟩ := hV; go_simp) <;> (with_reducible rfl))
          try simp only [Act.put, List.setIfInBounds_toArray, List.set_cons_zero, List.set_cons_succ]
          refine last_end (by kernel_rfl) (by rfl) (fun KK hK => ?_)
          go_simp
          refine hK.out _ _ ?_
          clear hK KK
          go_wp2_with fail
          go_meet
          case rel => exact Fin.out _ _ _ _ _ HO6.out HM6.out HH6.out HR6.out HU6.out (by omega) rfl
      · go_simp
        refine hK.out _ _ (keep4' (((Upd.refl _ _).alloc _).alloc _).drew ⟨c1, q0, q1, q2⟩) (fun hHeld => ?_)
        clear hK KK
        try simp only [Act.put, List.setIfInBounds_toArray, List.set_cons_zero, List.set_cons_succ]
        refine next_last (i := 0) (by rfl) (by kernel_rfl) (fun KK hK => ?_)
        go_simp
        refine hK.out _ _ (keep4' ((((Upd.refl _ _).alloc _).alloc _).alloc _).drew ⟨c1, q0, q1, q2⟩) (fun hHeld => ?_)
        clear hK KK
        try simp only [Act.put, List.setIfInBounds_toArray, List.set_cons_zero, List.set_cons_succ]
        refine next_last (i := 3) (by rfl) (by kernel_rfl) (fun KK hK => ?_)
        have oe := (own_empty ((w2.alloc (.cells cs0.toArray 3)).alloc (.cells #[.int .i64 (T : Int), .int .i64 (k : Int), .int .i64 (l : Int), .int .i64 (p : Int), .slice (some ⟨(w2.heap.size), 0, none⟩) l l] 55)) 55 5 w2.heap.size (by first | exact Nat.le_refl _ | (simp only [World.size_alloc]; omega)))
        simp only [World.size_alloc] at oe
        have OE := Lib.hid oe
        have SR := Lib.hid (S0.out.quiet ((((Upd.refl (fun _ => False) w2).alloc (.cells cs0.toArray 3)).alloc (.cells #[.int .i64 (T : Int), .int .i64 (k : Int), .int .i64 (l : Int), .int .i64 (p : Int), .slice (some ⟨(w2.heap.size), 0, none⟩) l l] 55)).alloc (.cells #[] 55)))
        clear oe
        refine step_app _ (by rfl) _ _ 28 (by rfl) w2.heap.size 55 j0 _ 5 56 Try.underlying28 hj0 hy0 hy1 hy2 rfl (by decide) _ 0 [] (by rfl) OE.out _ _ _ (ocells 0 L0) (by rfl) HOL.out SR.out (ocells_one HRo.out) (by simp only [maxLen]; omega) (by omega) (by simp only [World.size_alloc, World.size_drew]; omega) ?_
        intro v1 w4 ho1 hg1 hat1
        rw [Nat.zero_add, List.nil_append] at ho1
        obtain ⟨b1, c1', rfl⟩ := own_form ho1
        have hcum : Upd (fun _ => False) w2 w4 := (((((Upd.refl (fun _ => False) w2).alloc (.cells cs0.toArray 3)).alloc (.cells #[.int .i64 (T : Int), .int .i64 (k : Int), .int .i64 (l : Int), .int .i64 (p : Int), .slice (some ⟨(w2.heap.size), 0, none⟩) l l] 55)).alloc (.cells #[] 55)).drew).grown hg1 (fun g hg hlt => by have h : (w2.heap.size + 1 + 1) = g := Option.some.inj hg; omega)
        have p1 := keepC' hcum c1
        have p2 := keepC' hcum q0
        have p3 := keepC' hcum q1
        have p4 := keepC' hcum q2
        have hmk4 := (((Blk.made w2 cs0 3).alloc (.cells #[.int .i64 (T : Int), .int .i64 (k : Int), .int .i64 (l : Int), .int .i64 (p : Int), .slice (some ⟨(w2.heap.size), 0, none⟩) l l] 55)).alloc (.cells #[] 55)).drew.of_eq (hg1.block (w2.heap.size) (((Blk.made w2 cs0 3).alloc (.cells #[.int .i64 (T : Int), .int .i64 (k : Int), .int .i64 (l : Int), .int .i64 (p : Int), .slice (some ⟨(w2.heap.size), 0, none⟩) l l] 55)).alloc (.cells #[] 55)).lt (fun e => by have h : (w2.heap.size) = (w2.heap.size + 1 + 1) := Option.some.inj e; omega))
        have HMk4 := Lib.hid hmk4
        clear hmk4
        have hob4 := ((Blk.made' w2 (.cells cs0.toArray 3) [.int .i64 (T : Int), .int .i64 (k : Int), .int .i64 (l : Int), .int .i64 (p : Int), .slice (some ⟨(w2.heap.size), 0, none⟩) l l] 55).alloc (.cells #[] 55)).drew.of_eq (hg1.block (w2.heap.size + 1) ((Blk.made' w2 (.cells cs0.toArray 3) [.int .i64 (T : Int), .int .i64 (k : Int), .int .i64 (l : Int), .int .i64 (p : Int), .slice (some ⟨(w2.heap.size), 0, none⟩) l l] 55).alloc (.cells #[] 55)).lt (fun e => by have h : (w2.heap.size + 1) = (w2.heap.size + 1 + 1) := Option.some.inj e; omega))
        have HOb4 := Lib.hid hob4
        clear hob4
        have HO1 := Lib.hid ho1
        have HCum := Lib.hid hcum
        have hs4 := hcum.size
        clear ho1 hg1 hat1 hcum
        refine hK.out _ _ ⟨p1, p2, p3, p4⟩ (fun hHeld => ?_)
        clear hK KK
        try simp only [Act.put, List.setIfInBounds_toArray, List.set_cons_zero, List.set_cons_succ]
        refine next_last (i := 11) (by rfl) (by kernel_rfl) (fun KK hK => ?_)
        have hownW := (HO1.out)
        have hMW := HMk4.out
        have hOW := HOb4.out
        have HOwnW := Lib.hid hownW
        have HMW := Lib.hid hMW
        have HOW := Lib.hid hOW
        clear hownW hMW hOW
        refine step_app _ (by rfl) _ _ 28 (by rfl) w2.heap.size 55 j0 _ 5 56 Try.underlying28 hj0 hy0 hy1 hy2 rfl (by decide) _ os.length (ocells 0 L0) (by rfl) HOwnW.out _ _ _ [.int .i64 (T : Int), .int .i64 (k : Int), .int .i64 (l : Int), .int .i64 (p : Int), .slice (some ⟨(w2.heap.size), 0, none⟩) l l] (by rfl) rfl (fun j u hu => ⟨_, rfl, blk_src HOW.out j u hu⟩) (by simp [Value.oneCell']) (by simp only [maxLen]; omega) (by omega) (by first | omega | (simp only [World.size_alloc]; omega)) ?_
        intro v2 w6 ho2 hg2 hat2
        obtain ⟨b2, c2, rfl⟩ := own_form ho2
        have ug : Upd (fun g => (Value.slice b1 os.length c1').ownBlock = some g) w4 w6 := (Upd.refl _ _).grown hg2 (fun g hg _ => hg)
        have u6 : Upd (fun g => (Value.slice b1 os.length c1').ownBlock = some g) w4 w6 := (Upd.refl _ w4).trans ug
        have hnew : ∀ g, (Value.slice b1 os.length c1').ownBlock = some g → w2.heap.size ≤ g := fun g hg => (HO1.out.lt g hg).1
        have hold : ∀ i, i < w2.heap.size → ¬ (Value.slice b1 os.length c1').ownBlock = some i := fun i hi h => by have := hnew i h; omega
        have hH6 := (HH2.out.upd HCum.out (fun h => h)).upd u6 (hold _ hl0)
        have hD6 := (HD2.out.upd HCum.out (fun h => h)).upd u6 (hold _ hl1)
        have hR6 := (HRs2.out.upd HCum.out (fun h => h)).upd u6 (hold _ hl2)
        have hM6 := HMW.out.upd ug (fun h => own_offR HOwnW.out HMW.out (by decide) h)
        have z1 := hH6.cell 1 rfl
        have z2 := hD6.cell 0 rfl
        have z3 := hD6.cell 1 rfl
        have z4 := hD6.cell 2 rfl
        have zf := hH6.frozen 1
        have zl := hH6.lt
        have HU6 := Lib.hid (HCum.out.next u6 (fun i hi h => hold i hi h))
        have HH6 := Lib.hid hH6
        have HR6 := Lib.hid hR6
        have HM6 := Lib.hid hM6
        have HO6 := Lib.hid ho2
        have HD6 := Lib.hid hD6
        clear ug u6 hnew hold hH6 hD6 hR6 hM6 ho2 hg2 hat2
        refine hK.out _ _ ⟨z1, z2, z3, z4⟩ (fun hHeld => ?_)
        clear hK KK
        try simp only [Act.put, List.setIfInBounds_toArray, List.set_cons_zero, List.set_cons_succ]
        refine take_last (i := 12) (v := ?_) (by rfl) (by kernel_rfl) (by exact (fun _ _ _ h => h)) (by rfl) hHeld ?_ ?_
        rotate_left
        · ((intro V hV; obtain ⟨hV0, hV1, hV2, hV3⟩ := hV; go_simp) <;> (with_reducible rfl))
        try simp only [Act.put, List.setIfInBounds_toArray, List.set_cons_zero, List.set_cons_succ]
        refine last_end (by kernel_rfl) (by rfl) (fun KK hK => ?_)
        go_simp
        refine hK.out _ _ ?_
        clear hK KK
        go_wp2_with fail
        go_meet
        case rel => exact Fin.out _ _ _ _ _ HO6.out HM6.out HH6.out HR6.out HU6.out (by omega) rfl
  case rest =>
    obtain ⟨b, c, hRef, hB, hRs, hU⟩ := hcut
    obtain ⟨wd, rfl⟩ : ∃ wd, wd = wc := ⟨_, rfl⟩
    have e0 := hB.cell 0 rfl
    have e1 := hB.cell 1 rfl
    have f0 := hRs.frozen 0
    have f1 := hRs.frozen 1
    have g0 := hRs.cell 0 rfl
    have g1 := hRs.cell 1 rfl
    have gl := hRs.lt
    have bl := hB.lt
    have HRf := Lib.hid hRef
    have HRs := Lib.hid hRs
    have HUd := Lib.hid (HU2.out.next hU (fun i hi h => by omega))
    clear hRef hB hRs hU c0 c1 q0 q1 q2
    go_wp2
    have us : Upd (fun k => k = w.heap.size + 2) wd ((wd.setCell ⟨w.heap.size + 2, 0, none⟩ (.int .i64 (size : Int))).setCell ⟨w.heap.size + 2, 1, none⟩ (.slice b (os.length + 1) c)) := ((Upd.refl (fun k => k = w.heap.size + 2) wd).setCell (p := ⟨w.heap.size + 2, 0, none⟩) _ (fun _ => rfl)).setCell (p := ⟨w.heap.size + 2, 1, none⟩) _ (fun _ => rfl)
    refine bodyPost_ret (res_cell_tmp2 rfl _ _ (w.heap.size + 2) _ 30 _ _ _ rfl rfl rfl ((HRs.out.set 0 _).set 1 _) Try.underlying30 rfl (by kernel_rfl)) rfl ⟨_, ?_, HRf.out _ us, HUd.out.next us (fun i hi h => by omega)⟩
    have hT := HT.out
    rw [← hT]
    rfl
end Go.Proofs.Ytlphlaenecidiaa.Ref
