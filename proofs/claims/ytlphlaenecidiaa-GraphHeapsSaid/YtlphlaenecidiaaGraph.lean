/- Contracts of package graph: the finder. -/
import Derived.Test.YtlphlaenecidiaaHeap4
import Derived.Maps.OwnOps
import Derived.Maps.OwnSet
import Derived.Maps.Views
import Derived.Deep.AppendLies
namespace Go.Proofs.Ytlphlaenecidiaa.Graph
open Go.RowKit Go.Maps Go.Proofs.Ytlphlaenecidiaa.Mem Go.Proofs.Ytlphlaenecidiaa.Obj Go.Proofs.Ytlphlaenecidiaa.Heap

theorem keyInt : Keyed Try.prog 3 := int_keyed Try.underlying3
theorem zeroInt (w : World) : (zeroValue 3).run Try.prog w = .ok (.int .i64 0) w := by kernel_rfl

theorem wf64 {z : Int} (h : -9223372036854775808 ≤ z ∧ z ≤ 9223372036854775807) : (Lit.int .i64 z).wf = true := by
  simp only [Lit.wf, Bool.and_eq_true, decide_eq_true_eq]
  have h1 : IntKind.i64.min = -9223372036854775808 := by decide +kernel
  have h2 : IntKind.i64.max = 9223372036854775807 := by decide +kernel
  rw [h1, h2]
  exact h
/-- A map of addresses to their numbers. -/
structure Nums (D : DataW Unit) (l : List Nat) : Prop where
  map : IsMap D
  has : ∀ a : Nat, Maps.has D (.int .i64 (a : Int)) = (place l a).isSome
  at' : ∀ (a i : Nat) (z : DataW Unit), place l a = some i → D.atKey (.int .i64 (a : Int)) z = .lit (.int .i64 ((i + 1 : Nat) : Int))

theorem Nums.nil : Nums (.map [] : DataW Unit) [] := ⟨isMap_empty, fun a => rfl, fun a i z h => by cases h⟩

theorem keyLit (a : Int) : WideAt.IsKeyLit (.int .i64 a) := by
  constructor

theorem Nums.put {D : DataW Unit} {l : List Nat} (h : Nums D l) {a : Nat} (ha : place l a = none) : Nums (D.put (.int .i64 (a : Int)) (.lit (.int .i64 ((l.length + 1 : Nat) : Int)))) (l ++ [a]) := by
  refine ⟨h.map.put _ _, fun b => ?_, fun b i z hb => ?_⟩
  · rw [place_snoc ha]
    by_cases e : b = a
    · subst e; rw [if_pos rfl, has_put_same h.map (keyLit _)]; rfl
    · rw [if_neg e, has_put_other (by intro h; cases h; omega)]
      exact h.has b
  · rw [place_snoc ha] at hb
    by_cases e : b = a
    · subst e
      rw [if_pos rfl] at hb
      cases hb
      rw [atKey_put_same h.map (keyLit _)]
    · rw [if_neg e] at hb
      rw [atKey_put_other (by intro h; cases h; omega)]
      exact h.at' b i z hb

def nats (l : List Nat) : List Value := l.map fun a : Nat => Value.int .i64 (a : Int)

theorem own_form {w : World} {base : Nat} {e : TypeId} {size : Nat} {v : Value} {n : Nat} {xs : List Value} (h : w.ownsRow base e size v n xs) : ∃ a cap, v = .slice a n cap := by
  rcases h.2 with ⟨hv, h0⟩ | ⟨g, cap, cur, rfl, _⟩
  · exact ⟨none, 0, by rw [hv, h0]⟩
  · exact ⟨_, _, rfl⟩

/-- A finder lies in block fb. -/
structure FinderAt (w : World) (fb hb mb base : Nat) (v : Value) (l : List Nat) : Prop where
  str : Blk w fb [.pointer (some ⟨hb, 0, none⟩), v, .map (some mb)] 79
  own : w.ownsRow base 3 1 v l.length (nats l)
  map : ∃ D : DataW Unit, w.ownsMap Try.prog 3 (plainElem Try.prog 3) mb l.length D ∧ Nums D l
  lo : base ≤ fb ∧ base ≤ mb ∧ fb ≠ mb
  sep : ∀ g, v.ownBlock = some g → g ≠ fb ∧ g ≠ mb

set_option maxHeartbeats 1000000 in
theorem number_zero (w : World) (v : Value) : Calls Try.prog 28 #[v, .int .i64 0] w fun e w' => e = .returned (.tuple #[.int .i64 0, .bool true]) ∧ w = w' := by
  go_enter Try.func28, Try.ntmps28
  go_wp2
  go_ret2
  exact ⟨rfl, rfl⟩

theorem FinderAt.quiet {w w' : World} {fb hb mb base : Nat} {v : Value} {l : List Nat} (F : FinderAt w fb hb mb base v l) (u : Upd (fun _ => False) w w') : FinderAt w' fb hb mb base v l := by
  obtain ⟨D, ⟨es, ck, h1, h2⟩, hD⟩ := F.map
  exact ⟨F.str.upd u (fun h => h), own_upd F.own u (fun _ _ h => h), ⟨D, ⟨es, ck, (u.block mb (Array.getElem?_eq_some_iff.1 h1).1 (fun h => h)).trans h1, h2⟩, hD⟩, F.lo, F.sep⟩

set_option maxRecDepth 20000 in
set_option maxHeartbeats 1000000 in
theorem number_no (w : World) (fb hb mb base : Nat) (v : Value) (l : List Nat) (F : FinderAt w fb hb mb base v l) (wb sb n : Nat) (os : List Ob) (rest : List Int) (H : HeapAt w hb wb sb n os rest) (x : Int) (hx : -9223372036854775808 ≤ x ∧ x ≤ 9223372036854775807) (hno : number os l x = none) :
    Calls Try.prog 28 #[.pointer (some ⟨fb, 0, none⟩), .int .i64 x] w fun e w' => e = .returned (.tuple #[.int .i64 0, .bool false]) ∧ Upd (fun _ => False) w w' := by
  have h0 : x ≠ 0 := by intro e; subst e; simp [number] at hno
  have d0 : (x == 0) = false := by rw [beq_eq_false_iff_ne]; exact h0
  have hs := H.size
  have hhi := H.hi
  obtain ⟨y, hy, hyl⟩ : ∃ y, IntKind.i64.wrap (x - 1) = y ∧ lookAt os (x - 1) = lookAt os y := by
    by_cases hm : x = -9223372036854775808
    · subst hm
      refine ⟨9223372036854775807, by decide, ?_⟩
      rw [lookAt_max (by omega)]
      unfold lookAt
      rw [if_pos (by decide)]
    · exact ⟨x - 1, IntWalk.i64_in _ (by omega), rfl⟩
  have hfo : ∀ o, lookAt os y = some o → o.kind = 15 := by
    intro o ho
    rw [← hyl] at ho
    unfold number at hno
    rw [if_neg h0, ho] at hno
    by_cases hk : o.kind = 15
    · exact hk
    · exfalso
      simp only [if_neg hk] at hno
      split at hno <;> cases hno
  have c0 := F.str.cell 0 rfl
  have l0 := F.str.lt
  have HFo := Lib.hid hfo
  have HH := Lib.hid H
  clear F H hno hs hhi hfo hyl h0
  cases ho : lookAt os y with
  | none =>
    have HHd := Lib.hid (head_no w hb wb sb n os rest HH.out y ho)
    clear ho
    go_enter Try.func28, Try.ntmps28
    go_wp2_with fail
    refine (HHd.out).mono ?_
    rintro e w1 ⟨rfl, hu1⟩
    have HU := Lib.hid (hu1.alloc (.cells #[.int .i64 0, .int .i64 0, .int .i64 0] 53))
    clear hu1
    go_wp2
    go_ret2
    exact ⟨rfl, HU.out⟩
  | some o =>
    have hk := HFo.out o ho
    obtain ⟨a, rfl, hf⟩ := lookAt_some ho
    have HHd := Lib.hid (head_yes w hb wb sb n os rest HH.out a o hf)
    have dk : ((o.kind : Int) == 15) = true := by rw [beq_iff_eq]; omega
    clear ho hf hk
    go_enter Try.func28, Try.ntmps28
    go_wp2_with fail
    refine (HHd.out).mono ?_
    rintro e w1 ⟨rfl, hu1⟩
    have HU := Lib.hid (hu1.alloc (.cells #[.int .i64 (o.kind : Int), .int .i64 (o.len : Int), .int .i64 (o.ptrs : Int)] 53))
    clear hu1
    go_wp2
    go_ret2
    exact ⟨rfl, HU.out⟩

set_option maxRecDepth 20000 in
set_option maxHeartbeats 1000000 in
theorem number_old (w : World) (fb hb mb base : Nat) (v : Value) (l : List Nat) (F : FinderAt w fb hb mb base v l) (wb sb n : Nat) (os : List Ob) (rest : List Int) (H : HeapAt w hb wb sb n os rest) (a i : Nat) (o : Ob) (hf : find os a = some o) (hk : o.kind ≠ 15) (hi : place l a = some i) :
    Calls Try.prog 28 #[.pointer (some ⟨fb, 0, none⟩), .int .i64 ((a : Int) + 1)] w fun e w' => e = .returned (.tuple #[.int .i64 ((i + 1 : Nat) : Int), .bool true]) ∧ Upd (fun _ => False) w w' := by
  have hs := H.size
  have hhi := H.hi
  have hlt := find_lt hf
  have d0 : ((a : Int) + 1 == 0) = false := by rw [beq_eq_false_iff_ne]; omega
  have ha : a ≤ 65536 := by omega
  have hil := place_lt hi
  have c0 := F.str.cell 0 rfl
  have l0 := F.str.lt
  have HF := Lib.hid F
  have HHd := Lib.hid (head_yes w hb wb sb n os rest H a o hf)
  have dk : ((o.kind : Int) == 15) = false := by rw [beq_eq_false_iff_ne]; omega
  have HI := Lib.hid hi
  clear F H hs hhi hlt hf hk hi
  go_enter Try.func28, Try.ntmps28
  go_wp2_with fail
  refine (HHd.out).mono ?_
  rintro e w1 ⟨rfl, hu1⟩
  have F1 := HF.out.quiet (hu1.alloc (.cells #[.int .i64 (o.kind : Int), .int .i64 (o.len : Int), .int .i64 (o.ptrs : Int)] 53))
  have k0 := (HF.out.quiet hu1).str.cell 0 rfl
  have k2 := (HF.out.quiet hu1).str.cell 2 rfl
  have l1 := (HF.out.quiet hu1).str.lt
  have HU := Lib.hid (hu1.alloc (.cells #[.int .i64 (o.kind : Int), .int .i64 (o.len : Int), .int .i64 (o.ptrs : Int)] 53))
  obtain ⟨D, hown, hD⟩ := F1.map
  have hhas : Maps.has D (.int .i64 (a : Int)) = true := by rw [hD.has, HI.out]; rfl
  have HD := Lib.hid hD
  have hkey : keyOf Try.prog 3 (.int .i64 (a : Int)) = some (.int .i64 (a : Int)) := keyOf_int_mk Try.underlying3 (wf64 (by omega))
  clear hu1 F1 hD c0
  go_wp2_with (first
      | (at_lookup; refine wpList_lookup_own_ok_int _ rfl _ _ 77 rfl 3 3 .i64 keyInt Try.underlying77 Try.underlying3 (zeroInt _) mb l.length _ rfl hown _ _ rfl hkey ?_; intro c hat hwc)
      | (at_lookup; refine wpList_lookup_own_int _ rfl _ _ 77 rfl 3 3 .i64 keyInt Try.underlying77 Try.underlying3 (zeroInt _) mb l.length _ rfl hown _ _ rfl hkey ?_; intro c2 hat2 hwc2))
  go_ret2
  have hc2 : c2 = ((i + 1 : Nat) : Int) := by
    have h := HD.out.at' a i (.lit (.int .i64 0)) HI.out
    rw [hat2] at h
    injection h with h
    injection h
  refine ⟨?_, HU.out⟩
  rw [← hc2]
  rfl

/-- What a finder turns when it finds. -/
def Finds (fb mb : Nat) (v : Value) (k : Nat) : Prop := k = fb ∨ k = mb ∨ v.ownBlock = some k
/-- A finder that has found more: its row is the old one, or a new one. -/
def Found' (w : World) (fb hb mb base : Nat) (v : Value) (l' : List Nat) (w' : World) : Prop :=
  (∃ v', FinderAt w' fb hb mb base v' l' ∧ ∀ g, v'.ownBlock = some g → v.ownBlock = some g ∨ w.heap.size ≤ g) ∧ Upd (Finds fb mb v) w w'
def OneMore (w : World) (fb hb mb base : Nat) (v : Value) (l' : List Nat) (k : Nat) (e : Ending) (w' : World) : Prop :=
  e = .returned (.tuple #[.int .i64 (k : Int), .bool true]) ∧ Found' w fb hb mb base v l' w'

set_option maxRecDepth 20000 in
set_option maxHeartbeats 2000000 in
theorem number_new (w : World) (fb hb mb base : Nat) (v : Value) (l : List Nat) (F : FinderAt w fb hb mb base v l) (wb sb n : Nat) (os : List Ob) (rest : List Int) (H : HeapAt w hb wb sb n os rest) (a : Nat) (o : Ob) (hf : find os a = some o) (hk : o.kind ≠ 15) (hi : place l a = none) (hll : l.length ≤ 65536) (hbase : base ≤ w.heap.size) :
    Calls Try.prog 28 #[.pointer (some ⟨fb, 0, none⟩), .int .i64 ((a : Int) + 1)] w (OneMore w fb hb mb base v (l ++ [a]) (l.length + 1)) := by
  obtain ⟨i0, hi0, hz0, hz1, hz2⟩ := info_parts infoInt
  have hs := H.size
  have hhi := H.hi
  have hlt := find_lt hf
  have d0 : ((a : Int) + 1 == 0) = false := by rw [beq_eq_false_iff_ne]; omega
  have ha : a ≤ 65536 := by omega
  obtain ⟨va, vc, rfl⟩ := own_form F.own
  have c0 := F.str.cell 0 rfl
  have l0 := F.str.lt
  have HF := Lib.hid F
  have HHd := Lib.hid (head_yes w hb wb sb n os rest H a o hf)
  have dk : ((o.kind : Int) == 15) = false := by rw [beq_eq_false_iff_ne]; omega
  have HI := Lib.hid hi
  clear F H hs hhi hlt hf hk hi
  go_enter Try.func28, Try.ntmps28
  go_wp2_with fail
  refine (HHd.out).mono ?_
  rintro e w1 ⟨rfl, hu1⟩
  have F1 := HF.out.quiet (hu1.alloc (.cells #[.int .i64 (o.kind : Int), .int .i64 (o.len : Int), .int .i64 (o.ptrs : Int)] 53))
  have HF1 := Lib.hid F1
  have k0 := (HF.out.quiet hu1).str.cell 0 rfl
  have k1 := (HF.out.quiet hu1).str.cell 1 rfl
  have k2 := (HF.out.quiet hu1).str.cell 2 rfl
  have l1 := (HF.out.quiet hu1).str.lt
  have HU := Lib.hid (hu1.alloc (.cells #[.int .i64 (o.kind : Int), .int .i64 (o.len : Int), .int .i64 (o.ptrs : Int)] 53))
  obtain ⟨D, hown, hD⟩ := F1.map
  have hhas : Maps.has D (.int .i64 (a : Int)) = false := by rw [hD.has, HI.out]; rfl
  have HD := Lib.hid hD
  have HOwn := Lib.hid hown
  have hkey : keyOf Try.prog 3 (.int .i64 (a : Int)) = some (.int .i64 (a : Int)) := keyOf_int_mk Try.underlying3 (wf64 (by omega))
  have hsz := hu1.size
  clear hu1 F1 hD c0
  go_wp2_with (first
      | (at_lookup; refine wpList_lookup_own_ok_int _ rfl _ _ 77 rfl 3 3 .i64 keyInt Try.underlying77 Try.underlying3 (zeroInt _) mb l.length _ rfl hown _ _ rfl hkey ?_; intro c hat hwc; clear hown)
      | (at_builtin; refine wpList_append_lies _ rfl _ _ 22 rfl base 3 i0 _ 1 8 Try.underlying22 hi0 hz0 hz1 hz2 rfl (by decide) _ l.length (nats l) rfl (HF1.out.own.alloc _) ⟨w1.heap.size + 1, 0, none⟩ 1 1 [.int .i64 (a : Int)] rfl rfl ?c1 ?c2 (by decide) ?c3 ?c4 ?c5 _ rfl ?_))
  case c1 =>
    have h := cells_new (w1.alloc (.cells #[.int .i64 (o.kind : Int), .int .i64 (o.len : Int), .int .i64 (o.ptrs : Int)] 53)) [.int .i64 (a : Int)] 3
    rw [World.size_alloc] at h
    exact h
  case c2 => simp [Value.oneCell']
  case c3 => simp only [maxLen]; omega
  case c4 => omega
  case c5 => simp only [World.size_alloc]; omega
  intro g cap w2 hO2 hg2 hat2 hlt2
  have hsep := HF1.out.sep
  have hlo := HF1.out.lo
  have hml := HOwn.out.lt
  have hfl := HF1.out.str.lt
  have hal := ((Upd.refl (fun _ => False) (w1.alloc (.cells #[.int .i64 (o.kind : Int), .int .i64 (o.len : Int), .int .i64 (o.ptrs : Int)] 53))).alloc (.cells #[.int .i64 (a : Int)] 3))
  have hgne : g ≠ fb ∧ g ≠ mb := by
    rcases hat2 with h | h
    · exact hsep g h
    · obtain ⟨D0, h0, _⟩ := HF.out.map
      have h1 := h0.lt
      constructor
      · intro e; omega
      · intro e; omega
  have hU2 : Upd (Finds fb mb (.slice va l.length vc)) w w2 := ((HU.out.mono (T := Finds fb mb (.slice va l.length vc)) (fun _ _ h => h.elim)).trans (hal.mono (fun _ _ h => h.elim))).grown hg2 (fun k hk _ => .inr (.inr hk))
  have hrow : ∀ g', (Value.slice (some ⟨g, 0, none⟩) (l.length + 1) cap).ownBlock = some g' → (Value.slice va l.length vc).ownBlock = some g' ∨ w.heap.size ≤ g' := by
    intro g' hg'
    simp only [Value.ownBlock, Option.some.injEq] at hg'
    subst hg'
    rcases hat2 with h | h
    · exact .inl h
    · exact .inr (by have t1 := HU.out.size; have t2 := hal.size; omega)
  have HRow := Lib.hid hrow
  have hstr2 : Blk w2 fb [.pointer (some ⟨hb, 0, none⟩), .slice va l.length vc, .map (some mb)] 79 :=
    (HF1.out.str.upd hal (fun h => h)).of_eq (hg2.block _ (HF1.out.str.upd hal (fun h => h)).lt (fun e => (hsep _ e.symm).1 rfl))
  have hmap2 : w2.ownsMap Try.prog 3 (plainElem Try.prog 3) mb l.length D := by
    obtain ⟨es, ck, h1, h2⟩ := HOwn.out
    have h3 := (hal.block mb hml (fun h => h)).trans h1
    exact ⟨es, ck, (hg2.block mb (Array.getElem?_eq_some_iff.1 h3).1 (fun e => (hsep _ e.symm).2 rfl)).trans h3, h2⟩
  have s1 := hstr2.cell 1 rfl
  have f1 := hstr2.frozen 1
  have l2 := hstr2.lt
  have HStr2 := Lib.hid hstr2
  have HMap2 := Lib.hid hmap2
  have HO2 := Lib.hid hO2
  have HU2 := Lib.hid hU2
  clear hO2 hg2 hat2 hU2 hstr2 hmap2 hal hlt2 hsep hrow k0 k1 k2 hsz l1
  go_wp2
  have u2 := (Upd.refl (fun k => k = fb) w2).setCell (p := ⟨fb, 1, none⟩) (.slice (some ⟨g, 0, none⟩) (l.length + 1) cap) (fun _ => rfl)
  have hstr3 := HStr2.out.set 1 (.slice (some ⟨g, 0, none⟩) (l.length + 1) cap)
  have hO3 := own_upd HO2.out u2 (fun k hk e => hgne.1 ((Option.some.inj hk).trans e))
  have hmap3 : (w2.setCell ⟨fb, 1, none⟩ (.slice (some ⟨g, 0, none⟩) (l.length + 1) cap)).ownsMap Try.prog 3 (plainElem Try.prog 3) mb l.length D := by
    obtain ⟨es, ck, h1, h2⟩ := HMap2.out
    exact ⟨es, ck, (u2.block mb (Array.getElem?_eq_some_iff.1 h1).1 (by omega)).trans h1, h2⟩
  have hU3 := HU2.out.setCell (p := ⟨fb, 1, none⟩) (.slice (some ⟨g, 0, none⟩) (l.length + 1) cap) (fun _ => .inl rfl)
  generalize w2.setCell ⟨fb, 1, none⟩ (.slice (some ⟨g, 0, none⟩) (l.length + 1) cap) = w3 at *
  have t1 := hstr3.cell 1 rfl
  have t2 := hstr3.cell 2 rfl
  have HStr3 := Lib.hid hstr3
  have HO3 := Lib.hid hO3
  have HMap3 := Lib.hid hmap3
  have HU3 := Lib.hid hU3
  have m1 : IntKind.i64.wrap ((a : Int) + 1 - 1) = (a : Int) := by rw [show (a : Int) + 1 - 1 = (a : Int) by omega]; exact IntWalk.i64_in _ (by omega)
  clear u2 hstr3 hO3 hmap3 hU3 s1 f1
  go_still_tail 11, (by kernel_rfl)
  change wpList _ _ _ _ _ w3.drew
  have hstr4 := HStr3.out.drew
  have hO4 := own_upd HO3.out ((Upd.refl (fun _ => False) w3).drew) (fun _ _ h => h)
  have hmap4 : w3.drew.ownsMap Try.prog 3 (plainElem Try.prog 3) mb l.length D := HMap3.out
  have HU4 := Lib.hid (HU3.out.drew)
  generalize w3.drew = w4 at *
  have HStr4 := Lib.hid hstr4
  have HO4 := Lib.hid hO4
  clear hstr4 hO4 m1 t1 t2
  go_wp2_with (first
      | (at_mapUpdate; refine wpList_mapUpdate_own _ rfl _ _ _ 77 rfl 3 3 keyInt Try.underlying77 _ mb l.length _ rfl hmap4 (by unfold maxLen; omega) _ _ (.int .i64 (a : Int)) rfl rfl ?hk (.lit (.int .i64 ((l.length + 1 : Nat) : Int))) [] ?hv ?_))
  case hk =>
    have mw : IntKind.i64.wrap (a : Int) = (a : Int) := IntWalk.i64_in _ (by omega)
    go_simp
  case hv =>
    go_simp
    exact plainElem_int Try.underlying3 (wf64 (by omega))
  intro w5 hown5 hgrow5
  have hml4 := hmap4.lt
  have hstr5 := HStr4.out.of_eq (hgrow5.block fb HStr4.out.lt (fun e => hlo.2.2 (Option.some.inj e)))
  have hO5 : w5.ownsRow base 3 1 (.slice (some ⟨g, 0, none⟩) (l.length + 1) cap) (l.length + 1) (nats l ++ [.int .i64 (a : Int)]) := by
    refine ⟨HO4.out.1, ?_⟩
    rcases HO4.out.2 with hn | ⟨g', cap', cur, hv, hb, hgg, rest⟩
    · exact .inl hn
    · refine .inr ⟨g', cap', cur, hv, hb, ?_, rest⟩
      cases hv
      exact (hgrow5.block g (Array.getElem?_eq_some_iff.1 hgg).1 (fun e => hgne.2 (Option.some.inj e))).trans hgg
  have hU5 := HU4.out.grown hgrow5 (fun k hk _ => by cases hk; exact .inr (.inl rfl))
  have hD5 := HD.out.put HI.out
  have z2 := hstr5.cell 2 rfl
  have hF5 : ∃ v', FinderAt w5 fb hb mb base v' (l ++ [a]) ∧ ∀ g, v'.ownBlock = some g → (Value.slice va l.length vc).ownBlock = some g ∨ w.heap.size ≤ g := ⟨_, ⟨hstr5, by rw [List.length_append]; simpa [nats] using hO5, ⟨_, by rw [List.length_append]; exact hown5, hD5⟩, hlo, fun g' hg' => by cases hg'; exact hgne⟩, HRow.out⟩
  have HF5 := Lib.hid hF5
  have HU5 := Lib.hid hU5
  have hat5 := hD5.at' a l.length (.lit (.int .i64 0)) (by rw [place_snoc HI.out, if_pos rfl])
  have HAt5 := Lib.hid hat5
  clear hstr5 hO5 hU5 hD5 hat5 hmap4 hgrow5 hgne hlo hF5
  go_wp2_with (first
      | (at_lookup; refine wpList_lookup_own_int _ rfl _ _ 77 rfl 3 3 .i64 keyInt Try.underlying77 Try.underlying3 (zeroInt _) mb (l.length + 1) _ rfl hown5 _ _ rfl hkey ?_; intro c2 hat2 hwc2))
  go_ret2
  have hc2 : c2 = ((l.length + 1 : Nat) : Int) := by
    have h := HAt5.out
    rw [show ((l.length : Int) + 1) = ((l.length + 1 : Nat) : Int) from by omega] at hat2
    rw [hat2] at h
    injection h with h
    injection h
  refine ⟨?_, HF5.out, HU5.out⟩
  rw [← hc2]
  rfl

theorem number_some (w : World) (fb hb mb base : Nat) (v : Value) (l : List Nat) (F : FinderAt w fb hb mb base v l) (wb sb n : Nat) (os : List Ob) (rest : List Int) (H : HeapAt w hb wb sb n os rest) (hbase : base ≤ w.heap.size) (hfd : Seen os l)
    (x : Int) (l' : List Nat) (k : Nat) (hn : number os l x = some (l', k)) :
    Calls Try.prog 28 #[.pointer (some ⟨fb, 0, none⟩), .int .i64 x] w (OneMore w fb hb mb base v l' k) := by
  have hll : l.length ≤ 65536 := by have := hfd.len; have := H.size; have := H.hi; omega
  unfold number at hn
  split at hn
  · rename_i h0
    subst h0
    cases hn
    refine (number_zero w _).mono ?_
    rintro e w' ⟨rfl, rfl⟩
    exact ⟨rfl, ⟨v, F, fun g h => .inl h⟩, Upd.refl _ _⟩
  · split at hn
    · cases hn
    · rename_i h0 o ho
      obtain ⟨a, ha, hf⟩ := lookAt_some ho
      obtain rfl : x = (a : Int) + 1 := by omega
      rw [show ((a : Int) + 1 - 1).toNat = a by omega] at hn
      split at hn
      · cases hn
      · rename_i hk
        split at hn
        · rename_i i hp
          cases hn
          refine (number_old w fb hb mb base v l F wb sb n os rest H a i o hf hk hp).mono ?_
          rintro e w' ⟨rfl, hu⟩
          exact ⟨rfl, ⟨v, F.quiet hu, fun g h => .inl h⟩, hu.mono (fun _ _ h => h.elim)⟩
        · rename_i hp
          cases hn
          exact number_new w fb hb mb base v l F wb sb n os rest H a o hf hk hp hll hbase
end Go.Proofs.Ytlphlaenecidiaa.Graph
