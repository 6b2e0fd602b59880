/- Contracts of package graph: a node. -/
import Derived.Test.YtlphlaenecidiaaGraph
namespace Go.Proofs.Ytlphlaenecidiaa.Graph
open Go.RowKit Go.Maps Go.Proofs.Ytlphlaenecidiaa.Mem Go.Proofs.Ytlphlaenecidiaa.Obj Go.Proofs.Ytlphlaenecidiaa.Heap

/-- Two values own nothing together. -/
def Apart (a b : Value) : Prop := ∀ g, a.ownBlock = some g → b.ownBlock ≠ some g
theorem Apart.symm {a b : Value} (h : Apart a b) : Apart b a := fun g hb ha => h g ha hb
/-- A value owns nothing of some block. -/
def Off (a : Value) (k : Nat) : Prop := a.ownBlock ≠ some k

/-- A node that is being made: what it has so far. -/
structure Making (w : World) (fb hb mb base lo : Nat) (l : List Nat) (k : Int) (xb ob : Nat) (es ws : List Int) (v ve vw : Value) : Prop where
  fin : FinderAt w fb hb mb base v l
  str : Blk w ob [.int .i64 k, ve, vw] 66
  edges : w.ownsRow lo 3 1 ve es.length (ints es)
  words : w.ownsRow lo 3 1 vw ws.length (ints ws)
  ap1 : Apart v ve
  ap2 : Apart v vw
  ap3 : Apart ve vw
  off : Off v ob ∧ Off v xb ∧ fb ≠ ob ∧ fb ≠ xb ∧ mb ≠ ob ∧ mb ≠ xb
  offe : Off ve fb ∧ Off ve mb ∧ Off ve ob ∧ Off ve xb
  offw : Off vw fb ∧ Off vw mb ∧ Off vw ob ∧ Off vw xb

theorem own_lt {w : World} {base : Nat} {e : TypeId} {size : Nat} {v : Value} {n : Nat} {xs : List Value} (h : w.ownsRow base e size v n xs) {g : Nat} (hg : v.ownBlock = some g) : g < w.heap.size := (h.lt g hg).2
theorem FinderAt.upd {S : Nat → Prop} {w w' : World} {fb hb mb base : Nat} {v : Value} {l : List Nat} (F : FinderAt w fb hb mb base v l) (u : Upd S w w') (h1 : ¬ S fb) (h2 : ¬ S mb) (h3 : ∀ g, v.ownBlock = some g → ¬ S g) : FinderAt w' fb hb mb base v l := by
  obtain ⟨D, ⟨es, ck, g1, g2⟩, hD⟩ := F.map
  exact ⟨F.str.upd u h1, own_upd F.own u h3, ⟨D, ⟨es, ck, (u.block mb (Array.getElem?_eq_some_iff.1 g1).1 h2).trans g1, g2⟩, hD⟩, F.lo, F.sep⟩

theorem Making.quiet {w w' : World} {fb hb mb base lo : Nat} {l : List Nat} {k : Int} {xb ob : Nat} {es ws : List Int} {v ve vw : Value} (M : Making w fb hb mb base lo l k xb ob es ws v ve vw) (u : Upd (fun _ => False) w w') : Making w' fb hb mb base lo l k xb ob es ws v ve vw :=
  ⟨M.fin.quiet u, M.str.upd u (fun h => h), own_upd M.edges u (fun _ _ h => h), own_upd M.words u (fun _ _ h => h), M.ap1, M.ap2, M.ap3, M.off, M.offe, M.offw⟩
theorem Making.found {w w' : World} {fb hb mb base lo : Nat} {l l' : List Nat} {k : Int} {xb ob : Nat} {es ws : List Int} {v ve vw : Value} (M : Making w fb hb mb base lo l k xb ob es ws v ve vw) (hxb : xb < w.heap.size) (h : Found' w fb hb mb base v l' w') :
    ∃ v', Making w' fb hb mb base lo l' k xb ob es ws v' ve vw ∧ (∀ g, v'.ownBlock = some g → v.ownBlock = some g ∨ w.heap.size ≤ g) := by
  obtain ⟨⟨v', F', hv'⟩, u⟩ := h
  obtain ⟨o1, o2, o3, o4, o5, o6⟩ := M.off
  obtain ⟨e1, e2, e3, e4⟩ := M.offe
  obtain ⟨f1, f2, f3, f4⟩ := M.offw
  have hob := M.str.lt
  have nob : ¬ Finds fb mb v ob := by rintro (h | h | h); exact o3 h.symm; exact o5 h.symm; exact o1 h
  refine ⟨v', ⟨F', M.str.upd u nob, own_upd M.edges u ?_, own_upd M.words u ?_, ?_, ?_, M.ap3, ⟨?_, ?_, o3, o4, o5, o6⟩, M.offe, M.offw⟩, hv'⟩
  · intro g hg hS
    rcases hS with h | h | h
    · exact e1 (h ▸ hg)
    · exact e2 (h ▸ hg)
    · exact M.ap1 g h hg
  · intro g hg hS
    rcases hS with h | h | h
    · exact f1 (h ▸ hg)
    · exact f2 (h ▸ hg)
    · exact M.ap2 g h hg
  · intro g hg he
    rcases hv' g hg with h | h
    · exact M.ap1 g h he
    · have := own_lt M.edges he; omega
  · intro g hg he
    rcases hv' g hg with h | h
    · exact M.ap2 g h he
    · have := own_lt M.words he; omega
  · intro h
    rcases hv' _ h with h | h
    · exact o1 h
    · omega
  · intro h
    rcases hv' _ h with h | h
    · exact o2 h
    · omega

theorem Making.word {w w2 : World} {fb hb mb base lo : Nat} {l : List Nat} {k : Int} {xb ob : Nat} {es ws : List Int} {v ve vw : Value} (M : Making w fb hb mb base lo l k xb ob es ws v ve vw) (hxb : xb < w.heap.size) {g cap : Nat} {x : Int}
    (u : Upd (fun k => vw.ownBlock = some k) w w2) (hO : w2.ownsRow lo 3 1 (.slice (some ⟨g, 0, none⟩) (ws.length + 1) cap) (ws.length + 1) (ints ws ++ [.int .i64 x])) (hat : vw.ownBlock = some g ∨ w.heap.size ≤ g) :
    Making (w2.setCell ⟨ob, 2, none⟩ (.slice (some ⟨g, 0, none⟩) (ws.length + 1) cap)) fb hb mb base lo l k xb ob es (ws ++ [x]) v ve (.slice (some ⟨g, 0, none⟩) (ws.length + 1) cap) := by
  obtain ⟨o1, o2, o3, o4, o5, o6⟩ := M.off
  obtain ⟨e1, e2, e3, e4⟩ := M.offe
  obtain ⟨f1, f2, f3, f4⟩ := M.offw
  have hob := M.str.lt
  have hfb := M.fin.str.lt
  obtain ⟨D, hm, _⟩ := M.fin.map
  have hmb := hm.lt
  have far : ∀ b, b < w.heap.size → vw.ownBlock ≠ some b → g ≠ b := by
    intro b hb h e
    rcases hat with h' | h'
    · exact h (e ▸ h')
    · omega
  have u' : Upd (fun k => vw.ownBlock = some k ∨ k = ob) w (w2.setCell ⟨ob, 2, none⟩ (.slice (some ⟨g, 0, none⟩) (ws.length + 1) cap)) := (u.mono (fun _ _ h => .inl h)).setCell _ (fun _ => .inr rfl)
  have hgo : g ≠ ob := far ob hob f3
  refine ⟨M.fin.upd u' ?_ ?_ ?_, (M.str.upd u f3).set 2 _, own_upd M.edges u' ?_, ?_, M.ap1, ?_, ?_, M.off, M.offe, ⟨?_, ?_, ?_, ?_⟩⟩
  · rintro (h | h); exact f1 h; exact o3 h
  · rintro (h | h); exact f2 h; exact o5 h
  · rintro g' hg' (h | h)
    · exact M.ap2 g' hg' h
    · exact o1 (h ▸ hg')
  · rintro g' hg' (h | h)
    · exact M.ap3 g' hg' h
    · exact e3 (h ▸ hg')
  · have h1 := own_upd hO ((Upd.refl (fun k => k = ob) w2).setCell (p := ⟨ob, 2, none⟩) (.slice (some ⟨g, 0, none⟩) (ws.length + 1) cap) (fun _ => rfl)) (fun k hk e => hgo ((Option.some.inj hk).trans e))
    rw [List.length_append]
    simpa [ints] using h1
  · intro g' hg' h
    have : g = g' := Option.some.inj h
    subst this
    exact far g (own_lt M.fin.own hg') (fun h => M.ap2 g hg' h) rfl
  · intro g' hg' h
    have : g = g' := Option.some.inj h
    subst this
    exact far g (own_lt M.edges hg') (fun h => M.ap3 g hg' h) rfl
  · intro h; exact far fb hfb f1 (Option.some.inj h)
  · intro h; exact far mb hmb f2 (Option.some.inj h)
  · intro h; exact hgo (Option.some.inj h)
  · intro h; exact far xb hxb f4 (Option.some.inj h)

theorem Making.edge {w w2 : World} {fb hb mb base lo : Nat} {l : List Nat} {k : Int} {xb ob : Nat} {es ws : List Int} {v ve vw : Value} (M : Making w fb hb mb base lo l k xb ob es ws v ve vw) (hxb : xb < w.heap.size) {g cap : Nat} {x : Int}
    (u : Upd (fun k => ve.ownBlock = some k) w w2) (hO : w2.ownsRow lo 3 1 (.slice (some ⟨g, 0, none⟩) (es.length + 1) cap) (es.length + 1) (ints es ++ [.int .i64 x])) (hat : ve.ownBlock = some g ∨ w.heap.size ≤ g) :
    Making (w2.setCell ⟨ob, 1, none⟩ (.slice (some ⟨g, 0, none⟩) (es.length + 1) cap)) fb hb mb base lo l k xb ob (es ++ [x]) ws v (.slice (some ⟨g, 0, none⟩) (es.length + 1) cap) vw := by
  obtain ⟨o1, o2, o3, o4, o5, o6⟩ := M.off
  obtain ⟨e1, e2, e3, e4⟩ := M.offe
  obtain ⟨f1, f2, f3, f4⟩ := M.offw
  have hob := M.str.lt
  have hfb := M.fin.str.lt
  obtain ⟨D, hm, _⟩ := M.fin.map
  have hmb := hm.lt
  have far : ∀ b, b < w.heap.size → ve.ownBlock ≠ some b → g ≠ b := by
    intro b hb h e
    rcases hat with h' | h'
    · exact h (e ▸ h')
    · omega
  have u' : Upd (fun k => ve.ownBlock = some k ∨ k = ob) w (w2.setCell ⟨ob, 1, none⟩ (.slice (some ⟨g, 0, none⟩) (es.length + 1) cap)) := (u.mono (fun _ _ h => .inl h)).setCell _ (fun _ => .inr rfl)
  have hgo : g ≠ ob := far ob hob e3
  refine ⟨M.fin.upd u' ?_ ?_ ?_, (M.str.upd u e3).set 1 _, ?_, own_upd M.words u' ?_, ?_, M.ap2, ?_, M.off, ⟨?_, ?_, ?_, ?_⟩, M.offw⟩
  · rintro (h | h); exact e1 h; exact o3 h
  · rintro (h | h); exact e2 h; exact o5 h
  · rintro g' hg' (h | h)
    · exact M.ap1 g' hg' h
    · exact o1 (h ▸ hg')
  · have h1 := own_upd hO ((Upd.refl (fun k => k = ob) w2).setCell (p := ⟨ob, 1, none⟩) (.slice (some ⟨g, 0, none⟩) (es.length + 1) cap) (fun _ => rfl)) (fun k hk e => hgo ((Option.some.inj hk).trans e))
    rw [List.length_append]
    simpa [ints] using h1
  · rintro g' hg' (h | h)
    · exact M.ap3 g' h hg'
    · exact f3 (h ▸ hg')
  · intro g' hg' h
    have : g = g' := Option.some.inj h
    subst this
    exact far g (own_lt M.fin.own hg') (fun h => M.ap1 g hg' h) rfl
  · intro g' hg' h
    have : g = g' := Option.some.inj hg'
    subst this
    exact far g (own_lt M.words h) (fun h' => M.ap3 g h' h) rfl
  · intro h; exact far fb hfb e1 (Option.some.inj h)
  · intro h; exact far mb hmb e2 (Option.some.inj h)
  · intro h; exact hgo (Option.some.inj h)
  · intro h; exact far xb hxb e4 (Option.some.inj h)

/-- What is owned is no block of another type. -/
theorem own_off {w : World} {base : Nat} {e t : TypeId} {size : Nat} {v : Value} {n b : Nat} {xs cs : List Value} (h : w.ownsRow base e size v n xs) (hB : Blk w b cs t) (hne : e ≠ t) : Off v b := by
  intro hb
  rcases h.2 with ⟨hv, _⟩ | ⟨g, cap, cur, hv, _, hg, _⟩
  · rw [hv] at hb; cases hb
  · rw [hv] at hb
    have : g = b := Option.some.inj hb
    subst this
    have e1 := Option.some.inj (hg.symm.trans hB)
    injection e1 with _ e2
    exact hne e2
theorem take_drop_snoc {l : List Int} {k p : Nat} {x : Int} (hx : l[k]? = some x) (hp : p ≤ k) : (l.take (k + 1)).drop p = (l.take k).drop p ++ [x] := by
  have hk : k < l.length := (List.getElem?_eq_some_iff.1 hx).1
  rw [List.take_add_one, hx, List.drop_append, show p - (l.take k).length = 0 by rw [List.length_take]; omega]
  rfl

/-- What comes of a node. -/
def NodeEnd (w : World) (fb hb mb base : Nat) (v : Value) (r : Option (List Nat × Nd)) (e : Ending) (w' : World) : Prop :=
  Upd (Finds fb mb v) w w' ∧ match r with
    | none => e = .returned (.tuple #[.agg #[.int .i64 0, .slice none 0 0, .slice none 0 0], .bool false])
    | some (l', nd) => ∃ v' ve vw, e = .returned (.tuple #[.agg #[.int .i64 nd.kind, ve, vw], .bool true]) ∧ FinderAt w' fb hb mb base v' l' ∧ (∀ g, v'.ownBlock = some g → v.ownBlock = some g ∨ w.heap.size ≤ g) ∧
      w'.ownsRow w.heap.size 3 1 ve nd.edges.length (ints nd.edges) ∧ w'.ownsRow w.heap.size 3 1 vw nd.words.length (ints nd.words) ∧ Apart v' ve ∧ Apart v' vw ∧ Apart ve vw

/-- At the head of a round. -/
def Noding (w : World) (fb hb mb base : Nat) (v0 : Value) (l : List Nat) (o : Ob) (os : List Ob) (rb xb ob : Nat) (i : Value) (wr : World) : Prop :=
  ∃ (k : Nat) (l1 : List Nat) (es : List Int) (v ve vw : Value), k ≤ o.len ∧ i = .int .i64 (k : Int) ∧ numbers os l (o.ws.take (min k o.ptrs)) = some (l1, es) ∧
    Making wr fb hb mb base w.heap.size l1 o.kind xb ob es ((o.ws.take k).drop o.ptrs) v ve vw ∧ (∀ g, v.ownBlock = some g → v0.ownBlock = some g ∨ w.heap.size ≤ g) ∧
    Blk wr rb [.int .i64 0, .slice none 0 0, .slice none 0 0] 66 ∧ Blk wr xb [.int .i64 (o.kind : Int), .int .i64 (o.len : Int), .int .i64 (o.ptrs : Int)] 53 ∧ Upd (Finds fb mb v0) w wr

set_option maxRecDepth 20000 in
set_option maxHeartbeats 4000000 in
theorem node_any (w : World) (fb hb mb base : Nat) (v : Value) (l : List Nat) (F : FinderAt w fb hb mb base v l) (wb sb n : Nat) (os : List Ob) (rest : List Int) (H : HeapAt w hb wb sb n os rest) (hsep : hb < base ∧ wb < base ∧ sb < base) (hbase : base ≤ w.heap.size) (hfd : Seen os l)
    (hw64 : ∀ o ∈ os, ∀ x ∈ o.ws, -9223372036854775808 ≤ x ∧ x ≤ 9223372036854775807) (a : Nat) (o : Ob) (hf : find os a = some o) :
    Calls Try.prog 29 #[.pointer (some ⟨fb, 0, none⟩), .int .i64 (a : Int)] w (NodeEnd w fb hb mb base v (node os l o)) := by
  obtain ⟨i0, hi0, hz0, hz1, hz2⟩ := info_parts infoInt
  have hgo := H.good o (find_mem hf)
  have hl1 : o.len ≤ 4095 := hgo.2.2.1
  have hpl : o.ptrs ≤ o.len := hgo.2.1
  have hu0 := (Upd.refl (fun _ => False) w).alloc (.cells #[.int .i64 0, .slice none 0 0, .slice none 0 0] 66)
  have c0 := F.str.cell 0 rfl
  have l0 := F.str.lt
  have HF := Lib.hid F
  have HH := Lib.hid H
  have HFd := Lib.hid hfd
  have HW := Lib.hid hw64
  have HFi := Lib.hid hf
  have HHd := Lib.hid (head_yes _ hb wb sb n os rest (H.quiet hu0) a o hf)
  have HU0 := Lib.hid hu0
  have HR := Lib.hid (Blk.made w [.int .i64 0, .slice none 0 0, .slice none 0 0] 66)
  clear F H hfd hw64 hf hgo hu0
  go_enter Try.func29, Try.ntmps29
  go_wp2_with fail
  refine (HHd.out).mono ?_
  rintro e w1 ⟨rfl, hu1⟩
  have hsz := hu1.size
  have HU1 := Lib.hid (HU0.out.trans hu1)
  have HR1 := Lib.hid (HR.out.upd hu1 (fun h => h))
  have hmk : Making ((w1.alloc (.cells #[.int .i64 (o.kind : Int), .int .i64 (o.len : Int), .int .i64 (o.ptrs : Int)] 53)).alloc (.cells #[.int .i64 (o.kind : Int), .slice none 0 0, .slice none 0 0] 66)) fb hb mb base w.heap.size l o.kind w1.heap.size (w1.heap.size + 1) [] [] v (.slice none 0 0) (.slice none 0 0) := by
    have F1 := HF.out
    have hr1 := HR1.out.lt
    obtain ⟨D, hm, _⟩ := F1.map
    have hml := hm.lt
    have hvl := fun g (hg : v.ownBlock = some g) => own_lt F1.own hg
    refine ⟨(F1.quiet HU1.out).quiet (((Upd.refl _ _).alloc _).alloc _), Blk.made' w1 _ _ _, World.ownsRow_nil _ _ _ _, World.ownsRow_nil _ _ _ _, ?_, ?_, ?_, ⟨?_, ?_, ?_, ?_, ?_, ?_⟩, ⟨?_, ?_, ?_, ?_⟩, ⟨?_, ?_, ?_, ?_⟩⟩
    all_goals first | (intro g hg h; cases h; done) | (intro h; cases h; done) | (intro g hg; cases hg; done) | (intro h; have := hvl _ h; omega) | omega
  have HMk := Lib.hid hmk
  have HX := Lib.hid ((Blk.made w1 [.int .i64 (o.kind : Int), .int .i64 (o.len : Int), .int .i64 (o.ptrs : Int)] 53).alloc (.cells #[.int .i64 (o.kind : Int), .slice none 0 0, .slice none 0 0] 66))
  obtain ⟨xb, hxb⟩ : ∃ xb, xb = w1.heap.size := ⟨_, rfl⟩
  have Hxb := Lib.hid hxb
  have q0 : w.heap.size < xb := by have := HR1.out.lt; omega
  clear hu1 hmk hxb hsz c0
  go_wp2
  rw [← Hxb.out]
  go_loopw [28] (fun i wr => Noding w fb hb mb base v l o os w.heap.size xb (xb + 1) i wr) (fun i _ => o.len - (intOf i).toNat)
  case atStart =>
    have h1 := HMk.out
    have h2 := HX.out
    rw [← Hxb.out] at h1 h2
    have h3 : (List.drop o.ptrs (List.take 0 o.ws)) = [] := by simp
    refine ⟨0, l, [], v, _, _, Nat.zero_le _, rfl, by simp [numbers], by rw [h3]; exact h1, fun g h => .inl h, (HR1.out.alloc _).alloc _, h2, ((HU1.out.mono (fun _ _ h => h.elim)).alloc _).alloc _⟩
  case round =>
    obtain ⟨k, l1, es, v1, ve, vw, hk, rfl, hnum, M, hv1, hR, hX, hU⟩ := hrel
    generalize hws : (o.ws.take k).drop o.ptrs = ws at M
    have hwl : ws.length ≤ 4095 := by rw [← hws]; simp only [List.length_drop, List.length_take]; omega
    have hel : es.length ≤ 4095 := by have := (numbers_found HFd.out hnum).2.2; rw [this]; simp only [List.length_take]; omega
    have Hws := Lib.hid hws
    clear hws
    have c0 := M.fin.str.cell 0 rfl
    have l1' := M.fin.str.lt
    have xbl := hX.lt
    have HM := Lib.hid M
    have HNum := Lib.hid hnum
    have HV1 := Lib.hid hv1
    have HRr := Lib.hid hR
    have HXr := Lib.hid hX
    have HUr := Lib.hid hU
    have Hh := Lib.hid (HH.out.upd hU (by rintro (h | h | h); (have := HF.out.lo; omega); (have := HF.out.lo; omega); (have := (HF.out.own.lt _ h).1; omega)) (by rintro (h | h | h); (have := HF.out.lo; omega); (have := HF.out.lo; omega); (have := (HF.out.own.lt _ h).1; omega)) (by rintro (h | h | h); (have := HF.out.lo; omega); (have := HF.out.lo; omega); (have := (HF.out.own.lt _ h).1; omega)))
    clear M hnum hv1 hR hX hU
    by_cases hlk : k < o.len
    · obtain ⟨x, hx⟩ : ∃ x, o.ws[k]? = some x := ⟨_, List.getElem?_eq_getElem hlk⟩
      have d1 : decide ((k : Int) < (o.len : Int)) = true := decide_eq_true (by omega)
      have d1' : decide (k < o.len) = true := decide_eq_true hlk
      have HX1 := Lib.hid hx
      have hrd := read_yes wr hb wb sb n os rest Hh.out a k o x HFi.out hx
      have HRd := Lib.hid hrd
      have hxw := HW.out o (find_mem HFi.out) x (List.mem_of_getElem? hx)
      clear hx hrd
      go_wp2_with fail
      refine (HRd.out).mono ?_
      rintro e w2 ⟨rfl, hu2⟩
      have M2 := HM.out.quiet hu2
      have HM2 := Lib.hid M2
      have Hh2 := Lib.hid (Hh.out.quiet hu2)
      have HR2 := Lib.hid (HRr.out.upd hu2 (fun h => h))
      have HX2 := Lib.hid (HXr.out.upd hu2 (fun h => h))
      have HU2 := Lib.hid (HUr.out.trans (hu2.mono (fun _ _ h => h.elim)))
      have x2 := (HXr.out.upd hu2 (fun h => h)).cell 2 rfl
      have ob2 := M2.str.lt
      have xb2 := (HXr.out.upd hu2 (fun h => h)).lt
      have hsz2 := hu2.size
      have hbase2 : base ≤ w2.heap.size := by have := HUr.out.size; omega
      by_cases hp : k < o.ptrs
      · have dp : decide ((o.ptrs : Int) ≤ (k : Int)) = false := decide_eq_false (by omega)
        have dp' : decide (o.ptrs ≤ k) = false := decide_eq_false (by omega)
        have hsn : numbers os l (o.ws.take (k + 1)) = match number os l1 x with
            | none => none
            | some (l2, j) => some (l2, es ++ [(j : Int)]) := by
          rw [List.take_add_one, HX1.out, Option.toList_some, numbers_snoc, show k = min k o.ptrs by omega, HNum.out]
          rfl
        have hfd1 := (numbers_found HFd.out HNum.out).1
        obtain ⟨ea, ec, rfl⟩ := own_form M2.edges
        have y1 := M2.str.cell 1 rfl
        clear hu2 c0 M2
        cases hnx : number os l1 x with
        | none =>
          rw [hnx] at hsn
          have hnode : node os l o = none := by
            unfold node
            have h1 : o.ws.take o.ptrs = o.ws.take (k + 1) ++ (o.ws.take o.ptrs).drop (k + 1) := by
              have := List.take_append_drop (k + 1) (o.ws.take o.ptrs)
              rw [List.take_take, show min (k + 1) o.ptrs = k + 1 by omega] at this
              exact this.symm
            rw [h1, numbers_stop os _ _ l hsn]
          have hnn := number_no w2 fb hb mb base v1 l1 HM2.out.fin wb sb n os rest Hh2.out x hxw hnx
          have HNode := Lib.hid hnode
          have HNn := Lib.hid hnn
          clear hsn hfd1 hnx hnode hnn
          go_wp2_with fail
          refine (HNn.out).mono ?_
          rintro e w3 ⟨rfl, hu3⟩
          have hr3 := HR2.out.upd hu3 (fun h => h)
          obtain ⟨⟨r0, r1, r2⟩, f0, f1, f2⟩ := hr3.three
          have HR3 := Lib.hid hr3
          have HU3 := Lib.hid (HU2.out.trans (hu3.mono (fun _ _ h => h.elim)))
          clear hr3 hu3 y1 x2
          go_wp2
          refine bodyPost_ret (res_cell_tmp rfl _ _ w.heap.size _ 66 _ _ rfl rfl (HR3.out.set3 _ _ _) Try.underlying66 rfl (by kernel_rfl)) rfl ⟨HU3.out.set3 _ _ _ _ (by omega), ?_⟩
          rw [HNode.out]
          rfl
        | some pr =>
          obtain ⟨l2, j⟩ := pr
          rw [hnx] at hsn
          have hns := number_some w2 fb hb mb base v1 l1 HM2.out.fin wb sb n os rest Hh2.out hbase2 hfd1 x l2 j hnx
          have HSn := Lib.hid hsn
          have HNs := Lib.hid hns
          clear hsn hfd1 hnx hns
          go_wp2_with fail
          refine (HNs.out).mono ?_
          rintro e w3 ⟨rfl, hfo⟩
          have hu3 := hfo.2
          obtain ⟨v3, M3, hv3⟩ := HM2.out.found xb2 hfo
          have hr3 := HR2.out.upd hu3 (by rintro (h | h | h); (have := HF.out.str.lt; omega); (have := HM2.out.fin.lo; have := HF.out.map; obtain ⟨D, hm, _⟩ := this; have := hm.lt; omega); exact own_off HM2.out.fin.own HR2.out (by decide) h)
          have hx3 := HX2.out.upd hu3 (by rintro (h | h | h); exact HM2.out.off.2.2.2.1 h.symm; exact HM2.out.off.2.2.2.2.2 h.symm; exact HM2.out.off.2.1 h)
          have hv3' : ∀ g, v3.ownBlock = some g → v.ownBlock = some g ∨ w.heap.size ≤ g := by
            intro g hg
            rcases hv3 g hg with h | h
            · exact HV1.out g h
            · exact .inr (by omega)
          have hU3 := HU2.out.next hu3 (by
            rintro i hi (h | h | h)
            · exact .inl h
            · exact .inr (.inl h)
            · rcases HV1.out i h with h' | h'
              · exact .inr (.inr h')
              · omega)
          have y1 := M3.str.cell 1 rfl
          have xb3 := hx3.lt
          have hsz3 := hu3.size
          have HM3 := Lib.hid M3
          have HR3 := Lib.hid hr3
          have HX3 := Lib.hid hx3
          have HU3 := Lib.hid hU3
          have HV3 := Lib.hid hv3'
          have ob3 := M3.str.lt
          clear hfo hu3 M3 hr3 hx3 hU3 hv3' hv3 x2
          go_wp2_with (first | (at_builtin; refine wpList_append_lies _ rfl _ _ 22 rfl w.heap.size 3 i0 _ 1 8 Try.underlying22 hi0 hz0 hz1 hz2 rfl (by decide) _ _ _ rfl (HM3.out.edges.alloc _) ⟨w3.heap.size, 0, none⟩ 1 1 [.int .i64 (j : Int)] rfl rfl ?c1 ?c2 (by decide) ?c3 ?c4 ?c5 _ rfl ?_))
          case c1 => exact cells_new _ _ _
          case c2 => simp [Value.oneCell']
          case c3 => simp only [maxLen]; omega
          case c4 => omega
          case c5 => simp only [World.size_alloc]; omega
          intro g cap w4 hO4 hg4 hat4 hlt4
          have u4 : Upd (fun k => (Value.slice ea es.length ec).ownBlock = some k) w3 w4 := ((Upd.refl _ w3).alloc (.cells #[.int .i64 (j : Int)] 3)).grown hg4 (fun k hk _ => hk)
          have hat4' : (Value.slice ea es.length ec).ownBlock = some g ∨ w3.heap.size ≤ g := by
            rcases hat4 with h | h
            · exact .inl h
            · exact .inr (by have := World.size_alloc w3 (.cells #[.int .i64 (j : Int)] 3); omega)
          have M4 := HM3.out.edge xb3 u4 hO4 hat4'
          have hs4 := HM3.out.str.upd u4 HM3.out.offe.2.2.1
          have hr4 := HR3.out.upd u4 (own_off HM3.out.edges HR3.out (by decide))
          have hx4 := HX3.out.upd u4 HM3.out.offe.2.2.2
          have hU4 := HU3.out.next u4 (by intro i hi h; have := (HM3.out.edges.lt i h).1; omega)
          have s2 := hs4.cell 1 rfl
          have f2 := hs4.frozen 1
          have l3 := hs4.lt
          have HM4 := Lib.hid M4
          have HR4 := Lib.hid hr4
          have HX4 := Lib.hid hx4
          have HU4 := Lib.hid hU4
          clear hO4 hg4 hat4 hat4' u4 M4 hs4 hr4 hx4 hU4 hlt4 y1
          go_wp2
          go_roundw
          case rel =>
            refine ⟨k + 1, l2, es ++ [(j : Int)], v3, .slice (some ⟨g, 0, none⟩) (es.length + 1) cap, vw, by omega, by go_num, ?_, ?_, HV3.out, HR4.out.setOther _ (by simp; omega), HX4.out.setOther _ (by simp), HU4.out.setCell _ (fun h => by have h' : xb + 1 < w.heap.size := h; omega)⟩
            · rw [show min (k + 1) o.ptrs = k + 1 by omega]; exact HSn.out
            · have h1 : (o.ws.take (k + 1)).drop o.ptrs = ws := by
                rw [← Hws.out, List.drop_eq_nil_of_le (by rw [List.length_take]; omega), List.drop_eq_nil_of_le (by rw [List.length_take]; omega)]
              rw [h1]
              exact HM4.out
          case measure => simp [intOf]; omega
      · have dp : decide ((o.ptrs : Int) ≤ (k : Int)) = true := decide_eq_true (by omega)
        have dp' : decide (o.ptrs ≤ k) = true := decide_eq_true (by omega)
        obtain ⟨wa, wc, rfl⟩ := own_form M2.words
        have y2 := M2.str.cell 2 rfl
        clear hu2 c0 M2
        go_wp2_with (first | (at_builtin; refine wpList_append_lies _ rfl _ _ 22 rfl w.heap.size 3 i0 _ 1 8 Try.underlying22 hi0 hz0 hz1 hz2 rfl (by decide) _ _ _ rfl (HM2.out.words.alloc _) ⟨w2.heap.size, 0, none⟩ 1 1 [.int .i64 x] rfl rfl ?c1 ?c2 (by decide) ?c3 ?c4 ?c5 _ rfl ?_))
        case c1 => exact cells_new _ _ _
        case c2 => simp [Value.oneCell']
        case c3 => simp only [maxLen]; omega
        case c4 => omega
        case c5 => simp only [World.size_alloc]; omega
        intro g cap w3 hO3 hg3 hat3 hlt3
        have u3 : Upd (fun k => (Value.slice wa ws.length wc).ownBlock = some k) w2 w3 := ((Upd.refl _ w2).alloc (.cells #[.int .i64 x] 3)).grown hg3 (fun k hk _ => hk)
        have hat3' : (Value.slice wa ws.length wc).ownBlock = some g ∨ w2.heap.size ≤ g := by
          rcases hat3 with h | h
          · exact .inl h
          · exact .inr (by have := World.size_alloc w2 (.cells #[.int .i64 x] 3); omega)
        have M3 := HM2.out.word xb2 u3 hO3 hat3'
        have hs3 := HM2.out.str.upd u3 HM2.out.offw.2.2.1
        have hr3 := HR2.out.upd u3 (own_off HM2.out.words HR2.out (by decide))
        have hx3 := HX2.out.upd u3 HM2.out.offw.2.2.2
        have hU3 := HU2.out.next u3 (by intro i hi h; have := (HM2.out.words.lt i h).1; omega)
        have s2 := hs3.cell 2 rfl
        have f2 := hs3.frozen 2
        have l3 := hs3.lt
        have HM3 := Lib.hid M3
        have HR3 := Lib.hid hr3
        have HX3 := Lib.hid hx3
        have HU3 := Lib.hid hU3
        clear hO3 hg3 hat3 hat3' u3 M3 hs3 hr3 hx3 hU3 hlt3 y2 x2
        go_wp2
        go_roundw
        case rel =>
          refine ⟨k + 1, l1, es, v1, ve, .slice (some ⟨g, 0, none⟩) (ws.length + 1) cap, by omega, by go_num, ?_, ?_, HV1.out, HR3.out.setOther _ (by simp; omega), HX3.out.setOther _ (by simp), HU3.out.setCell _ (fun h => by have h' : xb + 1 < w.heap.size := h; omega)⟩
          · rw [show min (k + 1) o.ptrs = min k o.ptrs by omega]; exact HNum.out
          · rw [take_drop_snoc HX1.out (by omega), Hws.out]
            exact HM3.out
        case measure => simp [intOf]; omega
    · have hke : k = o.len := by omega
      have hws2 : ws = o.ws.drop o.ptrs := by rw [← Hws.out, hke, show o.len = o.ws.length from rfl, List.take_length]
      have hnode : node os l o = some (l1, ⟨o.kind, es, ws⟩) := by
        unfold node
        have := HNum.out
        rw [hke, show min o.len o.ptrs = o.ptrs by omega] at this
        rw [this, hws2]
      have HNode := Lib.hid hnode
      have d1 : decide ((k : Int) < (o.len : Int)) = false := decide_eq_false (by omega)
      have d1' : decide (k < o.len) = false := decide_eq_false hlk
      obtain ⟨ea, ec, rfl⟩ := own_form HM.out.edges
      obtain ⟨wa, wc, rfl⟩ := own_form HM.out.words
      have hr := HRr.out
      obtain ⟨⟨r0, r1, r2⟩, f0, f1, f2⟩ := hr.three
      have hs := HM.out.str
      obtain ⟨⟨s0, s1, s2⟩, _⟩ := hs.three
      clear hr hs hnode hws2 hke c0
      go_wp2
      refine bodyPost_ret (res_cell_tmp rfl _ _ w.heap.size _ 66 _ _ rfl rfl (HRr.out.set3 _ _ _) Try.underlying66 rfl (by kernel_rfl)) rfl ⟨HUr.out.set3 _ _ _ _ (by omega), ?_⟩
      rw [HNode.out]
      have u : Upd (fun k => k = w.heap.size) wr (((wr.setCell ⟨w.heap.size, 0, none⟩ (.int .i64 (o.kind : Int))).setCell ⟨w.heap.size, 1, none⟩ (.slice ea es.length ec)).setCell ⟨w.heap.size, 2, none⟩ (.slice wa ws.length wc)) := (Upd.refl _ wr).set3 _ _ _ _ (fun _ => rfl)
      have hfl := HF.out.str.lt
      obtain ⟨D, hm, _⟩ := HF.out.map
      have hml := hm.lt
      refine ⟨v1, .slice ea es.length ec, .slice wa ws.length wc, rfl, HM.out.fin.upd u (by omega) (by omega) (fun g hg e => own_off HM.out.fin.own HRr.out (by decide) (e ▸ hg)), HV1.out, own_upd HM.out.edges u (fun g hg e => own_off HM.out.edges HRr.out (by decide) (e ▸ hg)), own_upd HM.out.words u (fun g hg e => own_off HM.out.words HRr.out (by decide) (e ▸ hg)), HM.out.ap1, HM.out.ap2, HM.out.ap3⟩
end Go.Proofs.Ytlphlaenecidiaa.Graph
