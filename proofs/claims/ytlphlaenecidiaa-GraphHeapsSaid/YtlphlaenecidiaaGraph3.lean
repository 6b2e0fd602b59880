/- Contracts of package graph: a heap's form. -/
import Derived.Test.YtlphlaenecidiaaGraph2
import Derived.Test.YtlphlaenecidiaaRow
import Derived.Deep.DeepCutAuto
namespace Go.Proofs.Ytlphlaenecidiaa.Graph
open Go.RowKit Go.Maps Go.Proofs.Ytlphlaenecidiaa.Mem Go.Proofs.Ytlphlaenecidiaa.Obj Go.Proofs.Ytlphlaenecidiaa.Heap

theorem own_apart {w : World} {base base' : Nat} {e e' : TypeId} {size size' : Nat} {v v' : Value} {n n' : Nat} {xs xs' : List Value} (h : w.ownsRow base e size v n xs) (h' : w.ownsRow base' e' size' v' n' xs') (hne : e ≠ e') : Apart v v' := by
  intro g hg hg'
  rcases h.2 with ⟨hv, _⟩ | ⟨g1, cap, cur, hv, _, hb, _⟩
  · rw [hv] at hg; cases hg
  · rcases h'.2 with ⟨hv', _⟩ | ⟨g2, cap', cur', hv', _, hb', _⟩
    · rw [hv'] at hg'; cases hg'
    · rw [hv] at hg
      rw [hv'] at hg'
      have e1 : g1 = g := Option.some.inj hg
      have e2 : g2 = g := Option.some.inj hg'
      subst e1
      subst e2
      have e1 := Option.some.inj (hb.symm.trans hb')
      injection e1 with _ e3
      exact hne e3
theorem own_off_map {w : World} {base : Nat} {e : TypeId} {size : Nat} {v : Value} {n b : Nat} {xs : List Value} {k : TypeId} {R : Value → Option (DataW Unit × List MemPlace)} {m : Nat} {D : DataW Unit} (h : w.ownsRow base e size v n xs) (hm : w.ownsMap Try.prog k R b m D) : Off v b := by
  intro hb
  rcases h.2 with ⟨hv, _⟩ | ⟨g, cap, cur, hv, _, hg, _⟩
  · rw [hv] at hb; cases hb
  · rw [hv] at hb
    have : g = b := Option.some.inj hb
    subst this
    obtain ⟨es, ck, h1, _⟩ := hm
    have e1 := Option.some.inj (hg.symm.trans h1)
    cases e1

theorem node_seen {os : List Ob} {l l' : List Nat} {o : Ob} {nd : Nd} (h : Seen os l) (hn : node os l o = some (l', nd)) : Seen os l' := by
  unfold node at hn
  split at hn
  · cases hn
  · rename_i l1 es h1
    cases hn
    exact (numbers_found h h1).1

theorem infoNode : (Try.prog.info? 66).map (fun i => (i.zero, i.size, i.bytes)) = some (some (.agg #[.int .i64 0, .slice none 0 0, .slice none 0 0]), 3, 56) := by kernel_rfl

/-- Nodes, with the rows of their edges and words. -/
abbrev Nv := Nd × Value × Value
def ncells (l : List Nv) : List Value := l.flatMap fun p => [.int .i64 p.1.kind, p.2.1, p.2.2]
theorem ncells_len (l : List Nv) : (ncells l).length = l.length * 3 := by
  induction l with
  | nil => rfl
  | cons a l ih => simp only [ncells, List.flatMap_cons, List.length_append, List.length_cons, List.length_nil] at ih ⊢; omega
theorem ncells_snoc (l : List Nv) (p : Nv) : ncells (l ++ [p]) = ncells l ++ [.int .i64 p.1.kind, p.2.1, p.2.2] := by simp [ncells]

/-- Rows of numbers that are there. -/
def RowsOf (w : World) (base : Nat) (l : List Nv) : Prop := ∀ p ∈ l, w.ownsRow base 3 1 p.2.1 p.1.edges.length (ints p.1.edges) ∧ w.ownsRow base 3 1 p.2.2 p.1.words.length (ints p.1.words)
theorem RowsOf.upd {S : Nat → Prop} {w w' : World} {base : Nat} {l : List Nv} (h : RowsOf w base l) (u : Upd S w w') (hs : ∀ p ∈ l, (∀ g, p.2.1.ownBlock = some g → ¬ S g) ∧ (∀ g, p.2.2.ownBlock = some g → ¬ S g)) : RowsOf w' base l :=
  fun p hp => ⟨own_upd (h p hp).1 u (hs p hp).1, own_upd (h p hp).2 u (hs p hp).2⟩

/-- A form lies there. -/
structure FormAt (w : World) (base : Nat) (va vn : Value) (ks : List Int) (nds : List Nd) : Prop where
  roots : w.ownsRow base 3 1 va ks.length (ints ks)
  nodes : ∃ nv : List Nv, nv.map (·.1) = nds ∧ w.ownsRow base 66 3 vn nds.length (ncells nv) ∧ RowsOf w base nv
theorem FormAt.quiet {w w' : World} {base : Nat} {va vn : Value} {ks : List Int} {nds : List Nd} (h : FormAt w base va vn ks nds) (u : Upd (fun _ => False) w w') : FormAt w' base va vn ks nds := by
  obtain ⟨nv, h1, h2, h3⟩ := h.nodes
  exact ⟨own_upd h.roots u (fun _ _ h => h), nv, h1, own_upd h2 u (fun _ _ h => h), h3.upd u (fun p hp => ⟨fun _ _ h => h, fun _ _ h => h⟩)⟩

/-- What comes of Of. -/
def OfEnd (w : World) (r : Option (List Int × List Nd)) (e : Ending) (w' : World) : Prop :=
  Upd (fun _ => False) w w' ∧ match r with
    | none => e = .returned (.tuple #[.agg #[.slice none 0 0, .slice none 0 0], .int .i64 5])
    | some (ks, nds) => ∃ va vn, e = .returned (.tuple #[.agg #[va, vn], .int .i64 0]) ∧ FormAt w' w.heap.size va vn ks nds

/-- Loop 1. -/
def Rooting (w : World) (os : List Ob) (xs : List Int) (hb : Nat) (i : Value) (wr : World) : Prop :=
  ∃ (k : Nat) (l : List Nat) (ks : List Int) (v va : Value), k ≤ xs.length ∧ i = .int .i64 (k : Int) ∧ numbers os [] (xs.take k) = some (l, ks) ∧ FinderAt wr (w.heap.size + 2) hb (w.heap.size + 1) w.heap.size v l ∧
    Blk wr (w.heap.size + 3) [va, .slice none 0 0] 35 ∧ wr.ownsRow w.heap.size 3 1 va ks.length (ints ks) ∧ Apart v va ∧ Blk wr w.heap.size [.slice none 0 0, .slice none 0 0] 35 ∧ Upd (fun _ => False) w wr

/-- Loop 2. -/
def Noding2 (w : World) (os : List Ob) (l0 : List Nat) (ks : List Int) (va : Value) (hb : Nat) (g : Nat) (wr : World) : Prop :=
  ∃ (l : List Nat) (v vn : Value) (nv : List Nv), nv.length + g = top os + 1 ∧ Seen os l ∧ nodes os (top os + 1) l0 [] = nodes os g l (nv.map (·.1)) ∧ FinderAt wr (w.heap.size + 2) hb (w.heap.size + 1) w.heap.size v l ∧
    Blk wr (w.heap.size + 3) [va, vn] 35 ∧ wr.ownsRow w.heap.size 3 1 va ks.length (ints ks) ∧ Apart v va ∧ wr.ownsRow w.heap.size 66 3 vn nv.length (ncells nv) ∧ RowsOf wr w.heap.size nv ∧
    (∀ p ∈ nv, Apart v p.2.1 ∧ Apart v p.2.2) ∧ Blk wr w.heap.size [.slice none 0 0, .slice none 0 0] 35 ∧ Upd (fun _ => False) w wr

theorem ints_below {B : Nat} {w w' : World} {k : IntKind} {a : Option Addr} {zs : List Int} (h : Row.Ints k w a zs) (hb : Below B w w') (hB : B = w.heap.size) : Row.Ints k w' a zs := by
  subst hB
  refine ⟨fun j x hx => ?_, h.wf, h.short⟩
  obtain ⟨b, off, e, hc, hlt⟩ := h.cell j x hx
  exact ⟨b, off, e, (hb.cell (p := ⟨b, off + j, none⟩) hlt).trans hc, Nat.lt_of_lt_of_le hlt hb.size⟩
theorem Finds_new {w : World} {fb hb mb base : Nat} {v : Value} {l : List Nat} (F : FinderAt w fb hb mb base v l) {k : Nat} (h : Finds fb mb v k) : base ≤ k := by
  rcases h with h | h | h
  · rw [h]; exact F.lo.1
  · rw [h]; exact F.lo.2.1
  · exact (F.own.lt k h).1

/-- A node that came, at a world, and what became of it. -/
def NodeRes (w : World) (fb hb mb base : Nat) (v : Value) (r : Option (List Nat × Nd)) (k : Int) (ve vw : Value) (b : Bool) (w' : World) : Prop :=
  Upd (Finds fb mb v) w w' ∧ match r with
    | none => b = false
    | some (l', nd) => b = true ∧ k = nd.kind ∧ ∃ v', FinderAt w' fb hb mb base v' l' ∧ (∀ g, v'.ownBlock = some g → v.ownBlock = some g ∨ w.heap.size ≤ g) ∧
      w'.ownsRow w.heap.size 3 1 ve nd.edges.length (ints nd.edges) ∧ w'.ownsRow w.heap.size 3 1 vw nd.words.length (ints nd.words) ∧ Apart v' ve ∧ Apart v' vw ∧ Apart ve vw
/-- What a node's call answers, in one form. -/
def NodeAns (w0 w : World) (fb hb mb base : Nat) (v : Value) (r : Option (List Nat × Nd)) (e : Ending) (w' : World) : Prop :=
  ∃ (k : Int) (ea wa : Option Addr) (en ec wn wc : Nat) (b : Bool), e = .returned (.tuple #[.agg #[.int .i64 k, .slice ea en ec, .slice wa wn wc], .bool b]) ∧ NodeRes w fb hb mb base v r k (.slice ea en ec) (.slice wa wn wc) b w' ∧ Upd (fun _ => False) w0 w
theorem NodeEnd.ans {w0 w : World} {fb hb mb base : Nat} {v : Value} {r : Option (List Nat × Nd)} {e : Ending} {w' : World} (h : NodeEnd w fb hb mb base v r e w') (hu : Upd (fun _ => False) w0 w) : NodeAns w0 w fb hb mb base v r e w' := by
  obtain ⟨u, h⟩ := h
  cases r with
  | none => exact ⟨0, none, none, 0, 0, 0, 0, false, h, ⟨u, rfl⟩, hu⟩
  | some p =>
    obtain ⟨l', nd⟩ := p
    obtain ⟨v', ve, vw, he, hF, hv, h1, h2, h3, h4, h5⟩ := h
    obtain ⟨ea, ec, rfl⟩ := own_form h1
    obtain ⟨wa, wc, rfl⟩ := own_form h2
    exact ⟨nd.kind, ea, wa, _, ec, _, wc, true, he, ⟨u, rfl, rfl, v', hF, hv, h1, h2, h3, h4, h5⟩, hu⟩
theorem NodeRes.base {w0 w : World} {fb hb mb base : Nat} {v : Value} {r : Option (List Nat × Nd)} {k : Int} {ve vw : Value} {b : Bool} {w' : World} (h : NodeRes w fb hb mb base v r k ve vw b w') (hu : Upd (fun _ => False) w0 w) : NodeRes w0 fb hb mb base v r k ve vw b w' := by
  obtain ⟨u, h⟩ := h
  refine ⟨(hu.mono (fun _ _ h => h.elim)).trans u, ?_⟩
  have hs := hu.size
  cases r with
  | none => exact h
  | some p =>
    obtain ⟨l', nd⟩ := p
    obtain ⟨hb', hk, v', hF, hv, h1, h2, h3, h4, h5⟩ := h
    exact ⟨hb', hk, v', hF, fun g hg => (hv g hg).imp id (fun h => by omega), own_base h1 hs, own_base h2 hs, h3, h4, h5⟩
theorem NodeRes.upd {S : Nat → Prop} {w : World} {fb hb mb base : Nat} {v : Value} {r : Option (List Nat × Nd)} {k : Int} {ve vw : Value} {b : Bool} {w' w2 : World} (h : NodeRes w fb hb mb base v r k ve vw b w') (u2 : Upd S w' w2) (hw : ∀ i, i < w.heap.size → ¬ S i)
    (hr : ∀ (x : Value) (n : Nat) (xs : List Value) (lo : Nat), w'.ownsRow lo 3 1 x n xs → ∀ g, x.ownBlock = some g → ¬ S g) (hf : fb < w.heap.size ∧ mb < w.heap.size) : NodeRes w fb hb mb base v r k ve vw b w2 := by
  obtain ⟨u, h⟩ := h
  refine ⟨u.next u2 (fun i hi h => absurd h (hw i hi)), ?_⟩
  cases r with
  | none => exact h
  | some p =>
    obtain ⟨l', nd⟩ := p
    obtain ⟨hb', hk, v', hF, hv, h1, h2, h3, h4, h5⟩ := h
    exact ⟨hb', hk, v', hF.upd u2 (hw fb hf.1) (hw mb hf.2) (hr _ _ _ _ hF.own), hv, own_upd h1 u2 (hr _ _ _ _ h1), own_upd h2 u2 (hr _ _ _ _ h2), h3, h4, h5⟩

/-- Behind a node's call. -/
def Noded (w : World) (fb hb mb base : Nat) (v : Value) (r : Option (List Nat × Nd)) (s12 s13 : Value) (w' : World) : Prop :=
  ∃ (nb : Nat) (k : Int) (ea wa : Option Addr) (en ec wn wc : Nat) (b : Bool), s12 = .pointer (some ⟨nb, 0, none⟩) ∧ s13 = .bool b ∧ Blk w' nb [.int .i64 k, .slice ea en ec, .slice wa wn wc] 66 ∧ NodeRes w fb hb mb base v r k (.slice ea en ec) (.slice wa wn wc) b w'

set_option maxRecDepth 20000 in
set_option maxHeartbeats 4000000 in
theorem of_any (w : World) (hb wb sb n : Nat) (os : List Ob) (rest : List Int) (H : HeapAt w hb wb sb n os rest) (a : Option Addr) (cap : Nat) (xs : List Int) (hz : Row.Ints .i64 w a xs) (hxl : xs.length ≤ 100000)
    (hx64 : ∀ x ∈ xs, -9223372036854775808 ≤ x ∧ x ≤ 9223372036854775807) (hw64 : ∀ o ∈ os, ∀ x ∈ o.ws, -9223372036854775808 ≤ x ∧ x ≤ 9223372036854775807) :
    Calls Try.prog 12 #[.pointer (some ⟨hb, 0, none⟩), .slice a xs.length cap] w (OfEnd w (form os xs)) := by
  obtain ⟨i0, hi0, hz0, hz1, hz2⟩ := info_parts infoInt
  obtain ⟨j0, hj0, hy0, hy1, hy2⟩ := info_parts infoNode
  have hmm := @run_makeMap Try.prog
  have hbl := H.str.lt
  have wbl := H.wds.lt
  have sbl := H.sts.lt
  have HH := Lib.hid H
  have HZ := Lib.hid hz
  have HX := Lib.hid hx64
  have HW := Lib.hid hw64
  have hrb := (((Blk.made w [.slice none 0 0, .slice none 0 0] 35).alloc (.map #[] 0)).alloc (.cells #[.pointer (some ⟨hb, 0, none⟩), .slice none 0 0, .map (some (w.heap.size + 1))] 79)).alloc (.cells #[.slice none 0 0, .slice none 0 0] 35)
  have hfi : FinderAt ((((w.alloc (.cells #[.slice none 0 0, .slice none 0 0] 35)).alloc (.map #[] 0)).alloc (.cells #[.pointer (some ⟨hb, 0, none⟩), .slice none 0 0, .map (some (w.heap.size + 1))] 79)).alloc (.cells #[.slice none 0 0, .slice none 0 0] 35))
      (w.heap.size + 2) hb (w.heap.size + 1) w.heap.size (.slice none 0 0) [] := by
    have h1 := (Blk.made' (w.alloc (.cells #[.slice none 0 0, .slice none 0 0] 35)) (.map #[] 0) [.pointer (some ⟨hb, 0, none⟩), .slice none 0 0, .map (some (w.heap.size + 1))] 79).alloc (.cells #[.slice none 0 0, .slice none 0 0] 35)
    rw [World.size_alloc] at h1
    have h2 := World.ownsMap_made (H := Unit) (w.alloc (.cells #[.slice none 0 0, .slice none 0 0] 35)) Try.prog 3 (plainElem Try.prog 3)
    rw [World.size_alloc] at h2
    refine ⟨h1, World.ownsRow_nil _ _ _ _, ⟨.map [], (h2.alloc _).alloc _, Nums.nil⟩, by omega, fun g hg => by cases hg⟩
  have hob : Blk ((((w.alloc (.cells #[.slice none 0 0, .slice none 0 0] 35)).alloc (.map #[] 0)).alloc (.cells #[.pointer (some ⟨hb, 0, none⟩), .slice none 0 0, .map (some (w.heap.size + 1))] 79)).alloc (.cells #[.slice none 0 0, .slice none 0 0] 35))
      (w.heap.size + 3) [.slice none 0 0, .slice none 0 0] 35 := by
    have h1 := Blk.made' ((w.alloc (.cells #[.slice none 0 0, .slice none 0 0] 35)).alloc (.map #[] 0)) (.cells #[.pointer (some ⟨hb, 0, none⟩), .slice none 0 0, .map (some (w.heap.size + 1))] 79) [.slice none 0 0, .slice none 0 0] 35
    rw [World.size_alloc, World.size_alloc] at h1
    exact h1
  have hu0 := ((((Upd.refl (fun _ => False) w).alloc (.cells #[.slice none 0 0, .slice none 0 0] 35)).alloc (.map #[] 0)).alloc (.cells #[.pointer (some ⟨hb, 0, none⟩), .slice none 0 0, .map (some (w.heap.size + 1))] 79)).alloc (.cells #[.slice none 0 0, .slice none 0 0] 35)
  have HRb := Lib.hid hrb
  have HFi := Lib.hid hfi
  have HOb := Lib.hid hob
  have HU0 := Lib.hid hu0
  clear H hz hx64 hw64 hrb hfi hob hu0
  go_enter Try.func12, Try.ntmps12
  go_wp2
  go_loopw [20] (fun i wr => Rooting w os xs hb i wr) (fun i _ => xs.length - (intOf i).toNat)
  case atStart => exact ⟨0, [], [], _, _, Nat.zero_le _, rfl, rfl, HFi.out, HOb.out, World.ownsRow_nil _ _ _ _, (fun g hg => by cases hg), HRb.out, HU0.out⟩
  case round =>
    obtain ⟨k, l, ks, v, va, hk, rfl, hnum, hF, hO, hV, hA, hR, hU⟩ := hrel
    have hseen := (numbers_found (Seen.nil os) hnum).1
    have hkl := (numbers_found (Seen.nil os) hnum).2.2
    rw [List.length_take] at hkl
    have hks : ks.length ≤ 100000 := by omega
    have hUs := hU.size
    have HSeen := Lib.hid hseen
    have HF := Lib.hid hF
    have HO := Lib.hid hO
    have HV := Lib.hid hV
    have HA := Lib.hid hA
    have HR := Lib.hid hR
    have HU := Lib.hid hU
    have HNum := Lib.hid hnum
    have Hh := Lib.hid (HH.out.quiet hU)
    have hfl := hF.str.lt
    have hol := hO.lt
    have hrl := hR.lt
    obtain ⟨aa, ac, rfl⟩ := own_form hV
    clear hseen hkl hF hO hV hA hR hU hnum
    by_cases hlk : k < xs.length
    · obtain ⟨x, hx⟩ : ∃ x, xs[k]? = some x := ⟨_, List.getElem?_eq_getElem hlk⟩
      have hzr := ints_below HZ.out (HU.out.below (fun _ _ h => h)) rfl
      obtain ⟨bz, off, rfl, hc, _⟩ := hzr.cell k x hx
      have d1 : decide ((k : Int) < (xs.length : Int)) = true := decide_eq_true (by omega)
      have d1' : decide (k < xs.length) = true := decide_eq_true hlk
      have hsn : numbers os [] (xs.take (k + 1)) = match number os l x with
          | none => none
          | some (l2, j) => some (l2, ks ++ [(j : Int)]) := by
        rw [List.take_add_one, hx, Option.toList_some, numbers_snoc, HNum.out]
        rfl
      have hxw := HX.out x (List.mem_of_getElem? hx)
      have HXk := Lib.hid hx
      have HSn := Lib.hid hsn
      clear hzr hx hsn
      cases hnx : number os l x with
      | none =>
        have hform : form os xs = none := by
          have h1 := HSn.out
          rw [hnx] at h1
          unfold form
          have h2 := List.take_append_drop (k + 1) xs
          rw [← h2, numbers_stop os _ _ [] h1]
        have HForm := Lib.hid hform
        have HNn := Lib.hid (number_no wr (w.heap.size + 2) hb (w.heap.size + 1) w.heap.size v l HF.out wb sb n os rest Hh.out x hxw hnx)
        clear hform hnx
        go_wp2_with fail
        refine (HNn.out).mono ?_
        rintro e w3 ⟨rfl, hu3⟩
        have hr3 := HR.out.upd hu3 (fun h => h)
        have r0 := hr3.cell 0 rfl
        have r1 := hr3.cell 1 rfl
        have f0 := hr3.frozen 0
        have f1 := hr3.frozen 1
        have hrl3 := hr3.lt
        have HR3 := Lib.hid hr3
        have HU3 := Lib.hid (HU.out.trans hu3)
        clear hr3 hu3 hc
        go_wp2
        refine bodyPost_ret (res_cell_tmp rfl _ _ w.heap.size _ 35 _ _ rfl rfl ((HR3.out.set 0 _).set 1 _) Try.underlying35 rfl (by kernel_rfl)) rfl ⟨(HU3.out.setCell _ (fun h => by have h' : w.heap.size < w.heap.size := h; omega)).setCell _ (fun h => by have h' : w.heap.size < w.heap.size := h; omega), ?_⟩
        rw [HForm.out]
        rfl
      | some pr =>
        obtain ⟨l2, j⟩ := pr
        have hn2 := HSn.out
        rw [hnx] at hn2
        have HN2 := Lib.hid hn2
        have HNs := Lib.hid (number_some wr (w.heap.size + 2) hb (w.heap.size + 1) w.heap.size v l HF.out wb sb n os rest Hh.out hUs HSeen.out x l2 j hnx)
        clear hn2 hnx
        go_wp2_with fail
        refine (HNs.out).mono ?_
        rintro e w3 ⟨rfl, ⟨v3, F3, hv3⟩, hu3⟩
        have hO3 := HO.out.upd hu3 (by rintro (h | h | h); omega; omega; exact own_off HF.out.own HO.out (by decide) h)
        have hR3 := HR.out.upd hu3 (by rintro (h | h | h); omega; omega; exact own_off HF.out.own HR.out (by decide) h)
        obtain ⟨D, hm, _⟩ := HF.out.map
        have hV3 := own_upd HV.out hu3 (by
          rintro g hg (h | h | h)
          · exact own_off HV.out HF.out.str (by decide) (h ▸ hg)
          · exact own_off_map HV.out hm (h ▸ hg)
          · exact HA.out g h hg)
        have hA3 : Apart v3 (.slice aa ks.length ac) := by
          intro g hg he
          rcases hv3 g hg with h | h
          · exact HA.out g h he
          · have := own_lt HV.out he; omega
        have hU3 := HU.out.next hu3 (fun i hi h => by have := Finds_new HF.out h; omega)
        have hsz3 := hu3.size
        have o0 := hO3.cell 0 rfl
        have ol3 := hO3.lt
        have HF3 := Lib.hid F3
        have HO3 := Lib.hid hO3
        have HR3 := Lib.hid hR3
        have HV3 := Lib.hid hV3
        have HA3 := Lib.hid hA3
        have HU3 := Lib.hid hU3
        clear hu3 hv3 F3 hO3 hR3 hV3 hA3 hU3 hm hc
        go_wp2_with (first | (at_builtin; refine wpList_append_lies _ rfl _ _ 22 rfl w.heap.size 3 i0 _ 1 8 Try.underlying22 hi0 hz0 hz1 hz2 rfl (by decide) _ _ _ rfl (HV3.out.alloc _) ⟨w3.heap.size, 0, none⟩ 1 1 [.int .i64 (j : Int)] rfl rfl ?c1 ?c2 (by decide) ?c3 ?c4 ?c5 _ rfl ?_))
        case c1 => exact cells_new _ _ _
        case c2 => simp [Value.oneCell']
        case c3 => simp only [maxLen]; omega
        case c4 => omega
        case c5 => simp only [World.size_alloc]; omega
        intro g cap2 w4 hV4 hg4 hat4 hlt4
        have u4 : Upd (fun k => (Value.slice aa ks.length ac).ownBlock = some k) w3 w4 := ((Upd.refl _ w3).alloc (.cells #[.int .i64 (j : Int)] 3)).grown hg4 (fun k hk _ => hk)
        obtain ⟨D3, hm3, _⟩ := HF3.out.map
        have hF4 := HF3.out.upd u4 (own_off HV3.out HF3.out.str (by decide)) (own_off_map HV3.out hm3) (fun g hg h => HA3.out g hg h)
        have hO4 := HO3.out.upd u4 (own_off HV3.out HO3.out (by decide))
        have hR4 := HR3.out.upd u4 (own_off HV3.out HR3.out (by decide))
        have hA4 : Apart v3 (.slice (some ⟨g, 0, none⟩) (ks.length + 1) cap2) := by
          intro g' hg' he
          have : g = g' := Option.some.inj he
          subst this
          rcases hat4 with h | h
          · exact HA3.out g hg' h
          · have := own_lt HF3.out.own hg'
            have := World.size_alloc w3 (.cells #[.int .i64 (j : Int)] 3)
            omega
        have hU4 := HU3.out.next u4 (fun i hi h => by have := (HV3.out.lt i h).1; omega)
        have o0' := hO4.cell 0 rfl
        have of0 := hO4.frozen 0
        have ol4 := hO4.lt
        have HF4 := Lib.hid hF4
        have HO4 := Lib.hid hO4
        have HR4 := Lib.hid hR4
        have HV4 := Lib.hid hV4
        have HA4 := Lib.hid hA4
        have HU4 := Lib.hid hU4
        have HOff := Lib.hid (own_off hV4 hO4 (by decide))
        clear hV4 hg4 hat4 u4 hm3 hF4 hO4 hR4 hA4 hU4 hlt4 o0
        go_wp2
        go_roundw
        case rel =>
          have u : Upd (fun k => k = w.heap.size + 3) w4 (w4.setCell ⟨w.heap.size + 3, 0, none⟩ (.slice (some ⟨g, 0, none⟩) (ks.length + 1) cap2)) := (Upd.refl _ w4).setCell _ (fun _ => rfl)
          refine ⟨k + 1, l2, ks ++ [(j : Int)], v3, .slice (some ⟨g, 0, none⟩) (ks.length + 1) cap2, by omega, by go_num, HN2.out, HF4.out.upd u (by omega) (by omega) (fun g' hg' e => own_off HF4.out.own HO4.out (by decide) (e ▸ hg')), HO4.out.set 0 _, ?_, HA4.out, HR4.out.setOther _ (by simp; omega), HU4.out.setCell _ (fun h => by have h' : w.heap.size + 3 < w.heap.size := h; omega)⟩
          have h1 := own_upd HV4.out u (fun g' hg' e => HOff.out (e ▸ hg'))
          rw [List.length_append]
          simpa [ints] using h1
        case measure => simp [intOf]; omega
    · have hke : k = xs.length := by omega
      subst hke
      have hnum := HNum.out
      rw [List.take_length] at hnum
      have HNum2 := Lib.hid hnum
      clear hnum
      go_wp2
      go_loopg [] (top os + 1) (fun g wr => Noding2 w os l ks (.slice aa ks.length ac) hb g wr)
      case atStart => exact ⟨l, v, .slice none 0 0, [], by simp, HSeen.out, rfl, HF.out, HO.out, HV.out, HA.out, World.ownsRow_nil _ _ _ _, (fun p hp => by cases hp), (fun p hp => by cases hp), HR.out, HU.out⟩
      case round =>
        clear HF HO HV HA HR HU Hh hUs hfl hol hrl HSeen HNum
        obtain ⟨l2, v2, vn, nv, hng, hseen, hnodes, F, O, V, A, N, RW, AP, R, U⟩ := hrel
        obtain ⟨na, nc, rfl⟩ := own_form N
        obtain ⟨fa, fc, rfl⟩ := own_form F.own
        have hlen := hseen.len
        have hnn : nv.length ≤ 65537 := by have := HH.out.size; have := HH.out.hi; omega
        have hll : l2.length ≤ 65536 := by have := HH.out.size; have := HH.out.hi; omega
        have hUs := U.size
        have o1 := O.cell 1 rfl
        have f1 := F.str.cell 1 rfl
        have fl := F.str.lt
        have ol := O.lt
        have rl := R.lt
        have HF := Lib.hid F
        have HO := Lib.hid O
        have HV := Lib.hid V
        have HA := Lib.hid A
        have HN := Lib.hid N
        have HRW := Lib.hid RW
        have HAP := Lib.hid AP
        have HR := Lib.hid R
        have HU := Lib.hid U
        have HSeen := Lib.hid hseen
        have HNodes := Lib.hid hnodes
        have Hh := Lib.hid (HH.out.quiet U)
        clear F O V A N RW AP R U hseen hnodes
        by_cases hlt : nv.length < l2.length
        · have dn : decide ((nv.length : Int) < (l2.length : Int)) = true := decide_eq_true (by omega)
          have dn' : decide (nv.length < l2.length) = true := decide_eq_true hlt
          obtain ⟨a2, ha2⟩ : ∃ a2, l2[nv.length]? = some a2 := ⟨_, List.getElem?_eq_getElem hlt⟩
          obtain ⟨o, ho, hok⟩ := HSeen.out.2 a2 (List.mem_of_getElem? ha2)
          obtain ⟨D, hm, _⟩ := HF.out.map
          have HM := Lib.hid hm
          obtain ⟨g', rfl⟩ : ∃ g', gk = g' + 1 := ⟨gk - 1, by omega⟩
          have hstep : nodes os (g' + 1) l2 (nv.map (·.1)) = match node os l2 o with
              | none => none
              | some (l3, nd) => nodes os g' l3 (nv.map (·.1) ++ [nd]) := by
            rw [nodes, List.length_map, if_pos hlt]
            have : l2.getD nv.length 0 = a2 := by rw [List.getD_eq_getElem?_getD, ha2]; rfl
            rw [this, ho]
            rfl
          have HStep := Lib.hid hstep
          have Ho := Lib.hid ho
          obtain ⟨fg, fcap, hfeq, _⟩ := own_some HF.out.own (by omega)
          cases hfeq
          have hfo := own_at HF.out.own nv.length (u := .int .i64 (a2 : Int)) (by simp only [nats, List.getElem?_map, ha2, Option.map_some])
          clear hm hstep ho ha2 hok
          go_wp2
          go_quiet (fail)
          have uq : Upd (fun _ => False) wr (wr.drewN nq) := (Upd.refl _ wr).drewN nq
          generalize wr.drewN nq = wd at *
          have o1' := (HO.out.upd uq (fun h => h)).cell 1 rfl
          have f1' := (HF.out.quiet uq).str.cell 1 rfl
          have hfo' := keepC uq hfo
          clear o1 f1 hfo
          have Hu := Lib.hid uq
          have hnd : ∀ W, Upd (fun _ => False) wd W → Calls Try.prog 29 #[.pointer (some ⟨w.heap.size + 2, 0, none⟩), .int .i64 (a2 : Int)] W (NodeAns wd W (w.heap.size + 2) hb (w.heap.size + 1) w.heap.size (.slice (some ⟨fg, 0, none⟩) l2.length fc) (node os l2 o)) := fun W hu =>
            (node_any W (w.heap.size + 2) hb (w.heap.size + 1) w.heap.size _ l2 ((HF.out.quiet Hu.out).quiet hu) wb sb n os rest ((Hh.out.quiet Hu.out).quiet hu) ⟨hbl, wbl, sbl⟩ (by have := Hu.out.size; have := hu.size; omega) HSeen.out HW.out a2 o Ho.out).mono fun e w' h => h.ans hu
          have HNd := Lib.hid hnd
          have i1 : (0 : Int) ≤ (nv.length : Int) := by omega
          have i2 : (nv.length : Int) < (l2.length : Int) := by omega
          have dl := Hu.out.size
          have hzb : Blk (wd.alloc (.cells #[.int .i64 0, .slice none 0 0, .slice none 0 0] 66)).drew wd.heap.size [.int .i64 0, .slice none 0 0, .slice none 0 0] 66 := (Blk.made wd _ _).drew
          have hfg : fg < wd.heap.size := by have := own_lt HF.out.own (g := fg) rfl; omega
          have hl3 : w.heap.size + 1 + 1 + 1 < wd.heap.size := by omega
          have hl2 : w.heap.size + 1 + 1 < wd.heap.size := by omega
          have hl0 : w.heap.size < wd.heap.size := by omega
          have HZb := Lib.hid hzb
          have hzf : ¬ Finds (w.heap.size + 2) (w.heap.size + 1) (.slice (some ⟨fg, 0, none⟩) l2.length fc) wd.heap.size := by
            rintro (h | h | h)
            · omega
            · omega
            · have := own_lt HF.out.own h; omega
          have HZf := Lib.hid hzf
          clear uq hnd hzb hzf
          generalize hr : node os l2 o = r at *
          have Hr := Lib.hid hr
          have hfin1 : ∀ w3 (k : Int) (ea wa : Option Addr) (en ec wn wc : Nat) (b : Bool), NodeRes wd (w.heap.size + 2) hb (w.heap.size + 1) w.heap.size (.slice (some ⟨fg, 0, none⟩) l2.length fc) r k (.slice ea en ec) (.slice wa wn wc) b w3 →
              Noded wd (w.heap.size + 2) hb (w.heap.size + 1) w.heap.size (.slice (some ⟨fg, 0, none⟩) l2.length fc) r (.pointer (some ⟨w3.heap.size, 0, none⟩)) (.bool b) (w3.alloc (.cells #[.int .i64 k, .slice ea en ec, .slice wa wn wc] 66)) :=
            fun w3 k ea wa en ec wn wc b h => ⟨_, k, ea, wa, en, ec, wn, wc, b, rfl, rfl, Blk.made w3 _ _, h.upd ((Upd.refl (fun _ => False) w3).alloc _) (fun _ _ h => h) (fun _ _ _ _ _ _ _ h => h) (by omega)⟩
          have hfin2 : ∀ w3 (k : Int) (ea wa : Option Addr) (en ec wn wc : Nat) (b : Bool), Blk w3 wd.heap.size [.int .i64 0, .slice none 0 0, .slice none 0 0] 66 → NodeRes wd (w.heap.size + 2) hb (w.heap.size + 1) w.heap.size (.slice (some ⟨fg, 0, none⟩) l2.length fc) r k (.slice ea en ec) (.slice wa wn wc) b w3 →
              Noded wd (w.heap.size + 2) hb (w.heap.size + 1) w.heap.size (.slice (some ⟨fg, 0, none⟩) l2.length fc) r (.pointer (some ⟨wd.heap.size, 0, none⟩)) (.bool b) (((w3.setCell ⟨wd.heap.size, 0, none⟩ (.int .i64 k)).setCell ⟨wd.heap.size, 1, none⟩ (.slice ea en ec)).setCell ⟨wd.heap.size, 2, none⟩ (.slice wa wn wc)) :=
            fun w3 k ea wa en ec wn wc b hb h => ⟨_, k, ea, wa, en, ec, wn, wc, b, rfl, rfl, hb.set3 _ _ _, h.upd ((Upd.refl (fun k => k = wd.heap.size) w3).set3 _ _ _ _ (fun _ => rfl)) (fun i hi h => by omega) (fun x n xs lo ho g hg e => own_off ho hb (by decide) (e ▸ hg)) (by omega)⟩
          have HFin1 := Lib.hid hfin1
          have HFin2 := Lib.hid hfin2
          clear hr hfin1 hfin2
          go_wp2
          go_cut [12, 13] (fun s12 s13 wc => Noded wd (w.heap.size + 2) hb (w.heap.size + 1) w.heap.size (.slice (some ⟨fg, 0, none⟩) l2.length fc) r s12 s13 wc)
          case first =>
            go_region_law (first | (go_simp; go_at_call 29; refine (HNd.out _ (by first | exact (Upd.refl _ _).drew | exact ((Upd.refl _ _).drew.alloc _) | exact ((Upd.refl _ _).alloc _).drew)).mono ?_; rintro e w3 ⟨k, ea, wa, en, ec, wn, wc, b, rfl, hnr, hW3⟩; (try (have hzz := HZb.out.upd hnr.1 HZf.out; obtain ⟨⟨z0, z1, z2⟩, y0, y1, y2⟩ := hzz.three; have HZz := Lib.hid hzz; clear hzz)); have HNr := Lib.hid (hnr.base hW3); clear hnr hW3))
            all_goals
              go_wp2_with fail
              go_meet
              case rel => first | exact HFin1.out _ _ _ _ _ _ _ _ _ HNr.out | exact HFin2.out _ _ _ _ _ _ _ _ _ HZz.out HNr.out
          case rest =>
            obtain ⟨nb, kk, ea, wa, en, ec, wn, wc', b, rfl, rfl, hB, hN⟩ := hcut
            have hdn : w.heap.size ≤ wd.heap.size := by omega
            have hUc := (HU.out.trans Hu.out).next hN.1 (fun i hi h => by have := Finds_new HF.out h; omega)
            have hOc := (HO.out.upd Hu.out (fun h => h)).upd hN.1 (by rintro (h | h | h); omega; omega; exact own_off HF.out.own HO.out (by decide) h)
            have hRc := (HR.out.upd Hu.out (fun h => h)).upd hN.1 (by rintro (h | h | h); omega; omega; exact own_off HF.out.own HR.out (by decide) h)
            have hNc := own_upd (own_upd HN.out Hu.out (fun _ _ h => h)) hN.1 (by
              rintro g hg (h | h | h)
              · exact own_off HN.out HF.out.str (by decide) (h ▸ hg)
              · exact own_off_map HN.out HM.out (h ▸ hg)
              · exact own_apart HF.out.own HN.out (by decide) g h hg)
            have hVc := own_upd (own_upd HV.out Hu.out (fun _ _ h => h)) hN.1 (by
              rintro g hg (h | h | h)
              · exact own_off HV.out HF.out.str (by decide) (h ▸ hg)
              · exact own_off_map HV.out HM.out (h ▸ hg)
              · exact HA.out g h hg)
            have hRWc := (HRW.out.upd Hu.out (fun p hp => ⟨fun _ _ h => h, fun _ _ h => h⟩)).upd hN.1 (fun p hp => ⟨by
              rintro g hg (h | h | h)
              · exact own_off (HRW.out p hp).1 HF.out.str (by decide) (h ▸ hg)
              · exact own_off_map (HRW.out p hp).1 HM.out (h ▸ hg)
              · exact (HAP.out p hp).1 g h hg, by
              rintro g hg (h | h | h)
              · exact own_off (HRW.out p hp).2 HF.out.str (by decide) (h ▸ hg)
              · exact own_off_map (HRW.out p hp).2 HM.out (h ▸ hg)
              · exact (HAP.out p hp).2 g h hg⟩)
            have hnbl := hB.lt
            have g0 := hB.cell 0 rfl
            have g1 := hB.cell 1 rfl
            have g2 := hB.cell 2 rfl
            have rlc := hRc.lt
            have olc := hOc.lt
            have HBc := Lib.hid hB
            have HNc := Lib.hid hNc
            have HVc := Lib.hid hVc
            have HRWc := Lib.hid hRWc
            have HUc := Lib.hid hUc
            have HOc := Lib.hid hOc
            have HRc := Lib.hid hRc
            have HNd2 := Lib.hid hN.2
            have hcs := hN.1.size
            have hfresh : ∀ g, w.heap.size ≤ g → True := fun _ _ => trivial
            clear hB hNc hVc hRWc hUc hOc hRc hN o1' f1' hfo' hfresh HFin1 HFin2 HNd
            cases r with
            | none =>
              have hbf : b = false := HNd2.out
              subst hbf
              have hform : form os xs = none := by
                unfold form
                rw [HNum2.out]
                simp only
                rw [HNodes.out, HStep.out]
                rfl
              have HForm := Lib.hid hform
              have r0 := HRc.out.cell 0 rfl
              have r1 := HRc.out.cell 1 rfl
              have f0 := HRc.out.frozen 0
              have f1 := HRc.out.frozen 1
              clear hform g0 g1 g2
              go_wp2
              refine bodyPost_ret (res_cell_tmp rfl _ _ w.heap.size _ 35 _ _ rfl rfl ((HRc.out.set 0 _).set 1 _) Try.underlying35 rfl (by kernel_rfl)) rfl ⟨(HUc.out.setCell _ (fun h => by have h' : w.heap.size < w.heap.size := h; omega)).setCell _ (fun h => by have h' : w.heap.size < w.heap.size := h; omega), ?_⟩
              rw [HForm.out]
              rfl
            | some pr =>
              obtain ⟨l3, nd⟩ := pr
              obtain ⟨rfl, rfl, v3, hF3, hv3, hE3, hW3, a1, a2', a3⟩ := HNd2.out
              have o1 := HOc.out.cell 1 rfl
              have hAv : ∀ (x : Value) (n : Nat) (ys : List Int), wr.ownsRow w.heap.size 3 1 x n (ints ys) → Apart (.slice (some ⟨fg, 0, none⟩) l2.length fc) x → Apart v3 x := by
                intro x n ys hx hap g hg he
                rcases hv3 g hg with h | h
                · exact hap g h he
                · have := own_lt hx he; omega
              have hA3 := hAv _ _ _ HV.out HA.out
              have hAP3 : ∀ p ∈ nv, Apart v3 p.2.1 ∧ Apart v3 p.2.2 := fun p hp => ⟨hAv _ _ _ (HRW.out p hp).1 (HAP.out p hp).1, hAv _ _ _ (HRW.out p hp).2 (HAP.out p hp).2⟩
              have HF3 := Lib.hid hF3
              have HE3 := Lib.hid hE3
              have HW3 := Lib.hid hW3
              have HA3 := Lib.hid hA3
              have HAP3 := Lib.hid hAP3
              have Ha1 := Lib.hid a1
              have Ha2 := Lib.hid a2'
              clear hF3 hE3 hW3 a1 a2' a3 hv3 hAv hA3 hAP3
              go_wp2_with (first | (at_builtin; refine wpList_append_lies _ rfl _ _ 33 rfl w.heap.size 66 j0 _ 3 56 Try.underlying33 hj0 hy0 hy1 hy2 rfl (by decide) _ nv.length (ncells nv) rfl (HNc.out.alloc _) ⟨wc.heap.size, 0, none⟩ 1 1 [.int .i64 nd.kind, .slice ea en ec, .slice wa wn wc'] rfl rfl ?c1 ?c2 (by decide) ?c3 ?c4 ?c5 _ rfl ?_))
              case c2 => simp [Value.oneCell']
              case c3 => simp only [maxLen]; omega
              case c4 => omega
              case c5 => first | omega | (simp only [World.size_alloc]; omega)
              intro g2 cap2 w5 hN5 hg5 hat5 hlt5
              have u5 : Upd (fun k => (Value.slice na nv.length nc).ownBlock = some k) wc w5 := ((Upd.refl _ wc).alloc (.cells #[.int .i64 nd.kind, .slice ea en ec, .slice wa wn wc'] 66)).grown hg5 (fun k hk _ => hk)
              obtain ⟨D3, hm3, _⟩ := HF3.out.map
              have hF5 := HF3.out.upd u5 (own_off HNc.out HF3.out.str (by decide)) (own_off_map HNc.out hm3) (fun g hg h => own_apart HF3.out.own HNc.out (by decide) g hg h)
              have hO5 := HOc.out.upd u5 (own_off HNc.out HOc.out (by decide))
              have hR5 := HRc.out.upd u5 (own_off HNc.out HRc.out (by decide))
              have hV5 := own_upd HVc.out u5 (fun g hg h => own_apart HVc.out HNc.out (by decide) g hg h)
              have hRW5 := HRWc.out.upd u5 (fun p hp => ⟨fun g hg h => own_apart (HRWc.out p hp).1 HNc.out (by decide) g hg h, fun g hg h => own_apart (HRWc.out p hp).2 HNc.out (by decide) g hg h⟩)
              have hE5 := own_base (own_upd HE3.out u5 (fun g hg h => own_apart HE3.out HNc.out (by decide) g hg h)) hdn
              have hW5 := own_base (own_upd HW3.out u5 (fun g hg h => own_apart HW3.out HNc.out (by decide) g hg h)) hdn
              have hU5 := HUc.out.next u5 (fun i hi h => by have := (HNc.out.lt i h).1; omega)
              have q1 := hO5.cell 1 rfl
              have qf := hO5.frozen 1
              have ql := hO5.lt
              have HN5 := Lib.hid hN5
              have HF5 := Lib.hid hF5
              have HO5 := Lib.hid hO5
              have HR5 := Lib.hid hR5
              have HV5 := Lib.hid hV5
              have HRW5 := Lib.hid hRW5
              have HE5 := Lib.hid hE5
              have HW5 := Lib.hid hW5
              have HU5 := Lib.hid hU5
              clear hN5 hg5 hat5 hlt5 u5 hm3 hF5 hO5 hR5 hV5 hRW5 hE5 hW5 hU5 o1 g0 g1
              go_wp2
              go_roundg g'
              case rel =>
                have u : Upd (fun k => k = w.heap.size + 3) w5 (w5.setCell ⟨w.heap.size + 3, 1, none⟩ (.slice (some ⟨g2, 0, none⟩) (nv.length + 1) cap2)) := (Upd.refl _ w5).setCell _ (fun _ => rfl)
                have hoff : ∀ (base : Nat) (e : TypeId) (size : Nat) (x : Value) (n : Nat) (ys : List Value), w5.ownsRow base e size x n ys → e ≠ 35 → ∀ g, x.ownBlock = some g → ¬ g = w.heap.size + 3 := fun base e size x n ys hx hne g hg e' => own_off hx HO5.out hne (e' ▸ hg)
                refine ⟨l3, v3, .slice (some ⟨g2, 0, none⟩) (nv.length + 1) cap2, nv ++ [(nd, .slice ea en ec, .slice wa wn wc')], by rw [List.length_append]; simp; omega, node_seen HSeen.out Hr.out, ?_, HF5.out.upd u (by omega) (by omega) (hoff _ _ _ _ _ _ HF5.out.own (by decide)), HO5.out.set 1 _, own_upd HV5.out u (hoff _ _ _ _ _ _ HV5.out (by decide)), HA3.out, ?_, ?_, ?_, HR5.out.setOther _ (by simp; omega), HU5.out.setCell _ (fun h => by have h' : w.heap.size + 3 < w.heap.size := h; omega)⟩
                · rw [HNodes.out, HStep.out, List.map_append]
                  rfl
                · rw [ncells_snoc, List.length_append]
                  exact own_upd HN5.out u (hoff _ _ _ _ _ _ HN5.out (by decide))
                · intro p hp
                  rcases List.mem_append.1 hp with hp | hp
                  · exact ⟨own_upd (HRW5.out p hp).1 u (hoff _ _ _ _ _ _ (HRW5.out p hp).1 (by decide)), own_upd (HRW5.out p hp).2 u (hoff _ _ _ _ _ _ (HRW5.out p hp).2 (by decide))⟩
                  · rw [List.mem_singleton] at hp
                    subst hp
                    exact ⟨own_upd HE5.out u (hoff _ _ _ _ _ _ HE5.out (by decide)), own_upd HW5.out u (hoff _ _ _ _ _ _ HW5.out (by decide))⟩
                · intro p hp
                  rcases List.mem_append.1 hp with hp | hp
                  · exact HAP3.out p hp
                  · rw [List.mem_singleton] at hp
                    subst hp
                    exact ⟨Ha1.out, Ha2.out⟩
              case measure => omega
        · have hend : nodes os gk l2 (nv.map (·.1)) = some (l2, nv.map (·.1)) := by
            cases gk with
            | zero => rfl
            | succ g => rw [nodes, List.length_map, if_neg hlt]
          have hform : form os xs = some (ks, nv.map (·.1)) := by
            unfold form
            rw [HNum2.out]
            simp only
            rw [HNodes.out, hend]
            rfl
          have HForm := Lib.hid hform
          have dn : decide ((nv.length : Int) < (l2.length : Int)) = false := decide_eq_false (by omega)
          have dn' : decide (nv.length < l2.length) = false := decide_eq_false hlt
          clear hend hform
          go_wp2
          go_quiet (fail)
          have uq : Upd (fun _ => False) wr (wr.drewN nq) := (Upd.refl _ wr).drewN nq
          generalize wr.drewN nq = wd at *
          have o0 := (HO.out.upd uq (fun h => h)).cell 0 rfl
          have o1 := (HO.out.upd uq (fun h => h)).cell 1 rfl
          have r0 := (HR.out.upd uq (fun h => h)).cell 0 rfl
          have r1 := (HR.out.upd uq (fun h => h)).cell 1 rfl
          have f0 := (HR.out.upd uq (fun h => h)).frozen 0
          have f1 := (HR.out.upd uq (fun h => h)).frozen 1
          have rl' := (HR.out.upd uq (fun h => h)).lt
          have Hu := Lib.hid uq
          clear uq
          go_wp2
          have hR2 := HR.out.upd Hu.out (fun h => h)
          refine bodyPost_ret (res_cell_tmp rfl _ _ w.heap.size _ 35 _ _ rfl rfl ((hR2.set 0 _).set 1 _) Try.underlying35 rfl (by kernel_rfl)) rfl ⟨((HU.out.trans Hu.out).setCell _ (fun h => by have h' : w.heap.size < w.heap.size := h; omega)).setCell _ (fun h => by have h' : w.heap.size < w.heap.size := h; omega), ?_⟩
          rw [HForm.out]
          have u : Upd (fun k => k = w.heap.size) wr ((wd.setCell ⟨w.heap.size, 0, none⟩ (.slice aa ks.length ac)).setCell ⟨w.heap.size, 1, none⟩ (.slice na nv.length nc)) := ((Hu.out.mono (T := fun k => k = w.heap.size) (fun _ _ h => h.elim)).setCell _ (fun _ => rfl)).setCell _ (fun _ => rfl)
          have hoff : ∀ (base : Nat) (e : TypeId) (size : Nat) (x : Value) (n : Nat) (ys : List Value), wr.ownsRow base e size x n ys → e ≠ 35 → ∀ g, x.ownBlock = some g → ¬ g = w.heap.size := fun base e size x n ys hx hne g hg e' => own_off hx HR.out hne (e' ▸ hg)
          refine ⟨.slice aa ks.length ac, .slice na nv.length nc, rfl, own_upd HV.out u (hoff _ _ _ _ _ _ HV.out (by decide)), nv, rfl, ?_, HRW.out.upd u (fun p hp => ⟨hoff _ _ _ _ _ _ (HRW.out p hp).1 (by decide), hoff _ _ _ _ _ _ (HRW.out p hp).2 (by decide)⟩)⟩
          rw [List.length_map]
          exact own_upd HN.out u (hoff _ _ _ _ _ _ HN.out (by decide))
end Go.Proofs.Ytlphlaenecidiaa.Graph
