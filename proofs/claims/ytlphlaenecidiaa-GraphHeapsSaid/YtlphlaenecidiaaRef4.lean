/- The document's form of objects and roots. -/
import Derived.Test.YtlphlaenecidiaaRef3
import Derived.Deep.RegionHeld3
import Derived.Deep.RegionLaw
import Derived.Deep.DeepCutAuto
import Derived.Test.YtlphlaenecidiaaRow
namespace Go.Proofs.Ytlphlaenecidiaa.Ref
open Go.RowKit Go.Proofs.Ytlphlaenecidiaa.Mem Go.Proofs.Ytlphlaenecidiaa.Obj

theorem keepC {w w' : World} (h : Upd (fun _ => False) w w') {p : Addr} {x : Value} (hc : w.cell? p = some x) : w'.cell? p = some x := by
  have hb := World.block_lt_of_cell? w _ hc
  rw [World.cell?, h.block p.block hb (fun x => x)]
  exact hc
theorem keep3 {w w' : World} (h : Upd (fun _ => False) w w') {p q r : Addr} {x y z : Value} (hs : w.cell? p = some x ∧ w.cell? q = some y ∧ w.cell? r = some z) : w'.cell? p = some x ∧ w'.cell? q = some y ∧ w'.cell? r = some z :=
  ⟨keepC h hs.1, keepC h hs.2.1, keepC h hs.2.2⟩

theorem keep8 {w w' : World} (h : Upd (fun _ => False) w w') {p q r p1 p2 p3 p4 p5 : Addr} {x y z x1 x2 x3 x4 x5 : Value}
    (hs : w.cell? p = some x ∧ w.cell? q = some y ∧ w.cell? r = some z ∧ w.cell? p1 = some x1 ∧ w.cell? p2 = some x2 ∧ w.cell? p3 = some x3 ∧ w.cell? p4 = some x4 ∧ w.cell? p5 = some x5) :
    w'.cell? p = some x ∧ w'.cell? q = some y ∧ w'.cell? r = some z ∧ w'.cell? p1 = some x1 ∧ w'.cell? p2 = some x2 ∧ w'.cell? p3 = some x3 ∧ w'.cell? p4 = some x4 ∧ w'.cell? p5 = some x5 :=
  ⟨keepC h hs.1, keepC h hs.2.1, keepC h hs.2.2.1, keepC h hs.2.2.2.1, keepC h hs.2.2.2.2.1, keepC h hs.2.2.2.2.2.1, keepC h hs.2.2.2.2.2.2.1, keepC h hs.2.2.2.2.2.2.2⟩
theorem keep8s {w w' : World} {nb : Nat} (h : Upd (fun k => k = nb) w w') {p q r p1 p2 p3 p4 p5 : Addr} {x y z x1 x2 x3 x4 x5 : Value} (n1 : p.block ≠ nb) (n2 : q.block ≠ nb) (n3 : r.block ≠ nb) (n4 : p1.block ≠ nb) (n5 : p2.block = p1.block ∧ p3.block = p1.block ∧ p4.block = p1.block ∧ p5.block = p1.block)
    (hs : w.cell? p = some x ∧ w.cell? q = some y ∧ w.cell? r = some z ∧ w.cell? p1 = some x1 ∧ w.cell? p2 = some x2 ∧ w.cell? p3 = some x3 ∧ w.cell? p4 = some x4 ∧ w.cell? p5 = some x5) :
    w'.cell? p = some x ∧ w'.cell? q = some y ∧ w'.cell? r = some z ∧ w'.cell? p1 = some x1 ∧ w'.cell? p2 = some x2 ∧ w'.cell? p3 = some x3 ∧ w'.cell? p4 = some x4 ∧ w'.cell? p5 = some x5 := by
  have one : ∀ {p : Addr} {x : Value}, p.block ≠ nb → w.cell? p = some x → w'.cell? p = some x := fun {p x} hn hc => by
    rw [World.cell?, h.block p.block (World.block_lt_of_cell? w _ hc) hn]
    exact hc
  obtain ⟨e2, e3, e4, e5⟩ := n5
  exact ⟨one n1 hs.1, one n2 hs.2.1, one n3 hs.2.2.1, one n4 hs.2.2.2.1, one (by rw [e2]; exact n4) hs.2.2.2.2.1, one (by rw [e3]; exact n4) hs.2.2.2.2.2.1, one (by rw [e4]; exact n4) hs.2.2.2.2.2.2.1, one (by rw [e5]; exact n4) hs.2.2.2.2.2.2.2⟩
/-- Five cells. -/
theorem blk_five {w : World} {b : Nat} {x y z u v : Value} {t : TypeId} (h : Blk w b [x, y, z, u, v] t) :
    (w.cell? ⟨b, 0, none⟩ = some x ∧ w.cell? ⟨b, 1, none⟩ = some y ∧ w.cell? ⟨b, 2, none⟩ = some z ∧ w.cell? ⟨b, 3, none⟩ = some u ∧ w.cell? ⟨b, 4, none⟩ = some v) ∧
    (w.frozen? ⟨b, 0, none⟩ = false ∧ w.frozen? ⟨b, 1, none⟩ = false ∧ w.frozen? ⟨b, 2, none⟩ = false ∧ w.frozen? ⟨b, 3, none⟩ = false ∧ w.frozen? ⟨b, 4, none⟩ = false) :=
  ⟨⟨h.cell 0 rfl, h.cell 1 rfl, h.cell 2 rfl, h.cell 3 rfl, h.cell 4 rfl⟩, h.frozen 0, h.frozen 1, h.frozen 2, h.frozen 3, h.frozen 4⟩
theorem blk_set5 {w : World} {b : Nat} {x y z u v : Value} {t : TypeId} (h : Blk w b [x, y, z, u, v] t) (x' y' z' u' v' : Value) :
    Blk (((((w.setCell ⟨b, 0, none⟩ x').setCell ⟨b, 1, none⟩ y').setCell ⟨b, 2, none⟩ z').setCell ⟨b, 3, none⟩ u').setCell ⟨b, 4, none⟩ v') b [x', y', z', u', v'] t :=
  ((((h.set 0 x').set 1 y').set 2 z').set 3 u').set 4 v'
theorem upd_set5 {S : Nat → Prop} {a w : World} (h : Upd S a w) (b : Nat) (x y z u v : Value) (hb : b < a.heap.size → S b) :
    Upd S a (((((w.setCell ⟨b, 0, none⟩ x).setCell ⟨b, 1, none⟩ y).setCell ⟨b, 2, none⟩ z).setCell ⟨b, 3, none⟩ u).setCell ⟨b, 4, none⟩ v) :=
  ((((h.setCell x hb).setCell y hb).setCell z hb).setCell u hb).setCell v hb
/-- One object, fetched. -/
def Fetched (w : World) (cs : List Value) (s : Value) (w' : World) : Prop := ∃ xb, s = .pointer (some ⟨xb, 0, none⟩) ∧ w.heap.size ≤ xb ∧ Blk w' xb cs 55 ∧ Upd (fun _ => False) w w'
theorem keep3s {w w' : World} {nb xb o1 o2 o3 : Nat} {x y z : Value} (h : Upd (fun k => k = nb) w w') (hn : xb ≠ nb) (hs : w.cell? ⟨xb, o1, none⟩ = some x ∧ w.cell? ⟨xb, o2, none⟩ = some y ∧ w.cell? ⟨xb, o3, none⟩ = some z) :
    w'.cell? ⟨xb, o1, none⟩ = some x ∧ w'.cell? ⟨xb, o2, none⟩ = some y ∧ w'.cell? ⟨xb, o3, none⟩ = some z := by
  have one : ∀ {o : Nat} {x : Value}, w.cell? ⟨xb, o, none⟩ = some x → w'.cell? ⟨xb, o, none⟩ = some x := fun {o x} hc => by
    rw [World.cell?, h.block xb (World.block_lt_of_cell? w _ hc) hn]
    exact hc
  exact ⟨one hs.1, one hs.2.1, one hs.2.2⟩
theorem keep4 {w w' : World} (h : Upd (fun _ => False) w w') {p q r t : Addr} {x y z u : Value} (hs : w.cell? p = some x ∧ w.cell? q = some y ∧ w.cell? r = some z ∧ w.cell? t = some u) : w'.cell? p = some x ∧ w'.cell? q = some y ∧ w'.cell? r = some z ∧ w'.cell? t = some u :=
  ⟨keepC h hs.1, keepC h hs.2.1, keepC h hs.2.2.1, keepC h hs.2.2.2⟩
theorem IntsAt.at' {w : World} {a : Option Addr} {n cap : Nat} {xs : List Int} (h : IntsAt w (.slice a n cap) xs) {j : Nat} {x : Int} (hj : xs[j]? = some x) : ∃ b off, a = some ⟨b, off, none⟩ ∧ w.cell? ⟨b, off + j, none⟩ = some (.int .i64 x) ∧ b < w.heap.size := by
  obtain ⟨a', cap', he, _, hx⟩ := h
  cases he
  exact hx j x hj
/-- One node, begun. -/
def Begun (w : World) (k : Int) (ws : List Int) (s : Value) (w' : World) : Prop := ∃ (nb : Nat) (b : Option Addr) (c : Nat), s = .pointer (some ⟨nb, 0, none⟩) ∧ w.heap.size ≤ nb ∧ Blk w' nb [.int .i64 k, .slice none 0 0, .slice b ws.length c] 87 ∧ w'.ownsRow w.heap.size 3 1 (.slice b ws.length c) ws.length (nums ws) ∧ Upd (fun _ => False) w w'
theorem src_cut {w : World} {a : Option Addr} {cap p : Nat} {xs : List Int} (h : IntsAt w (.slice a xs.length cap) xs) : SrcAt w (if cap = p then a else a.map (·.add p)) (nums (xs.drop p)) := by
  obtain ⟨a', cap', he, hc, hx⟩ := h
  cases he
  intro j u hu
  have hj : j < (nums (xs.drop p)).length := (List.getElem?_eq_some_iff.1 hu).1
  rw [nums_len, List.length_drop] at hj
  rw [if_neg (by omega)]
  rw [nums, List.getElem?_map, List.getElem?_drop] at hu
  cases hxj : xs[p + j]? with
  | none => rw [hxj] at hu; cases hu
  | some x =>
    rw [hxj] at hu
    cases hu
    obtain ⟨b, off, rfl, hc', _⟩ := hx (p + j) x hxj
    refine ⟨_, rfl, ?_⟩
    show w.cell? (((⟨b, off, none⟩ : Addr).add p).add j) = _
    rw [add_at, add_at, Nat.add_assoc]
    exact hc'
/-- Two values own nothing together. -/
def Apart (a b : Value) : Prop := ∀ g, a.ownBlock = some g → b.ownBlock ≠ some g
theorem own_offB {w : World} {base : Nat} {e t : TypeId} {size : Nat} {v : Value} {n b : Nat} {xs cs : List Value} (h : w.ownsRow base e size v n xs) (hB : Blk w b cs t) (hne : e ≠ t) : v.ownBlock ≠ some b := by
  intro hb
  rcases h.2 with ⟨hv, _⟩ | ⟨g, cap, cur, hv, _, hg, _⟩
  · rw [hv] at hb; cases hb
  · rw [hv] at hb
    have : g = b := Option.some.inj hb
    subst this
    have e1 := Option.some.inj (hg.symm.trans hB)
    injection e1 with _ e2
    exact hne e2
theorem own_apart {w : World} {base base' : Nat} {e e' : TypeId} {size size' : Nat} {v v' : Value} {n n' : Nat} {xs xs' : List Value} (h : w.ownsRow base e size v n xs) (h' : w.ownsRow base' e' size' v' n' xs') (hne : e ≠ e') : Apart v v' := by
  intro g hg hg'
  rcases h.2 with ⟨hv, _⟩ | ⟨g1, cap, cur, hv, _, hb, _⟩
  · rw [hv] at hg; cases hg
  · rcases h'.2 with ⟨hv', _⟩ | ⟨g2, cap', cur', hv', _, hb', _⟩
    · rw [hv'] at hg'; cases hg'
    · rw [hv] at hg
      rw [hv'] at hg'
      have e1 : g1 = g := Option.some.inj hg
      have e2 : g2 = g := Option.some.inj hg'
      subst e1
      subst e2
      have e1 := Option.some.inj (hb.symm.trans hb')
      injection e1 with _ e3
      exact hne e3
theorem own_lt {w : World} {base : Nat} {e : TypeId} {size : Nat} {v : Value} {n : Nat} {xs : List Value} (h : w.ownsRow base e size v n xs) {g : Nat} (hg : v.ownBlock = some g) : g < w.heap.size := (h.lt g hg).2
theorem ints_below {B : Nat} {w w' : World} {k : IntKind} {a : Option Addr} {zs : List Int} (h : Row.Ints k w a zs) (hb : Below B w w') (hB : B = w.heap.size) : Row.Ints k w' a zs := by
  subst hB
  refine ⟨fun j x hx => ?_, h.wf, h.short⟩
  obtain ⟨b, off, e, hc, hlt⟩ := h.cell j x hx
  exact ⟨b, off, e, (hb.cell (p := ⟨b, off + j, none⟩) hlt).trans hc, Nat.lt_of_lt_of_le hlt hb.size⟩

/-- Loop 1. -/
def Rooting (w : World) (os : List Ob) (xs : List Int) (size : Nat) (v : Value) (vl vr i : Value) (wr : World) : Prop :=
  ∃ (k : Nat) (l : List Nat) (ks : List Int), k ≤ xs.length ∧ i = .int .i64 (k : Int) ∧ numbers os [] (xs.take k) = some (l, ks) ∧ wr.ownsRow w.heap.size 3 1 vl l.length (nums (adr l)) ∧ wr.ownsRow w.heap.size 3 1 vr ks.length (nums ks) ∧ Apart vl vr ∧
    Blk wr w.heap.size [.int .i64 (size : Int), v] 30 ∧ Upd (fun _ => False) w wr

theorem infoNode : (Try.prog.info? 87).map (fun i => (i.zero, i.size, i.bytes)) = some (some (.agg #[.int .i64 0, .slice none 0 0, .slice none 0 0]), 3, 56) := by kernel_rfl
abbrev Nv := Nd × Value × Value
def ncells (l : List Nv) : List Value := l.flatMap fun p => [.int .i64 p.1.kind, p.2.1, p.2.2]
theorem ncells_snoc (l : List Nv) (p : Nv) : ncells (l ++ [p]) = ncells l ++ [.int .i64 p.1.kind, p.2.1, p.2.2] := by simp [ncells]
def RowsOf (w : World) (base : Nat) (l : List Nv) : Prop := ∀ p ∈ l, w.ownsRow base 3 1 p.2.1 p.1.edges.length (nums p.1.edges) ∧ w.ownsRow base 3 1 p.2.2 p.1.words.length (nums p.1.words)
theorem RowsOf.upd {S : Nat → Prop} {w w' : World} {base : Nat} {l : List Nv} (h : RowsOf w base l) (u : Upd S w w') (hs : ∀ i, i < w.heap.size → base ≤ i → S i → False) : RowsOf w' base l := by
  intro p hp
  obtain ⟨h1, h2⟩ := h p hp
  exact ⟨own_upd h1 u (fun g hg hS => hs g (own_lt h1 hg) (h1.lt g hg).1 hS), own_upd h2 u (fun g hg hS => hs g (own_lt h2 hg) (h2.lt g hg).1 hS)⟩

/-- Loop 2. -/
def Nodes (w : World) (os : List Ob) (l0 : List Nat) (ks : List Int) (size : Nat) (v vr : Value) (g : Nat) (vl vn : Value) (wr : World) : Prop :=
  ∃ (l : List Nat) (nv : List Nv), nv.length + g = top os + 1 ∧ Seen os l ∧ nodes os (top os + 1) l0 [] = nodes os g l (nv.map (·.1)) ∧ wr.ownsRow w.heap.size 3 1 vl l.length (nums (adr l)) ∧ wr.ownsRow w.heap.size 3 1 vr ks.length (nums ks) ∧
    wr.ownsRow w.heap.size 87 3 vn nv.length (ncells nv) ∧ RowsOf wr w.heap.size nv ∧ Blk wr w.heap.size [.int .i64 (size : Int), v] 30 ∧ Upd (fun _ => False) w wr

/-- Loop 3. -/
def Edging (w0 wy : World) (os : List Ob) (l0 : List Nat) (o : Ob) (k : Int) (size : Nat) (hv0 : Value) (nb xb : Nat) (vw : Value) (xcs : List Value) (g : Nat) (vl i : Value) (wr : World) : Prop :=
  ∃ (j : Nat) (l : List Nat) (es : List Int) (ea : Option Addr) (ec : Nat), j + g = o.ptrs ∧ i = .int .i64 (j : Int) ∧ numbers os l0 (o.ws.take j) = some (l, es) ∧ wr.ownsRow w0.heap.size 3 1 vl l.length (nums (adr l)) ∧
    Blk wr nb [.int .i64 k, .slice ea es.length ec, vw] 87 ∧ wr.ownsRow wy.heap.size 3 1 (.slice ea es.length ec) es.length (nums es) ∧ Apart vl (.slice ea es.length ec) ∧ Blk wr xb xcs 55 ∧ Blk wr w0.heap.size [.int .i64 (size : Int), hv0] 30 ∧ Upd (fun k => k = nb) wy wr

/-- What Of answers. -/
def OfEnd (w : World) (r : Option (List Int × List Nd)) (e : Ending) (w' : World) : Prop :=
  Upd (fun _ => False) w w' ∧ match r with
    | none => e = .returned (.tuple #[.slice none 0 0, .slice none 0 0, .bool false])
    | some (ks, nds) => ∃ va vn, e = .returned (.tuple #[va, vn, .bool true]) ∧ w'.ownsRow w.heap.size 3 1 va ks.length (nums ks) ∧
        ∃ nv : List Nv, nv.map (·.1) = nds ∧ w'.ownsRow w.heap.size 87 3 vn nds.length (ncells nv) ∧ RowsOf w' w.heap.size nv

set_option maxRecDepth 20000 in
set_option maxHeartbeats 60000000 in
theorem of_any (w : World) (base size : Nat) (v : Value) (os : List Ob) (R : RefAt w base v os) (a : Option Addr) (cap : Nat) (xs : List Int) (hz : Row.Ints .i64 w a xs) (hxl : xs.length ≤ 100000)
    (hx64 : ∀ x ∈ xs, x ≤ 9223372036854775807) (hw64 : ∀ o ∈ os, ∀ x ∈ o.ws, x ≤ 9223372036854775807) :
    Calls Try.prog 13 #[hv size v, .slice a xs.length cap] w (OfEnd w (form os xs)) := by
  obtain ⟨i0, hi0, hz0, hz1, hz2⟩ := info_parts infoInt
  obtain ⟨j0, hj0, hy0, hy1, hy2⟩ := info_parts infoNode
  obtain ⟨ra, rc, rfl⟩ := R.form
  have hbx := Blk.made w [.int .i64 (size : Int), .slice ra os.length rc] 30
  have hu := ((Upd.refl (fun _ => False) w).alloc (.cells #[.int .i64 (size : Int), .slice ra os.length rc] 30))
  have HB := Lib.hid hbx
  have HU := Lib.hid hu
  have HR := Lib.hid R
  have HZ := Lib.hid hz
  have HX := Lib.hid hx64
  have HW := Lib.hid hw64
  clear hbx hu R hz hx64 hw64
  go_enter Try.func13, Try.ntmps13
  go_wp2
  go_loopw [7, 8, 22] (fun vl vr i wr => Rooting w os xs size (.slice ra os.length rc) vl vr i wr) (fun _ _ i _ => xs.length - (intOf i).toNat)
  case atStart => exact ⟨0, [], [], Nat.zero_le _, rfl, rfl, World.ownsRow_nil _ _ _ _, World.ownsRow_nil _ _ _ _, (fun g hg => by cases hg), HB.out, HU.out⟩
  case round =>
    obtain ⟨k, l, ks, hk, rfl, hnum, hV, hK, hA, hB, hU⟩ := hrel
    obtain ⟨la, lc, rfl⟩ := own_form hV
    obtain ⟨ka, kc, rfl⟩ := own_form hK
    have hseen := (numbers_found (Seen.nil os) hnum).1
    have hkl := (numbers_found (Seen.nil os) hnum).2.2
    rw [List.length_take] at hkl
    have hks : ks.length ≤ 100000 := by omega
    have hll := hseen.len
    have htop := top_le HR.out.good
    have hfew := HR.out.few
    have HV := Lib.hid hV
    have HK := Lib.hid hK
    have HA := Lib.hid hA
    have HBr := Lib.hid hB
    have HUr := Lib.hid hU
    have HNum := Lib.hid hnum
    have HSeen := Lib.hid hseen
    have hbl := hB.lt
    have hsz := hU.size
    by_cases hlk : k < xs.length
    · obtain ⟨x, hx⟩ : ∃ x, xs[k]? = some x := ⟨_, List.getElem?_eq_getElem hlk⟩
      have hzr := ints_below HZ.out (hU.below (fun _ _ h => h)) rfl
      obtain ⟨bz, off, rfl, hc, hbz⟩ := hzr.cell k x hx
      have d1 : decide ((k : Int) < (xs.length : Int)) = true := decide_eq_true (by omega)
      have d1' : decide (k < xs.length) = true := decide_eq_true hlk
      have hsn : numbers os [] (xs.take (k + 1)) = match number os l x with
          | none => none
          | some (l2, j) => some (l2, ks ++ [(j : Int)]) := by
        rw [List.take_add_one, hx, Option.toList_some, numbers_snoc, HNum.out]
        rfl
      have HSn := Lib.hid hsn
      have i1 : (0 : Int) ≤ (k : Int) := by omega
      have i2 : (k : Int) < (xs.length : Int) := by omega
      have hfo : ∀ W, Upd (fun _ => False) wr W → Calls Try.prog 30 #[hv size (.slice ra os.length rc), .slice la l.length lc, .int .i64 x] W (fun e w' => FoundEnd W (.slice la l.length lc) l (number os l x) e w' ∧ Upd (fun _ => False) wr W) := fun W hu =>
        (found_any W base size _ os ((HR.out.quiet HUr.out).quiet hu) _ l (IntsAt.of_own (by rw [show (adr l).length = l.length by simp [adr]]; exact own_upd HV.out hu (fun _ _ h => h))) (by omega) x (HX.out x (List.mem_of_getElem? hx))).mono fun e w' h => ⟨h, hu⟩
      have HFo := Lib.hid hfo
      have b0 := hB.cell 0 rfl
      have b1 := hB.cell 1 rfl
      clear hnum hseen hkl hV hK hA hB hU hzr hx hsn
      cases hnx : number os l x with
      | none =>
        rw [hnx] at hfo
        have hfo2 : ∀ W, Upd (fun _ => False) wr W → Calls Try.prog 30 #[hv size (.slice ra os.length rc), .slice la l.length lc, .int .i64 x] W (fun e w' => e = .returned (.tuple #[.slice la l.length lc, .int .i64 0, .bool false]) ∧ Upd (fun _ => False) W w' ∧ Upd (fun _ => False) wr W) := fun W hu => (hfo W hu).mono fun e w' h => ⟨h.1.2, h.1.1, h.2⟩
        have HFo2 := Lib.hid hfo2
        have hcum : Upd (fun _ => False) wr wr.drew := (Upd.refl _ wr).drew
        clear hfo hfo2
        go_wp2
        go_region_held3 (fun W => W.cell? ⟨w.heap.size, 0, none⟩ = some (.int .i64 (size : Int)) ∧ W.cell? ⟨w.heap.size, 1, none⟩ = some (.slice ra os.length rc) ∧ W.cell? ⟨bz, off + k, none⟩ = some (.int .i64 x))
          (first | assumption | exact ⟨b0, b1, hc⟩ | exact keep3 hu (by assumption))
          (first | (go_at_call 30; refine (HFo2.out _ (by first | exact hcum | exact Upd.refl _ _)).mono ?_; rintro e w2 ⟨rfl, hu, hW⟩; have hcum := hW.trans hu))
        have hform : form os xs = none := by
          have h1 := HSn.out
          rw [hnx] at h1
          unfold form
          have h2 := List.take_append_drop (k + 1) xs
          rw [← h2, numbers_stop os _ _ [] h1]
        have HForm := Lib.hid hform
        have HC := Lib.hid (HUr.out.trans hcum)
        clear hform hcum hu hW hc b0 b1 hnx
        go_wp2
        go_ret3
        refine ⟨HC.out, ?_⟩
        rw [HForm.out]
        rfl
      | some pr =>
        obtain ⟨l2, j⟩ := pr
        rw [hnx] at hfo
        have hn2 := HSn.out
        rw [hnx] at hn2
        have hfo2 : ∀ W, Upd (fun _ => False) wr W → Calls Try.prog 30 #[hv size (.slice ra os.length rc), .slice la l.length lc, .int .i64 x] W (fun e w' => ∃ (ma : Option Addr) (mc : Nat), e = .returned (.tuple #[.slice ma l2.length mc, .int .i64 (j : Int), .bool true]) ∧
            w'.ownsRow w.heap.size 3 1 (.slice ma l2.length mc) l2.length (nums (adr l2)) ∧ Apart (.slice ma l2.length mc) (.slice ka ks.length kc) ∧ Upd (fun _ => False) W w' ∧ Upd (fun _ => False) wr W) := fun W hu => (hfo W hu).mono fun e w' h => by
          obtain ⟨⟨u, v', he, hv⟩, hu2⟩ := h
          rcases hv with ⟨rfl, rfl⟩ | hv
          · exact ⟨la, lc, he, own_upd (own_upd HV.out hu (fun _ _ h => h)) u (fun _ _ h => h), HA.out, u, hu2⟩
          · obtain ⟨ma, mc, rfl⟩ := own_form hv
            refine ⟨ma, mc, he, own_base hv (by have := hu.size; omega), fun g hg hk => ?_, u, hu2⟩
            have h1 := (hv.lt g hg).1
            have h2 := own_lt HK.out hk
            have h3 := hu.size
            omega
        have HFo2 := Lib.hid hfo2
        have HN2 := Lib.hid hn2
        have hcum : Upd (fun _ => False) wr wr.drew := (Upd.refl _ wr).drew
        clear hfo hfo2 hnx hn2
        go_wp2
        go_region_held3 (fun W => W.cell? ⟨w.heap.size, 0, none⟩ = some (.int .i64 (size : Int)) ∧ W.cell? ⟨w.heap.size, 1, none⟩ = some (.slice ra os.length rc) ∧ W.cell? ⟨bz, off + k, none⟩ = some (.int .i64 x))
          (first | assumption | exact ⟨b0, b1, hc⟩ | exact keep3 hu (by assumption))
          (first | (go_at_call 30; refine (HFo2.out _ (by first | exact hcum | exact Upd.refl _ _)).mono ?_; rintro e w2 ⟨ma, mc, rfl, hV2, hA2, hu, hW⟩; have hcum := hW.trans hu))
        have hK2 := own_upd HK.out hcum (fun _ _ h => h)
        have HB2 := Lib.hid (HBr.out.upd hcum (fun h => h))
        have HU2 := Lib.hid (HUr.out.trans hcum)
        have HV2 := Lib.hid hV2
        have HK2 := Lib.hid hK2
        have HA2 := Lib.hid hA2
        have hs2 := hcum.size
        clear hu hW hc b0 b1 hV2 hK2 hA2 hcum
        go_wp2_with (first | (at_builtin; refine wpList_append_lies _ rfl _ _ 22 rfl w.heap.size 3 i0 _ 1 8 Try.underlying22 hi0 hz0 hz1 hz2 rfl (by decide) _ ks.length (nums ks) rfl (HK2.out.alloc _) ⟨w2.heap.size, 0, none⟩ 1 1 [.int .i64 (j : Int)] rfl rfl ?c1 ?c2 (by decide) ?c3 ?c4 ?c5 _ rfl ?_))
        case c1 => exact cells_new _ _ _
        case c2 => simp [Value.oneCell']
        case c3 => simp only [maxLen]; omega
        case c4 => omega
        case c5 => simp only [World.size_alloc]; omega
        intro g cap2 w4 hK4 hg4 hat4 hlt4
        have u4 : Upd (fun k => (Value.slice ka ks.length kc).ownBlock = some k) w2 w4 := ((Upd.refl _ w2).alloc (.cells #[.int .i64 (j : Int)] 3)).grown hg4 (fun k hk _ => hk)
        have hV4 := own_upd HV2.out u4 (fun g hg h => HA2.out g hg h)
        have hB4 := HB2.out.upd u4 (fun h => own_offB HK2.out HB2.out (by decide) h)
        have hA4 : Apart (.slice ma l2.length mc) (.slice (some ⟨g, 0, none⟩) (ks.length + 1) cap2) := by
          intro g' hg' he
          have : g = g' := Option.some.inj he
          subst this
          rcases hat4 with h | h
          · exact HA2.out g hg' h
          · have := own_lt HV2.out hg'
            have := World.size_alloc w2 (.cells #[.int .i64 (j : Int)] 3)
            omega
        have hU4 := HU2.out.next u4 (fun i hi h => by have := (HK2.out.lt i h).1; omega)
        have HK4 := Lib.hid hK4
        have HV4 := Lib.hid hV4
        have HB4 := Lib.hid hB4
        have HA4 := Lib.hid hA4
        have HU4 := Lib.hid hU4
        clear hK4 hg4 hat4 hlt4 u4 hV4 hB4 hA4 hU4
        go_wp2
        go_roundw
        case rel =>
          refine ⟨k + 1, l2, ks ++ [(j : Int)], by omega, by go_num, HN2.out, HV4.out, ?_, HA4.out, HB4.out, HU4.out⟩
          rw [List.length_append]
          simpa [nums] using HK4.out
        case measure => simp [intOf]; omega
    · have hke : k = xs.length := by omega
      subst hke
      rw [List.take_length] at hnum
      have HNum2 := Lib.hid hnum
      clear hnum hseen hkl hV hK hA hB hU HNum
      go_wp2
      go_loopg [7, 13] (top os + 1) (fun g vl vn wr => Nodes w os l ks size (.slice ra os.length rc) (.slice ka ks.length kc) g vl vn wr)
      case atStart => exact ⟨l, [], by simp, HSeen.out, rfl, HV.out, HK.out, World.ownsRow_nil _ _ _ _, (fun p hp => by cases hp), HBr.out, HUr.out⟩
      case round =>
        clear HV HK HA HBr HUr HSeen hbl hsz hll
        obtain ⟨l2, nv, hng, hseen, hnodes, V, K, N, RW, B, U⟩ := hrel
        obtain ⟨la, lc, rfl⟩ := own_form V
        obtain ⟨na, nc, rfl⟩ := own_form N
        have hll := hseen.len
        have hsz := U.size
        have hbl := B.lt
        have HV := Lib.hid V
        have HK := Lib.hid K
        have HN := Lib.hid N
        have HRW := Lib.hid RW
        have HB2 := Lib.hid B
        have HU2 := Lib.hid U
        have HSeen := Lib.hid hseen
        have HNodes := Lib.hid hnodes
        have HRr := Lib.hid (HR.out.quiet U)
        by_cases hlt : nv.length < l2.length
        · have dn : decide ((nv.length : Int) < (l2.length : Int)) = true := decide_eq_true (by omega)
          have dn' : decide (nv.length < l2.length) = true := decide_eq_true hlt
          obtain ⟨a2, ha2⟩ : ∃ a2, l2[nv.length]? = some a2 := ⟨_, List.getElem?_eq_getElem hlt⟩
          obtain ⟨o, ho, hok⟩ := HSeen.out.2 a2 (List.mem_of_getElem? ha2)
          obtain ⟨g', rfl⟩ : ∃ g', gk = g' + 1 := ⟨gk - 1, by omega⟩
          have hstep : nodes os (g' + 1) l2 (nv.map (·.1)) = match node os l2 o with
              | none => none
              | some (l3, nd) => nodes os g' l3 (nv.map (·.1) ++ [nd]) := by
            rw [nodes, List.length_map, if_pos hlt]
            have : l2.getD nv.length 0 = a2 := by rw [List.getD_eq_getElem?_getD, ha2]; rfl
            rw [this, ho]
            rfl
          obtain ⟨ix, hix⟩ : ∃ ix, findIdx 0 os a2 = some ix := by
            cases h : findIdx 0 os a2 with
            | some ix => exact ⟨ix, rfl⟩
            | none => rw [findIdx_no h] at ho; cases ho
          obtain ⟨o', ho1, ho2⟩ := findIdx_some hix
          obtain rfl : o' = o := by rw [ho] at ho2; exact (Option.some.inj ho2).symm
          have hixl : ix < os.length := (List.getElem?_eq_some_iff.1 ho1).1
          have hio : idxOf os (a2 : Int) = (ix : Int) := by
            unfold idxOf
            rw [if_neg (by omega), show ((a2 : Int)).toNat = a2 by omega, hix]
          obtain ⟨lg, lcap, hle, _, hlgl, _⟩ := own_some V (by omega)
          cases hle
          have hlc := own_at V nv.length (u := .int .i64 (a2 : Int)) (by simp only [nums, adr, List.getElem?_map, ha2, Option.map_some])
          obtain ⟨og, ocap, hoe, _, hogl⟩ := HRr.out.some' (by omega)
          cases hoe
          obtain ⟨oa, wv, _, hwv, k0, k1, k2, k3, k4⟩ := HRr.out.at' ho1
          have b0 := B.cell 0 rfl
          have b1 := B.cell 1 rfl
          obtain ⟨xa, xc, rfl⟩ := hwv.form
          have HStep := Lib.hid hstep
          have Hwv := Lib.hid hwv
          have Ho := Lib.hid ho
          have hfi : ∀ W, Upd (fun _ => False) wr W → Calls Try.prog 31 #[hv size (.slice (some ⟨og, 0, none⟩) os.length rc), .int .i64 (a2 : Int)] W (fun e w' => e = .returned (.int .i64 (ix : Int)) ∧ Upd (fun _ => False) W w' ∧ Upd (fun _ => False) wr W) := fun W hu =>
            (find_any W base size _ os (HRr.out.quiet hu) (a2 : Int)).mono fun e w' h => ⟨by rw [h.1, hio], h.2, hu⟩
          have HFi := Lib.hid hfi
          have i1 : (0 : Int) ≤ (nv.length : Int) := by omega
          have i2 : (nv.length : Int) < (l2.length : Int) := by omega
          have i3 : (0 : Int) ≤ (ix : Int) := by omega
          have i4 : (ix : Int) < (os.length : Int) := by omega
          clear V K N RW B U hseen hnodes hstep hix ho1 ho2 hio hwv ho ha2 hok hfi
          have hzb : Blk (wr.alloc (.cells #[.int .i64 0, .int .i64 0, .int .i64 0, .int .i64 0, .slice none 0 0] 55)).drew wr.heap.size [.int .i64 0, .int .i64 0, .int .i64 0, .int .i64 0, .slice none 0 0] 55 := (Blk.made wr _ _).drew
          have HZb := Lib.hid hzb
          have hf1 : ∀ w2, Upd (fun _ => False) wr w2 → Fetched wr [.int .i64 (oa : Int), .int .i64 (o'.kind : Int), .int .i64 (o'.len : Int), .int .i64 (o'.ptrs : Int), .slice xa o'.ws.length xc] (.pointer (some ⟨w2.heap.size, 0, none⟩)) (w2.alloc (.cells #[.int .i64 (oa : Int), .int .i64 (o'.kind : Int), .int .i64 (o'.len : Int), .int .i64 (o'.ptrs : Int), .slice xa o'.ws.length xc] 55)) := fun w2 hu => ⟨_, rfl, hu.size, Blk.made w2 _ _, hu.alloc _⟩
          have hf2 : ∀ w2, Upd (fun _ => False) wr w2 → Blk w2 wr.heap.size [.int .i64 0, .int .i64 0, .int .i64 0, .int .i64 0, .slice none 0 0] 55 → Fetched wr [.int .i64 (oa : Int), .int .i64 (o'.kind : Int), .int .i64 (o'.len : Int), .int .i64 (o'.ptrs : Int), .slice xa o'.ws.length xc] (.pointer (some ⟨wr.heap.size, 0, none⟩)) (((((w2.setCell ⟨wr.heap.size, 0, none⟩ (.int .i64 (oa : Int))).setCell ⟨wr.heap.size, 1, none⟩ (.int .i64 (o'.kind : Int))).setCell ⟨wr.heap.size, 2, none⟩ (.int .i64 (o'.len : Int))).setCell ⟨wr.heap.size, 3, none⟩ (.int .i64 (o'.ptrs : Int))).setCell ⟨wr.heap.size, 4, none⟩ (.slice xa o'.ws.length xc)) := fun w2 hu hb => ⟨_, rfl, Nat.le_refl _, blk_set5 hb _ _ _ _ _, upd_set5 hu _ _ _ _ _ _ (fun h => by omega)⟩
          have HF1 := Lib.hid hf1
          have HF2 := Lib.hid hf2
          clear hzb hf1 hf2
          go_wp2
          go_cut [14] (fun s14 wc => Fetched wr [.int .i64 (oa : Int), .int .i64 (o'.kind : Int), .int .i64 (o'.len : Int), .int .i64 (o'.ptrs : Int), .slice xa o'.ws.length xc] s14 wc)
          case first =>
            skip
            go_region_held3 (fun W => W.cell? ⟨w.heap.size, 0, none⟩ = some (.int .i64 (size : Int)) ∧ W.cell? ⟨w.heap.size, 1, none⟩ = some (.slice (some ⟨og, 0, none⟩) os.length rc) ∧ W.cell? ⟨lg, nv.length, none⟩ = some (.int .i64 (a2 : Int)) ∧ W.cell? ⟨og, ix * 5, none⟩ = some (.int .i64 (oa : Int)) ∧ W.cell? ⟨og, ix * 5 + 1, none⟩ = some (.int .i64 (o'.kind : Int)) ∧ W.cell? ⟨og, ix * 5 + 2, none⟩ = some (.int .i64 (o'.len : Int)) ∧ W.cell? ⟨og, ix * 5 + 3, none⟩ = some (.int .i64 (o'.ptrs : Int)) ∧ W.cell? ⟨og, ix * 5 + 4, none⟩ = some (.slice xa o'.ws.length xc))
              (with_reducible first | exact keep8 (Upd.refl _ _).drew ⟨b0, b1, hlc, k0, k1, k2, k3, k4⟩ | exact keep8 (Upd.refl _ _) ⟨q0, q1, q2, q3, q4, q5, q6, q7⟩ | exact keep8 ((Upd.refl _ _).alloc _).drew ⟨b0, b1, hlc, k0, k1, k2, k3, k4⟩ | exact keep8 ((Upd.refl _ _).alloc _) ⟨q0, q1, q2, q3, q4, q5, q6, q7⟩ | exact keep8s (upd_set5 (Upd.refl _ _) _ _ _ _ _ _ (fun _ => rfl)) (Nat.ne_of_lt hbl) (Nat.ne_of_lt hbl) (Nat.ne_of_lt hlgl) (Nat.ne_of_lt hogl) ⟨rfl, rfl, rfl, rfl⟩ ⟨q0, q1, q2, q3, q4, q5, q6, q7⟩)
              (first | (go_at_call 31; refine (HFi.out _ (by first | exact (Upd.refl _ _).drew | exact ((Upd.refl _ _).alloc _).drew)).mono ?_; rintro e w2 ⟨rfl, hu, hW⟩; (try (have hzz := HZb.out.upd hu (fun h => h); obtain ⟨⟨z0, z1, z2, z3, z4⟩, y0, y1, y2, y3, y4⟩ := blk_five hzz; have HZz := Lib.hid hzz; clear hzz)); have hcum := hW.trans hu; have q0 := keepC hcum b0; have q1 := keepC hcum b1; have q2 := keepC hcum hlc; have q3 := keepC hcum k0; have q4 := keepC hcum k1; have q5 := keepC hcum k2; have q6 := keepC hcum k3; have q7 := keepC hcum k4; have r1 := Nat.lt_of_lt_of_le hogl hcum.size; have r2 := Nat.lt_of_lt_of_le hbl hcum.size; have r3 := Nat.lt_of_lt_of_le hlgl hcum.size; have HCum := Lib.hid hcum; clear hcum hu hW))
            all_goals (try (go_wp2_with fail))
            all_goals
              go_meet
              case rel => first | exact HF1.out _ HCum.out | exact HF2.out _ HCum.out HZz.out
          case rest =>
            obtain ⟨xb, rfl, hxb, hX, hUc⟩ := hcut
            obtain ⟨wx, rfl⟩ : ∃ wx, wx = wc := ⟨_, rfl⟩
            have hxs := hX.lt
            obtain ⟨⟨x0, x1, x2, x3, x4⟩, _⟩ := blk_five hX
            have HX5 := Lib.hid hX
            have HUc := Lib.hid hUc
            have hsrc := Hwv.out.quiet hUc
            have HSrc := Lib.hid hsrc
            clear hX hUc hsrc b0 b1 hlc k0 k1 k2 k3 k4 HF1 HF2 HZb HFi x0 x2
            have hgo := HR.out.good o' (find_mem Ho.out)
            have hpl : o'.ptrs ≤ o'.ws.length := hgo.2.1
            have hwl : o'.ws.length ≤ 4095 := hgo.2.2.1
            have p1 : (0 : Int) ≤ (o'.ptrs : Int) := by omega
            have p2 : (o'.ptrs : Int) ≤ (o'.ws.length : Int) := by omega
            have hdl : (nums (o'.ws.drop o'.ptrs)).length = (o'.ws.length - o'.ptrs) * 1 := by rw [nums_len, List.length_drop, Nat.mul_one]
            obtain ⟨N0, hN0⟩ : ∃ N0 : Obj, N0 = .cells #[.int .i64 0, .slice none 0 0, .slice none 0 0] 87 := ⟨_, rfl⟩
            have oe1 := own_empty wx 3 1 wx.heap.size (Nat.le_refl _)
            have oe2 := own_upd oe1 ((Upd.refl (fun _ => False) _).alloc N0) (fun _ _ h => h)
            have oe3 := own_empty (wx.alloc N0) 3 1 wx.heap.size (by simp)
            rw [World.size_alloc] at oe3
            have u1 := (Upd.refl (fun _ => False) wx).alloc (.cells #[] 3)
            have u2 := u1.alloc N0
            have u3 := ((Upd.refl (fun _ => False) wx).alloc N0).alloc (.cells #[] 3)
            have s1 := src_cut (p := o'.ptrs) (HSrc.out.quiet u1)
            have s2 := src_cut (p := o'.ptrs) (HSrc.out.quiet u2)
            have s3 := src_cut (p := o'.ptrs) (HSrc.out.quiet u3)
            have n2 : Blk ((wx.alloc (.cells #[] 3)).alloc N0) (wx.heap.size + 1) [.int .i64 0, .slice none 0 0, .slice none 0 0] 87 := by rw [hN0]; exact Blk.made' wx _ _ _
            have n3 : Blk ((wx.alloc N0).alloc (.cells #[] 3)) wx.heap.size [.int .i64 0, .slice none 0 0, .slice none 0 0] 87 := by rw [hN0]; exact (Blk.made wx _ _).alloc _
            rw [hN0] at oe2 oe3 u2 u3 s2 s3 n2 n3
            have O1 := Lib.hid oe1
            have O2 := Lib.hid oe2
            have O3 := Lib.hid oe3
            have S1 := Lib.hid s1
            have S2 := Lib.hid s2
            have S3 := Lib.hid s3
            have U1 := Lib.hid u1
            have U2 := Lib.hid u2
            have U3 := Lib.hid u3
            have N2 := Lib.hid n2
            have N3 := Lib.hid n3
            have HDl := Lib.hid hdl
            have hb1 : ∀ (w2 : World) (b1 : Option Addr) (c1 : Nat), Upd (fun _ => False) wx w2 → w2.ownsRow wx.heap.size 3 1 (.slice b1 (o'.ws.drop o'.ptrs).length c1) (o'.ws.drop o'.ptrs).length (nums (o'.ws.drop o'.ptrs)) →
                Begun wx (o'.kind : Int) (o'.ws.drop o'.ptrs) (.pointer (some ⟨w2.heap.size, 0, none⟩)) (w2.alloc (.cells #[.int .i64 (o'.kind : Int), .slice none 0 0, .slice b1 (o'.ws.length - o'.ptrs) c1] 87)) := fun w2 b1 c1 hu ho => by
              rw [← List.length_drop]
              exact ⟨_, b1, c1, rfl, hu.size, Blk.made w2 _ _, own_upd ho ((Upd.refl (fun _ => False) w2).alloc _) (fun _ _ h => h), hu.alloc _⟩
            have hb2 : ∀ (w2 : World) (nb : Nat) (b1 : Option Addr) (c1 : Nat), Upd (fun _ => False) wx w2 → w2.ownsRow wx.heap.size 3 1 (.slice b1 (o'.ws.drop o'.ptrs).length c1) (o'.ws.drop o'.ptrs).length (nums (o'.ws.drop o'.ptrs)) →
                Blk w2 nb [.int .i64 0, .slice none 0 0, .slice none 0 0] 87 → wx.heap.size ≤ nb →
                Begun wx (o'.kind : Int) (o'.ws.drop o'.ptrs) (.pointer (some ⟨nb, 0, none⟩)) (((w2.setCell ⟨nb, 0, none⟩ (.int .i64 (o'.kind : Int))).setCell ⟨nb, 1, none⟩ (.slice none 0 0)).setCell ⟨nb, 2, none⟩ (.slice b1 (o'.ws.length - o'.ptrs) c1)) := fun w2 nb b1 c1 hu ho hb hn => by
              rw [← List.length_drop]
              exact ⟨_, b1, c1, rfl, hn, hb.set3 _ _ _, own_upd ho ((Upd.refl (fun k => k = nb) w2).set3 _ _ _ _ (fun _ => rfl)) (fun g hg e => own_offB ho hb (by decide) (e ▸ hg)), hu.set3 _ _ _ _ (fun h => by omega)⟩
            have HB1 := Lib.hid hb1
            have HB2 := Lib.hid hb2
            clear oe1 oe2 oe3 s1 s2 s3 u1 u2 u3 n2 n3 hdl hN0 hgo hb1 hb2
            go_wp2
            go_cut [15] (fun s15 wd => Begun wx (o'.kind : Int) (o'.ws.drop o'.ptrs) s15 wd)
            case first =>
              skip
              go_region_held3 (fun W => W.cell? ⟨xb, 1, none⟩ = some (.int .i64 (o'.kind : Int)) ∧ W.cell? ⟨xb, 3, none⟩ = some (.int .i64 (o'.ptrs : Int)) ∧ W.cell? ⟨xb, 4, none⟩ = some (.slice xa o'.ws.length xc))
                (first | assumption | exact ⟨x1, x3, x4⟩ | exact ⟨q1, q3, q4⟩ | (with_reducible exact keep3 ((Upd.refl _ _).alloc _).drew ⟨x1, x3, x4⟩) | (with_reducible exact keep3 (((Upd.refl _ _).alloc _).alloc _).drew ⟨x1, x3, x4⟩) | (with_reducible exact keep3 ((Upd.refl _ _).alloc _) ⟨q1, q3, q4⟩) | (with_reducible exact keep3s ((Upd.refl (fun k => k = wx.heap.size + 1) _).set3 _ _ _ _ (fun _ => rfl)) (by omega) (by assumption)) | (with_reducible exact keep3s ((Upd.refl (fun k => k = wx.heap.size) _).set3 _ _ _ _ (fun _ => rfl)) (by omega) (by assumption)))
                (first | (refine step_app _ rfl _ _ 22 rfl wx.heap.size 3 i0 _ 1 8 Try.underlying22 hi0 hz0 hz1 hz2 rfl (by decide) _ 0 [] rfl (by first | exact O1.out | exact O2.out | exact O3.out) _ _ _ (nums (o'.ws.drop o'.ptrs)) rfl HDl.out (by first | exact S1.out | exact S2.out | exact S3.out) (nums_one _) (by simp only [maxLen]; omega) (by omega) (by simp only [World.size_alloc, World.size_drew]; omega) ?_; intro v1 w2 ho1 hg1 hat1; rw [Nat.zero_add, List.nil_append, show o'.ws.length - o'.ptrs = (o'.ws.drop o'.ptrs).length from List.length_drop.symm] at ho1; obtain ⟨b1, c1, rfl⟩ := own_form ho1; have hcum : Upd (fun _ => False) wx w2 := (by first | exact (U1.out.drew).grown hg1 (fun k hk hlt => by have : wx.heap.size = k := Option.some.inj hk; omega) | exact (U2.out.drew).grown hg1 (fun k hk hlt => by have : wx.heap.size = k := Option.some.inj hk; omega) | exact (U3.out.drew).grown hg1 (fun k hk hlt => by have : wx.heap.size + 1 = k := Option.some.inj hk; omega)); have q1 := keepC hcum x1; have q3 := keepC hcum x3; have q4 := keepC hcum x4; (try (have hzz := N2.out.of_eq (hg1.block (wx.heap.size + 1) N2.out.lt (fun e => by have h : wx.heap.size + 1 = wx.heap.size := Option.some.inj e; omega)); obtain ⟨_, y0, y1, y2⟩ := hzz.three; have z0 := hzz.cell 0 rfl; have z1 := hzz.cell 1 rfl; have z2 := hzz.cell 2 rfl; have HZz := Lib.hid hzz; clear hzz)); (try (have hzz := N3.out.of_eq (hg1.block wx.heap.size N3.out.lt (fun e => by have h : wx.heap.size = wx.heap.size + 1 := Option.some.inj e; omega)); obtain ⟨_, y0, y1, y2⟩ := hzz.three; have z0 := hzz.cell 0 rfl; have z1 := hzz.cell 1 rfl; have z2 := hzz.cell 2 rfl; have HZz := Lib.hid hzz; clear hzz)); have r1 := Nat.lt_of_lt_of_le hxs hcum.size; have HO1 := Lib.hid ho1; have HCum := Lib.hid hcum; clear ho1 hg1 hat1 hcum))
              all_goals (try (go_wp2_with fail))
              all_goals
                go_meet
                case rel => first | exact HB1.out _ _ _ HCum.out HO1.out | exact HB2.out _ _ _ _ HCum.out HO1.out HZz.out (Nat.le_refl _) | exact HB2.out _ _ _ _ HCum.out HO1.out HZz.out (Nat.le_succ _)
            case rest =>
              obtain ⟨nb, b1, c1, rfl, hnb, hN, hw1, hUd⟩ := hcut
              have hUw := (HU2.out.trans HUc.out).trans hUd
              have hV2 := own_upd (own_upd HV.out HUc.out (fun _ _ h => h)) hUd (fun _ _ h => h)
              have hX6 := HX5.out.upd hUd (fun h => h)
              have hnd := HSrc.out.quiet hUd
              have hsz5 := hUd.size
              have hsz6 := HUc.out.size
              have hnl := hN.lt
              have hxl6 := hX6.lt
              have HV2 := Lib.hid hV2
              have HX6 := Lib.hid hX6
              have HN6 := Lib.hid hN
              have HW6 := Lib.hid hw1
              have HU6 := Lib.hid hUw
              have HUd := Lib.hid hUd
              have HSr6 := Lib.hid hnd
              clear hUw hV2 hX6 hnd hN hw1 hUd x1 x3 x4 O1 O2 O3 S1 S2 S3 U1 U2 U3 N2 N3 HDl HB1 HB2
              have hsp : 0 + o'.ptrs = o'.ptrs := Nat.zero_add _
              have hbx := (HB2.out.upd HUc.out (fun h => h)).upd HUd.out (fun h => h)
              have HBx := Lib.hid hbx
              have HSp := Lib.hid hsp
              clear hbx hsp
              obtain ⟨wy, rfl⟩ : ∃ wy, wy = wc := ⟨_, rfl⟩
              obtain ⟨wi, rfl⟩ : ∃ wi, wi = wr := ⟨_, rfl⟩
              go_wp2
              go_loopg [7, 16] o'.ptrs (fun g vl i wr => Edging w wy os l2 o' (o'.kind : Int) size (.slice (some ⟨og, 0, none⟩) os.length rc) nb xb (.slice b1 (o'.ws.drop o'.ptrs).length c1) [.int .i64 (oa : Int), .int .i64 (o'.kind : Int), .int .i64 (o'.len : Int), .int .i64 (o'.ptrs : Int), .slice xa o'.ws.length xc] g vl i wr)
              case atStart => exact ⟨0, l2, [], none, 0, HSp.out, rfl, rfl, HV2.out, HN6.out, World.ownsRow_nil _ _ _ _, (fun g hg hk => by cases hk), HX6.out, HBx.out, Upd.refl _ _⟩
              case round =>
                obtain ⟨j, l3, es, ea, ec, hjg, rfl, hnum3, V3, N3', E3, A3, X3, B3, U3'⟩ := hrel
                obtain ⟨la3, lc3, rfl⟩ := own_form V3
                have hseen3 := (numbers_found HSeen.out hnum3).1
                have hel := (numbers_found HSeen.out hnum3).2.2
                rw [List.length_take] at hel
                have hes : es.length ≤ 4095 := by omega
                have hl3 := hseen3.len
                have HV3 := Lib.hid V3
                have HN3 := Lib.hid N3'
                have HE3 := Lib.hid E3
                have HA3 := Lib.hid A3
                have HX3 := Lib.hid X3
                have HB3 := Lib.hid B3
                have HU3 := Lib.hid U3'
                have HNum3 := Lib.hid hnum3
                have b0 := B3.cell 0 rfl
                have b1' := B3.cell 1 rfl
                have bl3 := B3.lt
                have xl3 := X3.lt
                have nl3 := N3'.lt
                have x3 := X3.cell 3 rfl
                have x4 := X3.cell 4 rfl
                have hwz : w.heap.size ≤ wr.heap.size := by have := U3'.size; omega
                have hUi : Upd (fun _ => False) wi wr := (HUc.out.trans HUd.out).next U3' (fun i hi h => by omega)
                have HUi := Lib.hid hUi
                have HUw := Lib.hid (HU2.out.trans hUi)
                clear V3 N3' E3 A3 X3 B3 U3' hnum3 hseen3 hel hUi
                by_cases hjp : j < o'.ptrs
                · obtain ⟨g3, rfl⟩ : ∃ g3, gk = g3 + 1 := ⟨gk - 1, by omega⟩
                  obtain ⟨x, hx⟩ : ∃ x, o'.ws[j]? = some x := ⟨_, List.getElem?_eq_getElem (by omega)⟩
                  obtain ⟨bw, ow, hxa, hcw, hbw⟩ := (Hwv.out.quiet HUi.out).at' hx
                  subst hxa
                  have d1 : decide ((j : Int) < (o'.ptrs : Int)) = true := decide_eq_true (by omega)
                  have d1' : decide (j < o'.ptrs) = true := decide_eq_true hjp
                  have j1 : (0 : Int) ≤ (j : Int) := by omega
                  have j2 : (j : Int) < (o'.ws.length : Int) := by omega
                  have hsn : numbers os l2 (o'.ws.take (j + 1)) = match number os l3 x with
                      | none => none
                      | some (l4, t) => some (l4, es ++ [(t : Int)]) := by
                    rw [List.take_add_one, hx, Option.toList_some, numbers_snoc, HNum3.out]
                    rfl
                  have hfo := found_any
                  have hfo2 : ∀ W, Upd (fun _ => False) wr W → Calls Try.prog 30 #[hv size (.slice (some ⟨og, 0, none⟩) os.length rc), .slice la3 l3.length lc3, .int .i64 x] W (fun e w' => FoundEnd W (.slice la3 l3.length lc3) l3 (number os l3 x) e w' ∧ Upd (fun _ => False) wr W) := fun W hu =>
                    (found_any W base size _ os ((HR.out.quiet HUw.out).quiet hu) _ l3 (IntsAt.of_own (by rw [show (adr l3).length = l3.length by simp [adr]]; exact own_upd HV3.out hu (fun _ _ h => h))) (by omega) x (HW.out o' (find_mem Ho.out) x (List.mem_of_getElem? hx))).mono fun e w' h => ⟨h, hu⟩
                  have HXj := Lib.hid hx
                  have HSn := Lib.hid hsn
                  clear hx hsn hfo
                  cases hnx : number os l3 x with
                  | none =>
                    rw [hnx] at hfo2
                    have hfo3 : ∀ W, Upd (fun _ => False) wr W → Calls Try.prog 30 #[hv size (.slice (some ⟨og, 0, none⟩) os.length rc), .slice la3 l3.length lc3, .int .i64 x] W (fun e w' => e = .returned (.tuple #[.slice la3 l3.length lc3, .int .i64 0, .bool false]) ∧ Upd (fun _ => False) W w' ∧ Upd (fun _ => False) wr W) := fun W hu => (hfo2 W hu).mono fun e w' h => ⟨h.1.2, h.1.1, h.2⟩
                    have HFo2 := Lib.hid hfo3
                    have hcum : Upd (fun _ => False) wr wr.drew := (Upd.refl _ wr).drew
                    clear hfo2 hfo3
                    go_wp2
                    go_region_held3 (fun W => W.cell? ⟨w.heap.size, 0, none⟩ = some (.int .i64 (size : Int)) ∧ W.cell? ⟨w.heap.size, 1, none⟩ = some (.slice (some ⟨og, 0, none⟩) os.length rc) ∧ W.cell? ⟨xb, 4, none⟩ = some (.slice (some ⟨bw, ow, none⟩) o'.ws.length xc) ∧ W.cell? ⟨bw, ow + j, none⟩ = some (.int .i64 x))
                      (first | assumption | exact ⟨b0, b1', x4, hcw⟩ | exact keep4 hu (by assumption))
                      (first | (go_at_call 30; refine (HFo2.out _ (by first | exact hcum | exact Upd.refl _ _)).mono ?_; rintro e w2 ⟨rfl, hu, hW⟩; have hcum := hW.trans hu))
                    have hform : form os xs = none := by
                      have h1 := HSn.out
                      rw [hnx] at h1
                      have h2 : node os l2 o' = none := by
                        unfold node
                        have h3 : o'.ws.take o'.ptrs = o'.ws.take (j + 1) ++ (o'.ws.take o'.ptrs).drop (j + 1) := by
                          have := List.take_append_drop (j + 1) (o'.ws.take o'.ptrs)
                          rw [List.take_take, show min (j + 1) o'.ptrs = j + 1 by omega] at this
                          exact this.symm
                        rw [h3, numbers_stop os _ _ l2 h1]
                      have h4 := HStep.out
                      rw [h2] at h4
                      unfold form
                      rw [HNum2.out]
                      simp only
                      rw [HNodes.out, h4]
                      rfl
                    have HForm := Lib.hid hform
                    have HC := Lib.hid (HUw.out.trans hcum)
                    clear hform hcum hu hW hcw b0 b1' x3 x4 hnx
                    go_wp2
                    go_ret3
                    refine ⟨HC.out, ?_⟩
                    rw [HForm.out]
                    rfl
                  | some pr =>
                    obtain ⟨l4, t⟩ := pr
                    rw [hnx] at hfo2
                    have hn4 := HSn.out
                    rw [hnx] at hn4
                    have hfo3 : ∀ W, Upd (fun _ => False) wr W → Calls Try.prog 30 #[hv size (.slice (some ⟨og, 0, none⟩) os.length rc), .slice la3 l3.length lc3, .int .i64 x] W (fun e w' => ∃ (ma : Option Addr) (mc : Nat), e = .returned (.tuple #[.slice ma l4.length mc, .int .i64 (t : Int), .bool true]) ∧
                        w'.ownsRow w.heap.size 3 1 (.slice ma l4.length mc) l4.length (nums (adr l4)) ∧ Apart (.slice ma l4.length mc) (.slice ea es.length ec) ∧ Upd (fun _ => False) W w' ∧ Upd (fun _ => False) wr W) := fun W hu => (hfo2 W hu).mono fun e w' h => by
                      obtain ⟨⟨u, v', he, hv⟩, hu2⟩ := h
                      rcases hv with ⟨rfl, rfl⟩ | hv
                      · exact ⟨la3, lc3, he, own_upd (own_upd HV3.out hu (fun _ _ h => h)) u (fun _ _ h => h), HA3.out, u, hu2⟩
                      · obtain ⟨ma, mc, rfl⟩ := own_form hv
                        refine ⟨ma, mc, he, own_base hv (by have := hu.size; omega), fun g hg hk => ?_, u, hu2⟩
                        have h1 := (hv.lt g hg).1
                        have h2 := own_lt HE3.out hk
                        have h3 := hu.size
                        omega
                    have HFo2 := Lib.hid hfo3
                    have HN4 := Lib.hid hn4
                    have hcum : Upd (fun _ => False) wr wr.drew := (Upd.refl _ wr).drew
                    clear hfo2 hfo3 hnx hn4
                    go_wp2
                    go_region_held3 (fun W => W.cell? ⟨w.heap.size, 0, none⟩ = some (.int .i64 (size : Int)) ∧ W.cell? ⟨w.heap.size, 1, none⟩ = some (.slice (some ⟨og, 0, none⟩) os.length rc) ∧ W.cell? ⟨xb, 4, none⟩ = some (.slice (some ⟨bw, ow, none⟩) o'.ws.length xc) ∧ W.cell? ⟨bw, ow + j, none⟩ = some (.int .i64 x))
                      (first | assumption | exact ⟨b0, b1', x4, hcw⟩ | exact keep4 hu (by assumption))
                      (first | (go_at_call 30; refine (HFo2.out _ (by first | exact hcum | exact Upd.refl _ _)).mono ?_; rintro e w2 ⟨ma, mc, rfl, hV2, hA2, hu, hW⟩; have hcum := hW.trans hu))
                    have hE2 := own_upd HE3.out hcum (fun _ _ h => h)
                    have hN2 := HN3.out.upd hcum (fun h => h)
                    have n1 := hN2.cell 1 rfl
                    have nl2 := hN2.lt
                    have HNb := Lib.hid hN2
                    have HXb := Lib.hid (HX3.out.upd hcum (fun h => h))
                    have HBb := Lib.hid (HB3.out.upd hcum (fun h => h))
                    have HUb := Lib.hid (HU3.out.trans (hcum.mono (T := fun k => k = nb) (fun _ _ h => h.elim)))
                    have HVb := Lib.hid hV2
                    have HEb := Lib.hid hE2
                    have HAb := Lib.hid hA2
                    have hs2 := hcum.size
                    have hs3 := HU3.out.size
                    clear hu hW hcw b0 b1' x3 x4 hV2 hE2 hN2 hA2 hcum
                    go_wp2_with (first | (at_builtin; refine wpList_append_lies _ rfl _ _ 22 rfl wy.heap.size 3 i0 _ 1 8 Try.underlying22 hi0 hz0 hz1 hz2 rfl (by decide) _ es.length (nums es) rfl (HEb.out.alloc _) ⟨w2.heap.size, 0, none⟩ 1 1 [.int .i64 (t : Int)] rfl rfl ?c1 ?c2 (by decide) ?c3 ?c4 ?c5 _ rfl ?_))
                    case c1 => exact cells_new _ _ _
                    case c2 => simp [Value.oneCell']
                    case c3 => simp only [maxLen]; omega
                    case c4 => omega
                    case c5 => simp only [World.size_alloc]; omega
                    intro g cap2 w4 hE4 hg4 hat4 hlt4
                    have u4 : Upd (fun k => (Value.slice ea es.length ec).ownBlock = some k) w2 w4 := ((Upd.refl _ w2).alloc (.cells #[.int .i64 (t : Int)] 3)).grown hg4 (fun k hk _ => hk)
                    have hV4 := own_upd HVb.out u4 (fun g hg h => HAb.out g hg h)
                    have hN4 := HNb.out.upd u4 (fun h => own_offB HEb.out HNb.out (by decide) h)
                    have hX4 := HXb.out.upd u4 (fun h => own_offB HEb.out HXb.out (by decide) h)
                    have hB4 := HBb.out.upd u4 (fun h => own_offB HEb.out HBb.out (by decide) h)
                    have hA4 : Apart (.slice ma l4.length mc) (.slice (some ⟨g, 0, none⟩) (es.length + 1) cap2) := by
                      intro g' hg' he
                      have : g = g' := Option.some.inj he
                      subst this
                      rcases hat4 with h | h
                      · exact HAb.out g hg' h
                      · have := own_lt HVb.out hg'
                        have := World.size_alloc w2 (.cells #[.int .i64 (t : Int)] 3)
                        omega
                    have hU4 := HUb.out.next u4 (fun i hi h => by have := (HEb.out.lt i h).1; omega)
                    have f1 := hN4.frozen 1
                    have n4 := hN4.cell 1 rfl
                    have nl4 := hN4.lt
                    have u5 := (Upd.refl (fun k => k = nb) w4).setCell (p := ⟨nb, 1, none⟩) (.slice (some ⟨g, 0, none⟩) (es.length + 1) cap2) (fun _ => rfl)
                    have HV5 := Lib.hid (own_upd hV4 u5 (fun g hg e => own_offB hV4 hN4 (by decide) (e ▸ hg)))
                    have HE5 := Lib.hid (own_upd hE4 u5 (fun g hg e => own_offB hE4 hN4 (by decide) (e ▸ hg)))
                    have HN5 := Lib.hid (hN4.set 1 (.slice (some ⟨g, 0, none⟩) (es.length + 1) cap2))
                    have HX5' := Lib.hid (hX4.upd u5 (fun e => by omega))
                    have HB5 := Lib.hid (hB4.upd u5 (fun e => by omega))
                    have HU5 := Lib.hid (hU4.setCell (p := ⟨nb, 1, none⟩) (.slice (some ⟨g, 0, none⟩) (es.length + 1) cap2) (fun _ => rfl))
                    have HA5 := Lib.hid hA4
                    clear hE4 hg4 hat4 hlt4 u4 hV4 hN4 hX4 hB4 hA4 hU4 u5 n1
                    go_wp2
                    go_roundg g3
                    case rel =>
                      refine ⟨j + 1, l4, es ++ [(t : Int)], some ⟨g, 0, none⟩, cap2, by omega, by go_num, HN4.out, HV5.out, ?_, ?_, ?_, HX5'.out, HB5.out, HU5.out⟩
                      · rw [List.length_append]; exact HN5.out
                      · rw [List.length_append]; simpa [nums] using HE5.out
                      · rw [List.length_append]; exact HA5.out
                    case measure => exact Nat.lt_succ_self _
                · have hje : j = o'.ptrs := by omega
                  subst hje
                  have hnode : node os l2 o' = some (l3, ⟨o'.kind, es, o'.ws.drop o'.ptrs⟩) := by
                    unfold node
                    rw [HNum3.out]
                  have hst := HStep.out
                  rw [hnode] at hst
                  have d1 : decide ((o'.ptrs : Int) < (o'.ptrs : Int)) = false := decide_eq_false (by omega)
                  have d1' : decide (o'.ptrs < o'.ptrs) = false := decide_eq_false (by omega)
                  have n0 := HN3.out.cell 0 rfl
                  have n1 := HN3.out.cell 1 rfl
                  have n2 := HN3.out.cell 2 rfl
                  have hNr := own_upd HN.out HUi.out (fun _ _ h => h)
                  have hWr := own_upd HW6.out HU3.out (fun g hg e => own_offB HW6.out HN6.out (by decide) (e ▸ hg))
                  have hnv : nv.length ≤ 268435456 := by omega
                  have HNr := Lib.hid hNr
                  have HWr := Lib.hid hWr
                  have HSt := Lib.hid hst
                  have HNo := Lib.hid hnode
                  have hs3 := HU3.out.size
                  clear hNr hWr hst hnode b0 b1'
                  go_wp2_with (first | (at_builtin; refine wpList_append_lies _ rfl _ _ 38 rfl w.heap.size 87 j0 _ 3 56 Try.underlying38 hj0 hy0 hy1 hy2 rfl (by decide) _ nv.length (ncells nv) rfl (HNr.out.alloc _) ⟨wr.heap.size, 0, none⟩ 1 1 [.int .i64 (o'.kind : Int), .slice ea es.length ec, .slice b1 (o'.ws.drop o'.ptrs).length c1] rfl rfl ?c1 ?c2 (by decide) ?c3 ?c4 ?c5 _ rfl ?_))
                  case c2 => simp [Value.oneCell']
                  case c3 => simp only [maxLen]; omega
                  case c4 => omega
                  case c5 => first | omega | (simp only [World.size_alloc]; omega)
                  intro g2 cap2 w4 hN4 hg4 hat4 hlt4
                  rw [← List.length_drop] at hN4
                  have u4 : Upd (fun k => (Value.slice na nv.length nc).ownBlock = some k) wr w4 := ((Upd.refl _ wr).alloc (.cells #[.int .i64 (o'.kind : Int), .slice ea es.length ec, .slice b1 (o'.ws.length - o'.ptrs) c1] 87)).grown hg4 (fun k hk _ => hk)
                  have hV4 := own_upd HV3.out u4 (fun g hg h => own_apart HV3.out HNr.out (by decide) g hg h)
                  have hKr := own_upd HK.out HUi.out (fun _ _ h => h)
                  have hK4 := own_upd hKr u4 (fun g hg h => own_apart hKr HNr.out (by decide) g hg h)
                  have hRr := HRW.out.upd HUi.out (fun _ _ _ h => h)
                  have hR4 : RowsOf w4 w.heap.size nv := fun p hp => ⟨own_upd (hRr p hp).1 u4 (fun g hg h => own_apart (hRr p hp).1 HNr.out (by decide) g hg h), own_upd (hRr p hp).2 u4 (fun g hg h => own_apart (hRr p hp).2 HNr.out (by decide) g hg h)⟩
                  have hE4 := own_base (own_upd HE3.out u4 (fun g hg h => own_apart HE3.out HNr.out (by decide) g hg h)) (show w.heap.size ≤ wy.heap.size by omega)
                  have hW4 := own_base (own_upd HWr.out u4 (fun g hg h => own_apart HWr.out HNr.out (by decide) g hg h)) (show w.heap.size ≤ wx.heap.size by omega)
                  have hB4 := HB3.out.upd u4 (fun h => own_offB HNr.out HB3.out (by decide) h)
                  have hU4 := HUw.out.next u4 (fun i hi h => by have := (HNr.out.lt i h).1; omega)
                  have HV4 := Lib.hid hV4
                  have HK4 := Lib.hid hK4
                  have HR4 := Lib.hid hR4
                  have HE4 := Lib.hid hE4
                  have HW4 := Lib.hid hW4
                  have HB4 := Lib.hid hB4
                  have HU4 := Lib.hid hU4
                  have HN4 := Lib.hid hN4
                  clear hN4 hg4 hat4 hlt4 u4 hV4 hKr hK4 hRr hR4 hE4 hW4 hB4 hU4 n0 n1 n2 x3 x4
                  go_wp2
                  go_roundg g'
                  case rel =>
                    refine ⟨l3, nv ++ [(⟨o'.kind, es, o'.ws.drop o'.ptrs⟩, .slice ea es.length ec, .slice b1 (o'.ws.drop o'.ptrs).length c1)], by rw [List.length_append]; simp; omega, (numbers_found HSeen.out HNum3.out).1, ?_, HV4.out, HK4.out, ?_, ?_, HB4.out, HU4.out⟩
                    · rw [HNodes.out, HSt.out, List.map_append]
                      rfl
                    · rw [ncells_snoc, List.length_append]
                      exact HN4.out
                    · intro p hp
                      rcases List.mem_append.1 hp with hp | hp
                      · exact HR4.out p hp
                      · rw [List.mem_singleton] at hp
                        subst hp
                        exact ⟨HE4.out, HW4.out⟩
                  case measure => exact Nat.lt_succ_self _
        · have hend : nodes os gk l2 (nv.map (·.1)) = some (l2, nv.map (·.1)) := by
            cases gk with
            | zero => rfl
            | succ g => rw [nodes, List.length_map, if_neg hlt]
          have hform : form os xs = some (ks, nv.map (·.1)) := by
            unfold form
            rw [HNum2.out]
            simp only
            rw [HNodes.out, hend]
            rfl
          have HForm := Lib.hid hform
          have dn : decide ((nv.length : Int) < (l2.length : Int)) = false := decide_eq_false (by omega)
          have dn' : decide (nv.length < l2.length) = false := decide_eq_false hlt
          clear hend hform V K N RW B U
          go_wp2
          go_ret3
          refine ⟨HU2.out, ?_⟩
          rw [HForm.out]
          exact ⟨_, _, rfl, HK.out, nv, rfl, by rw [List.length_map]; exact HN.out, HRW.out⟩
end Go.Proofs.Ytlphlaenecidiaa.Ref
