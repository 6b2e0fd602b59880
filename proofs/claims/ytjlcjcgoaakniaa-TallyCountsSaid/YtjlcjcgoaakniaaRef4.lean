/- The document's form of objects and roots. -/
import Derived.Test.YtjlcjcgoaakniaaMrgRef
import Derived.Deep.RegionHeld3
import Derived.Deep.RegionLaw
import Derived.Deep.DeepCutAuto
import Derived.Test.YtjlcjcgoaakniaaMrgRow
namespace Go.Proofs.Ytjlcjcgoaakniaa.Ref
open Go.RowKit Go.Proofs.Ytjlcjcgoaakniaa.Mem Go.Proofs.Ytjlcjcgoaakniaa.Obj

theorem keepC {w w' : World} (h : Upd (fun _ => False) w w') {p : Addr} {x : Value} (hc : w.cell? p = some x) : w'.cell? p = some x := by
  have hb := World.block_lt_of_cell? w _ hc
  rw [World.cell?, h.block p.block hb (fun x => x)]
  exact hc
theorem keep3 {w w' : World} (h : Upd (fun _ => False) w w') {p q r : Addr} {x y z : Value} (hs : w.cell? p = some x ∧ w.cell? q = some y ∧ w.cell? r = some z) : w'.cell? p = some x ∧ w'.cell? q = some y ∧ w'.cell? r = some z :=
  ⟨keepC h hs.1, keepC h hs.2.1, keepC h hs.2.2⟩

theorem keep8 {w w' : World} (h : Upd (fun _ => False) w w') {p q r p1 p2 p3 p4 p5 : Addr} {x y z x1 x2 x3 x4 x5 : Value}
    (hs : w.cell? p = some x ∧ w.cell? q = some y ∧ w.cell? r = some z ∧ w.cell? p1 = some x1 ∧ w.cell? p2 = some x2 ∧ w.cell? p3 = some x3 ∧ w.cell? p4 = some x4 ∧ w.cell? p5 = some x5) :
    w'.cell? p = some x ∧ w'.cell? q = some y ∧ w'.cell? r = some z ∧ w'.cell? p1 = some x1 ∧ w'.cell? p2 = some x2 ∧ w'.cell? p3 = some x3 ∧ w'.cell? p4 = some x4 ∧ w'.cell? p5 = some x5 :=
  ⟨keepC h hs.1, keepC h hs.2.1, keepC h hs.2.2.1, keepC h hs.2.2.2.1, keepC h hs.2.2.2.2.1, keepC h hs.2.2.2.2.2.1, keepC h hs.2.2.2.2.2.2.1, keepC h hs.2.2.2.2.2.2.2⟩
theorem keep8s {w w' : World} {nb : Nat} (h : Upd (fun k => k = nb) w w') {p q r p1 p2 p3 p4 p5 : Addr} {x y z x1 x2 x3 x4 x5 : Value} (n1 : p.block ≠ nb) (n2 : q.block ≠ nb) (n3 : r.block ≠ nb) (n4 : p1.block ≠ nb) (n5 : p2.block = p1.block ∧ p3.block = p1.block ∧ p4.block = p1.block ∧ p5.block = p1.block)
    (hs : w.cell? p = some x ∧ w.cell? q = some y ∧ w.cell? r = some z ∧ w.cell? p1 = some x1 ∧ w.cell? p2 = some x2 ∧ w.cell? p3 = some x3 ∧ w.cell? p4 = some x4 ∧ w.cell? p5 = some x5) :
    w'.cell? p = some x ∧ w'.cell? q = some y ∧ w'.cell? r = some z ∧ w'.cell? p1 = some x1 ∧ w'.cell? p2 = some x2 ∧ w'.cell? p3 = some x3 ∧ w'.cell? p4 = some x4 ∧ w'.cell? p5 = some x5 := by
  have one : ∀ {p : Addr} {x : Value}, p.block ≠ nb → w.cell? p = some x → w'.cell? p = some x := fun {p x} hn hc => by
    rw [World.cell?, h.block p.block (World.block_lt_of_cell? w _ hc) hn]
    exact hc
  obtain ⟨e2, e3, e4, e5⟩ := n5
  exact ⟨one n1 hs.1, one n2 hs.2.1, one n3 hs.2.2.1, one n4 hs.2.2.2.1, one (by rw [e2]; exact n4) hs.2.2.2.2.1, one (by rw [e3]; exact n4) hs.2.2.2.2.2.1, one (by rw [e4]; exact n4) hs.2.2.2.2.2.2.1, one (by rw [e5]; exact n4) hs.2.2.2.2.2.2.2⟩
/-- Five cells. -/
theorem blk_five {w : World} {b : Nat} {x y z u v : Value} {t : TypeId} (h : Blk w b [x, y, z, u, v] t) :
    (w.cell? ⟨b, 0, none⟩ = some x ∧ w.cell? ⟨b, 1, none⟩ = some y ∧ w.cell? ⟨b, 2, none⟩ = some z ∧ w.cell? ⟨b, 3, none⟩ = some u ∧ w.cell? ⟨b, 4, none⟩ = some v) ∧
    (w.frozen? ⟨b, 0, none⟩ = false ∧ w.frozen? ⟨b, 1, none⟩ = false ∧ w.frozen? ⟨b, 2, none⟩ = false ∧ w.frozen? ⟨b, 3, none⟩ = false ∧ w.frozen? ⟨b, 4, none⟩ = false) :=
  ⟨⟨h.cell 0 rfl, h.cell 1 rfl, h.cell 2 rfl, h.cell 3 rfl, h.cell 4 rfl⟩, h.frozen 0, h.frozen 1, h.frozen 2, h.frozen 3, h.frozen 4⟩
theorem blk_set5 {w : World} {b : Nat} {x y z u v : Value} {t : TypeId} (h : Blk w b [x, y, z, u, v] t) (x' y' z' u' v' : Value) :
    Blk (((((w.setCell ⟨b, 0, none⟩ x').setCell ⟨b, 1, none⟩ y').setCell ⟨b, 2, none⟩ z').setCell ⟨b, 3, none⟩ u').setCell ⟨b, 4, none⟩ v') b [x', y', z', u', v'] t :=
  ((((h.set 0 x').set 1 y').set 2 z').set 3 u').set 4 v'
theorem upd_set5 {S : Nat → Prop} {a w : World} (h : Upd S a w) (b : Nat) (x y z u v : Value) (hb : b < a.heap.size → S b) :
    Upd S a (((((w.setCell ⟨b, 0, none⟩ x).setCell ⟨b, 1, none⟩ y).setCell ⟨b, 2, none⟩ z).setCell ⟨b, 3, none⟩ u).setCell ⟨b, 4, none⟩ v) :=
  ((((h.setCell x hb).setCell y hb).setCell z hb).setCell u hb).setCell v hb
/-- One object, fetched. -/
def Fetched (w : World) (cs : List Value) (s : Value) (w' : World) : Prop := ∃ xb, s = .pointer (some ⟨xb, 0, none⟩) ∧ w.heap.size ≤ xb ∧ Blk w' xb cs 127 ∧ Upd (fun _ => False) w w'
theorem keep3s {w w' : World} {nb xb o1 o2 o3 : Nat} {x y z : Value} (h : Upd (fun k => k = nb) w w') (hn : xb ≠ nb) (hs : w.cell? ⟨xb, o1, none⟩ = some x ∧ w.cell? ⟨xb, o2, none⟩ = some y ∧ w.cell? ⟨xb, o3, none⟩ = some z) :
    w'.cell? ⟨xb, o1, none⟩ = some x ∧ w'.cell? ⟨xb, o2, none⟩ = some y ∧ w'.cell? ⟨xb, o3, none⟩ = some z := by
  have one : ∀ {o : Nat} {x : Value}, w.cell? ⟨xb, o, none⟩ = some x → w'.cell? ⟨xb, o, none⟩ = some x := fun {o x} hc => by
    rw [World.cell?, h.block xb (World.block_lt_of_cell? w _ hc) hn]
    exact hc
  exact ⟨one hs.1, one hs.2.1, one hs.2.2⟩
theorem keep4 {w w' : World} (h : Upd (fun _ => False) w w') {p q r t : Addr} {x y z u : Value} (hs : w.cell? p = some x ∧ w.cell? q = some y ∧ w.cell? r = some z ∧ w.cell? t = some u) : w'.cell? p = some x ∧ w'.cell? q = some y ∧ w'.cell? r = some z ∧ w'.cell? t = some u :=
  ⟨keepC h hs.1, keepC h hs.2.1, keepC h hs.2.2.1, keepC h hs.2.2.2⟩
theorem IntsAt.at' {w : World} {a : Option Addr} {n cap : Nat} {xs : List Int} (h : IntsAt w (.slice a n cap) xs) {j : Nat} {x : Int} (hj : xs[j]? = some x) : ∃ b off, a = some ⟨b, off, none⟩ ∧ w.cell? ⟨b, off + j, none⟩ = some (.int .i64 x) ∧ b < w.heap.size := by
  obtain ⟨a', cap', he, _, hx⟩ := h
  cases he
  exact hx j x hj
theorem src_cut {w : World} {a : Option Addr} {cap p : Nat} {xs : List Int} (h : IntsAt w (.slice a xs.length cap) xs) : SrcAt w (if cap = p then a else a.map (·.add p)) (nums (xs.drop p)) := by
  obtain ⟨a', cap', he, hc, hx⟩ := h
  cases he
  intro j u hu
  have hj : j < (nums (xs.drop p)).length := (List.getElem?_eq_some_iff.1 hu).1
  rw [nums_len, List.length_drop] at hj
  rw [if_neg (by omega)]
  rw [nums, List.getElem?_map, List.getElem?_drop] at hu
  cases hxj : xs[p + j]? with
  | none => rw [hxj] at hu; cases hu
  | some x =>
    rw [hxj] at hu
    cases hu
    obtain ⟨b, off, rfl, hc', _⟩ := hx (p + j) x hxj
    refine ⟨_, rfl, ?_⟩
    show w.cell? (((⟨b, off, none⟩ : Addr).add p).add j) = _
    rw [add_at, add_at, Nat.add_assoc]
    exact hc'
/-- Two values own nothing together. -/
def Apart (a b : Value) : Prop := ∀ g, a.ownBlock = some g → b.ownBlock ≠ some g
theorem own_offB {w : World} {base : Nat} {e t : TypeId} {size : Nat} {v : Value} {n b : Nat} {xs cs : List Value} (h : w.ownsRow base e size v n xs) (hB : Blk w b cs t) (hne : e ≠ t) : v.ownBlock ≠ some b := by
  intro hb
  rcases h.2 with ⟨hv, _⟩ | ⟨g, cap, cur, hv, _, hg, _⟩
  · rw [hv] at hb; cases hb
  · rw [hv] at hb
    have : g = b := Option.some.inj hb
    subst this
    have e1 := Option.some.inj (hg.symm.trans hB)
    injection e1 with _ e2
    exact hne e2
theorem own_apart {w : World} {base base' : Nat} {e e' : TypeId} {size size' : Nat} {v v' : Value} {n n' : Nat} {xs xs' : List Value} (h : w.ownsRow base e size v n xs) (h' : w.ownsRow base' e' size' v' n' xs') (hne : e ≠ e') : Apart v v' := by
  intro g hg hg'
  rcases h.2 with ⟨hv, _⟩ | ⟨g1, cap, cur, hv, _, hb, _⟩
  · rw [hv] at hg; cases hg
  · rcases h'.2 with ⟨hv', _⟩ | ⟨g2, cap', cur', hv', _, hb', _⟩
    · rw [hv'] at hg'; cases hg'
    · rw [hv] at hg
      rw [hv'] at hg'
      have e1 : g1 = g := Option.some.inj hg
      have e2 : g2 = g := Option.some.inj hg'
      subst e1
      subst e2
      have e1 := Option.some.inj (hb.symm.trans hb')
      injection e1 with _ e3
      exact hne e3
theorem own_lt {w : World} {base : Nat} {e : TypeId} {size : Nat} {v : Value} {n : Nat} {xs : List Value} (h : w.ownsRow base e size v n xs) {g : Nat} (hg : v.ownBlock = some g) : g < w.heap.size := (h.lt g hg).2
theorem ints_below {B : Nat} {w w' : World} {k : IntKind} {a : Option Addr} {zs : List Int} (h : Row.Ints k w a zs) (hb : Below B w w') (hB : B = w.heap.size) : Row.Ints k w' a zs := by
  subst hB
  refine ⟨fun j x hx => ?_, h.wf, h.short⟩
  obtain ⟨b, off, e, hc, hlt⟩ := h.cell j x hx
  exact ⟨b, off, e, (hb.cell (p := ⟨b, off + j, none⟩) hlt).trans hc, Nat.lt_of_lt_of_le hlt hb.size⟩

/-- Loop 1. -/
def Rooting (w : World) (os : List Ob) (xs : List Int) (size : Nat) (v : Value) (vl vr i : Value) (wr : World) : Prop :=
  ∃ (k : Nat) (l : List Nat) (ks : List Int), k ≤ xs.length ∧ i = .int .i64 (k : Int) ∧ numbers os [] (xs.take k) = some (l, ks) ∧ wr.ownsRow w.heap.size 3 1 vl l.length (nums (adr l)) ∧ wr.ownsRow w.heap.size 3 1 vr ks.length (nums ks) ∧ Apart vl vr ∧
    Blk wr w.heap.size [.int .i64 (size : Int), v] 73 ∧ Upd (fun _ => False) w wr

abbrev Nv := Nd × Value × Value
def ncells (l : List Nv) : List Value := l.flatMap fun p => [.int .i64 p.1.kind, p.2.1, p.2.2]
theorem ncells_snoc (l : List Nv) (p : Nv) : ncells (l ++ [p]) = ncells l ++ [.int .i64 p.1.kind, p.2.1, p.2.2] := by simp [ncells]
def RowsOf (w : World) (base : Nat) (l : List Nv) : Prop := ∀ p ∈ l, w.ownsRow base 3 1 p.2.1 p.1.edges.length (nums p.1.edges) ∧ w.ownsRow base 3 1 p.2.2 p.1.words.length (nums p.1.words)
theorem RowsOf.upd {S : Nat → Prop} {w w' : World} {base : Nat} {l : List Nv} (h : RowsOf w base l) (u : Upd S w w') (hs : ∀ i, i < w.heap.size → base ≤ i → S i → False) : RowsOf w' base l := by
  intro p hp
  obtain ⟨h1, h2⟩ := h p hp
  exact ⟨own_upd h1 u (fun g hg hS => hs g (own_lt h1 hg) (h1.lt g hg).1 hS), own_upd h2 u (fun g hg hS => hs g (own_lt h2 hg) (h2.lt g hg).1 hS)⟩

end Go.Proofs.Ytjlcjcgoaakniaa.Ref
