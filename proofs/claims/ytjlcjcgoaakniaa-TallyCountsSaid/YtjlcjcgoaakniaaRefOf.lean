/- The document's Of: words read as objects. -/
import Derived.Test.YtjlcjcgoaakniaaMrgRef
import Derived.Test.YtjlcjcgoaakniaaMrgHeap
import Derived.Test.YtjlcjcgoaakniaaMrgRow
import Derived.Test.YtjlcjcgoaakniaaMrgLast
import Derived.Deep.RegionHeld3
import Derived.Deep.RegionLaw
import Derived.Deep.LoopGhost
import Derived.Deep.DeepCutAuto
set_option linter.unusedSimpArgs false
namespace Go.Proofs.Ytjlcjcgoaakniaa.Ref
open Go.RowKit Go.Proofs.Ytjlcjcgoaakniaa.Mem Go.Proofs.Ytjlcjcgoaakniaa.Obj Go.Proofs.Ytjlcjcgoaakniaa.Heap

/-- What Of answers. -/
def RofEnd (w : World) (n : Nat) (r : Option (List Ob)) (e : Ending) (w' : World) : Prop :=
  Upd (fun _ => False) w w' ∧ match r with
    | none => e = .returned (.tuple #[.agg #[.int .i64 0, .slice none 0 0], .int .i64 2])
    | some os => ∃ v, e = .returned (.tuple #[.agg #[.int .i64 (n : Int), v], .int .i64 0]) ∧ RefAt w' w.heap.size v os

/-- Objects with rows of their own. -/
def OwnObs (w : World) (base : Nat) (v : Value) (os : List Ob) : Prop := ∃ L : List (Ob × Value), L.map (·.1) = os ∧ w.ownsRow base 127 5 v os.length (ocells 0 L) ∧ ∀ p ∈ L, w.ownsRow base 3 1 p.2 p.1.ws.length (nums p.1.ws)
theorem OwnObs.nil (w : World) (base : Nat) : OwnObs w base (.slice none 0 0) [] := ⟨[], rfl, World.ownsRow_nil _ _ _ _, fun p hp => by cases hp⟩
theorem OwnObs.upd {S : Nat → Prop} {w w' : World} {base : Nat} {v : Value} {os : List Ob} (h : OwnObs w base v os) (u : Upd S w w') (hv : ∀ g, v.ownBlock = some g → ¬ S g) (hi : ∀ (x : Value) (n : Nat) (xs : List Value), w.ownsRow base 3 1 x n xs → ∀ g, x.ownBlock = some g → ¬ S g) : OwnObs w' base v os := by
  obtain ⟨L, h1, h2, h3⟩ := h
  exact ⟨L, h1, own_upd h2 u hv, fun p hp => own_upd (h3 p hp) u (hi _ _ _ (h3 p hp))⟩
theorem OwnObs.quiet {w w' : World} {base : Nat} {v : Value} {os : List Ob} (h : OwnObs w base v os) (u : Upd (fun _ => False) w w') : OwnObs w' base v os := h.upd u (fun _ _ h => h) (fun _ _ _ _ _ _ h => h)
theorem OwnObs.form {w : World} {base : Nat} {v : Value} {os : List Ob} (h : OwnObs w base v os) : ∃ a cap, v = .slice a os.length cap := by
  obtain ⟨L, h1, h2, h3⟩ := h
  exact own_form h2

theorem own_offR {w : World} {base : Nat} {e t : TypeId} {size : Nat} {v : Value} {n b : Nat} {xs cs : List Value} (h : w.ownsRow base e size v n xs) (hB : Blk w b cs t) (hne : e ≠ t) : v.ownBlock ≠ some b := by
  intro hb
  rcases h.2 with ⟨hv, _⟩ | ⟨g, cap, cur, hv, _, hg, _⟩
  · rw [hv] at hb; cases hb
  · rw [hv] at hb
    have : g = b := Option.some.inj hb
    subst this
    have e1 := Option.some.inj (hg.symm.trans hB)
    injection e1 with _ e2
    exact hne e2

/-- The loop. -/
def Reading (w : World) (W : List Int) (u : Nat) (g : Nat) (i : Value) (wr : World) : Prop :=
  ∃ (os : List Ob) (rest : List Int) (v : Value), W = flat os ++ rest ∧ i = .int .i64 (top os : Int) ∧ top os ≤ u ∧ u - top os ≤ g ∧ parse u [] (W.take u) = parse g os (rest.take (u - top os)) ∧ (∀ o ∈ os, o.good) ∧ OwnObs wr w.heap.size v os ∧
    Blk wr (w.heap.size + 1) [.int .i64 (W.length : Int), v] 73 ∧ Blk wr w.heap.size [.int .i64 0, .slice none 0 0] 73 ∧ Upd (fun _ => False) w wr

theorem keepC' {w w' : World} (h : Upd (fun _ => False) w w') {p : Addr} {x : Value} (hc : w.cell? p = some x) : w'.cell? p = some x := by
  have hb := World.block_lt_of_cell? w _ hc
  rw [World.cell?, h.block p.block hb (fun x => x)]
  exact hc
theorem keep4' {w w' : World} (h : Upd (fun _ => False) w w') {p q r t : Addr} {x y z u : Value} (hs : w.cell? p = some x ∧ w.cell? q = some y ∧ w.cell? r = some z ∧ w.cell? t = some u) : w'.cell? p = some x ∧ w'.cell? q = some y ∧ w'.cell? r = some z ∧ w'.cell? t = some u :=
  ⟨keepC' h hs.1, keepC' h hs.2.1, keepC' h hs.2.2.1, keepC' h hs.2.2.2⟩
theorem keep3' {w w' : World} (h : Upd (fun _ => False) w w') {p q r : Addr} {x y z : Value} (hs : w.cell? p = some x ∧ w.cell? q = some y ∧ w.cell? r = some z) : w'.cell? p = some x ∧ w'.cell? q = some y ∧ w'.cell? r = some z :=
  ⟨keepC' h hs.1, keepC' h hs.2.1, keepC' h hs.2.2⟩
theorem keep3set {w : World} {b c o o0 o1 o2 : Nat} {v x y z : Value} (hne : b ≠ c) (hs : w.cell? ⟨b, o0, none⟩ = some x ∧ w.cell? ⟨b, o1, none⟩ = some y ∧ w.cell? ⟨b, o2, none⟩ = some z) :
    (w.setCell ⟨c, o, none⟩ v).cell? ⟨b, o0, none⟩ = some x ∧ (w.setCell ⟨c, o, none⟩ v).cell? ⟨b, o1, none⟩ = some y ∧ (w.setCell ⟨c, o, none⟩ v).cell? ⟨b, o2, none⟩ = some z := by
  have e := ((Upd.refl (fun k => k = c) w).setCell (p := ⟨c, o, none⟩) v (fun _ => rfl))
  have one : ∀ {j : Nat} {x : Value}, w.cell? ⟨b, j, none⟩ = some x → (w.setCell ⟨c, o, none⟩ v).cell? ⟨b, j, none⟩ = some x := fun {j x} hc => by
    rw [World.cell?, e.block b (World.block_lt_of_cell? w _ hc) hne]
    exact hc
  exact ⟨one hs.1, one hs.2.1, one hs.2.2⟩
theorem infoObj : (Try.prog.info? 127).map (fun i => (i.zero, i.size, i.bytes)) = some (some (.agg #[.int .i64 0, .int .i64 0, .int .i64 0, .int .i64 0, .slice none 0 0]), 5, 56) := by kernel_rfl
theorem src_cut2 {w : World} {a : Option Addr} {cap p L : Nat} {xs : List Int} (h : IntsAt w (.slice a xs.length cap) xs) (hp : p + L ≤ xs.length) : SrcAt w (if cap = p then a else a.map (·.add p)) (nums ((xs.drop p).take L)) := by
  obtain ⟨a', cap', he, hc, hx⟩ := h
  cases he
  intro j u hu
  have hj : j < (nums ((xs.drop p).take L)).length := (List.getElem?_eq_some_iff.1 hu).1
  rw [nums_len, List.length_take, List.length_drop] at hj
  rw [if_neg (by omega)]
  rw [nums, List.getElem?_map, List.getElem?_take, if_pos (by omega), List.getElem?_drop] at hu
  cases hxj : xs[p + j]? with
  | none => rw [hxj] at hu; cases hu
  | some x =>
    rw [hxj] at hu
    cases hu
    obtain ⟨b, off, rfl, hc', _⟩ := hx (p + j) x hxj
    refine ⟨_, rfl, ?_⟩
    show w.cell? (((⟨b, off, none⟩ : Addr).add p).add j) = _
    rw [add_at, add_at, Nat.add_assoc]
    exact hc'
theorem ocells_snoc (o : Ob) (v : Value) : ∀ (l : List (Ob × Value)) (s : Nat), ocells s (l ++ [(o, v)]) = ocells s l ++ [.int .i64 ((s + top (l.map (·.1)) : Nat) : Int), .int .i64 (o.kind : Int), .int .i64 (o.len : Int), .int .i64 (o.ptrs : Int), v]
  | [], s => by simp [ocells, top_nil]
  | (p, u) :: l, s => by
    rw [List.cons_append]
    simp only [ocells, ocells_snoc o v l, List.map_cons, top_cons, List.append_assoc]
    rw [show s + (1 + p.len) + top (l.map (·.1)) = s + (1 + p.len + top (l.map (·.1))) by omega]
theorem own_apartR {w : World} {base base' : Nat} {e e' : TypeId} {size size' : Nat} {v v' : Value} {n n' : Nat} {xs xs' : List Value} (h : w.ownsRow base e size v n xs) (h' : w.ownsRow base' e' size' v' n' xs') (hne : e ≠ e') : ∀ g, v.ownBlock = some g → v'.ownBlock ≠ some g := by
  intro g hg hg'
  rcases h'.2 with ⟨hv', _⟩ | ⟨g2, cap', cur', hv', _, hb', _⟩
  · rw [hv'] at hg'; cases hg'
  · rw [hv'] at hg'
    have e2 : g2 = g := Option.some.inj hg'
    subst e2
    exact own_offR h (cs := cur'.toList) (t := e') (by unfold Blk; simpa using hb') hne hg
/-- One object more. -/
def OneRead (w0 w : World) (n : Nat) (hb : Nat) (L : Nat) (os : List Ob) (o : Ob) (wd : World) : Prop :=
  ∃ v, OwnObs wd w0.heap.size v (os ++ [o]) ∧ Blk wd (w0.heap.size + 1) [.int .i64 (n : Int), v] 73 ∧ wd.cell? ⟨hb, 1, none⟩ = some (.int .i64 (L : Int)) ∧ Upd (fun k => w0.heap.size < k) w wd

end Go.Proofs.Ytjlcjcgoaakniaa.Ref
