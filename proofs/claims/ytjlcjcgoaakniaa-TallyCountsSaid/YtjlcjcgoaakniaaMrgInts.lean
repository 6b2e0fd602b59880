/- Equal slices of numbers: besomlaw16.ints. -/
import Derived.Test.YtjlcjcgoaakniaaMrgRef
namespace Go.Proofs.Ytjlcjcgoaakniaa.Ref
open Go.RowKit Go.Proofs.Ytjlcjcgoaakniaa.Mem Go.Proofs.Ytjlcjcgoaakniaa.Obj

/-- The loop. -/
def Alike (w : World) (xs ys : List Int) (i : Value) (wr : World) : Prop := ∃ k : Nat, k ≤ xs.length ∧ i = .int .i64 (k : Int) ∧ (∀ j, j < k → xs[j]? = ys[j]?) ∧ Upd (fun _ => False) w wr

end Go.Proofs.Ytjlcjcgoaakniaa.Ref

/- Equal forms: besomlaw16.Is. -/

namespace Go.Proofs.Ytjlcjcgoaakniaa.Ref
open Go.RowKit Go.Proofs.Ytjlcjcgoaakniaa.Mem Go.Proofs.Ytjlcjcgoaakniaa.Obj

def ndcells (l : List (Nd × Value × Value)) : List Value := l.flatMap fun p => [.int .i64 p.1.kind, p.2.1, p.2.2]
theorem ndcells_at : ∀ (l : List (Nd × Value × Value)) (j : Nat) (p : Nd × Value × Value), l[j]? = some p → (ndcells l)[j * 3]? = some (.int .i64 p.1.kind) ∧ (ndcells l)[j * 3 + 1]? = some p.2.1 ∧ (ndcells l)[j * 3 + 2]? = some p.2.2
  | [], j, p, h => by simp at h
  | q :: l, 0, p, h => by
    simp at h
    subst h
    exact ⟨rfl, rfl, rfl⟩
  | q :: l, j + 1, p, h => by
    rw [List.getElem?_cons_succ] at h
    have ih := ndcells_at l j p h
    have e : ∀ k, (ndcells (q :: l))[(j + 1) * 3 + k]? = (ndcells l)[j * 3 + k]? := by
      intro k
      show ([Value.int .i64 q.1.kind, q.2.1, q.2.2] ++ ndcells l)[(j + 1) * 3 + k]? = _
      rw [List.getElem?_append_right (by simp; omega)]
      congr 1
      simp
      omega
    refine ⟨?_, (e 1).trans ih.2.1, (e 2).trans ih.2.2⟩
    have := e 0
    rw [Nat.add_zero, Nat.add_zero] at this
    exact this.trans ih.1

/-- A slice that reads as nodes. -/
def NodesAt (w : World) (v : Value) (nds : List Nd) : Prop := ∃ (a : Option Addr) (cap : Nat), v = .slice a nds.length cap ∧ ∀ (j : Nat) (n : Nd), nds[j]? = some n →
  ∃ (b o : Nat) (ve vw : Value), a = some ⟨b, o, none⟩ ∧ b < w.heap.size ∧ w.cell? ⟨b, o + j * 3, none⟩ = some (.int .i64 n.kind) ∧ w.cell? ⟨b, o + j * 3 + 1, none⟩ = some ve ∧ w.cell? ⟨b, o + j * 3 + 2, none⟩ = some vw ∧ IntsAt w ve n.edges ∧ IntsAt w vw n.words
theorem NodesAt.quiet {w w' : World} {v : Value} {nds : List Nd} (h : NodesAt w v nds) (u : Upd (fun _ => False) w w') : NodesAt w' v nds := by
  obtain ⟨a, cap, e, hx⟩ := h
  refine ⟨a, cap, e, fun j n hj => ?_⟩
  obtain ⟨b, o, ve, vw, ea, hb, c0, c1, c2, i1, i2⟩ := hx j n hj
  have hk := u.block b hb (fun h => h)
  refine ⟨b, o, ve, vw, ea, Nat.lt_of_lt_of_le hb u.size, ?_, ?_, ?_, i1.quiet u, i2.quiet u⟩
  · rw [World.cell?, hk]; exact c0
  · rw [World.cell?, hk]; exact c1
  · rw [World.cell?, hk]; exact c2
theorem NodesAt.of_own {w : World} {base base' : Nat} {e : TypeId} {v : Value} {nv : List (Nd × Value × Value)} {nds : List Nd} (hn : nv.map (·.1) = nds) (h : w.ownsRow base e 3 v nds.length (ndcells nv))
    (hr : ∀ p ∈ nv, w.ownsRow base' 3 1 p.2.1 p.1.edges.length (nums p.1.edges) ∧ w.ownsRow base' 3 1 p.2.2 p.1.words.length (nums p.1.words)) : NodesAt w v nds := by
  rcases h.2 with ⟨hv, h0⟩ | ⟨g, cap, cur, hv, hb, hg, _⟩
  · refine ⟨none, 0, by rw [hv, h0], fun j n hj => ?_⟩
    have := (List.getElem?_eq_some_iff.1 hj).1
    omega
  · subst hv
    refine ⟨some ⟨g, 0, none⟩, cap, rfl, fun j n hj => ?_⟩
    subst hn
    rw [List.getElem?_map] at hj
    cases hp : nv[j]? with
    | none => rw [hp] at hj; cases hj
    | some p =>
      rw [hp] at hj
      cases hj
      obtain ⟨e0, e1, e2⟩ := ndcells_at nv j p hp
      have hm := hr p (List.mem_of_getElem? hp)
      exact ⟨g, 0, p.2.1, p.2.2, rfl, (Array.getElem?_eq_some_iff.1 hg).1, by rw [Nat.zero_add]; exact own_at h _ e0, by rw [Nat.zero_add]; exact own_at h _ e1, by rw [Nat.zero_add]; exact own_at h _ e2, IntsAt.of_own hm.1, IntsAt.of_own hm.2⟩
theorem NodesAt.form {w : World} {v : Value} {nds : List Nd} (h : NodesAt w v nds) : ∃ a cap, v = .slice a nds.length cap := by
  obtain ⟨a, cap, e, _⟩ := h
  exact ⟨a, cap, e⟩

/-- The loop. -/
def AlikeN (w : World) (va vn : Value) (xs ys : List Nd) (i : Value) (wr : World) : Prop := ∃ k : Nat, k ≤ ys.length ∧ i = .int .i64 (k : Int) ∧ (∀ j, j < k → xs[j]? = ys[j]?) ∧ Blk wr w.heap.size [va, vn] 78 ∧ Upd (fun _ => False) w wr

theorem nd_ext {a b : Nd} (h1 : a.kind = b.kind) (h2 : a.edges = b.edges) (h3 : a.words = b.words) : a = b := by
  cases a; cases b; simp_all

end Go.Proofs.Ytjlcjcgoaakniaa.Ref

/- graph.Form.Words: how many words a form has. -/

namespace Go.Proofs.Ytjlcjcgoaakniaa.Ref
open Go.RowKit Go.Proofs.Ytjlcjcgoaakniaa.Mem Go.Proofs.Ytjlcjcgoaakniaa.Obj

/-- How many words nodes have. -/
def nwords : List Nd → Nat
  | [] => 0
  | n :: l => 1 + n.edges.length + n.words.length + nwords l
theorem nwords_append (a b : List Nd) : nwords (a ++ b) = nwords a + nwords b := by
  induction a with
  | nil => simp [nwords]
  | cons n a ih => rw [List.cons_append, nwords, nwords, ih]; omega
theorem nwords_take {l : List Nd} {k : Nat} {n : Nd} (h : l[k]? = some n) : nwords (l.take (k + 1)) = nwords (l.take k) + (1 + n.edges.length + n.words.length) := by
  rw [List.take_add_one, h, Option.toList_some, nwords_append, nwords, nwords]; omega
theorem nwords_take_le (l : List Nd) (k : Nat) : nwords (l.take k) ≤ nwords l := by
  conv => rhs; rw [← List.take_append_drop k l]
  rw [nwords_append]; omega

set_option maxHeartbeats 1000000 in
theorem words_any (w : World) (va vn : Value) (m : Nat) (ac : Nat) (aa : Option Addr) (hva : va = .slice aa m ac) (nds : List Nd) (hn : NodesAt w vn nds) (hb : nwords nds ≤ 1000000000) (hl : nds.length ≤ 1000000000) :
    Calls Try.prog 46 #[.agg #[va, vn]] w fun e w' => e = .returned (.int .i64 (nwords nds : Int)) ∧ Upd (fun _ => False) w w' := by
  subst hva
  obtain ⟨na, nc, rfl⟩ := hn.form
  have HB := Lib.hid (Blk.made w [.slice aa m ac, .slice na nds.length nc] 78)
  have hu := ((Upd.refl (fun _ => False) w).alloc (.cells #[.slice aa m ac, .slice na nds.length nc] 78))
  have HU := Lib.hid hu
  have HN := Lib.hid hn
  have HBd := Lib.hid hb
  clear hu hn hb
  go_enter Try.func46, Try.ntmps46
  go_wp2
  go_loopw [3, 9] (fun s i wr => ∃ k : Nat, k ≤ nds.length ∧ i = .int .i64 (k : Int) ∧ s = .int .i64 (nwords (nds.take k) : Int) ∧ Upd (fun _ => False) w wr) (fun _ i _ => nds.length - (intOf i).toNat)
  case atStart => exact ⟨0, Nat.zero_le _, rfl, rfl, HU.out⟩
  case round =>
    obtain ⟨k, hk, rfl, rfl, hU⟩ := hrel
    have HUr := Lib.hid hU
    by_cases hlk : k < nds.length
    · obtain ⟨n, hnk⟩ : ∃ n, nds[k]? = some n := ⟨_, List.getElem?_eq_getElem hlk⟩
      obtain ⟨a', c', e', hx⟩ := HN.out.quiet hU
      cases e'
      obtain ⟨b, o, ve, vw, rfl, hbl, c0, c1, c2, he, hw⟩ := hx k n hnk
      obtain ⟨ea, ec, rfl⟩ := he.form
      obtain ⟨wa, wc, rfl⟩ := hw.form
      have d1 : decide ((k : Int) < (nds.length : Int)) = true := decide_eq_true (by omega)
      have d1' : decide (k < nds.length) = true := decide_eq_true hlk
      have i1 : (0 : Int) ≤ (k : Int) := by omega
      have i2 : (k : Int) < (nds.length : Int) := by omega
      have htk := nwords_take hnk
      have hle := nwords_take_le nds (k + 1)
      have hbd := HBd.out
      obtain ⟨T, hT⟩ : ∃ T, T = nwords (nds.take k) := ⟨_, rfl⟩
      rw [← hT] at htk ⊢
      have b1 : T ≤ 1000000000 := by omega
      have b2 : n.edges.length ≤ 1000000000 := by omega
      have b3 : n.words.length ≤ 1000000000 := by omega
      have HTk := Lib.hid htk
      clear hU hx he hw hnk htk hle hbd hT
      go_wp2
      go_roundw
      case rel =>
        refine ⟨k + 1, by omega, by go_num, ?_, HUr.out.alloc _⟩
        rw [HTk.out]
        go_num
      case measure => simp [intOf]; omega
    · have hke : k = nds.length := by omega
      subst hke
      rw [List.take_length]
      clear hU
      go_wp2
      go_ret
      exact ⟨rfl, HUr.out⟩
end Go.Proofs.Ytjlcjcgoaakniaa.Ref
