/- Graphs that are made by appends, in memory; the closure of GraphOrders. -/
import Derived.Test.YtlphlaenecidiaaOrdersP
import Derived.Test.YtlphlaenecidiaaBuild2
import Derived.Test.YtlphlaenecidiaaGraph3
set_option linter.unusedSimpArgs false
namespace Go.Proofs.Ytlphlaenecidiaa.Build
open Go.RowKit Go.Proofs.Ytlphlaenecidiaa.Mem Go.Proofs.Ytlphlaenecidiaa.Obj Go.Proofs.Ytlphlaenecidiaa.Ref Go.Proofs.Ytlphlaenecidiaa.Heap

def byts (xs : List Nat) : List Value := xs.map fun x : Nat => Value.int .u8 (x : Int)
theorem byts_snoc (xs : List Nat) (x : Nat) : byts (xs ++ [x]) = byts xs ++ [.int .u8 (x : Int)] := by simp [byts]
/-- Nodes, with where their edges lie, as cells. -/
def gcells (l : List (GNd × Value)) : List Value := l.flatMap fun p => [.int .u8 (p.1.kind : Int), p.2, .int .u8 (p.1.more : Int)]
theorem gcells_len (l : List (GNd × Value)) : (gcells l).length = l.length * 3 := by
  induction l with
  | nil => rfl
  | cons p l ih =>
    have e : gcells (p :: l) = [.int .u8 (p.1.kind : Int), p.2, .int .u8 (p.1.more : Int)] ++ gcells l := rfl
    rw [e, List.length_append, ih, List.length_cons]
    simp
    omega
theorem gcells_snoc (l : List (GNd × Value)) (p : GNd × Value) : gcells (l ++ [p]) = gcells l ++ [.int .u8 (p.1.kind : Int), p.2, .int .u8 (p.1.more : Int)] := by simp [gcells]
theorem gcells_at : ∀ (l : List (GNd × Value)) (j : Nat) (p : GNd × Value), l[j]? = some p → (gcells l)[j * 3]? = some (.int .u8 (p.1.kind : Int)) ∧ (gcells l)[j * 3 + 1]? = some p.2 ∧ (gcells l)[j * 3 + 2]? = some (.int .u8 (p.1.more : Int))
  | [], j, p, h => by simp at h
  | q :: l, 0, p, h => by
    simp at h
    subst h
    exact ⟨rfl, rfl, rfl⟩
  | q :: l, j + 1, p, h => by
    rw [List.getElem?_cons_succ] at h
    have ih := gcells_at l j p h
    have e : ∀ k, (gcells (q :: l))[(j + 1) * 3 + k]? = (gcells l)[j * 3 + k]? := by
      intro k
      show ([Value.int .u8 (q.1.kind : Int), q.2, .int .u8 (q.1.more : Int)] ++ gcells l)[(j + 1) * 3 + k]? = _
      rw [List.getElem?_append_right (by simp; omega)]
      congr 1
      simp
      omega
    refine ⟨?_, (e 1).trans ih.2.1, (e 2).trans ih.2.2⟩
    have := e 0
    rw [Nat.add_zero, Nat.add_zero] at this
    exact this.trans ih.1

theorem Bytes.of_own {w : World} {base : Nat} {e : TypeId} {v : Value} {xs : List Nat} (h : w.ownsRow base e 1 v xs.length (byts xs)) (hx : ∀ x ∈ xs, x < 256) : ∃ a cap, v = .slice a xs.length cap ∧ Bytes w a xs := by
  rcases h.2 with ⟨hv, h0⟩ | ⟨g, cap, cur, hv, hb, hg, _⟩
  · refine ⟨none, 0, by rw [hv, h0], fun j x hj => ?_⟩
    have := (List.getElem?_eq_some_iff.1 hj).1
    omega
  · subst hv
    refine ⟨some ⟨g, 0, none⟩, cap, rfl, fun j x hj => ⟨g, 0, rfl, ?_, (Array.getElem?_eq_some_iff.1 hg).1, hx x (List.mem_of_getElem? hj)⟩⟩
    rw [Nat.zero_add]
    exact own_at h j (by rw [byts, List.getElem?_map, hj]; rfl)
/-- Each of some nodes has its edges in a slice. -/
def EdgesIn (w : World) (l : List (GNd × Value)) : Prop := ∀ p ∈ l, ∃ ea ec, p.2 = .slice ea p.1.edges.length ec ∧ Bytes w ea p.1.edges ∧ p.1.kind < 256 ∧ p.1.more < 256
theorem EdgesIn.quiet {w w' : World} {l : List (GNd × Value)} (h : EdgesIn w l) (u : Upd (fun _ => False) w w') : EdgesIn w' l := fun p hp => by
  obtain ⟨ea, ec, h1, h2, h3⟩ := h p hp
  exact ⟨ea, ec, h1, h2.quiet u, h3⟩
theorem NodesIn.of_own {w : World} {base : Nat} {e : TypeId} {v : Value} {l : List (GNd × Value)} {ns : List GNd} (hl : l.map (·.1) = ns) (h : w.ownsRow base e 3 v ns.length (gcells l)) (hp : EdgesIn w l) : ∃ a cap, v = .slice a ns.length cap ∧ NodesIn w a ns := by
  rcases h.2 with ⟨hv, h0⟩ | ⟨g, cap, cur, hv, hb, hg, _⟩
  · refine ⟨none, 0, by rw [hv, h0], fun j n hj => ?_⟩
    have := (List.getElem?_eq_some_iff.1 hj).1
    omega
  · subst hv
    refine ⟨some ⟨g, 0, none⟩, cap, rfl, fun j n hj => ?_⟩
    subst hl
    rw [List.getElem?_map] at hj
    cases hq : l[j]? with
    | none => rw [hq] at hj; cases hj
    | some p =>
      rw [hq] at hj
      cases hj
      obtain ⟨e0, e1, e2⟩ := gcells_at l j p hq
      obtain ⟨ea, ec, h1, h2, h3, h4⟩ := hp p (List.mem_of_getElem? hq)
      rw [h1] at e1
      exact ⟨g, 0, ea, ec, rfl, (Array.getElem?_eq_some_iff.1 hg).1, by rw [Nat.zero_add]; exact own_at h _ e0, by rw [Nat.zero_add]; exact own_at h _ e1, by rw [Nat.zero_add]; exact own_at h _ e2, h2, h3, h4⟩

theorem turned_lt {n k e : Nat} (hn : n ≤ 14) (h0 : 0 < n) : turned n k e < 256 := by
  unfold turned
  split
  · omega
  · have := Nat.mod_lt (e % (n + 1) + n - k) h0
    omega
theorem ret_u8 {a b : Int} (h : a = b) : Ending.returned (.int .u8 a) = .returned (.int .u8 b) := by rw [h]
set_option maxHeartbeats 1000000 in
theorem to_any (w : World) (nb kb n k e : Nat) (hn : Blk w nb [.int .i64 (n : Int)] 3) (hk : Blk w kb [.int .i64 (k : Int)] 3) (h0 : 0 < n) (h14 : n ≤ 14) (hkn : k < n) (he : e < 256) :
    Calls Try.prog 19 #[.int .u8 (e : Int), .pointer (some ⟨nb, 0, none⟩), .pointer (some ⟨kb, 0, none⟩)] w fun x w' => x = .returned (.int .u8 (turned n k e : Int)) ∧ w' = w := by
  have c0 := hn.cell 0 rfl
  have c1 := hk.cell 0 rfl
  have l0 := hn.lt
  have l1 := hk.lt
  obtain ⟨m, hm⟩ : ∃ m, m = n + 1 := ⟨_, rfl⟩
  obtain ⟨i, hi⟩ : ∃ i, i = e % m := ⟨_, rfl⟩
  have hlt : i < m := by rw [hi]; exact Nat.mod_lt _ (by omega)
  have s1 : IntKind.i64.wrap ((n : Int) + 1) = (m : Int) := by rw [IntWalk.i64_in _ (by omega)]; omega
  have s2 : (e : Int) % (m : Int) = (i : Int) := by rw [hi]; push_cast; rfl
  have z1 : ((m : Int) == 0) = false := by rw [beq_eq_false_iff_ne]; omega
  have z1' : (m == 0) = false := by rw [beq_eq_false_iff_ne]; omega
  by_cases hin : i = n
  · have ht : turned n k e = n := by unfold turned; rw [← hm, ← hi, if_pos hin]
    have d1 : ((i : Int) == (n : Int)) = true := by rw [beq_iff_eq]; omega
    have d1' : (i == n) = true := by rw [beq_iff_eq]; omega
    have s5 : IntKind.u8.wrap (n : Int) = (n : Int) := by rw [IntKind.wrap_u8]; omega
    have HT := Lib.hid ht
    clear ht hin hi hm hn hk
    go_enter Try.func19, Try.ntmps19
    go_wp2
    go_ret
    exact ⟨ret_u8 (by rw [HT.out]), rfl⟩
  · have ht : turned n k e = (i + n - k) % n := by unfold turned; rw [← hm, ← hi, if_neg hin]
    have d1 : ((i : Int) == (n : Int)) = false := by rw [beq_eq_false_iff_ne]; omega
    have d1' : (i == n) = false := by rw [beq_eq_false_iff_ne]; omega
    obtain ⟨s, hs⟩ : ∃ s, s = i + n := ⟨_, rfl⟩
    obtain ⟨t, htt⟩ : ∃ t, t = s - k := ⟨_, rfl⟩
    obtain ⟨r, hr⟩ : ∃ r, r = t % n := ⟨_, rfl⟩
    have hrl : r < n := by rw [hr]; exact Nat.mod_lt _ h0
    have s3 : IntKind.i64.wrap ((i : Int) + (n : Int)) = (s : Int) := by rw [IntWalk.i64_in _ (by omega)]; omega
    have s4 : IntKind.i64.wrap ((s : Int) - (k : Int)) = (t : Int) := by rw [IntWalk.i64_in _ (by omega)]; omega
    have s5 : (t : Int) % (n : Int) = (r : Int) := by rw [hr]; push_cast; rfl
    have s6 : IntKind.u8.wrap (r : Int) = (r : Int) := by rw [IntKind.wrap_u8]; omega
    have z2 : ((n : Int) == 0) = false := by rw [beq_eq_false_iff_ne]; omega
    have z2' : (n == 0) = false := by rw [beq_eq_false_iff_ne]; omega
    have HT := Lib.hid (show turned n k e = r by rw [ht, hr, htt, hs])
    clear ht hin hi hm hn hk hr htt hs
    go_enter Try.func19, Try.ntmps19
    go_wp2
    go_ret
    exact ⟨ret_u8 (by rw [HT.out]), rfl⟩
theorem other_mem {ns : List GNd} {k : Nat} {m : GNd} (h0 : 0 < ns.length) (h : m ∈ otherG ns k) : ∃ x ∈ ns, m = otherN ns.length k x := by
  obtain ⟨i, hi, rfl⟩ := List.mem_map.1 h
  have hl : (i + k) % ns.length < ns.length := Nat.mod_lt _ h0
  refine ⟨ns[(i + k) % ns.length], List.getElem_mem _, ?_⟩
  rw [List.getD_eq_getElem?_getD, List.getElem?_eq_getElem hl]
  rfl
theorem kinds_in {w : World} {na : Option Addr} {ns : List GNd} (h : NodesIn w na ns) : ∀ x ∈ ns, x.kind < 256 := fun x hx => by
  obtain ⟨i, hi, rfl⟩ := List.getElem_of_mem hx
  obtain ⟨_, _, _, _, _, _, _, _, _, _, hk, _⟩ := h i _ (List.getElem?_eq_getElem hi)
  exact hk
theorem edges_of_own {w : World} {base k : Nat} {l : List (GNd × Value)} {ns : List GNd} (h0 : 0 < ns.length) (h14 : ns.length ≤ 14) (hk : ∀ x ∈ ns, x.kind < 256) (hl : l.map (·.1) = otherG ns k) (h : ∀ p ∈ l, w.ownsRow base 5 1 p.2 p.1.edges.length (byts p.1.edges)) : EdgesIn w l := fun p hp => by
  have hm : p.1 ∈ otherG ns k := by rw [← hl]; exact List.mem_map.2 ⟨p, hp, rfl⟩
  obtain ⟨x, hx, e⟩ := other_mem h0 hm
  have hlt : ∀ y ∈ p.1.edges, y < 256 := by
    rw [e]
    intro y hy
    obtain ⟨z, _, rfl⟩ := List.mem_map.1 hy
    exact turned_lt h14 h0
  obtain ⟨ea, ec, e1, hb⟩ := Bytes.of_own (h p hp) hlt
  exact ⟨ea, ec, e1, hb, by rw [e]; exact hk x hx, by rw [e]; simp [otherN]⟩
theorem plain_few {ns : List GNd} (h : ∀ n ∈ ns, n.edges.length ≤ 10) : ∀ n ∈ plainG ns, n.edges.length ≤ 10 := fun n hn => by
  obtain ⟨x, hx, rfl⟩ := List.mem_map.1 hn
  exact h x hx
theorem other_few {ns : List GNd} {k : Nat} (h0 : 0 < ns.length) (h : ∀ n ∈ ns, n.edges.length ≤ 10) : ∀ n ∈ otherG ns k, n.edges.length ≤ 10 := fun n hn => by
  obtain ⟨x, hx, rfl⟩ := other_mem h0 hn
  simp only [otherN, List.length_map]
  exact h x hx
end Go.Proofs.Ytlphlaenecidiaa.Build
