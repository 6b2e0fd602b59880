/- The form of objects and roots, told at once: which addresses were found, and what each node is. Plain lists, no program here. -/
import Derived.Test.YtlphlaenecidiaaForm
namespace Go.Proofs.Ytlphlaenecidiaa.Obj

/-- What a reference reads as, when all that is found is known. -/
def ref (L : List Nat) (x : Int) : Int := if x = 0 then 0 else match place L (x - 1).toNat with | some i => ((i + 1 : Nat) : Int) | none => 0
/-- A reference that is none, or leads to what was found. -/
def OkRef (L : List Nat) (x : Int) : Prop := x = 0 ∨ ∃ a : Nat, x = (a : Int) + 1 ∧ a ∈ L

theorem place_append {l : List Nat} (r : List Nat) {a i : Nat} (h : place l a = some i) : place (l ++ r) a = some i := by
  induction l generalizing i with
  | nil => cases h
  | cons b l ih =>
    rw [List.cons_append]
    unfold place at h ⊢
    split
    · rename_i e; rw [if_pos e] at h; exact h
    · rename_i e
      rw [if_neg e] at h
      cases hp : place l a with
      | none => rw [hp] at h; cases h
      | some j => rw [hp] at h; rw [ih hp]; exact h
theorem place_of_mem {l : List Nat} {a : Nat} (h : a ∈ l) : ∃ i, place l a = some i := by
  cases hp : place l a with
  | some i => exact ⟨i, rfl⟩
  | none => exact absurd h (place_none hp)
theorem ref_append {l : List Nat} {x : Int} (h : OkRef l x) (r : List Nat) : ref (l ++ r) x = ref l x := by
  rcases h with rfl | ⟨a, rfl, ha⟩
  · rfl
  · obtain ⟨i, hi⟩ := place_of_mem ha
    unfold ref
    rw [show ((a : Int) + 1 - 1).toNat = a by omega, hi, place_append r hi]
theorem OkRef.append {l : List Nat} {x : Int} (h : OkRef l x) (r : List Nat) : OkRef (l ++ r) x := by
  rcases h with h | ⟨a, h, ha⟩
  · exact .inl h
  · exact .inr ⟨a, h, List.mem_append_left _ ha⟩
theorem ref_at {l : List Nat} {a i : Nat} (h : place l a = some i) : ref l ((a : Int) + 1) = ((i + 1 : Nat) : Int) := by
  unfold ref
  rw [if_neg (by omega), show ((a : Int) + 1 - 1).toNat = a by omega, h]

theorem number_ref {os : List Ob} {l l' : List Nat} {x : Int} {k : Nat} (h : number os l x = some (l', k)) : (k : Int) = ref l' x ∧ OkRef l' x ∧ (∃ r, l' = l ++ r) ∧ ∀ a ∈ l', a ∈ l ∨ (a : Int) + 1 = x := by
  unfold number at h
  split at h
  · rename_i h0
    subst h0
    cases h
    exact ⟨rfl, .inl rfl, ⟨[], by simp⟩, fun a ha => .inl ha⟩
  · split at h
    · cases h
    · rename_i h0 o ho
      obtain ⟨a, ha, hf⟩ := lookAt_some ho
      obtain rfl : x = (a : Int) + 1 := by omega
      rw [show ((a : Int) + 1 - 1).toNat = a by omega] at h
      split at h
      · cases h
      · split at h
        · rename_i i hp
          cases h
          exact ⟨(ref_at hp).symm, .inr ⟨a, rfl, place_mem hp⟩, ⟨[], by simp⟩, fun b hb => .inl hb⟩
        · rename_i hp
          cases h
          have hl : place (l ++ [a]) a = some l.length := by rw [place_snoc hp, if_pos rfl]
          refine ⟨(ref_at hl).symm, .inr ⟨a, rfl, place_mem hl⟩, ⟨[a], rfl⟩, fun b hb => ?_⟩
          rcases List.mem_append.1 hb with hb | hb
          · exact .inl hb
          · rw [List.mem_singleton] at hb; subst hb; exact .inr rfl

theorem numbers_ref {os : List Ob} : ∀ {xs : List Int} {l l' : List Nat} {ks : List Int}, numbers os l xs = some (l', ks) → ks = xs.map (ref l') ∧ (∀ x ∈ xs, OkRef l' x) ∧ (∃ r, l' = l ++ r) ∧ ∀ a ∈ l', a ∈ l ∨ (a : Int) + 1 ∈ xs
  | [], l, l', ks, h => by
    cases h
    exact ⟨rfl, (fun x hx => by cases hx), ⟨[], by simp⟩, fun a ha => .inl ha⟩
  | x :: xs, l, l', ks, h => by
    unfold numbers at h
    split at h
    · cases h
    · rename_i l1 k hn
      split at h
      · cases h
      · rename_i l2 ks2 hns
        cases h
        obtain ⟨h1, h2, ⟨r, rfl⟩, h4⟩ := number_ref hn
        obtain ⟨g1, g2, ⟨r', rfl⟩, g4⟩ := numbers_ref hns
        refine ⟨by rw [List.map_cons, ref_append h2, ← h1, g1], fun y hy => ?_, ⟨r ++ r', by simp⟩, fun a ha => ?_⟩
        · rcases List.mem_cons.1 hy with rfl | hy
          · exact h2.append _
          · exact g2 y hy
        · rcases g4 a ha with ha | ha
          · rcases h4 a ha with ha | ha
            · exact .inl ha
            · exact .inr (by rw [ha]; exact List.mem_cons_self)
          · exact .inr (List.mem_cons_of_mem _ ha)

/-- The node of an address, when all that is found is known. -/
def nodeOf (os : List Ob) (L : List Nat) (a : Nat) : Nd := match find os a with
  | some o => ⟨o.kind, (o.ws.take o.ptrs).map (ref L), o.ws.drop o.ptrs⟩
  | none => ⟨0, [], []⟩
/-- All references of an address lead to what was found. -/
def Closed (os : List Ob) (L : List Nat) (a : Nat) : Prop := ∀ o, find os a = some o → ∀ x ∈ o.ws.take o.ptrs, OkRef L x

theorem nodeOf_append {os : List Ob} {l : List Nat} {a : Nat} (h : Closed os l a) (r : List Nat) : nodeOf os (l ++ r) a = nodeOf os l a := by
  unfold nodeOf
  cases hf : find os a with
  | none => rfl
  | some o =>
    simp only [Nd.mk.injEq, true_and, and_true]
    exact List.map_congr_left (fun x hx => ref_append (h o hf x hx) r)
theorem Closed.append {os : List Ob} {l : List Nat} {a : Nat} (h : Closed os l a) (r : List Nat) : Closed os (l ++ r) a := fun o ho x hx => (h o ho x hx).append r

theorem node_ref {os : List Ob} {l l' : List Nat} {a : Nat} {o : Ob} {nd : Nd} (hf : find os a = some o) (h : node os l o = some (l', nd)) : nd = nodeOf os l' a ∧ Closed os l' a ∧ (∃ r, l' = l ++ r) ∧ ∀ b ∈ l', b ∈ l ∨ (b : Int) + 1 ∈ o.ws.take o.ptrs := by
  unfold node at h
  split at h
  · cases h
  · rename_i l1 es hn
    cases h
    obtain ⟨h1, h2, h3, h4⟩ := numbers_ref hn
    refine ⟨?_, fun o' ho' => ?_, h3, h4⟩
    · unfold nodeOf
      rw [hf, h1]
    · rw [hf] at ho'
      cases ho'
      exact h2

/-- What is reached from some addresses. -/
inductive Reached (os : List Ob) (l0 : List Nat) : Nat → Prop
  | root {a : Nat} (h : a ∈ l0) : Reached os l0 a
  | edge {a b : Nat} {o : Ob} (h : Reached os l0 a) (ho : find os a = some o) (hb : (b : Int) + 1 ∈ o.ws.take o.ptrs) : Reached os l0 b

theorem nodes_ref {os : List Ob} {l0 : List Nat} : ∀ {f : Nat} {l l' : List Nat} {ns nds : List Nd}, nodes os f l ns = some (l', nds) → Seen os l → ns.length ≤ l.length → ns = (l.take ns.length).map (nodeOf os l) → (∀ a ∈ l.take ns.length, Closed os l a) → (∀ a ∈ l, Reached os l0 a) →
    Seen os l' ∧ (∃ r, l' = l ++ r) ∧ nds.length ≤ l'.length ∧ (top os + 1 ≤ f + ns.length → nds.length = l'.length) ∧ nds = (l'.take nds.length).map (nodeOf os l') ∧ (∀ a ∈ l'.take nds.length, Closed os l' a) ∧ ∀ a ∈ l', Reached os l0 a
  | 0, l, l', ns, nds, h, hs, hl, hns, hc, hr => by
    cases h
    refine ⟨hs, ⟨[], by simp⟩, hl, fun ht => ?_, hns, hc, hr⟩
    have := hs.len
    omega
  | f + 1, l, l', ns, nds, h, hs, hl, hns, hc, hr => by
    unfold nodes at h
    split at h
    · rename_i hlt
      have hg : l.getD ns.length 0 = l[ns.length] := by simp [hlt]
      rw [hg] at h
      split at h
      · cases h
      · rename_i o ho
        split at h
        · cases h
        · rename_i l1 n hn
          obtain ⟨h1, h2, ⟨r, rfl⟩, h4⟩ := node_ref ho hn
          have hs1 : Seen os (l ++ r) := by
            unfold node at hn
            split at hn
            · cases hn
            · rename_i l2 es hn2
              cases hn
              exact (numbers_found hs hn2).1
          have htk : (l ++ r).take (ns.length + 1) = l.take ns.length ++ [l[ns.length]] := by
            rw [List.take_append_of_le_length (by omega), List.take_succ_eq_append_getElem hlt]
          have key := nodes_ref (l0 := l0) h hs1 (by simp; omega) ?_ ?_ ?_
          · obtain ⟨k1, ⟨r', k2⟩, k3, k4, k5, k6, k7⟩ := key
            exact ⟨k1, ⟨r ++ r', by rw [k2, List.append_assoc]⟩, k3, fun ht => k4 (by simp; omega), k5, k6, k7⟩
          · rw [List.length_append, List.length_singleton, htk, List.map_append, List.map_singleton, ← h1]
            congr 1
            refine hns.trans ?_
            refine List.map_congr_left (fun a ha => (nodeOf_append (hc a ha) r).symm)
          · rw [List.length_append, List.length_singleton, htk]
            intro a ha
            rcases List.mem_append.1 ha with ha | ha
            · exact (hc a ha).append r
            · rw [List.mem_singleton] at ha
              subst ha
              exact h2
          · intro a ha
            rcases h4 a ha with ha | ha
            · exact hr a ha
            · exact .edge (hr _ (List.getElem_mem hlt)) ho ha
    · cases h
      refine ⟨hs, ⟨[], by simp⟩, hl, fun _ => ?_, hns, hc, hr⟩
      omega

/-- A form, told at once. -/
structure Formed (os : List Ob) (rs : List Int) (ks : List Int) (nds : List Nd) (L : List Nat) : Prop where
  seen : Seen os L
  roots : ks = rs.map (ref L)
  okr : ∀ x ∈ rs, OkRef L x
  nodes : nds = L.map (nodeOf os L)
  closed : ∀ a ∈ L, Closed os L a
  least : ∀ a ∈ L, ∃ l0 : List Nat, (∀ b : Nat, b ∈ l0 → ((b : Nat) : Int) + 1 ∈ rs) ∧ Reached os l0 a

theorem form_formed {os : List Ob} {rs ks : List Int} {nds : List Nd} (h : form os rs = some (ks, nds)) : ∃ L, Formed os rs ks nds L := by
  unfold form at h
  split at h
  · cases h
  · rename_i l ks' hn
    cases hnd : Obj.nodes os (top os + 1) l [] with
    | none => rw [hnd] at h; cases h
    | some p =>
      obtain ⟨L, nds'⟩ := p
      rw [hnd] at h
      cases h
      obtain ⟨h1, h2, _, h4⟩ := numbers_ref hn
      have hs := (numbers_found (Seen.nil os) hn).1
      obtain ⟨k1, ⟨r, rfl⟩, k3, k4, k5, k6, k7⟩ := nodes_ref (l0 := l) hnd hs (Nat.zero_le _) rfl (fun a ha => by simp at ha) (fun a ha => .root ha)
      have hlen := k4 (by simp)
      rw [hlen, List.take_length] at k5 k6
      refine ⟨l ++ r, k1, ?_, fun x hx => (h2 x hx).append r, k5, k6, fun a ha => ⟨l, fun b hb => ?_, k7 a ha⟩⟩
      · rw [h1]
        exact List.map_congr_left (fun x hx => (ref_append (h2 x hx) r).symm)
      · rcases h4 b hb with hb | hb
        · cases hb
        · exact hb
theorem Formed.len {os : List Ob} {rs ks : List Int} {nds : List Nd} {L : List Nat} (h : Formed os rs ks nds L) : nds.length = L.length := by rw [h.nodes, List.length_map]
/-- How long all is. -/
theorem form_size {os : List Ob} {rs ks : List Int} {nds : List Nd} (h : form os rs = some (ks, nds)) (hg : ∀ o ∈ os, o.good) (ht : top os ≤ 65536) (hr : rs.length ≤ 100000) :
    ks.length ≤ 300000000 ∧ nds.length ≤ 300000000 ∧ ∀ n ∈ nds, n.edges.length ≤ 300000000 ∧ n.words.length ≤ 300000000 := by
  obtain ⟨L, F⟩ := form_formed h
  refine ⟨by rw [F.roots, List.length_map]; omega, by rw [F.len]; have := F.seen.len; omega, fun n hn => ?_⟩
  rw [F.nodes] at hn
  obtain ⟨a, ha, rfl⟩ := List.mem_map.1 hn
  obtain ⟨o, ho, _⟩ := F.seen.2 a ha
  obtain ⟨_, h2, h3, _⟩ := hg o (find_mem ho)
  unfold nodeOf
  rw [ho]
  simp only [List.length_map, List.length_take, List.length_drop]
  simp only [Ob.len] at h2 h3
  omega
end Go.Proofs.Ytlphlaenecidiaa.Obj
