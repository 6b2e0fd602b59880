/- A form under a renaming of addresses; the form of a form's own heap: plain lists. -/
import Derived.Test.YtlphlaenecidiaaFormHeapP
import Derived.Test.YtlphlaenecidiaaForm2
namespace Go.Proofs.Ytlphlaenecidiaa.Obj
open Go.Proofs.Ytlphlaenecidiaa.Ref

/-- A reference that is renamed. -/
def ren (φ : Nat → Nat) (x : Int) : Int := if x = 0 then 0 else ((φ (x - 1).toNat : Nat) : Int) + 1
/-- It is none, or leads to one of these. -/
def GoodRef (D : Nat → Prop) (x : Int) : Prop := x = 0 ∨ ∃ b : Nat, D b ∧ x = (b : Int) + 1
theorem ren_zero (φ : Nat → Nat) : ren φ 0 = 0 := rfl
theorem ren_succ (φ : Nat → Nat) (b : Nat) : ren φ ((b : Int) + 1) = ((φ b : Nat) : Int) + 1 := by
  rw [ren, if_neg (by omega), show ((b : Int) + 1 - 1).toNat = b by omega]
/-- A renaming of objects. -/
structure Ren (os os' : List Ob) (D : Nat → Prop) (φ : Nat → Nat) : Prop where
  inj : ∀ a b, D a → D b → φ a = φ b → a = b
  at' : ∀ a, D a → ∃ o o', find os a = some o ∧ find os' (φ a) = some o' ∧ o.kind ≠ 15 ∧ o'.kind = o.kind ∧ o'.ptrs = o.ptrs ∧ o'.ws.drop o.ptrs = o.ws.drop o.ptrs ∧ o'.ws.take o.ptrs = (o.ws.take o.ptrs).map (ren φ) ∧ ∀ x ∈ o.ws.take o.ptrs, GoodRef D x

section
variable {os os' : List Ob} {D : Nat → Prop} {φ : Nat → Nat}
theorem place_ren (R : Ren os os' D φ) {a : Nat} (ha : D a) : ∀ {l : List Nat}, (∀ b ∈ l, D b) → place (l.map φ) (φ a) = place l a := by
  intro l
  induction l with
  | nil => intro _; rfl
  | cons b l ih =>
    intro h
    rw [List.map_cons, place, place, ih (fun c hc => h c (List.mem_cons_of_mem _ hc))]
    by_cases e : b = a
    · subst e; simp
    · rw [if_neg e, if_neg (fun e' => e (R.inj b a (h b List.mem_cons_self) ha e'))]
theorem number_ren (R : Ren os os' D φ) {l : List Nat} {x : Int} (hl : ∀ b ∈ l, D b) (hx : GoodRef D x) :
    number os' (l.map φ) (ren φ x) = (number os l x).map (fun p => (p.1.map φ, p.2)) ∧ ∀ p, number os l x = some p → ∀ b ∈ p.1, D b := by
  rcases hx with rfl | ⟨a, ha, rfl⟩
  · refine ⟨by rw [ren_zero]; simp [number], fun p hp b hb => ?_⟩
    simp [number] at hp
    subst hp
    exact hl b hb
  · obtain ⟨o, o', h1, h2, h3, h4, _⟩ := R.at' a ha
    have e1 : ((a : Int) + 1 - 1) = ((a : Nat) : Int) := by omega
    have e2 : (((φ a : Nat) : Int) + 1 - 1) = ((φ a : Nat) : Int) := by omega
    have n1 : ¬ (a : Int) + 1 = 0 := by omega
    have n2 : ¬ ((φ a : Nat) : Int) + 1 = 0 := by omega
    rw [ren_succ]
    unfold number
    rw [if_neg n1, if_neg n2, e1, e2, lookAt_nat, lookAt_nat, h1, h2]
    simp only [h4, if_neg h3, Int.toNat_natCast]
    rw [place_ren R ha hl]
    cases hp : place l a with
    | some i =>
      refine ⟨rfl, fun p hq b hb => ?_⟩
      cases hq
      exact hl b hb
    | none =>
      refine ⟨by simp, fun p hq b hb => ?_⟩
      cases hq
      rcases List.mem_append.1 hb with hb | hb
      · exact hl b hb
      · rw [List.mem_singleton] at hb; subst hb; exact ha
theorem numbers_ren (R : Ren os os' D φ) : ∀ (xs : List Int) {l : List Nat}, (∀ b ∈ l, D b) → (∀ x ∈ xs, GoodRef D x) →
    numbers os' (l.map φ) (xs.map (ren φ)) = (numbers os l xs).map (fun p => (p.1.map φ, p.2)) ∧ ∀ p, numbers os l xs = some p → ∀ b ∈ p.1, D b
  | [], l, hl, _ => ⟨rfl, fun p hp => by cases hp; exact hl⟩
  | x :: xs, l, hl, hx => by
    obtain ⟨h1, h2⟩ := number_ren R hl (hx x List.mem_cons_self)
    rw [List.map_cons, numbers, numbers, h1]
    cases hn : number os l x with
    | none => exact ⟨rfl, fun p hp => by cases hp⟩
    | some q =>
      obtain ⟨l', k⟩ := q
      obtain ⟨h3, h4⟩ := numbers_ren R xs (h2 _ hn) (fun y hy => hx y (List.mem_cons_of_mem _ hy))
      simp only [Option.map_some]
      rw [h3]
      cases hm : numbers os l' xs with
      | none => exact ⟨rfl, fun p hp => by cases hp⟩
      | some q =>
        obtain ⟨l2, ks⟩ := q
        exact ⟨rfl, fun p hp => by cases hp; exact h4 (l2, ks) hm⟩
theorem nodes_ren (R : Ren os os' D φ) : ∀ (f : Nat) {l : List Nat} {ns : List Nd}, (∀ b ∈ l, D b) → nodes os' f (l.map φ) ns = (nodes os f l ns).map (fun p => (p.1.map φ, p.2))
  | 0, l, ns, _ => rfl
  | f + 1, l, ns, hl => by
    rw [nodes, nodes, List.length_map]
    by_cases h : ns.length < l.length
    · rw [if_pos h, if_pos h]
      obtain ⟨a, ha⟩ : ∃ a, l[ns.length]? = some a := ⟨_, List.getElem?_eq_getElem h⟩
      have e1 : l.getD ns.length 0 = a := by rw [List.getD_eq_getElem?_getD, ha]; rfl
      have e2 : (l.map φ).getD ns.length 0 = φ a := by rw [List.getD_eq_getElem?_getD, List.getElem?_map, ha]; rfl
      obtain ⟨o, o', h1, h2, h3, h4, h5, h6, h7, h8⟩ := R.at' a (hl a (List.mem_of_getElem? ha))
      rw [e1, e2, h1, h2]
      simp only
      obtain ⟨g1, g2⟩ := numbers_ren R (o.ws.take o.ptrs) hl h8
      rw [node, node, h5, h7, g1, h6, h4]
      cases hn : numbers os l (o.ws.take o.ptrs) with
      | none => rfl
      | some q =>
        obtain ⟨l', es⟩ := q
        exact nodes_ren R f (g2 _ hn)
    · rw [if_neg h, if_neg h]
      rfl
end
theorem nodes_fuel {os : List Ob} : ∀ (f : Nat) {l l' : List Nat} {ns nds : List Nd}, nodes os f l ns = some (l', nds) → nds.length = l'.length → ns.length ≤ nds.length ∧ ∀ g, nds.length ≤ ns.length + g → nodes os g l ns = some (l', nds)
  | 0, l, l', ns, nds, h, hl => by
    cases h
    refine ⟨Nat.le_refl _, fun g _ => ?_⟩
    cases g with
    | zero => rfl
    | succ g => rw [nodes, if_neg (by omega)]
  | f + 1, l, l', ns, nds, h, hl => by
    rw [nodes] at h
    by_cases hlt : ns.length < l.length
    · rw [if_pos hlt] at h
      cases ho : find os (l.getD ns.length 0) with
      | none => rw [ho] at h; cases h
      | some o =>
        rw [ho] at h
        simp only at h
        cases hn : node os l o with
        | none => rw [hn] at h; cases h
        | some q =>
          obtain ⟨l2, n⟩ := q
          rw [hn] at h
          simp only at h
          obtain ⟨h1, h2⟩ := nodes_fuel f h hl
          rw [List.length_append, List.length_singleton] at h1 h2
          refine ⟨by omega, fun g hg => ?_⟩
          cases g with
          | zero => omega
          | succ g =>
            rw [nodes, if_pos hlt, ho]
            simp only
            rw [hn]
            exact h2 g (by omega)
    · rw [if_neg hlt] at h
      cases h
      refine ⟨Nat.le_refl _, fun g _ => ?_⟩
      cases g with
      | zero => rfl
      | succ g => rw [nodes, if_neg hlt]

theorem form_ren {os os' : List Ob} {D : Nat → Prop} {φ : Nat → Nat} (R : Ren os os' D φ) {rs ks : List Int} {nds : List Nd} (h : form os rs = some (ks, nds)) (hr : ∀ x ∈ rs, GoodRef D x) (ht : nds.length ≤ top os' + 1) :
    form os' (rs.map (ren φ)) = some (ks, nds) := by
  unfold form at h ⊢
  obtain ⟨h1, h2⟩ := numbers_ren R rs (l := []) (fun b hb => by cases hb) hr
  rw [List.map_nil] at h1
  rw [h1]
  cases hn : numbers os [] rs with
  | none => rw [hn] at h; cases h
  | some q =>
    obtain ⟨l, ks'⟩ := q
    rw [hn] at h
    simp only [Option.map_some] at h ⊢
    cases hnd : nodes os (top os + 1) l [] with
    | none => rw [hnd] at h; cases h
    | some p =>
      obtain ⟨L, nds'⟩ := p
      rw [hnd] at h
      cases h
      have hs := (numbers_found (Seen.nil os) hn).1
      obtain ⟨k1, _, k3, k4, _⟩ := nodes_ref (l0 := l) hnd hs (Nat.zero_le _) rfl (fun a ha => by simp at ha) (fun a ha => .root ha)
      have hlen := k4 (by simp)
      have h3 := nodes_ren R (top os + 1) (ns := []) (h2 _ hn)
      rw [hnd] at h3
      have h4 := (nodes_fuel _ h3 (by rw [List.length_map]; exact hlen)).2 (top os' + 1) (by simp; exact ht)
      rw [h4]
      rfl

theorem find_full {nds : List Nd} {i : Nat} {n : Nd} (h : nds[i]? = some n) : find (nds.map (full nds)) (nwords (nds.take i)) = some (full nds n) := by
  have hk := List.getElem?_eq_some_iff.1 h
  have e : nds.map (full nds) = (nds.take i).map (full nds) ++ full nds n :: (nds.drop (i + 1)).map (full nds) := by
    obtain ⟨g, hg⟩ : ∃ g, g = full nds := ⟨_, rfl⟩
    rw [← hg]
    conv => lhs; rw [← List.take_append_drop i nds, List.drop_eq_getElem_cons hk.1, hk.2]
    rw [List.map_append, List.map_cons]
  rw [e, ← filling_top, find_mid]
theorem nwords_lt {nds : List Nd} {i j : Nat} (h : i < j) (hj : j ≤ nds.length) : nwords (nds.take i) < nwords (nds.take j) := by
  obtain ⟨n, hn⟩ : ∃ n, nds[i]? = some n := ⟨_, List.getElem?_eq_getElem (by omega)⟩
  have h1 := nwords_take hn
  have h2 := nwords_take_le (nds.take j) (i + 1)
  rw [List.take_take, show min (i + 1) j = i + 1 by omega] at h2
  omega
theorem len_nwords : ∀ (l : List Nd), l.length ≤ nwords l
  | [] => Nat.le_refl _
  | n :: l => by have := len_nwords l; rw [nwords, List.length_cons]; omega
/-- The form of a form's own heap is that form. -/
theorem form_own {os : List Ob} {rs ks : List Int} {nds : List Nd} (h : form os rs = some (ks, nds)) (hg : ∀ o ∈ os, o.good) :
    form (nds.map (full nds)) (ks.map (fun k => refAt nds k.toNat)) = some (ks, nds) := by
  obtain ⟨L, F⟩ := form_formed h
  obtain ⟨φ, hφ⟩ : ∃ φ : Nat → Nat, ∀ a i, place L a = some i → φ a = nwords (nds.take i) := ⟨fun a => nwords (nds.take ((place L a).getD 0)), fun a i hi => by show nwords (nds.take ((place L a).getD 0)) = _; rw [hi]; rfl⟩
  have key : ∀ x, OkRef L x → refAt nds (ref L x).toNat = ren φ x := by
    rintro x (rfl | ⟨a, rfl, ha⟩)
    · simp [ref, refAt, ren]
    · obtain ⟨i, hi⟩ := place_of_mem ha
      rw [ref_at hi, ren_succ, hφ a i hi, refAt, if_neg (by omega)]
      simp
  have hgood : ∀ x, OkRef L x → GoodRef (fun a => a ∈ L) x := by
    rintro x (rfl | ⟨a, rfl, ha⟩)
    · exact .inl rfl
    · exact .inr ⟨a, ha, rfl⟩
  have hlen := F.len
  have R : Ren os (nds.map (full nds)) (fun a => a ∈ L) φ := by
    refine ⟨fun a b ha hb e => ?_, fun a ha => ?_⟩
    · obtain ⟨i, hi⟩ := place_of_mem ha
      obtain ⟨j, hj⟩ := place_of_mem hb
      rw [hφ a i hi, hφ b j hj] at e
      have h1 := place_lt hi
      have h2 := place_lt hj
      have hij : i = j := by
        rcases Nat.lt_trichotomy i j with hlt | he | hlt
        · have := nwords_lt (nds := nds) hlt (by omega); omega
        · exact he
        · have := nwords_lt (nds := nds) hlt (by omega); omega
      subst hij
      have := (place_some hi).symm.trans (place_some hj)
      exact Option.some.inj this
    · obtain ⟨i, hi⟩ := place_of_mem ha
      obtain ⟨o, ho, hk⟩ := F.seen.2 a ha
      have hL := place_some hi
      have hn : nds[i]? = some (nodeOf os L a) := by rw [F.nodes, List.getElem?_map, hL]; rfl
      have hno : nodeOf os L a = ⟨o.kind, (o.ws.take o.ptrs).map (ref L), o.ws.drop o.ptrs⟩ := by rw [nodeOf, ho]
      have hgo := hg o (find_mem ho)
      have hpl : (o.ws.take o.ptrs).length = o.ptrs := by rw [List.length_take]; have := hgo.2.1; simp only [Ob.len] at this; omega
      have hcl := F.closed a ha o ho
      have e1 : ((o.ws.take o.ptrs).map (ref L)).map (fun e => refAt nds e.toNat) = (o.ws.take o.ptrs).map (ren φ) := by
        rw [List.map_map]
        exact List.map_congr_left (fun x hx => key x (hcl x hx))
      refine ⟨o, full nds (nodeOf os L a), ho, by rw [hφ a i hi]; exact find_full hn, hk, by rw [hno]; rfl, by rw [hno]; simpa [full] using hpl, ?_, ?_, fun x hx => hgood x (hcl x hx)⟩
      · rw [hno]
        simp only [full, wordsOf, e1]
        rw [List.drop_append_of_le_length (by rw [List.length_map, hpl]; exact Nat.le_refl _), List.drop_of_length_le (by rw [List.length_map, hpl]; exact Nat.le_refl _), List.nil_append]
      · rw [hno]
        simp only [full, wordsOf, e1]
        rw [List.take_append_of_le_length (by rw [List.length_map, hpl]; exact Nat.le_refl _), List.take_of_length_le (by rw [List.length_map, hpl]; exact Nat.le_refl _)]
  have e : ks.map (fun k => refAt nds k.toNat) = rs.map (ren φ) := by
    rw [F.roots, List.map_map]
    exact List.map_congr_left (fun x hx => key x (F.okr x hx))
  rw [e]
  refine form_ren R h (fun x hx => hgood x (F.okr x hx)) ?_
  rw [top_map _ _ (fun n _ => full_len nds n)]
  have := len_nwords nds
  omega
end Go.Proofs.Ytlphlaenecidiaa.Obj
