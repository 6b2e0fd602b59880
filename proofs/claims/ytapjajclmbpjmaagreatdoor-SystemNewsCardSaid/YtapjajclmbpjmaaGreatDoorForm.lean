/- What is reached, without addresses: plain lists, no program here. -/
import Derived.Test.YtapjajclmbpjmaaGreatDoorObj
namespace Go.Proofs.YtapjajclmbpjmaaGreatDoor.Obj

/-- What begins at an address, which may be any number. -/
def lookAt (os : List Ob) (x : Int) : Option Ob := if x < 0 then none else find os x.toNat
theorem lookAt_nat (os : List Ob) (a : Nat) : lookAt os (a : Int) = find os a := by
  unfold lookAt
  rw [if_neg (by omega)]
  rfl
theorem lookAt_some {os : List Ob} {x : Int} {o : Ob} (h : lookAt os x = some o) : ∃ a : Nat, x = (a : Int) ∧ find os a = some o := by
  unfold lookAt at h
  split at h
  · cases h
  · exact ⟨x.toNat, by omega, h⟩

/-- The place of an address among some. -/
def place : List Nat → Nat → Option Nat
  | [], _ => none
  | b :: l, a => if b = a then some 0 else (place l a).map (· + 1)
theorem place_some {l : List Nat} : ∀ {a i : Nat}, place l a = some i → l[i]? = some a := by
  induction l with
  | nil => intro a i h; cases h
  | cons b l ih =>
    intro a i h
    unfold place at h
    split at h
    · rename_i e; subst e; cases h; rfl
    · cases hp : place l a with
      | none => rw [hp] at h; cases h
      | some j =>
        rw [hp] at h
        cases h
        rw [List.getElem?_cons_succ]
        exact ih hp
theorem place_none {l : List Nat} : ∀ {a : Nat}, place l a = none → a ∉ l := by
  induction l with
  | nil => intro a _ h; cases h
  | cons b l ih =>
    intro a h
    unfold place at h
    split at h
    · cases h
    · rename_i hne
      cases hp : place l a with
      | some j => rw [hp] at h; cases h
      | none =>
        intro hm
        rcases List.mem_cons.1 hm with e | hm
        · exact hne e.symm
        · exact ih hp hm
theorem place_mem {l : List Nat} {a i : Nat} (h : place l a = some i) : a ∈ l := List.mem_of_getElem? (place_some h)
theorem place_lt {l : List Nat} {a i : Nat} (h : place l a = some i) : i < l.length := (List.getElem?_eq_some_iff.1 (place_some h)).1
theorem place_at {l : List Nat} : ∀ {a i : Nat}, l.Nodup → l[i]? = some a → place l a = some i := by
  induction l with
  | nil => intro a i _ h; simp at h
  | cons b l ih =>
    intro a i hn h
    obtain ⟨h1, h2⟩ := List.nodup_cons.1 hn
    cases i with
    | zero =>
      simp at h
      subst h
      unfold place
      rw [if_pos rfl]
    | succ i =>
      rw [List.getElem?_cons_succ] at h
      unfold place
      have hne : b ≠ a := fun e => h1 (by rw [e]; exact List.mem_of_getElem? h)
      rw [if_neg hne, ih h2 h]
      rfl

/-- The number of what a reference leads to, and those that were found then; none: it leads to no object. -/
def number (os : List Ob) (l : List Nat) (x : Int) : Option (List Nat × Nat) :=
  if x = 0 then some (l, 0) else
    match lookAt os (x - 1) with
    | none => none
    | some o => if o.kind = 15 then none else
      match place l (x - 1).toNat with
      | some i => some (l, i + 1)
      | none => some (l ++ [(x - 1).toNat], l.length + 1)

/-- An object, without its address. -/
structure Nd where
  kind : Int
  edges : List Int
  words : List Int
deriving DecidableEq

/-- The numbers of some references, one behind the other. -/
def numbers (os : List Ob) : List Nat → List Int → Option (List Nat × List Int)
  | l, [] => some (l, [])
  | l, x :: xs => match number os l x with
    | none => none
    | some (l', k) => match numbers os l' xs with
      | none => none
      | some (l2, ks) => some (l2, (k : Int) :: ks)

/-- A node of an object. -/
def node (os : List Ob) (l : List Nat) (o : Ob) : Option (List Nat × Nd) :=
  match numbers os l (o.ws.take o.ptrs) with
  | none => none
  | some (l', es) => some (l', ⟨o.kind, es, o.ws.drop o.ptrs⟩)

/-- All nodes of what was found, and of what is found then. -/
def nodes (os : List Ob) : Nat → List Nat → List Nd → Option (List Nat × List Nd)
  | 0, l, ns => some (l, ns)
  | f + 1, l, ns => if ns.length < l.length then
      match find os (l.getD ns.length 0) with
      | none => none
      | some o => match node os l o with
        | none => none
        | some (l', n) => nodes os f l' (ns ++ [n])
    else some (l, ns)

/-- The form of objects and roots. -/
def form (os : List Ob) (rs : List Int) : Option (List Int × List Nd) :=
  match numbers os [] rs with
  | none => none
  | some (l, ks) => (nodes os (top os + 1) l []).map fun p => (ks, p.2)

/-! ### What is found -/
def Seen (os : List Ob) (l : List Nat) : Prop := l.Nodup ∧ ∀ a ∈ l, ∃ o, find os a = some o ∧ o.kind ≠ 15
theorem Seen.nil (os : List Ob) : Seen os [] := ⟨List.nodup_nil, fun a h => by cases h⟩

theorem number_found {os : List Ob} {l l' : List Nat} {x : Int} {k : Nat} (h : Seen os l) (hn : number os l x = some (l', k)) : Seen os l' ∧ k ≤ l'.length ∧ ∃ r, l' = l ++ r := by
  unfold number at hn
  split at hn
  · cases hn; exact ⟨h, Nat.zero_le _, [], by simp⟩
  · split at hn
    · cases hn
    · rename_i o ho
      obtain ⟨a, ha, hf⟩ := lookAt_some ho
      split at hn
      · cases hn
      · rename_i hk
        rw [ha, show ((a : Int)).toNat = a by omega] at hn
        split at hn
        · rename_i i hp
          cases hn
          exact ⟨h, place_lt hp, [], by simp⟩
        · rename_i hp
          cases hn
          refine ⟨⟨?_, ?_⟩, by simp, [a], rfl⟩
          · rw [List.nodup_append]
            refine ⟨h.1, by simp, ?_⟩
            intro b hb c hc e
            rw [List.mem_singleton] at hc
            subst hc
            subst e
            exact place_none hp hb
          · intro b hb
            rcases List.mem_append.1 hb with hb | hb
            · exact h.2 b hb
            · rw [List.mem_singleton] at hb
              subst hb
              exact ⟨o, hf, hk⟩
theorem numbers_found {os : List Ob} : ∀ {xs : List Int} {l l' : List Nat} {ks : List Int}, Seen os l → numbers os l xs = some (l', ks) → Seen os l' ∧ (∃ r, l' = l ++ r) ∧ ks.length = xs.length
  | [], l, l', ks, h, hn => by
    simp only [numbers, Option.some.injEq, Prod.mk.injEq] at hn
    obtain ⟨rfl, rfl⟩ := hn
    exact ⟨h, ⟨[], by simp⟩, rfl⟩
  | x :: xs, l, l', ks, h, hn => by
    unfold numbers at hn
    split at hn
    · cases hn
    · rename_i l1 k h1
      split at hn
      · cases hn
      · rename_i l2 ks2 h2
        cases hn
        obtain ⟨f1, _, r1, e1⟩ := number_found h h1
        obtain ⟨f2, ⟨r2, e2⟩, e3⟩ := numbers_found f1 h2
        exact ⟨f2, ⟨r1 ++ r2, by rw [e2, e1, List.append_assoc]⟩, by simp [e3]⟩

theorem place_snoc {l : List Nat} {a b : Nat} (h : place l a = none) : place (l ++ [a]) b = if b = a then some l.length else place l b := by
  induction l with
  | nil =>
    simp only [List.nil_append, place]
    by_cases e : b = a
    · subst e; simp
    · rw [if_neg (fun h => e h.symm), if_neg e]; rfl
  | cons c l ih =>
    unfold place at h
    split at h
    · cases h
    · rename_i hc
      have h' : place l a = none := by
        cases hp : place l a with
        | none => rfl
        | some i => rw [hp] at h; cases h
      rw [List.cons_append]
      conv => lhs; unfold place
      conv => rhs; unfold place
      rw [ih h']
      by_cases e : b = a
      · subst e
        rw [if_neg hc, if_pos rfl, if_pos rfl]
        rfl
      · rw [if_neg e, if_neg e]

theorem numbers_snoc (os : List Ob) : ∀ (xs : List Int) (l : List Nat) (x : Int), numbers os l (xs ++ [x]) = match numbers os l xs with
    | none => none
    | some (l1, ks) => match number os l1 x with
      | none => none
      | some (l2, k) => some (l2, ks ++ [(k : Int)])
  | [], l, x => by
    simp only [List.nil_append, numbers]
    all_goals (cases number os l x <;> rfl)
  | y :: ys, l, x => by
    rw [List.cons_append]
    simp only [numbers]
    cases h : number os l y with
    | none => rfl
    | some p =>
      obtain ⟨l1, k⟩ := p
      simp only
      rw [numbers_snoc os ys l1 x]
      cases numbers os l1 ys with
      | none => rfl
      | some q =>
        obtain ⟨l2, ks⟩ := q
        simp only
        cases number os l2 x with
        | none => rfl
        | some r => rfl
theorem numbers_stop (os : List Ob) : ∀ (xs ys : List Int) (l : List Nat), numbers os l xs = none → numbers os l (xs ++ ys) = none
  | [], ys, l, h => by simp [numbers] at h
  | x :: xs, ys, l, h => by
    rw [List.cons_append]
    unfold numbers at h ⊢
    cases hx : number os l x with
    | none => rfl
    | some p =>
      obtain ⟨l1, k⟩ := p
      rw [hx] at h
      simp only at h ⊢
      cases hr : numbers os l1 xs with
      | none => rw [numbers_stop os xs ys l1 hr]
      | some q => rw [hr] at h; cases h

/-- Numbers below a bound, none twice, are no more than it. -/
theorem nodup_le {n : Nat} : ∀ {l : List Nat}, l.Nodup → (∀ a ∈ l, a < n) → l.length ≤ n := by
  induction n with
  | zero =>
    intro l _ h
    cases l with
    | nil => exact Nat.le_refl _
    | cons a l => have := h a List.mem_cons_self; omega
  | succ n ih =>
    intro l hn h
    have h1 : (l.filter (· != n)).length ≤ n := by
      apply ih
      · exact hn.sublist List.filter_sublist
      · intro a ha
        obtain ⟨h1, h2⟩ := List.mem_filter.1 ha
        have h3 := h a h1
        have h4 : a ≠ n := by simpa using h2
        omega
    have h2 : l.length ≤ (l.filter (· != n)).length + 1 := by
      clear h1 ih h
      induction l with
      | nil => simp
      | cons a l ihl =>
        obtain ⟨g1, g2⟩ := List.nodup_cons.1 hn
        by_cases e : a = n
        · subst e
          have : (l.filter (· != a)) = l := by
            rw [List.filter_eq_self]
            intro b hb
            have : b ≠ a := fun e => g1 (e ▸ hb)
            simpa using this
          rw [List.filter_cons]
          simp [this]
        · have := ihl g2
          rw [List.filter_cons]
          simp [e]
          omega
    omega
theorem Seen.len {os : List Ob} {l : List Nat} (h : Seen os l) : l.length ≤ top os :=
  nodup_le h.1 (fun a ha => by obtain ⟨o, hf, _⟩ := h.2 a ha; have := find_lt hf; omega)
end Go.Proofs.YtapjajclmbpjmaaGreatDoor.Obj
