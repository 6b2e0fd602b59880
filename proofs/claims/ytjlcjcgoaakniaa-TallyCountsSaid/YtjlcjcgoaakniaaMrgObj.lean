/- Objects in a row: plain lists, no program here. -/
namespace Go.Proofs.Ytjlcjcgoaakniaa.Obj

/-- An object: its kind, how many of its words lead to others, its words. -/
structure Ob where
  kind : Nat
  ptrs : Nat
  ws : List Int
deriving DecidableEq

def Ob.len (o : Ob) : Nat := o.ws.length
/-- Its head's word. -/
def Ob.word (o : Ob) : Int := ((o.kind + 16 * (o.ptrs + 4096 * o.len) : Nat) : Int)
def Ob.good (o : Ob) : Prop := o.kind ≤ 15 ∧ o.ptrs ≤ o.len ∧ o.len ≤ 4095 ∧ (o.kind = 15 → o.ptrs = 0)

def flat : List Ob → List Int
  | [] => []
  | o :: os => o.word :: (o.ws ++ flat os)
def marks : List Ob → List Bool
  | [] => []
  | o :: os => true :: (List.replicate o.len false ++ marks os)
/-- The object that begins at an address. -/
def find : List Ob → Nat → Option Ob
  | [], _ => none
  | o :: os, a => if a = 0 then some o else if a < 1 + o.len then none else find os (a - (1 + o.len))
theorem find_cons (o : Ob) (os : List Ob) (a : Nat) : find (o :: os) a = if a = 0 then some o else if a < 1 + o.len then none else find os (a - (1 + o.len)) := rfl
/-- How many words are taken. -/
def top (os : List Ob) : Nat := (flat os).length

theorem top_nil : top [] = 0 := rfl
theorem top_cons (o : Ob) (os : List Ob) : top (o :: os) = 1 + o.len + top os := by
  simp only [top, flat, List.length_cons, List.length_append, Ob.len]; omega
theorem top_append (as bs : List Ob) : top (as ++ bs) = top as + top bs := by
  induction as with
  | nil => simp [top_nil]
  | cons a as ih => rw [List.cons_append, top_cons, top_cons, ih]; omega
theorem flat_append (as bs : List Ob) : flat (as ++ bs) = flat as ++ flat bs := by
  induction as with
  | nil => rfl
  | cons a as ih => simp [flat, ih]
theorem marks_append (as bs : List Ob) : marks (as ++ bs) = marks as ++ marks bs := by
  induction as with
  | nil => rfl
  | cons a as ih => simp [marks, ih]
theorem marks_length (os : List Ob) : (marks os).length = top os := by
  induction os with
  | nil => rfl
  | cons o os ih => rw [top_cons]; simp only [marks, List.length_cons, List.length_append, List.length_replicate, ih]; omega

theorem find_lt {os : List Ob} : ∀ {a : Nat} {o : Ob}, find os a = some o → a + 1 + o.len ≤ top os := by
  induction os with
  | nil => intro a o h; cases h
  | cons p os ih =>
    intro a o h
    rw [top_cons]
    unfold find at h
    split at h
    · cases h; omega
    · split at h
      · cases h
      · have := ih h; omega
theorem find_mem {os : List Ob} : ∀ {a : Nat} {o : Ob}, find os a = some o → o ∈ os := by
  induction os with
  | nil => intro a o h; cases h
  | cons p os ih =>
    intro a o h
    unfold find at h
    split at h
    · cases h; exact List.mem_cons_self
    · split at h
      · cases h
      · exact List.mem_cons_of_mem _ (ih h)
theorem flat_head {os : List Ob} : ∀ {a : Nat} {o : Ob}, find os a = some o → (flat os)[a]? = some o.word := by
  induction os with
  | nil => intro a o h; cases h
  | cons p os ih =>
    intro a o h
    unfold find at h
    split at h
    · rename_i e; subst e; cases h; rfl
    · split at h
      · cases h
      · rename_i h1 h2
        have := ih h
        simp only [Ob.len] at h2 this
        rw [flat, show a = (a - (1 + p.ws.length)) + p.ws.length + 1 by omega, List.getElem?_cons_succ, List.getElem?_append_right (by omega), Nat.add_sub_cancel]
        exact this
theorem flat_word {os : List Ob} : ∀ {a : Nat} {o : Ob} {i : Nat}, find os a = some o → i < o.len → (flat os)[a + 1 + i]? = o.ws[i]? := by
  induction os with
  | nil => intro a o i h; cases h
  | cons p os ih =>
    intro a o i h hi
    unfold find at h
    split at h
    · rename_i e; subst e; cases h
      simp only [Ob.len] at hi
      rw [flat, show 0 + 1 + i = i + 1 by omega, List.getElem?_cons_succ, List.getElem?_append_left hi]
    · split at h
      · cases h
      · rename_i h1 h2
        have := ih h hi
        simp only [Ob.len] at h2 this
        rw [flat, show a + 1 + i = (a - (1 + p.ws.length) + 1 + i) + p.ws.length + 1 by omega, List.getElem?_cons_succ, List.getElem?_append_right (by omega), Nat.add_sub_cancel]
        exact this
theorem marks_at {os : List Ob} : ∀ {a : Nat}, a < top os → (marks os)[a]? = some (find os a).isSome := by
  induction os with
  | nil => intro a h; rw [top_nil] at h; omega
  | cons p os ih =>
    intro a h
    rw [top_cons] at h
    unfold find
    by_cases h0 : a = 0
    · rw [if_pos h0, h0]; rfl
    · rw [if_neg h0]
      obtain ⟨b, rfl⟩ : ∃ b, a = b + 1 := ⟨a - 1, by omega⟩
      rw [marks, List.getElem?_cons_succ]
      by_cases h1 : b + 1 < 1 + p.len
      · rw [if_pos h1, List.getElem?_append_left (by simp; omega), List.getElem?_replicate, if_pos (by omega)]
        rfl
      · rw [if_neg h1, List.getElem?_append_right (by simp; omega), List.length_replicate, show b - p.len = b + 1 - (1 + p.len) by omega]
        exact ih (by omega)
theorem find_none {os : List Ob} {a : Nat} (h : top os ≤ a) : find os a = none := by
  cases e : find os a with
  | none => rfl
  | some o => have := find_lt e; omega

theorem find_append_left {as bs : List Ob} : ∀ {a : Nat}, a < top as → find (as ++ bs) a = find as a := by
  induction as with
  | nil => intro a h; rw [top_nil] at h; omega
  | cons p as ih =>
    intro a h
    rw [top_cons] at h
    rw [List.cons_append]
    unfold find
    by_cases h0 : a = 0
    · rw [if_pos h0, if_pos h0]
    · rw [if_neg h0, if_neg h0]
      by_cases h1 : a < 1 + p.len
      · rw [if_pos h1, if_pos h1]
      · rw [if_neg h1, if_neg h1]
        exact ih (by omega)
theorem find_append_right {as bs : List Ob} : ∀ {a : Nat}, top as ≤ a → find (as ++ bs) a = find bs (a - top as) := by
  induction as with
  | nil => intro a _; rw [top_nil]; rfl
  | cons p as ih =>
    intro a h
    rw [top_cons] at h
    rw [List.cons_append]
    conv => lhs; unfold find
    rw [if_neg (by omega), if_neg (by omega), ih (by omega), top_cons]
    congr 1
    omega
theorem find_last (as : List Ob) (o : Ob) : find (as ++ [o]) (top as) = some o := by
  rw [find_append_right (Nat.le_refl _), Nat.sub_self]
  rfl

/-- An object's word is another one. -/
def setWord : List Ob → Nat → Nat → Int → List Ob
  | [], _, _, _ => []
  | o :: os, a, f, x => if a = 0 then { o with ws := o.ws.set f x } :: os else o :: (if a < 1 + o.len then os else setWord os (a - (1 + o.len)) f x)

theorem setWord_top (os : List Ob) : ∀ (a f : Nat) (x : Int), top (setWord os a f x) = top os := by
  induction os with
  | nil => intros; rfl
  | cons p os ih =>
    intro a f x
    unfold setWord
    split
    · rw [top_cons, top_cons]; simp [Ob.len]
    · rw [top_cons, top_cons]
      split
      · rfl
      · rw [ih]
theorem setWord_marks (os : List Ob) : ∀ (a f : Nat) (x : Int), marks (setWord os a f x) = marks os := by
  induction os with
  | nil => intros; rfl
  | cons p os ih =>
    intro a f x
    unfold setWord
    split
    · simp [marks, Ob.len]
    · split
      · rfl
      · simp [marks, ih]
theorem setWord_flat (os : List Ob) : ∀ (a f : Nat) (x : Int) (o : Ob), find os a = some o → f < o.len → flat (setWord os a f x) = (flat os).set (a + 1 + f) x := by
  induction os with
  | nil => intro a f x o h; cases h
  | cons p os ih =>
    intro a f x o h hf
    unfold find at h
    unfold setWord
    split at h
    · rename_i e; subst e; cases h
      simp only [Ob.len] at hf
      rw [if_pos rfl, flat, flat, show 0 + 1 + f = f + 1 by omega, List.set_cons_succ, List.set_append_left _ _ hf]
      simp [Ob.word, Ob.len]
    · split at h
      · cases h
      · rename_i h1 h2
        rw [if_neg h1, if_neg h2, flat, flat, ih _ f x o h hf]
        simp only [Ob.len] at h2 ⊢
        rw [show a + 1 + f = (a - (1 + p.ws.length) + 1 + f + p.ws.length) + 1 by omega, List.set_cons_succ, List.set_append_right _ _ (by omega), Nat.add_sub_cancel]
theorem setWord_find (os : List Ob) : ∀ (a f : Nat) (x : Int) (o : Ob) (b : Nat), find os a = some o → find (setWord os a f x) b = if b = a then some { o with ws := o.ws.set f x } else find os b := by
  induction os with
  | nil => intro a f x o b h; cases h
  | cons p os ih =>
    intro a f x o b h
    unfold find at h
    unfold setWord
    split at h
    · rename_i e; subst e; cases h
      rw [if_pos rfl, find_cons, find_cons]
      by_cases hb : b = 0
      · rw [if_pos hb, if_pos hb]
      · rw [if_neg hb, if_neg hb, if_neg hb]
        have e : Ob.len { p with ws := p.ws.set f x } = p.len := by simp [Ob.len]
        rw [e]
    · split at h
      · cases h
      · rename_i h1 h2
        rw [if_neg h1, if_neg h2]
        unfold find
        by_cases hb : b = 0
        · rw [if_pos hb, if_neg (by omega), if_pos hb]
        · rw [if_neg hb, if_neg hb]
          by_cases hb2 : b < 1 + p.len
          · rw [if_pos hb2, if_pos hb2, if_neg (by omega)]
          · rw [if_neg hb2, if_neg hb2, ih _ f x o _ h]
            by_cases e : b = a
            · rw [if_pos e, if_pos (by omega)]
            · rw [if_neg e, if_neg (by omega)]
theorem setWord_good {os : List Ob} (h : ∀ o ∈ os, o.good) : ∀ (a f : Nat) (x : Int), ∀ o ∈ setWord os a f x, o.good := by
  induction os with
  | nil => intro a f x o ho; cases ho
  | cons p os ih =>
    intro a f x o ho
    unfold setWord at ho
    split at ho
    · rcases List.mem_cons.1 ho with rfl | ho
      · have := h p List.mem_cons_self
        simpa [Ob.good, Ob.len] using this
      · exact h o (List.mem_cons_of_mem _ ho)
    · rcases List.mem_cons.1 ho with rfl | ho
      · exact h _ List.mem_cons_self
      · split at ho
        · exact h o (List.mem_cons_of_mem _ ho)
        · exact ih (fun o ho => h o (List.mem_cons_of_mem _ ho)) _ f x o ho

/-- What a head's word bears. -/
theorem word_parts {o : Ob} (h : o.good) : 0 ≤ o.word ∧ o.word % 16 = o.kind ∧ o.word / 16 % 4096 = o.ptrs ∧ o.word / 16 / 4096 = o.len ∧ o.word < 268435456 := by
  obtain ⟨h1, h2, h3, _⟩ := h
  unfold Ob.word
  omega

/-- Is a word none, or does it lead to an object? -/
def leads (os : List Ob) (x : Int) : Bool := decide (x = 0) || (decide (0 < x) && match find os (x - 1).toNat with | some o => decide (o.kind ≠ 15) | none => false)

end Go.Proofs.Ytjlcjcgoaakniaa.Obj

/- What is reached, without addresses: plain lists, no program here. -/

namespace Go.Proofs.Ytjlcjcgoaakniaa.Obj

/-- What begins at an address, which may be any number. -/
def lookAt (os : List Ob) (x : Int) : Option Ob := if x < 0 then none else find os x.toNat
theorem lookAt_nat (os : List Ob) (a : Nat) : lookAt os (a : Int) = find os a := by
  unfold lookAt
  rw [if_neg (by omega)]
  rfl
theorem lookAt_some {os : List Ob} {x : Int} {o : Ob} (h : lookAt os x = some o) : ∃ a : Nat, x = (a : Int) ∧ find os a = some o := by
  unfold lookAt at h
  split at h
  · cases h
  · exact ⟨x.toNat, by omega, h⟩

/-- The place of an address among some. -/
def place : List Nat → Nat → Option Nat
  | [], _ => none
  | b :: l, a => if b = a then some 0 else (place l a).map (· + 1)
theorem place_some {l : List Nat} : ∀ {a i : Nat}, place l a = some i → l[i]? = some a := by
  induction l with
  | nil => intro a i h; cases h
  | cons b l ih =>
    intro a i h
    unfold place at h
    split at h
    · rename_i e; subst e; cases h; rfl
    · cases hp : place l a with
      | none => rw [hp] at h; cases h
      | some j =>
        rw [hp] at h
        cases h
        rw [List.getElem?_cons_succ]
        exact ih hp
theorem place_none {l : List Nat} : ∀ {a : Nat}, place l a = none → a ∉ l := by
  induction l with
  | nil => intro a _ h; cases h
  | cons b l ih =>
    intro a h
    unfold place at h
    split at h
    · cases h
    · rename_i hne
      cases hp : place l a with
      | some j => rw [hp] at h; cases h
      | none =>
        intro hm
        rcases List.mem_cons.1 hm with e | hm
        · exact hne e.symm
        · exact ih hp hm
theorem place_mem {l : List Nat} {a i : Nat} (h : place l a = some i) : a ∈ l := List.mem_of_getElem? (place_some h)
theorem place_lt {l : List Nat} {a i : Nat} (h : place l a = some i) : i < l.length := (List.getElem?_eq_some_iff.1 (place_some h)).1
theorem place_at {l : List Nat} : ∀ {a i : Nat}, l.Nodup → l[i]? = some a → place l a = some i := by
  induction l with
  | nil => intro a i _ h; simp at h
  | cons b l ih =>
    intro a i hn h
    obtain ⟨h1, h2⟩ := List.nodup_cons.1 hn
    cases i with
    | zero =>
      simp at h
      subst h
      unfold place
      rw [if_pos rfl]
    | succ i =>
      rw [List.getElem?_cons_succ] at h
      unfold place
      have hne : b ≠ a := fun e => h1 (by rw [e]; exact List.mem_of_getElem? h)
      rw [if_neg hne, ih h2 h]
      rfl

/-- The number of what a reference leads to, and those that were found then; none: it leads to no object. -/
def number (os : List Ob) (l : List Nat) (x : Int) : Option (List Nat × Nat) :=
  if x = 0 then some (l, 0) else
    match lookAt os (x - 1) with
    | none => none
    | some o => if o.kind = 15 then none else
      match place l (x - 1).toNat with
      | some i => some (l, i + 1)
      | none => some (l ++ [(x - 1).toNat], l.length + 1)

/-- An object, without its address. -/
structure Nd where
  kind : Int
  edges : List Int
  words : List Int
deriving DecidableEq

/-- The numbers of some references, one behind the other. -/
def numbers (os : List Ob) : List Nat → List Int → Option (List Nat × List Int)
  | l, [] => some (l, [])
  | l, x :: xs => match number os l x with
    | none => none
    | some (l', k) => match numbers os l' xs with
      | none => none
      | some (l2, ks) => some (l2, (k : Int) :: ks)

/-- A node of an object. -/
def node (os : List Ob) (l : List Nat) (o : Ob) : Option (List Nat × Nd) :=
  match numbers os l (o.ws.take o.ptrs) with
  | none => none
  | some (l', es) => some (l', ⟨o.kind, es, o.ws.drop o.ptrs⟩)

/-- All nodes of what was found, and of what is found then. -/
def nodes (os : List Ob) : Nat → List Nat → List Nd → Option (List Nat × List Nd)
  | 0, l, ns => some (l, ns)
  | f + 1, l, ns => if ns.length < l.length then
      match find os (l.getD ns.length 0) with
      | none => none
      | some o => match node os l o with
        | none => none
        | some (l', n) => nodes os f l' (ns ++ [n])
    else some (l, ns)

/-- The form of objects and roots. -/
def form (os : List Ob) (rs : List Int) : Option (List Int × List Nd) :=
  match numbers os [] rs with
  | none => none
  | some (l, ks) => (nodes os (top os + 1) l []).map fun p => (ks, p.2)

/-! ### What is found -/
def Seen (os : List Ob) (l : List Nat) : Prop := l.Nodup ∧ ∀ a ∈ l, ∃ o, find os a = some o ∧ o.kind ≠ 15
theorem Seen.nil (os : List Ob) : Seen os [] := ⟨List.nodup_nil, fun a h => by cases h⟩

theorem number_found {os : List Ob} {l l' : List Nat} {x : Int} {k : Nat} (h : Seen os l) (hn : number os l x = some (l', k)) : Seen os l' ∧ k ≤ l'.length ∧ ∃ r, l' = l ++ r := by
  unfold number at hn
  split at hn
  · cases hn; exact ⟨h, Nat.zero_le _, [], by simp⟩
  · split at hn
    · cases hn
    · rename_i o ho
      obtain ⟨a, ha, hf⟩ := lookAt_some ho
      split at hn
      · cases hn
      · rename_i hk
        rw [ha, show ((a : Int)).toNat = a by omega] at hn
        split at hn
        · rename_i i hp
          cases hn
          exact ⟨h, place_lt hp, [], by simp⟩
        · rename_i hp
          cases hn
          refine ⟨⟨?_, ?_⟩, by simp, [a], rfl⟩
          · rw [List.nodup_append]
            refine ⟨h.1, by simp, ?_⟩
            intro b hb c hc e
            rw [List.mem_singleton] at hc
            subst hc
            subst e
            exact place_none hp hb
          · intro b hb
            rcases List.mem_append.1 hb with hb | hb
            · exact h.2 b hb
            · rw [List.mem_singleton] at hb
              subst hb
              exact ⟨o, hf, hk⟩
theorem numbers_found {os : List Ob} : ∀ {xs : List Int} {l l' : List Nat} {ks : List Int}, Seen os l → numbers os l xs = some (l', ks) → Seen os l' ∧ (∃ r, l' = l ++ r) ∧ ks.length = xs.length
  | [], l, l', ks, h, hn => by
    simp only [numbers, Option.some.injEq, Prod.mk.injEq] at hn
    obtain ⟨rfl, rfl⟩ := hn
    exact ⟨h, ⟨[], by simp⟩, rfl⟩
  | x :: xs, l, l', ks, h, hn => by
    unfold numbers at hn
    split at hn
    · cases hn
    · rename_i l1 k h1
      split at hn
      · cases hn
      · rename_i l2 ks2 h2
        cases hn
        obtain ⟨f1, _, r1, e1⟩ := number_found h h1
        obtain ⟨f2, ⟨r2, e2⟩, e3⟩ := numbers_found f1 h2
        exact ⟨f2, ⟨r1 ++ r2, by rw [e2, e1, List.append_assoc]⟩, by simp [e3]⟩

theorem place_snoc {l : List Nat} {a b : Nat} (h : place l a = none) : place (l ++ [a]) b = if b = a then some l.length else place l b := by
  induction l with
  | nil =>
    simp only [List.nil_append, place]
    by_cases e : b = a
    · subst e; simp
    · rw [if_neg (fun h => e h.symm), if_neg e]; rfl
  | cons c l ih =>
    unfold place at h
    split at h
    · cases h
    · rename_i hc
      have h' : place l a = none := by
        cases hp : place l a with
        | none => rfl
        | some i => rw [hp] at h; cases h
      rw [List.cons_append]
      conv => lhs; unfold place
      conv => rhs; unfold place
      rw [ih h']
      by_cases e : b = a
      · subst e
        rw [if_neg hc, if_pos rfl, if_pos rfl]
        rfl
      · rw [if_neg e, if_neg e]

theorem numbers_snoc (os : List Ob) : ∀ (xs : List Int) (l : List Nat) (x : Int), numbers os l (xs ++ [x]) = match numbers os l xs with
    | none => none
    | some (l1, ks) => match number os l1 x with
      | none => none
      | some (l2, k) => some (l2, ks ++ [(k : Int)])
  | [], l, x => by
    simp only [List.nil_append, numbers]
    all_goals (cases number os l x <;> rfl)
  | y :: ys, l, x => by
    rw [List.cons_append]
    simp only [numbers]
    cases h : number os l y with
    | none => rfl
    | some p =>
      obtain ⟨l1, k⟩ := p
      simp only
      rw [numbers_snoc os ys l1 x]
      cases numbers os l1 ys with
      | none => rfl
      | some q =>
        obtain ⟨l2, ks⟩ := q
        simp only
        cases number os l2 x with
        | none => rfl
        | some r => rfl
theorem numbers_stop (os : List Ob) : ∀ (xs ys : List Int) (l : List Nat), numbers os l xs = none → numbers os l (xs ++ ys) = none
  | [], ys, l, h => by simp [numbers] at h
  | x :: xs, ys, l, h => by
    rw [List.cons_append]
    unfold numbers at h ⊢
    cases hx : number os l x with
    | none => rfl
    | some p =>
      obtain ⟨l1, k⟩ := p
      rw [hx] at h
      simp only at h ⊢
      cases hr : numbers os l1 xs with
      | none => rw [numbers_stop os xs ys l1 hr]
      | some q => rw [hr] at h; cases h

/-- Numbers below a bound, none twice, are no more than it. -/
theorem nodup_le {n : Nat} : ∀ {l : List Nat}, l.Nodup → (∀ a ∈ l, a < n) → l.length ≤ n := by
  induction n with
  | zero =>
    intro l _ h
    cases l with
    | nil => exact Nat.le_refl _
    | cons a l => have := h a List.mem_cons_self; omega
  | succ n ih =>
    intro l hn h
    have h1 : (l.filter (· != n)).length ≤ n := by
      apply ih
      · exact hn.sublist List.filter_sublist
      · intro a ha
        obtain ⟨h1, h2⟩ := List.mem_filter.1 ha
        have h3 := h a h1
        have h4 : a ≠ n := by simpa using h2
        omega
    have h2 : l.length ≤ (l.filter (· != n)).length + 1 := by
      clear h1 ih h
      induction l with
      | nil => simp
      | cons a l ihl =>
        obtain ⟨g1, g2⟩ := List.nodup_cons.1 hn
        by_cases e : a = n
        · subst e
          have : (l.filter (· != a)) = l := by
            rw [List.filter_eq_self]
            intro b hb
            have : b ≠ a := fun e => g1 (e ▸ hb)
            simpa using this
          rw [List.filter_cons]
          simp [this]
        · have := ihl g2
          rw [List.filter_cons]
          simp [e]
          omega
    omega
theorem Seen.len {os : List Ob} {l : List Nat} (h : Seen os l) : l.length ≤ top os :=
  nodup_le h.1 (fun a ha => by obtain ⟨o, hf, _⟩ := h.2 a ha; have := find_lt hf; omega)
end Go.Proofs.Ytjlcjcgoaakniaa.Obj

/- The form of objects and roots, told at once: which addresses were found, and what each node is. Plain lists, no program here. -/

namespace Go.Proofs.Ytjlcjcgoaakniaa.Obj

/-- What a reference reads as, when all that is found is known. -/
def ref (L : List Nat) (x : Int) : Int := if x = 0 then 0 else match place L (x - 1).toNat with | some i => ((i + 1 : Nat) : Int) | none => 0
/-- A reference that is none, or leads to what was found. -/
def OkRef (L : List Nat) (x : Int) : Prop := x = 0 ∨ ∃ a : Nat, x = (a : Int) + 1 ∧ a ∈ L

theorem place_append {l : List Nat} (r : List Nat) {a i : Nat} (h : place l a = some i) : place (l ++ r) a = some i := by
  induction l generalizing i with
  | nil => cases h
  | cons b l ih =>
    rw [List.cons_append]
    unfold place at h ⊢
    split
    · rename_i e; rw [if_pos e] at h; exact h
    · rename_i e
      rw [if_neg e] at h
      cases hp : place l a with
      | none => rw [hp] at h; cases h
      | some j => rw [hp] at h; rw [ih hp]; exact h
theorem place_of_mem {l : List Nat} {a : Nat} (h : a ∈ l) : ∃ i, place l a = some i := by
  cases hp : place l a with
  | some i => exact ⟨i, rfl⟩
  | none => exact absurd h (place_none hp)
theorem ref_append {l : List Nat} {x : Int} (h : OkRef l x) (r : List Nat) : ref (l ++ r) x = ref l x := by
  rcases h with rfl | ⟨a, rfl, ha⟩
  · rfl
  · obtain ⟨i, hi⟩ := place_of_mem ha
    unfold ref
    rw [show ((a : Int) + 1 - 1).toNat = a by omega, hi, place_append r hi]
theorem OkRef.append {l : List Nat} {x : Int} (h : OkRef l x) (r : List Nat) : OkRef (l ++ r) x := by
  rcases h with h | ⟨a, h, ha⟩
  · exact .inl h
  · exact .inr ⟨a, h, List.mem_append_left _ ha⟩
theorem ref_at {l : List Nat} {a i : Nat} (h : place l a = some i) : ref l ((a : Int) + 1) = ((i + 1 : Nat) : Int) := by
  unfold ref
  rw [if_neg (by omega), show ((a : Int) + 1 - 1).toNat = a by omega, h]

theorem number_ref {os : List Ob} {l l' : List Nat} {x : Int} {k : Nat} (h : number os l x = some (l', k)) : (k : Int) = ref l' x ∧ OkRef l' x ∧ (∃ r, l' = l ++ r) ∧ ∀ a ∈ l', a ∈ l ∨ (a : Int) + 1 = x := by
  unfold number at h
  split at h
  · rename_i h0
    subst h0
    cases h
    exact ⟨rfl, .inl rfl, ⟨[], by simp⟩, fun a ha => .inl ha⟩
  · split at h
    · cases h
    · rename_i h0 o ho
      obtain ⟨a, ha, hf⟩ := lookAt_some ho
      obtain rfl : x = (a : Int) + 1 := by omega
      rw [show ((a : Int) + 1 - 1).toNat = a by omega] at h
      split at h
      · cases h
      · split at h
        · rename_i i hp
          cases h
          exact ⟨(ref_at hp).symm, .inr ⟨a, rfl, place_mem hp⟩, ⟨[], by simp⟩, fun b hb => .inl hb⟩
        · rename_i hp
          cases h
          have hl : place (l ++ [a]) a = some l.length := by rw [place_snoc hp, if_pos rfl]
          refine ⟨(ref_at hl).symm, .inr ⟨a, rfl, place_mem hl⟩, ⟨[a], rfl⟩, fun b hb => ?_⟩
          rcases List.mem_append.1 hb with hb | hb
          · exact .inl hb
          · rw [List.mem_singleton] at hb; subst hb; exact .inr rfl

theorem numbers_ref {os : List Ob} : ∀ {xs : List Int} {l l' : List Nat} {ks : List Int}, numbers os l xs = some (l', ks) → ks = xs.map (ref l') ∧ (∀ x ∈ xs, OkRef l' x) ∧ (∃ r, l' = l ++ r) ∧ ∀ a ∈ l', a ∈ l ∨ (a : Int) + 1 ∈ xs
  | [], l, l', ks, h => by
    cases h
    exact ⟨rfl, (fun x hx => by cases hx), ⟨[], by simp⟩, fun a ha => .inl ha⟩
  | x :: xs, l, l', ks, h => by
    unfold numbers at h
    split at h
    · cases h
    · rename_i l1 k hn
      split at h
      · cases h
      · rename_i l2 ks2 hns
        cases h
        obtain ⟨h1, h2, ⟨r, rfl⟩, h4⟩ := number_ref hn
        obtain ⟨g1, g2, ⟨r', rfl⟩, g4⟩ := numbers_ref hns
        refine ⟨by rw [List.map_cons, ref_append h2, ← h1, g1], fun y hy => ?_, ⟨r ++ r', by simp⟩, fun a ha => ?_⟩
        · rcases List.mem_cons.1 hy with rfl | hy
          · exact h2.append _
          · exact g2 y hy
        · rcases g4 a ha with ha | ha
          · rcases h4 a ha with ha | ha
            · exact .inl ha
            · exact .inr (by rw [ha]; exact List.mem_cons_self)
          · exact .inr (List.mem_cons_of_mem _ ha)

/-- The node of an address, when all that is found is known. -/
def nodeOf (os : List Ob) (L : List Nat) (a : Nat) : Nd := match find os a with
  | some o => ⟨o.kind, (o.ws.take o.ptrs).map (ref L), o.ws.drop o.ptrs⟩
  | none => ⟨0, [], []⟩
/-- All references of an address lead to what was found. -/
def Closed (os : List Ob) (L : List Nat) (a : Nat) : Prop := ∀ o, find os a = some o → ∀ x ∈ o.ws.take o.ptrs, OkRef L x

theorem nodeOf_append {os : List Ob} {l : List Nat} {a : Nat} (h : Closed os l a) (r : List Nat) : nodeOf os (l ++ r) a = nodeOf os l a := by
  unfold nodeOf
  cases hf : find os a with
  | none => rfl
  | some o =>
    simp only [Nd.mk.injEq, true_and, and_true]
    exact List.map_congr_left (fun x hx => ref_append (h o hf x hx) r)
theorem Closed.append {os : List Ob} {l : List Nat} {a : Nat} (h : Closed os l a) (r : List Nat) : Closed os (l ++ r) a := fun o ho x hx => (h o ho x hx).append r

theorem node_ref {os : List Ob} {l l' : List Nat} {a : Nat} {o : Ob} {nd : Nd} (hf : find os a = some o) (h : node os l o = some (l', nd)) : nd = nodeOf os l' a ∧ Closed os l' a ∧ (∃ r, l' = l ++ r) ∧ ∀ b ∈ l', b ∈ l ∨ (b : Int) + 1 ∈ o.ws.take o.ptrs := by
  unfold node at h
  split at h
  · cases h
  · rename_i l1 es hn
    cases h
    obtain ⟨h1, h2, h3, h4⟩ := numbers_ref hn
    refine ⟨?_, fun o' ho' => ?_, h3, h4⟩
    · unfold nodeOf
      rw [hf, h1]
    · rw [hf] at ho'
      cases ho'
      exact h2

/-- What is reached from some addresses. -/
inductive Reached (os : List Ob) (l0 : List Nat) : Nat → Prop
  | root {a : Nat} (h : a ∈ l0) : Reached os l0 a
  | edge {a b : Nat} {o : Ob} (h : Reached os l0 a) (ho : find os a = some o) (hb : (b : Int) + 1 ∈ o.ws.take o.ptrs) : Reached os l0 b

theorem nodes_ref {os : List Ob} {l0 : List Nat} : ∀ {f : Nat} {l l' : List Nat} {ns nds : List Nd}, nodes os f l ns = some (l', nds) → Seen os l → ns.length ≤ l.length → ns = (l.take ns.length).map (nodeOf os l) → (∀ a ∈ l.take ns.length, Closed os l a) → (∀ a ∈ l, Reached os l0 a) →
    Seen os l' ∧ (∃ r, l' = l ++ r) ∧ nds.length ≤ l'.length ∧ (top os + 1 ≤ f + ns.length → nds.length = l'.length) ∧ nds = (l'.take nds.length).map (nodeOf os l') ∧ (∀ a ∈ l'.take nds.length, Closed os l' a) ∧ ∀ a ∈ l', Reached os l0 a
  | 0, l, l', ns, nds, h, hs, hl, hns, hc, hr => by
    cases h
    refine ⟨hs, ⟨[], by simp⟩, hl, fun ht => ?_, hns, hc, hr⟩
    have := hs.len
    omega
  | f + 1, l, l', ns, nds, h, hs, hl, hns, hc, hr => by
    unfold nodes at h
    split at h
    · rename_i hlt
      have hg : l.getD ns.length 0 = l[ns.length] := by simp [hlt]
      rw [hg] at h
      split at h
      · cases h
      · rename_i o ho
        split at h
        · cases h
        · rename_i l1 n hn
          obtain ⟨h1, h2, ⟨r, rfl⟩, h4⟩ := node_ref ho hn
          have hs1 : Seen os (l ++ r) := by
            unfold node at hn
            split at hn
            · cases hn
            · rename_i l2 es hn2
              cases hn
              exact (numbers_found hs hn2).1
          have htk : (l ++ r).take (ns.length + 1) = l.take ns.length ++ [l[ns.length]] := by
            rw [List.take_append_of_le_length (by omega), List.take_succ_eq_append_getElem hlt]
          have key := nodes_ref (l0 := l0) h hs1 (by simp; omega) ?_ ?_ ?_
          · obtain ⟨k1, ⟨r', k2⟩, k3, k4, k5, k6, k7⟩ := key
            exact ⟨k1, ⟨r ++ r', by rw [k2, List.append_assoc]⟩, k3, fun ht => k4 (by simp; omega), k5, k6, k7⟩
          · rw [List.length_append, List.length_singleton, htk, List.map_append, List.map_singleton, ← h1]
            congr 1
            refine hns.trans ?_
            refine List.map_congr_left (fun a ha => (nodeOf_append (hc a ha) r).symm)
          · rw [List.length_append, List.length_singleton, htk]
            intro a ha
            rcases List.mem_append.1 ha with ha | ha
            · exact (hc a ha).append r
            · rw [List.mem_singleton] at ha
              subst ha
              exact h2
          · intro a ha
            rcases h4 a ha with ha | ha
            · exact hr a ha
            · exact .edge (hr _ (List.getElem_mem hlt)) ho ha
    · cases h
      refine ⟨hs, ⟨[], by simp⟩, hl, fun _ => ?_, hns, hc, hr⟩
      omega

/-- A form, told at once. -/
structure Formed (os : List Ob) (rs : List Int) (ks : List Int) (nds : List Nd) (L : List Nat) : Prop where
  seen : Seen os L
  roots : ks = rs.map (ref L)
  okr : ∀ x ∈ rs, OkRef L x
  nodes : nds = L.map (nodeOf os L)
  closed : ∀ a ∈ L, Closed os L a
  least : ∀ a ∈ L, ∃ l0 : List Nat, (∀ b : Nat, b ∈ l0 → ((b : Nat) : Int) + 1 ∈ rs) ∧ Reached os l0 a

theorem form_formed {os : List Ob} {rs ks : List Int} {nds : List Nd} (h : form os rs = some (ks, nds)) : ∃ L, Formed os rs ks nds L := by
  unfold form at h
  split at h
  · cases h
  · rename_i l ks' hn
    cases hnd : Obj.nodes os (top os + 1) l [] with
    | none => rw [hnd] at h; cases h
    | some p =>
      obtain ⟨L, nds'⟩ := p
      rw [hnd] at h
      cases h
      obtain ⟨h1, h2, _, h4⟩ := numbers_ref hn
      have hs := (numbers_found (Seen.nil os) hn).1
      obtain ⟨k1, ⟨r, rfl⟩, k3, k4, k5, k6, k7⟩ := nodes_ref (l0 := l) hnd hs (Nat.zero_le _) rfl (fun a ha => by simp at ha) (fun a ha => .root ha)
      have hlen := k4 (by simp)
      rw [hlen, List.take_length] at k5 k6
      refine ⟨l ++ r, k1, ?_, fun x hx => (h2 x hx).append r, k5, k6, fun a ha => ⟨l, fun b hb => ?_, k7 a ha⟩⟩
      · rw [h1]
        exact List.map_congr_left (fun x hx => (ref_append (h2 x hx) r).symm)
      · rcases h4 b hb with hb | hb
        · cases hb
        · exact hb
theorem Formed.len {os : List Ob} {rs ks : List Int} {nds : List Nd} {L : List Nat} (h : Formed os rs ks nds L) : nds.length = L.length := by rw [h.nodes, List.length_map]
/-- How long all is. -/
theorem form_size {os : List Ob} {rs ks : List Int} {nds : List Nd} (h : form os rs = some (ks, nds)) (hg : ∀ o ∈ os, o.good) (ht : top os ≤ 65536) (hr : rs.length ≤ 100000) :
    ks.length ≤ 300000000 ∧ nds.length ≤ 300000000 ∧ ∀ n ∈ nds, n.edges.length ≤ 300000000 ∧ n.words.length ≤ 300000000 := by
  obtain ⟨L, F⟩ := form_formed h
  refine ⟨by rw [F.roots, List.length_map]; omega, by rw [F.len]; have := F.seen.len; omega, fun n hn => ?_⟩
  rw [F.nodes] at hn
  obtain ⟨a, ha, rfl⟩ := List.mem_map.1 hn
  obtain ⟨o, ho, _⟩ := F.seen.2 a ha
  obtain ⟨_, h2, h3, _⟩ := hg o (find_mem ho)
  unfold nodeOf
  rw [ho]
  simp only [List.length_map, List.length_take, List.length_drop]
  simp only [Ob.len] at h2 h3
  omega
end Go.Proofs.Ytjlcjcgoaakniaa.Obj

/- The objects of a graph that is told by numbers: plain lists, no program here. -/

namespace Go.Proofs.Ytjlcjcgoaakniaa.Build
open Go.Proofs.Ytjlcjcgoaakniaa.Obj

/-- A node, as it is told. -/
structure GNd where
  kind : Nat
  edges : List Nat
  more : Nat
def GNd.len (n : GNd) : Nat := n.edges.length + n.more % 4
/-- A reference to a node of a number; none. -/
def placeOf (l : List Nat) (n : Nat) : Int := match l[n % (l.length + 1)]? with | some a => (a : Int) + 1 | none => 0
/-- The filler ahead of a node. -/
def fill (i : Nat) (n : GNd) : List Ob := if i % 3 = 2 then [⟨15, 0, List.replicate (n.kind % 2) 0⟩] else []
def nodeOb (n : GNd) (ws : List Int) : Ob := ⟨n.kind % 15, n.edges.length, ws⟩
def layG : Nat → List GNd → List (List Int) → List Ob
  | _, [], _ => []
  | _, _ :: _, [] => []
  | i, n :: ns, w :: ws => fill i n ++ (nodeOb n w :: layG (i + 1) ns ws)
def atG : Nat → Nat → List GNd → List Nat
  | _, _, [] => []
  | i, s, n :: ns => (s + top (fill i n)) :: atG (i + 1) (s + top (fill i n) + (1 + n.len)) ns
def zeros (n : GNd) : List Int := List.replicate n.len 0
/-- How many words are enough. -/
def tot : List GNd → Nat
  | [] => 0
  | n :: ns => 3 + n.len + tot ns

theorem tot_append (a b : List GNd) : tot (a ++ b) = tot a + tot b := by
  induction a with
  | nil => simp [tot]
  | cons n a ih => rw [List.cons_append, tot, tot, ih]; omega
theorem atG_len : ∀ (i s : Nat) (ns : List GNd), (atG i s ns).length = ns.length
  | _, _, [] => rfl
  | i, s, n :: ns => by rw [atG, List.length_cons, atG_len, List.length_cons]
theorem fill_top (i : Nat) (n : GNd) : top (fill i n) ≤ 2 := by
  unfold fill
  split
  · rw [top_cons, top_nil]; simp only [Ob.len, List.length_replicate]; omega
  · simp [top_nil]
theorem nodeOb_len (n : GNd) (w : List Int) (h : w.length = n.len) : (nodeOb n w).len = n.len := h

/-- As many lists of words as nodes, each as long as it has to be. -/
def Fits : List GNd → List (List Int) → Prop
  | [], [] => True
  | n :: ns, w :: ws => w.length = n.len ∧ Fits ns ws
  | _, _ => False
theorem Fits.snoc {n : GNd} {w : List Int} (h : w.length = n.len) : ∀ {ns : List GNd} {ws : List (List Int)}, Fits ns ws → Fits (ns ++ [n]) (ws ++ [w])
  | [], [], _ => ⟨h, trivial⟩
  | _ :: _, _ :: _, hf => ⟨hf.1, Fits.snoc h hf.2⟩
  | [], _ :: _, hf => hf.elim
  | _ :: _, [], hf => hf.elim
theorem Fits.len : ∀ {ns : List GNd} {ws : List (List Int)}, Fits ns ws → ws.length = ns.length
  | [], [], _ => rfl
  | _ :: ns, _ :: ws, h => by rw [List.length_cons, List.length_cons, Fits.len h.2]
  | [], _ :: _, h => h.elim
  | _ :: _, [], h => h.elim
theorem Fits.at' : ∀ {ns : List GNd} {ws : List (List Int)}, Fits ns ws → ∀ {i : Nat} {n : GNd} {w : List Int}, ns[i]? = some n → ws[i]? = some w → w.length = n.len
  | [], [], _, i, n, w, h, _ => by simp at h
  | m :: ns, u :: ws, hf, 0, n, w, h, h' => by
    simp at h h'
    subst h
    subst h'
    exact hf.1
  | m :: ns, u :: ws, hf, i + 1, n, w, h, h' => by
    rw [List.getElem?_cons_succ] at h h'
    exact Fits.at' hf.2 h h'
  | [], _ :: _, hf, _, _, _, _, _ => hf.elim
  | _ :: _, [], hf, _, _, _, _, _ => hf.elim
theorem Fits.set : ∀ {ns : List GNd} {ws : List (List Int)}, Fits ns ws → ∀ {i : Nat} {n : GNd} {w : List Int}, ns[i]? = some n → w.length = n.len → Fits ns (ws.set i w)
  | [], [], _, i, n, w, h, _ => by simp at h
  | m :: ns, u :: ws, hf, 0, n, w, h, h' => by
    simp at h
    subst h
    exact ⟨h', hf.2⟩
  | m :: ns, u :: ws, hf, i + 1, n, w, h, h' => by
    rw [List.getElem?_cons_succ] at h
    exact ⟨hf.1, Fits.set hf.2 h h'⟩
  | [], _ :: _, hf, _, _, _, _, _ => hf.elim
  | _ :: _, [], hf, _, _, _, _, _ => hf.elim
theorem Fits.zeros : ∀ ns : List GNd, Fits ns (ns.map zeros)
  | [] => trivial
  | n :: ns => ⟨by simp [Build.zeros], Fits.zeros ns⟩

theorem layG_top : ∀ (i : Nat) {ns : List GNd} {ws : List (List Int)}, Fits ns ws → top (layG i ns ws) ≤ tot ns
  | _, [], [], _ => by simp [layG, top_nil]
  | i, n :: ns, w :: ws, h => by
    have h1 := fill_top i n
    have h2 := layG_top (i + 1) h.2
    rw [layG, top_append, top_cons, nodeOb_len n w h.1, tot]
    omega
  | _, [], _ :: _, h => h.elim
  | _, _ :: _, [], h => h.elim
theorem layG_snoc {n : GNd} {w : List Int} : ∀ (i : Nat) {ns : List GNd} {ws : List (List Int)}, Fits ns ws → layG i (ns ++ [n]) (ws ++ [w]) = layG i ns ws ++ fill (i + ns.length) n ++ [nodeOb n w]
  | i, [], [], _ => by simp [layG]
  | i, m :: ns, u :: ws, h => by
    rw [List.cons_append, List.cons_append, layG, layG, layG_snoc (i + 1) h.2, List.length_cons, show i + 1 + ns.length = i + (ns.length + 1) by omega]
    simp
  | _, [], _ :: _, h => h.elim
  | _, _ :: _, [], h => h.elim
theorem atG_snoc {n : GNd} : ∀ (i s : Nat) {ns : List GNd} {ws : List (List Int)}, Fits ns ws → atG i s (ns ++ [n]) = atG i s ns ++ [s + top (layG i ns ws) + top (fill (i + ns.length) n)]
  | i, s, [], [], _ => by simp [atG, layG, top_nil]
  | i, s, m :: ns, u :: ws, h => by
    rw [List.cons_append, atG, atG, atG_snoc (i + 1) _ h.2, layG, top_append, top_cons, nodeOb_len m u h.1, List.length_cons, show i + 1 + ns.length = i + (ns.length + 1) by omega]
    simp only [List.cons_append, List.cons.injEq, true_and]
    congr 2
    omega
  | _, _, [], _ :: _, h => h.elim
  | _, _, _ :: _, [], h => h.elim
theorem atG_le : ∀ (i s : Nat) {ns : List GNd} {k a : Nat}, (atG i s ns)[k]? = some a → s ≤ a
  | i, s, [], k, a, h => by simp [atG] at h
  | i, s, n :: ns, 0, a, h => by simp [atG] at h; omega
  | i, s, n :: ns, k + 1, a, h => by
    rw [atG, List.getElem?_cons_succ] at h
    have := atG_le _ _ h
    omega
/-- The object of a node. -/
theorem layG_find : ∀ (i s : Nat) {ns : List GNd} {ws : List (List Int)}, Fits ns ws → ∀ {k a : Nat} {n : GNd} {w : List Int}, (atG i s ns)[k]? = some a → ns[k]? = some n → ws[k]? = some w → find (layG i ns ws) (a - s) = some (nodeOb n w)
  | i, s, [], [], _, k, a, n, w, h, _, _ => by simp [atG] at h
  | i, s, m :: ns, u :: ws, hf, 0, a, n, w, h, h1, h2 => by
    simp [atG] at h h1 h2
    subst h
    subst h1
    subst h2
    rw [layG, find_append_right (by omega), show s + top (fill i m) - s - top (fill i m) = 0 by omega]
    rfl
  | i, s, m :: ns, u :: ws, hf, k + 1, a, n, w, h, h1, h2 => by
    rw [atG, List.getElem?_cons_succ] at h
    rw [List.getElem?_cons_succ] at h1 h2
    have hle := atG_le _ _ h
    have ih := layG_find (i + 1) _ hf.2 h h1 h2
    rw [layG, find_append_right (by omega), find_cons, nodeOb_len m u hf.1, if_neg (by omega), if_neg (by omega)]
    rw [← ih]
    congr 1
    omega
  | _, _, [], _ :: _, hf, _, _, _, _, _, _, _ => hf.elim
  | _, _, _ :: _, [], hf, _, _, _, _, _, _, _ => hf.elim
theorem setWord_append_right {as bs : List Ob} : ∀ {a f : Nat} {x : Int}, top as ≤ a → setWord (as ++ bs) a f x = as ++ setWord bs (a - top as) f x := by
  induction as with
  | nil => intro a f x _; simp [top_nil]
  | cons p as ih =>
    intro a f x h
    rw [top_cons] at h
    rw [List.cons_append, setWord, if_neg (by omega), if_neg (by omega), ih (by omega), top_cons, List.cons_append]
    congr 3
    omega
theorem layG_set : ∀ (i s : Nat) {ns : List GNd} {ws : List (List Int)}, Fits ns ws → ∀ {k a f : Nat} {n : GNd} {w : List Int} {x : Int}, (atG i s ns)[k]? = some a → ns[k]? = some n → ws[k]? = some w → setWord (layG i ns ws) (a - s) f x = layG i ns (ws.set k (w.set f x))
  | i, s, [], [], _, k, a, f, n, w, x, h, _, _ => by simp [atG] at h
  | i, s, m :: ns, u :: ws, hf, 0, a, f, n, w, x, h, h1, h2 => by
    simp [atG] at h h1 h2
    subst h
    subst h1
    subst h2
    rw [layG, setWord_append_right (by omega), show s + top (fill i m) - s - top (fill i m) = 0 by omega, setWord, if_pos rfl]
    rfl
  | i, s, m :: ns, u :: ws, hf, k + 1, a, f, n, w, x, h, h1, h2 => by
    rw [atG, List.getElem?_cons_succ] at h
    rw [List.getElem?_cons_succ] at h1 h2
    have hle := atG_le _ _ h
    have ih := layG_set (i + 1) _ hf.2 (f := f) (x := x) h h1 h2
    rw [layG, setWord_append_right (by omega), setWord, nodeOb_len m u hf.1, if_neg (by omega), if_neg (by omega), List.set_cons_succ, layG, ← ih]
    congr 3
    omega
  | _, _, [], _ :: _, hf, _, _, _, _, _, _, _, _, _ => hf.elim
  | _, _, _ :: _, [], hf, _, _, _, _, _, _, _, _, _ => hf.elim

/-- The words of a node, in the end. -/
def full (at' : List Nat) (i : Nat) (n : GNd) : List Int := n.edges.map (placeOf at') ++ (List.range (n.more % 4)).map fun k => ((100 * i + k : Nat) : Int)
theorem full_len (at' : List Nat) (i : Nat) (n : GNd) : (full at' i n).length = n.len := by simp [full, GNd.len]
/-- Its words, of which some are told yet. -/
def stage (at' : List Nat) (i f : Nat) (n : GNd) : List Int := (full at' i n).take f ++ List.replicate (n.len - f) 0
theorem stage_len (at' : List Nat) (i f : Nat) (n : GNd) (h : f ≤ n.len) : (stage at' i f n).length = n.len := by
  simp only [stage, List.length_append, List.length_take, full_len, List.length_replicate]; omega
theorem stage_zero (at' : List Nat) (i : Nat) (n : GNd) : stage at' i 0 n = zeros n := by simp [stage, zeros]
theorem stage_all (at' : List Nat) (i : Nat) (n : GNd) : stage at' i n.len n = full at' i n := by
  unfold stage
  rw [Nat.sub_self, List.replicate_zero, List.append_nil, ← full_len at' i n, List.take_length]
theorem stage_set (at' : List Nat) (i f : Nat) (n : GNd) (x : Int) (hx : (full at' i n)[f]? = some x) : (stage at' i f n).set f x = stage at' i (f + 1) n := by
  have hf : f < n.len := by have := (List.getElem?_eq_some_iff.1 hx).1; rwa [full_len] at this
  unfold stage
  have hl : ((full at' i n).take f).length = f := by rw [List.length_take, full_len]; omega
  rw [List.set_append_right _ _ (by omega), hl, Nat.sub_self, List.take_add_one, hx]
  obtain ⟨m, hm⟩ : ∃ m, n.len - f = m + 1 := ⟨n.len - f - 1, by omega⟩
  rw [hm, List.replicate_succ, List.set_cons_zero, show n.len - (f + 1) = m by omega]
  simp

/-- All words, when so many nodes are told, and so many words of the next one. -/
def wordsAt (at' : List Nat) (ns : List GNd) (i f : Nat) : List (List Int) := ns.mapIdx fun j n => if j < i then full at' j n else if j = i then stage at' j f n else zeros n
theorem wordsAt_at (at' : List Nat) (ns : List GNd) (i f k : Nat) (n : GNd) (h : ns[k]? = some n) : (wordsAt at' ns i f)[k]? = some (if k < i then full at' k n else if k = i then stage at' k f n else zeros n) := by
  simp [wordsAt, List.getElem?_mapIdx, h]
theorem fits_of {ns : List GNd} : ∀ {ws : List (List Int)}, ws.length = ns.length → (∀ (k : Nat) (n : GNd) (w : List Int), ns[k]? = some n → ws[k]? = some w → w.length = n.len) → Fits ns ws := by
  induction ns with
  | nil =>
    intro ws h _
    cases ws with
    | nil => trivial
    | cons w ws => simp at h
  | cons n ns ih =>
    intro ws h hw
    cases ws with
    | nil => simp at h
    | cons w ws => exact ⟨hw 0 n w rfl rfl, ih (by simpa using h) (fun k m u h1 h2 => hw (k + 1) m u (by simpa using h1) (by simpa using h2))⟩
theorem wordsAt_fits (at' : List Nat) (ns : List GNd) (i f : Nat) (h : ∀ n, ns[i]? = some n → f ≤ n.len) : Fits ns (wordsAt at' ns i f) := by
  refine fits_of (by simp [wordsAt]) (fun k n w h1 h2 => ?_)
  rw [wordsAt_at _ _ _ _ _ _ h1] at h2
  cases h2
  split
  · exact full_len _ _ _
  · split
    · rename_i e
      subst e
      exact stage_len _ _ _ _ (h n h1)
    · simp [zeros]
theorem wordsAt_start (at' : List Nat) (ns : List GNd) : wordsAt at' ns 0 0 = ns.map zeros := by
  apply List.ext_getElem?
  intro k
  rw [List.getElem?_map]
  cases h : ns[k]? with
  | none => rw [List.getElem?_eq_none (by have := List.getElem?_eq_none_iff.1 h; simpa [wordsAt] using this)]; rfl
  | some n =>
    rw [wordsAt_at _ _ _ _ _ _ h]
    simp only [Nat.not_lt_zero, if_false, Option.map_some]
    split
    · rw [stage_zero]
    · rfl
theorem wordsAt_next (at' : List Nat) (ns : List GNd) (i : Nat) (n : GNd) (h : ns[i]? = some n) : wordsAt at' ns i n.len = wordsAt at' ns (i + 1) 0 := by
  apply List.ext_getElem?
  intro k
  cases hk : ns[k]? with
  | none => rw [List.getElem?_eq_none (by have := List.getElem?_eq_none_iff.1 hk; simpa [wordsAt] using this), List.getElem?_eq_none (by have := List.getElem?_eq_none_iff.1 hk; simpa [wordsAt] using this)]
  | some m =>
    rw [wordsAt_at _ _ _ _ _ _ hk, wordsAt_at _ _ _ _ _ _ hk]
    congr 1
    by_cases e : k = i
    · subst e
      rw [h] at hk
      cases hk
      rw [if_neg (by omega), if_pos rfl, if_pos (by omega), stage_all]
    · by_cases e2 : k < i
      · rw [if_pos e2, if_pos (by omega)]
      · rw [if_neg e2, if_neg e, if_neg (by omega)]
        split
        · rw [stage_zero]
        · rfl
theorem wordsAt_set (at' : List Nat) (ns : List GNd) (i f : Nat) (n : GNd) (x : Int) (h : ns[i]? = some n) (hx : (full at' i n)[f]? = some x) : (wordsAt at' ns i f).set i ((stage at' i f n).set f x) = wordsAt at' ns i (f + 1) := by
  rw [stage_set _ _ _ _ _ hx]
  apply List.ext_getElem?
  intro k
  have hi : i < ns.length := (List.getElem?_eq_some_iff.1 h).1
  rw [List.getElem?_set]
  by_cases e : i = k
  · subst e
    rw [if_pos rfl, if_pos (by simpa [wordsAt] using hi), wordsAt_at _ _ _ _ _ _ h, if_neg (by omega), if_pos rfl]
  · rw [if_neg e]
    cases hk : ns[k]? with
    | none => rw [List.getElem?_eq_none (by have := List.getElem?_eq_none_iff.1 hk; simpa [wordsAt] using this), List.getElem?_eq_none (by have := List.getElem?_eq_none_iff.1 hk; simpa [wordsAt] using this)]
    | some m =>
      rw [wordsAt_at _ _ _ _ _ _ hk, wordsAt_at _ _ _ _ _ _ hk]
      congr 1
      by_cases e2 : k < i
      · rw [if_pos e2, if_pos e2]
      · rw [if_neg e2, if_neg e2, if_neg (fun h => e h.symm), if_neg (fun h => e h.symm)]
theorem wordsAt_end (at' : List Nat) (ns : List GNd) : wordsAt at' ns ns.length 0 = ns.mapIdx (full at') := by
  apply List.ext_getElem?
  intro k
  cases hk : ns[k]? with
  | none => rw [List.getElem?_eq_none (by have := List.getElem?_eq_none_iff.1 hk; simpa [wordsAt] using this), List.getElem?_eq_none (by have := List.getElem?_eq_none_iff.1 hk; simpa using this)]
  | some m =>
    have : k < ns.length := (List.getElem?_eq_some_iff.1 hk).1
    rw [wordsAt_at _ _ _ _ _ _ hk, if_pos this, List.getElem?_mapIdx, hk]
    rfl

/-- The objects of a graph, and where its nodes lie. -/
def atOf (ns : List GNd) : List Nat := atG 0 0 ns
def obsOf (ns : List GNd) : List Ob := layG 0 ns (ns.mapIdx (full (atOf ns)))
theorem obsOf_fits (ns : List GNd) : Fits ns (ns.mapIdx (full (atOf ns))) := by
  rw [← wordsAt_end]
  exact wordsAt_fits _ _ _ _ (fun n h => Nat.zero_le _)
/-- A reference to a node leads to an object. -/
theorem placeOf_leads {ns : List GNd} {ws : List (List Int)} (h : Fits ns ws) (e : Nat) : leads (layG 0 ns ws) (placeOf (atOf ns) e) = true := by
  unfold placeOf
  cases ha : (atOf ns)[e % ((atOf ns).length + 1)]? with
  | none => simp [leads]
  | some a =>
    obtain ⟨k, hk⟩ : ∃ k, k = e % ((atOf ns).length + 1) := ⟨_, rfl⟩
    rw [← hk] at ha
    have hkl : k < ns.length := by have := (List.getElem?_eq_some_iff.1 ha).1; rwa [atOf, atG_len] at this
    have hf := layG_find 0 0 h ha (List.getElem?_eq_getElem hkl) (List.getElem?_eq_getElem (by rw [h.len]; exact hkl))
    rw [Nat.sub_zero] at hf
    simp only [leads]
    rw [show ((a : Int) + 1 - 1).toNat = a by omega, hf]
    simp only [nodeOb]
    have : (ns[k]).kind % 15 ≠ 15 := by have := Nat.mod_lt (ns[k]).kind (show 0 < 15 by omega); omega
    simp [this]
/-- One word more is told. -/
theorem write_step {ns : List GNd} {k f a : Nat} {n : GNd} {x : Int} (hn : ns[k]? = some n) (ha : (atOf ns)[k]? = some a) (hf : f < n.len) (hx : (full (atOf ns) k n)[f]? = some x) :
    find (layG 0 ns (wordsAt (atOf ns) ns k f)) a = some (nodeOb n (stage (atOf ns) k f n)) ∧ setWord (layG 0 ns (wordsAt (atOf ns) ns k f)) a f x = layG 0 ns (wordsAt (atOf ns) ns k (f + 1)) := by
  have hfit := wordsAt_fits (atOf ns) ns k f (fun m hm => by rw [hn] at hm; cases hm; omega)
  have hw : (wordsAt (atOf ns) ns k f)[k]? = some (stage (atOf ns) k f n) := by
    rw [wordsAt_at _ _ _ _ _ _ hn, if_neg (by omega), if_pos rfl]
  have h1 := layG_find 0 0 hfit ha hn hw
  have h2 := layG_set 0 0 (f := f) (x := x) hfit ha hn hw
  rw [Nat.sub_zero] at h1 h2
  exact ⟨h1, by rw [h2, wordsAt_set _ _ _ _ _ _ hn hx]⟩
theorem atOf_len (ns : List GNd) : (atOf ns).length = ns.length := atG_len 0 0 ns
theorem full_edge {l : List Nat} {i f : Nat} {n : GNd} {e : Nat} (h : n.edges[f]? = some e) : (full l i n)[f]? = some (placeOf l e) := by
  have hf : f < n.edges.length := (List.getElem?_eq_some_iff.1 h).1
  rw [full, List.getElem?_append_left (by simpa using hf), List.getElem?_map, h]
  rfl
theorem full_more {l : List Nat} {i f : Nat} {n : GNd} (h : f < n.more % 4) : (full l i n)[n.edges.length + f]? = some ((100 * i + f : Nat) : Int) := by
  rw [full, List.getElem?_append_right (by simp), List.length_map, Nat.add_sub_cancel_left, List.getElem?_map, List.getElem?_range h]
  rfl
theorem atOf_le {ns : List GNd} {a : Nat} (h : a ∈ atOf ns) : a ≤ tot ns := by
  obtain ⟨k, hk, rfl⟩ := List.getElem_of_mem h
  have hkl : k < ns.length := by rwa [atOf_len] at hk
  have hfit := Fits.zeros ns
  have hf := layG_find 0 0 hfit (List.getElem?_eq_getElem hk) (List.getElem?_eq_getElem hkl) (List.getElem?_eq_getElem (by rw [hfit.len]; exact hkl))
  have h1 := find_lt hf
  have h2 := layG_top 0 hfit
  omega
end Go.Proofs.Ytjlcjcgoaakniaa.Build
