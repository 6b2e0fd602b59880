/- Objects in a row: plain lists, no program here. -/
namespace Go.Proofs.YtapjajclmbpjmaaGreatDoor.Obj

/-- An object: its kind, how many of its words lead to others, its words. -/
structure Ob where
  kind : Nat
  ptrs : Nat
  ws : List Int
deriving DecidableEq

def Ob.len (o : Ob) : Nat := o.ws.length
/-- Its head's word. -/
def Ob.word (o : Ob) : Int := ((o.kind + 16 * (o.ptrs + 4096 * o.len) : Nat) : Int)
def Ob.good (o : Ob) : Prop := o.kind ≤ 15 ∧ o.ptrs ≤ o.len ∧ o.len ≤ 4095 ∧ (o.kind = 15 → o.ptrs = 0)

def flat : List Ob → List Int
  | [] => []
  | o :: os => o.word :: (o.ws ++ flat os)
def marks : List Ob → List Bool
  | [] => []
  | o :: os => true :: (List.replicate o.len false ++ marks os)
/-- The object that begins at an address. -/
def find : List Ob → Nat → Option Ob
  | [], _ => none
  | o :: os, a => if a = 0 then some o else if a < 1 + o.len then none else find os (a - (1 + o.len))
theorem find_cons (o : Ob) (os : List Ob) (a : Nat) : find (o :: os) a = if a = 0 then some o else if a < 1 + o.len then none else find os (a - (1 + o.len)) := rfl
/-- How many words are taken. -/
def top (os : List Ob) : Nat := (flat os).length

theorem top_nil : top [] = 0 := rfl
theorem top_cons (o : Ob) (os : List Ob) : top (o :: os) = 1 + o.len + top os := by
  simp only [top, flat, List.length_cons, List.length_append, Ob.len]; omega
theorem top_append (as bs : List Ob) : top (as ++ bs) = top as + top bs := by
  induction as with
  | nil => simp [top_nil]
  | cons a as ih => rw [List.cons_append, top_cons, top_cons, ih]; omega
theorem flat_append (as bs : List Ob) : flat (as ++ bs) = flat as ++ flat bs := by
  induction as with
  | nil => rfl
  | cons a as ih => simp [flat, ih]
theorem marks_append (as bs : List Ob) : marks (as ++ bs) = marks as ++ marks bs := by
  induction as with
  | nil => rfl
  | cons a as ih => simp [marks, ih]
theorem marks_length (os : List Ob) : (marks os).length = top os := by
  induction os with
  | nil => rfl
  | cons o os ih => rw [top_cons]; simp only [marks, List.length_cons, List.length_append, List.length_replicate, ih]; omega

theorem find_lt {os : List Ob} : ∀ {a : Nat} {o : Ob}, find os a = some o → a + 1 + o.len ≤ top os := by
  induction os with
  | nil => intro a o h; cases h
  | cons p os ih =>
    intro a o h
    rw [top_cons]
    unfold find at h
    split at h
    · cases h; omega
    · split at h
      · cases h
      · have := ih h; omega
theorem find_mem {os : List Ob} : ∀ {a : Nat} {o : Ob}, find os a = some o → o ∈ os := by
  induction os with
  | nil => intro a o h; cases h
  | cons p os ih =>
    intro a o h
    unfold find at h
    split at h
    · cases h; exact List.mem_cons_self
    · split at h
      · cases h
      · exact List.mem_cons_of_mem _ (ih h)
theorem flat_head {os : List Ob} : ∀ {a : Nat} {o : Ob}, find os a = some o → (flat os)[a]? = some o.word := by
  induction os with
  | nil => intro a o h; cases h
  | cons p os ih =>
    intro a o h
    unfold find at h
    split at h
    · rename_i e; subst e; cases h; rfl
    · split at h
      · cases h
      · rename_i h1 h2
        have := ih h
        simp only [Ob.len] at h2 this
        rw [flat, show a = (a - (1 + p.ws.length)) + p.ws.length + 1 by omega, List.getElem?_cons_succ, List.getElem?_append_right (by omega), Nat.add_sub_cancel]
        exact this
theorem flat_word {os : List Ob} : ∀ {a : Nat} {o : Ob} {i : Nat}, find os a = some o → i < o.len → (flat os)[a + 1 + i]? = o.ws[i]? := by
  induction os with
  | nil => intro a o i h; cases h
  | cons p os ih =>
    intro a o i h hi
    unfold find at h
    split at h
    · rename_i e; subst e; cases h
      simp only [Ob.len] at hi
      rw [flat, show 0 + 1 + i = i + 1 by omega, List.getElem?_cons_succ, List.getElem?_append_left hi]
    · split at h
      · cases h
      · rename_i h1 h2
        have := ih h hi
        simp only [Ob.len] at h2 this
        rw [flat, show a + 1 + i = (a - (1 + p.ws.length) + 1 + i) + p.ws.length + 1 by omega, List.getElem?_cons_succ, List.getElem?_append_right (by omega), Nat.add_sub_cancel]
        exact this
theorem marks_at {os : List Ob} : ∀ {a : Nat}, a < top os → (marks os)[a]? = some (find os a).isSome := by
  induction os with
  | nil => intro a h; rw [top_nil] at h; omega
  | cons p os ih =>
    intro a h
    rw [top_cons] at h
    unfold find
    by_cases h0 : a = 0
    · rw [if_pos h0, h0]; rfl
    · rw [if_neg h0]
      obtain ⟨b, rfl⟩ : ∃ b, a = b + 1 := ⟨a - 1, by omega⟩
      rw [marks, List.getElem?_cons_succ]
      by_cases h1 : b + 1 < 1 + p.len
      · rw [if_pos h1, List.getElem?_append_left (by simp; omega), List.getElem?_replicate, if_pos (by omega)]
        rfl
      · rw [if_neg h1, List.getElem?_append_right (by simp; omega), List.length_replicate, show b - p.len = b + 1 - (1 + p.len) by omega]
        exact ih (by omega)
theorem find_none {os : List Ob} {a : Nat} (h : top os ≤ a) : find os a = none := by
  cases e : find os a with
  | none => rfl
  | some o => have := find_lt e; omega

theorem find_append_left {as bs : List Ob} : ∀ {a : Nat}, a < top as → find (as ++ bs) a = find as a := by
  induction as with
  | nil => intro a h; rw [top_nil] at h; omega
  | cons p as ih =>
    intro a h
    rw [top_cons] at h
    rw [List.cons_append]
    unfold find
    by_cases h0 : a = 0
    · rw [if_pos h0, if_pos h0]
    · rw [if_neg h0, if_neg h0]
      by_cases h1 : a < 1 + p.len
      · rw [if_pos h1, if_pos h1]
      · rw [if_neg h1, if_neg h1]
        exact ih (by omega)
theorem find_append_right {as bs : List Ob} : ∀ {a : Nat}, top as ≤ a → find (as ++ bs) a = find bs (a - top as) := by
  induction as with
  | nil => intro a _; rw [top_nil]; rfl
  | cons p as ih =>
    intro a h
    rw [top_cons] at h
    rw [List.cons_append]
    conv => lhs; unfold find
    rw [if_neg (by omega), if_neg (by omega), ih (by omega), top_cons]
    congr 1
    omega
theorem find_last (as : List Ob) (o : Ob) : find (as ++ [o]) (top as) = some o := by
  rw [find_append_right (Nat.le_refl _), Nat.sub_self]
  rfl

/-- An object's word is another one. -/
def setWord : List Ob → Nat → Nat → Int → List Ob
  | [], _, _, _ => []
  | o :: os, a, f, x => if a = 0 then { o with ws := o.ws.set f x } :: os else o :: (if a < 1 + o.len then os else setWord os (a - (1 + o.len)) f x)

theorem setWord_top (os : List Ob) : ∀ (a f : Nat) (x : Int), top (setWord os a f x) = top os := by
  induction os with
  | nil => intros; rfl
  | cons p os ih =>
    intro a f x
    unfold setWord
    split
    · rw [top_cons, top_cons]; simp [Ob.len]
    · rw [top_cons, top_cons]
      split
      · rfl
      · rw [ih]
theorem setWord_marks (os : List Ob) : ∀ (a f : Nat) (x : Int), marks (setWord os a f x) = marks os := by
  induction os with
  | nil => intros; rfl
  | cons p os ih =>
    intro a f x
    unfold setWord
    split
    · simp [marks, Ob.len]
    · split
      · rfl
      · simp [marks, ih]
theorem setWord_flat (os : List Ob) : ∀ (a f : Nat) (x : Int) (o : Ob), find os a = some o → f < o.len → flat (setWord os a f x) = (flat os).set (a + 1 + f) x := by
  induction os with
  | nil => intro a f x o h; cases h
  | cons p os ih =>
    intro a f x o h hf
    unfold find at h
    unfold setWord
    split at h
    · rename_i e; subst e; cases h
      simp only [Ob.len] at hf
      rw [if_pos rfl, flat, flat, show 0 + 1 + f = f + 1 by omega, List.set_cons_succ, List.set_append_left _ _ hf]
      simp [Ob.word, Ob.len]
    · split at h
      · cases h
      · rename_i h1 h2
        rw [if_neg h1, if_neg h2, flat, flat, ih _ f x o h hf]
        simp only [Ob.len] at h2 ⊢
        rw [show a + 1 + f = (a - (1 + p.ws.length) + 1 + f + p.ws.length) + 1 by omega, List.set_cons_succ, List.set_append_right _ _ (by omega), Nat.add_sub_cancel]
theorem setWord_find (os : List Ob) : ∀ (a f : Nat) (x : Int) (o : Ob) (b : Nat), find os a = some o → find (setWord os a f x) b = if b = a then some { o with ws := o.ws.set f x } else find os b := by
  induction os with
  | nil => intro a f x o b h; cases h
  | cons p os ih =>
    intro a f x o b h
    unfold find at h
    unfold setWord
    split at h
    · rename_i e; subst e; cases h
      rw [if_pos rfl, find_cons, find_cons]
      by_cases hb : b = 0
      · rw [if_pos hb, if_pos hb]
      · rw [if_neg hb, if_neg hb, if_neg hb]
        have e : Ob.len { p with ws := p.ws.set f x } = p.len := by simp [Ob.len]
        rw [e]
    · split at h
      · cases h
      · rename_i h1 h2
        rw [if_neg h1, if_neg h2]
        unfold find
        by_cases hb : b = 0
        · rw [if_pos hb, if_neg (by omega), if_pos hb]
        · rw [if_neg hb, if_neg hb]
          by_cases hb2 : b < 1 + p.len
          · rw [if_pos hb2, if_pos hb2, if_neg (by omega)]
          · rw [if_neg hb2, if_neg hb2, ih _ f x o _ h]
            by_cases e : b = a
            · rw [if_pos e, if_pos (by omega)]
            · rw [if_neg e, if_neg (by omega)]
theorem setWord_good {os : List Ob} (h : ∀ o ∈ os, o.good) : ∀ (a f : Nat) (x : Int), ∀ o ∈ setWord os a f x, o.good := by
  induction os with
  | nil => intro a f x o ho; cases ho
  | cons p os ih =>
    intro a f x o ho
    unfold setWord at ho
    split at ho
    · rcases List.mem_cons.1 ho with rfl | ho
      · have := h p List.mem_cons_self
        simpa [Ob.good, Ob.len] using this
      · exact h o (List.mem_cons_of_mem _ ho)
    · rcases List.mem_cons.1 ho with rfl | ho
      · exact h _ List.mem_cons_self
      · split at ho
        · exact h o (List.mem_cons_of_mem _ ho)
        · exact ih (fun o ho => h o (List.mem_cons_of_mem _ ho)) _ f x o ho

/-- What a head's word bears. -/
theorem word_parts {o : Ob} (h : o.good) : 0 ≤ o.word ∧ o.word % 16 = o.kind ∧ o.word / 16 % 4096 = o.ptrs ∧ o.word / 16 / 4096 = o.len ∧ o.word < 268435456 := by
  obtain ⟨h1, h2, h3, _⟩ := h
  unfold Ob.word
  omega

/-- Is a word none, or does it lead to an object? -/
def leads (os : List Ob) (x : Int) : Bool := decide (x = 0) || (decide (0 < x) && match find os (x - 1).toNat with | some o => decide (o.kind ≠ 15) | none => false)

end Go.Proofs.YtapjajclmbpjmaaGreatDoor.Obj
