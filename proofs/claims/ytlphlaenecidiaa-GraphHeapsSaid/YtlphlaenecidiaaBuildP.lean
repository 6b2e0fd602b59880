/- The objects of a graph that is told by numbers: plain lists, no program here. -/
import Derived.Test.YtlphlaenecidiaaForm2
namespace Go.Proofs.Ytlphlaenecidiaa.Build
open Go.Proofs.Ytlphlaenecidiaa.Obj

/-- A node, as it is told. -/
structure GNd where
  kind : Nat
  edges : List Nat
  more : Nat
def GNd.len (n : GNd) : Nat := n.edges.length + n.more % 4
/-- A reference to a node of a number; none. -/
def placeOf (l : List Nat) (n : Nat) : Int := match l[n % (l.length + 1)]? with | some a => (a : Int) + 1 | none => 0
/-- The filler ahead of a node. -/
def fill (i : Nat) (n : GNd) : List Ob := if i % 3 = 2 then [⟨15, 0, List.replicate (n.kind % 2) 0⟩] else []
def nodeOb (n : GNd) (ws : List Int) : Ob := ⟨n.kind % 15, n.edges.length, ws⟩
def layG : Nat → List GNd → List (List Int) → List Ob
  | _, [], _ => []
  | _, _ :: _, [] => []
  | i, n :: ns, w :: ws => fill i n ++ (nodeOb n w :: layG (i + 1) ns ws)
def atG : Nat → Nat → List GNd → List Nat
  | _, _, [] => []
  | i, s, n :: ns => (s + top (fill i n)) :: atG (i + 1) (s + top (fill i n) + (1 + n.len)) ns
def zeros (n : GNd) : List Int := List.replicate n.len 0
/-- How many words are enough. -/
def tot : List GNd → Nat
  | [] => 0
  | n :: ns => 3 + n.len + tot ns

theorem tot_append (a b : List GNd) : tot (a ++ b) = tot a + tot b := by
  induction a with
  | nil => simp [tot]
  | cons n a ih => rw [List.cons_append, tot, tot, ih]; omega
theorem atG_len : ∀ (i s : Nat) (ns : List GNd), (atG i s ns).length = ns.length
  | _, _, [] => rfl
  | i, s, n :: ns => by rw [atG, List.length_cons, atG_len, List.length_cons]
theorem fill_top (i : Nat) (n : GNd) : top (fill i n) ≤ 2 := by
  unfold fill
  split
  · rw [top_cons, top_nil]; simp only [Ob.len, List.length_replicate]; omega
  · simp [top_nil]
theorem nodeOb_len (n : GNd) (w : List Int) (h : w.length = n.len) : (nodeOb n w).len = n.len := h

/-- As many lists of words as nodes, each as long as it has to be. -/
def Fits : List GNd → List (List Int) → Prop
  | [], [] => True
  | n :: ns, w :: ws => w.length = n.len ∧ Fits ns ws
  | _, _ => False
theorem Fits.snoc {n : GNd} {w : List Int} (h : w.length = n.len) : ∀ {ns : List GNd} {ws : List (List Int)}, Fits ns ws → Fits (ns ++ [n]) (ws ++ [w])
  | [], [], _ => ⟨h, trivial⟩
  | _ :: _, _ :: _, hf => ⟨hf.1, Fits.snoc h hf.2⟩
  | [], _ :: _, hf => hf.elim
  | _ :: _, [], hf => hf.elim
theorem Fits.len : ∀ {ns : List GNd} {ws : List (List Int)}, Fits ns ws → ws.length = ns.length
  | [], [], _ => rfl
  | _ :: ns, _ :: ws, h => by rw [List.length_cons, List.length_cons, Fits.len h.2]
  | [], _ :: _, h => h.elim
  | _ :: _, [], h => h.elim
theorem Fits.at' : ∀ {ns : List GNd} {ws : List (List Int)}, Fits ns ws → ∀ {i : Nat} {n : GNd} {w : List Int}, ns[i]? = some n → ws[i]? = some w → w.length = n.len
  | [], [], _, i, n, w, h, _ => by simp at h
  | m :: ns, u :: ws, hf, 0, n, w, h, h' => by
    simp at h h'
    subst h
    subst h'
    exact hf.1
  | m :: ns, u :: ws, hf, i + 1, n, w, h, h' => by
    rw [List.getElem?_cons_succ] at h h'
    exact Fits.at' hf.2 h h'
  | [], _ :: _, hf, _, _, _, _, _ => hf.elim
  | _ :: _, [], hf, _, _, _, _, _ => hf.elim
theorem Fits.set : ∀ {ns : List GNd} {ws : List (List Int)}, Fits ns ws → ∀ {i : Nat} {n : GNd} {w : List Int}, ns[i]? = some n → w.length = n.len → Fits ns (ws.set i w)
  | [], [], _, i, n, w, h, _ => by simp at h
  | m :: ns, u :: ws, hf, 0, n, w, h, h' => by
    simp at h
    subst h
    exact ⟨h', hf.2⟩
  | m :: ns, u :: ws, hf, i + 1, n, w, h, h' => by
    rw [List.getElem?_cons_succ] at h
    exact ⟨hf.1, Fits.set hf.2 h h'⟩
  | [], _ :: _, hf, _, _, _, _, _ => hf.elim
  | _ :: _, [], hf, _, _, _, _, _ => hf.elim
theorem Fits.zeros : ∀ ns : List GNd, Fits ns (ns.map zeros)
  | [] => trivial
  | n :: ns => ⟨by simp [Build.zeros], Fits.zeros ns⟩

theorem layG_top : ∀ (i : Nat) {ns : List GNd} {ws : List (List Int)}, Fits ns ws → top (layG i ns ws) ≤ tot ns
  | _, [], [], _ => by simp [layG, top_nil]
  | i, n :: ns, w :: ws, h => by
    have h1 := fill_top i n
    have h2 := layG_top (i + 1) h.2
    rw [layG, top_append, top_cons, nodeOb_len n w h.1, tot]
    omega
  | _, [], _ :: _, h => h.elim
  | _, _ :: _, [], h => h.elim
theorem layG_snoc {n : GNd} {w : List Int} : ∀ (i : Nat) {ns : List GNd} {ws : List (List Int)}, Fits ns ws → layG i (ns ++ [n]) (ws ++ [w]) = layG i ns ws ++ fill (i + ns.length) n ++ [nodeOb n w]
  | i, [], [], _ => by simp [layG]
  | i, m :: ns, u :: ws, h => by
    rw [List.cons_append, List.cons_append, layG, layG, layG_snoc (i + 1) h.2, List.length_cons, show i + 1 + ns.length = i + (ns.length + 1) by omega]
    simp
  | _, [], _ :: _, h => h.elim
  | _, _ :: _, [], h => h.elim
theorem atG_snoc {n : GNd} : ∀ (i s : Nat) {ns : List GNd} {ws : List (List Int)}, Fits ns ws → atG i s (ns ++ [n]) = atG i s ns ++ [s + top (layG i ns ws) + top (fill (i + ns.length) n)]
  | i, s, [], [], _ => by simp [atG, layG, top_nil]
  | i, s, m :: ns, u :: ws, h => by
    rw [List.cons_append, atG, atG, atG_snoc (i + 1) _ h.2, layG, top_append, top_cons, nodeOb_len m u h.1, List.length_cons, show i + 1 + ns.length = i + (ns.length + 1) by omega]
    simp only [List.cons_append, List.cons.injEq, true_and]
    congr 2
    omega
  | _, _, [], _ :: _, h => h.elim
  | _, _, _ :: _, [], h => h.elim
theorem atG_le : ∀ (i s : Nat) {ns : List GNd} {k a : Nat}, (atG i s ns)[k]? = some a → s ≤ a
  | i, s, [], k, a, h => by simp [atG] at h
  | i, s, n :: ns, 0, a, h => by simp [atG] at h; omega
  | i, s, n :: ns, k + 1, a, h => by
    rw [atG, List.getElem?_cons_succ] at h
    have := atG_le _ _ h
    omega
/-- The object of a node. -/
theorem layG_find : ∀ (i s : Nat) {ns : List GNd} {ws : List (List Int)}, Fits ns ws → ∀ {k a : Nat} {n : GNd} {w : List Int}, (atG i s ns)[k]? = some a → ns[k]? = some n → ws[k]? = some w → find (layG i ns ws) (a - s) = some (nodeOb n w)
  | i, s, [], [], _, k, a, n, w, h, _, _ => by simp [atG] at h
  | i, s, m :: ns, u :: ws, hf, 0, a, n, w, h, h1, h2 => by
    simp [atG] at h h1 h2
    subst h
    subst h1
    subst h2
    rw [layG, find_append_right (by omega), show s + top (fill i m) - s - top (fill i m) = 0 by omega]
    rfl
  | i, s, m :: ns, u :: ws, hf, k + 1, a, n, w, h, h1, h2 => by
    rw [atG, List.getElem?_cons_succ] at h
    rw [List.getElem?_cons_succ] at h1 h2
    have hle := atG_le _ _ h
    have ih := layG_find (i + 1) _ hf.2 h h1 h2
    rw [layG, find_append_right (by omega), find_cons, nodeOb_len m u hf.1, if_neg (by omega), if_neg (by omega)]
    rw [← ih]
    congr 1
    omega
  | _, _, [], _ :: _, hf, _, _, _, _, _, _, _ => hf.elim
  | _, _, _ :: _, [], hf, _, _, _, _, _, _, _ => hf.elim
theorem setWord_append_right {as bs : List Ob} : ∀ {a f : Nat} {x : Int}, top as ≤ a → setWord (as ++ bs) a f x = as ++ setWord bs (a - top as) f x := by
  induction as with
  | nil => intro a f x _; simp [top_nil]
  | cons p as ih =>
    intro a f x h
    rw [top_cons] at h
    rw [List.cons_append, setWord, if_neg (by omega), if_neg (by omega), ih (by omega), top_cons, List.cons_append]
    congr 3
    omega
theorem layG_set : ∀ (i s : Nat) {ns : List GNd} {ws : List (List Int)}, Fits ns ws → ∀ {k a f : Nat} {n : GNd} {w : List Int} {x : Int}, (atG i s ns)[k]? = some a → ns[k]? = some n → ws[k]? = some w → setWord (layG i ns ws) (a - s) f x = layG i ns (ws.set k (w.set f x))
  | i, s, [], [], _, k, a, f, n, w, x, h, _, _ => by simp [atG] at h
  | i, s, m :: ns, u :: ws, hf, 0, a, f, n, w, x, h, h1, h2 => by
    simp [atG] at h h1 h2
    subst h
    subst h1
    subst h2
    rw [layG, setWord_append_right (by omega), show s + top (fill i m) - s - top (fill i m) = 0 by omega, setWord, if_pos rfl]
    rfl
  | i, s, m :: ns, u :: ws, hf, k + 1, a, f, n, w, x, h, h1, h2 => by
    rw [atG, List.getElem?_cons_succ] at h
    rw [List.getElem?_cons_succ] at h1 h2
    have hle := atG_le _ _ h
    have ih := layG_set (i + 1) _ hf.2 (f := f) (x := x) h h1 h2
    rw [layG, setWord_append_right (by omega), setWord, nodeOb_len m u hf.1, if_neg (by omega), if_neg (by omega), List.set_cons_succ, layG, ← ih]
    congr 3
    omega
  | _, _, [], _ :: _, hf, _, _, _, _, _, _, _, _, _ => hf.elim
  | _, _, _ :: _, [], hf, _, _, _, _, _, _, _, _, _ => hf.elim

/-- The words of a node, in the end. -/
def full (at' : List Nat) (i : Nat) (n : GNd) : List Int := n.edges.map (placeOf at') ++ (List.range (n.more % 4)).map fun k => ((100 * i + k : Nat) : Int)
theorem full_len (at' : List Nat) (i : Nat) (n : GNd) : (full at' i n).length = n.len := by simp [full, GNd.len]
/-- Its words, of which some are told yet. -/
def stage (at' : List Nat) (i f : Nat) (n : GNd) : List Int := (full at' i n).take f ++ List.replicate (n.len - f) 0
theorem stage_len (at' : List Nat) (i f : Nat) (n : GNd) (h : f ≤ n.len) : (stage at' i f n).length = n.len := by
  simp only [stage, List.length_append, List.length_take, full_len, List.length_replicate]; omega
theorem stage_zero (at' : List Nat) (i : Nat) (n : GNd) : stage at' i 0 n = zeros n := by simp [stage, zeros]
theorem stage_all (at' : List Nat) (i : Nat) (n : GNd) : stage at' i n.len n = full at' i n := by
  unfold stage
  rw [Nat.sub_self, List.replicate_zero, List.append_nil, ← full_len at' i n, List.take_length]
theorem stage_set (at' : List Nat) (i f : Nat) (n : GNd) (x : Int) (hx : (full at' i n)[f]? = some x) : (stage at' i f n).set f x = stage at' i (f + 1) n := by
  have hf : f < n.len := by have := (List.getElem?_eq_some_iff.1 hx).1; rwa [full_len] at this
  unfold stage
  have hl : ((full at' i n).take f).length = f := by rw [List.length_take, full_len]; omega
  rw [List.set_append_right _ _ (by omega), hl, Nat.sub_self, List.take_add_one, hx]
  obtain ⟨m, hm⟩ : ∃ m, n.len - f = m + 1 := ⟨n.len - f - 1, by omega⟩
  rw [hm, List.replicate_succ, List.set_cons_zero, show n.len - (f + 1) = m by omega]
  simp

/-- All words, when so many nodes are told, and so many words of the next one. -/
def wordsAt (at' : List Nat) (ns : List GNd) (i f : Nat) : List (List Int) := ns.mapIdx fun j n => if j < i then full at' j n else if j = i then stage at' j f n else zeros n
theorem wordsAt_at (at' : List Nat) (ns : List GNd) (i f k : Nat) (n : GNd) (h : ns[k]? = some n) : (wordsAt at' ns i f)[k]? = some (if k < i then full at' k n else if k = i then stage at' k f n else zeros n) := by
  simp [wordsAt, List.getElem?_mapIdx, h]
theorem fits_of {ns : List GNd} : ∀ {ws : List (List Int)}, ws.length = ns.length → (∀ (k : Nat) (n : GNd) (w : List Int), ns[k]? = some n → ws[k]? = some w → w.length = n.len) → Fits ns ws := by
  induction ns with
  | nil =>
    intro ws h _
    cases ws with
    | nil => trivial
    | cons w ws => simp at h
  | cons n ns ih =>
    intro ws h hw
    cases ws with
    | nil => simp at h
    | cons w ws => exact ⟨hw 0 n w rfl rfl, ih (by simpa using h) (fun k m u h1 h2 => hw (k + 1) m u (by simpa using h1) (by simpa using h2))⟩
theorem wordsAt_fits (at' : List Nat) (ns : List GNd) (i f : Nat) (h : ∀ n, ns[i]? = some n → f ≤ n.len) : Fits ns (wordsAt at' ns i f) := by
  refine fits_of (by simp [wordsAt]) (fun k n w h1 h2 => ?_)
  rw [wordsAt_at _ _ _ _ _ _ h1] at h2
  cases h2
  split
  · exact full_len _ _ _
  · split
    · rename_i e
      subst e
      exact stage_len _ _ _ _ (h n h1)
    · simp [zeros]
theorem wordsAt_start (at' : List Nat) (ns : List GNd) : wordsAt at' ns 0 0 = ns.map zeros := by
  apply List.ext_getElem?
  intro k
  rw [List.getElem?_map]
  cases h : ns[k]? with
  | none => rw [List.getElem?_eq_none (by have := List.getElem?_eq_none_iff.1 h; simpa [wordsAt] using this)]; rfl
  | some n =>
    rw [wordsAt_at _ _ _ _ _ _ h]
    simp only [Nat.not_lt_zero, if_false, Option.map_some]
    split
    · rw [stage_zero]
    · rfl
theorem wordsAt_next (at' : List Nat) (ns : List GNd) (i : Nat) (n : GNd) (h : ns[i]? = some n) : wordsAt at' ns i n.len = wordsAt at' ns (i + 1) 0 := by
  apply List.ext_getElem?
  intro k
  cases hk : ns[k]? with
  | none => rw [List.getElem?_eq_none (by have := List.getElem?_eq_none_iff.1 hk; simpa [wordsAt] using this), List.getElem?_eq_none (by have := List.getElem?_eq_none_iff.1 hk; simpa [wordsAt] using this)]
  | some m =>
    rw [wordsAt_at _ _ _ _ _ _ hk, wordsAt_at _ _ _ _ _ _ hk]
    congr 1
    by_cases e : k = i
    · subst e
      rw [h] at hk
      cases hk
      rw [if_neg (by omega), if_pos rfl, if_pos (by omega), stage_all]
    · by_cases e2 : k < i
      · rw [if_pos e2, if_pos (by omega)]
      · rw [if_neg e2, if_neg e, if_neg (by omega)]
        split
        · rw [stage_zero]
        · rfl
theorem wordsAt_set (at' : List Nat) (ns : List GNd) (i f : Nat) (n : GNd) (x : Int) (h : ns[i]? = some n) (hx : (full at' i n)[f]? = some x) : (wordsAt at' ns i f).set i ((stage at' i f n).set f x) = wordsAt at' ns i (f + 1) := by
  rw [stage_set _ _ _ _ _ hx]
  apply List.ext_getElem?
  intro k
  have hi : i < ns.length := (List.getElem?_eq_some_iff.1 h).1
  rw [List.getElem?_set]
  by_cases e : i = k
  · subst e
    rw [if_pos rfl, if_pos (by simpa [wordsAt] using hi), wordsAt_at _ _ _ _ _ _ h, if_neg (by omega), if_pos rfl]
  · rw [if_neg e]
    cases hk : ns[k]? with
    | none => rw [List.getElem?_eq_none (by have := List.getElem?_eq_none_iff.1 hk; simpa [wordsAt] using this), List.getElem?_eq_none (by have := List.getElem?_eq_none_iff.1 hk; simpa [wordsAt] using this)]
    | some m =>
      rw [wordsAt_at _ _ _ _ _ _ hk, wordsAt_at _ _ _ _ _ _ hk]
      congr 1
      by_cases e2 : k < i
      · rw [if_pos e2, if_pos e2]
      · rw [if_neg e2, if_neg e2, if_neg (fun h => e h.symm), if_neg (fun h => e h.symm)]
theorem wordsAt_end (at' : List Nat) (ns : List GNd) : wordsAt at' ns ns.length 0 = ns.mapIdx (full at') := by
  apply List.ext_getElem?
  intro k
  cases hk : ns[k]? with
  | none => rw [List.getElem?_eq_none (by have := List.getElem?_eq_none_iff.1 hk; simpa [wordsAt] using this), List.getElem?_eq_none (by have := List.getElem?_eq_none_iff.1 hk; simpa using this)]
  | some m =>
    have : k < ns.length := (List.getElem?_eq_some_iff.1 hk).1
    rw [wordsAt_at _ _ _ _ _ _ hk, if_pos this, List.getElem?_mapIdx, hk]
    rfl

/-- The objects of a graph, and where its nodes lie. -/
def atOf (ns : List GNd) : List Nat := atG 0 0 ns
def obsOf (ns : List GNd) : List Ob := layG 0 ns (ns.mapIdx (full (atOf ns)))
theorem obsOf_fits (ns : List GNd) : Fits ns (ns.mapIdx (full (atOf ns))) := by
  rw [← wordsAt_end]
  exact wordsAt_fits _ _ _ _ (fun n h => Nat.zero_le _)
/-- A reference to a node leads to an object. -/
theorem placeOf_leads {ns : List GNd} {ws : List (List Int)} (h : Fits ns ws) (e : Nat) : leads (layG 0 ns ws) (placeOf (atOf ns) e) = true := by
  unfold placeOf
  cases ha : (atOf ns)[e % ((atOf ns).length + 1)]? with
  | none => simp [leads]
  | some a =>
    obtain ⟨k, hk⟩ : ∃ k, k = e % ((atOf ns).length + 1) := ⟨_, rfl⟩
    rw [← hk] at ha
    have hkl : k < ns.length := by have := (List.getElem?_eq_some_iff.1 ha).1; rwa [atOf, atG_len] at this
    have hf := layG_find 0 0 h ha (List.getElem?_eq_getElem hkl) (List.getElem?_eq_getElem (by rw [h.len]; exact hkl))
    rw [Nat.sub_zero] at hf
    simp only [leads]
    rw [show ((a : Int) + 1 - 1).toNat = a by omega, hf]
    simp only [nodeOb]
    have : (ns[k]).kind % 15 ≠ 15 := by have := Nat.mod_lt (ns[k]).kind (show 0 < 15 by omega); omega
    simp [this]
/-- One word more is told. -/
theorem write_step {ns : List GNd} {k f a : Nat} {n : GNd} {x : Int} (hn : ns[k]? = some n) (ha : (atOf ns)[k]? = some a) (hf : f < n.len) (hx : (full (atOf ns) k n)[f]? = some x) :
    find (layG 0 ns (wordsAt (atOf ns) ns k f)) a = some (nodeOb n (stage (atOf ns) k f n)) ∧ setWord (layG 0 ns (wordsAt (atOf ns) ns k f)) a f x = layG 0 ns (wordsAt (atOf ns) ns k (f + 1)) := by
  have hfit := wordsAt_fits (atOf ns) ns k f (fun m hm => by rw [hn] at hm; cases hm; omega)
  have hw : (wordsAt (atOf ns) ns k f)[k]? = some (stage (atOf ns) k f n) := by
    rw [wordsAt_at _ _ _ _ _ _ hn, if_neg (by omega), if_pos rfl]
  have h1 := layG_find 0 0 hfit ha hn hw
  have h2 := layG_set 0 0 (f := f) (x := x) hfit ha hn hw
  rw [Nat.sub_zero] at h1 h2
  exact ⟨h1, by rw [h2, wordsAt_set _ _ _ _ _ _ hn hx]⟩
theorem atOf_len (ns : List GNd) : (atOf ns).length = ns.length := atG_len 0 0 ns
theorem full_edge {l : List Nat} {i f : Nat} {n : GNd} {e : Nat} (h : n.edges[f]? = some e) : (full l i n)[f]? = some (placeOf l e) := by
  have hf : f < n.edges.length := (List.getElem?_eq_some_iff.1 h).1
  rw [full, List.getElem?_append_left (by simpa using hf), List.getElem?_map, h]
  rfl
theorem full_more {l : List Nat} {i f : Nat} {n : GNd} (h : f < n.more % 4) : (full l i n)[n.edges.length + f]? = some ((100 * i + f : Nat) : Int) := by
  rw [full, List.getElem?_append_right (by simp), List.length_map, Nat.add_sub_cancel_left, List.getElem?_map, List.getElem?_range h]
  rfl
theorem atOf_le {ns : List GNd} {a : Nat} (h : a ∈ atOf ns) : a ≤ tot ns := by
  obtain ⟨k, hk, rfl⟩ := List.getElem_of_mem h
  have hkl : k < ns.length := by rwa [atOf_len] at hk
  have hfit := Fits.zeros ns
  have hf := layG_find 0 0 hfit (List.getElem?_eq_getElem hk) (List.getElem?_eq_getElem hkl) (List.getElem?_eq_getElem (by rw [hfit.len]; exact hkl))
  have h1 := find_lt hf
  have h2 := layG_top 0 hfit
  omega
end Go.Proofs.Ytlphlaenecidiaa.Build
