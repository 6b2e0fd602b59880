/- A form's own heap: plain lists. -/
import Derived.Test.YtlphlaenecidiaaWords
namespace Go.Proofs.Ytlphlaenecidiaa.Obj
open Go.Proofs.Ytlphlaenecidiaa.Ref

/-- A node's object, of noughts. -/
def blankOb (n : Nd) : Ob := ⟨n.kind.toNat, n.edges.length, List.replicate (n.edges.length + n.words.length) 0⟩
/-- What leads to the node of a number. -/
def refAt (nds : List Nd) (j : Nat) : Int := if j = 0 then 0 else ((nwords (nds.take (j - 1)) + 1 : Nat) : Int)
/-- All of them, up to a node. -/
def refs (nds : List Nd) (k : Nat) : List Int := (List.range (k + 1)).map (refAt nds)
theorem refs_len (nds : List Nd) (k : Nat) : (refs nds k).length = k + 1 := by simp [refs]
theorem refs_zero (nds : List Nd) : refs nds 0 = [0] := rfl
theorem refs_snoc (nds : List Nd) (k : Nat) : refs nds (k + 1) = refs nds k ++ [((nwords (nds.take k) + 1 : Nat) : Int)] := by
  rw [refs, List.range_succ, List.map_append]
  rfl
theorem refs_at (nds : List Nd) {k j : Nat} (h : j ≤ k) : (refs nds k)[j]? = some (refAt nds j) := by
  rw [refs, List.getElem?_map, List.getElem?_range (by omega)]
  rfl
/-- The words of a node's object. -/
def wordsOf (nds : List Nd) (n : Nd) : List Int := n.edges.map (fun e => refAt nds e.toNat) ++ n.words
theorem wordsOf_len (nds : List Nd) (n : Nd) : (wordsOf nds n).length = n.edges.length + n.words.length := by simp [wordsOf]
/-- A node's object, as far as it is filled. -/
def partOb (nds : List Nd) (n : Nd) (f : Nat) : Ob := ⟨n.kind.toNat, n.edges.length, (wordsOf nds n).take f ++ List.replicate (n.edges.length + n.words.length - f) 0⟩
def full (nds : List Nd) (n : Nd) : Ob := ⟨n.kind.toNat, n.edges.length, wordsOf nds n⟩
theorem partOb_zero (nds : List Nd) (n : Nd) : partOb nds n 0 = blankOb n := by simp [partOb, blankOb]
theorem partOb_all (nds : List Nd) (n : Nd) : partOb nds n (n.edges.length + n.words.length) = full nds n := by
  rw [partOb, full, ← wordsOf_len nds, List.take_length, Nat.sub_self]
  simp
theorem partOb_len (nds : List Nd) (n : Nd) {f : Nat} (h : f ≤ n.edges.length + n.words.length) : (partOb nds n f).len = n.edges.length + n.words.length := by
  have := wordsOf_len nds n
  simp only [Ob.len, partOb, List.length_append, List.length_take, List.length_replicate]
  omega
theorem partOb_step (nds : List Nd) (n : Nd) {f : Nat} {x : Int} (h : (wordsOf nds n)[f]? = some x) : { partOb nds n f with ws := (partOb nds n f).ws.set f x } = partOb nds n (f + 1) := by
  have hl := wordsOf_len nds n
  have hf : f < (wordsOf nds n).length := (List.getElem?_eq_some_iff.1 h).1
  simp only [partOb, Ob.mk.injEq, true_and]
  rw [List.set_append_right _ _ (by rw [List.length_take]; omega), List.take_add_one, h, Option.toList_some]
  have e1 : f - ((wordsOf nds n).take f).length = 0 := by rw [List.length_take]; omega
  obtain ⟨m, hm⟩ : ∃ m, n.edges.length + n.words.length - f = m + 1 := ⟨n.edges.length + n.words.length - f - 1, by omega⟩
  rw [e1, hm, List.replicate_succ, List.set_cons_zero, show n.edges.length + n.words.length - (f + 1) = m by omega]
  simp
theorem setWord_mid (ps : List Ob) (o : Ob) (bs : List Ob) (f : Nat) (x : Int) : setWord (ps ++ o :: bs) (top ps) f x = ps ++ { o with ws := o.ws.set f x } :: bs := by
  induction ps with
  | nil => simp [setWord, top_nil]
  | cons p ps ih =>
    rw [List.cons_append, setWord, if_neg (by rw [top_cons]; omega), if_neg (by rw [top_cons]; omega), top_cons, show 1 + p.len + top ps - (1 + p.len) = top ps by omega, ih]
    rfl
theorem find_mid (ps : List Ob) (o : Ob) (bs : List Ob) : find (ps ++ o :: bs) (top ps) = some o := by
  rw [find_append_right (Nat.le_refl _), Nat.sub_self, find_cons, if_pos rfl]
theorem top_map (g : Nd → Ob) : ∀ (l : List Nd), (∀ n ∈ l, (g n).len = n.edges.length + n.words.length) → top (l.map g) = nwords l := by
  intro l
  induction l with
  | nil => intro _; rfl
  | cons n l ih =>
    intro h
    rw [List.map_cons, top_cons, ih (fun m hm => h m (List.mem_cons_of_mem _ hm)), h n List.mem_cons_self, nwords]
    omega
theorem full_len (nds : List Nd) (n : Nd) : (full nds n).len = n.edges.length + n.words.length := wordsOf_len nds n
theorem blankOb_len (n : Nd) : (blankOb n).len = n.edges.length + n.words.length := by simp [Ob.len, blankOb]
/-- All objects while a node is filled. -/
def filling (nds : List Nd) (k : Nat) (n : Nd) (f : Nat) : List Ob := (nds.take k).map (full nds) ++ partOb nds n f :: (nds.drop (k + 1)).map blankOb
/-- All objects behind some nodes. -/
def filled (nds : List Nd) (k : Nat) : List Ob := (nds.take k).map (full nds) ++ (nds.drop k).map blankOb
theorem filled_zero (nds : List Nd) : filled nds 0 = nds.map blankOb := by simp [filled]
theorem filled_all (nds : List Nd) : filled nds nds.length = nds.map (full nds) := by simp [filled]
theorem filling_zero {nds : List Nd} {k : Nat} {n : Nd} (h : nds[k]? = some n) : filling nds k n 0 = filled nds k := by
  have hk := List.getElem?_eq_some_iff.1 h
  rw [filling, filled, partOb_zero, List.drop_eq_getElem_cons hk.1, List.map_cons, hk.2]
theorem filling_all {nds : List Nd} {k : Nat} {n : Nd} (h : nds[k]? = some n) : filling nds k n (n.edges.length + n.words.length) = filled nds (k + 1) := by
  rw [filling, filled, partOb_all, List.take_add_one, h, Option.toList_some, List.map_append, List.append_assoc]
  rfl
theorem filling_top (nds : List Nd) (k : Nat) : top ((nds.take k).map (full nds)) = nwords (nds.take k) := top_map _ _ (fun n _ => full_len nds n)
theorem filling_find (nds : List Nd) (k : Nat) (n : Nd) (f : Nat) : find (filling nds k n f) (nwords (nds.take k)) = some (partOb nds n f) := by
  rw [← filling_top, filling, find_mid]
theorem filling_step (nds : List Nd) (k : Nat) (n : Nd) {f : Nat} {x : Int} (h : (wordsOf nds n)[f]? = some x) : setWord (filling nds k n f) (nwords (nds.take k)) f x = filling nds k n (f + 1) := by
  rw [← filling_top, filling, setWord_mid, partOb_step nds n h, filling]
/-- Where each object is found: kinds and lengths are enough. -/
theorem find_like : ∀ (nds : List Nd) (os : List Ob), os.map (fun o => (o.kind, o.len)) = nds.map (fun n => (n.kind.toNat, n.edges.length + n.words.length)) → ∀ (j : Nat) (n : Nd), nds[j]? = some n → ∃ o, find os (nwords (nds.take j)) = some o ∧ o.kind = n.kind.toNat
  | [], os, _, j, n, hj => by simp at hj
  | m :: nds, [], h, j, n, hj => by simp at h
  | m :: nds, o :: os, h, 0, n, hj => by
    simp at hj
    subst hj
    simp only [List.map_cons, List.cons.injEq, Prod.mk.injEq] at h
    exact ⟨o, by rw [List.take_zero]; rfl, h.1.1⟩
  | m :: nds, o :: os, h, j + 1, n, hj => by
    simp only [List.map_cons, List.cons.injEq, Prod.mk.injEq] at h
    rw [List.getElem?_cons_succ] at hj
    obtain ⟨p, hp, hk⟩ := find_like nds os h.2 j n hj
    refine ⟨p, ?_, hk⟩
    rw [List.take_succ_cons, nwords, find_cons, if_neg (by omega), if_neg (by have := h.1.2; omega), show 1 + m.edges.length + m.words.length + nwords (nds.take j) - (1 + o.len) = nwords (nds.take j) by have := h.1.2; omega]
    exact hp
theorem filling_like {nds : List Nd} {k : Nat} {n : Nd} {f : Nat} (h : nds[k]? = some n) (hf : f ≤ n.edges.length + n.words.length) : (filling nds k n f).map (fun o => (o.kind, o.len)) = nds.map (fun n => (n.kind.toNat, n.edges.length + n.words.length)) := by
  have hk := List.getElem?_eq_some_iff.1 h
  conv => rhs; rw [← List.take_append_drop k nds, List.drop_eq_getElem_cons hk.1, hk.2]
  simp only [filling, List.map_append, List.map_cons, List.map_map, partOb_len nds n hf]
  congr 1
  · exact List.map_congr_left (fun m _ => by rw [Function.comp_apply, full_len]; rfl)
  · congr 1
    exact List.map_congr_left (fun m _ => by rw [Function.comp_apply, blankOb_len]; rfl)
theorem like_leads {nds : List Nd} {os : List Ob} (h : os.map (fun o => (o.kind, o.len)) = nds.map (fun n => (n.kind.toNat, n.edges.length + n.words.length))) (hk : ∀ n ∈ nds, 0 ≤ n.kind ∧ n.kind ≤ 14) {j : Nat} (hj : j ≤ nds.length) : leads os (refAt nds j) = true := by
  unfold leads refAt
  by_cases h0 : j = 0
  · simp [h0]
  · obtain ⟨n, hn⟩ : ∃ n, nds[j - 1]? = some n := ⟨_, List.getElem?_eq_getElem (by omega)⟩
    obtain ⟨o, ho, hok⟩ := find_like nds os h (j - 1) n hn
    have := hk n (List.mem_of_getElem? hn)
    rw [if_neg h0, show (((nwords (nds.take (j - 1)) + 1 : Nat) : Int) - 1).toNat = nwords (nds.take (j - 1)) by omega, ho]
    simp only [hok, Bool.or_eq_true, Bool.and_eq_true, decide_eq_true_eq]
    right
    omega
/-- A form of which there is a heap of a size. -/
structure Right (nds : List Nd) (ks : List Int) (size : Int) : Prop where
  lo : 1 ≤ size
  hi : size ≤ 65536
  each : ∀ n ∈ nds, 0 ≤ n.kind ∧ n.kind ≤ 14 ∧ n.edges.length + n.words.length ≤ 4095
  fits : (nwords nds : Int) ≤ size
  edge : ∀ n ∈ nds, ∀ e ∈ n.edges, 0 ≤ e ∧ e ≤ nds.length
  root : ∀ e ∈ ks, 0 ≤ e ∧ e ≤ nds.length
theorem nwords_mem {nds : List Nd} {k : Nat} {n : Nd} (h : nds[k]? = some n) : nwords (nds.take k) + (1 + n.edges.length + n.words.length) ≤ nwords nds := by
  rw [← nwords_take h]
  exact nwords_take_le nds (k + 1)
end Go.Proofs.Ytlphlaenecidiaa.Obj
