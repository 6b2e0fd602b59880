/- Tallies of lists of kinds and words: plain lists. -/
import Derived.Test.YtjlcjcgoaakniaaTally2
import Derived.Test.YtjlcjcgoaakniaaOfsP
namespace Go.Proofs.Ytjlcjcgoaakniaa.Tally
open Go.RowKit Go.Proofs.Ytjlcjcgoaakniaa.Obj Go.Proofs.Ytjlcjcgoaakniaa.Ref

/-- What one more counts at a place. -/
def tf (x : Nat × Nat) (i : Nat) : Nat := if i = 2 * x.1 then 1 else if i = 2 * x.1 + 1 then x.2 else 0
/-- The rows of kinds and words. -/
def TF (l : List (Nat × Nat)) (i : Nat) : Nat := (l.map (fun x => tf x i)).sum
theorem TF_nil (i : Nat) : TF [] i = 0 := rfl
theorem TF_cons (x : Nat × Nat) (l : List (Nat × Nat)) (i : Nat) : TF (x :: l) i = tf x i + TF l i := by simp [TF]
theorem TF_snoc (l : List (Nat × Nat)) (x : Nat × Nat) (i : Nat) : TF (l ++ [x]) i = TF l i + tf x i := by simp [TF]
/-- All together. -/
def tot (l : List (Nat × Nat)) : Nat := (l.map (fun x => 1 + x.2)).sum
theorem tot_cons (x : Nat × Nat) (l : List (Nat × Nat)) : tot (x :: l) = 1 + x.2 + tot l := by simp [tot]
theorem tot_append (a b : List (Nat × Nat)) : tot (a ++ b) = tot a + tot b := by simp [tot]
theorem TF_le : ∀ (l : List (Nat × Nat)) (i : Nat), TF l i ≤ tot l
  | [], i => Nat.le_refl _
  | x :: l, i => by
    have := TF_le l i
    rw [TF_cons, tot_cons]
    unfold tf
    split
    · omega
    · split <;> omega
/-- The tally of kinds and words, and of a size. -/
def tal (l : List (Nat × Nat)) (size : Int) (i : Nat) : Int := if i < 32 then (TF l i : Int) else size
theorem wadd_in {a b : Int} (h : -9223372036854775808 ≤ a + b ∧ a + b ≤ 9223372036854775807) : wadd a b = a + b := by
  unfold wadd wrap64
  omega
def sumE (l : List (Nat × Nat)) : Nat → Nat
  | 0 => 0
  | k + 1 => sumE l k + TF l (2 * k)
def sumD (l : List (Nat × Nat)) : Nat → Nat
  | 0 => 0
  | k + 1 => sumD l k + TF l (2 * k + 1)
theorem sumE_cons (x : Nat × Nat) (l : List (Nat × Nat)) : ∀ k, sumE (x :: l) k = sumE l k + if x.1 < k then 1 else 0
  | 0 => rfl
  | k + 1 => by
    rw [sumE, sumE, sumE_cons x l k, TF_cons]
    unfold tf
    repeat' split
    all_goals omega
theorem sumD_cons (x : Nat × Nat) (l : List (Nat × Nat)) : ∀ k, sumD (x :: l) k = sumD l k + if x.1 < k then x.2 else 0
  | 0 => rfl
  | k + 1 => by
    rw [sumD, sumD, sumD_cons x l k, TF_cons]
    unfold tf
    repeat' split
    all_goals omega
theorem sum_all : ∀ (l : List (Nat × Nat)), (∀ x ∈ l, x.1 < 16) → sumE l 16 = l.length ∧ sumD l 16 = (l.map (·.2)).sum
  | [], _ => ⟨rfl, rfl⟩
  | x :: l, h => by
    obtain ⟨h1, h2⟩ := sum_all l (fun y hy => h y (List.mem_cons_of_mem _ hy))
    have hx := h x List.mem_cons_self
    rw [sumE_cons, sumD_cons, h1, h2, if_pos hx, if_pos hx, List.length_cons, List.map_cons, List.sum_cons]
    exact ⟨rfl, by omega⟩
theorem sums_to (l : List (Nat × Nat)) (size : Int) (hb : tot l ≤ 1000000) : ∀ k, k ≤ 16 → sO (tal l size) k = (sumE l k : Int) ∧ sW (tal l size) k = (sumD l k : Int) ∧ sumE l k ≤ k * tot l ∧ sumD l k ≤ k * tot l
  | 0, _ => ⟨rfl, rfl, by simp [sumE], by simp [sumD]⟩
  | k + 1, h => by
    obtain ⟨h1, h2, h3, h4⟩ := sums_to l size hb k (by omega)
    have e1 := TF_le l (2 * k)
    have e2 := TF_le l (2 * k + 1)
    have hk : k * tot l ≤ 16 * 1000000 := Nat.mul_le_mul (by omega) hb
    have hm := Nat.succ_mul k (tot l)
    have t1 : tal l size (2 * k) = (TF l (2 * k) : Int) := by rw [tal, if_pos (by omega)]
    have t2 : tal l size (2 * k + 1) = (TF l (2 * k + 1) : Int) := by rw [tal, if_pos (by omega)]
    rw [sO, sW, sumE, sumD, h1, h2, t1, t2, wadd_in (by omega), wadd_in (by omega)]
    refine ⟨by push_cast; rfl, by push_cast; rfl, ?_, ?_⟩
    · rw [show (k + 1) * tot l = k * tot l + tot l from hm]; omega
    · rw [show (k + 1) * tot l = k * tot l + tot l from hm]; omega
/-- The sums of all rows. -/
theorem sums (l : List (Nat × Nat)) (size : Int) (h : ∀ x ∈ l, x.1 < 16) (hb : tot l ≤ 1000000) : sO (tal l size) 16 = (l.length : Int) ∧ sW (tal l size) 16 = ((l.map (·.2)).sum : Nat) := by
  obtain ⟨h1, h2, _⟩ := sums_to l size hb 16 (Nat.le_refl _)
  obtain ⟨h3, h4⟩ := sum_all l h
  rw [h1, h2, h3, h4]
  exact ⟨rfl, rfl⟩

/-- Objects and nodes as kinds and words. -/
def kw (o : Ob) : Nat × Nat := (o.kind, 1 + o.len)
def kwn (n : Nd) : Nat × Nat := (n.kind.toNat, 1 + n.edges.length + n.words.length)
/-- Those of some places. -/
def kwp (os : List Ob) (p : Nat → Bool) : Nat → List (Nat × Nat)
  | 0 => []
  | n + 1 => kwp os p n ++ (match os[n]? with | some o => if p n then [kw o] else [] | none => [])
theorem TF_kwp (os : List Ob) (p : Nat → Bool) (i : Nat) : ∀ n, TF (kwp os p n) i = sumTo p (fun j => ((os[j]?).map (fun o => tf (kw o) i)).getD 0) n
  | 0 => rfl
  | n + 1 => by
    have h := TF_kwp os p i n
    rw [kwp, sumTo, ← h]
    cases os[n]? with
    | none => simp [TF]
    | some o =>
      by_cases hp : p n = true
      · simp [hp, TF]
      · simp [hp, TF]
theorem kwp_all (os : List Ob) : ∀ n, n ≤ os.length → kwp os (fun _ => true) n = (os.take n).map kw
  | 0, _ => rfl
  | n + 1, h => by
    obtain ⟨o, ho⟩ : ∃ o, os[n]? = some o := ⟨_, List.getElem?_eq_getElem (by omega)⟩
    rw [kwp, kwp_all os n (by omega), List.take_add_one, ho]
    simp
/-- What is reached, told by places, and by nodes. -/
theorem TF_live {os : List Ob} {rs ks : List Int} {nds : List Nd} (hg : ∀ o ∈ os, o.good) (hf : form os rs = some (ks, nds)) {out : List Bool} (ho : ∀ i : Nat, out[i]? = some true ↔ Rch os rs i) (i : Nat) :
    TF (nds.map kwn) i = TF (kwp os (fun j => out.getD j false) os.length) i := by
  obtain ⟨L, F⟩ := form_formed hf
  have hfd : ∀ a ∈ L, ∃ o, find os a = some o := fun a ha => by obtain ⟨o, ho, _⟩ := F.seen.2 a ha; exact ⟨o, ho⟩
  have hnd := nodup_map_ix F.seen.1 hfd
  have hlt : ∀ j ∈ L.map (ixA os), j < os.length := by
    intro j hj
    obtain ⟨a, ha, rfl⟩ := List.mem_map.1 hj
    obtain ⟨o, ho⟩ := hfd a ha
    exact (List.getElem?_eq_some_iff.1 (ixA_some ho).2).1
  have hp : ∀ i, out.getD i false = decide (i ∈ L.map (ixA os)) := by
    intro i
    rw [List.getD_eq_getElem?_getD]
    have h1 := ho i
    rw [rch_iff F] at h1
    by_cases hm : i ∈ L.map (ixA os)
    · rw [h1.2 hm, decide_eq_true hm]; rfl
    · rw [decide_eq_false hm]
      cases hb : out[i]? with
      | none => rfl
      | some b => cases b with
        | false => rfl
        | true => exact absurd (h1.1 hb) hm
  rw [TF_kwp, sumTo_congr (q := fun i => decide (i ∈ L.map (ixA os))) (h := fun j => ((os[j]?).map (fun o => tf (kw o) i)).getD 0) os.length (fun i _ => hp i) (fun _ _ _ => rfl), sumTo_list hnd hlt, TF, F.nodes, List.map_map, List.map_map, List.map_map]
  congr 1
  refine List.map_congr_left (fun a ha => ?_)
  obtain ⟨o, ho⟩ := hfd a ha
  obtain ⟨_, h2, _, _⟩ := hg o (find_mem ho)
  have e : kwn (nodeOf os L a) = kw o := by
    simp only [kwn, nodeOf, ho, kw, List.length_map, List.length_take, List.length_drop, Ob.len, Int.toNat_natCast, Prod.mk.injEq, true_and] at *
    omega
  simp only [Function.comp, e, (ixA_some ho).2, Option.map_some, Option.getD_some]
theorem words_kw (os : List Ob) : ((os.map kw).map (·.2)).sum = top os := by
  induction os with
  | nil => rfl
  | cons o os ih => rw [List.map_cons, List.map_cons, List.sum_cons, ih, top_cons]; simp [kw]
theorem words_kwn (nds : List Nd) : ((nds.map kwn).map (·.2)).sum = nwords nds := by
  induction nds with
  | nil => rfl
  | cons n nds ih => rw [List.map_cons, List.map_cons, List.sum_cons, ih, nwords]; simp [kwn]
end Go.Proofs.Ytjlcjcgoaakniaa.Tally
