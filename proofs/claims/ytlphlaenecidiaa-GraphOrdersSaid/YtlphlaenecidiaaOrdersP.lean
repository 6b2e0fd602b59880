/- The same graph, laid in another order, has the same form: plain lists, no program here. -/
import Derived.Test.YtlphlaenecidiaaRename
import Derived.Test.YtlphlaenecidiaaBuildP
import Derived.Test.YtlphlaenecidiaaGraphReaches
namespace Go.Proofs.Ytlphlaenecidiaa.Build
open Go.Proofs.Ytlphlaenecidiaa.Obj Go.Proofs.Ytlphlaenecidiaa.Ref

/-- A node's number in the other order. -/
def turned (n k e : Nat) : Nat := if e % (n + 1) = n then n else (e % (n + 1) + n - k) % n
def plainN (x : GNd) : GNd := ⟨x.kind, x.edges, 0⟩
def otherN (n k : Nat) (x : GNd) : GNd := ⟨x.kind, x.edges.map (turned n k), 0⟩
def plainG (ns : List GNd) : List GNd := ns.map plainN
def otherG (ns : List GNd) (k : Nat) : List GNd := (List.range ns.length).map fun i => otherN ns.length k (ns.getD ((i + k) % ns.length) ⟨0, [], 0⟩)

theorem sig_val {n k j : Nat} (hj : j < n) (hk : k < n) : (j + n - k) % n = if j < k then j + n - k else j - k := by
  by_cases h : j < k
  · rw [if_pos h, Nat.mod_eq_of_lt (by omega)]
  · rw [if_neg h, show j + n - k = (j - k) + n by omega, Nat.add_mod_right, Nat.mod_eq_of_lt (by omega)]
theorem sig_lt {n k j : Nat} (_hj : j < n) (hk : k < n) : (j + n - k) % n < n := Nat.mod_lt _ (by omega)
theorem sig_back {n k j : Nat} (hj : j < n) (hk : k < n) : ((j + n - k) % n + k) % n = j := by
  rw [sig_val hj hk]
  by_cases h : j < k
  · rw [if_pos h, show j + n - k + k = j + n by omega, Nat.add_mod_right, Nat.mod_eq_of_lt hj]
  · rw [if_neg h, show j - k + k = j by omega, Nat.mod_eq_of_lt hj]
theorem sig_inj {n k i j : Nat} (hi : i < n) (hj : j < n) (hk : k < n) (h : (i + n - k) % n = (j + n - k) % n) : i = j := by
  rw [← sig_back hi hk, h, sig_back hj hk]

theorem atG_lt : ∀ (i s : Nat) {ns : List GNd} {j j' a a' : Nat}, (atG i s ns)[j]? = some a → (atG i s ns)[j']? = some a' → j < j' → a < a'
  | i, s, [], j, j', a, a', h, _, _ => by simp [atG] at h
  | i, s, n :: ns, 0, j' + 1, a, a', h, h', _ => by
    rw [atG] at h h'
    simp at h
    rw [List.getElem?_cons_succ] at h'
    have := atG_le _ _ h'
    omega
  | i, s, n :: ns, j + 1, j' + 1, a, a', h, h', hl => by
    rw [atG, List.getElem?_cons_succ] at h h'
    exact atG_lt _ _ h h' (by omega)
  | i, s, n :: ns, j, 0, a, a', _, _, hl => by omega
theorem atOf_inj {ns : List GNd} {i j a : Nat} (h : (atOf ns)[i]? = some a) (h' : (atOf ns)[j]? = some a) : i = j := by
  rcases Nat.lt_trichotomy i j with hl | he | hl
  · have := atG_lt 0 0 h h' hl; omega
  · exact he
  · have := atG_lt 0 0 h' h hl; omega
theorem atOf_nodup (ns : List GNd) : (atOf ns).Nodup := by
  refine List.pairwise_iff_getElem.2 (fun i j hi hj hij e => ?_)
  have h1 : (atOf ns)[i]? = some ((atOf ns)[i]) := List.getElem?_eq_getElem hi
  have h2 : (atOf ns)[j]? = some ((atOf ns)[j]) := List.getElem?_eq_getElem hj
  rw [e] at h1
  have := atOf_inj h1 h2
  omega
theorem obsOf_find {ns : List GNd} {j a : Nat} {n : GNd} (ha : (atOf ns)[j]? = some a) (hn : ns[j]? = some n) : find (obsOf ns) a = some (nodeOb n (full (atOf ns) j n)) := by
  have h := layG_find 0 0 (obsOf_fits ns) ha hn (show (ns.mapIdx (full (atOf ns)))[j]? = some (full (atOf ns) j n) by rw [List.getElem?_mapIdx, hn]; rfl)
  rwa [Nat.sub_zero] at h
theorem placeOf_some {l : List Nat} {e a : Nat} (h : l[e % (l.length + 1)]? = some a) : placeOf l e = (a : Int) + 1 := by rw [placeOf, h]
theorem placeOf_none {l : List Nat} {e : Nat} (h : l[e % (l.length + 1)]? = none) : placeOf l e = 0 := by rw [placeOf, h]

theorem obsOf_ptrs {ns : List GNd} {o : Ob} (ho : o ∈ obsOf ns) (x : Int) (hx : x ∈ o.ws.take o.ptrs) : leads (obsOf ns) x = true := by
  rcases mem_layG 0 ho with ⟨h, _⟩ | ⟨k, n, w, h1, h2, rfl⟩
  · rw [h] at hx; simp at hx
  · rw [List.getElem?_mapIdx, h1] at h2
    cases h2
    simp only [nodeOb, full] at hx
    rw [List.take_append_of_le_length (by simp), List.take_of_length_le (by simp)] at hx
    obtain ⟨e, _, rfl⟩ := List.mem_map.1 hx
    exact placeOf_leads (obsOf_fits ns) e

section
variable {ns : List GNd} {k : Nat} (hk : k < ns.length)
include hk
theorem other_at {j : Nat} {x : GNd} (hx : ns[j]? = some x) : (otherG ns k)[(j + ns.length - k) % ns.length]? = some (otherN ns.length k x) := by
  have hj := (List.getElem?_eq_some_iff.1 hx).1
  rw [otherG, List.getElem?_map, List.getElem?_range (sig_lt hj hk), Option.map_some, sig_back hj hk, List.getD_eq_getElem?_getD, hx]
  rfl
theorem otherG_at {j : Nat} {x : GNd} (hj : j < ns.length) (hx : ns[(j + k) % ns.length]? = some x) : (otherG ns k)[j]? = some (otherN ns.length k x) := by
  have _ := hk
  rw [otherG, List.getElem?_map, List.getElem?_range hj, Option.map_some, List.getD_eq_getElem?_getD, hx]
  rfl
theorem otherG_len : (otherG ns k).length = ns.length := by have _ := hk; simp [otherG]
theorem orders_ren : ∃ φ : Nat → Nat, Ren (obsOf (plainG ns)) (obsOf (otherG ns k)) (fun a => a ∈ atOf (plainG ns)) φ ∧ (∀ e, placeOf (atOf (otherG ns k)) (turned ns.length k e) = ren φ (placeOf (atOf (plainG ns)) e)) ∧ ∀ e, GoodRef (fun a => a ∈ atOf (plainG ns)) (placeOf (atOf (plainG ns)) e) := by
  obtain ⟨A, hA⟩ : ∃ A, A = atOf (plainG ns) := ⟨_, rfl⟩
  obtain ⟨B, hB⟩ : ∃ B, B = atOf (otherG ns k) := ⟨_, rfl⟩
  obtain ⟨n, hn⟩ : ∃ n, n = ns.length := ⟨_, rfl⟩
  have hAl : A.length = n := by rw [hA, atOf_len, plainG, List.length_map, hn]
  have hBl : B.length = n := by rw [hB, atOf_len, otherG, List.length_map, List.length_range, hn]
  obtain ⟨φ, hφ⟩ : ∃ φ : Nat → Nat, ∀ j a, A[j]? = some a → B[(j + n - k) % n]? = some (φ a) := by
    refine ⟨fun a => B.getD (((place A a).getD 0 + n - k) % n) 0, fun j a ha => ?_⟩
    have hj := (List.getElem?_eq_some_iff.1 ha).1
    have hp : place A a = some j := place_at (by rw [hA]; exact atOf_nodup _) ha
    have hl : (j + n - k) % n < B.length := by rw [hBl]; exact sig_lt (by omega) (by omega)
    simp only [hp, Option.getD_some, List.getD_eq_getElem?_getD, List.getElem?_eq_getElem hl]
  rw [← hn] at hk
  have key : ∀ e, placeOf B (turned n k e) = ren φ (placeOf A e) := by
    intro e
    unfold turned
    by_cases he : e % (n + 1) = n
    · rw [if_pos he, placeOf_none (by rw [hBl, Nat.mod_eq_of_lt (by omega)]; exact List.getElem?_eq_none (by omega)), placeOf_none (by rw [hAl, he]; exact List.getElem?_eq_none (by omega)), ren_zero]
    · rw [if_neg he]
      have hj : e % (n + 1) < n := by have := Nat.mod_lt e (show 0 < n + 1 by omega); omega
      have ha : A[e % (n + 1)]? = some (A[e % (n + 1)]'(by omega)) := List.getElem?_eq_getElem _
      have hs := sig_lt hj hk
      rw [placeOf_some (l := A) (by rw [hAl]; exact ha), placeOf_some (l := B) (a := φ (A[e % (n + 1)]'(by omega))) (by rw [hBl, Nat.mod_eq_of_lt (a := (e % (n + 1) + n - k) % n) (by omega)]; exact hφ _ _ ha), ren_succ]
  have good : ∀ e, GoodRef (fun a => a ∈ A) (placeOf A e) := by
    intro e
    cases h : A[e % (A.length + 1)]? with
    | none => exact .inl (placeOf_none h)
    | some a => exact .inr ⟨a, List.mem_of_getElem? h, placeOf_some h⟩
  refine ⟨φ, ⟨fun a b ha hb e => ?_, fun a ha => ?_⟩, ?_, ?_⟩
  · rw [← hA] at ha hb
    obtain ⟨i, hi, rfl⟩ := List.getElem_of_mem ha
    obtain ⟨j, hj, rfl⟩ := List.getElem_of_mem hb
    have h1 := hφ i _ (List.getElem?_eq_getElem hi)
    have h2 := hφ j _ (List.getElem?_eq_getElem hj)
    rw [e] at h1
    rw [hB] at h1 h2
    have := atOf_inj h1 h2
    have hij := sig_inj (by omega) (by omega) hk this
    subst hij
    rfl
  · rw [← hA] at ha
    obtain ⟨j, hj, rfl⟩ := List.getElem_of_mem ha
    have hgj : A[j]? = some A[j] := List.getElem?_eq_getElem hj
    have hb := hφ j _ hgj
    obtain ⟨x, hx⟩ : ∃ x, ns[j]? = some x := ⟨_, List.getElem?_eq_getElem (by omega)⟩
    have f1 := obsOf_find (ns := plainG ns) (n := plainN x) (by rw [← hA]; exact hgj) (by rw [plainG, List.getElem?_map, hx]; rfl)
    have f2 := obsOf_find (ns := otherG ns k) (n := otherN n k x) (by rw [← hB]; exact hb) (by rw [hn]; exact other_at (by omega) hx)
    rw [← hA] at f1 ⊢
    rw [← hB] at f2
    have w1 : full A j (plainN x) = x.edges.map (placeOf A) := by simp [full, plainN]
    have w2 : full B ((j + n - k) % n) (otherN n k x) = x.edges.map (fun e => placeOf B (turned n k e)) := by simp [full, otherN, Function.comp_def]
    rw [w1] at f1
    rw [w2] at f2
    refine ⟨_, _, f1, f2, ?_, rfl, by simp [nodeOb, plainN, otherN], ?_, ?_, ?_⟩
    · simp only [nodeOb, plainN]
      have := Nat.mod_lt x.kind (show 0 < 15 by omega)
      omega
    · simp only [nodeOb, plainN]
      rw [List.drop_of_length_le (by simp), List.drop_of_length_le (by simp)]
    · simp only [nodeOb, plainN]
      rw [List.take_of_length_le (by simp), List.take_of_length_le (by simp), List.map_map]
      exact List.map_congr_left (fun e _ => key e)
    · simp only [nodeOb, plainN]
      rw [List.take_of_length_le (by simp)]
      intro y hy
      obtain ⟨e, _, rfl⟩ := List.mem_map.1 hy
      exact good e
  · rw [← hA, ← hB, ← hn]; exact key
  · rw [← hA]; exact good
theorem orders_form (rs : List Nat) : ∃ ks nds, form (obsOf (plainG ns)) (rs.map (placeOf (atOf (plainG ns)))) = some (ks, nds) ∧ form (obsOf (otherG ns k)) ((rs.map (turned ns.length k)).map (placeOf (atOf (otherG ns k)))) = some (ks, nds) := by
  obtain ⟨φ, R, h1, h2⟩ := orders_ren hk
  obtain ⟨ks, nds, hf⟩ : ∃ ks nds, form (obsOf (plainG ns)) (rs.map (placeOf (atOf (plainG ns)))) = some (ks, nds) := by
    refine form_total (fun x hx => ?_) (fun o ho x hx => ?_)
    · obtain ⟨e, _, rfl⟩ := List.mem_map.1 hx
      exact placeOf_leads (obsOf_fits _) e
    · exact obsOf_ptrs ho x hx
  refine ⟨ks, nds, hf, ?_⟩
  have hrs : ∀ x ∈ rs.map (placeOf (atOf (plainG ns))), GoodRef (fun a => a ∈ atOf (plainG ns)) x := by
    intro x hx
    obtain ⟨e, _, rfl⟩ := List.mem_map.1 hx
    exact h2 e
  have e : (rs.map (turned ns.length k)).map (placeOf (atOf (otherG ns k))) = (rs.map (placeOf (atOf (plainG ns)))).map (ren φ) := by
    rw [List.map_map, List.map_map]
    exact List.map_congr_left (fun x _ => h1 x)
  rw [e]
  refine form_ren R hf hrs ?_
  obtain ⟨L, F⟩ := form_formed hf
  have hD : ∀ a ∈ L, a ∈ atOf (plainG ns) := by
    intro a ha
    obtain ⟨l0, hl0, hr⟩ := F.least a ha
    have hgr : ∀ {b : Nat}, GoodRef (fun a => a ∈ atOf (plainG ns)) ((b : Int) + 1) → b ∈ atOf (plainG ns) := by
      rintro b (h | ⟨c, hc, h⟩)
      · omega
      · have : b = c := by omega
        subst this
        exact hc
    clear ha
    induction hr with
    | root h => exact hgr (hrs _ (hl0 _ h))
    | edge h ho hb ih =>
      obtain ⟨o, o', g1, _, _, _, _, _, _, g8⟩ := R.at' _ ih
      rw [g1] at ho
      cases ho
      exact hgr (g8 _ hb)
  have hs : Seen (obsOf (otherG ns k)) (L.map φ) := by
    refine ⟨?_, fun a ha => ?_⟩
    · refine List.pairwise_map.2 (List.Pairwise.imp_of_mem (fun {a b} ha hb hne e => hne (R.inj _ _ (hD _ ha) (hD _ hb) e)) F.seen.1)
    · obtain ⟨b, hb, rfl⟩ := List.mem_map.1 ha
      obtain ⟨o, o', g1, g2, g3, g4, _⟩ := R.at' b (hD b hb)
      exact ⟨o', g2, by rw [g4]; exact g3⟩
  have := hs.len
  rw [List.length_map] at this
  rw [F.len]
  omega
end
end Go.Proofs.Ytlphlaenecidiaa.Build
