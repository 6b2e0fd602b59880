/- There are as many nodes as objects are reached, and as many words: plain lists, no program here. -/
import Derived.Test.YtlphlaenecidiaaReachP
import Derived.Test.YtlphlaenecidiaaRef3
import Derived.Test.YtlphlaenecidiaaWords
namespace Go.Proofs.Ytlphlaenecidiaa.Ref
open Go.Proofs.Ytlphlaenecidiaa.Obj

theorem number_total {os : List Ob} (l : List Nat) {x : Int} (h : leads os x = true) : ∃ p, number os l x = some p := by
  by_cases h0 : x = 0
  · subst h0; exact ⟨(l, 0), by simp [number]⟩
  · cases hn : number os l x with
    | some p => exact ⟨p, rfl⟩
    | none => rw [(number_leads h0).2 hn] at h; cases h
theorem numbers_total {os : List Ob} : ∀ (xs : List Int) (l : List Nat), (∀ x ∈ xs, leads os x = true) → ∃ p, numbers os l xs = some p
  | [], l, _ => ⟨_, rfl⟩
  | x :: xs, l, h => by
    obtain ⟨⟨l', k⟩, h1⟩ := number_total l (h x List.mem_cons_self)
    obtain ⟨⟨l2, ks⟩, h2⟩ := numbers_total xs l' (fun y hy => h y (List.mem_cons_of_mem _ hy))
    exact ⟨(l2, (k : Int) :: ks), by rw [numbers, h1]; simp only [h2]⟩
theorem nodes_total {os : List Ob} (hp : ∀ o ∈ os, ∀ x ∈ o.ws.take o.ptrs, leads os x = true) : ∀ (f : Nat) (l : List Nat) (ns : List Nd), Seen os l → ∃ p, nodes os f l ns = some p
  | 0, l, ns, _ => ⟨_, rfl⟩
  | f + 1, l, ns, hs => by
    unfold nodes
    split
    · rename_i hlt
      have hg : l.getD ns.length 0 = l[ns.length] := by simp [hlt]
      rw [hg]
      obtain ⟨o, ho, _⟩ := hs.2 _ (List.getElem_mem hlt)
      rw [ho]
      simp only
      obtain ⟨⟨l', es⟩, hn⟩ := numbers_total (o.ws.take o.ptrs) l (hp o (find_mem ho))
      have hs' := (numbers_found hs hn).1
      unfold node
      rw [hn]
      simp only
      exact nodes_total hp f l' _ hs'
    · exact ⟨_, rfl⟩
theorem form_total {os : List Ob} {rs : List Int} (hr : ∀ x ∈ rs, leads os x = true) (hp : ∀ o ∈ os, ∀ x ∈ o.ws.take o.ptrs, leads os x = true) : ∃ ks nds, form os rs = some (ks, nds) := by
  obtain ⟨⟨l, ks⟩, hn⟩ := numbers_total rs [] hr
  obtain ⟨⟨l2, nds⟩, h2⟩ := nodes_total hp (top os + 1) l [] (numbers_found (Seen.nil os) hn).1
  exact ⟨ks, nds, by unfold form; rw [hn]; simp only [h2]; rfl⟩

/-- A sum over the places that are marked. -/
def sumTo (p : Nat → Bool) (g : Nat → Nat) : Nat → Nat
  | 0 => 0
  | n + 1 => sumTo p g n + (if p n then g n else 0)
theorem sumTo_congr {p q : Nat → Bool} {g h : Nat → Nat} : ∀ n, (∀ i, i < n → p i = q i) → (∀ i, i < n → p i = true → g i = h i) → sumTo p g n = sumTo q h n
  | 0, _, _ => rfl
  | n + 1, h1, h2 => by
    rw [sumTo, sumTo, sumTo_congr n (fun i hi => h1 i (by omega)) (fun i hi => h2 i (by omega)), ← h1 n (by omega)]
    cases hp : p n with
    | false => rfl
    | true => simp only [if_true]; rw [h2 n (by omega) hp]
theorem sumTo_ins {p : Nat → Bool} {g : Nat → Nat} {j : Nat} (hj : p j = false) : ∀ n, j < n → sumTo (fun i => decide (i = j) || p i) g n = sumTo p g n + g j
  | 0, h => by omega
  | n + 1, h => by
    by_cases e : j = n
    · subst e
      rw [sumTo, sumTo, sumTo_congr (p := fun i => decide (i = j) || p i) (q := p) j (fun i hi => by rw [decide_eq_false (by omega), Bool.false_or]) (fun _ _ _ => rfl)]
      simp [hj]
    · rw [sumTo, sumTo, sumTo_ins hj n (by omega), show (decide (n = j) || p n) = p n by rw [decide_eq_false (fun h => e h.symm), Bool.false_or]]
      omega
theorem sumTo_none (g : Nat → Nat) : ∀ n, sumTo (fun _ => false) g n = 0
  | 0 => rfl
  | n + 1 => by rw [sumTo, sumTo_none g n]; rfl
theorem sumTo_list {g : Nat → Nat} {n : Nat} : ∀ {l : List Nat}, l.Nodup → (∀ j ∈ l, j < n) → sumTo (fun i => decide (i ∈ l)) g n = (l.map g).sum
  | [], _, _ => by
    rw [sumTo_congr (q := fun _ => false) (h := g) n (fun i _ => by simp) (fun _ _ _ => rfl), sumTo_none]
    rfl
  | j :: l, hn, hl => by
    obtain ⟨h1, h2⟩ := List.nodup_cons.1 hn
    rw [sumTo_congr (q := fun i => decide (i = j) || decide (i ∈ l)) (h := g) n (fun i _ => by simp [List.mem_cons]) (fun _ _ _ => rfl), sumTo_ins (by simpa using h1) n (hl j List.mem_cons_self), sumTo_list h2 (fun i hi => hl i (List.mem_cons_of_mem _ hi)), List.map_cons, List.sum_cons]
    omega

theorem sumTo_le {p : Nat → Bool} {g : Nat → Nat} {B : Nat} (hg : ∀ i, g i ≤ B) : ∀ n, sumTo p g n ≤ n * B
  | 0 => by simp [sumTo]
  | n + 1 => by
    have h1 := sumTo_le (p := p) hg n
    have h2 := hg n
    rw [sumTo, Nat.succ_mul]
    split <;> omega
/-- The place of an address. -/
def ixA (os : List Ob) (a : Nat) : Nat := (findIdx 0 os a).getD 0
theorem ixA_some {os : List Ob} {a : Nat} {o : Ob} (h : find os a = some o) : findIdx 0 os a = some (ixA os a) ∧ os[ixA os a]? = some o := by
  cases hi : findIdx 0 os a with
  | none => rw [findIdx_no hi] at h; cases h
  | some i =>
    obtain ⟨o', h1, h2⟩ := findIdx_some hi
    rw [h] at h2
    cases h2
    unfold ixA
    rw [hi]
    exact ⟨rfl, h1⟩
theorem ixA_inj {os : List Ob} {a b : Nat} {o p : Ob} (ha : find os a = some o) (hb : find os b = some p) (h : ixA os a = ixA os b) : a = b := by
  have h1 := (findIdx_addr 0 os a _ (ixA_some ha).1).1
  have h2 := (findIdx_addr 0 os b _ (ixA_some hb).1).1
  rw [h, h2] at h1
  exact (Option.some.inj h1).symm
theorem nodup_map_ix {os : List Ob} : ∀ {l : List Nat}, l.Nodup → (∀ a ∈ l, ∃ o, find os a = some o) → (l.map (ixA os)).Nodup
  | [], _, _ => List.nodup_nil
  | a :: l, hn, hf => by
    obtain ⟨h1, h2⟩ := List.nodup_cons.1 hn
    rw [List.map_cons, List.nodup_cons]
    refine ⟨fun hm => ?_, nodup_map_ix h2 (fun b hb => hf b (List.mem_cons_of_mem _ hb))⟩
    obtain ⟨b, hb, he⟩ := List.mem_map.1 hm
    obtain ⟨o, ho⟩ := hf a List.mem_cons_self
    obtain ⟨p, hp⟩ := hf b (List.mem_cons_of_mem _ hb)
    have := ixA_inj hp ho he
    subst this
    exact h1 hb

theorem rch_iff {os : List Ob} {rs ks : List Int} {nds : List Nd} {L : List Nat} (F : Formed os rs ks nds L) (i : Nat) : Rch os rs i ↔ i ∈ L.map (ixA os) := by
  have hit : ∀ {x : Int} {j : Nat}, OkRef L x → 0 < x → ixOf os x = some j → ∃ a ∈ L, ixA os a = j := by
    intro x j ho h0 hj
    rcases ho with rfl | ⟨a, rfl, ha⟩
    · omega
    · refine ⟨a, ha, ?_⟩
      unfold ixOf at hj
      rw [show ((a : Int) + 1 - 1).toNat = a by omega] at hj
      unfold ixA
      rw [hj]
      rfl
  constructor
  · intro h
    induction h with
    | root hx h0 hi =>
      obtain ⟨a, ha, e⟩ := hit (F.okr _ hx) h0 hi
      exact List.mem_map.2 ⟨a, ha, e⟩
    | edge _ hx h0 hj ih =>
      obtain ⟨a, ha, e⟩ := List.mem_map.1 ih
      obtain ⟨o, ho, _⟩ := F.seen.2 a ha
      have h1 := (ixA_some ho).2
      rw [e] at h1
      unfold ptrsOf at hx
      rw [h1] at hx
      obtain ⟨b, hb, e2⟩ := hit (F.closed a ha o ho _ hx) h0 hj
      exact List.mem_map.2 ⟨b, hb, e2⟩
  · intro h
    obtain ⟨a, ha, rfl⟩ := List.mem_map.1 h
    obtain ⟨l0, hl0, hr⟩ := F.least a ha
    have key : ∀ b, Reached os l0 b → (∃ o, find os b = some o) → Rch os rs (ixA os b) := by
      intro b hb
      induction hb with
      | @root b hm =>
        rintro ⟨o, ho⟩
        refine .root (hl0 b hm) (by omega) ?_
        unfold ixOf
        rw [show ((b : Int) + 1 - 1).toNat = b by omega]
        exact (ixA_some ho).1
      | @edge c b p hc hp hx ih =>
        rintro ⟨o, ho⟩
        have h1 := ih ⟨p, hp⟩
        refine .edge h1 (x := (b : Int) + 1) ?_ (by omega) ?_
        · unfold ptrsOf
          rw [(ixA_some hp).2]
          exact hx
        · unfold ixOf
          rw [show ((b : Int) + 1 - 1).toNat = b by omega]
          exact (ixA_some ho).1
    obtain ⟨o, ho, _⟩ := F.seen.2 a ha
    exact key a hr ⟨o, ho⟩

theorem nwords_sum : ∀ (l : List Nd), nwords l = (l.map fun n => 1 + n.edges.length + n.words.length).sum
  | [] => rfl
  | n :: l => by rw [nwords, nwords_sum l, List.map_cons, List.sum_cons]
/-- As many nodes, and as many words. -/
theorem reach_counts {os : List Ob} {rs ks : List Int} {nds : List Nd} (hg : ∀ o ∈ os, o.good) (hf : form os rs = some (ks, nds)) {out : List Bool} (ho : ∀ i : Nat, out[i]? = some true ↔ Rch os rs i) :
    nds.length = sumTo (fun i => out.getD i false) (fun _ => 1) os.length ∧ nwords nds = sumTo (fun i => out.getD i false) (fun i => 1 + ((os[i]?).map Ob.len).getD 0) os.length ∧ ks.length = rs.length := by
  obtain ⟨L, F⟩ := form_formed hf
  have hfd : ∀ a ∈ L, ∃ o, find os a = some o := fun a ha => by obtain ⟨o, ho, _⟩ := F.seen.2 a ha; exact ⟨o, ho⟩
  have hnd := nodup_map_ix F.seen.1 hfd
  have hlt : ∀ j ∈ L.map (ixA os), j < os.length := by
    intro j hj
    obtain ⟨a, ha, rfl⟩ := List.mem_map.1 hj
    obtain ⟨o, ho⟩ := hfd a ha
    exact (List.getElem?_eq_some_iff.1 (ixA_some ho).2).1
  have hp : ∀ i, out.getD i false = decide (i ∈ L.map (ixA os)) := by
    intro i
    rw [List.getD_eq_getElem?_getD]
    have h1 := ho i
    rw [rch_iff F] at h1
    by_cases hm : i ∈ L.map (ixA os)
    · rw [h1.2 hm, decide_eq_true hm]; rfl
    · rw [decide_eq_false hm]
      cases hb : out[i]? with
      | none => rfl
      | some b => cases b with
        | false => rfl
        | true => exact absurd (h1.1 hb) hm
  refine ⟨?_, ?_, by rw [F.roots, List.length_map]⟩
  · rw [sumTo_congr (q := fun i => decide (i ∈ L.map (ixA os))) (h := fun _ => 1) os.length (fun i _ => hp i) (fun _ _ _ => rfl), sumTo_list hnd hlt, F.len, List.map_map]
    have : ∀ l : List Nat, (l.map ((fun _ => 1) ∘ ixA os)).sum = l.length := by
      intro l
      induction l with
      | nil => rfl
      | cons a l ih => rw [List.map_cons, List.sum_cons, ih, List.length_cons, Function.comp]; omega
    rw [this]
  · rw [sumTo_congr (q := fun i => decide (i ∈ L.map (ixA os))) (h := fun i => 1 + ((os[i]?).map Ob.len).getD 0) os.length (fun i _ => hp i) (fun _ _ _ => rfl), sumTo_list hnd hlt, nwords_sum, F.nodes, List.map_map, List.map_map]
    congr 1
    refine List.map_congr_left (fun a ha => ?_)
    obtain ⟨o, ho⟩ := hfd a ha
    obtain ⟨_, h2, _, _⟩ := hg o (find_mem ho)
    simp only [Function.comp, nodeOf, ho, (ixA_some ho).2, Option.map_some, Option.getD_some, List.length_map, List.length_take, List.length_drop, Ob.len] at *
    omega
end Go.Proofs.Ytlphlaenecidiaa.Ref
