/- A region that draws its order and has a head that comes, in whatever order, ahead of the rest: the head by go_region_held's law, the rest as it comes. No program here. -/
import Derived.Test.YtapjajclmbpjmaaGreatDoorLast
namespace Go.Proofs.YtapjajclmbpjmaaGreatDoor.Mem
open Go

section
variable {P : Program} {ops : Array Oper} {Q : Exit → Act → World → Prop} {md : Region.Mode} {S : World → Prop}

def headOf (ops : Array Oper) (n : Nat) : Array Oper := (ops.toList.take n).toArray
def ext (L : Array Bool) (m : Nat) : Array Bool := (L.toList ++ List.replicate m false).toArray
/-- The post of the head. -/
def HeadQ (P : Program) (md : Region.Mode) (ops : Array Oper) (n : Nat) (Q : Exit → Act → World → Prop) : Exit → Act → World → Prop
  | .normal, a, w => wpAny P md ops Q (ops.size - n) (ext (Array.replicate n true) (ops.size - n)) a w
  | e, a, w => Q e a w

/-- Does all behind the head wait for its end? -/
def headB (md : Region.Mode) (ops : Array Oper) (n : Nat) : Bool :=
  decide (n < ops.size) && Region.sinkB md ops n &&
  (List.range ops.size).all (fun t => decide (t ≤ n) || (List.range t).any fun j => decide (n ≤ j) && Region.waitsFor md ops t j) &&
  (List.range n).all (fun i => ((ops[i]?).map fun o => (o.after.all fun e => !Region.binds md e || decide (e.on < i)) && (match o.guard with | some (j, _) => decide (j < n) | none => true)).getD true)

theorem headB_edges {n : Nat} (h : headB md ops n = true) {i : Nat} {o : Oper} (ho : ops[i]? = some o) (hi : i < n) : (∀ e ∈ o.after, Region.binds md e = true → e.on < i) ∧ (∀ j b, o.guard = some (j, b) → j < n) := by
  simp only [headB, Bool.and_eq_true] at h
  have h1 := List.all_eq_true.1 h.2 i (List.mem_range.2 hi)
  rw [ho] at h1
  simp only [Option.map_some, Option.getD_some, Bool.and_eq_true] at h1
  refine ⟨fun e he hb => ?_, fun j b hg => ?_⟩
  · have := Array.all_eq_true'.1 h1.1 e he
    simpa [hb] using this
  · have := h1.2
    rw [hg] at this
    simpa using this

theorem head_size {n : Nat} (h : n ≤ ops.size) : (headOf ops n).size = n := by simp [headOf, h]
theorem head_get {n i : Nat} (hi : i < n) : (headOf ops n)[i]? = ops[i]? := by
  simp [headOf, hi]
theorem ext_getD {L : Array Bool} {m i : Nat} (d : Bool) (hi : i < L.size) : (ext L m).getD i d = L.getD i d := by
  simp only [ext, Array.getD_eq_getD_getElem?, List.getElem?_toArray]
  rw [List.getElem?_append_left (by simpa using hi), Array.getElem?_toList]
theorem ext_getD_false {L : Array Bool} {m i : Nat} : (ext L m).getD i false = L.getD i false := by
  rcases Nat.lt_or_ge i L.size with h | h
  · exact ext_getD false h
  · rw [Array.getD_eq_getD_getElem?, Array.getD_eq_getD_getElem?, Array.getElem?_eq_none h]
    simp only [ext, List.getElem?_toArray]
    rw [List.getElem?_append_right (by simpa using h), List.getElem?_replicate]
    split <;> rfl
theorem ext_set {L : Array Bool} {m i : Nat} (hi : i < L.size) : (ext L m).setIfInBounds i true = ext (L.setIfInBounds i true) m := by
  apply Array.ext'
  simp only [ext, Array.toList_setIfInBounds, List.toList_toArray]
  rw [List.set_append_left _ _ (by simpa using hi)]
theorem ext_size {L : Array Bool} {m : Nat} : (ext L m).size = L.size + m := by simp [ext]

theorem head_waits {n : Nat} {listed : Array Bool} (hB : headB md ops n = true) (inv : HeadInv md ops n listed) :
    ∀ (d i : Nat), n - i = d → i < n → listed.getD i true = false → ∀ t, n ≤ t → t ∉ Region.ready md ops listed := by
  have hB' := hB
  simp only [headB, Bool.and_eq_true, decide_eq_true_eq] at hB'
  obtain ⟨⟨⟨hn, hs⟩, hc⟩, _⟩ := hB'
  intro d
  induction d using Nat.strongRecOn with
  | _ d ih =>
    intro i hd hi hun t ht hr
    obtain ⟨_, ot, hot, hall⟩ := mem_ready.1 hr
    have htlt : t < ops.size := (Array.getElem?_eq_some_iff.1 hot).1
    by_cases htn : t = n
    · subst htn
      have h1 := List.all_eq_true.1 hs i (List.mem_range.2 hi)
      obtain ⟨j, hj, hj2⟩ := List.any_eq_true.1 h1
      simp only [Bool.and_eq_true, decide_eq_true_eq] at hj2
      obtain ⟨oj, hoj, e, he, hb, hon⟩ := Region.waitsFor_spec hj2.2
      have hjle : j ≤ t := by have := List.mem_range.1 hj; omega
      by_cases hjt : j = t
      · subst hjt
        have : oj = ot := Option.some.inj (hoj.symm.trans hot)
        subst this
        have h2 := hall e he hb
        rw [hon, getD_both hun] at h2
        cases h2
      · cases hl : listed.getD j false with
        | true =>
          have h2 := inv.closed j oj hoj hl e he hb
          rw [hon, getD_both hun] at h2
          cases h2
        | false =>
          have hjs : j < listed.size := by rw [inv.size]; omega
          exact ih (t - j) (by omega) j rfl (by omega) (getD_in hjs hl) t (Nat.le_refl _) hr
    · have h1 := List.all_eq_true.1 hc t (List.mem_range.2 htlt)
      simp only [Bool.or_eq_true, decide_eq_true_eq] at h1
      rcases h1 with h1 | h1
      · omega
      · obtain ⟨j, hj, hj2⟩ := List.any_eq_true.1 h1
        simp only [Bool.and_eq_true, decide_eq_true_eq] at hj2
        obtain ⟨o', ho', e, he, hb, hon⟩ := Region.waitsFor_spec hj2.2
        have : o' = ot := Option.some.inj (ho'.symm.trans hot)
        subst this
        have h2 := hall e he hb
        have hjt := List.mem_range.1 hj
        rw [hon, getD_both (inv.tail j hj2.1 (by omega))] at h2
        cases h2

theorem wpOp_head {n : Nat} (hB : headB md ops n = true) {i : Nat} (hi : i < n) {K : Act → World → Prop} {a : Act} {w : World} (h : wpOp P (headOf ops n) (HeadQ P md ops n Q) i K a w) : wpOp P ops Q i K a w := by
  unfold wpOp at *
  rw [head_get hi] at h
  cases ho : ops[i]? with
  | none => rw [ho] at h; exact h
  | some o =>
    rw [ho] at h
    simp only at h ⊢
    have hw : Region.wanted o (yielded (headOf ops n) a.tmps) = Region.wanted o (yielded ops a.tmps) := by
      unfold Region.wanted
      cases hg : o.guard with
      | none => rfl
      | some p =>
        obtain ⟨j, b⟩ := p
        simp only
        unfold yielded
        rw [head_get ((headB_edges hB ho hi).2 j b hg)]
    rw [hw] at h
    split
    · rename_i hy
      rw [if_pos hy] at h
      exact h.imp (upon_Q (fun _ _ _ h => h) (fun ⟨a, w, h⟩ => ⟨a, w, h⟩)) (fun ⟨x, y⟩ => ⟨x, (fun ⟨a, w, h⟩ => ⟨a, w, h⟩ : LetsOut (HeadQ P md ops n Q) → LetsOut Q) y⟩)
    · rename_i hy
      rw [if_neg hy] at h
      exact h

theorem ready_head {n : Nat} (hB : headB md ops n = true) {L : Array Bool} (hL : HeadInv md ops n (ext L (ops.size - n))) (hz : L.size = n) {i : Nat} (hi : i < n) (hun : L.getD i true = false) {j : Nat} :
    j ∈ Region.ready md ops (ext L (ops.size - n)) ↔ j ∈ Region.ready md (headOf ops n) L := by
  have hB' := hB
  simp only [headB, Bool.and_eq_true, decide_eq_true_eq] at hB'
  have hnle : n ≤ ops.size := by omega
  have hw := head_waits hB hL (n - i) i rfl hi (by rw [ext_getD true (by omega)]; exact hun)
  rw [mem_ready, mem_ready]
  constructor
  · rintro ⟨h0, o, ho, hall⟩
    have hj : j < n := by
      rcases Nat.lt_or_ge j n with h | h
      · exact h
      · exact absurd (mem_ready.2 ⟨h0, o, ho, hall⟩) (hw j h)
    exact ⟨by rw [ext_getD true (by omega)] at h0; exact h0, o, by rw [head_get hj]; exact ho, fun e he hb => by have := hall e he hb; rwa [ext_getD_false] at this⟩
  · rintro ⟨h0, o, ho, hall⟩
    have hj : j < n := by
      have := (Array.getElem?_eq_some_iff.1 ho).1
      rwa [head_size hnle] at this
    exact ⟨by rw [ext_getD true (by omega)]; exact h0, o, by rw [head_get hj] at ho; exact ho, fun e he hb => by rw [ext_getD_false]; exact hall e he hb⟩

theorem head_some {n : Nat} (hB : headB md ops n = true) {L : Array Bool} (hz : L.size = n) : ∀ (m i : Nat), i < m → i < n → L.getD i true = false → ∃ j, j ∈ Region.ready md (headOf ops n) L := by
  have hB' := hB
  simp only [headB, Bool.and_eq_true, decide_eq_true_eq] at hB'
  intro m
  induction m with
  | zero => intro i h; omega
  | succ m ih =>
    intro i hm hi hun
    by_cases hr : i ∈ Region.ready md (headOf ops n) L
    · exact ⟨i, hr⟩
    · have hio : i < ops.size := by omega
      have ho : ops[i]? = some ops[i] := Array.getElem?_eq_getElem hio
      have hn : ¬ ∀ e ∈ ops[i].after, Region.binds md e = true → L.getD e.on false = true := fun hall => hr (mem_ready.2 ⟨hun, ops[i], by rw [head_get hi]; exact ho, hall⟩)
      simp only [Classical.not_forall] at hn
      obtain ⟨e, he, hb, hne⟩ := hn
      have hlt := (headB_edges hB ho hi).1 e he hb
      refine ih e.on (by omega) (by omega) ?_
      have h1 : L.getD e.on false = false := by simpa using hne
      exact getD_in (by omega) h1

theorem open_count : ∀ (l : List Bool) (j : Nat), l[j]? = some false → (l.set j true).countP (· = false) + 1 = l.countP (· = false) := by
  intro l
  induction l with
  | nil => intro j h; simp at h
  | cons x l ihl =>
    intro j h
    cases j with
    | zero => simp at h; subst h; simp
    | succ j =>
      rw [List.getElem?_cons_succ] at h
      have := ihl j h
      rw [List.set_cons_succ, List.countP_cons, List.countP_cons]
      omega

theorem wpAny_head {n : Nat} (hB : headB md ops n = true) : ∀ (f : Nat) (L : Array Bool) (a : Act) (w : World), L.size = n → HeadInv md ops n (ext L (ops.size - n)) → open' L = f →
    wpAny P md (headOf ops n) (HeadQ P md ops n Q) f L a w → wpAny P md ops Q (f + (ops.size - n)) (ext L (ops.size - n)) a w := by
  intro f
  induction f with
  | zero =>
    intro L a w hz hL hf h
    have hL2 : L = Array.replicate n true := by
      apply Array.ext
      · simp [hz]
      · intro i h1 h2
        unfold open' at hf
        rw [List.countP_eq_zero] at hf
        have := hf L[i] (by simp)
        simp only [decide_eq_true_eq] at this
        simpa using this
    rw [Nat.zero_add, hL2]
    exact h.2
  | succ f ih =>
    intro L a w hz hL hf h
    obtain ⟨i, hi, hun⟩ : ∃ i, i < n ∧ L.getD i true = false := by
      have h0 : 0 < open' L := by omega
      unfold open' at h0
      obtain ⟨x, hx, hxf⟩ := List.countP_pos_iff.1 h0
      obtain ⟨i, hi, rfl⟩ := List.getElem_of_mem hx
      have hi' : i < L.size := by simpa using hi
      refine ⟨i, by omega, ?_⟩
      simp [hi']
      simpa using hxf
    have hr := fun j => ready_head (j := j) hB hL hz hi hun
    rw [show f + 1 + (ops.size - n) = (f + (ops.size - n)) + 1 by omega]
    refine ⟨fun h0 => ?_, fun j hj => ?_⟩
    · obtain ⟨j, hj⟩ := head_some hB hz (i + 1) i (by omega) hi hun
      have := (hr j).2 hj
      rw [h0] at this
      cases this
    · have hj' := (hr j).1 hj
      obtain ⟨hj0, oj, hoj, _⟩ := mem_ready.1 hj'
      have hB' := hB
      simp only [headB, Bool.and_eq_true, decide_eq_true_eq] at hB'
      have hjl : j < n := by
        have := (Array.getElem?_eq_some_iff.1 hoj).1
        rwa [head_size (by omega)] at this
      have h1 := wpOp_head hB hjl (h.2 j hj')
      refine wpOp_mono (fun a' w' h' => ?_) h1
      rw [ext_set (by omega)]
      refine ih _ a' w' (by simp [hz]) (by rw [← ext_set (by omega)]; exact hL.set hj hjl) ?_ h'
      have hLj : L[j]? = some false := by
        have hjz : j < L.size := by omega
        have h0 := hj0
        simp [hjz] at h0
        rw [Array.getElem?_eq_getElem hjz, h0]
      unfold open' at hf ⊢
      rw [Array.toList_setIfInBounds]
      have hl : L.toList[j]? = some false := by simpa using hLj
      have := open_count _ _ hl
      omega

theorem wp_region_head (n : Nat) {id : Nat} {a : Act} {w : World} (hm : P.follows .mixedOrders = true) (hB : headB .any ops n = true) (hS : S w.drew)
    (h : S w.drew → wpAnyH P .any (headOf ops n) (HeadQ P .any ops n Q) S n (Array.replicate n false) a w.drew) : (Code.region id ops true).wp P Q a w := by
  have hB' := hB
  simp only [headB, Bool.and_eq_true, decide_eq_true_eq] at hB'
  refine wp_region_any hm ?_
  have e : Array.replicate ops.size false = ext (Array.replicate n false) (ops.size - n) := by
    apply Array.ext'
    simp only [ext, Array.toList_replicate, List.replicate_append_replicate]
    congr 1
    omega
  rw [e, show wpAny P .any ops Q ops.size = wpAny P .any ops Q (n + (ops.size - n)) from by rw [show n + (ops.size - n) = ops.size by omega]]
  refine wpAny_head hB _ _ _ _ (by simp) ⟨by rw [ext_size]; simp; omega, fun j oj hoj hl => ?_, fun t ht ht' => ?_⟩ (by simp [open', List.countP_replicate]) (wpAny_of_held _ _ _ _ (h hS))
  · rw [← e, getD_replicate_false] at hl
    cases hl
  · rw [← e, Array.getD_eq_getD_getElem?, Array.getElem?_replicate, if_pos ht']
    rfl

/-- Take an operation of the head first. -/
theorem take_head {pre : Array Oper} {n i : Nat} {oi : Oper} {v : Value} {fuel : Nat} {listed : Array Bool} {a : Act} {w : World} (hi : pre[i]? = some oi)
    (hs : (Region.noSelect pre && (Region.free md pre listed i && (Region.ready md pre listed).contains i)) = true)
    (hQ : ∀ c a w, Q (.panic c) (a.put oi.dst v) w → Q (.panic c) a w) (hw : Region.wanted oi (yielded pre a.tmps) = true) (hS : S w)
    (hy : ∀ w, S w → (execOp a.eval oi).run P w = .ok (.value v) w)
    (h : wpAnyH P md pre (HeadQ P md ops n Q) S fuel (listed.setIfInBounds i true) (a.put oi.dst v) w) : wpAnyH P md pre (HeadQ P md ops n Q) S (fuel + 1) listed a w := by
  simp only [Bool.and_eq_true] at hs
  exact wpAnyH_take hi hs.1 hs.2.1 hs.2.2 (fun c a w h => hQ c a w h) (Or.inl ⟨hw, hy⟩) hS h
/-- Take an operation first, of a region without a head. -/
theorem take_any {pre : Array Oper} {i : Nat} {oi : Oper} {v : Value} {fuel : Nat} {listed : Array Bool} {a : Act} {w : World} (hi : pre[i]? = some oi)
    (hs : (Region.noSelect pre && (Region.free md pre listed i && (Region.ready md pre listed).contains i)) = true)
    (hQ : ∀ c a w, Q (.panic c) (a.put oi.dst v) w → Q (.panic c) a w) (hw : Region.wanted oi (yielded pre a.tmps) = true) (hS : S w)
    (hy : ∀ w, S w → (execOp a.eval oi).run P w = .ok (.value v) w)
    (h : wpAnyH P md pre Q S fuel (listed.setIfInBounds i true) (a.put oi.dst v) w) : wpAnyH P md pre Q S (fuel + 1) listed a w := by
  simp only [Bool.and_eq_true] at hs
  exact wpAnyH_take hi hs.1 hs.2.1 hs.2.2 hQ (Or.inl ⟨hw, hy⟩) hS h
/-- An operation whose guard says no. -/
theorem skip_any {pre : Array Oper} {i : Nat} {oi : Oper} {fuel : Nat} {listed : Array Bool} {a : Act} {w : World} (hi : pre[i]? = some oi)
    (hs : (Region.noSelect pre && (Region.free md pre listed i && (Region.ready md pre listed).contains i)) = true)
    (hQ : ∀ c a w, Q (.panic c) (a.put oi.dst undef) w → Q (.panic c) a w) (hw : Region.wanted oi (yielded pre a.tmps) = false) (hS : S w)
    (h : wpAnyH P md pre Q S fuel (listed.setIfInBounds i true) (a.put oi.dst undef) w) : wpAnyH P md pre Q S (fuel + 1) listed a w := by
  simp only [Bool.and_eq_true] at hs
  exact wpAnyH_take hi hs.1 hs.2.1 hs.2.2 hQ (Or.inr ⟨hw, rfl⟩) hS h
/-- One of three may come up. -/
theorem three_any {pre : Array Oper} (i j k : Nat) {o o' o2 : Oper} {fuel : Nat} {listed : Array Bool} {a : Act} {w : World} (hi : pre[i]? = some o) (hj : pre[j]? = some o') (hk : pre[k]? = some o2) (hr : Region.ready md pre listed = [i, j, k])
    (h : ∀ K' : Act → World → Prop, Shut (∀ a w, S w → (S w → wpAnyH P md pre Q S fuel (listed.setIfInBounds i true) a w) → K' a w) → if Region.wanted o (yielded pre a.tmps) = true then Oper.wp P o a w K' Q else K' (a.put o.dst undef) w)
    (h' : ∀ K' : Act → World → Prop, Shut (∀ a w, S w → (S w → wpAnyH P md pre Q S fuel (listed.setIfInBounds j true) a w) → K' a w) → if Region.wanted o' (yielded pre a.tmps) = true then Oper.wp P o' a w K' Q else K' (a.put o'.dst undef) w)
    (h2 : ∀ K' : Act → World → Prop, Shut (∀ a w, S w → (S w → wpAnyH P md pre Q S fuel (listed.setIfInBounds k true) a w) → K' a w) → if Region.wanted o2 (yielded pre a.tmps) = true then Oper.wp P o2 a w K' Q else K' (a.put o2.dst undef) w) :
    wpAnyH P md pre Q S (fuel + 1) listed a w :=
  wpAnyH_ready hr (by simp) (AllReadyH.cons hi h (AllReadyH.cons hj h' (AllReadyH.cons hk h2 AllReadyH.nil)))
/-- The head's end. -/
theorem head_end {n : Nat} {fuel : Nat} {pre : Array Oper} {listed : Array Bool} {a : Act} {w : World} (hr : Region.ready md pre listed = [])
    (h : wpAny P md ops Q (ops.size - n) (ext (Array.replicate n true) (ops.size - n)) a w) : wpAnyH P md pre (HeadQ P md ops n Q) S fuel listed a w :=
  wpAnyH_done hr (show HeadQ P md ops n Q .normal a w from h) fuel
/-- The one that may come up, of the rest. -/
theorem next_tail {i : Nat} {o : Oper} {fuel : Nat} {listed : Array Bool} {a : Act} {w : World} (hi : ops[i]? = some o) (hr : Region.ready md ops listed = [i])
    (h : ∀ K' : Act → World → Prop, Shut (∀ a w, wpAny P md ops Q fuel (listed.setIfInBounds i true) a w → K' a w) → if Region.wanted o (yielded ops a.tmps) = true then Oper.wp P o a w K' Q else K' (a.put o.dst undef) w) :
    wpAny P md ops Q (fuel + 1) listed a w :=
  wpAny_all hr (by simp) (fun j hj => by rw [List.mem_singleton] at hj; subst hj; exact wpOp_step hi (fun K' hK => h K' (fun a w hq => hK a w hq)))
/-- An operation that only reckons, of the rest. -/
theorem take_tail {i : Nat} {oi : Oper} {v : Value} {fuel : Nat} {listed : Array Bool} {a : Act} {w : World} (hi : ops[i]? = some oi)
    (hs : (Region.noSelect ops && (Region.free md ops listed i && (Region.ready md ops listed).contains i)) = true)
    (hQ : ∀ c a w, Q (.panic c) (a.put oi.dst v) w → Q (.panic c) a w) (hw : Region.wanted oi (yielded ops a.tmps) = true)
    (hy : ∀ w, (execOp a.eval oi).run P w = .ok (.value v) w)
    (h : wpAny P md ops Q fuel (listed.setIfInBounds i true) (a.put oi.dst v) w) : wpAny P md ops Q (fuel + 1) listed a w := by
  simp only [Bool.and_eq_true] at hs
  exact wpAny_take hi hs.1 hs.2.1 hs.2.2 hQ (Or.inl ⟨hw, hy⟩) h
theorem tail_end {fuel : Nat} {listed : Array Bool} {a : Act} {w : World} (hr : Region.ready md ops listed = []) (h : Q .normal a w) : wpAny P md ops Q fuel listed a w := wpAny_done hr h fuel
end
end Go.Proofs.YtapjajclmbpjmaaGreatDoor.Mem
