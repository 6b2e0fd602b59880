/- A region that draws its order and ends, whatever order comes up, with one same operation: the others by go_region_held's law, the last one apart. No program here. -/
import Derived.StillTail
import Derived.Deep.RegionHeld
namespace Go.Proofs.YtapjajclmbpjmaaGreatDoor.Mem
open Go

section
variable {P : Program} {ops : Array Oper} {Q : Exit → Act → World → Prop} {md : Region.Mode} {S : World → Prop}

/-- The post of all but the last one. -/
def LastQ (P : Program) (ops : Array Oper) (Q : Exit → Act → World → Prop) : Exit → Act → World → Prop
  | .normal, a, w => wpOp P ops Q (ops.size - 1) (fun a w => Q .normal a w) a w
  | e, a, w => Q e a w

/-- Is the last one last in every order? -/
def lastB (md : Region.Mode) (ops : Array Oper) : Bool :=
  decide (0 < ops.size) && Region.sinkB md ops (ops.size - 1) && Region.chainB md ops (ops.size - 1) &&
  (List.range ops.size).all (fun i => ((ops[i]?).map fun o => (o.after.all fun e => !Region.binds md e || decide (e.on < i)) && (match o.guard with | some (j, _) => decide (j < ops.size - 1) | none => true)).getD true)

theorem lastB_edges (h : lastB md ops = true) {i : Nat} {o : Oper} (ho : ops[i]? = some o) : (∀ e ∈ o.after, Region.binds md e = true → e.on < i) ∧ (∀ j b, o.guard = some (j, b) → j < ops.size - 1) := by
  have hi : i < ops.size := (Array.getElem?_eq_some_iff.1 ho).1
  simp only [lastB, Bool.and_eq_true] at h
  have h1 := List.all_eq_true.1 h.2 i (List.mem_range.2 hi)
  rw [ho] at h1
  simp only [Option.map_some, Option.getD_some, Bool.and_eq_true] at h1
  refine ⟨fun e he hb => ?_, fun j b hg => ?_⟩
  · have := Array.all_eq_true'.1 h1.1 e he
    simpa [hb] using this
  · have := h1.2
    rw [hg] at this
    simpa using this

theorem pop_get {i : Nat} (hi : i < ops.size - 1) : ops.pop[i]? = ops[i]? := by
  rw [Array.getElem?_pop, if_pos hi]
theorem push_getD {L : Array Bool} {i : Nat} (d : Bool) (hi : i < L.size) : (L.push false).getD i d = L.getD i d := by
  simp [Array.getElem?_push, Nat.ne_of_lt hi]
theorem push_getD_false {L : Array Bool} {i : Nat} : (L.push false).getD i false = L.getD i false := by
  rcases Nat.lt_trichotomy i L.size with h | h | h
  · exact push_getD false h
  · subst h; simp
  · rw [Array.getD_eq_getD_getElem?, Array.getD_eq_getD_getElem?, Array.getElem?_eq_none (by simp; omega), Array.getElem?_eq_none (by omega)]
theorem push_set {L : Array Bool} {i : Nat} (hi : i < L.size) : (L.push false).setIfInBounds i true = (L.setIfInBounds i true).push false := by
  apply Array.ext_getElem?
  intro j
  simp only [Array.getElem?_setIfInBounds, Array.getElem?_push, Array.size_push, Array.size_setIfInBounds]
  by_cases h : i = j
  · subst h; simp [hi, Nat.ne_of_lt hi, Nat.lt_succ_of_lt hi]
  · simp [h]

theorem upon_Q {o : Oper} {a : Act} {K : Act → World → Prop} {Q' : Exit → Act → World → Prop} (h1 : ∀ c a w, Q' (.panic c) a w → Q (.panic c) a w) (h2 : LetsOut Q' → LetsOut Q) {w : World} (h : o.wp P a w K Q') : o.wp P a w K Q := by
  unfold Oper.wp at *
  generalize (execOp a.eval o).run P w = r at *
  cases r with
  | ok n w' =>
    cases n <;> simp only [Oper.upon] at h ⊢ <;>
      first
        | exact h
        | exact Calls.mono h (fun e w'' he => by cases e <;> first | exact he | exact h1 _ _ _ he | exact h2 he)
  | halt x w' => cases x <;> simp only [Oper.upon] at h ⊢ <;> first | exact h | exact h1 _ _ _ h

theorem outLast : LetsOut (LastQ P ops Q) → LetsOut Q := fun ⟨a, w, h⟩ => ⟨a, w, h⟩

theorem yielded_pop {tmps : Array Value} {j : Nat} (hj : j < ops.size - 1) : yielded ops.pop tmps j = yielded ops tmps j := by
  unfold yielded
  rw [pop_get hj]

theorem wpOp_pop (hB : lastB md ops = true) {i : Nat} (hi : i < ops.size - 1) {K : Act → World → Prop} {a : Act} {w : World} (h : wpOp P ops.pop (LastQ P ops Q) i K a w) : wpOp P ops Q i K a w := by
  unfold wpOp at *
  rw [pop_get hi] at h
  cases ho : ops[i]? with
  | none => rw [ho] at h; exact h
  | some o =>
    rw [ho] at h
    simp only at h ⊢
    have hw : Region.wanted o (yielded ops.pop a.tmps) = Region.wanted o (yielded ops a.tmps) := by
      unfold Region.wanted
      cases hg : o.guard with
      | none => rfl
      | some p =>
        obtain ⟨j, b⟩ := p
        simp only
        rw [yielded_pop ((lastB_edges hB ho).2 j b hg)]
    rw [hw] at h
    split
    · rename_i hy
      rw [if_pos hy] at h
      exact h.imp (upon_Q (fun _ _ _ h => h) outLast) (fun ⟨x, y⟩ => ⟨x, outLast y⟩)
    · rename_i hy
      rw [if_neg hy] at h
      exact h

theorem ready_pop (hB : lastB md ops = true) {L : Array Bool} (hL : HeadInv md ops (ops.size - 1) (L.push false)) (hz : L.size = ops.size - 1) {i : Nat} (hi : i < ops.size - 1) (hun : L.getD i true = false) {j : Nat} :
    j ∈ Region.ready md ops (L.push false) ↔ j ∈ Region.ready md ops.pop L := by
  have hB' := hB
  simp only [lastB, Bool.and_eq_true, decide_eq_true_eq] at hB'
  have hw := tail_waits hB'.1.1.2 hB'.1.2 (by omega) hL (ops.size - 1 - i) i rfl hi (by rw [push_getD true (by omega)]; exact hun)
  rw [mem_ready, mem_ready]
  constructor
  · rintro ⟨h0, o, ho, hall⟩
    have hj : j < ops.size - 1 := by
      rcases Nat.lt_or_ge j (ops.size - 1) with h | h
      · exact h
      · exact absurd (mem_ready.2 ⟨h0, o, ho, hall⟩) (hw j h)
    exact ⟨by rw [push_getD true (by omega)] at h0; exact h0, o, by rw [pop_get hj]; exact ho, fun e he hb => by rw [← push_getD_false]; exact hall e he hb⟩
  · rintro ⟨h0, o, ho, hall⟩
    have hj : j < ops.size - 1 := by
      have := (Array.getElem?_eq_some_iff.1 ho).1
      simpa using this
    exact ⟨by rw [push_getD true (by omega)]; exact h0, o, by rw [pop_get hj] at ho; exact ho, fun e he hb => by rw [push_getD_false]; exact hall e he hb⟩

/-- How many are not yet listed. -/
def open' (L : Array Bool) : Nat := L.toList.countP (· = false)

theorem ready_some (hB : lastB md ops = true) {L : Array Bool} (hz : L.size = ops.size - 1) : ∀ (m i : Nat), i < m → i < ops.size - 1 → L.getD i true = false → ∃ j, j ∈ Region.ready md ops.pop L := by
  intro m
  induction m with
  | zero => intro i h; omega
  | succ m ih =>
    intro i hm hi hun
    by_cases hr : i ∈ Region.ready md ops.pop L
    · exact ⟨i, hr⟩
    · have hio : i < ops.size := by omega
      have ho : ops[i]? = some ops[i] := Array.getElem?_eq_getElem hio
      have hn : ¬ ∀ e ∈ ops[i].after, Region.binds md e = true → L.getD e.on false = true := fun hall => hr (mem_ready.2 ⟨hun, ops[i], by rw [pop_get hi]; exact ho, hall⟩)
      simp only [Classical.not_forall] at hn
      obtain ⟨e, he, hb, hne⟩ := hn
      have hlt := (lastB_edges hB ho).1 e he hb
      refine ih e.on (by omega) (by omega) ?_
      have h1 : L.getD e.on false = false := by simpa using hne
      exact getD_in (by omega) h1

theorem wpAny_last (hB : lastB md ops = true) : ∀ (f : Nat) (L : Array Bool) (a : Act) (w : World), L.size = ops.size - 1 → HeadInv md ops (ops.size - 1) (L.push false) → open' L = f →
    wpAny P md ops.pop (LastQ P ops Q) f L a w → wpAny P md ops Q (f + 1) (L.push false) a w := by
  have hB' := hB
  simp only [lastB, Bool.and_eq_true, decide_eq_true_eq] at hB'
  intro f
  induction f with
  | zero =>
    intro L a w hz hL hf h
    have hall : ∀ i, i < L.size → L.getD i false = true := by
      intro i hi
      unfold open' at hf
      rw [List.countP_eq_zero] at hf
      have := hf L[i] (by simp)
      simp only [decide_eq_true_eq] at this
      simp [hi]
      simpa using this
    have hio : ops.size - 1 < ops.size := by omega
    have ho : ops[ops.size - 1]? = some ops[ops.size - 1] := Array.getElem?_eq_getElem hio
    have hlast : ops.size - 1 ∈ Region.ready md ops (L.push false) := by
      refine mem_ready.2 ⟨?_, _, ho, fun e he hb => ?_⟩
      · rw [← hz]; simp
      · have := (lastB_edges hB ho).1 e he hb
        rw [push_getD_false]
        exact hall _ (by omega)
    refine ⟨(fun h0 => by rw [h0] at hlast; cases hlast), fun i hi => ?_⟩
    obtain ⟨h0, o, hoi, _⟩ := mem_ready.1 hi
    have hil : i < ops.size := (Array.getElem?_eq_some_iff.1 hoi).1
    have hin : i = ops.size - 1 := by
      by_cases e : i = ops.size - 1
      · exact e
      · exfalso
        rw [push_getD true (by omega)] at h0
        have := hall i (by omega)
        rw [getD_both h0] at this
        cases this
    subst hin
    refine wpOp_mono (fun a' w' h' => ⟨?_, h'⟩) h.2
    cases hr : Region.ready md ops ((L.push false).setIfInBounds (ops.size - 1) true) with
    | nil => rfl
    | cons j js =>
      have hj : j ∈ Region.ready md ops ((L.push false).setIfInBounds (ops.size - 1) true) := by rw [hr]; exact List.mem_cons_self
      obtain ⟨hj0, oj, hoj, _⟩ := mem_ready.1 hj
      have hjl : j < ops.size := (Array.getElem?_eq_some_iff.1 hoj).1
      exfalso
      by_cases e : j = ops.size - 1
      · subst e
        rw [Array.getD_eq_getD_getElem?, Array.getElem?_setIfInBounds_self_of_lt (by simp; omega)] at hj0
        cases hj0
      · rw [getD_set_ne true (Ne.symm e), push_getD true (by omega)] at hj0
        have := hall j (by omega)
        rw [getD_both hj0] at this
        cases this
  | succ f ih =>
    intro L a w hz hL hf h
    obtain ⟨i, hi, hun⟩ : ∃ i, i < ops.size - 1 ∧ L.getD i true = false := by
      have h0 : 0 < open' L := by omega
      unfold open' at h0
      obtain ⟨x, hx, hxf⟩ := List.countP_pos_iff.1 h0
      obtain ⟨i, hi, rfl⟩ := List.getElem_of_mem hx
      have hi' : i < L.size := by simpa using hi
      refine ⟨i, by omega, ?_⟩
      simp [hi']
      simpa using hxf
    have hr := fun j => ready_pop (j := j) hB hL hz hi hun
    refine ⟨fun h0 => ?_, fun j hj => ?_⟩
    · obtain ⟨j, hj⟩ := ready_some hB hz (i + 1) i (by omega) hi hun
      have := (hr j).2 hj
      rw [h0] at this
      cases this
    · have hj' := (hr j).1 hj
      obtain ⟨hj0, oj, hoj, _⟩ := mem_ready.1 hj'
      have hjl : j < ops.size - 1 := by
        have := (Array.getElem?_eq_some_iff.1 hoj).1
        simpa using this
      have h1 := wpOp_pop hB hjl (h.2 j hj')
      refine wpOp_mono (fun a' w' h' => ?_) h1
      rw [push_set (by omega)]
      refine ih _ a' w' (by simp [hz]) (by rw [← push_set (by omega)]; exact hL.set hj hjl) ?_ h'
      have hLj : L[j]? = some false := by
        have hjz : j < L.size := by omega
        have h0 := hj0
        simp [hjz] at h0
        rw [Array.getElem?_eq_getElem hjz, h0]
      unfold open' at hf ⊢
      rw [Array.toList_setIfInBounds]
      have hl : L.toList[j]? = some false := by simpa using hLj
      have hcount : ∀ (l : List Bool) (j : Nat), l[j]? = some false → (l.set j true).countP (· = false) + 1 = l.countP (· = false) := by
        intro l
        induction l with
        | nil => intro j h; simp at h
        | cons x l ihl =>
          intro j h
          cases j with
          | zero => simp at h; subst h; simp
          | succ j =>
            rw [List.getElem?_cons_succ] at h
            have := ihl j h
            rw [List.set_cons_succ, List.countP_cons, List.countP_cons]
            omega
      have := hcount _ _ hl
      omega

theorem wp_region_last {id : Nat} {a : Act} {w : World} (hm : P.follows .mixedOrders = true) (hB : lastB .any ops = true) (hS : S w.drew)
    (h : S w.drew → wpAnyH P .any ops.pop (LastQ P ops Q) S (ops.size - 1) (Array.replicate (ops.size - 1) false) a w.drew) : (Code.region id ops true).wp P Q a w := by
  have hB' := hB
  simp only [lastB, Bool.and_eq_true, decide_eq_true_eq] at hB'
  refine wp_region_any hm ?_
  have e : Array.replicate ops.size false = (Array.replicate (ops.size - 1) false).push false := by
    rw [← Array.replicate_succ]
    congr 1
    omega
  rw [e, show ops.size = ops.size - 1 + 1 by omega]
  refine wpAny_last hB _ _ _ _ (by simp) ⟨by simp; omega, fun j oj hoj hl => ?_, fun t ht ht' => ?_⟩ (by simp [open', List.countP_replicate]) (wpAny_of_held _ _ _ _ (h hS))
  · rw [← Array.replicate_succ, getD_replicate_false] at hl
    cases hl
  · rw [← Array.replicate_succ, Array.getD_eq_getD_getElem?, Array.getElem?_replicate, if_pos (by omega)]
    rfl

/-- Take an operation first. -/
theorem take_last {pre : Array Oper} {i : Nat} {oi : Oper} {v : Value} {fuel : Nat} {listed : Array Bool} {a : Act} {w : World} (hi : pre[i]? = some oi)
    (hs : (Region.noSelect pre && (Region.free md pre listed i && (Region.ready md pre listed).contains i)) = true)
    (hQ : ∀ c a w, Q (.panic c) (a.put oi.dst v) w → Q (.panic c) a w) (hw : Region.wanted oi (yielded pre a.tmps) = true) (hS : S w)
    (hy : ∀ w, S w → (execOp a.eval oi).run P w = .ok (.value v) w)
    (h : wpAnyH P md pre (LastQ P ops Q) S fuel (listed.setIfInBounds i true) (a.put oi.dst v) w) : wpAnyH P md pre (LastQ P ops Q) S (fuel + 1) listed a w := by
  simp only [Bool.and_eq_true] at hs
  exact wpAnyH_take hi hs.1 hs.2.1 hs.2.2 (fun c a w h => hQ c a w h) (Or.inl ⟨hw, hy⟩) hS h
/-- The one that may come up. -/
theorem next_last {pre : Array Oper} {i : Nat} {o : Oper} {fuel : Nat} {listed : Array Bool} {a : Act} {w : World} (hi : pre[i]? = some o) (hr : Region.ready md pre listed = [i])
    (h : ∀ K' : Act → World → Prop, Shut (∀ a w, S w → (S w → wpAnyH P md pre Q S fuel (listed.setIfInBounds i true) a w) → K' a w) → if Region.wanted o (yielded pre a.tmps) = true then Oper.wp P o a w K' Q else K' (a.put o.dst undef) w) :
    wpAnyH P md pre Q S (fuel + 1) listed a w :=
  wpAnyH_ready hr (by simp) (AllReadyH.cons hi h AllReadyH.nil)
/-- One of two may come up. -/
theorem both_last {pre : Array Oper} (i j : Nat) {o o' : Oper} {fuel : Nat} {listed : Array Bool} {a : Act} {w : World} (hi : pre[i]? = some o) (hj : pre[j]? = some o') (hr : Region.ready md pre listed = [i, j])
    (h : ∀ K' : Act → World → Prop, Shut (∀ a w, S w → (S w → wpAnyH P md pre Q S fuel (listed.setIfInBounds i true) a w) → K' a w) → if Region.wanted o (yielded pre a.tmps) = true then Oper.wp P o a w K' Q else K' (a.put o.dst undef) w)
    (h' : ∀ K' : Act → World → Prop, Shut (∀ a w, S w → (S w → wpAnyH P md pre Q S fuel (listed.setIfInBounds j true) a w) → K' a w) → if Region.wanted o' (yielded pre a.tmps) = true then Oper.wp P o' a w K' Q else K' (a.put o'.dst undef) w) :
    wpAnyH P md pre Q S (fuel + 1) listed a w :=
  wpAnyH_ready hr (by simp) (AllReadyH.cons hi h (AllReadyH.cons hj h' AllReadyH.nil))
/-- The last one. -/
theorem last_end {o : Oper} {fuel : Nat} {pre : Array Oper} {listed : Array Bool} {a : Act} {w : World} (hr : Region.ready md pre listed = []) (ho : ops[ops.size - 1]? = some o)
    (h : ∀ K' : Act → World → Prop, Shut (∀ a w, Q .normal a w → K' a w) → if Region.wanted o (yielded ops a.tmps) = true then Oper.wp P o a w K' Q else K' (a.put o.dst undef) w) :
    wpAnyH P md pre (LastQ P ops Q) S fuel listed a w :=
  wpAnyH_done hr (show LastQ P ops Q .normal a w from wpOp_step ho (fun K' hK => h K' (fun a w hq => hK a w hq))) fuel
end
end Go.Proofs.YtapjajclmbpjmaaGreatDoor.Mem
