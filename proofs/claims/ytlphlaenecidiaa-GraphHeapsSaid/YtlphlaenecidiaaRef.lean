/- The document's heap in memory: objects in a list; what is found in it. -/
import Derived.Test.YtlphlaenecidiaaForm
import Derived.Test.YtlphlaenecidiaaRes
import Derived.Test.YtlphlaenecidiaaProg
import Derived.IntWalk
namespace Go.Proofs.Ytlphlaenecidiaa.Ref
open Go.RowKit Go.Proofs.Ytlphlaenecidiaa.Mem Go.Proofs.Ytlphlaenecidiaa.Obj

/-- A slice that reads as numbers. -/
def IntsAt (w : World) (v : Value) (xs : List Int) : Prop := ∃ (a : Option Addr) (cap : Nat), v = .slice a xs.length cap ∧ xs.length ≤ cap ∧ ∀ (j : Nat) (x : Int), xs[j]? = some x → ∃ b off, a = some ⟨b, off, none⟩ ∧ w.cell? ⟨b, off + j, none⟩ = some (.int .i64 x) ∧ b < w.heap.size
theorem IntsAt.quiet {w w' : World} {v : Value} {xs : List Int} (h : IntsAt w v xs) (u : Upd (fun _ => False) w w') : IntsAt w' v xs := by
  obtain ⟨a, cap, rfl, hc, hx⟩ := h
  refine ⟨a, cap, rfl, hc, fun j x hj => ?_⟩
  obtain ⟨b, off, e, h1, h2⟩ := hx j x hj
  refine ⟨b, off, e, ?_, Nat.lt_of_lt_of_le h2 u.size⟩
  rw [World.cell?, u.block b h2 (fun h => h)]
  exact h1

/-- Objects, with their words' slices, from an address on, as cells. -/
def ocells : Nat → List (Ob × Value) → List Value
  | _, [] => []
  | s, (o, v) :: l => [.int .i64 (s : Int), .int .i64 (o.kind : Int), .int .i64 (o.len : Int), .int .i64 (o.ptrs : Int), v] ++ ocells (s + (1 + o.len)) l
/-- The addresses of objects. -/
def addrs : Nat → List Ob → List Nat
  | _, [] => []
  | s, o :: l => s :: addrs (s + (1 + o.len)) l
theorem addrs_len : ∀ (s : Nat) (l : List Ob), (addrs s l).length = l.length
  | _, [] => rfl
  | s, o :: l => by simp [addrs, addrs_len]
theorem ocells_len : ∀ (s : Nat) (l : List (Ob × Value)), (ocells s l).length = l.length * 5
  | _, [] => rfl
  | s, (o, v) :: l => by simp only [ocells, List.length_append, List.length_cons, List.length_nil, ocells_len]; omega
/-- The cells of one. -/
theorem ocells_at : ∀ (s : Nat) (l : List (Ob × Value)) (i : Nat) (o : Ob) (v : Value), l[i]? = some (o, v) → ∃ a, (addrs s (l.map (·.1)))[i]? = some a ∧
    (ocells s l)[i * 5]? = some (.int .i64 (a : Int)) ∧ (ocells s l)[i * 5 + 1]? = some (.int .i64 (o.kind : Int)) ∧ (ocells s l)[i * 5 + 2]? = some (.int .i64 (o.len : Int)) ∧ (ocells s l)[i * 5 + 3]? = some (.int .i64 (o.ptrs : Int)) ∧ (ocells s l)[i * 5 + 4]? = some v
  | s, [], i, o, v, h => by simp at h
  | s, (o', v') :: l, 0, o, v, h => by
    simp at h
    obtain ⟨rfl, rfl⟩ := h
    exact ⟨s, rfl, rfl, rfl, rfl, rfl, rfl⟩
  | s, (o', v') :: l, i + 1, o, v, h => by
    rw [List.getElem?_cons_succ] at h
    obtain ⟨a, h0, h1, h2, h3, h4, h5⟩ := ocells_at (s + (1 + o'.len)) l i o v h
    have e : ∀ k, ([Value.int .i64 (s : Int), .int .i64 (o'.kind : Int), .int .i64 (o'.len : Int), .int .i64 (o'.ptrs : Int), v'] ++ ocells (s + (1 + o'.len)) l)[(i + 1) * 5 + k]? = (ocells (s + (1 + o'.len)) l)[i * 5 + k]? := by
      intro k
      rw [List.getElem?_append_right (by simp; omega)]
      congr 1
      simp
      omega
    refine ⟨a, by simpa [addrs] using h0, ?_, ?_, ?_, ?_, ?_⟩
    · have := e 0; rw [Nat.add_zero, Nat.add_zero] at this; exact this.trans h1
    · exact (e 1).trans h2
    · exact (e 2).trans h3
    · exact (e 3).trans h4
    · exact (e 4).trans h5

/-- The place of the object that begins at an address. -/
def findIdx (s : Nat) : List Ob → Nat → Option Nat
  | [], _ => none
  | o :: l, a => if s = a then some 0 else (findIdx (s + (1 + o.len)) l a).map (· + 1)
theorem findIdx_addr : ∀ (s : Nat) (l : List Ob) (a i : Nat), findIdx s l a = some i → (addrs s l)[i]? = some a ∧ ∀ j, j < i → (addrs s l)[j]? ≠ some a
  | s, [], a, i, h => by cases h
  | s, o :: l, a, i, h => by
    unfold findIdx at h
    split at h
    · rename_i e
      cases h
      subst e
      exact ⟨rfl, fun j hj => by omega⟩
    · rename_i hne
      cases hf : findIdx (s + (1 + o.len)) l a with
      | none => rw [hf] at h; cases h
      | some k =>
        rw [hf] at h
        cases h
        obtain ⟨h1, h2⟩ := findIdx_addr _ l a k hf
        refine ⟨h1, fun j hj => ?_⟩
        cases j with
        | zero =>
          intro h
          exact hne (Option.some.inj h)
        | succ j => exact h2 j (by have : j + 1 < k + 1 := hj; omega)
theorem findIdx_none : ∀ (s : Nat) (l : List Ob) (a : Nat), findIdx s l a = none → ∀ i : Nat, (addrs s l)[i]? ≠ some a
  | s, [], a, _, i => by simp [addrs]
  | s, o :: l, a, h, i => by
    unfold findIdx at h
    split at h
    · cases h
    · rename_i hne
      cases hf : findIdx (s + (1 + o.len)) l a with
      | some k => rw [hf] at h; cases h
      | none =>
        cases i with
        | zero => intro h; exact hne (Option.some.inj h)
        | succ i => exact findIdx_none _ l a hf i
theorem findIdx_find : ∀ (s : Nat) (l : List Ob) (a : Nat), s ≤ a → (findIdx s l a).bind (l[·]?) = find l (a - s)
  | s, [], a, _ => rfl
  | s, o :: l, a, h => by
    rw [find_cons]
    unfold findIdx
    by_cases e : s = a
    · rw [if_pos e, if_pos (by omega)]
      rfl
    · rw [if_neg e, if_neg (by omega)]
      by_cases h2 : a - s < 1 + o.len
      · rw [if_pos h2]
        have : findIdx (s + (1 + o.len)) l a = none := by
          have : ∀ (l : List Ob) (t : Nat), a < t → findIdx t l a = none := by
            intro l
            induction l with
            | nil => intros; rfl
            | cons p l ih => intro t ht; unfold findIdx; rw [if_neg (by omega), ih _ (by omega)]; rfl
          exact this l _ (by omega)
        rw [this]
        rfl
      · rw [if_neg h2, show a - s - (1 + o.len) = a - (s + (1 + o.len)) by omega, ← findIdx_find (s + (1 + o.len)) l a (by omega)]
        cases findIdx (s + (1 + o.len)) l a <;> rfl
theorem findIdx_some {l : List Ob} {a i : Nat} (h : findIdx 0 l a = some i) : ∃ o, l[i]? = some o ∧ find l a = some o := by
  have h1 := findIdx_find 0 l a (Nat.zero_le _)
  rw [h, Nat.sub_zero] at h1
  have h2 := (findIdx_addr 0 l a i h).1
  have h3 : i < l.length := by have := (List.getElem?_eq_some_iff.1 h2).1; rwa [addrs_len] at this
  refine ⟨l[i], List.getElem?_eq_getElem h3, ?_⟩
  rw [← h1, Option.bind_some, List.getElem?_eq_getElem h3]
theorem findIdx_no {l : List Ob} {a : Nat} (h : findIdx 0 l a = none) : find l a = none := by
  have h1 := findIdx_find 0 l a (Nat.zero_le _)
  rw [h, Nat.sub_zero] at h1
  exact h1.symm

/-- The document's heap lies there: its list of objects. -/
structure RefAt (w : World) (base : Nat) (v : Value) (os : List Ob) : Prop where
  rows : ∃ L : List (Ob × Value), L.map (·.1) = os ∧ w.ownsRow base 55 5 v os.length (ocells 0 L) ∧ ∀ p ∈ L, IntsAt w p.2 p.1.ws
  few : os.length ≤ 65536
  good : ∀ o ∈ os, o.good
theorem RefAt.quiet {w w' : World} {base : Nat} {v : Value} {os : List Ob} (h : RefAt w base v os) (u : Upd (fun _ => False) w w') : RefAt w' base v os := by
  obtain ⟨L, h1, h2, h3⟩ := h.rows
  exact ⟨⟨L, h1, own_upd h2 u (fun _ _ h => h), fun p hp => (h3 p hp).quiet u⟩, h.few, h.good⟩
/-- The cells of one object. -/
theorem RefAt.at' {w : World} {base : Nat} {g n cap : Nat} {os : List Ob} (h : RefAt w base (.slice (some ⟨g, 0, none⟩) n cap) os) {i : Nat} {o : Ob} (hi : os[i]? = some o) :
    ∃ (a : Nat) (v : Value), (addrs 0 os)[i]? = some a ∧ IntsAt w v o.ws ∧ w.cell? ⟨g, i * 5, none⟩ = some (.int .i64 (a : Int)) ∧ w.cell? ⟨g, i * 5 + 1, none⟩ = some (.int .i64 (o.kind : Int)) ∧ w.cell? ⟨g, i * 5 + 2, none⟩ = some (.int .i64 (o.len : Int)) ∧
      w.cell? ⟨g, i * 5 + 3, none⟩ = some (.int .i64 (o.ptrs : Int)) ∧ w.cell? ⟨g, i * 5 + 4, none⟩ = some v := by
  obtain ⟨L, rfl, h2, h3⟩ := h.rows
  rw [List.getElem?_map] at hi
  cases hl : L[i]? with
  | none => rw [hl] at hi; cases hi
  | some p =>
    obtain ⟨o', v⟩ := p
    rw [hl] at hi
    cases hi
    obtain ⟨a, e0, e1, e2, e3, e4, e5⟩ := ocells_at 0 L i o' v hl
    have hn : n = (L.map (·.1)).length := by
      rcases h2.2 with ⟨hv, _⟩ | ⟨g', cap', cur, hv, _⟩
      · cases hv
      · cases hv; rfl
    rw [← hn] at h2
    exact ⟨a, v, e0, h3 _ (List.mem_of_getElem? hl), own_at h2 _ e1, own_at h2 _ e2, own_at h2 _ e3, own_at h2 _ e4, own_at h2 _ e5⟩
theorem RefAt.form {w : World} {base : Nat} {v : Value} {os : List Ob} (h : RefAt w base v os) : ∃ a cap, v = .slice a os.length cap := by
  obtain ⟨L, rfl, h2, h3⟩ := h.rows
  rcases h2.2 with ⟨hv, h0⟩ | ⟨g, cap, cur, rfl, _⟩
  · exact ⟨none, 0, by rw [hv, h0]⟩
  · exact ⟨_, _, rfl⟩
theorem RefAt.some' {w : World} {base : Nat} {v : Value} {os : List Ob} (h : RefAt w base v os) (hn : 0 < os.length) : ∃ g cap, v = .slice (some ⟨g, 0, none⟩) os.length cap ∧ base ≤ g ∧ g < w.heap.size := by
  obtain ⟨L, rfl, h2, h3⟩ := h.rows
  obtain ⟨g, cap, h1, hb, hl, _⟩ := own_some h2 hn
  exact ⟨g, cap, h1, hb, hl⟩

/-- The heap as a value. -/
abbrev hv (size : Nat) (v : Value) : Value := .agg #[.int .i64 (size : Int), v]

/-- What Find looks for: none is -1. -/
def idxOf (os : List Ob) (x : Int) : Int := if x < 0 then -1 else match findIdx 0 os x.toNat with | some i => (i : Int) | none => -1

/-- The loop. -/
def Seeking (os : List Ob) (x : Int) (i : Value) : Prop := ∃ k : Nat, k ≤ os.length ∧ i = .int .i64 (k : Int) ∧ ∀ j, j < k → ∀ a, (addrs 0 os)[j]? = some a → (a : Int) ≠ x

theorem idxOf_at {os : List Ob} {x : Int} {k a : Nat} (hno : ∀ j, j < k → ∀ a, (addrs 0 os)[j]? = some a → (a : Int) ≠ x) (ha : (addrs 0 os)[k]? = some a) (hx : (a : Int) = x) : idxOf os x = (k : Int) := by
  subst hx
  unfold idxOf
  rw [if_neg (by omega), show ((a : Int)).toNat = a by omega]
  cases hf : findIdx 0 os a with
  | none => exact absurd ha (findIdx_none 0 os a hf k)
  | some i =>
    obtain ⟨h1, h2⟩ := findIdx_addr 0 os a i hf
    have : i = k := by
      rcases Nat.lt_trichotomy i k with h | h | h
      · exact absurd rfl (hno i h a h1)
      · exact h
      · exact absurd ha (h2 k h)
    rw [this]
theorem idxOf_none {os : List Ob} {x : Int} (hno : ∀ j, j < os.length → ∀ a, (addrs 0 os)[j]? = some a → (a : Int) ≠ x) : idxOf os x = -1 := by
  unfold idxOf
  split
  · rfl
  · rename_i h0
    cases hf : findIdx 0 os x.toNat with
    | none => rfl
    | some i =>
      obtain ⟨h1, h2⟩ := findIdx_addr 0 os x.toNat i hf
      have hi : i < os.length := by have := (List.getElem?_eq_some_iff.1 h1).1; rwa [addrs_len] at this
      exact absurd (by omega) (hno i hi _ h1)

set_option maxHeartbeats 1000000 in
theorem find_any (w : World) (base size : Nat) (v : Value) (os : List Ob) (R : RefAt w base v os) (x : Int) :
    Calls Try.prog 31 #[hv size v, .int .i64 x] w fun e w' => e = .returned (.int .i64 (idxOf os x)) ∧ Upd (fun _ => False) w w' := by
  obtain ⟨va, vc, rfl⟩ := R.form
  have hf := R.few
  have hbx := Blk.made w [.int .i64 (size : Int), .slice va os.length vc] 30
  have hu := ((Upd.refl (fun _ => False) w).alloc (.cells #[.int .i64 (size : Int), .slice va os.length vc] 30))
  have HU := Lib.hid hu
  have HR := Lib.hid (R.quiet hu)
  clear hbx hu R
  go_enter Try.func31, Try.ntmps31
  go_wp2
  go_loop [9] (fun i => Seeking os x i) (fun i => os.length - (intOf i).toNat)
  case atStart => exact ⟨0, Nat.zero_le _, rfl, fun j hj => by omega⟩
  case round =>
    obtain ⟨k, hk, rfl, hno⟩ := hrel
    have HNo := Lib.hid hno
    clear hno
    by_cases hlk : k < os.length
    · obtain ⟨o, ho⟩ : ∃ o, os[k]? = some o := ⟨_, List.getElem?_eq_getElem hlk⟩
      obtain ⟨g, cap, he, _, hgl⟩ := HR.out.some' (by omega)
      cases he
      obtain ⟨a, wv, ha, _, e1, _⟩ := HR.out.at' ho
      have d1 : decide ((k : Int) < (os.length : Int)) = true := decide_eq_true (by omega)
      have d1' : decide (k < os.length) = true := decide_eq_true hlk
      have HAd := Lib.hid ha
      clear ho ha
      by_cases hax : (a : Int) = x
      · have d2 : ((a : Int) == x) = true := by rw [beq_iff_eq]; exact hax
        have Hax := Lib.hid hax
        clear hax
        go_wp2
        go_ret
        exact ⟨by rw [idxOf_at HNo.out HAd.out Hax.out]; rfl, HU.out⟩
      · have d2 : ((a : Int) == x) = false := by rw [beq_eq_false_iff_ne]; exact hax
        have Hax := Lib.hid hax
        clear hax
        go_wp2
        go_round
        case rel =>
          refine ⟨k + 1, by omega, by go_num, fun j hj b hb => ?_⟩
          by_cases e : j = k
          · subst e
            rw [HAd.out] at hb
            cases hb
            exact Hax.out
          · exact HNo.out j (by omega) b hb
        case measure => simp [intOf]; omega
    · have hke : k = os.length := by omega
      subst hke
      go_wp2
      go_ret
      exact ⟨by rw [idxOf_none HNo.out]; rfl, HU.out⟩
end Go.Proofs.Ytlphlaenecidiaa.Ref
