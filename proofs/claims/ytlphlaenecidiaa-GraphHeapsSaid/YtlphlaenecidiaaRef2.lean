/- The document's heap: what a word leads to; what was found. -/
import Derived.Test.YtlphlaenecidiaaRef
import Derived.Test.YtlphlaenecidiaaApp
namespace Go.Proofs.Ytlphlaenecidiaa.Ref
open Go.RowKit Go.Proofs.Ytlphlaenecidiaa.Mem Go.Proofs.Ytlphlaenecidiaa.Obj

theorem ret_bool {a b : Bool} (h : a = b) : Ending.returned (.bool a) = .returned (.bool b) := by rw [h]

theorem leads_idx (os : List Ob) (x : Int) (hx : 0 < x) : leads os x = match findIdx 0 os (x - 1).toNat with | some i => (match os[i]? with | some o => decide (o.kind ≠ 15) | none => false) | none => false := by
  unfold leads
  rw [decide_eq_false (by omega), Bool.false_or, decide_eq_true hx, Bool.true_and]
  have h := findIdx_find 0 os (x - 1).toNat (Nat.zero_le _)
  rw [Nat.sub_zero] at h
  rw [← h]
  cases findIdx 0 os (x - 1).toNat with
  | none => rfl
  | some i => rfl

set_option maxHeartbeats 1000000 in
theorem leads_any (w : World) (base size : Nat) (v : Value) (os : List Ob) (R : RefAt w base v os) (x : Int) (hx64 : x ≤ 9223372036854775807) :
    Calls Try.prog 49 #[hv size v, .int .i64 x] w fun e w' => e = .returned (.bool (leads os x)) ∧ Upd (fun _ => False) w w' := by
  obtain ⟨va, vc, rfl⟩ := R.form
  have hbx := Blk.made w [.int .i64 (size : Int), .slice va os.length vc] 30
  have hu := ((Upd.refl (fun _ => False) w).alloc (.cells #[.int .i64 (size : Int), .slice va os.length vc] 30))
  by_cases h0 : x ≤ 0
  · have d0 : decide (x ≤ 0) = true := decide_eq_true h0
    have hl : leads os x = (x == 0) := by
      unfold leads
      by_cases e : x = 0
      · rw [decide_eq_true e, Bool.true_or]; exact (beq_iff_eq.2 e).symm
      · rw [decide_eq_false e, Bool.false_or, decide_eq_false (by omega), Bool.false_and]; exact (beq_eq_false_iff_ne.2 e).symm
    have HL := Lib.hid hl
    have HU := Lib.hid hu
    clear hbx hl hu
    go_enter Try.func49, Try.ntmps49
    go_wp2
    go_ret
    exact ⟨ret_bool HL.out.symm, HU.out⟩
  · have d0 : decide (x ≤ 0) = false := decide_eq_false h0
    have hl := leads_idx os x (by omega)
    have HF := Lib.hid (find_any _ base size _ os (R.quiet hu) (x - 1))
    have HU := Lib.hid hu
    have HB := Lib.hid hbx
    have HR := Lib.hid R
    have m1 : 0 < x := by omega
    cases hf : findIdx 0 os (x - 1).toNat with
    | none =>
      rw [hf] at hl
      have hi0 : idxOf os (x - 1) = -1 := by unfold idxOf; rw [if_neg (by omega), hf]
      have HL := Lib.hid hl
      have Hi := Lib.hid hi0
      clear hl hi0 hf hbx hu R
      go_enter Try.func49, Try.ntmps49
      go_wp2_with fail
      refine (HF.out).mono ?_
      rintro e w1 ⟨rfl, hu1⟩
      rw [Hi.out]
      have HU1 := Lib.hid (HU.out.trans hu1)
      clear hu1
      go_wp2
      go_ret
      exact ⟨ret_bool HL.out.symm, HU1.out⟩
    | some i =>
      obtain ⟨o, ho, _⟩ := findIdx_some hf
      rw [hf] at hl
      have hi0 : idxOf os (x - 1) = (i : Int) := by unfold idxOf; rw [if_neg (by omega), hf]
      simp only [ho] at hl
      have hil : i < os.length := (List.getElem?_eq_some_iff.1 ho).1
      have i2 : (i : Int) < (os.length : Int) := by omega
      obtain ⟨g, cap, he, _, hgl⟩ := R.some' (by omega)
      cases he
      have hfew := R.few
      have HL := Lib.hid hl
      have Hi := Lib.hid hi0
      have HO := Lib.hid ho
      clear hl hi0 hf hbx hu R ho
      by_cases hk : o.kind = 15
      · have dk : ((o.kind : Int) != 15) = false := by rw [bne_eq_false_iff_eq]; omega
        have Hk := Lib.hid (show leads os x = false by rw [HL.out]; exact decide_eq_false (by omega))
        clear hk
        go_enter Try.func49, Try.ntmps49
        go_wp2_with fail
        refine (HF.out).mono ?_
        rintro e w1 ⟨rfl, hu1⟩
        rw [Hi.out]
        obtain ⟨a, wv, _, _, _, e2, _⟩ := ((HR.out.quiet HU.out).quiet hu1).at' HO.out
        have b1 := (HB.out.upd hu1 (fun h => h)).cell 1 rfl
        have HU1 := Lib.hid (HU.out.trans hu1)
        clear hu1
        go_wp2
        go_ret
        exact ⟨ret_bool Hk.out.symm, HU1.out⟩
      · have dk : ((o.kind : Int) != 15) = true := by rw [bne_iff_ne]; omega
        have Hk := Lib.hid (show leads os x = true by rw [HL.out]; exact decide_eq_true hk)
        clear hk
        go_enter Try.func49, Try.ntmps49
        go_wp2_with fail
        refine (HF.out).mono ?_
        rintro e w1 ⟨rfl, hu1⟩
        rw [Hi.out]
        obtain ⟨a, wv, _, _, _, e2, _⟩ := ((HR.out.quiet HU.out).quiet hu1).at' HO.out
        have b1 := (HB.out.upd hu1 (fun h => h)).cell 1 rfl
        have HU1 := Lib.hid (HU.out.trans hu1)
        clear hu1
        go_wp2
        go_ret
        exact ⟨ret_bool Hk.out.symm, HU1.out⟩

/-- Addresses as numbers. -/
def adr (l : List Nat) : List Int := l.map fun a : Nat => (a : Int)

/-- place's loop. -/
def Placing (l : List Nat) (x : Nat) (i : Value) : Prop := ∃ k : Nat, k ≤ l.length ∧ i = .int .i64 (k : Int) ∧ ∀ j, j < k → l[j]? ≠ some x

theorem place_first {l : List Nat} : ∀ {k x : Nat}, (∀ j, j < k → l[j]? ≠ some x) → l[k]? = some x → place l x = some k := by
  induction l with
  | nil => intro k x _ h; simp at h
  | cons b l ih =>
    intro k x hno h
    unfold place
    cases k with
    | zero => simp at h; rw [if_pos h]
    | succ k =>
      rw [List.getElem?_cons_succ] at h
      have h0 := hno 0 (by omega)
      rw [if_neg (fun e => h0 (by rw [e]; rfl)), ih (fun j hj => by have := hno (j + 1) (by omega); simpa using this) h]
      rfl
theorem place_not {l : List Nat} {x : Nat} (hno : ∀ j, j < l.length → l[j]? ≠ some x) : place l x = none := by
  cases h : place l x with
  | none => rfl
  | some i =>
    have h1 := place_some h
    exact absurd h1 (hno i (place_lt h))

def placeI (l : List Nat) (x : Nat) : Int := match place l x with | some i => (i : Int) | none => -1
theorem placeI_some {l : List Nat} {x i : Nat} (h : place l x = some i) : placeI l x = (i : Int) := by unfold placeI; rw [h]
theorem placeI_none {l : List Nat} {x : Nat} (h : place l x = none) : placeI l x = -1 := by unfold placeI; rw [h]

set_option maxHeartbeats 1000000 in
theorem place_any (w : World) (v : Value) (l : List Nat) (hv : IntsAt w v (adr l)) (hl : l.length ≤ 300000000) (x : Nat) :
    Calls Try.prog 50 #[v, .int .i64 (x : Int)] w fun e w' => e = .returned (.int .i64 (placeI l x)) ∧ w = w' := by
  obtain ⟨va, vc, rfl, _, hx⟩ := hv
  have hal : (adr l).length = l.length := by simp [adr]
  rw [hal]
  have HX := Lib.hid hx
  clear hx hal
  go_enter Try.func50, Try.ntmps50
  go_wp2
  go_loop [8] (fun i => Placing l x i) (fun i => l.length - (intOf i).toNat)
  case atStart => exact ⟨0, Nat.zero_le _, rfl, fun j hj => by omega⟩
  case round =>
    obtain ⟨k, hk, rfl, hno⟩ := hrel
    have HNo := Lib.hid hno
    clear hno
    by_cases hlk : k < l.length
    · obtain ⟨a, ha⟩ : ∃ a, l[k]? = some a := ⟨_, List.getElem?_eq_getElem hlk⟩
      obtain ⟨b, off, rfl, hc, _⟩ := HX.out k (a : Int) (by simp [adr, ha])
      have d1 : decide ((k : Int) < (l.length : Int)) = true := decide_eq_true (by omega)
      have d1' : decide (k < l.length) = true := decide_eq_true hlk
      have HA := Lib.hid ha
      clear ha
      by_cases hax : a = x
      · have d2 : ((a : Int) == (x : Int)) = true := by rw [beq_iff_eq]; omega
        have d2' : (a == x) = true := by rw [beq_iff_eq]; exact hax
        have Hax := Lib.hid hax
        clear hax
        go_wp2
        go_ret
        exact ⟨by rw [placeI_some (place_first HNo.out (Hax.out ▸ HA.out))]; rfl, rfl⟩
      · have d2 : ((a : Int) == (x : Int)) = false := by rw [beq_eq_false_iff_ne]; omega
        have d2' : (a == x) = false := by rw [beq_eq_false_iff_ne]; exact hax
        have Hax := Lib.hid hax
        clear hax
        go_wp2
        go_round
        case rel =>
          refine ⟨k + 1, by omega, by go_num, fun j hj => ?_⟩
          by_cases e : j = k
          · subst e
            rw [HA.out]
            intro h
            exact Hax.out (Option.some.inj h)
          · exact HNo.out j (by omega)
        case measure => simp [intOf]; omega
    · have hke : k = l.length := by omega
      subst hke
      go_wp2
      go_ret
      exact ⟨by rw [placeI_none (place_not HNo.out)]; rfl, rfl⟩
end Go.Proofs.Ytlphlaenecidiaa.Ref
