/- Equal slices of numbers: besomlaw16.ints: nothing is made. -/
import Derived.Test.YtlphlaenecidiaaInts
namespace Go.Proofs.Ytlphlaenecidiaa.Ref
open Go.RowKit Go.Proofs.Ytlphlaenecidiaa.Mem Go.Proofs.Ytlphlaenecidiaa.Obj

/-- The loop. -/
def AlikeQ (w : World) (xs ys : List Int) (i : Value) (wr : World) : Prop := ∃ k : Nat, k ≤ xs.length ∧ i = .int .i64 (k : Int) ∧ (∀ j, j < k → xs[j]? = ys[j]?) ∧ ∃ q, wr = w.drewN q

set_option maxHeartbeats 1000000 in
theorem ints_quiet (w : World) (va vb : Value) (xs ys : List Int) (ha : IntsAt w va xs) (hb : IntsAt w vb ys) (hxl : xs.length ≤ 4611686018427387904) (hyl : ys.length ≤ 4611686018427387904) :
    Calls Try.prog 24 #[va, vb] w fun e w' => e = .returned (.bool (decide (xs = ys))) ∧ ∃ q, w' = w.drewN q := by
  obtain ⟨aa, ac, rfl⟩ := ha.form
  obtain ⟨ba, bc, rfl⟩ := hb.form
  have HA := Lib.hid ha
  have HB := Lib.hid hb
  clear ha hb
  by_cases hl : xs.length = ys.length
  · have dl : ((xs.length : Int) != (ys.length : Int)) = false := by rw [bne_eq_false_iff_eq]; omega
    have dl' : (xs.length != ys.length) = false := by rw [bne_eq_false_iff_eq]; exact hl
    have Hl := Lib.hid hl
    clear hl
    go_enter Try.func24, Try.ntmps24
    go_wp2
    go_loopw [13] (fun i wr => AlikeQ w xs ys i wr) (fun i _ => xs.length - (intOf i).toNat)
    case atStart => exact ⟨0, Nat.zero_le _, rfl, (fun j hj => by omega), 0, rfl⟩
    case round =>
      obtain ⟨k, hk, rfl, hsame, hQ⟩ := hrel
      have hU : Upd (fun _ => False) w wr := by obtain ⟨q, rfl⟩ := hQ; exact (Upd.refl _ w).drewN q
      have HS := Lib.hid hsame
      have HU := Lib.hid hQ
      clear hQ
      by_cases hlk : k < xs.length
      · obtain ⟨x, hx⟩ : ∃ x, xs[k]? = some x := ⟨_, List.getElem?_eq_getElem hlk⟩
        obtain ⟨y, hy⟩ : ∃ y, ys[k]? = some y := ⟨_, List.getElem?_eq_getElem (by have := Hl.out; omega)⟩
        obtain ⟨_, _, he, _, hxa⟩ := HA.out.quiet hU
        cases he
        obtain ⟨_, _, he, _, hyb⟩ := HB.out.quiet hU
        cases he
        obtain ⟨b1, o1, rfl, c1, l1⟩ := hxa k x hx
        obtain ⟨b2, o2, rfl, c2, l2⟩ := hyb k y hy
        have d1 : decide ((k : Int) < (xs.length : Int)) = true := decide_eq_true (by omega)
        have d1' : decide (k < xs.length) = true := decide_eq_true hlk
        have i1 : (0 : Int) ≤ (k : Int) := by omega
        have i2 : (k : Int) < (xs.length : Int) := by omega
        have i3 : (k : Int) < (ys.length : Int) := by have := Hl.out; omega
        have HX := Lib.hid hx
        have HY := Lib.hid hy
        clear hsame hU hx hy hxa hyb
        by_cases hxy : x = y
        · have d2 : (x != y) = false := by rw [bne_eq_false_iff_eq]; exact hxy
          have Hxy := Lib.hid hxy
          clear hxy
          go_wp2
          go_quiet (fail)
          have uq : ∃ q, wr.drewN nq = w.drewN q := by obtain ⟨q, hq⟩ := HU.out; exact ⟨q + nq, by rw [hq, World.drewN_drewN]⟩
          generalize wr.drewN nq = wd at *
          have HU2 := Lib.hid (uq)
          clear uq c1 c2
          go_wp2
          go_roundw
          case rel =>
            refine ⟨k + 1, by omega, by go_num, (fun j hj => ?_), HU2.out⟩
            by_cases e : j = k
            · subst e
              rw [HX.out, HY.out, Hxy.out]
            · exact HS.out j (by omega)
          case measure => simp [intOf]; omega
        · have d2 : (x != y) = true := by rw [bne_iff_ne]; exact hxy
          have hne : decide (xs = ys) = false := by
            apply decide_eq_false
            intro e
            subst e
            have := HX.out.symm.trans HY.out
            exact hxy (Option.some.inj this)
          have Hne := Lib.hid hne
          clear hxy hne
          go_wp2
          go_quiet (fail)
          have uq : ∃ q, wr.drewN nq = w.drewN q := by obtain ⟨q, hq⟩ := HU.out; exact ⟨q + nq, by rw [hq, World.drewN_drewN]⟩
          generalize wr.drewN nq = wd at *
          have HU2 := Lib.hid (uq)
          clear uq c1 c2
          go_wp2
          go_ret
          exact ⟨ret_bool Hne.out.symm, HU2.out⟩
      · have hke : k = xs.length := by omega
        subst hke
        have heq : decide (xs = ys) = true := by
          apply decide_eq_true
          apply List.ext_getElem? 
          intro j
          by_cases hj : j < xs.length
          · exact HS.out j hj
          · have := Hl.out
            rw [List.getElem?_eq_none (by omega), List.getElem?_eq_none (by omega)]
        have Heq := Lib.hid heq
        clear heq hsame hU
        go_wp2
        go_ret
        exact ⟨ret_bool Heq.out.symm, HU.out⟩
  · have dl : ((xs.length : Int) != (ys.length : Int)) = true := by rw [bne_iff_ne]; omega
    have dl' : (xs.length != ys.length) = true := by rw [bne_iff_ne]; exact hl
    have hne : decide (xs = ys) = false := decide_eq_false (fun e => hl (by rw [e]))
    have Hne := Lib.hid hne
    clear hne hl
    go_enter Try.func24, Try.ntmps24
    go_wp2
    go_ret
    exact ⟨ret_bool Hne.out.symm, 0, rfl⟩
end Go.Proofs.Ytlphlaenecidiaa.Ref
