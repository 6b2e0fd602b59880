/- graph.Same: two forms are the same just if all in them is. -/
import Derived.Test.YtlphlaenecidiaaIs
namespace Go.Proofs.Ytlphlaenecidiaa.Ref
open Go.RowKit Go.Proofs.Ytlphlaenecidiaa.Mem Go.Proofs.Ytlphlaenecidiaa.Obj

set_option maxHeartbeats 1000000 in
theorem sequal_any (w : World) (va vb : Value) (xs ys : List Int) (ha : IntsAt w va xs) (hb : IntsAt w vb ys) (hxl : xs.length ≤ 4611686018427387904) (hyl : ys.length ≤ 4611686018427387904) :
    Calls Try.prog 37 #[va, vb] w fun e w' => e = .returned (.bool (decide (xs = ys))) ∧ Upd (fun _ => False) w w' := by
  obtain ⟨aa, ac, rfl⟩ := ha.form
  obtain ⟨ba, bc, rfl⟩ := hb.form
  have HA := Lib.hid ha
  have HB := Lib.hid hb
  clear ha hb
  by_cases hl : xs.length = ys.length
  · have dl : ((xs.length : Int) != (ys.length : Int)) = false := by rw [bne_eq_false_iff_eq]; omega
    have dl' : (xs.length != ys.length) = false := by rw [bne_eq_false_iff_eq]; exact hl
    have Hl := Lib.hid hl
    clear hl
    go_enter Try.func37, Try.ntmps37
    go_wp2
    go_loopw [13] (fun i wr => Alike w xs ys i wr) (fun i _ => xs.length - (intOf i).toNat)
    case atStart => exact ⟨0, Nat.zero_le _, rfl, (fun j hj => by omega), Upd.refl _ _⟩
    case round =>
      obtain ⟨k, hk, rfl, hsame, hU⟩ := hrel
      have HS := Lib.hid hsame
      have HU := Lib.hid hU
      by_cases hlk : k < xs.length
      · obtain ⟨x, hx⟩ : ∃ x, xs[k]? = some x := ⟨_, List.getElem?_eq_getElem hlk⟩
        obtain ⟨y, hy⟩ : ∃ y, ys[k]? = some y := ⟨_, List.getElem?_eq_getElem (by have := Hl.out; omega)⟩
        obtain ⟨_, _, he, _, hxa⟩ := HA.out.quiet hU
        cases he
        obtain ⟨_, _, he, _, hyb⟩ := HB.out.quiet hU
        cases he
        obtain ⟨b1, o1, rfl, c1, l1⟩ := hxa k x hx
        obtain ⟨b2, o2, rfl, c2, l2⟩ := hyb k y hy
        have d1 : decide ((k : Int) < (xs.length : Int)) = true := decide_eq_true (by omega)
        have d1' : decide (k < xs.length) = true := decide_eq_true hlk
        have i1 : (0 : Int) ≤ (k : Int) := by omega
        have i2 : (k : Int) < (xs.length : Int) := by omega
        have i3 : (k : Int) < (ys.length : Int) := by have := Hl.out; omega
        have HX := Lib.hid hx
        have HY := Lib.hid hy
        clear hsame hU hx hy hxa hyb
        by_cases hxy : x = y
        · have d2 : (x != y) = false := by rw [bne_eq_false_iff_eq]; exact hxy
          have Hxy := Lib.hid hxy
          clear hxy
          go_wp2
          go_quiet (fail)
          have uq : Upd (fun _ => False) wr (wr.drewN nq) := (Upd.refl _ wr).drewN nq
          generalize wr.drewN nq = wd at *
          have HU2 := Lib.hid (HU.out.trans uq)
          clear uq c1 c2
          go_wp2
          go_roundw
          case rel =>
            refine ⟨k + 1, by omega, by go_num, (fun j hj => ?_), HU2.out⟩
            by_cases e : j = k
            · subst e
              rw [HX.out, HY.out, Hxy.out]
            · exact HS.out j (by omega)
          case measure => simp [intOf]; omega
        · have d2 : (x != y) = true := by rw [bne_iff_ne]; exact hxy
          have hne : decide (xs = ys) = false := by
            apply decide_eq_false
            intro e
            subst e
            have := HX.out.symm.trans HY.out
            exact hxy (Option.some.inj this)
          have Hne := Lib.hid hne
          clear hxy hne
          go_wp2
          go_quiet (fail)
          have uq : Upd (fun _ => False) wr (wr.drewN nq) := (Upd.refl _ wr).drewN nq
          generalize wr.drewN nq = wd at *
          have HU2 := Lib.hid (HU.out.trans uq)
          clear uq c1 c2
          go_wp2
          go_ret
          exact ⟨ret_bool Hne.out.symm, HU2.out⟩
      · have hke : k = xs.length := by omega
        subst hke
        have heq : decide (xs = ys) = true := by
          apply decide_eq_true
          apply List.ext_getElem? 
          intro j
          by_cases hj : j < xs.length
          · exact HS.out j hj
          · have := Hl.out
            rw [List.getElem?_eq_none (by omega), List.getElem?_eq_none (by omega)]
        have Heq := Lib.hid heq
        clear heq hsame hU
        go_wp2
        go_ret
        exact ⟨ret_bool Heq.out.symm, HU.out⟩
  · have dl : ((xs.length : Int) != (ys.length : Int)) = true := by rw [bne_iff_ne]; omega
    have dl' : (xs.length != ys.length) = true := by rw [bne_iff_ne]; exact hl
    have hne : decide (xs = ys) = false := decide_eq_false (fun e => hl (by rw [e]))
    have Hne := Lib.hid hne
    clear hne hl
    go_enter Try.func37, Try.ntmps37
    go_wp2
    go_ret
    exact ⟨ret_bool Hne.out.symm, Upd.refl _ _⟩

/-- A node by value. -/
abbrev ndv (k : Int) (e w : Value) : Value := .agg #[.int .i64 k, e, w]

set_option maxHeartbeats 1000000 in
theorem same_any (w : World) (a b : Nd) (ea wa eb wb : Value) (h1 : IntsAt w ea a.edges) (h2 : IntsAt w wa a.words) (h3 : IntsAt w eb b.edges) (h4 : IntsAt w wb b.words) (l1 : a.edges.length ≤ 4611686018427387904) (l2 : a.words.length ≤ 4611686018427387904) (l3 : b.edges.length ≤ 4611686018427387904) (l4 : b.words.length ≤ 4611686018427387904) :
    Calls Try.prog 39 #[ndv a.kind ea wa, ndv b.kind eb wb] w fun e w' => e = .returned (.bool (decide (a = b))) ∧ Upd (fun _ => False) w w' := by
  obtain ⟨p1, q1, rfl⟩ := h1.form
  obtain ⟨p2, q2, rfl⟩ := h2.form
  obtain ⟨p3, q3, rfl⟩ := h3.form
  obtain ⟨p4, q4, rfl⟩ := h4.form
  have hu := ((Upd.refl (fun _ => False) w).alloc (.cells #[.int .i64 a.kind, .slice p1 a.edges.length q1, .slice p2 a.words.length q2] 66)).alloc (.cells #[.int .i64 b.kind, .slice p3 b.edges.length q3, .slice p4 b.words.length q4] 66)
  have HBa := Lib.hid ((Blk.made w [.int .i64 a.kind, .slice p1 a.edges.length q1, .slice p2 a.words.length q2] 66).alloc (.cells #[.int .i64 b.kind, .slice p3 b.edges.length q3, .slice p4 b.words.length q4] 66))
  have HBb := Lib.hid (Blk.made' w (.cells #[.int .i64 a.kind, .slice p1 a.edges.length q1, .slice p2 a.words.length q2] 66) [.int .i64 b.kind, .slice p3 b.edges.length q3, .slice p4 b.words.length q4] 66)
  have HE := Lib.hid (sequal_any _ _ _ _ _ (h1.quiet hu) (h3.quiet hu) l1 l3)
  have H2 := Lib.hid (h2.quiet hu)
  have H4 := Lib.hid (h4.quiet hu)
  have HU := Lib.hid hu
  clear h1 h2 h3 h4 hu
  by_cases hk : a.kind = b.kind
  · have dk : (a.kind == b.kind) = true := by rw [beq_iff_eq]; exact hk
    have HK := Lib.hid hk
    clear hk
    go_enter Try.func39, Try.ntmps39
    go_wp2_with fail
    refine (HE.out).mono ?_
    rintro e w1 ⟨rfl, hu1⟩
    have hA := HBa.out.upd hu1 (fun h => h)
    have hB := HBb.out.upd hu1 (fun h => h)
    have a2 := hA.cell 2 rfl
    have b2 := hB.cell 2 rfl
    have al := hA.lt
    have bl := hB.lt
    have HW := Lib.hid (sequal_any w1 _ _ _ _ (H2.out.quiet hu1) (H4.out.quiet hu1) l2 l4)
    have HU1 := Lib.hid (HU.out.trans hu1)
    clear hA hB hu1
    by_cases he : a.edges = b.edges
    · have de : decide (a.edges = b.edges) = true := decide_eq_true he
      have De := Lib.hid de
      have He := Lib.hid he
      rw [De.out]
      clear de he
      go_wp2_with fail
      refine (HW.out).mono ?_
      rintro e w2 ⟨rfl, hu2⟩
      have HU2 := Lib.hid (HU1.out.trans hu2)
      clear hu2 a2 b2
      have hd : decide (a.words = b.words) = decide (a = b) := by
        by_cases hw : a.words = b.words
        · rw [decide_eq_true hw, decide_eq_true (nd_ext HK.out He.out hw)]
        · rw [decide_eq_false hw, decide_eq_false (fun e => hw (by rw [e]))]
      have HD := Lib.hid hd
      clear hd
      rw [HD.out]
      obtain ⟨D, hD⟩ : ∃ D, D = decide (a = b) := ⟨_, rfl⟩
      rw [← hD]
      have HDd := Lib.hid hD
      clear hD
      go_wp2
      go_ret
      exact ⟨ret_bool HDd.out, HU2.out⟩
    · have de : decide (a.edges = b.edges) = false := decide_eq_false he
      have dn : decide (a = b) = false := decide_eq_false (fun e => he (by rw [e]))
      have De := Lib.hid de
      have Dn := Lib.hid dn
      rw [De.out]
      clear de dn he
      go_wp2
      go_ret
      exact ⟨ret_bool Dn.out.symm, HU1.out⟩
  · have dk : (a.kind == b.kind) = false := by rw [beq_eq_false_iff_ne]; exact hk
    have dn : decide (a = b) = false := decide_eq_false (fun e => hk (by rw [e]))
    have Dn := Lib.hid dn
    clear dn hk
    go_enter Try.func39, Try.ntmps39
    go_wp2
    go_ret
    exact ⟨ret_bool Dn.out.symm, HU.out⟩

abbrev sameF : Value := .func (.func 39) #[] #[]
/-- Lengths that are borne. -/
def MildW (l : List Nd) : Prop := l.length ≤ 4611686018427387904 ∧ ∀ n ∈ l, n.edges.length ≤ 4611686018427387904 ∧ n.words.length ≤ 4611686018427387904

set_option maxHeartbeats 2000000 in
theorem equalf_any (w : World) (va vb : Value) (xs ys : List Nd) (ha : NodesAt w va xs) (hb : NodesAt w vb ys) (hx : MildW xs) (hy : MildW ys) :
    Calls Try.prog 38 #[va, vb, sameF] w fun e w' => e = .returned (.bool (decide (xs = ys))) ∧ Upd (fun _ => False) w w' := by
  obtain ⟨aa, ac, rfl⟩ := ha.form
  obtain ⟨ba, bc, rfl⟩ := hb.form
  have HA := Lib.hid ha
  have HB := Lib.hid hb
  have hxl := hx.1
  have hyl := hy.1
  have HXw := Lib.hid hx
  have HYw := Lib.hid hy
  clear ha hb hx hy
  by_cases hl : xs.length = ys.length
  · have dl : ((xs.length : Int) != (ys.length : Int)) = false := by rw [bne_eq_false_iff_eq]; omega
    have dl' : (xs.length != ys.length) = false := by rw [bne_eq_false_iff_eq]; exact hl
    have Hl := Lib.hid hl
    clear hl
    go_enter Try.func38, Try.ntmps38
    go_wp2
    go_loopw [17] (fun i wr => ∃ k : Nat, k ≤ xs.length ∧ i = .int .i64 (k : Int) ∧ (∀ j, j < k → xs[j]? = ys[j]?) ∧ Upd (fun _ => False) w wr) (fun i _ => xs.length - (intOf i).toNat)
    case atStart => exact ⟨0, Nat.zero_le _, rfl, (fun j hj => by omega), Upd.refl _ _⟩
    case round =>
      obtain ⟨k, hk, rfl, hsame, hU⟩ := hrel
      have HS := Lib.hid hsame
      have HU := Lib.hid hU
      by_cases hlk : k < xs.length
      · obtain ⟨x, hx⟩ : ∃ x, xs[k]? = some x := ⟨_, List.getElem?_eq_getElem hlk⟩
        obtain ⟨y, hy⟩ : ∃ y, ys[k]? = some y := ⟨_, List.getElem?_eq_getElem (by have := Hl.out; omega)⟩
        obtain ⟨_, _, he, hxa⟩ := HA.out.quiet hU
        cases he
        obtain ⟨_, _, he, hyb⟩ := HB.out.quiet hU
        cases he
        obtain ⟨bx, ox, vex, vwx, rfl, lx, cx0, cx1, cx2, ix1, ix2⟩ := hxa k x hx
        obtain ⟨bY, oy, vey, vwy, rfl, ly, cy0, cy1, cy2, iy1, iy2⟩ := hyb k y hy
        obtain ⟨p1, q1, rfl⟩ := ix1.form
        obtain ⟨p2, q2, rfl⟩ := ix2.form
        obtain ⟨p3, q3, rfl⟩ := iy1.form
        obtain ⟨p4, q4, rfl⟩ := iy2.form
        have hxm := HXw.out.2 x (List.mem_of_getElem? hx)
        have hym := HYw.out.2 y (List.mem_of_getElem? hy)
        have d1 : decide ((k : Int) < (xs.length : Int)) = true := decide_eq_true (by omega)
        have d1' : decide (k < xs.length) = true := decide_eq_true hlk
        have i1 : (0 : Int) ≤ (k : Int) := by omega
        have i2 : (k : Int) < (xs.length : Int) := by omega
        have i3 : (k : Int) < (ys.length : Int) := by have := Hl.out; omega
        have hal := ((Upd.refl (fun _ => False) wr).alloc (.cells #[.int .i64 x.kind, .slice p1 x.edges.length q1, .slice p2 x.words.length q2] 66)).alloc (.cells #[.int .i64 y.kind, .slice p3 y.edges.length q3, .slice p4 y.words.length q4] 66)
        have HC := Lib.hid (same_any _ x y _ _ _ _ (ix1.quiet hal) (ix2.quiet hal) (iy1.quiet hal) (iy2.quiet hal) hxm.1 hxm.2 hym.1 hym.2)
        have HX := Lib.hid hx
        have HY := Lib.hid hy
        have HU1 := Lib.hid (HU.out.trans hal)
        clear hsame hU hx hy hxa hyb ix1 ix2 iy1 iy2 hxm hym hal
        by_cases hxy : x = y
        · have Hxy := Lib.hid hxy
          have Dxy := Lib.hid (decide_eq_true hxy)
          rw [Dxy.out] at HC
          clear hxy
          go_wp2_with fail
          refine (HC.out).mono ?_
          rintro e w2 ⟨rfl, hu2⟩
          have HU2 := Lib.hid (HU1.out.trans hu2)
          clear hu2 cx0 cx1 cx2 cy0 cy1 cy2
          go_wp2
          go_roundw
          case rel =>
            refine ⟨k + 1, by omega, by go_num, (fun j hj => ?_), HU2.out⟩
            by_cases e : j = k
            · subst e
              rw [HX.out, HY.out, Hxy.out]
            · exact HS.out j (by omega)
          case measure => simp [intOf]; omega
        · have hne : decide (xs = ys) = false := by
            apply decide_eq_false
            intro e
            subst e
            have := HX.out.symm.trans HY.out
            exact hxy (Option.some.inj this)
          have Hne := Lib.hid hne
          have Dxy := Lib.hid (decide_eq_false hxy)
          rw [Dxy.out] at HC
          clear hxy hne
          go_wp2_with fail
          refine (HC.out).mono ?_
          rintro e w2 ⟨rfl, hu2⟩
          have HU2 := Lib.hid (HU1.out.trans hu2)
          clear hu2 cx0 cx1 cx2 cy0 cy1 cy2
          go_wp2
          go_ret
          exact ⟨ret_bool Hne.out.symm, HU2.out⟩
      · have hke : k = xs.length := by omega
        subst hke
        have heq : decide (xs = ys) = true := by
          apply decide_eq_true
          apply List.ext_getElem?
          intro j
          by_cases hj : j < xs.length
          · exact HS.out j hj
          · have := Hl.out
            rw [List.getElem?_eq_none (by omega), List.getElem?_eq_none (by omega)]
        have Heq := Lib.hid heq
        clear heq hsame hU
        go_wp2
        go_ret
        exact ⟨ret_bool Heq.out.symm, HU.out⟩
  · have dl : ((xs.length : Int) != (ys.length : Int)) = true := by rw [bne_iff_ne]; omega
    have dl' : (xs.length != ys.length) = true := by rw [bne_iff_ne]; exact hl
    have hne : decide (xs = ys) = false := decide_eq_false (fun e => hl (by rw [e]))
    have Hne := Lib.hid hne
    clear hne hl
    go_enter Try.func38, Try.ntmps38
    go_wp2
    go_ret
    exact ⟨ret_bool Hne.out.symm, Upd.refl _ _⟩

set_option maxHeartbeats 2000000 in
theorem sameForm_wide (w : World) (va vn vb vm : Value) (ks rs : List Int) (xs ys : List Nd) (h1 : IntsAt w va ks) (h2 : NodesAt w vn xs) (h3 : IntsAt w vb rs) (h4 : NodesAt w vm ys) (l1 : ks.length ≤ 4611686018427387904) (l2 : rs.length ≤ 4611686018427387904) (hx : MildW xs) (hy : MildW ys) :
    Calls Try.prog 20 #[.agg #[va, vn], .agg #[vb, vm]] w fun e w' => e = .returned (.bool (decide (ks = rs ∧ xs = ys))) ∧ Upd (fun _ => False) w w' := by
  obtain ⟨p1, q1, rfl⟩ := h1.form
  obtain ⟨p2, q2, rfl⟩ := h2.form
  obtain ⟨p3, q3, rfl⟩ := h3.form
  obtain ⟨p4, q4, rfl⟩ := h4.form
  have hu := ((Upd.refl (fun _ => False) w).alloc (.cells #[.slice p1 ks.length q1, .slice p2 xs.length q2] 35)).alloc (.cells #[.slice p3 rs.length q3, .slice p4 ys.length q4] 35)
  have HBa := Lib.hid ((Blk.made w [.slice p1 ks.length q1, .slice p2 xs.length q2] 35).alloc (.cells #[.slice p3 rs.length q3, .slice p4 ys.length q4] 35))
  have HBb := Lib.hid (Blk.made' w (.cells #[.slice p1 ks.length q1, .slice p2 xs.length q2] 35) [.slice p3 rs.length q3, .slice p4 ys.length q4] 35)
  have HE := Lib.hid (sequal_any _ _ _ _ _ (h1.quiet hu) (h3.quiet hu) l1 l2)
  have H2 := Lib.hid (h2.quiet hu)
  have H4 := Lib.hid (h4.quiet hu)
  have HU := Lib.hid hu
  have HX := Lib.hid hx
  have HY := Lib.hid hy
  clear h1 h2 h3 h4 hu hx hy
  by_cases hk : ks = rs
  · have HK := Lib.hid hk
    have dk := decide_eq_true hk
    have Dk := Lib.hid dk
    clear hk dk
    go_enter Try.func20, Try.ntmps20
    go_wp2_with fail
    refine (HE.out).mono ?_
    rintro e w1 ⟨rfl, hu1⟩
    rw [Dk.out]
    have hA := HBa.out.upd hu1 (fun h => h)
    have hB := HBb.out.upd hu1 (fun h => h)
    have a1 := hA.cell 1 rfl
    have b1 := hB.cell 1 rfl
    have al := hA.lt
    have bl := hB.lt
    have HW := Lib.hid (equalf_any w1 _ _ _ _ (H2.out.quiet hu1) (H4.out.quiet hu1) HX.out HY.out)
    have HU1 := Lib.hid (HU.out.trans hu1)
    clear hA hB hu1
    go_wp2_with fail
    refine (HW.out).mono ?_
    rintro e w2 ⟨rfl, hu2⟩
    have HU2 := Lib.hid (HU1.out.trans hu2)
    have hd : decide (xs = ys) = decide (ks = rs ∧ xs = ys) := by
      by_cases hw : xs = ys
      · rw [decide_eq_true hw, decide_eq_true ⟨HK.out, hw⟩]
      · rw [decide_eq_false hw, decide_eq_false (fun e => hw e.2)]
    rw [hd]
    obtain ⟨D, hD⟩ : ∃ D, D = decide (ks = rs ∧ xs = ys) := ⟨_, rfl⟩
    rw [← hD]
    have HDd := Lib.hid hD
    clear hu2 a1 b1 hD hd
    go_wp2
    go_ret
    exact ⟨ret_bool HDd.out, HU2.out⟩
  · have dn : decide (ks = rs ∧ xs = ys) = false := decide_eq_false (fun e => hk e.1)
    have dk := decide_eq_false hk
    have Dk := Lib.hid dk
    have Dn := Lib.hid dn
    clear dn hk dk
    go_enter Try.func20, Try.ntmps20
    go_wp2_with fail
    refine (HE.out).mono ?_
    rintro e w1 ⟨rfl, hu1⟩
    rw [Dk.out]
    have HU1 := Lib.hid (HU.out.trans hu1)
    clear hu1
    go_wp2
    go_ret
    exact ⟨ret_bool Dn.out.symm, HU1.out⟩

def Mild (l : List Nd) : Prop := l.length ≤ 300000000 ∧ ∀ n ∈ l, n.edges.length ≤ 300000000 ∧ n.words.length ≤ 300000000
theorem Mild.wide {l : List Nd} (h : Mild l) : MildW l := ⟨by have := h.1; omega, fun n hn => by have := h.2 n hn; omega⟩
theorem sameForm_any (w : World) (va vn vb vm : Value) (ks rs : List Int) (xs ys : List Nd) (h1 : IntsAt w va ks) (h2 : NodesAt w vn xs) (h3 : IntsAt w vb rs) (h4 : NodesAt w vm ys) (l1 : ks.length ≤ 300000000) (l2 : rs.length ≤ 300000000) (hx : Mild xs) (hy : Mild ys) :
    Calls Try.prog 20 #[.agg #[va, vn], .agg #[vb, vm]] w fun e w' => e = .returned (.bool (decide (ks = rs ∧ xs = ys))) ∧ Upd (fun _ => False) w w' :=
  sameForm_wide w va vn vb vm ks rs xs ys h1 h2 h3 h4 (by omega) (by omega) hx.wide hy.wide
end Go.Proofs.Ytlphlaenecidiaa.Ref
