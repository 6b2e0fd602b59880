/- Equal forms: besomlaw16.Is. -/
import Derived.Test.YtlphlaenecidiaaInts
namespace Go.Proofs.Ytlphlaenecidiaa.Ref
open Go.RowKit Go.Proofs.Ytlphlaenecidiaa.Mem Go.Proofs.Ytlphlaenecidiaa.Obj

def ndcells (l : List (Nd × Value × Value)) : List Value := l.flatMap fun p => [.int .i64 p.1.kind, p.2.1, p.2.2]
theorem ndcells_at : ∀ (l : List (Nd × Value × Value)) (j : Nat) (p : Nd × Value × Value), l[j]? = some p → (ndcells l)[j * 3]? = some (.int .i64 p.1.kind) ∧ (ndcells l)[j * 3 + 1]? = some p.2.1 ∧ (ndcells l)[j * 3 + 2]? = some p.2.2
  | [], j, p, h => by simp at h
  | q :: l, 0, p, h => by
    simp at h
    subst h
    exact ⟨rfl, rfl, rfl⟩
  | q :: l, j + 1, p, h => by
    rw [List.getElem?_cons_succ] at h
    have ih := ndcells_at l j p h
    have e : ∀ k, (ndcells (q :: l))[(j + 1) * 3 + k]? = (ndcells l)[j * 3 + k]? := by
      intro k
      show ([Value.int .i64 q.1.kind, q.2.1, q.2.2] ++ ndcells l)[(j + 1) * 3 + k]? = _
      rw [List.getElem?_append_right (by simp; omega)]
      congr 1
      simp
      omega
    refine ⟨?_, (e 1).trans ih.2.1, (e 2).trans ih.2.2⟩
    have := e 0
    rw [Nat.add_zero, Nat.add_zero] at this
    exact this.trans ih.1

/-- A slice that reads as nodes. -/
def NodesAt (w : World) (v : Value) (nds : List Nd) : Prop := ∃ (a : Option Addr) (cap : Nat), v = .slice a nds.length cap ∧ ∀ (j : Nat) (n : Nd), nds[j]? = some n →
  ∃ (b o : Nat) (ve vw : Value), a = some ⟨b, o, none⟩ ∧ b < w.heap.size ∧ w.cell? ⟨b, o + j * 3, none⟩ = some (.int .i64 n.kind) ∧ w.cell? ⟨b, o + j * 3 + 1, none⟩ = some ve ∧ w.cell? ⟨b, o + j * 3 + 2, none⟩ = some vw ∧ IntsAt w ve n.edges ∧ IntsAt w vw n.words
theorem NodesAt.quiet {w w' : World} {v : Value} {nds : List Nd} (h : NodesAt w v nds) (u : Upd (fun _ => False) w w') : NodesAt w' v nds := by
  obtain ⟨a, cap, e, hx⟩ := h
  refine ⟨a, cap, e, fun j n hj => ?_⟩
  obtain ⟨b, o, ve, vw, ea, hb, c0, c1, c2, i1, i2⟩ := hx j n hj
  have hk := u.block b hb (fun h => h)
  refine ⟨b, o, ve, vw, ea, Nat.lt_of_lt_of_le hb u.size, ?_, ?_, ?_, i1.quiet u, i2.quiet u⟩
  · rw [World.cell?, hk]; exact c0
  · rw [World.cell?, hk]; exact c1
  · rw [World.cell?, hk]; exact c2
theorem NodesAt.of_own {w : World} {base base' : Nat} {e : TypeId} {v : Value} {nv : List (Nd × Value × Value)} {nds : List Nd} (hn : nv.map (·.1) = nds) (h : w.ownsRow base e 3 v nds.length (ndcells nv))
    (hr : ∀ p ∈ nv, w.ownsRow base' 3 1 p.2.1 p.1.edges.length (nums p.1.edges) ∧ w.ownsRow base' 3 1 p.2.2 p.1.words.length (nums p.1.words)) : NodesAt w v nds := by
  rcases h.2 with ⟨hv, h0⟩ | ⟨g, cap, cur, hv, hb, hg, _⟩
  · refine ⟨none, 0, by rw [hv, h0], fun j n hj => ?_⟩
    have := (List.getElem?_eq_some_iff.1 hj).1
    omega
  · subst hv
    refine ⟨some ⟨g, 0, none⟩, cap, rfl, fun j n hj => ?_⟩
    subst hn
    rw [List.getElem?_map] at hj
    cases hp : nv[j]? with
    | none => rw [hp] at hj; cases hj
    | some p =>
      rw [hp] at hj
      cases hj
      obtain ⟨e0, e1, e2⟩ := ndcells_at nv j p hp
      have hm := hr p (List.mem_of_getElem? hp)
      exact ⟨g, 0, p.2.1, p.2.2, rfl, (Array.getElem?_eq_some_iff.1 hg).1, by rw [Nat.zero_add]; exact own_at h _ e0, by rw [Nat.zero_add]; exact own_at h _ e1, by rw [Nat.zero_add]; exact own_at h _ e2, IntsAt.of_own hm.1, IntsAt.of_own hm.2⟩
theorem NodesAt.form {w : World} {v : Value} {nds : List Nd} (h : NodesAt w v nds) : ∃ a cap, v = .slice a nds.length cap := by
  obtain ⟨a, cap, e, _⟩ := h
  exact ⟨a, cap, e⟩

/-- The loop. -/
def AlikeN (w : World) (va vn : Value) (xs ys : List Nd) (i : Value) (wr : World) : Prop := ∃ k : Nat, k ≤ ys.length ∧ i = .int .i64 (k : Int) ∧ (∀ j, j < k → xs[j]? = ys[j]?) ∧ Blk wr w.heap.size [va, vn] 35 ∧ Upd (fun _ => False) w wr

theorem nd_ext {a b : Nd} (h1 : a.kind = b.kind) (h2 : a.edges = b.edges) (h3 : a.words = b.words) : a = b := by
  cases a; cases b; simp_all

set_option maxRecDepth 20000 in
set_option maxHeartbeats 2000000 in
theorem is_any (w : World) (va vn vr vm : Value) (ks rs : List Int) (xs ys : List Nd) (hk : IntsAt w va ks) (hx : NodesAt w vn xs) (hr : IntsAt w vr rs) (hy : NodesAt w vm ys)
    (hkl : ks.length ≤ 300000000) (hrl : rs.length ≤ 300000000) (hxl : xs.length ≤ 300000000) (hxw : ∀ n ∈ xs, n.edges.length ≤ 300000000 ∧ n.words.length ≤ 300000000) (hyw : ∀ n ∈ ys, n.edges.length ≤ 300000000 ∧ n.words.length ≤ 300000000) :
    Calls Try.prog 14 #[.agg #[va, vn], vr, vm] w fun e w' => e = .returned (.bool (decide (ks = rs ∧ xs = ys))) ∧ Upd (fun _ => False) w w' := by
  obtain ⟨r, hr0⟩ : ∃ r, r = decide (ks = rs ∧ xs = ys) := ⟨_, rfl⟩
  rw [← hr0]
  have HR0 := Lib.hid hr0
  clear hr0
  obtain ⟨aa, ac, rfl⟩ := hk.form
  obtain ⟨na, nc, rfl⟩ := hx.form
  obtain ⟨ra, rc, rfl⟩ := hr.form
  obtain ⟨ma, mc, rfl⟩ := hy.form
  have hbx := Blk.made w [.slice aa ks.length ac, .slice na xs.length nc] 35
  have hu := ((Upd.refl (fun _ => False) w).alloc (.cells #[.slice aa ks.length ac, .slice na xs.length nc] 35))
  have HK := Lib.hid hk
  have HX := Lib.hid hx
  have HR := Lib.hid hr
  have HY := Lib.hid hy
  have HB := Lib.hid hbx
  have HU := Lib.hid hu
  have HI := Lib.hid (ints_any _ _ _ ks rs (hk.quiet hu) (hr.quiet hu) hkl hrl)
  have HXw := Lib.hid hxw
  have HYw := Lib.hid hyw
  clear hk hx hr hy hbx hu hxw hyw
  by_cases hkr : ks = rs
  · have dk : decide (ks = rs) = true := decide_eq_true hkr
    have Hkr := Lib.hid hkr
    have Dk := Lib.hid dk
    clear hkr dk
    by_cases hl : xs.length = ys.length
    · have dl : ((xs.length : Int) != (ys.length : Int)) = false := by rw [bne_eq_false_iff_eq]; omega
      have dl' : (xs.length != ys.length) = false := by rw [bne_eq_false_iff_eq]; exact hl
      have Hl := Lib.hid hl
      clear hl
      go_enter Try.func14, Try.ntmps14
      go_wp2_with fail
      refine (HI.out).mono ?_
      rintro e w1 ⟨rfl, hu1⟩
      rw [Dk.out]
      have hB1 := HB.out.upd hu1 (fun h => h)
      have b1 := hB1.cell 1 rfl
      have HB1 := Lib.hid hB1
      have HU1 := Lib.hid (HU.out.trans hu1)
      clear hu1 hB1
      go_wp2
      go_loopw [25] (fun i wr => AlikeN w (.slice aa ks.length ac) (.slice na xs.length nc) xs ys i wr) (fun i _ => ys.length - (intOf i).toNat)
      case atStart => exact ⟨0, Nat.zero_le _, rfl, (fun j hj => by omega), HB1.out, HU1.out⟩
      case round =>
        obtain ⟨k, hk, rfl, hsame, hB, hU⟩ := hrel
        have HS := Lib.hid hsame
        have HUr := Lib.hid hU
        have HBr := Lib.hid hB
        clear b1
        by_cases hlk : k < ys.length
        · obtain ⟨y, hy⟩ : ∃ y, ys[k]? = some y := ⟨_, List.getElem?_eq_getElem hlk⟩
          obtain ⟨x, hx⟩ : ∃ x, xs[k]? = some x := ⟨_, List.getElem?_eq_getElem (by have := Hl.out; omega)⟩
          obtain ⟨_, _, he, hxa⟩ := HX.out.quiet hU
          cases he
          obtain ⟨_, _, he, hyb⟩ := HY.out.quiet hU
          cases he
          obtain ⟨bx, ox, vex, vwx, rfl, lx, cx0, cx1, cx2, ix1, ix2⟩ := hxa k x hx
          obtain ⟨bY, oy, vey, vwy, rfl, ly, cy0, cy1, cy2, iy1, iy2⟩ := hyb k y hy
          obtain ⟨p1, q1, rfl⟩ := ix1.form
          obtain ⟨p2, q2, rfl⟩ := ix2.form
          obtain ⟨p3, q3, rfl⟩ := iy1.form
          obtain ⟨p4, q4, rfl⟩ := iy2.form
          have hxm := HXw.out x (List.mem_of_getElem? hx)
          have hym := HYw.out y (List.mem_of_getElem? hy)
          have b1 := hB.cell 1 rfl
          have bl := hB.lt
          have d1 : decide ((k : Int) < (ys.length : Int)) = true := decide_eq_true (by omega)
          have d1' : decide (k < ys.length) = true := decide_eq_true hlk
          have i1 : (0 : Int) ≤ (k : Int) := by omega
          have i2 : (k : Int) < (ys.length : Int) := by omega
          have i3 : (k : Int) < (xs.length : Int) := by have := Hl.out; omega
          have u2 : Upd (fun _ => False) wr ((wr.alloc (.cells #[.int .i64 y.kind, (.slice p3 y.edges.length q3), (.slice p4 y.words.length q4)] 87)).alloc (.cells #[.int .i64 x.kind, (.slice p1 x.edges.length q1), (.slice p2 x.words.length q2)] 66)) := ((Upd.refl _ wr).alloc _).alloc _
          have n1 := Blk.made' wr (.cells #[.int .i64 y.kind, (.slice p3 y.edges.length q3), (.slice p4 y.words.length q4)] 87) [.int .i64 x.kind, (.slice p1 x.edges.length q1), (.slice p2 x.words.length q2)] 66
          have n2 := (Blk.made wr [.int .i64 y.kind, (.slice p3 y.edges.length q3), (.slice p4 y.words.length q4)] 87).alloc (.cells #[.int .i64 x.kind, (.slice p1 x.edges.length q1), (.slice p2 x.words.length q2)] 66)
          have HI1 := Lib.hid (ints_any _ (.slice p1 x.edges.length q1) (.slice p3 y.edges.length q3) x.edges y.edges (ix1.quiet u2) (iy1.quiet u2) hxm.1 hym.1)
          have HI2 : Hid (∀ W, Upd (fun _ => False) ((wr.alloc (.cells #[.int .i64 y.kind, (.slice p3 y.edges.length q3), (.slice p4 y.words.length q4)] 87)).alloc (.cells #[.int .i64 x.kind, (.slice p1 x.edges.length q1), (.slice p2 x.words.length q2)] 66)) W → Calls Try.prog 24 #[(.slice p2 x.words.length q2), (.slice p4 y.words.length q4)] W fun e w' => e = .returned (.bool (decide (x.words = y.words))) ∧ Upd (fun _ => False) W w') :=
            Lib.hid (fun W hW => ints_any _ (.slice p2 x.words.length q2) (.slice p4 y.words.length q4) x.words y.words ((ix2.quiet u2).quiet hW) ((iy2.quiet u2).quiet hW) hxm.2 hym.2)
          have HU2 := Lib.hid (HUr.out.trans u2)
          have HN1 := Lib.hid n1
          have HN2 := Lib.hid n2
          have HB2 := Lib.hid (HBr.out.upd u2 (fun h => h))
          have hno : ∀ {P : Prop}, (ks = rs ∧ xs = ys → P) → (xs[k]? = ys[k]? → P) → True := fun _ _ => trivial
          have HXk := Lib.hid hx
          have HYk := Lib.hid hy
          have hbad : x ≠ y → r = false := fun h => HR0.out.trans <| decide_eq_false (fun e => h (by have h1 := HXk.out; rw [e.2, HYk.out] at h1; exact (Option.some.inj h1).symm))
          have HBad := Lib.hid hbad
          clear hsame hU hB hx hy hxa hyb ix1 ix2 iy1 iy2 hxm hym u2 n1 n2 hno hbad
          by_cases hkd : x.kind = y.kind
          · have dk : (x.kind != y.kind) = false := by rw [bne_eq_false_iff_eq]; exact hkd
            have Hkd := Lib.hid hkd
            clear hkd
            go_wp2_with fail
            refine (HI1.out).mono ?_
            rintro e w1 ⟨rfl, hu1⟩
            have m1 := (HN1.out.upd hu1 (fun h => h)).cell 2 rfl
            have m2 := (HN2.out.upd hu1 (fun h => h)).cell 2 rfl
            have HI3 := Lib.hid (HI2.out _ hu1)
            have HU3 := Lib.hid (HU2.out.trans hu1)
            have HB3 := Lib.hid (HB2.out.upd hu1 (fun h => h))
            clear hu1
            by_cases hed : x.edges = y.edges
            · have de : decide (x.edges = y.edges) = true := decide_eq_true hed
              have Hed := Lib.hid hed
              rw [de]
              clear hed
              go_wp2_with fail
              refine (HI3.out).mono ?_
              rintro e w2 ⟨rfl, hu2⟩
              have HU4 := Lib.hid (HU3.out.trans hu2)
              have HB4 := Lib.hid (HB3.out.upd hu2 (fun h => h))
              clear hu2
              by_cases hwd : x.words = y.words
              · have dw : decide (x.words = y.words) = true := decide_eq_true hwd
                have Hwd := Lib.hid hwd
                rw [dw]
                clear hwd
                go_wp2
                go_roundw
                case rel =>
                  refine ⟨k + 1, by omega, by go_num, (fun j hj => ?_), HB4.out, HU4.out⟩
                  by_cases e : j = k
                  · subst e
                    rw [HXk.out, HYk.out, nd_ext Hkd.out Hed.out Hwd.out]
                  · exact HS.out j (by omega)
                case measure => simp [intOf]; omega
              · have dw : decide (x.words = y.words) = false := decide_eq_false hwd
                have Hb := Lib.hid (HBad.out (fun e => hwd (by rw [e])))
                rw [dw]
                clear hwd
                go_wp2
                go_ret
                exact ⟨ret_bool Hb.out.symm, HU4.out⟩
            · have de : decide (x.edges = y.edges) = false := decide_eq_false hed
              have Hb := Lib.hid (HBad.out (fun e => hed (by rw [e])))
              rw [de]
              clear hed
              go_wp2
              go_ret
              exact ⟨ret_bool Hb.out.symm, HU3.out⟩
          · have dk : (x.kind != y.kind) = true := by rw [bne_iff_ne]; exact hkd
            have Hb := Lib.hid (HBad.out (fun e => hkd (by rw [e])))
            clear hkd
            go_wp2
            go_ret
            exact ⟨ret_bool Hb.out.symm, HU2.out⟩
        · have hke : k = ys.length := by omega
          subst hke
          have heq : r = true := by
            rw [HR0.out]
            apply decide_eq_true
            refine ⟨Hkr.out, List.ext_getElem? fun j => ?_⟩
            by_cases hj : j < ys.length
            · exact HS.out j hj
            · have := Hl.out
              rw [List.getElem?_eq_none (by omega), List.getElem?_eq_none (by omega)]
          have Heq := Lib.hid heq
          clear heq hsame hU hB
          go_wp2
          go_ret
          exact ⟨ret_bool Heq.out.symm, HUr.out⟩
    · have dl : ((xs.length : Int) != (ys.length : Int)) = true := by rw [bne_iff_ne]; omega
      have dl' : (xs.length != ys.length) = true := by rw [bne_iff_ne]; exact hl
      have hne : r = false := HR0.out.trans <| decide_eq_false (fun e => hl (by rw [e.2]))
      have Hne := Lib.hid hne
      clear hne hl
      go_enter Try.func14, Try.ntmps14
      go_wp2_with fail
      refine (HI.out).mono ?_
      rintro e w1 ⟨rfl, hu1⟩
      rw [Dk.out]
      have b1 := (HB.out.upd hu1 (fun h => h)).cell 1 rfl
      have HU1 := Lib.hid (HU.out.trans hu1)
      clear hu1
      go_wp2
      go_ret
      exact ⟨ret_bool Hne.out.symm, HU1.out⟩
  · have hne : r = false := HR0.out.trans <| decide_eq_false (fun e => hkr e.1)
    have dk : decide (ks = rs) = false := decide_eq_false hkr
    have Hne := Lib.hid hne
    have Dk := Lib.hid dk
    clear hne hkr dk
    go_enter Try.func14, Try.ntmps14
    go_wp2_with fail
    refine (HI.out).mono ?_
    rintro e w1 ⟨rfl, hu1⟩
    rw [Dk.out]
    have HU1 := Lib.hid (HU.out.trans hu1)
    clear hu1
    go_wp2
    go_ret
    exact ⟨ret_bool Hne.out.symm, HU1.out⟩
end Go.Proofs.Ytlphlaenecidiaa.Ref
