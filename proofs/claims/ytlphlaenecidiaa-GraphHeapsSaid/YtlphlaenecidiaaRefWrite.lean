/- The document's heap: an object's word is another one. -/
import Derived.Test.YtlphlaenecidiaaRefPlace
import Derived.Test.YtlphlaenecidiaaRef2
set_option linter.unusedSimpArgs false
namespace Go.Proofs.Ytlphlaenecidiaa.Ref
open Go.RowKit Go.Proofs.Ytlphlaenecidiaa.Mem Go.Proofs.Ytlphlaenecidiaa.Obj Go.Proofs.Ytlphlaenecidiaa.Heap

theorem own_set {w : World} {base : Nat} {e : TypeId} {size g cap n : Nat} {xs : List Value} (h : w.ownsRow base e size (.slice (some ⟨g, 0, none⟩) n cap) n xs) (j : Nat) (u : Value) : (w.setCell ⟨g, j, none⟩ u).ownsRow base e size (.slice (some ⟨g, 0, none⟩) n cap) n (xs.set j u) := by
  refine ⟨by rw [List.length_set]; exact h.1, ?_⟩
  rcases h.2 with ⟨hv, _⟩ | ⟨g', cap', cur, hv, hb, hg, h1, h2, h3, h4⟩
  · cases hv
  · cases hv
    have hB : Blk w g cur.toList e := by unfold Blk; simpa using hg
    refine .inr ⟨g, cap, (cur.toList.set j u).toArray, rfl, hb, hB.set j u, h1, h2, by simpa using h3, ?_⟩
    have hl := h.1
    rw [← h4, ← List.take_set]
theorem setWord_idx {f : Nat} {x : Int} : ∀ (l : List Ob) (s a ix : Nat), findIdx s l (s + a) = some ix → ∀ o, l[ix]? = some o → setWord l a f x = l.set ix { o with ws := o.ws.set f x }
  | [], s, a, ix, h, o, ho => by cases h
  | p :: l, s, a, ix, h, o, ho => by
    unfold findIdx at h
    unfold setWord
    by_cases e : a = 0
    · subst e
      rw [if_pos (by omega)] at h
      cases h
      cases ho
      rw [if_pos rfl]
      rfl
    · rw [if_neg (by omega)] at h
      rw [if_neg e]
      cases hk : findIdx (s + (1 + p.len)) l (s + a) with
      | none => rw [hk] at h; cases h
      | some k =>
        rw [hk] at h
        cases h
        rw [List.getElem?_cons_succ] at ho
        have hlt : ¬ a < 1 + p.len := by
          intro hlt
          have : ∀ (l : List Ob) (t b : Nat), b < t → findIdx t l b = none := by
            intro l
            induction l with
            | nil => intros; rfl
            | cons p l ih => intro t b ht; unfold findIdx; rw [if_neg (by omega), ih _ _ (by omega)]; rfl
          rw [this l _ _ (by omega)] at hk
          cases hk
        rw [if_neg hlt, List.set_cons_succ, setWord_idx l (s + (1 + p.len)) (a - (1 + p.len)) k (by rw [show s + (1 + p.len) + (a - (1 + p.len)) = s + a by omega]; exact hk) o ho]
theorem ocells_set : ∀ (L : List (Ob × Value)) (s ix : Nat) (o o' : Ob) (v v' : Value), L[ix]? = some (o, v) → o'.kind = o.kind → o'.ptrs = o.ptrs → o'.len = o.len → ocells s (L.set ix (o', v')) = (ocells s L).set (ix * 5 + 4) v'
  | [], s, ix, o, o', v, v', h, _, _, _ => by simp at h
  | (p, u) :: L, s, 0, o, o', v, v', h, h1, h2, h3 => by
    simp at h
    obtain ⟨rfl, rfl⟩ := h
    simp [ocells, h1, h2, h3]
  | (p, u) :: L, s, ix + 1, o, o', v, v', h, h1, h2, h3 => by
    rw [List.getElem?_cons_succ] at h
    rw [List.set_cons_succ, ocells, ocells, ocells_set L _ ix o o' v v' h h1 h2 h3, List.set_append_right _ _ (by simp; omega)]
    congr 2
    simp
    omega

/-- A heap in which a word is another one. -/
def RWritten (w : World) (S : Nat → Prop) (size : Nat) (os : List Ob) (e : Ending) (w' : World) : Prop :=
  ∃ v, e = .returned (.tuple #[hv size v, .int .i64 0]) ∧ RefAtS w' w.heap.size v os S ∧ Upd (fun _ => False) w w'

set_option maxRecDepth 20000 in
set_option maxHeartbeats 4000000 in
theorem rwrite_ptr (w : World) (base size : Nat) (v : Value) (os : List Ob) (S : Nat → Prop) (hS : ∀ k, S k → k < w.heap.size) (R : RefAtS w base v os S) (a f : Nat) (o : Ob) (x : Int) (hx : x ≤ 9223372036854775807) (hf : find os a = some o) (hfl : f < o.len) (hk : o.kind ≠ 15) (hp : f < o.ptrs) (hld : leads os x = true) :
    Calls Try.prog 36 #[hv size v, .int .i64 (a : Int), .int .i64 (f : Int), .int .i64 x] w (RWritten w S size (setWord os a f x)) := by
  obtain ⟨i0, hi0, hz0, hz1, hz2⟩ := info_parts infoInt
  obtain ⟨j0, hj0, hy0, hy1, hy2⟩ := info_parts infoObj
  obtain ⟨va, vc, rfl⟩ := R.form
  have hol : os.length ≤ 65536 := R.few
  obtain ⟨ix, hix⟩ : ∃ ix, findIdx 0 os a = some ix := by
    cases h : findIdx 0 os a with
    | some ix => exact ⟨ix, rfl⟩
    | none => rw [findIdx_no h] at hf; cases hf
  obtain ⟨o', ho1, ho2⟩ := findIdx_some hix
  obtain rfl : o' = o := by rw [hf] at ho2; exact (Option.some.inj ho2).symm
  have hixl : ix < os.length := (List.getElem?_eq_some_iff.1 ho1).1
  have hio : idxOf os (a : Int) = (ix : Int) := by
    unfold idxOf
    rw [if_neg (by omega), show ((a : Int)).toNat = a by omega, hix]
  have hgo := R.good _ (find_mem hf)
  have hwl : o'.ws.length ≤ 4095 := hgo.2.2.1
  have hfl' : f < o'.ws.length := hfl
  have hset := setWord_idx (f := f) (x := x) os 0 a ix (by rw [Nat.zero_add]; exact hix) o' ho1
  have hbx := (Blk.made w [.int .i64 (size : Int), .slice va os.length vc] 30).alloc (.cells #[.int .i64 0, .slice none 0 0] 30)
  have hrs := Blk.made' w (.cells #[.int .i64 (size : Int), .slice va os.length vc] 30) [.int .i64 0, .slice none 0 0] 30
  have hu0 := (((Upd.refl (fun _ => False) w).alloc (.cells #[.int .i64 (size : Int), .slice va os.length vc] 30)).alloc (.cells #[.int .i64 0, .slice none 0 0] 30))
  have HB0 := Lib.hid hbx
  have HS0 := Lib.hid hrs
  have HU0 := Lib.hid hu0
  have HR := Lib.hid R
  have HFi := Lib.hid (find_any _ base size _ os (R.ref.quiet hu0) (a : Int))
  rw [hio] at HFi
  have HSet := Lib.hid hset
  have Ho1 := Lib.hid ho1
  have HLd := Lib.hid hld
  have dk : ((o'.kind : Int) == 15) = false := by rw [beq_eq_false_iff_ne]; omega
  have d0 : decide ((f : Int) < 0) = false := decide_eq_false (by omega)
  have d1 : decide ((o'.len : Int) ≤ (f : Int)) = false := decide_eq_false (by omega)
  have d1' : decide (o'.len ≤ f) = false := decide_eq_false (by omega)
  have d2 : decide ((f : Int) < (o'.ptrs : Int)) = true := decide_eq_true (by omega)
  have d2' : decide (f < o'.ptrs) = true := decide_eq_true hp
  have d3 : decide ((ix : Int) < 0) = false := decide_eq_false (by omega)
  have i1 : (0 : Int) ≤ (ix : Int) := by omega
  have i2 : (ix : Int) < (os.length : Int) := by omega
  have i3 : (0 : Int) ≤ (f : Int) := by omega
  have i4 : (f : Int) < (o'.ws.length : Int) := by omega
  clear hbx hrs hu0 R hix ho1 ho2 hio hset hf hgo hk hp hld
  go_enter Try.func36, Try.ntmps36
  go_wp2_with fail
  refine (HFi.out).mono ?_
  rintro e w1 ⟨rfl, hu1⟩
  have HU1 := Lib.hid (HU0.out.trans hu1)
  have HB1 := Lib.hid (HB0.out.upd hu1 (fun h => h))
  have HS1 := Lib.hid (HS0.out.upd hu1 (fun h => h))
  have HR1 := Lib.hid (HR.out.ref.quiet HU1.out)
  obtain ⟨og, ocap, hoe, _, hogl⟩ := HR1.out.some' (by omega)
  cases hoe
  obtain ⟨oa, wv, _, hwv, k0, k1, k2, k3, k4⟩ := HR1.out.at' Ho1.out
  obtain ⟨xa, xc, rfl⟩ := hwv.form
  have Hwv := Lib.hid hwv
  have c0 := HB1.out.cell 0 rfl
  have c1 := HB1.out.cell 1 rfl
  have bl := HB1.out.lt
  clear hu1 hwv HFi
  have HRl := Lib.hid (leads_any _ base size _ os (HR.out.ref.quiet (HU1.out.alloc (.cells #[.int .i64 (oa : Int), .int .i64 (o'.kind : Int), .int .i64 (o'.len : Int), .int .i64 (o'.ptrs : Int), .slice xa o'.ws.length xc] 55))) x hx)
  rw [HLd.out] at HRl
  go_wp2_with fail
  refine (HRl.out).mono ?_
  rintro e w2 ⟨rfl, hu2⟩
  have HU2 := Lib.hid (HU1.out.trans ((Upd.refl (fun _ => False) w1).alloc (.cells #[.int .i64 (oa : Int), .int .i64 (o'.kind : Int), .int .i64 (o'.len : Int), .int .i64 (o'.ptrs : Int), .slice xa o'.ws.length xc] 55) |>.trans hu2))
  have ha1 := (Upd.refl (fun _ => False) w1).alloc (.cells #[.int .i64 (oa : Int), .int .i64 (o'.kind : Int), .int .i64 (o'.len : Int), .int .i64 (o'.ptrs : Int), .slice xa o'.ws.length xc] 55)
  have HB2 := Lib.hid ((HB1.out.upd ha1 (fun h => h)).upd hu2 (fun h => h))
  have HS2 := Lib.hid ((HS1.out.upd ha1 (fun h => h)).upd hu2 (fun h => h))
  have HX2 := Lib.hid ((Blk.made w1 [.int .i64 (oa : Int), .int .i64 (o'.kind : Int), .int .i64 (o'.len : Int), .int .i64 (o'.ptrs : Int), .slice xa o'.ws.length xc] 55).upd hu2 (fun h => h))
  have HR2 := Lib.hid (HR.out.ref.quiet HU2.out)
  have Hwv2 := Lib.hid ((Hwv.out.quiet ha1).quiet hu2)
  obtain ⟨L0, hL0, hL1', hL2', hL3'⟩ := HR.out.rows
  have HOff := Lib.hid hL3'
  have HL1 := Lib.hid (own_upd hL1' HU2.out (fun _ _ h => h))
  have HL2 := Lib.hid hL2'
  have HL2' := Lib.hid (show ∀ p ∈ L0, IntsAt w2 p.2 p.1.ws from fun p hp => (hL2' p hp).quiet HU2.out)
  have HLm := Lib.hid hL0
  have HOL := Lib.hid (show (ocells 0 L0).length = os.length * 5 from hL1'.1)
  clear c0 c1 bl k0 k1 k2 k3 k4 hogl hu2 ha1 hL0 hL1' hL2' hL3'
  have x4 := HX2.out.cell 4 rfl
  have c1 := HB2.out.cell 1 rfl
  have bl := HB2.out.lt
  have xl := HX2.out.lt
  have sl := HS2.out.lt
  have oe1 := own_empty w2 55 5 w2.heap.size (Nat.le_refl _)
  have OE1 := Lib.hid oe1
  have SR1 := Lib.hid ((src_own HL1.out).quiet ((Upd.refl _ w2).alloc (.cells #[] 55)))
  clear oe1
  go_wp2_with (first | (at_builtin; refine wpList_app _ (by rfl) _ _ 28 (by rfl) w2.heap.size 55 j0 _ 5 56 Try.underlying28 hj0 hy0 hy1 hy2 rfl (by decide) _ 0 [] (by rfl) OE1.out _ _ _ (ocells 0 L0) (by rfl) HOL.out SR1.out (ocells_one HL2'.out) (by simp only [maxLen]; omega) (by omega) (by simp) ?_))
  intro v1 w3 ho3 hg3 hat3
  obtain ⟨g1, c1', rfl, hg1b, hg1l, hn1, hc1⟩ := own_some ho3 (by omega)
  have hU3 : Upd (fun _ => False) w2 w3 := ((Upd.refl (fun _ => False) w2).alloc (.cells #[] 55)).grown hg3 (fun g hg hlt => by have h : w2.heap.size = g := Option.some.inj hg; omega)
  have HB3 := Lib.hid (HB2.out.upd hU3 (fun h => h))
  have HS3 := Lib.hid (HS2.out.upd hU3 (fun h => h))
  have hX3 := HX2.out.upd hU3 (fun h => h)
  have x4' := hX3.cell 4 rfl
  have xl' := hX3.lt
  have HO3 := Lib.hid ho3
  have HU3 := Lib.hid hU3
  have oe2 := own_empty w3 3 1 w3.heap.size (Nat.le_refl _)
  have OE2 := Lib.hid oe2
  have SR2 := Lib.hid ((Hwv2.out.quiet (hU3.alloc (.cells #[] 3))).src)
  have HNl := Lib.hid (show (nums o'.ws).length = o'.ws.length * 1 by rw [nums_len, Nat.mul_one])
  have hs3 := hU3.size
  clear oe2 ho3 hg3 hat3 hU3 hX3 x4 c1 bl xl sl
  go_wp2_with (first | (at_builtin; refine wpList_app _ (by rfl) _ _ 22 (by rfl) w3.heap.size 3 i0 _ 1 8 Try.underlying22 hi0 hz0 hz1 hz2 rfl (by decide) _ 0 [] (by rfl) OE2.out _ _ _ (nums o'.ws) (by rfl) HNl.out SR2.out (nums_one _) (by simp only [maxLen]; omega) (by omega) (by simp) ?_))
  intro v2 w4 ho4 hg4 hat4
  obtain ⟨g2, c2', rfl, hg2b, hg2l, hn2, hc2⟩ := own_some ho4 (by omega)
  have hU4 : Upd (fun _ => False) w3 w4 := ((Upd.refl (fun _ => False) w3).alloc (.cells #[] 3)).grown hg4 (fun g hg hlt => by have h : w3.heap.size = g := Option.some.inj hg; omega)
  have hO34 := own_upd HO3.out hU4 (fun _ _ h => h)
  obtain ⟨⟨o1, v1⟩, hLix⟩ : ∃ q, L0[ix]? = some q := ⟨_, List.getElem?_eq_getElem (by have := congrArg List.length HLm.out; simp at this; omega)⟩
  have ho1o : o1 = o' := by
    have h1 := Ho1.out
    rw [← HLm.out, List.getElem?_map, hLix] at h1
    exact Option.some.inj h1
  subst ho1o
  obtain ⟨_, _, _, _, _, _, hcell5⟩ := ocells_at 0 L0 ix o1 v1 hLix
  have y4 := own_at hO34 (ix * 5 + 4) hcell5
  have yf := own_unfrozen hO34 (ix * 5 + 4)
  have HO34 := Lib.hid hO34
  have HO4 := Lib.hid ho4
  have HU4 := Lib.hid hU4
  have HLx := Lib.hid hLix
  have hs4 := hU4.size
  have hg1l' : g1 < w4.heap.size := by omega
  clear ho4 hg4 hat4 hU4 hO34 x4' xl' hcell5 hLix
  go_upto_region 11 with (fail)
  have hne : g1 ≠ g2 := by omega
  have us := (Upd.refl (fun k => k = g1) w4).setCell (p := ⟨g1, ix * 5 + 4, none⟩) (.slice (some ⟨g2, 0, none⟩) o1.ws.length c2') (fun _ => rfl)
  have hO5 := own_set HO34.out (ix * 5 + 4) (.slice (some ⟨g2, 0, none⟩) o1.ws.length c2')
  have hI5 := own_upd HO4.out us (fun g hg e => hne ((Option.some.inj hg).trans e).symm)
  have hgb : w2.heap.size ≤ g1 := hg1b
  have hrbx := HS2.out.lt
  have hbx5 := ((HB3.out.upd HU4.out (fun h => h)).upd us (by omega))
  have hrs5 := ((HS3.out.upd HU4.out (fun h => h)).upd us (by omega))
  have hlen5 : ix * 5 + 4 < (ocells 0 L0).length := by have := HOL.out; omega
  have q4 := own_at hO5 (ix * 5 + 4) (u := .slice (some ⟨g2, 0, none⟩) o1.ws.length c2') (by rw [List.getElem?_set_self hlen5])
  have q5 := own_at hI5 f (u := .int .i64 o1.ws[f]) (by simp [nums, hfl'])
  have qf := own_unfrozen hI5 f
  have hU5 := (HU3.out.trans HU4.out).next us (fun i hi h => by omega)
  have hl5 := us.size
  generalize w4.setCell ⟨g1, ix * 5 + 4, none⟩ (.slice (some ⟨g2, 0, none⟩) o1.ws.length c2') = w5 at *
  have HO5 := Lib.hid hO5
  have HI5 := Lib.hid hI5
  have HB5 := Lib.hid hbx5
  have HS5 := Lib.hid hrs5
  have HU5 := Lib.hid hU5
  have hg2l5 : g2 < w5.heap.size := by omega
  have hg1l5 : g1 < w5.heap.size := by omega
  clear us hO5 hI5 hbx5 hrs5 hU5 y4 yf hlen5
  go_upto_region 12 with (fail)
  have us := (Upd.refl (fun k => k = g2) w5).setCell (p := ⟨g2, f, none⟩) (.int .i64 x) (fun _ => rfl)
  have hO6 := own_upd HO5.out us (fun g hg e => hne ((Option.some.inj hg).trans e))
  have hI6 := own_set HI5.out f (.int .i64 x)
  have hbx6 := HB5.out.upd us (by omega)
  have hrs6 := HS5.out.upd us (by omega)
  have hU6 := HU5.out.next us (fun i hi h => by omega)
  generalize w5.setCell ⟨g2, f, none⟩ (.int .i64 x) = w6 at *
  have c0 := hbx6.cell 0 rfl
  have c1 := hbx6.cell 1 rfl
  have cf := hbx6.frozen 1
  have cl := hbx6.lt
  have r0 := hrs6.cell 0 rfl
  have r1 := hrs6.cell 1 rfl
  have f0 := hrs6.frozen 0
  have f1 := hrs6.frozen 1
  have rl := hrs6.lt
  have HO6 := Lib.hid hO6
  have HI6 := Lib.hid hI6
  have HB6 := Lib.hid hbx6
  have HS6 := Lib.hid hrs6
  have HU6 := Lib.hid hU6
  clear us hO6 hI6 hbx6 hrs6 hU6 q4 q5 qf
  go_wp2
  have ut : Upd (fun k => k = w.heap.size ∨ k = w.heap.size + 1) w6 (((w6.setCell ⟨w.heap.size, 1, none⟩ (.slice (some ⟨g1, 0, none⟩) os.length c1')).setCell ⟨w.heap.size + 1, 0, none⟩ (.int .i64 (size : Int))).setCell ⟨w.heap.size + 1, 1, none⟩ (.slice (some ⟨g1, 0, none⟩) os.length c1')) :=
    (((Upd.refl (fun k => k = w.heap.size ∨ k = w.heap.size + 1) w6).setCell (p := ⟨w.heap.size, 1, none⟩) _ (fun _ => .inl rfl)).setCell (p := ⟨w.heap.size + 1, 0, none⟩) _ (fun _ => .inr rfl)).setCell (p := ⟨w.heap.size + 1, 1, none⟩) _ (fun _ => .inr rfl)
  have hall : Upd (fun _ => False) w (((w6.setCell ⟨w.heap.size, 1, none⟩ (.slice (some ⟨g1, 0, none⟩) os.length c1')).setCell ⟨w.heap.size + 1, 0, none⟩ (.int .i64 (size : Int))).setCell ⟨w.heap.size + 1, 1, none⟩ (.slice (some ⟨g1, 0, none⟩) os.length c1')) :=
    ((HU2.out.trans HU6.out).next ut (fun i hi h => by omega))
  have hw2 := HU2.out.size
  refine bodyPost_ret (res_cell_tmp rfl _ _ (w.heap.size + 1) _ 30 _ _ rfl rfl (((HS6.out.setOther _ (by simp)).set 0 _).set 1 _) Try.underlying30 rfl (by kernel_rfl)) rfl ⟨.slice (some ⟨g1, 0, none⟩) os.length c1', rfl, ?_, hall⟩
  have hown := own_upd HO6.out ut (fun g hg e => by have h : g1 = g := Option.some.inj hg; omega)
  have hint := own_upd HI6.out ut (fun g hg e => by have h : g2 = g := Option.some.inj hg; omega)
  have hmap : (L0.set ix (⟨o1.kind, o1.ptrs, o1.ws.set f x⟩, .slice (some ⟨g2, 0, none⟩) o1.ws.length c2')).map (·.1) = setWord os a f x := by
    rw [HSet.out, ← HLm.out, List.map_set]
  have hsl : (setWord os a f x).length = os.length := by rw [HSet.out, List.length_set]
  rw [HSet.out] at hmap hsl ⊢
  refine ⟨⟨_, hmap, ?_, fun p hp => ?_, fun p hp => ?_⟩, by rw [hsl]; exact hol, by rw [← HSet.out]; exact setWord_good HR.out.good _ _ _⟩
  · rw [hsl, ocells_set L0 0 ix o1 ⟨o1.kind, o1.ptrs, o1.ws.set f x⟩ v1 _ HLx.out rfl rfl (by simp [Ob.len])]
    exact own_base hown (by omega)
  · rcases List.mem_or_eq_of_mem_set hp with hp | hp
    · exact (HL2.out p hp).quiet hall
    · subst hp
      have e : nums (o1.ws.set f x) = (nums o1.ws).set f (.int .i64 x) := by simp [nums, List.map_set]
      have hlx : (o1.ws.set f x).length = o1.ws.length := List.length_set
      exact IntsAt.of_own (base := w3.heap.size) (by show World.ownsRow _ _ _ _ _ (o1.ws.set f x).length (nums (o1.ws.set f x)); rw [e, hlx]; exact hint)
  · rcases List.mem_or_eq_of_mem_set hp with hp | hp
    · exact ⟨(HOff.out p hp).1, fun a n c e => Nat.lt_of_lt_of_le ((HOff.out p hp).2 a n c e) hall.size⟩
    · subst hp
      refine ⟨fun a n c e hs => ?_, fun a n c e => ?_⟩
      · cases e
        have h1 := hS _ hs
        simp only at h1
        omega
      · cases e
        have h1 := ut.size
        have h2 := HI6.out.lt g2 rfl
        simp only
        omega

set_option maxRecDepth 20000 in
set_option maxHeartbeats 4000000 in
theorem rwrite_word (w : World) (base size : Nat) (v : Value) (os : List Ob) (S : Nat → Prop) (hS : ∀ k, S k → k < w.heap.size) (R : RefAtS w base v os S) (a f : Nat) (o : Ob) (x : Int) (hf : find os a = some o) (hfl : f < o.len) (hk : o.kind ≠ 15) (hp : ¬ f < o.ptrs) :
    Calls Try.prog 36 #[hv size v, .int .i64 (a : Int), .int .i64 (f : Int), .int .i64 x] w (RWritten w S size (setWord os a f x)) := by
  obtain ⟨i0, hi0, hz0, hz1, hz2⟩ := info_parts infoInt
  obtain ⟨j0, hj0, hy0, hy1, hy2⟩ := info_parts infoObj
  obtain ⟨va, vc, rfl⟩ := R.form
  have hol : os.length ≤ 65536 := R.few
  obtain ⟨ix, hix⟩ : ∃ ix, findIdx 0 os a = some ix := by
    cases h : findIdx 0 os a with
    | some ix => exact ⟨ix, rfl⟩
    | none => rw [findIdx_no h] at hf; cases hf
  obtain ⟨o', ho1, ho2⟩ := findIdx_some hix
  obtain rfl : o' = o := by rw [hf] at ho2; exact (Option.some.inj ho2).symm
  have hixl : ix < os.length := (List.getElem?_eq_some_iff.1 ho1).1
  have hio : idxOf os (a : Int) = (ix : Int) := by
    unfold idxOf
    rw [if_neg (by omega), show ((a : Int)).toNat = a by omega, hix]
  have hgo := R.good _ (find_mem hf)
  have hwl : o'.ws.length ≤ 4095 := hgo.2.2.1
  have hfl' : f < o'.ws.length := hfl
  have hset := setWord_idx (f := f) (x := x) os 0 a ix (by rw [Nat.zero_add]; exact hix) o' ho1
  have hbx := (Blk.made w [.int .i64 (size : Int), .slice va os.length vc] 30).alloc (.cells #[.int .i64 0, .slice none 0 0] 30)
  have hrs := Blk.made' w (.cells #[.int .i64 (size : Int), .slice va os.length vc] 30) [.int .i64 0, .slice none 0 0] 30
  have hu0 := (((Upd.refl (fun _ => False) w).alloc (.cells #[.int .i64 (size : Int), .slice va os.length vc] 30)).alloc (.cells #[.int .i64 0, .slice none 0 0] 30))
  have HB0 := Lib.hid hbx
  have HS0 := Lib.hid hrs
  have HU0 := Lib.hid hu0
  have HR := Lib.hid R
  have HFi := Lib.hid (find_any _ base size _ os (R.ref.quiet hu0) (a : Int))
  rw [hio] at HFi
  have HSet := Lib.hid hset
  have Ho1 := Lib.hid ho1
  
  have dk : ((o'.kind : Int) == 15) = false := by rw [beq_eq_false_iff_ne]; omega
  have d0 : decide ((f : Int) < 0) = false := decide_eq_false (by omega)
  have d1 : decide ((o'.len : Int) ≤ (f : Int)) = false := decide_eq_false (by omega)
  have d1' : decide (o'.len ≤ f) = false := decide_eq_false (by omega)
  have d2 : decide ((f : Int) < (o'.ptrs : Int)) = false := decide_eq_false (by omega)
  have d2' : decide (f < o'.ptrs) = false := decide_eq_false hp
  have d3 : decide ((ix : Int) < 0) = false := decide_eq_false (by omega)
  have i1 : (0 : Int) ≤ (ix : Int) := by omega
  have i2 : (ix : Int) < (os.length : Int) := by omega
  have i3 : (0 : Int) ≤ (f : Int) := by omega
  have i4 : (f : Int) < (o'.ws.length : Int) := by omega
  clear hbx hrs hu0 R hix ho1 ho2 hio hset hf hgo hk hp 
  go_enter Try.func36, Try.ntmps36
  go_wp2_with fail
  refine (HFi.out).mono ?_
  rintro e w1 ⟨rfl, hu1⟩
  have HU1 := Lib.hid (HU0.out.trans hu1)
  have HB1 := Lib.hid (HB0.out.upd hu1 (fun h => h))
  have HS1 := Lib.hid (HS0.out.upd hu1 (fun h => h))
  have HR1 := Lib.hid (HR.out.ref.quiet HU1.out)
  obtain ⟨og, ocap, hoe, _, hogl⟩ := HR1.out.some' (by omega)
  cases hoe
  obtain ⟨oa, wv, _, hwv, k0, k1, k2, k3, k4⟩ := HR1.out.at' Ho1.out
  obtain ⟨xa, xc, rfl⟩ := hwv.form
  have Hwv := Lib.hid hwv
  have c0 := HB1.out.cell 0 rfl
  have c1 := HB1.out.cell 1 rfl
  have bl := HB1.out.lt
  clear hu1 hwv HFi
  go_upto_region 9 with (fail)
  obtain ⟨w2, hw2⟩ : ∃ w2 : World, w2 = (w1.alloc (.cells #[.int .i64 (oa : Int), .int .i64 (o'.kind : Int), .int .i64 (o'.len : Int), .int .i64 (o'.ptrs : Int), .slice xa o'.ws.length xc] 55)) := ⟨_, rfl⟩
  have hu2 : Upd (fun _ => False) (w1.alloc (.cells #[.int .i64 (oa : Int), .int .i64 (o'.kind : Int), .int .i64 (o'.len : Int), .int .i64 (o'.ptrs : Int), .slice xa o'.ws.length xc] 55)) w2 := by rw [hw2]; exact Upd.refl _ _
  rw [← hw2]
  clear hw2
  have HU2 := Lib.hid (HU1.out.trans ((Upd.refl (fun _ => False) w1).alloc (.cells #[.int .i64 (oa : Int), .int .i64 (o'.kind : Int), .int .i64 (o'.len : Int), .int .i64 (o'.ptrs : Int), .slice xa o'.ws.length xc] 55) |>.trans hu2))
  have ha1 := (Upd.refl (fun _ => False) w1).alloc (.cells #[.int .i64 (oa : Int), .int .i64 (o'.kind : Int), .int .i64 (o'.len : Int), .int .i64 (o'.ptrs : Int), .slice xa o'.ws.length xc] 55)
  have HB2 := Lib.hid ((HB1.out.upd ha1 (fun h => h)).upd hu2 (fun h => h))
  have HS2 := Lib.hid ((HS1.out.upd ha1 (fun h => h)).upd hu2 (fun h => h))
  have HX2 := Lib.hid ((Blk.made w1 [.int .i64 (oa : Int), .int .i64 (o'.kind : Int), .int .i64 (o'.len : Int), .int .i64 (o'.ptrs : Int), .slice xa o'.ws.length xc] 55).upd hu2 (fun h => h))
  have HR2 := Lib.hid (HR.out.ref.quiet HU2.out)
  have Hwv2 := Lib.hid ((Hwv.out.quiet ha1).quiet hu2)
  obtain ⟨L0, hL0, hL1', hL2', hL3'⟩ := HR.out.rows
  have HOff := Lib.hid hL3'
  have HL1 := Lib.hid (own_upd hL1' HU2.out (fun _ _ h => h))
  have HL2 := Lib.hid hL2'
  have HL2' := Lib.hid (show ∀ p ∈ L0, IntsAt w2 p.2 p.1.ws from fun p hp => (hL2' p hp).quiet HU2.out)
  have HLm := Lib.hid hL0
  have HOL := Lib.hid (show (ocells 0 L0).length = os.length * 5 from hL1'.1)
  clear c0 c1 bl k0 k1 k2 k3 k4 hogl hu2 ha1 hL0 hL1' hL2' hL3'
  have x4 := HX2.out.cell 4 rfl
  have c1 := HB2.out.cell 1 rfl
  have bl := HB2.out.lt
  have xl := HX2.out.lt
  have sl := HS2.out.lt
  have oe1 := own_empty w2 55 5 w2.heap.size (Nat.le_refl _)
  have OE1 := Lib.hid oe1
  have SR1 := Lib.hid ((src_own HL1.out).quiet ((Upd.refl _ w2).alloc (.cells #[] 55)))
  clear oe1
  go_wp2_with (first | (at_builtin; refine wpList_app _ (by rfl) _ _ 28 (by rfl) w2.heap.size 55 j0 _ 5 56 Try.underlying28 hj0 hy0 hy1 hy2 rfl (by decide) _ 0 [] (by rfl) OE1.out _ _ _ (ocells 0 L0) (by rfl) HOL.out SR1.out (ocells_one HL2'.out) (by simp only [maxLen]; omega) (by omega) (by simp) ?_))
  intro v1 w3 ho3 hg3 hat3
  obtain ⟨g1, c1', rfl, hg1b, hg1l, hn1, hc1⟩ := own_some ho3 (by omega)
  have hU3 : Upd (fun _ => False) w2 w3 := ((Upd.refl (fun _ => False) w2).alloc (.cells #[] 55)).grown hg3 (fun g hg hlt => by have h : w2.heap.size = g := Option.some.inj hg; omega)
  have HB3 := Lib.hid (HB2.out.upd hU3 (fun h => h))
  have HS3 := Lib.hid (HS2.out.upd hU3 (fun h => h))
  have hX3 := HX2.out.upd hU3 (fun h => h)
  have x4' := hX3.cell 4 rfl
  have xl' := hX3.lt
  have HO3 := Lib.hid ho3
  have HU3 := Lib.hid hU3
  have oe2 := own_empty w3 3 1 w3.heap.size (Nat.le_refl _)
  have OE2 := Lib.hid oe2
  have SR2 := Lib.hid ((Hwv2.out.quiet (hU3.alloc (.cells #[] 3))).src)
  have HNl := Lib.hid (show (nums o'.ws).length = o'.ws.length * 1 by rw [nums_len, Nat.mul_one])
  have hs3 := hU3.size
  clear oe2 ho3 hg3 hat3 hU3 hX3 x4 c1 bl xl sl
  go_wp2_with (first | (at_builtin; refine wpList_app _ (by rfl) _ _ 22 (by rfl) w3.heap.size 3 i0 _ 1 8 Try.underlying22 hi0 hz0 hz1 hz2 rfl (by decide) _ 0 [] (by rfl) OE2.out _ _ _ (nums o'.ws) (by rfl) HNl.out SR2.out (nums_one _) (by simp only [maxLen]; omega) (by omega) (by simp) ?_))
  intro v2 w4 ho4 hg4 hat4
  obtain ⟨g2, c2', rfl, hg2b, hg2l, hn2, hc2⟩ := own_some ho4 (by omega)
  have hU4 : Upd (fun _ => False) w3 w4 := ((Upd.refl (fun _ => False) w3).alloc (.cells #[] 3)).grown hg4 (fun g hg hlt => by have h : w3.heap.size = g := Option.some.inj hg; omega)
  have hO34 := own_upd HO3.out hU4 (fun _ _ h => h)
  obtain ⟨⟨o1, v1⟩, hLix⟩ : ∃ q, L0[ix]? = some q := ⟨_, List.getElem?_eq_getElem (by have := congrArg List.length HLm.out; simp at this; omega)⟩
  have ho1o : o1 = o' := by
    have h1 := Ho1.out
    rw [← HLm.out, List.getElem?_map, hLix] at h1
    exact Option.some.inj h1
  subst ho1o
  obtain ⟨_, _, _, _, _, _, hcell5⟩ := ocells_at 0 L0 ix o1 v1 hLix
  have y4 := own_at hO34 (ix * 5 + 4) hcell5
  have yf := own_unfrozen hO34 (ix * 5 + 4)
  have HO34 := Lib.hid hO34
  have HO4 := Lib.hid ho4
  have HU4 := Lib.hid hU4
  have HLx := Lib.hid hLix
  have hs4 := hU4.size
  have hg1l' : g1 < w4.heap.size := by omega
  clear ho4 hg4 hat4 hU4 hO34 x4' xl' hcell5 hLix
  go_upto_region 11 with (fail)
  have hne : g1 ≠ g2 := by omega
  have us := (Upd.refl (fun k => k = g1) w4).setCell (p := ⟨g1, ix * 5 + 4, none⟩) (.slice (some ⟨g2, 0, none⟩) o1.ws.length c2') (fun _ => rfl)
  have hO5 := own_set HO34.out (ix * 5 + 4) (.slice (some ⟨g2, 0, none⟩) o1.ws.length c2')
  have hI5 := own_upd HO4.out us (fun g hg e => hne ((Option.some.inj hg).trans e).symm)
  have hgb : w2.heap.size ≤ g1 := hg1b
  have hrbx := HS2.out.lt
  have hbx5 := ((HB3.out.upd HU4.out (fun h => h)).upd us (by omega))
  have hrs5 := ((HS3.out.upd HU4.out (fun h => h)).upd us (by omega))
  have hlen5 : ix * 5 + 4 < (ocells 0 L0).length := by have := HOL.out; omega
  have q4 := own_at hO5 (ix * 5 + 4) (u := .slice (some ⟨g2, 0, none⟩) o1.ws.length c2') (by rw [List.getElem?_set_self hlen5])
  have q5 := own_at hI5 f (u := .int .i64 o1.ws[f]) (by simp [nums, hfl'])
  have qf := own_unfrozen hI5 f
  have hU5 := (HU3.out.trans HU4.out).next us (fun i hi h => by omega)
  have hl5 := us.size
  generalize w4.setCell ⟨g1, ix * 5 + 4, none⟩ (.slice (some ⟨g2, 0, none⟩) o1.ws.length c2') = w5 at *
  have HO5 := Lib.hid hO5
  have HI5 := Lib.hid hI5
  have HB5 := Lib.hid hbx5
  have HS5 := Lib.hid hrs5
  have HU5 := Lib.hid hU5
  have hg2l5 : g2 < w5.heap.size := by omega
  have hg1l5 : g1 < w5.heap.size := by omega
  clear us hO5 hI5 hbx5 hrs5 hU5 y4 yf hlen5
  go_upto_region 12 with (fail)
  have us := (Upd.refl (fun k => k = g2) w5).setCell (p := ⟨g2, f, none⟩) (.int .i64 x) (fun _ => rfl)
  have hO6 := own_upd HO5.out us (fun g hg e => hne ((Option.some.inj hg).trans e))
  have hI6 := own_set HI5.out f (.int .i64 x)
  have hbx6 := HB5.out.upd us (by omega)
  have hrs6 := HS5.out.upd us (by omega)
  have hU6 := HU5.out.next us (fun i hi h => by omega)
  generalize w5.setCell ⟨g2, f, none⟩ (.int .i64 x) = w6 at *
  have c0 := hbx6.cell 0 rfl
  have c1 := hbx6.cell 1 rfl
  have cf := hbx6.frozen 1
  have cl := hbx6.lt
  have r0 := hrs6.cell 0 rfl
  have r1 := hrs6.cell 1 rfl
  have f0 := hrs6.frozen 0
  have f1 := hrs6.frozen 1
  have rl := hrs6.lt
  have HO6 := Lib.hid hO6
  have HI6 := Lib.hid hI6
  have HB6 := Lib.hid hbx6
  have HS6 := Lib.hid hrs6
  have HU6 := Lib.hid hU6
  clear us hO6 hI6 hbx6 hrs6 hU6 q4 q5 qf
  go_wp2
  have ut : Upd (fun k => k = w.heap.size ∨ k = w.heap.size + 1) w6 (((w6.setCell ⟨w.heap.size, 1, none⟩ (.slice (some ⟨g1, 0, none⟩) os.length c1')).setCell ⟨w.heap.size + 1, 0, none⟩ (.int .i64 (size : Int))).setCell ⟨w.heap.size + 1, 1, none⟩ (.slice (some ⟨g1, 0, none⟩) os.length c1')) :=
    (((Upd.refl (fun k => k = w.heap.size ∨ k = w.heap.size + 1) w6).setCell (p := ⟨w.heap.size, 1, none⟩) _ (fun _ => .inl rfl)).setCell (p := ⟨w.heap.size + 1, 0, none⟩) _ (fun _ => .inr rfl)).setCell (p := ⟨w.heap.size + 1, 1, none⟩) _ (fun _ => .inr rfl)
  have hall : Upd (fun _ => False) w (((w6.setCell ⟨w.heap.size, 1, none⟩ (.slice (some ⟨g1, 0, none⟩) os.length c1')).setCell ⟨w.heap.size + 1, 0, none⟩ (.int .i64 (size : Int))).setCell ⟨w.heap.size + 1, 1, none⟩ (.slice (some ⟨g1, 0, none⟩) os.length c1')) :=
    ((HU2.out.trans HU6.out).next ut (fun i hi h => by omega))
  have hw2 := HU2.out.size
  refine bodyPost_ret (res_cell_tmp rfl _ _ (w.heap.size + 1) _ 30 _ _ rfl rfl (((HS6.out.setOther _ (by simp)).set 0 _).set 1 _) Try.underlying30 rfl (by kernel_rfl)) rfl ⟨.slice (some ⟨g1, 0, none⟩) os.length c1', rfl, ?_, hall⟩
  have hown := own_upd HO6.out ut (fun g hg e => by have h : g1 = g := Option.some.inj hg; omega)
  have hint := own_upd HI6.out ut (fun g hg e => by have h : g2 = g := Option.some.inj hg; omega)
  have hmap : (L0.set ix (⟨o1.kind, o1.ptrs, o1.ws.set f x⟩, .slice (some ⟨g2, 0, none⟩) o1.ws.length c2')).map (·.1) = setWord os a f x := by
    rw [HSet.out, ← HLm.out, List.map_set]
  have hsl : (setWord os a f x).length = os.length := by rw [HSet.out, List.length_set]
  rw [HSet.out] at hmap hsl ⊢
  refine ⟨⟨_, hmap, ?_, fun p hp => ?_, fun p hp => ?_⟩, by rw [hsl]; exact hol, by rw [← HSet.out]; exact setWord_good HR.out.good _ _ _⟩
  · rw [hsl, ocells_set L0 0 ix o1 ⟨o1.kind, o1.ptrs, o1.ws.set f x⟩ v1 _ HLx.out rfl rfl (by simp [Ob.len])]
    exact own_base hown (by omega)
  · rcases List.mem_or_eq_of_mem_set hp with hp | hp
    · exact (HL2.out p hp).quiet hall
    · subst hp
      have e : nums (o1.ws.set f x) = (nums o1.ws).set f (.int .i64 x) := by simp [nums, List.map_set]
      have hlx : (o1.ws.set f x).length = o1.ws.length := List.length_set
      exact IntsAt.of_own (base := w3.heap.size) (by show World.ownsRow _ _ _ _ _ (o1.ws.set f x).length (nums (o1.ws.set f x)); rw [e, hlx]; exact hint)
  · rcases List.mem_or_eq_of_mem_set hp with hp | hp
    · exact ⟨(HOff.out p hp).1, fun a n c e => Nat.lt_of_lt_of_le ((HOff.out p hp).2 a n c e) hall.size⟩
    · subst hp
      refine ⟨fun a n c e hs => ?_, fun a n c e => ?_⟩
      · cases e
        have h1 := hS _ hs
        simp only at h1
        omega
      · cases e
        have h1 := ut.size
        have h2 := HI6.out.lt g2 rfl
        simp only
        omega

end Go.Proofs.Ytlphlaenecidiaa.Ref
