/- Scripts: All: the walk. -/
import Derived.Test.YtlphlaenecidiaaDoorAllP
import Derived.Test.YtlphlaenecidiaaDoorScr9
set_option linter.unusedSimpArgs false
namespace Go.Proofs.YtlphlaenecidiaaDoor.Scr
open Go.RowKit Go.Proofs.YtlphlaenecidiaaDoor.Mem

theorem infoEnt : (Tryd.prog.info? 25).map (fun i => (i.zero, i.size, i.bytes)) = some (some (.agg #[.int .i64 0, .int .i64 0, .int .i64 0, .int .i64 0, .int .i64 0]), 5, 40) := by kernel_rfl
def strLen : Value → Nat
  | .string b => b.data.toList.length
  | _ => 0
/-- What All answers. -/
def AllAns (H : Nat) (a : Except Nat (List Ent)) (x : Ending) (w' : World) : Prop :=
  match a with
  | .ok es => ∃ p c, x = .returned (.tuple #[.slice p es.length c, .int .i64 0, .int .i64 0]) ∧ w'.ownsRow H 25 5 (.slice p es.length c) es.length (ecells es)
  | .error k => x = .returned (.tuple #[.slice none 0 0, .int .i64 ((k : Int) + 1), .int .i64 10])
theorem parsed_form (l : List UInt8) : ∃ (E : Ent) (f : Int), parsed l = .tuple #[E.val, .int .i64 f] := by
  unfold parsed
  split
  · exact ⟨_, _, rfl⟩
  · exact ⟨_, _, rfl⟩
theorem cells_one (E : Ent) : ∀ u ∈ E.cells, u.oneCell' = true := by
  intro u hu
  simp only [Ent.cells, List.mem_cons, List.not_mem_nil, or_false] at hu
  rcases hu with rfl | rfl | rfl | rfl | rfl <;> rfl
set_option maxRecDepth 20000 in
set_option maxHeartbeats 8000000 in
theorem all_any (w : World) (T : Tabs w) (R : Errs w) (s : ByteArray) (L : List UInt8) (hl : s.data.toList = L) (hs : s.size ≤ 100000) :
    Calls Tryd.prog 16 #[.string s] w fun x w' => Upd (fun _ => False) w w' ∧ AllAns w.heap.size (alls [] L) x w' := by
  obtain rfl := str_eq hl
  obtain ⟨i0, hi0, hz0, hz1, hz2⟩ := info_parts infoEnt
  obtain ⟨mx, hmx⟩ := T.maxlen
  have hLn : L.length ≤ 100000 := hs
  have HCut := Lib.hid (fun (V : World) (hV : Upd (fun _ => False) w V) (t : List UInt8) (ht : t.length ≤ 100000) => Tryd.strings_Cut ⟨t.toArray⟩ ⟨#[10]⟩ mx V (by show t.length < _; omega) (keepC hV hmx))
  have HPa := Lib.hid (fun (V : World) (hV : Upd (fun _ => False) w V) (t : List UInt8) (ht : t.length ≤ 100000) => parse_any V (T.quiet hV) (R.quiet hV) ⟨t.toArray⟩ (by show t.length ≤ _; omega))
  clear T R hmx hl hs
  go_enter Tryd.func16, Tryd.ntmps16
  go_wp2_with fail
  go_loopw [0, 5, 6] (fun tx v i wr => ∃ (es : List Ent) (t : List UInt8) (a : Option Addr) (c : Nat), tx = .string ⟨t.toArray⟩ ∧ v = .slice a es.length c ∧ i = .int .i64 ((es.length : Int) + 1) ∧ wr.ownsRow w.heap.size 25 5 (.slice a es.length c) es.length (ecells es) ∧ behind es (alls [] t) = alls [] L ∧ es.length + t.length ≤ 100000 ∧ Upd (fun _ => False) w wr) (fun tx _ _ _ => strLen tx)
  case atStart => exact ⟨[], L, _, _, rfl, rfl, rfl, ⟨rfl, .inl ⟨rfl, rfl⟩⟩, behind_nil _, by simpa using hLn, Upd.refl _ _⟩
  case round =>
    obtain ⟨es, t, a, c, rfl, rfl, rfl, hO, hb, hn, hU⟩ := hrel
    have HO := Lib.hid hO
    have HB := Lib.hid hb
    have HU := Lib.hid hU
    clear hO hb hU
    by_cases ht : t = []
    · subst ht
      have hans : alls [] L = .ok es := by
        rw [← HB.out, alls_stop, if_pos rfl]
        show Except.ok (es ++ []) = _
        rw [List.append_nil]
      have HAns := Lib.hid hans
      clear hans
      go_wp2_with fail
      go_ret3
      refine ⟨HU.out, ?_⟩
      rw [HAns.out]
      exact ⟨_, _, rfl, HO.out⟩
    · have e0 : (t == []) = false := by rw [beq_eq_false_iff_ne]; exact ht
      have e0' : (t != []) = true := by rw [bne_iff_ne]; exact ht
      by_cases h10 : (10 : UInt8) ∈ t
      · obtain ⟨p, b, rfl, hp⟩ := first_end t h10
        have hcl : p.length + 1 + b.length + es.length ≤ 100000 := by rw [List.length_append, List.length_cons] at hn; omega
        have hcut := HCut.out wr HU.out (p ++ 10 :: b) (by omega)
        rw [show Lib.cut (⟨(p ++ 10 :: b).toArray⟩ : ByteArray).data.toList (⟨#[10]⟩ : ByteArray).data.toList = (p, b, true) from cut_hit hp b] at hcut
        have halls := HB.out
        rw [alls_line hp] at halls
        have HCut1 := Lib.hid hcut
        have HAlls := Lib.hid halls
        clear hcut halls ht h10 hn
        go_wp2_with fail
        refine (HCut1.out).mono ?_
        rintro x w1 ⟨rfl, n, rfl⟩
        have HU1 := Lib.hid (HU.out.drewN n)
        have HO1 := Lib.hid (own_upd (S := fun _ => False) HO.out ((Upd.refl _ wr).drewN n) (fun _ _ h => h))
        generalize wr.drewN n = w1 at *
        by_cases hf : fits p
        · obtain ⟨E, hE⟩ : ∃ E, E = made (spl p) := ⟨_, rfl⟩
          have hpa := HPa.out w1 HU1.out p (by omega)
          rw [show parsed (⟨p.toArray⟩ : ByteArray).data.toList = .tuple #[E.val, .int .i64 0] by rw [hE]; exact if_pos hf] at hpa
          have hal : behind (es ++ [E]) (alls [] b) = alls [] L := by
            rw [← HAlls.out, alls_fit hf, behind_two, hE]
          have HPa1 := Lib.hid hpa
          have HAl := Lib.hid hal
          clear hpa hal hE hf
          go_wp2_with fail
          refine (HPa1.out).mono ?_
          rintro x w2 ⟨rfl, hu2⟩
          have HO2 := Lib.hid (own_upd HO1.out hu2 (fun _ _ h => h))
          have HU2 := Lib.hid (HU1.out.trans hu2)
          clear hu2
          go_upto_region 9 with (fail)
          have hbe : Blk (w2.alloc (.cells #[.int .i64 E.op, .int .i64 E.n0, .int .i64 E.n1, .int .i64 E.n2, .int .i64 E.n3] 25)) w2.heap.size E.cells 25 := Blk.made w2 E.cells 25
          have hu3 := HU2.out.alloc (.cells #[.int .i64 E.op, .int .i64 E.n0, .int .i64 E.n1, .int .i64 E.n2, .int .i64 E.n3] 25)
          have ho3 := HO2.out.alloc (.cells #[.int .i64 E.op, .int .i64 E.n0, .int .i64 E.n1, .int .i64 E.n2, .int .i64 E.n3] 25)
          generalize w2.alloc (.cells #[.int .i64 E.op, .int .i64 E.n0, .int .i64 E.n1, .int .i64 E.n2, .int .i64 E.n3] 25) = w3 at *
          generalize w2.heap.size = eb at *
          have c0 := hbe.cell 0 rfl
          have c1 := hbe.cell 1 rfl
          have c2 := hbe.cell 2 rfl
          have c3 := hbe.cell 3 rfl
          have c4 := hbe.cell 4 rfl
          have cl := hbe.lt
          have HU3 := Lib.hid hu3
          have HO3 := Lib.hid ho3
          clear hbe hu3 ho3
          go_wp2_with (first | (at_builtin; refine wpList_append_lies _ rfl _ _ 37 rfl w.heap.size 25 i0 _ 5 40 Tryd.underlying37 hi0 hz0 hz1 hz2 rfl (by decide) _ es.length (ecells es) rfl (HO3.out.alloc _) ⟨w3.heap.size, 0, none⟩ 1 1 E.cells rfl rfl ?c1 ?c2 (by decide) ?c3 ?c4 ?c5 _ rfl ?_))
          case c1 => exact cells_new w3 E.cells _
          case c2 => exact cells_one E
          case c3 => simp only [maxLen]; omega
          case c4 => omega
          case c5 => have := HU3.out.size; simp only [World.size_alloc]; omega
          intro g2 cap2 w4 hO4 hg4 hat4 hlt4
          have hU4 : Upd (fun _ => False) w w4 := (HU3.out.alloc _).grown hg4 (fun k hk hlt => by have := HO3.out.lt k hk; omega)
          rw [← ecells_snoc] at hO4
          have HU4 := Lib.hid hU4
          have HO4 := Lib.hid hO4
          clear hO4 hg4 hat4 hU4 c0 c1 c2 c3 c4
          go_wp2_with fail
          go_roundw
          case rel =>
            refine ⟨es ++ [E], b, some ⟨g2, 0, none⟩, cap2, rfl, by rw [List.length_append]; rfl, by rw [List.length_append]; go_num, by rw [List.length_append]; exact HO4.out, HAl.out, by rw [List.length_append, List.length_singleton]; omega, HU4.out⟩
          case measure =>
            show b.length < (p ++ 10 :: b).length
            rw [List.length_append, List.length_cons]; omega
        · have hpa := HPa.out w1 HU1.out p (by omega)
          rw [show parsed (⟨p.toArray⟩ : ByteArray).data.toList = .tuple #[.agg #[.int .i64 0, .int .i64 0, .int .i64 0, .int .i64 0, .int .i64 0], .int .i64 10] from parsed_no hf] at hpa
          have hans : alls [] L = .error es.length := by
            rw [← HAlls.out, alls_not hf]
            rfl
          have HPa1 := Lib.hid hpa
          have HAns := Lib.hid hans
          clear hpa hans hf
          go_wp2_with fail
          refine (HPa1.out).mono ?_
          rintro x w2 ⟨rfl, hu2⟩
          have HU2 := Lib.hid (HU1.out.trans hu2)
          clear hu2
          go_wp2_with fail
          go_ret3
          refine ⟨HU2.out.alloc _, ?_⟩
          rw [HAns.out]
          exact rfl
      · have hcut := HCut.out wr HU.out t (by omega)
        rw [show Lib.cut (⟨t.toArray⟩ : ByteArray).data.toList (⟨#[10]⟩ : ByteArray).data.toList = (t, [], false) from cut_miss h10] at hcut
        have hans : alls [] L = .error es.length := by
          rw [← HB.out, alls_last h10 ht]
          rfl
        obtain ⟨E, f, hpf⟩ := parsed_form t
        have HPf := Lib.hid hpf
        have HCut1 := Lib.hid hcut
        have HAns := Lib.hid hans
        clear hcut hans ht h10 hpf
        go_wp2_with fail
        refine (HCut1.out).mono ?_
        rintro x w1 ⟨rfl, n, rfl⟩
        have HU1 := Lib.hid (HU.out.drewN n)
        have HO1 := Lib.hid (own_upd (S := fun _ => False) HO.out ((Upd.refl _ wr).drewN n) (fun _ _ h => h))
        generalize wr.drewN n = w1 at *
        have hpa := HPa.out w1 HU1.out t (by omega)
        rw [show parsed (⟨t.toArray⟩ : ByteArray).data.toList = .tuple #[E.val, .int .i64 f] from HPf.out] at hpa
        have HPa1 := Lib.hid hpa
        clear hpa
        go_wp2_with fail
        refine (HPa1.out).mono ?_
        rintro x w2 ⟨rfl, hu2⟩
        have HU2 := Lib.hid (HU1.out.trans hu2)
        clear hu2
        go_wp2_with fail
        go_ret3
        refine ⟨HU2.out.alloc _, ?_⟩
        rw [HAns.out]
        exact rfl
end Go.Proofs.YtlphlaenecidiaaDoor.Scr
