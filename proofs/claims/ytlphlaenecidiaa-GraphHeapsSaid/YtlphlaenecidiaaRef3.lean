/- The document's answer for what is found. -/
import Derived.Test.YtlphlaenecidiaaRef2
namespace Go.Proofs.Ytlphlaenecidiaa.Ref
open Go.RowKit Go.Proofs.Ytlphlaenecidiaa.Mem Go.Proofs.Ytlphlaenecidiaa.Obj

theorem infoInt : (Try.prog.info? 3).map (fun i => (i.zero, i.size, i.bytes)) = some (some (.int .i64 0), 1, 8) := by kernel_rfl
def nums (zs : List Int) : List Value := zs.map (Value.int .i64)
theorem nums_len (zs : List Int) : (nums zs).length = zs.length := by simp [nums]
theorem nums_one (zs : List Int) : ∀ u ∈ nums zs, u.oneCell' = true := by
  intro u hu
  obtain ⟨x, _, rfl⟩ := List.mem_map.1 hu
  rfl
theorem add_at (b off j : Nat) : (⟨b, off, none⟩ : Addr).add j = ⟨b, off + j, none⟩ := by unfold Addr.add; split <;> simp_all
theorem IntsAt.src {w : World} {a : Option Addr} {n cap : Nat} {xs : List Int} (h : IntsAt w (.slice a n cap) xs) : SrcAt w a (nums xs) := by
  obtain ⟨a', cap', he, _, hx⟩ := h
  cases he
  intro j u hu
  rw [nums, List.getElem?_map] at hu
  cases hxj : xs[j]? with
  | none => rw [hxj] at hu; cases hu
  | some x =>
    rw [hxj] at hu
    cases hu
    obtain ⟨b, off, e, hc, _⟩ := hx j x hxj
    exact ⟨_, e, by rw [add_at]; exact hc⟩
theorem IntsAt.of_own {w : World} {base : Nat} {v : Value} {xs : List Int} (h : w.ownsRow base 3 1 v xs.length (nums xs)) : IntsAt w v xs := by
  rcases h.2 with ⟨hv, h0⟩ | ⟨g, cap, cur, rfl, hb, hg, h1, h2, _⟩
  · refine ⟨none, 0, by rw [hv, h0], by omega, fun j x hj => ?_⟩
    have := (List.getElem?_eq_some_iff.1 hj).1
    omega
  · refine ⟨some ⟨g, 0, none⟩, cap, rfl, h1, fun j x hj => ⟨g, 0, rfl, ?_, (Array.getElem?_eq_some_iff.1 hg).1⟩⟩
    rw [Nat.zero_add]
    exact own_at h j (by rw [nums, List.getElem?_map, hj]; rfl)
theorem IntsAt.form {w : World} {v : Value} {xs : List Int} (h : IntsAt w v xs) : ∃ a cap, v = .slice a xs.length cap := by
  obtain ⟨a, cap, e, _⟩ := h
  exact ⟨a, cap, e⟩

/-- What found answers. -/
def FoundEnd (w : World) (v : Value) (l : List Nat) (r : Option (List Nat × Nat)) (e : Ending) (w' : World) : Prop :=
  Upd (fun _ => False) w w' ∧ match r with
    | none => e = .returned (.tuple #[v, .int .i64 0, .bool false])
    | some (l', k) => ∃ v', e = .returned (.tuple #[v', .int .i64 (k : Int), .bool true]) ∧ ((v' = v ∧ l' = l) ∨ w'.ownsRow w.heap.size 3 1 v' l'.length (nums (adr l')))

theorem top_le : ∀ {os : List Ob}, (∀ o ∈ os, o.good) → top os ≤ 4096 * os.length
  | [], _ => by rw [top_nil]; omega
  | o :: os, h => by
    have := top_le (os := os) (fun p hp => h p (List.mem_cons_of_mem _ hp))
    have := (h o List.mem_cons_self).2.2.1
    rw [top_cons, List.length_cons]
    omega
theorem number_leads {os : List Ob} {l : List Nat} {x : Int} (hx : x ≠ 0) : (leads os x = false ↔ number os l x = none) := by
  unfold leads number lookAt
  rw [if_neg hx, decide_eq_false hx, Bool.false_or]
  by_cases h : 0 < x
  · rw [decide_eq_true h, Bool.true_and, if_neg (by omega)]
    cases find os (x - 1).toNat with
    | none => simp
    | some o =>
      by_cases hk : o.kind = 15
      · simp [hk]
      · simp only [hk, ne_eq, not_false_eq_true, decide_true, Bool.true_eq_false, if_false, false_iff]
        split <;> simp
  · rw [decide_eq_false h, Bool.false_and, if_pos (by omega)]
    simp

set_option maxRecDepth 20000 in
set_option maxHeartbeats 2000000 in
theorem found_any (w : World) (base size : Nat) (v : Value) (os : List Ob) (R : RefAt w base v os) (va : Value) (l : List Nat) (hl : IntsAt w va (adr l)) (hll : l.length ≤ 268435456) (x : Int) (hx64 : x ≤ 9223372036854775807) :
    Calls Try.prog 30 #[hv size v, va, .int .i64 x] w (FoundEnd w va l (number os l x)) := by
  obtain ⟨i0, hi0, hz0, hz1, hz2⟩ := info_parts infoInt
  obtain ⟨ra, rc, rfl⟩ := R.form
  obtain ⟨aa, ac, rfl⟩ := hl.form
  have hal : (adr l).length = l.length := by simp [adr]
  rw [hal] at hl ⊢
  have hu := ((Upd.refl (fun _ => False) w).alloc (.cells #[.int .i64 (size : Int), .slice ra os.length rc] 30))
  have hbx := Blk.made w [.int .i64 (size : Int), .slice ra os.length rc] 30
  by_cases h0 : x = 0
  · subst h0
    have hn : number os l 0 = some (l, 0) := by simp [number]
    rw [hn]
    have HU := Lib.hid hu
    clear hu hbx R hl hn
    go_enter Try.func30, Try.ntmps30
    go_wp2
    go_ret3
    exact ⟨HU.out, _, rfl, .inl ⟨rfl, rfl⟩⟩
  · have d0 : (x == 0) = false := by rw [beq_eq_false_iff_ne]; exact h0
    have HLd := Lib.hid (leads_any _ base size _ os (R.quiet hu) x hx64)
    have HU := Lib.hid hu
    have HL := Lib.hid hl
    cases hld : leads os x with
    | false =>
      have hn : number os l x = none := (number_leads h0).1 hld
      rw [hn]
      have Hld := Lib.hid hld
      clear hu hbx R hl hn hld h0
      go_enter Try.func30, Try.ntmps30
      go_wp2_with fail
      refine (HLd.out).mono ?_
      rintro e w1 ⟨rfl, hu1⟩
      rw [Hld.out]
      have HU1 := Lib.hid (HU.out.trans hu1)
      clear hu1
      go_wp2
      go_ret3
      exact ⟨HU1.out, rfl⟩
    | true =>
      have hx1 : 0 < x := by
        unfold leads at hld
        rw [decide_eq_false h0, Bool.false_or] at hld
        exact of_decide_eq_true (Bool.and_eq_true_iff.1 hld).1
      obtain ⟨a, rfl⟩ : ∃ a : Nat, x = (a : Int) + 1 := ⟨(x - 1).toNat, by omega⟩
      have hnum : number os l ((a : Int) + 1) = match place l a with | some i => some (l, i + 1) | none => some (l ++ [a], l.length + 1) := by
        have hne : number os l ((a : Int) + 1) ≠ none := fun h => by rw [(number_leads h0).2 h] at hld; cases hld
        unfold number at hne ⊢
        rw [if_neg h0] at hne ⊢
        rw [show ((a : Int) + 1 - 1).toNat = a by omega] at hne ⊢
        split
        · rename_i h; rw [h] at hne; exact absurd rfl hne
        · rename_i o ho
          rw [ho] at hne
          simp only at hne
          by_cases hk : o.kind = 15
          · rw [if_pos hk] at hne; exact absurd rfl hne
          · rw [if_neg hk]
            cases place l a <;> rfl
      have ha64 : a ≤ 268435456 := by
        have h1 : ∃ o, find os a = some o := by
          unfold leads at hld
          rw [decide_eq_false h0, Bool.false_or, decide_eq_true hx1, Bool.true_and, show ((a : Int) + 1 - 1).toNat = a by omega] at hld
          cases hf : find os a with
          | none => rw [hf] at hld; cases hld
          | some o => exact ⟨o, rfl⟩
        obtain ⟨o, hf⟩ := h1
        have h2 := find_lt hf
        have h3 := top_le R.good
        have h4 := R.few
        omega
      clear hx64
      have Hld := Lib.hid hld
      cases hp : place l a with
      | some i =>
        rw [hp] at hnum
        have hil := place_lt hp
        have HN := Lib.hid hnum
        have HP := Lib.hid hp
        clear hu hbx R hl hnum hld h0 hp hal
        go_enter Try.func30, Try.ntmps30
        go_wp2_with fail
        refine (HLd.out).mono ?_
        rintro e w1 ⟨rfl, hu1⟩
        rw [Hld.out]
        have HU1 := Lib.hid (HU.out.trans hu1)
        clear hu1
        go_wp2_with fail
        refine (place_any _ _ l (HL.out.quiet HU1.out) (by omega) a).mono ?_
        rintro e w2 ⟨rfl, rfl⟩
        rw [placeI_some HP.out]
        go_wp2_with fail
        refine (place_any _ _ l (HL.out.quiet HU1.out) (by omega) a).mono ?_
        rintro e w2 ⟨rfl, rfl⟩
        rw [placeI_some HP.out]
        go_wp2
        go_ret3
        refine ⟨HU1.out, ?_⟩
        rw [HN.out]
        refine ⟨_, ?_, .inl ⟨rfl, rfl⟩⟩
        show Ending.returned (.tuple #[.slice aa l.length ac, .int .i64 (1 + (i : Int)), .bool true]) = _
        rw [show (1 + (i : Int)) = ((i + 1 : Nat) : Int) by omega]
      | none =>
        rw [hp] at hnum
        have HN := Lib.hid hnum
        have HP := Lib.hid hp
        clear hu hbx R hl hnum hld h0 hp hal
        go_enter Try.func30, Try.ntmps30
        go_wp2_with fail
        refine (HLd.out).mono ?_
        rintro e w1 ⟨rfl, hu1⟩
        rw [Hld.out]
        have HU1 := Lib.hid (HU.out.trans hu1)
        clear hu1
        go_wp2_with fail
        refine (place_any _ _ l (HL.out.quiet HU1.out) (by omega) a).mono ?_
        rintro e w2 ⟨rfl, rfl⟩
        rw [placeI_none HP.out]
        have hsrc := (HL.out.quiet HU1.out).src
        have hsrc1 := hsrc.quiet ((Upd.refl (fun _ => False) w1).alloc (.cells #[] 3))
        have hoe := own_empty w1 3 1 w.heap.size HU1.out.size
        have HS := Lib.hid hsrc1
        have HOe := Lib.hid hoe
        have hsz1 := HU1.out.size
        have D1 := Lib.hid (show (nums (adr l)).length = l.length * 1 by simp [nums, adr])
        have D2 := Lib.hid (show 0 + l.length ≤ maxLen by simp only [maxLen]; omega)
        have D3 := Lib.hid (show (0 + l.length) * 8 ≤ 140737488355328 by omega)
        have D4 := Lib.hid (show w.heap.size ≤ (w1.alloc (.cells #[] 3)).heap.size by simp only [World.size_alloc]; omega)
        clear hsrc hsrc1 hoe
        go_wp2_with (first | (at_builtin; refine wpList_app _ rfl _ _ 22 rfl w.heap.size 3 i0 _ 1 8 Try.underlying22 hi0 hz0 hz1 hz2 rfl (by decide) _ 0 [] rfl HOe.out aa l.length ac (nums (adr l)) rfl D1.out HS.out (nums_one _) D2.out D3.out D4.out ?_; intro v1 w2 ho1 hg1 hat1; rw [Nat.zero_add, List.nil_append] at ho1; obtain ⟨b1, c1, rfl⟩ := own_form ho1) | (at_builtin; refine wpList_append_lies _ rfl _ _ 22 rfl w.heap.size 3 i0 _ 1 8 Try.underlying22 hi0 hz0 hz1 hz2 rfl (by decide) _ l.length (nums (adr l)) rfl (ho1.alloc _) ⟨w2.heap.size, 0, none⟩ 1 1 [.int .i64 (a : Int)] rfl rfl ?e1 ?e2 (by decide) ?e3 ?e4 ?e5 _ rfl ?_))
        case e1 => exact cells_new _ _ _
        case e2 => simp [Value.oneCell']
        case e3 => simp only [maxLen]; omega
        case e4 => omega
        case e5 => have := hg1.size; simp only [World.size_alloc] at this ⊢; omega
        intro g cap w3 ho3 hg3 hat3 hlt3
        have hU2 : Upd (fun _ => False) w w2 := (HU1.out.alloc (.cells #[] 3)).grown hg1 (fun k hk hlt => by have : w1.heap.size = k := Option.some.inj hk; omega)
        have hU3 : Upd (fun _ => False) w w3 := (hU2.alloc (.cells #[.int .i64 (a : Int)] 3)).grown hg3 (fun k hk hlt => by have := (ho1.lt k hk).1; omega)
        have hI3 : IntsAt w3 (.slice (some ⟨g, 0, none⟩) (l.length + 1) cap) (adr (l ++ [a])) := by
          have h1 : (adr (l ++ [a])).length = l.length + 1 := by simp [adr]
          have h2 : nums (adr (l ++ [a])) = nums (adr l) ++ [.int .i64 (a : Int)] := by simp [nums, adr]
          apply IntsAt.of_own (base := w.heap.size)
          rw [h1, h2]
          exact ho3
        have hpl : place (l ++ [a]) a = some l.length := by
          have hni := place_none HP.out
          apply place_first
          · intro j hj h
            rw [List.getElem?_append_left hj] at h
            exact hni (List.mem_of_getElem? h)
          · rw [List.getElem?_append_right (Nat.le_refl _)]; simp
        have HI3 := Lib.hid hI3
        have ho4 : w3.ownsRow w.heap.size 3 1 (.slice (some ⟨g, 0, none⟩) (l.length + 1) cap) (l ++ [a]).length (nums (adr (l ++ [a]))) := by
          have h2 : nums (adr (l ++ [a])) = nums (adr l) ++ [.int .i64 (a : Int)] := by simp [nums, adr]
          rw [h2, List.length_append]
          exact ho3
        have HO4 := Lib.hid ho4
        have HU3 := Lib.hid hU3
        have HPl := Lib.hid hpl
        clear ho1 hg1 hat1 ho3 hg3 hat3 hlt3 hU2 hU3 hI3 hpl ho4
        go_wp2_with fail
        refine (place_any _ _ (l ++ [a]) HI3.out (by rw [List.length_append]; simp; omega) a).mono ?_
        rintro e w4 ⟨rfl, rfl⟩
        rw [placeI_some HPl.out]
        go_wp2
        go_ret3
        refine ⟨HU3.out, ?_⟩
        rw [HN.out]
        refine ⟨_, ?_, .inr HO4.out⟩
        show Ending.returned (.tuple #[.slice (some ⟨g, 0, none⟩) (l.length + 1) cap, .int .i64 (1 + (l.length : Int)), .bool true]) = _
        rw [show (1 + (l.length : Int)) = ((l.length + 1 : Nat) : Int) by omega]
end Go.Proofs.Ytlphlaenecidiaa.Ref
