/- The first one, and the last one, of any measures are the document's: the walk of besomlaw02.GaugeEnds. -/
import Derived.Test.YtjlcjcgoaakniaaBestLaws
import Derived.Laws.AppendOwn
namespace Go.Proofs.Ytjlcjcgoaakniaa.GaugeEnds
open Go.RowKit Go.Proofs.Ytjlcjcgoaakniaa.Mem Go.Proofs.Ytjlcjcgoaakniaa.Dbl Go.Proofs.Ytjlcjcgoaakniaa.Gauge Go.Proofs.Ytjlcjcgoaakniaa.Row

theorem infoFloat : (Try.prog.info? 24).map (fun i => (i.zero, i.size, i.bytes)) = some (some (.float .f64 0), 1, 8) := by kernel_rfl

/-- The numbers of a slice of words that came in. -/
structure U64s (w : World) (a : Option Addr) (zs : List Nat) : Prop where
  cell : ∀ (j : Nat) (x : Nat), zs[j]? = some x → ∃ b off, a = some ⟨b, off, none⟩ ∧ w.cell? ⟨b, off + j, none⟩ = some (.int .u64 (x : Int)) ∧ b < w.heap.size
  word : ∀ x ∈ zs, x < 18446744073709551616
  short : zs.length ≤ 9223372036854775807
theorem U64s.below {B : Nat} {w w' : World} {a : Option Addr} {zs : List Nat} (h : U64s w a zs) (hb : Below B w w') (hB : B = w.heap.size) : U64s w' a zs := by
  subst hB
  refine ⟨fun j x hx => ?_, h.word, h.short⟩
  obtain ⟨b, off, e, hc, hlt⟩ := h.cell j x hx
  exact ⟨b, off, e, (hb.cell (p := ⟨b, off + j, none⟩) hlt).trans hc, Nat.lt_of_lt_of_le hlt hb.size⟩
theorem U64s.of {w : World} {a : Option Addr} {zs : List Int} (h : Ints .u64 w a zs) : U64s w a (zs.map Int.toNat) := by
  have key : ∀ (j : Nat) (x : Nat), (zs.map Int.toNat)[j]? = some x → zs[j]? = some (x : Int) ∧ x < 18446744073709551616 := by
    intro j x hx
    rw [List.getElem?_map] at hx
    cases hz : zs[j]? with
    | none => simp [hz] at hx
    | some z =>
      simp [hz] at hx
      have hb := bounds_u64 (h.wf j z hz)
      have : z = (x : Int) := by omega
      exact ⟨by rw [this], by omega⟩
  refine ⟨fun j x hx => h.cell j x (key j x hx).1, fun x hx => ?_, by rw [List.length_map]; exact h.short⟩
  obtain ⟨j, hj, e⟩ := List.getElem_of_mem hx
  exact (key j x (by rw [← e]; exact List.getElem?_eq_getElem hj)).2

def fcells (zs : List Nat) : List Value := zs.map fun z : Nat => Value.float .f64 z

/-- At the head of a round: what was gathered, and the ends of it. -/
def Ends (w : World) (B : Nat) (zs : List Nat) (v lo hi i : Value) (wr : World) : Prop :=
  ∃ k : Nat, k ≤ zs.length ∧ i = .int .i64 (k : Int) ∧ wr.ownsRow B 24 1 v k (fcells (zs.take k)) ∧ lo = .int .u64 (bestOf (-1) (zs.take k) : Nat) ∧ hi = .int .u64 (bestOf 1 (zs.take k) : Nat) ∧ Upd (fun _ => False) w wr

theorem own_floats {w : World} {base : Nat} {v : Value} {zs : List Nat} (h : w.ownsRow base 24 1 v zs.length (fcells zs)) (hz : ∀ x ∈ zs, x < 18446744073709551616) (hs : zs.length ≤ 9223372036854775807) :
    ∃ a cap, v = .slice a zs.length cap ∧ Floats w a zs := by
  rcases h.2 with ⟨hv, h0⟩ | ⟨g, cap, cur, hv, _⟩
  · refine ⟨none, 0, by rw [hv, h0], ?_⟩
    have : zs = [] := List.length_eq_zero_iff.1 h0
    subst this
    exact ⟨fun j x hx => by simp at hx, fun j x hx => by simp at hx, by simp⟩
  · subst hv
    refine ⟨some ⟨g, 0, none⟩, cap, rfl, ⟨fun j x hx => ⟨g, 0, rfl, ?_⟩, fun j x hx => hz x (List.mem_of_getElem? hx), hs⟩⟩
    rw [Nat.zero_add]
    exact own_at h j (by simp [fcells, hx])

set_option maxHeartbeats 1600000 in
theorem law_yes (w : World) (a : Option Addr) (cap : Nat) (zs : List Nat) (hz : U64s w a zs) (hl : zs.length ≤ 60) :
    Calls Try.prog 7 #[.slice a zs.length cap] w fun e w' => e = .returned (.bool true) ∧ Below w.heap.size w w' := by
  obtain ⟨i0, hi, hz0, hz1, hz2⟩ := info_parts infoFloat
  have d1 : decide (60 < (zs.length : Int)) = false := decide_eq_false (by omega)
  have d1' : decide (60 < zs.length) = false := decide_eq_false (by omega)
  go_enter Try.func7, Try.ntmps7
  go_wp2_with fail
  refine (awake _).mono ?_
  rintro e w1 ⟨rfl, hu1⟩
  have hsz := hu1.size
  go_wp2
  go_loopw [3, 4, 5, 18] (fun v lo hi i wr => Ends w w.heap.size zs v lo hi i wr) (fun _ _ _ i _ => zs.length - (intOf i).toNat)
  case atStart => exact ⟨0, Nat.zero_le _, rfl, World.ownsRow_nil _ _ _ _, rfl, rfl, hu1⟩
  case round =>
    obtain ⟨k, hk, rfl, hO, rfl, rfl, hU⟩ := hrel
    by_cases hlk : k < zs.length
    · obtain ⟨x, hx⟩ : ∃ x, zs[k]? = some x := ⟨_, List.getElem?_eq_getElem hlk⟩
      have hzr := hz.below (hU.below (by simp)) rfl
      obtain ⟨b, off, ha, hc, _⟩ := hzr.cell k x hx
      have hxw := hz.word x (List.mem_of_getElem? hx)
      have hsub : ∀ y ∈ zs.take k, y < 18446744073709551616 := fun y hy => hz.word y (List.mem_of_mem_take hy)
      have l1 := bestOf_lt (way := -1) hsub
      have l2 := bestOf_lt (way := 1) hsub
      have hs := take_snoc' hx
      have hb1 := bestOf_snoc (-1) (zs.take k) x
      have hb2 := bestOf_snoc 1 (zs.take k) x
      rw [← hs] at hb1 hb2
      have hfc : fcells (zs.take (k + 1)) = fcells (zs.take k) ++ [.float .f64 x] := by rw [hs]; simp [fcells]
      generalize bestOf (-1) (zs.take k) = lo at *
      generalize bestOf 1 (zs.take k) = hi' at *
      have Hb1 := Lib.hid hb1
      have Hb2 := Lib.hid hb2
      have Hz := Lib.hid hz
      have Hfc := Lib.hid hfc
      have hf := run_from x
      clear hs hb1 hb2 hx hz hzr hsub hfc
      go_upto_region 8 with (fail)
      clear ha hc
      have hB := hU.size
      go_wp2_with (first | (at_builtin; refine wpList_append_own _ rfl _ _ 41 rfl w.heap.size 24 i0 _ 1 8 Try.underlying41 hi hz0 hz1 hz2 rfl (by decide) _ k (fcells (zs.take k)) rfl (hO.alloc _) ⟨wr.heap.size, 0, none⟩ 1 1 [.float .f64 x] rfl rfl ?c1 ?c2 ?c3 ?c4 ?c5 ?_))
      case c1 => exact cells_new _ _ _
      case c2 => simp [Value.oneCell']
      case c3 => simp only [maxLen]; omega
      case c4 => omega
      case c5 => simp only [World.size_alloc]; omega
      intro v' w2 hO2 hg2 _
      have hU2 : Upd (fun _ => False) w w2 := (hU.alloc _).grown hg2 (fun k hk hlt => by have := (hO.lt k hk).1; omega)
      rw [← Hfc.out] at hO2
      clear hO hU hg2
      have bx := @cls_ge x
      have blo := @cls_ge lo
      have bhi := @cls_ge hi'
      by_cases hx0 : kk x = 0
      · have hcx : cls x = 0 := (cls_eq_zero hxw).2 hx0
        have e1 : bst (-1) lo x = lo := by unfold bst; rw [if_neg (by simp [hx0])]
        have e2 : bst 1 hi' x = hi' := by unfold bst; rw [if_neg (by simp [hx0])]
        have E1 := Lib.hid e1
        have E2 := Lib.hid e2
        have Hcx := Lib.hid hcx
        clear e1 e2 hcx hx0
        go_wp2_with fail
        refine (ref_class x _ hxw).mono ?_
        rintro e w0 ⟨rfl, rfl⟩
        rw [Hcx.out]
        go_wp2
        go_roundw
        case rel => exact ⟨k + 1, by omega, by go_num, hO2, by rw [Hb1.out, E1.out], by rw [Hb2.out, E2.out], hU2⟩
        case measure => simp [intOf]; omega
      · have hcx : cls x ≠ 0 := fun h => hx0 ((cls_eq_zero hxw).1 h)
        have dx : (cls x == 0) = false := beq_eq_false_iff_ne.2 hcx
        obtain ⟨s1, hs1⟩ : ∃ s, s = sc (kk x) (kk lo) := ⟨_, rfl⟩
        obtain ⟨s2, hs2⟩ : ∃ s, s = sc (kk x) (kk hi') := ⟨_, rfl⟩
        have lo3 : (cls lo = 0 ∧ bst (-1) lo x = x) ∨ ((cls lo == 0) = false ∧ decide (s1 < 0) = true ∧ bst (-1) lo x = x) ∨ ((cls lo == 0) = false ∧ decide (s1 < 0) = false ∧ bst (-1) lo x = lo) := by
          by_cases h : cls lo = 0
          · left; exact ⟨h, by unfold bst; rw [if_pos ⟨hx0, .inl ((cls_eq_zero l1).1 h)⟩]⟩
          · have hk0 : kk lo ≠ 0 := fun h2 => h ((cls_eq_zero l1).2 h2)
            right
            by_cases h2 : kk x < kk lo
            · left
              have : s1 = -1 := by rw [hs1]; exact sc_neg_iff.2 h2
              exact ⟨beq_eq_false_iff_ne.2 h, decide_eq_true (by omega), by unfold bst; rw [if_pos ⟨hx0, .inr (by rw [← hs1, this])⟩]⟩
            · right
              have h3 : 0 ≤ s1 := by rw [hs1]; exact sc_ge_iff.2 (by omega)
              exact ⟨beq_eq_false_iff_ne.2 h, decide_eq_false (by omega), by unfold bst; rw [if_neg (by rw [← hs1]; omega)]⟩
        have hi3 : (cls hi' = 0 ∧ bst 1 hi' x = x) ∨ ((cls hi' == 0) = false ∧ decide (0 < s2) = true ∧ bst 1 hi' x = x) ∨ ((cls hi' == 0) = false ∧ decide (0 < s2) = false ∧ bst 1 hi' x = hi') := by
          by_cases h : cls hi' = 0
          · left; exact ⟨h, by unfold bst; rw [if_pos ⟨hx0, .inl ((cls_eq_zero l2).1 h)⟩]⟩
          · have hk0 : kk hi' ≠ 0 := fun h2 => h ((cls_eq_zero l2).2 h2)
            right
            by_cases h2 : kk hi' < kk x
            · left
              have : s2 = 1 := by rw [hs2]; exact sc_pos_iff.2 h2
              exact ⟨beq_eq_false_iff_ne.2 h, decide_eq_true (by omega), by unfold bst; rw [if_pos ⟨hx0, .inr (by rw [← hs2, this])⟩]⟩
            · right
              have h3 : s2 ≤ 0 := by rw [hs2]; exact sc_le_iff.2 (by omega)
              exact ⟨beq_eq_false_iff_ne.2 h, decide_eq_false (by omega), by unfold bst; rw [if_neg (by rw [← hs2]; omega)]⟩
        have Hs1 := Lib.hid hs1
        have Hs2 := Lib.hid hs2
        clear hs1 hs2 hx0 hcx
        go_wp2_with fail
        refine (ref_class x _ hxw).mono ?_
        rintro e w0 ⟨rfl, rfl⟩
        go_wp2_with fail
        rcases lo3 with ⟨cl, e1⟩ | ⟨cl, dl, e1⟩ | ⟨cl, dl, e1⟩
        · have E1 := Lib.hid e1
          have Cl := Lib.hid cl
          clear cl
          clear e1
          refine (ref_class lo _ l1).mono ?_
          rintro e w0 ⟨rfl, rfl⟩
          rw [Cl.out]
          go_wp2_with fail
          rcases hi3 with ⟨ch, e2⟩ | ⟨ch, dh, e2⟩ | ⟨ch, dh, e2⟩
          · have E2 := Lib.hid e2
            have Ch := Lib.hid ch
            clear ch
            clear e2
            refine (ref_class hi' _ l2).mono ?_
            rintro e w0 ⟨rfl, rfl⟩
            rw [Ch.out]
            go_wp2
            go_roundw
            case rel => exact ⟨k + 1, by omega, by go_num, hO2, by rw [Hb1.out, E1.out], by rw [Hb2.out, E2.out], hU2⟩
            case measure => simp [intOf]; omega
          · have E2 := Lib.hid e2
            clear e2
            refine (ref_class hi' _ l2).mono ?_
            rintro e w0 ⟨rfl, rfl⟩
            go_wp2_with fail
            refine (ref_order x hi' _ hxw l2).mono ?_
            rintro e w0 ⟨rfl, rfl⟩
            rw [← Hs2.out]
            go_wp2
            go_roundw
            case rel => exact ⟨k + 1, by omega, by go_num, hO2, by rw [Hb1.out, E1.out], by rw [Hb2.out, E2.out], hU2⟩
            case measure => simp [intOf]; omega
          · have E2 := Lib.hid e2
            clear e2
            refine (ref_class hi' _ l2).mono ?_
            rintro e w0 ⟨rfl, rfl⟩
            go_wp2_with fail
            refine (ref_order x hi' _ hxw l2).mono ?_
            rintro e w0 ⟨rfl, rfl⟩
            rw [← Hs2.out]
            go_wp2
            go_roundw
            case rel => exact ⟨k + 1, by omega, by go_num, hO2, by rw [Hb1.out, E1.out], by rw [Hb2.out, E2.out], hU2⟩
            case measure => simp [intOf]; omega
        · have E1 := Lib.hid e1
          clear e1
          refine (ref_class lo _ l1).mono ?_
          rintro e w0 ⟨rfl, rfl⟩
          go_wp2_with fail
          refine (ref_order x lo _ hxw l1).mono ?_
          rintro e w0 ⟨rfl, rfl⟩
          rw [← Hs1.out]
          go_wp2_with fail
          rcases hi3 with ⟨ch, e2⟩ | ⟨ch, dh, e2⟩ | ⟨ch, dh, e2⟩
          · have E2 := Lib.hid e2
            have Ch := Lib.hid ch
            clear ch
            clear e2
            refine (ref_class hi' _ l2).mono ?_
            rintro e w0 ⟨rfl, rfl⟩
            rw [Ch.out]
            go_wp2
            go_roundw
            case rel => exact ⟨k + 1, by omega, by go_num, hO2, by rw [Hb1.out, E1.out], by rw [Hb2.out, E2.out], hU2⟩
            case measure => simp [intOf]; omega
          · have E2 := Lib.hid e2
            clear e2
            refine (ref_class hi' _ l2).mono ?_
            rintro e w0 ⟨rfl, rfl⟩
            go_wp2_with fail
            refine (ref_order x hi' _ hxw l2).mono ?_
            rintro e w0 ⟨rfl, rfl⟩
            rw [← Hs2.out]
            go_wp2
            go_roundw
            case rel => exact ⟨k + 1, by omega, by go_num, hO2, by rw [Hb1.out, E1.out], by rw [Hb2.out, E2.out], hU2⟩
            case measure => simp [intOf]; omega
          · have E2 := Lib.hid e2
            clear e2
            refine (ref_class hi' _ l2).mono ?_
            rintro e w0 ⟨rfl, rfl⟩
            go_wp2_with fail
            refine (ref_order x hi' _ hxw l2).mono ?_
            rintro e w0 ⟨rfl, rfl⟩
            rw [← Hs2.out]
            go_wp2
            go_roundw
            case rel => exact ⟨k + 1, by omega, by go_num, hO2, by rw [Hb1.out, E1.out], by rw [Hb2.out, E2.out], hU2⟩
            case measure => simp [intOf]; omega
        · have E1 := Lib.hid e1
          clear e1
          refine (ref_class lo _ l1).mono ?_
          rintro e w0 ⟨rfl, rfl⟩
          go_wp2_with fail
          refine (ref_order x lo _ hxw l1).mono ?_
          rintro e w0 ⟨rfl, rfl⟩
          rw [← Hs1.out]
          go_wp2_with fail
          rcases hi3 with ⟨ch, e2⟩ | ⟨ch, dh, e2⟩ | ⟨ch, dh, e2⟩
          · have E2 := Lib.hid e2
            have Ch := Lib.hid ch
            clear ch
            clear e2
            refine (ref_class hi' _ l2).mono ?_
            rintro e w0 ⟨rfl, rfl⟩
            rw [Ch.out]
            go_wp2
            go_roundw
            case rel => exact ⟨k + 1, by omega, by go_num, hO2, by rw [Hb1.out, E1.out], by rw [Hb2.out, E2.out], hU2⟩
            case measure => simp [intOf]; omega
          · have E2 := Lib.hid e2
            clear e2
            refine (ref_class hi' _ l2).mono ?_
            rintro e w0 ⟨rfl, rfl⟩
            go_wp2_with fail
            refine (ref_order x hi' _ hxw l2).mono ?_
            rintro e w0 ⟨rfl, rfl⟩
            rw [← Hs2.out]
            go_wp2
            go_roundw
            case rel => exact ⟨k + 1, by omega, by go_num, hO2, by rw [Hb1.out, E1.out], by rw [Hb2.out, E2.out], hU2⟩
            case measure => simp [intOf]; omega
          · have E2 := Lib.hid e2
            clear e2
            refine (ref_class hi' _ l2).mono ?_
            rintro e w0 ⟨rfl, rfl⟩
            go_wp2_with fail
            refine (ref_order x hi' _ hxw l2).mono ?_
            rintro e w0 ⟨rfl, rfl⟩
            rw [← Hs2.out]
            go_wp2
            go_roundw
            case rel => exact ⟨k + 1, by omega, by go_num, hO2, by rw [Hb1.out, E1.out], by rw [Hb2.out, E2.out], hU2⟩
            case measure => simp [intOf]; omega
    · have hke : k = zs.length := by omega
      subst hke
      rw [List.take_length] at *
      obtain ⟨A, c, rfl, hF⟩ := own_floats hO hz.word hz.short
      have l1 := bestOf_lt (way := -1) hz.word
      have l2 := bestOf_lt (way := 1) hz.word
      obtain ⟨lo, hlo⟩ : ∃ lo, lo = bestOf (-1) zs := ⟨_, rfl⟩
      obtain ⟨hi', hhi⟩ : ∃ hi', hi' = bestOf 1 zs := ⟨_, rfl⟩
      rw [← hlo] at l1 ⊢
      rw [← hhi] at l2 ⊢
      have Hlo := Lib.hid hlo
      have Hhi := Lib.hid hhi
      clear hlo hhi
      have hf1 := run_from lo
      have hf2 := run_from hi'
      have q1 : (kk lo == kk lo) = true := by simp
      have q2 : (kk hi' == kk hi') = true := by simp
      have Q1 := Lib.hid q1
      have Q2 := Lib.hid q2
      clear q1 q2
      go_wp2_with fail
      refine (least_any A c zs _ hF).mono ?_
      rintro e w0 ⟨rfl, rfl⟩
      rw [← Hlo.out]
      go_wp2_with fail
      refine (same_any lo lo _ l1 l1).mono ?_
      rintro e w0 ⟨rfl, rfl⟩
      rw [Q1.out]
      go_wp2_with fail
      refine (most_any A c zs _ hF).mono ?_
      rintro e w0 ⟨rfl, rfl⟩
      rw [← Hhi.out]
      go_wp2_with fail
      refine (same_any hi' hi' _ l2 l2).mono ?_
      rintro e w0 ⟨rfl, rfl⟩
      rw [Q2.out]
      go_wp2
      go_ret
      exact ⟨rfl, hU.below (by simp)⟩

theorem law_no (w : World) (a : Option Addr) (cap : Nat) (zs : List Nat) (hz : zs.length ≤ 9223372036854775807) (h : 60 < zs.length) :
    Calls Try.prog 7 #[.slice a zs.length cap] w fun e w' => e = .returned (.bool true) ∧ Below w.heap.size w w' := by
  have d1 : decide (60 < (zs.length : Int)) = true := decide_eq_true (by omega)
  have d1' : decide (60 < zs.length) = true := decide_eq_true h
  clear h
  go_enter Try.func7, Try.ntmps7
  go_wp2_with fail
  refine (awake _).mono ?_
  rintro e w1 ⟨rfl, hu1⟩
  go_wp2_with fail
  refine (awake _).mono ?_
  rintro e w2 ⟨rfl, hu2⟩
  go_wp2
  go_ret
  exact ⟨rfl, (hu1.trans hu2).below (by simp)⟩

theorem law (w : World) (a : Option Addr) (cap : Nat) (zs : List Int) (hz : Ints .u64 w a zs) :
    Calls Try.prog 7 #[.slice a zs.length cap] w fun e w' => e = .returned (.bool true) ∧ Below w.heap.size w w' := by
  have hu := U64s.of hz
  have hlen : zs.length = (zs.map Int.toNat).length := by simp
  rw [hlen]
  by_cases h : 60 < (zs.map Int.toNat).length
  · exact law_no w a cap _ hu.short h
  · exact law_yes w a cap _ hu (by omega)
end Go.Proofs.Ytjlcjcgoaakniaa.GaugeEnds
