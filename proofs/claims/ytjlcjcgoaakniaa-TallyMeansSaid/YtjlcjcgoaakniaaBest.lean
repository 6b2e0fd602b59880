/- The first and the last of some measures: the walks of gauge.best, Least, Most. -/
import Derived.Test.YtjlcjcgoaakniaaGauge5
import Derived.Test.YtjlcjcgoaakniaaRow
import Derived.Deep.Cut
import Derived.Deep.DeepCutAuto
namespace Go.Proofs.Ytjlcjcgoaakniaa.Gauge
open Go.RowKit Go.Proofs.Ytjlcjcgoaakniaa.Mem Go.Proofs.Ytjlcjcgoaakniaa.Dbl

/-- Measures of a slice. -/
structure Floats (w : World) (a : Option Addr) (zs : List Nat) : Prop where
  cell : ∀ (j : Nat) (x : Nat), zs[j]? = some x → ∃ b off, a = some ⟨b, off, none⟩ ∧ w.cell? ⟨b, off + j, none⟩ = some (.float .f64 x)
  word : ∀ (j : Nat) (x : Nat), zs[j]? = some x → x < 18446744073709551616
  short : zs.length ≤ 9223372036854775807

/-- One step of best. -/
def bst (way : Int) (out x : Nat) : Nat := if kk x ≠ 0 ∧ (kk out = 0 ∨ sc (kk x) (kk out) = way) then x else out
def bestOf (way : Int) (zs : List Nat) : Nat := zs.foldl (bst way) 9221120237041090561
theorem bestOf_snoc (way : Int) (zs : List Nat) (x : Nat) : bestOf way (zs ++ [x]) = bst way (bestOf way zs) x := by simp [bestOf]
theorem bst_lt {way : Int} {out x : Nat} (h1 : out < 18446744073709551616) (h2 : x < 18446744073709551616) : bst way out x < 18446744073709551616 := by unfold bst; split <;> omega
theorem bestOf_lt {way : Int} {zs : List Nat} (h : ∀ x ∈ zs, x < 18446744073709551616) : bestOf way zs < 18446744073709551616 := by
  have : ∀ (l : List Nat) (o : Nat), (∀ x ∈ l, x < 18446744073709551616) → o < 18446744073709551616 → l.foldl (bst way) o < 18446744073709551616 := by
    intro l
    induction l with
    | nil => intro o _ h; exact h
    | cons x l ih => intro o hl ho; exact ih _ (fun y hy => hl y (by simp [hy])) (bst_lt ho (hl x (by simp)))
  exact this zs _ h (by omega)

theorem order_self {x : Nat} (h : x < 18446744073709551616) : (kk x = 0 ∧ FloatKind.f64.format.order x x = none) ∨ (kk x ≠ 0 ∧ FloatKind.f64.format.order x x = some .eq) := by
  rcases class_tests x with ⟨hn, ho⟩ | ⟨hn, ho, _⟩
  · left; exact ⟨by unfold kk; rw [if_pos hn], ho⟩
  · right; exact ⟨fun h0 => hn ((kk_eq_zero h).1 h0).2, ho⟩

def Best (way : Int) (zs : List Nat) (o i : Value) : Prop := ∃ k : Nat, k ≤ zs.length ∧ i = .int .i64 (k : Int) ∧ o = .float .f64 (bestOf way (zs.take k))

theorem take_snoc' {zs : List Nat} {k : Nat} {x : Nat} (h : zs[k]? = some x) : zs.take (k + 1) = zs.take k ++ [x] := by
  rw [List.take_add_one, h]; rfl

set_option maxHeartbeats 800000 in
theorem best_any (way : Int) (a : Option Addr) (cap : Nat) (zs : List Nat) (w : World) (hz : Floats w a zs) :
    Calls Try.prog 52 #[.int .i64 way, .slice a zs.length cap] w fun e w' => e = .returned (.float .f64 (bestOf way zs)) ∧ w = w' := by
  have hlen := hz.short
  go_enter Try.func52, Try.ntmps52
  go_wp2_with fail
  refine (nan_any _).mono ?_
  rintro e w1 ⟨rfl, rfl⟩
  go_wp2
  go_loop [5, 11] (fun o i => Best way zs o i) (fun _ i => zs.length - (intOf i).toNat)
  case atStart => exact ⟨0, Nat.zero_le _, rfl, rfl⟩
  case round =>
    obtain ⟨k, hk, rfl, rfl⟩ := hrel
    by_cases hlk : k < zs.length
    · obtain ⟨x, hx⟩ : ∃ x, zs[k]? = some x := ⟨_, List.getElem?_eq_getElem hlk⟩
      obtain ⟨b, off, ha, hc⟩ := hz.cell k x hx
      have hxw := hz.word k x hx
      have how : bestOf way (zs.take k) < 18446744073709551616 := bestOf_lt (fun y hy => by
        obtain ⟨j, hj, rfl⟩ := List.getElem_of_mem hy
        have hjl : j < zs.length := by simp at hj; omega
        exact hz.word j _ (by rw [List.getElem_take]; exact List.getElem?_eq_getElem hjl))
      have hs := take_snoc' hx
      have hb := bestOf_snoc way (zs.take k) x
      rw [← hs] at hb
      generalize bestOf way (zs.take k) = o at *
      have Hb := Lib.hid hb
      have Hz := Lib.hid hz
      clear hs hb hx hz
      rcases order_self hxw with ⟨hx0, hxo⟩ | ⟨hx0, hxo⟩
      · have hbst : bst way o x = o := by unfold bst; rw [if_neg (by simp [hx0])]
        have Hbst := Lib.hid hbst
        clear hx0 hbst
        go_upto_region 5 with (fail)
        clear ha hc
        go_wp2
        go_round
        case rel => exact ⟨k + 1, by omega, by go_num, by rw [Hb.out, Hbst.out]⟩
        case measure => simp [intOf]; omega
      · rcases order_self how with ⟨ho0, hoo⟩ | ⟨ho0, hoo⟩
        · have hbst : bst way o x = x := by unfold bst; rw [if_pos ⟨hx0, .inl ho0⟩]
          have Hbst := Lib.hid hbst
          clear hx0 hbst ho0
          go_upto_region 5 with (fail)
          clear ha hc
          go_wp2
          go_round
          case rel => exact ⟨k + 1, by omega, by go_num, by rw [Hb.out, Hbst.out]⟩
          case measure => simp [intOf]; omega
        · obtain ⟨s, hs⟩ : ∃ s, s = sc (kk x) (kk o) := ⟨_, rfl⟩
          by_cases hw : s = way
          · have hbst : bst way o x = x := by unfold bst; rw [if_pos ⟨hx0, .inr (by rw [← hs]; exact hw)⟩]
            have Hbst := Lib.hid hbst
            have Hs := Lib.hid hs
            have d : (s == way) = true := beq_iff_eq.2 hw
            clear hx0 hbst ho0 hs hw
            go_upto_region 5 with (fail)
            clear ha hc
            go_wp2_with fail
            refine (order_any x o _ hxw how).mono ?_
            rintro e w1 ⟨rfl, rfl⟩
            rw [← Hs.out]
            go_wp2
            go_round
            case rel => exact ⟨k + 1, by omega, by go_num, by rw [Hb.out, Hbst.out]⟩
            case measure => simp [intOf]; omega
          · have hbst : bst way o x = o := by unfold bst; rw [if_neg (by rw [← hs]; simp [hw, ho0])]
            have Hbst := Lib.hid hbst
            have Hs := Lib.hid hs
            have d : (s == way) = false := beq_eq_false_iff_ne.2 hw
            clear hx0 hbst ho0 hs hw
            go_upto_region 5 with (fail)
            clear ha hc
            go_wp2_with fail
            refine (order_any x o _ hxw how).mono ?_
            rintro e w1 ⟨rfl, rfl⟩
            rw [← Hs.out]
            go_wp2
            go_round
            case rel => exact ⟨k + 1, by omega, by go_num, by rw [Hb.out, Hbst.out]⟩
            case measure => simp [intOf]; omega
    · have hke : k = zs.length := by omega
      subst hke
      rw [List.take_length]
      go_wp2
      go_ret
      exact ⟨rfl, rfl⟩

theorem least_any (a : Option Addr) (cap : Nat) (zs : List Nat) (w : World) (hz : Floats w a zs) :
    Calls Try.prog 24 #[.slice a zs.length cap] w fun e w' => e = .returned (.float .f64 (bestOf (-1) zs)) ∧ w = w' := by
  obtain ⟨r, hr⟩ : ∃ r, r = bestOf (-1) zs := ⟨_, rfl⟩
  rw [← hr]
  have Hr := Lib.hid hr
  clear hr
  go_enter Try.func24, Try.ntmps24
  go_wp2_with fail
  refine (best_any (-1) a cap zs _ hz).mono ?_
  rintro e w1 ⟨rfl, rfl⟩
  rw [← Hr.out]
  go_wp2
  go_ret
  exact ⟨rfl, rfl⟩
theorem most_any (a : Option Addr) (cap : Nat) (zs : List Nat) (w : World) (hz : Floats w a zs) :
    Calls Try.prog 25 #[.slice a zs.length cap] w fun e w' => e = .returned (.float .f64 (bestOf 1 zs)) ∧ w = w' := by
  obtain ⟨r, hr⟩ : ∃ r, r = bestOf 1 zs := ⟨_, rfl⟩
  rw [← hr]
  have Hr := Lib.hid hr
  clear hr
  go_enter Try.func25, Try.ntmps25
  go_wp2_with fail
  refine (best_any 1 a cap zs _ hz).mono ?_
  rintro e w1 ⟨rfl, rfl⟩
  rw [← Hr.out]
  go_wp2
  go_ret
  exact ⟨rfl, rfl⟩
end Go.Proofs.Ytjlcjcgoaakniaa.Gauge
