/- Measures: the document's order and keys; what a key's measure is; a share of nothing is none; the first and the last of some. -/
import Derived.Test.YtapjajclmbpjmaaGreatDoorGauge3
import Derived.Laws.FloatArith
namespace Go.Proofs.YtapjajclmbpjmaaGreatDoor.Gauge
open Go.RowKit Go.Proofs.YtapjajclmbpjmaaGreatDoor.Mem Go.Proofs.YtapjajclmbpjmaaGreatDoor.Dbl

/-- A word that is no number. -/
def Nan (v : Nat) : Prop := v < 18446744073709551616 ∧ 9218868437227405312 < v % 9223372036854775808
theorem Nan.kk {v : Nat} (h : Nan v) : kk v = 0 := by unfold Gauge.kk; rw [if_pos h.2]
theorem Nan.cls {v : Nat} (h : Nan v) : cls v = 0 := by unfold Gauge.cls; rw [if_pos h.2]
theorem kk_eq_zero {v : Nat} (h : v < 18446744073709551616) : kk v = 0 ↔ Nan v := by
  unfold kk Nan
  split
  · rename_i h1; exact ⟨fun _ => ⟨h, h1⟩, fun _ => rfl⟩
  · rename_i h1
    refine ⟨fun h2 => ?_, fun h2 => (h1 h2.2).elim⟩
    split at h2 <;> omega
theorem cls_eq_zero {v : Nat} (h : v < 18446744073709551616) : cls v = 0 ↔ kk v = 0 := by
  rw [cls_ck h]
  unfold ck
  constructor
  · intro h2
    repeat' split at h2
    all_goals omega
  · intro h2; rw [if_pos h2]

theorem run_quo_nan (x y : Nat) (h : Ieee.double.div x y = none) (t : TypeId) (w : World) : ∃ v, Nan v ∧ (binOp BinOp.quo t (.float .f64 x) (.float .f64 y)).run Tryz.prog w = .ok (.float .f64 v) w.drew := by
  refine ⟨(Question.nanBits .f64 x y).cut (w.tape w.drawn (Question.nanBits .f64 x y)), ?_, ?_⟩
  · generalize w.tape w.drawn (Question.nanBits .f64 x y) = q
    have e : (Question.nanBits .f64 x y).cut q = (q % 2) * 9223372036854775808 + 9218868437227405312 + 1 + (q / 2) % 4503599627370495 := by
      show (q % 2) * 2 ^ 63 + 0x7ff0000000000000 + 1 + (q / 2) % (2 ^ 52 - 1) = _
      simp
    rw [e]
    unfold Nan
    have h1 : q % 2 < 2 := Nat.mod_lt _ (by omega)
    have h2 : (q / 2) % 4503599627370495 < 4503599627370495 := Nat.mod_lt _ (by omega)
    generalize q % 2 = s at *
    generalize (q / 2) % 4503599627370495 = u at *
    rcases (show s = 0 ∨ s = 1 by omega) with rfl | rfl <;> omega
  · have h' : FloatKind.f64.format.div x y = none := h
    simp [binOp, Op.floatArith, h', choose, Sem.run, Question.forced]

theorem run_quo_some (x y r : Nat) (h : Ieee.double.div x y = some r) (t : TypeId) (w : World) : (binOp BinOp.quo t (.float .f64 x) (.float .f64 y)).run Tryz.prog w = .ok (.float .f64 r) w :=
  run_float_arith w .quo t .f64 x y r h

/-- What Share answers, of two numbers. -/
def ShareOf (a b : Int) (v : Nat) : Prop :=
  match Ieee.double.div (floatOfInt .f64 a) (floatOfInt .f64 b) with
  | some r => v = r
  | none => Nan v

theorem share_any (a b : Int) (w : World) :
    Calls Tryz.prog 24 #[.int .i64 a, .int .i64 b] w fun e w' => ∃ v, e = .returned (.float .f64 v) ∧ ShareOf a b v ∧ Upd (fun _ => False) w w' := by
  obtain ⟨x, hx⟩ : ∃ x, x = floatOfInt .f64 a := ⟨_, rfl⟩
  obtain ⟨y, hy⟩ : ∃ y, y = floatOfInt .f64 b := ⟨_, rfl⟩
  unfold ShareOf
  rw [← hx, ← hy]
  cases hd : Ieee.double.div x y with
  | some r =>
    have hq := fun t w => run_quo_some x y r hd t w
    have Hx := Lib.hid hx
    have Hy := Lib.hid hy
    have hx' := hx.symm
    have hy' := hy.symm
    clear hd hx hy
    go_enter Tryz.func24, Tryz.ntmps24
    go_wp2
    go_ret
    exact ⟨r, rfl, rfl, Upd.refl _ _⟩
  | none =>
    obtain ⟨v, hv, hq⟩ := run_quo_nan x y hd 37 w
    have hx' := hx.symm
    have hy' := hy.symm
    clear hd hx hy
    go_enter Tryz.func24, Tryz.ntmps24
    go_wp2
    go_ret
    exact ⟨v, rfl, hv, (Upd.refl _ _).drew⟩

theorem share_none {v : Nat} (h : ShareOf 0 0 v) : Nan v := by
  have e : Ieee.double.div (floatOfInt .f64 0) (floatOfInt .f64 0) = none := by decide +kernel
  unfold ShareOf at h
  rw [e] at h
  exact h

end Go.Proofs.YtapjajclmbpjmaaGreatDoor.Gauge
