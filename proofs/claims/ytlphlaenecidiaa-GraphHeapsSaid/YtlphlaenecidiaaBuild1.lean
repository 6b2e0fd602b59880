/- Contracts of besomlaw11: a reference to a node of a number. -/
import Derived.Test.YtlphlaenecidiaaRef3
import Derived.Test.YtlphlaenecidiaaRef4
import Derived.Test.YtlphlaenecidiaaBuildP
namespace Go.Proofs.Ytlphlaenecidiaa.Build
open Go.RowKit Go.Proofs.Ytlphlaenecidiaa.Mem Go.Proofs.Ytlphlaenecidiaa.Obj Go.Proofs.Ytlphlaenecidiaa.Ref

theorem ret_int {a b : Int} (h : a = b) : Ending.returned (.int .i64 a) = .returned (.int .i64 b) := by rw [h]

set_option maxHeartbeats 1000000 in
theorem place_any (w : World) (v : Value) (l : List Nat) (hv : IntsAt w v (adr l)) (hl : l.length ≤ 100000) (hb : ∀ a ∈ l, a ≤ 65536) (n : Nat) (hn : n < 256) :
    Calls Try.prog 35 #[v, .int .u8 (n : Int)] w fun e w' => e = .returned (.int .i64 (placeOf l n)) ∧ w = w' := by
  obtain ⟨a, cap, rfl⟩ := hv.form
  have hle : (adr l).length = l.length := by simp [adr]
  rw [hle] at hv ⊢
  obtain ⟨k, hk⟩ : ∃ k, k = n % (l.length + 1) := ⟨_, rfl⟩
  have hkl : k ≤ l.length := by have := Nat.mod_lt n (show 0 < l.length + 1 by omega); omega
  have hrem : ((n : Int) % ((l.length : Int) + 1)) = (k : Int) := by rw [hk]; push_cast; rfl
  have hp : placeOf l n = match l[k]? with | some a => (a : Int) + 1 | none => 0 := by rw [hk]; rfl
  have HP := Lib.hid hp
  have HV := Lib.hid hv
  have HK := Lib.hid hk
  clear hk hp hv hle
  by_cases h : k = l.length
  · have d : ((k : Int) == (l.length : Int)) = true := by rw [beq_iff_eq]; omega
    have H := Lib.hid h
    clear h
    go_enter Try.func35, Try.ntmps35
    go_wp2
    go_ret
    refine ⟨ret_int ?_, rfl⟩
    rw [HP.out, H.out, List.getElem?_eq_none (Nat.le_refl _)]
  · have d : ((k : Int) == (l.length : Int)) = false := by rw [beq_eq_false_iff_ne]; omega
    have hlt : k < l.length := by omega
    obtain ⟨x, hx⟩ : ∃ x, l[k]? = some x := ⟨_, List.getElem?_eq_getElem hlt⟩
    obtain ⟨b, off, rfl, hc, hbl⟩ := HV.out.at' (j := k) (x := (x : Int)) (by simp [adr, hx])
    have hxb := hb x (List.mem_of_getElem? hx)
    have i1 : (0 : Int) ≤ (k : Int) := by omega
    have i2 : (k : Int) < (l.length : Int) := by omega
    have HX := Lib.hid hx
    clear h hx hb
    go_enter Try.func35, Try.ntmps35
    go_wp2
    go_ret
    refine ⟨ret_int ?_, rfl⟩
    rw [HP.out, HX.out]
    simp only
    omega
end Go.Proofs.Ytlphlaenecidiaa.Build
