/- As many times as much of both is the same share: the walk of besomlaw02.GaugeScales. -/
import Derived.Test.YtjlcjcgoaakniaaShare
import Derived.Test.YtjlcjcgoaakniaaRow
namespace Go.Proofs.Ytjlcjcgoaakniaa.GaugeScales
open Go.RowKit Go.Proofs.Ytjlcjcgoaakniaa.Mem Go.Proofs.Ytjlcjcgoaakniaa.Dbl Go.Proofs.Ytjlcjcgoaakniaa.Gauge Go.Proofs.Ytjlcjcgoaakniaa.Row Go.Proofs.Ytjlcjcgoaakniaa.Rnd

theorem law (w : World) (a b k : Int) (ha : (Lit.int .i16 a).wf = true) (hb : (Lit.int .i16 b).wf = true) (hk : (Lit.int .u16 k).wf = true) :
    Calls Try.prog 5 #[.int .i16 a, .int .i16 b, .int .u16 k] w fun e w' => e = .returned (.bool true) ∧ Below w.heap.size w w' := by
  have h1 := bounds_i16 ha
  have h2 := bounds_i16 hb
  have h3 := bounds_u16 hk
  obtain ⟨n, hn⟩ : ∃ n, n = 1 + k := ⟨_, rfl⟩
  have mb : ∀ x : Int, -32768 ≤ x → x ≤ 32767 → -2147483648 ≤ n * x ∧ n * x ≤ 2147483648 := fun x x1 x2 => by
    have e : (n * x).natAbs = n.natAbs * x.natAbs := Int.natAbs_mul n x
    have : n.natAbs * x.natAbs ≤ 65536 * 32768 := Nat.mul_le_mul (by omega) (by omega)
    omega
  have m1 := mb a h1.1 h1.2
  have m2 := mb b h2.1 h2.2
  obtain ⟨p, hp⟩ : ∃ p, p = n * a := ⟨_, rfl⟩
  obtain ⟨q, hq⟩ : ∃ q, q = n * b := ⟨_, rfl⟩
  rw [← hp] at m1
  rw [← hq] at m2
  have Hn := Lib.hid hn
  have hn' := hn.symm
  have hp' := hp.symm
  have hq' := hq.symm
  have Hp := Lib.hid hp
  have Hq := Lib.hid hq
  have Hm := Lib.hid mb
  have n0 : 0 < n := by omega
  have n1 : n ≤ 65536 := by omega
  clear hn hp hq mb
  go_enter Try.func5, Try.ntmps5
  go_wp2_with fail
  refine (awake _).mono ?_
  rintro e w1 ⟨rfl, hu⟩
  go_wp2_with fail
  refine (share_any p q _).mono ?_
  rintro e w2 ⟨v, rfl, hv, hu2⟩
  go_wp2_with fail
  refine (share_any a b _).mono ?_
  rintro e w3 ⟨u, rfl, hu', hu3⟩
  have lv := share_lt (by omega) (by omega) hv
  have lu := share_lt (by omega) (by omega) hu'
  have hs : kk v = kk u := by
    rw [Hp.out, Hq.out] at hv
    have e1 := Hp.out
    have e2 := Hq.out
    exact share_scale n0 (by omega) (by omega) hv hu'
  have Hs := Lib.hid hs
  clear hs hv hu'
  go_wp2_with fail
  refine (same_any v u _ lv lu).mono ?_
  rintro e w4 ⟨rfl, rfl⟩
  rw [Hs.out, beq_self_eq_true]
  go_wp2
  go_ret
  exact ⟨rfl, ((hu.trans hu2).trans hu3).below (fun _ _ h => h)⟩
end Go.Proofs.Ytjlcjcgoaakniaa.GaugeScales
