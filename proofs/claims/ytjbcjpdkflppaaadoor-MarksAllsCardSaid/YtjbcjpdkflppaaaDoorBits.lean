/- Go's bits of words: how many are set (math/bits.OnesCount64), and those below a place (marks.below). -/
import Derived.Test.YtjbcjpdkflppaaaDoorProg
import Derived.Test.YtjbcjpdkflppaaaDoorMem
import Derived.Test.YtjbcjpdkflppaaaDoorPop
import Derived.Laws.Bits128
namespace Go.Proofs.YtjbcjpdkflppaaaDoor.Marks
open Go.RowKit Go.Proofs.YtjbcjpdkflppaaaDoor.Mem Go.Proofs.YtjbcjpdkflppaaaDoor.Pop

theorem wrap_u64 (n : Nat) (h : n < 18446744073709551616) : IntKind.u64.wrap (n : Int) = (n : Int) := by
  rw [IntKind.wrap_u64]
  omega

theorem and_mask (x i : Nat) (hx : x < 18446744073709551616) (hi : i < 64) : bits BinOp.and IntKind.u64 (x : Int) (IntKind.u64.wrap (IntKind.u64.wrap (2 ^ i) - 1)) = ((x % 2 ^ i : Nat) : Int) := by
  have hp : 2 ^ i < 18446744073709551616 := by
    have := Nat.pow_lt_pow_right (a := 2) (by omega) (show i < 64 by omega)
    simpa using this
  have hp0 : 0 < 2 ^ i := Nat.two_pow_pos i
  have e1 : IntKind.u64.wrap (2 ^ i) = ((2 ^ i : Nat) : Int) := by
    have := wrap_u64 (2 ^ i) hp
    simpa using this
  rw [e1, show ((2 ^ i : Nat) : Int) - 1 = ((2 ^ i - 1 : Nat) : Int) by omega, wrap_u64 _ (by omega), u64_and_nat _ _ hx (by omega), Nat.and_two_pow_sub_one_eq_mod]

theorem below_any (x i : Nat) (w : World) (hx : x < 18446744073709551616) (hi : i < 64) :
    Calls Tryd.prog 21 #[.int .u64 x, .int .i64 i] w fun e w' => e = .returned (.int .u64 ((x % 2 ^ i : Nat) : Int)) ∧ w = w' := by
  have he := and_mask x i hx hi
  go_enter Tryd.func21, Tryd.ntmps21
  go_wp2
  go_ret
  exact ⟨rfl, rfl⟩

theorem ones_any (x : Nat) (w : World) (h : x < 18446744073709551616) :
    Calls Tryd.prog 20 #[.int .u64 x] w fun e w' => e = .returned (.int .i64 (cb x 64 : Nat)) ∧ w = w' := by
  obtain ⟨p, hp, y1, y2, k1, l1, k2, l2, l3, k3⟩ := swar x h
  obtain ⟨v, hv⟩ : ∃ v, v = val p := ⟨_, rfl⟩
  obtain ⟨y4, k4⟩ : ∃ y, y = v + v / 256 := ⟨_, rfl⟩
  obtain ⟨y5, k5⟩ : ∃ y, y = y4 + y4 / 65536 := ⟨_, rfl⟩
  obtain ⟨y6, k6⟩ : ∃ y, y = y5 + y5 / 4294967296 := ⟨_, rfl⟩
  obtain ⟨b4, b5, b6, hs⟩ := fold x v y4 y5 y6 (by rw [hv, hp]) k4 k5 k6
  have hr : y6 % 128 = cb x 64 := by rw [hs, cb_bytes x h]
  have e1 : IntKind.u64.wrap (bits BinOp.and IntKind.u64 ((x : Int) / 2) 6148914691236517205 + bits BinOp.and IntKind.u64 (x : Int) 6148914691236517205) = (y1 : Int) := by
    rw [show (x : Int) / 2 = ((x / 2 : Nat) : Int) by omega, show (6148914691236517205 : Int) = ((6148914691236517205 : Nat) : Int) by rfl, u64_and_nat _ _ (by omega) (by omega), u64_and_nat _ _ h (by omega)]
    rw [show ∀ a b : Nat, (a : Int) + (b : Int) = ((a + b : Nat) : Int) from fun a b => by omega, ← k1, wrap_u64 _ l1]
  have e2 : IntKind.u64.wrap (bits BinOp.and IntKind.u64 ((y1 : Int) / 4) 3689348814741910323 + bits BinOp.and IntKind.u64 (y1 : Int) 3689348814741910323) = (y2 : Int) := by
    rw [show (y1 : Int) / 4 = ((y1 / 4 : Nat) : Int) by omega, show (3689348814741910323 : Int) = ((3689348814741910323 : Nat) : Int) by rfl, u64_and_nat _ _ (by omega) (by omega), u64_and_nat _ _ l1 (by omega)]
    rw [show ∀ a b : Nat, (a : Int) + (b : Int) = ((a + b : Nat) : Int) from fun a b => by omega, ← k2, wrap_u64 _ l2]
  have e3 : bits BinOp.and IntKind.u64 (IntKind.u64.wrap ((y2 : Int) / 16 + (y2 : Int))) 1085102592571150095 = (v : Int) := by
    rw [show (y2 : Int) / 16 + (y2 : Int) = ((y2 / 16 + y2 : Nat) : Int) by omega, wrap_u64 _ l3, show (1085102592571150095 : Int) = ((1085102592571150095 : Nat) : Int) by rfl, u64_and_nat _ _ l3 (by omega), k3, ← hv]
  have e4 : IntKind.u64.wrap ((v : Int) + (v : Int) / 256) = (y4 : Int) := by
    rw [show (v : Int) + (v : Int) / 256 = ((v + v / 256 : Nat) : Int) by omega, ← k4, wrap_u64 _ b4]
  have e5 : IntKind.u64.wrap ((y4 : Int) + (y4 : Int) / 65536) = (y5 : Int) := by
    rw [show (y4 : Int) + (y4 : Int) / 65536 = ((y4 + y4 / 65536 : Nat) : Int) by omega, ← k5, wrap_u64 _ b5]
  have e6 : IntKind.u64.wrap ((y5 : Int) + (y5 : Int) / 4294967296) = (y6 : Int) := by
    rw [show (y5 : Int) + (y5 : Int) / 4294967296 = ((y5 + y5 / 4294967296 : Nat) : Int) by omega, ← k6, wrap_u64 _ (by omega)]
  have e7 : bits BinOp.and IntKind.i64 (wrap64 (y6 : Int)) 127 = ((cb x 64 : Nat) : Int) := by
    rw [show wrap64 (y6 : Int) = (y6 : Int) by unfold wrap64; omega, i64_and127, ← hr]
    omega
  have e8 : bits BinOp.and IntKind.i64 (y6 : Int) 127 = ((cb x 64 : Nat) : Int) := by
    rw [i64_and127, ← hr]; omega
  clear k1 k2 k3 k4 k5 k6 hv hp hr hs l1 l2 l3 b4 b5 b6 h
  go_enter Tryd.func20, Tryd.ntmps20
  go_wp2
  go_ret
  exact ⟨rfl, rfl⟩
end Go.Proofs.YtjbcjpdkflppaaaDoor.Marks
