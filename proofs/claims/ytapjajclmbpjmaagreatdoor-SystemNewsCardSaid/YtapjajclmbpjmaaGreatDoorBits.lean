/- Go's bits of words: how many are set (math/bits.OnesCount64), and those below a place (marks.below). -/
import Derived.Test.YtapjajclmbpjmaaGreatDoorProg
import Derived.Test.YtapjajclmbpjmaaGreatDoorMem
import Derived.Test.YtapjajclmbpjmaaGreatDoorPop
import Derived.Laws.Bits128
namespace Go.Proofs.YtapjajclmbpjmaaGreatDoor.Marks
open Go.RowKit Go.Proofs.YtapjajclmbpjmaaGreatDoor.Mem Go.Proofs.YtapjajclmbpjmaaGreatDoor.Pop

theorem wrap_u64 (n : Nat) (h : n < 18446744073709551616) : IntKind.u64.wrap (n : Int) = (n : Int) := by
  rw [IntKind.wrap_u64]
  omega

theorem and_mask (x i : Nat) (hx : x < 18446744073709551616) (hi : i < 64) : bits BinOp.and IntKind.u64 (x : Int) (IntKind.u64.wrap (IntKind.u64.wrap (2 ^ i) - 1)) = ((x % 2 ^ i : Nat) : Int) := by
  have hp : 2 ^ i < 18446744073709551616 := by
    have := Nat.pow_lt_pow_right (a := 2) (by omega) (show i < 64 by omega)
    simpa using this
  have hp0 : 0 < 2 ^ i := Nat.two_pow_pos i
  have e1 : IntKind.u64.wrap (2 ^ i) = ((2 ^ i : Nat) : Int) := by
    have := wrap_u64 (2 ^ i) hp
    simpa using this
  rw [e1, show ((2 ^ i : Nat) : Int) - 1 = ((2 ^ i - 1 : Nat) : Int) by omega, wrap_u64 _ (by omega), u64_and_nat _ _ hx (by omega), Nat.and_two_pow_sub_one_eq_mod]

end Go.Proofs.YtapjajclmbpjmaaGreatDoor.Marks
