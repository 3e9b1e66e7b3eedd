/-
  rice.Reader: peek, Left, Rice, End.
-/
import Derived.Test.YtheenlomlmbjaaaGreatDoorTCost
import Derived.Test.YtheenlomlmbjaaaGreatDoorTLz
set_option linter.unusedSimpArgs false
set_option linter.unusedVariables false
namespace Go.Proofs.YtheenlomlmbjaaaGreatDoor
open Go.RowKit

def Rd (b : Nat) (s : Bytes) (at_ : Nat) (w : World) : Prop := w.heap[b]? = some (.cells #[.string (bs s), .int .i64 at_] 481 (0, 0))

theorem pow_le64 {t : Nat} (h : t ≤ 64) : 2 ^ t ≤ 18446744073709551616 := Nat.pow_le_pow_right (by decide) h
theorem mask_val (x t : Nat) (hx : x < 18446744073709551616) (ht : t < 64) :
    bits .and .u64 (x : Int) (IntKind.u64.wrap (IntKind.u64.wrap (2 ^ t) - 1)) = ((x % 2 ^ t : Nat) : Int) := by
  have hp := Nat.two_pow_pos t
  have h64 : 2 ^ t < 18446744073709551616 := Nat.pow_lt_pow_right (by decide) ht
  have e1 : IntKind.u64.wrap (2 ^ t) = ((2 ^ t : Nat) : Int) := by rw [IntKind.wrap_u64, show ((2 : Int) ^ t) = ((2 ^ t : Nat) : Int) by simp]; omega
  rw [e1, show IntKind.u64.wrap (((2 ^ t : Nat) : Int) - 1) = ((2 ^ t - 1 : Nat) : Int) by rw [IntKind.wrap_u64]; omega, u64_and_nat _ _ hx (by omega), Nat.and_two_pow_sub_one_eq_mod]
end Go.Proofs.YtheenlomlmbjaaaGreatDoor
