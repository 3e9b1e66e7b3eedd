/-
  zig: GetUint, GetInt where a number stands.
-/
import Derived.Test.YtheenlomlmbjaaaGreatDoorTZig
set_option linter.unusedSimpArgs false
set_option linter.unusedVariables false
namespace Go.Proofs.YtheenlomlmbjaaaGreatDoor
open Go.RowKit

theorem or_more (a b j : Nat) (ha : a < 2 ^ j) : a ||| b * 2 ^ j = a + b * 2 ^ j := by
  rw [Nat.or_comm, nat_join j (b * 2 ^ j) a (Nat.mul_mod_left ..) ha, Nat.add_comm]

end Go.Proofs.YtheenlomlmbjaaaGreatDoor
