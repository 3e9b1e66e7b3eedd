/-
  Closed facts of TopFinds' row: what it calls in place.
-/
import Derived.Test.YtheenlomlmbjaaaGreatDoorRows
import Derived.JoinedOf
set_option linter.unusedSimpArgs false
set_option linter.unusedVariables false
namespace Go.Proofs.YtheenlomlmbjaaaGreatDoor
set_option maxRecDepth 100000
theorem factInPlace : (Rows.topFindsRow.inPlace == Tryz.prog.inPlace 3) = true := by kernel_rfl
end Go.Proofs.YtheenlomlmbjaaaGreatDoor
