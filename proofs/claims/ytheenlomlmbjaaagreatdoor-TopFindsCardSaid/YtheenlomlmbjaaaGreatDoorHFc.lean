/-
  Closed facts of TopFinds' row: the variables that it names.
-/
import Derived.Test.YtheenlomlmbjaaaGreatDoorRows
import Derived.JoinedOf
set_option linter.unusedSimpArgs false
set_option linter.unusedVariables false
namespace Go.Proofs.YtheenlomlmbjaaaGreatDoor
set_option maxRecDepth 100000
theorem factNamed : (Rows.topFindsRow.named == Tryz.prog.varsNamed 3) = true := by kernel_rfl
end Go.Proofs.YtheenlomlmbjaaaGreatDoor
