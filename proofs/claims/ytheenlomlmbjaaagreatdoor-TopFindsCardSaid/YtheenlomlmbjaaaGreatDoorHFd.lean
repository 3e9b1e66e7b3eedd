/-
  Closed facts of TopFinds' row, all of them.
-/
import Derived.Test.YtheenlomlmbjaaaGreatDoorHFa
import Derived.Test.YtheenlomlmbjaaaGreatDoorHFb
import Derived.Test.YtheenlomlmbjaaaGreatDoorHFc
import Derived.Stop.Joined
set_option linter.unusedSimpArgs false
set_option linter.unusedVariables false
namespace Go.Proofs.YtheenlomlmbjaaaGreatDoor
set_option maxRecDepth 100000
theorem facts : joinedFacts Tryz.prog 3 Tryz.f3 Rows.topFindsSpec Rows.topFindsRow = true := by
  unfold joinedFacts
  rw [factInPlace, factUnfollowed, factRecurses, factNamed]
  kernel_rfl
end Go.Proofs.YtheenlomlmbjaaaGreatDoor
