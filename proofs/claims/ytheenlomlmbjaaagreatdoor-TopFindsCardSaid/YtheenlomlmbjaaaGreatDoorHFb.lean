/-
  Closed facts of TopFinds' row: it is not followed wholly.
-/
import Derived.Test.YtheenlomlmbjaaaGreatDoorRows
import Derived.JoinedOf
set_option linter.unusedSimpArgs false
set_option linter.unusedVariables false
namespace Go.Proofs.YtheenlomlmbjaaaGreatDoor
set_option maxRecDepth 100000
theorem unfollowedT : Tryz.prog.unfollowed 3 = true := by kernel_rfl
theorem factUnfollowed : (Rows.topFindsRow.unfollowed == Tryz.prog.unfollowed 3) = true := by
  rw [unfollowedT]
  rfl
theorem factRecurses : (Rows.topFindsRow.recurses == Tryz.prog.recurses 3) = true := by
  have h : Tryz.prog.recurses 3 = true := by
    unfold Program.recurses
    rw [unfollowedT, Bool.true_or]
  rw [h]
  rfl
end Go.Proofs.YtheenlomlmbjaaaGreatDoor
