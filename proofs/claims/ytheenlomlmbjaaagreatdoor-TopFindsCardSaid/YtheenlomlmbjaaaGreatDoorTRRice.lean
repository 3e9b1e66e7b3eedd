/-
  rice.Reader: Rice where a number stands, End.
-/
import Derived.Test.YtheenlomlmbjaaaGreatDoorTRead
set_option linter.unusedSimpArgs false
set_option linter.unusedVariables false
namespace Go.Proofs.YtheenlomlmbjaaaGreatDoor
open Go.RowKit

end Go.Proofs.YtheenlomlmbjaaaGreatDoor
