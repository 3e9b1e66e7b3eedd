/-
  LabelNames: which texts are names, and which are values, is the document's; and how any text is quoted.
-/
import Derived.Test.YtamdkmcdleilpaaNames
import Derived.Test.YtamdkmcdleilpaaVals
import Derived.Test.YtamdkmcdleilpaaValsRef
import Derived.Test.YtamdkmcdleilpaaQuote
import Derived.Test.YtamdkmcdleilpaaState
namespace Go.Proofs.Ytamdkmcdleilpaa
open Go.RowKit

set_option maxRecDepth 100000 in
set_option maxHeartbeats 2000000 in
theorem names_walk (l : Bytes) (w : World) :
    Calls Try.prog 7 #[.string (bs l)] w fun e w' => e = .returned (.bool true) ∧ Below w.heap.size w w' := by
  by_cases hl : l.length ≤ 1024
  · have HS := Lib.hid (St.start w)
    go_enter Try.func7, Try.ntmps7
    go_wp2_with fail
    refine (name_any l _).mono ?_
    rintro e w1 ⟨rfl, hb⟩
    have HS1 := Lib.hid (HS.out.step hb)
    clear hb
    go_wp2_with fail
    refine (refName_any l _).mono ?_
    rintro e w2 ⟨rfl, rfl⟩
    go_wp2_with fail
    refine (value_any l _).mono ?_
    rintro e w3 ⟨rfl, hb⟩
    have HS2 := Lib.hid (HS1.out.step hb)
    clear hb
    go_wp2_with fail
    refine (refValue_any l _).mono ?_
    rintro e w4 ⟨rfl, rfl⟩
    go_wp2_with fail
    refine (quote_any l _ (by omega)).mono ?_
    rintro e w5 ⟨rfl, hb⟩
    have HS3 := Lib.hid (HS2.out.step hb)
    clear hb
    go_wp2_with fail
    refine (refQuote_any l _ (by omega)).mono ?_
    rintro e w6 ⟨rfl, rfl⟩
    go_wp2_with fail
    go_ret
    exact ⟨rfl, HS3.out.bel⟩
  · go_enter Try.func7, Try.ntmps7
    go_wp2_with fail
    go_ret
    exact ⟨rfl, Below.refl _ _⟩

end Go.Proofs.Ytamdkmcdleilpaa
