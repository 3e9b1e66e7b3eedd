/-
  slices.swapRangeCmpFunc.
-/
import Derived.Test.YtheenlomlmbjaaaGreatDoorTSwap
set_option linter.unusedSimpArgs false
set_option linter.unusedVariables false
namespace Go.Proofs.YtheenlomlmbjaaaGreatDoor
open Go.RowKit

end Go.Proofs.YtheenlomlmbjaaaGreatDoor

namespace Go.Proofs.YtheenlomlmbjaaaGreatDoor
open Go.RowKit

end Go.Proofs.YtheenlomlmbjaaaGreatDoor

namespace Go.Proofs.YtheenlomlmbjaaaGreatDoor
open Go.RowKit

def ltE (x y : El) : Bool := decide (x.1 < y.1)
theorem ltE_weak : Weak ltE := ⟨fun x y h => by simp [ltE] at *; omega, fun x y z h1 h2 => by simp [ltE] at *; omega⟩
def cmpE (x y : El) : Int := if ltE x y then -1 else if ltE y x then 1 else 0
theorem cmpE_lt {x y : El} (h : ltE x y = true) : cmpE x y = -1 := by unfold cmpE; rw [if_pos h]
theorem cmpE_ge {x y : El} (h : ltE x y = false) : 0 ≤ cmpE x y := by unfold cmpE; rw [if_neg (by rw [h]; exact Bool.false_ne_true)]; split <;> omega
def cmpV : Value := .func (.func 107) #[] #[]
theorem cmpE_int (x y : El) : cmpE x y = cmpI x.1 y.1 := by simp [cmpE, ltE, cmpI]
theorem cmpS_any (x y : El) (w : World) :
    Calls Tryz.prog 107 #[.agg #[cA x, cB x], .agg #[cA y, cB y]] w fun e w' => e = .returned (.int .i64 (cmpE x y)) ∧ Below w.heap.size w w' := by
  rw [cmpE_int]
  exact byTime_any x.1 x.2 y.1 y.2 w

end Go.Proofs.YtheenlomlmbjaaaGreatDoor
