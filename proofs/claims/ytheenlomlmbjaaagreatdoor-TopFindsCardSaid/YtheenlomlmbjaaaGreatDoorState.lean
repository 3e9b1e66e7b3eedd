/-
  What a law's walk carries from call to call: 'Below' since the beginning; facts that stay whatever is made later.
-/
import Derived.Test.YtheenlomlmbjaaaGreatDoorRows
import Derived.WalkKit
import Derived.Lib.Hide
import Derived.ProofKit
import Derived.OpenShut
import Derived.ShutString
import Derived.ChangeOld
import Derived.BigQuiet
set_option linter.unusedSimpArgs false
set_option linter.unusedVariables false
namespace Go.Proofs.YtheenlomlmbjaaaGreatDoor
open Go.RowKit

structure St (w0 w : World) (l : List (World → Prop)) : Prop where
  bel : Below w0.heap.size w0 w
  stay : ∀ p ∈ l, ∀ w', Below w.heap.size w w' → p w'

theorem St.start (w : World) : St w w [] := ⟨Below.refl _ _, fun p h => by cases h⟩
theorem St.step {w0 w w1 : World} {l : List (World → Prop)} (h : St w0 w l) (hb : Below w.heap.size w w1) : St w0 w1 l :=
  ⟨h.bel.trans (hb.mono h.bel.size), fun p hp w' hb' => h.stay p hp w' (hb.trans (hb'.mono hb.size))⟩
theorem St.add {w0 w : World} {l : List (World → Prop)} (h : St w0 w l) (p : World → Prop) (hp : ∀ w', Below w.heap.size w w' → p w') : St w0 w (p :: l) :=
  ⟨h.bel, fun q hq w' hb => by
    rcases List.mem_cons.1 hq with e | e
    · subst e; exact hp w' hb
    · exact h.stay q e w' hb⟩
theorem St.get {w0 w : World} {l : List (World → Prop)} (h : St w0 w l) (i : Nat) {p : World → Prop} (hi : l[i]? = some p) : p w :=
  h.stay p (List.mem_of_getElem? hi) w (Below.refl _ _)
theorem St.alloc {w0 w : World} {l : List (World → Prop)} (h : St w0 w l) (o : Obj) : St w0 (w.alloc o) l := h.step ((Below.refl _ _).alloc (Nat.le_refl _) o)

theorem own : ownKnob Tryz.prog.godebug = none := by kernel_rfl
theorem laidOut : laidOutB Tryz.prog = true := by kernel_rfl

end Go.Proofs.YtheenlomlmbjaaaGreatDoor
