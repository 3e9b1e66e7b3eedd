/-
  TopFinds, for every input: the statement Rows.TopFindsCardSaid: the tied card of the law's row. Conditions: the package variables that the row lists hold what the program's own text lays in them (the card ties them).
-/
import Derived.Test.YtheenlomlmbjaaaGreatDoorHLift
import Derived.Test.YtheenlomlmbjaaaGreatDoorHFd
import Derived.Test.YtheenlomlmbjaaaGreatDoorCards
import Derived.Test.YtheenlomlmbjaaaGreatDoorTie
import Derived.SevenTiedAt
set_option linter.unusedSimpArgs false
set_option linter.unusedVariables false
namespace Go.Proofs.YtheenlomlmbjaaaGreatDoor
open Go.ChangeShapes Go.WideShapes Go.ChangeAt Go.RowKit
open Go.ChangeMaps (open_string shut_string)
set_option linter.unusedVariables false

set_option maxRecDepth 100000
theorem anyGoes : (Tryz.prog.funcs.any Func.goes) = false := by kernel_rfl
theorem goesBy_none {P : Program} (h : (P.funcs.any Func.goes) = false) (c : OpenClaim) (hs : c.start = .entering) : c.goesBy P = false := by
  have hall : ∀ g fn, P.funcs[g]? = some fn → Func.goes fn = false := fun g fn hg => by
    cases e : Func.goes fn with
    | false => rfl
    | true =>
      have h1 : (P.funcs.any Func.goes) = true := Array.any_eq_true'.2 ⟨fn, Array.mem_of_getElem? hg, e⟩
      rw [h] at h1
      cases h1
  have hg : ∀ f, P.goes f = false := fun f => by
    unfold Program.goes
    rw [h, Bool.and_false, Bool.or_false, List.any_eq_false]
    intro g _ hc
    cases hq : P.funcs[g]? with
    | none => rw [hq] at hc; cases hc
    | some fn =>
      rw [hq, Option.any_some, hall g fn hq] at hc
      cases hc
  unfold OpenClaim.goesBy Program.goesAt Program.goesFrom
  rw [hs]
  cases P.funcNamed c.func with
  | none => rfl
  | some f => rw [Option.any_some, hg f]; rfl
theorem goesNot : false = Rows.topFindsRow.goesBy Tryz.prog := (goesBy_none anyGoes _ rfl).symm
theorem topFinds_said : Rows.TopFindsSaid :=
  OpenClaim.holds_of_wide 3 Tryz.f3 rfl rfl rfl rfl rfl rfl rfl ⟨rfl, rfl, rfl, rfl, rfl⟩ rfl rfl rfl rfl rfl (by kernel_rfl) Tryz.func3 facts
    (of_decide_eq_true (by kernel_rfl)) (by unfold Func.isWrapper; first | (rw [if_pos (by decide +kernel)]; kernel_rfl) | (rw [if_neg (by decide +kernel)]; exact ⟨rfl, rfl⟩))
    (fun os started H enc _ => topFinds_lifted os started H enc)
theorem topFinds_holds : Rows.TopFindsCardSaid :=
  Claim7.holds_tied_plain_at .later [] [.data, .data, .data, .data, .sentinel, .sentinel] true (true, "5b3a04c87ff43883ba1681421728b8d540117bca1162d55509f7e8fb76156972") true
    topFinds_said (fun _ h => by cases h) (by as_aux_lemma => kernel_rfl) (fun _ h => by cases h) topFinds_row_tie rfl ⟨rfl, rfl⟩ (by as_aux_lemma => kernel_rfl) rfl
    (fun f fn hf hfn => by
      obtain rfl : f = 3 := Option.some.inj ((show Tryz.prog.funcNamed Rows.topFindsRow.func = some 3 by kernel_rfl).symm.trans hf) |>.symm
      obtain rfl : fn = Tryz.f3 := (Option.some.inj (Tryz.func3.symm.trans hfn)).symm
      exact ⟨by as_aux_lemma => kernel_rfl, fun j t ht => by
        rw [Tryz.params3] at ht
        have hm : t ∈ [22, 9, 5] := by simpa using Array.mem_of_getElem? ht
        have hall : ([22, 9, 5].all fun u => !Tryz.prog.wantsStandIn u) = true := by kernel_rfl
        exact (show Tryz.prog.wantsStandIn t = false by simpa using List.all_eq_true.1 hall t hm)⟩)
    goesNot
#print axioms topFinds_holds
end Go.Proofs.YtheenlomlmbjaaaGreatDoor
