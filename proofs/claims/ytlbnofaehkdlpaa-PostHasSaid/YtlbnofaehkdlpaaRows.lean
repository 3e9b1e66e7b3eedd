/-
  No cell of these rows narrows 'for every input' (looked for: loops, veiled, ifaces, maps, wideKeys, modest, calm, conditions, laid).
  DERIVED. THE GIVEN ROWS OF THIS SEAT. 5 by the template 'for every input the law returns true; each argument reads behind the call as it read before'; 0 by the template 'total and deterministic' (their statements: YtlbnofaehkdlpaaTotals.lean).
  GIVEN WITH THE SEED: the statements are not yours to turn. If you find one false, say at which input.
  Laid BY PROGRAM, IN A SANDBOX (cutbox-rows.mjs): the forced cells as the released guide's own fill.sh prints them over the translation 7d93ccb896430c1e… (all of the seat's roots in one cut). By AI agents, Wed Nov 11 2026. No macro, syntax, notation, axiom, sorry.
-/
import Derived.Test.YtlbnofaehkdlpaaChecked
import GoSem.Claim
import GoSem.ClaimJoined
import GoSem.ClaimMapViews
import Derived.JoinedTies
import Derived.KernelRfl
namespace Go.Proofs.Ytlbnofaehkdlpaa
/- THE CELL 'sum', in the pinned program and in every row, IS THE sha256 OF THE DUMP (.gsa) THAT YtlbnofaehkdlpaaProg.lean LOADS. Nothing in Lean hashes anything: it is a label: what it is worth is what the hold of that sum in a sandbox is worth. -/
noncomputable def Try.pinned : Pinned := { name := "ytlbnofaehkdlpaa", sum := "7d93ccb896430c1ed042e056bf605ee1248ff9645413b8336209e03623cff136", checked := Try.checked }
namespace Rows
def none {H : Type} : Left H := { results := [], args := [] }

/-- 'strandlinelaw06.PostTells': WHATEVER THE INPUT: true; the input reads as it did. -/
def postTellsSpec : ChangeSpec := { name := "postTells", fn := fun _ => fun
  | [d1, d2] => { results := [.lit (.bool true)], args := [d1, d2] }
  | _ => none }
def postTellsRow : OpenClaim := { program := "ytlbnofaehkdlpaa", sum := "7d93ccb896430c1ed042e056bf605ee1248ff9645413b8336209e03623cff136", func := "strandline/strandlinelaw06.PostTells", spec := "postTells", unfollowed := true, recurses := true, apart := false }
def PostTellsSaid : Prop := postTellsRow.holds Try.pinned (OpenSpec.ofChange postTellsSpec)

/-- ITS FALSE NEIGHBOUR: 'it returns false'. Refute it at one input. -/
def postTellsWrong : ChangeSpec := { name := "postTells", fn := fun _ => fun
  | [d1, d2] => { results := [.lit (.bool false)], args := [d1, d2] }
  | _ => none }
def PostTellsWrongFalsely : Prop := postTellsRow.holds Try.pinned (OpenSpec.ofChange postTellsWrong)

/-- 'strandlinelaw06.PostParts': WHATEVER THE INPUT: true; the input reads as it did. -/
def postPartsSpec : ChangeSpec := { name := "postParts", fn := fun _ => fun
  | [d1, d2] => { results := [.lit (.bool true)], args := [d1, d2] }
  | _ => none }
def postPartsRow : OpenClaim := { program := "ytlbnofaehkdlpaa", sum := "7d93ccb896430c1ed042e056bf605ee1248ff9645413b8336209e03623cff136", func := "strandline/strandlinelaw06.PostParts", spec := "postParts", unfollowed := true, recurses := true, apart := false }
def PostPartsSaid : Prop := postPartsRow.holds Try.pinned (OpenSpec.ofChange postPartsSpec)

/-- ITS FALSE NEIGHBOUR: 'it returns false'. Refute it at one input. -/
def postPartsWrong : ChangeSpec := { name := "postParts", fn := fun _ => fun
  | [d1, d2] => { results := [.lit (.bool false)], args := [d1, d2] }
  | _ => none }
def PostPartsWrongFalsely : Prop := postPartsRow.holds Try.pinned (OpenSpec.ofChange postPartsWrong)

/-- 'strandlinelaw06.PostUnion': WHATEVER THE INPUT: true; the input reads as it did. -/
def postUnionSpec : ChangeSpec := { name := "postUnion", fn := fun _ => fun
  | [d] => { results := [.lit (.bool true)], args := [d] }
  | _ => none }
def postUnionRow : OpenClaim := { program := "ytlbnofaehkdlpaa", sum := "7d93ccb896430c1ed042e056bf605ee1248ff9645413b8336209e03623cff136", func := "strandline/strandlinelaw06.PostUnion", spec := "postUnion", unfollowed := true, recurses := true, apart := false }
def PostUnionSaid : Prop := postUnionRow.holds Try.pinned (OpenSpec.ofChange postUnionSpec)

/-- ITS FALSE NEIGHBOUR: 'it returns false'. Refute it at one input. -/
def postUnionWrong : ChangeSpec := { name := "postUnion", fn := fun _ => fun
  | [d] => { results := [.lit (.bool false)], args := [d] }
  | _ => none }
def PostUnionWrongFalsely : Prop := postUnionRow.holds Try.pinned (OpenSpec.ofChange postUnionWrong)

/-- 'strandlinelaw06.PostHas': WHATEVER THE INPUT: true; the input reads as it did. -/
def postHasSpec : ChangeSpec := { name := "postHas", fn := fun _ => fun
  | [d1, d2, d3] => { results := [.lit (.bool true)], args := [d1, d2, d3] }
  | _ => none }
def postHasRow : OpenClaim := { program := "ytlbnofaehkdlpaa", sum := "7d93ccb896430c1ed042e056bf605ee1248ff9645413b8336209e03623cff136", func := "strandline/strandlinelaw06.PostHas", spec := "postHas", unfollowed := true, recurses := true, apart := false }
def PostHasSaid : Prop := postHasRow.holds Try.pinned (OpenSpec.ofChange postHasSpec)

/-- ITS FALSE NEIGHBOUR: 'it returns false'. Refute it at one input. -/
def postHasWrong : ChangeSpec := { name := "postHas", fn := fun _ => fun
  | [d1, d2, d3] => { results := [.lit (.bool false)], args := [d1, d2, d3] }
  | _ => none }
def PostHasWrongFalsely : Prop := postHasRow.holds Try.pinned (OpenSpec.ofChange postHasWrong)

/-- 'strandlinelaw06.PostThree': WHATEVER THE INPUT: true; the input reads as it did. -/
def postThreeSpec : ChangeSpec := { name := "postThree", fn := fun _ => fun
  | [d1, d2, d3] => { results := [.lit (.bool true)], args := [d1, d2, d3] }
  | _ => none }
def postThreeRow : OpenClaim := { program := "ytlbnofaehkdlpaa", sum := "7d93ccb896430c1ed042e056bf605ee1248ff9645413b8336209e03623cff136", func := "strandline/strandlinelaw06.PostThree", spec := "postThree", unfollowed := true, recurses := true, apart := false }
def PostThreeSaid : Prop := postThreeRow.holds Try.pinned (OpenSpec.ofChange postThreeSpec)

/-- ITS FALSE NEIGHBOUR: 'it returns false'. Refute it at one input. -/
def postThreeWrong : ChangeSpec := { name := "postThree", fn := fun _ => fun
  | [d1, d2, d3] => { results := [.lit (.bool false)], args := [d1, d2, d3] }
  | _ => none }
def PostThreeWrongFalsely : Prop := postThreeRow.holds Try.pinned (OpenSpec.ofChange postThreeWrong)

/- THE SECOND FORM. 'bulk': how many values and letters a reading holds, each counted each time it is reached (what is shared counts as often as it is met; a slice's spare places count too). A statement '..UptoSaid' is the law's where the arguments, and the package variables that the reading takes, are together of bulk at most 1048576: NARROWER than '..Said'. Prove '..Said' where nothing that the law and all that it calls make is longer than what came in: it says more and counts as full. Else prove '..UptoSaid'. A law counts once. -/
mutual
def uptoBulk {H : Type} : DataW H → Nat
  | .lit (.string bytes) => bytes.length + 1
  | .lit _ => 1
  | .nil => 1
  | .ptr d => uptoBulk d + 1
  | .slice elems spare => uptoBulkAll elems + uptoBulkAll spare + 1
  | .agg parts => uptoBulkAll parts + 1
  | .iface _ d => uptoBulk d + 1
  | .map entries => uptoBulkEntries entries + 1
  | .held _ => 1
def uptoBulkAll {H : Type} : List (DataW H) → Nat
  | [] => 0
  | d :: r => uptoBulk d + uptoBulkAll r
def uptoBulkEntries {H : Type} : List (Lit × DataW H) → Nat
  | [] => 0
  | x :: r => uptoBulkEntry x + uptoBulkEntries r
def uptoBulkEntry {H : Type} : Lit × DataW H → Nat
  | (.string bytes, d) => bytes.length + uptoBulk d + 1
  | (_, d) => uptoBulk d + 1
 end
def uptoSmall : (H : Type) → List (DataW H) → Bool := fun _ ds => decide (uptoBulkAll ds ≤ 1048576)
def OpenSpec.upto (s : _root_.Go.ChangeSpec) : _root_.Go.OpenSpec := { _root_.Go.OpenSpec.ofChange s with cond := some uptoSmall }

/-- 'strandlinelaw06.PostTells', WHERE WHAT IT READS IS OF BULK AT MOST 1048576: true; the input reads as it did. -/
def postTellsUptoRow : OpenClaim := { program := "ytlbnofaehkdlpaa", sum := "7d93ccb896430c1ed042e056bf605ee1248ff9645413b8336209e03623cff136", func := "strandline/strandlinelaw06.PostTells", spec := "postTells", unfollowed := true, recurses := true, apart := false, narrowed := true }
def PostTellsUptoSaid : Prop := postTellsUptoRow.holds Try.pinned (OpenSpec.upto postTellsSpec)

/-- 'strandlinelaw06.PostParts', WHERE WHAT IT READS IS OF BULK AT MOST 1048576: true; the input reads as it did. -/
def postPartsUptoRow : OpenClaim := { program := "ytlbnofaehkdlpaa", sum := "7d93ccb896430c1ed042e056bf605ee1248ff9645413b8336209e03623cff136", func := "strandline/strandlinelaw06.PostParts", spec := "postParts", unfollowed := true, recurses := true, apart := false, narrowed := true }
def PostPartsUptoSaid : Prop := postPartsUptoRow.holds Try.pinned (OpenSpec.upto postPartsSpec)

/-- 'strandlinelaw06.PostUnion', WHERE WHAT IT READS IS OF BULK AT MOST 1048576: true; the input reads as it did. -/
def postUnionUptoRow : OpenClaim := { program := "ytlbnofaehkdlpaa", sum := "7d93ccb896430c1ed042e056bf605ee1248ff9645413b8336209e03623cff136", func := "strandline/strandlinelaw06.PostUnion", spec := "postUnion", unfollowed := true, recurses := true, apart := false, narrowed := true }
def PostUnionUptoSaid : Prop := postUnionUptoRow.holds Try.pinned (OpenSpec.upto postUnionSpec)

/-- 'strandlinelaw06.PostHas', WHERE WHAT IT READS IS OF BULK AT MOST 1048576: true; the input reads as it did. -/
def postHasUptoRow : OpenClaim := { program := "ytlbnofaehkdlpaa", sum := "7d93ccb896430c1ed042e056bf605ee1248ff9645413b8336209e03623cff136", func := "strandline/strandlinelaw06.PostHas", spec := "postHas", unfollowed := true, recurses := true, apart := false, narrowed := true }
def PostHasUptoSaid : Prop := postHasUptoRow.holds Try.pinned (OpenSpec.upto postHasSpec)

/-- 'strandlinelaw06.PostThree', WHERE WHAT IT READS IS OF BULK AT MOST 1048576: true; the input reads as it did. -/
def postThreeUptoRow : OpenClaim := { program := "ytlbnofaehkdlpaa", sum := "7d93ccb896430c1ed042e056bf605ee1248ff9645413b8336209e03623cff136", func := "strandline/strandlinelaw06.PostThree", spec := "postThree", unfollowed := true, recurses := true, apart := false, narrowed := true }
def PostThreeUptoSaid : Prop := postThreeUptoRow.holds Try.pinned (OpenSpec.upto postThreeSpec)

end Rows
end Go.Proofs.Ytlbnofaehkdlpaa
