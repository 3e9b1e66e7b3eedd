/-
  No cell of these rows narrows 'for every input' (looked for: loops, veiled, ifaces, maps, wideKeys, modest, calm, conditions, laid).
  DERIVED. THE GIVEN ROWS OF THIS SEAT. 3 by the template 'for every input the law returns true; each argument reads behind the call as it read before'; 0 by the template 'total and deterministic' (their statements: YtilkcojfencggaaTotals.lean).
  GIVEN WITH THE SEED: the statements are not yours to turn. If you find one false, say at which input.
  Laid BY PROGRAM, IN A SANDBOX (cutbox-rows.mjs): the forced cells as the released guide's own fill.sh prints them over the translation f13cef26865ddf34… (all of the seat's roots in one cut). By AI agents, Wed Nov 11 2026. No macro, syntax, notation, axiom, sorry.
-/
import Derived.Test.YtilkcojfencggaaChecked
import GoSem.Claim
import GoSem.ClaimJoined
import GoSem.ClaimMapViews
import Derived.JoinedTies
import Derived.KernelRfl
namespace Go.Proofs.Ytilkcojfencggaa
/- THE CELL 'sum', in the pinned program and in every row, IS THE sha256 OF THE DUMP (.gsa) THAT YtilkcojfencggaaProg.lean LOADS. Nothing in Lean hashes anything: it is a label: what it is worth is what the hold of that sum in a sandbox is worth. -/
noncomputable def Try.pinned : Pinned := { name := "ytilkcojfencggaa", sum := "f13cef26865ddf34deee98a084b5b5c3676dd182138d2a6781e33680e93ea0f2", checked := Try.checked }
namespace Rows
def none {H : Type} : Left H := { results := [], args := [] }

/-- 'strandlinelaw14.AggWindows': WHATEVER THE INPUT: true; the input reads as it did. -/
def aggWindowsSpec : ChangeSpec := { name := "aggWindows", fn := fun _ => fun
  | [d1, d2, d3] => { results := [.lit (.bool true)], args := [d1, d2, d3] }
  | _ => none }
def aggWindowsRow : OpenClaim := { program := "ytilkcojfencggaa", sum := "f13cef26865ddf34deee98a084b5b5c3676dd182138d2a6781e33680e93ea0f2", func := "strandline/strandlinelaw14.AggWindows", spec := "aggWindows", unfollowed := true, recurses := true, apart := false }
def AggWindowsSaid : Prop := aggWindowsRow.holds Try.pinned (OpenSpec.ofChange aggWindowsSpec)

/-- ITS FALSE NEIGHBOUR: 'it returns false'. Refute it at one input. -/
def aggWindowsWrong : ChangeSpec := { name := "aggWindows", fn := fun _ => fun
  | [d1, d2, d3] => { results := [.lit (.bool false)], args := [d1, d2, d3] }
  | _ => none }
def AggWindowsWrongFalsely : Prop := aggWindowsRow.holds Try.pinned (OpenSpec.ofChange aggWindowsWrong)

/-- 'strandlinelaw14.AggParts': WHATEVER THE INPUT: true; the input reads as it did. -/
def aggPartsSpec : ChangeSpec := { name := "aggParts", fn := fun _ => fun
  | [d1, d2] => { results := [.lit (.bool true)], args := [d1, d2] }
  | _ => none }
def aggPartsRow : OpenClaim := { program := "ytilkcojfencggaa", sum := "f13cef26865ddf34deee98a084b5b5c3676dd182138d2a6781e33680e93ea0f2", func := "strandline/strandlinelaw14.AggParts", spec := "aggParts", unfollowed := true, recurses := true, apart := false }
def AggPartsSaid : Prop := aggPartsRow.holds Try.pinned (OpenSpec.ofChange aggPartsSpec)

/-- ITS FALSE NEIGHBOUR: 'it returns false'. Refute it at one input. -/
def aggPartsWrong : ChangeSpec := { name := "aggParts", fn := fun _ => fun
  | [d1, d2] => { results := [.lit (.bool false)], args := [d1, d2] }
  | _ => none }
def AggPartsWrongFalsely : Prop := aggPartsRow.holds Try.pinned (OpenSpec.ofChange aggPartsWrong)

/-- 'strandlinelaw14.AggWhole': WHATEVER THE INPUT: true; the input reads as it did. -/
def aggWholeSpec : ChangeSpec := { name := "aggWhole", fn := fun _ => fun
  | [d1, d2, d3] => { results := [.lit (.bool true)], args := [d1, d2, d3] }
  | _ => none }
def aggWholeRow : OpenClaim := { program := "ytilkcojfencggaa", sum := "f13cef26865ddf34deee98a084b5b5c3676dd182138d2a6781e33680e93ea0f2", func := "strandline/strandlinelaw14.AggWhole", spec := "aggWhole", unfollowed := true, recurses := true, apart := false }
def AggWholeSaid : Prop := aggWholeRow.holds Try.pinned (OpenSpec.ofChange aggWholeSpec)

/-- ITS FALSE NEIGHBOUR: 'it returns false'. Refute it at one input. -/
def aggWholeWrong : ChangeSpec := { name := "aggWhole", fn := fun _ => fun
  | [d1, d2, d3] => { results := [.lit (.bool false)], args := [d1, d2, d3] }
  | _ => none }
def AggWholeWrongFalsely : Prop := aggWholeRow.holds Try.pinned (OpenSpec.ofChange aggWholeWrong)

/- THE SECOND FORM. 'bulk': how many values and letters a reading holds, each counted each time it is reached (what is shared counts as often as it is met; a slice's spare places count too). A statement '..UptoSaid' is the law's where the arguments, and the package variables that the reading takes, are together of bulk at most 1048576: NARROWER than '..Said'. Prove '..Said' where nothing that the law and all that it calls make is longer than what came in: it says more and counts as full. Else prove '..UptoSaid'. A law counts once. -/
mutual
def uptoBulk {H : Type} : DataW H → Nat
  | .lit (.string bytes) => bytes.length + 1
  | .lit _ => 1
  | .nil => 1
  | .ptr d => uptoBulk d + 1
  | .slice elems spare => uptoBulkAll elems + uptoBulkAll spare + 1
  | .agg parts => uptoBulkAll parts + 1
  | .iface _ d => uptoBulk d + 1
  | .map entries => uptoBulkEntries entries + 1
  | .held _ => 1
def uptoBulkAll {H : Type} : List (DataW H) → Nat
  | [] => 0
  | d :: r => uptoBulk d + uptoBulkAll r
def uptoBulkEntries {H : Type} : List (Lit × DataW H) → Nat
  | [] => 0
  | x :: r => uptoBulkEntry x + uptoBulkEntries r
def uptoBulkEntry {H : Type} : Lit × DataW H → Nat
  | (.string bytes, d) => bytes.length + uptoBulk d + 1
  | (_, d) => uptoBulk d + 1
 end
def uptoSmall : (H : Type) → List (DataW H) → Bool := fun _ ds => decide (uptoBulkAll ds ≤ 1048576)
def OpenSpec.upto (s : _root_.Go.ChangeSpec) : _root_.Go.OpenSpec := { _root_.Go.OpenSpec.ofChange s with cond := some uptoSmall }

/-- 'strandlinelaw14.AggWindows', WHERE WHAT IT READS IS OF BULK AT MOST 1048576: true; the input reads as it did. -/
def aggWindowsUptoRow : OpenClaim := { program := "ytilkcojfencggaa", sum := "f13cef26865ddf34deee98a084b5b5c3676dd182138d2a6781e33680e93ea0f2", func := "strandline/strandlinelaw14.AggWindows", spec := "aggWindows", unfollowed := true, recurses := true, apart := false, narrowed := true }
def AggWindowsUptoSaid : Prop := aggWindowsUptoRow.holds Try.pinned (OpenSpec.upto aggWindowsSpec)

/-- 'strandlinelaw14.AggParts', WHERE WHAT IT READS IS OF BULK AT MOST 1048576: true; the input reads as it did. -/
def aggPartsUptoRow : OpenClaim := { program := "ytilkcojfencggaa", sum := "f13cef26865ddf34deee98a084b5b5c3676dd182138d2a6781e33680e93ea0f2", func := "strandline/strandlinelaw14.AggParts", spec := "aggParts", unfollowed := true, recurses := true, apart := false, narrowed := true }
def AggPartsUptoSaid : Prop := aggPartsUptoRow.holds Try.pinned (OpenSpec.upto aggPartsSpec)

/-- 'strandlinelaw14.AggWhole', WHERE WHAT IT READS IS OF BULK AT MOST 1048576: true; the input reads as it did. -/
def aggWholeUptoRow : OpenClaim := { program := "ytilkcojfencggaa", sum := "f13cef26865ddf34deee98a084b5b5c3676dd182138d2a6781e33680e93ea0f2", func := "strandline/strandlinelaw14.AggWhole", spec := "aggWhole", unfollowed := true, recurses := true, apart := false, narrowed := true }
def AggWholeUptoSaid : Prop := aggWholeUptoRow.holds Try.pinned (OpenSpec.upto aggWholeSpec)

end Rows
end Go.Proofs.Ytilkcojfencggaa
