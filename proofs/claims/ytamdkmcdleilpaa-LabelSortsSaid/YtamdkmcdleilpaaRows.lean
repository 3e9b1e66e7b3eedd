/-
  No cell of these rows narrows 'for every input' (looked for: loops, veiled, ifaces, maps, wideKeys, modest, calm, conditions, laid).
  DERIVED. THE GIVEN ROWS OF THIS SEAT. 13 by the template 'for every input the law returns true; each argument reads behind the call as it read before'; 0 by the template 'total and deterministic' (their statements: YtamdkmcdleilpaaTotals.lean).
  GIVEN WITH THE SEED: the statements are not yours to turn. If you find one false, say at which input.
  Laid BY PROGRAM, IN A SANDBOX (cutbox-rows.mjs): the forced cells as the released guide's own fill.sh prints them over the translation e294bed18936d9a8… (all of the seat's roots in one cut). By AI agents, Wed Nov 11 2026. No macro, syntax, notation, axiom, sorry.
-/
import Derived.Test.YtamdkmcdleilpaaChecked
import GoSem.Claim
import GoSem.ClaimJoined
import GoSem.ClaimMapViews
import Derived.JoinedTies
import Derived.KernelRfl
namespace Go.Proofs.Ytamdkmcdleilpaa
/- THE CELL 'sum', in the pinned program and in every row, IS THE sha256 OF THE DUMP (.gsa) THAT YtamdkmcdleilpaaProg.lean LOADS. Nothing in Lean hashes anything: it is a label: what it is worth is what the hold of that sum in a sandbox is worth. -/
noncomputable def Try.pinned : Pinned := { name := "ytamdkmcdleilpaa", sum := "e294bed18936d9a8ad3b2dfe01c37d26802377a5a358685a837641269c92dc82", checked := Try.checked }
namespace Rows
def none {H : Type} : Left H := { results := [], args := [] }

/-- 'strandlinelaw05.MatchApart': WHATEVER THE INPUT: true; the input reads as it did. -/
def matchApartSpec : ChangeSpec := { name := "matchApart", fn := fun _ => fun
  | [d1, d2, d3] => { results := [.lit (.bool true)], args := [d1, d2, d3] }
  | _ => none }
def matchApartRow : OpenClaim := { program := "ytamdkmcdleilpaa", sum := "e294bed18936d9a8ad3b2dfe01c37d26802377a5a358685a837641269c92dc82", func := "strandline/strandlinelaw05.MatchApart", spec := "matchApart", unfollowed := true, recurses := true, apart := false }
def MatchApartSaid : Prop := matchApartRow.holds Try.pinned (OpenSpec.ofChange matchApartSpec)

/-- ITS FALSE NEIGHBOUR: 'it returns false'. Refute it at one input. -/
def matchApartWrong : ChangeSpec := { name := "matchApart", fn := fun _ => fun
  | [d1, d2, d3] => { results := [.lit (.bool false)], args := [d1, d2, d3] }
  | _ => none }
def MatchApartWrongFalsely : Prop := matchApartRow.holds Try.pinned (OpenSpec.ofChange matchApartWrong)

/-- 'strandlinelaw05.MatchBegins': WHATEVER THE INPUT: true; the input reads as it did. -/
def matchBeginsSpec : ChangeSpec := { name := "matchBegins", fn := fun _ => fun
  | [d1, d2, d3, d4] => { results := [.lit (.bool true)], args := [d1, d2, d3, d4] }
  | _ => none }
def matchBeginsRow : OpenClaim := { program := "ytamdkmcdleilpaa", sum := "e294bed18936d9a8ad3b2dfe01c37d26802377a5a358685a837641269c92dc82", func := "strandline/strandlinelaw05.MatchBegins", spec := "matchBegins", unfollowed := true, recurses := true, apart := false }
def MatchBeginsSaid : Prop := matchBeginsRow.holds Try.pinned (OpenSpec.ofChange matchBeginsSpec)

/-- ITS FALSE NEIGHBOUR: 'it returns false'. Refute it at one input. -/
def matchBeginsWrong : ChangeSpec := { name := "matchBegins", fn := fun _ => fun
  | [d1, d2, d3, d4] => { results := [.lit (.bool false)], args := [d1, d2, d3, d4] }
  | _ => none }
def MatchBeginsWrongFalsely : Prop := matchBeginsRow.holds Try.pinned (OpenSpec.ofChange matchBeginsWrong)

/-- 'strandlinelaw04.LabelQuotes': WHATEVER THE INPUT: true; the input reads as it did. -/
def labelQuotesSpec : ChangeSpec := { name := "labelQuotes", fn := fun _ => fun
  | [d1, d2] => { results := [.lit (.bool true)], args := [d1, d2] }
  | _ => none }
def labelQuotesRow : OpenClaim := { program := "ytamdkmcdleilpaa", sum := "e294bed18936d9a8ad3b2dfe01c37d26802377a5a358685a837641269c92dc82", func := "strandline/strandlinelaw04.LabelQuotes", spec := "labelQuotes", inPlace := ["internal/abi.NoEscape"], apart := false }
def LabelQuotesSaid : Prop := labelQuotesRow.holds Try.pinned (OpenSpec.ofChange labelQuotesSpec)

/-- ITS FALSE NEIGHBOUR: 'it returns false'. Refute it at one input. -/
def labelQuotesWrong : ChangeSpec := { name := "labelQuotes", fn := fun _ => fun
  | [d1, d2] => { results := [.lit (.bool false)], args := [d1, d2] }
  | _ => none }
def LabelQuotesWrongFalsely : Prop := labelQuotesRow.holds Try.pinned (OpenSpec.ofChange labelQuotesWrong)

/-- 'strandlinelaw05.MatchSets': WHATEVER THE INPUT: true; the input reads as it did. -/
def matchSetsSpec : ChangeSpec := { name := "matchSets", fn := fun _ => fun
  | [d1, d2, d3] => { results := [.lit (.bool true)], args := [d1, d2, d3] }
  | _ => none }
def matchSetsRow : OpenClaim := { program := "ytamdkmcdleilpaa", sum := "e294bed18936d9a8ad3b2dfe01c37d26802377a5a358685a837641269c92dc82", func := "strandline/strandlinelaw05.MatchSets", spec := "matchSets", unfollowed := true, recurses := true, apart := false }
def MatchSetsSaid : Prop := matchSetsRow.holds Try.pinned (OpenSpec.ofChange matchSetsSpec)

/-- ITS FALSE NEIGHBOUR: 'it returns false'. Refute it at one input. -/
def matchSetsWrong : ChangeSpec := { name := "matchSets", fn := fun _ => fun
  | [d1, d2, d3] => { results := [.lit (.bool false)], args := [d1, d2, d3] }
  | _ => none }
def MatchSetsWrongFalsely : Prop := matchSetsRow.holds Try.pinned (OpenSpec.ofChange matchSetsWrong)

/-- 'strandlinelaw04.LabelNames': WHATEVER THE INPUT: true; the input reads as it did. -/
def labelNamesSpec : ChangeSpec := { name := "labelNames", fn := fun _ => fun
  | [d] => { results := [.lit (.bool true)], args := [d] }
  | _ => none }
def labelNamesRow : OpenClaim := { program := "ytamdkmcdleilpaa", sum := "e294bed18936d9a8ad3b2dfe01c37d26802377a5a358685a837641269c92dc82", func := "strandline/strandlinelaw04.LabelNames", spec := "labelNames", inPlace := ["internal/abi.NoEscape"], apart := false }
def LabelNamesSaid : Prop := labelNamesRow.holds Try.pinned (OpenSpec.ofChange labelNamesSpec)

/-- ITS FALSE NEIGHBOUR: 'it returns false'. Refute it at one input. -/
def labelNamesWrong : ChangeSpec := { name := "labelNames", fn := fun _ => fun
  | [d] => { results := [.lit (.bool false)], args := [d] }
  | _ => none }
def LabelNamesWrongFalsely : Prop := labelNamesRow.holds Try.pinned (OpenSpec.ofChange labelNamesWrong)

/-- 'strandlinelaw05.MatchTells': WHATEVER THE INPUT: true; the input reads as it did. -/
def matchTellsSpec : ChangeSpec := { name := "matchTells", fn := fun _ => fun
  | [d1, d2] => { results := [.lit (.bool true)], args := [d1, d2] }
  | _ => none }
def matchTellsRow : OpenClaim := { program := "ytamdkmcdleilpaa", sum := "e294bed18936d9a8ad3b2dfe01c37d26802377a5a358685a837641269c92dc82", func := "strandline/strandlinelaw05.MatchTells", spec := "matchTells", unfollowed := true, recurses := true, apart := false }
def MatchTellsSaid : Prop := matchTellsRow.holds Try.pinned (OpenSpec.ofChange matchTellsSpec)

/-- ITS FALSE NEIGHBOUR: 'it returns false'. Refute it at one input. -/
def matchTellsWrong : ChangeSpec := { name := "matchTells", fn := fun _ => fun
  | [d1, d2] => { results := [.lit (.bool false)], args := [d1, d2] }
  | _ => none }
def MatchTellsWrongFalsely : Prop := matchTellsRow.holds Try.pinned (OpenSpec.ofChange matchTellsWrong)

/-- 'strandlinelaw04.LabelOne': WHATEVER THE INPUT: true; the input reads as it did. -/
def labelOneSpec : ChangeSpec := { name := "labelOne", fn := fun _ => fun
  | [d1, d2] => { results := [.lit (.bool true)], args := [d1, d2] }
  | _ => none }
def labelOneRow : OpenClaim := { program := "ytamdkmcdleilpaa", sum := "e294bed18936d9a8ad3b2dfe01c37d26802377a5a358685a837641269c92dc82", func := "strandline/strandlinelaw04.LabelOne", spec := "labelOne", inPlace := ["internal/abi.NoEscape", "internal/bytealg.MakeNoZero"], apart := false }
def LabelOneSaid : Prop := labelOneRow.holds Try.pinned (OpenSpec.ofChange labelOneSpec)

/-- ITS FALSE NEIGHBOUR: 'it returns false'. Refute it at one input. -/
def labelOneWrong : ChangeSpec := { name := "labelOne", fn := fun _ => fun
  | [d1, d2] => { results := [.lit (.bool false)], args := [d1, d2] }
  | _ => none }
def LabelOneWrongFalsely : Prop := labelOneRow.holds Try.pinned (OpenSpec.ofChange labelOneWrong)

/-- 'strandlinelaw04.LabelApart': WHATEVER THE INPUT: true; the input reads as it did. -/
def labelApartSpec : ChangeSpec := { name := "labelApart", fn := fun _ => fun
  | [d1, d2] => { results := [.lit (.bool true)], args := [d1, d2] }
  | _ => none }
def labelApartRow : OpenClaim := { program := "ytamdkmcdleilpaa", sum := "e294bed18936d9a8ad3b2dfe01c37d26802377a5a358685a837641269c92dc82", func := "strandline/strandlinelaw04.LabelApart", spec := "labelApart", inPlace := ["internal/abi.NoEscape", "internal/bytealg.MakeNoZero"], apart := false }
def LabelApartSaid : Prop := labelApartRow.holds Try.pinned (OpenSpec.ofChange labelApartSpec)

/-- ITS FALSE NEIGHBOUR: 'it returns false'. Refute it at one input. -/
def labelApartWrong : ChangeSpec := { name := "labelApart", fn := fun _ => fun
  | [d1, d2] => { results := [.lit (.bool false)], args := [d1, d2] }
  | _ => none }
def LabelApartWrongFalsely : Prop := labelApartRow.holds Try.pinned (OpenSpec.ofChange labelApartWrong)

/-- 'strandlinelaw04.LabelSorts': WHATEVER THE INPUT: true; the input reads as it did. -/
def labelSortsSpec : ChangeSpec := { name := "labelSorts", fn := fun _ => fun
  | [d1, d2] => { results := [.lit (.bool true)], args := [d1, d2] }
  | _ => none }
def labelSortsRow : OpenClaim := { program := "ytamdkmcdleilpaa", sum := "e294bed18936d9a8ad3b2dfe01c37d26802377a5a358685a837641269c92dc82", func := "strandline/strandlinelaw04.LabelSorts", spec := "labelSorts", unfollowed := true, recurses := true, apart := false }
def LabelSortsSaid : Prop := labelSortsRow.holds Try.pinned (OpenSpec.ofChange labelSortsSpec)

/-- ITS FALSE NEIGHBOUR: 'it returns false'. Refute it at one input. -/
def labelSortsWrong : ChangeSpec := { name := "labelSorts", fn := fun _ => fun
  | [d1, d2] => { results := [.lit (.bool false)], args := [d1, d2] }
  | _ => none }
def LabelSortsWrongFalsely : Prop := labelSortsRow.holds Try.pinned (OpenSpec.ofChange labelSortsWrong)

/-- 'strandlinelaw04.LabelParses': WHATEVER THE INPUT: true; the input reads as it did. -/
def labelParsesSpec : ChangeSpec := { name := "labelParses", fn := fun _ => fun
  | [d] => { results := [.lit (.bool true)], args := [d] }
  | _ => none }
def labelParsesRow : OpenClaim := { program := "ytamdkmcdleilpaa", sum := "e294bed18936d9a8ad3b2dfe01c37d26802377a5a358685a837641269c92dc82", func := "strandline/strandlinelaw04.LabelParses", spec := "labelParses", inPlace := ["internal/bytealg.IndexByteString", "internal/bytealg.IndexString", "internal/abi.NoEscape", "internal/bytealg.MakeNoZero"], named := ["internal/bytealg.MaxLen"], apart := false }
def LabelParsesSaid : Prop := labelParsesRow.holds Try.pinned (OpenSpec.ofChange labelParsesSpec)

/-- ITS FALSE NEIGHBOUR: 'it returns false'. Refute it at one input. -/
def labelParsesWrong : ChangeSpec := { name := "labelParses", fn := fun _ => fun
  | [d] => { results := [.lit (.bool false)], args := [d] }
  | _ => none }
def LabelParsesWrongFalsely : Prop := labelParsesRow.holds Try.pinned (OpenSpec.ofChange labelParsesWrong)

/-- 'strandlinelaw04.LabelPrints': WHATEVER THE INPUT: true; the input reads as it did. -/
def labelPrintsSpec : ChangeSpec := { name := "labelPrints", fn := fun _ => fun
  | [d] => { results := [.lit (.bool true)], args := [d] }
  | _ => none }
def labelPrintsRow : OpenClaim := { program := "ytamdkmcdleilpaa", sum := "e294bed18936d9a8ad3b2dfe01c37d26802377a5a358685a837641269c92dc82", func := "strandline/strandlinelaw04.LabelPrints", spec := "labelPrints", inPlace := ["internal/abi.NoEscape", "internal/bytealg.MakeNoZero", "internal/bytealg.IndexByteString", "internal/bytealg.IndexString"], named := ["internal/bytealg.MaxLen"], apart := false }
def LabelPrintsSaid : Prop := labelPrintsRow.holds Try.pinned (OpenSpec.ofChange labelPrintsSpec)

/-- ITS FALSE NEIGHBOUR: 'it returns false'. Refute it at one input. -/
def labelPrintsWrong : ChangeSpec := { name := "labelPrints", fn := fun _ => fun
  | [d] => { results := [.lit (.bool false)], args := [d] }
  | _ => none }
def LabelPrintsWrongFalsely : Prop := labelPrintsRow.holds Try.pinned (OpenSpec.ofChange labelPrintsWrong)

/-- 'strandlinelaw05.MatchPrints': WHATEVER THE INPUT: true; the input reads as it did. -/
def matchPrintsSpec : ChangeSpec := { name := "matchPrints", fn := fun _ => fun
  | [d] => { results := [.lit (.bool true)], args := [d] }
  | _ => none }
def matchPrintsRow : OpenClaim := { program := "ytamdkmcdleilpaa", sum := "e294bed18936d9a8ad3b2dfe01c37d26802377a5a358685a837641269c92dc82", func := "strandline/strandlinelaw05.MatchPrints", spec := "matchPrints", inPlace := ["internal/abi.NoEscape", "internal/bytealg.MakeNoZero", "internal/bytealg.IndexByteString", "internal/bytealg.IndexString"], named := ["internal/bytealg.MaxLen"], apart := false }
def MatchPrintsSaid : Prop := matchPrintsRow.holds Try.pinned (OpenSpec.ofChange matchPrintsSpec)

/-- ITS FALSE NEIGHBOUR: 'it returns false'. Refute it at one input. -/
def matchPrintsWrong : ChangeSpec := { name := "matchPrints", fn := fun _ => fun
  | [d] => { results := [.lit (.bool false)], args := [d] }
  | _ => none }
def MatchPrintsWrongFalsely : Prop := matchPrintsRow.holds Try.pinned (OpenSpec.ofChange matchPrintsWrong)

/-- 'strandlinelaw05.MatchParses': WHATEVER THE INPUT: true; the input reads as it did. -/
def matchParsesSpec : ChangeSpec := { name := "matchParses", fn := fun _ => fun
  | [d] => { results := [.lit (.bool true)], args := [d] }
  | _ => none }
def matchParsesRow : OpenClaim := { program := "ytamdkmcdleilpaa", sum := "e294bed18936d9a8ad3b2dfe01c37d26802377a5a358685a837641269c92dc82", func := "strandline/strandlinelaw05.MatchParses", spec := "matchParses", inPlace := ["internal/bytealg.IndexByteString", "internal/bytealg.IndexString", "internal/abi.NoEscape", "internal/bytealg.MakeNoZero"], named := ["internal/bytealg.MaxLen"], apart := false }
def MatchParsesSaid : Prop := matchParsesRow.holds Try.pinned (OpenSpec.ofChange matchParsesSpec)

/-- ITS FALSE NEIGHBOUR: 'it returns false'. Refute it at one input. -/
def matchParsesWrong : ChangeSpec := { name := "matchParses", fn := fun _ => fun
  | [d] => { results := [.lit (.bool false)], args := [d] }
  | _ => none }
def MatchParsesWrongFalsely : Prop := matchParsesRow.holds Try.pinned (OpenSpec.ofChange matchParsesWrong)

/- THE SECOND FORM. 'bulk': how many values and letters a reading holds, each counted each time it is reached (what is shared counts as often as it is met; a slice's spare places count too). A statement '..UptoSaid' is the law's where the arguments, and the package variables that the reading takes, are together of bulk at most 1048576: NARROWER than '..Said'. Prove '..Said' where nothing that the law and all that it calls make is longer than what came in: it says more and counts as full. Else prove '..UptoSaid'. A law counts once. -/
mutual
def uptoBulk {H : Type} : DataW H → Nat
  | .lit (.string bytes) => bytes.length + 1
  | .lit _ => 1
  | .nil => 1
  | .ptr d => uptoBulk d + 1
  | .slice elems spare => uptoBulkAll elems + uptoBulkAll spare + 1
  | .agg parts => uptoBulkAll parts + 1
  | .iface _ d => uptoBulk d + 1
  | .map entries => uptoBulkEntries entries + 1
  | .held _ => 1
def uptoBulkAll {H : Type} : List (DataW H) → Nat
  | [] => 0
  | d :: r => uptoBulk d + uptoBulkAll r
def uptoBulkEntries {H : Type} : List (Lit × DataW H) → Nat
  | [] => 0
  | x :: r => uptoBulkEntry x + uptoBulkEntries r
def uptoBulkEntry {H : Type} : Lit × DataW H → Nat
  | (.string bytes, d) => bytes.length + uptoBulk d + 1
  | (_, d) => uptoBulk d + 1
 end
def uptoSmall : (H : Type) → List (DataW H) → Bool := fun _ ds => decide (uptoBulkAll ds ≤ 1048576)
def OpenSpec.upto (s : _root_.Go.ChangeSpec) : _root_.Go.OpenSpec := { _root_.Go.OpenSpec.ofChange s with cond := some uptoSmall }

/-- 'strandlinelaw05.MatchApart', WHERE WHAT IT READS IS OF BULK AT MOST 1048576: true; the input reads as it did. -/
def matchApartUptoRow : OpenClaim := { program := "ytamdkmcdleilpaa", sum := "e294bed18936d9a8ad3b2dfe01c37d26802377a5a358685a837641269c92dc82", func := "strandline/strandlinelaw05.MatchApart", spec := "matchApart", unfollowed := true, recurses := true, apart := false, narrowed := true }
def MatchApartUptoSaid : Prop := matchApartUptoRow.holds Try.pinned (OpenSpec.upto matchApartSpec)

/-- 'strandlinelaw05.MatchBegins', WHERE WHAT IT READS IS OF BULK AT MOST 1048576: true; the input reads as it did. -/
def matchBeginsUptoRow : OpenClaim := { program := "ytamdkmcdleilpaa", sum := "e294bed18936d9a8ad3b2dfe01c37d26802377a5a358685a837641269c92dc82", func := "strandline/strandlinelaw05.MatchBegins", spec := "matchBegins", unfollowed := true, recurses := true, apart := false, narrowed := true }
def MatchBeginsUptoSaid : Prop := matchBeginsUptoRow.holds Try.pinned (OpenSpec.upto matchBeginsSpec)

/-- 'strandlinelaw04.LabelQuotes', WHERE WHAT IT READS IS OF BULK AT MOST 1048576: true; the input reads as it did. -/
def labelQuotesUptoRow : OpenClaim := { program := "ytamdkmcdleilpaa", sum := "e294bed18936d9a8ad3b2dfe01c37d26802377a5a358685a837641269c92dc82", func := "strandline/strandlinelaw04.LabelQuotes", spec := "labelQuotes", inPlace := ["internal/abi.NoEscape"], apart := false, narrowed := true }
def LabelQuotesUptoSaid : Prop := labelQuotesUptoRow.holds Try.pinned (OpenSpec.upto labelQuotesSpec)

/-- 'strandlinelaw05.MatchSets', WHERE WHAT IT READS IS OF BULK AT MOST 1048576: true; the input reads as it did. -/
def matchSetsUptoRow : OpenClaim := { program := "ytamdkmcdleilpaa", sum := "e294bed18936d9a8ad3b2dfe01c37d26802377a5a358685a837641269c92dc82", func := "strandline/strandlinelaw05.MatchSets", spec := "matchSets", unfollowed := true, recurses := true, apart := false, narrowed := true }
def MatchSetsUptoSaid : Prop := matchSetsUptoRow.holds Try.pinned (OpenSpec.upto matchSetsSpec)

/-- 'strandlinelaw04.LabelNames', WHERE WHAT IT READS IS OF BULK AT MOST 1048576: true; the input reads as it did. -/
def labelNamesUptoRow : OpenClaim := { program := "ytamdkmcdleilpaa", sum := "e294bed18936d9a8ad3b2dfe01c37d26802377a5a358685a837641269c92dc82", func := "strandline/strandlinelaw04.LabelNames", spec := "labelNames", inPlace := ["internal/abi.NoEscape"], apart := false, narrowed := true }
def LabelNamesUptoSaid : Prop := labelNamesUptoRow.holds Try.pinned (OpenSpec.upto labelNamesSpec)

/-- 'strandlinelaw05.MatchTells', WHERE WHAT IT READS IS OF BULK AT MOST 1048576: true; the input reads as it did. -/
def matchTellsUptoRow : OpenClaim := { program := "ytamdkmcdleilpaa", sum := "e294bed18936d9a8ad3b2dfe01c37d26802377a5a358685a837641269c92dc82", func := "strandline/strandlinelaw05.MatchTells", spec := "matchTells", unfollowed := true, recurses := true, apart := false, narrowed := true }
def MatchTellsUptoSaid : Prop := matchTellsUptoRow.holds Try.pinned (OpenSpec.upto matchTellsSpec)

/-- 'strandlinelaw04.LabelOne', WHERE WHAT IT READS IS OF BULK AT MOST 1048576: true; the input reads as it did. -/
def labelOneUptoRow : OpenClaim := { program := "ytamdkmcdleilpaa", sum := "e294bed18936d9a8ad3b2dfe01c37d26802377a5a358685a837641269c92dc82", func := "strandline/strandlinelaw04.LabelOne", spec := "labelOne", inPlace := ["internal/abi.NoEscape", "internal/bytealg.MakeNoZero"], apart := false, narrowed := true }
def LabelOneUptoSaid : Prop := labelOneUptoRow.holds Try.pinned (OpenSpec.upto labelOneSpec)

/-- 'strandlinelaw04.LabelApart', WHERE WHAT IT READS IS OF BULK AT MOST 1048576: true; the input reads as it did. -/
def labelApartUptoRow : OpenClaim := { program := "ytamdkmcdleilpaa", sum := "e294bed18936d9a8ad3b2dfe01c37d26802377a5a358685a837641269c92dc82", func := "strandline/strandlinelaw04.LabelApart", spec := "labelApart", inPlace := ["internal/abi.NoEscape", "internal/bytealg.MakeNoZero"], apart := false, narrowed := true }
def LabelApartUptoSaid : Prop := labelApartUptoRow.holds Try.pinned (OpenSpec.upto labelApartSpec)

/-- 'strandlinelaw04.LabelSorts', WHERE WHAT IT READS IS OF BULK AT MOST 1048576: true; the input reads as it did. -/
def labelSortsUptoRow : OpenClaim := { program := "ytamdkmcdleilpaa", sum := "e294bed18936d9a8ad3b2dfe01c37d26802377a5a358685a837641269c92dc82", func := "strandline/strandlinelaw04.LabelSorts", spec := "labelSorts", unfollowed := true, recurses := true, apart := false, narrowed := true }
def LabelSortsUptoSaid : Prop := labelSortsUptoRow.holds Try.pinned (OpenSpec.upto labelSortsSpec)

/-- 'strandlinelaw04.LabelParses', WHERE WHAT IT READS IS OF BULK AT MOST 1048576: true; the input reads as it did. -/
def labelParsesUptoRow : OpenClaim := { program := "ytamdkmcdleilpaa", sum := "e294bed18936d9a8ad3b2dfe01c37d26802377a5a358685a837641269c92dc82", func := "strandline/strandlinelaw04.LabelParses", spec := "labelParses", inPlace := ["internal/bytealg.IndexByteString", "internal/bytealg.IndexString", "internal/abi.NoEscape", "internal/bytealg.MakeNoZero"], named := ["internal/bytealg.MaxLen"], apart := false, narrowed := true }
def LabelParsesUptoSaid : Prop := labelParsesUptoRow.holds Try.pinned (OpenSpec.upto labelParsesSpec)

/-- 'strandlinelaw04.LabelPrints', WHERE WHAT IT READS IS OF BULK AT MOST 1048576: true; the input reads as it did. -/
def labelPrintsUptoRow : OpenClaim := { program := "ytamdkmcdleilpaa", sum := "e294bed18936d9a8ad3b2dfe01c37d26802377a5a358685a837641269c92dc82", func := "strandline/strandlinelaw04.LabelPrints", spec := "labelPrints", inPlace := ["internal/abi.NoEscape", "internal/bytealg.MakeNoZero", "internal/bytealg.IndexByteString", "internal/bytealg.IndexString"], named := ["internal/bytealg.MaxLen"], apart := false, narrowed := true }
def LabelPrintsUptoSaid : Prop := labelPrintsUptoRow.holds Try.pinned (OpenSpec.upto labelPrintsSpec)

/-- 'strandlinelaw05.MatchPrints', WHERE WHAT IT READS IS OF BULK AT MOST 1048576: true; the input reads as it did. -/
def matchPrintsUptoRow : OpenClaim := { program := "ytamdkmcdleilpaa", sum := "e294bed18936d9a8ad3b2dfe01c37d26802377a5a358685a837641269c92dc82", func := "strandline/strandlinelaw05.MatchPrints", spec := "matchPrints", inPlace := ["internal/abi.NoEscape", "internal/bytealg.MakeNoZero", "internal/bytealg.IndexByteString", "internal/bytealg.IndexString"], named := ["internal/bytealg.MaxLen"], apart := false, narrowed := true }
def MatchPrintsUptoSaid : Prop := matchPrintsUptoRow.holds Try.pinned (OpenSpec.upto matchPrintsSpec)

/-- 'strandlinelaw05.MatchParses', WHERE WHAT IT READS IS OF BULK AT MOST 1048576: true; the input reads as it did. -/
def matchParsesUptoRow : OpenClaim := { program := "ytamdkmcdleilpaa", sum := "e294bed18936d9a8ad3b2dfe01c37d26802377a5a358685a837641269c92dc82", func := "strandline/strandlinelaw05.MatchParses", spec := "matchParses", inPlace := ["internal/bytealg.IndexByteString", "internal/bytealg.IndexString", "internal/abi.NoEscape", "internal/bytealg.MakeNoZero"], named := ["internal/bytealg.MaxLen"], apart := false, narrowed := true }
def MatchParsesUptoSaid : Prop := matchParsesUptoRow.holds Try.pinned (OpenSpec.upto matchParsesSpec)

end Rows
end Go.Proofs.Ytamdkmcdleilpaa
