/-
  DERIVED. GIVEN WITH THE SEED: THE CARDS: each row of YtheenlomlmbjaaaGreatDoorRows.lean that lists a variable, with what it lists TIED to the program's text (the seventh form; the later family's looks); each row that meets fmt, with fmt's text TOLD by the authors' own Lean function (tested against real Go, not proved from fmt's source: count such statements apart). THE CARD IS WHAT COUNTS. Prove the row's statement (the work); the ties are given (YtheenlomlmbjaaaGreatDoorTie.lean); close each card by the builder's one call (the guide's Derived/Test/ToyasCard.lean, 'card_holds'). Laid BY PROGRAM, IN A SANDBOX (cutbox-door.mjs). By AI agents, Wed Nov 11 2026. No macro, syntax, notation, axiom, sorry.
-/
import Derived.Test.YtheenlomlmbjaaaGreatDoorRows
import GoSem.ClaimSeven
namespace Go.Proofs.YtheenlomlmbjaaaGreatDoor
namespace Rows

/-- THE TIED CARD OF 'strandlinetop.TopFinds'. -/
def topFindsCard : Claim7 := { stood := { row := topFindsRow, standIns := [], harness := (true, "5b3a04c87ff43883ba1681421728b8d540117bca1162d55509f7e8fb76156972"), looks := true }, kinds := [], alts := [], laidByText := true, laidKinds := [.data, .data, .data, .data, .sentinel, .sentinel], laidTests := true, laidLooks := .later }
def TopFindsCardSaid : Prop := Claim7.holds Tryz.pinned (.plain (OpenSpec.ofChange topFindsSpec)) topFindsCard

/-- THE SECOND FORM's CARD OF 'strandlinetop.TopFinds'. -/
def topFindsUptoCard : Claim7 := { stood := { row := topFindsUptoRow, standIns := [], harness := (true, "5b3a04c87ff43883ba1681421728b8d540117bca1162d55509f7e8fb76156972"), looks := true }, kinds := [], alts := [], laidByText := true, laidKinds := [.data, .data, .data, .data, .sentinel, .sentinel], laidTests := true, laidLooks := .later }
def TopFindsUptoCardSaid : Prop := Claim7.holds Tryz.pinned (.plain (OpenSpec.upto topFindsSpec)) topFindsUptoCard
end Rows
end Go.Proofs.YtheenlomlmbjaaaGreatDoor
