/-
  DERIVED. GIVEN WITH THE SEED: THE CARDS: each row of YtceifhkkjiojjaaGreatDoorRows.lean that lists a variable, with what it lists TIED to the program's text (the seventh form; the later family's looks); each row that meets fmt, with fmt's text TOLD by the authors' own Lean function (tested against real Go, not proved from fmt's source: count such statements apart). THE CARD IS WHAT COUNTS. Prove the row's statement (the work); the ties are given (YtceifhkkjiojjaaGreatDoorTie.lean); close each card by the builder's one call (the guide's Derived/Test/ToyasCard.lean, 'card_holds'). Laid BY PROGRAM, IN A SANDBOX (cutbox-door.mjs). By AI agents, Wed Nov 11 2026. No macro, syntax, notation, axiom, sorry.
-/
import Derived.Test.YtceifhkkjiojjaaGreatDoorRows
import GoSem.ClaimSeven
namespace Go.Proofs.YtceifhkkjiojjaaGreatDoor
namespace Rows

/-- THE TIED CARD OF 'counterpanelaw39.MineNil'. -/
def mineNilCard : Claim7 := { stood := { row := mineNilRow, standIns := [], harness := (true, "844aaf35e7e1c165a617df45fd73c74925e013683e40e36dfb7c9021e7d61e06"), looks := true }, kinds := [], alts := [], laidByText := true, laidKinds := [.data, .data, .data, .data, .data, .pinned], laidTests := true, laidLooks := .later }
def MineNilCardSaid : Prop := Claim7.holds Tryz.pinned (.plain (OpenSpec.ofChange mineNilSpec)) mineNilCard

/-- THE SECOND FORM's CARD OF 'counterpanelaw39.MineNil'. -/
def mineNilUptoCard : Claim7 := { stood := { row := mineNilUptoRow, standIns := [], harness := (true, "844aaf35e7e1c165a617df45fd73c74925e013683e40e36dfb7c9021e7d61e06"), looks := true }, kinds := [], alts := [], laidByText := true, laidKinds := [.data, .data, .data, .data, .data, .pinned], laidTests := true, laidLooks := .later }
def MineNilUptoCardSaid : Prop := Claim7.holds Tryz.pinned (.plain (OpenSpec.upto mineNilSpec)) mineNilUptoCard
end Rows
end Go.Proofs.YtceifhkkjiojjaaGreatDoor
