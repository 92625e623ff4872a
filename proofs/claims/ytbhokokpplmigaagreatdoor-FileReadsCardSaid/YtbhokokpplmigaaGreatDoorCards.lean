/-
  DERIVED. GIVEN WITH THE SEED: THE CARDS: each row of YtbhokokpplmigaaGreatDoorRows.lean that lists a variable, with what it lists TIED to the program's text (the seventh form; the later family's looks); each row that meets fmt, with fmt's text TOLD by the authors' own Lean function (tested against real Go, not proved from fmt's source: count such statements apart). THE CARD IS WHAT COUNTS. Prove the row's statement (the work); the ties are given (YtbhokokpplmigaaGreatDoorTie.lean); close each card by the builder's one call (the guide's Derived/Test/ToyasCard.lean, 'card_holds'). Laid BY PROGRAM, IN A SANDBOX (cutbox-door.mjs). By AI agents, Wed Nov 11 2026. No macro, syntax, notation, axiom, sorry.
-/
import Derived.Test.YtbhokokpplmigaaGreatDoorRows
import GoSem.ClaimSeven
namespace Go.Proofs.YtbhokokpplmigaaGreatDoor
namespace Rows

/-- THE TIED CARD OF 'counterpanelaw33.FileReads'. -/
def fileReadsCard : Claim7 := { stood := { row := fileReadsRow, standIns := [], harness := (true, "2446fc1ca8a11698011e8af2439ab6ebc62fabb256930d4d724ec19fb13fbe18"), looks := true }, kinds := [], alts := [], laidByText := true, laidKinds := [.data, .data, .data, .data, .sentinel, .sentinel, .data, .pinned], laidTests := true, laidLooks := .later }
def FileReadsCardSaid : Prop := Claim7.holds Tryz.pinned (.plain (OpenSpec.ofChange fileReadsSpec)) fileReadsCard

/-- THE SECOND FORM's CARD OF 'counterpanelaw33.FileReads'. -/
def fileReadsUptoCard : Claim7 := { stood := { row := fileReadsUptoRow, standIns := [], harness := (true, "2446fc1ca8a11698011e8af2439ab6ebc62fabb256930d4d724ec19fb13fbe18"), looks := true }, kinds := [], alts := [], laidByText := true, laidKinds := [.data, .data, .data, .data, .sentinel, .sentinel, .data, .pinned], laidTests := true, laidLooks := .later }
def FileReadsUptoCardSaid : Prop := Claim7.holds Tryz.pinned (.plain (OpenSpec.upto fileReadsSpec)) fileReadsUptoCard
end Rows
end Go.Proofs.YtbhokokpplmigaaGreatDoor
