/-
  DERIVED. GIVEN WITH THE SEED: THE CARDS: each row of YtcnfmcbmephdfaaGreatDoorRows.lean that lists a variable, with what it lists TIED to the program's text (the seventh form; the later family's looks); each row that meets fmt, with fmt's text TOLD by the authors' own Lean function (tested against real Go, not proved from fmt's source: count such statements apart). THE CARD IS WHAT COUNTS. Prove the row's statement (the work); the ties are given (YtcnfmcbmephdfaaGreatDoorTie.lean); close each card by the builder's one call (the guide's Derived/Test/ToyasCard.lean, 'card_holds'). Laid BY PROGRAM, IN A SANDBOX (cutbox-door.mjs). By AI agents, Wed Nov 11 2026. No macro, syntax, notation, axiom, sorry.
-/
import Derived.Test.YtcnfmcbmephdfaaGreatDoorRows
import GoSem.ClaimSeven
namespace Go.Proofs.YtcnfmcbmephdfaaGreatDoor
namespace Rows

/-- THE TIED CARD OF 'counterpanelaw39.MinePassed'. -/
def minePassedCard : Claim7 := { stood := { row := minePassedRow, standIns := [], harness := (true, "305b5582370c5bdd1d241fcad1fbf6d2745fb657e34171f9288c1f3c33b6ad57"), looks := true }, kinds := [], alts := [], laidByText := true, laidKinds := [.data, .data, .data, .data, .data, .pinned], laidTests := true, laidLooks := .later }
def MinePassedCardSaid : Prop := Claim7.holds Tryz.pinned (.plain (OpenSpec.ofChange minePassedSpec)) minePassedCard

/-- THE SECOND FORM's CARD OF 'counterpanelaw39.MinePassed'. -/
def minePassedUptoCard : Claim7 := { stood := { row := minePassedUptoRow, standIns := [], harness := (true, "305b5582370c5bdd1d241fcad1fbf6d2745fb657e34171f9288c1f3c33b6ad57"), looks := true }, kinds := [], alts := [], laidByText := true, laidKinds := [.data, .data, .data, .data, .data, .pinned], laidTests := true, laidLooks := .later }
def MinePassedUptoCardSaid : Prop := Claim7.holds Tryz.pinned (.plain (OpenSpec.upto minePassedSpec)) minePassedUptoCard
end Rows
end Go.Proofs.YtcnfmcbmephdfaaGreatDoor
