/-
  DERIVED. GIVEN WITH THE SEED: THE CARDS: each row of YtjilmneaeocimaaGreatDoorRows.lean that lists a variable, with what it lists TIED to the program's text (the seventh form; the later family's looks); each row that meets fmt, with fmt's text TOLD by the authors' own Lean function (tested against real Go, not proved from fmt's source: count such statements apart). THE CARD IS WHAT COUNTS. Prove the row's statement (the work); the ties are given (YtjilmneaeocimaaGreatDoorTie.lean); close each card by the builder's one call (the guide's Derived/Test/ToyasCard.lean, 'card_holds'). Laid BY PROGRAM, IN A SANDBOX (cutbox-door.mjs). By AI agents, Wed Nov 11 2026. No macro, syntax, notation, axiom, sorry.
-/
import Derived.Test.YtjilmneaeocimaaGreatDoorRows
import GoSem.ClaimSeven
namespace Go.Proofs.YtjilmneaeocimaaGreatDoor
namespace Rows

/-- THE TIED CARD OF 'counterpanelaw40.SnapStable'. -/
def snapStableCard : Claim7 := { stood := { row := snapStableRow, standIns := [], harness := (true, "34c8095cf6b19c580fe3a9672c00adf8548a4daea5c7c8bde5d9eb079e4fb555"), looks := true }, kinds := [], alts := [], laidByText := true, laidKinds := [.data, .data, .data], laidTests := true, laidLooks := .later }
def SnapStableCardSaid : Prop := Claim7.holds Tryz.pinned (.plain (OpenSpec.ofChange snapStableSpec)) snapStableCard

/-- THE TIED CARD OF 'counterpanelaw40.SnapLeast'. -/
def snapLeastCard : Claim7 := { stood := { row := snapLeastRow, standIns := [], harness := (true, "34c8095cf6b19c580fe3a9672c00adf8548a4daea5c7c8bde5d9eb079e4fb555"), looks := true }, kinds := [], alts := [], laidByText := true, laidKinds := [.data, .data, .data], laidTests := true, laidLooks := .later }
def SnapLeastCardSaid : Prop := Claim7.holds Tryz.pinned (.plain (OpenSpec.ofChange snapLeastSpec)) snapLeastCard

/-- THE SECOND FORM's CARD OF 'counterpanelaw40.SnapStable'. -/
def snapStableUptoCard : Claim7 := { stood := { row := snapStableUptoRow, standIns := [], harness := (true, "34c8095cf6b19c580fe3a9672c00adf8548a4daea5c7c8bde5d9eb079e4fb555"), looks := true }, kinds := [], alts := [], laidByText := true, laidKinds := [.data, .data, .data], laidTests := true, laidLooks := .later }
def SnapStableUptoCardSaid : Prop := Claim7.holds Tryz.pinned (.plain (OpenSpec.upto snapStableSpec)) snapStableUptoCard

/-- THE SECOND FORM's CARD OF 'counterpanelaw40.SnapLeast'. -/
def snapLeastUptoCard : Claim7 := { stood := { row := snapLeastUptoRow, standIns := [], harness := (true, "34c8095cf6b19c580fe3a9672c00adf8548a4daea5c7c8bde5d9eb079e4fb555"), looks := true }, kinds := [], alts := [], laidByText := true, laidKinds := [.data, .data, .data], laidTests := true, laidLooks := .later }
def SnapLeastUptoCardSaid : Prop := Claim7.holds Tryz.pinned (.plain (OpenSpec.upto snapLeastSpec)) snapLeastUptoCard
end Rows
end Go.Proofs.YtjilmneaeocimaaGreatDoor
