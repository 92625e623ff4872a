/-
  DERIVED. GIVEN WITH THE SEED: THE CARDS: each row of YtogagnopkkiniaaGreatDoorRows.lean that lists a variable, with what it lists TIED to the program's text (the seventh form; the later family's looks); each row that meets fmt, with fmt's text TOLD by the authors' own Lean function (tested against real Go, not proved from fmt's source: count such statements apart). THE CARD IS WHAT COUNTS. Prove the row's statement (the work); the ties are given (YtogagnopkkiniaaGreatDoorTie.lean); close each card by the builder's one call (the guide's Derived/Test/ToyasCard.lean, 'card_holds'). Laid BY PROGRAM, IN A SANDBOX (cutbox-door.mjs). By AI agents, Wed Nov 11 2026. No macro, syntax, notation, axiom, sorry.
-/
import Derived.Test.YtogagnopkkiniaaGreatDoorRows
import GoSem.ClaimSeven
namespace Go.Proofs.YtogagnopkkiniaaGreatDoor
namespace Rows

/-- THE TIED CARD OF 'counterpanelaw39.MineTwice'. -/
def mineTwiceCard : Claim7 := { stood := { row := mineTwiceRow, standIns := [], harness := (true, "85611dfd4455ae152ab46650b5b84e7fe71e0bb3d007f8d6e5a6031f4e1ad563"), looks := true }, kinds := [], alts := [], laidByText := true, laidKinds := [.data, .data, .data, .data, .data, .pinned], laidTests := true, laidLooks := .later }
def MineTwiceCardSaid : Prop := Claim7.holds Tryz.pinned (.plain (OpenSpec.ofChange mineTwiceSpec)) mineTwiceCard

/-- THE SECOND FORM's CARD OF 'counterpanelaw39.MineTwice'. -/
def mineTwiceUptoCard : Claim7 := { stood := { row := mineTwiceUptoRow, standIns := [], harness := (true, "85611dfd4455ae152ab46650b5b84e7fe71e0bb3d007f8d6e5a6031f4e1ad563"), looks := true }, kinds := [], alts := [], laidByText := true, laidKinds := [.data, .data, .data, .data, .data, .pinned], laidTests := true, laidLooks := .later }
def MineTwiceUptoCardSaid : Prop := Claim7.holds Tryz.pinned (.plain (OpenSpec.upto mineTwiceSpec)) mineTwiceUptoCard
end Rows
end Go.Proofs.YtogagnopkkiniaaGreatDoor
