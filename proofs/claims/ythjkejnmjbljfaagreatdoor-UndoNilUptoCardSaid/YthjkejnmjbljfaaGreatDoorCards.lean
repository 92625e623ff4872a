/-
  DERIVED. GIVEN WITH THE SEED: THE CARDS: each row of YthjkejnmjbljfaaGreatDoorRows.lean that lists a variable, with what it lists TIED to the program's text (the seventh form; the later family's looks); each row that meets fmt, with fmt's text TOLD by the authors' own Lean function (tested against real Go, not proved from fmt's source: count such statements apart). THE CARD IS WHAT COUNTS. Prove the row's statement (the work); the ties are given (YthjkejnmjbljfaaGreatDoorTie.lean); close each card by the builder's one call (the guide's Derived/Test/ToyasCard.lean, 'card_holds'). Laid BY PROGRAM, IN A SANDBOX (cutbox-door.mjs). By AI agents, Wed Nov 11 2026. No macro, syntax, notation, axiom, sorry.
-/
import Derived.Test.YthjkejnmjbljfaaGreatDoorRows
import GoSem.ClaimSeven
namespace Go.Proofs.YthjkejnmjbljfaaGreatDoor
namespace Rows

/-- THE TIED CARD OF 'counterpanelaw29.UndoNil'. -/
def undoNilCard : Claim7 := { stood := { row := undoNilRow, standIns := [], harness := (true, "83c81db59ae20ee1ec3ab78f4b33b42490c550c0bec5fb0cb8689f4ab47d9020"), looks := false }, kinds := [], alts := [], laidByText := true, laidKinds := [.data, .data, .data, .data, .data, .pinned], laidTests := true, laidLooks := .later }
def UndoNilCardSaid : Prop := Claim7.holds Tryz.pinned (.plain (OpenSpec.ofChange undoNilSpec)) undoNilCard

/-- THE SECOND FORM's CARD OF 'counterpanelaw29.UndoNil'. -/
def undoNilUptoCard : Claim7 := { stood := { row := undoNilUptoRow, standIns := [], harness := (true, "83c81db59ae20ee1ec3ab78f4b33b42490c550c0bec5fb0cb8689f4ab47d9020"), looks := false }, kinds := [], alts := [], laidByText := true, laidKinds := [.data, .data, .data, .data, .data, .pinned], laidTests := true, laidLooks := .later }
def UndoNilUptoCardSaid : Prop := Claim7.holds Tryz.pinned (.plain (OpenSpec.upto undoNilSpec)) undoNilUptoCard
end Rows
end Go.Proofs.YthjkejnmjbljfaaGreatDoor
