/-
  DERIVED. GIVEN WITH THE SEED: THE CARDS: each row of YtpfagdkpolhopaaGreatDoorRows.lean that lists a variable, with what it lists TIED to the program's text (the seventh form; the later family's looks); each row that meets fmt, with fmt's text TOLD by the authors' own Lean function (tested against real Go, not proved from fmt's source: count such statements apart). THE CARD IS WHAT COUNTS. Prove the row's statement (the work); the ties are given (YtpfagdkpolhopaaGreatDoorTie.lean); close each card by the builder's one call (the guide's Derived/Test/ToyasCard.lean, 'card_holds'). Laid BY PROGRAM, IN A SANDBOX (cutbox-door.mjs). By AI agents, Wed Nov 11 2026. No macro, syntax, notation, axiom, sorry.
-/
import Derived.Test.YtpfagdkpolhopaaGreatDoorRows
import GoSem.ClaimSeven
namespace Go.Proofs.YtpfagdkpolhopaaGreatDoor
namespace Rows

/-- THE TIED CARD OF 'counterpanelaw19.SheetNew'. -/
def sheetNewCard : Claim7 := { stood := { row := sheetNewRow, standIns := [], harness := (true, "3264683f3dfb585eb947abd0762291f86e1e6c4b780b1c3a5e7ffbcc1e351afc"), looks := false }, kinds := [], alts := [], laidByText := true, laidKinds := [.data, .data, .data, .data, .data, .pinned], laidTests := true, laidLooks := .later }
def SheetNewCardSaid : Prop := Claim7.holds Tryz.pinned (.plain (OpenSpec.ofChange sheetNewSpec)) sheetNewCard

/-- THE SECOND FORM's CARD OF 'counterpanelaw19.SheetNew'. -/
def sheetNewUptoCard : Claim7 := { stood := { row := sheetNewUptoRow, standIns := [], harness := (true, "3264683f3dfb585eb947abd0762291f86e1e6c4b780b1c3a5e7ffbcc1e351afc"), looks := false }, kinds := [], alts := [], laidByText := true, laidKinds := [.data, .data, .data, .data, .data, .pinned], laidTests := true, laidLooks := .later }
def SheetNewUptoCardSaid : Prop := Claim7.holds Tryz.pinned (.plain (OpenSpec.upto sheetNewSpec)) sheetNewUptoCard
end Rows
end Go.Proofs.YtpfagdkpolhopaaGreatDoor
