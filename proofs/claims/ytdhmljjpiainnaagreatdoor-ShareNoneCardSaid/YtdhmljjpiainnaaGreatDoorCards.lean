/-
  DERIVED. GIVEN WITH THE SEED: THE CARDS: each row of YtdhmljjpiainnaaGreatDoorRows.lean that lists a variable, with what it lists TIED to the program's text (the seventh form; the later family's looks); each row that meets fmt, with fmt's text TOLD by the authors' own Lean function (tested against real Go, not proved from fmt's source: count such statements apart). THE CARD IS WHAT COUNTS. Prove the row's statement (the work); the ties are given (YtdhmljjpiainnaaGreatDoorTie.lean); close each card by the builder's one call (the guide's Derived/Test/ToyasCard.lean, 'card_holds'). Laid BY PROGRAM, IN A SANDBOX (cutbox-door.mjs). By AI agents, Wed Nov 11 2026. No macro, syntax, notation, axiom, sorry.
-/
import Derived.Test.YtdhmljjpiainnaaGreatDoorRows
import GoSem.ClaimSeven
namespace Go.Proofs.YtdhmljjpiainnaaGreatDoor
namespace Rows

/-- THE TIED CARD OF 'counterpanelaw38.ShareNone'. -/
def shareNoneCard : Claim7 := { stood := { row := shareNoneRow, standIns := [], harness := (true, "71a51453491a557f4d12a5f42bca1138c97e4c633be6486d5f60bf275a49745e"), looks := true }, kinds := [], alts := [], laidByText := true, laidKinds := [.data, .data, .data, .data, .data, .pinned], laidTests := true, laidLooks := .later }
def ShareNoneCardSaid : Prop := Claim7.holds Tryz.pinned (.plain (OpenSpec.ofChange shareNoneSpec)) shareNoneCard

/-- THE SECOND FORM's CARD OF 'counterpanelaw38.ShareNone'. -/
def shareNoneUptoCard : Claim7 := { stood := { row := shareNoneUptoRow, standIns := [], harness := (true, "71a51453491a557f4d12a5f42bca1138c97e4c633be6486d5f60bf275a49745e"), looks := true }, kinds := [], alts := [], laidByText := true, laidKinds := [.data, .data, .data, .data, .data, .pinned], laidTests := true, laidLooks := .later }
def ShareNoneUptoCardSaid : Prop := Claim7.holds Tryz.pinned (.plain (OpenSpec.upto shareNoneSpec)) shareNoneUptoCard
end Rows
end Go.Proofs.YtdhmljjpiainnaaGreatDoor
