/-
  DERIVED. GIVEN WITH THE SEED: THE CARDS: each row of YtllonpnaabplpaaGreatDoorRows.lean that lists a variable, with what it lists TIED to the program's text (the seventh form; the later family's looks); each row that meets fmt, with fmt's text TOLD by the authors' own Lean function (tested against real Go, not proved from fmt's source: count such statements apart). THE CARD IS WHAT COUNTS. Prove the row's statement (the work); the ties are given (YtllonpnaabplpaaGreatDoorTie.lean); close each card by the builder's one call (the guide's Derived/Test/ToyasCard.lean, 'card_holds'). Laid BY PROGRAM, IN A SANDBOX (cutbox-door.mjs). By AI agents, Wed Nov 11 2026. No macro, syntax, notation, axiom, sorry.
-/
import Derived.Test.YtllonpnaabplpaaGreatDoorRows
import GoSem.ClaimSeven
namespace Go.Proofs.YtllonpnaabplpaaGreatDoor
namespace Rows

/-- THE TIED CARD OF 'counterpanelaw40.SnapStable'. -/
def snapStableCard : Claim7 := { stood := { row := snapStableRow, standIns := [], harness := (true, "68b214ea06b1d3ed946debc271f1853e93ec105891aded206e4fc26170887556"), looks := true }, kinds := [], alts := [], laidByText := true, laidKinds := [.data, .data, .data], laidTests := true, laidLooks := .later }
def SnapStableCardSaid : Prop := Claim7.holds Tryz.pinned (.plain (OpenSpec.ofChange snapStableSpec)) snapStableCard

/-- THE TIED CARD OF 'counterpanelaw40.SnapLeast'. -/
def snapLeastCard : Claim7 := { stood := { row := snapLeastRow, standIns := [], harness := (true, "68b214ea06b1d3ed946debc271f1853e93ec105891aded206e4fc26170887556"), looks := true }, kinds := [], alts := [], laidByText := true, laidKinds := [.data, .data, .data], laidTests := true, laidLooks := .later }
def SnapLeastCardSaid : Prop := Claim7.holds Tryz.pinned (.plain (OpenSpec.ofChange snapLeastSpec)) snapLeastCard

/-- THE TIED CARD OF 'counterpanelaw40.SnapNone'. -/
def snapNoneCard : Claim7 := { stood := { row := snapNoneRow, standIns := [], harness := (true, "68b214ea06b1d3ed946debc271f1853e93ec105891aded206e4fc26170887556"), looks := true }, kinds := [], alts := [], laidByText := true, laidKinds := [.data, .data, .data], laidTests := true, laidLooks := .later }
def SnapNoneCardSaid : Prop := Claim7.holds Tryz.pinned (.plain (OpenSpec.ofChange snapNoneSpec)) snapNoneCard

/-- THE SECOND FORM's CARD OF 'counterpanelaw40.SnapStable'. -/
def snapStableUptoCard : Claim7 := { stood := { row := snapStableUptoRow, standIns := [], harness := (true, "68b214ea06b1d3ed946debc271f1853e93ec105891aded206e4fc26170887556"), looks := true }, kinds := [], alts := [], laidByText := true, laidKinds := [.data, .data, .data], laidTests := true, laidLooks := .later }
def SnapStableUptoCardSaid : Prop := Claim7.holds Tryz.pinned (.plain (OpenSpec.upto snapStableSpec)) snapStableUptoCard

/-- THE SECOND FORM's CARD OF 'counterpanelaw40.SnapLeast'. -/
def snapLeastUptoCard : Claim7 := { stood := { row := snapLeastUptoRow, standIns := [], harness := (true, "68b214ea06b1d3ed946debc271f1853e93ec105891aded206e4fc26170887556"), looks := true }, kinds := [], alts := [], laidByText := true, laidKinds := [.data, .data, .data], laidTests := true, laidLooks := .later }
def SnapLeastUptoCardSaid : Prop := Claim7.holds Tryz.pinned (.plain (OpenSpec.upto snapLeastSpec)) snapLeastUptoCard

/-- THE SECOND FORM's CARD OF 'counterpanelaw40.SnapNone'. -/
def snapNoneUptoCard : Claim7 := { stood := { row := snapNoneUptoRow, standIns := [], harness := (true, "68b214ea06b1d3ed946debc271f1853e93ec105891aded206e4fc26170887556"), looks := true }, kinds := [], alts := [], laidByText := true, laidKinds := [.data, .data, .data], laidTests := true, laidLooks := .later }
def SnapNoneUptoCardSaid : Prop := Claim7.holds Tryz.pinned (.plain (OpenSpec.upto snapNoneSpec)) snapNoneUptoCard
end Rows
end Go.Proofs.YtllonpnaabplpaaGreatDoor
