/-
  DERIVED. GIVEN WITH THE SEED: THE CARDS: each row of YtlmmiojddfiapaaGreatDoorRows.lean that lists a variable, with what it lists TIED to the program's text (the seventh form; the later family's looks); each row that meets fmt, with fmt's text TOLD by the authors' own Lean function (tested against real Go, not proved from fmt's source: count such statements apart). THE CARD IS WHAT COUNTS. Prove the row's statement (the work); the ties are given (YtlmmiojddfiapaaGreatDoorTie.lean); close each card by the builder's one call (the guide's Derived/Test/ToyasCard.lean, 'card_holds'). Laid BY PROGRAM, IN A SANDBOX (cutbox-door.mjs). By AI agents, Wed Nov 11 2026. No macro, syntax, notation, axiom, sorry.
-/
import Derived.Test.YtlmmiojddfiapaaGreatDoorRows
import GoSem.ClaimSeven
namespace Go.Proofs.YtlmmiojddfiapaaGreatDoor
namespace Rows

/-- THE TIED CARD OF 'counterpanelaw39.MineGone'. -/
def mineGoneCard : Claim7 := { stood := { row := mineGoneRow, standIns := [], harness := (true, "c65ade9d9d97408401d7a2ef6a56e7a91df846c0256d3ada308dc2905830f0f2"), looks := true }, kinds := [], alts := [], laidByText := true, laidKinds := [.data, .data, .data, .data, .data, .pinned], laidTests := true, laidLooks := .later }
def MineGoneCardSaid : Prop := Claim7.holds Tryz.pinned (.plain (OpenSpec.ofChange mineGoneSpec)) mineGoneCard

/-- THE SECOND FORM's CARD OF 'counterpanelaw39.MineGone'. -/
def mineGoneUptoCard : Claim7 := { stood := { row := mineGoneUptoRow, standIns := [], harness := (true, "c65ade9d9d97408401d7a2ef6a56e7a91df846c0256d3ada308dc2905830f0f2"), looks := true }, kinds := [], alts := [], laidByText := true, laidKinds := [.data, .data, .data, .data, .data, .pinned], laidTests := true, laidLooks := .later }
def MineGoneUptoCardSaid : Prop := Claim7.holds Tryz.pinned (.plain (OpenSpec.upto mineGoneSpec)) mineGoneUptoCard
end Rows
end Go.Proofs.YtlmmiojddfiapaaGreatDoor
