/-
  A PART OF A LONG RUN of the author's own evaluator (texts EvA to EvZ, EvMemo, proved sound): a call that was run by itself. No condition.
-/
import Derived.Test.YtceifhkkjiojjaaGreatDoorMineNilA
namespace Go.Proofs.YtceifhkkjiojjaaGreatDoor.mineNil
open Go.Proofs.YtceifhkkjiojjaaGreatDoor.Ev

def i (n : Int) : SV := .lit (.int .i64 n)
def s (l : List UInt8) : SV := .lit (.string ⟨l.toArray⟩)
def tt : SV := .lit (.bool true)
def ff : SV := .lit (.bool false)
def np : SV := .lit (.pointer none)
def tab0 : List Entry := []
theorem tab0_ok : ∀ e ∈ tab0, EntryOk Tryz.prog .leaf e := fun _ h => by cases h

/-- A call of 'share.Writer.Take'. -/
def e1 : Entry := { f := 13, args := [(.ptr 101 0), (.agg [(i (1)), (i (1)), (i (1)), (i (0)), (i (1)), (i (0)), (i (1)), (i (0)), (i (0)), (s []), (i (1)), (i (1)), (i (1)), (i (0)), (s []), ff, (i (0)), (i (0)), (i (0)), (i (0)), (i (0)), (s []), ff, (i (0)), (s []), (i (0)), (i (0)), (i (0)), (i (0)), ff, ff, (i (0)), (i (0)), (i (0)), (i (0)), ff, ff, (i (0)), (.lit (.slice none 0 0)), (.lit (.slice none 0 0))])], objs := [(101, (.cells [(.lit (.map none)), (.lit (.map none)), (.lit (.map none)), (i (1)), (i (1)), (i (1)), (.lit (.slice none 0 0)), (.lit (.map none)), (.lit (.map none)), (.lit (.map none)), np, tt] 91))], next := 324, outs := [((i (0)), [(101, (.cells [(.map 371), (.map 353), (.map 354), (i (1)), (i (1)), (i (1)), (.row 380 0 1 1 380), (.map 375), (.map 376), (.lit (.map none)), np, tt] 91)), (353, (.map [] 1)), (354, (.map [] 0)), (371, (.map [((i (1)), (i (1)), 0)] 1)), (373, (.row [(i (1)), (i (1)), (i (1)), (i (0)), (i (1)), (i (0)), (i (1)), (i (0)), (i (0)), (s []), (i (1)), (i (1)), (i (1)), (i (0)), (s []), ff, (i (0)), (i (0)), (i (0)), (i (0)), (i (0)), (s []), ff, (i (0)), (s []), (i (0)), (i (0)), (i (0)), (i (0)), ff, ff, (i (0)), (i (0)), (i (0)), (i (0)), ff, ff, (i (0)), (.lit (.slice none 0 0)), (.lit (.slice none 0 0))] 43 1 373 40)), (375, (.map [((.agg [(i (0)), (i (1)), (i (0)), (i (1))]), (.row 384 0 1 1 384), 0)] 1)), (376, (.map [] 0)), (380, (.row [(.ptr 373 0)] 102 1 380 1)), (384, (.row [(.ptr 373 0)] 102 1 384 1))], 385)] }
set_option maxRecDepth 100000 in
theorem e1_ok : EntryOk Tryz.prog .leaf e1 := entry_ok noCount mixed tab0_ok 3000 e1 (by kernel_rfl)
def tab1 : List Entry := e1 :: tab0
theorem tab1_ok : ∀ e ∈ tab1, EntryOk Tryz.prog .leaf e := tab_cons e1_ok tab0_ok
end Go.Proofs.YtceifhkkjiojjaaGreatDoor.mineNil
