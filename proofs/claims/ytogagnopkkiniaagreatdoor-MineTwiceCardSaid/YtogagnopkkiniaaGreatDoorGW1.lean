/-
  A PART OF A LONG RUN of the author's own evaluator (texts EvA to EvZ, EvMemo, proved sound): a call that was run by itself. No condition.
-/
import Derived.Test.YtogagnopkkiniaaGreatDoorGoGE
namespace Go.Proofs.YtogagnopkkiniaaGreatDoor.gone
open Go.Proofs.YtogagnopkkiniaaGreatDoor.Ev

def i (n : Int) : SV := .lit (.int .i64 n)
def s (l : List UInt8) : SV := .lit (.string ⟨l.toArray⟩)
def tt : SV := .lit (.bool true)
def ff : SV := .lit (.bool false)
def np : SV := .lit (.pointer none)
def tab0 : List Entry := []
theorem tab0_ok : ∀ e ∈ tab0, EntryOk Tryz.prog (.plain .leaf) e := fun _ h => by cases h

/-- A call of 'share.Writer.Take'. -/
def e1 : Entry := { f := 11, args := [(.ptr 100 0), (.agg [(i (1)), (i (1)), (i (1)), (i (0)), (i (1)), (i (0)), (i (1)), (i (0)), (i (0)), (s []), (i (1)), (i (1)), (i (1)), (i (0)), (s []), ff, (i (0)), (i (0)), (i (0)), (i (0)), (i (0)), (s []), ff, (i (0)), (s []), (i (0)), (i (0)), (i (0)), (i (0)), ff, ff, (i (0)), (i (0)), (i (0)), (i (0)), ff, ff, (i (0)), (.lit (.slice none 0 0)), (.lit (.slice none 0 0))])], objs := [(100, (.cells [(.lit (.map none)), (.lit (.map none)), (.lit (.map none)), (i (1)), (i (1)), (i (1)), (.lit (.slice none 0 0)), (.lit (.map none)), (.lit (.map none)), (.lit (.map none)), np, tt] 78))], next := 323, outs := [((i (0)), [(100, (.cells [(.map 370), (.map 352), (.map 353), (i (1)), (i (1)), (i (1)), (.row 379 0 1 1 379), (.map 374), (.map 375), (.lit (.map none)), np, tt] 78)), (352, (.map [] 1)), (353, (.map [] 0)), (370, (.map [((i (1)), (i (1)), 0)] 1)), (372, (.row [(i (1)), (i (1)), (i (1)), (i (0)), (i (1)), (i (0)), (i (1)), (i (0)), (i (0)), (s []), (i (1)), (i (1)), (i (1)), (i (0)), (s []), ff, (i (0)), (i (0)), (i (0)), (i (0)), (i (0)), (s []), ff, (i (0)), (s []), (i (0)), (i (0)), (i (0)), (i (0)), ff, ff, (i (0)), (i (0)), (i (0)), (i (0)), ff, ff, (i (0)), (.lit (.slice none 0 0)), (.lit (.slice none 0 0))] 51 1 372 40)), (374, (.map [((.agg [(i (0)), (i (1)), (i (0)), (i (1))]), (.row 383 0 1 1 383), 0)] 1)), (375, (.map [] 0)), (379, (.row [(.ptr 372 0)] 96 1 379 1)), (383, (.row [(.ptr 372 0)] 96 1 383 1))], 384)] }
set_option maxRecDepth 100000 in
theorem e1_ok : EntryOk Tryz.prog (.plain .leaf) e1 := entry_ok noCount mixed tab0_ok 3000 e1 (by kernel_rfl)
def tab1 : List Entry := e1 :: tab0
theorem tab1_ok : ∀ e ∈ tab1, EntryOk Tryz.prog (.plain .leaf) e := tab_cons e1_ok tab0_ok
end Go.Proofs.YtogagnopkkiniaaGreatDoor.gone
