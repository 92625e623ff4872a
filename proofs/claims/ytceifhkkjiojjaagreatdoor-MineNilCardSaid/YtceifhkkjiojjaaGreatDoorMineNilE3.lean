/-
  A PART OF A LONG RUN of the author's own evaluator (texts EvA to EvZ, EvMemo, proved sound): a call that was run by itself. No condition.
-/
import Derived.Test.YtceifhkkjiojjaaGreatDoorMineNilE2
namespace Go.Proofs.YtceifhkkjiojjaaGreatDoor.mineNil
open Go.Proofs.YtceifhkkjiojjaaGreatDoor.Ev

/-- A call of 'share.Writer.Take'. -/
def e3 : Entry := { f := 13, args := [(.ptr 102 0), (.agg [(i (1)), (i (1)), (i (1)), (i (0)), (i (1)), (i (0)), (i (1)), (i (0)), (i (0)), (s []), (i (1)), (i (1)), (i (1)), (i (0)), (s []), ff, (i (0)), (i (0)), (i (0)), (i (0)), (i (0)), (s []), ff, (i (0)), (s []), (i (0)), (i (0)), (i (0)), (i (0)), ff, ff, (i (0)), (i (0)), (i (0)), (i (0)), ff, ff, (i (0)), (.lit (.slice none 0 0)), (.lit (.slice none 0 0))])], objs := [(102, (.cells [(.lit (.map none)), (.lit (.map none)), (.lit (.map none)), (i (2)), (i (1)), (i (1)), (.lit (.slice none 0 0)), (.lit (.map none)), (.lit (.map none)), (.lit (.map none)), np, ff] 91))], next := 412, outs := [((i (0)), [(102, (.cells [(.map 459), (.map 441), (.map 442), (i (2)), (i (1)), (i (1)), (.row 468 0 1 1 468), (.map 463), (.map 464), (.lit (.map none)), np, ff] 91)), (441, (.map [] 1)), (442, (.map [] 0)), (459, (.map [((i (1)), (i (1)), 0)] 1)), (461, (.row [(i (1)), (i (1)), (i (1)), (i (0)), (i (1)), (i (0)), (i (1)), (i (0)), (i (0)), (s []), (i (1)), (i (1)), (i (1)), (i (0)), (s []), ff, (i (0)), (i (0)), (i (0)), (i (0)), (i (0)), (s []), ff, (i (0)), (s []), (i (0)), (i (0)), (i (0)), (i (0)), ff, ff, (i (0)), (i (0)), (i (0)), (i (0)), ff, ff, (i (0)), (.lit (.slice none 0 0)), (.lit (.slice none 0 0))] 43 1 461 40)), (463, (.map [((.agg [(i (0)), (i (1)), (i (0)), (i (1))]), (.row 472 0 1 1 472), 0)] 1)), (464, (.map [] 0)), (468, (.row [(.ptr 461 0)] 102 1 468 1)), (472, (.row [(.ptr 461 0)] 102 1 472 1))], 473)] }
set_option maxRecDepth 100000 in
theorem e3_ok : EntryOk Tryz.prog .leaf e3 := entry_ok noCount mixed tab2_ok 3000 e3 (by kernel_rfl)
def tab3 : List Entry := e3 :: tab2
theorem tab3_ok : ∀ e ∈ tab3, EntryOk Tryz.prog .leaf e := tab_cons e3_ok tab2_ok
end Go.Proofs.YtceifhkkjiojjaaGreatDoor.mineNil
