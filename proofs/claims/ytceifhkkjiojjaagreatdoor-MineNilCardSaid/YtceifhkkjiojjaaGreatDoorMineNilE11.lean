/-
  A PART OF A LONG RUN of the author's own evaluator (texts EvA to EvZ, EvMemo, proved sound): a call that was run by itself. No condition.
-/
import Derived.Test.YtceifhkkjiojjaaGreatDoorMineNilE10
namespace Go.Proofs.YtceifhkkjiojjaaGreatDoor.mineNil
open Go.Proofs.YtceifhkkjiojjaaGreatDoor.Ev

/-- A call of 'counterpanelaw39.awake'. -/
def e11 : Entry := { f := 4, args := [], objs := [], next := 101, outs := [(tt, [], 1392)] }
set_option maxRecDepth 100000 in
theorem e11_ok : EntryOk Tryz.prog .leaf e11 := entry_ok noCount mixed tab10_ok 3000 e11 (by kernel_rfl)
def tab11 : List Entry := e11 :: tab10
theorem tab11_ok : ∀ e ∈ tab11, EntryOk Tryz.prog .leaf e := tab_cons e11_ok tab10_ok
end Go.Proofs.YtceifhkkjiojjaaGreatDoor.mineNil
