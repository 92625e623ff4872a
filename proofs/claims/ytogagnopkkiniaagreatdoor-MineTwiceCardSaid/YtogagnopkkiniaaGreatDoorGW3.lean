/-
  A PART OF A LONG RUN of the author's own evaluator (texts EvA to EvZ, EvMemo, proved sound): a call that was run by itself. No condition.
-/
import Derived.Test.YtogagnopkkiniaaGreatDoorGW2
namespace Go.Proofs.YtogagnopkkiniaaGreatDoor.gone
open Go.Proofs.YtogagnopkkiniaaGreatDoor.Ev

/-- A call of 'share.Writer.Take'. -/
def e3 : Entry := { f := 11, args := [(.ptr 101 0), (.agg [(i (1)), (i (1)), (i (1)), (i (0)), (i (1)), (i (0)), (i (1)), (i (0)), (i (0)), (s []), (i (1)), (i (1)), (i (1)), (i (0)), (s []), ff, (i (0)), (i (0)), (i (0)), (i (0)), (i (0)), (s []), ff, (i (0)), (s []), (i (0)), (i (0)), (i (0)), (i (0)), ff, ff, (i (0)), (i (0)), (i (0)), (i (0)), ff, ff, (i (0)), (.lit (.slice none 0 0)), (.lit (.slice none 0 0))])], objs := [(101, (.cells [(.lit (.map none)), (.lit (.map none)), (.lit (.map none)), (i (2)), (i (1)), (i (1)), (.lit (.slice none 0 0)), (.lit (.map none)), (.lit (.map none)), (.lit (.map none)), np, ff] 78))], next := 411, outs := [((i (0)), [(101, (.cells [(.map 458), (.map 440), (.map 441), (i (2)), (i (1)), (i (1)), (.row 467 0 1 1 467), (.map 462), (.map 463), (.lit (.map none)), np, ff] 78)), (440, (.map [] 1)), (441, (.map [] 0)), (458, (.map [((i (1)), (i (1)), 0)] 1)), (460, (.row [(i (1)), (i (1)), (i (1)), (i (0)), (i (1)), (i (0)), (i (1)), (i (0)), (i (0)), (s []), (i (1)), (i (1)), (i (1)), (i (0)), (s []), ff, (i (0)), (i (0)), (i (0)), (i (0)), (i (0)), (s []), ff, (i (0)), (s []), (i (0)), (i (0)), (i (0)), (i (0)), ff, ff, (i (0)), (i (0)), (i (0)), (i (0)), ff, ff, (i (0)), (.lit (.slice none 0 0)), (.lit (.slice none 0 0))] 51 1 460 40)), (462, (.map [((.agg [(i (0)), (i (1)), (i (0)), (i (1))]), (.row 471 0 1 1 471), 0)] 1)), (463, (.map [] 0)), (467, (.row [(.ptr 460 0)] 96 1 467 1)), (471, (.row [(.ptr 460 0)] 96 1 471 1))], 472)] }
set_option maxRecDepth 100000 in
theorem e3_ok : EntryOk Tryz.prog (.plain .leaf) e3 := entry_ok noCount mixed tab2_ok 3000 e3 (by kernel_rfl)
def tab3 : List Entry := e3 :: tab2
theorem tab3_ok : ∀ e ∈ tab3, EntryOk Tryz.prog (.plain .leaf) e := tab_cons e3_ok tab2_ok
end Go.Proofs.YtogagnopkkiniaaGreatDoor.gone
