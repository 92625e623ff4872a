/-
  THE DOCUMENT's EXAMPLE OF 'counterpanelaw40' HOLDS: run by the author's own evaluator (texts EvA to EvZ, proved sound). No condition.
-/
import Derived.Test.YtjilmneaeocimaaGreatDoorEvGE
import Derived.Test.YtjilmneaeocimaaGreatDoorProg
import Derived.KernelRfl
namespace Go.Proofs.YtjilmneaeocimaaGreatDoor.snap
open Go.ChangeShapes Go.WideShapes Go.RowKit

theorem noCount : Ev.NoCount Tryz.prog := Ev.noCount_of (by kernel_rfl)
theorem mixed : Tryz.prog.follows .mixedOrders = true := by kernel_rfl
set_option maxRecDepth 100000 in
theorem awakeRuns : Ev.allTrue (Ev.run Tryz.prog .leaf 3000 (.call 5 [] ⟨.leaf, 100⟩)) = true := by kernel_rfl
theorem awake (w : World) : Calls Tryz.prog 5 #[] w fun e w' => e = .returned (.bool true) ∧ Below w.heap.size w w' :=
  Ev.calls_true noCount mixed 3000 100 5 [] ⟨fun _ => 0, fun _ => 0, fun _ => 0, fun _ => .bool false⟩ w awakeRuns (Ev.globMet_leaf w) trivial
end Go.Proofs.YtjilmneaeocimaaGreatDoor.snap
