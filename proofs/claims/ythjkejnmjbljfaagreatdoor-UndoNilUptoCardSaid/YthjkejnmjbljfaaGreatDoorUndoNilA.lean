/-
  THE CARD OF 'counterpanelaw29.UndoNil' (second form): the document's example, run by the author's own evaluator (texts EvA to EvZ, proved sound), where the table of faults' texts is laid.
-/
import Derived.Test.YthjkejnmjbljfaaGreatDoorEvT
import Derived.Test.YthjkejnmjbljfaaGreatDoorEvMemo
import Derived.Test.YthjkejnmjbljfaaGreatDoorProg
import Derived.KernelRfl
namespace Go.Proofs.YthjkejnmjbljfaaGreatDoor.undoNil
open Go.ChangeShapes Go.WideShapes Go.RowKit

theorem noCount : Ev.NoCount Tryz.prog := Ev.noCount_of (by kernel_rfl)
theorem mixed : Tryz.prog.follows .mixedOrders = true := by kernel_rfl
def faults : List (List UInt8) := [[], [35, 68, 73, 86, 47, 48, 33], [35, 86, 65, 76, 85, 69, 33], [35, 82, 69, 70, 33], [35, 78, 65, 77, 69, 63], [35, 78, 85, 77, 33], [35, 78, 47, 65], [35, 83, 80, 73, 76, 76, 33], [35, 67, 73, 82, 67, 33], [35, 67, 65, 76, 67, 33]]
def Γ0 : Ev.Glob := Ev.T.leaf.set 0 (Ev.strCells faults)

set_option maxRecDepth 100000 in
theorem awakeRuns : Ev.allTrue (Ev.run Tryz.prog Γ0 1000 (.call 4 [] ⟨.leaf, 100⟩)) = true := by kernel_rfl

/-- The document's example holds. -/
theorem awake (w : World) (h : Ev.globMet Γ0 w) : Calls Tryz.prog 4 #[] w fun e w' => e = .returned (.bool true) ∧ Below w.heap.size w w' :=
  Ev.calls_true noCount mixed 1000 100 4 [] ⟨fun _ => 0, fun _ => 0, fun _ => 0, fun _ => .bool false⟩ w awakeRuns h trivial
end Go.Proofs.YthjkejnmjbljfaaGreatDoor.undoNil
