/-
  THE CARD OF 'counterpanelaw40.SnapNone': for every author the law returns true, and its argument reads as it did; the whole call is run by the author's own evaluator (texts EvA to EvZ, proved sound). No condition.
-/
import Derived.Test.YtllonpnaabplpaaGreatDoorEvP
import Derived.Test.YtllonpnaabplpaaGreatDoorProg
import Derived.KernelRfl
namespace Go.Proofs.YtllonpnaabplpaaGreatDoor.snapNone
open Go.ChangeShapes Go.WideShapes Go.RowKit

theorem noCount : Ev.NoCount Tryz.prog := Ev.noCount_of (by kernel_rfl)
theorem mixed : Tryz.prog.follows .mixedOrders = true := by kernel_rfl

set_option maxRecDepth 100000 in
/-- The evaluator's word: the kernel runs it. -/
theorem runs : Ev.allTrue (Ev.run Tryz.prog .leaf 3000 (.call 5 [.num .i64 0] ⟨.leaf, 100⟩)) = true := by kernel_rfl

theorem walk (n : Int) (w : World) : Calls Tryz.prog 5 #[.int .i64 n] w fun e w' => e = .returned (.bool true) ∧ Below w.heap.size w w' :=
  Ev.calls_true noCount mixed 3000 100 5 [.num .i64 0] ⟨fun _ => 0, fun _ => 0, fun _ => n, fun _ => .bool false⟩ w runs (Ev.globMet_leaf w) ⟨(by decide : (0 : Nat) < 100), trivial⟩

end Go.Proofs.YtllonpnaabplpaaGreatDoor.snapNone
