/-
  THE DOCUMENT's EXAMPLE OF 'counterpanelaw39' HOLDS: run by the author's own evaluator (texts EvA to EvZ, EvMemo, proved sound). No condition.
-/
import Derived.Test.YtogagnopkkiniaaGreatDoorGWA
namespace Go.Proofs.YtogagnopkkiniaaGreatDoor.gone
open Go Go.RowKit Go.Proofs.YtogagnopkkiniaaGreatDoor.Ev

set_option maxRecDepth 100000 in
theorem awakeRuns : allTrue (runM Tryz.prog .leaf tab10 3000 (.call 4 [] ⟨.leaf, 100⟩)) = true := by kernel_rfl
theorem awake (w : World) : Calls Tryz.prog 4 #[] w fun e w' => e = .returned (.bool true) ∧ Below w.heap.size w w' :=
  calls_trueM (Γ := .plain .leaf) noCount mixed tab10_ok 3000 100 4 [] ⟨fun _ => 0, fun _ => 0, fun _ => 0, fun _ => .bool false⟩ w awakeRuns (globMet_leaf w) trivial trivial
end Go.Proofs.YtogagnopkkiniaaGreatDoor.gone
