/-
  THE DOCUMENT's EXAMPLE OF 'counterpanelaw39' HOLDS: run by the author's own evaluator (texts EvA to EvZ, EvMemo, proved sound), where the table of faults' texts is laid.
-/
import Derived.Test.YtcnfmcbmephdfaaGreatDoorPsWZ
namespace Go.Proofs.YtcnfmcbmephdfaaGreatDoor.minePassed
open Go Go.RowKit Go.Proofs.YtcnfmcbmephdfaaGreatDoor.Ev
set_option maxRecDepth 100000 in
theorem awakeRuns : allTrue (runM Tryz.prog Γ0 tab 3000 (.call 4 [] ⟨.leaf, 100⟩)) = true := by kernel_rfl
theorem awake (w : World) (h : globMet Γ0 w) : Calls Tryz.prog 4 #[] w fun e w' => e = .returned (.bool true) ∧ Below w.heap.size w w' :=
  calls_trueM (Γ := atTab (.plain Γ0)) noCount mixed (tab_ok (.plain Γ0)) 3000 100 4 [] ⟨fun _ => 0, fun _ => 0, fun _ => 0, fun _ => .bool false⟩ w awakeRuns h trivial trivial
end Go.Proofs.YtcnfmcbmephdfaaGreatDoor.minePassed
