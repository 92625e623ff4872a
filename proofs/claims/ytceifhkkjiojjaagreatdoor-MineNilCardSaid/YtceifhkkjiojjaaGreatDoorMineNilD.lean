/-
  THE CARD OF 'counterpanelaw39.MineNil': for every letter the law returns true, and leaves what there was; the whole call is run by the author's own evaluator (texts EvA to EvZ, EvMemo, proved sound), the letter's cells unknown. No condition.
-/
import Derived.Test.YtceifhkkjiojjaaGreatDoorMineNilE11
namespace Go.Proofs.YtceifhkkjiojjaaGreatDoor.mineNil
open Go.ChangeShapes Go.WideShapes Go.RowKit

set_option maxRecDepth 100000 in
/-- The evaluator's word: the kernel runs it. -/
theorem runs : Ev.allTrue (Ev.runM Tryz.prog .leaf tab11 3000 (.call 3 [.agg (Ev.opqs 0 40)] ⟨.leaf, 100⟩)) = true := by kernel_rfl

theorem walk (cs : Array Value) (hn : cs.size = 40) (hc : ∀ c ∈ cs.toList, Ev.oneOf c = c) (w : World) : Calls Tryz.prog 3 #[.agg cs] w fun e w' => e = .returned (.bool true) ∧ Below w.heap.size w w' := by
  have h := Ev.calls_trueM noCount mixed tab11_ok 3000 100 3 [.agg (Ev.opqs 0 40)] ⟨fun _ => 0, fun _ => 0, fun _ => 0, fun i => cs.toList.getD i undef⟩ w runs (Ev.globMet_leaf w) ⟨Ev.opqs_ok 40 0 (by decide), trivial⟩
  have e : Ev.concL ⟨fun _ => 0, fun _ => 0, fun _ => 0, fun i => cs.toList.getD i undef⟩ (Ev.opqs 0 40) = cs.toList := Ev.opqs_conc 40 0 (fun i hi => by
    have hi' : i < cs.toList.length := by simpa [hn] using hi
    simp only [Nat.zero_add]
    refine hc _ ?_
    rw [List.getD_eq_getElem?_getD, List.getElem?_eq_getElem hi']
    exact List.getElem_mem hi') (by simpa using hn)
  simp only [Ev.concL, Ev.conc, e] at h
  exact h
end Go.Proofs.YtceifhkkjiojjaaGreatDoor.mineNil
