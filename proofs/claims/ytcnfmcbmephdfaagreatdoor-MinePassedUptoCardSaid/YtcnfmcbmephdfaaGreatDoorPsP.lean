/-
  THE LAW 'counterpanelaw39.MinePassed': the whole call; printed by the author's PassN.py, run by the author's own evaluator over the words of its oracle.
-/
import Derived.Test.YtcnfmcbmephdfaaGreatDoorPsN1
import Derived.Test.YtcnfmcbmephdfaaGreatDoorPsN2
import Derived.Test.YtcnfmcbmephdfaaGreatDoorPsN3
import Derived.Test.YtcnfmcbmephdfaaGreatDoorPsN4
import Derived.Test.YtcnfmcbmephdfaaGreatDoorPsN5
import Derived.Test.YtcnfmcbmephdfaaGreatDoorPsN6
namespace Go.Proofs.YtcnfmcbmephdfaaGreatDoor.minePassed
open Go Go.RowKit Go.Proofs.YtcnfmcbmephdfaaGreatDoor.Ev Go.Proofs.YtcnfmcbmephdfaaGreatDoor.d Go.Proofs.YtcnfmcbmephdfaaGreatDoor.snap
set_option maxRecDepth 20000 in
theorem law_runs (m w k : Int) (B C : Bool) (hm0 : 0 ≤ m) (hm1 : m < 256) (hw0 : 0 ≤ w) (hw1 : w < 256) (hC : k = 7 ∨ B = false → C = true) : O.Runs Tryz.prog Γ0 (mem k B C) (.call 3 [.lit (.int .u8 m), .lit (.int .u8 w), .agg (oddCells k)] ⟨.leaf, 100⟩) fun o => o.v = .lit (.bool true) := by
  refine O.runs_call (c := body) Tryz.func3 rfl ?_ (by rfl)
  refine start_runs m w k B C ?_
  have hm : m % 6 = 0 ∨ m % 6 = 1 ∨ m % 6 = 2 ∨ m % 6 = 3 ∨ m % 6 = 4 ∨ m % 6 = 5 := by omega
  rcases hm with h | h | h | h | h | h
  · exact O.runs_seq (a := c6) (b := r6) (many_runs hm0 hm1 (show 1 + m % 6 = 1 by omega) (ev4 m w k B C) (rest_1 m w k B C hw0 hw1 hC))
  · exact O.runs_seq (a := c6) (b := r6) (many_runs hm0 hm1 (show 1 + m % 6 = 2 by omega) (ev4 m w k B C) (rest_2 m w k B C hw0 hw1 hC))
  · exact O.runs_seq (a := c6) (b := r6) (many_runs hm0 hm1 (show 1 + m % 6 = 3 by omega) (ev4 m w k B C) (rest_3 m w k B C hw0 hw1 hC))
  · exact O.runs_seq (a := c6) (b := r6) (many_runs hm0 hm1 (show 1 + m % 6 = 4 by omega) (ev4 m w k B C) (rest_4 m w k B C hw0 hw1 hC))
  · exact O.runs_seq (a := c6) (b := r6) (many_runs hm0 hm1 (show 1 + m % 6 = 5 by omega) (ev4 m w k B C) (rest_5 m w k B C hw0 hw1 hC))
  · exact O.runs_seq (a := c6) (b := r6) (many_runs hm0 hm1 (show 1 + m % 6 = 6 by omega) (ev4 m w k B C) (rest_6 m w k B C hw0 hw1 hC))
end Go.Proofs.YtcnfmcbmephdfaaGreatDoor.minePassed
