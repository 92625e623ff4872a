/-
  THE CARD OF 'counterpanelaw39.MinePassed' (second form): for all numbers and every letter, of bulk at most 1048576, the law returns true, and its arguments read as they did. No condition but the form's own.
-/
import Derived.Test.YtcnfmcbmephdfaaGreatDoorCards
import Derived.Test.YtcnfmcbmephdfaaGreatDoorTie
import Derived.Test.YtcnfmcbmephdfaaGreatDoorPQ5
namespace Go.Proofs.YtcnfmcbmephdfaaGreatDoor.minePassed
open Go.ChangeShapes Go.WideShapes Go.ChangeAt Go.RowKit
theorem plain (f : FuncId) (fn : Func) (hf : Tryz.pinned.checked.prog.funcNamed Rows.minePassedUptoRow.func = some f) (hfn : Tryz.pinned.checked.prog.funcs[f]? = some fn) :
    true = Tryz.pinned.checked.prog.looks [] ∧ ∀ (j : Nat) t, fn.params[j]? = some t → Tryz.pinned.checked.prog.wantsStandIn t = false := by
  obtain rfl : f = 3 := Option.some.inj ((show Tryz.prog.funcNamed Rows.minePassedUptoRow.func = some 3 by kernel_rfl).symm.trans hf) |>.symm
  obtain rfl : fn = Tryz.f3 := (Option.some.inj (Tryz.func3.symm.trans hfn)).symm
  refine ⟨by kernel_rfl, fun j t ht => ?_⟩
  rw [Tryz.params3] at ht
  rcases (show t = 5 ∨ t = 5 ∨ t = 43 by simpa using Array.mem_of_getElem? ht) with rfl | rfl | rfl
  · exact (show Tryz.prog.wantsStandIn 5 = false by kernel_rfl)
  · exact (show Tryz.prog.wantsStandIn 5 = false by kernel_rfl)
  · exact (show Tryz.prog.wantsStandIn 43 = false by kernel_rfl)
theorem cardUpto : Rows.MinePassedUptoCardSaid :=
  Claim7.holds_tied_plain_at .later [] _ _ _ _ saidUpto (fun _ h => by cases h) (by kernel_rfl) (fun _ h => by cases h) minePassedUpto_row_tie rfl ⟨rfl, rfl⟩ (by kernel_rfl) rfl plain jGoes
end Go.Proofs.YtcnfmcbmephdfaaGreatDoor.minePassed
