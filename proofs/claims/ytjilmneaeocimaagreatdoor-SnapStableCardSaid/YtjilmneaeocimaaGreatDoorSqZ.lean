/-
  THE CARD OF 'counterpanelaw40.SnapStable': for every list of lists of ids the law returns true, and its argument reads as it did. No condition.
-/
import Derived.Test.YtjilmneaeocimaaGreatDoorCards
import Derived.Test.YtjilmneaeocimaaGreatDoorTie
import Derived.Test.YtjilmneaeocimaaGreatDoorSqQD
import Derived.Test.YtjilmneaeocimaaGreatDoorSqQE
namespace Go.Proofs.YtjilmneaeocimaaGreatDoor.stab
open Go.Proofs.YtjilmneaeocimaaGreatDoor.snap
open Go.ChangeShapes Go.WideShapes Go.ChangeAt Go.RowKit

theorem plain (f : FuncId) (fn : Func) (hf : Tryz.pinned.checked.prog.funcNamed Rows.snapStableRow.func = some f) (hfn : Tryz.pinned.checked.prog.funcs[f]? = some fn) :
    true = Tryz.pinned.checked.prog.looks [] ∧ ∀ (j : Nat) t, fn.params[j]? = some t → Tryz.pinned.checked.prog.wantsStandIn t = false := by
  obtain rfl : f = 3 := Option.some.inj ((show Tryz.prog.funcNamed Rows.snapStableRow.func = some 3 by kernel_rfl).symm.trans hf) |>.symm
  obtain rfl : fn = Tryz.f3 := (Option.some.inj (Tryz.func3.symm.trans hfn)).symm
  refine ⟨by kernel_rfl, fun j t ht => ?_⟩
  rw [Tryz.params3] at ht
  obtain rfl : t = 22 := by simpa using Array.mem_of_getElem? ht
  exact (show Tryz.prog.wantsStandIn 22 = false by kernel_rfl)

/-- THE CARD -/
theorem card : Rows.SnapStableCardSaid :=
  Claim7.holds_tied_plain_at .later [] _ _ _ _ said (fun _ h => by cases h) (by kernel_rfl) (fun _ h => by cases h) snapStable_row_tie rfl ⟨rfl, rfl⟩ (by kernel_rfl) rfl plain jGoes
end Go.Proofs.YtjilmneaeocimaaGreatDoor.stab
