/-
  THE CARD OF 'counterpanelaw39.MineNil': for every letter the law returns true, and its argument reads as it did. No condition.
-/
import Derived.Test.YtceifhkkjiojjaaGreatDoorCards
import Derived.Test.YtceifhkkjiojjaaGreatDoorTie
import Derived.Test.YtceifhkkjiojjaaGreatDoorMineNilG
import Derived.Test.YtceifhkkjiojjaaGreatDoorMineNilH
namespace Go.Proofs.YtceifhkkjiojjaaGreatDoor.mineNil
open Go.ChangeShapes Go.WideShapes Go.ChangeAt Go.RowKit

theorem plain (f : FuncId) (fn : Func) (hf : Tryz.pinned.checked.prog.funcNamed Rows.mineNilRow.func = some f) (hfn : Tryz.pinned.checked.prog.funcs[f]? = some fn) :
    true = Tryz.pinned.checked.prog.looks [] ∧ ∀ (j : Nat) t, fn.params[j]? = some t → Tryz.pinned.checked.prog.wantsStandIn t = false := by
  obtain rfl : f = 3 := Option.some.inj ((show Tryz.prog.funcNamed Rows.mineNilRow.func = some 3 by kernel_rfl).symm.trans hf) |>.symm
  obtain rfl : fn = Tryz.f3 := (Option.some.inj (Tryz.func3.symm.trans hfn)).symm
  refine ⟨by kernel_rfl, fun j t ht => ?_⟩
  rw [Tryz.params3] at ht
  obtain rfl : t = 43 := by simpa using Array.mem_of_getElem? ht
  exact (show Tryz.prog.wantsStandIn 43 = false by kernel_rfl)

/-- THE CARD -/
theorem card : Rows.MineNilCardSaid :=
  Claim7.holds_tied_plain_at .later [] _ _ _ _ said (fun _ h => by cases h) (by kernel_rfl) (fun _ h => by cases h) mineNil_row_tie rfl ⟨rfl, rfl⟩ (by kernel_rfl) rfl plain jGoes
end Go.Proofs.YtceifhkkjiojjaaGreatDoor.mineNil
