/-
  THE CARD OF 'counterpanelaw40.SnapNone': for every author the law returns true, and its argument reads as it did; the whole call is run by the author's own evaluator (texts EvA to EvZ, proved sound). No condition.
-/
import Derived.Test.YtllonpnaabplpaaGreatDoorCards
import Derived.Test.YtllonpnaabplpaaGreatDoorTie
import Derived.Test.YtllonpnaabplpaaGreatDoorSnapNoneC
namespace Go.Proofs.YtllonpnaabplpaaGreatDoor.snapNone
open Go.ChangeShapes Go.WideShapes Go.ChangeAt Go.RowKit

theorem plain (f : FuncId) (fn : Func) (hf : Tryz.pinned.checked.prog.funcNamed "counterpane/counterpanelaw40.SnapNone" = some f) (hfn : Tryz.pinned.checked.prog.funcs[f]? = some fn) :
    true = Tryz.pinned.checked.prog.looks [] ∧ ∀ (j : Nat) t, fn.params[j]? = some t → Tryz.pinned.checked.prog.wantsStandIn t = false := by
  obtain rfl : f = 5 := Option.some.inj ((show Tryz.prog.funcNamed "counterpane/counterpanelaw40.SnapNone" = some 5 by kernel_rfl).symm.trans hf) |>.symm
  obtain rfl : fn = Tryz.f5 := (Option.some.inj (Tryz.func5.symm.trans hfn)).symm
  refine ⟨by kernel_rfl, fun j t ht => ?_⟩
  rw [Tryz.params5] at ht
  obtain rfl : t = 3 := by simpa using Array.mem_of_getElem? ht
  exact (show Tryz.prog.wantsStandIn 3 = false by kernel_rfl)

/-- THE CARD -/
theorem card : Rows.SnapNoneCardSaid :=
  Claim7.holds_tied_plain_at .later [] _ _ _ _ said (fun _ h => by cases h) (by kernel_rfl) (fun _ h => by cases h) snapNone_row_tie rfl ⟨rfl, rfl⟩ (by kernel_rfl) rfl plain (by kernel_rfl)
end Go.Proofs.YtllonpnaabplpaaGreatDoor.snapNone
