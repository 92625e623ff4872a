/-
  THE CARD OF 'counterpanelaw39.MineTwice': for every list of deeds and every id the law returns true, and its arguments read as they did. No condition.
-/
import Derived.Test.YtogagnopkkiniaaGreatDoorCards
import Derived.Test.YtogagnopkkiniaaGreatDoorTie
import Derived.Test.YtogagnopkkiniaaGreatDoorGQ4
import Derived.Test.YtogagnopkkiniaaGreatDoorGQ5
namespace Go.Proofs.YtogagnopkkiniaaGreatDoor.gone
open Go.ChangeShapes Go.WideShapes Go.ChangeAt Go.RowKit

theorem plain (f : FuncId) (fn : Func) (hf : Tryz.pinned.checked.prog.funcNamed Rows.mineTwiceRow.func = some f) (hfn : Tryz.pinned.checked.prog.funcs[f]? = some fn) :
    true = Tryz.pinned.checked.prog.looks [] ∧ ∀ (j : Nat) t, fn.params[j]? = some t → Tryz.pinned.checked.prog.wantsStandIn t = false := by
  obtain rfl : f = 3 := Option.some.inj ((show Tryz.prog.funcNamed Rows.mineTwiceRow.func = some 3 by kernel_rfl).symm.trans hf) |>.symm
  obtain rfl : fn = Tryz.f3 := (Option.some.inj (Tryz.func3.symm.trans hfn)).symm
  refine ⟨by kernel_rfl, fun j t ht => ?_⟩
  rw [Tryz.params3] at ht
  rcases (show t = 22 ∨ t = 24 by simpa using Array.mem_of_getElem? ht) with rfl | rfl
  · exact (show Tryz.prog.wantsStandIn 22 = false by kernel_rfl)
  · exact (show Tryz.prog.wantsStandIn 24 = false by kernel_rfl)

/-- THE CARD -/
theorem card : Rows.MineTwiceCardSaid :=
  Claim7.holds_tied_plain_at .later [] _ _ _ _ said (fun _ h => by cases h) (by kernel_rfl) (fun _ h => by cases h) mineTwice_row_tie rfl ⟨rfl, rfl⟩ (by kernel_rfl) rfl plain jGoes
end Go.Proofs.YtogagnopkkiniaaGreatDoor.gone
