/-
  THE CARD OF 'counterpanelaw38.ShareNone': for all numbers and every text the law returns true, and its arguments read as they did. No condition.
-/
import Derived.Test.YtdhmljjpiainnaaGreatDoorCards
import Derived.Test.YtdhmljjpiainnaaGreatDoorTie
import Derived.Test.YtdhmljjpiainnaaGreatDoorSnGG
import Derived.Test.YtdhmljjpiainnaaGreatDoorSnGH
namespace Go.Proofs.YtdhmljjpiainnaaGreatDoor.shareNone
open Go.ChangeShapes Go.WideShapes Go.ChangeAt Go.RowKit
theorem plain (f : FuncId) (fn : Func) (hf : Tryz.pinned.checked.prog.funcNamed Rows.shareNoneRow.func = some f) (hfn : Tryz.pinned.checked.prog.funcs[f]? = some fn) :
    true = Tryz.pinned.checked.prog.looks [] ∧ ∀ (j : Nat) t, fn.params[j]? = some t → Tryz.pinned.checked.prog.wantsStandIn t = false := by
  obtain rfl : f = 3 := Option.some.inj ((show Tryz.prog.funcNamed Rows.shareNoneRow.func = some 3 by kernel_rfl).symm.trans hf) |>.symm
  obtain rfl : fn = Tryz.f3 := (Option.some.inj (Tryz.func3.symm.trans hfn)).symm
  refine ⟨by kernel_rfl, fun j t ht => ?_⟩
  rw [Tryz.params3] at ht
  rcases (show t = 3 ∨ t = 9 by simpa using Array.mem_of_getElem? ht) with rfl | rfl
  · exact (show Tryz.prog.wantsStandIn 3 = false by kernel_rfl)
  · exact (show Tryz.prog.wantsStandIn 9 = false by kernel_rfl)
theorem card : Rows.ShareNoneCardSaid :=
  Claim7.holds_tied_plain_at .later [] _ _ _ _ said (fun _ h => by cases h) (by kernel_rfl) (fun _ h => by cases h) shareNone_row_tie rfl ⟨rfl, rfl⟩ (by kernel_rfl) rfl plain jGoes
end Go.Proofs.YtdhmljjpiainnaaGreatDoor.shareNone
