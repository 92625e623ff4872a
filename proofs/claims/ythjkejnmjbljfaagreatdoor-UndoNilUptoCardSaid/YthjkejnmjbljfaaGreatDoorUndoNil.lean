/-
  THE CARD OF 'counterpanelaw29.UndoNil' (second form): for every edit and every number, of bulk at most 1048576, the law returns true, and its arguments read as they did. No condition but the form's own.
-/
import Derived.Test.YthjkejnmjbljfaaGreatDoorCards
import Derived.Test.YthjkejnmjbljfaaGreatDoorTie
import Derived.Test.YthjkejnmjbljfaaGreatDoorUndoNilM
namespace Go.Proofs.YthjkejnmjbljfaaGreatDoor.undoNil
open Go.ChangeShapes Go.WideShapes Go.ChangeAt Go.RowKit

theorem plain (f : FuncId) (fn : Func) (hf : Tryz.pinned.checked.prog.funcNamed Rows.undoNilUptoRow.func = some f) (hfn : Tryz.pinned.checked.prog.funcs[f]? = some fn) :
    false = Tryz.pinned.checked.prog.looks [] ∧ ∀ (j : Nat) t, fn.params[j]? = some t → Tryz.pinned.checked.prog.wantsStandIn t = false := by
  obtain rfl : f = 3 := Option.some.inj ((show Tryz.prog.funcNamed Rows.undoNilUptoRow.func = some 3 by kernel_rfl).symm.trans hf) |>.symm
  obtain rfl : fn = Tryz.f3 := (Option.some.inj (Tryz.func3.symm.trans hfn)).symm
  refine ⟨by kernel_rfl, fun j t ht => ?_⟩
  rw [Tryz.params3] at ht
  rcases (show t = 41 ∨ t = 3 by simpa using Array.mem_of_getElem? ht) with rfl | rfl
  · exact (show Tryz.prog.wantsStandIn 41 = false by kernel_rfl)
  · exact (show Tryz.prog.wantsStandIn 3 = false by kernel_rfl)

/-- THE SECOND FORM's CARD -/
theorem cardUpto : Rows.UndoNilUptoCardSaid :=
  Claim7.holds_tied_plain_at .later [] _ _ _ _ saidUpto (fun _ h => by cases h) (by kernel_rfl) (fun _ h => by cases h) undoNilUpto_row_tie rfl ⟨rfl, rfl⟩ (by kernel_rfl) rfl plain jGoes
end Go.Proofs.YthjkejnmjbljfaaGreatDoor.undoNil
