/-
  THE CARD OF 'counterpanelaw33.FileTexts': for every two texts the law returns true, and its arguments read as they did. No condition.
-/
import Derived.Test.YtcpigoljjbhkkaaGreatDoorCards
import Derived.Test.YtcpigoljjbhkkaaGreatDoorTie
import Derived.Test.YtcpigoljjbhkkaaGreatDoorFtGQ6
import Derived.Test.YtcpigoljjbhkkaaGreatDoorFtGQ7
namespace Go.Proofs.YtcpigoljjbhkkaaGreatDoor.ft
open Go.ChangeShapes Go.WideShapes Go.ChangeAt Go.RowKit

theorem plain (f : FuncId) (fn : Func) (hf : Tryz.pinned.checked.prog.funcNamed Rows.fileTextsRow.func = some f) (hfn : Tryz.pinned.checked.prog.funcs[f]? = some fn) :
    true = Tryz.pinned.checked.prog.looks [] ∧ ∀ (j : Nat) t, fn.params[j]? = some t → Tryz.pinned.checked.prog.wantsStandIn t = false := by
  obtain rfl : f = 4 := Option.some.inj ((show Tryz.prog.funcNamed Rows.fileTextsRow.func = some 4 by kernel_rfl).symm.trans hf) |>.symm
  obtain rfl : fn = Tryz.f4 := (Option.some.inj (Tryz.func4.symm.trans hfn)).symm
  refine ⟨by kernel_rfl, fun j t ht => ?_⟩
  rw [Tryz.params4] at ht
  obtain rfl : t = 9 := by simpa using Array.mem_of_getElem? ht
  exact (show Tryz.prog.wantsStandIn 9 = false by kernel_rfl)

/-- THE CARD -/
theorem card : Rows.FileTextsCardSaid :=
  Claim7.holds_tied_plain_at .later [] _ _ _ _ said (fun _ h => by cases h) (by kernel_rfl) (fun _ h => by cases h) fileTexts_row_tie rfl ⟨rfl, rfl⟩ (by kernel_rfl) rfl plain jGoes
end Go.Proofs.YtcpigoljjbhkkaaGreatDoor.ft
