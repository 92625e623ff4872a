/-
  THE CARD OF 'counterpanelaw39.MineNil', its first facts on the program. No condition.
-/
import Derived.Test.YtceifhkkjiojjaaGreatDoorEvT
import Derived.Test.YtceifhkkjiojjaaGreatDoorEvMemo
import Derived.Test.YtceifhkkjiojjaaGreatDoorProg
import Derived.KernelRfl
namespace Go.Proofs.YtceifhkkjiojjaaGreatDoor.mineNil

theorem noCount : Ev.NoCount Tryz.prog := Ev.noCount_of (by kernel_rfl)
theorem mixed : Tryz.prog.follows .mixedOrders = true := by kernel_rfl
theorem cells43 : Tryz.prog.cellsOf 43 = 40 := by kernel_rfl
end Go.Proofs.YtceifhkkjiojjaaGreatDoor.mineNil
