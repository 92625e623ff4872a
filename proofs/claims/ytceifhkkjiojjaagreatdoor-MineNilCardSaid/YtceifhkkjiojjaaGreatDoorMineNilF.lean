/-
  THE CARD OF 'counterpanelaw39.MineNil': closed facts on the program's road, each by the kernel. No condition.
-/
import Derived.Test.YtceifhkkjiojjaaGreatDoorRows
import Derived.JoinedCond
import Derived.KernelRfl
namespace Go.Proofs.YtceifhkkjiojjaaGreatDoor.mineNil
set_option maxRecDepth 100000
theorem jInPlace : Tryz.pinned.checked.prog.inPlace 3 = Rows.mineNilRow.inPlace := by kernel_rfl
theorem jUnfollowed : Tryz.pinned.checked.prog.unfollowed 3 = Rows.mineNilRow.unfollowed := by kernel_rfl
theorem jRecurses : Tryz.pinned.checked.prog.recurses 3 = Rows.mineNilRow.recurses := by kernel_rfl
theorem jNamed : Tryz.pinned.checked.prog.varsNamed 3 = Rows.mineNilRow.named := by kernel_rfl
theorem closed : joinedFacts Tryz.pinned.checked.prog 3 Tryz.f3 (OpenSpec.ofChange Rows.mineNilSpec).bare Rows.mineNilRow = true := by
  unfold joinedFacts
  rw [jInPlace, jUnfollowed, jRecurses, jNamed]
  kernel_rfl
end Go.Proofs.YtceifhkkjiojjaaGreatDoor.mineNil
