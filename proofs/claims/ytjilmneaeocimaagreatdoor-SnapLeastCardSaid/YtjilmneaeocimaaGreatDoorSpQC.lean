/-
  THE CARD OF 'counterpanelaw40.SnapLeast': closed facts on the program's road, each by the kernel. No condition.
-/
import Derived.Test.YtjilmneaeocimaaGreatDoorRows
import Derived.JoinedCond
import Derived.KernelRfl
namespace Go.Proofs.YtjilmneaeocimaaGreatDoor.snap
set_option maxRecDepth 100000
theorem jInPlace : Tryz.pinned.checked.prog.inPlace 4 = Rows.snapLeastRow.inPlace := by kernel_rfl
theorem jUnfollowed : Tryz.pinned.checked.prog.unfollowed 4 = Rows.snapLeastRow.unfollowed := by kernel_rfl
theorem jRecurses : Tryz.pinned.checked.prog.recurses 4 = Rows.snapLeastRow.recurses := by kernel_rfl
theorem jNamed : Tryz.pinned.checked.prog.varsNamed 4 = Rows.snapLeastRow.named := by kernel_rfl
theorem closed : joinedFacts Tryz.pinned.checked.prog 4 Tryz.f4 (OpenSpec.ofChange Rows.snapLeastSpec).bare Rows.snapLeastRow = true := by
  unfold joinedFacts
  rw [jInPlace, jUnfollowed, jRecurses, jNamed]
  kernel_rfl
end Go.Proofs.YtjilmneaeocimaaGreatDoor.snap
