/-
  THE CARD OF 'counterpanelaw39.MineTwice': closed facts on the program's road, each by the kernel. No condition.
-/
import Derived.Test.YtogagnopkkiniaaGreatDoorRows
import Derived.JoinedCond
import Derived.KernelRfl
namespace Go.Proofs.YtogagnopkkiniaaGreatDoor.gone
set_option maxRecDepth 100000
theorem jInPlace : Tryz.pinned.checked.prog.inPlace 3 = Rows.mineTwiceRow.inPlace := by kernel_rfl
theorem jUnfollowed : Tryz.pinned.checked.prog.unfollowed 3 = Rows.mineTwiceRow.unfollowed := by kernel_rfl
theorem jRecurses : Tryz.pinned.checked.prog.recurses 3 = Rows.mineTwiceRow.recurses := by kernel_rfl
theorem jNamed : Tryz.pinned.checked.prog.varsNamed 3 = Rows.mineTwiceRow.named := by kernel_rfl
theorem closed : joinedFacts Tryz.pinned.checked.prog 3 Tryz.f3 (OpenSpec.ofChange Rows.mineTwiceSpec).bare Rows.mineTwiceRow = true := by
  unfold joinedFacts
  rw [jInPlace, jUnfollowed, jRecurses, jNamed]
  kernel_rfl
end Go.Proofs.YtogagnopkkiniaaGreatDoor.gone
