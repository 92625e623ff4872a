/-
  THE CARD OF 'counterpanelaw33.FileTexts': closed facts on the program's road, each by the kernel. No condition.
-/
import Derived.Test.YtcpigoljjbhkkaaGreatDoorRows
import Derived.JoinedCond
import Derived.KernelRfl
namespace Go.Proofs.YtcpigoljjbhkkaaGreatDoor.ft
set_option maxRecDepth 100000
theorem jInPlace : Tryz.pinned.checked.prog.inPlace 4 = Rows.fileTextsRow.inPlace := by kernel_rfl
theorem jUnfollowed : Tryz.pinned.checked.prog.unfollowed 4 = Rows.fileTextsRow.unfollowed := by kernel_rfl
theorem jRecurses : Tryz.pinned.checked.prog.recurses 4 = Rows.fileTextsRow.recurses := by kernel_rfl
theorem jNamed : Tryz.pinned.checked.prog.varsNamed 4 = Rows.fileTextsRow.named := by kernel_rfl
theorem closed : joinedFacts Tryz.pinned.checked.prog 4 Tryz.f4 (OpenSpec.ofChange Rows.fileTextsSpec).bare Rows.fileTextsRow = true := by
  unfold joinedFacts
  rw [jInPlace, jUnfollowed, jRecurses, jNamed]
  kernel_rfl
end Go.Proofs.YtcpigoljjbhkkaaGreatDoor.ft
