/-
  THE CARD OF 'counterpanelaw38.ShareNone': closed facts on the program's road, each by the kernel. No condition.
-/
import Derived.Test.YtdhmljjpiainnaaGreatDoorRows
import Derived.JoinedCond
import Derived.KernelRfl
namespace Go.Proofs.YtdhmljjpiainnaaGreatDoor.shareNone
set_option maxRecDepth 100000
theorem jInPlace : Tryz.pinned.checked.prog.inPlace 3 = Rows.shareNoneRow.inPlace := by kernel_rfl
theorem jUnfollowed : Tryz.pinned.checked.prog.unfollowed 3 = Rows.shareNoneRow.unfollowed := by kernel_rfl
theorem jRecurses : Tryz.pinned.checked.prog.recurses 3 = Rows.shareNoneRow.recurses := by kernel_rfl
theorem jNamed : Tryz.pinned.checked.prog.varsNamed 3 = Rows.shareNoneRow.named := by kernel_rfl
theorem closed : joinedFacts Tryz.pinned.checked.prog 3 Tryz.f3 (OpenSpec.ofChange Rows.shareNoneSpec).bare Rows.shareNoneRow = true := by
  unfold joinedFacts
  rw [jInPlace, jUnfollowed, jRecurses, jNamed]
  kernel_rfl
end Go.Proofs.YtdhmljjpiainnaaGreatDoor.shareNone
