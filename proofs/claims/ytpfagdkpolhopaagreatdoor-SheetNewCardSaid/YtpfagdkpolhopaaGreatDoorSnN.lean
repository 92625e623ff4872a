/-
  THE CARD OF 'counterpanelaw19.SheetNew': closed facts on the program's road, each by the kernel. No condition.
-/
import Derived.Test.YtpfagdkpolhopaaGreatDoorRows
import Derived.JoinedCond
import Derived.KernelRfl
namespace Go.Proofs.YtpfagdkpolhopaaGreatDoor.sheetNew
set_option maxRecDepth 100000
theorem jInPlace : Tryz.pinned.checked.prog.inPlace 3 = Rows.sheetNewRow.inPlace := by kernel_rfl
theorem jUnfollowed : Tryz.pinned.checked.prog.unfollowed 3 = Rows.sheetNewRow.unfollowed := by kernel_rfl
theorem jRecurses : Tryz.pinned.checked.prog.recurses 3 = Rows.sheetNewRow.recurses := by kernel_rfl
theorem jNamed : Tryz.pinned.checked.prog.varsNamed 3 = Rows.sheetNewRow.named := by kernel_rfl
theorem closed : joinedFacts Tryz.pinned.checked.prog 3 Tryz.f3 (OpenSpec.ofChange Rows.sheetNewSpec).bare Rows.sheetNewRow = true := by
  unfold joinedFacts
  rw [jInPlace, jUnfollowed, jRecurses, jNamed]
  kernel_rfl
end Go.Proofs.YtpfagdkpolhopaaGreatDoor.sheetNew
