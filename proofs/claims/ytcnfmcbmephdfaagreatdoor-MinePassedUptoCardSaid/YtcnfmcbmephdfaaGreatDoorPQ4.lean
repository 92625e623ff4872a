/-
  THE CARD OF 'counterpanelaw39.MinePassed' (second form): closed facts on the program's road, each by the kernel.
-/
import Derived.Test.YtcnfmcbmephdfaaGreatDoorRows
import Derived.JoinedCond
import Derived.Test.YtcnfmcbmephdfaaGreatDoorEvGG
import Derived.KernelRfl
namespace Go.Proofs.YtcnfmcbmephdfaaGreatDoor.minePassed
set_option maxRecDepth 100000
theorem jInPlace : Tryz.pinned.checked.prog.inPlace 3 = Rows.minePassedUptoRow.inPlace := by kernel_rfl
theorem jUnfollowed : Tryz.pinned.checked.prog.unfollowed 3 = Rows.minePassedUptoRow.unfollowed := by kernel_rfl
theorem jRecurses : Tryz.pinned.checked.prog.recurses 3 = Rows.minePassedUptoRow.recurses := by kernel_rfl
theorem jNamed : Tryz.pinned.checked.prog.varsNamed 3 = Rows.minePassedUptoRow.named := by kernel_rfl
theorem closed : joinedFacts Tryz.pinned.checked.prog 3 Tryz.f3 (Rows.OpenSpec.upto Rows.minePassedSpec).bare Rows.minePassedUptoRow = true := by
  unfold joinedFacts
  rw [jInPlace, jUnfollowed, jRecurses, jNamed]
  kernel_rfl
theorem noGo : Tryz.pinned.checked.prog.funcs.any Func.goes = false := by kernel_rfl
theorem jGoes : false = Rows.minePassedUptoRow.goesBy Tryz.pinned.checked.prog := Ev.goesBy_false noGo rfl
end Go.Proofs.YtcnfmcbmephdfaaGreatDoor.minePassed
