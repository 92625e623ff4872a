/-
  THE CARD OF 'counterpanelaw29.UndoNil' (second form): closed facts on the program's road, each by the kernel.
-/
import Derived.Test.YthjkejnmjbljfaaGreatDoorRows
import Derived.JoinedCond
import Derived.Test.YthjkejnmjbljfaaGreatDoorEvGoes
import Derived.KernelRfl
namespace Go.Proofs.YthjkejnmjbljfaaGreatDoor.undoNil
set_option maxRecDepth 100000
theorem jInPlace : Tryz.pinned.checked.prog.inPlace 3 = Rows.undoNilUptoRow.inPlace := by kernel_rfl
theorem jUnfollowed : Tryz.pinned.checked.prog.unfollowed 3 = Rows.undoNilUptoRow.unfollowed := by kernel_rfl
theorem jRecurses : Tryz.pinned.checked.prog.recurses 3 = Rows.undoNilUptoRow.recurses := by kernel_rfl
theorem jNamed : Tryz.pinned.checked.prog.varsNamed 3 = Rows.undoNilUptoRow.named := by kernel_rfl
theorem closed : joinedFacts Tryz.pinned.checked.prog 3 Tryz.f3 (Rows.OpenSpec.upto Rows.undoNilSpec).bare Rows.undoNilUptoRow = true := by
  unfold joinedFacts
  rw [jInPlace, jUnfollowed, jRecurses, jNamed]
  kernel_rfl
theorem noGo : Tryz.pinned.checked.prog.funcs.any Func.goes = false := by kernel_rfl
theorem jGoes : false = Rows.undoNilUptoRow.goesBy Tryz.pinned.checked.prog := Ev.goesBy_false noGo rfl
end Go.Proofs.YthjkejnmjbljfaaGreatDoor.undoNil
