/-
  THE CARD OF 'counterpanelaw39.MineNil': the call starts no goroutine. No condition.
-/
import Derived.Test.YtceifhkkjiojjaaGreatDoorRows
import Derived.Test.YtceifhkkjiojjaaGreatDoorEvGoes
import Derived.KernelRfl
namespace Go.Proofs.YtceifhkkjiojjaaGreatDoor.mineNil
set_option maxRecDepth 100000
theorem noGo : Tryz.pinned.checked.prog.funcs.any Func.goes = false := by kernel_rfl
theorem jGoes : false = Rows.mineNilRow.goesBy Tryz.pinned.checked.prog := Ev.goesBy_false noGo rfl
end Go.Proofs.YtceifhkkjiojjaaGreatDoor.mineNil
