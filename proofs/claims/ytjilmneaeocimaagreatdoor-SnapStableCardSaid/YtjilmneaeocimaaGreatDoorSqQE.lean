/-
  THE CARD OF 'counterpanelaw40.SnapStable': the call starts no goroutine. No condition.
-/
import Derived.Test.YtjilmneaeocimaaGreatDoorRows
import Derived.Test.YtjilmneaeocimaaGreatDoorEvGG
import Derived.KernelRfl
namespace Go.Proofs.YtjilmneaeocimaaGreatDoor.stab
set_option maxRecDepth 100000
theorem noGo : Tryz.pinned.checked.prog.funcs.any Func.goes = false := by kernel_rfl
theorem jGoes : false = Rows.snapStableRow.goesBy Tryz.pinned.checked.prog := Ev.goesBy_false noGo rfl
end Go.Proofs.YtjilmneaeocimaaGreatDoor.stab
