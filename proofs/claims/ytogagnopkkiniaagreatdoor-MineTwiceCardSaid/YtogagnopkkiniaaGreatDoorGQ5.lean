/-
  THE CARD OF 'counterpanelaw39.MineTwice': the call starts no goroutine. No condition.
-/
import Derived.Test.YtogagnopkkiniaaGreatDoorRows
import Derived.Test.YtogagnopkkiniaaGreatDoorEvGG
import Derived.KernelRfl
namespace Go.Proofs.YtogagnopkkiniaaGreatDoor.gone
set_option maxRecDepth 100000
theorem noGo : Tryz.pinned.checked.prog.funcs.any Func.goes = false := by kernel_rfl
theorem jGoes : false = Rows.mineTwiceRow.goesBy Tryz.pinned.checked.prog := Ev.goesBy_false noGo rfl
end Go.Proofs.YtogagnopkkiniaaGreatDoor.gone
