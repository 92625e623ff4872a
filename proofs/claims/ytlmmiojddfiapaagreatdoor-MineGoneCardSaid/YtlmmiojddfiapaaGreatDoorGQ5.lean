/-
  THE CARD OF 'counterpanelaw39.MineGone': the call starts no goroutine. No condition.
-/
import Derived.Test.YtlmmiojddfiapaaGreatDoorRows
import Derived.Test.YtlmmiojddfiapaaGreatDoorEvGG
import Derived.KernelRfl
namespace Go.Proofs.YtlmmiojddfiapaaGreatDoor.gone
set_option maxRecDepth 100000
theorem noGo : Tryz.pinned.checked.prog.funcs.any Func.goes = false := by kernel_rfl
theorem jGoes : false = Rows.mineGoneRow.goesBy Tryz.pinned.checked.prog := Ev.goesBy_false noGo rfl
end Go.Proofs.YtlmmiojddfiapaaGreatDoor.gone
