/-
  THE CARD OF 'counterpanelaw33.FileTexts': the call starts no goroutine. No condition.
-/
import Derived.Test.YtcpigoljjbhkkaaGreatDoorRows
import Derived.Test.YtcpigoljjbhkkaaGreatDoorEvGG
import Derived.KernelRfl
namespace Go.Proofs.YtcpigoljjbhkkaaGreatDoor.ft
set_option maxRecDepth 100000
theorem noGo : Tryz.pinned.checked.prog.funcs.any Func.goes = false := by kernel_rfl
theorem jGoes : false = Rows.fileTextsRow.goesBy Tryz.pinned.checked.prog := Ev.goesBy_false noGo rfl
end Go.Proofs.YtcpigoljjbhkkaaGreatDoor.ft
