/-
  THE CARD OF 'counterpanelaw38.ShareNone': the call starts no goroutine. No condition.
-/
import Derived.Test.YtdhmljjpiainnaaGreatDoorRows
import Derived.Test.YtdhmljjpiainnaaGreatDoorEvGG
import Derived.KernelRfl
namespace Go.Proofs.YtdhmljjpiainnaaGreatDoor.shareNone
set_option maxRecDepth 100000
theorem noGo : Tryz.pinned.checked.prog.funcs.any Func.goes = false := by kernel_rfl
theorem jGoes : false = Rows.shareNoneRow.goesBy Tryz.pinned.checked.prog := Ev.goesBy_false noGo rfl
end Go.Proofs.YtdhmljjpiainnaaGreatDoor.shareNone
