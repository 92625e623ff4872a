/-
  THE CARD OF 'counterpanelaw19.SheetNew': the call starts no goroutine. No condition.
-/
import Derived.Test.YtpfagdkpolhopaaGreatDoorRows
import Derived.Test.YtpfagdkpolhopaaGreatDoorEvGG
import Derived.KernelRfl
namespace Go.Proofs.YtpfagdkpolhopaaGreatDoor.sheetNew
set_option maxRecDepth 100000
theorem noGo : Tryz.pinned.checked.prog.funcs.any Func.goes = false := by kernel_rfl
theorem jGoes : false = Rows.sheetNewRow.goesBy Tryz.pinned.checked.prog := Ev.goesBy_false noGo rfl
end Go.Proofs.YtpfagdkpolhopaaGreatDoor.sheetNew
