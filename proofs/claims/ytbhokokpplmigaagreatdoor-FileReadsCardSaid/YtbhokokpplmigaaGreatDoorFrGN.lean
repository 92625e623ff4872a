/-
  A part of the proof of FileReads; no condition.
-/
import Derived.Test.YtbhokokpplmigaaGreatDoorRows
import Derived.Test.YtbhokokpplmigaaGreatDoorEvGC
import Derived.KernelRfl
set_option linter.all false
namespace Go.Proofs.YtbhokokpplmigaaGreatDoor.fr
set_option maxRecDepth 100000
theorem Sd:Tryz.pinned.checked.prog.funcs.any Func.goes=false:=by kernel_rfl
theorem Rg:false=Rows.fileReadsRow.goesBy Tryz.pinned.checked.prog:=Ev.goesBy_false Sd rfl
end Go.Proofs.YtbhokokpplmigaaGreatDoor.fr
