/-
  A part of the proof of FileReads; no condition.
-/
import Derived.Test.YtbhokokpplmigaaGreatDoorRows
import Derived.JoinedCond
import Derived.KernelRfl
set_option linter.all false
namespace Go.Proofs.YtbhokokpplmigaaGreatDoor.fr
set_option maxRecDepth 100000
theorem HV:Tryz.pinned.checked.prog.inPlace 3=Rows.fileReadsRow.inPlace:=by kernel_rfl
theorem xX:Tryz.pinned.checked.prog.unfollowed 3=Rows.fileReadsRow.unfollowed:=by kernel_rfl
theorem DQ:Tryz.pinned.checked.prog.recurses 3=Rows.fileReadsRow.recurses:=by kernel_rfl
theorem Ny:Tryz.pinned.checked.prog.varsNamed 3=Rows.fileReadsRow.named:=by kernel_rfl
theorem closed:joinedFacts Tryz.pinned.checked.prog 3 Tryz.f3 (OpenSpec.ofChange Rows.fileReadsSpec).bare Rows.fileReadsRow=true:=by
 unfold joinedFacts;rw[HV,xX,DQ,Ny]
 kernel_rfl
end Go.Proofs.YtbhokokpplmigaaGreatDoor.fr
