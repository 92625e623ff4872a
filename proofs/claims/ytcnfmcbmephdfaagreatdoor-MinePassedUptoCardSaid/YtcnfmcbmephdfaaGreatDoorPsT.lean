/-
  FIRST FACTS ON THE PROGRAM (MinePassed). No condition.
-/
import Derived.Test.YtcnfmcbmephdfaaGreatDoorEvGE
import Derived.Test.YtcnfmcbmephdfaaGreatDoorEvGM
import Derived.Test.YtcnfmcbmephdfaaGreatDoorProg
import Derived.KernelRfl
namespace Go.Proofs.YtcnfmcbmephdfaaGreatDoor.minePassed
theorem noCount : Ev.NoCount Tryz.prog := Ev.noCount_of (by kernel_rfl)
theorem mixed : Tryz.prog.follows .mixedOrders = true := by kernel_rfl
def faults : List (List UInt8) := [[], [35, 68, 73, 86, 47, 48, 33], [35, 86, 65, 76, 85, 69, 33], [35, 82, 69, 70, 33], [35, 78, 65, 77, 69, 63], [35, 78, 85, 77, 33], [35, 78, 47, 65], [35, 83, 80, 73, 76, 76, 33], [35, 67, 73, 82, 67, 33], [35, 67, 65, 76, 67, 33]]
def Γ0 : Ev.Glob := Ev.T.leaf.set 0 (Ev.strCells faults)
def atTab (E : Ev.Env) : Ev.Env := ⟨Γ0, E.inv, E.ext, E.base⟩
end Go.Proofs.YtcnfmcbmephdfaaGreatDoor.minePassed
