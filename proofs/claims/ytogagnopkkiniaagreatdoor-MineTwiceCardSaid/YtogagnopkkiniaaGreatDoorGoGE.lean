/-
  FIRST FACTS ON THE PROGRAM. No condition.
-/
import Derived.Test.YtogagnopkkiniaaGreatDoorEvGE
import Derived.Test.YtogagnopkkiniaaGreatDoorEvGM
import Derived.Test.YtogagnopkkiniaaGreatDoorProg
import Derived.KernelRfl
namespace Go.Proofs.YtogagnopkkiniaaGreatDoor.gone

theorem noCount : Ev.NoCount Tryz.prog := Ev.noCount_of (by kernel_rfl)
theorem mixed : Tryz.prog.follows .mixedOrders = true := by kernel_rfl
end Go.Proofs.YtogagnopkkiniaaGreatDoor.gone
