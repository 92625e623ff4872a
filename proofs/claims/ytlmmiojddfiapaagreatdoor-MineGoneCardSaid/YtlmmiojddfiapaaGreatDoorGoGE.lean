/-
  FIRST FACTS ON THE PROGRAM. No condition.
-/
import Derived.Test.YtlmmiojddfiapaaGreatDoorEvGE
import Derived.Test.YtlmmiojddfiapaaGreatDoorEvGM
import Derived.Test.YtlmmiojddfiapaaGreatDoorProg
import Derived.KernelRfl
namespace Go.Proofs.YtlmmiojddfiapaaGreatDoor.gone

theorem noCount : Ev.NoCount Tryz.prog := Ev.noCount_of (by kernel_rfl)
theorem mixed : Tryz.prog.follows .mixedOrders = true := by kernel_rfl
end Go.Proofs.YtlmmiojddfiapaaGreatDoor.gone
