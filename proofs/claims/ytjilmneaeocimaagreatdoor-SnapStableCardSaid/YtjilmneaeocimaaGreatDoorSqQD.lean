/-
  THE CARD OF 'counterpanelaw40.SnapStable': the bare row. No condition.
-/
import Derived.Test.YtjilmneaeocimaaGreatDoorSqQB
import Derived.Test.YtjilmneaeocimaaGreatDoorSqQC
namespace Go.Proofs.YtjilmneaeocimaaGreatDoor.stab
open Go.Proofs.YtjilmneaeocimaaGreatDoor.snap
open Go.ChangeShapes Go.WideShapes Go.ChangeAt Go.RowKit

theorem said : Rows.SnapStableSaid :=
  OpenClaim.holds_of_cond 3 Tryz.f3 rfl rfl rfl rfl rfl rfl rfl ⟨rfl, rfl, rfl, rfl, rfl⟩ rfl rfl rfl rfl rfl (by kernel_rfl) Tryz.func3 closed
    (of_decide_eq_true (by kernel_rfl)) (by unfold Func.isWrapper; first | (rw [if_pos (by decide +kernel)]; kernel_rfl) | (rw [if_neg (by decide +kernel)]; exact ⟨rfl, rfl⟩))
    (fun os started H enc _ F => by rw [OpenClaim.pre_eq_preRow]; exact lifted os started H enc F)
end Go.Proofs.YtjilmneaeocimaaGreatDoor.stab
