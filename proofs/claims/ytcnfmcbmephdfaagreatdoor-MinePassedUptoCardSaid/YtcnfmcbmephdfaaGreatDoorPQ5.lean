/-
  THE CARD OF 'counterpanelaw39.MinePassed' (second form): the bare row.
-/
import Derived.Test.YtcnfmcbmephdfaaGreatDoorPQ3
import Derived.Test.YtcnfmcbmephdfaaGreatDoorPQ4
namespace Go.Proofs.YtcnfmcbmephdfaaGreatDoor.minePassed
open Go.ChangeShapes Go.WideShapes Go.ChangeAt Go.RowKit
theorem saidUpto : Rows.MinePassedUptoSaid :=
  OpenClaim.holds_of_cond 3 Tryz.f3 rfl rfl rfl rfl rfl rfl rfl ⟨rfl, rfl, rfl, rfl, rfl⟩ rfl rfl rfl rfl rfl (by kernel_rfl) Tryz.func3 closed
    (of_decide_eq_true (by kernel_rfl)) (by unfold Func.isWrapper; first | (rw [if_pos (by decide +kernel)]; kernel_rfl) | (rw [if_neg (by decide +kernel)]; exact ⟨rfl, rfl⟩))
    (fun os started H enc _ F => by rw [OpenClaim.pre_eq_preRow]; exact liftedUpto os started H enc F)
end Go.Proofs.YtcnfmcbmephdfaaGreatDoor.minePassed
