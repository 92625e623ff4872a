/-
  THE CARD OF 'counterpanelaw33.FileTexts': the bare row. No condition.
-/
import Derived.Test.YtcpigoljjbhkkaaGreatDoorFtGQ4
import Derived.Test.YtcpigoljjbhkkaaGreatDoorFtGQ5
namespace Go.Proofs.YtcpigoljjbhkkaaGreatDoor.ft
open Go.ChangeShapes Go.WideShapes Go.ChangeAt Go.RowKit

theorem said : Rows.FileTextsSaid :=
  OpenClaim.holds_of_cond 4 Tryz.f4 rfl rfl rfl rfl rfl rfl rfl ⟨rfl, rfl, rfl, rfl, rfl⟩ rfl rfl rfl rfl rfl (by kernel_rfl) Tryz.func4 closed
    (of_decide_eq_true (by kernel_rfl)) (by unfold Func.isWrapper; first | (rw [if_pos (by decide +kernel)]; kernel_rfl) | (rw [if_neg (by decide +kernel)]; exact ⟨rfl, rfl⟩))
    (fun os started H enc _ F => by rw [OpenClaim.pre_eq_preRow]; exact lifted os started H enc F)
end Go.Proofs.YtcpigoljjbhkkaaGreatDoor.ft
