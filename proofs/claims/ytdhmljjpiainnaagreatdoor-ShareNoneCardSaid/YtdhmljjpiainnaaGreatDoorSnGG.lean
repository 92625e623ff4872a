/-
  THE CARD OF 'counterpanelaw38.ShareNone': the bare row. No condition.
-/
import Derived.Test.YtdhmljjpiainnaaGreatDoorSnGE
import Derived.Test.YtdhmljjpiainnaaGreatDoorSnGF
namespace Go.Proofs.YtdhmljjpiainnaaGreatDoor.shareNone
open Go.ChangeShapes Go.WideShapes Go.ChangeAt Go.RowKit
theorem said : Rows.ShareNoneSaid :=
  OpenClaim.holds_of_cond 3 Tryz.f3 rfl rfl rfl rfl rfl rfl rfl ⟨rfl, rfl, rfl, rfl, rfl⟩ rfl rfl rfl rfl rfl (by kernel_rfl) Tryz.func3 closed
    (of_decide_eq_true (by kernel_rfl)) (by unfold Func.isWrapper; first | (rw [if_pos (by decide +kernel)]; kernel_rfl) | (rw [if_neg (by decide +kernel)]; exact ⟨rfl, rfl⟩))
    (fun os started H enc _ F => by rw [OpenClaim.pre_eq_preRow]; exact lifted os started H enc F)
end Go.Proofs.YtdhmljjpiainnaaGreatDoor.shareNone
