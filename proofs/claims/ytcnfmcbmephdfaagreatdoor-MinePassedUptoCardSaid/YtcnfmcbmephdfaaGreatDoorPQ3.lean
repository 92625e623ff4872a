/-
  THE CARD OF 'counterpanelaw39.MinePassed' (second form): the row's step.
-/
import Derived.Test.YtcnfmcbmephdfaaGreatDoorPQ1
import Derived.Test.YtcnfmcbmephdfaaGreatDoorPQ2
namespace Go.Proofs.YtcnfmcbmephdfaaGreatDoor.minePassed
open Go.ChangeShapes Go.WideShapes Go.ChangeAt Go.RowKit
set_option maxRecDepth 100000 in
theorem liftedUpto (os : Os) (started : os.Started) (H : Type) (enc : TypeId × Value → H) (F : Stop.Interp) :
    ReturnsInHanded {} Tryz.checked os 3 .any ((Rows.OpenSpec.upto Rows.minePassedSpec).preRow enc Tryz.prog Tryz.f3 Rows.minePassedUptoRow.domain false Rows.minePassedUptoRow.laid) (((Rows.OpenSpec.upto Rows.minePassedSpec).at F).post enc Tryz.prog Tryz.f3 false true false false) := by
  have hx := reads os enc
  refine returnsInHanded_of_row (C := Tryz.checked) (s := Rows.OpenSpec.upto Rows.minePassedSpec) own started (by kernel_rfl) Tryz.func3
    (witness_row_at (enc := enc) (C := Tryz.checked) false (laidWorld os) #[byte0, byte0, letter0] rfl (by kernel_rfl) (by kernel_rfl) (by kernel_rfl)
      (OpenSpec.preRow_of_cond 16 hx (by kernel_rfl) (fun k hk => by cases hk; kernel_rfl) (by kernel_rfl) (laid_met os))) ?_
  intro W base args ds gs before hval hW _ hcond _ hL _ _
  exact contract H enc W base args ds gs before hval hW (hcond _ rfl) hL
end Go.Proofs.YtcnfmcbmephdfaaGreatDoor.minePassed
