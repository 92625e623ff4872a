/-
  THE CARD OF 'counterpanelaw38.ShareNone': the walk lifted to the row. No condition.
-/
import Derived.Test.YtdhmljjpiainnaaGreatDoorSnGD
namespace Go.Proofs.YtdhmljjpiainnaaGreatDoor.shareNone
open Go.ChangeShapes Go.WideShapes Go.ChangeAt Go.RowKit
set_option maxRecDepth 100000 in
theorem lifted (os : Os) (started : os.Started) (H : Type) (enc : TypeId × Value → H) (F : Stop.Interp) :
    ReturnsInHanded {} Tryz.checked os 3 .any ((OpenSpec.ofChange Rows.shareNoneSpec).preRow enc Tryz.prog Tryz.f3 Rows.shareNoneRow.domain false Rows.shareNoneRow.laid) (((OpenSpec.ofChange Rows.shareNoneSpec).at F).post enc Tryz.prog Tryz.f3 false true false false) := by
  have hx := reads os enc
  refine returnsInHanded_of_row (C := Tryz.checked) (s := OpenSpec.ofChange Rows.shareNoneSpec) own started (by kernel_rfl) Tryz.func3
    (witness_row_at (enc := enc) (C := Tryz.checked) false (laidWorld os) args0 rfl (by kernel_rfl) (by kernel_rfl) (by kernel_rfl)
      (OpenSpec.preRow_of_cond 16 hx (by kernel_rfl) (fun k hk => by cases hk) (by kernel_rfl) (laid_met os))) ?_
  intro W base args ds gs before hval hW _ _ _ _ _ _
  exact contract H enc W base args ds gs before hval hW
end Go.Proofs.YtdhmljjpiainnaaGreatDoor.shareNone
