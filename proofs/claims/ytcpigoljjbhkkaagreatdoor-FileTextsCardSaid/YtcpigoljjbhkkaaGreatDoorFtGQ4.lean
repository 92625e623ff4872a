/-
  THE CARD OF 'counterpanelaw33.FileTexts': the walk lifted to the row. No condition.
-/
import Derived.Test.YtcpigoljjbhkkaaGreatDoorFtGQ2
import Derived.Test.YtcpigoljjbhkkaaGreatDoorFtGQ3
namespace Go.Proofs.YtcpigoljjbhkkaaGreatDoor.ft
open Go.ChangeShapes Go.WideShapes Go.ChangeAt Go.RowKit

set_option maxRecDepth 100000 in
theorem lifted (os : Os) (started : os.Started) (H : Type) (enc : TypeId × Value → H) (F : Stop.Interp) :
    ReturnsInHanded {} Tryz.checked os 4 .any ((OpenSpec.ofChange Rows.fileTextsSpec).preRow enc Tryz.prog Tryz.f4 Rows.fileTextsRow.domain false Rows.fileTextsRow.laid) (((OpenSpec.ofChange Rows.fileTextsSpec).at F).post enc Tryz.prog Tryz.f4 false true false false) := by
  have hx := reads os enc
  refine returnsInHanded_of_row (C := Tryz.checked) (s := OpenSpec.ofChange Rows.fileTextsSpec) own started (by kernel_rfl) Tryz.func4
    (witness_row_atRef (enc := enc) (C := Tryz.checked) false (laidWorld os) args0 rfl (by kernel_rfl) (by kernel_rfl) (by kernel_rfl)
      (OpenSpec.preRow_of_cond 16 hx (by kernel_rfl) (fun k hk => by cases hk) (by kernel_rfl) (laid_met os))) ?_
  intro W base args ds gs before hval hW _ _ _ hL hsh _
  exact contract H enc W base args ds gs before hval hW hL hsh
end Go.Proofs.YtcpigoljjbhkkaaGreatDoor.ft
