/-
  THE CARD OF 'counterpanelaw29.UndoNil' (second form): the row's step.
-/
import Derived.Test.YthjkejnmjbljfaaGreatDoorUndoNilK
import Derived.Test.YthjkejnmjbljfaaGreatDoorUndoNilW
namespace Go.Proofs.YthjkejnmjbljfaaGreatDoor.undoNil
open Go.ChangeShapes Go.WideShapes Go.ChangeAt Go.RowKit

set_option maxRecDepth 100000 in
theorem liftedUpto (os : Os) (started : os.Started) (H : Type) (enc : TypeId × Value → H) (F : Stop.Interp) :
    ReturnsInHanded {} Tryz.checked os 3 .any ((Rows.OpenSpec.upto Rows.undoNilSpec).preRow enc Tryz.prog Tryz.f3 Rows.undoNilUptoRow.domain false Rows.undoNilUptoRow.laid) (((Rows.OpenSpec.upto Rows.undoNilSpec).at F).post enc Tryz.prog Tryz.f3 false true false false) := by
  have hx := reads os enc
  refine returnsInHanded_of_row (C := Tryz.checked) (s := Rows.OpenSpec.upto Rows.undoNilSpec) own started (by kernel_rfl) Tryz.func3
    (witness_row_at (enc := enc) (C := Tryz.checked) false (laidWorld os) #[edit0, int0] rfl (by kernel_rfl) (by kernel_rfl) (by kernel_rfl)
      (OpenSpec.preRow_of_cond 16 hx (by kernel_rfl) (fun k hk => by cases hk; kernel_rfl) (by kernel_rfl) (laid_met os))) ?_
  intro W base args ds gs before hval hW _ hcond _ hL _ _
  exact contract H enc W base args ds gs before hval hW (hcond _ rfl) hL
end Go.Proofs.YthjkejnmjbljfaaGreatDoor.undoNil
