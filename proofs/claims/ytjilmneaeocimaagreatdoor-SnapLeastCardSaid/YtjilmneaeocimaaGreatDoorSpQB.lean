/-
  THE CARD OF 'counterpanelaw40.SnapLeast': one input that fits: three times no ids; the walk lifted to the row. No condition.
-/
import Derived.Test.YtjilmneaeocimaaGreatDoorSpQA
namespace Go.Proofs.YtjilmneaeocimaaGreatDoor.snap
open Go.ChangeShapes Go.WideShapes Go.ChangeAt Go.RowKit

/-- Arguments for the witness. -/
def args0 : Array Value := #[.slice none 0 0, .slice none 0 0, .slice none 0 0]
noncomputable def laidWorld (os : Os) : World :=
  { World.holding Tryz.prog os ⟨#[], #[], []⟩ with heap := Ev.laidHeap [(0, Rows.laid_internal_strconv_uint64pow10), (1, Rows.laid_math_bits_deBruijn32tab), (2, Rows.laid_math_bits_deBruijn64tab)] (World.holding Tryz.prog os ⟨#[], #[], []⟩).heap }
theorem laid_met (os : Os) : laidMet Tryz.prog Rows.snapLeastRow.laid ((laidWorld os).forCall (fun _ _ => 0) ⟨#[], args0, []⟩).memory :=
  laidMet_of_run' 8 (by kernel_rfl) (by kernel_rfl)
theorem reads (os : Os) {H : Type} (enc : TypeId × Value → H) : DataW.whole enc Tryz.prog ((laidWorld os).forCall (fun _ _ => 0) ⟨#[], args0, []⟩).memory Tryz.f4.params.toList Rows.snapLeastSpec.vars false args0.toList 16 = some ([.nil, .nil, .nil], [], []) := by kernel_rfl

set_option maxRecDepth 100000 in
theorem lifted (os : Os) (started : os.Started) (H : Type) (enc : TypeId × Value → H) (F : Stop.Interp) :
    ReturnsInHanded {} Tryz.checked os 4 .any ((OpenSpec.ofChange Rows.snapLeastSpec).preRow enc Tryz.prog Tryz.f4 Rows.snapLeastRow.domain false Rows.snapLeastRow.laid) (((OpenSpec.ofChange Rows.snapLeastSpec).at F).post enc Tryz.prog Tryz.f4 false true false false) := by
  have hx := reads os enc
  refine returnsInHanded_of_row (C := Tryz.checked) (s := OpenSpec.ofChange Rows.snapLeastSpec) own started (by kernel_rfl) Tryz.func4
    (witness_row_at (enc := enc) (C := Tryz.checked) false (laidWorld os) args0 rfl (by kernel_rfl) (by kernel_rfl) (by kernel_rfl)
      (OpenSpec.preRow_of_cond 16 hx (by kernel_rfl) (fun k hk => by cases hk) (by kernel_rfl) (laid_met os))) ?_
  intro W base args ds gs before hval hW _ _ _ _ _ _
  exact contract H enc W base args ds gs before hval hW
end Go.Proofs.YtjilmneaeocimaaGreatDoor.snap
