/-
  THE CARD OF 'counterpanelaw40.SnapStable': one input that fits: no lists; the walk lifted to the row. No condition.
-/
import Derived.Test.YtjilmneaeocimaaGreatDoorSqQA
namespace Go.Proofs.YtjilmneaeocimaaGreatDoor.stab
open Go.Proofs.YtjilmneaeocimaaGreatDoor.snap
open Go.ChangeShapes Go.WideShapes Go.ChangeAt Go.RowKit

/-- Arguments for the witness. -/
def args0 : Array Value := #[.slice none 0 0]
noncomputable def laidWorld (os : Os) : World :=
  { World.holding Tryz.prog os ⟨#[], #[], []⟩ with heap := Ev.laidHeap [(0, Rows.laid_internal_strconv_uint64pow10), (1, Rows.laid_math_bits_deBruijn32tab), (2, Rows.laid_math_bits_deBruijn64tab)] (World.holding Tryz.prog os ⟨#[], #[], []⟩).heap }
theorem laid_met (os : Os) : laidMet Tryz.prog Rows.snapStableRow.laid ((laidWorld os).forCall (fun _ _ => 0) ⟨#[], args0, []⟩).memory :=
  laidMet_of_run' 8 (by kernel_rfl) (by kernel_rfl)
theorem reads (os : Os) {H : Type} (enc : TypeId × Value → H) : DataW.whole enc Tryz.prog ((laidWorld os).forCall (fun _ _ => 0) ⟨#[], args0, []⟩).memory Tryz.f3.params.toList Rows.snapStableSpec.vars false args0.toList 16 = some ([.nil], [], []) := by kernel_rfl

set_option maxRecDepth 100000 in
theorem lifted (os : Os) (started : os.Started) (H : Type) (enc : TypeId × Value → H) (F : Stop.Interp) :
    ReturnsInHanded {} Tryz.checked os 3 .any ((OpenSpec.ofChange Rows.snapStableSpec).preRow enc Tryz.prog Tryz.f3 Rows.snapStableRow.domain false Rows.snapStableRow.laid) (((OpenSpec.ofChange Rows.snapStableSpec).at F).post enc Tryz.prog Tryz.f3 false true false false) := by
  have hx := reads os enc
  refine returnsInHanded_of_row (C := Tryz.checked) (s := OpenSpec.ofChange Rows.snapStableSpec) own started (by kernel_rfl) Tryz.func3
    (witness_row_at (enc := enc) (C := Tryz.checked) false (laidWorld os) args0 rfl (by kernel_rfl) (by kernel_rfl) (by kernel_rfl)
      (OpenSpec.preRow_of_cond 16 hx (by kernel_rfl) (fun k hk => by cases hk) (by kernel_rfl) (laid_met os))) ?_
  intro W base args ds gs before hval hW _ _ _ _ _ _
  exact contract H enc W base args ds gs before hval hW
end Go.Proofs.YtjilmneaeocimaaGreatDoor.stab
