/-
  THE CARD OF 'counterpanelaw39.MineTwice': one input that fits: no deeds, and the id of zeros; the walk lifted to the row. No condition.
-/
import Derived.Test.YtogagnopkkiniaaGreatDoorGQ1
namespace Go.Proofs.YtogagnopkkiniaaGreatDoor.gone
open Go.ChangeShapes Go.WideShapes Go.ChangeAt Go.RowKit

/-- Arguments for the witness. -/
def args0 : Array Value := #[.slice none 0 0, .agg #[.int .i64 0, .int .i64 0]]
noncomputable def laidWorld (os : Os) : World :=
  { World.holding Tryz.prog os ⟨#[], #[], []⟩ with heap := Ev.laidHeap [(0, Rows.laid_counterpane_value_faultTexts), (1, Rows.laid_internal_strconv_uint64pow10), (3, Rows.laid_unicode_utf8_first), (4, Rows.laid_unicode_utf8_acceptRanges), (5, Rows.laid_math_bits_deBruijn32tab), (6, Rows.laid_math_bits_deBruijn64tab)] (World.holding Tryz.prog os ⟨#[], #[], []⟩).heap }
theorem laid_met (os : Os) : laidMet Tryz.prog Rows.mineTwiceRow.laid ((laidWorld os).forCall (fun _ _ => 0) ⟨#[], args0, []⟩).memory :=
  laidMet_of_run' 8 (by kernel_rfl) (by kernel_rfl)
def intD {H : Type} : DataW H := .lit (.int .i64 0)
theorem reads (os : Os) {H : Type} (enc : TypeId × Value → H) : DataW.whole enc Tryz.prog ((laidWorld os).forCall (fun _ _ => 0) ⟨#[], args0, []⟩).memory Tryz.f3.params.toList Rows.mineTwiceSpec.vars false args0.toList 16 = some ([.nil, .agg [intD, intD]], [], []) := by kernel_rfl

set_option maxRecDepth 100000 in
theorem lifted (os : Os) (started : os.Started) (H : Type) (enc : TypeId × Value → H) (F : Stop.Interp) :
    ReturnsInHanded {} Tryz.checked os 3 .any ((OpenSpec.ofChange Rows.mineTwiceSpec).preRow enc Tryz.prog Tryz.f3 Rows.mineTwiceRow.domain false Rows.mineTwiceRow.laid) (((OpenSpec.ofChange Rows.mineTwiceSpec).at F).post enc Tryz.prog Tryz.f3 false true false false) := by
  have hx := reads os enc
  refine returnsInHanded_of_row (C := Tryz.checked) (s := OpenSpec.ofChange Rows.mineTwiceSpec) own started (by kernel_rfl) Tryz.func3
    (witness_row_at (enc := enc) (C := Tryz.checked) false (laidWorld os) args0 rfl (by kernel_rfl) (by kernel_rfl) (by kernel_rfl)
      (OpenSpec.preRow_of_cond 16 hx (by kernel_rfl) (fun k hk => by cases hk) (by kernel_rfl) (laid_met os))) ?_
  intro W base args ds gs before hval hW _ _ _ _ _ _
  exact contract H enc W base args ds gs before hval hW
end Go.Proofs.YtogagnopkkiniaaGreatDoor.gone
