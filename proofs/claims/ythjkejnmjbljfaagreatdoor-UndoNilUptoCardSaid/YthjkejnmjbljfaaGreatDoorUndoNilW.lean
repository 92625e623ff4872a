/-
  THE CARD OF 'counterpanelaw29.UndoNil' (second form): one input that fits: an edit with nothing in it, and the number 0.
-/
import Derived.Test.YthjkejnmjbljfaaGreatDoorRows
import Derived.Test.YthjkejnmjbljfaaGreatDoorEvT
import Derived.WalkKit
import Derived.ProofKit
import Derived.OpenShut
import Derived.Deep.DeepHandedRow
namespace Go.Proofs.YthjkejnmjbljfaaGreatDoor.undoNil
open Go.ChangeShapes Go.WideShapes Go.ChangeAt Go.RowKit

/-- An edit for the witness: nothing is in it. -/
def int0 : Value := .int .i64 0
def str0 : Value := .string ⟨#[]⟩
def value0 : List Value := [int0, int0, int0, str0, .bool false, int0]
def corner0 : List Value := [int0, int0, int0, int0, .bool false, .bool false]
def node0 : List Value := [int0] ++ value0 ++ [str0] ++ corner0 ++ corner0 ++ [int0, Value.slice none 0 0]
def edit0 : Value := .agg ([int0] ++ [int0, int0, int0, int0] ++ ([int0] ++ value0 ++ node0) ++ [int0, int0] ++ [int0, int0] ++ [str0] ++ [Value.slice none 0 0]).toArray
noncomputable def laidWorld (os : Os) : World :=
  { World.holding Tryz.prog os ⟨#[], #[], []⟩ with heap := Ev.laidHeap [(0, Rows.laid_counterpane_value_faultTexts), (1, Rows.laid_internal_strconv_uint64pow10), (3, Rows.laid_unicode_utf8_first), (4, Rows.laid_unicode_utf8_acceptRanges), (5, Rows.laid_math_bits_deBruijn32tab), (6, Rows.laid_math_bits_deBruijn64tab)] (World.holding Tryz.prog os ⟨#[], #[], []⟩).heap }
theorem laid_met (os : Os) : laidMet Tryz.prog Rows.undoNilUptoRow.laid ((laidWorld os).forCall (fun _ _ => 0) ⟨#[], #[edit0, int0], []⟩).memory :=
  laidMet_of_run' 8 (by kernel_rfl) (by kernel_rfl)
def intD {H : Type} : DataW H := .lit (.int .i64 0)
def strD {H : Type} : DataW H := .lit (.string [])
def boolD {H : Type} : DataW H := .lit (.bool false)
def idD {H : Type} : DataW H := .agg [intD, intD]
def idD2 {H : Type} : DataW H := .agg [idD, idD]
def valueD {H : Type} : DataW H := .agg [intD, idD, strD, boolD, intD]
def cornerD {H : Type} : DataW H := .agg [idD, idD, boolD, boolD]
def nodeD {H : Type} : DataW H := .agg [intD, valueD, strD, .agg [cornerD, cornerD], intD, .nil]
def editD {H : Type} : DataW H := .agg [intD, idD2, .agg [intD, valueD, nodeD], idD, idD, strD, .nil]
theorem reads (os : Os) {H : Type} (enc : TypeId × Value → H) : DataW.whole enc Tryz.prog ((laidWorld os).forCall (fun _ _ => 0) ⟨#[], #[edit0, int0], []⟩).memory Tryz.f3.params.toList Rows.undoNilSpec.vars false #[edit0, int0].toList 16 = some ([editD, intD], [], []) := by kernel_rfl
end Go.Proofs.YthjkejnmjbljfaaGreatDoor.undoNil
