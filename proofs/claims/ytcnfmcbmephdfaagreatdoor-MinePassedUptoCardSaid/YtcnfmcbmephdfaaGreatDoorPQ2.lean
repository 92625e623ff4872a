/-
  THE CARD OF 'counterpanelaw39.MinePassed' (second form): one input that fits: a letter with nothing in it, and zeros.
-/
import Derived.Test.YtcnfmcbmephdfaaGreatDoorRows
import Derived.Test.YtcnfmcbmephdfaaGreatDoorEvGE
import Derived.WalkKit
import Derived.ProofKit
import Derived.OpenShut
import Derived.Deep.DeepHandedRow
namespace Go.Proofs.YtcnfmcbmephdfaaGreatDoor.minePassed
open Go.ChangeShapes Go.WideShapes Go.ChangeAt Go.RowKit
def int0 : Value := .int .i64 0
def str0 : Value := .string ⟨#[]⟩
def value0 : List Value := [int0, int0, int0, str0, .bool false, int0]
def corner0 : List Value := [int0, int0, int0, int0, .bool false, .bool false]
def node0 : List Value := [int0] ++ value0 ++ [str0] ++ corner0 ++ corner0 ++ [int0, Value.slice none 0 0]
def letter0 : Value := .agg ([int0, int0] ++ [int0] ++ [int0, int0, int0, int0] ++ [int0, int0] ++ [str0] ++ ([int0] ++ value0 ++ node0) ++ [Value.slice none 0 0]).toArray
def byte0 : Value := .int .u8 0
noncomputable def laidWorld (os : Os) : World :=
  { World.holding Tryz.prog os ⟨#[], #[], []⟩ with heap := Ev.laidHeap [(0, Rows.laid_counterpane_value_faultTexts), (1, Rows.laid_internal_strconv_uint64pow10), (3, Rows.laid_unicode_utf8_first), (4, Rows.laid_unicode_utf8_acceptRanges), (5, Rows.laid_math_bits_deBruijn32tab), (6, Rows.laid_math_bits_deBruijn64tab)] (World.holding Tryz.prog os ⟨#[], #[], []⟩).heap }
theorem laid_met (os : Os) : laidMet Tryz.prog Rows.minePassedUptoRow.laid ((laidWorld os).forCall (fun _ _ => 0) ⟨#[], #[byte0, byte0, letter0], []⟩).memory :=
  laidMet_of_run' 8 (by kernel_rfl) (by kernel_rfl)
def intD {H : Type} : DataW H := .lit (.int .i64 0)
def strD {H : Type} : DataW H := .lit (.string [])
def boolD {H : Type} : DataW H := .lit (.bool false)
def idD {H : Type} : DataW H := .agg [intD, intD]
def idD2 {H : Type} : DataW H := .agg [idD, idD]
def valueD {H : Type} : DataW H := .agg [intD, idD, strD, boolD, intD]
def cornerD {H : Type} : DataW H := .agg [idD, idD, boolD, boolD]
def nodeD {H : Type} : DataW H := .agg [intD, valueD, strD, .agg [cornerD, cornerD], intD, .nil]
def letterD {H : Type} : DataW H := .agg [.agg [idD, intD, idD2, idD, strD, .agg [intD, valueD, nodeD]], .nil]
def byteD {H : Type} : DataW H := .lit (.int .u8 0)
theorem reads (os : Os) {H : Type} (enc : TypeId × Value → H) : DataW.whole enc Tryz.prog ((laidWorld os).forCall (fun _ _ => 0) ⟨#[], #[byte0, byte0, letter0], []⟩).memory Tryz.f3.params.toList Rows.minePassedSpec.vars false #[byte0, byte0, letter0].toList 16 = some ([byteD, byteD, letterD], [], []) := by kernel_rfl
end Go.Proofs.YtcnfmcbmephdfaaGreatDoor.minePassed
