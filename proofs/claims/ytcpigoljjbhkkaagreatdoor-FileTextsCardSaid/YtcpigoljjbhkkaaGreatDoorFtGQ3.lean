/-
  THE CARD OF 'counterpanelaw33.FileTexts': one input that fits: two texts with nothing in them.
-/
import Derived.Test.YtcpigoljjbhkkaaGreatDoorRows
import Derived.Test.YtcpigoljjbhkkaaGreatDoorEvGE
import Derived.WalkKit
import Derived.ProofKit
import Derived.OpenShut
import Derived.Deep.DeepHandedRow
import Derived.Deep.DeepWitnessRowRef
namespace Go.Proofs.YtcpigoljjbhkkaaGreatDoor.ft
open Go.ChangeShapes Go.WideShapes Go.ChangeAt Go.RowKit

/-- Arguments for the witness. -/
def args0 : Array Value := #[.string ⟨#[]⟩, .string ⟨#[]⟩]
def errRange : Value := .string ⟨#[118, 97, 108, 117, 101, 32, 111, 117, 116, 32, 111, 102, 32, 114, 97, 110, 103, 101]⟩
def errSyntax : Value := .string ⟨#[105, 110, 118, 97, 108, 105, 100, 32, 115, 121, 110, 116, 97, 120]⟩
noncomputable def low : Nat := (World.holding Tryz.prog default ⟨#[], #[], []⟩).heap.size
def putAt (h : Array Obj) (g : Nat) (v : Value) : Array Obj := h.modify g fun
  | .cells _ t frozen => .cells #[v] t frozen
  | o => o
noncomputable def laidWorld (os : Os) : World :=
  let w0 := World.holding Tryz.prog os ⟨#[.cells #[errRange] 358, .cells #[errSyntax] 358], #[], []⟩
  let h1 := Ev.laidHeap [(1, Rows.laid_counterpane_value_faultTexts), (2, Rows.laid_internal_strconv_uint64pow10), (3, Rows.laid_unicode_utf8_first), (4, Rows.laid_unicode_utf8_acceptRanges), (7, Rows.laid_math_bits_deBruijn32tab), (8, Rows.laid_math_bits_deBruijn64tab)] w0.heap
  { w0 with heap := putAt (putAt h1 6 (.iface 356 (.pointer (some ⟨low, 0, none⟩)))) 5 (.iface 356 (.pointer (some ⟨low + 1, 0, none⟩))) }
theorem laid_met (os : Os) : laidMet Tryz.prog Rows.fileTextsRow.laid ((laidWorld os).forCall (fun _ _ => 0) ⟨#[], args0, []⟩).memory :=
  laidMet_of_run' 8 (by kernel_rfl) (by kernel_rfl)
def strD {H : Type} : DataW H := .lit (.string [])
theorem reads (os : Os) {H : Type} (enc : TypeId × Value → H) : DataW.whole enc Tryz.prog ((laidWorld os).forCall (fun _ _ => 0) ⟨#[], args0, []⟩).memory Tryz.f4.params.toList Rows.fileTextsSpec.vars false args0.toList 16 = some ([strD, strD], [], []) := by kernel_rfl
end Go.Proofs.YtcpigoljjbhkkaaGreatDoor.ft
