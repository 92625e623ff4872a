/-
  A part of the proof of FileReads; no condition.
-/
import Derived.Test.YtbhokokpplmigaaGreatDoorRows
import Derived.Test.YtbhokokpplmigaaGreatDoorEvGC
import Derived.WalkKit
import Derived.ProofKit
import Derived.OpenShut
import Derived.Deep.DeepHandedRow
import Derived.Deep.DeepWitnessRowRef
set_option linter.all false
namespace Go.Proofs.YtbhokokpplmigaaGreatDoor.fr
open Go.ChangeShapes Go.WideShapes Go.ChangeAt Go.RowKit
def Ch:Array Value:=#[.string ⟨#[]⟩]
def GP:Value:=.string ⟨#[118,97,108,117,101,32,111,117,116,32,111,102,32,114,97,110,103,101]⟩
def Ed:Value:=.string ⟨#[105,110,118,97,108,105,100,32,115,121,110,116,97,120]⟩
noncomputable def low:Nat:=(World.holding Tryz.prog default ⟨#[],#[],[]⟩).heap.size
def putAt(h:Array Obj)(g:Nat)(v:Value):Array Obj:=h.modify g λ
 | .cells _ t frozen=>.cells #[v] t frozen
 |o=>o
noncomputable def oD(os:Os):World:=
 let w0:=World.holding Tryz.prog os ⟨#[.cells #[GP] 332,.cells #[Ed] 332],#[],[]⟩
 let h1:=Ev.laidHeap [(1,Rows.laid_counterpane_value_faultTexts),(2,Rows.laid_internal_strconv_uint64pow10),(3,Rows.laid_unicode_utf8_first),(4,Rows.laid_unicode_utf8_acceptRanges),(7,Rows.laid_math_bits_deBruijn32tab),(8,Rows.laid_math_bits_deBruijn64tab)] w0.heap
 {w0 with heap:=putAt (putAt h1 6 (.iface 330 (.pointer (some ⟨low,0,none⟩)))) 5 (.iface 330 (.pointer (some ⟨low+1,0,none⟩)))}
theorem Ho(os:Os):laidMet Tryz.prog Rows.fileReadsRow.laid ((oD os).forCall (λ_ _=>0) ⟨#[],Ch,[]⟩).memory:=
 laidMet_of_run' 8 (by kernel_rfl) (by kernel_rfl)
def RB{H:Type}:DataW H:=.lit (.string [])
theorem reads(os:Os){H:Type}(enc:TypeId×Value->H):DataW.whole enc Tryz.prog ((oD os).forCall (λ_ _=>0) ⟨#[],Ch,[]⟩).memory Tryz.f3.params.toList Rows.fileReadsSpec.vars false Ch.toList 16=some ([RB],[],[]):=by kernel_rfl
end Go.Proofs.YtbhokokpplmigaaGreatDoor.fr
