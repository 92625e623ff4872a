/-
  THE CARD OF 'counterpanelaw39.MineNil': for every letter the law returns true, and its argument reads as it did; the whole call is run by the author's own evaluator (texts EvA to EvZ, proved sound), the letter's cells unknown. No condition.
-/
import Derived.Test.YtceifhkkjiojjaaGreatDoorRows
import Derived.Test.YtceifhkkjiojjaaGreatDoorMineNilD
import Derived.WalkKit
import Derived.ProofKit
import Derived.OpenShut
import Derived.Deep.DeepHandedRow
namespace Go.Proofs.YtceifhkkjiojjaaGreatDoor.mineNil
open Go.ChangeShapes Go.WideShapes Go.ChangeAt Go.RowKit

theorem own : ownKnob Tryz.prog.godebug = none := by kernel_rfl
theorem laidOut : laidOutB Tryz.prog = true := by kernel_rfl
theorem readable43 : Tryz.prog.readableRec 43 = true ∧ 43 < Tryz.prog.types.size := ⟨by kernel_rfl, of_decide_eq_true (by kernel_rfl)⟩

set_option maxRecDepth 100000 in
theorem contract (H : Type) (enc : TypeId × Value → H) (W : World) (base : Nat) (args : Array Value) (ds gs : List (DataW H)) (before : List MemPlace)
    (hval : ∀ (j : Nat) t v, Tryz.f3.params[j]? = some t → args[j]? = some v → Value.okWide Tryz.prog W .any base t v)
    (hW : DataW.Whole enc Tryz.prog Tryz.f3.params.toList Rows.mineNilSpec.vars false W args.toList ds gs before) :
    Calls Tryz.prog 3 args W fun e W' => ∃ v, e = .returned v ∧ Rows.mineNilSpec.post enc Tryz.prog Tryz.f3 false true false false W args v W' := by
  have hW' := hW
  obtain ⟨p, q, hA0, hV, rfl, hfz, hnd⟩ := hW
  have hA : DataW.TrodAll enc Tryz.prog W 0 (fun _ => true) true Tryz.f3.params.toList args.toList ds p := hA0
  rw [Tryz.params3] at hA hval
  obtain ⟨v0, vs0, d0, ds0, p0, q0, hargs, rfl, rfl, h0, r0⟩ := trodAll_cons hA
  obtain ⟨rfl, rfl, rfl⟩ := trodAll_nil r0
  obtain rfl : args = #[v0] := by cases args; simp_all
  obtain ⟨cs, rfl, hn, hc⟩ := Ev.struct_cells Tryz.underlying43 cells43 (hval 0 43 v0 rfl rfl)
  refine (walk cs hn hc W).mono fun e W' ⟨he, hb⟩ => ?_
  subst he
  refine ⟨_, rfl, Ev.law_post (tb := 4) laidOut (fun t ht => ?_) rfl (by kernel_rfl) Tryz.underlying4 rfl hW' hb⟩
  rw [Tryz.params3] at ht
  obtain rfl : t = 43 := by simpa using ht
  exact readable43

/-- A letter for the witness: nothing is said in it. -/
def int0 : Value := .int .i64 0
def str0 : Value := .string ⟨#[]⟩
def value0 : List Value := [int0, int0, int0, str0, .bool false, int0]
def corner0 : List Value := [int0, int0, int0, int0, .bool false, .bool false]
def letter0 : Value := .agg ([int0, int0, int0, int0, int0, int0, int0, int0, int0, str0, int0] ++ value0 ++ [int0] ++ value0 ++ [str0] ++ corner0 ++ corner0 ++ [int0, .slice none 0 0, .slice none 0 0]).toArray
noncomputable def laidWorld (os : Os) : World :=
  { World.holding Tryz.prog os ⟨#[], #[], []⟩ with heap := Ev.laidHeap [(0, Rows.laid_counterpane_value_faultTexts), (1, Rows.laid_internal_strconv_uint64pow10), (3, Rows.laid_unicode_utf8_first), (4, Rows.laid_unicode_utf8_acceptRanges), (5, Rows.laid_math_bits_deBruijn32tab), (6, Rows.laid_math_bits_deBruijn64tab)] (World.holding Tryz.prog os ⟨#[], #[], []⟩).heap }
theorem laid_met (os : Os) : laidMet Tryz.prog Rows.mineNilRow.laid ((laidWorld os).forCall (fun _ _ => 0) ⟨#[], #[letter0], []⟩).memory :=
  laidMet_of_run' 8 (by kernel_rfl) (by kernel_rfl)
def intD {H : Type} : DataW H := .lit (.int .i64 0)
def strD {H : Type} : DataW H := .lit (.string [])
def boolD {H : Type} : DataW H := .lit (.bool false)
def idD {H : Type} : DataW H := .agg [intD, intD]
def idD2 {H : Type} : DataW H := .agg [idD, idD]
def valueD {H : Type} : DataW H := .agg [intD, idD, strD, boolD, intD]
def cornerD {H : Type} : DataW H := .agg [idD, idD, boolD, boolD]
def nodeD {H : Type} : DataW H := .agg [intD, valueD, strD, .agg [cornerD, cornerD], intD, .nil]
def letterD {H : Type} : DataW H := .agg [.agg [idD, intD, idD2, idD, strD, .agg [intD, valueD, nodeD]], .nil]
theorem reads (os : Os) {H : Type} (enc : TypeId × Value → H) : DataW.whole enc Tryz.prog ((laidWorld os).forCall (fun _ _ => 0) ⟨#[], #[letter0], []⟩).memory Tryz.f3.params.toList Rows.mineNilSpec.vars false #[letter0].toList 16 = some ([letterD], [], []) := by kernel_rfl
end Go.Proofs.YtceifhkkjiojjaaGreatDoor.mineNil
