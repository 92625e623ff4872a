/-
  THE CARD OF 'counterpanelaw38.ShareNone': for all numbers and every text the law returns true, and its arguments read as they did. No condition.
-/
import Derived.Test.YtdhmljjpiainnaaGreatDoorRows
import Derived.Test.YtdhmljjpiainnaaGreatDoorSnGB
import Derived.Test.YtdhmljjpiainnaaGreatDoorSnGC
import Derived.WalkKit
import Derived.ProofKit
import Derived.OpenShut
import Derived.ChangeMaps5
import Derived.Deep.DeepHandedRow
namespace Go.Proofs.YtdhmljjpiainnaaGreatDoor.shareNone
open Go.ChangeShapes Go.WideShapes Go.ChangeAt Go.RowKit
theorem walk (rows cols row col : Int) (s : ByteArray) (w : World) : Calls Tryz.prog 3 #[.int .i64 rows, .int .i64 cols, .int .i64 row, .int .i64 col, .string s] w fun e w' => e = .returned (.bool true) ∧ Below w.heap.size w w' := by
  have h := Ev.calls_of_runsV (P := Tryz.prog) (Γ := .leaf) noCount mixed (theMemOk _) (m := 100) (f := 3) (args := [.lit (.int .i64 rows), .lit (.int .i64 cols), .lit (.int .i64 row), .lit (.int .i64 col), .lit (.string s)]) ⟨fun _ => 0, fun _ => 0, fun _ => 0, fun _ => .bool false⟩ (w := w) (vs := [.bool true])
    ((Sx.lawIs rows cols row col s).mono fun o ho => ⟨_, List.mem_singleton_self _, ho⟩) (Ev.globMet_leaf w) ⟨trivial, trivial, trivial, trivial, trivial, trivial⟩
  refine h.mono fun e w' ⟨⟨v, hv, he⟩, hb⟩ => ⟨?_, hb⟩
  rw [he, List.mem_singleton.1 hv]
theorem own : ownKnob Tryz.prog.godebug = none := by kernel_rfl
theorem laidOut : laidOutB Tryz.prog = true := by kernel_rfl
theorem readable3 : Tryz.prog.readableRec 3 = true ∧ 3 < Tryz.prog.types.size := ⟨by kernel_rfl, of_decide_eq_true (by kernel_rfl)⟩
theorem readable9 : Tryz.prog.readableRec 9 = true ∧ 9 < Tryz.prog.types.size := ⟨by kernel_rfl, of_decide_eq_true (by kernel_rfl)⟩
set_option maxRecDepth 100000 in
theorem contract (H : Type) (enc : TypeId × Value → H) (W : World) (base : Nat) (args : Array Value) (ds gs : List (DataW H)) (before : List MemPlace)
    (hval : ∀ (j : Nat) t v, Tryz.f3.params[j]? = some t → args[j]? = some v → Value.okWide Tryz.prog W .any base t v)
    (hW : DataW.Whole enc Tryz.prog Tryz.f3.params.toList Rows.shareNoneSpec.vars false W args.toList ds gs before) :
    Calls Tryz.prog 3 args W fun e W' => ∃ v, e = .returned v ∧ Rows.shareNoneSpec.post enc Tryz.prog Tryz.f3 false true false false W args v W' := by
  have hW' := hW
  obtain ⟨p, q, hA0, hV, rfl, hfz, hnd⟩ := hW
  have hA : DataW.TrodAll enc Tryz.prog W 0 (fun _ => true) true Tryz.f3.params.toList args.toList ds p := hA0
  rw [Tryz.params3] at hA hval
  obtain ⟨v0, vs0, d0, ds0, p0, q0, hargs, rfl, rfl, h0, r0⟩ := trodAll_cons hA
  obtain ⟨v1, vs1, d1, ds1, p1, q1, rfl, rfl, rfl, h1, r1⟩ := trodAll_cons r0
  obtain ⟨v2, vs2, d2, ds2, p2, q2, rfl, rfl, rfl, h2, r2⟩ := trodAll_cons r1
  obtain ⟨v3, vs3, d3, ds3, p3, q3, rfl, rfl, rfl, h3, r3⟩ := trodAll_cons r2
  obtain ⟨v4, vs4, d4, ds4, p4, q4, rfl, rfl, rfl, h4, r4⟩ := trodAll_cons r3
  obtain ⟨rfl, rfl, rfl⟩ := trodAll_nil r4
  obtain rfl : args = #[v0, v1, v2, v3, v4] := by cases args; simp_all
  obtain ⟨n0, e0⟩ : ∃ n, v0 = .int .i64 n := by
    obtain ⟨n, h, _⟩ := open_int Tryz.underlying3 (hval 0 3 v0 rfl rfl) h0
    exact ⟨n, h⟩
  obtain ⟨n1, e1⟩ : ∃ n, v1 = .int .i64 n := by
    obtain ⟨n, h, _⟩ := open_int Tryz.underlying3 (hval 1 3 v1 rfl rfl) h1
    exact ⟨n, h⟩
  obtain ⟨n2, e2⟩ : ∃ n, v2 = .int .i64 n := by
    obtain ⟨n, h, _⟩ := open_int Tryz.underlying3 (hval 2 3 v2 rfl rfl) h2
    exact ⟨n, h⟩
  obtain ⟨n3, e3⟩ : ∃ n, v3 = .int .i64 n := by
    obtain ⟨n, h, _⟩ := open_int Tryz.underlying3 (hval 3 3 v3 rfl rfl) h3
    exact ⟨n, h⟩
  obtain ⟨s, e4⟩ : ∃ s, v4 = .string s := by
    obtain ⟨s, h, _⟩ := Go.ChangeMaps.open_string Tryz.underlying9 (hval 4 9 v4 rfl rfl) h4
    exact ⟨s, h⟩
  subst e0 e1 e2 e3 e4
  refine (walk n0 n1 n2 n3 s W).mono fun e W' ⟨he, hb⟩ => ?_
  subst he
  refine ⟨_, rfl, Ev.law_post (tb := 4) laidOut (fun t ht => ?_) rfl (by kernel_rfl) Tryz.underlying4 rfl hW' hb⟩
  rw [Tryz.params3] at ht
  rcases (show t = 3 ∨ t = 9 by simpa using ht) with rfl | rfl
  · exact readable3
  · exact readable9
def args0 : Array Value := #[.int .i64 0, .int .i64 0, .int .i64 0, .int .i64 0, .string ⟨#[]⟩]
noncomputable def laidWorld (os : Os) : World :=
  { World.holding Tryz.prog os ⟨#[], #[], []⟩ with heap := Ev.laidHeap [(0, Rows.laid_counterpane_value_faultTexts), (1, Rows.laid_internal_strconv_uint64pow10), (3, Rows.laid_unicode_utf8_first), (4, Rows.laid_unicode_utf8_acceptRanges), (5, Rows.laid_math_bits_deBruijn32tab), (6, Rows.laid_math_bits_deBruijn64tab)] (World.holding Tryz.prog os ⟨#[], #[], []⟩).heap }
theorem laid_met (os : Os) : laidMet Tryz.prog Rows.shareNoneRow.laid ((laidWorld os).forCall (fun _ _ => 0) ⟨#[], args0, []⟩).memory :=
  laidMet_of_run' 8 (by kernel_rfl) (by kernel_rfl)
def intD {H : Type} : DataW H := .lit (.int .i64 0)
def strD {H : Type} : DataW H := .lit (.string [])
theorem reads (os : Os) {H : Type} (enc : TypeId × Value → H) : DataW.whole enc Tryz.prog ((laidWorld os).forCall (fun _ _ => 0) ⟨#[], args0, []⟩).memory Tryz.f3.params.toList Rows.shareNoneSpec.vars false args0.toList 16 = some ([intD, intD, intD, intD, strD], [], []) := by kernel_rfl
end Go.Proofs.YtdhmljjpiainnaaGreatDoor.shareNone
