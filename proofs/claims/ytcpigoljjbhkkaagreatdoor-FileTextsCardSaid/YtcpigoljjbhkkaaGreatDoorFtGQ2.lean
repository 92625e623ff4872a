/-
  THE CARD OF 'counterpanelaw33.FileTexts': for every two texts the law returns true, and its arguments read as they did. No condition.
-/
import Derived.Test.YtcpigoljjbhkkaaGreatDoorRows
import Derived.Test.YtcpigoljjbhkkaaGreatDoorFtGQ
import Derived.WalkKit
import Derived.ProofKit
import Derived.OpenShut
import Derived.ChangeMaps5
import Derived.Shelf.Vars
import Derived.Lib.LaidTab
import Derived.Deep.DeepHandedRow
namespace Go.Proofs.YtcpigoljjbhkkaaGreatDoor.ft
open Go.ChangeShapes Go.WideShapes Go.ChangeAt Go.RowKit

theorem own : ownKnob Tryz.prog.godebug = none := by kernel_rfl
theorem laidOut : laidOutB Tryz.prog = true := by kernel_rfl
theorem readableS : Tryz.prog.readableRec 9 = true ∧ 9 < Tryz.prog.types.size := ⟨by kernel_rfl, of_decide_eq_true (by kernel_rfl)⟩
theorem gTab : Tryz.prog.globalNamed "counterpane/value.faultTexts" = some 1 := by kernel_rfl
theorem gTabType : (Tryz.prog.globals[1]?).map (·.type) = some 281 := by kernel_rfl
theorem cellsTab : Tryz.prog.cellsOf 281 = 10 := by kernel_rfl
theorem cellsStr : Tryz.prog.cellsOf 9 = 1 := by kernel_rfl
theorem gPowType : (Tryz.prog.globals[2]?).map (·.type) = some 326 := by kernel_rfl
theorem cellsPow : Tryz.prog.cellsOf 326 = 20 := by kernel_rfl
theorem cellsU64 : Tryz.prog.cellsOf 259 = 1 := by kernel_rfl
theorem met {W : World} (h : laidMetH Tryz.prog Rows.fileTextsRow.laid W) : laidMet Tryz.prog Rows.fileTextsRow.laid W := by
  unfold laidMetH at h
  rw [show (Rows.fileTextsRow.laid.filter fun x => x.2.handleName?.isSome) = [] by kernel_rfl] at h
  exact h
/-- What the row's list gives: the table of the faults' texts. -/
theorem table {W : World} (h : laidMetH Tryz.prog Rows.fileTextsRow.laid W) : Ev.globMet fTab W :=
  Ev.strTab (name := "counterpane/value.faultTexts") (zs := faults) (met h) (List.mem_cons_of_mem _ (List.mem_cons_of_mem _ (List.mem_cons_of_mem _ (List.mem_cons_of_mem _ (List.mem_cons_of_mem _ (List.mem_cons_of_mem _ (List.mem_cons_self ..))))))) gTab gTabType Tryz.underlying281 Tryz.underlying9 cellsStr cellsTab
theorem powData : (Rows.laid_internal_strconv_uint64pow10 : DataW Unit) = Lib.tabData .u64 Lib.pow10Tab := by kernel_rfl
/-- .. and that of the powers of ten. -/
theorem powTab {W : World} (h : laidMetH Tryz.prog Rows.fileTextsRow.laid W) : hasTab W := by
  obtain ⟨ps, hv, _⟩ := met h
  obtain ⟨g, ty, cs, fuel, p, h1, h2, h3, h4⟩ := Ev.laid_at hv ("internal/strconv.uint64pow10", Rows.laid_internal_strconv_uint64pow10) (List.mem_cons_of_mem _ (List.mem_cons_of_mem _ (List.mem_cons_self ..)))
  rw [powData] at h4
  obtain rfl := Option.some.inj (gMax.symm.trans h1)
  obtain rfl := Option.some.inj (gPowType.symm.trans h2)
  unfold hasTab Lib.TabIs
  rw [h3, ← Lib.cells_of_tab Tryz.underlying326 Tryz.underlying259 cellsU64 cellsPow h4]
theorem shapeMax {W : World} (h : W.ShapedOpen Tryz.prog) : hasMax W :=
  cell_of_shapedOpen_int (g := 0) (t := 3) (zero := #[.int .i64 0]) h (of_decide_eq_true (by kernel_rfl)) (by kernel_rfl) rfl (by kernel_rfl) (by kernel_rfl) Tryz.underlying3
theorem shapeSize {W : World} (h : W.ShapedOpen Tryz.prog) : 10 ≤ W.heap.size := by
  obtain ⟨o, _, ho, _⟩ := h.2 9 (of_decide_eq_true (by kernel_rfl)) (of_decide_eq_true (by kernel_rfl))
  have := (Array.getElem?_eq_some_iff.1 ho).1
  omega

set_option maxRecDepth 100000 in
theorem contract (H : Type) (enc : TypeId × Value → H) (W : World) (base : Nat) (args : Array Value) (ds gs : List (DataW H)) (before : List MemPlace)
    (hval : ∀ (j : Nat) t v, Tryz.f4.params[j]? = some t → args[j]? = some v → Value.okWide Tryz.prog W .any base t v)
    (hW : DataW.Whole enc Tryz.prog Tryz.f4.params.toList Rows.fileTextsSpec.vars false W args.toList ds gs before) (hL : laidMetH Tryz.prog Rows.fileTextsRow.laid W) (hsh : W.ShapedOpen Tryz.prog) :
    Calls Tryz.prog 4 args W fun e W' => ∃ v, e = .returned v ∧ Rows.fileTextsSpec.post enc Tryz.prog Tryz.f4 false true false false W args v W' := by
  have hW' := hW
  obtain ⟨p, q, hA0, hV, rfl, hfz, hnd⟩ := hW
  have hA : DataW.TrodAll enc Tryz.prog W 0 (fun _ => true) true Tryz.f4.params.toList args.toList ds p := hA0
  rw [Tryz.params4] at hA hval
  obtain ⟨v0, vs0, d0, ds0, p0, q0, hargs, rfl, rfl, h0, r0⟩ := trodAll_cons hA
  obtain ⟨v1, vs1, d1, ds1, p1, q1, rfl, rfl, rfl, h1, r1⟩ := trodAll_cons r0
  obtain ⟨rfl, rfl, rfl⟩ := trodAll_nil r1
  obtain rfl : args = #[v0, v1] := by cases args; simp_all
  obtain ⟨s, e0⟩ : ∃ s, v0 = .string s := by
    obtain ⟨s, h, _⟩ := Go.ChangeMaps.open_string Tryz.underlying9 (hval 0 9 v0 rfl rfl) h0
    exact ⟨s, h⟩
  obtain ⟨t, e1⟩ : ∃ s, v1 = .string s := by
    obtain ⟨s, h, _⟩ := Go.ChangeMaps.open_string Tryz.underlying9 (hval 1 9 v1 rfl rfl) h1
    exact ⟨s, h⟩
  subst e0 e1
  have hcalls : Calls Tryz.prog 4 #[.string s, .string t] W fun e w' => e = .returned (.bool true) ∧ Below W.heap.size W w' := law_all s.data.toList t.data.toList ⟨shapeMax hsh, powTab hL⟩ (shapeSize hsh) (table hL)
  refine hcalls.mono fun e W' ⟨he, hb⟩ => ?_
  subst he
  refine ⟨_, rfl, Ev.law_post (tb := 4) laidOut (fun t ht => ?_) rfl (by kernel_rfl) Tryz.underlying4 rfl hW' hb⟩
  rw [Tryz.params4] at ht
  obtain rfl : t = 9 := by simpa using ht
  exact readableS
end Go.Proofs.YtcpigoljjbhkkaaGreatDoor.ft
