/-
  THE CARD OF 'counterpanelaw29.UndoNil' (second form): for every edit and every number, of bulk at most 1048576, the law returns true, and its arguments read as they did. No condition but the form's own.
-/
import Derived.Test.YthjkejnmjbljfaaGreatDoorRows
import Derived.Test.YthjkejnmjbljfaaGreatDoorUndoNilB
import Derived.WalkKit
import Derived.ProofKit
import Derived.OpenShut
import Derived.Deep.DeepHandedRow
namespace Go.Proofs.YthjkejnmjbljfaaGreatDoor.undoNil
open Go.ChangeShapes Go.WideShapes Go.ChangeAt Go.RowKit

theorem own : ownKnob Tryz.prog.godebug = none := by kernel_rfl
theorem readable41 : Tryz.prog.readableRec 41 = true ∧ 41 < Tryz.prog.types.size := ⟨by kernel_rfl, of_decide_eq_true (by kernel_rfl)⟩
theorem readable3 : Tryz.prog.readableRec 3 = true ∧ 3 < Tryz.prog.types.size := ⟨by kernel_rfl, of_decide_eq_true (by kernel_rfl)⟩
theorem gTab : Tryz.prog.globalNamed "counterpane/value.faultTexts" = some 0 := by kernel_rfl
theorem gTabType : (Tryz.prog.globals[0]?).map (·.type) = some 166 := by kernel_rfl
theorem cells166 : Tryz.prog.cellsOf 166 = 10 := by kernel_rfl
theorem cells9 : Tryz.prog.cellsOf 9 = 1 := by kernel_rfl
theorem met {W : World} (h : laidMetH Tryz.prog Rows.undoNilUptoRow.laid W) : laidMet Tryz.prog Rows.undoNilUptoRow.laid W := by
  unfold laidMetH at h
  rw [show (Rows.undoNilUptoRow.laid.filter fun x => x.2.handleName?.isSome) = [] by kernel_rfl] at h
  exact h
/-- What the row's list gives: the table of the faults' texts. -/
theorem table {W : World} (h : laidMetH Tryz.prog Rows.undoNilUptoRow.laid W) : Ev.globMet Γ0 W :=
  Ev.strTab (name := "counterpane/value.faultTexts") (zs := faults) (met h) (List.mem_cons_of_mem _ (List.mem_cons_of_mem _ (List.mem_cons_of_mem _ (List.mem_cons_of_mem _ (List.mem_cons_self ..))))) gTab gTabType Tryz.underlying166 Tryz.underlying9 cells9 cells166

set_option maxRecDepth 100000 in
theorem contract (H : Type) (enc : TypeId × Value → H) (W : World) (base : Nat) (args : Array Value) (ds gs : List (DataW H)) (before : List MemPlace)
    (hval : ∀ (j : Nat) t v, Tryz.f3.params[j]? = some t → args[j]? = some v → Value.okWide Tryz.prog W .any base t v)
    (hW : DataW.Whole enc Tryz.prog Tryz.f3.params.toList Rows.undoNilSpec.vars false W args.toList ds gs before) (hk : Rows.uptoSmall H (ds ++ gs) = true) (hL : laidMetH Tryz.prog Rows.undoNilUptoRow.laid W) :
    Calls Tryz.prog 3 args W fun e W' => ∃ v, e = .returned v ∧ Rows.undoNilSpec.post enc Tryz.prog Tryz.f3 false true false false W args v W' := by
  have hW' := hW
  obtain ⟨p, q, hA0, hV, rfl, hfz, hnd⟩ := hW
  have hA : DataW.TrodAll enc Tryz.prog W 0 (fun _ => true) true Tryz.f3.params.toList args.toList ds p := hA0
  rw [Tryz.params3] at hA hval
  obtain ⟨v0, vs0, d0, ds0, p0, q0, hargs, rfl, rfl, h0, r0⟩ := trodAll_cons hA
  obtain ⟨v1, vs1, d1, ds1, p1, q1, rfl, rfl, rfl, h1, r1⟩ := trodAll_cons r0
  obtain ⟨rfl, rfl, rfl⟩ := trodAll_nil r1
  obtain rfl : args = #[v0, v1] := by cases args; simp_all
  obtain ⟨cs, rfl, hn, hc⟩ := Ev.struct_cells Tryz.underlying41 cells41 (hval 0 41 v0 rfl rfl)
  obtain ⟨fuel, hf⟩ := h0
  obtain ⟨s, hed, hs⟩ := ed_of_trod fuel _ _ _ hf
  have hb : Rows.uptoBulkAll ([d0, d1] ++ gs) ≤ 1048576 := of_decide_eq_true hk
  have hs2 : s ≤ 1048576 := by
    have := bulk_at (l := [d0, d1] ++ gs) (j := 0) (x := d0) rfl
    omega
  obtain ⟨most, hm⟩ : ∃ most, v1 = .int .i64 most := by
    obtain ⟨most, h, _⟩ := open_int Tryz.underlying3 (hval 1 3 v1 rfl rfl) h1
    exact ⟨most, h⟩
  subst hm
  refine (walk cs hn hc most W (table hL) hed hs2).mono fun e W' ⟨he, hb⟩ => ?_
  subst he
  refine ⟨_, rfl, Ev.law_post (tb := 4) laidOut (fun t ht => ?_) rfl (by kernel_rfl) Tryz.underlying4 rfl hW' hb⟩
  rw [Tryz.params3] at ht
  rcases (show t = 41 ∨ t = 3 by simpa using ht) with rfl | rfl
  · exact readable41
  · exact readable3

end Go.Proofs.YthjkejnmjbljfaaGreatDoor.undoNil
