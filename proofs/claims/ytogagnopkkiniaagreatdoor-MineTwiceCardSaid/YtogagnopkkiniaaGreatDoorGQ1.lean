/-
  THE CARD OF 'counterpanelaw39.MineTwice': for every list of deeds and every id the law returns true, and its arguments read as they did. No condition.
-/
import Derived.Test.YtogagnopkkiniaaGreatDoorRows
import Derived.Test.YtogagnopkkiniaaGreatDoorGoGP
import Derived.Test.YtogagnopkkiniaaGreatDoorGoGV
import Derived.WalkKit
import Derived.ProofKit
import Derived.OpenShut
import Derived.ChangeMaps5
import Derived.Deep.DeepHandedRow
namespace Go.Proofs.YtogagnopkkiniaaGreatDoor.gone
open Go.ChangeShapes Go.WideShapes Go.ChangeAt Go.RowKit

theorem walk (v : Value) (ds : List D) (q m : Int) (w : World) (hL : GL (Ev.allTab w) (.lit v) ds) : Calls Tryz.prog 3 #[v, .agg #[.int .i64 q, .int .i64 m]] w fun e w' => e = .returned (.bool true) ∧ Below w.heap.size w w' := by
  have h := Ev.calls_of_runsV (P := Tryz.prog) (Γ := Ev.allTab w) noCount mixed (theMemOk _) (m := 0) (f := 3) (args := [.lit v, .agg (idC q m)]) ⟨fun _ => 0, fun _ => 0, fun _ => 0, fun _ => .bool false⟩ (w := w) (vs := [.bool true])
    ((two_runs (Ev.allTab w) ⟨.leaf, 0⟩ (.lit v) ds q m hL).mono fun o ho => ⟨_, List.mem_singleton_self _, ho⟩) (Ev.allTab_met w) ⟨trivial, ⟨trivial, trivial, trivial⟩, trivial⟩
  refine h.mono fun e w' ⟨⟨x, hx, he⟩, hb⟩ => ⟨?_, hb⟩
  rw [he, List.mem_singleton.1 hx]

theorem own : ownKnob Tryz.prog.godebug = none := by kernel_rfl
theorem readableS : Tryz.prog.readableRec 22 = true ∧ 22 < Tryz.prog.types.size := ⟨by kernel_rfl, of_decide_eq_true (by kernel_rfl)⟩
theorem readableI : Tryz.prog.readableRec 24 = true ∧ 24 < Tryz.prog.types.size := ⟨by kernel_rfl, of_decide_eq_true (by kernel_rfl)⟩

set_option maxRecDepth 100000 in
theorem contract (H : Type) (enc : TypeId × Value → H) (W : World) (base : Nat) (args : Array Value) (ds gs : List (DataW H)) (before : List MemPlace)
    (hval : ∀ (j : Nat) t v, Tryz.f3.params[j]? = some t → args[j]? = some v → Value.okWide Tryz.prog W .any base t v)
    (hW : DataW.Whole enc Tryz.prog Tryz.f3.params.toList Rows.mineTwiceSpec.vars false W args.toList ds gs before) :
    Calls Tryz.prog 3 args W fun e W' => ∃ v, e = .returned v ∧ Rows.mineTwiceSpec.post enc Tryz.prog Tryz.f3 false true false false W args v W' := by
  have hW' := hW
  obtain ⟨p, q, hA0, hV, rfl, hfz, hnd⟩ := hW
  have hA : DataW.TrodAll enc Tryz.prog W 0 (fun _ => true) true Tryz.f3.params.toList args.toList ds p := hA0
  rw [Tryz.params3] at hA hval
  obtain ⟨v0, vs0, d0, ds0, p0, q0, hargs, rfl, rfl, h0, r0⟩ := trodAll_cons hA
  obtain ⟨v1, vs1, d1, ds1, p1, q1, rfl, rfl, rfl, h1, r1⟩ := trodAll_cons r0
  obtain ⟨rfl, rfl, rfl⟩ := trodAll_nil r1
  obtain rfl : args = #[v0, v1] := by cases args; simp_all
  obtain ⟨deeds, hL⟩ := list_read (hval 0 22 v0 rfl rfl) h0
  obtain ⟨cs, rfl, hn, _⟩ := Ev.struct_cells Tryz.underlying24 cellsI (hval 1 24 v1 rfl rfl)
  obtain ⟨a, b, rfl⟩ : ∃ a b, cs = #[a, b] := by
    match cs, hn with
    | ⟨[a, b]⟩, _ => exact ⟨a, b, rfl⟩
  obtain ⟨fuel, h1⟩ := h1
  obtain ⟨x, y, rfl, rfl⟩ := id_read (a := a) (b := b) h1
  refine (walk v0 deeds x y W hL).mono fun e W' ⟨he, hb⟩ => ?_
  subst he
  refine ⟨_, rfl, Ev.law_post (tb := 4) laidOut (fun t ht => ?_) rfl (by kernel_rfl) Tryz.underlying4 rfl hW' hb⟩
  rw [Tryz.params3] at ht
  rcases (show t = 22 ∨ t = 24 by simpa using ht) with rfl | rfl
  · exact readableS
  · exact readableI
end Go.Proofs.YtogagnopkkiniaaGreatDoor.gone
