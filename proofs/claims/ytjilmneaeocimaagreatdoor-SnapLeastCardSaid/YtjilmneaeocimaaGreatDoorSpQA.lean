/-
  THE CARD OF 'counterpanelaw40.SnapLeast': for every three lists of ids the law returns true, and its arguments read as they did. No condition.
-/
import Derived.Test.YtjilmneaeocimaaGreatDoorRows
import Derived.Test.YtjilmneaeocimaaGreatDoorSpP
import Derived.WalkKit
import Derived.ProofKit
import Derived.OpenShut
import Derived.ChangeMaps5
import Derived.Deep.DeepHandedRow
namespace Go.Proofs.YtjilmneaeocimaaGreatDoor.snap
open Go.ChangeShapes Go.WideShapes Go.ChangeAt Go.RowKit

theorem walk (va vb vc : Value) (a b c : List (Int × Int)) (w : World) (ha : IL (Ev.allTab w) (.lit va) a) (hb : IL (Ev.allTab w) (.lit vb) b) (hc : IL (Ev.allTab w) (.lit vc) c) : Calls Tryz.prog 4 #[va, vb, vc] w fun e w' => e = .returned (.bool true) ∧ Below w.heap.size w w' := by
  have h := Ev.calls_of_runsV (P := Tryz.prog) (Γ := Ev.allTab w) noCount mixed (theMemOk _) (m := 0) (f := 4) (args := [.lit va, .lit vb, .lit vc]) ⟨fun _ => 0, fun _ => 0, fun _ => 0, fun _ => .bool false⟩ (w := w) (vs := [.bool true])
    ((least_runs (Ev.allTab w) ⟨.leaf, 0⟩ (.lit va) (.lit vb) (.lit vc) a b c ha.ids hb.ids hc.ids).mono fun o ho => ⟨_, List.mem_singleton_self _, ho⟩) (Ev.allTab_met w) ⟨trivial, trivial, trivial, trivial⟩
  refine h.mono fun e w' ⟨⟨x, hx, he⟩, hb⟩ => ⟨?_, hb⟩
  rw [he, List.mem_singleton.1 hx]

theorem own : ownKnob Tryz.prog.godebug = none := by kernel_rfl
theorem readableI : Tryz.prog.readableRec 25 = true ∧ 25 < Tryz.prog.types.size := ⟨by kernel_rfl, of_decide_eq_true (by kernel_rfl)⟩

set_option maxRecDepth 100000 in
theorem contract (H : Type) (enc : TypeId × Value → H) (W : World) (base : Nat) (args : Array Value) (ds gs : List (DataW H)) (before : List MemPlace)
    (hval : ∀ (j : Nat) t v, Tryz.f4.params[j]? = some t → args[j]? = some v → Value.okWide Tryz.prog W .any base t v)
    (hW : DataW.Whole enc Tryz.prog Tryz.f4.params.toList Rows.snapLeastSpec.vars false W args.toList ds gs before) :
    Calls Tryz.prog 4 args W fun e W' => ∃ v, e = .returned v ∧ Rows.snapLeastSpec.post enc Tryz.prog Tryz.f4 false true false false W args v W' := by
  have hW' := hW
  obtain ⟨p, q, hA0, hV, rfl, hfz, hnd⟩ := hW
  have hA : DataW.TrodAll enc Tryz.prog W 0 (fun _ => true) true Tryz.f4.params.toList args.toList ds p := hA0
  rw [Tryz.params4] at hA hval
  obtain ⟨v0, vs0, d0, ds0, p0, q0, hargs, rfl, rfl, h0, r0⟩ := trodAll_cons hA
  obtain ⟨v1, vs1, d1, ds1, p1, q1, rfl, rfl, rfl, h1, r1⟩ := trodAll_cons r0
  obtain ⟨v2, vs2, d2, ds2, p2, q2, rfl, rfl, rfl, h2, r2⟩ := trodAll_cons r1
  obtain ⟨rfl, rfl, rfl⟩ := trodAll_nil r2
  obtain rfl : args = #[v0, v1, v2] := by cases args; simp_all
  obtain ⟨a, ha⟩ := list_read (hval 0 25 v0 rfl rfl) h0
  obtain ⟨b, hb⟩ := list_read (hval 1 25 v1 rfl rfl) h1
  obtain ⟨c, hc⟩ := list_read (hval 2 25 v2 rfl rfl) h2
  refine (walk v0 v1 v2 a b c W ha hb hc).mono fun e W' ⟨he, hb⟩ => ?_
  subst he
  refine ⟨_, rfl, Ev.law_post (tb := 4) laidOut (fun t ht => ?_) rfl (by kernel_rfl) Tryz.underlying4 rfl hW' hb⟩
  rw [Tryz.params4] at ht
  obtain rfl : t = 25 := by simpa using ht
  exact readableI
end Go.Proofs.YtjilmneaeocimaaGreatDoor.snap
