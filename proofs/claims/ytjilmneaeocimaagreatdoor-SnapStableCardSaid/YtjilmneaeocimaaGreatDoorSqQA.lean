/-
  THE CARD OF 'counterpanelaw40.SnapStable': for every list of lists of ids the law returns true, and its argument reads as it did. No condition.
-/
import Derived.Test.YtjilmneaeocimaaGreatDoorRows
import Derived.Test.YtjilmneaeocimaaGreatDoorSpP
import Derived.Test.YtjilmneaeocimaaGreatDoorSqZF
import Derived.WalkKit
import Derived.ProofKit
import Derived.OpenShut
import Derived.ChangeMaps5
import Derived.Deep.DeepHandedRow
namespace Go.Proofs.YtjilmneaeocimaaGreatDoor.stab
open Go.Proofs.YtjilmneaeocimaaGreatDoor.snap
open Go.ChangeShapes Go.WideShapes Go.ChangeAt Go.RowKit
open Go Go.Proofs.YtjilmneaeocimaaGreatDoor.Ev

set_option maxRecDepth 10000 in
theorem litLenL (h : Hp) (p : Option Addr) (n c : Nat) : lenQ Tryz.prog h 22 (.lit (.slice p n c)) = some (.lit (.int .i64 (Int.ofNat n)), []) := rfl
theorem litIdxL {g off n c k : Nat} (h : k < n) : indexAddrQ Tryz.prog 22 (.lit (.slice (some ⟨g, off, none⟩) n c)) (.lit (.int .i64 (Int.ofNat k))) = some (.lit (.pointer (some ⟨g, off + k * 1, none⟩))) := by
  simp only [indexAddrQ, tyLists, szList, idxQ]
  rw [show Nat.blt k n = true from Nat.ble_eq_true_of_le h, cond_true]
theorem cellsL : Tryz.prog.cellsOf 25 = 1 := by kernel_rfl
section
variable {H : Type} {enc : TypeId × Value → H} {w : World} {sp : Nat → Bool} {held : Bool}
set_option maxRecDepth 20000 in
/-- A list of ids, in one cell. -/
theorem list_cell {fuel : Nat} {cs : List Value} {x : DataW H × List MemPlace} (h : DataW.trod enc Tryz.prog w 0 sp held fuel 25 cs = some x) : ∃ v ids, cs = [v] ∧ IL (allTab w) (.lit v) ids := by
  rcases fuel with _ | fuel
  · cases h
  · rcases slice_read (d := x.1) (ps := x.2) Tryz.underlying25 (by rw [cellsI]; decide) h with ⟨p, cap, hv⟩ | ⟨g, off, cap, ks, hv, _, hk⟩
    · exact ⟨_, [], hv, .inl ⟨p, cap, rfl, rfl⟩⟩
    · refine ⟨_, ks.map fun x => idOf x.1, hv, .inr ⟨g, off, cap, by rw [List.length_map], fun k d hd h' => ?_⟩⟩
      rw [List.getElem?_map, Option.map_eq_some_iff] at hd
      obtain ⟨x, hx, rfl⟩ := hd
      obtain ⟨_, ⟨ps', ht⟩, hrd⟩ := hk k x hx
      have h3 := id_read ht
      have h4 := hrd h'
      rw [cellsI] at h4
      rw [h4, show x.1.map SV.lit = idC (idOf x.1) by
        conv => lhs; rw [h3]
        rfl]
open Classical in
/-- The ids that a cell's list holds. -/
noncomputable def idsOf (Γ : Glob) (v : Value) : List (Int × Int) := if h : ∃ ids, IL Γ (.lit v) ids then Classical.choose h else []
theorem idsOf_is {Γ : Glob} {v : Value} (h : ∃ ids, IL Γ (.lit v) ids) : IL Γ (.lit v) (idsOf Γ v) := by
  rw [idsOf, dif_pos h]
  exact Classical.choose_spec h
set_option maxRecDepth 20000 in
/-- A list of lists of ids that came in. -/
theorem lists_read {r : Reach} {b : Nat} {v : Value} {d : DataW H} {ps : List MemPlace} (hok : Value.okWide Tryz.prog w r b 22 v) (h : DataW.Trod enc Tryz.prog w 0 sp held 22 v d ps) : ∃ idss, OL (allTab w) (.lit v) idss := by
  obtain ⟨fuel, h⟩ := h
  rw [slice_val Tryz.underlying22 hok] at h
  rcases fuel with _ | fuel
  · cases h
  · rcases slice_read Tryz.underlying22 (by rw [cellsL]; decide) h with ⟨p, cap, hv⟩ | ⟨g, off, cap, ks, hv, _, hk⟩
    · obtain rfl : v = .slice p 0 cap := by simpa using hv
      exact ⟨[], fun h' => litLenL h' _ _ _, fun k x hx => by simp at hx⟩
    · obtain rfl : v = .slice (some ⟨g, off, none⟩) ks.length cap := by simpa using hv
      refine ⟨ks.map fun x => idsOf (allTab w) (x.1.getD 0 undef), fun h' => by rw [List.length_map]; exact litLenL h' _ _ _, fun k d hd => ?_⟩
      rw [List.getElem?_map, Option.map_eq_some_iff] at hd
      obtain ⟨x, hx, rfl⟩ := hd
      obtain ⟨_, ⟨ps', ht⟩, hrd⟩ := hk k x hx
      obtain ⟨u, ids, hc, hu⟩ := list_cell ht
      have hg : x.1.getD 0 undef = u := by
        rw [hc]
        rfl
      rw [hg]
      refine ⟨_, .lit u, litIdxL (List.getElem?_eq_some_iff.1 hx).1, fun h' => ⟨[], ?_⟩, fun lo h => (idsOf_is ⟨ids, hu⟩).ids lo h⟩
      have h4 := hrd h'
      rw [cellsL, hc] at h4
      simp only [loadQ, aggList, h4]
      rfl
end
theorem walk (va : Value) (idss : List (List (Int × Int))) (w : World) (ha : OL (Ev.allTab w) (.lit va) idss) : Calls Tryz.prog 3 #[va] w fun e w' => e = .returned (.bool true) ∧ Below w.heap.size w w' := by
  have h := Ev.calls_of_runsV (P := Tryz.prog) (Γ := Ev.allTab w) noCount mixed (theMemOk _) (m := 0) (f := 3) (args := [.lit va]) ⟨fun _ => 0, fun _ => 0, fun _ => 0, fun _ => .bool false⟩ (w := w) (vs := [.bool true])
    ((stab_runs (Ev.allTab w) ⟨.leaf, 0⟩ (.lit va) idss ha).mono fun o ho => ⟨_, List.mem_singleton_self _, ho⟩) (Ev.allTab_met w) ⟨trivial, trivial⟩
  refine h.mono fun e w' ⟨⟨x, hx, he⟩, hb⟩ => ⟨?_, hb⟩
  rw [he, List.mem_singleton.1 hx]

theorem own : ownKnob Tryz.prog.godebug = none := by kernel_rfl
theorem readableL : Tryz.prog.readableRec 22 = true ∧ 22 < Tryz.prog.types.size := ⟨by kernel_rfl, of_decide_eq_true (by kernel_rfl)⟩

set_option maxRecDepth 100000 in
theorem contract (H : Type) (enc : TypeId × Value → H) (W : World) (base : Nat) (args : Array Value) (ds gs : List (DataW H)) (before : List MemPlace)
    (hval : ∀ (j : Nat) t v, Tryz.f3.params[j]? = some t → args[j]? = some v → Value.okWide Tryz.prog W .any base t v)
    (hW : DataW.Whole enc Tryz.prog Tryz.f3.params.toList Rows.snapStableSpec.vars false W args.toList ds gs before) :
    Calls Tryz.prog 3 args W fun e W' => ∃ v, e = .returned v ∧ Rows.snapStableSpec.post enc Tryz.prog Tryz.f3 false true false false W args v W' := by
  have hW' := hW
  obtain ⟨p, q, hA0, hV, rfl, hfz, hnd⟩ := hW
  have hA : DataW.TrodAll enc Tryz.prog W 0 (fun _ => true) true Tryz.f3.params.toList args.toList ds p := hA0
  rw [Tryz.params3] at hA hval
  obtain ⟨v0, vs0, d0, ds0, p0, q0, hargs, rfl, rfl, h0, r0⟩ := trodAll_cons hA
  obtain ⟨rfl, rfl, rfl⟩ := trodAll_nil r0
  obtain rfl : args = #[v0] := by cases args; simp_all
  obtain ⟨idss, ha⟩ := lists_read (hval 0 22 v0 rfl rfl) h0
  refine (walk v0 idss W ha).mono fun e W' ⟨he, hb⟩ => ?_
  subst he
  refine ⟨_, rfl, Ev.law_post (tb := 4) laidOut (fun t ht => ?_) rfl (by kernel_rfl) Tryz.underlying4 rfl hW' hb⟩
  rw [Tryz.params3] at ht
  obtain rfl : t = 22 := by simpa using ht
  exact readableL
end Go.Proofs.YtjilmneaeocimaaGreatDoor.stab
