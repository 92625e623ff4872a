/-
  WHAT 'counterpanelaw29.great' COMES TO, of no act and one edit that can be read: yes or no; by the author of this claim, in the calculus of runs.
-/
import Derived.Test.YthjkejnmjbljfaaGreatDoorUndoNilQ
namespace Go.Proofs.YthjkejnmjbljfaaGreatDoor.undoNil
open Go Go.Proofs.YthjkejnmjbljfaaGreatDoor.Ev

set_option maxHeartbeats 4000000 in
set_option maxRecDepth 20000 in
theorem great16 (Γ : Glob) (h : Hp) : Runs Tryz.prog Γ (.call 16 [.lit (.slice none 0 0)] h) fun r => r.v = .lit (.bool false) ∧ r.hp = h := by
  refine runs_call Tryz.func16 rfl ?_
  refine runs_seq (runs_region ?_)
  refine ops_quiet rfl rfl rfl ?_
  refine ops_nil ?_
  refine runs_seq (runs_seq (runs_region ?_))
  refine ops_quiet rfl rfl rfl ?_
  refine ops_quiet (v := .lit (.int .i64 0)) rfl rfl rfl ?_
  refine ops_quiet (v := .lit (.bool false)) rfl rfl rfl ?_
  refine ops_nil ?_
  refine runs_cond false rfl ?_
  refine runs_skip ?_
  refine runs_seq (runs_seq (runs_region ?_))
  refine ops_quiet rfl rfl rfl ?_
  refine ops_nil ?_
  refine runs_block ?_
  refine runs_loop ?_
  refine runs_seq (runs_seq (runs_region ?_))
  refine ops_quiet rfl rfl rfl ?_
  refine ops_quiet rfl rfl rfl ?_
  refine ops_quiet (v := .lit (.int .i64 0)) rfl rfl rfl ?_
  refine ops_quiet (v := .lit (.bool false)) rfl rfl rfl ?_
  refine ops_nil ?_
  refine runs_cond false rfl ?_
  refine runs_exit ?_
  refine runs_seq (runs_region ?_)
  refine ops_quiet rfl rfl rfl ?_
  refine ops_nil ?_
  refine runs_ret ?_
  exact ⟨_, rfl, rfl, rfl⟩

set_option maxHeartbeats 4000000 in
set_option maxRecDepth 20000 in
theorem great_runs (Γ : Glob) (g f s m : Nat) (cs : List SV) (hread : ∀ h, readCells Γ h (.lit (.pointer (some ⟨g, 1, none⟩))) 40 = some (cs, [])) (hed : IsEd Γ f cs s) (hs : s ≤ 1048576) :
    Runs Tryz.prog Γ (.call 5 [.lit (.slice none 0 0), .lit (.slice (some ⟨g, 0, none⟩) 1 1)] ⟨.leaf, m⟩) fun o => ∃ v ∈ [Value.bool true, .bool false], o.v = .lit v := by
  obtain ⟨b, hb⟩ : ∃ b : Bool, decide (((0 + s : Nat) : Int) > 200) = b := ⟨_, rfl⟩
  refine runs_call Tryz.func5 rfl ?_
  refine runs_seq (runs_region ?_)
  refine ops_quiet rfl rfl rfl ?_
  refine ops_nil ?_
  refine runs_seq (runs_seq (runs_region ?_))
  refine ops_quiet rfl rfl rfl ?_
  refine ops_call (f := 16) (args := [.lit (.slice none 0 0)]) rfl rfl rfl rfl ?_
  refine (great16 Γ ⟨.leaf, m⟩).mono ?_
  rintro ⟨ex, fr, hp, v⟩ ⟨hv, hhp⟩
  have hv : v = .lit (.bool false) := hv
  have hhp : hp = ⟨.leaf, m⟩ := hhp
  subst hv hhp
  refine ⟨_, rfl, ?_⟩
  refine ops_quiet rfl rfl rfl ?_
  refine ops_quiet rfl rfl rfl ?_
  refine ops_quiet (v := .lit (.int .i64 1)) rfl rfl rfl ?_
  refine ops_quiet (v := .lit (.bool false)) rfl rfl rfl ?_
  refine ops_quiet (v := .lit (.bool false)) rfl rfl rfl ?_
  refine ops_nil ?_
  refine runs_cond false rfl ?_
  refine runs_skip ?_
  refine runs_seq (runs_region ?_)
  refine ops_quiet rfl rfl rfl ?_
  refine ops_nil ?_
  refine runs_seq (runs_seq (runs_region ?_))
  refine ops_quiet rfl rfl rfl ?_
  refine ops_nil ?_
  refine runs_block ?_
  refine runs_loop ?_
  refine runs_seq (runs_seq (runs_region ?_))
  refine ops_quiet rfl rfl rfl ?_
  refine ops_quiet rfl rfl rfl ?_
  refine ops_quiet (v := .lit (.int .i64 1)) rfl rfl rfl ?_
  refine ops_quiet (v := .lit (.bool true)) rfl rfl rfl ?_
  refine ops_nil ?_
  refine runs_cond true rfl ?_
  refine runs_skip ?_
  refine runs_seq (runs_block (runs_seq (runs_region ?_)))
  refine ops_quiet rfl rfl rfl ?_
  refine ops_quiet rfl rfl rfl ?_
  refine ops_quiet rfl rfl rfl ?_
  refine ops_quiet (v := .lit (.pointer (some ⟨g, 0, none⟩))) (fs := []) rfl rfl rfl ?_
  refine ops_quiet (v := .lit (.pointer (some ⟨g, 1, none⟩))) (fs := []) rfl rfl rfl ?_
  refine ops_quiet (v := .agg cs) (fs := []) rfl (by
    show loadQ Tryz.prog Γ _ 41 (.lit (.pointer (some ⟨g, 1, none⟩))) = _
    simp only [loadQ, show tyAgg Tryz.prog 41 = some true from rfl, show tySize Tryz.prog 41 = some 40 from rfl, hread]) rfl ?_
  refine ops_call (f := 18) (args := [.agg cs]) rfl rfl rfl rfl ?_
  refine (plain_runs Γ f cs s hed hs _).mono ?_
  rintro ⟨ex, fr, hp, v⟩ ⟨c, hv, hpl, _⟩
  have hv : v = .agg c := hv
  subst hv
  refine ⟨_, rfl, ?_⟩
  refine ops_call (f := 17) (args := [.agg c]) rfl rfl rfl rfl ?_
  refine (size_runs Γ _ f c s hs hp hpl).mono ?_
  rintro ⟨ex2, fr2, hp2, v2⟩ ⟨hv2, _⟩
  have hv2 : v2 = .lit (.int .i64 (Int.ofNat s)) := hv2
  subst hv2
  refine ⟨_, rfl, ?_⟩
  refine ops_quiet (v := .lit (.int .i64 (Int.ofNat (0 + s)))) (fs := []) rfl (by
    have hw : IntKind.i64.wrap ((0 : Int) + (s : Int)) = ((0 + s : Nat) : Int) := add_nat (a := 0) (by omega)
    show one (some (.lit (.int .i64 (IntKind.i64.wrap ((0 : Int) + (s : Int)))))) = _
    rw [hw]
    rfl) rfl ?_
  refine ops_quiet rfl rfl rfl ?_
  refine ops_nil ?_
  refine runs_seq (runs_region ?_)
  refine ops_quiet rfl rfl rfl ?_
  refine ops_quiet (v := .lit (.bool b)) (fs := []) rfl (by
    rw [← hb]
    rfl) rfl ?_
  refine ops_nil ?_
  clear hb
  cases b with
  | true =>
    refine runs_cond true rfl ?_
    refine runs_seq (runs_region ?_)
    refine ops_quiet rfl rfl rfl ?_
    refine ops_nil ?_
    refine runs_ret ?_
    exact ⟨_, rfl, _, List.mem_cons_self .., rfl⟩
  | false =>
    refine runs_cond false rfl ?_
    refine runs_skip ?_
    refine runs_region ?_
    refine ops_quiet rfl rfl rfl ?_
    refine ops_quiet (v := .lit (.int .i64 1)) rfl rfl rfl ?_
    refine ops_quiet rfl rfl rfl ?_
    refine ops_nil ?_
    refine runs_loop ?_
    refine runs_seq (runs_seq (runs_region ?_))
    refine ops_quiet rfl rfl rfl ?_
    refine ops_quiet rfl rfl rfl ?_
    refine ops_quiet (v := .lit (.int .i64 1)) rfl rfl rfl ?_
    refine ops_quiet (v := .lit (.bool false)) rfl rfl rfl ?_
    refine ops_nil ?_
    refine runs_cond false rfl ?_
    refine runs_exit ?_
    refine runs_seq (runs_region ?_)
    refine ops_quiet rfl rfl rfl ?_
    refine ops_nil ?_
    refine runs_ret ?_
    exact ⟨_, rfl, _, List.mem_cons_of_mem _ (List.mem_cons_self ..), rfl⟩
end Go.Proofs.YthjkejnmjbljfaaGreatDoor.undoNil
