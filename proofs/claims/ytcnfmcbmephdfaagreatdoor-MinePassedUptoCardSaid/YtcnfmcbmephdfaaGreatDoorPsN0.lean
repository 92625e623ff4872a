/-
  THE LAW 'counterpanelaw39.MinePassed' UP TO ITS LETTERS; printed by the author's PassN.py, run by the author's own evaluator over the words of its oracle.
-/
import Derived.Test.YtcnfmcbmephdfaaGreatDoorPsO
import Derived.KernelRfl
namespace Go.Proofs.YtcnfmcbmephdfaaGreatDoor.minePassed
open Go Go.RowKit Go.Proofs.YtcnfmcbmephdfaaGreatDoor.Ev Go.Proofs.YtcnfmcbmephdfaaGreatDoor.d Go.Proofs.YtcnfmcbmephdfaaGreatDoor.snap
noncomputable def at_ (k : Int) (B C : Bool) (c : Code) (fr : Fr) (hp : Hp) : R := runO Tryz.prog Γ0 (mem k B C) 1000 (.code c none fr hp)
noncomputable def a0 (m w k : Int) (B C : Bool) : R := at_ k B C c0 ⟨T.ofList [.lit (.int .u8 m), .lit (.int .u8 w), .agg (oddCells k)] 0 .leaf, 174, []⟩ ⟨.leaf, 100⟩
noncomputable def a1 (m w k : Int) (B C : Bool) : R := at_ k B C c1 (frOf (a0 m w k B C)) (hpOf (a0 m w k B C))
noncomputable def a3 (m w k : Int) (B C : Bool) : R := at_ k B C c3 (frOf (a1 m w k B C)) (hpOf (a1 m w k B C))
noncomputable def a4 (m w k : Int) (B C : Bool) : R := at_ k B C c4 (frOf (a3 m w k B C)) (hpOf (a3 m w k B C))
noncomputable def tm4 (m w k : Int) (B C : Bool) : T SV := (frOf (a4 m w k B C)).tmps
noncomputable def hp4 (m w k : Int) (B C : Bool) : Hp := hpOf (a4 m w k B C)
set_option maxRecDepth 100000 in
theorem n0 (m w k : Int) (B C : Bool) : oneN (a0 m w k B C) = true := by kernel_rfl
set_option maxRecDepth 100000 in
theorem n1 (m w k : Int) (B C : Bool) : oneN (a1 m w k B C) = true := by kernel_rfl
set_option maxRecDepth 100000 in
theorem n3 (m w k : Int) (B C : Bool) : oneN (a3 m w k B C) = true := by kernel_rfl
set_option maxRecDepth 100000 in
theorem n4 (m w k : Int) (B C : Bool) : oneN (a4 m w k B C) = true := by kernel_rfl
set_option maxRecDepth 100000 in
theorem fr4 (m w k : Int) (B C : Bool) : frOf (a4 m w k B C) = ⟨tm4 m w k B C, 174, []⟩ := by kernel_rfl
set_option maxRecDepth 100000 in
theorem ev4 (m w k : Int) (B C : Bool) : Fr.ev ⟨tm4 m w k B C, 174, []⟩ (.tmp 0) = .lit (.int .u8 m) := by kernel_rfl
theorem start_runs (m w k : Int) (B C : Bool) {Φ : Out → Prop} (h : O.Runs Tryz.prog Γ0 (mem k B C) (.code r4 none ⟨tm4 m w k B C, 174, []⟩ (hp4 m w k B C)) Φ) : O.Runs Tryz.prog Γ0 (mem k B C) (.code body none ⟨T.ofList [.lit (.int .u8 m), .lit (.int .u8 w), .agg (oddCells k)] 0 .leaf, 174, []⟩ ⟨.leaf, 100⟩) Φ := by
  refine O.runs_seq (a := c0) (b := r0) (pieceR 1000 (r := a0 m w k B C) rfl (n0 m w k B C) ?_)
  refine O.runs_seq (a := c1) (b := r1) (pieceR 1000 (r := a1 m w k B C) rfl (n1 m w k B C) ?_)
  refine O.runs_seq (a := c3) (b := r3) (pieceR 1000 (r := a3 m w k B C) rfl (n3 m w k B C) ?_)
  refine O.runs_seq (a := c4) (b := r4) (pieceR 1000 (r := a4 m w k B C) rfl (n4 m w k B C) ?_)
  rw [fr4]
  exact h
def Good (o : Out) : Prop := ∃ r, leave Tryz.prog Γ0 Tryz.f3 o = some [r] ∧ r.v = .lit (.bool true)
theorem end_runs {k : Int} {B C : Bool} {fr : Fr} {hp : Hp} (h : endTrue (at_ k B C r21 fr hp) = true) : O.Runs Tryz.prog Γ0 (mem k B C) (.code r21 none fr hp) Good := by
  obtain ⟨l, h1, h2⟩ := endTrue_spec h
  refine O.Runs.intro 1000 h1 fun o ho => ?_
  obtain ⟨t, n, hp, v, rfl, hg⟩ := h2 o ho
  exact ⟨_, leave_t1 rfl (by simp only [Fr.ev, hg]), rfl⟩
theorem r17_of {M : Oracle} {tm : T SV} {h : Hp} {w n : Int} (hw0 : 0 ≤ w) (hw1 : w < 256) (hn : 0 < n) (e1 : Fr.ev ⟨tm, 174, []⟩ (.tmp 1) = .lit (.int .u8 w)) (e9 : Fr.ev ⟨tm, 174, []⟩ (.tmp 9) = .lit (.int .i64 n))
    (he : ∀ j, w % n = j → O.Runs Tryz.prog Γ0 M (.code r21 none ⟨t21 tm w n j, 174, []⟩ h) Good) : O.Runs Tryz.prog Γ0 M (.code r17 none ⟨tm, 174, []⟩ h) Good :=
  O.runs_seq (a := c21) (b := r21) (which_runs hw0 hw1 hn rfl e1 e9 (he _ rfl))
set_option maxRecDepth 20000 in
theorem r8_of {k : Int} {B C : Bool} {tm : T SV} {h : Hp} {w n : Int} (hw0 : 0 ≤ w) (hw1 : w < 256) (hn : 0 < n) (hC : k = 7 ∨ B = false → C = true) (hb : h.objs.get 100 = some (.cells (oddCells k) 43)) (hp : h.objs.get 105 = some (.cells [.ptr 102 0, .ptr 103 0, .ptr 104 0] 48)) (hu : undoerAt h 104 = true)
    (e1 : Fr.ev ⟨tm, 174, []⟩ (.tmp 1) = .lit (.int .u8 w)) (e5 : Fr.ev ⟨tm, 174, []⟩ (.tmp 5) = .ptr 100 0) (e7 : Fr.ev ⟨tm, 174, []⟩ (.tmp 7) = .ptr 105 0) (e9 : Fr.ev ⟨tm, 174, []⟩ (.tmp 9) = .lit (.int .i64 n))
    (ha : ∀ x2 x3 x4 x5 x6 x7 x8 x9 j, w % n = j → O.Runs Tryz.prog Γ0 (mem k B C) (.code r21 none ⟨t21 (t17 tm 100 x2 x3 x4 x5 x6 x7 x8 x9) w n j, 174, []⟩ h) Good)
    (hc : ∀ x2 x3 x4 x5 x6 x7 x8 x9 y5 y6, O.Runs Tryz.prog Γ0 (mem k B C) (.code c19 none ⟨t18 (t17 tm 100 x2 x3 x4 x5 x6 x7 x8 x9) 105 104 y5 y6, 174, []⟩ h) (O.Then (fun f p => O.Runs Tryz.prog Γ0 (mem k B C) (.code r17 none f p) Good) Good)) :
    O.Runs Tryz.prog Γ0 (mem k B C) (.code r8 none ⟨tm, 174, []⟩ h) Good := by
  refine O.runs_seq (a := c17) (b := r17) (odd_runs hC hb hp hu e5 e7 (fun x2 x3 x4 x5 x6 x7 x8 x9 => ?_) fun _ x2 x3 x4 x5 x6 x7 x8 x9 y5 y6 => hc x2 x3 x4 x5 x6 x7 x8 x9 y5 y6)
  exact r17_of hw0 hw1 hn (by simp only [t17, ev_set]; exact e1) (by simp only [t17, ev_set]; exact e9) (ha x2 x3 x4 x5 x6 x7 x8 x9)
end Go.Proofs.YtcnfmcbmephdfaaGreatDoor.minePassed
