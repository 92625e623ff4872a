/-
  THE LAW 'counterpanelaw39.MinePassed' OF 6 LETTERS; printed by the author's PassN.py, run by the author's own evaluator over the words of its oracle.
-/
import Derived.Test.YtcnfmcbmephdfaaGreatDoorPsN0
namespace Go.Proofs.YtcnfmcbmephdfaaGreatDoor.minePassed
open Go Go.RowKit Go.Proofs.YtcnfmcbmephdfaaGreatDoor.Ev Go.Proofs.YtcnfmcbmephdfaaGreatDoor.d Go.Proofs.YtcnfmcbmephdfaaGreatDoor.snap
noncomputable def b7_6 (m w k : Int) (B C : Bool) : R := at_ k B C c7 ⟨t6 (tm4 m w k B C) m 6, 174, []⟩ (hp4 m w k B C)
noncomputable def b8_6 (m w k : Int) (B C : Bool) : R := at_ k B C c8 (frOf (b7_6 m w k B C)) (hpOf (b7_6 m w k B C))
noncomputable def tm8_6 (m w k : Int) (B C : Bool) : T SV := (frOf (b8_6 m w k B C)).tmps
noncomputable def hp8_6 (m w k : Int) (B C : Bool) : Hp := hpOf (b8_6 m w k B C)
set_option maxRecDepth 100000 in
theorem m7_6 (m w k : Int) (B C : Bool) : oneN (b7_6 m w k B C) = true := by kernel_rfl
set_option maxRecDepth 100000 in
theorem m8_6 (m w k : Int) (B C : Bool) : oneN (b8_6 m w k B C) = true := by kernel_rfl
set_option maxRecDepth 100000 in
theorem facts8_6 (m w k : Int) (B C : Bool) :
    frOf (b8_6 m w k B C) = ⟨tm8_6 m w k B C, 174, []⟩ ∧
    Fr.ev ⟨tm8_6 m w k B C, 174, []⟩ (.tmp 1) = .lit (.int .u8 w) ∧
    Fr.ev ⟨tm8_6 m w k B C, 174, []⟩ (.tmp 5) = .ptr 100 0 ∧
    Fr.ev ⟨tm8_6 m w k B C, 174, []⟩ (.tmp 7) = .ptr 105 0 ∧
    Fr.ev ⟨tm8_6 m w k B C, 174, []⟩ (.tmp 9) = .lit (.int .i64 6) ∧
    (hp8_6 m w k B C).objs.get 100 = some (.cells (oddCells k) 43) ∧
    (hp8_6 m w k B C).objs.get 105 = some (.cells [.ptr 102 0, .ptr 103 0, .ptr 104 0] 48) ∧
    undoerAt (hp8_6 m w k B C) 104 = true := by
  refine ⟨by kernel_rfl, by kernel_rfl, by kernel_rfl, by kernel_rfl, by kernel_rfl, by kernel_rfl, by kernel_rfl, by kernel_rfl⟩
noncomputable def b19_6 (m w k : Int) (B C : Bool) (x2 x3 x4 x5 x6 x7 x8 x9 y5 y6 : SV) : R := at_ k B C c19 ⟨t18 (t17 (tm8_6 m w k B C) 100 x2 x3 x4 x5 x6 x7 x8 x9) 105 104 y5 y6, 174, []⟩ (hp8_6 m w k B C)
noncomputable def tm19_6 (m w k : Int) (B C : Bool) (x2 x3 x4 x5 x6 x7 x8 x9 y5 y6 : SV) : T SV := (frOf (b19_6 m w k B C x2 x3 x4 x5 x6 x7 x8 x9 y5 y6)).tmps
noncomputable def hp19_6 (m w k : Int) (B C : Bool) (x2 x3 x4 x5 x6 x7 x8 x9 y5 y6 : SV) : Hp := hpOf (b19_6 m w k B C x2 x3 x4 x5 x6 x7 x8 x9 y5 y6)
set_option maxRecDepth 100000 in
theorem facts19_6 (m w k : Int) (B C : Bool) (x2 x3 x4 x5 x6 x7 x8 x9 y5 y6 : SV) :
    oneN (b19_6 m w k B C x2 x3 x4 x5 x6 x7 x8 x9 y5 y6) = true ∧
    frOf (b19_6 m w k B C x2 x3 x4 x5 x6 x7 x8 x9 y5 y6) = ⟨tm19_6 m w k B C x2 x3 x4 x5 x6 x7 x8 x9 y5 y6, 174, []⟩ ∧
    Fr.ev ⟨tm19_6 m w k B C x2 x3 x4 x5 x6 x7 x8 x9 y5 y6, 174, []⟩ (.tmp 1) = .lit (.int .u8 w) ∧
    Fr.ev ⟨tm19_6 m w k B C x2 x3 x4 x5 x6 x7 x8 x9 y5 y6, 174, []⟩ (.tmp 9) = .lit (.int .i64 6) := by
  refine ⟨by kernel_rfl, by kernel_rfl, by kernel_rfl, by kernel_rfl⟩
set_option maxRecDepth 100000 in
theorem endA_6_0 (m w k : Int) (B C : Bool) (x2 x3 x4 x5 x6 x7 x8 x9 : SV) : endTrue (at_ k B C r21 ⟨t21 (t17 (tm8_6 m w k B C) 100 x2 x3 x4 x5 x6 x7 x8 x9) w 6 0, 174, []⟩ (hp8_6 m w k B C)) = true := by kernel_rfl
set_option maxRecDepth 100000 in
theorem endB_6_0 (m w k : Int) (B C : Bool) (x2 x3 x4 x5 x6 x7 x8 x9 y5 y6 : SV) : endTrue (at_ k B C r21 ⟨t21 (tm19_6 m w k B C x2 x3 x4 x5 x6 x7 x8 x9 y5 y6) w 6 0, 174, []⟩ (hp19_6 m w k B C x2 x3 x4 x5 x6 x7 x8 x9 y5 y6)) = true := by kernel_rfl
set_option maxRecDepth 100000 in
theorem endA_6_1 (m w k : Int) (B C : Bool) (x2 x3 x4 x5 x6 x7 x8 x9 : SV) : endTrue (at_ k B C r21 ⟨t21 (t17 (tm8_6 m w k B C) 100 x2 x3 x4 x5 x6 x7 x8 x9) w 6 1, 174, []⟩ (hp8_6 m w k B C)) = true := by kernel_rfl
set_option maxRecDepth 100000 in
theorem endB_6_1 (m w k : Int) (B C : Bool) (x2 x3 x4 x5 x6 x7 x8 x9 y5 y6 : SV) : endTrue (at_ k B C r21 ⟨t21 (tm19_6 m w k B C x2 x3 x4 x5 x6 x7 x8 x9 y5 y6) w 6 1, 174, []⟩ (hp19_6 m w k B C x2 x3 x4 x5 x6 x7 x8 x9 y5 y6)) = true := by kernel_rfl
set_option maxRecDepth 100000 in
theorem endA_6_2 (m w k : Int) (B C : Bool) (x2 x3 x4 x5 x6 x7 x8 x9 : SV) : endTrue (at_ k B C r21 ⟨t21 (t17 (tm8_6 m w k B C) 100 x2 x3 x4 x5 x6 x7 x8 x9) w 6 2, 174, []⟩ (hp8_6 m w k B C)) = true := by kernel_rfl
set_option maxRecDepth 100000 in
theorem endB_6_2 (m w k : Int) (B C : Bool) (x2 x3 x4 x5 x6 x7 x8 x9 y5 y6 : SV) : endTrue (at_ k B C r21 ⟨t21 (tm19_6 m w k B C x2 x3 x4 x5 x6 x7 x8 x9 y5 y6) w 6 2, 174, []⟩ (hp19_6 m w k B C x2 x3 x4 x5 x6 x7 x8 x9 y5 y6)) = true := by kernel_rfl
set_option maxRecDepth 100000 in
theorem endA_6_3 (m w k : Int) (B C : Bool) (x2 x3 x4 x5 x6 x7 x8 x9 : SV) : endTrue (at_ k B C r21 ⟨t21 (t17 (tm8_6 m w k B C) 100 x2 x3 x4 x5 x6 x7 x8 x9) w 6 3, 174, []⟩ (hp8_6 m w k B C)) = true := by kernel_rfl
set_option maxRecDepth 100000 in
theorem endB_6_3 (m w k : Int) (B C : Bool) (x2 x3 x4 x5 x6 x7 x8 x9 y5 y6 : SV) : endTrue (at_ k B C r21 ⟨t21 (tm19_6 m w k B C x2 x3 x4 x5 x6 x7 x8 x9 y5 y6) w 6 3, 174, []⟩ (hp19_6 m w k B C x2 x3 x4 x5 x6 x7 x8 x9 y5 y6)) = true := by kernel_rfl
set_option maxRecDepth 100000 in
theorem endA_6_4 (m w k : Int) (B C : Bool) (x2 x3 x4 x5 x6 x7 x8 x9 : SV) : endTrue (at_ k B C r21 ⟨t21 (t17 (tm8_6 m w k B C) 100 x2 x3 x4 x5 x6 x7 x8 x9) w 6 4, 174, []⟩ (hp8_6 m w k B C)) = true := by kernel_rfl
set_option maxRecDepth 100000 in
theorem endB_6_4 (m w k : Int) (B C : Bool) (x2 x3 x4 x5 x6 x7 x8 x9 y5 y6 : SV) : endTrue (at_ k B C r21 ⟨t21 (tm19_6 m w k B C x2 x3 x4 x5 x6 x7 x8 x9 y5 y6) w 6 4, 174, []⟩ (hp19_6 m w k B C x2 x3 x4 x5 x6 x7 x8 x9 y5 y6)) = true := by kernel_rfl
set_option maxRecDepth 100000 in
theorem endA_6_5 (m w k : Int) (B C : Bool) (x2 x3 x4 x5 x6 x7 x8 x9 : SV) : endTrue (at_ k B C r21 ⟨t21 (t17 (tm8_6 m w k B C) 100 x2 x3 x4 x5 x6 x7 x8 x9) w 6 5, 174, []⟩ (hp8_6 m w k B C)) = true := by kernel_rfl
set_option maxRecDepth 100000 in
theorem endB_6_5 (m w k : Int) (B C : Bool) (x2 x3 x4 x5 x6 x7 x8 x9 y5 y6 : SV) : endTrue (at_ k B C r21 ⟨t21 (tm19_6 m w k B C x2 x3 x4 x5 x6 x7 x8 x9 y5 y6) w 6 5, 174, []⟩ (hp19_6 m w k B C x2 x3 x4 x5 x6 x7 x8 x9 y5 y6)) = true := by kernel_rfl
set_option maxRecDepth 20000 in
theorem rest_6 (m w k : Int) (B C : Bool) (hw0 : 0 ≤ w) (hw1 : w < 256) (hC : k = 7 ∨ B = false → C = true) : O.Runs Tryz.prog Γ0 (mem k B C) (.code r6 none ⟨t6 (tm4 m w k B C) m 6, 174, []⟩ (hp4 m w k B C)) Good := by
  refine O.runs_seq (a := c7) (b := r7) (pieceR 1000 (r := b7_6 m w k B C) rfl (m7_6 m w k B C) ?_)
  refine O.runs_seq (a := c8) (b := r8) (pieceR 1000 (r := b8_6 m w k B C) rfl (m8_6 m w k B C) ?_)
  obtain ⟨h1, e1, e5, e7, e9, hb, hp, hu⟩ := facts8_6 m w k B C
  rw [h1]
  refine r8_of hw0 hw1 (by omega) hC hb hp hu e1 e5 e7 e9 (fun x2 x3 x4 x5 x6 x7 x8 x9 => (fun j hj => by
      have hj : j = 0 ∨ j = 1 ∨ j = 2 ∨ j = 3 ∨ j = 4 ∨ j = 5 := by omega
      rcases hj with rfl | rfl | rfl | rfl | rfl | rfl
      · exact end_runs (endA_6_0 m w k B C x2 x3 x4 x5 x6 x7 x8 x9)
      · exact end_runs (endA_6_1 m w k B C x2 x3 x4 x5 x6 x7 x8 x9)
      · exact end_runs (endA_6_2 m w k B C x2 x3 x4 x5 x6 x7 x8 x9)
      · exact end_runs (endA_6_3 m w k B C x2 x3 x4 x5 x6 x7 x8 x9)
      · exact end_runs (endA_6_4 m w k B C x2 x3 x4 x5 x6 x7 x8 x9)
      · exact end_runs (endA_6_5 m w k B C x2 x3 x4 x5 x6 x7 x8 x9))) fun x2 x3 x4 x5 x6 x7 x8 x9 y5 y6 => ?_
  obtain ⟨g0, g1, g2, g3⟩ := facts19_6 m w k B C x2 x3 x4 x5 x6 x7 x8 x9 y5 y6
  refine pieceR 1000 (r := b19_6 m w k B C x2 x3 x4 x5 x6 x7 x8 x9 y5 y6) rfl g0 ?_
  rw [g1]
  exact r17_of hw0 hw1 (by omega) g2 g3 (fun j hj => by
      have hj : j = 0 ∨ j = 1 ∨ j = 2 ∨ j = 3 ∨ j = 4 ∨ j = 5 := by omega
      rcases hj with rfl | rfl | rfl | rfl | rfl | rfl
      · exact end_runs (endB_6_0 m w k B C x2 x3 x4 x5 x6 x7 x8 x9 y5 y6)
      · exact end_runs (endB_6_1 m w k B C x2 x3 x4 x5 x6 x7 x8 x9 y5 y6)
      · exact end_runs (endB_6_2 m w k B C x2 x3 x4 x5 x6 x7 x8 x9 y5 y6)
      · exact end_runs (endB_6_3 m w k B C x2 x3 x4 x5 x6 x7 x8 x9 y5 y6)
      · exact end_runs (endB_6_4 m w k B C x2 x3 x4 x5 x6 x7 x8 x9 y5 y6)
      · exact end_runs (endB_6_5 m w k B C x2 x3 x4 x5 x6 x7 x8 x9 y5 y6))
end Go.Proofs.YtcnfmcbmephdfaaGreatDoor.minePassed
