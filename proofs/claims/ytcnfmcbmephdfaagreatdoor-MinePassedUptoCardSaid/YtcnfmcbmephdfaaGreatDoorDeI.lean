/-
  SIGNS, AREAS, NAMES.
-/
import Derived.Test.YtcnfmcbmephdfaaGreatDoorDeG
import Derived.Test.YtcnfmcbmephdfaaGreatDoorDeA
import Derived.Test.YtcnfmcbmephdfaaGreatDoorDeB
namespace Go.Proofs.YtcnfmcbmephdfaaGreatDoor.d
open Go Go.Proofs.YtcnfmcbmephdfaaGreatDoor.Ev Go.Proofs.YtcnfmcbmephdfaaGreatDoor.snap
def isUnary (s : List UInt8) : Bool :=
 if s = [45] then
  true
 else
  if s = [43] then
   true
  else
   if s = [37] then
    true
   else
    false
set_option maxHeartbeats 8000000 in
set_option maxRecDepth 20000 in
theorem isUnary_runs (Γ : Glob) (s : List UInt8) (h : Hp)  : Runs Tryz.prog Γ (.call 178 [sV s] h) (Tells h (bV (isUnary s))) := by
 refine runs_call Tryz.func178 rfl ?_
 refine sr ?_
 refine oq (bV false) ?_
 refine nt ?_
 refine runs_seq ?_
 refine sr ?_
 refine oq (sV s) ?_
 refine nt ?_
 refine runs_blk ?_
 refine runs_seq ?_
 refine sr ?_
 by_cases c1 : s = [45]
 refine oqp (bV true) (by exact congrArg one (t_eqlT c1)) ?_
 have q2 : ((s).length : Int) = (([45] : List UInt8).length : Int) := by rw [c1]
 simp only [List.length_cons, List.length_nil] at q2
 refine oq (bV true) ?_
 refine nt ?_
 refine runs_cond true rfl ?_
 refine runs_skip ?_
 refine then_n ?_
 refine runs_cond true rfl ?_
 refine sr ?_
 refine oq (bV true) ?_
 refine nt ?_
 refine runs_ret ?_
 refine blk_r ?_
 refine then_r ?_
 exact ⟨_, leave_t1 rfl rfl, fb (true) (by simp only [isUnary, if_pos c1]), (Kept.refl _ _)⟩
 refine oqp (bV false) (by exact congrArg one (t_eqlF c1)) ?_
 refine oq (bV false) ?_
 refine nt ?_
 refine runs_cond false rfl ?_
 refine sr ?_
 by_cases c3 : s = [43]
 refine oqp (bV true) (by exact congrArg one (t_eqlT c3)) ?_
 have q4 : ((s).length : Int) = (([43] : List UInt8).length : Int) := by rw [c3]
 simp only [List.length_cons, List.length_nil] at q4
 refine oq (bV true) ?_
 refine nt ?_
 refine runs_cond true rfl ?_
 refine runs_skip ?_
 refine then_n ?_
 refine runs_cond true rfl ?_
 refine sr ?_
 refine oq (bV true) ?_
 refine nt ?_
 refine runs_ret ?_
 refine blk_r ?_
 refine then_r ?_
 exact ⟨_, leave_t1 rfl rfl, fb (true) (by simp only [isUnary, if_neg c1, if_pos c3]), (Kept.refl _ _)⟩
 refine oqp (bV false) (by exact congrArg one (t_eqlF c3)) ?_
 refine oq (bV false) ?_
 refine nt ?_
 refine runs_cond false rfl ?_
 refine runs_region ?_
 by_cases c5 : s = [37]
 refine oqp (bV true) (by exact congrArg one (t_eqlT c5)) ?_
 have q6 : ((s).length : Int) = (([37] : List UInt8).length : Int) := by rw [c5]
 simp only [List.length_cons, List.length_nil] at q6
 refine oq (bV true) ?_
 refine nt ?_
 refine runs_cond true rfl ?_
 refine sr ?_
 refine oq (bV true) ?_
 refine nt ?_
 refine runs_ret ?_
 refine blk_r ?_
 refine then_r ?_
 exact ⟨_, leave_t1 rfl rfl, fb (true) (by simp only [isUnary, if_neg c1, if_neg c3, if_pos c5]), (Kept.refl _ _)⟩
 refine oqp (bV false) (by exact congrArg one (t_eqlF c5)) ?_
 refine oq (bV false) ?_
 refine nt ?_
 refine runs_cond false rfl ?_
 refine runs_skip ?_
 refine blk_n ?_
 refine then_n ?_
 refine sr ?_
 refine oq (bV false) ?_
 refine nt ?_
 refine runs_ret ?_
 exact ⟨_, leave_t1 rfl rfl, fb (false) (by simp only [isUnary, if_neg c1, if_neg c3, if_neg c5]), (Kept.refl _ _)⟩
def isBinary (s : List UInt8) : Bool :=
 if s = [43] then
  true
 else
  if s = [45] then
   true
  else
   if s = [42] then
    true
   else
    if s = [47] then
     true
    else
     if s = [94] then
      true
     else
      if s = [38] then
       true
      else
       if s = [61] then
        true
       else
        if s = [60, 62] then
         true
        else
         if s = [60] then
          true
         else
          if s = [60, 61] then
           true
          else
           if s = [62] then
            true
           else
            if s = [62, 61] then
             true
            else
             false
set_option maxHeartbeats 8000000 in
set_option maxRecDepth 20000 in
theorem isBinary_runs (Γ : Glob) (s : List UInt8) (h : Hp)  : Runs Tryz.prog Γ (.call 179 [sV s] h) (Tells h (bV (isBinary s))) := by
 refine runs_call Tryz.func179 rfl ?_
 refine sr ?_
 refine oq (bV false) ?_
 refine nt ?_
 refine runs_seq ?_
 refine sr ?_
 refine oq (sV s) ?_
 refine nt ?_
 refine runs_blk ?_
 refine runs_seq ?_
 refine sr ?_
 by_cases c1 : s = [43]
 refine oqp (bV true) (by exact congrArg one (t_eqlT c1)) ?_
 have q2 : ((s).length : Int) = (([43] : List UInt8).length : Int) := by rw [c1]
 simp only [List.length_cons, List.length_nil] at q2
 refine oq (bV true) ?_
 refine nt ?_
 refine runs_cond true rfl ?_
 refine runs_skip ?_
 refine then_n ?_
 refine runs_cond true rfl ?_
 refine sr ?_
 refine oq (bV true) ?_
 refine nt ?_
 refine runs_ret ?_
 refine blk_r ?_
 refine then_r ?_
 exact ⟨_, leave_t1 rfl rfl, fb (true) (by simp only [isBinary, if_pos c1]), (Kept.refl _ _)⟩
 refine oqp (bV false) (by exact congrArg one (t_eqlF c1)) ?_
 refine oq (bV false) ?_
 refine nt ?_
 refine runs_cond false rfl ?_
 refine sr ?_
 by_cases c3 : s = [45]
 refine oqp (bV true) (by exact congrArg one (t_eqlT c3)) ?_
 have q4 : ((s).length : Int) = (([45] : List UInt8).length : Int) := by rw [c3]
 simp only [List.length_cons, List.length_nil] at q4
 refine oq (bV true) ?_
 refine nt ?_
 refine runs_cond true rfl ?_
 refine runs_skip ?_
 refine then_n ?_
 refine runs_cond true rfl ?_
 refine sr ?_
 refine oq (bV true) ?_
 refine nt ?_
 refine runs_ret ?_
 refine blk_r ?_
 refine then_r ?_
 exact ⟨_, leave_t1 rfl rfl, fb (true) (by simp only [isBinary, if_neg c1, if_pos c3]), (Kept.refl _ _)⟩
 refine oqp (bV false) (by exact congrArg one (t_eqlF c3)) ?_
 refine oq (bV false) ?_
 refine nt ?_
 refine runs_cond false rfl ?_
 refine sr ?_
 by_cases c5 : s = [42]
 refine oqp (bV true) (by exact congrArg one (t_eqlT c5)) ?_
 have q6 : ((s).length : Int) = (([42] : List UInt8).length : Int) := by rw [c5]
 simp only [List.length_cons, List.length_nil] at q6
 refine oq (bV true) ?_
 refine nt ?_
 refine runs_cond true rfl ?_
 refine runs_skip ?_
 refine then_n ?_
 refine runs_cond true rfl ?_
 refine sr ?_
 refine oq (bV true) ?_
 refine nt ?_
 refine runs_ret ?_
 refine blk_r ?_
 refine then_r ?_
 exact ⟨_, leave_t1 rfl rfl, fb (true) (by simp only [isBinary, if_neg c1, if_neg c3, if_pos c5]), (Kept.refl _ _)⟩
 refine oqp (bV false) (by exact congrArg one (t_eqlF c5)) ?_
 refine oq (bV false) ?_
 refine nt ?_
 refine runs_cond false rfl ?_
 refine sr ?_
 by_cases c7 : s = [47]
 refine oqp (bV true) (by exact congrArg one (t_eqlT c7)) ?_
 have q8 : ((s).length : Int) = (([47] : List UInt8).length : Int) := by rw [c7]
 simp only [List.length_cons, List.length_nil] at q8
 refine oq (bV true) ?_
 refine nt ?_
 refine runs_cond true rfl ?_
 refine runs_skip ?_
 refine then_n ?_
 refine runs_cond true rfl ?_
 refine sr ?_
 refine oq (bV true) ?_
 refine nt ?_
 refine runs_ret ?_
 refine blk_r ?_
 refine then_r ?_
 exact ⟨_, leave_t1 rfl rfl, fb (true) (by simp only [isBinary, if_neg c1, if_neg c3, if_neg c5, if_pos c7]), (Kept.refl _ _)⟩
 refine oqp (bV false) (by exact congrArg one (t_eqlF c7)) ?_
 refine oq (bV false) ?_
 refine nt ?_
 refine runs_cond false rfl ?_
 refine sr ?_
 by_cases c9 : s = [94]
 refine oqp (bV true) (by exact congrArg one (t_eqlT c9)) ?_
 have q10 : ((s).length : Int) = (([94] : List UInt8).length : Int) := by rw [c9]
 simp only [List.length_cons, List.length_nil] at q10
 refine oq (bV true) ?_
 refine nt ?_
 refine runs_cond true rfl ?_
 refine runs_skip ?_
 refine then_n ?_
 refine runs_cond true rfl ?_
 refine sr ?_
 refine oq (bV true) ?_
 refine nt ?_
 refine runs_ret ?_
 refine blk_r ?_
 refine then_r ?_
 exact ⟨_, leave_t1 rfl rfl, fb (true) (by simp only [isBinary, if_neg c1, if_neg c3, if_neg c5, if_neg c7, if_pos c9]), (Kept.refl _ _)⟩
 refine oqp (bV false) (by exact congrArg one (t_eqlF c9)) ?_
 refine oq (bV false) ?_
 refine nt ?_
 refine runs_cond false rfl ?_
 refine sr ?_
 by_cases c11 : s = [38]
 refine oqp (bV true) (by exact congrArg one (t_eqlT c11)) ?_
 have q12 : ((s).length : Int) = (([38] : List UInt8).length : Int) := by rw [c11]
 simp only [List.length_cons, List.length_nil] at q12
 refine oq (bV true) ?_
 refine nt ?_
 refine runs_cond true rfl ?_
 refine runs_skip ?_
 refine then_n ?_
 refine runs_cond true rfl ?_
 refine sr ?_
 refine oq (bV true) ?_
 refine nt ?_
 refine runs_ret ?_
 refine blk_r ?_
 refine then_r ?_
 exact ⟨_, leave_t1 rfl rfl, fb (true) (by simp only [isBinary, if_neg c1, if_neg c3, if_neg c5, if_neg c7, if_neg c9, if_pos c11]), (Kept.refl _ _)⟩
 refine oqp (bV false) (by exact congrArg one (t_eqlF c11)) ?_
 refine oq (bV false) ?_
 refine nt ?_
 refine runs_cond false rfl ?_
 refine sr ?_
 by_cases c13 : s = [61]
 refine oqp (bV true) (by exact congrArg one (t_eqlT c13)) ?_
 have q14 : ((s).length : Int) = (([61] : List UInt8).length : Int) := by rw [c13]
 simp only [List.length_cons, List.length_nil] at q14
 refine oq (bV true) ?_
 refine nt ?_
 refine runs_cond true rfl ?_
 refine runs_skip ?_
 refine then_n ?_
 refine runs_cond true rfl ?_
 refine sr ?_
 refine oq (bV true) ?_
 refine nt ?_
 refine runs_ret ?_
 refine blk_r ?_
 refine then_r ?_
 exact ⟨_, leave_t1 rfl rfl, fb (true) (by simp only [isBinary, if_neg c1, if_neg c3, if_neg c5, if_neg c7, if_neg c9, if_neg c11, if_pos c13]), (Kept.refl _ _)⟩
 refine oqp (bV false) (by exact congrArg one (t_eqlF c13)) ?_
 refine oq (bV false) ?_
 refine nt ?_
 refine runs_cond false rfl ?_
 refine sr ?_
 by_cases c15 : s = [60, 62]
 refine oqp (bV true) (by exact congrArg one (t_eqlT c15)) ?_
 have q16 : ((s).length : Int) = (([60, 62] : List UInt8).length : Int) := by rw [c15]
 simp only [List.length_cons, List.length_nil] at q16
 refine oq (bV true) ?_
 refine nt ?_
 refine runs_cond true rfl ?_
 refine runs_skip ?_
 refine then_n ?_
 refine runs_cond true rfl ?_
 refine sr ?_
 refine oq (bV true) ?_
 refine nt ?_
 refine runs_ret ?_
 refine blk_r ?_
 refine then_r ?_
 exact ⟨_, leave_t1 rfl rfl, fb (true) (by simp only [isBinary, if_neg c1, if_neg c3, if_neg c5, if_neg c7, if_neg c9, if_neg c11, if_neg c13, if_pos c15]), (Kept.refl _ _)⟩
 refine oqp (bV false) (by exact congrArg one (t_eqlF c15)) ?_
 refine oq (bV false) ?_
 refine nt ?_
 refine runs_cond false rfl ?_
 refine sr ?_
 by_cases c17 : s = [60]
 refine oqp (bV true) (by exact congrArg one (t_eqlT c17)) ?_
 have q18 : ((s).length : Int) = (([60] : List UInt8).length : Int) := by rw [c17]
 simp only [List.length_cons, List.length_nil] at q18
 refine oq (bV true) ?_
 refine nt ?_
 refine runs_cond true rfl ?_
 refine runs_skip ?_
 refine then_n ?_
 refine runs_cond true rfl ?_
 refine sr ?_
 refine oq (bV true) ?_
 refine nt ?_
 refine runs_ret ?_
 refine blk_r ?_
 refine then_r ?_
 exact ⟨_, leave_t1 rfl rfl, fb (true) (by simp only [isBinary, if_neg c1, if_neg c3, if_neg c5, if_neg c7, if_neg c9, if_neg c11, if_neg c13, if_neg c15, if_pos c17]), (Kept.refl _ _)⟩
 refine oqp (bV false) (by exact congrArg one (t_eqlF c17)) ?_
 refine oq (bV false) ?_
 refine nt ?_
 refine runs_cond false rfl ?_
 refine sr ?_
 by_cases c19 : s = [60, 61]
 refine oqp (bV true) (by exact congrArg one (t_eqlT c19)) ?_
 have q20 : ((s).length : Int) = (([60, 61] : List UInt8).length : Int) := by rw [c19]
 simp only [List.length_cons, List.length_nil] at q20
 refine oq (bV true) ?_
 refine nt ?_
 refine runs_cond true rfl ?_
 refine runs_skip ?_
 refine then_n ?_
 refine runs_cond true rfl ?_
 refine sr ?_
 refine oq (bV true) ?_
 refine nt ?_
 refine runs_ret ?_
 refine blk_r ?_
 refine then_r ?_
 exact ⟨_, leave_t1 rfl rfl, fb (true) (by simp only [isBinary, if_neg c1, if_neg c3, if_neg c5, if_neg c7, if_neg c9, if_neg c11, if_neg c13, if_neg c15, if_neg c17, if_pos c19]), (Kept.refl _ _)⟩
 refine oqp (bV false) (by exact congrArg one (t_eqlF c19)) ?_
 refine oq (bV false) ?_
 refine nt ?_
 refine runs_cond false rfl ?_
 refine sr ?_
 by_cases c21 : s = [62]
 refine oqp (bV true) (by exact congrArg one (t_eqlT c21)) ?_
 have q22 : ((s).length : Int) = (([62] : List UInt8).length : Int) := by rw [c21]
 simp only [List.length_cons, List.length_nil] at q22
 refine oq (bV true) ?_
 refine nt ?_
 refine runs_cond true rfl ?_
 refine runs_skip ?_
 refine then_n ?_
 refine runs_cond true rfl ?_
 refine sr ?_
 refine oq (bV true) ?_
 refine nt ?_
 refine runs_ret ?_
 refine blk_r ?_
 refine then_r ?_
 exact ⟨_, leave_t1 rfl rfl, fb (true) (by simp only [isBinary, if_neg c1, if_neg c3, if_neg c5, if_neg c7, if_neg c9, if_neg c11, if_neg c13, if_neg c15, if_neg c17, if_neg c19, if_pos c21]), (Kept.refl _ _)⟩
 refine oqp (bV false) (by exact congrArg one (t_eqlF c21)) ?_
 refine oq (bV false) ?_
 refine nt ?_
 refine runs_cond false rfl ?_
 refine runs_region ?_
 by_cases c23 : s = [62, 61]
 refine oqp (bV true) (by exact congrArg one (t_eqlT c23)) ?_
 have q24 : ((s).length : Int) = (([62, 61] : List UInt8).length : Int) := by rw [c23]
 simp only [List.length_cons, List.length_nil] at q24
 refine oq (bV true) ?_
 refine nt ?_
 refine runs_cond true rfl ?_
 refine sr ?_
 refine oq (bV true) ?_
 refine nt ?_
 refine runs_ret ?_
 refine blk_r ?_
 refine then_r ?_
 exact ⟨_, leave_t1 rfl rfl, fb (true) (by simp only [isBinary, if_neg c1, if_neg c3, if_neg c5, if_neg c7, if_neg c9, if_neg c11, if_neg c13, if_neg c15, if_neg c17, if_neg c19, if_neg c21, if_pos c23]), (Kept.refl _ _)⟩
 refine oqp (bV false) (by exact congrArg one (t_eqlF c23)) ?_
 refine oq (bV false) ?_
 refine nt ?_
 refine runs_cond false rfl ?_
 refine runs_skip ?_
 refine blk_n ?_
 refine then_n ?_
 refine sr ?_
 refine oq (bV false) ?_
 refine nt ?_
 refine runs_ret ?_
 exact ⟨_, leave_t1 rfl rfl, fb (false) (by simp only [isBinary, if_neg c1, if_neg c3, if_neg c5, if_neg c7, if_neg c9, if_neg c11, if_neg c13, if_neg c15, if_neg c17, if_neg c19, if_neg c21, if_neg c23]), (Kept.refl _ _)⟩
noncomputable def rightRange_o1 : Array Oper := opsOf (seqL (seqR (bodyOf Tryz.f176)))
noncomputable def rightRange_o3 : Array Oper := opsOf (seqL (seqR (seqR (seqR (bodyOf Tryz.f176)))))
def rightRange (p0 : Int) (p1 : Int) (p2 : Int) (p3 : Int) (p4 : Bool) (p5 : Bool) (p6 : Int) (p7 : Int) (p8 : Int) (p9 : Int) (p10 : Bool) (p11 : Bool) : Bool :=
 if p0 = 0 ∧ p1 = 0 then
  if p2 = 0 ∧ p3 = 0 then
   if (!decide (p6 = 0 ∧ p7 = 0)) = true then
    false
   else
    if (!decide (p8 = 0 ∧ p9 = 0)) = true then
     false
    else
     false
  else
   if (!decide (p6 = 0 ∧ p7 = 0)) = true then
    false
   else
    if (!decide (p8 = 0 ∧ p9 = 0)) = true then
     if p4 = true then
      false
     else
      if p10 = true then
       false
      else
       true
    else
     false
 else
  if p2 = 0 ∧ p3 = 0 then
   if (!decide (p6 = 0 ∧ p7 = 0)) = true then
    if (!decide (p8 = 0 ∧ p9 = 0)) = true then
     false
    else
     if p5 = true then
      false
     else
      !p11
   else
    false
  else
   if (!decide (p6 = 0 ∧ p7 = 0)) = true then
    if (!decide (p8 = 0 ∧ p9 = 0)) = true then
     true
    else
     false
   else
    false
set_option maxHeartbeats 8000000 in
set_option maxRecDepth 20000 in
theorem rightRange_runs (Γ : Glob) (p0 : Int) (p1 : Int) (p2 : Int) (p3 : Int) (p4 : Bool) (p5 : Bool) (p6 : Int) (p7 : Int) (p8 : Int) (p9 : Int) (p10 : Bool) (p11 : Bool) (h : Hp)  : Runs Tryz.prog Γ (.call 176 [.agg [iV p0, iV p1, iV p2, iV p3, bV p4, bV p5, iV p6, iV p7, iV p8, iV p9, bV p10, bV p11]] h) (Tells h (bV (rightRange p0 p1 p2 p3 p4 p5 p6 p7 p8 p9 p10 p11))) := by
 refine runs_call Tryz.func176 rfl ?_
 refine sr ?_
 refine ops_box (cs := [iV p0, iV p1, iV p2, iV p3, bV p4, bV p5, iV p6, iV p7, iV p8, iV p9, bV p10, bV p11]) rfl rfl rfl rfl rfl (fun H1 g1 k1 n1 => ?_)
 have lo1_0 : h.next ≤ h.next := (Nat.le_refl _)
 refine oq (bV false) ?_
 refine nt ?_
 refine runs_seq ?_
 refine runs_drawn (ops := rightRange_o1) rfl ?_
 have t_rightRange_o1_3_4 : Nat.testBit (descOf 3 rightRange_o1.toList 0 0) 4 = false := rfl
 have l_rightRange_o1_3_4 : Nat.beq h.next H1.next = false := (beq_f (by have := g1.lt; omega))
 have t_rightRange_o1_1_4 : Nat.testBit (descOf 1 rightRange_o1.toList 0 0) 4 = false := rfl
 have l_rightRange_o1_1_4 : Nat.beq h.next H1.next = false := (beq_f (by have := g1.lt; omega))
 have t_rightRange_o1_4_5 : Nat.testBit (descOf 4 rightRange_o1.toList 0 0) 5 = false := rfl
 have t_rightRange_o1_3_5 : Nat.testBit (descOf 3 rightRange_o1.toList 0 0) 5 = false := rfl
 have l_rightRange_o1_3_5 : Nat.beq h.next (H1.next + 1) = false := (beq_f (by have := g1.lt; omega))
 have t_rightRange_o1_1_5 : Nat.testBit (descOf 1 rightRange_o1.toList 0 0) 5 = false := rfl
 have l_rightRange_o1_1_5 : Nat.beq h.next (H1.next + 1) = false := (beq_f (by have := g1.lt; omega))
 have t_rightRange_o1_5_6 : Nat.testBit (descOf 5 rightRange_o1.toList 0 0) 6 = true := rfl
 have t_rightRange_o1_4_6 : Nat.testBit (descOf 4 rightRange_o1.toList 0 0) 6 = true := rfl
 have t_rightRange_o1_3_6 : Nat.testBit (descOf 3 rightRange_o1.toList 0 0) 6 = false := rfl
 have t_rightRange_o1_1_6 : Nat.testBit (descOf 1 rightRange_o1.toList 0 0) 6 = true := rfl
 have l_rightRange_o1_3_6 : Nat.beq h.next H1.next = false := (beq_f (by have := g1.lt; omega))
 have t_rightRange_o1_6_7 : Nat.testBit (descOf 6 rightRange_o1.toList 0 0) 7 = true := rfl
 have t_rightRange_o1_5_7 : Nat.testBit (descOf 5 rightRange_o1.toList 0 0) 7 = true := rfl
 have t_rightRange_o1_4_7 : Nat.testBit (descOf 4 rightRange_o1.toList 0 0) 7 = true := rfl
 have t_rightRange_o1_3_7 : Nat.testBit (descOf 3 rightRange_o1.toList 0 0) 7 = true := rfl
 have t_rightRange_o1_1_7 : Nat.testBit (descOf 1 rightRange_o1.toList 0 0) 7 = true := rfl
 refine drawn_endL (m' := 255) (held' := [⟨descOf 7 rightRange_o1.toList 0 0, [], some ((H1.next + 1), .cells [iV p6, iV p7, iV p8, iV p9, bV p10, bV p11] 31)⟩, ⟨descOf 6 rightRange_o1.toList 0 0, [], some (H1.next, .cells [iV p0, iV p1, iV p2, iV p3, bV p4, bV p5] 31)⟩, ⟨descOf 5 rightRange_o1.toList 0 0, [], some ((H1.next + 1), .cells [iV 0, iV 0, iV 0, iV 0, bV false, bV false] 31)⟩, ⟨descOf 4 rightRange_o1.toList 0 0, [], some (H1.next, .cells [iV 0, iV 0, iV 0, iV 0, bV false, bV false] 31)⟩, ⟨descOf 3 rightRange_o1.toList 0 0, [.cells h.next 6 [iV p6, iV p7, iV p8, iV p9, bV p10, bV p11]], none⟩, ⟨descOf 1 rightRange_o1.toList 0 0, [.cells h.next 0 [iV p0, iV p1, iV p2, iV p3, bV p4, bV p5]], none⟩]) (hp' := ⟨(⟨(⟨(⟨H1.objs.set H1.next (.cells [iV 0, iV 0, iV 0, iV 0, bV false, bV false] 31), H1.next + 1⟩ : Hp).objs.set (H1.next + 1) (.cells [iV 0, iV 0, iV 0, iV 0, bV false, bV false] 31), (H1.next + 1) + 1⟩ : Hp).objs.set H1.next (.cells [iV p0, iV p1, iV p2, iV p3, bV p4, bV p5] 31), (H1.next + 2)⟩ : Hp).objs.set (H1.next + 1) (.cells [iV p6, iV p7, iV p8, iV p9, bV p10, bV p11] 31), (H1.next + 2)⟩) (by
  refine tq (.ptr h.next 0) ?_
  refine take_f (v := .agg [iV p0, iV p1, iV p2, iV p3, bV p4, bV p5]) (fact := .cells h.next 0 [iV p0, iV p1, iV p2, iV p3, bV p4, bV p5]) rfl rfl rfl (by exact load_cut (P := Tryz.prog) (t := 31) (k := 0) (n := 6) (vs := [iV p0, iV p1, iV p2, iV p3, bV p4, bV p5]) rfl rfl g1.get rfl) rfl rfl ?_
  refine tq (.ptr h.next 6) ?_
  refine take_f (v := .agg [iV p6, iV p7, iV p8, iV p9, bV p10, bV p11]) (fact := .cells h.next 6 [iV p6, iV p7, iV p8, iV p9, bV p10, bV p11]) rfl rfl rfl (by exact load_cut (P := Tryz.prog) (t := 31) (k := 6) (n := 6) (vs := [iV p6, iV p7, iV p8, iV p9, bV p10, bV p11]) rfl rfl g1.get rfl) rfl rfl ?_
  refine take_localS (v := .ptr H1.next 0) (b := H1.next) (ob := .cells [iV 0, iV 0, iV 0, iV 0, bV false, bV false] 31) (nx := H1.next + 1) rfl rfl rfl rfl (by rfl) (by simp only [noneLeans, t_rightRange_o1_3_4, l_rightRange_o1_3_4, t_rightRange_o1_1_4, Fact.blk, cond_false, List.all_cons, List.all_nil, Bool.not_false, Bool.and_self]) rfl rfl ?_
  refine take_localS (v := .ptr (H1.next + 1) 0) (b := (H1.next + 1)) (ob := .cells [iV 0, iV 0, iV 0, iV 0, bV false, bV false] 31) (nx := (H1.next + 1) + 1) rfl rfl rfl rfl (by rfl) (by simp only [noneLeans, t_rightRange_o1_4_5, t_rightRange_o1_3_5, l_rightRange_o1_3_5, t_rightRange_o1_1_5, Fact.blk, cond_false, List.all_cons, List.all_nil, Bool.not_false, Bool.and_self]) rfl rfl ?_
  refine take_local0 (v := .lit undef) (b := H1.next) (ob := .cells [iV p0, iV p1, iV p2, iV p3, bV p4, bV p5] 31) (nx := (H1.next + 2)) rfl rfl rfl rfl (local_store (l := [iV 0, iV 0, iV 0, iV 0, bV false, bV false]) (e := 31) rfl rfl rfl rfl (by simp only [hide, t_rightRange_o1_5_6, t_rightRange_o1_4_6, cond_true, T.get_set] <;> simp) rfl) (by simp only [noneLeans, t_rightRange_o1_5_6, t_rightRange_o1_4_6, t_rightRange_o1_3_6, l_rightRange_o1_3_6, t_rightRange_o1_1_6, Fact.blk, cond_true, cond_false, List.all_cons, List.all_nil, Bool.not_false, Bool.and_self]) rfl ?_
  refine take_local0 (v := .lit undef) (b := (H1.next + 1)) (ob := .cells [iV p6, iV p7, iV p8, iV p9, bV p10, bV p11] 31) (nx := (H1.next + 2)) rfl rfl rfl rfl (local_store (l := [iV 0, iV 0, iV 0, iV 0, bV false, bV false]) (e := 31) rfl rfl rfl rfl (by simp only [hide, t_rightRange_o1_6_7, t_rightRange_o1_5_7, t_rightRange_o1_4_7, cond_true, T.get_set] <;> simp) rfl) (by simp only [noneLeans, t_rightRange_o1_6_7, t_rightRange_o1_5_7, t_rightRange_o1_4_7, t_rightRange_o1_3_7, t_rightRange_o1_1_7, Fact.blk, cond_true, List.all_cons, List.all_nil, Bool.and_self]) rfl ?_
  rfl) (by rfl) (by rfl) (fun HL1 eL => ?_)
 obtain ⟨H2, hm2⟩ : ∃ M : Hp, M = ⟨H1.objs.set H1.next (.cells [iV 0, iV 0, iV 0, iV 0, bV false, bV false] 31), H1.next + 1⟩ := ⟨_, rfl⟩
 obtain ⟨g2, k2, n2⟩ := new_of hm2
 have lt1_2 : h.next < H1.next := by have := g1.lt; omega
 have lo2_0 : h.next ≤ H1.next := by have := (Nat.le_trans (Nat.le_refl _) k1.next); omega
 have g2 : At H2 H1.next (.cells [iV 0, iV 0, iV 0, iV 0, bV false, bV false] 31) := by rw [show H1.next = H1.next by omega]; exact g2
 have g1_H2 := g1.kept k2
 have KH2 : Kept h.next h H2 := k1.trans (k2.less (Nat.le_trans (Nat.le_refl _) k1.next))
 obtain ⟨H3, hm3⟩ : ∃ M : Hp, M = ⟨H2.objs.set H2.next (.cells [iV 0, iV 0, iV 0, iV 0, bV false, bV false] 31), H2.next + 1⟩ := ⟨_, rfl⟩
 obtain ⟨g3, k3, n3⟩ := new_of hm3
 have lt3_3 : h.next < (H1.next + 1) := by have := g1_H2.lt; omega
 have lt4_3 : H1.next < (H1.next + 1) := by have := g2.lt; omega
 have lo3_0 : h.next ≤ (H1.next + 1) := by have := (Nat.le_trans (Nat.le_refl _) KH2.next); omega
 have g3 : At H3 (H1.next + 1) (.cells [iV 0, iV 0, iV 0, iV 0, bV false, bV false] 31) := by rw [show (H1.next + 1) = H2.next by omega]; exact g3
 have g1_H3 := g1_H2.kept k3
 have g2_H3 := g2.kept k3
 have KH3 : Kept h.next h H3 := KH2.trans (k3.less (Nat.le_trans (Nat.le_refl _) KH2.next))
 obtain ⟨H4, hm4⟩ : ∃ M : Hp, M = ⟨H3.objs.set H1.next (.cells [iV p0, iV p1, iV p2, iV p3, bV p4, bV p5] 31), H3.next⟩ := ⟨_, rfl⟩
 obtain ⟨g4, j4, n4⟩ := set_of hm4
 have g4 : At H4 H1.next _ := ⟨by rw [n4]; exact g2_H3.lt, g4⟩
 have g1_H4 := g1_H3.other (j4 _ (Nat.ne_of_lt lt1_2)) n4
 have g3_H4 := g3.other (j4 _ (Nat.ne_of_lt lt4_3).symm) n4
 have KH4 : Kept h.next h H4 := kept_other KH3 j4 n4 lo2_0
 obtain ⟨H5, hm5⟩ : ∃ M : Hp, M = ⟨H4.objs.set (H1.next + 1) (.cells [iV p6, iV p7, iV p8, iV p9, bV p10, bV p11] 31), H4.next⟩ := ⟨_, rfl⟩
 obtain ⟨g5, j5, n5⟩ := set_of hm5
 have g5 : At H5 (H1.next + 1) _ := ⟨by rw [n5]; exact g3_H4.lt, g5⟩
 have g1_H5 := g1_H4.other (j5 _ (Nat.ne_of_lt lt3_3)) n5
 have g4_H5 := g4.other (j5 _ (Nat.ne_of_lt lt4_3)) n5
 have KH5 : Kept h.next h H5 := kept_other KH4 j5 n5 lo3_0
 obtain rfl : H5 = HL1 := by rw [eL, hm5, hm4, hm3, hm2]
 refine then_n ?_
 refine sr ?_
 refine oq (.agg [iV 0, iV 0]) ?_
 refine ops_alloc (z := .agg #[.int .i64 0, .int .i64 0]) rfl rfl rfl rfl rfl (fun H6 g6 k6 n6 => ?_)
 have lt6_6 : h.next < H5.next := g1_H5.lt
 have lt7_6 : H1.next < H5.next := g4_H5.lt
 have lt8_6 : (H1.next + 1) < H5.next := g5.lt
 have lo6_0 : h.next ≤ H5.next := (Nat.le_trans (Nat.le_refl _) KH5.next)
 have g1_H6 := g1_H5.kept k6
 have g4_H6 := g4_H5.kept k6
 have g5_H6 := g5.kept k6
 have KH6 : Kept h.next h H6 := KH5.trans (k6.less (Nat.le_trans (Nat.le_refl _) KH5.next))
 refine ops_storeA (b := H5.next) (off := 0) (v := .agg [iV 0, iV 0]) (l2 := [iV 0, iV 0]) rfl rfl rfl rfl rfl rfl rfl g6.get rfl (fun H7 g7 j7 n7 => ?_)
 have g7 : At H7 H5.next _ := ⟨by rw [n7]; exact g6.lt, g7⟩
 have g1_H7 := g1_H6.other (j7 _ (Nat.ne_of_lt lt6_6)) n7
 have g4_H7 := g4_H6.other (j7 _ (Nat.ne_of_lt lt7_6)) n7
 have g5_H7 := g5_H6.other (j7 _ (Nat.ne_of_lt lt8_6)) n7
 have KH7 : Kept h.next h H7 := kept_other KH6 j7 n7 lo6_0
 refine nt ?_
 refine runs_seq ?_
 refine runs_drawn (ops := rightRange_o3) rfl ?_
 by_cases c1 : p0 = 0 ∧ p1 = 0
 by_cases c2 : p2 = 0 ∧ p3 = 0
 refine drawn_end (m' := 1023) (held' := [⟨descOf 6 rightRange_o3.toList 0 0, [.cells H5.next 0 [iV 0, iV 0]], none⟩, ⟨descOf 5 rightRange_o3.toList 0 0, [.cells H1.next 2 [iV p2, iV p3]], none⟩, ⟨descOf 2 rightRange_o3.toList 0 0, [.cells H5.next 0 [iV 0, iV 0]], none⟩, ⟨descOf 1 rightRange_o3.toList 0 0, [.cells H1.next 0 [iV p0, iV p1]], none⟩]) (hp' := H7) (by
  refine tq (.ptr H1.next 0) ?_
  refine take_f (v := .agg [iV p0, iV p1]) (fact := .cells H1.next 0 [iV p0, iV p1]) rfl rfl rfl (by exact load_cut (P := Tryz.prog) (t := 23) (k := 0) (n := 2) (vs := [iV p0, iV p1]) rfl rfl g4_H7.get rfl) rfl rfl ?_
  refine take_f (v := .agg [iV 0, iV 0]) (fact := .cells H5.next 0 [iV 0, iV 0]) rfl rfl rfl (by exact load_cut (P := Tryz.prog) (t := 23) (k := 0) (n := 2) (vs := [iV 0, iV 0]) rfl rfl g7.get rfl) rfl rfl ?_
  refine tqp (bV false) (by exact congrArg one (s23_neqT c1)) ?_
  refine tq (.ptr H1.next 2) ?_
  refine take_f (v := .agg [iV p2, iV p3]) (fact := .cells H1.next 2 [iV p2, iV p3]) rfl rfl rfl (by exact load_cut (P := Tryz.prog) (t := 23) (k := 2) (n := 2) (vs := [iV p2, iV p3]) rfl rfl g4_H7.get rfl) rfl rfl ?_
  refine take_f (v := .agg [iV 0, iV 0]) (fact := .cells H5.next 0 [iV 0, iV 0]) rfl rfl rfl (by exact load_cut (P := Tryz.prog) (t := 23) (k := 0) (n := 2) (vs := [iV 0, iV 0]) rfl rfl g7.get rfl) rfl rfl ?_
  refine tqp (bV false) (by exact congrArg one (s23_neqT c2)) ?_
  refine tq (bV false) ?_
  refine tq (bV false) ?_
  rfl) (by rfl) (by rfl) ?_
 refine then_n ?_
 refine runs_seq ?_
 refine sr ?_
 refine oq (bV false) ?_
 refine oq (.ptr (H1.next + 1) 0) ?_
 refine ola [iV p6, iV p7] 0 g5_H7 ?_
 refine ola [iV 0, iV 0] 0 g7 ?_
 refine oqp (bV (!decide (p6 = 0 ∧ p7 = 0))) (by exact congrArg one s23_neq) ?_
 by_cases c3 : (!decide (p6 = 0 ∧ p7 = 0)) = true
 refine oqp (bV true) (by exact congrArg one (b_neq (by rw [show (!decide (p6 = 0 ∧ p7 = 0)) = true from c3]; rfl))) ?_
 refine oq (bV true) ?_
 iterate 6 refine ou ?_
 refine oq (bV true) ?_
 refine nt ?_
 refine runs_cond true rfl ?_
 refine sr ?_
 refine oq (bV false) ?_
 refine nt ?_
 refine runs_ret ?_
 refine then_r ?_
 exact ⟨_, leave_t1 rfl rfl, fb (false) (by simp only [rightRange, if_pos c1, if_pos c2, if_pos c3]), KH7⟩
 refine oqp (bV false) (by exact congrArg one (b_neq (by rw [show (!decide (p6 = 0 ∧ p7 = 0)) = false from (Bool.eq_false_iff.2 c3)]; rfl))) ?_
 refine oq (bV false) ?_
 refine oq (bV false) ?_
 refine oq (.ptr (H1.next + 1) 2) ?_
 refine ola [iV p8, iV p9] 2 g5_H7 ?_
 refine ola [iV 0, iV 0] 0 g7 ?_
 refine oqp (bV (!decide (p8 = 0 ∧ p9 = 0))) (by exact congrArg one s23_neq) ?_
 by_cases c4 : (!decide (p8 = 0 ∧ p9 = 0)) = true
 refine oqp (bV true) (by exact congrArg one (b_neq (by rw [show (!decide (p8 = 0 ∧ p9 = 0)) = true from c4]; rfl))) ?_
 refine oq (bV true) ?_
 refine nt ?_
 refine runs_cond true rfl ?_
 refine sr ?_
 refine oq (bV false) ?_
 refine nt ?_
 refine runs_ret ?_
 refine then_r ?_
 exact ⟨_, leave_t1 rfl rfl, fb (false) (by simp only [rightRange, if_pos c1, if_pos c2, if_neg c3, if_pos c4]), KH7⟩
 refine oqp (bV false) (by exact congrArg one (b_neq (by rw [show (!decide (p8 = 0 ∧ p9 = 0)) = false from (Bool.eq_false_iff.2 c4)]; rfl))) ?_
 refine oq (bV false) ?_
 refine nt ?_
 refine runs_cond false rfl ?_
 refine runs_skip ?_
 refine then_n ?_
 refine sr ?_
 refine oq (bV false) ?_
 refine oq (bV false) ?_
 refine oq (bV false) ?_
 refine oq (bV false) ?_
 refine oq (bV false) ?_
 iterate 11 refine ou ?_
 refine oq (bV false) ?_
 refine oq (bV false) ?_
 iterate 11 refine ou ?_
 refine oq (bV false) ?_
 refine oq (bV false) ?_
 refine nt ?_
 refine runs_ret ?_
 exact ⟨_, leave_t1 rfl rfl, fb (false) (by simp only [rightRange, if_pos c1, if_pos c2, if_neg c3, if_neg c4]), KH7⟩
 refine drawn_end (m' := 1023) (held' := [⟨descOf 6 rightRange_o3.toList 0 0, [.cells H5.next 0 [iV 0, iV 0]], none⟩, ⟨descOf 5 rightRange_o3.toList 0 0, [.cells H1.next 2 [iV p2, iV p3]], none⟩, ⟨descOf 2 rightRange_o3.toList 0 0, [.cells H5.next 0 [iV 0, iV 0]], none⟩, ⟨descOf 1 rightRange_o3.toList 0 0, [.cells H1.next 0 [iV p0, iV p1]], none⟩]) (hp' := H7) (by
  refine tq (.ptr H1.next 0) ?_
  refine take_f (v := .agg [iV p0, iV p1]) (fact := .cells H1.next 0 [iV p0, iV p1]) rfl rfl rfl (by exact load_cut (P := Tryz.prog) (t := 23) (k := 0) (n := 2) (vs := [iV p0, iV p1]) rfl rfl g4_H7.get rfl) rfl rfl ?_
  refine take_f (v := .agg [iV 0, iV 0]) (fact := .cells H5.next 0 [iV 0, iV 0]) rfl rfl rfl (by exact load_cut (P := Tryz.prog) (t := 23) (k := 0) (n := 2) (vs := [iV 0, iV 0]) rfl rfl g7.get rfl) rfl rfl ?_
  refine tqp (bV false) (by exact congrArg one (s23_neqT c1)) ?_
  refine tq (.ptr H1.next 2) ?_
  refine take_f (v := .agg [iV p2, iV p3]) (fact := .cells H1.next 2 [iV p2, iV p3]) rfl rfl rfl (by exact load_cut (P := Tryz.prog) (t := 23) (k := 2) (n := 2) (vs := [iV p2, iV p3]) rfl rfl g4_H7.get rfl) rfl rfl ?_
  refine take_f (v := .agg [iV 0, iV 0]) (fact := .cells H5.next 0 [iV 0, iV 0]) rfl rfl rfl (by exact load_cut (P := Tryz.prog) (t := 23) (k := 0) (n := 2) (vs := [iV 0, iV 0]) rfl rfl g7.get rfl) rfl rfl ?_
  refine tqp (bV true) (by exact congrArg one (s23_neqF c2)) ?_
  refine tq (bV false) ?_
  refine tq (bV true) ?_
  rfl) (by rfl) (by rfl) ?_
 refine then_n ?_
 refine runs_seq ?_
 refine sr ?_
 refine oq (bV false) ?_
 refine oq (.ptr (H1.next + 1) 0) ?_
 refine ola [iV p6, iV p7] 0 g5_H7 ?_
 refine ola [iV 0, iV 0] 0 g7 ?_
 refine oqp (bV (!decide (p6 = 0 ∧ p7 = 0))) (by exact congrArg one s23_neq) ?_
 by_cases c5 : (!decide (p6 = 0 ∧ p7 = 0)) = true
 refine oqp (bV true) (by exact congrArg one (b_neq (by rw [show (!decide (p6 = 0 ∧ p7 = 0)) = true from c5]; rfl))) ?_
 refine oq (bV true) ?_
 iterate 6 refine ou ?_
 refine oq (bV true) ?_
 refine nt ?_
 refine runs_cond true rfl ?_
 refine sr ?_
 refine oq (bV false) ?_
 refine nt ?_
 refine runs_ret ?_
 refine then_r ?_
 exact ⟨_, leave_t1 rfl rfl, fb (false) (by simp only [rightRange, if_pos c1, if_neg c2, if_pos c5]), KH7⟩
 refine oqp (bV false) (by exact congrArg one (b_neq (by rw [show (!decide (p6 = 0 ∧ p7 = 0)) = false from (Bool.eq_false_iff.2 c5)]; rfl))) ?_
 refine oq (bV false) ?_
 refine oq (bV true) ?_
 refine oq (.ptr (H1.next + 1) 2) ?_
 refine ola [iV p8, iV p9] 2 g5_H7 ?_
 refine ola [iV 0, iV 0] 0 g7 ?_
 refine oqp (bV (!decide (p8 = 0 ∧ p9 = 0))) (by exact congrArg one s23_neq) ?_
 by_cases c6 : (!decide (p8 = 0 ∧ p9 = 0)) = true
 refine oqp (bV false) (by exact congrArg one (b_neq (by rw [show (!decide (p8 = 0 ∧ p9 = 0)) = true from c6]; rfl))) ?_
 refine oq (bV false) ?_
 refine nt ?_
 refine runs_cond false rfl ?_
 refine runs_skip ?_
 refine then_n ?_
 refine sr ?_
 refine oq (bV false) ?_
 refine oq (bV false) ?_
 refine oq (bV true) ?_
 refine oq (bV true) ?_
 refine oq (bV true) ?_
 refine oq (bV false) ?_
 refine oq (bV false) ?_
 refine oq (.ptr H1.next 4) ?_
 refine olc (bV p4) 4 g4_H7 ?_
 by_cases c7 : p4 = true
 refine oqp (bV false) (by exact congrArg (fun b => some (SV.lit (.bool (!b)), ([] : List Fact))) c7) ?_
 refine oq (bV false) ?_
 iterate 3 refine ou ?_
 refine oq (bV false) ?_
 refine oq (bV false) ?_
 refine oq (bV false) ?_
 refine oq (bV false) ?_
 iterate 11 refine ou ?_
 refine oq (bV false) ?_
 refine oq (bV false) ?_
 refine nt ?_
 refine runs_ret ?_
 exact ⟨_, leave_t1 rfl rfl, fb (false) (by simp only [rightRange, if_pos c1, if_neg c2, if_neg c5, if_pos c6, if_pos c7]), KH7⟩
 refine oqp (bV true) (by exact congrArg (fun b => some (SV.lit (.bool (!b)), ([] : List Fact))) (Bool.eq_false_iff.2 c7)) ?_
 refine oq (bV true) ?_
 refine oq (.ptr (H1.next + 1) 4) ?_
 refine olc (bV p10) 4 g5_H7 ?_
 by_cases c8 : p10 = true
 refine oqp (bV false) (by exact congrArg (fun b => some (SV.lit (.bool (!b)), ([] : List Fact))) c8) ?_
 refine oq (bV false) ?_
 refine oq (bV false) ?_
 refine oq (bV false) ?_
 refine oq (bV false) ?_
 iterate 11 refine ou ?_
 refine oq (bV false) ?_
 refine oq (bV false) ?_
 refine nt ?_
 refine runs_ret ?_
 exact ⟨_, leave_t1 rfl rfl, fb (false) (by simp only [rightRange, if_pos c1, if_neg c2, if_neg c5, if_pos c6, if_neg c7, if_pos c8]), KH7⟩
 refine oqp (bV true) (by exact congrArg (fun b => some (SV.lit (.bool (!b)), ([] : List Fact))) (Bool.eq_false_iff.2 c8)) ?_
 refine oq (bV true) ?_
 refine oq (bV true) ?_
 refine oq (bV true) ?_
 refine oq (bV true) ?_
 refine oq (bV true) ?_
 refine oq (bV true) ?_
 iterate 8 refine ou ?_
 refine oq (bV true) ?_
 refine oq (bV true) ?_
 refine oq (bV true) ?_
 refine nt ?_
 refine runs_ret ?_
 exact ⟨_, leave_t1 rfl rfl, fb (true) (by simp only [rightRange, if_pos c1, if_neg c2, if_neg c5, if_pos c6, if_neg c7, if_neg c8]), KH7⟩
 refine oqp (bV true) (by exact congrArg one (b_neq (by rw [show (!decide (p8 = 0 ∧ p9 = 0)) = false from (Bool.eq_false_iff.2 c6)]; rfl))) ?_
 refine oq (bV true) ?_
 refine nt ?_
 refine runs_cond true rfl ?_
 refine sr ?_
 refine oq (bV false) ?_
 refine nt ?_
 refine runs_ret ?_
 refine then_r ?_
 exact ⟨_, leave_t1 rfl rfl, fb (false) (by simp only [rightRange, if_pos c1, if_neg c2, if_neg c5, if_neg c6]), KH7⟩
 by_cases c9 : p2 = 0 ∧ p3 = 0
 refine drawn_end (m' := 1023) (held' := [⟨descOf 6 rightRange_o3.toList 0 0, [.cells H5.next 0 [iV 0, iV 0]], none⟩, ⟨descOf 5 rightRange_o3.toList 0 0, [.cells H1.next 2 [iV p2, iV p3]], none⟩, ⟨descOf 2 rightRange_o3.toList 0 0, [.cells H5.next 0 [iV 0, iV 0]], none⟩, ⟨descOf 1 rightRange_o3.toList 0 0, [.cells H1.next 0 [iV p0, iV p1]], none⟩]) (hp' := H7) (by
  refine tq (.ptr H1.next 0) ?_
  refine take_f (v := .agg [iV p0, iV p1]) (fact := .cells H1.next 0 [iV p0, iV p1]) rfl rfl rfl (by exact load_cut (P := Tryz.prog) (t := 23) (k := 0) (n := 2) (vs := [iV p0, iV p1]) rfl rfl g4_H7.get rfl) rfl rfl ?_
  refine take_f (v := .agg [iV 0, iV 0]) (fact := .cells H5.next 0 [iV 0, iV 0]) rfl rfl rfl (by exact load_cut (P := Tryz.prog) (t := 23) (k := 0) (n := 2) (vs := [iV 0, iV 0]) rfl rfl g7.get rfl) rfl rfl ?_
  refine tqp (bV true) (by exact congrArg one (s23_neqF c1)) ?_
  refine tq (.ptr H1.next 2) ?_
  refine take_f (v := .agg [iV p2, iV p3]) (fact := .cells H1.next 2 [iV p2, iV p3]) rfl rfl rfl (by exact load_cut (P := Tryz.prog) (t := 23) (k := 2) (n := 2) (vs := [iV p2, iV p3]) rfl rfl g4_H7.get rfl) rfl rfl ?_
  refine take_f (v := .agg [iV 0, iV 0]) (fact := .cells H5.next 0 [iV 0, iV 0]) rfl rfl rfl (by exact load_cut (P := Tryz.prog) (t := 23) (k := 0) (n := 2) (vs := [iV 0, iV 0]) rfl rfl g7.get rfl) rfl rfl ?_
  refine tqp (bV false) (by exact congrArg one (s23_neqT c9)) ?_
  refine tq (bV true) ?_
  refine tq (bV false) ?_
  rfl) (by rfl) (by rfl) ?_
 refine then_n ?_
 refine runs_seq ?_
 refine sr ?_
 refine oq (bV true) ?_
 refine oq (.ptr (H1.next + 1) 0) ?_
 refine ola [iV p6, iV p7] 0 g5_H7 ?_
 refine ola [iV 0, iV 0] 0 g7 ?_
 refine oqp (bV (!decide (p6 = 0 ∧ p7 = 0))) (by exact congrArg one s23_neq) ?_
 by_cases c10 : (!decide (p6 = 0 ∧ p7 = 0)) = true
 refine oqp (bV false) (by exact congrArg one (b_neq (by rw [show (!decide (p6 = 0 ∧ p7 = 0)) = true from c10]; rfl))) ?_
 refine oq (bV false) ?_
 refine oq (bV false) ?_
 refine oq (.ptr (H1.next + 1) 2) ?_
 refine ola [iV p8, iV p9] 2 g5_H7 ?_
 refine ola [iV 0, iV 0] 0 g7 ?_
 refine oqp (bV (!decide (p8 = 0 ∧ p9 = 0))) (by exact congrArg one s23_neq) ?_
 by_cases c11 : (!decide (p8 = 0 ∧ p9 = 0)) = true
 refine oqp (bV true) (by exact congrArg one (b_neq (by rw [show (!decide (p8 = 0 ∧ p9 = 0)) = true from c11]; rfl))) ?_
 refine oq (bV true) ?_
 refine nt ?_
 refine runs_cond true rfl ?_
 refine sr ?_
 refine oq (bV false) ?_
 refine nt ?_
 refine runs_ret ?_
 refine then_r ?_
 exact ⟨_, leave_t1 rfl rfl, fb (false) (by simp only [rightRange, if_neg c1, if_pos c9, if_pos c10, if_pos c11]), KH7⟩
 refine oqp (bV false) (by exact congrArg one (b_neq (by rw [show (!decide (p8 = 0 ∧ p9 = 0)) = false from (Bool.eq_false_iff.2 c11)]; rfl))) ?_
 refine oq (bV false) ?_
 refine nt ?_
 refine runs_cond false rfl ?_
 refine runs_skip ?_
 refine then_n ?_
 refine sr ?_
 refine oq (bV true) ?_
 refine oq (bV true) ?_
 refine ou ?_
 refine oq (bV true) ?_
 refine oq (bV true) ?_
 refine oq (bV true) ?_
 refine oq (bV true) ?_
 iterate 8 refine ou ?_
 refine oq (bV true) ?_
 refine oq (bV true) ?_
 refine oq (bV true) ?_
 refine oq (bV false) ?_
 refine oq (bV false) ?_
 refine oq (.ptr H1.next 5) ?_
 refine olc (bV p5) 5 g4_H7 ?_
 by_cases c12 : p5 = true
 refine oqp (bV false) (by exact congrArg (fun b => some (SV.lit (.bool (!b)), ([] : List Fact))) c12) ?_
 refine oq (bV false) ?_
 iterate 3 refine ou ?_
 refine oq (bV false) ?_
 refine oq (bV false) ?_
 refine oq (bV false) ?_
 refine oq (bV false) ?_
 refine nt ?_
 refine runs_ret ?_
 exact ⟨_, leave_t1 rfl rfl, fb (false) (by simp only [rightRange, if_neg c1, if_pos c9, if_pos c10, if_neg c11, if_pos c12]), KH7⟩
 refine oqp (bV true) (by exact congrArg (fun b => some (SV.lit (.bool (!b)), ([] : List Fact))) (Bool.eq_false_iff.2 c12)) ?_
 refine oq (bV true) ?_
 refine oq (.ptr (H1.next + 1) 5) ?_
 refine olc (bV p11) 5 g5_H7 ?_
 refine oq (bV (!p11)) ?_
 refine oq (bV (!p11)) ?_
 refine oq (bV (!p11)) ?_
 refine oq (bV (!p11)) ?_
 refine oq (bV (!p11)) ?_
 refine nt ?_
 refine runs_ret ?_
 exact ⟨_, leave_t1 rfl rfl, fb (!p11) (by simp only [rightRange, if_neg c1, if_pos c9, if_pos c10, if_neg c11, if_neg c12]), KH7⟩
 refine oqp (bV true) (by exact congrArg one (b_neq (by rw [show (!decide (p6 = 0 ∧ p7 = 0)) = false from (Bool.eq_false_iff.2 c10)]; rfl))) ?_
 refine oq (bV true) ?_
 iterate 6 refine ou ?_
 refine oq (bV true) ?_
 refine nt ?_
 refine runs_cond true rfl ?_
 refine sr ?_
 refine oq (bV false) ?_
 refine nt ?_
 refine runs_ret ?_
 refine then_r ?_
 exact ⟨_, leave_t1 rfl rfl, fb (false) (by simp only [rightRange, if_neg c1, if_pos c9, if_neg c10]), KH7⟩
 refine drawn_end (m' := 1023) (held' := [⟨descOf 6 rightRange_o3.toList 0 0, [.cells H5.next 0 [iV 0, iV 0]], none⟩, ⟨descOf 5 rightRange_o3.toList 0 0, [.cells H1.next 2 [iV p2, iV p3]], none⟩, ⟨descOf 2 rightRange_o3.toList 0 0, [.cells H5.next 0 [iV 0, iV 0]], none⟩, ⟨descOf 1 rightRange_o3.toList 0 0, [.cells H1.next 0 [iV p0, iV p1]], none⟩]) (hp' := H7) (by
  refine tq (.ptr H1.next 0) ?_
  refine take_f (v := .agg [iV p0, iV p1]) (fact := .cells H1.next 0 [iV p0, iV p1]) rfl rfl rfl (by exact load_cut (P := Tryz.prog) (t := 23) (k := 0) (n := 2) (vs := [iV p0, iV p1]) rfl rfl g4_H7.get rfl) rfl rfl ?_
  refine take_f (v := .agg [iV 0, iV 0]) (fact := .cells H5.next 0 [iV 0, iV 0]) rfl rfl rfl (by exact load_cut (P := Tryz.prog) (t := 23) (k := 0) (n := 2) (vs := [iV 0, iV 0]) rfl rfl g7.get rfl) rfl rfl ?_
  refine tqp (bV true) (by exact congrArg one (s23_neqF c1)) ?_
  refine tq (.ptr H1.next 2) ?_
  refine take_f (v := .agg [iV p2, iV p3]) (fact := .cells H1.next 2 [iV p2, iV p3]) rfl rfl rfl (by exact load_cut (P := Tryz.prog) (t := 23) (k := 2) (n := 2) (vs := [iV p2, iV p3]) rfl rfl g4_H7.get rfl) rfl rfl ?_
  refine take_f (v := .agg [iV 0, iV 0]) (fact := .cells H5.next 0 [iV 0, iV 0]) rfl rfl rfl (by exact load_cut (P := Tryz.prog) (t := 23) (k := 0) (n := 2) (vs := [iV 0, iV 0]) rfl rfl g7.get rfl) rfl rfl ?_
  refine tqp (bV true) (by exact congrArg one (s23_neqF c9)) ?_
  refine tq (bV true) ?_
  refine tq (bV true) ?_
  rfl) (by rfl) (by rfl) ?_
 refine then_n ?_
 refine runs_seq ?_
 refine sr ?_
 refine oq (bV true) ?_
 refine oq (.ptr (H1.next + 1) 0) ?_
 refine ola [iV p6, iV p7] 0 g5_H7 ?_
 refine ola [iV 0, iV 0] 0 g7 ?_
 refine oqp (bV (!decide (p6 = 0 ∧ p7 = 0))) (by exact congrArg one s23_neq) ?_
 by_cases c13 : (!decide (p6 = 0 ∧ p7 = 0)) = true
 refine oqp (bV false) (by exact congrArg one (b_neq (by rw [show (!decide (p6 = 0 ∧ p7 = 0)) = true from c13]; rfl))) ?_
 refine oq (bV false) ?_
 refine oq (bV true) ?_
 refine oq (.ptr (H1.next + 1) 2) ?_
 refine ola [iV p8, iV p9] 2 g5_H7 ?_
 refine ola [iV 0, iV 0] 0 g7 ?_
 refine oqp (bV (!decide (p8 = 0 ∧ p9 = 0))) (by exact congrArg one s23_neq) ?_
 by_cases c14 : (!decide (p8 = 0 ∧ p9 = 0)) = true
 refine oqp (bV false) (by exact congrArg one (b_neq (by rw [show (!decide (p8 = 0 ∧ p9 = 0)) = true from c14]; rfl))) ?_
 refine oq (bV false) ?_
 refine nt ?_
 refine runs_cond false rfl ?_
 refine runs_skip ?_
 refine then_n ?_
 refine sr ?_
 refine oq (bV true) ?_
 refine oq (bV true) ?_
 refine ou ?_
 refine oq (bV true) ?_
 refine oq (bV true) ?_
 refine oq (bV true) ?_
 refine oq (bV true) ?_
 iterate 8 refine ou ?_
 refine oq (bV true) ?_
 refine oq (bV true) ?_
 refine oq (bV true) ?_
 refine oq (bV true) ?_
 refine oq (bV true) ?_
 iterate 8 refine ou ?_
 refine oq (bV true) ?_
 refine oq (bV true) ?_
 refine oq (bV true) ?_
 refine nt ?_
 refine runs_ret ?_
 exact ⟨_, leave_t1 rfl rfl, fb (true) (by simp only [rightRange, if_neg c1, if_neg c9, if_pos c13, if_pos c14]), KH7⟩
 refine oqp (bV true) (by exact congrArg one (b_neq (by rw [show (!decide (p8 = 0 ∧ p9 = 0)) = false from (Bool.eq_false_iff.2 c14)]; rfl))) ?_
 refine oq (bV true) ?_
 refine nt ?_
 refine runs_cond true rfl ?_
 refine sr ?_
 refine oq (bV false) ?_
 refine nt ?_
 refine runs_ret ?_
 refine then_r ?_
 exact ⟨_, leave_t1 rfl rfl, fb (false) (by simp only [rightRange, if_neg c1, if_neg c9, if_pos c13, if_neg c14]), KH7⟩
 refine oqp (bV true) (by exact congrArg one (b_neq (by rw [show (!decide (p6 = 0 ∧ p7 = 0)) = false from (Bool.eq_false_iff.2 c13)]; rfl))) ?_
 refine oq (bV true) ?_
 iterate 6 refine ou ?_
 refine oq (bV true) ?_
 refine nt ?_
 refine runs_cond true rfl ?_
 refine sr ?_
 refine oq (bV false) ?_
 refine nt ?_
 refine runs_ret ?_
 refine then_r ?_
 exact ⟨_, leave_t1 rfl rfl, fb (false) (by simp only [rightRange, if_neg c1, if_neg c9, if_neg c13]), KH7⟩
def isSeen_l0 (s : List UInt8) : Nat → Int → Int → Int × Int
 | 0, x3, x9 => (x3, x9)
 | f + 1, x3, x9 => if x9 < 2 then
  if x3 < (s.length : Int) then
   if (bAt s x3) = (bAt [82, 67] x9) then
    isSeen_l0 s f ((x3 + 1) + (digitsOf (tFrom s (x3 + 1)))) (x9 + 1)
   else
    isSeen_l0 s f x3 (x9 + 1)
  else
   isSeen_l0 s f x3 (x9 + 1)
 else
  (x3, x9)
noncomputable def isSeen_l0_c : Code := (inBlk (seqR (seqL (seqR (seqR (bodyOf Tryz.f232))))))
set_option maxHeartbeats 8000000 in
set_option maxRecDepth 20000 in
theorem isSeen_l0_runs (Γ : Glob) (s : List UInt8) (b7 : Nat) (hs : (s.length : Int) ≤ 1152921504606846976) (h0 : Hp) (lo : Nat) (_h00 : h0.next ≤ lo) : ∀ (fuel : Nat) (x3 : Int) (x9 : Int) (tm : T SV) (h : Hp) (r : Int × Int), isSeen_l0 s fuel x3 x9 = r → (2 - x9.toNat) < fuel → (0 ≤ x9 ∧ x9 ≤ 2 ∧ 0 ≤ x3 ∧ x3 ≤ (s.length : Int)) → lo ≤ h.next → Kept h0.next h0 h → Fr.ev ⟨tm, 37, []⟩ (.tmp 0) = sV s → Fr.ev ⟨tm, 37, []⟩ (.tmp 3) = iV x3 → Fr.ev ⟨tm, 37, []⟩ (.tmp 7) = .slice b7 0 2 2 → Fr.ev ⟨tm, 37, []⟩ (.tmp 8) = iV 2 → Fr.ev ⟨tm, 37, []⟩ (.tmp 9) = iV x9 → At h b7 (.cells (bytesC [82, 67]) 5) →
  Runs Tryz.prog Γ (.code isSeen_l0_c none ⟨tm, 37, []⟩ h) fun o => ∃ tm2 H v, o = ⟨.exit 0, ⟨tm2, 37, []⟩, H, v⟩ ∧ (Fr.ev ⟨tm2, 37, []⟩ (.tmp 0) = sV s ∧ Fr.ev ⟨tm2, 37, []⟩ (.tmp 3) = iV r.1 ∧ Fr.ev ⟨tm2, 37, []⟩ (.tmp 7) = .slice b7 0 2 2 ∧ Fr.ev ⟨tm2, 37, []⟩ (.tmp 8) = iV 2 ∧ Fr.ev ⟨tm2, 37, []⟩ (.tmp 9) = iV r.2) ∧ (True) ∧ (At H b7 (.cells (bytesC [82, 67]) 5)) ∧ (0 ≤ r.2 ∧ r.2 ≤ 2 ∧ 0 ≤ r.1 ∧ r.1 ≤ (s.length : Int)) ∧ Kept lo h H := by
 intro fuel
 induction fuel with
 | zero =>
  intros
  omega
 | succ f ih =>
  intro x3 x9  tm h r hr hm hi hlo K0 e0 e3 e7 e8 e9 gb7
  refine runs_loop ?_
  refine sr ?_
  by_cases c1 : x9 < 2
  refine oqp (bV true) (by simp only [quiet, e8, e9]; exact congrArg one (c3_lssT c1)) ?_
  refine nt ?_
  refine runs_seq ?_
  refine runs_cond true rfl ?_
  refine runs_skip ?_
  refine then_n ?_
  refine runs_seq ?_
  refine runs_blk ?_
  refine sr ?_
  refine oqp (.ptr b7 (Int.toNat x9)) (by simp only [quiet, ev_set, e7, e9]; exact congrArg one (slc_at rfl rfl (by omega) (by omega))) ?_
  have q2 : (([82, 67] : List UInt8).length : Int) = 2 := rfl
  refine oqf (yV (bAt [82, 67] x9)) ([.cells b7 (Int.toNat x9) [yV (bAt [82, 67] x9)]]) (by exact load_byteS (t := 5) (l := [82, 67]) (i := x9) rfl gb7.get (by omega) (by omega)) ?_
  have q3 := bAt_range [82, 67] x9
  refine oq (yV (bAt [82, 67] x9)) ?_
  refine nt ?_
  refine sr ?_
  refine oqp (iV x3) (by simp only [quiet, ev_set, e3] <;> rfl) ?_
  refine oqp (sV s) (by simp only [quiet, ev_set, e0] <;> rfl) ?_
  refine oq (iV (s.length : Int)) ?_
  by_cases c4 : x3 < (s.length : Int)
  refine oqp (bV true) (by exact congrArg one (c3_lssT c4)) ?_
  refine oq (bV true) ?_
  refine oqp (sV s) (by simp only [quiet, ev_set, e0] <;> rfl) ?_
  refine oqp (iV x3) (by simp only [quiet, ev_set, e3] <;> rfl) ?_
  refine oqp (yV (bAt s x3)) (by exact congrArg one (txt_at (i := x3) (by omega) (by omega))) ?_
  have q5 := bAt_range s x3
  refine oq (yV (bAt [82, 67] x9)) ?_
  by_cases c6 : (bAt s x3) = (bAt [82, 67] x9)
  refine oqp (bV true) (by exact congrArg one (c5_eqlT c6)) ?_
  refine oq (bV true) ?_
  refine nt ?_
  refine runs_cond true rfl ?_
  refine sr ?_
  refine oqp (iV x3) (by simp only [quiet, ev_set, e3] <;> rfl) ?_
  refine oqp (iV (x3 + 1)) (by exact congrArg one (a3_add (by omega) (by omega) (by omega))) ?_
  refine oq (iV (x3 + 1)) ?_
  refine nt ?_
  refine runs_region ?_
  refine oq (iV (x3 + 1)) ?_
  refine oqp (sV s) (by simp only [quiet, ev_set, e0] <;> rfl) ?_
  refine oq (iV (x3 + 1)) ?_
  refine oqp (sV (tFrom s (x3 + 1))) (by exact congrArg one (txt_from (by omega) (by omega))) ?_
  have q7 : ((tFrom s (x3 + 1)).length : Int) = _ := tFrom_len (by omega) (by omega)
  refine ops_c (f := 295) (args := [sV (tFrom s (x3 + 1))]) rfl rfl rfl (clone_body Tryz.func295 rfl) rfl rfl ?_
  refine (digitsOf_runs Γ (tFrom s (x3 + 1)) h (by omega)).mono ?_
  rintro ⟨ex1, fr1, H1, v1⟩ ⟨⟨hv1, k1⟩, fa1⟩
  have k1 : Kept h.next h H1 := k1
  have gb7_H1 := gb7.kept k1
  have KH1 : Kept h0.next h0 H1 := K0.trans (k1.less (Nat.le_trans (Nat.le_refl _) K0.next))
  have K1H1 : Kept lo h H1 := k1.less hlo
  have hv1 : v1 = iV (digitsOf (tFrom s (x3 + 1))) := hv1
  subst hv1
  refine oqp (iV ((x3 + 1) + (digitsOf (tFrom s (x3 + 1))))) (by exact congrArg one (a3_add (by omega) (by omega) (by omega))) ?_
  refine oq (iV ((x3 + 1) + (digitsOf (tFrom s (x3 + 1))))) ?_
  refine ops_nil ?_
  refine blk_n ?_
  refine then_n ?_
  refine runs_region ?_
  refine oqp (iV (x9 + 1)) (by simp only [quiet, ev_set, e9]; exact congrArg one (a3_add (by omega) (by omega) (by omega))) ?_
  refine oq (iV (x9 + 1)) ?_
  refine nt ?_
  refine (ih ((x3 + 1) + (digitsOf (tFrom s (x3 + 1)))) (x9 + 1)  _ _ r (by rw [← hr, isSeen_l0]; simp only [if_pos c1, if_pos c4, if_pos c6]) (by omega) (by omega) (Nat.le_trans hlo K1H1.next) KH1 (by simp only [ev_set, e0] <;> rfl) rfl (by simp only [ev_set, e7] <;> rfl) (by simp only [ev_set, e8] <;> rfl) rfl  gb7_H1 ).mono ?_
  exact fun o ⟨tm2, H, v, a1, a2, a3, a5, a0, a4⟩ => ⟨tm2, H, v, a1, a2, a3, a5, a0, Kept.trans K1H1 a4⟩
  refine oqp (bV false) (by exact congrArg one (c5_eqlF c6)) ?_
  refine oq (bV false) ?_
  refine nt ?_
  refine runs_cond false rfl ?_
  refine runs_skip ?_
  refine blk_n ?_
  refine then_n ?_
  refine runs_region ?_
  refine oqp (iV (x9 + 1)) (by simp only [quiet, ev_set, e9]; exact congrArg one (a3_add (by omega) (by omega) (by omega))) ?_
  refine oq (iV (x9 + 1)) ?_
  refine nt ?_
  refine (ih x3 (x9 + 1)  _ _ r (by rw [← hr, isSeen_l0]; simp only [if_pos c1, if_pos c4, if_neg c6]) (by omega) (by omega) hlo K0 (by simp only [ev_set, e0] <;> rfl) (by simp only [ev_set, e3] <;> rfl) (by simp only [ev_set, e7] <;> rfl) (by simp only [ev_set, e8] <;> rfl) rfl  gb7 ).mono ?_
  exact fun o ho => ho
  refine oqp (bV false) (by exact congrArg one (c3_lssF c4)) ?_
  refine oq (bV false) ?_
  iterate 5 refine ou ?_
  refine oq (bV false) ?_
  refine nt ?_
  refine runs_cond false rfl ?_
  refine runs_skip ?_
  refine blk_n ?_
  refine then_n ?_
  refine runs_region ?_
  refine oqp (iV (x9 + 1)) (by simp only [quiet, ev_set, e9]; exact congrArg one (a3_add (by omega) (by omega) (by omega))) ?_
  refine oq (iV (x9 + 1)) ?_
  refine nt ?_
  refine (ih x3 (x9 + 1)  _ _ r (by rw [← hr, isSeen_l0]; simp only [if_pos c1, if_neg c4]) (by omega) (by omega) hlo K0 (by simp only [ev_set, e0] <;> rfl) (by simp only [ev_set, e3] <;> rfl) (by simp only [ev_set, e7] <;> rfl) (by simp only [ev_set, e8] <;> rfl) rfl  gb7 ).mono ?_
  exact fun o ho => ho
  refine oqp (bV false) (by simp only [quiet, e8, e9]; exact congrArg one (c3_lssF c1)) ?_
  refine nt ?_
  refine runs_seq ?_
  refine runs_cond false rfl ?_
  refine runs_exit ?_
  refine then_x ?_
  refine then_x ?_
  obtain rfl : (x3, x9) = r := by rw [← hr, isSeen_l0]; simp only [if_neg c1]
  exact ⟨_, _, _, rfl, ⟨(by simp only [ev_set, e0] <;> rfl), (by simp only [ev_set, e3] <;> rfl), (by simp only [ev_set, e7] <;> rfl), (by simp only [ev_set, e8] <;> rfl), (by simp only [ev_set, e9] <;> rfl)⟩, True.intro, gb7, (by (try dsimp only); omega), (Kept.refl _ _)⟩
def isSeen (s : List UInt8) : Bool :=
 let r3 := isSeen_l0 s (2 - (0 : Int).toNat + 1) 0 0
 decide (r3.1 = (s.length : Int))
set_option maxHeartbeats 8000000 in
set_option maxRecDepth 20000 in
theorem isSeen_runs (Γ : Glob) (s : List UInt8) (h : Hp) (hs : (s.length : Int) ≤ 1152921504606846976) : Runs Tryz.prog Γ (.call 232 [sV s] h) (Tells h (bV (isSeen s))) := by
 refine runs_call Tryz.func232 rfl ?_
 refine sr ?_
 refine oq (bV false) ?_
 refine nt ?_
 refine sr ?_
 refine oq (iV 0) ?_
 refine nt ?_
 refine runs_seq ?_
 refine sr ?_
 refine ops_bsl (t := 55) (k := 2) (cs := [yV 82, yV 67]) (e := 5) rfl rfl (by rfl) rfl rfl (fun H1 g1 k1 n1 => ?_)
 have lo1_0 : h.next ≤ h.next := (Nat.le_refl _)
 refine ops_sameconv (t := 55) rfl rfl rfl g1.get rfl rfl rfl rfl (fun H2 k2 => ?_)
 have g1_H2 := g1.kept k2
 have KH2 : Kept h.next h H2 := k1.trans (k2.less (Nat.le_trans (Nat.le_refl _) k1.next))
 refine oq (iV 2) ?_
 refine oq (iV 0) ?_
 refine nt ?_
 refine runs_blk ?_
 obtain ⟨r3, hr3⟩ : ∃ r, isSeen_l0 s (2 - (0 : Int).toNat + 1) 0 0 = r := ⟨_, rfl⟩
 refine (isSeen_l0_runs Γ s h.next hs h H2.next (Nat.le_trans (Nat.le_refl _) KH2.next) (2 - (0 : Int).toNat + 1) 0 0  _ _ _ hr3 (by omega) (by omega) (Nat.le_refl _) KH2 rfl rfl rfl rfl rfl  g1_H2 ).mono ?_
 rintro _ ⟨tm3, H3, v3, rfl, ⟨e0_3, e3_3, e7_3, e8_3, e9_3⟩, _, g1b_3, i3, k3⟩
 refine blk_x ?_
 have g1_H3 := g1_H2.keptLo k3 g1_H2.lt
 have KH3 : Kept h.next h H3 := KH2.trans (k3.less (Nat.le_trans (Nat.le_refl _) KH2.next))
 refine then_n ?_
 refine sr ?_
 refine oqp (iV r3.1) (by simp only [quiet, e3_3] <;> rfl) ?_
 refine oqp (sV s) (by simp only [quiet, ev_set, e0_3] <;> rfl) ?_
 refine oq (iV (s.length : Int)) ?_
 refine oqp (bV (decide (r3.1 = (s.length : Int)))) (by exact congrArg one c3_eql) ?_
 refine oq (bV (decide (r3.1 = (s.length : Int)))) ?_
 refine nt ?_
 refine runs_ret ?_
 exact ⟨_, leave_t1 rfl rfl, fb (decide (r3.1 = (s.length : Int))) (by subst hr3; simp only [isSeen]), KH3⟩
def isName_l0 (s : List UInt8) : Nat → Int → Bool ⊕ Int
 | 0, x29 => Sum.inr x29
 | f + 1, x29 => if x29 < (s.length : Int) then
  if isCapital (bAt s x29) = true then
   isName_l0 s f (x29 + 1)
  else
   if isDigit (bAt s x29) = true then
    isName_l0 s f (x29 + 1)
   else
    if (bAt s x29) ≠ 95 then
     if (bAt s x29) ≠ 46 then
      Sum.inl false
     else
      isName_l0 s f (x29 + 1)
    else
     isName_l0 s f (x29 + 1)
 else
  Sum.inr x29
noncomputable def isName_l0_c : Code := (inBlk (seqR (seqL (seqR (seqR (bodyOf Tryz.f180))))))
set_option maxHeartbeats 8000000 in
set_option maxRecDepth 20000 in
theorem isName_l0_runs (Γ : Glob) (s : List UInt8) (b27 : Nat) (h0 : Hp) (lo : Nat) (_h00 : h0.next ≤ lo) : ∀ (fuel : Nat) (x29 : Int) (tm : T SV) (h : Hp) (r : Bool ⊕ Int), isName_l0 s fuel x29 = r → ((s.length : Int).toNat - x29.toNat) < fuel → (0 ≤ x29 ∧ x29 ≤ (s.length : Int) ∧ (s.length : Int) ≤ 32) → lo ≤ h.next → Kept h0.next h0 h → Fr.ev ⟨tm, 80, []⟩ (.tmp 0) = sV s → Fr.ev ⟨tm, 80, []⟩ (.tmp 27) = .row b27 0 s.length s.length b27 → Fr.ev ⟨tm, 80, []⟩ (.tmp 28) = iV (s.length : Int) → Fr.ev ⟨tm, 80, []⟩ (.tmp 29) = iV x29 → At h b27 (.row (bytesC s) 5 s.length b27 1) →
  Runs Tryz.prog Γ (.code isName_l0_c none ⟨tm, 80, []⟩ h) fun o => (∃ x, r = .inl x ∧ ∃ tm2 H v, o = ⟨.ret, ⟨tm2, 80, []⟩, H, v⟩ ∧ (Fr.ev ⟨tm2, 80, []⟩ (.tmp 2) = bV x) ∧ Kept lo h H) ∨ (∃ x, r = .inr x ∧ ∃ tm2 H v, o = ⟨.exit 0, ⟨tm2, 80, []⟩, H, v⟩ ∧ (Fr.ev ⟨tm2, 80, []⟩ (.tmp 0) = sV s ∧ Fr.ev ⟨tm2, 80, []⟩ (.tmp 27) = .row b27 0 s.length s.length b27 ∧ Fr.ev ⟨tm2, 80, []⟩ (.tmp 28) = iV (s.length : Int) ∧ Fr.ev ⟨tm2, 80, []⟩ (.tmp 29) = iV x) ∧ (True) ∧ (At H b27 (.row (bytesC s) 5 s.length b27 1)) ∧ (0 ≤ x ∧ x ≤ (s.length : Int) ∧ (s.length : Int) ≤ 32) ∧ Kept lo h H) := by
 intro fuel
 induction fuel with
 | zero =>
  intros
  omega
 | succ f ih =>
  intro x29  tm h r hr hm hi hlo K0 e0 e27 e28 e29 gb27
  refine runs_loop ?_
  refine sr ?_
  by_cases c1 : x29 < (s.length : Int)
  refine oqp (bV true) (by simp only [quiet, e28, e29]; exact congrArg one (c3_lssT c1)) ?_
  refine nt ?_
  refine runs_seq ?_
  refine runs_cond true rfl ?_
  refine runs_skip ?_
  refine then_n ?_
  refine runs_seq ?_
  refine runs_blk ?_
  refine sr ?_
  refine oqp (.ptr b27 (Int.toNat x29)) (by simp only [quiet, ev_set, e27, e29]; exact congrArg one (row_at rfl rfl (by omega) (by omega))) ?_
  refine oqf (yV (bAt s x29)) ([.cells b27 (Int.toNat x29) [yV (bAt s x29)]]) (by exact load_byte (t := 5) (l := s) (i := x29) rfl gb27.get (by omega) (by omega)) ?_
  have q2 := bAt_range s x29
  refine oq (yV (bAt s x29)) ?_
  refine nt ?_
  refine sr ?_
  refine oq (yV (bAt s x29)) ?_
  refine ops_c (f := 229) (args := [yV (bAt s x29)]) rfl rfl rfl (clone_body Tryz.func229 rfl) rfl rfl ?_
  refine (isCapital_runs Γ (bAt s x29) h ).mono ?_
  rintro ⟨ex1, fr1, H1, v1⟩ ⟨hv1, k1⟩
  have k1 : Kept h.next h H1 := k1
  have gb27_H1 := gb27.kept k1
  have KH1 : Kept h0.next h0 H1 := K0.trans (k1.less (Nat.le_trans (Nat.le_refl _) K0.next))
  have K1H1 : Kept lo h H1 := k1.less hlo
  by_cases c3 : isCapital (bAt s x29) = true
  have hv1 : v1 = bV true := hv1.trans (congrArg (fun b => SV.lit (.bool b)) c3)
  subst hv1
  refine oq (bV false) ?_
  refine oq (bV false) ?_
  iterate 3 refine ou ?_
  refine oq (bV false) ?_
  refine oq (bV false) ?_
  refine ou ?_
  refine ou ?_
  refine oq (bV false) ?_
  refine oq (bV false) ?_
  refine ou ?_
  refine ou ?_
  refine oq (bV false) ?_
  refine nt ?_
  refine runs_cond false rfl ?_
  refine runs_skip ?_
  refine blk_n ?_
  refine then_n ?_
  refine runs_region ?_
  refine oqp (iV (x29 + 1)) (by simp only [quiet, ev_set, e29]; exact congrArg one (a3_add (by omega) (by omega) (by omega))) ?_
  refine oq (iV (x29 + 1)) ?_
  refine nt ?_
  refine (ih (x29 + 1)  _ _ r (by rw [← hr, isName_l0]; simp only [if_pos c1, if_pos c3]) (by omega) (by omega) (Nat.le_trans hlo K1H1.next) KH1 (by simp only [ev_set, e0] <;> rfl) (by simp only [ev_set, e27] <;> rfl) (by simp only [ev_set, e28] <;> rfl) rfl  gb27_H1 ).mono ?_
  exact fun o ho => ho.imp (fun ⟨x, hx, tm2, H, v, a1, a2, a3⟩ => ⟨x, hx, tm2, H, v, a1, a2, Kept.trans K1H1 a3⟩) (fun ⟨x, hx, tm2, H, v, a1, a2, a3, a5, a0, a4⟩ => ⟨x, hx, tm2, H, v, a1, a2, a3, a5, a0, Kept.trans K1H1 a4⟩)
  have hv1 : v1 = bV false := hv1.trans (congrArg (fun b => SV.lit (.bool b)) (Bool.eq_false_iff.2 c3))
  subst hv1
  refine oq (bV true) ?_
  refine oq (bV true) ?_
  refine oq (yV (bAt s x29)) ?_
  refine ops_c (f := 230) (args := [yV (bAt s x29)]) rfl rfl rfl (clone_body Tryz.func230 rfl) rfl rfl ?_
  refine (isDigit_runs Γ (bAt s x29) H1 ).mono ?_
  rintro ⟨ex2, fr2, H2, v2⟩ ⟨hv2, k2⟩
  have k2 : Kept H1.next H1 H2 := k2
  have gb27_H2 := gb27_H1.kept k2
  have KH2 : Kept h0.next h0 H2 := KH1.trans (k2.less (Nat.le_trans (Nat.le_refl _) KH1.next))
  have K1H2 : Kept lo h H2 := K1H1.trans (k2.less (Nat.le_trans hlo K1H1.next))
  by_cases c4 : isDigit (bAt s x29) = true
  have hv2 : v2 = bV true := hv2.trans (congrArg (fun b => SV.lit (.bool b)) c4)
  subst hv2
  refine oq (bV false) ?_
  refine oq (bV false) ?_
  refine oq (bV false) ?_
  refine ou ?_
  refine ou ?_
  refine oq (bV false) ?_
  refine oq (bV false) ?_
  refine ou ?_
  refine ou ?_
  refine oq (bV false) ?_
  refine nt ?_
  refine runs_cond false rfl ?_
  refine runs_skip ?_
  refine blk_n ?_
  refine then_n ?_
  refine runs_region ?_
  refine oqp (iV (x29 + 1)) (by simp only [quiet, ev_set, e29]; exact congrArg one (a3_add (by omega) (by omega) (by omega))) ?_
  refine oq (iV (x29 + 1)) ?_
  refine nt ?_
  refine (ih (x29 + 1)  _ _ r (by rw [← hr, isName_l0]; simp only [if_pos c1, if_neg c3, if_pos c4]) (by omega) (by omega) (Nat.le_trans hlo K1H2.next) KH2 (by simp only [ev_set, e0] <;> rfl) (by simp only [ev_set, e27] <;> rfl) (by simp only [ev_set, e28] <;> rfl) rfl  gb27_H2 ).mono ?_
  exact fun o ho => ho.imp (fun ⟨x, hx, tm2, H, v, a1, a2, a3⟩ => ⟨x, hx, tm2, H, v, a1, a2, Kept.trans K1H2 a3⟩) (fun ⟨x, hx, tm2, H, v, a1, a2, a3, a5, a0, a4⟩ => ⟨x, hx, tm2, H, v, a1, a2, a3, a5, a0, Kept.trans K1H2 a4⟩)
  have hv2 : v2 = bV false := hv2.trans (congrArg (fun b => SV.lit (.bool b)) (Bool.eq_false_iff.2 c4))
  subst hv2
  refine oq (bV true) ?_
  refine oq (bV true) ?_
  refine oq (bV true) ?_
  refine oq (yV (bAt s x29)) ?_
  by_cases c5 : (bAt s x29) ≠ 95
  refine oqp (bV true) (by exact congrArg one (c5_neqT c5)) ?_
  refine oq (bV true) ?_
  refine oq (bV true) ?_
  refine oq (yV (bAt s x29)) ?_
  by_cases c6 : (bAt s x29) ≠ 46
  refine oqp (bV true) (by exact congrArg one (c5_neqT c6)) ?_
  refine oq (bV true) ?_
  refine nt ?_
  refine runs_cond true rfl ?_
  refine sr ?_
  refine oq (bV false) ?_
  refine nt ?_
  refine runs_ret ?_
  refine blk_r ?_
  refine then_r ?_
  refine then_r ?_
  obtain rfl : Sum.inl false = r := by rw [← hr, isName_l0]; simp only [if_pos c1, if_neg c3, if_neg c4, if_pos c5, if_pos c6]
  exact .inl ⟨_, rfl, _, _, _, rfl, rfl, K1H2⟩
  refine oqp (bV false) (by exact congrArg one (c5_neqF c6)) ?_
  refine oq (bV false) ?_
  refine nt ?_
  refine runs_cond false rfl ?_
  refine runs_skip ?_
  refine blk_n ?_
  refine then_n ?_
  refine runs_region ?_
  refine oqp (iV (x29 + 1)) (by simp only [quiet, ev_set, e29]; exact congrArg one (a3_add (by omega) (by omega) (by omega))) ?_
  refine oq (iV (x29 + 1)) ?_
  refine nt ?_
  refine (ih (x29 + 1)  _ _ r (by rw [← hr, isName_l0]; simp only [if_pos c1, if_neg c3, if_neg c4, if_pos c5, if_neg c6]) (by omega) (by omega) (Nat.le_trans hlo K1H2.next) KH2 (by simp only [ev_set, e0] <;> rfl) (by simp only [ev_set, e27] <;> rfl) (by simp only [ev_set, e28] <;> rfl) rfl  gb27_H2 ).mono ?_
  exact fun o ho => ho.imp (fun ⟨x, hx, tm2, H, v, a1, a2, a3⟩ => ⟨x, hx, tm2, H, v, a1, a2, Kept.trans K1H2 a3⟩) (fun ⟨x, hx, tm2, H, v, a1, a2, a3, a5, a0, a4⟩ => ⟨x, hx, tm2, H, v, a1, a2, a3, a5, a0, Kept.trans K1H2 a4⟩)
  refine oqp (bV false) (by exact congrArg one (c5_neqF c5)) ?_
  refine oq (bV false) ?_
  refine oq (bV false) ?_
  refine ou ?_
  refine ou ?_
  refine oq (bV false) ?_
  refine nt ?_
  refine runs_cond false rfl ?_
  refine runs_skip ?_
  refine blk_n ?_
  refine then_n ?_
  refine runs_region ?_
  refine oqp (iV (x29 + 1)) (by simp only [quiet, ev_set, e29]; exact congrArg one (a3_add (by omega) (by omega) (by omega))) ?_
  refine oq (iV (x29 + 1)) ?_
  refine nt ?_
  refine (ih (x29 + 1)  _ _ r (by rw [← hr, isName_l0]; simp only [if_pos c1, if_neg c3, if_neg c4, if_neg c5]) (by omega) (by omega) (Nat.le_trans hlo K1H2.next) KH2 (by simp only [ev_set, e0] <;> rfl) (by simp only [ev_set, e27] <;> rfl) (by simp only [ev_set, e28] <;> rfl) rfl  gb27_H2 ).mono ?_
  exact fun o ho => ho.imp (fun ⟨x, hx, tm2, H, v, a1, a2, a3⟩ => ⟨x, hx, tm2, H, v, a1, a2, Kept.trans K1H2 a3⟩) (fun ⟨x, hx, tm2, H, v, a1, a2, a3, a5, a0, a4⟩ => ⟨x, hx, tm2, H, v, a1, a2, a3, a5, a0, Kept.trans K1H2 a4⟩)
  refine oqp (bV false) (by simp only [quiet, e28, e29]; exact congrArg one (c3_lssF c1)) ?_
  refine nt ?_
  refine runs_seq ?_
  refine runs_cond false rfl ?_
  refine runs_exit ?_
  refine then_x ?_
  refine then_x ?_
  obtain rfl : Sum.inr x29 = r := by rw [← hr, isName_l0]; simp only [if_neg c1]
  exact .inr ⟨_, rfl, _, _, _, rfl, ⟨(by simp only [ev_set, e0] <;> rfl), (by simp only [ev_set, e27] <;> rfl), (by simp only [ev_set, e28] <;> rfl), (by simp only [ev_set, e29] <;> rfl)⟩, True.intro, gb27, (by (try dsimp only); omega), (Kept.refl _ _)⟩
def isName (s : List UInt8) : Bool :=
 if s = [] then
  false
 else
  if (s.length : Int) > 32 then
   false
  else
   if isCapital (bAt s 0) = true then
    match isName_l0 s ((s.length : Int).toNat - (0 : Int).toNat + 1) 0 with
    | .inl r3 => r3
    | .inr _r3 => if s = [84, 82, 85, 69] then
       false
      else
       if s = [70, 65, 76, 83, 69] then
        false
       else
        if isSeen s = true then
         false
        else
         let r5 := split s
         if r5.2.2 = true then
          if r5.1 ≥ 1 then
           if r5.1 ≤ 3 then
            !(decide (r5.2.1 ≥ 1))
           else
            true
          else
           true
         else
          true
   else
    if (bAt s 0) ≠ 95 then
     false
    else
     match isName_l0 s ((s.length : Int).toNat - (0 : Int).toNat + 1) 0 with
     | .inl r7 => r7
     | .inr _r7 => if s = [84, 82, 85, 69] then
        false
       else
        if s = [70, 65, 76, 83, 69] then
         false
        else
         if isSeen s = true then
          false
         else
          let r9 := split s
          if r9.2.2 = true then
           if r9.1 ≥ 1 then
            if r9.1 ≤ 3 then
             !(decide (r9.2.1 ≥ 1))
            else
             true
           else
            true
          else
           true
set_option maxHeartbeats 8000000 in
set_option maxRecDepth 20000 in
theorem isName_runs (Γ : Glob) (s : List UInt8) (h : Hp)  : Runs Tryz.prog Γ (.call 180 [sV s] h) (Tells h (bV (isName s))) := by
 refine runs_call Tryz.func180 rfl ?_
 refine sr ?_
 refine oq (bV false) ?_
 refine nt ?_
 refine runs_seq ?_
 refine sr ?_
 refine oq (sV s) ?_
 by_cases c1 : s = []
 refine oqp (bV true) (by exact congrArg one (t_eqlT c1)) ?_
 have q2 : ((s).length : Int) = (([] : List UInt8).length : Int) := by rw [c1]
 simp only [List.length_nil] at q2
 refine oq (bV true) ?_
 iterate 3 refine ou ?_
 refine oq (bV true) ?_
 refine oq (bV true) ?_
 iterate 9 refine ou ?_
 refine oq (bV true) ?_
 refine nt ?_
 refine runs_cond true rfl ?_
 refine sr ?_
 refine oq (bV false) ?_
 refine nt ?_
 refine runs_ret ?_
 refine then_r ?_
 exact ⟨_, leave_t1 rfl rfl, fb (false) (by simp only [isName, if_pos c1]), (Kept.refl _ _)⟩
 refine oqp (bV false) (by exact congrArg one (t_eqlF c1)) ?_
 have q3 := len_pos c1
 refine oq (bV false) ?_
 refine oq (sV s) ?_
 refine oq (iV (s.length : Int)) ?_
 by_cases c4 : (s.length : Int) > 32
 refine oqp (bV true) (by exact congrArg one (c3_gtrT c4)) ?_
 refine oq (bV true) ?_
 refine oq (bV true) ?_
 iterate 9 refine ou ?_
 refine oq (bV true) ?_
 refine nt ?_
 refine runs_cond true rfl ?_
 refine sr ?_
 refine oq (bV false) ?_
 refine nt ?_
 refine runs_ret ?_
 refine then_r ?_
 exact ⟨_, leave_t1 rfl rfl, fb (false) (by simp only [isName, if_neg c1, if_pos c4]), (Kept.refl _ _)⟩
 refine oqp (bV false) (by exact congrArg one (c3_gtrF c4)) ?_
 refine oq (bV false) ?_
 refine oq (bV false) ?_
 refine oq (sV s) ?_
 refine oqp (yV (bAt s 0)) (by exact congrArg one (txt_at (i := 0) (by omega) (by omega))) ?_
 have q5 := bAt_range s 0
 refine ops_c (f := 229) (args := [yV (bAt s 0)]) rfl rfl rfl (clone_body Tryz.func229 rfl) rfl rfl ?_
 refine (isCapital_runs Γ (bAt s 0) h ).mono ?_
 rintro ⟨ex1, fr1, H1, v1⟩ ⟨hv1, k1⟩
 have k1 : Kept h.next h H1 := k1
 by_cases c6 : isCapital (bAt s 0) = true
 have hv1 : v1 = bV true := hv1.trans (congrArg (fun b => SV.lit (.bool b)) c6)
 subst hv1
 refine oq (bV false) ?_
 refine oq (bV false) ?_
 iterate 3 refine ou ?_
 refine oq (bV false) ?_
 refine oq (bV false) ?_
 refine nt ?_
 refine runs_cond false rfl ?_
 refine runs_skip ?_
 refine then_n ?_
 refine runs_seq ?_
 refine sr ?_
 refine oq (sV s) ?_
 refine ops_bytes (l := s) rfl rfl rfl rfl rfl (fun H2 g2 k2 n2 => ?_)
 have lo2_0 : h.next ≤ H1.next := (Nat.le_trans (Nat.le_refl _) k1.next)
 have KH2 : Kept h.next h H2 := k1.trans (k2.less (Nat.le_trans (Nat.le_refl _) k1.next))
 refine oq (iV (s.length : Int)) ?_
 refine oq (iV 0) ?_
 refine nt ?_
 refine runs_blk ?_
 refine (isName_l0_runs Γ s H1.next h H2.next (Nat.le_trans (Nat.le_refl _) KH2.next) ((s.length : Int).toNat - (0 : Int).toNat + 1) 0  _ _ _ rfl (by omega) (by omega) (Nat.le_refl _) KH2 rfl rfl rfl rfl  g2 ).mono ?_
 rintro _ (⟨r3, hr3, tm3, H3, v3, rfl, q2_3, k3⟩ | ⟨r3, hr3, tm3, H3, v3, rfl, ⟨e0_3, e27_3, e28_3, e29_3⟩, _, g2b_3, i3, k3⟩)
 refine blk_r ?_
 have g2_H3 := g2.keptLo k3 g2.lt
 have KH3 : Kept h.next h H3 := KH2.trans (k3.less (Nat.le_trans (Nat.le_refl _) KH2.next))
 refine then_r ?_
 exact ⟨_, leave_t1 rfl (by simp only [q2_3] <;> rfl), fb (r3) (by simp only [isName, if_neg c1, if_neg c4, if_pos c6, hr3]), KH3⟩
 refine blk_x ?_
 have g2_H3 := g2.keptLo k3 g2.lt
 have KH3 : Kept h.next h H3 := KH2.trans (k3.less (Nat.le_trans (Nat.le_refl _) KH2.next))
 refine then_n ?_
 refine runs_seq ?_
 refine sr ?_
 refine oqp (sV s) (by simp only [quiet, e0_3] <;> rfl) ?_
 by_cases c7 : s = [84, 82, 85, 69]
 refine oqp (bV true) (by exact congrArg one (t_eqlT c7)) ?_
 have q8 : ((s).length : Int) = (([84, 82, 85, 69] : List UInt8).length : Int) := by rw [c7]
 simp only [List.length_cons, List.length_nil] at q8
 refine oq (bV true) ?_
 refine ou ?_
 refine ou ?_
 refine oq (bV true) ?_
 refine oq (bV true) ?_
 refine ou ?_
 refine ou ?_
 refine oq (bV true) ?_
 refine nt ?_
 refine runs_cond true rfl ?_
 refine sr ?_
 refine oq (bV false) ?_
 refine nt ?_
 refine runs_ret ?_
 refine then_r ?_
 exact ⟨_, leave_t1 rfl rfl, fb (false) (by simp only [isName, if_neg c1, if_neg c4, if_pos c6, hr3, if_pos c7]), KH3⟩
 refine oqp (bV false) (by exact congrArg one (t_eqlF c7)) ?_
 refine oq (bV false) ?_
 refine oqp (sV s) (by simp only [quiet, ev_set, e0_3] <;> rfl) ?_
 by_cases c9 : s = [70, 65, 76, 83, 69]
 refine oqp (bV true) (by exact congrArg one (t_eqlT c9)) ?_
 have q10 : ((s).length : Int) = (([70, 65, 76, 83, 69] : List UInt8).length : Int) := by rw [c9]
 simp only [List.length_cons, List.length_nil] at q10
 refine oq (bV true) ?_
 refine oq (bV true) ?_
 refine ou ?_
 refine ou ?_
 refine oq (bV true) ?_
 refine nt ?_
 refine runs_cond true rfl ?_
 refine sr ?_
 refine oq (bV false) ?_
 refine nt ?_
 refine runs_ret ?_
 refine then_r ?_
 exact ⟨_, leave_t1 rfl rfl, fb (false) (by simp only [isName, if_neg c1, if_neg c4, if_pos c6, hr3, if_neg c7, if_pos c9]), KH3⟩
 refine oqp (bV false) (by exact congrArg one (t_eqlF c9)) ?_
 refine oq (bV false) ?_
 refine oq (bV false) ?_
 refine oqp (sV s) (by simp only [quiet, ev_set, e0_3] <;> rfl) ?_
 refine ops_c (f := 232) (args := [sV s]) rfl rfl rfl (clone_body Tryz.func232 rfl) rfl rfl ?_
 refine (isSeen_runs Γ s H3 (by omega)).mono ?_
 rintro ⟨ex4, fr4, H4, v4⟩ ⟨hv4, k4⟩
 have k4 : Kept H3.next H3 H4 := k4
 have g2b_H4 := g2b_3.kept k4
 have KH4 : Kept h.next h H4 := KH3.trans (k4.less (Nat.le_trans (Nat.le_refl _) KH3.next))
 by_cases c11 : isSeen s = true
 have hv4 : v4 = bV true := hv4.trans (congrArg (fun b => SV.lit (.bool b)) c11)
 subst hv4
 refine oq (bV true) ?_
 refine nt ?_
 refine runs_cond true rfl ?_
 refine sr ?_
 refine oq (bV false) ?_
 refine nt ?_
 refine runs_ret ?_
 refine then_r ?_
 exact ⟨_, leave_t1 rfl rfl, fb (false) (by simp only [isName, if_neg c1, if_neg c4, if_pos c6, hr3, if_neg c7, if_neg c9, if_pos c11]), KH4⟩
 have hv4 : v4 = bV false := hv4.trans (congrArg (fun b => SV.lit (.bool b)) (Bool.eq_false_iff.2 c11))
 subst hv4
 refine oq (bV false) ?_
 refine nt ?_
 refine runs_cond false rfl ?_
 refine runs_skip ?_
 refine then_n ?_
 refine sr ?_
 refine oqp (sV s) (by simp only [quiet, ev_set, e0_3] <;> rfl) ?_
 refine ops_c (f := 231) (args := [sV s]) rfl rfl rfl (clone_body Tryz.func231 rfl) rfl rfl ?_
 refine (split_runs Γ s H4 (by omega)).mono ?_
 rintro ⟨ex5, fr5, H5, v5⟩ ⟨⟨hv5, k5⟩, fa5⟩
 have k5 : Kept H4.next H4 H5 := k5
 have g2b_H5 := g2b_H4.kept k5
 have KH5 : Kept h.next h H5 := KH4.trans (k5.less (Nat.le_trans (Nat.le_refl _) KH4.next))
 generalize hr5 : split s = r5 at hv5 fa5
 have hv5 : v5 = .tuple [iV r5.1, iV r5.2.1, bV r5.2.2] := hv5
 subst hv5
 refine oq (.tuple [iV r5.1, iV r5.2.1, bV r5.2.2]) ?_
 refine oq (iV r5.1) ?_
 refine oq (iV r5.2.1) ?_
 by_cases c12 : r5.2.2 = true
 refine oqp (bV true) (by exact congrArg (fun b => some (SV.lit (.bool b), ([] : List Fact))) c12) ?_
 refine oq (iV r5.1) ?_
 refine oq (iV r5.2.1) ?_
 refine oq (bV true) ?_
 refine nt ?_
 refine sr ?_
 refine oq (bV true) ?_
 refine oq (bV true) ?_
 refine oq (iV r5.1) ?_
 by_cases c13 : r5.1 ≥ 1
 refine oqp (bV true) (by exact congrArg one (c3_geqT c13)) ?_
 refine oq (bV true) ?_
 refine oq (bV true) ?_
 refine oq (iV r5.1) ?_
 by_cases c14 : r5.1 ≤ 3
 refine oqp (bV true) (by exact congrArg one (c3_leqT c14)) ?_
 refine oq (bV true) ?_
 refine oq (bV true) ?_
 refine oq (iV r5.2.1) ?_
 refine oqp (bV (decide (r5.2.1 ≥ 1))) (by exact congrArg one c3_geq) ?_
 refine oq (bV (decide (r5.2.1 ≥ 1))) ?_
 refine oq (bV (!(decide (r5.2.1 ≥ 1)))) ?_
 refine oq (bV (!(decide (r5.2.1 ≥ 1)))) ?_
 refine nt ?_
 refine runs_ret ?_
 exact ⟨_, leave_t1 rfl rfl, fb (!(decide (r5.2.1 ≥ 1))) (by subst hr5; simp only [isName, if_neg c1, if_neg c4, if_pos c6, hr3, if_neg c7, if_neg c9, if_neg c11, if_pos c12, if_pos c13, if_pos c14]), KH5⟩
 refine oqp (bV false) (by exact congrArg one (c3_leqF c14)) ?_
 refine oq (bV false) ?_
 refine oq (bV false) ?_
 refine ou ?_
 refine ou ?_
 refine oq (bV false) ?_
 refine oq (bV true) ?_
 refine oq (bV true) ?_
 refine nt ?_
 refine runs_ret ?_
 exact ⟨_, leave_t1 rfl rfl, fb (true) (by subst hr5; simp only [isName, if_neg c1, if_neg c4, if_pos c6, hr3, if_neg c7, if_neg c9, if_neg c11, if_pos c12, if_pos c13, if_neg c14]), KH5⟩
 refine oqp (bV false) (by exact congrArg one (c3_geqF c13)) ?_
 refine oq (bV false) ?_
 refine oq (bV false) ?_
 refine ou ?_
 refine ou ?_
 refine oq (bV false) ?_
 refine oq (bV false) ?_
 refine ou ?_
 refine ou ?_
 refine oq (bV false) ?_
 refine oq (bV true) ?_
 refine oq (bV true) ?_
 refine nt ?_
 refine runs_ret ?_
 exact ⟨_, leave_t1 rfl rfl, fb (true) (by subst hr5; simp only [isName, if_neg c1, if_neg c4, if_pos c6, hr3, if_neg c7, if_neg c9, if_neg c11, if_pos c12, if_neg c13]), KH5⟩
 refine oqp (bV false) (by exact congrArg (fun b => some (SV.lit (.bool b), ([] : List Fact))) (Bool.eq_false_iff.2 c12)) ?_
 refine oq (iV r5.1) ?_
 refine oq (iV r5.2.1) ?_
 refine oq (bV false) ?_
 refine nt ?_
 refine sr ?_
 refine oq (bV false) ?_
 refine oq (bV false) ?_
 refine ou ?_
 refine ou ?_
 refine oq (bV false) ?_
 refine oq (bV false) ?_
 refine ou ?_
 refine ou ?_
 refine oq (bV false) ?_
 refine oq (bV false) ?_
 refine ou ?_
 refine ou ?_
 refine oq (bV false) ?_
 refine oq (bV true) ?_
 refine oq (bV true) ?_
 refine nt ?_
 refine runs_ret ?_
 exact ⟨_, leave_t1 rfl rfl, fb (true) (by subst hr5; simp only [isName, if_neg c1, if_neg c4, if_pos c6, hr3, if_neg c7, if_neg c9, if_neg c11, if_neg c12]), KH5⟩
 have hv1 : v1 = bV false := hv1.trans (congrArg (fun b => SV.lit (.bool b)) (Bool.eq_false_iff.2 c6))
 subst hv1
 refine oq (bV true) ?_
 refine oq (bV true) ?_
 refine oq (sV s) ?_
 refine oqp (yV (bAt s 0)) (by exact congrArg one (txt_at (i := 0) (by omega) (by omega))) ?_
 have q15 := bAt_range s 0
 by_cases c16 : (bAt s 0) ≠ 95
 refine oqp (bV true) (by exact congrArg one (c5_neqT c16)) ?_
 refine oq (bV true) ?_
 refine oq (bV true) ?_
 refine nt ?_
 refine runs_cond true rfl ?_
 refine sr ?_
 refine oq (bV false) ?_
 refine nt ?_
 refine runs_ret ?_
 refine then_r ?_
 exact ⟨_, leave_t1 rfl rfl, fb (false) (by simp only [isName, if_neg c1, if_neg c4, if_neg c6, if_pos c16]), k1⟩
 refine oqp (bV false) (by exact congrArg one (c5_neqF c16)) ?_
 refine oq (bV false) ?_
 refine oq (bV false) ?_
 refine nt ?_
 refine runs_cond false rfl ?_
 refine runs_skip ?_
 refine then_n ?_
 refine runs_seq ?_
 refine sr ?_
 refine oq (sV s) ?_
 refine ops_bytes (l := s) rfl rfl rfl rfl rfl (fun H6 g6 k6 n6 => ?_)
 have lo6_0 : h.next ≤ H1.next := (Nat.le_trans (Nat.le_refl _) k1.next)
 have KH6 : Kept h.next h H6 := k1.trans (k6.less (Nat.le_trans (Nat.le_refl _) k1.next))
 refine oq (iV (s.length : Int)) ?_
 refine oq (iV 0) ?_
 refine nt ?_
 refine runs_blk ?_
 refine (isName_l0_runs Γ s H1.next h H6.next (Nat.le_trans (Nat.le_refl _) KH6.next) ((s.length : Int).toNat - (0 : Int).toNat + 1) 0  _ _ _ rfl (by omega) (by omega) (Nat.le_refl _) KH6 rfl rfl rfl rfl  g6 ).mono ?_
 rintro _ (⟨r7, hr7, tm7, H7, v7, rfl, q2_7, k7⟩ | ⟨r7, hr7, tm7, H7, v7, rfl, ⟨e0_7, e27_7, e28_7, e29_7⟩, _, g6b_7, i7, k7⟩)
 refine blk_r ?_
 have g6_H7 := g6.keptLo k7 g6.lt
 have KH7 : Kept h.next h H7 := KH6.trans (k7.less (Nat.le_trans (Nat.le_refl _) KH6.next))
 refine then_r ?_
 exact ⟨_, leave_t1 rfl (by simp only [q2_7] <;> rfl), fb (r7) (by simp only [isName, if_neg c1, if_neg c4, if_neg c6, if_neg c16, hr7]), KH7⟩
 refine blk_x ?_
 have g6_H7 := g6.keptLo k7 g6.lt
 have KH7 : Kept h.next h H7 := KH6.trans (k7.less (Nat.le_trans (Nat.le_refl _) KH6.next))
 refine then_n ?_
 refine runs_seq ?_
 refine sr ?_
 refine oqp (sV s) (by simp only [quiet, e0_7] <;> rfl) ?_
 by_cases c17 : s = [84, 82, 85, 69]
 refine oqp (bV true) (by exact congrArg one (t_eqlT c17)) ?_
 have q18 : ((s).length : Int) = (([84, 82, 85, 69] : List UInt8).length : Int) := by rw [c17]
 simp only [List.length_cons, List.length_nil] at q18
 refine oq (bV true) ?_
 refine ou ?_
 refine ou ?_
 refine oq (bV true) ?_
 refine oq (bV true) ?_
 refine ou ?_
 refine ou ?_
 refine oq (bV true) ?_
 refine nt ?_
 refine runs_cond true rfl ?_
 refine sr ?_
 refine oq (bV false) ?_
 refine nt ?_
 refine runs_ret ?_
 refine then_r ?_
 exact ⟨_, leave_t1 rfl rfl, fb (false) (by simp only [isName, if_neg c1, if_neg c4, if_neg c6, if_neg c16, hr7, if_pos c17]), KH7⟩
 refine oqp (bV false) (by exact congrArg one (t_eqlF c17)) ?_
 refine oq (bV false) ?_
 refine oqp (sV s) (by simp only [quiet, ev_set, e0_7] <;> rfl) ?_
 by_cases c19 : s = [70, 65, 76, 83, 69]
 refine oqp (bV true) (by exact congrArg one (t_eqlT c19)) ?_
 have q20 : ((s).length : Int) = (([70, 65, 76, 83, 69] : List UInt8).length : Int) := by rw [c19]
 simp only [List.length_cons, List.length_nil] at q20
 refine oq (bV true) ?_
 refine oq (bV true) ?_
 refine ou ?_
 refine ou ?_
 refine oq (bV true) ?_
 refine nt ?_
 refine runs_cond true rfl ?_
 refine sr ?_
 refine oq (bV false) ?_
 refine nt ?_
 refine runs_ret ?_
 refine then_r ?_
 exact ⟨_, leave_t1 rfl rfl, fb (false) (by simp only [isName, if_neg c1, if_neg c4, if_neg c6, if_neg c16, hr7, if_neg c17, if_pos c19]), KH7⟩
 refine oqp (bV false) (by exact congrArg one (t_eqlF c19)) ?_
 refine oq (bV false) ?_
 refine oq (bV false) ?_
 refine oqp (sV s) (by simp only [quiet, ev_set, e0_7] <;> rfl) ?_
 refine ops_c (f := 232) (args := [sV s]) rfl rfl rfl (clone_body Tryz.func232 rfl) rfl rfl ?_
 refine (isSeen_runs Γ s H7 (by omega)).mono ?_
 rintro ⟨ex8, fr8, H8, v8⟩ ⟨hv8, k8⟩
 have k8 : Kept H7.next H7 H8 := k8
 have g6b_H8 := g6b_7.kept k8
 have KH8 : Kept h.next h H8 := KH7.trans (k8.less (Nat.le_trans (Nat.le_refl _) KH7.next))
 by_cases c21 : isSeen s = true
 have hv8 : v8 = bV true := hv8.trans (congrArg (fun b => SV.lit (.bool b)) c21)
 subst hv8
 refine oq (bV true) ?_
 refine nt ?_
 refine runs_cond true rfl ?_
 refine sr ?_
 refine oq (bV false) ?_
 refine nt ?_
 refine runs_ret ?_
 refine then_r ?_
 exact ⟨_, leave_t1 rfl rfl, fb (false) (by simp only [isName, if_neg c1, if_neg c4, if_neg c6, if_neg c16, hr7, if_neg c17, if_neg c19, if_pos c21]), KH8⟩
 have hv8 : v8 = bV false := hv8.trans (congrArg (fun b => SV.lit (.bool b)) (Bool.eq_false_iff.2 c21))
 subst hv8
 refine oq (bV false) ?_
 refine nt ?_
 refine runs_cond false rfl ?_
 refine runs_skip ?_
 refine then_n ?_
 refine sr ?_
 refine oqp (sV s) (by simp only [quiet, ev_set, e0_7] <;> rfl) ?_
 refine ops_c (f := 231) (args := [sV s]) rfl rfl rfl (clone_body Tryz.func231 rfl) rfl rfl ?_
 refine (split_runs Γ s H8 (by omega)).mono ?_
 rintro ⟨ex9, fr9, H9, v9⟩ ⟨⟨hv9, k9⟩, fa9⟩
 have k9 : Kept H8.next H8 H9 := k9
 have g6b_H9 := g6b_H8.kept k9
 have KH9 : Kept h.next h H9 := KH8.trans (k9.less (Nat.le_trans (Nat.le_refl _) KH8.next))
 generalize hr9 : split s = r9 at hv9 fa9
 have hv9 : v9 = .tuple [iV r9.1, iV r9.2.1, bV r9.2.2] := hv9
 subst hv9
 refine oq (.tuple [iV r9.1, iV r9.2.1, bV r9.2.2]) ?_
 refine oq (iV r9.1) ?_
 refine oq (iV r9.2.1) ?_
 by_cases c22 : r9.2.2 = true
 refine oqp (bV true) (by exact congrArg (fun b => some (SV.lit (.bool b), ([] : List Fact))) c22) ?_
 refine oq (iV r9.1) ?_
 refine oq (iV r9.2.1) ?_
 refine oq (bV true) ?_
 refine nt ?_
 refine sr ?_
 refine oq (bV true) ?_
 refine oq (bV true) ?_
 refine oq (iV r9.1) ?_
 by_cases c23 : r9.1 ≥ 1
 refine oqp (bV true) (by exact congrArg one (c3_geqT c23)) ?_
 refine oq (bV true) ?_
 refine oq (bV true) ?_
 refine oq (iV r9.1) ?_
 by_cases c24 : r9.1 ≤ 3
 refine oqp (bV true) (by exact congrArg one (c3_leqT c24)) ?_
 refine oq (bV true) ?_
 refine oq (bV true) ?_
 refine oq (iV r9.2.1) ?_
 refine oqp (bV (decide (r9.2.1 ≥ 1))) (by exact congrArg one c3_geq) ?_
 refine oq (bV (decide (r9.2.1 ≥ 1))) ?_
 refine oq (bV (!(decide (r9.2.1 ≥ 1)))) ?_
 refine oq (bV (!(decide (r9.2.1 ≥ 1)))) ?_
 refine nt ?_
 refine runs_ret ?_
 exact ⟨_, leave_t1 rfl rfl, fb (!(decide (r9.2.1 ≥ 1))) (by subst hr9; simp only [isName, if_neg c1, if_neg c4, if_neg c6, if_neg c16, hr7, if_neg c17, if_neg c19, if_neg c21, if_pos c22, if_pos c23, if_pos c24]), KH9⟩
 refine oqp (bV false) (by exact congrArg one (c3_leqF c24)) ?_
 refine oq (bV false) ?_
 refine oq (bV false) ?_
 refine ou ?_
 refine ou ?_
 refine oq (bV false) ?_
 refine oq (bV true) ?_
 refine oq (bV true) ?_
 refine nt ?_
 refine runs_ret ?_
 exact ⟨_, leave_t1 rfl rfl, fb (true) (by subst hr9; simp only [isName, if_neg c1, if_neg c4, if_neg c6, if_neg c16, hr7, if_neg c17, if_neg c19, if_neg c21, if_pos c22, if_pos c23, if_neg c24]), KH9⟩
 refine oqp (bV false) (by exact congrArg one (c3_geqF c23)) ?_
 refine oq (bV false) ?_
 refine oq (bV false) ?_
 refine ou ?_
 refine ou ?_
 refine oq (bV false) ?_
 refine oq (bV false) ?_
 refine ou ?_
 refine ou ?_
 refine oq (bV false) ?_
 refine oq (bV true) ?_
 refine oq (bV true) ?_
 refine nt ?_
 refine runs_ret ?_
 exact ⟨_, leave_t1 rfl rfl, fb (true) (by subst hr9; simp only [isName, if_neg c1, if_neg c4, if_neg c6, if_neg c16, hr7, if_neg c17, if_neg c19, if_neg c21, if_pos c22, if_neg c23]), KH9⟩
 refine oqp (bV false) (by exact congrArg (fun b => some (SV.lit (.bool b), ([] : List Fact))) (Bool.eq_false_iff.2 c22)) ?_
 refine oq (iV r9.1) ?_
 refine oq (iV r9.2.1) ?_
 refine oq (bV false) ?_
 refine nt ?_
 refine sr ?_
 refine oq (bV false) ?_
 refine oq (bV false) ?_
 refine ou ?_
 refine ou ?_
 refine oq (bV false) ?_
 refine oq (bV false) ?_
 refine ou ?_
 refine ou ?_
 refine oq (bV false) ?_
 refine oq (bV false) ?_
 refine ou ?_
 refine ou ?_
 refine oq (bV false) ?_
 refine oq (bV true) ?_
 refine oq (bV true) ?_
 refine nt ?_
 refine runs_ret ?_
 exact ⟨_, leave_t1 rfl rfl, fb (true) (by subst hr9; simp only [isName, if_neg c1, if_neg c4, if_neg c6, if_neg c16, hr7, if_neg c17, if_neg c19, if_neg c21, if_neg c22]), KH9⟩
end Go.Proofs.YtcnfmcbmephdfaaGreatDoor.d
