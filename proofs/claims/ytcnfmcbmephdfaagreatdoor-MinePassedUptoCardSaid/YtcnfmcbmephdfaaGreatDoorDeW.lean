/-
  A DEED THAT IS RIGHT. | mine.Did OF WHAT COUNTS FOR NOTHING.
-/
import Derived.Test.YtcnfmcbmephdfaaGreatDoorDeT
namespace Go.Proofs.YtcnfmcbmephdfaaGreatDoor.d
open Go Go.Proofs.YtcnfmcbmephdfaaGreatDoor.Ev Go.Proofs.YtcnfmcbmephdfaaGreatDoor.snap
def oRight_j21v0 (d0 : Int) (d1 : Int) (_dk : Int) (_u0 : Int) (_u1 : Int) (_u2 : Int) (_u3 : Int) (t0 : Int) (t1 : Int) (tx : List UInt8) (_ca : Int) (_p0 : Int) (_p1 : Int) (_p2 : Int) (_p3 : List UInt8) (_p4 : Bool) (_p5 : Int) (_x : ND) (_ks : List Tr) (x4 : Bool) : Bool :=
 if x4 = true then
  if may d0 d1 = true then
   if t0 = 0 ∧ t1 = 0 then
    if tx = [] then
     (cSame 0 0 0 0 [] false 0 (⟨0, 0, 0, 0, [], false, 0, [], 0, 0, 0, 0, false, false, 0, 0, 0, 0, false, false, 0⟩ : ND) [] 0 0 0 0 [] false 0 (⟨0, 0, 0, 0, [], false, 0, [], 0, 0, 0, 0, false, false, 0, 0, 0, 0, false, false, 0⟩ : ND) [])
    else
     false
   else
    false
  else
   false
 else
  false
noncomputable def oRight_j21v0_c : Code := (seqR (seqR (seqR (seqR (bodyOf Tryz.f8)))))
set_option maxHeartbeats 8000000 in
set_option maxRecDepth 20000 in
theorem oRight_j21v0_runs (Γ : Glob) (B0 : Nat) (d0 : Int) (d1 : Int) (dk : Int) (u0 : Int) (u1 : Int) (u2 : Int) (u3 : Int) (t0 : Int) (t1 : Int) (tx : List UInt8) (ca : Int) (p0 : Int) (p1 : Int) (p2 : Int) (p3 : List UInt8) (p4 : Bool) (p5 : Int) (x : ND) (L : SV) (B1 : Nat) (ks : List Tr) (_hsz : 1 + sizeL ks ≤ 1900000) (x4 : Bool) (tm : T SV) (h : Hp) (e1 : Fr.ev ⟨tm, 106, []⟩ (.tmp 1) = .ptr B0 0) (e3 : Fr.ev ⟨tm, 106, []⟩ (.tmp 3) = .ptr B1 0) (e4 : Fr.ev ⟨tm, 106, []⟩ (.tmp 4) = bV x4) (gB0 : At h B0 (.cells [iV d0, iV d1, iV dk, iV u0, iV u1, iV u2, iV u3, iV t0, iV t1, sV tx, iV ca, iV p0, iV p1, iV p2, sV p3, bV p4, iV p5, iV x.k, iV x.v0, iV x.v1, iV x.v2, sV x.v3, bV x.v4, iV x.v5, sV x.name, iV x.a0, iV x.a1, iV x.a2, iV x.a3, bV x.a4, bV x.a5, iV x.b0, iV x.b1, iV x.b2, iV x.b3, bV x.b4, bV x.b5, iV x.rows, L] 40)) (gB1 : At h B1 (.cells [iV d0, iV d1, iV dk, iV 0, iV 0, iV 0, iV 0, iV t0, iV t1, sV tx, iV 0, iV 0, iV 0, iV 0, sV [], bV false, iV 0, iV 0, iV 0, iV 0, iV 0, sV [], bV false, iV 0, sV [], iV 0, iV 0, iV 0, iV 0, bV false, bV false, iV 0, iV 0, iV 0, iV 0, bV false, bV false, iV 0, .lit (.slice none 0 0)] 40)) (_hka : KidsOf Γ h L ks) :
  Runs Tryz.prog Γ (.code oRight_j21v0_c none ⟨tm, 106, []⟩ h) fun o => ∃ r, leave Tryz.prog Γ Tryz.f8 o = some [r] ∧ (Tells h (bV (oRight_j21v0 d0 d1 dk u0 u1 u2 u3 t0 t1 tx ca p0 p1 p2 p3 p4 p5 x ks x4))) r := by
 refine sr ?_
 by_cases c5 : x4 = true
 refine oqp (bV true) (by simp only [quiet, e4]; exact congrArg (fun b => some (SV.lit (.bool b), ([] : List Fact))) c5) ?_
 refine oq (bV true) ?_
 refine oqp (.ptr B0 0) (by simp only [quiet, ev_set, e1] <;> rfl) ?_
 refine ola [iV d0, iV d1] 0 gB0 ?_
 refine ops_c (f := 27) (args := [.agg [iV d0, iV d1]]) rfl rfl rfl (clone_body Tryz.func27 rfl) rfl rfl ?_
 refine (may_runs Γ d0 d1 h ).mono ?_
 rintro ⟨ex9, fr9, H9, v9⟩ ⟨hv9, k9⟩
 have k9 : Kept h.next h H9 := k9
 have gB0_H9 := gB0.kept k9
 have gB1_H9 := gB1.kept k9
 by_cases c6 : may d0 d1 = true
 have hv9 : v9 = bV true := hv9.trans (congrArg (fun b => SV.lit (.bool b)) c6)
 subst hv9
 refine oq (bV true) ?_
 refine oq (bV true) ?_
 refine oqp (.ptr B1 3) (by simp only [quiet, ev_set, e3] <;> rfl) ?_
 refine ola [iV 0, iV 0, iV 0, iV 0] 3 gB1_H9 ?_
 refine oq (.agg [iV 0, iV 0, iV 0, iV 0]) ?_
 refine oqp (bV true) (by exact congrArg one (s25_eqlT (show 0 = 0 ∧ 0 = 0 ∧ 0 = 0 ∧ 0 = 0 from by decide))) ?_
 refine oq (bV true) ?_
 refine oq (bV true) ?_
 refine oqp (.ptr B1 7) (by simp only [quiet, ev_set, e3] <;> rfl) ?_
 refine ola [iV t0, iV t1] 7 gB1_H9 ?_
 refine oq (.agg [iV 0, iV 0]) ?_
 by_cases c7 : t0 = 0 ∧ t1 = 0
 refine oqp (bV true) (by exact congrArg one (s23_eqlT c7)) ?_
 refine oq (bV true) ?_
 refine oq (bV true) ?_
 refine oqp (.ptr B1 9) (by simp only [quiet, ev_set, e3] <;> rfl) ?_
 refine olc (sV tx) 9 gB1_H9 ?_
 by_cases c8 : tx = []
 refine oqp (bV true) (by exact congrArg one (t_eqlT c8)) ?_
 have q9 : ((tx).length : Int) = (([] : List UInt8).length : Int) := by rw [c8]
 simp only [List.length_nil] at q9
 refine oq (bV true) ?_
 refine oq (bV true) ?_
 refine oqp (.ptr B1 10) (by simp only [quiet, ev_set, e3] <;> rfl) ?_
 refine ola [iV 0, iV 0, iV 0, iV 0, sV [], bV false, iV 0, iV 0, iV 0, iV 0, iV 0, sV [], bV false, iV 0, sV [], iV 0, iV 0, iV 0, iV 0, bV false, bV false, iV 0, iV 0, iV 0, iV 0, bV false, bV false, iV 0, .lit (.slice none 0 0)] 10 gB1_H9 ?_
 refine oq (.agg [iV 0, iV 0, iV 0, iV 0, sV [], bV false, iV 0, iV 0, iV 0, iV 0, iV 0, sV [], bV false, iV 0, sV [], iV 0, iV 0, iV 0, iV 0, bV false, bV false, iV 0, iV 0, iV 0, iV 0, bV false, bV false, iV 0, .lit (.slice none 0 0)]) ?_
 refine ops_c (f := 28) (args := [.agg [iV 0, iV 0, iV 0, iV 0, sV [], bV false, iV 0, iV 0, iV 0, iV 0, iV 0, sV [], bV false, iV 0, sV [], iV 0, iV 0, iV 0, iV 0, bV false, bV false, iV 0, iV 0, iV 0, iV 0, bV false, bV false, iV 0, .lit (.slice none 0 0)], .agg [iV 0, iV 0, iV 0, iV 0, sV [], bV false, iV 0, iV 0, iV 0, iV 0, iV 0, sV [], bV false, iV 0, sV [], iV 0, iV 0, iV 0, iV 0, bV false, bV false, iV 0, iV 0, iV 0, iV 0, bV false, bV false, iV 0, .lit (.slice none 0 0)]]) rfl rfl rfl (clone_body Tryz.func28 rfl) rfl rfl ?_
 refine (cSame_runs Γ 0 0 0 0 [] false 0 (⟨0, 0, 0, 0, [], false, 0, [], 0, 0, 0, 0, false, false, 0, 0, 0, 0, false, false, 0⟩ : ND) [] 0 0 0 0 [] false 0 (⟨0, 0, 0, 0, [], false, 0, [], 0, 0, 0, 0, false, false, 0, 0, 0, 0, false, false, 0⟩ : ND) [] (.lit (.slice none 0 0)) (.lit (.slice none 0 0)) H9 (kids_nil (c := 0)) (kids_nil (c := 0)) (by first | omega | decide)).mono ?_
 rintro ⟨ex10, fr10, H10, v10⟩ ⟨hv10, k10⟩
 have k10 : Kept H9.next H9 H10 := k10
 have gB0_H10 := gB0_H9.kept k10
 have gB1_H10 := gB1_H9.kept k10
 have KH10 : Kept h.next h H10 := k9.trans (k10.less (Nat.le_trans (Nat.le_refl _) k9.next))
 have hv10 : v10 = bV (cSame 0 0 0 0 [] false 0 (⟨0, 0, 0, 0, [], false, 0, [], 0, 0, 0, 0, false, false, 0, 0, 0, 0, false, false, 0⟩ : ND) [] 0 0 0 0 [] false 0 (⟨0, 0, 0, 0, [], false, 0, [], 0, 0, 0, 0, false, false, 0, 0, 0, 0, false, false, 0⟩ : ND) []) := hv10
 subst hv10
 refine oq (bV (cSame 0 0 0 0 [] false 0 (⟨0, 0, 0, 0, [], false, 0, [], 0, 0, 0, 0, false, false, 0, 0, 0, 0, false, false, 0⟩ : ND) [] 0 0 0 0 [] false 0 (⟨0, 0, 0, 0, [], false, 0, [], 0, 0, 0, 0, false, false, 0, 0, 0, 0, false, false, 0⟩ : ND) [])) ?_
 refine oq (bV (cSame 0 0 0 0 [] false 0 (⟨0, 0, 0, 0, [], false, 0, [], 0, 0, 0, 0, false, false, 0, 0, 0, 0, false, false, 0⟩ : ND) [] 0 0 0 0 [] false 0 (⟨0, 0, 0, 0, [], false, 0, [], 0, 0, 0, 0, false, false, 0, 0, 0, 0, false, false, 0⟩ : ND) [])) ?_
 refine nt ?_
 refine runs_ret ?_
 exact ⟨_, leave_t1 rfl rfl, fb ((cSame 0 0 0 0 [] false 0 (⟨0, 0, 0, 0, [], false, 0, [], 0, 0, 0, 0, false, false, 0, 0, 0, 0, false, false, 0⟩ : ND) [] 0 0 0 0 [] false 0 (⟨0, 0, 0, 0, [], false, 0, [], 0, 0, 0, 0, false, false, 0, 0, 0, 0, false, false, 0⟩ : ND) [])) (by simp only [oRight_j21v0, if_pos c5, if_pos c6, if_pos c7, if_pos c8]), KH10⟩
 refine oqp (bV false) (by exact congrArg one (t_eqlF c8)) ?_
 have q10 := len_pos c8
 refine oq (bV false) ?_
 refine oq (bV false) ?_
 iterate 4 refine ou ?_
 refine oq (bV false) ?_
 refine oq (bV false) ?_
 refine nt ?_
 refine runs_ret ?_
 exact ⟨_, leave_t1 rfl rfl, fb (false) (by simp only [oRight_j21v0, if_pos c5, if_pos c6, if_pos c7, if_neg c8]), k9⟩
 refine oqp (bV false) (by exact congrArg one (s23_eqlF c7)) ?_
 refine oq (bV false) ?_
 refine oq (bV false) ?_
 iterate 3 refine ou ?_
 refine oq (bV false) ?_
 refine oq (bV false) ?_
 iterate 4 refine ou ?_
 refine oq (bV false) ?_
 refine oq (bV false) ?_
 refine nt ?_
 refine runs_ret ?_
 exact ⟨_, leave_t1 rfl rfl, fb (false) (by simp only [oRight_j21v0, if_pos c5, if_pos c6, if_neg c7]), k9⟩
 have hv9 : v9 = bV false := hv9.trans (congrArg (fun b => SV.lit (.bool b)) (Bool.eq_false_iff.2 c6))
 subst hv9
 refine oq (bV false) ?_
 refine oq (bV false) ?_
 iterate 4 refine ou ?_
 refine oq (bV false) ?_
 refine oq (bV false) ?_
 iterate 4 refine ou ?_
 refine oq (bV false) ?_
 refine oq (bV false) ?_
 iterate 3 refine ou ?_
 refine oq (bV false) ?_
 refine oq (bV false) ?_
 iterate 4 refine ou ?_
 refine oq (bV false) ?_
 refine oq (bV false) ?_
 refine nt ?_
 refine runs_ret ?_
 exact ⟨_, leave_t1 rfl rfl, fb (false) (by simp only [oRight_j21v0, if_pos c5, if_neg c6]), k9⟩
 refine oqp (bV false) (by simp only [quiet, e4]; exact congrArg (fun b => some (SV.lit (.bool b), ([] : List Fact))) (Bool.eq_false_iff.2 c5)) ?_
 refine oq (bV false) ?_
 iterate 3 refine ou ?_
 refine oq (bV false) ?_
 refine oq (bV false) ?_
 iterate 4 refine ou ?_
 refine oq (bV false) ?_
 refine oq (bV false) ?_
 iterate 4 refine ou ?_
 refine oq (bV false) ?_
 refine oq (bV false) ?_
 iterate 3 refine ou ?_
 refine oq (bV false) ?_
 refine oq (bV false) ?_
 iterate 4 refine ou ?_
 refine oq (bV false) ?_
 refine oq (bV false) ?_
 refine nt ?_
 refine runs_ret ?_
 exact ⟨_, leave_t1 rfl rfl, fb (false) (by simp only [oRight_j21v0, if_neg c5]), (Kept.refl _ _)⟩
def oRight_j21v1 (d0 : Int) (d1 : Int) (_dk : Int) (u0 : Int) (u1 : Int) (u2 : Int) (u3 : Int) (_t0 : Int) (_t1 : Int) (tx : List UInt8) (ca : Int) (p0 : Int) (p1 : Int) (p2 : Int) (p3 : List UInt8) (p4 : Bool) (p5 : Int) (x : ND) (ks : List Tr) (x4 : Bool) : Bool :=
 if x4 = true then
  if may d0 d1 = true then
   if u0 = 0 ∧ u1 = 0 ∧ u2 = 0 ∧ u3 = 0 then
    if tx = [] then
     (cSame ca p0 p1 p2 p3 p4 p5 x ks 0 0 0 0 [] false 0 (⟨0, 0, 0, 0, [], false, 0, [], 0, 0, 0, 0, false, false, 0, 0, 0, 0, false, false, 0⟩ : ND) [])
    else
     false
   else
    false
  else
   false
 else
  false
noncomputable def oRight_j21v1_c : Code := (seqR (seqR (seqR (seqR (bodyOf Tryz.f8)))))
set_option maxHeartbeats 8000000 in
set_option maxRecDepth 20000 in
theorem oRight_j21v1_runs (Γ : Glob) (B0 : Nat) (d0 : Int) (d1 : Int) (dk : Int) (u0 : Int) (u1 : Int) (u2 : Int) (u3 : Int) (t0 : Int) (t1 : Int) (tx : List UInt8) (ca : Int) (p0 : Int) (p1 : Int) (p2 : Int) (p3 : List UInt8) (p4 : Bool) (p5 : Int) (x : ND) (L : SV) (B1 : Nat) (ks : List Tr) (hsz : 1 + sizeL ks ≤ 1900000) (x4 : Bool) (tm : T SV) (h : Hp) (e1 : Fr.ev ⟨tm, 106, []⟩ (.tmp 1) = .ptr B0 0) (e3 : Fr.ev ⟨tm, 106, []⟩ (.tmp 3) = .ptr B1 0) (e4 : Fr.ev ⟨tm, 106, []⟩ (.tmp 4) = bV x4) (gB0 : At h B0 (.cells [iV d0, iV d1, iV dk, iV u0, iV u1, iV u2, iV u3, iV t0, iV t1, sV tx, iV ca, iV p0, iV p1, iV p2, sV p3, bV p4, iV p5, iV x.k, iV x.v0, iV x.v1, iV x.v2, sV x.v3, bV x.v4, iV x.v5, sV x.name, iV x.a0, iV x.a1, iV x.a2, iV x.a3, bV x.a4, bV x.a5, iV x.b0, iV x.b1, iV x.b2, iV x.b3, bV x.b4, bV x.b5, iV x.rows, L] 40)) (gB1 : At h B1 (.cells [iV d0, iV d1, iV dk, iV u0, iV u1, iV u2, iV u3, iV 0, iV 0, sV tx, iV ca, iV p0, iV p1, iV p2, sV p3, bV p4, iV p5, iV x.k, iV x.v0, iV x.v1, iV x.v2, sV x.v3, bV x.v4, iV x.v5, sV x.name, iV x.a0, iV x.a1, iV x.a2, iV x.a3, bV x.a4, bV x.a5, iV x.b0, iV x.b1, iV x.b2, iV x.b3, bV x.b4, bV x.b5, iV x.rows, L] 40)) (hka : KidsOf Γ h L ks) :
  Runs Tryz.prog Γ (.code oRight_j21v1_c none ⟨tm, 106, []⟩ h) fun o => ∃ r, leave Tryz.prog Γ Tryz.f8 o = some [r] ∧ (Tells h (bV (oRight_j21v1 d0 d1 dk u0 u1 u2 u3 t0 t1 tx ca p0 p1 p2 p3 p4 p5 x ks x4))) r := by
 refine sr ?_
 by_cases c7 : x4 = true
 refine oqp (bV true) (by simp only [quiet, e4]; exact congrArg (fun b => some (SV.lit (.bool b), ([] : List Fact))) c7) ?_
 refine oq (bV true) ?_
 refine oqp (.ptr B0 0) (by simp only [quiet, ev_set, e1] <;> rfl) ?_
 refine ola [iV d0, iV d1] 0 gB0 ?_
 refine ops_c (f := 27) (args := [.agg [iV d0, iV d1]]) rfl rfl rfl (clone_body Tryz.func27 rfl) rfl rfl ?_
 refine (may_runs Γ d0 d1 h ).mono ?_
 rintro ⟨ex16, fr16, H16, v16⟩ ⟨hv16, k16⟩
 have k16 : Kept h.next h H16 := k16
 have gB0_H16 := gB0.kept k16
 have gB1_H16 := gB1.kept k16
 by_cases c8 : may d0 d1 = true
 have hv16 : v16 = bV true := hv16.trans (congrArg (fun b => SV.lit (.bool b)) c8)
 subst hv16
 refine oq (bV true) ?_
 refine oq (bV true) ?_
 refine oqp (.ptr B1 3) (by simp only [quiet, ev_set, e3] <;> rfl) ?_
 refine ola [iV u0, iV u1, iV u2, iV u3] 3 gB1_H16 ?_
 refine oq (.agg [iV 0, iV 0, iV 0, iV 0]) ?_
 by_cases c9 : u0 = 0 ∧ u1 = 0 ∧ u2 = 0 ∧ u3 = 0
 refine oqp (bV true) (by exact congrArg one (s25_eqlT c9)) ?_
 refine oq (bV true) ?_
 refine oq (bV true) ?_
 refine oqp (.ptr B1 7) (by simp only [quiet, ev_set, e3] <;> rfl) ?_
 refine ola [iV 0, iV 0] 7 gB1_H16 ?_
 refine oq (.agg [iV 0, iV 0]) ?_
 refine oqp (bV true) (by exact congrArg one (s23_eqlT (show 0 = 0 ∧ 0 = 0 from by decide))) ?_
 refine oq (bV true) ?_
 refine oq (bV true) ?_
 refine oqp (.ptr B1 9) (by simp only [quiet, ev_set, e3] <;> rfl) ?_
 refine olc (sV tx) 9 gB1_H16 ?_
 by_cases c10 : tx = []
 refine oqp (bV true) (by exact congrArg one (t_eqlT c10)) ?_
 have q11 : ((tx).length : Int) = (([] : List UInt8).length : Int) := by rw [c10]
 simp only [List.length_nil] at q11
 refine oq (bV true) ?_
 refine oq (bV true) ?_
 refine oqp (.ptr B1 10) (by simp only [quiet, ev_set, e3] <;> rfl) ?_
 refine ola [iV ca, iV p0, iV p1, iV p2, sV p3, bV p4, iV p5, iV x.k, iV x.v0, iV x.v1, iV x.v2, sV x.v3, bV x.v4, iV x.v5, sV x.name, iV x.a0, iV x.a1, iV x.a2, iV x.a3, bV x.a4, bV x.a5, iV x.b0, iV x.b1, iV x.b2, iV x.b3, bV x.b4, bV x.b5, iV x.rows, L] 10 gB1_H16 ?_
 refine oq (.agg [iV 0, iV 0, iV 0, iV 0, sV [], bV false, iV 0, iV 0, iV 0, iV 0, iV 0, sV [], bV false, iV 0, sV [], iV 0, iV 0, iV 0, iV 0, bV false, bV false, iV 0, iV 0, iV 0, iV 0, bV false, bV false, iV 0, .lit (.slice none 0 0)]) ?_
 refine ops_c (f := 28) (args := [.agg [iV ca, iV p0, iV p1, iV p2, sV p3, bV p4, iV p5, iV x.k, iV x.v0, iV x.v1, iV x.v2, sV x.v3, bV x.v4, iV x.v5, sV x.name, iV x.a0, iV x.a1, iV x.a2, iV x.a3, bV x.a4, bV x.a5, iV x.b0, iV x.b1, iV x.b2, iV x.b3, bV x.b4, bV x.b5, iV x.rows, L], .agg [iV 0, iV 0, iV 0, iV 0, sV [], bV false, iV 0, iV 0, iV 0, iV 0, iV 0, sV [], bV false, iV 0, sV [], iV 0, iV 0, iV 0, iV 0, bV false, bV false, iV 0, iV 0, iV 0, iV 0, bV false, bV false, iV 0, .lit (.slice none 0 0)]]) rfl rfl rfl (clone_body Tryz.func28 rfl) rfl rfl ?_
 refine (cSame_runs Γ ca p0 p1 p2 p3 p4 p5 x ks 0 0 0 0 [] false 0 (⟨0, 0, 0, 0, [], false, 0, [], 0, 0, 0, 0, false, false, 0, 0, 0, 0, false, false, 0⟩ : ND) [] L (.lit (.slice none 0 0)) H16 (hka.kept k16) (kids_nil (c := 0)) (by first | omega | decide)).mono ?_
 rintro ⟨ex17, fr17, H17, v17⟩ ⟨hv17, k17⟩
 have k17 : Kept H16.next H16 H17 := k17
 have gB0_H17 := gB0_H16.kept k17
 have gB1_H17 := gB1_H16.kept k17
 have KH17 : Kept h.next h H17 := k16.trans (k17.less (Nat.le_trans (Nat.le_refl _) k16.next))
 have hv17 : v17 = bV (cSame ca p0 p1 p2 p3 p4 p5 x ks 0 0 0 0 [] false 0 (⟨0, 0, 0, 0, [], false, 0, [], 0, 0, 0, 0, false, false, 0, 0, 0, 0, false, false, 0⟩ : ND) []) := hv17
 subst hv17
 refine oq (bV (cSame ca p0 p1 p2 p3 p4 p5 x ks 0 0 0 0 [] false 0 (⟨0, 0, 0, 0, [], false, 0, [], 0, 0, 0, 0, false, false, 0, 0, 0, 0, false, false, 0⟩ : ND) [])) ?_
 refine oq (bV (cSame ca p0 p1 p2 p3 p4 p5 x ks 0 0 0 0 [] false 0 (⟨0, 0, 0, 0, [], false, 0, [], 0, 0, 0, 0, false, false, 0, 0, 0, 0, false, false, 0⟩ : ND) [])) ?_
 refine nt ?_
 refine runs_ret ?_
 exact ⟨_, leave_t1 rfl rfl, fb ((cSame ca p0 p1 p2 p3 p4 p5 x ks 0 0 0 0 [] false 0 (⟨0, 0, 0, 0, [], false, 0, [], 0, 0, 0, 0, false, false, 0, 0, 0, 0, false, false, 0⟩ : ND) [])) (by simp only [oRight_j21v1, if_pos c7, if_pos c8, if_pos c9, if_pos c10]), KH17⟩
 refine oqp (bV false) (by exact congrArg one (t_eqlF c10)) ?_
 have q12 := len_pos c10
 refine oq (bV false) ?_
 refine oq (bV false) ?_
 iterate 4 refine ou ?_
 refine oq (bV false) ?_
 refine oq (bV false) ?_
 refine nt ?_
 refine runs_ret ?_
 exact ⟨_, leave_t1 rfl rfl, fb (false) (by simp only [oRight_j21v1, if_pos c7, if_pos c8, if_pos c9, if_neg c10]), k16⟩
 refine oqp (bV false) (by exact congrArg one (s25_eqlF c9)) ?_
 refine oq (bV false) ?_
 refine oq (bV false) ?_
 iterate 4 refine ou ?_
 refine oq (bV false) ?_
 refine oq (bV false) ?_
 iterate 3 refine ou ?_
 refine oq (bV false) ?_
 refine oq (bV false) ?_
 iterate 4 refine ou ?_
 refine oq (bV false) ?_
 refine oq (bV false) ?_
 refine nt ?_
 refine runs_ret ?_
 exact ⟨_, leave_t1 rfl rfl, fb (false) (by simp only [oRight_j21v1, if_pos c7, if_pos c8, if_neg c9]), k16⟩
 have hv16 : v16 = bV false := hv16.trans (congrArg (fun b => SV.lit (.bool b)) (Bool.eq_false_iff.2 c8))
 subst hv16
 refine oq (bV false) ?_
 refine oq (bV false) ?_
 iterate 4 refine ou ?_
 refine oq (bV false) ?_
 refine oq (bV false) ?_
 iterate 4 refine ou ?_
 refine oq (bV false) ?_
 refine oq (bV false) ?_
 iterate 3 refine ou ?_
 refine oq (bV false) ?_
 refine oq (bV false) ?_
 iterate 4 refine ou ?_
 refine oq (bV false) ?_
 refine oq (bV false) ?_
 refine nt ?_
 refine runs_ret ?_
 exact ⟨_, leave_t1 rfl rfl, fb (false) (by simp only [oRight_j21v1, if_pos c7, if_neg c8]), k16⟩
 refine oqp (bV false) (by simp only [quiet, e4]; exact congrArg (fun b => some (SV.lit (.bool b), ([] : List Fact))) (Bool.eq_false_iff.2 c7)) ?_
 refine oq (bV false) ?_
 iterate 3 refine ou ?_
 refine oq (bV false) ?_
 refine oq (bV false) ?_
 iterate 4 refine ou ?_
 refine oq (bV false) ?_
 refine oq (bV false) ?_
 iterate 4 refine ou ?_
 refine oq (bV false) ?_
 refine oq (bV false) ?_
 iterate 3 refine ou ?_
 refine oq (bV false) ?_
 refine oq (bV false) ?_
 iterate 4 refine ou ?_
 refine oq (bV false) ?_
 refine oq (bV false) ?_
 refine nt ?_
 refine runs_ret ?_
 exact ⟨_, leave_t1 rfl rfl, fb (false) (by simp only [oRight_j21v1, if_neg c7]), (Kept.refl _ _)⟩
def oRight_j21v2 (d0 : Int) (d1 : Int) (_dk : Int) (u0 : Int) (u1 : Int) (u2 : Int) (u3 : Int) (t0 : Int) (t1 : Int) (_tx : List UInt8) (_ca : Int) (_p0 : Int) (_p1 : Int) (_p2 : Int) (_p3 : List UInt8) (_p4 : Bool) (_p5 : Int) (_x : ND) (_ks : List Tr) (x4 : Bool) : Bool :=
 if x4 = true then
  if may d0 d1 = true then
   if u0 = 0 ∧ u1 = 0 ∧ u2 = 0 ∧ u3 = 0 then
    if t0 = 0 ∧ t1 = 0 then
     (cSame 0 0 0 0 [] false 0 (⟨0, 0, 0, 0, [], false, 0, [], 0, 0, 0, 0, false, false, 0, 0, 0, 0, false, false, 0⟩ : ND) [] 0 0 0 0 [] false 0 (⟨0, 0, 0, 0, [], false, 0, [], 0, 0, 0, 0, false, false, 0, 0, 0, 0, false, false, 0⟩ : ND) [])
    else
     false
   else
    false
  else
   false
 else
  false
noncomputable def oRight_j21v2_c : Code := (seqR (seqR (seqR (seqR (bodyOf Tryz.f8)))))
set_option maxHeartbeats 8000000 in
set_option maxRecDepth 20000 in
theorem oRight_j21v2_runs (Γ : Glob) (B0 : Nat) (d0 : Int) (d1 : Int) (dk : Int) (u0 : Int) (u1 : Int) (u2 : Int) (u3 : Int) (t0 : Int) (t1 : Int) (tx : List UInt8) (ca : Int) (p0 : Int) (p1 : Int) (p2 : Int) (p3 : List UInt8) (p4 : Bool) (p5 : Int) (x : ND) (L : SV) (B1 : Nat) (ks : List Tr) (_hsz : 1 + sizeL ks ≤ 1900000) (x4 : Bool) (tm : T SV) (h : Hp) (e1 : Fr.ev ⟨tm, 106, []⟩ (.tmp 1) = .ptr B0 0) (e3 : Fr.ev ⟨tm, 106, []⟩ (.tmp 3) = .ptr B1 0) (e4 : Fr.ev ⟨tm, 106, []⟩ (.tmp 4) = bV x4) (gB0 : At h B0 (.cells [iV d0, iV d1, iV dk, iV u0, iV u1, iV u2, iV u3, iV t0, iV t1, sV tx, iV ca, iV p0, iV p1, iV p2, sV p3, bV p4, iV p5, iV x.k, iV x.v0, iV x.v1, iV x.v2, sV x.v3, bV x.v4, iV x.v5, sV x.name, iV x.a0, iV x.a1, iV x.a2, iV x.a3, bV x.a4, bV x.a5, iV x.b0, iV x.b1, iV x.b2, iV x.b3, bV x.b4, bV x.b5, iV x.rows, L] 40)) (gB1 : At h B1 (.cells [iV d0, iV d1, iV dk, iV u0, iV u1, iV u2, iV u3, iV t0, iV t1, sV [], iV 0, iV 0, iV 0, iV 0, sV [], bV false, iV 0, iV 0, iV 0, iV 0, iV 0, sV [], bV false, iV 0, sV [], iV 0, iV 0, iV 0, iV 0, bV false, bV false, iV 0, iV 0, iV 0, iV 0, bV false, bV false, iV 0, .lit (.slice none 0 0)] 40)) (_hka : KidsOf Γ h L ks) :
  Runs Tryz.prog Γ (.code oRight_j21v2_c none ⟨tm, 106, []⟩ h) fun o => ∃ r, leave Tryz.prog Γ Tryz.f8 o = some [r] ∧ (Tells h (bV (oRight_j21v2 d0 d1 dk u0 u1 u2 u3 t0 t1 tx ca p0 p1 p2 p3 p4 p5 x ks x4))) r := by
 refine sr ?_
 by_cases c19 : x4 = true
 refine oqp (bV true) (by simp only [quiet, e4]; exact congrArg (fun b => some (SV.lit (.bool b), ([] : List Fact))) c19) ?_
 refine oq (bV true) ?_
 refine oqp (.ptr B0 0) (by simp only [quiet, ev_set, e1] <;> rfl) ?_
 refine ola [iV d0, iV d1] 0 gB0 ?_
 refine ops_c (f := 27) (args := [.agg [iV d0, iV d1]]) rfl rfl rfl (clone_body Tryz.func27 rfl) rfl rfl ?_
 refine (may_runs Γ d0 d1 h ).mono ?_
 rintro ⟨ex33, fr33, H33, v33⟩ ⟨hv33, k33⟩
 have k33 : Kept h.next h H33 := k33
 have gB0_H33 := gB0.kept k33
 have gB1_H33 := gB1.kept k33
 by_cases c20 : may d0 d1 = true
 have hv33 : v33 = bV true := hv33.trans (congrArg (fun b => SV.lit (.bool b)) c20)
 subst hv33
 refine oq (bV true) ?_
 refine oq (bV true) ?_
 refine oqp (.ptr B1 3) (by simp only [quiet, ev_set, e3] <;> rfl) ?_
 refine ola [iV u0, iV u1, iV u2, iV u3] 3 gB1_H33 ?_
 refine oq (.agg [iV 0, iV 0, iV 0, iV 0]) ?_
 by_cases c21 : u0 = 0 ∧ u1 = 0 ∧ u2 = 0 ∧ u3 = 0
 refine oqp (bV true) (by exact congrArg one (s25_eqlT c21)) ?_
 refine oq (bV true) ?_
 refine oq (bV true) ?_
 refine oqp (.ptr B1 7) (by simp only [quiet, ev_set, e3] <;> rfl) ?_
 refine ola [iV t0, iV t1] 7 gB1_H33 ?_
 refine oq (.agg [iV 0, iV 0]) ?_
 by_cases c22 : t0 = 0 ∧ t1 = 0
 refine oqp (bV true) (by exact congrArg one (s23_eqlT c22)) ?_
 refine oq (bV true) ?_
 refine oq (bV true) ?_
 refine oqp (.ptr B1 9) (by simp only [quiet, ev_set, e3] <;> rfl) ?_
 refine olc (sV []) 9 gB1_H33 ?_
 refine oqp (bV true) (by exact congrArg one (t_eqlT rfl)) ?_
 refine oq (bV true) ?_
 refine oq (bV true) ?_
 refine oqp (.ptr B1 10) (by simp only [quiet, ev_set, e3] <;> rfl) ?_
 refine ola [iV 0, iV 0, iV 0, iV 0, sV [], bV false, iV 0, iV 0, iV 0, iV 0, iV 0, sV [], bV false, iV 0, sV [], iV 0, iV 0, iV 0, iV 0, bV false, bV false, iV 0, iV 0, iV 0, iV 0, bV false, bV false, iV 0, .lit (.slice none 0 0)] 10 gB1_H33 ?_
 refine oq (.agg [iV 0, iV 0, iV 0, iV 0, sV [], bV false, iV 0, iV 0, iV 0, iV 0, iV 0, sV [], bV false, iV 0, sV [], iV 0, iV 0, iV 0, iV 0, bV false, bV false, iV 0, iV 0, iV 0, iV 0, bV false, bV false, iV 0, .lit (.slice none 0 0)]) ?_
 refine ops_c (f := 28) (args := [.agg [iV 0, iV 0, iV 0, iV 0, sV [], bV false, iV 0, iV 0, iV 0, iV 0, iV 0, sV [], bV false, iV 0, sV [], iV 0, iV 0, iV 0, iV 0, bV false, bV false, iV 0, iV 0, iV 0, iV 0, bV false, bV false, iV 0, .lit (.slice none 0 0)], .agg [iV 0, iV 0, iV 0, iV 0, sV [], bV false, iV 0, iV 0, iV 0, iV 0, iV 0, sV [], bV false, iV 0, sV [], iV 0, iV 0, iV 0, iV 0, bV false, bV false, iV 0, iV 0, iV 0, iV 0, bV false, bV false, iV 0, .lit (.slice none 0 0)]]) rfl rfl rfl (clone_body Tryz.func28 rfl) rfl rfl ?_
 refine (cSame_runs Γ 0 0 0 0 [] false 0 (⟨0, 0, 0, 0, [], false, 0, [], 0, 0, 0, 0, false, false, 0, 0, 0, 0, false, false, 0⟩ : ND) [] 0 0 0 0 [] false 0 (⟨0, 0, 0, 0, [], false, 0, [], 0, 0, 0, 0, false, false, 0, 0, 0, 0, false, false, 0⟩ : ND) [] (.lit (.slice none 0 0)) (.lit (.slice none 0 0)) H33 (kids_nil (c := 0)) (kids_nil (c := 0)) (by first | omega | decide)).mono ?_
 rintro ⟨ex34, fr34, H34, v34⟩ ⟨hv34, k34⟩
 have k34 : Kept H33.next H33 H34 := k34
 have gB0_H34 := gB0_H33.kept k34
 have gB1_H34 := gB1_H33.kept k34
 have KH34 : Kept h.next h H34 := k33.trans (k34.less (Nat.le_trans (Nat.le_refl _) k33.next))
 have hv34 : v34 = bV (cSame 0 0 0 0 [] false 0 (⟨0, 0, 0, 0, [], false, 0, [], 0, 0, 0, 0, false, false, 0, 0, 0, 0, false, false, 0⟩ : ND) [] 0 0 0 0 [] false 0 (⟨0, 0, 0, 0, [], false, 0, [], 0, 0, 0, 0, false, false, 0, 0, 0, 0, false, false, 0⟩ : ND) []) := hv34
 subst hv34
 refine oq (bV (cSame 0 0 0 0 [] false 0 (⟨0, 0, 0, 0, [], false, 0, [], 0, 0, 0, 0, false, false, 0, 0, 0, 0, false, false, 0⟩ : ND) [] 0 0 0 0 [] false 0 (⟨0, 0, 0, 0, [], false, 0, [], 0, 0, 0, 0, false, false, 0, 0, 0, 0, false, false, 0⟩ : ND) [])) ?_
 refine oq (bV (cSame 0 0 0 0 [] false 0 (⟨0, 0, 0, 0, [], false, 0, [], 0, 0, 0, 0, false, false, 0, 0, 0, 0, false, false, 0⟩ : ND) [] 0 0 0 0 [] false 0 (⟨0, 0, 0, 0, [], false, 0, [], 0, 0, 0, 0, false, false, 0, 0, 0, 0, false, false, 0⟩ : ND) [])) ?_
 refine nt ?_
 refine runs_ret ?_
 exact ⟨_, leave_t1 rfl rfl, fb ((cSame 0 0 0 0 [] false 0 (⟨0, 0, 0, 0, [], false, 0, [], 0, 0, 0, 0, false, false, 0, 0, 0, 0, false, false, 0⟩ : ND) [] 0 0 0 0 [] false 0 (⟨0, 0, 0, 0, [], false, 0, [], 0, 0, 0, 0, false, false, 0, 0, 0, 0, false, false, 0⟩ : ND) [])) (by simp only [oRight_j21v2, if_pos c19, if_pos c20, if_pos c21, if_pos c22]), KH34⟩
 refine oqp (bV false) (by exact congrArg one (s23_eqlF c22)) ?_
 refine oq (bV false) ?_
 refine oq (bV false) ?_
 iterate 3 refine ou ?_
 refine oq (bV false) ?_
 refine oq (bV false) ?_
 iterate 4 refine ou ?_
 refine oq (bV false) ?_
 refine oq (bV false) ?_
 refine nt ?_
 refine runs_ret ?_
 exact ⟨_, leave_t1 rfl rfl, fb (false) (by simp only [oRight_j21v2, if_pos c19, if_pos c20, if_pos c21, if_neg c22]), k33⟩
 refine oqp (bV false) (by exact congrArg one (s25_eqlF c21)) ?_
 refine oq (bV false) ?_
 refine oq (bV false) ?_
 iterate 4 refine ou ?_
 refine oq (bV false) ?_
 refine oq (bV false) ?_
 iterate 3 refine ou ?_
 refine oq (bV false) ?_
 refine oq (bV false) ?_
 iterate 4 refine ou ?_
 refine oq (bV false) ?_
 refine oq (bV false) ?_
 refine nt ?_
 refine runs_ret ?_
 exact ⟨_, leave_t1 rfl rfl, fb (false) (by simp only [oRight_j21v2, if_pos c19, if_pos c20, if_neg c21]), k33⟩
 have hv33 : v33 = bV false := hv33.trans (congrArg (fun b => SV.lit (.bool b)) (Bool.eq_false_iff.2 c20))
 subst hv33
 refine oq (bV false) ?_
 refine oq (bV false) ?_
 iterate 4 refine ou ?_
 refine oq (bV false) ?_
 refine oq (bV false) ?_
 iterate 4 refine ou ?_
 refine oq (bV false) ?_
 refine oq (bV false) ?_
 iterate 3 refine ou ?_
 refine oq (bV false) ?_
 refine oq (bV false) ?_
 iterate 4 refine ou ?_
 refine oq (bV false) ?_
 refine oq (bV false) ?_
 refine nt ?_
 refine runs_ret ?_
 exact ⟨_, leave_t1 rfl rfl, fb (false) (by simp only [oRight_j21v2, if_pos c19, if_neg c20]), k33⟩
 refine oqp (bV false) (by simp only [quiet, e4]; exact congrArg (fun b => some (SV.lit (.bool b), ([] : List Fact))) (Bool.eq_false_iff.2 c19)) ?_
 refine oq (bV false) ?_
 iterate 3 refine ou ?_
 refine oq (bV false) ?_
 refine oq (bV false) ?_
 iterate 4 refine ou ?_
 refine oq (bV false) ?_
 refine oq (bV false) ?_
 iterate 4 refine ou ?_
 refine oq (bV false) ?_
 refine oq (bV false) ?_
 iterate 3 refine ou ?_
 refine oq (bV false) ?_
 refine oq (bV false) ?_
 iterate 4 refine ou ?_
 refine oq (bV false) ?_
 refine oq (bV false) ?_
 refine nt ?_
 refine runs_ret ?_
 exact ⟨_, leave_t1 rfl rfl, fb (false) (by simp only [oRight_j21v2, if_neg c19]), (Kept.refl _ _)⟩
def oRight_j21v3 (d0 : Int) (d1 : Int) (_dk : Int) (u0 : Int) (u1 : Int) (u2 : Int) (u3 : Int) (t0 : Int) (t1 : Int) (tx : List UInt8) (ca : Int) (p0 : Int) (p1 : Int) (p2 : Int) (p3 : List UInt8) (p4 : Bool) (p5 : Int) (x : ND) (ks : List Tr) (x4 : Bool) : Bool :=
 if x4 = true then
  if may d0 d1 = true then
   if u0 = 0 ∧ u1 = 0 ∧ u2 = 0 ∧ u3 = 0 then
    if t0 = 0 ∧ t1 = 0 then
     if tx = [] then
      (cSame ca p0 p1 p2 p3 p4 p5 x ks 0 0 0 0 [] false 0 (⟨0, 0, 0, 0, [], false, 0, [], 0, 0, 0, 0, false, false, 0, 0, 0, 0, false, false, 0⟩ : ND) [])
     else
      false
    else
     false
   else
    false
  else
   false
 else
  false
noncomputable def oRight_j21v3_c : Code := (seqR (seqR (seqR (seqR (bodyOf Tryz.f8)))))
set_option maxHeartbeats 8000000 in
set_option maxRecDepth 20000 in
theorem oRight_j21v3_runs (Γ : Glob) (B0 : Nat) (d0 : Int) (d1 : Int) (dk : Int) (u0 : Int) (u1 : Int) (u2 : Int) (u3 : Int) (t0 : Int) (t1 : Int) (tx : List UInt8) (ca : Int) (p0 : Int) (p1 : Int) (p2 : Int) (p3 : List UInt8) (p4 : Bool) (p5 : Int) (x : ND) (L : SV) (B1 : Nat) (ks : List Tr) (hsz : 1 + sizeL ks ≤ 1900000) (x4 : Bool) (tm : T SV) (h : Hp) (e1 : Fr.ev ⟨tm, 106, []⟩ (.tmp 1) = .ptr B0 0) (e3 : Fr.ev ⟨tm, 106, []⟩ (.tmp 3) = .ptr B1 0) (e4 : Fr.ev ⟨tm, 106, []⟩ (.tmp 4) = bV x4) (gB0 : At h B0 (.cells [iV d0, iV d1, iV dk, iV u0, iV u1, iV u2, iV u3, iV t0, iV t1, sV tx, iV ca, iV p0, iV p1, iV p2, sV p3, bV p4, iV p5, iV x.k, iV x.v0, iV x.v1, iV x.v2, sV x.v3, bV x.v4, iV x.v5, sV x.name, iV x.a0, iV x.a1, iV x.a2, iV x.a3, bV x.a4, bV x.a5, iV x.b0, iV x.b1, iV x.b2, iV x.b3, bV x.b4, bV x.b5, iV x.rows, L] 40)) (gB1 : At h B1 (.cells [iV d0, iV d1, iV dk, iV u0, iV u1, iV u2, iV u3, iV t0, iV t1, sV tx, iV ca, iV p0, iV p1, iV p2, sV p3, bV p4, iV p5, iV x.k, iV x.v0, iV x.v1, iV x.v2, sV x.v3, bV x.v4, iV x.v5, sV x.name, iV x.a0, iV x.a1, iV x.a2, iV x.a3, bV x.a4, bV x.a5, iV x.b0, iV x.b1, iV x.b2, iV x.b3, bV x.b4, bV x.b5, iV x.rows, L] 40)) (hka : KidsOf Γ h L ks) :
  Runs Tryz.prog Γ (.code oRight_j21v3_c none ⟨tm, 106, []⟩ h) fun o => ∃ r, leave Tryz.prog Γ Tryz.f8 o = some [r] ∧ (Tells h (bV (oRight_j21v3 d0 d1 dk u0 u1 u2 u3 t0 t1 tx ca p0 p1 p2 p3 p4 p5 x ks x4))) r := by
 refine sr ?_
 by_cases c21 : x4 = true
 refine oqp (bV true) (by simp only [quiet, e4]; exact congrArg (fun b => some (SV.lit (.bool b), ([] : List Fact))) c21) ?_
 refine oq (bV true) ?_
 refine oqp (.ptr B0 0) (by simp only [quiet, ev_set, e1] <;> rfl) ?_
 refine ola [iV d0, iV d1] 0 gB0 ?_
 refine ops_c (f := 27) (args := [.agg [iV d0, iV d1]]) rfl rfl rfl (clone_body Tryz.func27 rfl) rfl rfl ?_
 refine (may_runs Γ d0 d1 h ).mono ?_
 rintro ⟨ex42, fr42, H42, v42⟩ ⟨hv42, k42⟩
 have k42 : Kept h.next h H42 := k42
 have gB0_H42 := gB0.kept k42
 have gB1_H42 := gB1.kept k42
 by_cases c22 : may d0 d1 = true
 have hv42 : v42 = bV true := hv42.trans (congrArg (fun b => SV.lit (.bool b)) c22)
 subst hv42
 refine oq (bV true) ?_
 refine oq (bV true) ?_
 refine oqp (.ptr B1 3) (by simp only [quiet, ev_set, e3] <;> rfl) ?_
 refine ola [iV u0, iV u1, iV u2, iV u3] 3 gB1_H42 ?_
 refine oq (.agg [iV 0, iV 0, iV 0, iV 0]) ?_
 by_cases c23 : u0 = 0 ∧ u1 = 0 ∧ u2 = 0 ∧ u3 = 0
 refine oqp (bV true) (by exact congrArg one (s25_eqlT c23)) ?_
 refine oq (bV true) ?_
 refine oq (bV true) ?_
 refine oqp (.ptr B1 7) (by simp only [quiet, ev_set, e3] <;> rfl) ?_
 refine ola [iV t0, iV t1] 7 gB1_H42 ?_
 refine oq (.agg [iV 0, iV 0]) ?_
 by_cases c24 : t0 = 0 ∧ t1 = 0
 refine oqp (bV true) (by exact congrArg one (s23_eqlT c24)) ?_
 refine oq (bV true) ?_
 refine oq (bV true) ?_
 refine oqp (.ptr B1 9) (by simp only [quiet, ev_set, e3] <;> rfl) ?_
 refine olc (sV tx) 9 gB1_H42 ?_
 by_cases c25 : tx = []
 refine oqp (bV true) (by exact congrArg one (t_eqlT c25)) ?_
 have q26 : ((tx).length : Int) = (([] : List UInt8).length : Int) := by rw [c25]
 simp only [List.length_nil] at q26
 refine oq (bV true) ?_
 refine oq (bV true) ?_
 refine oqp (.ptr B1 10) (by simp only [quiet, ev_set, e3] <;> rfl) ?_
 refine ola [iV ca, iV p0, iV p1, iV p2, sV p3, bV p4, iV p5, iV x.k, iV x.v0, iV x.v1, iV x.v2, sV x.v3, bV x.v4, iV x.v5, sV x.name, iV x.a0, iV x.a1, iV x.a2, iV x.a3, bV x.a4, bV x.a5, iV x.b0, iV x.b1, iV x.b2, iV x.b3, bV x.b4, bV x.b5, iV x.rows, L] 10 gB1_H42 ?_
 refine oq (.agg [iV 0, iV 0, iV 0, iV 0, sV [], bV false, iV 0, iV 0, iV 0, iV 0, iV 0, sV [], bV false, iV 0, sV [], iV 0, iV 0, iV 0, iV 0, bV false, bV false, iV 0, iV 0, iV 0, iV 0, bV false, bV false, iV 0, .lit (.slice none 0 0)]) ?_
 refine ops_c (f := 28) (args := [.agg [iV ca, iV p0, iV p1, iV p2, sV p3, bV p4, iV p5, iV x.k, iV x.v0, iV x.v1, iV x.v2, sV x.v3, bV x.v4, iV x.v5, sV x.name, iV x.a0, iV x.a1, iV x.a2, iV x.a3, bV x.a4, bV x.a5, iV x.b0, iV x.b1, iV x.b2, iV x.b3, bV x.b4, bV x.b5, iV x.rows, L], .agg [iV 0, iV 0, iV 0, iV 0, sV [], bV false, iV 0, iV 0, iV 0, iV 0, iV 0, sV [], bV false, iV 0, sV [], iV 0, iV 0, iV 0, iV 0, bV false, bV false, iV 0, iV 0, iV 0, iV 0, bV false, bV false, iV 0, .lit (.slice none 0 0)]]) rfl rfl rfl (clone_body Tryz.func28 rfl) rfl rfl ?_
 refine (cSame_runs Γ ca p0 p1 p2 p3 p4 p5 x ks 0 0 0 0 [] false 0 (⟨0, 0, 0, 0, [], false, 0, [], 0, 0, 0, 0, false, false, 0, 0, 0, 0, false, false, 0⟩ : ND) [] L (.lit (.slice none 0 0)) H42 (hka.kept k42) (kids_nil (c := 0)) (by first | omega | decide)).mono ?_
 rintro ⟨ex43, fr43, H43, v43⟩ ⟨hv43, k43⟩
 have k43 : Kept H42.next H42 H43 := k43
 have gB0_H43 := gB0_H42.kept k43
 have gB1_H43 := gB1_H42.kept k43
 have KH43 : Kept h.next h H43 := k42.trans (k43.less (Nat.le_trans (Nat.le_refl _) k42.next))
 have hv43 : v43 = bV (cSame ca p0 p1 p2 p3 p4 p5 x ks 0 0 0 0 [] false 0 (⟨0, 0, 0, 0, [], false, 0, [], 0, 0, 0, 0, false, false, 0, 0, 0, 0, false, false, 0⟩ : ND) []) := hv43
 subst hv43
 refine oq (bV (cSame ca p0 p1 p2 p3 p4 p5 x ks 0 0 0 0 [] false 0 (⟨0, 0, 0, 0, [], false, 0, [], 0, 0, 0, 0, false, false, 0, 0, 0, 0, false, false, 0⟩ : ND) [])) ?_
 refine oq (bV (cSame ca p0 p1 p2 p3 p4 p5 x ks 0 0 0 0 [] false 0 (⟨0, 0, 0, 0, [], false, 0, [], 0, 0, 0, 0, false, false, 0, 0, 0, 0, false, false, 0⟩ : ND) [])) ?_
 refine nt ?_
 refine runs_ret ?_
 exact ⟨_, leave_t1 rfl rfl, fb ((cSame ca p0 p1 p2 p3 p4 p5 x ks 0 0 0 0 [] false 0 (⟨0, 0, 0, 0, [], false, 0, [], 0, 0, 0, 0, false, false, 0, 0, 0, 0, false, false, 0⟩ : ND) [])) (by simp only [oRight_j21v3, if_pos c21, if_pos c22, if_pos c23, if_pos c24, if_pos c25]), KH43⟩
 refine oqp (bV false) (by exact congrArg one (t_eqlF c25)) ?_
 have q27 := len_pos c25
 refine oq (bV false) ?_
 refine oq (bV false) ?_
 iterate 4 refine ou ?_
 refine oq (bV false) ?_
 refine oq (bV false) ?_
 refine nt ?_
 refine runs_ret ?_
 exact ⟨_, leave_t1 rfl rfl, fb (false) (by simp only [oRight_j21v3, if_pos c21, if_pos c22, if_pos c23, if_pos c24, if_neg c25]), k42⟩
 refine oqp (bV false) (by exact congrArg one (s23_eqlF c24)) ?_
 refine oq (bV false) ?_
 refine oq (bV false) ?_
 iterate 3 refine ou ?_
 refine oq (bV false) ?_
 refine oq (bV false) ?_
 iterate 4 refine ou ?_
 refine oq (bV false) ?_
 refine oq (bV false) ?_
 refine nt ?_
 refine runs_ret ?_
 exact ⟨_, leave_t1 rfl rfl, fb (false) (by simp only [oRight_j21v3, if_pos c21, if_pos c22, if_pos c23, if_neg c24]), k42⟩
 refine oqp (bV false) (by exact congrArg one (s25_eqlF c23)) ?_
 refine oq (bV false) ?_
 refine oq (bV false) ?_
 iterate 4 refine ou ?_
 refine oq (bV false) ?_
 refine oq (bV false) ?_
 iterate 3 refine ou ?_
 refine oq (bV false) ?_
 refine oq (bV false) ?_
 iterate 4 refine ou ?_
 refine oq (bV false) ?_
 refine oq (bV false) ?_
 refine nt ?_
 refine runs_ret ?_
 exact ⟨_, leave_t1 rfl rfl, fb (false) (by simp only [oRight_j21v3, if_pos c21, if_pos c22, if_neg c23]), k42⟩
 have hv42 : v42 = bV false := hv42.trans (congrArg (fun b => SV.lit (.bool b)) (Bool.eq_false_iff.2 c22))
 subst hv42
 refine oq (bV false) ?_
 refine oq (bV false) ?_
 iterate 4 refine ou ?_
 refine oq (bV false) ?_
 refine oq (bV false) ?_
 iterate 4 refine ou ?_
 refine oq (bV false) ?_
 refine oq (bV false) ?_
 iterate 3 refine ou ?_
 refine oq (bV false) ?_
 refine oq (bV false) ?_
 iterate 4 refine ou ?_
 refine oq (bV false) ?_
 refine oq (bV false) ?_
 refine nt ?_
 refine runs_ret ?_
 exact ⟨_, leave_t1 rfl rfl, fb (false) (by simp only [oRight_j21v3, if_pos c21, if_neg c22]), k42⟩
 refine oqp (bV false) (by simp only [quiet, e4]; exact congrArg (fun b => some (SV.lit (.bool b), ([] : List Fact))) (Bool.eq_false_iff.2 c21)) ?_
 refine oq (bV false) ?_
 iterate 3 refine ou ?_
 refine oq (bV false) ?_
 refine oq (bV false) ?_
 iterate 4 refine ou ?_
 refine oq (bV false) ?_
 refine oq (bV false) ?_
 iterate 4 refine ou ?_
 refine oq (bV false) ?_
 refine oq (bV false) ?_
 iterate 3 refine ou ?_
 refine oq (bV false) ?_
 refine oq (bV false) ?_
 iterate 4 refine ou ?_
 refine oq (bV false) ?_
 refine oq (bV false) ?_
 refine nt ?_
 refine runs_ret ?_
 exact ⟨_, leave_t1 rfl rfl, fb (false) (by simp only [oRight_j21v3, if_neg c21]), (Kept.refl _ _)⟩
def oRight (d0 : Int) (d1 : Int) (dk : Int) (u0 : Int) (u1 : Int) (u2 : Int) (u3 : Int) (t0 : Int) (t1 : Int) (tx : List UInt8) (ca : Int) (p0 : Int) (p1 : Int) (p2 : Int) (p3 : List UInt8) (p4 : Bool) (p5 : Int) (x : ND) (ks : List Tr) : Bool :=
 if dk = 1 then
  if onAxis u0 u1 = true then
   if onAxis u2 u3 = true then
    if cRight ca p0 p1 p2 p3 p4 p5 x ks = true then
     oRight_j21v0 d0 d1 dk u0 u1 u2 u3 t0 t1 tx ca p0 p1 p2 p3 p4 p5 x ks true
    else
     oRight_j21v0 d0 d1 dk u0 u1 u2 u3 t0 t1 tx ca p0 p1 p2 p3 p4 p5 x ks false
   else
    oRight_j21v0 d0 d1 dk u0 u1 u2 u3 t0 t1 tx ca p0 p1 p2 p3 p4 p5 x ks false
  else
   oRight_j21v0 d0 d1 dk u0 u1 u2 u3 t0 t1 tx ca p0 p1 p2 p3 p4 p5 x ks false
 else
  if dk = 2 then
   if t0 = 0 ∧ t1 = 0 then
    oRight_j21v1 d0 d1 dk u0 u1 u2 u3 t0 t1 tx ca p0 p1 p2 p3 p4 p5 x ks true
   else
    if onAxis t0 t1 = true then
     oRight_j21v1 d0 d1 dk u0 u1 u2 u3 t0 t1 tx ca p0 p1 p2 p3 p4 p5 x ks true
    else
     oRight_j21v1 d0 d1 dk u0 u1 u2 u3 t0 t1 tx ca p0 p1 p2 p3 p4 p5 x ks false
  else
   if dk = 3 then
    if t0 = 0 ∧ t1 = 0 then
     oRight_j21v1 d0 d1 dk u0 u1 u2 u3 t0 t1 tx ca p0 p1 p2 p3 p4 p5 x ks true
    else
     if onAxis t0 t1 = true then
      oRight_j21v1 d0 d1 dk u0 u1 u2 u3 t0 t1 tx ca p0 p1 p2 p3 p4 p5 x ks true
     else
      oRight_j21v1 d0 d1 dk u0 u1 u2 u3 t0 t1 tx ca p0 p1 p2 p3 p4 p5 x ks false
   else
    if dk = 4 then
     if onAxis t0 t1 = true then
      oRight_j21v1 d0 d1 dk u0 u1 u2 u3 t0 t1 tx ca p0 p1 p2 p3 p4 p5 x ks true
     else
      oRight_j21v1 d0 d1 dk u0 u1 u2 u3 t0 t1 tx ca p0 p1 p2 p3 p4 p5 x ks false
    else
     if dk = 5 then
      if onAxis t0 t1 = true then
       oRight_j21v1 d0 d1 dk u0 u1 u2 u3 t0 t1 tx ca p0 p1 p2 p3 p4 p5 x ks true
      else
       oRight_j21v1 d0 d1 dk u0 u1 u2 u3 t0 t1 tx ca p0 p1 p2 p3 p4 p5 x ks false
     else
      if dk = 6 then
       if nmRight tx = true then
        if ca ≠ 1 then
         if cRight ca p0 p1 p2 p3 p4 p5 x ks = true then
          oRight_j21v2 d0 d1 dk u0 u1 u2 u3 t0 t1 tx ca p0 p1 p2 p3 p4 p5 x ks true
         else
          oRight_j21v2 d0 d1 dk u0 u1 u2 u3 t0 t1 tx ca p0 p1 p2 p3 p4 p5 x ks false
        else
         oRight_j21v2 d0 d1 dk u0 u1 u2 u3 t0 t1 tx ca p0 p1 p2 p3 p4 p5 x ks false
       else
        oRight_j21v2 d0 d1 dk u0 u1 u2 u3 t0 t1 tx ca p0 p1 p2 p3 p4 p5 x ks false
      else
       if dk = 7 then
        if may t0 t1 = true then
         oRight_j21v1 d0 d1 dk u0 u1 u2 u3 t0 t1 tx ca p0 p1 p2 p3 p4 p5 x ks true
        else
         oRight_j21v1 d0 d1 dk u0 u1 u2 u3 t0 t1 tx ca p0 p1 p2 p3 p4 p5 x ks false
       else
        oRight_j21v3 d0 d1 dk u0 u1 u2 u3 t0 t1 tx ca p0 p1 p2 p3 p4 p5 x ks false
set_option maxHeartbeats 8000000 in
set_option maxRecDepth 20000 in
theorem oRight_runs (Γ : Glob) (d0 : Int) (d1 : Int) (dk : Int) (u0 : Int) (u1 : Int) (u2 : Int) (u3 : Int) (t0 : Int) (t1 : Int) (tx : List UInt8) (ca : Int) (p0 : Int) (p1 : Int) (p2 : Int) (p3 : List UInt8) (p4 : Bool) (p5 : Int) (x : ND) (ks : List Tr) (L : SV) (h : Hp) (hka : KidsOf Γ h L ks) (hsz : 1 + sizeL ks ≤ 1900000) : Runs Tryz.prog Γ (.call 8 [.agg [iV d0, iV d1, iV dk, iV u0, iV u1, iV u2, iV u3, iV t0, iV t1, sV tx, iV ca, iV p0, iV p1, iV p2, sV p3, bV p4, iV p5, iV x.k, iV x.v0, iV x.v1, iV x.v2, sV x.v3, bV x.v4, iV x.v5, sV x.name, iV x.a0, iV x.a1, iV x.a2, iV x.a3, bV x.a4, bV x.a5, iV x.b0, iV x.b1, iV x.b2, iV x.b3, bV x.b4, bV x.b5, iV x.rows, L]] h) (Tells h (bV (oRight d0 d1 dk u0 u1 u2 u3 t0 t1 tx ca p0 p1 p2 p3 p4 p5 x ks))) := by
 refine runs_call Tryz.func8 rfl ?_
 refine sr ?_
 refine ops_box (cs := [iV d0, iV d1, iV dk, iV u0, iV u1, iV u2, iV u3, iV t0, iV t1, sV tx, iV ca, iV p0, iV p1, iV p2, sV p3, bV p4, iV p5, iV x.k, iV x.v0, iV x.v1, iV x.v2, sV x.v3, bV x.v4, iV x.v5, sV x.name, iV x.a0, iV x.a1, iV x.a2, iV x.a3, bV x.a4, bV x.a5, iV x.b0, iV x.b1, iV x.b2, iV x.b3, bV x.b4, bV x.b5, iV x.rows, L]) rfl rfl rfl rfl rfl (fun H1 g1 k1 n1 => ?_)
 have lo1_0 : h.next ≤ h.next := (Nat.le_refl _)
 refine oq (bV false) ?_
 refine nt ?_
 refine sr ?_
 refine ola [iV d0, iV d1, iV dk, iV u0, iV u1, iV u2, iV u3, iV t0, iV t1, sV tx, iV ca, iV p0, iV p1, iV p2, sV p3, bV p4, iV p5, iV x.k, iV x.v0, iV x.v1, iV x.v2, sV x.v3, bV x.v4, iV x.v5, sV x.name, iV x.a0, iV x.a1, iV x.a2, iV x.a3, bV x.a4, bV x.a5, iV x.b0, iV x.b1, iV x.b2, iV x.b3, bV x.b4, bV x.b5, iV x.rows, L] 0 g1 ?_
 refine ops_alloc (z := .agg ⟨[.int .i64 0, .int .i64 0, .int .i64 0, .int .i64 0, .int .i64 0, .int .i64 0, .int .i64 0, .int .i64 0, .int .i64 0, .string ⟨⟨[]⟩⟩, .int .i64 0, .int .i64 0, .int .i64 0, .int .i64 0, .string ⟨⟨[]⟩⟩, .bool false, .int .i64 0, .int .i64 0, .int .i64 0, .int .i64 0, .int .i64 0, .string ⟨⟨[]⟩⟩, .bool false, .int .i64 0, .string ⟨⟨[]⟩⟩, .int .i64 0, .int .i64 0, .int .i64 0, .int .i64 0, .bool false, .bool false, .int .i64 0, .int .i64 0, .int .i64 0, .int .i64 0, .bool false, .bool false, .int .i64 0, .slice none 0 0]⟩) rfl rfl rfl rfl rfl (fun H2 g2 k2 n2 => ?_)
 have g2 : At H2 H1.next (.cells [iV 0, iV 0, iV 0, iV 0, iV 0, iV 0, iV 0, iV 0, iV 0, sV [], iV 0, iV 0, iV 0, iV 0, sV [], bV false, iV 0, iV 0, iV 0, iV 0, iV 0, sV [], bV false, iV 0, sV [], iV 0, iV 0, iV 0, iV 0, bV false, bV false, iV 0, iV 0, iV 0, iV 0, bV false, bV false, iV 0, .lit (.slice none 0 0)] 40) := Eq.mp (congrArg (fun l => At H2 H1.next (.cells l 40)) (show SV.cells (.lit (.agg ⟨[.int .i64 0, .int .i64 0, .int .i64 0, .int .i64 0, .int .i64 0, .int .i64 0, .int .i64 0, .int .i64 0, .int .i64 0, .string ⟨⟨[]⟩⟩, .int .i64 0, .int .i64 0, .int .i64 0, .int .i64 0, .string ⟨⟨[]⟩⟩, .bool false, .int .i64 0, .int .i64 0, .int .i64 0, .int .i64 0, .int .i64 0, .string ⟨⟨[]⟩⟩, .bool false, .int .i64 0, .string ⟨⟨[]⟩⟩, .int .i64 0, .int .i64 0, .int .i64 0, .int .i64 0, .bool false, .bool false, .int .i64 0, .int .i64 0, .int .i64 0, .int .i64 0, .bool false, .bool false, .int .i64 0, .slice none 0 0]⟩)) = [iV 0, iV 0, iV 0, iV 0, iV 0, iV 0, iV 0, iV 0, iV 0, sV [], iV 0, iV 0, iV 0, iV 0, sV [], bV false, iV 0, iV 0, iV 0, iV 0, iV 0, sV [], bV false, iV 0, sV [], iV 0, iV 0, iV 0, iV 0, bV false, bV false, iV 0, iV 0, iV 0, iV 0, bV false, bV false, iV 0, .lit (.slice none 0 0)] from rfl)) g2
 have lt1_2 : h.next < H1.next := g1.lt
 have lo2_0 : h.next ≤ H1.next := (Nat.le_trans (Nat.le_refl _) k1.next)
 have g1_H2 := g1.kept k2
 have KH2 : Kept h.next h H2 := k1.trans (k2.less (Nat.le_trans (Nat.le_refl _) k1.next))
 refine ops_storeA (b := H1.next) (off := 0) (v := .agg [iV d0, iV d1, iV dk, iV u0, iV u1, iV u2, iV u3, iV t0, iV t1, sV tx, iV ca, iV p0, iV p1, iV p2, sV p3, bV p4, iV p5, iV x.k, iV x.v0, iV x.v1, iV x.v2, sV x.v3, bV x.v4, iV x.v5, sV x.name, iV x.a0, iV x.a1, iV x.a2, iV x.a3, bV x.a4, bV x.a5, iV x.b0, iV x.b1, iV x.b2, iV x.b3, bV x.b4, bV x.b5, iV x.rows, L]) (l2 := [iV d0, iV d1, iV dk, iV u0, iV u1, iV u2, iV u3, iV t0, iV t1, sV tx, iV ca, iV p0, iV p1, iV p2, sV p3, bV p4, iV p5, iV x.k, iV x.v0, iV x.v1, iV x.v2, sV x.v3, bV x.v4, iV x.v5, sV x.name, iV x.a0, iV x.a1, iV x.a2, iV x.a3, bV x.a4, bV x.a5, iV x.b0, iV x.b1, iV x.b2, iV x.b3, bV x.b4, bV x.b5, iV x.rows, L]) rfl rfl rfl rfl rfl rfl rfl g2.get (splice_all (l := [iV 0, iV 0, iV 0, iV 0, iV 0, iV 0, iV 0, iV 0, iV 0, sV [], iV 0, iV 0, iV 0, iV 0, sV [], bV false, iV 0, iV 0, iV 0, iV 0, iV 0, sV [], bV false, iV 0, sV [], iV 0, iV 0, iV 0, iV 0, bV false, bV false, iV 0, iV 0, iV 0, iV 0, bV false, bV false, iV 0, .lit (.slice none 0 0)]) (off := 0) (vs := [iV d0, iV d1, iV dk, iV u0, iV u1, iV u2, iV u3, iV t0, iV t1, sV tx, iV ca, iV p0, iV p1, iV p2, sV p3, bV p4, iV p5, iV x.k, iV x.v0, iV x.v1, iV x.v2, sV x.v3, bV x.v4, iV x.v5, sV x.name, iV x.a0, iV x.a1, iV x.a2, iV x.a3, bV x.a4, bV x.a5, iV x.b0, iV x.b1, iV x.b2, iV x.b3, bV x.b4, bV x.b5, iV x.rows, L]) (show 39 ≤ 39 from by decide) (by simp only [List.all_cons, List.all_nil, hka.1.1, one_int, one_bool, one_txt, Bool.and_self])) (fun H3 g3 j3 n3 => ?_)
 have g3 : At H3 H1.next _ := ⟨by rw [n3]; exact g2.lt, g3⟩
 have g1_H3 := g1_H2.other (j3 _ (Nat.ne_of_lt lt1_2)) n3
 have KH3 : Kept h.next h H3 := kept_other KH2 j3 n3 lo2_0
 refine nt ?_
 refine sr ?_
 refine oq (bV false) ?_
 refine nt ?_
 refine runs_seq ?_
 refine sr ?_
 refine oq (.ptr h.next 2) ?_
 refine olc (iV dk) 2 g1_H3 ?_
 refine nt ?_
 refine runs_blk ?_
 refine sr ?_
 by_cases c1 : dk = 1
 refine oqp (bV true) (by exact congrArg one (c3_eqlT c1)) ?_
 refine oq (bV true) ?_
 refine nt ?_
 refine runs_cond true rfl ?_
 refine sr ?_
 refine oq (.ptr h.next 3) ?_
 refine oq (.ptr h.next 3) ?_
 refine ola [iV u0, iV u1] 3 g1_H3 ?_
 refine ops_c (f := 24) (args := [.agg [iV u0, iV u1]]) rfl rfl rfl (clone_body Tryz.func24 rfl) rfl rfl ?_
 refine (onAxis_runs Γ u0 u1 H3 ).mono ?_
 rintro ⟨ex4, fr4, H4, v4⟩ ⟨hv4, k4⟩
 have k4 : Kept H3.next H3 H4 := k4
 have g1_H4 := g1_H3.kept k4
 have g3_H4 := g3.kept k4
 have KH4 : Kept h.next h H4 := KH3.trans (k4.less (Nat.le_trans (Nat.le_refl _) KH3.next))
 by_cases c2 : onAxis u0 u1 = true
 have hv4 : v4 = bV true := hv4.trans (congrArg (fun b => SV.lit (.bool b)) c2)
 subst hv4
 refine oq (bV true) ?_
 refine oq (.ptr h.next 3) ?_
 refine oq (.ptr h.next 5) ?_
 refine ola [iV u2, iV u3] 5 g1_H4 ?_
 refine ops_c (f := 24) (args := [.agg [iV u2, iV u3]]) rfl rfl rfl (clone_body Tryz.func24 rfl) rfl rfl ?_
 refine (onAxis_runs Γ u2 u3 H4 ).mono ?_
 rintro ⟨ex5, fr5, H5, v5⟩ ⟨hv5, k5⟩
 have k5 : Kept H4.next H4 H5 := k5
 have g1_H5 := g1_H4.kept k5
 have g3_H5 := g3_H4.kept k5
 have KH5 : Kept h.next h H5 := KH4.trans (k5.less (Nat.le_trans (Nat.le_refl _) KH4.next))
 by_cases c3 : onAxis u2 u3 = true
 have hv5 : v5 = bV true := hv5.trans (congrArg (fun b => SV.lit (.bool b)) c3)
 subst hv5
 refine oq (bV true) ?_
 refine oq (bV true) ?_
 refine oq (.ptr h.next 10) ?_
 refine ola [iV ca, iV p0, iV p1, iV p2, sV p3, bV p4, iV p5, iV x.k, iV x.v0, iV x.v1, iV x.v2, sV x.v3, bV x.v4, iV x.v5, sV x.name, iV x.a0, iV x.a1, iV x.a2, iV x.a3, bV x.a4, bV x.a5, iV x.b0, iV x.b1, iV x.b2, iV x.b3, bV x.b4, bV x.b5, iV x.rows, L] 10 g1_H5 ?_
 refine ops_c (f := 25) (args := [.agg [iV ca, iV p0, iV p1, iV p2, sV p3, bV p4, iV p5, iV x.k, iV x.v0, iV x.v1, iV x.v2, sV x.v3, bV x.v4, iV x.v5, sV x.name, iV x.a0, iV x.a1, iV x.a2, iV x.a3, bV x.a4, bV x.a5, iV x.b0, iV x.b1, iV x.b2, iV x.b3, bV x.b4, bV x.b5, iV x.rows, L]]) rfl rfl rfl (clone_body Tryz.func25 rfl) rfl rfl ?_
 refine (cRight_runs Γ ca p0 p1 p2 p3 p4 p5 x ks L H5 (hka.kept KH5) (by first | omega | decide)).mono ?_
 rintro ⟨ex6, fr6, H6, v6⟩ ⟨hv6, k6⟩
 have k6 : Kept H5.next H5 H6 := k6
 have g1_H6 := g1_H5.kept k6
 have g3_H6 := g3_H5.kept k6
 have KH6 : Kept h.next h H6 := KH5.trans (k6.less (Nat.le_trans (Nat.le_refl _) KH5.next))
 by_cases c4 : cRight ca p0 p1 p2 p3 p4 p5 x ks = true
 have hv6 : v6 = bV true := hv6.trans (congrArg (fun b => SV.lit (.bool b)) c4)
 subst hv6
 refine oq (bV true) ?_
 refine oq (bV true) ?_
 refine nt ?_
 refine runs_region ?_
 refine oq (.agg [iV 0, iV 0, iV 0, iV 0]) ?_
 refine oq (.agg [iV 0, iV 0, iV 0, iV 0, sV [], bV false, iV 0, iV 0, iV 0, iV 0, iV 0, sV [], bV false, iV 0, sV [], iV 0, iV 0, iV 0, iV 0, bV false, bV false, iV 0, iV 0, iV 0, iV 0, bV false, bV false, iV 0, .lit (.slice none 0 0)]) ?_
 refine oq (.ptr H1.next 3) ?_
 refine ops_storeA (b := H1.next) (off := 3) (v := .agg [iV 0, iV 0, iV 0, iV 0]) (l2 := [iV d0, iV d1, iV dk, iV 0, iV 0, iV 0, iV 0, iV t0, iV t1, sV tx, iV ca, iV p0, iV p1, iV p2, sV p3, bV p4, iV p5, iV x.k, iV x.v0, iV x.v1, iV x.v2, sV x.v3, bV x.v4, iV x.v5, sV x.name, iV x.a0, iV x.a1, iV x.a2, iV x.a3, bV x.a4, bV x.a5, iV x.b0, iV x.b1, iV x.b2, iV x.b3, bV x.b4, bV x.b5, iV x.rows, L]) rfl rfl rfl rfl rfl rfl rfl g3_H6.get rfl (fun H7 g7 j7 n7 => ?_)
 have g7 : At H7 H1.next _ := ⟨by rw [n7]; exact g3_H6.lt, g7⟩
 have g1_H7 := g1_H6.other (j7 _ (Nat.ne_of_lt lt1_2)) n7
 have KH7 : Kept h.next h H7 := kept_other KH6 j7 n7 lo2_0
 refine oq (.ptr H1.next 10) ?_
 refine ops_storeA (b := H1.next) (off := 10) (v := .agg [iV 0, iV 0, iV 0, iV 0, sV [], bV false, iV 0, iV 0, iV 0, iV 0, iV 0, sV [], bV false, iV 0, sV [], iV 0, iV 0, iV 0, iV 0, bV false, bV false, iV 0, iV 0, iV 0, iV 0, bV false, bV false, iV 0, .lit (.slice none 0 0)]) (l2 := [iV d0, iV d1, iV dk, iV 0, iV 0, iV 0, iV 0, iV t0, iV t1, sV tx, iV 0, iV 0, iV 0, iV 0, sV [], bV false, iV 0, iV 0, iV 0, iV 0, iV 0, sV [], bV false, iV 0, sV [], iV 0, iV 0, iV 0, iV 0, bV false, bV false, iV 0, iV 0, iV 0, iV 0, bV false, bV false, iV 0, .lit (.slice none 0 0)]) rfl rfl rfl rfl rfl rfl rfl g7.get rfl (fun H8 g8 j8 n8 => ?_)
 have g8 : At H8 H1.next _ := ⟨by rw [n8]; exact g7.lt, g8⟩
 have g1_H8 := g1_H7.other (j8 _ (Nat.ne_of_lt lt1_2)) n8
 have KH8 : Kept h.next h H8 := kept_other KH7 j8 n8 lo2_0
 refine ops_nil ?_
 refine blk_n ?_
 refine then_n ?_
 have eF : oRight_j21v0 d0 d1 dk u0 u1 u2 u3 t0 t1 tx ca p0 p1 p2 p3 p4 p5 x ks true = oRight d0 d1 dk u0 u1 u2 u3 t0 t1 tx ca p0 p1 p2 p3 p4 p5 x ks := (by simp only [oRight, if_pos c1, if_pos c2, if_pos c3, if_pos c4])
 exact (oRight_j21v0_runs Γ h.next d0 d1 dk u0 u1 u2 u3 t0 t1 tx ca p0 p1 p2 p3 p4 p5 x L H1.next ks hsz true _ _ rfl rfl rfl g1_H8 g8 (hka.kept KH8)).mono fun o ⟨r, hr, ht⟩ => ⟨r, hr, ht.1.trans (congrArg (fun (x : Bool) => (bV x : SV)) eF), (Kept.then KH8 ht.2)⟩
 have hv6 : v6 = bV false := hv6.trans (congrArg (fun b => SV.lit (.bool b)) (Bool.eq_false_iff.2 c4))
 subst hv6
 refine oq (bV false) ?_
 refine oq (bV false) ?_
 refine nt ?_
 refine runs_region ?_
 refine oq (.agg [iV 0, iV 0, iV 0, iV 0]) ?_
 refine oq (.agg [iV 0, iV 0, iV 0, iV 0, sV [], bV false, iV 0, iV 0, iV 0, iV 0, iV 0, sV [], bV false, iV 0, sV [], iV 0, iV 0, iV 0, iV 0, bV false, bV false, iV 0, iV 0, iV 0, iV 0, bV false, bV false, iV 0, .lit (.slice none 0 0)]) ?_
 refine oq (.ptr H1.next 3) ?_
 refine ops_storeA (b := H1.next) (off := 3) (v := .agg [iV 0, iV 0, iV 0, iV 0]) (l2 := [iV d0, iV d1, iV dk, iV 0, iV 0, iV 0, iV 0, iV t0, iV t1, sV tx, iV ca, iV p0, iV p1, iV p2, sV p3, bV p4, iV p5, iV x.k, iV x.v0, iV x.v1, iV x.v2, sV x.v3, bV x.v4, iV x.v5, sV x.name, iV x.a0, iV x.a1, iV x.a2, iV x.a3, bV x.a4, bV x.a5, iV x.b0, iV x.b1, iV x.b2, iV x.b3, bV x.b4, bV x.b5, iV x.rows, L]) rfl rfl rfl rfl rfl rfl rfl g3_H6.get rfl (fun H9 g9 j9 n9 => ?_)
 have g9 : At H9 H1.next _ := ⟨by rw [n9]; exact g3_H6.lt, g9⟩
 have g1_H9 := g1_H6.other (j9 _ (Nat.ne_of_lt lt1_2)) n9
 have KH9 : Kept h.next h H9 := kept_other KH6 j9 n9 lo2_0
 refine oq (.ptr H1.next 10) ?_
 refine ops_storeA (b := H1.next) (off := 10) (v := .agg [iV 0, iV 0, iV 0, iV 0, sV [], bV false, iV 0, iV 0, iV 0, iV 0, iV 0, sV [], bV false, iV 0, sV [], iV 0, iV 0, iV 0, iV 0, bV false, bV false, iV 0, iV 0, iV 0, iV 0, bV false, bV false, iV 0, .lit (.slice none 0 0)]) (l2 := [iV d0, iV d1, iV dk, iV 0, iV 0, iV 0, iV 0, iV t0, iV t1, sV tx, iV 0, iV 0, iV 0, iV 0, sV [], bV false, iV 0, iV 0, iV 0, iV 0, iV 0, sV [], bV false, iV 0, sV [], iV 0, iV 0, iV 0, iV 0, bV false, bV false, iV 0, iV 0, iV 0, iV 0, bV false, bV false, iV 0, .lit (.slice none 0 0)]) rfl rfl rfl rfl rfl rfl rfl g9.get rfl (fun H10 g10 j10 n10 => ?_)
 have g10 : At H10 H1.next _ := ⟨by rw [n10]; exact g9.lt, g10⟩
 have g1_H10 := g1_H9.other (j10 _ (Nat.ne_of_lt lt1_2)) n10
 have KH10 : Kept h.next h H10 := kept_other KH9 j10 n10 lo2_0
 refine ops_nil ?_
 refine blk_n ?_
 refine then_n ?_
 have eF : oRight_j21v0 d0 d1 dk u0 u1 u2 u3 t0 t1 tx ca p0 p1 p2 p3 p4 p5 x ks false = oRight d0 d1 dk u0 u1 u2 u3 t0 t1 tx ca p0 p1 p2 p3 p4 p5 x ks := (by simp only [oRight, if_pos c1, if_pos c2, if_pos c3, if_neg c4])
 exact (oRight_j21v0_runs Γ h.next d0 d1 dk u0 u1 u2 u3 t0 t1 tx ca p0 p1 p2 p3 p4 p5 x L H1.next ks hsz false _ _ rfl rfl rfl g1_H10 g10 (hka.kept KH10)).mono fun o ⟨r, hr, ht⟩ => ⟨r, hr, ht.1.trans (congrArg (fun (x : Bool) => (bV x : SV)) eF), (Kept.then KH10 ht.2)⟩
 have hv5 : v5 = bV false := hv5.trans (congrArg (fun b => SV.lit (.bool b)) (Bool.eq_false_iff.2 c3))
 subst hv5
 refine oq (bV false) ?_
 refine oq (bV false) ?_
 iterate 3 refine ou ?_
 refine oq (bV false) ?_
 refine oq (bV false) ?_
 refine nt ?_
 refine runs_region ?_
 refine oq (.agg [iV 0, iV 0, iV 0, iV 0]) ?_
 refine oq (.agg [iV 0, iV 0, iV 0, iV 0, sV [], bV false, iV 0, iV 0, iV 0, iV 0, iV 0, sV [], bV false, iV 0, sV [], iV 0, iV 0, iV 0, iV 0, bV false, bV false, iV 0, iV 0, iV 0, iV 0, bV false, bV false, iV 0, .lit (.slice none 0 0)]) ?_
 refine oq (.ptr H1.next 3) ?_
 refine ops_storeA (b := H1.next) (off := 3) (v := .agg [iV 0, iV 0, iV 0, iV 0]) (l2 := [iV d0, iV d1, iV dk, iV 0, iV 0, iV 0, iV 0, iV t0, iV t1, sV tx, iV ca, iV p0, iV p1, iV p2, sV p3, bV p4, iV p5, iV x.k, iV x.v0, iV x.v1, iV x.v2, sV x.v3, bV x.v4, iV x.v5, sV x.name, iV x.a0, iV x.a1, iV x.a2, iV x.a3, bV x.a4, bV x.a5, iV x.b0, iV x.b1, iV x.b2, iV x.b3, bV x.b4, bV x.b5, iV x.rows, L]) rfl rfl rfl rfl rfl rfl rfl g3_H5.get rfl (fun H11 g11 j11 n11 => ?_)
 have g11 : At H11 H1.next _ := ⟨by rw [n11]; exact g3_H5.lt, g11⟩
 have g1_H11 := g1_H5.other (j11 _ (Nat.ne_of_lt lt1_2)) n11
 have KH11 : Kept h.next h H11 := kept_other KH5 j11 n11 lo2_0
 refine oq (.ptr H1.next 10) ?_
 refine ops_storeA (b := H1.next) (off := 10) (v := .agg [iV 0, iV 0, iV 0, iV 0, sV [], bV false, iV 0, iV 0, iV 0, iV 0, iV 0, sV [], bV false, iV 0, sV [], iV 0, iV 0, iV 0, iV 0, bV false, bV false, iV 0, iV 0, iV 0, iV 0, bV false, bV false, iV 0, .lit (.slice none 0 0)]) (l2 := [iV d0, iV d1, iV dk, iV 0, iV 0, iV 0, iV 0, iV t0, iV t1, sV tx, iV 0, iV 0, iV 0, iV 0, sV [], bV false, iV 0, iV 0, iV 0, iV 0, iV 0, sV [], bV false, iV 0, sV [], iV 0, iV 0, iV 0, iV 0, bV false, bV false, iV 0, iV 0, iV 0, iV 0, bV false, bV false, iV 0, .lit (.slice none 0 0)]) rfl rfl rfl rfl rfl rfl rfl g11.get rfl (fun H12 g12 j12 n12 => ?_)
 have g12 : At H12 H1.next _ := ⟨by rw [n12]; exact g11.lt, g12⟩
 have g1_H12 := g1_H11.other (j12 _ (Nat.ne_of_lt lt1_2)) n12
 have KH12 : Kept h.next h H12 := kept_other KH11 j12 n12 lo2_0
 refine ops_nil ?_
 refine blk_n ?_
 refine then_n ?_
 have eF : oRight_j21v0 d0 d1 dk u0 u1 u2 u3 t0 t1 tx ca p0 p1 p2 p3 p4 p5 x ks false = oRight d0 d1 dk u0 u1 u2 u3 t0 t1 tx ca p0 p1 p2 p3 p4 p5 x ks := (by simp only [oRight, if_pos c1, if_pos c2, if_neg c3])
 exact (oRight_j21v0_runs Γ h.next d0 d1 dk u0 u1 u2 u3 t0 t1 tx ca p0 p1 p2 p3 p4 p5 x L H1.next ks hsz false _ _ rfl rfl rfl g1_H12 g12 (hka.kept KH12)).mono fun o ⟨r, hr, ht⟩ => ⟨r, hr, ht.1.trans (congrArg (fun (x : Bool) => (bV x : SV)) eF), (Kept.then KH12 ht.2)⟩
 have hv4 : v4 = bV false := hv4.trans (congrArg (fun b => SV.lit (.bool b)) (Bool.eq_false_iff.2 c2))
 subst hv4
 refine oq (bV false) ?_
 iterate 4 refine ou ?_
 refine oq (bV false) ?_
 refine oq (bV false) ?_
 iterate 3 refine ou ?_
 refine oq (bV false) ?_
 refine oq (bV false) ?_
 refine nt ?_
 refine runs_region ?_
 refine oq (.agg [iV 0, iV 0, iV 0, iV 0]) ?_
 refine oq (.agg [iV 0, iV 0, iV 0, iV 0, sV [], bV false, iV 0, iV 0, iV 0, iV 0, iV 0, sV [], bV false, iV 0, sV [], iV 0, iV 0, iV 0, iV 0, bV false, bV false, iV 0, iV 0, iV 0, iV 0, bV false, bV false, iV 0, .lit (.slice none 0 0)]) ?_
 refine oq (.ptr H1.next 3) ?_
 refine ops_storeA (b := H1.next) (off := 3) (v := .agg [iV 0, iV 0, iV 0, iV 0]) (l2 := [iV d0, iV d1, iV dk, iV 0, iV 0, iV 0, iV 0, iV t0, iV t1, sV tx, iV ca, iV p0, iV p1, iV p2, sV p3, bV p4, iV p5, iV x.k, iV x.v0, iV x.v1, iV x.v2, sV x.v3, bV x.v4, iV x.v5, sV x.name, iV x.a0, iV x.a1, iV x.a2, iV x.a3, bV x.a4, bV x.a5, iV x.b0, iV x.b1, iV x.b2, iV x.b3, bV x.b4, bV x.b5, iV x.rows, L]) rfl rfl rfl rfl rfl rfl rfl g3_H4.get rfl (fun H13 g13 j13 n13 => ?_)
 have g13 : At H13 H1.next _ := ⟨by rw [n13]; exact g3_H4.lt, g13⟩
 have g1_H13 := g1_H4.other (j13 _ (Nat.ne_of_lt lt1_2)) n13
 have KH13 : Kept h.next h H13 := kept_other KH4 j13 n13 lo2_0
 refine oq (.ptr H1.next 10) ?_
 refine ops_storeA (b := H1.next) (off := 10) (v := .agg [iV 0, iV 0, iV 0, iV 0, sV [], bV false, iV 0, iV 0, iV 0, iV 0, iV 0, sV [], bV false, iV 0, sV [], iV 0, iV 0, iV 0, iV 0, bV false, bV false, iV 0, iV 0, iV 0, iV 0, bV false, bV false, iV 0, .lit (.slice none 0 0)]) (l2 := [iV d0, iV d1, iV dk, iV 0, iV 0, iV 0, iV 0, iV t0, iV t1, sV tx, iV 0, iV 0, iV 0, iV 0, sV [], bV false, iV 0, iV 0, iV 0, iV 0, iV 0, sV [], bV false, iV 0, sV [], iV 0, iV 0, iV 0, iV 0, bV false, bV false, iV 0, iV 0, iV 0, iV 0, bV false, bV false, iV 0, .lit (.slice none 0 0)]) rfl rfl rfl rfl rfl rfl rfl g13.get rfl (fun H14 g14 j14 n14 => ?_)
 have g14 : At H14 H1.next _ := ⟨by rw [n14]; exact g13.lt, g14⟩
 have g1_H14 := g1_H13.other (j14 _ (Nat.ne_of_lt lt1_2)) n14
 have KH14 : Kept h.next h H14 := kept_other KH13 j14 n14 lo2_0
 refine ops_nil ?_
 refine blk_n ?_
 refine then_n ?_
 have eF : oRight_j21v0 d0 d1 dk u0 u1 u2 u3 t0 t1 tx ca p0 p1 p2 p3 p4 p5 x ks false = oRight d0 d1 dk u0 u1 u2 u3 t0 t1 tx ca p0 p1 p2 p3 p4 p5 x ks := (by simp only [oRight, if_pos c1, if_neg c2])
 exact (oRight_j21v0_runs Γ h.next d0 d1 dk u0 u1 u2 u3 t0 t1 tx ca p0 p1 p2 p3 p4 p5 x L H1.next ks hsz false _ _ rfl rfl rfl g1_H14 g14 (hka.kept KH14)).mono fun o ⟨r, hr, ht⟩ => ⟨r, hr, ht.1.trans (congrArg (fun (x : Bool) => (bV x : SV)) eF), (Kept.then KH14 ht.2)⟩
 refine oqp (bV false) (by exact congrArg one (c3_eqlF c1)) ?_
 refine oq (bV false) ?_
 refine nt ?_
 refine runs_cond false rfl ?_
 refine runs_seq ?_
 refine sr ?_
 by_cases c5 : dk = 2
 refine oqp (bV true) (by exact congrArg one (c3_eqlT c5)) ?_
 refine oq (bV true) ?_
 refine nt ?_
 refine runs_cond true rfl ?_
 refine runs_skip ?_
 refine then_n ?_
 refine runs_cond true rfl ?_
 refine sr ?_
 refine oq (.ptr h.next 7) ?_
 refine ola [iV t0, iV t1] 7 g1_H3 ?_
 refine oq (.agg [iV 0, iV 0]) ?_
 by_cases c6 : t0 = 0 ∧ t1 = 0
 refine oqp (bV true) (by exact congrArg one (s23_eqlT c6)) ?_
 refine oq (bV true) ?_
 iterate 3 refine ou ?_
 refine oq (bV true) ?_
 refine oq (bV true) ?_
 refine nt ?_
 refine runs_region ?_
 refine oq (.agg [iV 0, iV 0]) ?_
 refine oq (.ptr H1.next 7) ?_
 refine ops_storeA (b := H1.next) (off := 7) (v := .agg [iV 0, iV 0]) (l2 := [iV d0, iV d1, iV dk, iV u0, iV u1, iV u2, iV u3, iV 0, iV 0, sV tx, iV ca, iV p0, iV p1, iV p2, sV p3, bV p4, iV p5, iV x.k, iV x.v0, iV x.v1, iV x.v2, sV x.v3, bV x.v4, iV x.v5, sV x.name, iV x.a0, iV x.a1, iV x.a2, iV x.a3, bV x.a4, bV x.a5, iV x.b0, iV x.b1, iV x.b2, iV x.b3, bV x.b4, bV x.b5, iV x.rows, L]) rfl rfl rfl rfl rfl rfl rfl g3.get rfl (fun H15 g15 j15 n15 => ?_)
 have g15 : At H15 H1.next _ := ⟨by rw [n15]; exact g3.lt, g15⟩
 have g1_H15 := g1_H3.other (j15 _ (Nat.ne_of_lt lt1_2)) n15
 have KH15 : Kept h.next h H15 := kept_other KH3 j15 n15 lo2_0
 refine ops_nil ?_
 refine blk_n ?_
 refine then_n ?_
 have eF : oRight_j21v1 d0 d1 dk u0 u1 u2 u3 t0 t1 tx ca p0 p1 p2 p3 p4 p5 x ks true = oRight d0 d1 dk u0 u1 u2 u3 t0 t1 tx ca p0 p1 p2 p3 p4 p5 x ks := (by simp only [oRight, if_neg c1, if_pos c5, if_pos c6])
 exact (oRight_j21v1_runs Γ h.next d0 d1 dk u0 u1 u2 u3 t0 t1 tx ca p0 p1 p2 p3 p4 p5 x L H1.next ks hsz true _ _ rfl rfl rfl g1_H15 g15 (hka.kept KH15)).mono fun o ⟨r, hr, ht⟩ => ⟨r, hr, ht.1.trans (congrArg (fun (x : Bool) => (bV x : SV)) eF), (Kept.then KH15 ht.2)⟩
 refine oqp (bV false) (by exact congrArg one (s23_eqlF c6)) ?_
 refine oq (bV false) ?_
 refine oq (.ptr h.next 7) ?_
 refine ola [iV t0, iV t1] 7 g1_H3 ?_
 refine ops_c (f := 24) (args := [.agg [iV t0, iV t1]]) rfl rfl rfl (clone_body Tryz.func24 rfl) rfl rfl ?_
 refine (onAxis_runs Γ t0 t1 H3 ).mono ?_
 rintro ⟨ex16, fr16, H16, v16⟩ ⟨hv16, k16⟩
 have k16 : Kept H3.next H3 H16 := k16
 have g1_H16 := g1_H3.kept k16
 have g3_H16 := g3.kept k16
 have KH16 : Kept h.next h H16 := KH3.trans (k16.less (Nat.le_trans (Nat.le_refl _) KH3.next))
 by_cases c7 : onAxis t0 t1 = true
 have hv16 : v16 = bV true := hv16.trans (congrArg (fun b => SV.lit (.bool b)) c7)
 subst hv16
 refine oq (bV true) ?_
 refine oq (bV true) ?_
 refine nt ?_
 refine runs_region ?_
 refine oq (.agg [iV 0, iV 0]) ?_
 refine oq (.ptr H1.next 7) ?_
 refine ops_storeA (b := H1.next) (off := 7) (v := .agg [iV 0, iV 0]) (l2 := [iV d0, iV d1, iV dk, iV u0, iV u1, iV u2, iV u3, iV 0, iV 0, sV tx, iV ca, iV p0, iV p1, iV p2, sV p3, bV p4, iV p5, iV x.k, iV x.v0, iV x.v1, iV x.v2, sV x.v3, bV x.v4, iV x.v5, sV x.name, iV x.a0, iV x.a1, iV x.a2, iV x.a3, bV x.a4, bV x.a5, iV x.b0, iV x.b1, iV x.b2, iV x.b3, bV x.b4, bV x.b5, iV x.rows, L]) rfl rfl rfl rfl rfl rfl rfl g3_H16.get rfl (fun H17 g17 j17 n17 => ?_)
 have g17 : At H17 H1.next _ := ⟨by rw [n17]; exact g3_H16.lt, g17⟩
 have g1_H17 := g1_H16.other (j17 _ (Nat.ne_of_lt lt1_2)) n17
 have KH17 : Kept h.next h H17 := kept_other KH16 j17 n17 lo2_0
 refine ops_nil ?_
 refine blk_n ?_
 refine then_n ?_
 have eF : oRight_j21v1 d0 d1 dk u0 u1 u2 u3 t0 t1 tx ca p0 p1 p2 p3 p4 p5 x ks true = oRight d0 d1 dk u0 u1 u2 u3 t0 t1 tx ca p0 p1 p2 p3 p4 p5 x ks := (by simp only [oRight, if_neg c1, if_pos c5, if_neg c6, if_pos c7])
 exact (oRight_j21v1_runs Γ h.next d0 d1 dk u0 u1 u2 u3 t0 t1 tx ca p0 p1 p2 p3 p4 p5 x L H1.next ks hsz true _ _ rfl rfl rfl g1_H17 g17 (hka.kept KH17)).mono fun o ⟨r, hr, ht⟩ => ⟨r, hr, ht.1.trans (congrArg (fun (x : Bool) => (bV x : SV)) eF), (Kept.then KH17 ht.2)⟩
 have hv16 : v16 = bV false := hv16.trans (congrArg (fun b => SV.lit (.bool b)) (Bool.eq_false_iff.2 c7))
 subst hv16
 refine oq (bV false) ?_
 refine oq (bV false) ?_
 refine nt ?_
 refine runs_region ?_
 refine oq (.agg [iV 0, iV 0]) ?_
 refine oq (.ptr H1.next 7) ?_
 refine ops_storeA (b := H1.next) (off := 7) (v := .agg [iV 0, iV 0]) (l2 := [iV d0, iV d1, iV dk, iV u0, iV u1, iV u2, iV u3, iV 0, iV 0, sV tx, iV ca, iV p0, iV p1, iV p2, sV p3, bV p4, iV p5, iV x.k, iV x.v0, iV x.v1, iV x.v2, sV x.v3, bV x.v4, iV x.v5, sV x.name, iV x.a0, iV x.a1, iV x.a2, iV x.a3, bV x.a4, bV x.a5, iV x.b0, iV x.b1, iV x.b2, iV x.b3, bV x.b4, bV x.b5, iV x.rows, L]) rfl rfl rfl rfl rfl rfl rfl g3_H16.get rfl (fun H18 g18 j18 n18 => ?_)
 have g18 : At H18 H1.next _ := ⟨by rw [n18]; exact g3_H16.lt, g18⟩
 have g1_H18 := g1_H16.other (j18 _ (Nat.ne_of_lt lt1_2)) n18
 have KH18 : Kept h.next h H18 := kept_other KH16 j18 n18 lo2_0
 refine ops_nil ?_
 refine blk_n ?_
 refine then_n ?_
 have eF : oRight_j21v1 d0 d1 dk u0 u1 u2 u3 t0 t1 tx ca p0 p1 p2 p3 p4 p5 x ks false = oRight d0 d1 dk u0 u1 u2 u3 t0 t1 tx ca p0 p1 p2 p3 p4 p5 x ks := (by simp only [oRight, if_neg c1, if_pos c5, if_neg c6, if_neg c7])
 exact (oRight_j21v1_runs Γ h.next d0 d1 dk u0 u1 u2 u3 t0 t1 tx ca p0 p1 p2 p3 p4 p5 x L H1.next ks hsz false _ _ rfl rfl rfl g1_H18 g18 (hka.kept KH18)).mono fun o ⟨r, hr, ht⟩ => ⟨r, hr, ht.1.trans (congrArg (fun (x : Bool) => (bV x : SV)) eF), (Kept.then KH18 ht.2)⟩
 refine oqp (bV false) (by exact congrArg one (c3_eqlF c5)) ?_
 refine oq (bV false) ?_
 refine nt ?_
 refine runs_cond false rfl ?_
 refine runs_region ?_
 by_cases c8 : dk = 3
 refine oqp (bV true) (by exact congrArg one (c3_eqlT c8)) ?_
 refine oq (bV true) ?_
 refine nt ?_
 refine runs_cond true rfl ?_
 refine sr ?_
 refine oq (.ptr h.next 7) ?_
 refine ola [iV t0, iV t1] 7 g1_H3 ?_
 refine oq (.agg [iV 0, iV 0]) ?_
 by_cases c9 : t0 = 0 ∧ t1 = 0
 refine oqp (bV true) (by exact congrArg one (s23_eqlT c9)) ?_
 refine oq (bV true) ?_
 iterate 3 refine ou ?_
 refine oq (bV true) ?_
 refine oq (bV true) ?_
 refine nt ?_
 refine runs_region ?_
 refine oq (.agg [iV 0, iV 0]) ?_
 refine oq (.ptr H1.next 7) ?_
 refine ops_storeA (b := H1.next) (off := 7) (v := .agg [iV 0, iV 0]) (l2 := [iV d0, iV d1, iV dk, iV u0, iV u1, iV u2, iV u3, iV 0, iV 0, sV tx, iV ca, iV p0, iV p1, iV p2, sV p3, bV p4, iV p5, iV x.k, iV x.v0, iV x.v1, iV x.v2, sV x.v3, bV x.v4, iV x.v5, sV x.name, iV x.a0, iV x.a1, iV x.a2, iV x.a3, bV x.a4, bV x.a5, iV x.b0, iV x.b1, iV x.b2, iV x.b3, bV x.b4, bV x.b5, iV x.rows, L]) rfl rfl rfl rfl rfl rfl rfl g3.get rfl (fun H19 g19 j19 n19 => ?_)
 have g19 : At H19 H1.next _ := ⟨by rw [n19]; exact g3.lt, g19⟩
 have g1_H19 := g1_H3.other (j19 _ (Nat.ne_of_lt lt1_2)) n19
 have KH19 : Kept h.next h H19 := kept_other KH3 j19 n19 lo2_0
 refine ops_nil ?_
 refine blk_n ?_
 refine then_n ?_
 have eF : oRight_j21v1 d0 d1 dk u0 u1 u2 u3 t0 t1 tx ca p0 p1 p2 p3 p4 p5 x ks true = oRight d0 d1 dk u0 u1 u2 u3 t0 t1 tx ca p0 p1 p2 p3 p4 p5 x ks := (by simp only [oRight, if_neg c1, if_neg c5, if_pos c8, if_pos c9])
 exact (oRight_j21v1_runs Γ h.next d0 d1 dk u0 u1 u2 u3 t0 t1 tx ca p0 p1 p2 p3 p4 p5 x L H1.next ks hsz true _ _ rfl rfl rfl g1_H19 g19 (hka.kept KH19)).mono fun o ⟨r, hr, ht⟩ => ⟨r, hr, ht.1.trans (congrArg (fun (x : Bool) => (bV x : SV)) eF), (Kept.then KH19 ht.2)⟩
 refine oqp (bV false) (by exact congrArg one (s23_eqlF c9)) ?_
 refine oq (bV false) ?_
 refine oq (.ptr h.next 7) ?_
 refine ola [iV t0, iV t1] 7 g1_H3 ?_
 refine ops_c (f := 24) (args := [.agg [iV t0, iV t1]]) rfl rfl rfl (clone_body Tryz.func24 rfl) rfl rfl ?_
 refine (onAxis_runs Γ t0 t1 H3 ).mono ?_
 rintro ⟨ex20, fr20, H20, v20⟩ ⟨hv20, k20⟩
 have k20 : Kept H3.next H3 H20 := k20
 have g1_H20 := g1_H3.kept k20
 have g3_H20 := g3.kept k20
 have KH20 : Kept h.next h H20 := KH3.trans (k20.less (Nat.le_trans (Nat.le_refl _) KH3.next))
 by_cases c10 : onAxis t0 t1 = true
 have hv20 : v20 = bV true := hv20.trans (congrArg (fun b => SV.lit (.bool b)) c10)
 subst hv20
 refine oq (bV true) ?_
 refine oq (bV true) ?_
 refine nt ?_
 refine runs_region ?_
 refine oq (.agg [iV 0, iV 0]) ?_
 refine oq (.ptr H1.next 7) ?_
 refine ops_storeA (b := H1.next) (off := 7) (v := .agg [iV 0, iV 0]) (l2 := [iV d0, iV d1, iV dk, iV u0, iV u1, iV u2, iV u3, iV 0, iV 0, sV tx, iV ca, iV p0, iV p1, iV p2, sV p3, bV p4, iV p5, iV x.k, iV x.v0, iV x.v1, iV x.v2, sV x.v3, bV x.v4, iV x.v5, sV x.name, iV x.a0, iV x.a1, iV x.a2, iV x.a3, bV x.a4, bV x.a5, iV x.b0, iV x.b1, iV x.b2, iV x.b3, bV x.b4, bV x.b5, iV x.rows, L]) rfl rfl rfl rfl rfl rfl rfl g3_H20.get rfl (fun H21 g21 j21 n21 => ?_)
 have g21 : At H21 H1.next _ := ⟨by rw [n21]; exact g3_H20.lt, g21⟩
 have g1_H21 := g1_H20.other (j21 _ (Nat.ne_of_lt lt1_2)) n21
 have KH21 : Kept h.next h H21 := kept_other KH20 j21 n21 lo2_0
 refine ops_nil ?_
 refine blk_n ?_
 refine then_n ?_
 have eF : oRight_j21v1 d0 d1 dk u0 u1 u2 u3 t0 t1 tx ca p0 p1 p2 p3 p4 p5 x ks true = oRight d0 d1 dk u0 u1 u2 u3 t0 t1 tx ca p0 p1 p2 p3 p4 p5 x ks := (by simp only [oRight, if_neg c1, if_neg c5, if_pos c8, if_neg c9, if_pos c10])
 exact (oRight_j21v1_runs Γ h.next d0 d1 dk u0 u1 u2 u3 t0 t1 tx ca p0 p1 p2 p3 p4 p5 x L H1.next ks hsz true _ _ rfl rfl rfl g1_H21 g21 (hka.kept KH21)).mono fun o ⟨r, hr, ht⟩ => ⟨r, hr, ht.1.trans (congrArg (fun (x : Bool) => (bV x : SV)) eF), (Kept.then KH21 ht.2)⟩
 have hv20 : v20 = bV false := hv20.trans (congrArg (fun b => SV.lit (.bool b)) (Bool.eq_false_iff.2 c10))
 subst hv20
 refine oq (bV false) ?_
 refine oq (bV false) ?_
 refine nt ?_
 refine runs_region ?_
 refine oq (.agg [iV 0, iV 0]) ?_
 refine oq (.ptr H1.next 7) ?_
 refine ops_storeA (b := H1.next) (off := 7) (v := .agg [iV 0, iV 0]) (l2 := [iV d0, iV d1, iV dk, iV u0, iV u1, iV u2, iV u3, iV 0, iV 0, sV tx, iV ca, iV p0, iV p1, iV p2, sV p3, bV p4, iV p5, iV x.k, iV x.v0, iV x.v1, iV x.v2, sV x.v3, bV x.v4, iV x.v5, sV x.name, iV x.a0, iV x.a1, iV x.a2, iV x.a3, bV x.a4, bV x.a5, iV x.b0, iV x.b1, iV x.b2, iV x.b3, bV x.b4, bV x.b5, iV x.rows, L]) rfl rfl rfl rfl rfl rfl rfl g3_H20.get rfl (fun H22 g22 j22 n22 => ?_)
 have g22 : At H22 H1.next _ := ⟨by rw [n22]; exact g3_H20.lt, g22⟩
 have g1_H22 := g1_H20.other (j22 _ (Nat.ne_of_lt lt1_2)) n22
 have KH22 : Kept h.next h H22 := kept_other KH20 j22 n22 lo2_0
 refine ops_nil ?_
 refine blk_n ?_
 refine then_n ?_
 have eF : oRight_j21v1 d0 d1 dk u0 u1 u2 u3 t0 t1 tx ca p0 p1 p2 p3 p4 p5 x ks false = oRight d0 d1 dk u0 u1 u2 u3 t0 t1 tx ca p0 p1 p2 p3 p4 p5 x ks := (by simp only [oRight, if_neg c1, if_neg c5, if_pos c8, if_neg c9, if_neg c10])
 exact (oRight_j21v1_runs Γ h.next d0 d1 dk u0 u1 u2 u3 t0 t1 tx ca p0 p1 p2 p3 p4 p5 x L H1.next ks hsz false _ _ rfl rfl rfl g1_H22 g22 (hka.kept KH22)).mono fun o ⟨r, hr, ht⟩ => ⟨r, hr, ht.1.trans (congrArg (fun (x : Bool) => (bV x : SV)) eF), (Kept.then KH22 ht.2)⟩
 refine oqp (bV false) (by exact congrArg one (c3_eqlF c8)) ?_
 refine oq (bV false) ?_
 refine nt ?_
 refine runs_cond false rfl ?_
 refine runs_seq ?_
 refine sr ?_
 by_cases c11 : dk = 4
 refine oqp (bV true) (by exact congrArg one (c3_eqlT c11)) ?_
 refine oq (bV true) ?_
 refine nt ?_
 refine runs_cond true rfl ?_
 refine runs_skip ?_
 refine then_n ?_
 refine runs_cond true rfl ?_
 refine sr ?_
 refine oq (.ptr h.next 7) ?_
 refine ola [iV t0, iV t1] 7 g1_H3 ?_
 refine ops_c (f := 24) (args := [.agg [iV t0, iV t1]]) rfl rfl rfl (clone_body Tryz.func24 rfl) rfl rfl ?_
 refine (onAxis_runs Γ t0 t1 H3 ).mono ?_
 rintro ⟨ex23, fr23, H23, v23⟩ ⟨hv23, k23⟩
 have k23 : Kept H3.next H3 H23 := k23
 have g1_H23 := g1_H3.kept k23
 have g3_H23 := g3.kept k23
 have KH23 : Kept h.next h H23 := KH3.trans (k23.less (Nat.le_trans (Nat.le_refl _) KH3.next))
 by_cases c12 : onAxis t0 t1 = true
 have hv23 : v23 = bV true := hv23.trans (congrArg (fun b => SV.lit (.bool b)) c12)
 subst hv23
 refine oq (bV true) ?_
 refine nt ?_
 refine runs_region ?_
 refine oq (.agg [iV 0, iV 0]) ?_
 refine oq (.ptr H1.next 7) ?_
 refine ops_storeA (b := H1.next) (off := 7) (v := .agg [iV 0, iV 0]) (l2 := [iV d0, iV d1, iV dk, iV u0, iV u1, iV u2, iV u3, iV 0, iV 0, sV tx, iV ca, iV p0, iV p1, iV p2, sV p3, bV p4, iV p5, iV x.k, iV x.v0, iV x.v1, iV x.v2, sV x.v3, bV x.v4, iV x.v5, sV x.name, iV x.a0, iV x.a1, iV x.a2, iV x.a3, bV x.a4, bV x.a5, iV x.b0, iV x.b1, iV x.b2, iV x.b3, bV x.b4, bV x.b5, iV x.rows, L]) rfl rfl rfl rfl rfl rfl rfl g3_H23.get rfl (fun H24 g24 j24 n24 => ?_)
 have g24 : At H24 H1.next _ := ⟨by rw [n24]; exact g3_H23.lt, g24⟩
 have g1_H24 := g1_H23.other (j24 _ (Nat.ne_of_lt lt1_2)) n24
 have KH24 : Kept h.next h H24 := kept_other KH23 j24 n24 lo2_0
 refine ops_nil ?_
 refine blk_n ?_
 refine then_n ?_
 have eF : oRight_j21v1 d0 d1 dk u0 u1 u2 u3 t0 t1 tx ca p0 p1 p2 p3 p4 p5 x ks true = oRight d0 d1 dk u0 u1 u2 u3 t0 t1 tx ca p0 p1 p2 p3 p4 p5 x ks := (by simp only [oRight, if_neg c1, if_neg c5, if_neg c8, if_pos c11, if_pos c12])
 exact (oRight_j21v1_runs Γ h.next d0 d1 dk u0 u1 u2 u3 t0 t1 tx ca p0 p1 p2 p3 p4 p5 x L H1.next ks hsz true _ _ rfl rfl rfl g1_H24 g24 (hka.kept KH24)).mono fun o ⟨r, hr, ht⟩ => ⟨r, hr, ht.1.trans (congrArg (fun (x : Bool) => (bV x : SV)) eF), (Kept.then KH24 ht.2)⟩
 have hv23 : v23 = bV false := hv23.trans (congrArg (fun b => SV.lit (.bool b)) (Bool.eq_false_iff.2 c12))
 subst hv23
 refine oq (bV false) ?_
 refine nt ?_
 refine runs_region ?_
 refine oq (.agg [iV 0, iV 0]) ?_
 refine oq (.ptr H1.next 7) ?_
 refine ops_storeA (b := H1.next) (off := 7) (v := .agg [iV 0, iV 0]) (l2 := [iV d0, iV d1, iV dk, iV u0, iV u1, iV u2, iV u3, iV 0, iV 0, sV tx, iV ca, iV p0, iV p1, iV p2, sV p3, bV p4, iV p5, iV x.k, iV x.v0, iV x.v1, iV x.v2, sV x.v3, bV x.v4, iV x.v5, sV x.name, iV x.a0, iV x.a1, iV x.a2, iV x.a3, bV x.a4, bV x.a5, iV x.b0, iV x.b1, iV x.b2, iV x.b3, bV x.b4, bV x.b5, iV x.rows, L]) rfl rfl rfl rfl rfl rfl rfl g3_H23.get rfl (fun H25 g25 j25 n25 => ?_)
 have g25 : At H25 H1.next _ := ⟨by rw [n25]; exact g3_H23.lt, g25⟩
 have g1_H25 := g1_H23.other (j25 _ (Nat.ne_of_lt lt1_2)) n25
 have KH25 : Kept h.next h H25 := kept_other KH23 j25 n25 lo2_0
 refine ops_nil ?_
 refine blk_n ?_
 refine then_n ?_
 have eF : oRight_j21v1 d0 d1 dk u0 u1 u2 u3 t0 t1 tx ca p0 p1 p2 p3 p4 p5 x ks false = oRight d0 d1 dk u0 u1 u2 u3 t0 t1 tx ca p0 p1 p2 p3 p4 p5 x ks := (by simp only [oRight, if_neg c1, if_neg c5, if_neg c8, if_pos c11, if_neg c12])
 exact (oRight_j21v1_runs Γ h.next d0 d1 dk u0 u1 u2 u3 t0 t1 tx ca p0 p1 p2 p3 p4 p5 x L H1.next ks hsz false _ _ rfl rfl rfl g1_H25 g25 (hka.kept KH25)).mono fun o ⟨r, hr, ht⟩ => ⟨r, hr, ht.1.trans (congrArg (fun (x : Bool) => (bV x : SV)) eF), (Kept.then KH25 ht.2)⟩
 refine oqp (bV false) (by exact congrArg one (c3_eqlF c11)) ?_
 refine oq (bV false) ?_
 refine nt ?_
 refine runs_cond false rfl ?_
 refine runs_region ?_
 by_cases c13 : dk = 5
 refine oqp (bV true) (by exact congrArg one (c3_eqlT c13)) ?_
 refine oq (bV true) ?_
 refine nt ?_
 refine runs_cond true rfl ?_
 refine sr ?_
 refine oq (.ptr h.next 7) ?_
 refine ola [iV t0, iV t1] 7 g1_H3 ?_
 refine ops_c (f := 24) (args := [.agg [iV t0, iV t1]]) rfl rfl rfl (clone_body Tryz.func24 rfl) rfl rfl ?_
 refine (onAxis_runs Γ t0 t1 H3 ).mono ?_
 rintro ⟨ex26, fr26, H26, v26⟩ ⟨hv26, k26⟩
 have k26 : Kept H3.next H3 H26 := k26
 have g1_H26 := g1_H3.kept k26
 have g3_H26 := g3.kept k26
 have KH26 : Kept h.next h H26 := KH3.trans (k26.less (Nat.le_trans (Nat.le_refl _) KH3.next))
 by_cases c14 : onAxis t0 t1 = true
 have hv26 : v26 = bV true := hv26.trans (congrArg (fun b => SV.lit (.bool b)) c14)
 subst hv26
 refine oq (bV true) ?_
 refine nt ?_
 refine runs_region ?_
 refine oq (.agg [iV 0, iV 0]) ?_
 refine oq (.ptr H1.next 7) ?_
 refine ops_storeA (b := H1.next) (off := 7) (v := .agg [iV 0, iV 0]) (l2 := [iV d0, iV d1, iV dk, iV u0, iV u1, iV u2, iV u3, iV 0, iV 0, sV tx, iV ca, iV p0, iV p1, iV p2, sV p3, bV p4, iV p5, iV x.k, iV x.v0, iV x.v1, iV x.v2, sV x.v3, bV x.v4, iV x.v5, sV x.name, iV x.a0, iV x.a1, iV x.a2, iV x.a3, bV x.a4, bV x.a5, iV x.b0, iV x.b1, iV x.b2, iV x.b3, bV x.b4, bV x.b5, iV x.rows, L]) rfl rfl rfl rfl rfl rfl rfl g3_H26.get rfl (fun H27 g27 j27 n27 => ?_)
 have g27 : At H27 H1.next _ := ⟨by rw [n27]; exact g3_H26.lt, g27⟩
 have g1_H27 := g1_H26.other (j27 _ (Nat.ne_of_lt lt1_2)) n27
 have KH27 : Kept h.next h H27 := kept_other KH26 j27 n27 lo2_0
 refine ops_nil ?_
 refine blk_n ?_
 refine then_n ?_
 have eF : oRight_j21v1 d0 d1 dk u0 u1 u2 u3 t0 t1 tx ca p0 p1 p2 p3 p4 p5 x ks true = oRight d0 d1 dk u0 u1 u2 u3 t0 t1 tx ca p0 p1 p2 p3 p4 p5 x ks := (by simp only [oRight, if_neg c1, if_neg c5, if_neg c8, if_neg c11, if_pos c13, if_pos c14])
 exact (oRight_j21v1_runs Γ h.next d0 d1 dk u0 u1 u2 u3 t0 t1 tx ca p0 p1 p2 p3 p4 p5 x L H1.next ks hsz true _ _ rfl rfl rfl g1_H27 g27 (hka.kept KH27)).mono fun o ⟨r, hr, ht⟩ => ⟨r, hr, ht.1.trans (congrArg (fun (x : Bool) => (bV x : SV)) eF), (Kept.then KH27 ht.2)⟩
 have hv26 : v26 = bV false := hv26.trans (congrArg (fun b => SV.lit (.bool b)) (Bool.eq_false_iff.2 c14))
 subst hv26
 refine oq (bV false) ?_
 refine nt ?_
 refine runs_region ?_
 refine oq (.agg [iV 0, iV 0]) ?_
 refine oq (.ptr H1.next 7) ?_
 refine ops_storeA (b := H1.next) (off := 7) (v := .agg [iV 0, iV 0]) (l2 := [iV d0, iV d1, iV dk, iV u0, iV u1, iV u2, iV u3, iV 0, iV 0, sV tx, iV ca, iV p0, iV p1, iV p2, sV p3, bV p4, iV p5, iV x.k, iV x.v0, iV x.v1, iV x.v2, sV x.v3, bV x.v4, iV x.v5, sV x.name, iV x.a0, iV x.a1, iV x.a2, iV x.a3, bV x.a4, bV x.a5, iV x.b0, iV x.b1, iV x.b2, iV x.b3, bV x.b4, bV x.b5, iV x.rows, L]) rfl rfl rfl rfl rfl rfl rfl g3_H26.get rfl (fun H28 g28 j28 n28 => ?_)
 have g28 : At H28 H1.next _ := ⟨by rw [n28]; exact g3_H26.lt, g28⟩
 have g1_H28 := g1_H26.other (j28 _ (Nat.ne_of_lt lt1_2)) n28
 have KH28 : Kept h.next h H28 := kept_other KH26 j28 n28 lo2_0
 refine ops_nil ?_
 refine blk_n ?_
 refine then_n ?_
 have eF : oRight_j21v1 d0 d1 dk u0 u1 u2 u3 t0 t1 tx ca p0 p1 p2 p3 p4 p5 x ks false = oRight d0 d1 dk u0 u1 u2 u3 t0 t1 tx ca p0 p1 p2 p3 p4 p5 x ks := (by simp only [oRight, if_neg c1, if_neg c5, if_neg c8, if_neg c11, if_pos c13, if_neg c14])
 exact (oRight_j21v1_runs Γ h.next d0 d1 dk u0 u1 u2 u3 t0 t1 tx ca p0 p1 p2 p3 p4 p5 x L H1.next ks hsz false _ _ rfl rfl rfl g1_H28 g28 (hka.kept KH28)).mono fun o ⟨r, hr, ht⟩ => ⟨r, hr, ht.1.trans (congrArg (fun (x : Bool) => (bV x : SV)) eF), (Kept.then KH28 ht.2)⟩
 refine oqp (bV false) (by exact congrArg one (c3_eqlF c13)) ?_
 refine oq (bV false) ?_
 refine nt ?_
 refine runs_cond false rfl ?_
 refine sr ?_
 by_cases c15 : dk = 6
 refine oqp (bV true) (by exact congrArg one (c3_eqlT c15)) ?_
 refine oq (bV true) ?_
 refine nt ?_
 refine runs_cond true rfl ?_
 refine sr ?_
 refine oq (.ptr h.next 9) ?_
 refine olc (sV tx) 9 g1_H3 ?_
 refine ops_c (f := 26) (args := [sV tx]) rfl rfl rfl (clone_body Tryz.func26 rfl) rfl rfl ?_
 refine (nmRight_runs Γ tx H3 ).mono ?_
 rintro ⟨ex29, fr29, H29, v29⟩ ⟨hv29, k29⟩
 have k29 : Kept H3.next H3 H29 := k29
 have g1_H29 := g1_H3.kept k29
 have g3_H29 := g3.kept k29
 have KH29 : Kept h.next h H29 := KH3.trans (k29.less (Nat.le_trans (Nat.le_refl _) KH3.next))
 by_cases c16 : nmRight tx = true
 have hv29 : v29 = bV true := hv29.trans (congrArg (fun b => SV.lit (.bool b)) c16)
 subst hv29
 refine oq (bV true) ?_
 refine oq (.ptr h.next 10) ?_
 refine oq (.ptr h.next 10) ?_
 refine olc (iV ca) 10 g1_H29 ?_
 by_cases c17 : ca ≠ 1
 refine oqp (bV true) (by exact congrArg one (c3_neqT c17)) ?_
 refine oq (bV true) ?_
 refine oq (bV true) ?_
 refine oq (.ptr h.next 10) ?_
 refine ola [iV ca, iV p0, iV p1, iV p2, sV p3, bV p4, iV p5, iV x.k, iV x.v0, iV x.v1, iV x.v2, sV x.v3, bV x.v4, iV x.v5, sV x.name, iV x.a0, iV x.a1, iV x.a2, iV x.a3, bV x.a4, bV x.a5, iV x.b0, iV x.b1, iV x.b2, iV x.b3, bV x.b4, bV x.b5, iV x.rows, L] 10 g1_H29 ?_
 refine ops_c (f := 25) (args := [.agg [iV ca, iV p0, iV p1, iV p2, sV p3, bV p4, iV p5, iV x.k, iV x.v0, iV x.v1, iV x.v2, sV x.v3, bV x.v4, iV x.v5, sV x.name, iV x.a0, iV x.a1, iV x.a2, iV x.a3, bV x.a4, bV x.a5, iV x.b0, iV x.b1, iV x.b2, iV x.b3, bV x.b4, bV x.b5, iV x.rows, L]]) rfl rfl rfl (clone_body Tryz.func25 rfl) rfl rfl ?_
 refine (cRight_runs Γ ca p0 p1 p2 p3 p4 p5 x ks L H29 (hka.kept KH29) (by first | omega | decide)).mono ?_
 rintro ⟨ex30, fr30, H30, v30⟩ ⟨hv30, k30⟩
 have k30 : Kept H29.next H29 H30 := k30
 have g1_H30 := g1_H29.kept k30
 have g3_H30 := g3_H29.kept k30
 have KH30 : Kept h.next h H30 := KH29.trans (k30.less (Nat.le_trans (Nat.le_refl _) KH29.next))
 by_cases c18 : cRight ca p0 p1 p2 p3 p4 p5 x ks = true
 have hv30 : v30 = bV true := hv30.trans (congrArg (fun b => SV.lit (.bool b)) c18)
 subst hv30
 refine oq (bV true) ?_
 refine oq (bV true) ?_
 refine nt ?_
 refine runs_region ?_
 refine oq (.agg [iV 0, iV 0, iV 0, iV 0, sV [], bV false, iV 0, iV 0, iV 0, iV 0, iV 0, sV [], bV false, iV 0, sV [], iV 0, iV 0, iV 0, iV 0, bV false, bV false, iV 0, iV 0, iV 0, iV 0, bV false, bV false, iV 0, .lit (.slice none 0 0)]) ?_
 refine oq (.ptr H1.next 9) ?_
 refine ops_storeA (b := H1.next) (off := 9) (v := sV []) (l2 := [iV d0, iV d1, iV dk, iV u0, iV u1, iV u2, iV u3, iV t0, iV t1, sV [], iV ca, iV p0, iV p1, iV p2, sV p3, bV p4, iV p5, iV x.k, iV x.v0, iV x.v1, iV x.v2, sV x.v3, bV x.v4, iV x.v5, sV x.name, iV x.a0, iV x.a1, iV x.a2, iV x.a3, bV x.a4, bV x.a5, iV x.b0, iV x.b1, iV x.b2, iV x.b3, bV x.b4, bV x.b5, iV x.rows, L]) rfl rfl rfl rfl rfl rfl rfl g3_H30.get rfl (fun H31 g31 j31 n31 => ?_)
 have g31 : At H31 H1.next _ := ⟨by rw [n31]; exact g3_H30.lt, g31⟩
 have g1_H31 := g1_H30.other (j31 _ (Nat.ne_of_lt lt1_2)) n31
 have KH31 : Kept h.next h H31 := kept_other KH30 j31 n31 lo2_0
 refine oq (.ptr H1.next 10) ?_
 refine ops_storeA (b := H1.next) (off := 10) (v := .agg [iV 0, iV 0, iV 0, iV 0, sV [], bV false, iV 0, iV 0, iV 0, iV 0, iV 0, sV [], bV false, iV 0, sV [], iV 0, iV 0, iV 0, iV 0, bV false, bV false, iV 0, iV 0, iV 0, iV 0, bV false, bV false, iV 0, .lit (.slice none 0 0)]) (l2 := [iV d0, iV d1, iV dk, iV u0, iV u1, iV u2, iV u3, iV t0, iV t1, sV [], iV 0, iV 0, iV 0, iV 0, sV [], bV false, iV 0, iV 0, iV 0, iV 0, iV 0, sV [], bV false, iV 0, sV [], iV 0, iV 0, iV 0, iV 0, bV false, bV false, iV 0, iV 0, iV 0, iV 0, bV false, bV false, iV 0, .lit (.slice none 0 0)]) rfl rfl rfl rfl rfl rfl rfl g31.get rfl (fun H32 g32 j32 n32 => ?_)
 have g32 : At H32 H1.next _ := ⟨by rw [n32]; exact g31.lt, g32⟩
 have g1_H32 := g1_H31.other (j32 _ (Nat.ne_of_lt lt1_2)) n32
 have KH32 : Kept h.next h H32 := kept_other KH31 j32 n32 lo2_0
 refine ops_nil ?_
 refine blk_n ?_
 refine then_n ?_
 have eF : oRight_j21v2 d0 d1 dk u0 u1 u2 u3 t0 t1 tx ca p0 p1 p2 p3 p4 p5 x ks true = oRight d0 d1 dk u0 u1 u2 u3 t0 t1 tx ca p0 p1 p2 p3 p4 p5 x ks := (by simp only [oRight, if_neg c1, if_neg c5, if_neg c8, if_neg c11, if_neg c13, if_pos c15, if_pos c16, if_pos c17, if_pos c18])
 exact (oRight_j21v2_runs Γ h.next d0 d1 dk u0 u1 u2 u3 t0 t1 tx ca p0 p1 p2 p3 p4 p5 x L H1.next ks hsz true _ _ rfl rfl rfl g1_H32 g32 (hka.kept KH32)).mono fun o ⟨r, hr, ht⟩ => ⟨r, hr, ht.1.trans (congrArg (fun (x : Bool) => (bV x : SV)) eF), (Kept.then KH32 ht.2)⟩
 have hv30 : v30 = bV false := hv30.trans (congrArg (fun b => SV.lit (.bool b)) (Bool.eq_false_iff.2 c18))
 subst hv30
 refine oq (bV false) ?_
 refine oq (bV false) ?_
 refine nt ?_
 refine runs_region ?_
 refine oq (.agg [iV 0, iV 0, iV 0, iV 0, sV [], bV false, iV 0, iV 0, iV 0, iV 0, iV 0, sV [], bV false, iV 0, sV [], iV 0, iV 0, iV 0, iV 0, bV false, bV false, iV 0, iV 0, iV 0, iV 0, bV false, bV false, iV 0, .lit (.slice none 0 0)]) ?_
 refine oq (.ptr H1.next 9) ?_
 refine ops_storeA (b := H1.next) (off := 9) (v := sV []) (l2 := [iV d0, iV d1, iV dk, iV u0, iV u1, iV u2, iV u3, iV t0, iV t1, sV [], iV ca, iV p0, iV p1, iV p2, sV p3, bV p4, iV p5, iV x.k, iV x.v0, iV x.v1, iV x.v2, sV x.v3, bV x.v4, iV x.v5, sV x.name, iV x.a0, iV x.a1, iV x.a2, iV x.a3, bV x.a4, bV x.a5, iV x.b0, iV x.b1, iV x.b2, iV x.b3, bV x.b4, bV x.b5, iV x.rows, L]) rfl rfl rfl rfl rfl rfl rfl g3_H30.get rfl (fun H33 g33 j33 n33 => ?_)
 have g33 : At H33 H1.next _ := ⟨by rw [n33]; exact g3_H30.lt, g33⟩
 have g1_H33 := g1_H30.other (j33 _ (Nat.ne_of_lt lt1_2)) n33
 have KH33 : Kept h.next h H33 := kept_other KH30 j33 n33 lo2_0
 refine oq (.ptr H1.next 10) ?_
 refine ops_storeA (b := H1.next) (off := 10) (v := .agg [iV 0, iV 0, iV 0, iV 0, sV [], bV false, iV 0, iV 0, iV 0, iV 0, iV 0, sV [], bV false, iV 0, sV [], iV 0, iV 0, iV 0, iV 0, bV false, bV false, iV 0, iV 0, iV 0, iV 0, bV false, bV false, iV 0, .lit (.slice none 0 0)]) (l2 := [iV d0, iV d1, iV dk, iV u0, iV u1, iV u2, iV u3, iV t0, iV t1, sV [], iV 0, iV 0, iV 0, iV 0, sV [], bV false, iV 0, iV 0, iV 0, iV 0, iV 0, sV [], bV false, iV 0, sV [], iV 0, iV 0, iV 0, iV 0, bV false, bV false, iV 0, iV 0, iV 0, iV 0, bV false, bV false, iV 0, .lit (.slice none 0 0)]) rfl rfl rfl rfl rfl rfl rfl g33.get rfl (fun H34 g34 j34 n34 => ?_)
 have g34 : At H34 H1.next _ := ⟨by rw [n34]; exact g33.lt, g34⟩
 have g1_H34 := g1_H33.other (j34 _ (Nat.ne_of_lt lt1_2)) n34
 have KH34 : Kept h.next h H34 := kept_other KH33 j34 n34 lo2_0
 refine ops_nil ?_
 refine blk_n ?_
 refine then_n ?_
 have eF : oRight_j21v2 d0 d1 dk u0 u1 u2 u3 t0 t1 tx ca p0 p1 p2 p3 p4 p5 x ks false = oRight d0 d1 dk u0 u1 u2 u3 t0 t1 tx ca p0 p1 p2 p3 p4 p5 x ks := (by simp only [oRight, if_neg c1, if_neg c5, if_neg c8, if_neg c11, if_neg c13, if_pos c15, if_pos c16, if_pos c17, if_neg c18])
 exact (oRight_j21v2_runs Γ h.next d0 d1 dk u0 u1 u2 u3 t0 t1 tx ca p0 p1 p2 p3 p4 p5 x L H1.next ks hsz false _ _ rfl rfl rfl g1_H34 g34 (hka.kept KH34)).mono fun o ⟨r, hr, ht⟩ => ⟨r, hr, ht.1.trans (congrArg (fun (x : Bool) => (bV x : SV)) eF), (Kept.then KH34 ht.2)⟩
 refine oqp (bV false) (by exact congrArg one (c3_neqF c17)) ?_
 refine oq (bV false) ?_
 refine oq (bV false) ?_
 iterate 3 refine ou ?_
 refine oq (bV false) ?_
 refine oq (bV false) ?_
 refine nt ?_
 refine runs_region ?_
 refine oq (.agg [iV 0, iV 0, iV 0, iV 0, sV [], bV false, iV 0, iV 0, iV 0, iV 0, iV 0, sV [], bV false, iV 0, sV [], iV 0, iV 0, iV 0, iV 0, bV false, bV false, iV 0, iV 0, iV 0, iV 0, bV false, bV false, iV 0, .lit (.slice none 0 0)]) ?_
 refine oq (.ptr H1.next 9) ?_
 refine ops_storeA (b := H1.next) (off := 9) (v := sV []) (l2 := [iV d0, iV d1, iV dk, iV u0, iV u1, iV u2, iV u3, iV t0, iV t1, sV [], iV ca, iV p0, iV p1, iV p2, sV p3, bV p4, iV p5, iV x.k, iV x.v0, iV x.v1, iV x.v2, sV x.v3, bV x.v4, iV x.v5, sV x.name, iV x.a0, iV x.a1, iV x.a2, iV x.a3, bV x.a4, bV x.a5, iV x.b0, iV x.b1, iV x.b2, iV x.b3, bV x.b4, bV x.b5, iV x.rows, L]) rfl rfl rfl rfl rfl rfl rfl g3_H29.get rfl (fun H35 g35 j35 n35 => ?_)
 have g35 : At H35 H1.next _ := ⟨by rw [n35]; exact g3_H29.lt, g35⟩
 have g1_H35 := g1_H29.other (j35 _ (Nat.ne_of_lt lt1_2)) n35
 have KH35 : Kept h.next h H35 := kept_other KH29 j35 n35 lo2_0
 refine oq (.ptr H1.next 10) ?_
 refine ops_storeA (b := H1.next) (off := 10) (v := .agg [iV 0, iV 0, iV 0, iV 0, sV [], bV false, iV 0, iV 0, iV 0, iV 0, iV 0, sV [], bV false, iV 0, sV [], iV 0, iV 0, iV 0, iV 0, bV false, bV false, iV 0, iV 0, iV 0, iV 0, bV false, bV false, iV 0, .lit (.slice none 0 0)]) (l2 := [iV d0, iV d1, iV dk, iV u0, iV u1, iV u2, iV u3, iV t0, iV t1, sV [], iV 0, iV 0, iV 0, iV 0, sV [], bV false, iV 0, iV 0, iV 0, iV 0, iV 0, sV [], bV false, iV 0, sV [], iV 0, iV 0, iV 0, iV 0, bV false, bV false, iV 0, iV 0, iV 0, iV 0, bV false, bV false, iV 0, .lit (.slice none 0 0)]) rfl rfl rfl rfl rfl rfl rfl g35.get rfl (fun H36 g36 j36 n36 => ?_)
 have g36 : At H36 H1.next _ := ⟨by rw [n36]; exact g35.lt, g36⟩
 have g1_H36 := g1_H35.other (j36 _ (Nat.ne_of_lt lt1_2)) n36
 have KH36 : Kept h.next h H36 := kept_other KH35 j36 n36 lo2_0
 refine ops_nil ?_
 refine blk_n ?_
 refine then_n ?_
 have eF : oRight_j21v2 d0 d1 dk u0 u1 u2 u3 t0 t1 tx ca p0 p1 p2 p3 p4 p5 x ks false = oRight d0 d1 dk u0 u1 u2 u3 t0 t1 tx ca p0 p1 p2 p3 p4 p5 x ks := (by simp only [oRight, if_neg c1, if_neg c5, if_neg c8, if_neg c11, if_neg c13, if_pos c15, if_pos c16, if_neg c17])
 exact (oRight_j21v2_runs Γ h.next d0 d1 dk u0 u1 u2 u3 t0 t1 tx ca p0 p1 p2 p3 p4 p5 x L H1.next ks hsz false _ _ rfl rfl rfl g1_H36 g36 (hka.kept KH36)).mono fun o ⟨r, hr, ht⟩ => ⟨r, hr, ht.1.trans (congrArg (fun (x : Bool) => (bV x : SV)) eF), (Kept.then KH36 ht.2)⟩
 have hv29 : v29 = bV false := hv29.trans (congrArg (fun b => SV.lit (.bool b)) (Bool.eq_false_iff.2 c16))
 subst hv29
 refine oq (bV false) ?_
 iterate 4 refine ou ?_
 refine oq (bV false) ?_
 refine oq (bV false) ?_
 iterate 3 refine ou ?_
 refine oq (bV false) ?_
 refine oq (bV false) ?_
 refine nt ?_
 refine runs_region ?_
 refine oq (.agg [iV 0, iV 0, iV 0, iV 0, sV [], bV false, iV 0, iV 0, iV 0, iV 0, iV 0, sV [], bV false, iV 0, sV [], iV 0, iV 0, iV 0, iV 0, bV false, bV false, iV 0, iV 0, iV 0, iV 0, bV false, bV false, iV 0, .lit (.slice none 0 0)]) ?_
 refine oq (.ptr H1.next 9) ?_
 refine ops_storeA (b := H1.next) (off := 9) (v := sV []) (l2 := [iV d0, iV d1, iV dk, iV u0, iV u1, iV u2, iV u3, iV t0, iV t1, sV [], iV ca, iV p0, iV p1, iV p2, sV p3, bV p4, iV p5, iV x.k, iV x.v0, iV x.v1, iV x.v2, sV x.v3, bV x.v4, iV x.v5, sV x.name, iV x.a0, iV x.a1, iV x.a2, iV x.a3, bV x.a4, bV x.a5, iV x.b0, iV x.b1, iV x.b2, iV x.b3, bV x.b4, bV x.b5, iV x.rows, L]) rfl rfl rfl rfl rfl rfl rfl g3_H29.get rfl (fun H37 g37 j37 n37 => ?_)
 have g37 : At H37 H1.next _ := ⟨by rw [n37]; exact g3_H29.lt, g37⟩
 have g1_H37 := g1_H29.other (j37 _ (Nat.ne_of_lt lt1_2)) n37
 have KH37 : Kept h.next h H37 := kept_other KH29 j37 n37 lo2_0
 refine oq (.ptr H1.next 10) ?_
 refine ops_storeA (b := H1.next) (off := 10) (v := .agg [iV 0, iV 0, iV 0, iV 0, sV [], bV false, iV 0, iV 0, iV 0, iV 0, iV 0, sV [], bV false, iV 0, sV [], iV 0, iV 0, iV 0, iV 0, bV false, bV false, iV 0, iV 0, iV 0, iV 0, bV false, bV false, iV 0, .lit (.slice none 0 0)]) (l2 := [iV d0, iV d1, iV dk, iV u0, iV u1, iV u2, iV u3, iV t0, iV t1, sV [], iV 0, iV 0, iV 0, iV 0, sV [], bV false, iV 0, iV 0, iV 0, iV 0, iV 0, sV [], bV false, iV 0, sV [], iV 0, iV 0, iV 0, iV 0, bV false, bV false, iV 0, iV 0, iV 0, iV 0, bV false, bV false, iV 0, .lit (.slice none 0 0)]) rfl rfl rfl rfl rfl rfl rfl g37.get rfl (fun H38 g38 j38 n38 => ?_)
 have g38 : At H38 H1.next _ := ⟨by rw [n38]; exact g37.lt, g38⟩
 have g1_H38 := g1_H37.other (j38 _ (Nat.ne_of_lt lt1_2)) n38
 have KH38 : Kept h.next h H38 := kept_other KH37 j38 n38 lo2_0
 refine ops_nil ?_
 refine blk_n ?_
 refine then_n ?_
 have eF : oRight_j21v2 d0 d1 dk u0 u1 u2 u3 t0 t1 tx ca p0 p1 p2 p3 p4 p5 x ks false = oRight d0 d1 dk u0 u1 u2 u3 t0 t1 tx ca p0 p1 p2 p3 p4 p5 x ks := (by simp only [oRight, if_neg c1, if_neg c5, if_neg c8, if_neg c11, if_neg c13, if_pos c15, if_neg c16])
 exact (oRight_j21v2_runs Γ h.next d0 d1 dk u0 u1 u2 u3 t0 t1 tx ca p0 p1 p2 p3 p4 p5 x L H1.next ks hsz false _ _ rfl rfl rfl g1_H38 g38 (hka.kept KH38)).mono fun o ⟨r, hr, ht⟩ => ⟨r, hr, ht.1.trans (congrArg (fun (x : Bool) => (bV x : SV)) eF), (Kept.then KH38 ht.2)⟩
 refine oqp (bV false) (by exact congrArg one (c3_eqlF c15)) ?_
 refine oq (bV false) ?_
 refine nt ?_
 refine runs_cond false rfl ?_
 refine sr ?_
 by_cases c19 : dk = 7
 refine oqp (bV true) (by exact congrArg one (c3_eqlT c19)) ?_
 refine oq (bV true) ?_
 refine nt ?_
 refine runs_cond true rfl ?_
 refine sr ?_
 refine oq (.ptr h.next 7) ?_
 refine ola [iV t0, iV t1] 7 g1_H3 ?_
 refine ops_c (f := 27) (args := [.agg [iV t0, iV t1]]) rfl rfl rfl (clone_body Tryz.func27 rfl) rfl rfl ?_
 refine (may_runs Γ t0 t1 H3 ).mono ?_
 rintro ⟨ex39, fr39, H39, v39⟩ ⟨hv39, k39⟩
 have k39 : Kept H3.next H3 H39 := k39
 have g1_H39 := g1_H3.kept k39
 have g3_H39 := g3.kept k39
 have KH39 : Kept h.next h H39 := KH3.trans (k39.less (Nat.le_trans (Nat.le_refl _) KH3.next))
 by_cases c20 : may t0 t1 = true
 have hv39 : v39 = bV true := hv39.trans (congrArg (fun b => SV.lit (.bool b)) c20)
 subst hv39
 refine oq (bV true) ?_
 refine nt ?_
 refine runs_region ?_
 refine oq (.agg [iV 0, iV 0]) ?_
 refine oq (.ptr H1.next 7) ?_
 refine ops_storeA (b := H1.next) (off := 7) (v := .agg [iV 0, iV 0]) (l2 := [iV d0, iV d1, iV dk, iV u0, iV u1, iV u2, iV u3, iV 0, iV 0, sV tx, iV ca, iV p0, iV p1, iV p2, sV p3, bV p4, iV p5, iV x.k, iV x.v0, iV x.v1, iV x.v2, sV x.v3, bV x.v4, iV x.v5, sV x.name, iV x.a0, iV x.a1, iV x.a2, iV x.a3, bV x.a4, bV x.a5, iV x.b0, iV x.b1, iV x.b2, iV x.b3, bV x.b4, bV x.b5, iV x.rows, L]) rfl rfl rfl rfl rfl rfl rfl g3_H39.get rfl (fun H40 g40 j40 n40 => ?_)
 have g40 : At H40 H1.next _ := ⟨by rw [n40]; exact g3_H39.lt, g40⟩
 have g1_H40 := g1_H39.other (j40 _ (Nat.ne_of_lt lt1_2)) n40
 have KH40 : Kept h.next h H40 := kept_other KH39 j40 n40 lo2_0
 refine ops_nil ?_
 refine blk_n ?_
 refine then_n ?_
 have eF : oRight_j21v1 d0 d1 dk u0 u1 u2 u3 t0 t1 tx ca p0 p1 p2 p3 p4 p5 x ks true = oRight d0 d1 dk u0 u1 u2 u3 t0 t1 tx ca p0 p1 p2 p3 p4 p5 x ks := (by simp only [oRight, if_neg c1, if_neg c5, if_neg c8, if_neg c11, if_neg c13, if_neg c15, if_pos c19, if_pos c20])
 exact (oRight_j21v1_runs Γ h.next d0 d1 dk u0 u1 u2 u3 t0 t1 tx ca p0 p1 p2 p3 p4 p5 x L H1.next ks hsz true _ _ rfl rfl rfl g1_H40 g40 (hka.kept KH40)).mono fun o ⟨r, hr, ht⟩ => ⟨r, hr, ht.1.trans (congrArg (fun (x : Bool) => (bV x : SV)) eF), (Kept.then KH40 ht.2)⟩
 have hv39 : v39 = bV false := hv39.trans (congrArg (fun b => SV.lit (.bool b)) (Bool.eq_false_iff.2 c20))
 subst hv39
 refine oq (bV false) ?_
 refine nt ?_
 refine runs_region ?_
 refine oq (.agg [iV 0, iV 0]) ?_
 refine oq (.ptr H1.next 7) ?_
 refine ops_storeA (b := H1.next) (off := 7) (v := .agg [iV 0, iV 0]) (l2 := [iV d0, iV d1, iV dk, iV u0, iV u1, iV u2, iV u3, iV 0, iV 0, sV tx, iV ca, iV p0, iV p1, iV p2, sV p3, bV p4, iV p5, iV x.k, iV x.v0, iV x.v1, iV x.v2, sV x.v3, bV x.v4, iV x.v5, sV x.name, iV x.a0, iV x.a1, iV x.a2, iV x.a3, bV x.a4, bV x.a5, iV x.b0, iV x.b1, iV x.b2, iV x.b3, bV x.b4, bV x.b5, iV x.rows, L]) rfl rfl rfl rfl rfl rfl rfl g3_H39.get rfl (fun H41 g41 j41 n41 => ?_)
 have g41 : At H41 H1.next _ := ⟨by rw [n41]; exact g3_H39.lt, g41⟩
 have g1_H41 := g1_H39.other (j41 _ (Nat.ne_of_lt lt1_2)) n41
 have KH41 : Kept h.next h H41 := kept_other KH39 j41 n41 lo2_0
 refine ops_nil ?_
 refine blk_n ?_
 refine then_n ?_
 have eF : oRight_j21v1 d0 d1 dk u0 u1 u2 u3 t0 t1 tx ca p0 p1 p2 p3 p4 p5 x ks false = oRight d0 d1 dk u0 u1 u2 u3 t0 t1 tx ca p0 p1 p2 p3 p4 p5 x ks := (by simp only [oRight, if_neg c1, if_neg c5, if_neg c8, if_neg c11, if_neg c13, if_neg c15, if_pos c19, if_neg c20])
 exact (oRight_j21v1_runs Γ h.next d0 d1 dk u0 u1 u2 u3 t0 t1 tx ca p0 p1 p2 p3 p4 p5 x L H1.next ks hsz false _ _ rfl rfl rfl g1_H41 g41 (hka.kept KH41)).mono fun o ⟨r, hr, ht⟩ => ⟨r, hr, ht.1.trans (congrArg (fun (x : Bool) => (bV x : SV)) eF), (Kept.then KH41 ht.2)⟩
 refine oqp (bV false) (by exact congrArg one (c3_eqlF c19)) ?_
 refine oq (bV false) ?_
 refine nt ?_
 refine runs_cond false rfl ?_
 refine runs_skip ?_
 refine blk_n ?_
 refine then_n ?_
 have eF : oRight_j21v3 d0 d1 dk u0 u1 u2 u3 t0 t1 tx ca p0 p1 p2 p3 p4 p5 x ks false = oRight d0 d1 dk u0 u1 u2 u3 t0 t1 tx ca p0 p1 p2 p3 p4 p5 x ks := (by simp only [oRight, if_neg c1, if_neg c5, if_neg c8, if_neg c11, if_neg c13, if_neg c15, if_neg c19])
 exact (oRight_j21v3_runs Γ h.next d0 d1 dk u0 u1 u2 u3 t0 t1 tx ca p0 p1 p2 p3 p4 p5 x L H1.next ks hsz false _ _ rfl rfl rfl g1_H3 g3 (hka.kept KH3)).mono fun o ⟨r, hr, ht⟩ => ⟨r, hr, ht.1.trans (congrArg (fun (x : Bool) => (bV x : SV)) eF), (Kept.then KH3 ht.2)⟩
end Go.Proofs.YtcnfmcbmephdfaaGreatDoor.d
namespace Go.Proofs.YtcnfmcbmephdfaaGreatDoor.d
open Go Go.Proofs.YtcnfmcbmephdfaaGreatDoor.Ev Go.Proofs.YtcnfmcbmephdfaaGreatDoor.snap
def unone (_b : Nat) (_wb : Nat) : Bool :=
 false
set_option maxHeartbeats 8000000 in
set_option maxRecDepth 20000 in
theorem unone_runs (Γ : Glob) (b : Nat) (wb : Nat) (l1 : SV) (l2 : SV) (h : Hp) (hb : At h b (.cells [.ptr wb 0, l1, l2] 91)) : Runs Tryz.prog Γ (.call 23 [.ptr b 0] h) (Tells h (bV (unone b wb))) := by
 refine runs_call Tryz.func23 rfl ?_
 refine sr ?_
 refine oq (bV false) ?_
 refine nt ?_
 refine sr ?_
 refine oq (.ptr b 0) ?_
 refine oq (bV false) ?_
 refine oq (bV false) ?_
 refine oq (.ptr b 0) ?_
 refine oq (.ptr b 0) ?_
 refine oq (.ptr b 0) ?_
 refine olc (.ptr wb 0) 0 hb ?_
 refine oq (bV false) ?_
 refine oq (bV false) ?_
 refine oq (bV false) ?_
 refine nt ?_
 refine runs_ret ?_
 exact ⟨_, leave_t1 rfl rfl, fb (false) (by simp only [unone]), (Kept.refl _ _)⟩
set_option maxHeartbeats 8000000 in
set_option maxRecDepth 20000 in
theorem Did_runs (Γ : Glob) (b : Nat) (wb : Nat) (d0 : Int) (d1 : Int) (dk : Int) (u0 : Int) (u1 : Int) (u2 : Int) (u3 : Int) (t0 : Int) (t1 : Int) (tx : List UInt8) (ca : Int) (p0 : Int) (p1 : Int) (p2 : Int) (p3 : List UInt8) (p4 : Bool) (p5 : Int) (x : ND) (ks : List Tr) (l1 : SV) (l2 : SV) (L : SV) (Z : SV) (h : Hp) (hb : At h b (.cells [.ptr wb 0, l1, l2] 91)) (hka : KidsOf Γ h L ks) (hsz : 1 + sizeL ks ≤ 1900000) (hodd : dk = 7 ∨ oRight d0 d1 dk u0 u1 u2 u3 t0 t1 tx ca p0 p1 p2 p3 p4 p5 x ks = false) : Runs Tryz.prog Γ (.call 7 [.ptr b 0, .agg [iV d0, iV d1, iV dk, iV u0, iV u1, iV u2, iV u3, iV t0, iV t1, sV tx, iV ca, iV p0, iV p1, iV p2, sV p3, bV p4, iV p5, iV x.k, iV x.v0, iV x.v1, iV x.v2, sV x.v3, bV x.v4, iV x.v5, sV x.name, iV x.a0, iV x.a1, iV x.a2, iV x.a3, bV x.a4, bV x.a5, iV x.b0, iV x.b1, iV x.b2, iV x.b3, bV x.b4, bV x.b5, iV x.rows, L, Z]] h) (fun o => o.v = .tuple [] ∧ Kept h.next h o.hp) := by
 refine runs_call Tryz.func7 rfl ?_
 refine sr ?_
 refine ops_box (cs := [iV d0, iV d1, iV dk, iV u0, iV u1, iV u2, iV u3, iV t0, iV t1, sV tx, iV ca, iV p0, iV p1, iV p2, sV p3, bV p4, iV p5, iV x.k, iV x.v0, iV x.v1, iV x.v2, sV x.v3, bV x.v4, iV x.v5, sV x.name, iV x.a0, iV x.a1, iV x.a2, iV x.a3, bV x.a4, bV x.a5, iV x.b0, iV x.b1, iV x.b2, iV x.b3, bV x.b4, bV x.b5, iV x.rows, L, Z]) rfl rfl rfl rfl rfl (fun H1 g1 k1 n1 => ?_)
 have lt0_1 : b < h.next := hb.lt
 have lo1_0 : h.next ≤ h.next := (Nat.le_refl _)
 have hb_H1 := hb.kept k1
 refine nt ?_
 refine runs_seq ?_
 refine sr ?_
 refine oq (.ptr b 0) ?_
 refine ops_c (f := 23) (args := [.ptr b 0]) rfl rfl rfl (clone_body Tryz.func23 rfl) rfl rfl ?_
 refine (unone_runs Γ b wb l1 l2 H1 hb_H1).mono ?_
 rintro ⟨ex2, fr2, H2, v2⟩ ⟨hv2, k2⟩
 have k2 : Kept H1.next H1 H2 := k2
 have hb_H2 := hb_H1.kept k2
 have g1_H2 := g1.kept k2
 have KH2 : Kept h.next h H2 := k1.trans (k2.less (Nat.le_trans (Nat.le_refl _) k1.next))
 by_cases c1 : unone b wb = true
 have hv2 : v2 = bV true := hv2.trans (congrArg (fun b => SV.lit (.bool b)) c1)
 subst hv2
 refine oq (bV true) ?_
 iterate 4 refine ou ?_
 refine oq (bV true) ?_
 refine oq (bV true) ?_
 iterate 4 refine ou ?_
 refine oq (bV true) ?_
 refine nt ?_
 refine runs_cond true rfl ?_
 refine runs_ret ?_
 refine then_r ?_
 exact ⟨_, leave_t0 rfl, rfl, KH2⟩
 have hv2 : v2 = bV false := hv2.trans (congrArg (fun b => SV.lit (.bool b)) (Bool.eq_false_iff.2 c1))
 subst hv2
 refine oq (bV false) ?_
 refine oq (.ptr h.next 0) ?_
 refine oq (.ptr h.next 2) ?_
 refine olc (iV dk) 2 g1_H2 ?_
 by_cases c2 : dk = 7
 refine oqp (bV true) (by exact congrArg one (c3_eqlT c2)) ?_
 refine oq (bV true) ?_
 refine oq (bV true) ?_
 iterate 4 refine ou ?_
 refine oq (bV true) ?_
 refine nt ?_
 refine runs_cond true rfl ?_
 refine runs_ret ?_
 refine then_r ?_
 exact ⟨_, leave_t0 rfl, rfl, KH2⟩
 refine oqp (bV false) (by exact congrArg one (c3_eqlF c2)) ?_
 refine oq (bV false) ?_
 refine oq (bV false) ?_
 refine oq (.ptr h.next 0) ?_
 refine ola [iV d0, iV d1, iV dk, iV u0, iV u1, iV u2, iV u3, iV t0, iV t1, sV tx, iV ca, iV p0, iV p1, iV p2, sV p3, bV p4, iV p5, iV x.k, iV x.v0, iV x.v1, iV x.v2, sV x.v3, bV x.v4, iV x.v5, sV x.name, iV x.a0, iV x.a1, iV x.a2, iV x.a3, bV x.a4, bV x.a5, iV x.b0, iV x.b1, iV x.b2, iV x.b3, bV x.b4, bV x.b5, iV x.rows, L] 0 g1_H2 ?_
 refine ops_c (f := 8) (args := [.agg [iV d0, iV d1, iV dk, iV u0, iV u1, iV u2, iV u3, iV t0, iV t1, sV tx, iV ca, iV p0, iV p1, iV p2, sV p3, bV p4, iV p5, iV x.k, iV x.v0, iV x.v1, iV x.v2, sV x.v3, bV x.v4, iV x.v5, sV x.name, iV x.a0, iV x.a1, iV x.a2, iV x.a3, bV x.a4, bV x.a5, iV x.b0, iV x.b1, iV x.b2, iV x.b3, bV x.b4, bV x.b5, iV x.rows, L]]) rfl rfl rfl (clone_body Tryz.func8 rfl) rfl rfl ?_
 refine (oRight_runs Γ d0 d1 dk u0 u1 u2 u3 t0 t1 tx ca p0 p1 p2 p3 p4 p5 x ks L H2 (hka.kept KH2) (by first | omega | decide)).mono ?_
 rintro ⟨ex3, fr3, H3, v3⟩ ⟨hv3, k3⟩
 have k3 : Kept H2.next H2 H3 := k3
 have hb_H3 := hb_H2.kept k3
 have g1_H3 := g1_H2.kept k3
 have KH3 : Kept h.next h H3 := KH2.trans (k3.less (Nat.le_trans (Nat.le_refl _) KH2.next))
 by_cases c3 : oRight d0 d1 dk u0 u1 u2 u3 t0 t1 tx ca p0 p1 p2 p3 p4 p5 x ks = true
 have hv3 : v3 = bV true := hv3.trans (congrArg (fun b => SV.lit (.bool b)) c3)
 subst hv3
 refine oq (bV false) ?_
 refine oq (bV false) ?_
 refine nt ?_
 refine runs_cond false rfl ?_
 refine runs_skip ?_
 refine then_n ?_
 refine runs_seq ?_
 rcases hodd with h1 | h1
 exact absurd h1 (by assumption)
 have cc : oRight d0 d1 dk u0 u1 u2 u3 t0 t1 tx ca p0 p1 p2 p3 p4 p5 x ks = true := by assumption
 rw [h1] at cc
 cases cc
 have hv3 : v3 = bV false := hv3.trans (congrArg (fun b => SV.lit (.bool b)) (Bool.eq_false_iff.2 c3))
 subst hv3
 refine oq (bV true) ?_
 refine oq (bV true) ?_
 refine nt ?_
 refine runs_cond true rfl ?_
 refine runs_ret ?_
 refine then_r ?_
 exact ⟨_, leave_t0 rfl, rfl, KH3⟩
end Go.Proofs.YtcnfmcbmephdfaaGreatDoor.d
