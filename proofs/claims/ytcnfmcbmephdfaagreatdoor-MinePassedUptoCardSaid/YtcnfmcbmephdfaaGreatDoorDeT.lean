/-
  tree.walk, AND HOW DEEP A TREE IS. | tree.Check ON EVERY TREE. | CELLS AND NAMES THAT ARE RIGHT.
-/
import Derived.Test.YtcnfmcbmephdfaaGreatDoorDeQ
import Derived.Test.YtcnfmcbmephdfaaGreatDoorDeJ
import Derived.Test.YtcnfmcbmephdfaaGreatDoorDeG
namespace Go.Proofs.YtcnfmcbmephdfaaGreatDoor.d
open Go Go.Proofs.YtcnfmcbmephdfaaGreatDoor.Ev Go.Proofs.YtcnfmcbmephdfaaGreatDoor.snap
def mx2 (a b : Int) : Int := if b > a then b else a
def mxd (l : List (Tr × Int)) : Int := l.foldl (fun a x => mx2 a x.2) 0
theorem mxd_step {l : List (Tr × Int)} {k : Nat} {t : Tr} {d : Int} (h : l[k]? = some (t, d)) : mxd (l.take (k + 1)) = mx2 (mxd (l.take k)) d := by
 rw [List.take_add_one, h, mxd, List.foldl_append]; rfl
theorem few_of : ∀ (t : Tr) (m : Nat), t.size ≤ m → Few m t
 | .mk x ks, m, h => by
  rw [Tr.size] at h
  exact .mk (by have := len_sizeL ks; omega) fun t ht => few_of t m (by have := size_mem ht; omega)
def checkT (t : Tr) : Int := if 256 < t.size then 5 else if 32 < mxd (preT t 1) then 8 else if rightT t 6 = true then 0 else 6
theorem walk_runs (Γ : Glob) (p : SV) (h : Hp) (ho : SV.one p = true) : Runs Tryz.prog Γ (.call 115 [p] h) fun o => o.v = .func (.func 173) [] [.ptr h.next 0] ∧ At o.hp h.next (.cells [p] 219) ∧ Kept h.next h o.hp := by
 refine runs_call Tryz.func115 rfl ?_
 refine sr ?_
 refine ops_box (cs := [p]) rfl rfl (cells_one ho) rfl rfl (fun H1 g1 k1 n1 => ?_)
 refine oq (.lit .nilFunc) ?_
 refine nt ?_
 refine sr ?_
 refine oq (.func (.func 173) [] [.ptr h.next 0]) ?_
 refine oq (.func (.func 173) [] [.ptr h.next 0]) ?_
 refine nt ?_
 refine runs_ret ?_
 exact ⟨_, leave_t1 rfl rfl, rfl, g1, k1⟩
end Go.Proofs.YtcnfmcbmephdfaaGreatDoor.d
namespace Go.Proofs.YtcnfmcbmephdfaaGreatDoor.d
open Go Go.Proofs.YtcnfmcbmephdfaaGreatDoor.Ev Go.Proofs.YtcnfmcbmephdfaaGreatDoor.snap
set_option maxHeartbeats 8000000 in
set_option maxRecDepth 20000 in
theorem Check_runs (Γ : Glob) (x : ND) (ks : List Tr) (L : SV) (h : Hp) (hka : KidsOf Γ h L ks) (hsz : 1 + sizeL ks ≤ 1900000) : Runs Tryz.prog Γ (.call 55 [.agg [iV x.k, iV x.v0, iV x.v1, iV x.v2, sV x.v3, bV x.v4, iV x.v5, sV x.name, iV x.a0, iV x.a1, iV x.a2, iV x.a3, bV x.a4, bV x.a5, iV x.b0, iV x.b1, iV x.b2, iV x.b3, bV x.b4, bV x.b5, iV x.rows, L]] h) (Tells h (iV (checkT (Tr.mk x ks)))) := by
 refine runs_call Tryz.func55 rfl ?_
 refine sr ?_
 refine ops_box (cs := [iV x.k, iV x.v0, iV x.v1, iV x.v2, sV x.v3, bV x.v4, iV x.v5, sV x.name, iV x.a0, iV x.a1, iV x.a2, iV x.a3, bV x.a4, bV x.a5, iV x.b0, iV x.b1, iV x.b2, iV x.b3, bV x.b4, bV x.b5, iV x.rows, L]) rfl rfl rfl rfl rfl (fun H1 g1 k1 n1 => ?_)
 have lo1_0 : h.next ≤ h.next := (Nat.le_refl _)
 have hT : TreeAt Γ H1 (.ptr h.next 0) (Tr.mk x ks) := TreeAt.of (PtrTo.ofAt g1) (hka.kept k1)
 refine ops_alloc (z := .int .i64 0) rfl rfl rfl rfl rfl (fun H2 g2 k2 n2 => ?_)
 have lt1_2 : h.next < H1.next := g1.lt
 have lo2_0 : h.next ≤ H1.next := (Nat.le_trans (Nat.le_refl _) k1.next)
 have lo2_1 : H1.next ≤ H1.next := (Nat.le_refl _)
 have g1_H2 := g1.kept k2
 have KH2 : Kept h.next h H2 := k1.trans (k2.less (Nat.le_trans (Nat.le_refl _) k1.next))
 refine nt ?_
 refine sr ?_
 refine ops_alloc (z := .int .i64 0) rfl rfl rfl rfl rfl (fun H3 g3 k3 n3 => ?_)
 have lt3_3 : h.next < H2.next := g1_H2.lt
 have lt4_3 : H1.next < H2.next := g2.lt
 have lo3_0 : h.next ≤ H2.next := (Nat.le_trans (Nat.le_refl _) KH2.next)
 have lo3_1 : H1.next ≤ H2.next := (Nat.le_trans (Nat.le_refl _) k2.next)
 have g1_H3 := g1_H2.kept k3
 have g2_H3 := g2.kept k3
 have KH3 : Kept h.next h H3 := KH2.trans (k3.less (Nat.le_trans (Nat.le_refl _) KH2.next))
 have K1H3 : Kept H1.next H1 H3 := k2.trans (k3.less (Nat.le_trans (Nat.le_refl _) k2.next))
 refine ops_alloc (z := .int .i64 0) rfl rfl rfl rfl rfl (fun H4 g4 k4 n4 => ?_)
 have lt6_4 : h.next < H3.next := g1_H3.lt
 have lt7_4 : H1.next < H3.next := g2_H3.lt
 have lt8_4 : H2.next < H3.next := g3.lt
 have lo4_0 : h.next ≤ H3.next := (Nat.le_trans (Nat.le_refl _) KH3.next)
 have lo4_1 : H1.next ≤ H3.next := (Nat.le_trans (Nat.le_refl _) K1H3.next)
 have g1_H4 := g1_H3.kept k4
 have g2_H4 := g2_H3.kept k4
 have g3_H4 := g3.kept k4
 have KH4 : Kept h.next h H4 := KH3.trans (k4.less (Nat.le_trans (Nat.le_refl _) KH3.next))
 have K1H4 : Kept H1.next H1 H4 := K1H3.trans (k4.less (Nat.le_trans (Nat.le_refl _) K1H3.next))
 refine ops_storeA (b := H2.next) (off := 0) (v := iV 0) (l2 := [iV 0]) rfl rfl rfl rfl rfl rfl rfl g3_H4.get rfl (fun H5 g5 j5 n5 => ?_)
 have g5 : At H5 H2.next _ := ⟨by rw [n5]; exact g3_H4.lt, g5⟩
 have g1_H5 := g1_H4.other (j5 _ (Nat.ne_of_lt lt3_3)) n5
 have g2_H5 := g2_H4.other (j5 _ (Nat.ne_of_lt lt4_3)) n5
 have g4_H5 := g4.other (j5 _ (Nat.ne_of_lt lt8_4).symm) n5
 have KH5 : Kept h.next h H5 := kept_other KH4 j5 n5 lo3_0
 have K1H5 : Kept H1.next H1 H5 := kept_other K1H4 j5 n5 lo3_1
 refine ops_storeA (b := H3.next) (off := 0) (v := iV 0) (l2 := [iV 0]) rfl rfl rfl rfl rfl rfl rfl g4_H5.get rfl (fun H6 g6 j6 n6 => ?_)
 have g6 : At H6 H3.next _ := ⟨by rw [n6]; exact g4_H5.lt, g6⟩
 have g1_H6 := g1_H5.other (j6 _ (Nat.ne_of_lt lt6_4)) n6
 have g2_H6 := g2_H5.other (j6 _ (Nat.ne_of_lt lt7_4)) n6
 have g5_H6 := g5.other (j6 _ (Nat.ne_of_lt lt8_4)) n6
 have KH6 : Kept h.next h H6 := kept_other KH5 j6 n6 lo4_0
 have K1H6 : Kept H1.next H1 H6 := kept_other K1H5 j6 n6 lo4_1
 refine nt ?_
 refine runs_seq ?_
 refine sr ?_
 refine ops_c (f := 115) (args := [.ptr h.next 0]) rfl rfl rfl (clone_body Tryz.func115 rfl) rfl rfl ?_
 refine (walk_runs Γ (.ptr h.next 0) H6 rfl).mono ?_
 rintro ⟨ex7, fr7, H7, v7⟩ ⟨hv7, g7, k7⟩
 have hv7 : v7 = .func (.func 173) [] [.ptr H6.next 0] := hv7
 subst hv7
 have g7 : At H7 H6.next (.cells [.ptr h.next 0] 219) := g7
 have k7 : Kept H6.next H6 H7 := k7
 have lt10_7 : h.next < H6.next := g1_H6.lt
 have lt11_7 : H1.next < H6.next := g2_H6.lt
 have lt12_7 : H2.next < H6.next := g5_H6.lt
 have lt13_7 : H3.next < H6.next := g6.lt
 have lo7_0 : h.next ≤ H6.next := (Nat.le_trans (Nat.le_refl _) KH6.next)
 have lo7_1 : H1.next ≤ H6.next := (Nat.le_trans (Nat.le_refl _) K1H6.next)
 have g1_H7 := g1_H6.kept k7
 have g2_H7 := g2_H6.kept k7
 have g5_H7 := g5_H6.kept k7
 have g6_H7 := g6.kept k7
 have KH7 : Kept h.next h H7 := KH6.trans (k7.less (Nat.le_trans (Nat.le_refl _) KH6.next))
 have K1H7 : Kept H1.next H1 H7 := K1H6.trans (k7.less (Nat.le_trans (Nat.le_refl _) K1H6.next))
 refine nt ?_
 refine runs_blk ?_
 have ltR0 : H1.next < H7.next := g2_H7.lt
 have ltR1 : H2.next < H7.next := g5_H7.lt
 have ltR2 : H3.next < H7.next := g6_H7.lt
 have loR : h.next ≤ H7.next := KH7.next
 have loR1 : H1.next ≤ H7.next := K1H7.next
 have ltN : h.next < H1.next := g1.lt
 refine range_walk (A := H1) (p0 := .ptr h.next 0) (tt := Tr.mk x ks)
  (fun k H => Kept h.next h H ∧ Kept H1.next H1 H ∧ At H H1.next (.cells [iV 0] 52) ∧ At H H2.next (.cells [iV (k : Int)] 3) ∧ At H H3.next (.cells [iV (mxd ((preT (Tr.mk x ks) 1).take k))] 3) ∧ k ≤ 256)
  (fun H => Kept h.next h H ∧ At H H1.next (.cells [iV 5] 52) ∧ 256 < (Tr.mk x ks).size)
  (fun tm z => ((tm.set 8 z.1).set 9 (iV z.2)).set 6 (iV z.2)) (by rw [Tr.size]; exact hsz) rfl rfl rfl g7 hT (fun k H w => w.2.1)
  (fun k a b w j => ⟨w.1.trans (j.less loR), w.2.1.trans (j.less loR1), w.2.2.1.keptLo j ltR0, w.2.2.2.1.keptLo j ltR1, w.2.2.2.2.1.keptLo j ltR2, w.2.2.2.2.2⟩) (fun a b w j => ⟨w.1.trans (j.less loR), w.2.1.keptLo j ltR0, w.2.2⟩)
  ⟨KH7, K1H7, g2_H7, g5_H7, g6_H7, Nat.zero_le _⟩ ?_ ?_ ?_ ?_
 intro z hz
 refine runs_region ?_
 refine oq (iV z.2) ?_
 refine ops_nil ?_
 exact ⟨_, rfl⟩
 intro k t d q hb hit hq hlo ⟨i1, i2, i3, i4, i5, i6⟩
 have hlo : H7.next + 2 ≤ hb.next := hlo
 have hk := (List.getElem?_eq_some_iff.1 hit).1
 rw [preT_len] at hk
 refine runs_blk ?_
 refine sr ?_
 refine olc (iV (k : Int)) 0 i4 ?_
 refine oqp (iV ((k : Int) + 1)) (by exact congrArg one (a3_add (by omega) (by omega) (by omega))) ?_
 refine ops_storeA (b := H2.next) (off := 0) (v := iV ((k : Int) + 1)) (l2 := [iV ((k : Int) + 1)]) rfl rfl rfl rfl rfl rfl rfl i4.get rfl (fun H8 g8 j8 n8 => ?_)
 have g8 : At H8 H2.next _ := ⟨by rw [n8]; exact i4.lt, g8⟩
 have i3_H8 := i3.other (j8 _ (Nat.ne_of_lt lt4_3)) n8
 have i5_H8 := i5.other (j8 _ (Nat.ne_of_lt lt8_4).symm) n8
 have KH8 : Kept h.next h H8 := kept_other i1 j8 n8 lo3_0
 have K1H8 : Kept H1.next H1 H8 := kept_other i2 j8 n8 lo3_1
 refine nt ?_
 refine runs_seq ?_
 refine sr ?_
 refine olc (iV ((k : Int) + 1)) 0 g8 ?_
 by_cases c1 : ((k : Int) + 1) > 256
 refine oqp (bV true) (by exact congrArg one (c3_gtrT c1)) ?_
 refine nt ?_
 refine runs_cond true rfl ?_
 refine sr ?_
 refine ops_storeA (b := H1.next) (off := 0) (v := iV 5) (l2 := [iV 5]) rfl rfl rfl rfl rfl rfl rfl i3_H8.get rfl (fun H9 g9 j9 n9 => ?_)
 have g9 : At H9 H1.next _ := ⟨by rw [n9]; exact i3_H8.lt, g9⟩
 have g8_H9 := g8.other (j9 _ (Nat.ne_of_lt lt4_3).symm) n9
 have i5_H9 := i5_H8.other (j9 _ (Nat.ne_of_lt lt7_4).symm) n9
 have KH9 : Kept h.next h H9 := kept_other KH8 j9 n9 lo2_0
 have K1H9 : Kept H1.next H1 H9 := kept_other K1H8 j9 n9 lo2_1
 refine nt ?_
 refine runs_ret ?_
 refine then_r ?_
 refine blk_r ?_
 exact ⟨.inr ⟨_, _, _, rfl, KH9, g9, by omega⟩, (by show hb.next ≤ H9.next; rw [n9, n8]; exact Nat.le_refl _), fun c hc1 hc2 => (have hc1 : H7.next ≤ c := hc1; ((j9 c (by omega)).trans ((j8 c (by omega)).trans rfl)))⟩
 refine oqp (bV false) (by exact congrArg one (c3_gtrF c1)) ?_
 refine nt ?_
 refine runs_cond false rfl ?_
 refine runs_skip ?_
 refine then_n ?_
 refine runs_region ?_
 refine olc (iV (mxd ((preT (Tr.mk x ks) 1).take k))) 0 i5_H8 ?_
 refine oq (iV d) ?_
 refine oq (iV (mx2 (mxd ((preT (Tr.mk x ks) 1).take k)) d)) ?_
 refine ops_storeA (b := H3.next) (off := 0) (v := iV (mx2 (mxd ((preT (Tr.mk x ks) 1).take k)) d)) (l2 := [iV (mx2 (mxd ((preT (Tr.mk x ks) 1).take k)) d)]) rfl rfl rfl rfl rfl rfl rfl i5_H8.get rfl (fun H10 g10 j10 n10 => ?_)
 have g10 : At H10 H3.next _ := ⟨by rw [n10]; exact i5_H8.lt, g10⟩
 have i3_H10 := i3_H8.other (j10 _ (Nat.ne_of_lt lt7_4)) n10
 have g8_H10 := g8.other (j10 _ (Nat.ne_of_lt lt8_4)) n10
 have KH10 : Kept h.next h H10 := kept_other KH8 j10 n10 lo4_0
 have K1H10 : Kept H1.next H1 H10 := kept_other K1H8 j10 n10 lo4_1
 refine ops_nil ?_
 refine blk_n ?_
 exact ⟨.inl ⟨_, _, _, rfl, KH10, K1H10, i3_H10, (show At H10 H2.next (.cells [iV ((k + 1 : Nat) : Int)] 3) from g8_H10), (by rw [mxd_step hit]; exact g10), by omega⟩, (by show hb.next ≤ H10.next; rw [n10, n8]; exact Nat.le_refl _), fun c hc1 hc2 => (have hc1 : H7.next ≤ c := hc1; ((j10 c (by omega)).trans ((j8 c (by omega)).trans rfl)))⟩
 intro hc vc ⟨i1, i2, i3, i4, i5, i6⟩ hD
 rw [List.take_length] at i5
 rw [preT_len] at i6
 refine blk_n ?_
 refine then_n ?_
 refine runs_seq ?_
 refine sr ?_
 refine olc (iV (mxd (preT (Tr.mk x ks) 1))) 0 i5 ?_
 by_cases c2 : (mxd (preT (Tr.mk x ks) 1)) > 32
 refine oqp (bV true) (by exact congrArg one (c3_gtrT c2)) ?_
 refine nt ?_
 refine runs_cond true rfl ?_
 refine sr ?_
 refine ops_storeA (b := H1.next) (off := 0) (v := iV 8) (l2 := [iV 8]) rfl rfl rfl rfl rfl rfl rfl i3.get rfl (fun H11 g11 j11 n11 => ?_)
 have g11 : At H11 H1.next _ := ⟨by rw [n11]; exact i3.lt, g11⟩
 have i5_H11 := i5.other (j11 _ (Nat.ne_of_lt lt7_4).symm) n11
 have hD_H11 := hD.other (j11 _ (Nat.ne_of_lt ltR0).symm) n11
 have KH11 : Kept h.next h H11 := kept_other i1 j11 n11 lo2_0
 have K1H11 : Kept H1.next H1 H11 := kept_other i2 j11 n11 lo2_1
 refine nt ?_
 refine runs_ret ?_
 refine then_r ?_
 exact ⟨_, leave_cell (t := 2) (ty := 52) (a := H1.next) rfl hD_H11.get rfl rfl (Nat.ne_of_lt ltR0) g11.get, congrArg (fun (x : Int) => (SV.lit (.int .i64 x))) (show (8 : Int) = checkT (Tr.mk x ks) from (by rw [checkT, if_neg (by omega), if_pos (by omega)])), kept_other KH11 (fun c hc => get_ne hc) rfl loR⟩
 refine oqp (bV false) (by exact congrArg one (c3_gtrF c2)) ?_
 refine nt ?_
 refine runs_cond false rfl ?_
 refine runs_skip ?_
 refine then_n ?_
 refine runs_seq ?_
 refine sr ?_
 refine ops_c (f := 116) (args := [.ptr h.next 0, iV 6]) rfl rfl rfl (clone_body Tryz.func116 rfl) rfl rfl ?_
 refine (rightT_runs hT hc 6 i2 (few_of _ _ (by omega))).mono ?_
 rintro ⟨ex12, fr12, H12, v12⟩ ⟨hv12, k12⟩
 have k12 : Kept hc.next hc H12 := k12
 have i3_H12 := i3.kept k12
 have i5_H12 := i5.kept k12
 have hD_H12 := hD.kept k12
 have KH12 : Kept h.next h H12 := i1.trans (k12.less (Nat.le_trans (Nat.le_refl _) i1.next))
 have K1H12 : Kept H1.next H1 H12 := i2.trans (k12.less (Nat.le_trans (Nat.le_refl _) i2.next))
 by_cases c3 : rightT (Tr.mk x ks) 6 = true
 have hv12 : v12 = bV true := hv12.trans (congrArg (fun b => SV.lit (.bool b)) c3)
 subst hv12
 refine oq (bV false) ?_
 refine nt ?_
 refine runs_cond false rfl ?_
 refine runs_skip ?_
 refine then_n ?_
 refine sr ?_
 refine ops_storeA (b := H1.next) (off := 0) (v := iV 0) (l2 := [iV 0]) rfl rfl rfl rfl rfl rfl rfl i3_H12.get rfl (fun H13 g13 j13 n13 => ?_)
 have g13 : At H13 H1.next _ := ⟨by rw [n13]; exact i3_H12.lt, g13⟩
 have i5_H13 := i5_H12.other (j13 _ (Nat.ne_of_lt lt7_4).symm) n13
 have hD_H13 := hD_H12.other (j13 _ (Nat.ne_of_lt ltR0).symm) n13
 have KH13 : Kept h.next h H13 := kept_other KH12 j13 n13 lo2_0
 have K1H13 : Kept H1.next H1 H13 := kept_other K1H12 j13 n13 lo2_1
 refine nt ?_
 refine runs_ret ?_
 exact ⟨_, leave_cell (t := 2) (ty := 52) (a := H1.next) rfl hD_H13.get rfl rfl (Nat.ne_of_lt ltR0) g13.get, congrArg (fun (x : Int) => (SV.lit (.int .i64 x))) (show (0 : Int) = checkT (Tr.mk x ks) from (by rw [checkT, if_neg (by omega), if_neg (by omega), if_pos (by assumption)])), kept_other KH13 (fun c hc => get_ne hc) rfl loR⟩
 have hv12 : v12 = bV false := hv12.trans (congrArg (fun b => SV.lit (.bool b)) (Bool.eq_false_iff.2 c3))
 subst hv12
 refine oq (bV true) ?_
 refine nt ?_
 refine runs_cond true rfl ?_
 refine sr ?_
 refine ops_storeA (b := H1.next) (off := 0) (v := iV 6) (l2 := [iV 6]) rfl rfl rfl rfl rfl rfl rfl i3_H12.get rfl (fun H14 g14 j14 n14 => ?_)
 have g14 : At H14 H1.next _ := ⟨by rw [n14]; exact i3_H12.lt, g14⟩
 have i5_H14 := i5_H12.other (j14 _ (Nat.ne_of_lt lt7_4).symm) n14
 have hD_H14 := hD_H12.other (j14 _ (Nat.ne_of_lt ltR0).symm) n14
 have KH14 : Kept h.next h H14 := kept_other KH12 j14 n14 lo2_0
 have K1H14 : Kept H1.next H1 H14 := kept_other K1H12 j14 n14 lo2_1
 refine nt ?_
 refine runs_ret ?_
 refine then_r ?_
 exact ⟨_, leave_cell (t := 2) (ty := 52) (a := H1.next) rfl hD_H14.get rfl rfl (Nat.ne_of_lt ltR0) g14.get, congrArg (fun (x : Int) => (SV.lit (.int .i64 x))) (show (6 : Int) = checkT (Tr.mk x ks) from (by rw [checkT, if_neg (by omega), if_neg (by omega), if_neg (by assumption)])), kept_other KH14 (fun c hc => get_ne hc) rfl loR⟩
 intro hc vc ⟨i1, i3, i4⟩ hD
 refine blk_r ?_
 refine then_r ?_
 exact ⟨_, leave_cell (t := 2) (ty := 52) (a := H1.next) rfl hD.get rfl rfl (Nat.ne_of_lt ltR0) i3.get, congrArg (fun (x : Int) => (SV.lit (.int .i64 x))) (show (5 : Int) = checkT (Tr.mk x ks) from (by rw [checkT, if_pos i4])), kept_other i1 (fun c hc => get_ne hc) rfl loR⟩
end Go.Proofs.YtcnfmcbmephdfaaGreatDoor.d
namespace Go.Proofs.YtcnfmcbmephdfaaGreatDoor.d
open Go Go.Proofs.YtcnfmcbmephdfaaGreatDoor.Ev Go.Proofs.YtcnfmcbmephdfaaGreatDoor.snap
theorem kids_nil {Γ : Glob} {h : Hp} {c : Nat} : KidsOf Γ h (.lit (.slice none 0 c)) [] := ⟨lenIs_nil c, fun _ => .lit (.pointer none), fun i hi => absurd hi (Nat.not_lt_zero _), fun i t ht => by simp at ht⟩
def cSame (ca : Int) (p0 : Int) (p1 : Int) (p2 : Int) (p3 : List UInt8) (p4 : Bool) (p5 : Int) (x : ND) (ks : List Tr) (cb : Int) (w0 : Int) (w1 : Int) (w2 : Int) (w3 : List UInt8) (w4 : Bool) (w5 : Int) (y : ND) (ls : List Tr) : Bool :=
 if ca = cb then
  if vSame p0 p1 p2 p3 p4 p5 w0 w1 w2 w3 w4 w5 = true then
   (sameT (Tr.mk x ks) (Tr.mk y ls))
  else
   false
 else
  false
set_option maxHeartbeats 8000000 in
set_option maxRecDepth 20000 in
theorem cSame_runs (Γ : Glob) (ca : Int) (p0 : Int) (p1 : Int) (p2 : Int) (p3 : List UInt8) (p4 : Bool) (p5 : Int) (x : ND) (ks : List Tr) (cb : Int) (w0 : Int) (w1 : Int) (w2 : Int) (w3 : List UInt8) (w4 : Bool) (w5 : Int) (y : ND) (ls : List Tr) (L : SV) (M : SV) (h : Hp) (hka : KidsOf Γ h L ks) (hkb : KidsOf Γ h M ls) (hsz : 1 + sizeL ks ≤ 1900000) : Runs Tryz.prog Γ (.call 28 [.agg [iV ca, iV p0, iV p1, iV p2, sV p3, bV p4, iV p5, iV x.k, iV x.v0, iV x.v1, iV x.v2, sV x.v3, bV x.v4, iV x.v5, sV x.name, iV x.a0, iV x.a1, iV x.a2, iV x.a3, bV x.a4, bV x.a5, iV x.b0, iV x.b1, iV x.b2, iV x.b3, bV x.b4, bV x.b5, iV x.rows, L], .agg [iV cb, iV w0, iV w1, iV w2, sV w3, bV w4, iV w5, iV y.k, iV y.v0, iV y.v1, iV y.v2, sV y.v3, bV y.v4, iV y.v5, sV y.name, iV y.a0, iV y.a1, iV y.a2, iV y.a3, bV y.a4, bV y.a5, iV y.b0, iV y.b1, iV y.b2, iV y.b3, bV y.b4, bV y.b5, iV y.rows, M]] h) (Tells h (bV (cSame ca p0 p1 p2 p3 p4 p5 x ks cb w0 w1 w2 w3 w4 w5 y ls))) := by
 refine runs_call Tryz.func28 rfl ?_
 refine sr ?_
 refine ops_box (cs := [iV ca, iV p0, iV p1, iV p2, sV p3, bV p4, iV p5, iV x.k, iV x.v0, iV x.v1, iV x.v2, sV x.v3, bV x.v4, iV x.v5, sV x.name, iV x.a0, iV x.a1, iV x.a2, iV x.a3, bV x.a4, bV x.a5, iV x.b0, iV x.b1, iV x.b2, iV x.b3, bV x.b4, bV x.b5, iV x.rows, L]) rfl rfl rfl rfl rfl (fun H1 g1 k1 n1 => ?_)
 have lo1_0 : h.next ≤ h.next := (Nat.le_refl _)
 refine ops_box (cs := [iV cb, iV w0, iV w1, iV w2, sV w3, bV w4, iV w5, iV y.k, iV y.v0, iV y.v1, iV y.v2, sV y.v3, bV y.v4, iV y.v5, sV y.name, iV y.a0, iV y.a1, iV y.a2, iV y.a3, bV y.a4, bV y.a5, iV y.b0, iV y.b1, iV y.b2, iV y.b3, bV y.b4, bV y.b5, iV y.rows, M]) rfl rfl rfl rfl rfl (fun H2 g2 k2 n2 => ?_)
 have lt1_2 : h.next < H1.next := g1.lt
 have lo2_0 : h.next ≤ H1.next := (Nat.le_trans (Nat.le_refl _) k1.next)
 have g1_H2 := g1.kept k2
 have KH2 : Kept h.next h H2 := k1.trans (k2.less (Nat.le_trans (Nat.le_refl _) k1.next))
 refine oq (bV false) ?_
 refine nt ?_
 refine sr ?_
 refine oq (.ptr h.next 0) ?_
 refine olc (iV ca) 0 g1_H2 ?_
 refine oq (.ptr H1.next 0) ?_
 refine olc (iV cb) 0 g2 ?_
 by_cases c1 : ca = cb
 refine oqp (bV true) (by exact congrArg one (c3_eqlT c1)) ?_
 refine oq (bV true) ?_
 refine oq (.ptr h.next 1) ?_
 refine ola [iV p0, iV p1, iV p2, sV p3, bV p4, iV p5] 1 g1_H2 ?_
 refine oq (.ptr H1.next 1) ?_
 refine ola [iV w0, iV w1, iV w2, sV w3, bV w4, iV w5] 1 g2 ?_
 refine ops_c (f := 56) (args := [.agg [iV p0, iV p1, iV p2, sV p3, bV p4, iV p5], .agg [iV w0, iV w1, iV w2, sV w3, bV w4, iV w5]]) rfl rfl rfl (clone_body Tryz.func56 rfl) rfl rfl ?_
 refine (vSame_runs Γ p0 p1 p2 p3 p4 p5 w0 w1 w2 w3 w4 w5 H2 ).mono ?_
 rintro ⟨ex3, fr3, H3, v3⟩ ⟨hv3, k3⟩
 have k3 : Kept H2.next H2 H3 := k3
 have g1_H3 := g1_H2.kept k3
 have g2_H3 := g2.kept k3
 have KH3 : Kept h.next h H3 := KH2.trans (k3.less (Nat.le_trans (Nat.le_refl _) KH2.next))
 by_cases c2 : vSame p0 p1 p2 p3 p4 p5 w0 w1 w2 w3 w4 w5 = true
 have hv3 : v3 = bV true := hv3.trans (congrArg (fun b => SV.lit (.bool b)) c2)
 subst hv3
 refine oq (bV true) ?_
 refine oq (bV true) ?_
 refine oq (.ptr h.next 7) ?_
 refine ola [iV x.k, iV x.v0, iV x.v1, iV x.v2, sV x.v3, bV x.v4, iV x.v5, sV x.name, iV x.a0, iV x.a1, iV x.a2, iV x.a3, bV x.a4, bV x.a5, iV x.b0, iV x.b1, iV x.b2, iV x.b3, bV x.b4, bV x.b5, iV x.rows, L] 7 g1_H3 ?_
 refine oq (.ptr H1.next 7) ?_
 refine ola [iV y.k, iV y.v0, iV y.v1, iV y.v2, sV y.v3, bV y.v4, iV y.v5, sV y.name, iV y.a0, iV y.a1, iV y.a2, iV y.a3, bV y.a4, bV y.a5, iV y.b0, iV y.b1, iV y.b2, iV y.b3, bV y.b4, bV y.b5, iV y.rows, M] 7 g2_H3 ?_
 refine ops_c (f := 53) (args := [.agg [iV x.k, iV x.v0, iV x.v1, iV x.v2, sV x.v3, bV x.v4, iV x.v5, sV x.name, iV x.a0, iV x.a1, iV x.a2, iV x.a3, bV x.a4, bV x.a5, iV x.b0, iV x.b1, iV x.b2, iV x.b3, bV x.b4, bV x.b5, iV x.rows, L], .agg [iV y.k, iV y.v0, iV y.v1, iV y.v2, sV y.v3, bV y.v4, iV y.v5, sV y.name, iV y.a0, iV y.a1, iV y.a2, iV y.a3, bV y.a4, bV y.a5, iV y.b0, iV y.b1, iV y.b2, iV y.b3, bV y.b4, bV y.b5, iV y.rows, M]]) rfl rfl rfl (clone_body Tryz.func53 rfl) rfl rfl ?_
 refine (Same_runs Γ x ks y ls L M H3 (hka.kept KH3) (hkb.kept KH3) (by first | omega | decide)).mono ?_
 rintro ⟨ex4, fr4, H4, v4⟩ ⟨hv4, k4⟩
 have k4 : Kept H3.next H3 H4 := k4
 have g1_H4 := g1_H3.kept k4
 have g2_H4 := g2_H3.kept k4
 have KH4 : Kept h.next h H4 := KH3.trans (k4.less (Nat.le_trans (Nat.le_refl _) KH3.next))
 have hv4 : v4 = bV (sameT (Tr.mk x ks) (Tr.mk y ls)) := hv4
 subst hv4
 refine oq (bV (sameT (Tr.mk x ks) (Tr.mk y ls))) ?_
 refine oq (bV (sameT (Tr.mk x ks) (Tr.mk y ls))) ?_
 refine nt ?_
 refine runs_ret ?_
 exact ⟨_, leave_t1 rfl rfl, fb ((sameT (Tr.mk x ks) (Tr.mk y ls))) (by simp only [cSame, if_pos c1, if_pos c2]), KH4⟩
 have hv3 : v3 = bV false := hv3.trans (congrArg (fun b => SV.lit (.bool b)) (Bool.eq_false_iff.2 c2))
 subst hv3
 refine oq (bV false) ?_
 refine oq (bV false) ?_
 iterate 5 refine ou ?_
 refine oq (bV false) ?_
 refine oq (bV false) ?_
 refine nt ?_
 refine runs_ret ?_
 exact ⟨_, leave_t1 rfl rfl, fb (false) (by simp only [cSame, if_pos c1, if_neg c2]), KH3⟩
 refine oqp (bV false) (by exact congrArg one (c3_eqlF c1)) ?_
 refine oq (bV false) ?_
 iterate 5 refine ou ?_
 refine oq (bV false) ?_
 refine oq (bV false) ?_
 iterate 5 refine ou ?_
 refine oq (bV false) ?_
 refine oq (bV false) ?_
 refine nt ?_
 refine runs_ret ?_
 exact ⟨_, leave_t1 rfl rfl, fb (false) (by simp only [cSame, if_neg c1]), KH2⟩
def cRight (ca : Int) (p0 : Int) (p1 : Int) (p2 : Int) (p3 : List UInt8) (p4 : Bool) (p5 : Int) (x : ND) (ks : List Tr) : Bool :=
 if ca = 0 then
  (cSame ca p0 p1 p2 p3 p4 p5 x ks 0 0 0 0 [] false 0 (⟨0, 0, 0, 0, [], false, 0, [], 0, 0, 0, 0, false, false, 0, 0, 0, 0, false, false, 0⟩ : ND) [])
 else
  if ca = 1 then
   if sameT (Tr.mk x ks) (Tr.mk (⟨0, 0, 0, 0, [], false, 0, [], 0, 0, 0, 0, false, false, 0, 0, 0, 0, false, false, 0⟩ : ND) []) = true then
    if p0 ≠ 0 then
     (vRight p0 p1 p2 p3 p4 p5)
    else
     false
   else
    false
  else
   if ca = 2 then
    if p0 = 0 ∧ p1 = 0 ∧ p2 = 0 ∧ p3 = [] ∧ p4 = false ∧ p5 = 0 then
     decide ((checkT (Tr.mk x ks)) = 0)
    else
     false
   else
    false
set_option maxHeartbeats 8000000 in
set_option maxRecDepth 20000 in
theorem cRight_runs (Γ : Glob) (ca : Int) (p0 : Int) (p1 : Int) (p2 : Int) (p3 : List UInt8) (p4 : Bool) (p5 : Int) (x : ND) (ks : List Tr) (L : SV) (h : Hp) (hka : KidsOf Γ h L ks) (hsz : 1 + sizeL ks ≤ 1900000) : Runs Tryz.prog Γ (.call 25 [.agg [iV ca, iV p0, iV p1, iV p2, sV p3, bV p4, iV p5, iV x.k, iV x.v0, iV x.v1, iV x.v2, sV x.v3, bV x.v4, iV x.v5, sV x.name, iV x.a0, iV x.a1, iV x.a2, iV x.a3, bV x.a4, bV x.a5, iV x.b0, iV x.b1, iV x.b2, iV x.b3, bV x.b4, bV x.b5, iV x.rows, L]] h) (Tells h (bV (cRight ca p0 p1 p2 p3 p4 p5 x ks))) := by
 refine runs_call Tryz.func25 rfl ?_
 refine sr ?_
 refine ops_box (cs := [iV ca, iV p0, iV p1, iV p2, sV p3, bV p4, iV p5, iV x.k, iV x.v0, iV x.v1, iV x.v2, sV x.v3, bV x.v4, iV x.v5, sV x.name, iV x.a0, iV x.a1, iV x.a2, iV x.a3, bV x.a4, bV x.a5, iV x.b0, iV x.b1, iV x.b2, iV x.b3, bV x.b4, bV x.b5, iV x.rows, L]) rfl rfl rfl rfl rfl (fun H1 g1 k1 n1 => ?_)
 have lo1_0 : h.next ≤ h.next := (Nat.le_refl _)
 refine oq (bV false) ?_
 refine nt ?_
 refine runs_seq ?_
 refine sr ?_
 refine oq (.ptr h.next 0) ?_
 refine olc (iV ca) 0 g1 ?_
 refine nt ?_
 refine runs_blk ?_
 refine sr ?_
 by_cases c1 : ca = 0
 refine oqp (bV true) (by exact congrArg one (c3_eqlT c1)) ?_
 refine oq (bV true) ?_
 refine nt ?_
 refine runs_cond true rfl ?_
 refine sr ?_
 refine ola [iV ca, iV p0, iV p1, iV p2, sV p3, bV p4, iV p5, iV x.k, iV x.v0, iV x.v1, iV x.v2, sV x.v3, bV x.v4, iV x.v5, sV x.name, iV x.a0, iV x.a1, iV x.a2, iV x.a3, bV x.a4, bV x.a5, iV x.b0, iV x.b1, iV x.b2, iV x.b3, bV x.b4, bV x.b5, iV x.rows, L] 0 g1 ?_
 refine oq (.agg [iV 0, iV 0, iV 0, iV 0, sV [], bV false, iV 0, iV 0, iV 0, iV 0, iV 0, sV [], bV false, iV 0, sV [], iV 0, iV 0, iV 0, iV 0, bV false, bV false, iV 0, iV 0, iV 0, iV 0, bV false, bV false, iV 0, .lit (.slice none 0 0)]) ?_
 refine ops_c (f := 28) (args := [.agg [iV ca, iV p0, iV p1, iV p2, sV p3, bV p4, iV p5, iV x.k, iV x.v0, iV x.v1, iV x.v2, sV x.v3, bV x.v4, iV x.v5, sV x.name, iV x.a0, iV x.a1, iV x.a2, iV x.a3, bV x.a4, bV x.a5, iV x.b0, iV x.b1, iV x.b2, iV x.b3, bV x.b4, bV x.b5, iV x.rows, L], .agg [iV 0, iV 0, iV 0, iV 0, sV [], bV false, iV 0, iV 0, iV 0, iV 0, iV 0, sV [], bV false, iV 0, sV [], iV 0, iV 0, iV 0, iV 0, bV false, bV false, iV 0, iV 0, iV 0, iV 0, bV false, bV false, iV 0, .lit (.slice none 0 0)]]) rfl rfl rfl (clone_body Tryz.func28 rfl) rfl rfl ?_
 refine (cSame_runs Γ ca p0 p1 p2 p3 p4 p5 x ks 0 0 0 0 [] false 0 (⟨0, 0, 0, 0, [], false, 0, [], 0, 0, 0, 0, false, false, 0, 0, 0, 0, false, false, 0⟩ : ND) [] L (.lit (.slice none 0 0)) H1 (hka.kept k1) (kids_nil (c := 0)) (by first | omega | decide)).mono ?_
 rintro ⟨ex2, fr2, H2, v2⟩ ⟨hv2, k2⟩
 have k2 : Kept H1.next H1 H2 := k2
 have g1_H2 := g1.kept k2
 have KH2 : Kept h.next h H2 := k1.trans (k2.less (Nat.le_trans (Nat.le_refl _) k1.next))
 have hv2 : v2 = bV (cSame ca p0 p1 p2 p3 p4 p5 x ks 0 0 0 0 [] false 0 (⟨0, 0, 0, 0, [], false, 0, [], 0, 0, 0, 0, false, false, 0, 0, 0, 0, false, false, 0⟩ : ND) []) := hv2
 subst hv2
 refine oq (bV (cSame ca p0 p1 p2 p3 p4 p5 x ks 0 0 0 0 [] false 0 (⟨0, 0, 0, 0, [], false, 0, [], 0, 0, 0, 0, false, false, 0, 0, 0, 0, false, false, 0⟩ : ND) [])) ?_
 refine nt ?_
 refine runs_ret ?_
 refine blk_r ?_
 refine then_r ?_
 exact ⟨_, leave_t1 rfl rfl, fb ((cSame ca p0 p1 p2 p3 p4 p5 x ks 0 0 0 0 [] false 0 (⟨0, 0, 0, 0, [], false, 0, [], 0, 0, 0, 0, false, false, 0, 0, 0, 0, false, false, 0⟩ : ND) [])) (by simp only [cRight, if_pos c1]), KH2⟩
 refine oqp (bV false) (by exact congrArg one (c3_eqlF c1)) ?_
 refine oq (bV false) ?_
 refine nt ?_
 refine runs_cond false rfl ?_
 refine sr ?_
 by_cases c2 : ca = 1
 refine oqp (bV true) (by exact congrArg one (c3_eqlT c2)) ?_
 refine oq (bV true) ?_
 refine nt ?_
 refine runs_cond true rfl ?_
 refine sr ?_
 refine oq (.ptr h.next 7) ?_
 refine ola [iV x.k, iV x.v0, iV x.v1, iV x.v2, sV x.v3, bV x.v4, iV x.v5, sV x.name, iV x.a0, iV x.a1, iV x.a2, iV x.a3, bV x.a4, bV x.a5, iV x.b0, iV x.b1, iV x.b2, iV x.b3, bV x.b4, bV x.b5, iV x.rows, L] 7 g1 ?_
 refine oq (.agg [iV 0, iV 0, iV 0, iV 0, sV [], bV false, iV 0, sV [], iV 0, iV 0, iV 0, iV 0, bV false, bV false, iV 0, iV 0, iV 0, iV 0, bV false, bV false, iV 0, .lit (.slice none 0 0)]) ?_
 refine ops_c (f := 53) (args := [.agg [iV x.k, iV x.v0, iV x.v1, iV x.v2, sV x.v3, bV x.v4, iV x.v5, sV x.name, iV x.a0, iV x.a1, iV x.a2, iV x.a3, bV x.a4, bV x.a5, iV x.b0, iV x.b1, iV x.b2, iV x.b3, bV x.b4, bV x.b5, iV x.rows, L], .agg [iV 0, iV 0, iV 0, iV 0, sV [], bV false, iV 0, sV [], iV 0, iV 0, iV 0, iV 0, bV false, bV false, iV 0, iV 0, iV 0, iV 0, bV false, bV false, iV 0, .lit (.slice none 0 0)]]) rfl rfl rfl (clone_body Tryz.func53 rfl) rfl rfl ?_
 refine (Same_runs Γ x ks (⟨0, 0, 0, 0, [], false, 0, [], 0, 0, 0, 0, false, false, 0, 0, 0, 0, false, false, 0⟩ : ND) [] L (.lit (.slice none 0 0)) H1 (hka.kept k1) (kids_nil (c := 0)) (by first | omega | decide)).mono ?_
 rintro ⟨ex3, fr3, H3, v3⟩ ⟨hv3, k3⟩
 have k3 : Kept H1.next H1 H3 := k3
 have g1_H3 := g1.kept k3
 have KH3 : Kept h.next h H3 := k1.trans (k3.less (Nat.le_trans (Nat.le_refl _) k1.next))
 by_cases c3 : sameT (Tr.mk x ks) (Tr.mk (⟨0, 0, 0, 0, [], false, 0, [], 0, 0, 0, 0, false, false, 0, 0, 0, 0, false, false, 0⟩ : ND) []) = true
 have hv3 : v3 = bV true := hv3.trans (congrArg (fun b => SV.lit (.bool b)) c3)
 subst hv3
 refine oq (bV true) ?_
 refine oq (.ptr h.next 1) ?_
 refine oq (.ptr h.next 1) ?_
 refine olc (iV p0) 1 g1_H3 ?_
 by_cases c4 : p0 ≠ 0
 refine oqp (bV true) (by exact congrArg one (c3_neqT c4)) ?_
 refine oq (bV true) ?_
 refine oq (bV true) ?_
 refine oq (.ptr h.next 1) ?_
 refine ola [iV p0, iV p1, iV p2, sV p3, bV p4, iV p5] 1 g1_H3 ?_
 refine ops_c (f := 54) (args := [.agg [iV p0, iV p1, iV p2, sV p3, bV p4, iV p5]]) rfl rfl rfl (clone_body Tryz.func54 rfl) rfl rfl ?_
 refine (vRight_runs Γ p0 p1 p2 p3 p4 p5 H3 ).mono ?_
 rintro ⟨ex4, fr4, H4, v4⟩ ⟨hv4, k4⟩
 have k4 : Kept H3.next H3 H4 := k4
 have g1_H4 := g1_H3.kept k4
 have KH4 : Kept h.next h H4 := KH3.trans (k4.less (Nat.le_trans (Nat.le_refl _) KH3.next))
 have hv4 : v4 = bV (vRight p0 p1 p2 p3 p4 p5) := hv4
 subst hv4
 refine oq (bV (vRight p0 p1 p2 p3 p4 p5)) ?_
 refine oq (bV (vRight p0 p1 p2 p3 p4 p5)) ?_
 refine nt ?_
 refine runs_ret ?_
 refine blk_r ?_
 refine then_r ?_
 exact ⟨_, leave_t1 rfl rfl, fb ((vRight p0 p1 p2 p3 p4 p5)) (by simp only [cRight, if_neg c1, if_pos c2, if_pos c3, if_pos c4]), KH4⟩
 refine oqp (bV false) (by exact congrArg one (c3_neqF c4)) ?_
 refine oq (bV false) ?_
 refine oq (bV false) ?_
 iterate 3 refine ou ?_
 refine oq (bV false) ?_
 refine oq (bV false) ?_
 refine nt ?_
 refine runs_ret ?_
 refine blk_r ?_
 refine then_r ?_
 exact ⟨_, leave_t1 rfl rfl, fb (false) (by simp only [cRight, if_neg c1, if_pos c2, if_pos c3, if_neg c4]), KH3⟩
 have hv3 : v3 = bV false := hv3.trans (congrArg (fun b => SV.lit (.bool b)) (Bool.eq_false_iff.2 c3))
 subst hv3
 refine oq (bV false) ?_
 iterate 4 refine ou ?_
 refine oq (bV false) ?_
 refine oq (bV false) ?_
 iterate 3 refine ou ?_
 refine oq (bV false) ?_
 refine oq (bV false) ?_
 refine nt ?_
 refine runs_ret ?_
 refine blk_r ?_
 refine then_r ?_
 exact ⟨_, leave_t1 rfl rfl, fb (false) (by simp only [cRight, if_neg c1, if_pos c2, if_neg c3]), KH3⟩
 refine oqp (bV false) (by exact congrArg one (c3_eqlF c2)) ?_
 refine oq (bV false) ?_
 refine nt ?_
 refine runs_cond false rfl ?_
 refine sr ?_
 by_cases c5 : ca = 2
 refine oqp (bV true) (by exact congrArg one (c3_eqlT c5)) ?_
 refine oq (bV true) ?_
 refine nt ?_
 refine runs_cond true rfl ?_
 refine sr ?_
 refine oq (.ptr h.next 1) ?_
 refine ola [iV p0, iV p1, iV p2, sV p3, bV p4, iV p5] 1 g1 ?_
 refine oq (.agg [iV 0, iV 0, iV 0, sV [], bV false, iV 0]) ?_
 by_cases c6 : p0 = 0 ∧ p1 = 0 ∧ p2 = 0 ∧ p3 = [] ∧ p4 = false ∧ p5 = 0
 refine oqp (bV true) (by exact congrArg one (s29_eqlT c6)) ?_
 refine oq (bV true) ?_
 refine oq (.ptr h.next 7) ?_
 refine ola [iV x.k, iV x.v0, iV x.v1, iV x.v2, sV x.v3, bV x.v4, iV x.v5, sV x.name, iV x.a0, iV x.a1, iV x.a2, iV x.a3, bV x.a4, bV x.a5, iV x.b0, iV x.b1, iV x.b2, iV x.b3, bV x.b4, bV x.b5, iV x.rows, L] 7 g1 ?_
 refine ops_c (f := 55) (args := [.agg [iV x.k, iV x.v0, iV x.v1, iV x.v2, sV x.v3, bV x.v4, iV x.v5, sV x.name, iV x.a0, iV x.a1, iV x.a2, iV x.a3, bV x.a4, bV x.a5, iV x.b0, iV x.b1, iV x.b2, iV x.b3, bV x.b4, bV x.b5, iV x.rows, L]]) rfl rfl rfl (clone_body Tryz.func55 rfl) rfl rfl ?_
 refine (Check_runs Γ x ks L H1 (hka.kept k1) (by first | omega | decide)).mono ?_
 rintro ⟨ex5, fr5, H5, v5⟩ ⟨hv5, k5⟩
 have k5 : Kept H1.next H1 H5 := k5
 have g1_H5 := g1.kept k5
 have KH5 : Kept h.next h H5 := k1.trans (k5.less (Nat.le_trans (Nat.le_refl _) k1.next))
 have hv5 : v5 = iV (checkT (Tr.mk x ks)) := hv5
 subst hv5
 refine oqp (bV (decide ((checkT (Tr.mk x ks)) = 0))) (by exact congrArg one c52_eql) ?_
 refine oq (bV (decide ((checkT (Tr.mk x ks)) = 0))) ?_
 refine oq (bV (decide ((checkT (Tr.mk x ks)) = 0))) ?_
 refine nt ?_
 refine runs_ret ?_
 refine blk_r ?_
 refine then_r ?_
 exact ⟨_, leave_t1 rfl rfl, fb (decide ((checkT (Tr.mk x ks)) = 0)) (by simp only [cRight, if_neg c1, if_neg c2, if_pos c5, if_pos c6]), KH5⟩
 refine oqp (bV false) (by exact congrArg one (s29_eqlF c6)) ?_
 refine oq (bV false) ?_
 iterate 4 refine ou ?_
 refine oq (bV false) ?_
 refine oq (bV false) ?_
 refine nt ?_
 refine runs_ret ?_
 refine blk_r ?_
 refine then_r ?_
 exact ⟨_, leave_t1 rfl rfl, fb (false) (by simp only [cRight, if_neg c1, if_neg c2, if_pos c5, if_neg c6]), k1⟩
 refine oqp (bV false) (by exact congrArg one (c3_eqlF c5)) ?_
 refine oq (bV false) ?_
 refine nt ?_
 refine runs_cond false rfl ?_
 refine runs_skip ?_
 refine blk_n ?_
 refine then_n ?_
 refine sr ?_
 refine oq (bV false) ?_
 refine nt ?_
 refine runs_ret ?_
 exact ⟨_, leave_t1 rfl rfl, fb (false) (by simp only [cRight, if_neg c1, if_neg c2, if_neg c5]), k1⟩
def nmRight (s : List UInt8) : Bool :=
 decide ((checkT (Tr.mk (⟨7, 0, 0, 0, [], false, 0, s, 0, 0, 0, 0, false, false, 0, 0, 0, 0, false, false, 0⟩ : ND) [])) = 0)
set_option maxHeartbeats 8000000 in
set_option maxRecDepth 20000 in
theorem nmRight_runs (Γ : Glob) (s : List UInt8) (h : Hp)  : Runs Tryz.prog Γ (.call 26 [sV s] h) (Tells h (bV (nmRight s))) := by
 refine runs_call Tryz.func26 rfl ?_
 refine sr ?_
 refine oq (bV false) ?_
 refine nt ?_
 refine sr ?_
 refine oq (sV s) ?_
 refine oq (.agg [iV 7, iV 0, iV 0, iV 0, sV [], bV false, iV 0, sV s, iV 0, iV 0, iV 0, iV 0, bV false, bV false, iV 0, iV 0, iV 0, iV 0, bV false, bV false, iV 0, .lit (.slice none 0 0)]) ?_
 refine ops_c (f := 55) (args := [.agg [iV 7, iV 0, iV 0, iV 0, sV [], bV false, iV 0, sV s, iV 0, iV 0, iV 0, iV 0, bV false, bV false, iV 0, iV 0, iV 0, iV 0, bV false, bV false, iV 0, .lit (.slice none 0 0)]]) rfl rfl rfl (clone_body Tryz.func55 rfl) rfl rfl ?_
 refine (Check_runs Γ (⟨7, 0, 0, 0, [], false, 0, s, 0, 0, 0, 0, false, false, 0, 0, 0, 0, false, false, 0⟩ : ND) [] (.lit (.slice none 0 0)) h (kids_nil (c := 0)) (by first | omega | decide)).mono ?_
 rintro ⟨ex1, fr1, H1, v1⟩ ⟨hv1, k1⟩
 have k1 : Kept h.next h H1 := k1
 have hv1 : v1 = iV (checkT (Tr.mk (⟨7, 0, 0, 0, [], false, 0, s, 0, 0, 0, 0, false, false, 0, 0, 0, 0, false, false, 0⟩ : ND) [])) := hv1
 subst hv1
 refine oqp (bV (decide ((checkT (Tr.mk (⟨7, 0, 0, 0, [], false, 0, s, 0, 0, 0, 0, false, false, 0, 0, 0, 0, false, false, 0⟩ : ND) [])) = 0))) (by exact congrArg one c52_eql) ?_
 refine oq (bV (decide ((checkT (Tr.mk (⟨7, 0, 0, 0, [], false, 0, s, 0, 0, 0, 0, false, false, 0, 0, 0, 0, false, false, 0⟩ : ND) [])) = 0))) ?_
 refine nt ?_
 refine runs_ret ?_
 exact ⟨_, leave_t1 rfl rfl, fb (decide ((checkT (Tr.mk (⟨7, 0, 0, 0, [], false, 0, s, 0, 0, 0, 0, false, false, 0, 0, 0, 0, false, false, 0⟩ : ND) [])) = 0)) (by simp only [nmRight]), k1⟩
def onAxis (a : Int) (b : Int) : Bool :=
 if a ≥ 0 then
  if a ≤ 1000 then
   decide (b ≥ 1)
  else
   false
 else
  false
set_option maxHeartbeats 8000000 in
set_option maxRecDepth 20000 in
theorem onAxis_runs (Γ : Glob) (a : Int) (b : Int) (h : Hp)  : Runs Tryz.prog Γ (.call 24 [.agg [iV a, iV b]] h) (Tells h (bV (onAxis a b))) := by
 refine runs_call Tryz.func24 rfl ?_
 refine sr ?_
 refine ops_box (cs := [iV a, iV b]) rfl rfl rfl rfl rfl (fun H1 g1 k1 n1 => ?_)
 have lo1_0 : h.next ≤ h.next := (Nat.le_refl _)
 refine oq (bV false) ?_
 refine nt ?_
 refine sr ?_
 refine oq (.ptr h.next 0) ?_
 refine olc (iV a) 0 g1 ?_
 by_cases c1 : a ≥ 0
 refine oqp (bV true) (by exact congrArg one (c3_geqT c1)) ?_
 refine oq (bV true) ?_
 refine oq (.ptr h.next 0) ?_
 refine olc (iV a) 0 g1 ?_
 by_cases c2 : a ≤ 1000
 refine oqp (bV true) (by exact congrArg one (c3_leqT c2)) ?_
 refine oq (bV true) ?_
 refine oq (bV true) ?_
 refine oq (.ptr h.next 1) ?_
 refine olc (iV b) 1 g1 ?_
 refine oqp (bV (decide (b ≥ 1))) (by exact congrArg one c3_geq) ?_
 refine oq (bV (decide (b ≥ 1))) ?_
 refine oq (bV (decide (b ≥ 1))) ?_
 refine nt ?_
 refine runs_ret ?_
 exact ⟨_, leave_t1 rfl rfl, fb (decide (b ≥ 1)) (by simp only [onAxis, if_pos c1, if_pos c2]), k1⟩
 refine oqp (bV false) (by exact congrArg one (c3_leqF c2)) ?_
 refine oq (bV false) ?_
 refine oq (bV false) ?_
 iterate 3 refine ou ?_
 refine oq (bV false) ?_
 refine oq (bV false) ?_
 refine nt ?_
 refine runs_ret ?_
 exact ⟨_, leave_t1 rfl rfl, fb (false) (by simp only [onAxis, if_pos c1, if_neg c2]), k1⟩
 refine oqp (bV false) (by exact congrArg one (c3_geqF c1)) ?_
 refine oq (bV false) ?_
 iterate 3 refine ou ?_
 refine oq (bV false) ?_
 refine oq (bV false) ?_
 iterate 3 refine ou ?_
 refine oq (bV false) ?_
 refine oq (bV false) ?_
 refine nt ?_
 refine runs_ret ?_
 exact ⟨_, leave_t1 rfl rfl, fb (false) (by simp only [onAxis, if_neg c1]), k1⟩
def may (a : Int) (b : Int) : Bool :=
 if a ≥ 1 then
  (onAxis a b)
 else
  false
set_option maxHeartbeats 8000000 in
set_option maxRecDepth 20000 in
theorem may_runs (Γ : Glob) (a : Int) (b : Int) (h : Hp)  : Runs Tryz.prog Γ (.call 27 [.agg [iV a, iV b]] h) (Tells h (bV (may a b))) := by
 refine runs_call Tryz.func27 rfl ?_
 refine sr ?_
 refine ops_box (cs := [iV a, iV b]) rfl rfl rfl rfl rfl (fun H1 g1 k1 n1 => ?_)
 have lo1_0 : h.next ≤ h.next := (Nat.le_refl _)
 refine oq (bV false) ?_
 refine nt ?_
 refine sr ?_
 refine oq (.ptr h.next 0) ?_
 refine olc (iV a) 0 g1 ?_
 by_cases c1 : a ≥ 1
 refine oqp (bV true) (by exact congrArg one (c3_geqT c1)) ?_
 refine oq (bV true) ?_
 refine ola [iV a, iV b] 0 g1 ?_
 refine ops_c (f := 24) (args := [.agg [iV a, iV b]]) rfl rfl rfl (clone_body Tryz.func24 rfl) rfl rfl ?_
 refine (onAxis_runs Γ a b H1 ).mono ?_
 rintro ⟨ex2, fr2, H2, v2⟩ ⟨hv2, k2⟩
 have k2 : Kept H1.next H1 H2 := k2
 have g1_H2 := g1.kept k2
 have KH2 : Kept h.next h H2 := k1.trans (k2.less (Nat.le_trans (Nat.le_refl _) k1.next))
 have hv2 : v2 = bV (onAxis a b) := hv2
 subst hv2
 refine oq (bV (onAxis a b)) ?_
 refine oq (bV (onAxis a b)) ?_
 refine nt ?_
 refine runs_ret ?_
 exact ⟨_, leave_t1 rfl rfl, fb ((onAxis a b)) (by simp only [may, if_pos c1]), KH2⟩
 refine oqp (bV false) (by exact congrArg one (c3_geqF c1)) ?_
 refine oq (bV false) ?_
 refine ou ?_
 refine ou ?_
 refine oq (bV false) ?_
 refine oq (bV false) ?_
 refine nt ?_
 refine runs_ret ?_
 exact ⟨_, leave_t1 rfl rfl, fb (false) (by simp only [may, if_neg c1]), k1⟩
end Go.Proofs.YtcnfmcbmephdfaaGreatDoor.d
