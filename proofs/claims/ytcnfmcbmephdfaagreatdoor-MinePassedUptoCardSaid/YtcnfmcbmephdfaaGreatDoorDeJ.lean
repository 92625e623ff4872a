/-
  A NODE THAT IS RIGHT, over what its kids come to. | TREES THAT ARE RIGHT: 'tree.right' on every tree; by the author of this claim, in the calculus of runs.
-/
import Derived.Test.YtcnfmcbmephdfaaGreatDoorDeI
namespace Go.Proofs.YtcnfmcbmephdfaaGreatDoor.d
open Go Go.Proofs.YtcnfmcbmephdfaaGreatDoor.Ev Go.Proofs.YtcnfmcbmephdfaaGreatDoor.snap
noncomputable def right_l1_o27 : Array Oper := opsOf (seqR (seqR (inBlk (seqL (seqR (seqR (inLoop (inBlk (seqR (seqL (seqR (seqR (seqR (bodyOf Tryz.f116))))))))))))))
def right_l1 (x : ND) (n : Int) (K : Int → Int) (R : Int → Bool) : Nat → Bool → Int → Bool ⊕ (Bool × Int)
 | 0, x5, x251 => Sum.inr (x5, x251)
 | f + 1, x5, x251 => if x251 < n then
  if x5 = true then
   if x.k ≠ 8 then
    if R x251 = true then
     right_l1 x n K R f true (x251 + 1)
    else
     right_l1 x n K R f false (x251 + 1)
   else
    if (K x251) = 0 then
     if R x251 = true then
      right_l1 x n K R f true (x251 + 1)
     else
      right_l1 x n K R f false (x251 + 1)
    else
     right_l1 x n K R f false (x251 + 1)
  else
   Sum.inl false
 else
  Sum.inr (x5, x251)
noncomputable def right_l1_c : Code := (inBlk (seqR (seqL (seqR (seqR (seqR (bodyOf Tryz.f116)))))))
set_option maxHeartbeats 8000000 in
set_option maxRecDepth 20000 in
theorem right_l1_runs (Γ : Glob) (p : SV) (x : ND) (L : SV) (n : Int) (K : Int → Int) (R : Int → Bool) (_hL : LenIs L n) (hn : 0 ≤ n ∧ n ≤ 1099511627776) (h0 : Hp) (lo : Nat) (_h00 : h0.next ≤ lo) (hp : PtrTo Γ h0 p (x.cells L)) (hk : KidsRun Γ h0 L n 116 x.k K R) : ∀ (fuel : Nat) (x5 : Bool) (x251 : Int) (tm : T SV) (h : Hp) (r : Bool ⊕ (Bool × Int)), right_l1 x n K R fuel x5 x251 = r → (n.toNat - x251.toNat) < fuel → (0 ≤ x251 ∧ x251 ≤ n) → lo ≤ h.next → Kept h0.next h0 h → Fr.ev ⟨tm, 287, []⟩ (.tmp 0) = p → Fr.ev ⟨tm, 287, []⟩ (.tmp 5) = bV x5 → Fr.ev ⟨tm, 287, []⟩ (.tmp 250) = iV n → Fr.ev ⟨tm, 287, []⟩ (.tmp 251) = iV x251 →
  Runs Tryz.prog Γ (.code right_l1_c none ⟨tm, 287, []⟩ h) fun o => (∃ x, r = .inl x ∧ ∃ tm2 H v, o = ⟨.ret, ⟨tm2, 287, []⟩, H, v⟩ ∧ (Fr.ev ⟨tm2, 287, []⟩ (.tmp 4) = bV x) ∧ Kept lo h H) ∨ (∃ x, r = .inr x ∧ ∃ tm2 H v, o = ⟨.exit 1, ⟨tm2, 287, []⟩, H, v⟩ ∧ (Fr.ev ⟨tm2, 287, []⟩ (.tmp 0) = p ∧ Fr.ev ⟨tm2, 287, []⟩ (.tmp 5) = bV x.1 ∧ Fr.ev ⟨tm2, 287, []⟩ (.tmp 250) = iV n ∧ Fr.ev ⟨tm2, 287, []⟩ (.tmp 251) = iV x.2) ∧ (True) ∧ (True) ∧ (0 ≤ x.2 ∧ x.2 ≤ n) ∧ Kept lo h H) := by
 intro fuel
 induction fuel with
 | zero =>
  intros
  omega
 | succ f ih =>
  intro x5 x251  tm h r hr hm hi hlo K0 e0 e5 e250 e251 
  refine runs_loop ?_
  refine sr ?_
  by_cases c1 : x251 < n
  refine oqp (bV true) (by simp only [quiet, e250, e251]; exact congrArg one (c3_lssT c1)) ?_
  refine nt ?_
  refine runs_seq ?_
  refine runs_cond true rfl ?_
  refine runs_skip ?_
  refine then_n ?_
  refine runs_seq ?_
  refine runs_blk ?_
  refine sr ?_
  refine oqp (iV x251) (by simp only [quiet, ev_set, e251] <;> rfl) ?_
  refine oq (iV x251) ?_
  refine nt ?_
  refine runs_seq ?_
  refine sr ?_
  by_cases c2 : x5 = true
  refine oqp (bV true) (by simp only [quiet, ev_set, e5]; exact congrArg (fun b => some (SV.lit (.bool b), ([] : List Fact))) c2) ?_
  refine oq (bV false) ?_
  refine nt ?_
  refine runs_cond false rfl ?_
  refine runs_skip ?_
  refine then_n ?_
  refine runs_drawn (ops := right_l1_o27) (by decide +kernel) ?_
  by_cases c3 : x.k ≠ 8
  obtain ⟨q9, z9, Z9, hq9, hz9, hK9, hR9⟩ := hk x251 (by omega) (by omega)
  have t_right_l1_o27_26_27 : Nat.testBit (descOf 26 right_l1_o27.toList 0 0) 27 = true := rfl
  have t_right_l1_o27_20_27 : Nat.testBit (descOf 20 right_l1_o27.toList 0 0) 27 = true := rfl
  have t_right_l1_o27_3_27 : Nat.testBit (descOf 3 right_l1_o27.toList 0 0) 27 = true := rfl
  refine drawn_cG (i := 27) (f := 116) (args := [q9, iV x.k]) (m' := 134217727) (held' := hcons (descOf 26 right_l1_o27.toList 0 0) (pfacts p 0 [iV x.k]) (hcons (descOf 20 right_l1_o27.toList 0 0) (pfacts p 21 [L]) (hcons (descOf 3 right_l1_o27.toList 0 0) (pfacts p 0 [iV x.k]) ([])))) (hp := h) (noChg_hcons (noChg_hcons (noChg_hcons trivial))) (by
   refine tqp p (by simp only [quiet, ev_set, e0] <;> rfl) ?_
   refine tqp p (by exact px_nil (hp.kept K0)) ?_
   refine tqp (padd p 0) (by exact congrArg one (px_field (off := 0) (hp.kept K0) (fun _ _ => rfl) (fun _ _ => rfl))) ?_
   refine tpc (iV x.k) 0 trivial (hp.kept K0) ?_
   refine tqp (bV true) (by exact congrArg one (c3_neqT c3)) ?_
   refine tq (bV true) ?_
   iterate 9 refine tu ?_
   refine tq (bV true) ?_
   refine tq (bV true) ?_
   refine tqp p (by simp only [quiet, ev_set, e0] <;> rfl) ?_
   refine tqp p (by exact px_nil (hp.kept K0)) ?_
   refine tqp (padd p 21) (by exact congrArg one (px_field (off := 21) (hp.kept K0) (fun _ _ => rfl) (fun _ _ => rfl))) ?_
   refine tpc L 21 (noChg_hcons trivial) (hp.kept K0) ?_
   refine tq (iV x251) ?_
   refine tqp q9 (by exact congrArg one hq9) ?_
   refine tqp p (by simp only [quiet, ev_set, e0] <;> rfl) ?_
   refine tqp p (by exact px_nil (hp.kept K0)) ?_
   refine tqp (padd p 0) (by exact congrArg one (px_field (off := 0) (hp.kept K0) (fun _ _ => rfl) (fun _ _ => rfl))) ?_
   refine tpc (iV x.k) 0 (noChg_hcons (noChg_hcons trivial)) (hp.kept K0) ?_
   refine take_loud rfl rfl rfl rfl rfl ?_
   refine tw ?_
   refine tw ?_
   rfl) (by rfl) (by rfl) (by rfl) (clone_body Tryz.func116 rfl) rfl rfl ?_
  refine (hR9 h K0).mono ?_
  rintro ⟨ex1, fr1, H1, v1⟩ ⟨hv1, k1⟩
  have k1 : Kept h.next h H1 := k1
  have KH1 : Kept h0.next h0 H1 := K0.trans (k1.less (Nat.le_trans (Nat.le_refl _) K0.next))
  have K1H1 : Kept lo h H1 := k1.less hlo
  by_cases c4 : R x251 = true
  have hv1 : v1 = bV true := hv1.trans (congrArg (fun b => SV.lit (.bool b)) c4)
  subst hv1
  refine ⟨(stands_hyes t_right_l1_o27_26_27 (stands_hyes t_right_l1_o27_20_27 (stands_hyes t_right_l1_o27_3_27 stands_nil))), _, (drop_hyes t_right_l1_o27_26_27 (drop_hyes t_right_l1_o27_20_27 (drop_hyes t_right_l1_o27_3_27 rfl))), ?_⟩
  refine drawn_end (m' := 1073741823) (held' := []) (hp' := H1) (by
   iterate 28 refine td ?_
   refine tq (bV true) ?_
   refine tq (bV true) ?_
   rfl) (by rfl) (by rfl) ?_
  refine blk_n ?_
  refine then_n ?_
  refine runs_region ?_
  refine oqp (iV (x251 + 1)) (by simp only [quiet, ev_set, e251]; exact congrArg one (a3_add (by omega) (by omega) (by omega))) ?_
  refine oq (iV (x251 + 1)) ?_
  refine nt ?_
  refine (ih true (x251 + 1)  _ _ r (by rw [← hr, right_l1]; simp only [if_pos c1, if_pos c2, if_pos c3, if_pos c4]) (by omega) (by omega) (Nat.le_trans hlo K1H1.next) KH1 (by simp only [ev_set, e0] <;> rfl) rfl (by simp only [ev_set, e250] <;> rfl) rfl   ).mono ?_
  exact fun o ho => ho.imp (fun ⟨x, hx, tm2, H, v, a1, a2, a3⟩ => ⟨x, hx, tm2, H, v, a1, a2, Kept.trans K1H1 a3⟩) (fun ⟨x, hx, tm2, H, v, a1, a2, a3, a5, a0, a4⟩ => ⟨x, hx, tm2, H, v, a1, a2, a3, a5, a0, Kept.trans K1H1 a4⟩)
  have hv1 : v1 = bV false := hv1.trans (congrArg (fun b => SV.lit (.bool b)) (Bool.eq_false_iff.2 c4))
  subst hv1
  refine ⟨(stands_hyes t_right_l1_o27_26_27 (stands_hyes t_right_l1_o27_20_27 (stands_hyes t_right_l1_o27_3_27 stands_nil))), _, (drop_hyes t_right_l1_o27_26_27 (drop_hyes t_right_l1_o27_20_27 (drop_hyes t_right_l1_o27_3_27 rfl))), ?_⟩
  refine drawn_end (m' := 1073741823) (held' := []) (hp' := H1) (by
   iterate 28 refine td ?_
   refine tq (bV false) ?_
   refine tq (bV false) ?_
   rfl) (by rfl) (by rfl) ?_
  refine blk_n ?_
  refine then_n ?_
  refine runs_region ?_
  refine oqp (iV (x251 + 1)) (by simp only [quiet, ev_set, e251]; exact congrArg one (a3_add (by omega) (by omega) (by omega))) ?_
  refine oq (iV (x251 + 1)) ?_
  refine nt ?_
  refine (ih false (x251 + 1)  _ _ r (by rw [← hr, right_l1]; simp only [if_pos c1, if_pos c2, if_pos c3, if_neg c4]) (by omega) (by omega) (Nat.le_trans hlo K1H1.next) KH1 (by simp only [ev_set, e0] <;> rfl) rfl (by simp only [ev_set, e250] <;> rfl) rfl   ).mono ?_
  exact fun o ho => ho.imp (fun ⟨x, hx, tm2, H, v, a1, a2, a3⟩ => ⟨x, hx, tm2, H, v, a1, a2, Kept.trans K1H1 a3⟩) (fun ⟨x, hx, tm2, H, v, a1, a2, a3, a5, a0, a4⟩ => ⟨x, hx, tm2, H, v, a1, a2, a3, a5, a0, Kept.trans K1H1 a4⟩)
  by_cases c5 : (K x251) = 0
  obtain ⟨q9, z9, Z9, hq9, hz9, hK9, hR9⟩ := hk x251 (by omega) (by omega)
  have t_right_l1_o27_26_27 : Nat.testBit (descOf 26 right_l1_o27.toList 0 0) 27 = true := rfl
  have t_right_l1_o27_20_27 : Nat.testBit (descOf 20 right_l1_o27.toList 0 0) 27 = true := rfl
  have t_right_l1_o27_13_27 : Nat.testBit (descOf 13 right_l1_o27.toList 0 0) 27 = true := rfl
  have t_right_l1_o27_9_27 : Nat.testBit (descOf 9 right_l1_o27.toList 0 0) 27 = true := rfl
  have t_right_l1_o27_3_27 : Nat.testBit (descOf 3 right_l1_o27.toList 0 0) 27 = true := rfl
  refine drawn_cG (i := 27) (f := 116) (args := [q9, iV x.k]) (m' := 134217727) (held' := hcons (descOf 26 right_l1_o27.toList 0 0) (pfacts p 0 [iV x.k]) (hcons (descOf 20 right_l1_o27.toList 0 0) (pfacts p 21 [L]) (hcons (descOf 13 right_l1_o27.toList 0 0) (pfacts q9 0 [iV (K x251)]) (hcons (descOf 9 right_l1_o27.toList 0 0) (pfacts p 21 [L]) (hcons (descOf 3 right_l1_o27.toList 0 0) (pfacts p 0 [iV x.k]) ([])))))) (hp := h) (noChg_hcons (noChg_hcons (noChg_hcons (noChg_hcons (noChg_hcons trivial))))) (by
   refine tqp p (by simp only [quiet, ev_set, e0] <;> rfl) ?_
   refine tqp p (by exact px_nil (hp.kept K0)) ?_
   refine tqp (padd p 0) (by exact congrArg one (px_field (off := 0) (hp.kept K0) (fun _ _ => rfl) (fun _ _ => rfl))) ?_
   refine tpc (iV x.k) 0 trivial (hp.kept K0) ?_
   refine tqp (bV false) (by exact congrArg one (c3_neqF c3)) ?_
   refine tq (bV false) ?_
   refine tqp p (by simp only [quiet, ev_set, e0] <;> rfl) ?_
   refine tqp p (by exact px_nil (hp.kept K0)) ?_
   refine tqp (padd p 21) (by exact congrArg one (px_field (off := 21) (hp.kept K0) (fun _ _ => rfl) (fun _ _ => rfl))) ?_
   refine tpc L 21 (noChg_hcons trivial) (hp.kept K0) ?_
   refine tq (iV x251) ?_
   refine tqp q9 (by exact congrArg one hq9) ?_
   refine tqp (padd q9 0) (by exact congrArg one (px_field (off := 0) (hz9.kept K0) (fun _ _ => rfl) (fun _ _ => rfl))) ?_
   refine take_any (v := iV (K x251)) (fs := (pfacts q9 0 [iV (K x251)])) rfl rfl rfl (noChg_hcons (noChg_hcons trivial)) (by exact px_cell (P := Tryz.prog) (t := 3) (k := 0) (v := iV (K x251)) rfl (hz9.kept K0) (by rw [← hK9]; rfl)) rfl rfl ?_
   refine tqp (bV true) (by exact congrArg one (c3_eqlT c5)) ?_
   refine tq (bV true) ?_
   refine tq (bV true) ?_
   refine tqp p (by simp only [quiet, ev_set, e0] <;> rfl) ?_
   refine tqp p (by exact px_nil (hp.kept K0)) ?_
   refine tqp (padd p 21) (by exact congrArg one (px_field (off := 21) (hp.kept K0) (fun _ _ => rfl) (fun _ _ => rfl))) ?_
   refine tpc L 21 (noChg_hcons (noChg_hcons (noChg_hcons trivial))) (hp.kept K0) ?_
   refine tq (iV x251) ?_
   refine tqp q9 (by exact congrArg one hq9) ?_
   refine tqp p (by simp only [quiet, ev_set, e0] <;> rfl) ?_
   refine tqp p (by exact px_nil (hp.kept K0)) ?_
   refine tqp (padd p 0) (by exact congrArg one (px_field (off := 0) (hp.kept K0) (fun _ _ => rfl) (fun _ _ => rfl))) ?_
   refine tpc (iV x.k) 0 (noChg_hcons (noChg_hcons (noChg_hcons (noChg_hcons trivial)))) (hp.kept K0) ?_
   refine take_loud rfl rfl rfl rfl rfl ?_
   refine tw ?_
   refine tw ?_
   rfl) (by rfl) (by rfl) (by rfl) (clone_body Tryz.func116 rfl) rfl rfl ?_
  refine (hR9 h K0).mono ?_
  rintro ⟨ex2, fr2, H2, v2⟩ ⟨hv2, k2⟩
  have k2 : Kept h.next h H2 := k2
  have KH2 : Kept h0.next h0 H2 := K0.trans (k2.less (Nat.le_trans (Nat.le_refl _) K0.next))
  have K1H2 : Kept lo h H2 := k2.less hlo
  by_cases c6 : R x251 = true
  have hv2 : v2 = bV true := hv2.trans (congrArg (fun b => SV.lit (.bool b)) c6)
  subst hv2
  refine ⟨(stands_hyes t_right_l1_o27_26_27 (stands_hyes t_right_l1_o27_20_27 (stands_hyes t_right_l1_o27_13_27 (stands_hyes t_right_l1_o27_9_27 (stands_hyes t_right_l1_o27_3_27 stands_nil))))), _, (drop_hyes t_right_l1_o27_26_27 (drop_hyes t_right_l1_o27_20_27 (drop_hyes t_right_l1_o27_13_27 (drop_hyes t_right_l1_o27_9_27 (drop_hyes t_right_l1_o27_3_27 rfl))))), ?_⟩
  refine drawn_end (m' := 1073741823) (held' := []) (hp' := H2) (by
   iterate 28 refine td ?_
   refine tq (bV true) ?_
   refine tq (bV true) ?_
   rfl) (by rfl) (by rfl) ?_
  refine blk_n ?_
  refine then_n ?_
  refine runs_region ?_
  refine oqp (iV (x251 + 1)) (by simp only [quiet, ev_set, e251]; exact congrArg one (a3_add (by omega) (by omega) (by omega))) ?_
  refine oq (iV (x251 + 1)) ?_
  refine nt ?_
  refine (ih true (x251 + 1)  _ _ r (by rw [← hr, right_l1]; simp only [if_pos c1, if_pos c2, if_neg c3, if_pos c5, if_pos c6]) (by omega) (by omega) (Nat.le_trans hlo K1H2.next) KH2 (by simp only [ev_set, e0] <;> rfl) rfl (by simp only [ev_set, e250] <;> rfl) rfl   ).mono ?_
  exact fun o ho => ho.imp (fun ⟨x, hx, tm2, H, v, a1, a2, a3⟩ => ⟨x, hx, tm2, H, v, a1, a2, Kept.trans K1H2 a3⟩) (fun ⟨x, hx, tm2, H, v, a1, a2, a3, a5, a0, a4⟩ => ⟨x, hx, tm2, H, v, a1, a2, a3, a5, a0, Kept.trans K1H2 a4⟩)
  have hv2 : v2 = bV false := hv2.trans (congrArg (fun b => SV.lit (.bool b)) (Bool.eq_false_iff.2 c6))
  subst hv2
  refine ⟨(stands_hyes t_right_l1_o27_26_27 (stands_hyes t_right_l1_o27_20_27 (stands_hyes t_right_l1_o27_13_27 (stands_hyes t_right_l1_o27_9_27 (stands_hyes t_right_l1_o27_3_27 stands_nil))))), _, (drop_hyes t_right_l1_o27_26_27 (drop_hyes t_right_l1_o27_20_27 (drop_hyes t_right_l1_o27_13_27 (drop_hyes t_right_l1_o27_9_27 (drop_hyes t_right_l1_o27_3_27 rfl))))), ?_⟩
  refine drawn_end (m' := 1073741823) (held' := []) (hp' := H2) (by
   iterate 28 refine td ?_
   refine tq (bV false) ?_
   refine tq (bV false) ?_
   rfl) (by rfl) (by rfl) ?_
  refine blk_n ?_
  refine then_n ?_
  refine runs_region ?_
  refine oqp (iV (x251 + 1)) (by simp only [quiet, ev_set, e251]; exact congrArg one (a3_add (by omega) (by omega) (by omega))) ?_
  refine oq (iV (x251 + 1)) ?_
  refine nt ?_
  refine (ih false (x251 + 1)  _ _ r (by rw [← hr, right_l1]; simp only [if_pos c1, if_pos c2, if_neg c3, if_pos c5, if_neg c6]) (by omega) (by omega) (Nat.le_trans hlo K1H2.next) KH2 (by simp only [ev_set, e0] <;> rfl) rfl (by simp only [ev_set, e250] <;> rfl) rfl   ).mono ?_
  exact fun o ho => ho.imp (fun ⟨x, hx, tm2, H, v, a1, a2, a3⟩ => ⟨x, hx, tm2, H, v, a1, a2, Kept.trans K1H2 a3⟩) (fun ⟨x, hx, tm2, H, v, a1, a2, a3, a5, a0, a4⟩ => ⟨x, hx, tm2, H, v, a1, a2, a3, a5, a0, Kept.trans K1H2 a4⟩)
  obtain ⟨q9, z9, Z9, hq9, hz9, hK9, hR9⟩ := hk x251 (by omega) (by omega)
  refine drawn_end (m' := 1073741823) (held' := hcons (descOf 13 right_l1_o27.toList 0 0) (pfacts q9 0 [iV (K x251)]) (hcons (descOf 9 right_l1_o27.toList 0 0) (pfacts p 21 [L]) (hcons (descOf 3 right_l1_o27.toList 0 0) (pfacts p 0 [iV x.k]) ([])))) (hp' := h) (by
   refine tqp p (by simp only [quiet, ev_set, e0] <;> rfl) ?_
   refine tqp p (by exact px_nil (hp.kept K0)) ?_
   refine tqp (padd p 0) (by exact congrArg one (px_field (off := 0) (hp.kept K0) (fun _ _ => rfl) (fun _ _ => rfl))) ?_
   refine tpc (iV x.k) 0 trivial (hp.kept K0) ?_
   refine tqp (bV false) (by exact congrArg one (c3_neqF c3)) ?_
   refine tq (bV false) ?_
   refine tqp p (by simp only [quiet, ev_set, e0] <;> rfl) ?_
   refine tqp p (by exact px_nil (hp.kept K0)) ?_
   refine tqp (padd p 21) (by exact congrArg one (px_field (off := 21) (hp.kept K0) (fun _ _ => rfl) (fun _ _ => rfl))) ?_
   refine tpc L 21 (noChg_hcons trivial) (hp.kept K0) ?_
   refine tq (iV x251) ?_
   refine tqp q9 (by exact congrArg one hq9) ?_
   refine tqp (padd q9 0) (by exact congrArg one (px_field (off := 0) (hz9.kept K0) (fun _ _ => rfl) (fun _ _ => rfl))) ?_
   refine take_any (v := iV (K x251)) (fs := (pfacts q9 0 [iV (K x251)])) rfl rfl rfl (noChg_hcons (noChg_hcons trivial)) (by exact px_cell (P := Tryz.prog) (t := 3) (k := 0) (v := iV (K x251)) rfl (hz9.kept K0) (by rw [← hK9]; rfl)) rfl rfl ?_
   refine tqp (bV false) (by exact congrArg one (c3_eqlF c5)) ?_
   refine tq (bV false) ?_
   refine tq (bV false) ?_
   iterate 11 refine tu ?_
   refine tq (bV false) ?_
   refine tq (bV false) ?_
   rfl) (by rfl) (by rfl) ?_
  refine blk_n ?_
  refine then_n ?_
  refine runs_region ?_
  refine oqp (iV (x251 + 1)) (by simp only [quiet, ev_set, e251]; exact congrArg one (a3_add (by omega) (by omega) (by omega))) ?_
  refine oq (iV (x251 + 1)) ?_
  refine nt ?_
  refine (ih false (x251 + 1)  _ _ r (by rw [← hr, right_l1]; simp only [if_pos c1, if_pos c2, if_neg c3, if_neg c5]) (by omega) (by omega) hlo K0 (by simp only [ev_set, e0] <;> rfl) rfl (by simp only [ev_set, e250] <;> rfl) rfl   ).mono ?_
  exact fun o ho => ho
  refine oqp (bV false) (by simp only [quiet, ev_set, e5]; exact congrArg (fun b => some (SV.lit (.bool b), ([] : List Fact))) (Bool.eq_false_iff.2 c2)) ?_
  refine oq (bV true) ?_
  refine nt ?_
  refine runs_cond true rfl ?_
  refine sr ?_
  refine oq (bV false) ?_
  refine nt ?_
  refine runs_ret ?_
  refine then_r ?_
  refine blk_r ?_
  refine then_r ?_
  refine then_r ?_
  obtain rfl : Sum.inl false = r := by rw [← hr, right_l1]; simp only [if_pos c1, if_neg c2]
  exact .inl ⟨_, rfl, _, _, _, rfl, rfl, (Kept.refl _ _)⟩
  refine oqp (bV false) (by simp only [quiet, e250, e251]; exact congrArg one (c3_lssF c1)) ?_
  refine nt ?_
  refine runs_seq ?_
  refine runs_cond false rfl ?_
  refine runs_exit ?_
  refine then_x ?_
  refine then_x ?_
  obtain rfl : Sum.inr (x5, x251) = r := by rw [← hr, right_l1]; simp only [if_neg c1]
  exact .inr ⟨_, rfl, _, _, _, rfl, ⟨(by simp only [ev_set, e0] <;> rfl), (by simp only [ev_set, e5] <;> rfl), (by simp only [ev_set, e250] <;> rfl), (by simp only [ev_set, e251] <;> rfl)⟩, True.intro, True.intro, (by (try dsimp only); omega), (Kept.refl _ _)⟩
def right_j22 (x : ND) (n : Int) (K : Int → Int) (R : Int → Bool) (x5 : Bool) : Bool :=
 match right_l1 x n K R (n.toNat - (0 : Int).toNat + 1) x5 0 with
 | .inl r3 => r3
 | .inr r3 => r3.1
noncomputable def right_j22_c : Code := (seqR (seqR (seqR (bodyOf Tryz.f116))))
set_option maxHeartbeats 8000000 in
set_option maxRecDepth 20000 in
theorem right_j22_runs (Γ : Glob) (p : SV) (x : ND) (L : SV) (n : Int) (K : Int → Int) (R : Int → Bool) (hL : LenIs L n) (hn : 0 ≤ n ∧ n ≤ 1099511627776) (x5 : Bool) (tm : T SV) (h : Hp) (e0 : Fr.ev ⟨tm, 287, []⟩ (.tmp 0) = p) (e5 : Fr.ev ⟨tm, 287, []⟩ (.tmp 5) = bV x5) (hp : PtrTo Γ h p (x.cells L)) (hk : KidsRun Γ h L n 116 x.k K R) :
  Runs Tryz.prog Γ (.code right_j22_c none ⟨tm, 287, []⟩ h) fun o => ∃ r, leave Tryz.prog Γ Tryz.f116 o = some [r] ∧ (Tells h (bV (right_j22 x n K R x5))) r := by
 refine runs_seq ?_
 refine sr ?_
 refine oqp p (by simp only [quiet, e0] <;> rfl) ?_
 refine oqp p (by exact px_nil hp) ?_
 refine oqp (padd p 21) (by exact congrArg one (px_field (off := 21) hp (fun _ _ => rfl) (fun _ _ => rfl))) ?_
 refine oqf L (pfacts p 21 [L]) (by exact px_cell (P := Tryz.prog) (t := 34) (k := 21) (v := L) rfl hp rfl) ?_
 refine oqp (iV n) (by exact hL.2.2 _) ?_
 refine oq (iV 0) ?_
 refine nt ?_
 refine runs_blk ?_
 refine (right_l1_runs Γ p x L n K R hL hn h h.next (Nat.le_refl _) hp hk (n.toNat - (0 : Int).toNat + 1) x5 0  _ _ _ rfl (by omega) (by omega) (Nat.le_refl _) (Kept.refl _ _) (by simp only [ev_set, e0] <;> rfl) (by simp only [ev_set, e5] <;> rfl) rfl rfl   ).mono ?_
 rintro _ (⟨r3, hr3, tm3, H3, v3, rfl, q4_3, k3⟩ | ⟨r3, hr3, tm3, H3, v3, rfl, ⟨e0_3, e5_3, e250_3, e251_3⟩, _, _, i3, k3⟩)
 refine blk_r ?_
 have KH3 : Kept h.next h H3 := k3.less (Nat.le_refl _)
 refine then_r ?_
 exact ⟨_, leave_t1 rfl (by simp only [q4_3] <;> rfl), fb (r3) (by simp only [right_j22, hr3]), KH3⟩
 refine blk_x ?_
 have KH3 : Kept h.next h H3 := k3.less (Nat.le_refl _)
 refine then_n ?_
 refine sr ?_
 refine oqp (bV r3.1) (by simp only [quiet, e5_3] <;> rfl) ?_
 refine oq (bV r3.1) ?_
 refine nt ?_
 refine runs_ret ?_
 exact ⟨_, leave_t1 rfl rfl, fb (r3.1) (by simp only [right_j22, hr3]), KH3⟩
noncomputable def right_o11 : Array Oper := opsOf (condL (seqR (condR (seqR (condR (seqR (condR (seqR (inBlk (seqR (seqL (seqR (seqR (bodyOf Tryz.f116))))))))))))))
noncomputable def right_o13 : Array Oper := opsOf (condL (seqR (condR (seqR (condR (seqR (condR (seqR (condR (seqR (inBlk (seqR (seqL (seqR (seqR (bodyOf Tryz.f116))))))))))))))))
noncomputable def right_o15 : Array Oper := opsOf (condL (seqR (condR (seqR (condR (seqR (condR (seqR (condR (seqR (condR (seqR (inBlk (seqR (seqL (seqR (seqR (bodyOf Tryz.f116))))))))))))))))))
noncomputable def right_o19 : Array Oper := opsOf (condL (seqR (condR (seqR (condR (seqR (condR (seqR (condR (seqR (condR (seqR (condR (seqR (condR (seqR (inBlk (seqR (seqL (seqR (seqR (bodyOf Tryz.f116))))))))))))))))))))))
def right (x : ND) (n : Int) (a : Int) (K : Int → Int) (R : Int → Bool) : Bool :=
 if x.k = 0 then
  if rightLit x.v0 x.v1 x.v2 x.v3 x.v4 x.v5 (decide (a = 8)) = true then
   if bare x n (⟨0, x.v0, x.v1, x.v2, x.v3, x.v4, x.v5, [], 0, 0, 0, 0, false, false, 0, 0, 0, 0, false, false, 0⟩ : ND) 0 = true then
    right_j22 x n K R true
   else
    right_j22 x n K R false
  else
   right_j22 x n K R false
 else
  if x.k = 1 then
   if x.a0 = 0 ∧ x.a1 = 0 then
    right_j22 x n K R false
   else
    if x.a2 = 0 ∧ x.a3 = 0 then
     right_j22 x n K R false
    else
     if bare x n (⟨0, 0, 0, 0, [], false, 0, [], x.a0, x.a1, x.a2, x.a3, x.a4, x.a5, 0, 0, 0, 0, false, false, 0⟩ : ND) 0 = true then
      right_j22 x n K R true
     else
      right_j22 x n K R false
  else
   if x.k = 3 then
    if x.a0 = 0 ∧ x.a1 = 0 then
     right_j22 x n K R false
    else
     if x.a2 = 0 ∧ x.a3 = 0 then
      right_j22 x n K R false
     else
      if bare x n (⟨0, 0, 0, 0, [], false, 0, [], x.a0, x.a1, x.a2, x.a3, x.a4, x.a5, 0, 0, 0, 0, false, false, 0⟩ : ND) 0 = true then
       right_j22 x n K R true
      else
       right_j22 x n K R false
   else
    if x.k = 2 then
     if rightRange x.a0 x.a1 x.a2 x.a3 x.a4 x.a5 x.b0 x.b1 x.b2 x.b3 x.b4 x.b5 = true then
      if bare x n (⟨0, 0, 0, 0, [], false, 0, [], x.a0, x.a1, x.a2, x.a3, x.a4, x.a5, x.b0, x.b1, x.b2, x.b3, x.b4, x.b5, 0⟩ : ND) 0 = true then
       right_j22 x n K R true
      else
       right_j22 x n K R false
     else
      right_j22 x n K R false
    else
     if x.k = 4 then
      if isCall x.name = true then
       if n ≤ 32 then
        if n = 1 then
         if (K 0) = 9 then
          right_j22 x n K R false
         else
          if bare x n (⟨0, 0, 0, 0, [], false, 0, x.name, 0, 0, 0, 0, false, false, 0, 0, 0, 0, false, false, 0⟩ : ND) n = true then
           right_j22 x n K R true
          else
           right_j22 x n K R false
        else
         if bare x n (⟨0, 0, 0, 0, [], false, 0, x.name, 0, 0, 0, 0, false, false, 0, 0, 0, 0, false, false, 0⟩ : ND) n = true then
          right_j22 x n K R true
         else
          right_j22 x n K R false
       else
        right_j22 x n K R false
      else
       right_j22 x n K R false
     else
      if x.k = 5 then
       if isUnary x.name = true then
        if n = 1 then
         if bare x n (⟨0, 0, 0, 0, [], false, 0, x.name, 0, 0, 0, 0, false, false, 0, 0, 0, 0, false, false, 0⟩ : ND) n = true then
          right_j22 x n K R true
         else
          right_j22 x n K R false
        else
         right_j22 x n K R false
       else
        right_j22 x n K R false
      else
       if x.k = 6 then
        if isBinary x.name = true then
         if n = 2 then
          if bare x n (⟨0, 0, 0, 0, [], false, 0, x.name, 0, 0, 0, 0, false, false, 0, 0, 0, 0, false, false, 0⟩ : ND) n = true then
           right_j22 x n K R true
          else
           right_j22 x n K R false
         else
          right_j22 x n K R false
        else
         right_j22 x n K R false
       else
        if x.k = 7 then
         if isName x.name = true then
          if bare x n (⟨0, 0, 0, 0, [], false, 0, x.name, 0, 0, 0, 0, false, false, 0, 0, 0, 0, false, false, 0⟩ : ND) 0 = true then
           right_j22 x n K R true
          else
           right_j22 x n K R false
         else
          right_j22 x n K R false
        else
         if x.k = 8 then
          if x.rows ≥ 1 then
           if n ≥ 1 then
            if (n % x.rows) = 0 then
             if bare x n (⟨0, 0, 0, 0, [], false, 0, [], 0, 0, 0, 0, false, false, 0, 0, 0, 0, false, false, x.rows⟩ : ND) n = true then
              right_j22 x n K R true
             else
              right_j22 x n K R false
            else
             right_j22 x n K R false
           else
            right_j22 x n K R false
          else
           right_j22 x n K R false
         else
          if x.k = 9 then
           if a = 4 then
            if bare x n (⟨0, 0, 0, 0, [], false, 0, [], 0, 0, 0, 0, false, false, 0, 0, 0, 0, false, false, 0⟩ : ND) 0 = true then
             right_j22 x n K R true
            else
             right_j22 x n K R false
           else
            right_j22 x n K R false
          else
           right_j22 x n K R false
set_option maxHeartbeats 8000000 in
set_option maxRecDepth 20000 in
theorem right_runs (Γ : Glob) (x : ND) (n : Int) (a : Int) (K : Int → Int) (R : Int → Bool) (L : SV) (p : SV) (h : Hp) (hp : PtrTo Γ h p (x.cells L)) (hL : LenIs L n) (hn : 0 ≤ n ∧ n ≤ 1099511627776) (hk : KidsRun Γ h L n 116 x.k K R) : Runs Tryz.prog Γ (.call 116 [p, iV a] h) (Tells h (bV (right x n a K R))) := by
 refine runs_call Tryz.func116 rfl ?_
 refine sr ?_
 refine oq (bV false) ?_
 refine nt ?_
 refine sr ?_
 refine oq (bV false) ?_
 refine nt ?_
 refine runs_seq ?_
 refine sr ?_
 refine oq p ?_
 refine oqp p (by exact px_nil hp) ?_
 refine oqp (padd p 0) (by exact congrArg one (px_field (off := 0) hp (fun _ _ => rfl) (fun _ _ => rfl))) ?_
 refine oqf (iV x.k) (pfacts p 0 [iV x.k]) (by exact px_cell (P := Tryz.prog) (t := 3) (k := 0) (v := iV x.k) rfl hp rfl) ?_
 refine nt ?_
 refine runs_blk ?_
 refine sr ?_
 by_cases c1 : x.k = 0
 refine oqp (bV true) (by exact congrArg one (c3_eqlT c1)) ?_
 refine oq (bV true) ?_
 refine nt ?_
 refine runs_cond true rfl ?_
 refine runs_region ?_
 refine oq p ?_
 refine oqp p (by exact px_nil hp) ?_
 refine oqp (padd p 1) (by exact congrArg one (px_field (off := 1) hp (fun _ _ => rfl) (fun _ _ => rfl))) ?_
 refine oqf (.agg [iV x.v0, iV x.v1, iV x.v2, sV x.v3, bV x.v4, iV x.v5]) (pfacts p 1 [iV x.v0, iV x.v1, iV x.v2, sV x.v3, bV x.v4, iV x.v5]) (by exact px_cut (P := Tryz.prog) (t := 29) (k := 1) (n := 6) (vs := [iV x.v0, iV x.v1, iV x.v2, sV x.v3, bV x.v4, iV x.v5]) rfl rfl hp rfl) ?_
 refine oq (iV a) ?_
 refine oqp (bV (decide (a = 8))) (by exact congrArg one c3_eql) ?_
 refine ops_c (f := 174) (args := [.agg [iV x.v0, iV x.v1, iV x.v2, sV x.v3, bV x.v4, iV x.v5], bV (decide (a = 8))]) rfl rfl rfl (clone_body Tryz.func174 rfl) rfl rfl ?_
 refine (rightLit_runs Γ x.v0 x.v1 x.v2 x.v3 x.v4 x.v5 (decide (a = 8)) h ).mono ?_
 rintro ⟨ex1, fr1, H1, v1⟩ ⟨hv1, k1⟩
 have k1 : Kept h.next h H1 := k1
 by_cases c2 : rightLit x.v0 x.v1 x.v2 x.v3 x.v4 x.v5 (decide (a = 8)) = true
 have hv1 : v1 = bV true := hv1.trans (congrArg (fun b => SV.lit (.bool b)) c2)
 subst hv1
 refine oq (bV true) ?_
 refine oq p ?_
 refine oq p ?_
 refine oqp p (by exact px_nil (hp.kept k1)) ?_
 refine oqp (padd p 1) (by exact congrArg one (px_field (off := 1) (hp.kept k1) (fun _ _ => rfl) (fun _ _ => rfl))) ?_
 refine oqf (.agg [iV x.v0, iV x.v1, iV x.v2, sV x.v3, bV x.v4, iV x.v5]) (pfacts p 1 [iV x.v0, iV x.v1, iV x.v2, sV x.v3, bV x.v4, iV x.v5]) (by exact px_cut (P := Tryz.prog) (t := 29) (k := 1) (n := 6) (vs := [iV x.v0, iV x.v1, iV x.v2, sV x.v3, bV x.v4, iV x.v5]) rfl rfl (hp.kept k1) rfl) ?_
 refine oq (.agg [iV 0, iV x.v0, iV x.v1, iV x.v2, sV x.v3, bV x.v4, iV x.v5, sV [], iV 0, iV 0, iV 0, iV 0, bV false, bV false, iV 0, iV 0, iV 0, iV 0, bV false, bV false, iV 0, .lit (.slice none 0 0)]) ?_
 refine ops_c (f := 175) (args := [p, .agg [iV 0, iV x.v0, iV x.v1, iV x.v2, sV x.v3, bV x.v4, iV x.v5, sV [], iV 0, iV 0, iV 0, iV 0, bV false, bV false, iV 0, iV 0, iV 0, iV 0, bV false, bV false, iV 0, .lit (.slice none 0 0)]]) rfl rfl rfl (clone_body Tryz.func175 rfl) rfl rfl ?_
 refine (bare_runs Γ x n (⟨0, x.v0, x.v1, x.v2, x.v3, x.v4, x.v5, [], 0, 0, 0, 0, false, false, 0, 0, 0, 0, false, false, 0⟩ : ND) 0 L (.lit (.slice none 0 0)) p H1 (hp.kept k1) hL (lenIs_nil 0)).mono ?_
 rintro ⟨ex2, fr2, H2, v2⟩ ⟨hv2, k2⟩
 have k2 : Kept H1.next H1 H2 := k2
 have KH2 : Kept h.next h H2 := k1.trans (k2.less (Nat.le_trans (Nat.le_refl _) k1.next))
 by_cases c3 : bare x n (⟨0, x.v0, x.v1, x.v2, x.v3, x.v4, x.v5, [], 0, 0, 0, 0, false, false, 0, 0, 0, 0, false, false, 0⟩ : ND) 0 = true
 have hv2 : v2 = bV true := hv2.trans (congrArg (fun b => SV.lit (.bool b)) c3)
 subst hv2
 refine oq (bV true) ?_
 refine oq (bV true) ?_
 refine ops_nil ?_
 refine blk_n ?_
 refine then_n ?_
 have eF : right_j22 x n K R true = right x n a K R := (by simp only [right, if_pos c1, if_pos c2, if_pos c3])
 exact (right_j22_runs Γ p x L n K R hL hn true _ _ rfl rfl (hp.kept KH2) (hk.kept KH2)).mono fun o ⟨r, hr, ht⟩ => ⟨r, hr, ht.1.trans (congrArg (fun (x : Bool) => (bV x : SV)) eF), (Kept.then KH2 ht.2)⟩
 have hv2 : v2 = bV false := hv2.trans (congrArg (fun b => SV.lit (.bool b)) (Bool.eq_false_iff.2 c3))
 subst hv2
 refine oq (bV false) ?_
 refine oq (bV false) ?_
 refine ops_nil ?_
 refine blk_n ?_
 refine then_n ?_
 have eF : right_j22 x n K R false = right x n a K R := (by simp only [right, if_pos c1, if_pos c2, if_neg c3])
 exact (right_j22_runs Γ p x L n K R hL hn false _ _ rfl rfl (hp.kept KH2) (hk.kept KH2)).mono fun o ⟨r, hr, ht⟩ => ⟨r, hr, ht.1.trans (congrArg (fun (x : Bool) => (bV x : SV)) eF), (Kept.then KH2 ht.2)⟩
 have hv1 : v1 = bV false := hv1.trans (congrArg (fun b => SV.lit (.bool b)) (Bool.eq_false_iff.2 c2))
 subst hv1
 refine oq (bV false) ?_
 iterate 7 refine ou ?_
 refine oq (bV false) ?_
 refine oq (bV false) ?_
 refine ops_nil ?_
 refine blk_n ?_
 refine then_n ?_
 have eF : right_j22 x n K R false = right x n a K R := (by simp only [right, if_pos c1, if_neg c2])
 exact (right_j22_runs Γ p x L n K R hL hn false _ _ rfl rfl (hp.kept k1) (hk.kept k1)).mono fun o ⟨r, hr, ht⟩ => ⟨r, hr, ht.1.trans (congrArg (fun (x : Bool) => (bV x : SV)) eF), (Kept.then k1 ht.2)⟩
 refine oqp (bV false) (by exact congrArg one (c3_eqlF c1)) ?_
 refine oq (bV false) ?_
 refine nt ?_
 refine runs_cond false rfl ?_
 refine runs_seq ?_
 refine sr ?_
 by_cases c4 : x.k = 1
 refine oqp (bV true) (by exact congrArg one (c3_eqlT c4)) ?_
 refine oq (bV true) ?_
 refine nt ?_
 refine runs_cond true rfl ?_
 refine runs_skip ?_
 refine then_n ?_
 refine runs_cond true rfl ?_
 refine runs_region ?_
 refine oq p ?_
 refine oqp p (by exact px_nil hp) ?_
 refine oqp (padd p 8) (by exact congrArg one (px_field (off := 8) hp (fun _ _ => rfl) (fun _ _ => rfl))) ?_
 refine oqp (padd p 8) (by exact congrArg one (px_fieldk (k := 8) (off := 8) hp (fun _ _ => rfl) (fun _ _ => rfl))) ?_
 refine oqp (padd p 8) (by exact congrArg one (px_fieldk (k := 8) (off := 8) hp (fun _ _ => rfl) (fun _ _ => rfl))) ?_
 refine oqf (.agg [iV x.a0, iV x.a1]) (pfacts p 8 [iV x.a0, iV x.a1]) (by exact px_cut (P := Tryz.prog) (t := 23) (k := 8) (n := 2) (vs := [iV x.a0, iV x.a1]) rfl rfl hp rfl) ?_
 refine oq (.agg [iV 0, iV 0]) ?_
 by_cases c5 : x.a0 = 0 ∧ x.a1 = 0
 refine oqp (bV false) (by exact congrArg one (s23_neqT c5)) ?_
 refine oq (bV false) ?_
 iterate 8 refine ou ?_
 refine oq (bV false) ?_
 refine oq (bV false) ?_
 iterate 9 refine ou ?_
 refine oq (bV false) ?_
 refine oq (bV false) ?_
 refine ops_nil ?_
 refine blk_n ?_
 refine then_n ?_
 have eF : right_j22 x n K R false = right x n a K R := (by simp only [right, if_neg c1, if_pos c4, if_pos c5])
 exact (right_j22_runs Γ p x L n K R hL hn false _ _ rfl rfl hp hk).mono fun o ⟨r, hr, ht⟩ => ⟨r, hr, ht.1.trans (congrArg (fun (x : Bool) => (bV x : SV)) eF), ht.2⟩
 refine oqp (bV true) (by exact congrArg one (s23_neqF c5)) ?_
 refine oq (bV true) ?_
 refine oq p ?_
 refine oqp p (by exact px_nil hp) ?_
 refine oqp (padd p 8) (by exact congrArg one (px_field (off := 8) hp (fun _ _ => rfl) (fun _ _ => rfl))) ?_
 refine oqp (padd p 8) (by exact congrArg one (px_fieldk (k := 8) (off := 8) hp (fun _ _ => rfl) (fun _ _ => rfl))) ?_
 refine oqp (padd p 10) (by exact congrArg one (px_fieldk (k := 8) (off := 10) hp (fun _ _ => rfl) (fun _ _ => rfl))) ?_
 refine oqf (.agg [iV x.a2, iV x.a3]) (pfacts p 10 [iV x.a2, iV x.a3]) (by exact px_cut (P := Tryz.prog) (t := 23) (k := 10) (n := 2) (vs := [iV x.a2, iV x.a3]) rfl rfl hp rfl) ?_
 refine oq (.agg [iV 0, iV 0]) ?_
 by_cases c6 : x.a2 = 0 ∧ x.a3 = 0
 refine oqp (bV false) (by exact congrArg one (s23_neqT c6)) ?_
 refine oq (bV false) ?_
 refine oq (bV false) ?_
 iterate 9 refine ou ?_
 refine oq (bV false) ?_
 refine oq (bV false) ?_
 refine ops_nil ?_
 refine blk_n ?_
 refine then_n ?_
 have eF : right_j22 x n K R false = right x n a K R := (by simp only [right, if_neg c1, if_pos c4, if_neg c5, if_pos c6])
 exact (right_j22_runs Γ p x L n K R hL hn false _ _ rfl rfl hp hk).mono fun o ⟨r, hr, ht⟩ => ⟨r, hr, ht.1.trans (congrArg (fun (x : Bool) => (bV x : SV)) eF), ht.2⟩
 refine oqp (bV true) (by exact congrArg one (s23_neqF c6)) ?_
 refine oq (bV true) ?_
 refine oq (bV true) ?_
 refine oq p ?_
 refine oq p ?_
 refine oqp p (by exact px_nil hp) ?_
 refine oqp (padd p 8) (by exact congrArg one (px_field (off := 8) hp (fun _ _ => rfl) (fun _ _ => rfl))) ?_
 refine oqp (padd p 8) (by exact congrArg one (px_fieldk (k := 8) (off := 8) hp (fun _ _ => rfl) (fun _ _ => rfl))) ?_
 refine oqf (.agg [iV x.a0, iV x.a1, iV x.a2, iV x.a3, bV x.a4, bV x.a5]) (pfacts p 8 [iV x.a0, iV x.a1, iV x.a2, iV x.a3, bV x.a4, bV x.a5]) (by exact px_cut (P := Tryz.prog) (t := 31) (k := 8) (n := 6) (vs := [iV x.a0, iV x.a1, iV x.a2, iV x.a3, bV x.a4, bV x.a5]) rfl rfl hp rfl) ?_
 refine oq (.agg [iV x.a0, iV x.a1, iV x.a2, iV x.a3, bV x.a4, bV x.a5, iV 0, iV 0, iV 0, iV 0, bV false, bV false]) ?_
 refine oq (.agg [iV 0, iV 0, iV 0, iV 0, sV [], bV false, iV 0, sV [], iV x.a0, iV x.a1, iV x.a2, iV x.a3, bV x.a4, bV x.a5, iV 0, iV 0, iV 0, iV 0, bV false, bV false, iV 0, .lit (.slice none 0 0)]) ?_
 refine ops_c (f := 175) (args := [p, .agg [iV 0, iV 0, iV 0, iV 0, sV [], bV false, iV 0, sV [], iV x.a0, iV x.a1, iV x.a2, iV x.a3, bV x.a4, bV x.a5, iV 0, iV 0, iV 0, iV 0, bV false, bV false, iV 0, .lit (.slice none 0 0)]]) rfl rfl rfl (clone_body Tryz.func175 rfl) rfl rfl ?_
 refine (bare_runs Γ x n (⟨0, 0, 0, 0, [], false, 0, [], x.a0, x.a1, x.a2, x.a3, x.a4, x.a5, 0, 0, 0, 0, false, false, 0⟩ : ND) 0 L (.lit (.slice none 0 0)) p h hp hL (lenIs_nil 0)).mono ?_
 rintro ⟨ex3, fr3, H3, v3⟩ ⟨hv3, k3⟩
 have k3 : Kept h.next h H3 := k3
 by_cases c7 : bare x n (⟨0, 0, 0, 0, [], false, 0, [], x.a0, x.a1, x.a2, x.a3, x.a4, x.a5, 0, 0, 0, 0, false, false, 0⟩ : ND) 0 = true
 have hv3 : v3 = bV true := hv3.trans (congrArg (fun b => SV.lit (.bool b)) c7)
 subst hv3
 refine oq (bV true) ?_
 refine oq (bV true) ?_
 refine ops_nil ?_
 refine blk_n ?_
 refine then_n ?_
 have eF : right_j22 x n K R true = right x n a K R := (by simp only [right, if_neg c1, if_pos c4, if_neg c5, if_neg c6, if_pos c7])
 exact (right_j22_runs Γ p x L n K R hL hn true _ _ rfl rfl (hp.kept k3) (hk.kept k3)).mono fun o ⟨r, hr, ht⟩ => ⟨r, hr, ht.1.trans (congrArg (fun (x : Bool) => (bV x : SV)) eF), (Kept.then k3 ht.2)⟩
 have hv3 : v3 = bV false := hv3.trans (congrArg (fun b => SV.lit (.bool b)) (Bool.eq_false_iff.2 c7))
 subst hv3
 refine oq (bV false) ?_
 refine oq (bV false) ?_
 refine ops_nil ?_
 refine blk_n ?_
 refine then_n ?_
 have eF : right_j22 x n K R false = right x n a K R := (by simp only [right, if_neg c1, if_pos c4, if_neg c5, if_neg c6, if_neg c7])
 exact (right_j22_runs Γ p x L n K R hL hn false _ _ rfl rfl (hp.kept k3) (hk.kept k3)).mono fun o ⟨r, hr, ht⟩ => ⟨r, hr, ht.1.trans (congrArg (fun (x : Bool) => (bV x : SV)) eF), (Kept.then k3 ht.2)⟩
 refine oqp (bV false) (by exact congrArg one (c3_eqlF c4)) ?_
 refine oq (bV false) ?_
 refine nt ?_
 refine runs_cond false rfl ?_
 refine runs_region ?_
 by_cases c8 : x.k = 3
 refine oqp (bV true) (by exact congrArg one (c3_eqlT c8)) ?_
 refine oq (bV true) ?_
 refine nt ?_
 refine runs_cond true rfl ?_
 refine runs_region ?_
 refine oq p ?_
 refine oqp p (by exact px_nil hp) ?_
 refine oqp (padd p 8) (by exact congrArg one (px_field (off := 8) hp (fun _ _ => rfl) (fun _ _ => rfl))) ?_
 refine oqp (padd p 8) (by exact congrArg one (px_fieldk (k := 8) (off := 8) hp (fun _ _ => rfl) (fun _ _ => rfl))) ?_
 refine oqp (padd p 8) (by exact congrArg one (px_fieldk (k := 8) (off := 8) hp (fun _ _ => rfl) (fun _ _ => rfl))) ?_
 refine oqf (.agg [iV x.a0, iV x.a1]) (pfacts p 8 [iV x.a0, iV x.a1]) (by exact px_cut (P := Tryz.prog) (t := 23) (k := 8) (n := 2) (vs := [iV x.a0, iV x.a1]) rfl rfl hp rfl) ?_
 refine oq (.agg [iV 0, iV 0]) ?_
 by_cases c9 : x.a0 = 0 ∧ x.a1 = 0
 refine oqp (bV false) (by exact congrArg one (s23_neqT c9)) ?_
 refine oq (bV false) ?_
 iterate 8 refine ou ?_
 refine oq (bV false) ?_
 refine oq (bV false) ?_
 iterate 9 refine ou ?_
 refine oq (bV false) ?_
 refine oq (bV false) ?_
 refine ops_nil ?_
 refine blk_n ?_
 refine then_n ?_
 have eF : right_j22 x n K R false = right x n a K R := (by simp only [right, if_neg c1, if_neg c4, if_pos c8, if_pos c9])
 exact (right_j22_runs Γ p x L n K R hL hn false _ _ rfl rfl hp hk).mono fun o ⟨r, hr, ht⟩ => ⟨r, hr, ht.1.trans (congrArg (fun (x : Bool) => (bV x : SV)) eF), ht.2⟩
 refine oqp (bV true) (by exact congrArg one (s23_neqF c9)) ?_
 refine oq (bV true) ?_
 refine oq p ?_
 refine oqp p (by exact px_nil hp) ?_
 refine oqp (padd p 8) (by exact congrArg one (px_field (off := 8) hp (fun _ _ => rfl) (fun _ _ => rfl))) ?_
 refine oqp (padd p 8) (by exact congrArg one (px_fieldk (k := 8) (off := 8) hp (fun _ _ => rfl) (fun _ _ => rfl))) ?_
 refine oqp (padd p 10) (by exact congrArg one (px_fieldk (k := 8) (off := 10) hp (fun _ _ => rfl) (fun _ _ => rfl))) ?_
 refine oqf (.agg [iV x.a2, iV x.a3]) (pfacts p 10 [iV x.a2, iV x.a3]) (by exact px_cut (P := Tryz.prog) (t := 23) (k := 10) (n := 2) (vs := [iV x.a2, iV x.a3]) rfl rfl hp rfl) ?_
 refine oq (.agg [iV 0, iV 0]) ?_
 by_cases c10 : x.a2 = 0 ∧ x.a3 = 0
 refine oqp (bV false) (by exact congrArg one (s23_neqT c10)) ?_
 refine oq (bV false) ?_
 refine oq (bV false) ?_
 iterate 9 refine ou ?_
 refine oq (bV false) ?_
 refine oq (bV false) ?_
 refine ops_nil ?_
 refine blk_n ?_
 refine then_n ?_
 have eF : right_j22 x n K R false = right x n a K R := (by simp only [right, if_neg c1, if_neg c4, if_pos c8, if_neg c9, if_pos c10])
 exact (right_j22_runs Γ p x L n K R hL hn false _ _ rfl rfl hp hk).mono fun o ⟨r, hr, ht⟩ => ⟨r, hr, ht.1.trans (congrArg (fun (x : Bool) => (bV x : SV)) eF), ht.2⟩
 refine oqp (bV true) (by exact congrArg one (s23_neqF c10)) ?_
 refine oq (bV true) ?_
 refine oq (bV true) ?_
 refine oq p ?_
 refine oq p ?_
 refine oqp p (by exact px_nil hp) ?_
 refine oqp (padd p 8) (by exact congrArg one (px_field (off := 8) hp (fun _ _ => rfl) (fun _ _ => rfl))) ?_
 refine oqp (padd p 8) (by exact congrArg one (px_fieldk (k := 8) (off := 8) hp (fun _ _ => rfl) (fun _ _ => rfl))) ?_
 refine oqf (.agg [iV x.a0, iV x.a1, iV x.a2, iV x.a3, bV x.a4, bV x.a5]) (pfacts p 8 [iV x.a0, iV x.a1, iV x.a2, iV x.a3, bV x.a4, bV x.a5]) (by exact px_cut (P := Tryz.prog) (t := 31) (k := 8) (n := 6) (vs := [iV x.a0, iV x.a1, iV x.a2, iV x.a3, bV x.a4, bV x.a5]) rfl rfl hp rfl) ?_
 refine oq (.agg [iV x.a0, iV x.a1, iV x.a2, iV x.a3, bV x.a4, bV x.a5, iV 0, iV 0, iV 0, iV 0, bV false, bV false]) ?_
 refine oq (.agg [iV 0, iV 0, iV 0, iV 0, sV [], bV false, iV 0, sV [], iV x.a0, iV x.a1, iV x.a2, iV x.a3, bV x.a4, bV x.a5, iV 0, iV 0, iV 0, iV 0, bV false, bV false, iV 0, .lit (.slice none 0 0)]) ?_
 refine ops_c (f := 175) (args := [p, .agg [iV 0, iV 0, iV 0, iV 0, sV [], bV false, iV 0, sV [], iV x.a0, iV x.a1, iV x.a2, iV x.a3, bV x.a4, bV x.a5, iV 0, iV 0, iV 0, iV 0, bV false, bV false, iV 0, .lit (.slice none 0 0)]]) rfl rfl rfl (clone_body Tryz.func175 rfl) rfl rfl ?_
 refine (bare_runs Γ x n (⟨0, 0, 0, 0, [], false, 0, [], x.a0, x.a1, x.a2, x.a3, x.a4, x.a5, 0, 0, 0, 0, false, false, 0⟩ : ND) 0 L (.lit (.slice none 0 0)) p h hp hL (lenIs_nil 0)).mono ?_
 rintro ⟨ex4, fr4, H4, v4⟩ ⟨hv4, k4⟩
 have k4 : Kept h.next h H4 := k4
 by_cases c11 : bare x n (⟨0, 0, 0, 0, [], false, 0, [], x.a0, x.a1, x.a2, x.a3, x.a4, x.a5, 0, 0, 0, 0, false, false, 0⟩ : ND) 0 = true
 have hv4 : v4 = bV true := hv4.trans (congrArg (fun b => SV.lit (.bool b)) c11)
 subst hv4
 refine oq (bV true) ?_
 refine oq (bV true) ?_
 refine ops_nil ?_
 refine blk_n ?_
 refine then_n ?_
 have eF : right_j22 x n K R true = right x n a K R := (by simp only [right, if_neg c1, if_neg c4, if_pos c8, if_neg c9, if_neg c10, if_pos c11])
 exact (right_j22_runs Γ p x L n K R hL hn true _ _ rfl rfl (hp.kept k4) (hk.kept k4)).mono fun o ⟨r, hr, ht⟩ => ⟨r, hr, ht.1.trans (congrArg (fun (x : Bool) => (bV x : SV)) eF), (Kept.then k4 ht.2)⟩
 have hv4 : v4 = bV false := hv4.trans (congrArg (fun b => SV.lit (.bool b)) (Bool.eq_false_iff.2 c11))
 subst hv4
 refine oq (bV false) ?_
 refine oq (bV false) ?_
 refine ops_nil ?_
 refine blk_n ?_
 refine then_n ?_
 have eF : right_j22 x n K R false = right x n a K R := (by simp only [right, if_neg c1, if_neg c4, if_pos c8, if_neg c9, if_neg c10, if_neg c11])
 exact (right_j22_runs Γ p x L n K R hL hn false _ _ rfl rfl (hp.kept k4) (hk.kept k4)).mono fun o ⟨r, hr, ht⟩ => ⟨r, hr, ht.1.trans (congrArg (fun (x : Bool) => (bV x : SV)) eF), (Kept.then k4 ht.2)⟩
 refine oqp (bV false) (by exact congrArg one (c3_eqlF c8)) ?_
 refine oq (bV false) ?_
 refine nt ?_
 refine runs_cond false rfl ?_
 refine sr ?_
 by_cases c12 : x.k = 2
 refine oqp (bV true) (by exact congrArg one (c3_eqlT c12)) ?_
 refine oq (bV true) ?_
 refine nt ?_
 refine runs_cond true rfl ?_
 refine runs_region ?_
 refine oq p ?_
 refine oqp p (by exact px_nil hp) ?_
 refine oqp (padd p 8) (by exact congrArg one (px_field (off := 8) hp (fun _ _ => rfl) (fun _ _ => rfl))) ?_
 refine oqf (.agg [iV x.a0, iV x.a1, iV x.a2, iV x.a3, bV x.a4, bV x.a5, iV x.b0, iV x.b1, iV x.b2, iV x.b3, bV x.b4, bV x.b5]) (pfacts p 8 [iV x.a0, iV x.a1, iV x.a2, iV x.a3, bV x.a4, bV x.a5, iV x.b0, iV x.b1, iV x.b2, iV x.b3, bV x.b4, bV x.b5]) (by exact px_cut (P := Tryz.prog) (t := 33) (k := 8) (n := 12) (vs := [iV x.a0, iV x.a1, iV x.a2, iV x.a3, bV x.a4, bV x.a5, iV x.b0, iV x.b1, iV x.b2, iV x.b3, bV x.b4, bV x.b5]) rfl rfl hp rfl) ?_
 refine ops_c (f := 176) (args := [.agg [iV x.a0, iV x.a1, iV x.a2, iV x.a3, bV x.a4, bV x.a5, iV x.b0, iV x.b1, iV x.b2, iV x.b3, bV x.b4, bV x.b5]]) rfl rfl rfl (clone_body Tryz.func176 rfl) rfl rfl ?_
 refine (rightRange_runs Γ x.a0 x.a1 x.a2 x.a3 x.a4 x.a5 x.b0 x.b1 x.b2 x.b3 x.b4 x.b5 h ).mono ?_
 rintro ⟨ex5, fr5, H5, v5⟩ ⟨hv5, k5⟩
 have k5 : Kept h.next h H5 := k5
 by_cases c13 : rightRange x.a0 x.a1 x.a2 x.a3 x.a4 x.a5 x.b0 x.b1 x.b2 x.b3 x.b4 x.b5 = true
 have hv5 : v5 = bV true := hv5.trans (congrArg (fun b => SV.lit (.bool b)) c13)
 subst hv5
 refine oq (bV true) ?_
 refine oq p ?_
 refine oq p ?_
 refine oqp p (by exact px_nil (hp.kept k5)) ?_
 refine oqp (padd p 8) (by exact congrArg one (px_field (off := 8) (hp.kept k5) (fun _ _ => rfl) (fun _ _ => rfl))) ?_
 refine oqf (.agg [iV x.a0, iV x.a1, iV x.a2, iV x.a3, bV x.a4, bV x.a5, iV x.b0, iV x.b1, iV x.b2, iV x.b3, bV x.b4, bV x.b5]) (pfacts p 8 [iV x.a0, iV x.a1, iV x.a2, iV x.a3, bV x.a4, bV x.a5, iV x.b0, iV x.b1, iV x.b2, iV x.b3, bV x.b4, bV x.b5]) (by exact px_cut (P := Tryz.prog) (t := 33) (k := 8) (n := 12) (vs := [iV x.a0, iV x.a1, iV x.a2, iV x.a3, bV x.a4, bV x.a5, iV x.b0, iV x.b1, iV x.b2, iV x.b3, bV x.b4, bV x.b5]) rfl rfl (hp.kept k5) rfl) ?_
 refine oq (.agg [iV 0, iV 0, iV 0, iV 0, sV [], bV false, iV 0, sV [], iV x.a0, iV x.a1, iV x.a2, iV x.a3, bV x.a4, bV x.a5, iV x.b0, iV x.b1, iV x.b2, iV x.b3, bV x.b4, bV x.b5, iV 0, .lit (.slice none 0 0)]) ?_
 refine ops_c (f := 175) (args := [p, .agg [iV 0, iV 0, iV 0, iV 0, sV [], bV false, iV 0, sV [], iV x.a0, iV x.a1, iV x.a2, iV x.a3, bV x.a4, bV x.a5, iV x.b0, iV x.b1, iV x.b2, iV x.b3, bV x.b4, bV x.b5, iV 0, .lit (.slice none 0 0)]]) rfl rfl rfl (clone_body Tryz.func175 rfl) rfl rfl ?_
 refine (bare_runs Γ x n (⟨0, 0, 0, 0, [], false, 0, [], x.a0, x.a1, x.a2, x.a3, x.a4, x.a5, x.b0, x.b1, x.b2, x.b3, x.b4, x.b5, 0⟩ : ND) 0 L (.lit (.slice none 0 0)) p H5 (hp.kept k5) hL (lenIs_nil 0)).mono ?_
 rintro ⟨ex6, fr6, H6, v6⟩ ⟨hv6, k6⟩
 have k6 : Kept H5.next H5 H6 := k6
 have KH6 : Kept h.next h H6 := k5.trans (k6.less (Nat.le_trans (Nat.le_refl _) k5.next))
 by_cases c14 : bare x n (⟨0, 0, 0, 0, [], false, 0, [], x.a0, x.a1, x.a2, x.a3, x.a4, x.a5, x.b0, x.b1, x.b2, x.b3, x.b4, x.b5, 0⟩ : ND) 0 = true
 have hv6 : v6 = bV true := hv6.trans (congrArg (fun b => SV.lit (.bool b)) c14)
 subst hv6
 refine oq (bV true) ?_
 refine oq (bV true) ?_
 refine ops_nil ?_
 refine blk_n ?_
 refine then_n ?_
 have eF : right_j22 x n K R true = right x n a K R := (by simp only [right, if_neg c1, if_neg c4, if_neg c8, if_pos c12, if_pos c13, if_pos c14])
 exact (right_j22_runs Γ p x L n K R hL hn true _ _ rfl rfl (hp.kept KH6) (hk.kept KH6)).mono fun o ⟨r, hr, ht⟩ => ⟨r, hr, ht.1.trans (congrArg (fun (x : Bool) => (bV x : SV)) eF), (Kept.then KH6 ht.2)⟩
 have hv6 : v6 = bV false := hv6.trans (congrArg (fun b => SV.lit (.bool b)) (Bool.eq_false_iff.2 c14))
 subst hv6
 refine oq (bV false) ?_
 refine oq (bV false) ?_
 refine ops_nil ?_
 refine blk_n ?_
 refine then_n ?_
 have eF : right_j22 x n K R false = right x n a K R := (by simp only [right, if_neg c1, if_neg c4, if_neg c8, if_pos c12, if_pos c13, if_neg c14])
 exact (right_j22_runs Γ p x L n K R hL hn false _ _ rfl rfl (hp.kept KH6) (hk.kept KH6)).mono fun o ⟨r, hr, ht⟩ => ⟨r, hr, ht.1.trans (congrArg (fun (x : Bool) => (bV x : SV)) eF), (Kept.then KH6 ht.2)⟩
 have hv5 : v5 = bV false := hv5.trans (congrArg (fun b => SV.lit (.bool b)) (Bool.eq_false_iff.2 c13))
 subst hv5
 refine oq (bV false) ?_
 iterate 7 refine ou ?_
 refine oq (bV false) ?_
 refine oq (bV false) ?_
 refine ops_nil ?_
 refine blk_n ?_
 refine then_n ?_
 have eF : right_j22 x n K R false = right x n a K R := (by simp only [right, if_neg c1, if_neg c4, if_neg c8, if_pos c12, if_neg c13])
 exact (right_j22_runs Γ p x L n K R hL hn false _ _ rfl rfl (hp.kept k5) (hk.kept k5)).mono fun o ⟨r, hr, ht⟩ => ⟨r, hr, ht.1.trans (congrArg (fun (x : Bool) => (bV x : SV)) eF), (Kept.then k5 ht.2)⟩
 refine oqp (bV false) (by exact congrArg one (c3_eqlF c12)) ?_
 refine oq (bV false) ?_
 refine nt ?_
 refine runs_cond false rfl ?_
 refine sr ?_
 by_cases c15 : x.k = 4
 refine oqp (bV true) (by exact congrArg one (c3_eqlT c15)) ?_
 refine oq (bV true) ?_
 refine nt ?_
 refine runs_cond true rfl ?_
 refine runs_drawn (ops := right_o11) rfl ?_
 have t_right_o11_3_4 : Nat.testBit (descOf 3 right_o11.toList 0 0) 4 = true := rfl
 refine drawn_cG (i := 4) (f := 177) (args := [sV x.name]) (m' := 15) (held' := hcons (descOf 3 right_o11.toList 0 0) (pfacts p 7 [sV x.name]) ([])) (hp := h) (noChg_hcons trivial) (by
  refine tq p ?_
  refine tqp p (by exact px_nil hp) ?_
  refine tqp (padd p 7) (by exact congrArg one (px_field (off := 7) hp (fun _ _ => rfl) (fun _ _ => rfl))) ?_
  refine tpc (sV x.name) 7 trivial hp ?_
  refine take_loud rfl rfl rfl rfl rfl ?_
  iterate 41 refine tw ?_
  rfl) (by rfl) (by rfl) (by rfl) (clone_body Tryz.func177 rfl) rfl rfl ?_
 refine (isCall_runs Γ x.name h ).mono ?_
 rintro ⟨ex7, fr7, H7, v7⟩ ⟨hv7, k7⟩
 have k7 : Kept h.next h H7 := k7
 by_cases c16 : isCall x.name = true
 have hv7 : v7 = bV true := hv7.trans (congrArg (fun b => SV.lit (.bool b)) c16)
 subst hv7
 refine ⟨(stands_hyes t_right_o11_3_4 stands_nil), _, (drop_hyes t_right_o11_3_4 rfl), ?_⟩
 by_cases c17 : n ≤ 32
 by_cases c18 : n = 1
 by_cases c19 : (K 0) = 9
 obtain ⟨q0, z0, Z0, hq0, hz0, hK0, hR0⟩ := hk 0 (by omega) (by omega)
 refine drawn_end (m' := 70368744177663) (held' := hcons (descOf 27 right_o11.toList 0 0) (pfacts q0 0 [iV (K 0)]) (hcons (descOf 24 right_o11.toList 0 0) (pfacts p 21 [L]) (hcons (descOf 17 right_o11.toList 0 0) (pfacts p 21 [L]) (hcons (descOf 9 right_o11.toList 0 0) (pfacts p 21 [L]) ([]))))) (hp' := H7) (by
  iterate 5 refine td ?_
  refine tq (bV true) ?_
  refine tq p ?_
  refine tqp p (by exact px_nil (hp.kept k7)) ?_
  refine tqp (padd p 21) (by exact congrArg one (px_field (off := 21) (hp.kept k7) (fun _ _ => rfl) (fun _ _ => rfl))) ?_
  refine tpc L 21 trivial (hp.kept k7) ?_
  refine tqp (iV n) (by exact hL.2.2 _) ?_
  refine tqp (bV true) (by exact congrArg one (c3_leqT c17)) ?_
  refine tq (bV true) ?_
  refine tq (bV true) ?_
  refine tq p ?_
  refine tqp p (by exact px_nil (hp.kept k7)) ?_
  refine tqp (padd p 21) (by exact congrArg one (px_field (off := 21) (hp.kept k7) (fun _ _ => rfl) (fun _ _ => rfl))) ?_
  refine tpc L 21 (noChg_hcons trivial) (hp.kept k7) ?_
  refine tqp (iV n) (by exact hL.2.2 _) ?_
  refine tqp (bV true) (by exact congrArg one (c3_eqlT c18)) ?_
  refine tq (bV true) ?_
  refine tq p ?_
  refine tqp p (by exact px_nil (hp.kept k7)) ?_
  refine tqp (padd p 21) (by exact congrArg one (px_field (off := 21) (hp.kept k7) (fun _ _ => rfl) (fun _ _ => rfl))) ?_
  refine tpc L 21 (noChg_hcons (noChg_hcons trivial)) (hp.kept k7) ?_
  refine tqp q0 (by exact congrArg one hq0) ?_
  refine tqp (padd q0 0) (by exact congrArg one (px_field (off := 0) (hz0.kept k7) (fun _ _ => rfl) (fun _ _ => rfl))) ?_
  refine take_any (v := iV (K 0)) (fs := (pfacts q0 0 [iV (K 0)])) rfl rfl rfl (noChg_hcons (noChg_hcons (noChg_hcons trivial))) (by exact px_cell (P := Tryz.prog) (t := 3) (k := 0) (v := iV (K 0)) rfl (hz0.kept k7) (by rw [← hK0]; rfl)) rfl rfl ?_
  refine tqp (bV true) (by exact congrArg one (c3_eqlT c19)) ?_
  refine tq (bV true) ?_
  refine tq (bV false) ?_
  refine tq (bV false) ?_
  refine tq (bV false) ?_
  iterate 11 refine tu ?_
  refine tq (bV false) ?_
  refine tq (bV false) ?_
  rfl) (by rfl) (by rfl) ?_
 refine blk_n ?_
 refine then_n ?_
 have eF : right_j22 x n K R false = right x n a K R := (by simp only [right, if_neg c1, if_neg c4, if_neg c8, if_neg c12, if_pos c15, if_pos c16, if_pos c17, if_pos c18, if_pos c19])
 exact (right_j22_runs Γ p x L n K R hL hn false _ _ rfl rfl (hp.kept k7) (hk.kept k7)).mono fun o ⟨r, hr, ht⟩ => ⟨r, hr, ht.1.trans (congrArg (fun (x : Bool) => (bV x : SV)) eF), (Kept.then k7 ht.2)⟩
 obtain ⟨q0, z0, Z0, hq0, hz0, hK0, hR0⟩ := hk 0 (by omega) (by omega)
 have t_right_o11_41_43 : Nat.testBit (descOf 41 right_o11.toList 0 0) 43 = true := rfl
 have t_right_o11_37_43 : Nat.testBit (descOf 37 right_o11.toList 0 0) 43 = true := rfl
 have t_right_o11_27_43 : Nat.testBit (descOf 27 right_o11.toList 0 0) 43 = true := rfl
 have t_right_o11_24_43 : Nat.testBit (descOf 24 right_o11.toList 0 0) 43 = true := rfl
 have t_right_o11_17_43 : Nat.testBit (descOf 17 right_o11.toList 0 0) 43 = true := rfl
 have t_right_o11_9_43 : Nat.testBit (descOf 9 right_o11.toList 0 0) 43 = true := rfl
 refine drawn_cG (i := 43) (f := 175) (args := [p, .agg [iV 0, iV 0, iV 0, iV 0, sV [], bV false, iV 0, sV x.name, iV 0, iV 0, iV 0, iV 0, bV false, bV false, iV 0, iV 0, iV 0, iV 0, bV false, bV false, iV 0, L]]) (m' := 8796093022207) (held' := hcons (descOf 41 right_o11.toList 0 0) (pfacts p 21 [L]) (hcons (descOf 37 right_o11.toList 0 0) (pfacts p 7 [sV x.name]) (hcons (descOf 27 right_o11.toList 0 0) (pfacts q0 0 [iV (K 0)]) (hcons (descOf 24 right_o11.toList 0 0) (pfacts p 21 [L]) (hcons (descOf 17 right_o11.toList 0 0) (pfacts p 21 [L]) (hcons (descOf 9 right_o11.toList 0 0) (pfacts p 21 [L]) ([]))))))) (hp := H7) (noChg_hcons (noChg_hcons (noChg_hcons (noChg_hcons (noChg_hcons (noChg_hcons trivial)))))) (by
  iterate 5 refine td ?_
  refine tq (bV true) ?_
  refine tq p ?_
  refine tqp p (by exact px_nil (hp.kept k7)) ?_
  refine tqp (padd p 21) (by exact congrArg one (px_field (off := 21) (hp.kept k7) (fun _ _ => rfl) (fun _ _ => rfl))) ?_
  refine tpc L 21 trivial (hp.kept k7) ?_
  refine tqp (iV n) (by exact hL.2.2 _) ?_
  refine tqp (bV true) (by exact congrArg one (c3_leqT c17)) ?_
  refine tq (bV true) ?_
  refine tq (bV true) ?_
  refine tq p ?_
  refine tqp p (by exact px_nil (hp.kept k7)) ?_
  refine tqp (padd p 21) (by exact congrArg one (px_field (off := 21) (hp.kept k7) (fun _ _ => rfl) (fun _ _ => rfl))) ?_
  refine tpc L 21 (noChg_hcons trivial) (hp.kept k7) ?_
  refine tqp (iV n) (by exact hL.2.2 _) ?_
  refine tqp (bV true) (by exact congrArg one (c3_eqlT c18)) ?_
  refine tq (bV true) ?_
  refine tq p ?_
  refine tqp p (by exact px_nil (hp.kept k7)) ?_
  refine tqp (padd p 21) (by exact congrArg one (px_field (off := 21) (hp.kept k7) (fun _ _ => rfl) (fun _ _ => rfl))) ?_
  refine tpc L 21 (noChg_hcons (noChg_hcons trivial)) (hp.kept k7) ?_
  refine tqp q0 (by exact congrArg one hq0) ?_
  refine tqp (padd q0 0) (by exact congrArg one (px_field (off := 0) (hz0.kept k7) (fun _ _ => rfl) (fun _ _ => rfl))) ?_
  refine take_any (v := iV (K 0)) (fs := (pfacts q0 0 [iV (K 0)])) rfl rfl rfl (noChg_hcons (noChg_hcons (noChg_hcons trivial))) (by exact px_cell (P := Tryz.prog) (t := 3) (k := 0) (v := iV (K 0)) rfl (hz0.kept k7) (by rw [← hK0]; rfl)) rfl rfl ?_
  refine tqp (bV false) (by exact congrArg one (c3_eqlF c19)) ?_
  refine tq (bV false) ?_
  refine tq (bV true) ?_
  refine tq (bV true) ?_
  refine tq (bV true) ?_
  refine tq p ?_
  refine tq p ?_
  refine tqp p (by exact px_nil (hp.kept k7)) ?_
  refine tqp (padd p 7) (by exact congrArg one (px_field (off := 7) (hp.kept k7) (fun _ _ => rfl) (fun _ _ => rfl))) ?_
  refine tpc (sV x.name) 7 (noChg_hcons (noChg_hcons (noChg_hcons (noChg_hcons trivial)))) (hp.kept k7) ?_
  refine tq p ?_
  refine tqp p (by exact px_nil (hp.kept k7)) ?_
  refine tqp (padd p 21) (by exact congrArg one (px_field (off := 21) (hp.kept k7) (fun _ _ => rfl) (fun _ _ => rfl))) ?_
  refine tpc L 21 (noChg_hcons (noChg_hcons (noChg_hcons (noChg_hcons (noChg_hcons trivial))))) (hp.kept k7) ?_
  refine tqp (.agg [iV 0, iV 0, iV 0, iV 0, sV [], bV false, iV 0, sV x.name, iV 0, iV 0, iV 0, iV 0, bV false, bV false, iV 0, iV 0, iV 0, iV 0, bV false, bV false, iV 0, L]) (by exact congrArg one (build_of (ps := [(2, sV x.name), (5, L)]) (l2 := [iV 0, iV 0, iV 0, iV 0, sV [], bV false, iV 0, sV x.name, iV 0, iV 0, iV 0, iV 0, bV false, bV false, iV 0, iV 0, iV 0, iV 0, bV false, bV false, iV 0, L]) rfl rfl rfl (fill_lit (off := 7) rfl rfl rfl (fill_raw (l := [iV 0, iV 0, iV 0, iV 0, sV [], bV false, iV 0, sV x.name, iV 0, iV 0, iV 0, iV 0, bV false, bV false, iV 0, iV 0, iV 0, iV 0, bV false, bV false, iV 0, .lit (.slice none 0 0)]) (off := 21) rfl hL.1 (show 21 < 22 from by decide) rfl)))) ?_
  refine take_loud rfl rfl rfl rfl rfl ?_
  refine tw ?_
  refine tw ?_
  rfl) (by rfl) (by rfl) (by rfl) (clone_body Tryz.func175 rfl) rfl rfl ?_
 refine (bare_runs Γ x n (⟨0, 0, 0, 0, [], false, 0, x.name, 0, 0, 0, 0, false, false, 0, 0, 0, 0, false, false, 0⟩ : ND) n L L p H7 (hp.kept k7) hL hL).mono ?_
 rintro ⟨ex8, fr8, H8, v8⟩ ⟨hv8, k8⟩
 have k8 : Kept H7.next H7 H8 := k8
 have KH8 : Kept h.next h H8 := k7.trans (k8.less (Nat.le_trans (Nat.le_refl _) k7.next))
 by_cases c20 : bare x n (⟨0, 0, 0, 0, [], false, 0, x.name, 0, 0, 0, 0, false, false, 0, 0, 0, 0, false, false, 0⟩ : ND) n = true
 have hv8 : v8 = bV true := hv8.trans (congrArg (fun b => SV.lit (.bool b)) c20)
 subst hv8
 refine ⟨(stands_hyes t_right_o11_41_43 (stands_hyes t_right_o11_37_43 (stands_hyes t_right_o11_27_43 (stands_hyes t_right_o11_24_43 (stands_hyes t_right_o11_17_43 (stands_hyes t_right_o11_9_43 stands_nil)))))), _, (drop_hyes t_right_o11_41_43 (drop_hyes t_right_o11_37_43 (drop_hyes t_right_o11_27_43 (drop_hyes t_right_o11_24_43 (drop_hyes t_right_o11_17_43 (drop_hyes t_right_o11_9_43 rfl)))))), ?_⟩
 refine drawn_end (m' := 70368744177663) (held' := []) (hp' := H8) (by
  iterate 44 refine td ?_
  refine tq (bV true) ?_
  refine tq (bV true) ?_
  rfl) (by rfl) (by rfl) ?_
 refine blk_n ?_
 refine then_n ?_
 have eF : right_j22 x n K R true = right x n a K R := (by simp only [right, if_neg c1, if_neg c4, if_neg c8, if_neg c12, if_pos c15, if_pos c16, if_pos c17, if_pos c18, if_neg c19, if_pos c20])
 exact (right_j22_runs Γ p x L n K R hL hn true _ _ rfl rfl (hp.kept KH8) (hk.kept KH8)).mono fun o ⟨r, hr, ht⟩ => ⟨r, hr, ht.1.trans (congrArg (fun (x : Bool) => (bV x : SV)) eF), (Kept.then KH8 ht.2)⟩
 have hv8 : v8 = bV false := hv8.trans (congrArg (fun b => SV.lit (.bool b)) (Bool.eq_false_iff.2 c20))
 subst hv8
 refine ⟨(stands_hyes t_right_o11_41_43 (stands_hyes t_right_o11_37_43 (stands_hyes t_right_o11_27_43 (stands_hyes t_right_o11_24_43 (stands_hyes t_right_o11_17_43 (stands_hyes t_right_o11_9_43 stands_nil)))))), _, (drop_hyes t_right_o11_41_43 (drop_hyes t_right_o11_37_43 (drop_hyes t_right_o11_27_43 (drop_hyes t_right_o11_24_43 (drop_hyes t_right_o11_17_43 (drop_hyes t_right_o11_9_43 rfl)))))), ?_⟩
 refine drawn_end (m' := 70368744177663) (held' := []) (hp' := H8) (by
  iterate 44 refine td ?_
  refine tq (bV false) ?_
  refine tq (bV false) ?_
  rfl) (by rfl) (by rfl) ?_
 refine blk_n ?_
 refine then_n ?_
 have eF : right_j22 x n K R false = right x n a K R := (by simp only [right, if_neg c1, if_neg c4, if_neg c8, if_neg c12, if_pos c15, if_pos c16, if_pos c17, if_pos c18, if_neg c19, if_neg c20])
 exact (right_j22_runs Γ p x L n K R hL hn false _ _ rfl rfl (hp.kept KH8) (hk.kept KH8)).mono fun o ⟨r, hr, ht⟩ => ⟨r, hr, ht.1.trans (congrArg (fun (x : Bool) => (bV x : SV)) eF), (Kept.then KH8 ht.2)⟩
 have t_right_o11_41_43 : Nat.testBit (descOf 41 right_o11.toList 0 0) 43 = true := rfl
 have t_right_o11_37_43 : Nat.testBit (descOf 37 right_o11.toList 0 0) 43 = true := rfl
 have t_right_o11_17_43 : Nat.testBit (descOf 17 right_o11.toList 0 0) 43 = true := rfl
 have t_right_o11_9_43 : Nat.testBit (descOf 9 right_o11.toList 0 0) 43 = true := rfl
 refine drawn_cG (i := 43) (f := 175) (args := [p, .agg [iV 0, iV 0, iV 0, iV 0, sV [], bV false, iV 0, sV x.name, iV 0, iV 0, iV 0, iV 0, bV false, bV false, iV 0, iV 0, iV 0, iV 0, bV false, bV false, iV 0, L]]) (m' := 8796093022207) (held' := hcons (descOf 41 right_o11.toList 0 0) (pfacts p 21 [L]) (hcons (descOf 37 right_o11.toList 0 0) (pfacts p 7 [sV x.name]) (hcons (descOf 17 right_o11.toList 0 0) (pfacts p 21 [L]) (hcons (descOf 9 right_o11.toList 0 0) (pfacts p 21 [L]) ([]))))) (hp := H7) (noChg_hcons (noChg_hcons (noChg_hcons (noChg_hcons trivial)))) (by
  iterate 5 refine td ?_
  refine tq (bV true) ?_
  refine tq p ?_
  refine tqp p (by exact px_nil (hp.kept k7)) ?_
  refine tqp (padd p 21) (by exact congrArg one (px_field (off := 21) (hp.kept k7) (fun _ _ => rfl) (fun _ _ => rfl))) ?_
  refine tpc L 21 trivial (hp.kept k7) ?_
  refine tqp (iV n) (by exact hL.2.2 _) ?_
  refine tqp (bV true) (by exact congrArg one (c3_leqT c17)) ?_
  refine tq (bV true) ?_
  refine tq (bV true) ?_
  refine tq p ?_
  refine tqp p (by exact px_nil (hp.kept k7)) ?_
  refine tqp (padd p 21) (by exact congrArg one (px_field (off := 21) (hp.kept k7) (fun _ _ => rfl) (fun _ _ => rfl))) ?_
  refine tpc L 21 (noChg_hcons trivial) (hp.kept k7) ?_
  refine tqp (iV n) (by exact hL.2.2 _) ?_
  refine tqp (bV false) (by exact congrArg one (c3_eqlF c18)) ?_
  refine tq (bV false) ?_
  iterate 8 refine tu ?_
  refine tq (bV false) ?_
  refine tq (bV true) ?_
  refine tq (bV true) ?_
  refine tq (bV true) ?_
  refine tq p ?_
  refine tq p ?_
  refine tqp p (by exact px_nil (hp.kept k7)) ?_
  refine tqp (padd p 7) (by exact congrArg one (px_field (off := 7) (hp.kept k7) (fun _ _ => rfl) (fun _ _ => rfl))) ?_
  refine tpc (sV x.name) 7 (noChg_hcons (noChg_hcons trivial)) (hp.kept k7) ?_
  refine tq p ?_
  refine tqp p (by exact px_nil (hp.kept k7)) ?_
  refine tqp (padd p 21) (by exact congrArg one (px_field (off := 21) (hp.kept k7) (fun _ _ => rfl) (fun _ _ => rfl))) ?_
  refine tpc L 21 (noChg_hcons (noChg_hcons (noChg_hcons trivial))) (hp.kept k7) ?_
  refine tqp (.agg [iV 0, iV 0, iV 0, iV 0, sV [], bV false, iV 0, sV x.name, iV 0, iV 0, iV 0, iV 0, bV false, bV false, iV 0, iV 0, iV 0, iV 0, bV false, bV false, iV 0, L]) (by exact congrArg one (build_of (ps := [(2, sV x.name), (5, L)]) (l2 := [iV 0, iV 0, iV 0, iV 0, sV [], bV false, iV 0, sV x.name, iV 0, iV 0, iV 0, iV 0, bV false, bV false, iV 0, iV 0, iV 0, iV 0, bV false, bV false, iV 0, L]) rfl rfl rfl (fill_lit (off := 7) rfl rfl rfl (fill_raw (l := [iV 0, iV 0, iV 0, iV 0, sV [], bV false, iV 0, sV x.name, iV 0, iV 0, iV 0, iV 0, bV false, bV false, iV 0, iV 0, iV 0, iV 0, bV false, bV false, iV 0, .lit (.slice none 0 0)]) (off := 21) rfl hL.1 (show 21 < 22 from by decide) rfl)))) ?_
  refine take_loud rfl rfl rfl rfl rfl ?_
  refine tw ?_
  refine tw ?_
  rfl) (by rfl) (by rfl) (by rfl) (clone_body Tryz.func175 rfl) rfl rfl ?_
 refine (bare_runs Γ x n (⟨0, 0, 0, 0, [], false, 0, x.name, 0, 0, 0, 0, false, false, 0, 0, 0, 0, false, false, 0⟩ : ND) n L L p H7 (hp.kept k7) hL hL).mono ?_
 rintro ⟨ex9, fr9, H9, v9⟩ ⟨hv9, k9⟩
 have k9 : Kept H7.next H7 H9 := k9
 have KH9 : Kept h.next h H9 := k7.trans (k9.less (Nat.le_trans (Nat.le_refl _) k7.next))
 by_cases c21 : bare x n (⟨0, 0, 0, 0, [], false, 0, x.name, 0, 0, 0, 0, false, false, 0, 0, 0, 0, false, false, 0⟩ : ND) n = true
 have hv9 : v9 = bV true := hv9.trans (congrArg (fun b => SV.lit (.bool b)) c21)
 subst hv9
 refine ⟨(stands_hyes t_right_o11_41_43 (stands_hyes t_right_o11_37_43 (stands_hyes t_right_o11_17_43 (stands_hyes t_right_o11_9_43 stands_nil)))), _, (drop_hyes t_right_o11_41_43 (drop_hyes t_right_o11_37_43 (drop_hyes t_right_o11_17_43 (drop_hyes t_right_o11_9_43 rfl)))), ?_⟩
 refine drawn_end (m' := 70368744177663) (held' := []) (hp' := H9) (by
  iterate 44 refine td ?_
  refine tq (bV true) ?_
  refine tq (bV true) ?_
  rfl) (by rfl) (by rfl) ?_
 refine blk_n ?_
 refine then_n ?_
 have eF : right_j22 x n K R true = right x n a K R := (by simp only [right, if_neg c1, if_neg c4, if_neg c8, if_neg c12, if_pos c15, if_pos c16, if_pos c17, if_neg c18, if_pos c21])
 exact (right_j22_runs Γ p x L n K R hL hn true _ _ rfl rfl (hp.kept KH9) (hk.kept KH9)).mono fun o ⟨r, hr, ht⟩ => ⟨r, hr, ht.1.trans (congrArg (fun (x : Bool) => (bV x : SV)) eF), (Kept.then KH9 ht.2)⟩
 have hv9 : v9 = bV false := hv9.trans (congrArg (fun b => SV.lit (.bool b)) (Bool.eq_false_iff.2 c21))
 subst hv9
 refine ⟨(stands_hyes t_right_o11_41_43 (stands_hyes t_right_o11_37_43 (stands_hyes t_right_o11_17_43 (stands_hyes t_right_o11_9_43 stands_nil)))), _, (drop_hyes t_right_o11_41_43 (drop_hyes t_right_o11_37_43 (drop_hyes t_right_o11_17_43 (drop_hyes t_right_o11_9_43 rfl)))), ?_⟩
 refine drawn_end (m' := 70368744177663) (held' := []) (hp' := H9) (by
  iterate 44 refine td ?_
  refine tq (bV false) ?_
  refine tq (bV false) ?_
  rfl) (by rfl) (by rfl) ?_
 refine blk_n ?_
 refine then_n ?_
 have eF : right_j22 x n K R false = right x n a K R := (by simp only [right, if_neg c1, if_neg c4, if_neg c8, if_neg c12, if_pos c15, if_pos c16, if_pos c17, if_neg c18, if_neg c21])
 exact (right_j22_runs Γ p x L n K R hL hn false _ _ rfl rfl (hp.kept KH9) (hk.kept KH9)).mono fun o ⟨r, hr, ht⟩ => ⟨r, hr, ht.1.trans (congrArg (fun (x : Bool) => (bV x : SV)) eF), (Kept.then KH9 ht.2)⟩
 refine drawn_end (m' := 70368744177663) (held' := hcons (descOf 9 right_o11.toList 0 0) (pfacts p 21 [L]) ([])) (hp' := H7) (by
  iterate 5 refine td ?_
  refine tq (bV true) ?_
  refine tq p ?_
  refine tqp p (by exact px_nil (hp.kept k7)) ?_
  refine tqp (padd p 21) (by exact congrArg one (px_field (off := 21) (hp.kept k7) (fun _ _ => rfl) (fun _ _ => rfl))) ?_
  refine tpc L 21 trivial (hp.kept k7) ?_
  refine tqp (iV n) (by exact hL.2.2 _) ?_
  refine tqp (bV false) (by exact congrArg one (c3_leqF c17)) ?_
  refine tq (bV false) ?_
  refine tq (bV false) ?_
  iterate 17 refine tu ?_
  refine tq (bV false) ?_
  refine tq (bV false) ?_
  iterate 11 refine tu ?_
  refine tq (bV false) ?_
  refine tq (bV false) ?_
  rfl) (by rfl) (by rfl) ?_
 refine blk_n ?_
 refine then_n ?_
 have eF : right_j22 x n K R false = right x n a K R := (by simp only [right, if_neg c1, if_neg c4, if_neg c8, if_neg c12, if_pos c15, if_pos c16, if_neg c17])
 exact (right_j22_runs Γ p x L n K R hL hn false _ _ rfl rfl (hp.kept k7) (hk.kept k7)).mono fun o ⟨r, hr, ht⟩ => ⟨r, hr, ht.1.trans (congrArg (fun (x : Bool) => (bV x : SV)) eF), (Kept.then k7 ht.2)⟩
 have hv7 : v7 = bV false := hv7.trans (congrArg (fun b => SV.lit (.bool b)) (Bool.eq_false_iff.2 c16))
 subst hv7
 refine ⟨(stands_hyes t_right_o11_3_4 stands_nil), _, (drop_hyes t_right_o11_3_4 rfl), ?_⟩
 refine drawn_end (m' := 70368744177663) (held' := []) (hp' := H7) (by
  iterate 5 refine td ?_
  refine tq (bV false) ?_
  iterate 6 refine tu ?_
  refine tq (bV false) ?_
  refine tq (bV false) ?_
  iterate 17 refine tu ?_
  refine tq (bV false) ?_
  refine tq (bV false) ?_
  iterate 11 refine tu ?_
  refine tq (bV false) ?_
  refine tq (bV false) ?_
  rfl) (by rfl) (by rfl) ?_
 refine blk_n ?_
 refine then_n ?_
 have eF : right_j22 x n K R false = right x n a K R := (by simp only [right, if_neg c1, if_neg c4, if_neg c8, if_neg c12, if_pos c15, if_neg c16])
 exact (right_j22_runs Γ p x L n K R hL hn false _ _ rfl rfl (hp.kept k7) (hk.kept k7)).mono fun o ⟨r, hr, ht⟩ => ⟨r, hr, ht.1.trans (congrArg (fun (x : Bool) => (bV x : SV)) eF), (Kept.then k7 ht.2)⟩
 refine oqp (bV false) (by exact congrArg one (c3_eqlF c15)) ?_
 refine oq (bV false) ?_
 refine nt ?_
 refine runs_cond false rfl ?_
 refine sr ?_
 by_cases c22 : x.k = 5
 refine oqp (bV true) (by exact congrArg one (c3_eqlT c22)) ?_
 refine oq (bV true) ?_
 refine nt ?_
 refine runs_cond true rfl ?_
 refine runs_drawn (ops := right_o13) rfl ?_
 have t_right_o13_3_4 : Nat.testBit (descOf 3 right_o13.toList 0 0) 4 = true := rfl
 refine drawn_cG (i := 4) (f := 178) (args := [sV x.name]) (m' := 15) (held' := hcons (descOf 3 right_o13.toList 0 0) (pfacts p 7 [sV x.name]) ([])) (hp := h) (noChg_hcons trivial) (by
  refine tq p ?_
  refine tqp p (by exact px_nil hp) ?_
  refine tqp (padd p 7) (by exact congrArg one (px_field (off := 7) hp (fun _ _ => rfl) (fun _ _ => rfl))) ?_
  refine tpc (sV x.name) 7 trivial hp ?_
  refine take_loud rfl rfl rfl rfl rfl ?_
  iterate 22 refine tw ?_
  rfl) (by rfl) (by rfl) (by rfl) (clone_body Tryz.func178 rfl) rfl rfl ?_
 refine (isUnary_runs Γ x.name h ).mono ?_
 rintro ⟨ex10, fr10, H10, v10⟩ ⟨hv10, k10⟩
 have k10 : Kept h.next h H10 := k10
 by_cases c23 : isUnary x.name = true
 have hv10 : v10 = bV true := hv10.trans (congrArg (fun b => SV.lit (.bool b)) c23)
 subst hv10
 refine ⟨(stands_hyes t_right_o13_3_4 stands_nil), _, (drop_hyes t_right_o13_3_4 rfl), ?_⟩
 by_cases c24 : n = 1
 have t_right_o13_22_24 : Nat.testBit (descOf 22 right_o13.toList 0 0) 24 = true := rfl
 have t_right_o13_18_24 : Nat.testBit (descOf 18 right_o13.toList 0 0) 24 = true := rfl
 have t_right_o13_9_24 : Nat.testBit (descOf 9 right_o13.toList 0 0) 24 = true := rfl
 refine drawn_cG (i := 24) (f := 175) (args := [p, .agg [iV 0, iV 0, iV 0, iV 0, sV [], bV false, iV 0, sV x.name, iV 0, iV 0, iV 0, iV 0, bV false, bV false, iV 0, iV 0, iV 0, iV 0, bV false, bV false, iV 0, L]]) (m' := 16777215) (held' := hcons (descOf 22 right_o13.toList 0 0) (pfacts p 21 [L]) (hcons (descOf 18 right_o13.toList 0 0) (pfacts p 7 [sV x.name]) (hcons (descOf 9 right_o13.toList 0 0) (pfacts p 21 [L]) ([])))) (hp := H10) (noChg_hcons (noChg_hcons (noChg_hcons trivial))) (by
  iterate 5 refine td ?_
  refine tq (bV true) ?_
  refine tq p ?_
  refine tqp p (by exact px_nil (hp.kept k10)) ?_
  refine tqp (padd p 21) (by exact congrArg one (px_field (off := 21) (hp.kept k10) (fun _ _ => rfl) (fun _ _ => rfl))) ?_
  refine tpc L 21 trivial (hp.kept k10) ?_
  refine tqp (iV n) (by exact hL.2.2 _) ?_
  refine tqp (bV true) (by exact congrArg one (c3_eqlT c24)) ?_
  refine tq (bV true) ?_
  refine tq (bV true) ?_
  refine tq p ?_
  refine tq p ?_
  refine tqp p (by exact px_nil (hp.kept k10)) ?_
  refine tqp (padd p 7) (by exact congrArg one (px_field (off := 7) (hp.kept k10) (fun _ _ => rfl) (fun _ _ => rfl))) ?_
  refine tpc (sV x.name) 7 (noChg_hcons trivial) (hp.kept k10) ?_
  refine tq p ?_
  refine tqp p (by exact px_nil (hp.kept k10)) ?_
  refine tqp (padd p 21) (by exact congrArg one (px_field (off := 21) (hp.kept k10) (fun _ _ => rfl) (fun _ _ => rfl))) ?_
  refine tpc L 21 (noChg_hcons (noChg_hcons trivial)) (hp.kept k10) ?_
  refine tqp (.agg [iV 0, iV 0, iV 0, iV 0, sV [], bV false, iV 0, sV x.name, iV 0, iV 0, iV 0, iV 0, bV false, bV false, iV 0, iV 0, iV 0, iV 0, bV false, bV false, iV 0, L]) (by exact congrArg one (build_of (ps := [(2, sV x.name), (5, L)]) (l2 := [iV 0, iV 0, iV 0, iV 0, sV [], bV false, iV 0, sV x.name, iV 0, iV 0, iV 0, iV 0, bV false, bV false, iV 0, iV 0, iV 0, iV 0, bV false, bV false, iV 0, L]) rfl rfl rfl (fill_lit (off := 7) rfl rfl rfl (fill_raw (l := [iV 0, iV 0, iV 0, iV 0, sV [], bV false, iV 0, sV x.name, iV 0, iV 0, iV 0, iV 0, bV false, bV false, iV 0, iV 0, iV 0, iV 0, bV false, bV false, iV 0, .lit (.slice none 0 0)]) (off := 21) rfl hL.1 (show 21 < 22 from by decide) rfl)))) ?_
  refine take_loud rfl rfl rfl rfl rfl ?_
  refine tw ?_
  refine tw ?_
  rfl) (by rfl) (by rfl) (by rfl) (clone_body Tryz.func175 rfl) rfl rfl ?_
 refine (bare_runs Γ x n (⟨0, 0, 0, 0, [], false, 0, x.name, 0, 0, 0, 0, false, false, 0, 0, 0, 0, false, false, 0⟩ : ND) n L L p H10 (hp.kept k10) hL hL).mono ?_
 rintro ⟨ex11, fr11, H11, v11⟩ ⟨hv11, k11⟩
 have k11 : Kept H10.next H10 H11 := k11
 have KH11 : Kept h.next h H11 := k10.trans (k11.less (Nat.le_trans (Nat.le_refl _) k10.next))
 by_cases c25 : bare x n (⟨0, 0, 0, 0, [], false, 0, x.name, 0, 0, 0, 0, false, false, 0, 0, 0, 0, false, false, 0⟩ : ND) n = true
 have hv11 : v11 = bV true := hv11.trans (congrArg (fun b => SV.lit (.bool b)) c25)
 subst hv11
 refine ⟨(stands_hyes t_right_o13_22_24 (stands_hyes t_right_o13_18_24 (stands_hyes t_right_o13_9_24 stands_nil))), _, (drop_hyes t_right_o13_22_24 (drop_hyes t_right_o13_18_24 (drop_hyes t_right_o13_9_24 rfl))), ?_⟩
 refine drawn_end (m' := 134217727) (held' := []) (hp' := H11) (by
  iterate 25 refine td ?_
  refine tq (bV true) ?_
  refine tq (bV true) ?_
  rfl) (by rfl) (by rfl) ?_
 refine blk_n ?_
 refine then_n ?_
 have eF : right_j22 x n K R true = right x n a K R := (by simp only [right, if_neg c1, if_neg c4, if_neg c8, if_neg c12, if_neg c15, if_pos c22, if_pos c23, if_pos c24, if_pos c25])
 exact (right_j22_runs Γ p x L n K R hL hn true _ _ rfl rfl (hp.kept KH11) (hk.kept KH11)).mono fun o ⟨r, hr, ht⟩ => ⟨r, hr, ht.1.trans (congrArg (fun (x : Bool) => (bV x : SV)) eF), (Kept.then KH11 ht.2)⟩
 have hv11 : v11 = bV false := hv11.trans (congrArg (fun b => SV.lit (.bool b)) (Bool.eq_false_iff.2 c25))
 subst hv11
 refine ⟨(stands_hyes t_right_o13_22_24 (stands_hyes t_right_o13_18_24 (stands_hyes t_right_o13_9_24 stands_nil))), _, (drop_hyes t_right_o13_22_24 (drop_hyes t_right_o13_18_24 (drop_hyes t_right_o13_9_24 rfl))), ?_⟩
 refine drawn_end (m' := 134217727) (held' := []) (hp' := H11) (by
  iterate 25 refine td ?_
  refine tq (bV false) ?_
  refine tq (bV false) ?_
  rfl) (by rfl) (by rfl) ?_
 refine blk_n ?_
 refine then_n ?_
 have eF : right_j22 x n K R false = right x n a K R := (by simp only [right, if_neg c1, if_neg c4, if_neg c8, if_neg c12, if_neg c15, if_pos c22, if_pos c23, if_pos c24, if_neg c25])
 exact (right_j22_runs Γ p x L n K R hL hn false _ _ rfl rfl (hp.kept KH11) (hk.kept KH11)).mono fun o ⟨r, hr, ht⟩ => ⟨r, hr, ht.1.trans (congrArg (fun (x : Bool) => (bV x : SV)) eF), (Kept.then KH11 ht.2)⟩
 refine drawn_end (m' := 134217727) (held' := hcons (descOf 9 right_o13.toList 0 0) (pfacts p 21 [L]) ([])) (hp' := H10) (by
  iterate 5 refine td ?_
  refine tq (bV true) ?_
  refine tq p ?_
  refine tqp p (by exact px_nil (hp.kept k10)) ?_
  refine tqp (padd p 21) (by exact congrArg one (px_field (off := 21) (hp.kept k10) (fun _ _ => rfl) (fun _ _ => rfl))) ?_
  refine tpc L 21 trivial (hp.kept k10) ?_
  refine tqp (iV n) (by exact hL.2.2 _) ?_
  refine tqp (bV false) (by exact congrArg one (c3_eqlF c24)) ?_
  refine tq (bV false) ?_
  refine tq (bV false) ?_
  iterate 11 refine tu ?_
  refine tq (bV false) ?_
  refine tq (bV false) ?_
  rfl) (by rfl) (by rfl) ?_
 refine blk_n ?_
 refine then_n ?_
 have eF : right_j22 x n K R false = right x n a K R := (by simp only [right, if_neg c1, if_neg c4, if_neg c8, if_neg c12, if_neg c15, if_pos c22, if_pos c23, if_neg c24])
 exact (right_j22_runs Γ p x L n K R hL hn false _ _ rfl rfl (hp.kept k10) (hk.kept k10)).mono fun o ⟨r, hr, ht⟩ => ⟨r, hr, ht.1.trans (congrArg (fun (x : Bool) => (bV x : SV)) eF), (Kept.then k10 ht.2)⟩
 have hv10 : v10 = bV false := hv10.trans (congrArg (fun b => SV.lit (.bool b)) (Bool.eq_false_iff.2 c23))
 subst hv10
 refine ⟨(stands_hyes t_right_o13_3_4 stands_nil), _, (drop_hyes t_right_o13_3_4 rfl), ?_⟩
 refine drawn_end (m' := 134217727) (held' := []) (hp' := H10) (by
  iterate 5 refine td ?_
  refine tq (bV false) ?_
  iterate 6 refine tu ?_
  refine tq (bV false) ?_
  refine tq (bV false) ?_
  iterate 11 refine tu ?_
  refine tq (bV false) ?_
  refine tq (bV false) ?_
  rfl) (by rfl) (by rfl) ?_
 refine blk_n ?_
 refine then_n ?_
 have eF : right_j22 x n K R false = right x n a K R := (by simp only [right, if_neg c1, if_neg c4, if_neg c8, if_neg c12, if_neg c15, if_pos c22, if_neg c23])
 exact (right_j22_runs Γ p x L n K R hL hn false _ _ rfl rfl (hp.kept k10) (hk.kept k10)).mono fun o ⟨r, hr, ht⟩ => ⟨r, hr, ht.1.trans (congrArg (fun (x : Bool) => (bV x : SV)) eF), (Kept.then k10 ht.2)⟩
 refine oqp (bV false) (by exact congrArg one (c3_eqlF c22)) ?_
 refine oq (bV false) ?_
 refine nt ?_
 refine runs_cond false rfl ?_
 refine sr ?_
 by_cases c26 : x.k = 6
 refine oqp (bV true) (by exact congrArg one (c3_eqlT c26)) ?_
 refine oq (bV true) ?_
 refine nt ?_
 refine runs_cond true rfl ?_
 refine runs_drawn (ops := right_o15) rfl ?_
 have t_right_o15_3_4 : Nat.testBit (descOf 3 right_o15.toList 0 0) 4 = true := rfl
 refine drawn_cG (i := 4) (f := 179) (args := [sV x.name]) (m' := 15) (held' := hcons (descOf 3 right_o15.toList 0 0) (pfacts p 7 [sV x.name]) ([])) (hp := h) (noChg_hcons trivial) (by
  refine tq p ?_
  refine tqp p (by exact px_nil hp) ?_
  refine tqp (padd p 7) (by exact congrArg one (px_field (off := 7) hp (fun _ _ => rfl) (fun _ _ => rfl))) ?_
  refine tpc (sV x.name) 7 trivial hp ?_
  refine take_loud rfl rfl rfl rfl rfl ?_
  iterate 22 refine tw ?_
  rfl) (by rfl) (by rfl) (by rfl) (clone_body Tryz.func179 rfl) rfl rfl ?_
 refine (isBinary_runs Γ x.name h ).mono ?_
 rintro ⟨ex12, fr12, H12, v12⟩ ⟨hv12, k12⟩
 have k12 : Kept h.next h H12 := k12
 by_cases c27 : isBinary x.name = true
 have hv12 : v12 = bV true := hv12.trans (congrArg (fun b => SV.lit (.bool b)) c27)
 subst hv12
 refine ⟨(stands_hyes t_right_o15_3_4 stands_nil), _, (drop_hyes t_right_o15_3_4 rfl), ?_⟩
 by_cases c28 : n = 2
 have t_right_o15_22_24 : Nat.testBit (descOf 22 right_o15.toList 0 0) 24 = true := rfl
 have t_right_o15_18_24 : Nat.testBit (descOf 18 right_o15.toList 0 0) 24 = true := rfl
 have t_right_o15_9_24 : Nat.testBit (descOf 9 right_o15.toList 0 0) 24 = true := rfl
 refine drawn_cG (i := 24) (f := 175) (args := [p, .agg [iV 0, iV 0, iV 0, iV 0, sV [], bV false, iV 0, sV x.name, iV 0, iV 0, iV 0, iV 0, bV false, bV false, iV 0, iV 0, iV 0, iV 0, bV false, bV false, iV 0, L]]) (m' := 16777215) (held' := hcons (descOf 22 right_o15.toList 0 0) (pfacts p 21 [L]) (hcons (descOf 18 right_o15.toList 0 0) (pfacts p 7 [sV x.name]) (hcons (descOf 9 right_o15.toList 0 0) (pfacts p 21 [L]) ([])))) (hp := H12) (noChg_hcons (noChg_hcons (noChg_hcons trivial))) (by
  iterate 5 refine td ?_
  refine tq (bV true) ?_
  refine tq p ?_
  refine tqp p (by exact px_nil (hp.kept k12)) ?_
  refine tqp (padd p 21) (by exact congrArg one (px_field (off := 21) (hp.kept k12) (fun _ _ => rfl) (fun _ _ => rfl))) ?_
  refine tpc L 21 trivial (hp.kept k12) ?_
  refine tqp (iV n) (by exact hL.2.2 _) ?_
  refine tqp (bV true) (by exact congrArg one (c3_eqlT c28)) ?_
  refine tq (bV true) ?_
  refine tq (bV true) ?_
  refine tq p ?_
  refine tq p ?_
  refine tqp p (by exact px_nil (hp.kept k12)) ?_
  refine tqp (padd p 7) (by exact congrArg one (px_field (off := 7) (hp.kept k12) (fun _ _ => rfl) (fun _ _ => rfl))) ?_
  refine tpc (sV x.name) 7 (noChg_hcons trivial) (hp.kept k12) ?_
  refine tq p ?_
  refine tqp p (by exact px_nil (hp.kept k12)) ?_
  refine tqp (padd p 21) (by exact congrArg one (px_field (off := 21) (hp.kept k12) (fun _ _ => rfl) (fun _ _ => rfl))) ?_
  refine tpc L 21 (noChg_hcons (noChg_hcons trivial)) (hp.kept k12) ?_
  refine tqp (.agg [iV 0, iV 0, iV 0, iV 0, sV [], bV false, iV 0, sV x.name, iV 0, iV 0, iV 0, iV 0, bV false, bV false, iV 0, iV 0, iV 0, iV 0, bV false, bV false, iV 0, L]) (by exact congrArg one (build_of (ps := [(2, sV x.name), (5, L)]) (l2 := [iV 0, iV 0, iV 0, iV 0, sV [], bV false, iV 0, sV x.name, iV 0, iV 0, iV 0, iV 0, bV false, bV false, iV 0, iV 0, iV 0, iV 0, bV false, bV false, iV 0, L]) rfl rfl rfl (fill_lit (off := 7) rfl rfl rfl (fill_raw (l := [iV 0, iV 0, iV 0, iV 0, sV [], bV false, iV 0, sV x.name, iV 0, iV 0, iV 0, iV 0, bV false, bV false, iV 0, iV 0, iV 0, iV 0, bV false, bV false, iV 0, .lit (.slice none 0 0)]) (off := 21) rfl hL.1 (show 21 < 22 from by decide) rfl)))) ?_
  refine take_loud rfl rfl rfl rfl rfl ?_
  refine tw ?_
  refine tw ?_
  rfl) (by rfl) (by rfl) (by rfl) (clone_body Tryz.func175 rfl) rfl rfl ?_
 refine (bare_runs Γ x n (⟨0, 0, 0, 0, [], false, 0, x.name, 0, 0, 0, 0, false, false, 0, 0, 0, 0, false, false, 0⟩ : ND) n L L p H12 (hp.kept k12) hL hL).mono ?_
 rintro ⟨ex13, fr13, H13, v13⟩ ⟨hv13, k13⟩
 have k13 : Kept H12.next H12 H13 := k13
 have KH13 : Kept h.next h H13 := k12.trans (k13.less (Nat.le_trans (Nat.le_refl _) k12.next))
 by_cases c29 : bare x n (⟨0, 0, 0, 0, [], false, 0, x.name, 0, 0, 0, 0, false, false, 0, 0, 0, 0, false, false, 0⟩ : ND) n = true
 have hv13 : v13 = bV true := hv13.trans (congrArg (fun b => SV.lit (.bool b)) c29)
 subst hv13
 refine ⟨(stands_hyes t_right_o15_22_24 (stands_hyes t_right_o15_18_24 (stands_hyes t_right_o15_9_24 stands_nil))), _, (drop_hyes t_right_o15_22_24 (drop_hyes t_right_o15_18_24 (drop_hyes t_right_o15_9_24 rfl))), ?_⟩
 refine drawn_end (m' := 134217727) (held' := []) (hp' := H13) (by
  iterate 25 refine td ?_
  refine tq (bV true) ?_
  refine tq (bV true) ?_
  rfl) (by rfl) (by rfl) ?_
 refine blk_n ?_
 refine then_n ?_
 have eF : right_j22 x n K R true = right x n a K R := (by simp only [right, if_neg c1, if_neg c4, if_neg c8, if_neg c12, if_neg c15, if_neg c22, if_pos c26, if_pos c27, if_pos c28, if_pos c29])
 exact (right_j22_runs Γ p x L n K R hL hn true _ _ rfl rfl (hp.kept KH13) (hk.kept KH13)).mono fun o ⟨r, hr, ht⟩ => ⟨r, hr, ht.1.trans (congrArg (fun (x : Bool) => (bV x : SV)) eF), (Kept.then KH13 ht.2)⟩
 have hv13 : v13 = bV false := hv13.trans (congrArg (fun b => SV.lit (.bool b)) (Bool.eq_false_iff.2 c29))
 subst hv13
 refine ⟨(stands_hyes t_right_o15_22_24 (stands_hyes t_right_o15_18_24 (stands_hyes t_right_o15_9_24 stands_nil))), _, (drop_hyes t_right_o15_22_24 (drop_hyes t_right_o15_18_24 (drop_hyes t_right_o15_9_24 rfl))), ?_⟩
 refine drawn_end (m' := 134217727) (held' := []) (hp' := H13) (by
  iterate 25 refine td ?_
  refine tq (bV false) ?_
  refine tq (bV false) ?_
  rfl) (by rfl) (by rfl) ?_
 refine blk_n ?_
 refine then_n ?_
 have eF : right_j22 x n K R false = right x n a K R := (by simp only [right, if_neg c1, if_neg c4, if_neg c8, if_neg c12, if_neg c15, if_neg c22, if_pos c26, if_pos c27, if_pos c28, if_neg c29])
 exact (right_j22_runs Γ p x L n K R hL hn false _ _ rfl rfl (hp.kept KH13) (hk.kept KH13)).mono fun o ⟨r, hr, ht⟩ => ⟨r, hr, ht.1.trans (congrArg (fun (x : Bool) => (bV x : SV)) eF), (Kept.then KH13 ht.2)⟩
 refine drawn_end (m' := 134217727) (held' := hcons (descOf 9 right_o15.toList 0 0) (pfacts p 21 [L]) ([])) (hp' := H12) (by
  iterate 5 refine td ?_
  refine tq (bV true) ?_
  refine tq p ?_
  refine tqp p (by exact px_nil (hp.kept k12)) ?_
  refine tqp (padd p 21) (by exact congrArg one (px_field (off := 21) (hp.kept k12) (fun _ _ => rfl) (fun _ _ => rfl))) ?_
  refine tpc L 21 trivial (hp.kept k12) ?_
  refine tqp (iV n) (by exact hL.2.2 _) ?_
  refine tqp (bV false) (by exact congrArg one (c3_eqlF c28)) ?_
  refine tq (bV false) ?_
  refine tq (bV false) ?_
  iterate 11 refine tu ?_
  refine tq (bV false) ?_
  refine tq (bV false) ?_
  rfl) (by rfl) (by rfl) ?_
 refine blk_n ?_
 refine then_n ?_
 have eF : right_j22 x n K R false = right x n a K R := (by simp only [right, if_neg c1, if_neg c4, if_neg c8, if_neg c12, if_neg c15, if_neg c22, if_pos c26, if_pos c27, if_neg c28])
 exact (right_j22_runs Γ p x L n K R hL hn false _ _ rfl rfl (hp.kept k12) (hk.kept k12)).mono fun o ⟨r, hr, ht⟩ => ⟨r, hr, ht.1.trans (congrArg (fun (x : Bool) => (bV x : SV)) eF), (Kept.then k12 ht.2)⟩
 have hv12 : v12 = bV false := hv12.trans (congrArg (fun b => SV.lit (.bool b)) (Bool.eq_false_iff.2 c27))
 subst hv12
 refine ⟨(stands_hyes t_right_o15_3_4 stands_nil), _, (drop_hyes t_right_o15_3_4 rfl), ?_⟩
 refine drawn_end (m' := 134217727) (held' := []) (hp' := H12) (by
  iterate 5 refine td ?_
  refine tq (bV false) ?_
  iterate 6 refine tu ?_
  refine tq (bV false) ?_
  refine tq (bV false) ?_
  iterate 11 refine tu ?_
  refine tq (bV false) ?_
  refine tq (bV false) ?_
  rfl) (by rfl) (by rfl) ?_
 refine blk_n ?_
 refine then_n ?_
 have eF : right_j22 x n K R false = right x n a K R := (by simp only [right, if_neg c1, if_neg c4, if_neg c8, if_neg c12, if_neg c15, if_neg c22, if_pos c26, if_neg c27])
 exact (right_j22_runs Γ p x L n K R hL hn false _ _ rfl rfl (hp.kept k12) (hk.kept k12)).mono fun o ⟨r, hr, ht⟩ => ⟨r, hr, ht.1.trans (congrArg (fun (x : Bool) => (bV x : SV)) eF), (Kept.then k12 ht.2)⟩
 refine oqp (bV false) (by exact congrArg one (c3_eqlF c26)) ?_
 refine oq (bV false) ?_
 refine nt ?_
 refine runs_cond false rfl ?_
 refine sr ?_
 by_cases c30 : x.k = 7
 refine oqp (bV true) (by exact congrArg one (c3_eqlT c30)) ?_
 refine oq (bV true) ?_
 refine nt ?_
 refine runs_cond true rfl ?_
 refine runs_region ?_
 refine oq p ?_
 refine oqp p (by exact px_nil hp) ?_
 refine oqp (padd p 7) (by exact congrArg one (px_field (off := 7) hp (fun _ _ => rfl) (fun _ _ => rfl))) ?_
 refine oqf (sV x.name) (pfacts p 7 [sV x.name]) (by exact px_cell (P := Tryz.prog) (t := 9) (k := 7) (v := sV x.name) rfl hp rfl) ?_
 refine ops_c (f := 180) (args := [sV x.name]) rfl rfl rfl (clone_body Tryz.func180 rfl) rfl rfl ?_
 refine (isName_runs Γ x.name h ).mono ?_
 rintro ⟨ex14, fr14, H14, v14⟩ ⟨hv14, k14⟩
 have k14 : Kept h.next h H14 := k14
 by_cases c31 : isName x.name = true
 have hv14 : v14 = bV true := hv14.trans (congrArg (fun b => SV.lit (.bool b)) c31)
 subst hv14
 refine oq (bV true) ?_
 refine oq p ?_
 refine oq p ?_
 refine oqp p (by exact px_nil (hp.kept k14)) ?_
 refine oqp (padd p 7) (by exact congrArg one (px_field (off := 7) (hp.kept k14) (fun _ _ => rfl) (fun _ _ => rfl))) ?_
 refine oqf (sV x.name) (pfacts p 7 [sV x.name]) (by exact px_cell (P := Tryz.prog) (t := 9) (k := 7) (v := sV x.name) rfl (hp.kept k14) rfl) ?_
 refine oq (.agg [iV 0, iV 0, iV 0, iV 0, sV [], bV false, iV 0, sV x.name, iV 0, iV 0, iV 0, iV 0, bV false, bV false, iV 0, iV 0, iV 0, iV 0, bV false, bV false, iV 0, .lit (.slice none 0 0)]) ?_
 refine ops_c (f := 175) (args := [p, .agg [iV 0, iV 0, iV 0, iV 0, sV [], bV false, iV 0, sV x.name, iV 0, iV 0, iV 0, iV 0, bV false, bV false, iV 0, iV 0, iV 0, iV 0, bV false, bV false, iV 0, .lit (.slice none 0 0)]]) rfl rfl rfl (clone_body Tryz.func175 rfl) rfl rfl ?_
 refine (bare_runs Γ x n (⟨0, 0, 0, 0, [], false, 0, x.name, 0, 0, 0, 0, false, false, 0, 0, 0, 0, false, false, 0⟩ : ND) 0 L (.lit (.slice none 0 0)) p H14 (hp.kept k14) hL (lenIs_nil 0)).mono ?_
 rintro ⟨ex15, fr15, H15, v15⟩ ⟨hv15, k15⟩
 have k15 : Kept H14.next H14 H15 := k15
 have KH15 : Kept h.next h H15 := k14.trans (k15.less (Nat.le_trans (Nat.le_refl _) k14.next))
 by_cases c32 : bare x n (⟨0, 0, 0, 0, [], false, 0, x.name, 0, 0, 0, 0, false, false, 0, 0, 0, 0, false, false, 0⟩ : ND) 0 = true
 have hv15 : v15 = bV true := hv15.trans (congrArg (fun b => SV.lit (.bool b)) c32)
 subst hv15
 refine oq (bV true) ?_
 refine oq (bV true) ?_
 refine ops_nil ?_
 refine blk_n ?_
 refine then_n ?_
 have eF : right_j22 x n K R true = right x n a K R := (by simp only [right, if_neg c1, if_neg c4, if_neg c8, if_neg c12, if_neg c15, if_neg c22, if_neg c26, if_pos c30, if_pos c31, if_pos c32])
 exact (right_j22_runs Γ p x L n K R hL hn true _ _ rfl rfl (hp.kept KH15) (hk.kept KH15)).mono fun o ⟨r, hr, ht⟩ => ⟨r, hr, ht.1.trans (congrArg (fun (x : Bool) => (bV x : SV)) eF), (Kept.then KH15 ht.2)⟩
 have hv15 : v15 = bV false := hv15.trans (congrArg (fun b => SV.lit (.bool b)) (Bool.eq_false_iff.2 c32))
 subst hv15
 refine oq (bV false) ?_
 refine oq (bV false) ?_
 refine ops_nil ?_
 refine blk_n ?_
 refine then_n ?_
 have eF : right_j22 x n K R false = right x n a K R := (by simp only [right, if_neg c1, if_neg c4, if_neg c8, if_neg c12, if_neg c15, if_neg c22, if_neg c26, if_pos c30, if_pos c31, if_neg c32])
 exact (right_j22_runs Γ p x L n K R hL hn false _ _ rfl rfl (hp.kept KH15) (hk.kept KH15)).mono fun o ⟨r, hr, ht⟩ => ⟨r, hr, ht.1.trans (congrArg (fun (x : Bool) => (bV x : SV)) eF), (Kept.then KH15 ht.2)⟩
 have hv14 : v14 = bV false := hv14.trans (congrArg (fun b => SV.lit (.bool b)) (Bool.eq_false_iff.2 c31))
 subst hv14
 refine oq (bV false) ?_
 iterate 7 refine ou ?_
 refine oq (bV false) ?_
 refine oq (bV false) ?_
 refine ops_nil ?_
 refine blk_n ?_
 refine then_n ?_
 have eF : right_j22 x n K R false = right x n a K R := (by simp only [right, if_neg c1, if_neg c4, if_neg c8, if_neg c12, if_neg c15, if_neg c22, if_neg c26, if_pos c30, if_neg c31])
 exact (right_j22_runs Γ p x L n K R hL hn false _ _ rfl rfl (hp.kept k14) (hk.kept k14)).mono fun o ⟨r, hr, ht⟩ => ⟨r, hr, ht.1.trans (congrArg (fun (x : Bool) => (bV x : SV)) eF), (Kept.then k14 ht.2)⟩
 refine oqp (bV false) (by exact congrArg one (c3_eqlF c30)) ?_
 refine oq (bV false) ?_
 refine nt ?_
 refine runs_cond false rfl ?_
 refine sr ?_
 by_cases c33 : x.k = 8
 refine oqp (bV true) (by exact congrArg one (c3_eqlT c33)) ?_
 refine oq (bV true) ?_
 refine nt ?_
 refine runs_cond true rfl ?_
 refine runs_drawn (ops := right_o19) rfl ?_
 by_cases c34 : x.rows ≥ 1
 by_cases c35 : n ≥ 1
 by_cases c36 : (n % x.rows) = 0
 have t_right_o19_35_37 : Nat.testBit (descOf 35 right_o19.toList 0 0) 37 = true := rfl
 have t_right_o19_31_37 : Nat.testBit (descOf 31 right_o19.toList 0 0) 37 = true := rfl
 have t_right_o19_22_37 : Nat.testBit (descOf 22 right_o19.toList 0 0) 37 = true := rfl
 have t_right_o19_17_37 : Nat.testBit (descOf 17 right_o19.toList 0 0) 37 = true := rfl
 have t_right_o19_9_37 : Nat.testBit (descOf 9 right_o19.toList 0 0) 37 = true := rfl
 have t_right_o19_3_37 : Nat.testBit (descOf 3 right_o19.toList 0 0) 37 = true := rfl
 refine drawn_cG (i := 37) (f := 175) (args := [p, .agg [iV 0, iV 0, iV 0, iV 0, sV [], bV false, iV 0, sV [], iV 0, iV 0, iV 0, iV 0, bV false, bV false, iV 0, iV 0, iV 0, iV 0, bV false, bV false, iV x.rows, L]]) (m' := 137438953471) (held' := hcons (descOf 35 right_o19.toList 0 0) (pfacts p 21 [L]) (hcons (descOf 31 right_o19.toList 0 0) (pfacts p 20 [iV x.rows]) (hcons (descOf 22 right_o19.toList 0 0) (pfacts p 20 [iV x.rows]) (hcons (descOf 17 right_o19.toList 0 0) (pfacts p 21 [L]) (hcons (descOf 9 right_o19.toList 0 0) (pfacts p 21 [L]) (hcons (descOf 3 right_o19.toList 0 0) (pfacts p 20 [iV x.rows]) ([]))))))) (hp := h) (noChg_hcons (noChg_hcons (noChg_hcons (noChg_hcons (noChg_hcons (noChg_hcons trivial)))))) (by
  refine tq p ?_
  refine tqp p (by exact px_nil hp) ?_
  refine tqp (padd p 20) (by exact congrArg one (px_field (off := 20) hp (fun _ _ => rfl) (fun _ _ => rfl))) ?_
  refine tpc (iV x.rows) 20 trivial hp ?_
  refine tqp (bV true) (by exact congrArg one (c3_geqT c34)) ?_
  refine tq (bV true) ?_
  refine tq p ?_
  refine tqp p (by exact px_nil hp) ?_
  refine tqp (padd p 21) (by exact congrArg one (px_field (off := 21) hp (fun _ _ => rfl) (fun _ _ => rfl))) ?_
  refine tpc L 21 (noChg_hcons trivial) hp ?_
  refine tqp (iV n) (by exact hL.2.2 _) ?_
  refine tqp (bV true) (by exact congrArg one (c3_geqT c35)) ?_
  refine tq (bV true) ?_
  refine tq (bV true) ?_
  refine tq p ?_
  refine tqp p (by exact px_nil hp) ?_
  refine tqp (padd p 21) (by exact congrArg one (px_field (off := 21) hp (fun _ _ => rfl) (fun _ _ => rfl))) ?_
  refine tpc L 21 (noChg_hcons (noChg_hcons trivial)) hp ?_
  refine tqp (iV n) (by exact hL.2.2 _) ?_
  refine tq p ?_
  refine tqp p (by exact px_nil hp) ?_
  refine tqp (padd p 20) (by exact congrArg one (px_field (off := 20) hp (fun _ _ => rfl) (fun _ _ => rfl))) ?_
  refine tpc (iV x.rows) 20 (noChg_hcons (noChg_hcons (noChg_hcons trivial))) hp ?_
  refine tqp (iV (n % x.rows)) (by exact congrArg one (a3_rem (by omega) (by omega) (by omega))) ?_
  refine tqp (bV true) (by exact congrArg one (c3_eqlT c36)) ?_
  refine tq (bV true) ?_
  refine tq (bV true) ?_
  refine tq p ?_
  refine tq p ?_
  refine tqp p (by exact px_nil hp) ?_
  refine tqp (padd p 20) (by exact congrArg one (px_field (off := 20) hp (fun _ _ => rfl) (fun _ _ => rfl))) ?_
  refine tpc (iV x.rows) 20 (noChg_hcons (noChg_hcons (noChg_hcons (noChg_hcons trivial)))) hp ?_
  refine tq p ?_
  refine tqp p (by exact px_nil hp) ?_
  refine tqp (padd p 21) (by exact congrArg one (px_field (off := 21) hp (fun _ _ => rfl) (fun _ _ => rfl))) ?_
  refine tpc L 21 (noChg_hcons (noChg_hcons (noChg_hcons (noChg_hcons (noChg_hcons trivial))))) hp ?_
  refine tqp (.agg [iV 0, iV 0, iV 0, iV 0, sV [], bV false, iV 0, sV [], iV 0, iV 0, iV 0, iV 0, bV false, bV false, iV 0, iV 0, iV 0, iV 0, bV false, bV false, iV x.rows, L]) (by exact congrArg one (build_of (ps := [(4, iV x.rows), (5, L)]) (l2 := [iV 0, iV 0, iV 0, iV 0, sV [], bV false, iV 0, sV [], iV 0, iV 0, iV 0, iV 0, bV false, bV false, iV 0, iV 0, iV 0, iV 0, bV false, bV false, iV x.rows, L]) rfl rfl rfl (fill_lit (off := 20) rfl rfl rfl (fill_raw (l := [iV 0, iV 0, iV 0, iV 0, sV [], bV false, iV 0, sV [], iV 0, iV 0, iV 0, iV 0, bV false, bV false, iV 0, iV 0, iV 0, iV 0, bV false, bV false, iV x.rows, .lit (.slice none 0 0)]) (off := 21) rfl hL.1 (show 21 < 22 from by decide) rfl)))) ?_
  refine take_loud rfl rfl rfl rfl rfl ?_
  refine tw ?_
  refine tw ?_
  rfl) (by rfl) (by rfl) (by rfl) (clone_body Tryz.func175 rfl) rfl rfl ?_
 refine (bare_runs Γ x n (⟨0, 0, 0, 0, [], false, 0, [], 0, 0, 0, 0, false, false, 0, 0, 0, 0, false, false, x.rows⟩ : ND) n L L p h hp hL hL).mono ?_
 rintro ⟨ex16, fr16, H16, v16⟩ ⟨hv16, k16⟩
 have k16 : Kept h.next h H16 := k16
 by_cases c37 : bare x n (⟨0, 0, 0, 0, [], false, 0, [], 0, 0, 0, 0, false, false, 0, 0, 0, 0, false, false, x.rows⟩ : ND) n = true
 have hv16 : v16 = bV true := hv16.trans (congrArg (fun b => SV.lit (.bool b)) c37)
 subst hv16
 refine ⟨(stands_hyes t_right_o19_35_37 (stands_hyes t_right_o19_31_37 (stands_hyes t_right_o19_22_37 (stands_hyes t_right_o19_17_37 (stands_hyes t_right_o19_9_37 (stands_hyes t_right_o19_3_37 stands_nil)))))), _, (drop_hyes t_right_o19_35_37 (drop_hyes t_right_o19_31_37 (drop_hyes t_right_o19_22_37 (drop_hyes t_right_o19_17_37 (drop_hyes t_right_o19_9_37 (drop_hyes t_right_o19_3_37 rfl)))))), ?_⟩
 refine drawn_end (m' := 1099511627775) (held' := []) (hp' := H16) (by
  iterate 38 refine td ?_
  refine tq (bV true) ?_
  refine tq (bV true) ?_
  rfl) (by rfl) (by rfl) ?_
 refine blk_n ?_
 refine then_n ?_
 have eF : right_j22 x n K R true = right x n a K R := (by simp only [right, if_neg c1, if_neg c4, if_neg c8, if_neg c12, if_neg c15, if_neg c22, if_neg c26, if_neg c30, if_pos c33, if_pos c34, if_pos c35, if_pos c36, if_pos c37])
 exact (right_j22_runs Γ p x L n K R hL hn true _ _ rfl rfl (hp.kept k16) (hk.kept k16)).mono fun o ⟨r, hr, ht⟩ => ⟨r, hr, ht.1.trans (congrArg (fun (x : Bool) => (bV x : SV)) eF), (Kept.then k16 ht.2)⟩
 have hv16 : v16 = bV false := hv16.trans (congrArg (fun b => SV.lit (.bool b)) (Bool.eq_false_iff.2 c37))
 subst hv16
 refine ⟨(stands_hyes t_right_o19_35_37 (stands_hyes t_right_o19_31_37 (stands_hyes t_right_o19_22_37 (stands_hyes t_right_o19_17_37 (stands_hyes t_right_o19_9_37 (stands_hyes t_right_o19_3_37 stands_nil)))))), _, (drop_hyes t_right_o19_35_37 (drop_hyes t_right_o19_31_37 (drop_hyes t_right_o19_22_37 (drop_hyes t_right_o19_17_37 (drop_hyes t_right_o19_9_37 (drop_hyes t_right_o19_3_37 rfl)))))), ?_⟩
 refine drawn_end (m' := 1099511627775) (held' := []) (hp' := H16) (by
  iterate 38 refine td ?_
  refine tq (bV false) ?_
  refine tq (bV false) ?_
  rfl) (by rfl) (by rfl) ?_
 refine blk_n ?_
 refine then_n ?_
 have eF : right_j22 x n K R false = right x n a K R := (by simp only [right, if_neg c1, if_neg c4, if_neg c8, if_neg c12, if_neg c15, if_neg c22, if_neg c26, if_neg c30, if_pos c33, if_pos c34, if_pos c35, if_pos c36, if_neg c37])
 exact (right_j22_runs Γ p x L n K R hL hn false _ _ rfl rfl (hp.kept k16) (hk.kept k16)).mono fun o ⟨r, hr, ht⟩ => ⟨r, hr, ht.1.trans (congrArg (fun (x : Bool) => (bV x : SV)) eF), (Kept.then k16 ht.2)⟩
 refine drawn_end (m' := 1099511627775) (held' := hcons (descOf 22 right_o19.toList 0 0) (pfacts p 20 [iV x.rows]) (hcons (descOf 17 right_o19.toList 0 0) (pfacts p 21 [L]) (hcons (descOf 9 right_o19.toList 0 0) (pfacts p 21 [L]) (hcons (descOf 3 right_o19.toList 0 0) (pfacts p 20 [iV x.rows]) ([]))))) (hp' := h) (by
  refine tq p ?_
  refine tqp p (by exact px_nil hp) ?_
  refine tqp (padd p 20) (by exact congrArg one (px_field (off := 20) hp (fun _ _ => rfl) (fun _ _ => rfl))) ?_
  refine tpc (iV x.rows) 20 trivial hp ?_
  refine tqp (bV true) (by exact congrArg one (c3_geqT c34)) ?_
  refine tq (bV true) ?_
  refine tq p ?_
  refine tqp p (by exact px_nil hp) ?_
  refine tqp (padd p 21) (by exact congrArg one (px_field (off := 21) hp (fun _ _ => rfl) (fun _ _ => rfl))) ?_
  refine tpc L 21 (noChg_hcons trivial) hp ?_
  refine tqp (iV n) (by exact hL.2.2 _) ?_
  refine tqp (bV true) (by exact congrArg one (c3_geqT c35)) ?_
  refine tq (bV true) ?_
  refine tq (bV true) ?_
  refine tq p ?_
  refine tqp p (by exact px_nil hp) ?_
  refine tqp (padd p 21) (by exact congrArg one (px_field (off := 21) hp (fun _ _ => rfl) (fun _ _ => rfl))) ?_
  refine tpc L 21 (noChg_hcons (noChg_hcons trivial)) hp ?_
  refine tqp (iV n) (by exact hL.2.2 _) ?_
  refine tq p ?_
  refine tqp p (by exact px_nil hp) ?_
  refine tqp (padd p 20) (by exact congrArg one (px_field (off := 20) hp (fun _ _ => rfl) (fun _ _ => rfl))) ?_
  refine tpc (iV x.rows) 20 (noChg_hcons (noChg_hcons (noChg_hcons trivial))) hp ?_
  refine tqp (iV (n % x.rows)) (by exact congrArg one (a3_rem (by omega) (by omega) (by omega))) ?_
  refine tqp (bV false) (by exact congrArg one (c3_eqlF c36)) ?_
  refine tq (bV false) ?_
  refine tq (bV false) ?_
  iterate 11 refine tu ?_
  refine tq (bV false) ?_
  refine tq (bV false) ?_
  rfl) (by rfl) (by rfl) ?_
 refine blk_n ?_
 refine then_n ?_
 have eF : right_j22 x n K R false = right x n a K R := (by simp only [right, if_neg c1, if_neg c4, if_neg c8, if_neg c12, if_neg c15, if_neg c22, if_neg c26, if_neg c30, if_pos c33, if_pos c34, if_pos c35, if_neg c36])
 exact (right_j22_runs Γ p x L n K R hL hn false _ _ rfl rfl hp hk).mono fun o ⟨r, hr, ht⟩ => ⟨r, hr, ht.1.trans (congrArg (fun (x : Bool) => (bV x : SV)) eF), ht.2⟩
 refine drawn_end (m' := 1099511627775) (held' := hcons (descOf 9 right_o19.toList 0 0) (pfacts p 21 [L]) (hcons (descOf 3 right_o19.toList 0 0) (pfacts p 20 [iV x.rows]) ([]))) (hp' := h) (by
  refine tq p ?_
  refine tqp p (by exact px_nil hp) ?_
  refine tqp (padd p 20) (by exact congrArg one (px_field (off := 20) hp (fun _ _ => rfl) (fun _ _ => rfl))) ?_
  refine tpc (iV x.rows) 20 trivial hp ?_
  refine tqp (bV true) (by exact congrArg one (c3_geqT c34)) ?_
  refine tq (bV true) ?_
  refine tq p ?_
  refine tqp p (by exact px_nil hp) ?_
  refine tqp (padd p 21) (by exact congrArg one (px_field (off := 21) hp (fun _ _ => rfl) (fun _ _ => rfl))) ?_
  refine tpc L 21 (noChg_hcons trivial) hp ?_
  refine tqp (iV n) (by exact hL.2.2 _) ?_
  refine tqp (bV false) (by exact congrArg one (c3_geqF c35)) ?_
  refine tq (bV false) ?_
  refine tq (bV false) ?_
  iterate 11 refine tu ?_
  refine tq (bV false) ?_
  refine tq (bV false) ?_
  iterate 11 refine tu ?_
  refine tq (bV false) ?_
  refine tq (bV false) ?_
  rfl) (by rfl) (by rfl) ?_
 refine blk_n ?_
 refine then_n ?_
 have eF : right_j22 x n K R false = right x n a K R := (by simp only [right, if_neg c1, if_neg c4, if_neg c8, if_neg c12, if_neg c15, if_neg c22, if_neg c26, if_neg c30, if_pos c33, if_pos c34, if_neg c35])
 exact (right_j22_runs Γ p x L n K R hL hn false _ _ rfl rfl hp hk).mono fun o ⟨r, hr, ht⟩ => ⟨r, hr, ht.1.trans (congrArg (fun (x : Bool) => (bV x : SV)) eF), ht.2⟩
 refine drawn_end (m' := 1099511627775) (held' := hcons (descOf 3 right_o19.toList 0 0) (pfacts p 20 [iV x.rows]) ([])) (hp' := h) (by
  refine tq p ?_
  refine tqp p (by exact px_nil hp) ?_
  refine tqp (padd p 20) (by exact congrArg one (px_field (off := 20) hp (fun _ _ => rfl) (fun _ _ => rfl))) ?_
  refine tpc (iV x.rows) 20 trivial hp ?_
  refine tqp (bV false) (by exact congrArg one (c3_geqF c34)) ?_
  refine tq (bV false) ?_
  iterate 6 refine tu ?_
  refine tq (bV false) ?_
  refine tq (bV false) ?_
  iterate 11 refine tu ?_
  refine tq (bV false) ?_
  refine tq (bV false) ?_
  iterate 11 refine tu ?_
  refine tq (bV false) ?_
  refine tq (bV false) ?_
  rfl) (by rfl) (by rfl) ?_
 refine blk_n ?_
 refine then_n ?_
 have eF : right_j22 x n K R false = right x n a K R := (by simp only [right, if_neg c1, if_neg c4, if_neg c8, if_neg c12, if_neg c15, if_neg c22, if_neg c26, if_neg c30, if_pos c33, if_neg c34])
 exact (right_j22_runs Γ p x L n K R hL hn false _ _ rfl rfl hp hk).mono fun o ⟨r, hr, ht⟩ => ⟨r, hr, ht.1.trans (congrArg (fun (x : Bool) => (bV x : SV)) eF), ht.2⟩
 refine oqp (bV false) (by exact congrArg one (c3_eqlF c33)) ?_
 refine oq (bV false) ?_
 refine nt ?_
 refine runs_cond false rfl ?_
 refine sr ?_
 by_cases c38 : x.k = 9
 refine oqp (bV true) (by exact congrArg one (c3_eqlT c38)) ?_
 refine oq (bV true) ?_
 refine nt ?_
 refine runs_cond true rfl ?_
 refine runs_region ?_
 refine oq (iV a) ?_
 by_cases c39 : a = 4
 refine oqp (bV true) (by exact congrArg one (c3_eqlT c39)) ?_
 refine oq (bV true) ?_
 refine oq p ?_
 refine oq (.agg [iV 0, iV 0, iV 0, iV 0, sV [], bV false, iV 0, sV [], iV 0, iV 0, iV 0, iV 0, bV false, bV false, iV 0, iV 0, iV 0, iV 0, bV false, bV false, iV 0, .lit (.slice none 0 0)]) ?_
 refine ops_c (f := 175) (args := [p, .agg [iV 0, iV 0, iV 0, iV 0, sV [], bV false, iV 0, sV [], iV 0, iV 0, iV 0, iV 0, bV false, bV false, iV 0, iV 0, iV 0, iV 0, bV false, bV false, iV 0, .lit (.slice none 0 0)]]) rfl rfl rfl (clone_body Tryz.func175 rfl) rfl rfl ?_
 refine (bare_runs Γ x n (⟨0, 0, 0, 0, [], false, 0, [], 0, 0, 0, 0, false, false, 0, 0, 0, 0, false, false, 0⟩ : ND) 0 L (.lit (.slice none 0 0)) p h hp hL (lenIs_nil 0)).mono ?_
 rintro ⟨ex17, fr17, H17, v17⟩ ⟨hv17, k17⟩
 have k17 : Kept h.next h H17 := k17
 by_cases c40 : bare x n (⟨0, 0, 0, 0, [], false, 0, [], 0, 0, 0, 0, false, false, 0, 0, 0, 0, false, false, 0⟩ : ND) 0 = true
 have hv17 : v17 = bV true := hv17.trans (congrArg (fun b => SV.lit (.bool b)) c40)
 subst hv17
 refine oq (bV true) ?_
 refine oq (bV true) ?_
 refine ops_nil ?_
 refine blk_n ?_
 refine then_n ?_
 have eF : right_j22 x n K R true = right x n a K R := (by simp only [right, if_neg c1, if_neg c4, if_neg c8, if_neg c12, if_neg c15, if_neg c22, if_neg c26, if_neg c30, if_neg c33, if_pos c38, if_pos c39, if_pos c40])
 exact (right_j22_runs Γ p x L n K R hL hn true _ _ rfl rfl (hp.kept k17) (hk.kept k17)).mono fun o ⟨r, hr, ht⟩ => ⟨r, hr, ht.1.trans (congrArg (fun (x : Bool) => (bV x : SV)) eF), (Kept.then k17 ht.2)⟩
 have hv17 : v17 = bV false := hv17.trans (congrArg (fun b => SV.lit (.bool b)) (Bool.eq_false_iff.2 c40))
 subst hv17
 refine oq (bV false) ?_
 refine oq (bV false) ?_
 refine ops_nil ?_
 refine blk_n ?_
 refine then_n ?_
 have eF : right_j22 x n K R false = right x n a K R := (by simp only [right, if_neg c1, if_neg c4, if_neg c8, if_neg c12, if_neg c15, if_neg c22, if_neg c26, if_neg c30, if_neg c33, if_pos c38, if_pos c39, if_neg c40])
 exact (right_j22_runs Γ p x L n K R hL hn false _ _ rfl rfl (hp.kept k17) (hk.kept k17)).mono fun o ⟨r, hr, ht⟩ => ⟨r, hr, ht.1.trans (congrArg (fun (x : Bool) => (bV x : SV)) eF), (Kept.then k17 ht.2)⟩
 refine oqp (bV false) (by exact congrArg one (c3_eqlF c39)) ?_
 refine oq (bV false) ?_
 iterate 3 refine ou ?_
 refine oq (bV false) ?_
 refine oq (bV false) ?_
 refine ops_nil ?_
 refine blk_n ?_
 refine then_n ?_
 have eF : right_j22 x n K R false = right x n a K R := (by simp only [right, if_neg c1, if_neg c4, if_neg c8, if_neg c12, if_neg c15, if_neg c22, if_neg c26, if_neg c30, if_neg c33, if_pos c38, if_neg c39])
 exact (right_j22_runs Γ p x L n K R hL hn false _ _ rfl rfl hp hk).mono fun o ⟨r, hr, ht⟩ => ⟨r, hr, ht.1.trans (congrArg (fun (x : Bool) => (bV x : SV)) eF), ht.2⟩
 refine oqp (bV false) (by exact congrArg one (c3_eqlF c38)) ?_
 refine oq (bV false) ?_
 refine nt ?_
 refine runs_cond false rfl ?_
 refine runs_skip ?_
 refine blk_n ?_
 refine then_n ?_
 have eF : right_j22 x n K R false = right x n a K R := (by simp only [right, if_neg c1, if_neg c4, if_neg c8, if_neg c12, if_neg c15, if_neg c22, if_neg c26, if_neg c30, if_neg c33, if_neg c38])
 exact (right_j22_runs Γ p x L n K R hL hn false _ _ rfl rfl hp hk).mono fun o ⟨r, hr, ht⟩ => ⟨r, hr, ht.1.trans (congrArg (fun (x : Bool) => (bV x : SV)) eF), ht.2⟩
end Go.Proofs.YtcnfmcbmephdfaaGreatDoor.d
namespace Go.Proofs.YtcnfmcbmephdfaaGreatDoor.d
open Go Go.Proofs.YtcnfmcbmephdfaaGreatDoor.Ev Go.Proofs.YtcnfmcbmephdfaaGreatDoor.snap
def kindAt (ks : List Tr) (i : Int) : Int := match ks[i.toNat]? with
  | some t => t.nd.k
  | none => 0
mutual
def rightT : Tr → Int → Bool
  | .mk x ks, a => right x ks.length a (kindAt ks) (rightAt ks x.k)
def rightAt : List Tr → Int → Int → Bool
  | [], _, _ => false
  | t :: ts, k, i => if i = 0 then rightT t k else rightAt ts k (i - 1)
end
theorem rightAt_get : ∀ (ks : List Tr) (k : Int) (i : Nat) (t : Tr), ks[i]? = some t → rightAt ks k i = rightT t k
  | [], _, _, _, h => by simp at h
  | s :: ts, k, 0, t, h => by
    obtain rfl : s = t := by simpa using h
    rw [rightAt, if_pos (by omega)]
  | s :: ts, k, i + 1, t, h => by
    rw [rightAt, if_neg (by omega), show ((i + 1 : Nat) : Int) - 1 = (i : Nat) by omega]
    exact rightAt_get ts k i t (by simpa using h)
inductive Few (m : Nat) : Tr → Prop
  | mk {x : ND} {ks : List Tr} : ks.length ≤ m → (∀ t ∈ ks, Few m t) → Few m ⟨x, ks⟩
theorem rightT_runs {Γ : Glob} {h : Hp} {p : SV} {t : Tr} (w : TreeAt Γ h p t) : ∀ (H : Hp) (a : Int), Kept h.next h H → Few 1099511627776 t → Runs Tryz.prog Γ (.call 116 [p, .lit (.int .i64 a)] H) (Tells H (.lit (.bool (rightT t a)))) := by
  induction w with
  | @mk p x L ks q h1 h2 h3 h4 ih =>
    intro H a k few
    cases few with
    | mk f1 f2 =>
      have hk : KidsRun Γ H L ks.length 116 x.k (kindAt ks) (rightAt ks x.k) := by
        intro i i0 i1
        obtain ⟨j, rfl⟩ := Int.eq_ofNat_of_zero_le i0
        have hj : j < ks.length := by omega
        have hget : ks[j]? = some ks[j] := List.getElem?_eq_getElem hj
        have hm : ks[j] ∈ ks := List.getElem_mem hj
        have hw := h4 j _ hget
        generalize ks[j] = t at hget hm hw
        obtain ⟨z, zs⟩ := t
        obtain ⟨Z, z1, _⟩ := hw.out
        refine ⟨q j, z, Z, h3 j hj, z1.kept k, ?_, fun H' k' => ?_⟩
        · simp only [kindAt, Int.toNat_natCast, hget]
          rfl
        · rw [rightAt_get ks x.k j _ hget]
          exact ih j _ hget H' x.k (k.then k') (f2 _ hm)
      rw [rightT]
      exact right_runs Γ x ks.length a (kindAt ks) (rightAt ks x.k) L p H (h1.kept k) h2 (by omega) hk
end Go.Proofs.YtcnfmcbmephdfaaGreatDoor.d
