/-
  NODES HELD AGAINST EACH OTHER. | TWO TREES HELD AGAINST EACH OTHER: what it means, and a stack of pairs of them; by the author of this claim. | A NODE WITH NO OTHER FIELDS. | tree.Same ON EVERY TWO TREES.
-/
import Derived.Test.YtcnfmcbmephdfaaGreatDoorDeE
import Derived.Test.YtcnfmcbmephdfaaGreatDoorDeA
namespace Go.Proofs.YtcnfmcbmephdfaaGreatDoor.d
open Go Go.Proofs.YtcnfmcbmephdfaaGreatDoor.Ev Go.Proofs.YtcnfmcbmephdfaaGreatDoor.snap
noncomputable def alike_o1 : Array Oper := opsOf (seqL (seqR (bodyOf Tryz.f110)))
def alike (x : ND) (n : Int) (y : ND) (m : Int) : Bool :=
 if x.k = y.k then
  if x.v0 = y.v0 ∧ x.v1 = y.v1 ∧ x.v2 = y.v2 ∧ x.v3 = y.v3 ∧ x.v4 = y.v4 ∧ x.v5 = y.v5 then
   if x.name = y.name then
    if x.a0 = y.a0 ∧ x.a1 = y.a1 ∧ x.a2 = y.a2 ∧ x.a3 = y.a3 ∧ x.a4 = y.a4 ∧ x.a5 = y.a5 ∧ x.b0 = y.b0 ∧ x.b1 = y.b1 ∧ x.b2 = y.b2 ∧ x.b3 = y.b3 ∧ x.b4 = y.b4 ∧ x.b5 = y.b5 then
     if x.rows = y.rows then
      decide (n = m)
     else
      false
    else
     false
   else
    false
  else
   false
 else
  false
set_option maxHeartbeats 8000000 in
set_option maxRecDepth 20000 in
theorem alike_runs (Γ : Glob) (x : ND) (n : Int) (y : ND) (m : Int) (L : SV) (M : SV) (p : SV) (q : SV) (h : Hp) (hp : PtrTo Γ h p (x.cells L)) (hq : PtrTo Γ h q (y.cells M)) (hL : LenIs L n) (hM : LenIs M m) : Runs Tryz.prog Γ (.call 110 [p, q] h) (Tells h (bV (alike x n y m))) := by
 refine runs_call Tryz.func110 rfl ?_
 refine sr ?_
 refine oq (bV false) ?_
 refine nt ?_
 refine runs_seq ?_
 refine runs_drawn (ops := alike_o1) rfl ?_
 by_cases c1 : x.k = y.k
 by_cases c2 : x.v0 = y.v0 ∧ x.v1 = y.v1 ∧ x.v2 = y.v2 ∧ x.v3 = y.v3 ∧ x.v4 = y.v4 ∧ x.v5 = y.v5
 by_cases c3 : x.name = y.name
 by_cases c5 : x.a0 = y.a0 ∧ x.a1 = y.a1 ∧ x.a2 = y.a2 ∧ x.a3 = y.a3 ∧ x.a4 = y.a4 ∧ x.a5 = y.a5 ∧ x.b0 = y.b0 ∧ x.b1 = y.b1 ∧ x.b2 = y.b2 ∧ x.b3 = y.b3 ∧ x.b4 = y.b4 ∧ x.b5 = y.b5
 by_cases c7 : x.rows = y.rows
 have q8 : ((x.name).length : Int) = ((y.name : List UInt8).length : Int) := by rw [c3]
 refine drawn_end (m' := 147573952589676412927) (held' := hcons (descOf 62 alike_o1.toList 0 0) (pfacts q 21 [M]) (hcons (descOf 57 alike_o1.toList 0 0) (pfacts p 21 [L]) (hcons (descOf 50 alike_o1.toList 0 0) (pfacts q 20 [iV y.rows]) (hcons (descOf 46 alike_o1.toList 0 0) (pfacts p 20 [iV x.rows]) (hcons (descOf 39 alike_o1.toList 0 0) (pfacts q 8 [iV y.a0, iV y.a1, iV y.a2, iV y.a3, bV y.a4, bV y.a5, iV y.b0, iV y.b1, iV y.b2, iV y.b3, bV y.b4, bV y.b5]) (hcons (descOf 35 alike_o1.toList 0 0) (pfacts p 8 [iV x.a0, iV x.a1, iV x.a2, iV x.a3, bV x.a4, bV x.a5, iV x.b0, iV x.b1, iV x.b2, iV x.b3, bV x.b4, bV x.b5]) (hcons (descOf 28 alike_o1.toList 0 0) (pfacts q 7 [sV y.name]) (hcons (descOf 24 alike_o1.toList 0 0) (pfacts p 7 [sV x.name]) (hcons (descOf 17 alike_o1.toList 0 0) (pfacts q 1 [iV y.v0, iV y.v1, iV y.v2, sV y.v3, bV y.v4, iV y.v5]) (hcons (descOf 13 alike_o1.toList 0 0) (pfacts p 1 [iV x.v0, iV x.v1, iV x.v2, sV x.v3, bV x.v4, iV x.v5]) (hcons (descOf 7 alike_o1.toList 0 0) (pfacts q 0 [iV y.k]) (hcons (descOf 3 alike_o1.toList 0 0) (pfacts p 0 [iV x.k]) ([]))))))))))))) (hp' := h) (by
  refine tq p ?_
  refine tqp p (by exact px_nil hp) ?_
  refine tqp (padd p 0) (by exact congrArg one (px_field (off := 0) hp (fun _ _ => rfl) (fun _ _ => rfl))) ?_
  refine tpc (iV x.k) 0 trivial hp ?_
  refine tq q ?_
  refine tqp q (by exact px_nil hq) ?_
  refine tqp (padd q 0) (by exact congrArg one (px_field (off := 0) hq (fun _ _ => rfl) (fun _ _ => rfl))) ?_
  refine tpc (iV y.k) 0 (noChg_hcons trivial) hq ?_
  refine tqp (bV true) (by exact congrArg one (c3_eqlT c1)) ?_
  refine tq (bV true) ?_
  refine tq p ?_
  refine tqp p (by exact px_nil hp) ?_
  refine tqp (padd p 1) (by exact congrArg one (px_field (off := 1) hp (fun _ _ => rfl) (fun _ _ => rfl))) ?_
  refine tpa [iV x.v0, iV x.v1, iV x.v2, sV x.v3, bV x.v4, iV x.v5] 1 (noChg_hcons (noChg_hcons trivial)) hp ?_
  refine tq q ?_
  refine tqp q (by exact px_nil hq) ?_
  refine tqp (padd q 1) (by exact congrArg one (px_field (off := 1) hq (fun _ _ => rfl) (fun _ _ => rfl))) ?_
  refine tpa [iV y.v0, iV y.v1, iV y.v2, sV y.v3, bV y.v4, iV y.v5] 1 (noChg_hcons (noChg_hcons (noChg_hcons trivial))) hq ?_
  refine tqp (bV true) (by exact congrArg one (s29_eqlT c2)) ?_
  refine tq (bV true) ?_
  refine tq (bV true) ?_
  refine tq p ?_
  refine tqp p (by exact px_nil hp) ?_
  refine tqp (padd p 7) (by exact congrArg one (px_field (off := 7) hp (fun _ _ => rfl) (fun _ _ => rfl))) ?_
  refine tpc (sV x.name) 7 (noChg_hcons (noChg_hcons (noChg_hcons (noChg_hcons trivial)))) hp ?_
  refine tq q ?_
  refine tqp q (by exact px_nil hq) ?_
  refine tqp (padd q 7) (by exact congrArg one (px_field (off := 7) hq (fun _ _ => rfl) (fun _ _ => rfl))) ?_
  refine tpc (sV y.name) 7 (noChg_hcons (noChg_hcons (noChg_hcons (noChg_hcons (noChg_hcons trivial))))) hq ?_
  refine tqp (bV true) (by exact congrArg one (t_eqlT c3)) ?_
  refine tq (bV true) ?_
  refine tq (bV true) ?_
  refine tq p ?_
  refine tqp p (by exact px_nil hp) ?_
  refine tqp (padd p 8) (by exact congrArg one (px_field (off := 8) hp (fun _ _ => rfl) (fun _ _ => rfl))) ?_
  refine tpa [iV x.a0, iV x.a1, iV x.a2, iV x.a3, bV x.a4, bV x.a5, iV x.b0, iV x.b1, iV x.b2, iV x.b3, bV x.b4, bV x.b5] 8 (noChg_hcons (noChg_hcons (noChg_hcons (noChg_hcons (noChg_hcons (noChg_hcons trivial)))))) hp ?_
  refine tq q ?_
  refine tqp q (by exact px_nil hq) ?_
  refine tqp (padd q 8) (by exact congrArg one (px_field (off := 8) hq (fun _ _ => rfl) (fun _ _ => rfl))) ?_
  refine tpa [iV y.a0, iV y.a1, iV y.a2, iV y.a3, bV y.a4, bV y.a5, iV y.b0, iV y.b1, iV y.b2, iV y.b3, bV y.b4, bV y.b5] 8 (noChg_hcons (noChg_hcons (noChg_hcons (noChg_hcons (noChg_hcons (noChg_hcons (noChg_hcons trivial))))))) hq ?_
  refine tqp (bV true) (by exact congrArg one (s33_eqlT c5)) ?_
  refine tq (bV true) ?_
  refine tq (bV true) ?_
  refine tq p ?_
  refine tqp p (by exact px_nil hp) ?_
  refine tqp (padd p 20) (by exact congrArg one (px_field (off := 20) hp (fun _ _ => rfl) (fun _ _ => rfl))) ?_
  refine tpc (iV x.rows) 20 (noChg_hcons (noChg_hcons (noChg_hcons (noChg_hcons (noChg_hcons (noChg_hcons (noChg_hcons (noChg_hcons trivial)))))))) hp ?_
  refine tq q ?_
  refine tqp q (by exact px_nil hq) ?_
  refine tqp (padd q 20) (by exact congrArg one (px_field (off := 20) hq (fun _ _ => rfl) (fun _ _ => rfl))) ?_
  refine tpc (iV y.rows) 20 (noChg_hcons (noChg_hcons (noChg_hcons (noChg_hcons (noChg_hcons (noChg_hcons (noChg_hcons (noChg_hcons (noChg_hcons trivial))))))))) hq ?_
  refine tqp (bV true) (by exact congrArg one (c3_eqlT c7)) ?_
  refine tq (bV true) ?_
  refine tq (bV true) ?_
  refine tq p ?_
  refine tqp p (by exact px_nil hp) ?_
  refine tqp (padd p 21) (by exact congrArg one (px_field (off := 21) hp (fun _ _ => rfl) (fun _ _ => rfl))) ?_
  refine tpc L 21 (noChg_hcons (noChg_hcons (noChg_hcons (noChg_hcons (noChg_hcons (noChg_hcons (noChg_hcons (noChg_hcons (noChg_hcons (noChg_hcons trivial)))))))))) hp ?_
  refine tqp (iV n) (by exact hL.2.2 _) ?_
  refine tq q ?_
  refine tqp q (by exact px_nil hq) ?_
  refine tqp (padd q 21) (by exact congrArg one (px_field (off := 21) hq (fun _ _ => rfl) (fun _ _ => rfl))) ?_
  refine tpc M 21 (noChg_hcons (noChg_hcons (noChg_hcons (noChg_hcons (noChg_hcons (noChg_hcons (noChg_hcons (noChg_hcons (noChg_hcons (noChg_hcons (noChg_hcons trivial))))))))))) hq ?_
  refine tqp (iV m) (by exact hM.2.2 _) ?_
  refine tqp (bV (decide (n = m))) (by exact congrArg one c3_eql) ?_
  refine tq (bV (decide (n = m))) ?_
  refine tq (bV (decide (n = m))) ?_
  rfl) (by rfl) (by rfl) ?_
 refine then_n ?_
 refine runs_ret ?_
 exact ⟨_, leave_t1 rfl rfl, fb (decide (n = m)) (by simp only [alike, if_pos c1, if_pos c2, if_pos c3, if_pos c5, if_pos c7]), (Kept.refl _ _)⟩
 have q9 : ((x.name).length : Int) = ((y.name : List UInt8).length : Int) := by rw [c3]
 refine drawn_end (m' := 147573952589676412927) (held' := hcons (descOf 50 alike_o1.toList 0 0) (pfacts q 20 [iV y.rows]) (hcons (descOf 46 alike_o1.toList 0 0) (pfacts p 20 [iV x.rows]) (hcons (descOf 39 alike_o1.toList 0 0) (pfacts q 8 [iV y.a0, iV y.a1, iV y.a2, iV y.a3, bV y.a4, bV y.a5, iV y.b0, iV y.b1, iV y.b2, iV y.b3, bV y.b4, bV y.b5]) (hcons (descOf 35 alike_o1.toList 0 0) (pfacts p 8 [iV x.a0, iV x.a1, iV x.a2, iV x.a3, bV x.a4, bV x.a5, iV x.b0, iV x.b1, iV x.b2, iV x.b3, bV x.b4, bV x.b5]) (hcons (descOf 28 alike_o1.toList 0 0) (pfacts q 7 [sV y.name]) (hcons (descOf 24 alike_o1.toList 0 0) (pfacts p 7 [sV x.name]) (hcons (descOf 17 alike_o1.toList 0 0) (pfacts q 1 [iV y.v0, iV y.v1, iV y.v2, sV y.v3, bV y.v4, iV y.v5]) (hcons (descOf 13 alike_o1.toList 0 0) (pfacts p 1 [iV x.v0, iV x.v1, iV x.v2, sV x.v3, bV x.v4, iV x.v5]) (hcons (descOf 7 alike_o1.toList 0 0) (pfacts q 0 [iV y.k]) (hcons (descOf 3 alike_o1.toList 0 0) (pfacts p 0 [iV x.k]) ([]))))))))))) (hp' := h) (by
  refine tq p ?_
  refine tqp p (by exact px_nil hp) ?_
  refine tqp (padd p 0) (by exact congrArg one (px_field (off := 0) hp (fun _ _ => rfl) (fun _ _ => rfl))) ?_
  refine tpc (iV x.k) 0 trivial hp ?_
  refine tq q ?_
  refine tqp q (by exact px_nil hq) ?_
  refine tqp (padd q 0) (by exact congrArg one (px_field (off := 0) hq (fun _ _ => rfl) (fun _ _ => rfl))) ?_
  refine tpc (iV y.k) 0 (noChg_hcons trivial) hq ?_
  refine tqp (bV true) (by exact congrArg one (c3_eqlT c1)) ?_
  refine tq (bV true) ?_
  refine tq p ?_
  refine tqp p (by exact px_nil hp) ?_
  refine tqp (padd p 1) (by exact congrArg one (px_field (off := 1) hp (fun _ _ => rfl) (fun _ _ => rfl))) ?_
  refine tpa [iV x.v0, iV x.v1, iV x.v2, sV x.v3, bV x.v4, iV x.v5] 1 (noChg_hcons (noChg_hcons trivial)) hp ?_
  refine tq q ?_
  refine tqp q (by exact px_nil hq) ?_
  refine tqp (padd q 1) (by exact congrArg one (px_field (off := 1) hq (fun _ _ => rfl) (fun _ _ => rfl))) ?_
  refine tpa [iV y.v0, iV y.v1, iV y.v2, sV y.v3, bV y.v4, iV y.v5] 1 (noChg_hcons (noChg_hcons (noChg_hcons trivial))) hq ?_
  refine tqp (bV true) (by exact congrArg one (s29_eqlT c2)) ?_
  refine tq (bV true) ?_
  refine tq (bV true) ?_
  refine tq p ?_
  refine tqp p (by exact px_nil hp) ?_
  refine tqp (padd p 7) (by exact congrArg one (px_field (off := 7) hp (fun _ _ => rfl) (fun _ _ => rfl))) ?_
  refine tpc (sV x.name) 7 (noChg_hcons (noChg_hcons (noChg_hcons (noChg_hcons trivial)))) hp ?_
  refine tq q ?_
  refine tqp q (by exact px_nil hq) ?_
  refine tqp (padd q 7) (by exact congrArg one (px_field (off := 7) hq (fun _ _ => rfl) (fun _ _ => rfl))) ?_
  refine tpc (sV y.name) 7 (noChg_hcons (noChg_hcons (noChg_hcons (noChg_hcons (noChg_hcons trivial))))) hq ?_
  refine tqp (bV true) (by exact congrArg one (t_eqlT c3)) ?_
  refine tq (bV true) ?_
  refine tq (bV true) ?_
  refine tq p ?_
  refine tqp p (by exact px_nil hp) ?_
  refine tqp (padd p 8) (by exact congrArg one (px_field (off := 8) hp (fun _ _ => rfl) (fun _ _ => rfl))) ?_
  refine tpa [iV x.a0, iV x.a1, iV x.a2, iV x.a3, bV x.a4, bV x.a5, iV x.b0, iV x.b1, iV x.b2, iV x.b3, bV x.b4, bV x.b5] 8 (noChg_hcons (noChg_hcons (noChg_hcons (noChg_hcons (noChg_hcons (noChg_hcons trivial)))))) hp ?_
  refine tq q ?_
  refine tqp q (by exact px_nil hq) ?_
  refine tqp (padd q 8) (by exact congrArg one (px_field (off := 8) hq (fun _ _ => rfl) (fun _ _ => rfl))) ?_
  refine tpa [iV y.a0, iV y.a1, iV y.a2, iV y.a3, bV y.a4, bV y.a5, iV y.b0, iV y.b1, iV y.b2, iV y.b3, bV y.b4, bV y.b5] 8 (noChg_hcons (noChg_hcons (noChg_hcons (noChg_hcons (noChg_hcons (noChg_hcons (noChg_hcons trivial))))))) hq ?_
  refine tqp (bV true) (by exact congrArg one (s33_eqlT c5)) ?_
  refine tq (bV true) ?_
  refine tq (bV true) ?_
  refine tq p ?_
  refine tqp p (by exact px_nil hp) ?_
  refine tqp (padd p 20) (by exact congrArg one (px_field (off := 20) hp (fun _ _ => rfl) (fun _ _ => rfl))) ?_
  refine tpc (iV x.rows) 20 (noChg_hcons (noChg_hcons (noChg_hcons (noChg_hcons (noChg_hcons (noChg_hcons (noChg_hcons (noChg_hcons trivial)))))))) hp ?_
  refine tq q ?_
  refine tqp q (by exact px_nil hq) ?_
  refine tqp (padd q 20) (by exact congrArg one (px_field (off := 20) hq (fun _ _ => rfl) (fun _ _ => rfl))) ?_
  refine tpc (iV y.rows) 20 (noChg_hcons (noChg_hcons (noChg_hcons (noChg_hcons (noChg_hcons (noChg_hcons (noChg_hcons (noChg_hcons (noChg_hcons trivial))))))))) hq ?_
  refine tqp (bV false) (by exact congrArg one (c3_eqlF c7)) ?_
  refine tq (bV false) ?_
  refine tq (bV false) ?_
  iterate 11 refine tu ?_
  refine tq (bV false) ?_
  refine tq (bV false) ?_
  rfl) (by rfl) (by rfl) ?_
 refine then_n ?_
 refine runs_ret ?_
 exact ⟨_, leave_t1 rfl rfl, fb (false) (by simp only [alike, if_pos c1, if_pos c2, if_pos c3, if_pos c5, if_neg c7]), (Kept.refl _ _)⟩
 have q10 : ((x.name).length : Int) = ((y.name : List UInt8).length : Int) := by rw [c3]
 refine drawn_end (m' := 147573952589676412927) (held' := hcons (descOf 39 alike_o1.toList 0 0) (pfacts q 8 [iV y.a0, iV y.a1, iV y.a2, iV y.a3, bV y.a4, bV y.a5, iV y.b0, iV y.b1, iV y.b2, iV y.b3, bV y.b4, bV y.b5]) (hcons (descOf 35 alike_o1.toList 0 0) (pfacts p 8 [iV x.a0, iV x.a1, iV x.a2, iV x.a3, bV x.a4, bV x.a5, iV x.b0, iV x.b1, iV x.b2, iV x.b3, bV x.b4, bV x.b5]) (hcons (descOf 28 alike_o1.toList 0 0) (pfacts q 7 [sV y.name]) (hcons (descOf 24 alike_o1.toList 0 0) (pfacts p 7 [sV x.name]) (hcons (descOf 17 alike_o1.toList 0 0) (pfacts q 1 [iV y.v0, iV y.v1, iV y.v2, sV y.v3, bV y.v4, iV y.v5]) (hcons (descOf 13 alike_o1.toList 0 0) (pfacts p 1 [iV x.v0, iV x.v1, iV x.v2, sV x.v3, bV x.v4, iV x.v5]) (hcons (descOf 7 alike_o1.toList 0 0) (pfacts q 0 [iV y.k]) (hcons (descOf 3 alike_o1.toList 0 0) (pfacts p 0 [iV x.k]) ([]))))))))) (hp' := h) (by
  refine tq p ?_
  refine tqp p (by exact px_nil hp) ?_
  refine tqp (padd p 0) (by exact congrArg one (px_field (off := 0) hp (fun _ _ => rfl) (fun _ _ => rfl))) ?_
  refine tpc (iV x.k) 0 trivial hp ?_
  refine tq q ?_
  refine tqp q (by exact px_nil hq) ?_
  refine tqp (padd q 0) (by exact congrArg one (px_field (off := 0) hq (fun _ _ => rfl) (fun _ _ => rfl))) ?_
  refine tpc (iV y.k) 0 (noChg_hcons trivial) hq ?_
  refine tqp (bV true) (by exact congrArg one (c3_eqlT c1)) ?_
  refine tq (bV true) ?_
  refine tq p ?_
  refine tqp p (by exact px_nil hp) ?_
  refine tqp (padd p 1) (by exact congrArg one (px_field (off := 1) hp (fun _ _ => rfl) (fun _ _ => rfl))) ?_
  refine tpa [iV x.v0, iV x.v1, iV x.v2, sV x.v3, bV x.v4, iV x.v5] 1 (noChg_hcons (noChg_hcons trivial)) hp ?_
  refine tq q ?_
  refine tqp q (by exact px_nil hq) ?_
  refine tqp (padd q 1) (by exact congrArg one (px_field (off := 1) hq (fun _ _ => rfl) (fun _ _ => rfl))) ?_
  refine tpa [iV y.v0, iV y.v1, iV y.v2, sV y.v3, bV y.v4, iV y.v5] 1 (noChg_hcons (noChg_hcons (noChg_hcons trivial))) hq ?_
  refine tqp (bV true) (by exact congrArg one (s29_eqlT c2)) ?_
  refine tq (bV true) ?_
  refine tq (bV true) ?_
  refine tq p ?_
  refine tqp p (by exact px_nil hp) ?_
  refine tqp (padd p 7) (by exact congrArg one (px_field (off := 7) hp (fun _ _ => rfl) (fun _ _ => rfl))) ?_
  refine tpc (sV x.name) 7 (noChg_hcons (noChg_hcons (noChg_hcons (noChg_hcons trivial)))) hp ?_
  refine tq q ?_
  refine tqp q (by exact px_nil hq) ?_
  refine tqp (padd q 7) (by exact congrArg one (px_field (off := 7) hq (fun _ _ => rfl) (fun _ _ => rfl))) ?_
  refine tpc (sV y.name) 7 (noChg_hcons (noChg_hcons (noChg_hcons (noChg_hcons (noChg_hcons trivial))))) hq ?_
  refine tqp (bV true) (by exact congrArg one (t_eqlT c3)) ?_
  refine tq (bV true) ?_
  refine tq (bV true) ?_
  refine tq p ?_
  refine tqp p (by exact px_nil hp) ?_
  refine tqp (padd p 8) (by exact congrArg one (px_field (off := 8) hp (fun _ _ => rfl) (fun _ _ => rfl))) ?_
  refine tpa [iV x.a0, iV x.a1, iV x.a2, iV x.a3, bV x.a4, bV x.a5, iV x.b0, iV x.b1, iV x.b2, iV x.b3, bV x.b4, bV x.b5] 8 (noChg_hcons (noChg_hcons (noChg_hcons (noChg_hcons (noChg_hcons (noChg_hcons trivial)))))) hp ?_
  refine tq q ?_
  refine tqp q (by exact px_nil hq) ?_
  refine tqp (padd q 8) (by exact congrArg one (px_field (off := 8) hq (fun _ _ => rfl) (fun _ _ => rfl))) ?_
  refine tpa [iV y.a0, iV y.a1, iV y.a2, iV y.a3, bV y.a4, bV y.a5, iV y.b0, iV y.b1, iV y.b2, iV y.b3, bV y.b4, bV y.b5] 8 (noChg_hcons (noChg_hcons (noChg_hcons (noChg_hcons (noChg_hcons (noChg_hcons (noChg_hcons trivial))))))) hq ?_
  refine tqp (bV false) (by exact congrArg one (s33_eqlF c5)) ?_
  refine tq (bV false) ?_
  refine tq (bV false) ?_
  iterate 9 refine tu ?_
  refine tq (bV false) ?_
  refine tq (bV false) ?_
  iterate 11 refine tu ?_
  refine tq (bV false) ?_
  refine tq (bV false) ?_
  rfl) (by rfl) (by rfl) ?_
 refine then_n ?_
 refine runs_ret ?_
 exact ⟨_, leave_t1 rfl rfl, fb (false) (by simp only [alike, if_pos c1, if_pos c2, if_pos c3, if_neg c5]), (Kept.refl _ _)⟩
 refine drawn_end (m' := 147573952589676412927) (held' := hcons (descOf 28 alike_o1.toList 0 0) (pfacts q 7 [sV y.name]) (hcons (descOf 24 alike_o1.toList 0 0) (pfacts p 7 [sV x.name]) (hcons (descOf 17 alike_o1.toList 0 0) (pfacts q 1 [iV y.v0, iV y.v1, iV y.v2, sV y.v3, bV y.v4, iV y.v5]) (hcons (descOf 13 alike_o1.toList 0 0) (pfacts p 1 [iV x.v0, iV x.v1, iV x.v2, sV x.v3, bV x.v4, iV x.v5]) (hcons (descOf 7 alike_o1.toList 0 0) (pfacts q 0 [iV y.k]) (hcons (descOf 3 alike_o1.toList 0 0) (pfacts p 0 [iV x.k]) ([]))))))) (hp' := h) (by
  refine tq p ?_
  refine tqp p (by exact px_nil hp) ?_
  refine tqp (padd p 0) (by exact congrArg one (px_field (off := 0) hp (fun _ _ => rfl) (fun _ _ => rfl))) ?_
  refine tpc (iV x.k) 0 trivial hp ?_
  refine tq q ?_
  refine tqp q (by exact px_nil hq) ?_
  refine tqp (padd q 0) (by exact congrArg one (px_field (off := 0) hq (fun _ _ => rfl) (fun _ _ => rfl))) ?_
  refine tpc (iV y.k) 0 (noChg_hcons trivial) hq ?_
  refine tqp (bV true) (by exact congrArg one (c3_eqlT c1)) ?_
  refine tq (bV true) ?_
  refine tq p ?_
  refine tqp p (by exact px_nil hp) ?_
  refine tqp (padd p 1) (by exact congrArg one (px_field (off := 1) hp (fun _ _ => rfl) (fun _ _ => rfl))) ?_
  refine tpa [iV x.v0, iV x.v1, iV x.v2, sV x.v3, bV x.v4, iV x.v5] 1 (noChg_hcons (noChg_hcons trivial)) hp ?_
  refine tq q ?_
  refine tqp q (by exact px_nil hq) ?_
  refine tqp (padd q 1) (by exact congrArg one (px_field (off := 1) hq (fun _ _ => rfl) (fun _ _ => rfl))) ?_
  refine tpa [iV y.v0, iV y.v1, iV y.v2, sV y.v3, bV y.v4, iV y.v5] 1 (noChg_hcons (noChg_hcons (noChg_hcons trivial))) hq ?_
  refine tqp (bV true) (by exact congrArg one (s29_eqlT c2)) ?_
  refine tq (bV true) ?_
  refine tq (bV true) ?_
  refine tq p ?_
  refine tqp p (by exact px_nil hp) ?_
  refine tqp (padd p 7) (by exact congrArg one (px_field (off := 7) hp (fun _ _ => rfl) (fun _ _ => rfl))) ?_
  refine tpc (sV x.name) 7 (noChg_hcons (noChg_hcons (noChg_hcons (noChg_hcons trivial)))) hp ?_
  refine tq q ?_
  refine tqp q (by exact px_nil hq) ?_
  refine tqp (padd q 7) (by exact congrArg one (px_field (off := 7) hq (fun _ _ => rfl) (fun _ _ => rfl))) ?_
  refine tpc (sV y.name) 7 (noChg_hcons (noChg_hcons (noChg_hcons (noChg_hcons (noChg_hcons trivial))))) hq ?_
  refine tqp (bV false) (by exact congrArg one (t_eqlF c3)) ?_
  refine tq (bV false) ?_
  refine tq (bV false) ?_
  iterate 9 refine tu ?_
  refine tq (bV false) ?_
  refine tq (bV false) ?_
  iterate 9 refine tu ?_
  refine tq (bV false) ?_
  refine tq (bV false) ?_
  iterate 11 refine tu ?_
  refine tq (bV false) ?_
  refine tq (bV false) ?_
  rfl) (by rfl) (by rfl) ?_
 refine then_n ?_
 refine runs_ret ?_
 exact ⟨_, leave_t1 rfl rfl, fb (false) (by simp only [alike, if_pos c1, if_pos c2, if_neg c3]), (Kept.refl _ _)⟩
 refine drawn_end (m' := 147573952589676412927) (held' := hcons (descOf 17 alike_o1.toList 0 0) (pfacts q 1 [iV y.v0, iV y.v1, iV y.v2, sV y.v3, bV y.v4, iV y.v5]) (hcons (descOf 13 alike_o1.toList 0 0) (pfacts p 1 [iV x.v0, iV x.v1, iV x.v2, sV x.v3, bV x.v4, iV x.v5]) (hcons (descOf 7 alike_o1.toList 0 0) (pfacts q 0 [iV y.k]) (hcons (descOf 3 alike_o1.toList 0 0) (pfacts p 0 [iV x.k]) ([]))))) (hp' := h) (by
  refine tq p ?_
  refine tqp p (by exact px_nil hp) ?_
  refine tqp (padd p 0) (by exact congrArg one (px_field (off := 0) hp (fun _ _ => rfl) (fun _ _ => rfl))) ?_
  refine tpc (iV x.k) 0 trivial hp ?_
  refine tq q ?_
  refine tqp q (by exact px_nil hq) ?_
  refine tqp (padd q 0) (by exact congrArg one (px_field (off := 0) hq (fun _ _ => rfl) (fun _ _ => rfl))) ?_
  refine tpc (iV y.k) 0 (noChg_hcons trivial) hq ?_
  refine tqp (bV true) (by exact congrArg one (c3_eqlT c1)) ?_
  refine tq (bV true) ?_
  refine tq p ?_
  refine tqp p (by exact px_nil hp) ?_
  refine tqp (padd p 1) (by exact congrArg one (px_field (off := 1) hp (fun _ _ => rfl) (fun _ _ => rfl))) ?_
  refine tpa [iV x.v0, iV x.v1, iV x.v2, sV x.v3, bV x.v4, iV x.v5] 1 (noChg_hcons (noChg_hcons trivial)) hp ?_
  refine tq q ?_
  refine tqp q (by exact px_nil hq) ?_
  refine tqp (padd q 1) (by exact congrArg one (px_field (off := 1) hq (fun _ _ => rfl) (fun _ _ => rfl))) ?_
  refine tpa [iV y.v0, iV y.v1, iV y.v2, sV y.v3, bV y.v4, iV y.v5] 1 (noChg_hcons (noChg_hcons (noChg_hcons trivial))) hq ?_
  refine tqp (bV false) (by exact congrArg one (s29_eqlF c2)) ?_
  refine tq (bV false) ?_
  refine tq (bV false) ?_
  iterate 9 refine tu ?_
  refine tq (bV false) ?_
  refine tq (bV false) ?_
  iterate 9 refine tu ?_
  refine tq (bV false) ?_
  refine tq (bV false) ?_
  iterate 9 refine tu ?_
  refine tq (bV false) ?_
  refine tq (bV false) ?_
  iterate 11 refine tu ?_
  refine tq (bV false) ?_
  refine tq (bV false) ?_
  rfl) (by rfl) (by rfl) ?_
 refine then_n ?_
 refine runs_ret ?_
 exact ⟨_, leave_t1 rfl rfl, fb (false) (by simp only [alike, if_pos c1, if_neg c2]), (Kept.refl _ _)⟩
 refine drawn_end (m' := 147573952589676412927) (held' := hcons (descOf 7 alike_o1.toList 0 0) (pfacts q 0 [iV y.k]) (hcons (descOf 3 alike_o1.toList 0 0) (pfacts p 0 [iV x.k]) ([]))) (hp' := h) (by
  refine tq p ?_
  refine tqp p (by exact px_nil hp) ?_
  refine tqp (padd p 0) (by exact congrArg one (px_field (off := 0) hp (fun _ _ => rfl) (fun _ _ => rfl))) ?_
  refine tpc (iV x.k) 0 trivial hp ?_
  refine tq q ?_
  refine tqp q (by exact px_nil hq) ?_
  refine tqp (padd q 0) (by exact congrArg one (px_field (off := 0) hq (fun _ _ => rfl) (fun _ _ => rfl))) ?_
  refine tpc (iV y.k) 0 (noChg_hcons trivial) hq ?_
  refine tqp (bV false) (by exact congrArg one (c3_eqlF c1)) ?_
  refine tq (bV false) ?_
  iterate 9 refine tu ?_
  refine tq (bV false) ?_
  refine tq (bV false) ?_
  iterate 9 refine tu ?_
  refine tq (bV false) ?_
  refine tq (bV false) ?_
  iterate 9 refine tu ?_
  refine tq (bV false) ?_
  refine tq (bV false) ?_
  iterate 9 refine tu ?_
  refine tq (bV false) ?_
  refine tq (bV false) ?_
  iterate 11 refine tu ?_
  refine tq (bV false) ?_
  refine tq (bV false) ?_
  rfl) (by rfl) (by rfl) ?_
 refine then_n ?_
 refine runs_ret ?_
 exact ⟨_, leave_t1 rfl rfl, fb (false) (by simp only [alike, if_neg c1]), (Kept.refl _ _)⟩
end Go.Proofs.YtcnfmcbmephdfaaGreatDoor.d
namespace Go.Proofs.YtcnfmcbmephdfaaGreatDoor.d
open Go Go.Proofs.YtcnfmcbmephdfaaGreatDoor.Ev Go.Proofs.YtcnfmcbmephdfaaGreatDoor.snap
mutual
def sameT : Tr → Tr → Bool
  | .mk x ks, .mk y ls => alike x ks.length y ls.length && sameL ks ls
def sameL : List Tr → List Tr → Bool
  | [], _ => true
  | _ :: _, [] => false
  | a :: us, b :: ws => sameT a b && sameL us ws
end
theorem alike_len {x y : ND} {n m : Int} (h : alike x n y m = true) : n = m := by
  unfold alike at h
  repeat' (split at h)
  all_goals first
    | exact of_decide_eq_true h
    | cases h
def allP (ts : List (Tr × Tr)) : Bool := ts.all fun p => sameT p.1 p.2
def psize (ts : List (Tr × Tr)) : Nat := sizeL (ts.map (·.1))
theorem allP_zip : ∀ {us ws : List Tr}, us.length = ws.length → allP (us.zip ws) = sameL us ws
  | [], [], _ => rfl
  | a :: us, b :: ws, h => by
    have := allP_zip (us := us) (ws := ws) (by simpa using h)
    rw [List.zip_cons_cons, sameL, ← this]
    rfl
theorem allP_append (a b : List (Tr × Tr)) : allP (a ++ b) = (allP a && allP b) := by
  unfold allP
  rw [List.all_append]
theorem map_zip_fst : ∀ {us ws : List Tr}, us.length = ws.length → (us.zip ws).map (·.1) = us
  | [], [], _ => rfl
  | a :: us, b :: ws, h => by
    rw [List.zip_cons_cons, List.map_cons, map_zip_fst (by simpa using h)]
def PairsAt (Γ : Glob) (h : Hp) (L : List (SV × SV)) (ts : List (Tr × Tr)) : Prop := L.length = ts.length ∧ ∀ (i : Nat) (x : SV × SV) (t : Tr × Tr), L[i]? = some x → ts[i]? = some t → TreeAt Γ h x.1 t.1 ∧ TreeAt Γ h x.2 t.2
theorem PairsAt.one {Γ : Glob} {h : Hp} {p q : SV} {a b : Tr} (h1 : TreeAt Γ h p a) (h2 : TreeAt Γ h q b) : PairsAt Γ h [(p, q)] [(a, b)] := ⟨rfl, fun i x t hx ht => by
  cases i with
  | zero =>
    obtain rfl : (p, q) = x := by simpa using hx
    obtain rfl : (a, b) = t := by simpa using ht
    exact ⟨h1, h2⟩
  | succ i => simp at hx⟩
theorem PairsAt.append {Γ : Glob} {h : Hp} {L M : List (SV × SV)} {ts us : List (Tr × Tr)} (h1 : PairsAt Γ h L ts) (h2 : PairsAt Γ h M us) : PairsAt Γ h (L ++ M) (ts ++ us) := ⟨by rw [List.length_append, List.length_append, h1.1, h2.1], fun i x t hx ht => by
  by_cases hi : i < L.length
  · rw [List.getElem?_append_left hi] at hx
    rw [List.getElem?_append_left (by rw [← h1.1]; exact hi)] at ht
    exact h1.2 i x t hx ht
  · rw [List.getElem?_append_right (by omega)] at hx
    rw [List.getElem?_append_right (by rw [← h1.1]; omega), ← h1.1] at ht
    exact h2.2 _ x t hx ht⟩
theorem pairs_last {Γ : Glob} {h : Hp} {L : List (SV × SV)} {ts : List (Tr × Tr)} (w : PairsAt Γ h L ts) (hl : 0 < (L.length : Int)) :
    ∃ ti pa pb ta tb, ts = ti ++ [(ta, tb)] ∧ lget L ((L.length : Int) - 1) = (pa, pb) ∧ TreeAt Γ h pa ta ∧ TreeAt Γ h pb tb ∧ PairsAt Γ h (L.take (Int.toNat ((L.length : Int) - 1))) ti := by
  obtain ⟨w1, w2⟩ := w
  have hn : Int.toNat ((L.length : Int) - 1) = L.length - 1 := by omega
  have hi : L.length - 1 < L.length := by omega
  have ht : L.length - 1 < ts.length := by omega
  have h1 : L[L.length - 1]? = some L[L.length - 1] := List.getElem?_eq_getElem hi
  have h2 : ts[L.length - 1]? = some ts[L.length - 1] := List.getElem?_eq_getElem ht
  obtain ⟨a1, a2⟩ := w2 _ _ _ h1 h2
  refine ⟨ts.take (L.length - 1), L[L.length - 1].1, L[L.length - 1].2, ts[L.length - 1].1, ts[L.length - 1].2, ?_, ?_, a1, a2, ?_, ?_⟩
  · have : ts = ts.take (L.length - 1) ++ ts.drop (L.length - 1) := (List.take_append_drop ..).symm
    rw [List.drop_eq_getElem_cons ht, List.drop_eq_nil_of_le (by omega)] at this
    exact this
  · unfold lget
    rw [hn, h1]
    rfl
  · rw [hn, List.length_take, List.length_take]; omega
  · intro i x t hx ht'
    rw [hn] at hx
    rw [List.getElem?_take] at hx ht'
    split at hx
    · rename_i hlt
      rw [if_pos hlt] at ht'
      exact w2 i x t hx ht'
    · cases hx
theorem LL.win_eq {α : Type} [Inhabited α] {h : Hp} {lo b : Nat} {e : TypeId} {size : Nat} {v : SV} {enc : α → List SV} {L : List α} (w : LL h lo b e size v enc L) {i : Int} {x : α} (h0 : 0 ≤ i) (h1 : i < L.length) (he : lget L i = x) : Win h b (i.toNat * size) (enc x) := he ▸ LL.win w h0 h1
theorem idx_kid {P : Program} {t : TypeId} {L : SV} {n : Nat} {q : Nat → SV} (h : ∀ i, i < n → indexAddrQ P t L (.lit (.int .i64 (Int.ofNat i))) = some (q i)) {i : Int} (h0 : 0 ≤ i) (h1 : i < n) : indexAddrQ P t L (.lit (.int .i64 i)) = some (q i.toNat) := by
  obtain ⟨j, rfl⟩ := Int.eq_ofNat_of_zero_le h0
  exact h j (by omega)
theorem kids_one {Γ : Glob} {h : Hp} {q : Nat → SV} {ks : List Tr} (hk : ∀ i t, ks[i]? = some t → TreeAt Γ h (q i) t) {i : Int} (h0 : 0 ≤ i) (h1 : i < ks.length) : SV.one (q i.toNat) = true :=
  (hk i.toNat _ (List.getElem?_eq_getElem (show i.toNat < ks.length by omega))).one
def kidPairs (qa qb : Nat → SV) : Nat → Nat → List (SV × SV)
  | 0, _ => []
  | n + 1, i => (qa i, qb i) :: kidPairs qa qb n (i + 1)
theorem kidPairs_len (qa qb : Nat → SV) : ∀ n i, (kidPairs qa qb n i).length = n
  | 0, _ => rfl
  | n + 1, i => by rw [kidPairs, List.length_cons, kidPairs_len]
theorem kidPairs_get (qa qb : Nat → SV) : ∀ n i j, j < n → (kidPairs qa qb n i)[j]? = some (qa (i + j), qb (i + j))
  | 0, _, _, h => by omega
  | n + 1, i, 0, _ => by simp [kidPairs]
  | n + 1, i, j + 1, h => by
    rw [kidPairs, List.getElem?_cons_succ, kidPairs_get qa qb n (i + 1) j (by omega)]
    rw [show i + 1 + j = i + (j + 1) by omega]
theorem PairsAt.kids {Γ : Glob} {h : Hp} {qa qb : Nat → SV} {ka kb : List Tr} (hab : ka.length = kb.length) (ha : ∀ i t, ka[i]? = some t → TreeAt Γ h (qa i) t) (hb : ∀ i t, kb[i]? = some t → TreeAt Γ h (qb i) t) : PairsAt Γ h (kidPairs qa qb ka.length 0) (ka.zip kb) := ⟨by rw [kidPairs_len, List.length_zip]; omega, fun i x t hx ht => by
  have hi : i < ka.length := by
    have := (List.getElem?_eq_some_iff.1 hx).1
    rwa [kidPairs_len] at this
  rw [kidPairs_get qa qb _ _ _ hi, Nat.zero_add] at hx
  obtain rfl : (qa i, qb i) = x := Option.some.inj hx
  rw [List.getElem?_zip_eq_some] at ht
  exact ⟨ha i _ ht.1, hb i _ ht.2⟩⟩
end Go.Proofs.YtcnfmcbmephdfaaGreatDoor.d
namespace Go.Proofs.YtcnfmcbmephdfaaGreatDoor.d
open Go Go.Proofs.YtcnfmcbmephdfaaGreatDoor.Ev Go.Proofs.YtcnfmcbmephdfaaGreatDoor.snap
def bare (x : ND) (n : Int) (y : ND) (m : Int) : Bool :=
 (alike x n (⟨x.k, y.v0, y.v1, y.v2, y.v3, y.v4, y.v5, y.name, y.a0, y.a1, y.a2, y.a3, y.a4, y.a5, y.b0, y.b1, y.b2, y.b3, y.b4, y.b5, y.rows⟩ : ND) m)
set_option maxHeartbeats 8000000 in
set_option maxRecDepth 20000 in
theorem bare_runs (Γ : Glob) (x : ND) (n : Int) (y : ND) (m : Int) (L : SV) (M : SV) (p : SV) (h : Hp) (hp : PtrTo Γ h p (x.cells L)) (hL : LenIs L n) (hM : LenIs M m) : Runs Tryz.prog Γ (.call 175 [p, .agg [iV y.k, iV y.v0, iV y.v1, iV y.v2, sV y.v3, bV y.v4, iV y.v5, sV y.name, iV y.a0, iV y.a1, iV y.a2, iV y.a3, bV y.a4, bV y.a5, iV y.b0, iV y.b1, iV y.b2, iV y.b3, bV y.b4, bV y.b5, iV y.rows, M]] h) (Tells h (bV (bare x n y m))) := by
 refine runs_call Tryz.func175 rfl ?_
 refine sr ?_
 refine ops_box (cs := [iV y.k, iV y.v0, iV y.v1, iV y.v2, sV y.v3, bV y.v4, iV y.v5, sV y.name, iV y.a0, iV y.a1, iV y.a2, iV y.a3, bV y.a4, bV y.a5, iV y.b0, iV y.b1, iV y.b2, iV y.b3, bV y.b4, bV y.b5, iV y.rows, M]) rfl rfl rfl rfl rfl (fun H1 g1 k1 n1 => ?_)
 have lo1_0 : h.next ≤ h.next := (Nat.le_refl _)
 refine oq (bV false) ?_
 refine nt ?_
 refine sr ?_
 refine oq p ?_
 refine oqp p (by exact px_nil (hp.kept k1)) ?_
 refine oqp (padd p 0) (by exact congrArg one (px_field (off := 0) (hp.kept k1) (fun _ _ => rfl) (fun _ _ => rfl))) ?_
 refine oqf (iV x.k) (pfacts p 0 [iV x.k]) (by exact px_cell (P := Tryz.prog) (t := 3) (k := 0) (v := iV x.k) rfl (hp.kept k1) rfl) ?_
 refine oq (.ptr h.next 0) ?_
 refine ops_storeA (b := h.next) (off := 0) (v := iV x.k) (l2 := [iV x.k, iV y.v0, iV y.v1, iV y.v2, sV y.v3, bV y.v4, iV y.v5, sV y.name, iV y.a0, iV y.a1, iV y.a2, iV y.a3, bV y.a4, bV y.a5, iV y.b0, iV y.b1, iV y.b2, iV y.b3, bV y.b4, bV y.b5, iV y.rows, M]) rfl rfl rfl rfl rfl rfl rfl g1.get rfl (fun H2 g2 j2 n2 => ?_)
 have g2 : At H2 h.next _ := ⟨by rw [n2]; exact g1.lt, g2⟩
 have KH2 : Kept h.next h H2 := kept_other k1 j2 n2 lo1_0
 refine nt ?_
 refine sr ?_
 refine oq p ?_
 refine ops_c (f := 110) (args := [p, .ptr h.next 0]) rfl rfl rfl (clone_body Tryz.func110 rfl) rfl rfl ?_
 refine (alike_runs Γ x n (⟨x.k, y.v0, y.v1, y.v2, y.v3, y.v4, y.v5, y.name, y.a0, y.a1, y.a2, y.a3, y.a4, y.a5, y.b0, y.b1, y.b2, y.b3, y.b4, y.b5, y.rows⟩ : ND) m L M p (.ptr h.next 0) H2 (hp.kept KH2) (PtrTo.ofAt g2) hL hM).mono ?_
 rintro ⟨ex3, fr3, H3, v3⟩ ⟨hv3, k3⟩
 have k3 : Kept H2.next H2 H3 := k3
 have g2_H3 := g2.kept k3
 have KH3 : Kept h.next h H3 := KH2.trans (k3.less (Nat.le_trans (Nat.le_refl _) KH2.next))
 have hv3 : v3 = bV (alike x n (⟨x.k, y.v0, y.v1, y.v2, y.v3, y.v4, y.v5, y.name, y.a0, y.a1, y.a2, y.a3, y.a4, y.a5, y.b0, y.b1, y.b2, y.b3, y.b4, y.b5, y.rows⟩ : ND) m) := hv3
 subst hv3
 refine oq (bV (alike x n (⟨x.k, y.v0, y.v1, y.v2, y.v3, y.v4, y.v5, y.name, y.a0, y.a1, y.a2, y.a3, y.a4, y.a5, y.b0, y.b1, y.b2, y.b3, y.b4, y.b5, y.rows⟩ : ND) m)) ?_
 refine nt ?_
 refine runs_ret ?_
 exact ⟨_, leave_t1 rfl rfl, fb ((alike x n (⟨x.k, y.v0, y.v1, y.v2, y.v3, y.v4, y.v5, y.name, y.a0, y.a1, y.a2, y.a3, y.a4, y.a5, y.b0, y.b1, y.b2, y.b3, y.b4, y.b5, y.rows⟩ : ND) m)) (by simp only [bare]), KH3⟩
end Go.Proofs.YtcnfmcbmephdfaaGreatDoor.d
namespace Go.Proofs.YtcnfmcbmephdfaaGreatDoor.d
open Go Go.Proofs.YtcnfmcbmephdfaaGreatDoor.Ev Go.Proofs.YtcnfmcbmephdfaaGreatDoor.snap
def enc221 (x : SV × SV) : List SV := [x.1, x.2]
set_option maxRecDepth 20000 in
theorem info221 : InfoOk Tryz.prog 221 2 := ⟨_, _, rfl, rfl, rfl, by decide, rfl⟩
noncomputable def Same_l0_l2_o10 : Array Oper := opsOf (seqR (inBlk (seqL (seqR (seqR (inLoop (inBlk (seqR (seqR (seqR (seqR (inBlk (seqR (inLoop (inBlk (seqL (seqR (seqR (bodyOf Tryz.f53)))))))))))))))))))
def Same_l0_l2 (ka : List Tr) (qa : Nat → SV) (qb : Nat → SV) : Nat → List (SV × SV) → Int → List (SV × SV) × Int
 | 0, L5, x36 => (L5, x36)
 | f + 1, L5, x36 => if x36 < (ka.length : Int) then
  Same_l0_l2 ka qa qb f (L5 ++ [(qa (Int.toNat x36), qb (Int.toNat x36))]) (x36 + 1)
 else
  (L5, x36)
noncomputable def Same_l0_l2_c : Code := (inBlk (seqR (seqR (seqR (seqR (inBlk (seqR (inLoop (inBlk (seqL (seqR (seqR (bodyOf Tryz.f53)))))))))))))
set_option maxHeartbeats 8000000 in
set_option maxRecDepth 20000 in
theorem Same_l0_l2_runs (Γ : Glob) (b6 : Nat) (pa : SV) (xa : ND) (Za : SV) (ka : List Tr) (qa : Nat → SV) (pb : SV) (xb : ND) (Zb : SV) (kb : List Tr) (qb : Nat → SV) (_hla : LenIs Za ka.length) (hia : ∀ i, i < ka.length → indexAddrQ Tryz.prog 34 Za (iV (Int.ofNat i)) = some (qa i)) (hoa : ∀ {i : Int}, 0 ≤ i → i < ka.length → SV.one (qa i.toNat) = true) (_hlb : LenIs Zb kb.length) (hib : ∀ i, i < kb.length → indexAddrQ Tryz.prog 34 Zb (iV (Int.ofNat i)) = some (qb i)) (hob : ∀ {i : Int}, 0 ≤ i → i < kb.length → SV.one (qb i.toNat) = true) (h0 : Hp) (lo : Nat) (h00 : h0.next ≤ lo) (hpa : PtrTo Γ h0 pa [iV xa.k, iV xa.v0, iV xa.v1, iV xa.v2, sV xa.v3, bV xa.v4, iV xa.v5, sV xa.name, iV xa.a0, iV xa.a1, iV xa.a2, iV xa.a3, bV xa.a4, bV xa.a5, iV xa.b0, iV xa.b1, iV xa.b2, iV xa.b3, bV xa.b4, bV xa.b5, iV xa.rows, Za]) (hpb : PtrTo Γ h0 pb [iV xb.k, iV xb.v0, iV xb.v1, iV xb.v2, sV xb.v3, bV xb.v4, iV xb.v5, sV xb.name, iV xb.a0, iV xb.a1, iV xb.a2, iV xb.a3, bV xb.a4, bV xb.a5, iV xb.b0, iV xb.b1, iV xb.b2, iV xb.b3, bV xb.b4, bV xb.b5, iV xb.rows, Zb]) : ∀ (fuel : Nat) (L5 : List (SV × SV)) (x36 : Int) (v5 : SV) (sb5 : Nat) (tm : T SV) (h : Hp) (r : List (SV × SV) × Int), Same_l0_l2 ka qa qb fuel L5 x36 = r → ((ka.length : Int).toNat - x36.toNat) < fuel → (0 ≤ x36 ∧ x36 ≤ (ka.length : Int) ∧ (L5.length : Int) + ((ka.length : Int) - x36) ≤ 1900000 ∧ (ka.length : Int) = (kb.length : Int) ∧ (ka.length : Int) ≤ 1900000) → lo ≤ h.next → Kept h0.next h0 h → Fr.ev ⟨tm, 58, []⟩ (.tmp 5) = v5 → Fr.ev ⟨tm, 58, []⟩ (.tmp 6) = .ptr b6 0 → Fr.ev ⟨tm, 58, []⟩ (.tmp 35) = iV (ka.length : Int) → Fr.ev ⟨tm, 58, []⟩ (.tmp 36) = iV x36 → LL h lo sb5 221 2 v5 enc221 L5 → At h b6 (.cells [pa, pb] 221) → Off v5 sb5 b6 →
  Runs Tryz.prog Γ (.code Same_l0_l2_c none ⟨tm, 58, []⟩ h) fun o => ∃ tm2 H v v52 sb52, o = ⟨.exit 2, ⟨tm2, 58, []⟩, H, v⟩ ∧ (Fr.ev ⟨tm2, 58, []⟩ (.tmp 5) = v52 ∧ Fr.ev ⟨tm2, 58, []⟩ (.tmp 6) = .ptr b6 0 ∧ Fr.ev ⟨tm2, 58, []⟩ (.tmp 35) = iV (ka.length : Int) ∧ Fr.ev ⟨tm2, 58, []⟩ (.tmp 36) = iV r.2) ∧ (LL H lo sb52 221 2 v52 enc221 r.1) ∧ (At H b6 (.cells [pa, pb] 221) ∧ Off v52 sb52 b6) ∧ (0 ≤ r.2 ∧ r.2 ≤ (ka.length : Int) ∧ (r.1.length : Int) + ((ka.length : Int) - r.2) ≤ 1900000 ∧ (ka.length : Int) = (kb.length : Int) ∧ (ka.length : Int) ≤ 1900000) ∧ Kept lo h H := by
 intro fuel
 induction fuel with
 | zero =>
  intros
  omega
 | succ f ih =>
  intro L5 x36 v5 sb5 tm h r hr hm hi hlo K0 e5 e6 e35 e36 hl5 gb6 of5b6
  refine runs_loop ?_
  refine sr ?_
  by_cases c1 : x36 < (ka.length : Int)
  refine oqp (bV true) (by simp only [quiet, e35, e36]; exact congrArg one (c3_lssT c1)) ?_
  refine nt ?_
  refine runs_seq ?_
  refine runs_cond true rfl ?_
  refine runs_skip ?_
  refine then_n ?_
  refine runs_seq ?_
  refine runs_blk ?_
  refine sr ?_
  refine oqp (iV x36) (by simp only [quiet, ev_set, e36] <;> rfl) ?_
  refine oq (iV x36) ?_
  refine nt ?_
  refine runs_drawn (ops := Same_l0_l2_o10) rfl ?_
  have t_Same_l0_l2_o10_12_16 : Nat.testBit (descOf 12 Same_l0_l2_o10.toList 0 0) 16 = true := rfl
  have t_Same_l0_l2_o10_9_16 : Nat.testBit (descOf 9 Same_l0_l2_o10.toList 0 0) 16 = true := rfl
  have t_Same_l0_l2_o10_5_16 : Nat.testBit (descOf 5 Same_l0_l2_o10.toList 0 0) 16 = true := rfl
  have t_Same_l0_l2_o10_2_16 : Nat.testBit (descOf 2 Same_l0_l2_o10.toList 0 0) 16 = true := rfl
  refine drawn_bsl (i := 16) (m' := 65535) (held' := hcons (descOf 12 Same_l0_l2_o10.toList 0 0) (pfacts pb 21 [Zb]) (hcons (descOf 9 Same_l0_l2_o10.toList 0 0) [.cells b6 1 [pb]] (hcons (descOf 5 Same_l0_l2_o10.toList 0 0) (pfacts pa 21 [Za]) ((⟨descOf 2 Same_l0_l2_o10.toList 0 0, [.cells b6 0 [pa]], none⟩ :: []))))) (hp := h) (t := 222) (m := 1) (cs := [qa (Int.toNat x36), qb (Int.toNat x36)]) (e := 221) rfl (noChg_hcons (noChg_hcons (noChg_hcons (noChg_cons trivial)))) (by
   refine tqp v5 (by simp only [quiet, ev_set, e5] <;> rfl) ?_
   refine tqp (.ptr b6 0) (by simp only [quiet, ev_set, e6] <;> rfl) ?_
   refine take_f (v := pa) (fact := .cells b6 0 [pa]) rfl rfl rfl (by exact load_cell (P := Tryz.prog) (t := 219) (k := 0) (v := pa) rfl gb6.get rfl) rfl rfl ?_
   refine tqp pa (by exact px_nil (hpa.kept K0)) ?_
   refine tqp (padd pa 21) (by exact congrArg one (px_field (off := 21) (hpa.kept K0) (fun _ _ => rfl) (fun _ _ => rfl))) ?_
   refine tpc Za 21 (noChg_cons trivial) (hpa.kept K0) ?_
   refine tq (iV x36) ?_
   refine tqp (qa (Int.toNat x36)) (by exact congrArg one (idx_kid hia (by omega) (by omega))) ?_
   refine tqp (.ptr b6 1) (by simp only [quiet, ev_set, e6] <;> rfl) ?_
   refine take_any (v := pb) (fs := [.cells b6 1 [pb]]) rfl rfl rfl (noChg_hcons (noChg_cons trivial)) (by exact load_cell (P := Tryz.prog) (t := 219) (k := 1) (v := pb) rfl gb6.get rfl) rfl rfl ?_
   refine tqp pb (by exact px_nil (hpb.kept K0)) ?_
   refine tqp (padd pb 21) (by exact congrArg one (px_field (off := 21) (hpb.kept K0) (fun _ _ => rfl) (fun _ _ => rfl))) ?_
   refine tpc Zb 21 (noChg_hcons (noChg_hcons (noChg_cons trivial))) (hpb.kept K0) ?_
   refine tq (iV x36) ?_
   refine tqp (qb (Int.toNat x36)) (by exact congrArg one (idx_kid hib (by omega) (by omega))) ?_
   refine tqp (.agg [qa (Int.toNat x36), qb (Int.toNat x36)]) (by exact congrArg one (build_of (ps := [(0, qa (Int.toNat x36)), (1, qb (Int.toNat x36))]) (l2 := [qa (Int.toNat x36), qb (Int.toNat x36)]) rfl rfl rfl (fill_raw (l := [.lit (.pointer none), .lit (.pointer none)]) (off := 0) rfl (hoa (i := x36) (by omega) (by omega)) (show 0 < 2 from by decide) (fill_raw (l := [qa (Int.toNat x36), .lit (.pointer none)]) (off := 1) rfl (hob (i := x36) (by omega) (by omega)) (show 1 < 2 from by decide) rfl)))) ?_
   refine take_loud rfl rfl rfl rfl rfl ?_
   refine tw ?_
   refine tw ?_
   rfl) (by rfl) (by rfl) (build_one (P := Tryz.prog) (st := 222) (e := 221) (n := 2) (c := [qa (Int.toNat x36), qb (Int.toNat x36)]) rfl rfl rfl rfl (by decide) (by decide) rfl rfl (by simp only [List.all_cons, List.all_nil, (hoa (i := x36) (by omega) (by omega)), (hob (i := x36) (by omega) (by omega)), Bool.and_self])) rfl rfl (fun H1 g1 k1 n1 => ?_)
  have lt0_1 : b6 < h.next := gb6.lt
  have of1_1 : Off v5 sb5 h.next := hl5.off (.inr (Nat.le_refl _))
  have lo1_0 : h0.next ≤ h.next := (Nat.le_trans (Nat.le_refl _) K0.next)
  have lo1_1 : lo ≤ h.next := hlo
  have gb6_H1 := gb6.kept k1
  have hl5_H1 := hl5.kept k1
  have KH1 : Kept h0.next h0 H1 := K0.trans (k1.less (Nat.le_trans (Nat.le_refl _) K0.next))
  have K1H1 : Kept lo h H1 := k1.less hlo
  refine ⟨(stands_hyes t_Same_l0_l2_o10_12_16 (stands_hyes t_Same_l0_l2_o10_9_16 (stands_hyes t_Same_l0_l2_o10_5_16 (stands_yes t_Same_l0_l2_o10_2_16 stands_nil)))), _, (drop_hyes t_Same_l0_l2_o10_12_16 (drop_hyes t_Same_l0_l2_o10_9_16 (drop_hyes t_Same_l0_l2_o10_5_16 (drop_yes t_Same_l0_l2_o10_2_16 rfl)))), ?_⟩
  refine drawn_push (i := 17) (m' := 131071) (held' := []) (hp := H1) (v := v5) (nb := h.next) (x := (qa (Int.toNat x36), qb (Int.toNat x36))) (L := L5) info221 rfl (by decide) rfl trivial (by
   iterate 17 refine td ?_
   refine take_loud rfl rfl rfl rfl rfl ?_
   refine tw ?_
   rfl) (by rfl) (by rfl) rfl rfl rfl rfl hl5_H1 g1 rfl rfl (by simp only [List.all_cons, List.all_nil, (hoa (i := x36) (by omega) (by omega)), (hob (i := x36) (by omega) (by omega)), Bool.and_self]) (by omega) (Nat.le_trans hlo K1H1.next) of1_1 (fun w2 H2 sb_2 hl_2 n2 j2 p2 kl2 => ?_)
  have gb6_H2 := gb6_H1.off n2 (j2 _ gb6_H1.lt of5b6)
  have of2_2 := p2 _ gb6_H1.lt of5b6
  have g1_H2 := g1.off n2 (j2 _ g1.lt of1_1)
  have of3_2 := p2 _ g1.lt of1_1
  have KH2 : Kept h0.next h0 H2 := KH1.trans (kl2.less h00)
  have K1H2 : Kept lo h H2 := K1H1.trans (kl2.less (Nat.le_refl _))
  have q_2 : (((L5 ++ [(qa (Int.toNat x36), qb (Int.toNat x36))])).length : Int) = (L5.length : Int) + 1 := by rw [List.length_append, List.length_singleton]; omega
  refine ⟨stands_nil, _, rfl, ?_⟩
  refine drawn_end (m' := 524287) (held' := []) (hp' := H2) (by
   iterate 18 refine td ?_
   refine tq w2 ?_
   rfl) (by rfl) (by rfl) ?_
  refine blk_n ?_
  refine then_n ?_
  refine runs_region ?_
  refine oqp (iV (x36 + 1)) (by simp only [quiet, ev_set, e36]; exact congrArg one (a3_add (by omega) (by omega) (by omega))) ?_
  refine oq (iV (x36 + 1)) ?_
  refine nt ?_
  refine (ih (L5 ++ [(qa (Int.toNat x36), qb (Int.toNat x36))]) (x36 + 1) w2 sb_2 _ _ r (by rw [← hr, Same_l0_l2]; simp only [if_pos c1]) (by omega) (by omega) (Nat.le_trans hlo K1H2.next) KH2 rfl (by simp only [ev_set, e6] <;> rfl) (by simp only [ev_set, e35] <;> rfl) rfl hl_2 gb6_H2 of2_2).mono ?_
  exact fun o ⟨tm2, H, v, w0, w1, a1, a2, a3, a5, a0, a4⟩ => ⟨tm2, H, v, w0, w1, a1, a2, a3, a5, a0, Kept.trans K1H2 a4⟩
  refine oqp (bV false) (by simp only [quiet, e35, e36]; exact congrArg one (c3_lssF c1)) ?_
  refine nt ?_
  refine runs_seq ?_
  refine runs_cond false rfl ?_
  refine runs_exit ?_
  refine then_x ?_
  refine then_x ?_
  obtain rfl : (L5, x36) = r := by rw [← hr, Same_l0_l2]; simp only [if_neg c1]
  exact ⟨_, _, _, v5, sb5, rfl, ⟨(by simp only [ev_set, e5] <;> rfl), (by simp only [ev_set, e6] <;> rfl), (by simp only [ev_set, e35] <;> rfl), (by simp only [ev_set, e36] <;> rfl)⟩, hl5, ⟨gb6, of5b6⟩, (by (try dsimp only); omega), (Kept.refl _ _)⟩
theorem same_push (ka : List Tr) (qa qb : Nat → SV) : ∀ (n fuel i : Nat), n < fuel → i + n = ka.length → ∀ L : List (SV × SV), Same_l0_l2 ka qa qb fuel L i = (L ++ kidPairs qa qb n i, (ka.length : Int)) := by
 intro n
 induction n with
 | zero =>
  intro fuel i hf hi L
  obtain ⟨f, rfl⟩ : ∃ f, fuel = f + 1 := ⟨fuel - 1, by omega⟩
  rw [Same_l0_l2, if_neg (by omega), kidPairs, List.append_nil]
  rw [show (i : Int) = ka.length by omega]
 | succ n ih =>
  intro fuel i hf hi L
  obtain ⟨f, rfl⟩ : ∃ f, fuel = f + 1 := ⟨fuel - 1, by omega⟩
  have := ih f (i + 1) (by omega) (by omega) (L ++ [(qa i, qb i)])
  rw [Same_l0_l2, if_pos (by omega), kidPairs]
  rw [show ((i + 1 : Nat) : Int) = (i : Int) + 1 by omega] at this
  rw [Int.toNat_natCast, this, List.append_assoc]
  rfl
noncomputable def Same_l0_c : Code := (inBlk (seqL (seqR (seqR (bodyOf Tryz.f53)))))
set_option maxHeartbeats 8000000 in
set_option maxRecDepth 20000 in
theorem Same_l0_runs (Γ : Glob)  (h0 : Hp) (lo : Nat) (h00 : h0.next ≤ lo) : ∀ (fuel : Nat) (L5 : List (SV × SV)) (ts : List (Tr × Tr)) (v5 : SV) (sb5 : Nat) (tm : T SV) (h : Hp), (psize ts) < fuel → (PairsAt Γ h0 L5 ts ∧ psize ts ≤ 1900000) → lo ≤ h.next → Kept h0.next h0 h → Fr.ev ⟨tm, 58, []⟩ (.tmp 5) = v5 → LL h lo sb5 221 2 v5 enc221 L5 →
  Runs Tryz.prog Γ (.code Same_l0_c none ⟨tm, 58, []⟩ h) fun o => (∃ x : Bool, (x = false ∧ allP ts = false) ∧ ∃ tm2 H v, o = ⟨.ret, ⟨tm2, 58, []⟩, H, v⟩ ∧ (Fr.ev ⟨tm2, 58, []⟩ (.tmp 4) = bV x) ∧ Kept lo h H) ∨ (∃ (y0 : List (SV × SV)), (allP ts = true) ∧ ∃ tm2 H v v52 sb52, o = ⟨.exit 0, ⟨tm2, 58, []⟩, H, v⟩ ∧ (Fr.ev ⟨tm2, 58, []⟩ (.tmp 5) = v52) ∧ (LL H lo sb52 221 2 v52 enc221 y0) ∧ (True) ∧ Kept lo h H) := by
 intro fuel
 induction fuel with
 | zero =>
  intros
  omega
 | succ f ih =>
  intro L5 ts v5 sb5 tm h hm hi hlo K0 e5 hl5
  refine runs_loop ?_
  refine runs_seq ?_
  refine sr ?_
  refine oqp v5 (by simp only [quiet, e5] <;> rfl) ?_
  refine oqp (iV (L5.length : Int)) (by exact LL.len rfl rfl hl5) ?_
  by_cases c1 : (L5.length : Int) > 0
  refine oqp (bV true) (by exact congrArg one (c3_gtrT c1)) ?_
  refine nt ?_
  refine runs_cond true rfl ?_
  refine runs_skip ?_
  refine then_n ?_
  refine runs_blk ?_
  refine sr ?_
  obtain ⟨ti, pa, pb, ⟨xa, ka⟩, ⟨xb, kb⟩, hts, hget, hta, htb, hti⟩ := pairs_last hi.1 (by omega)
  obtain ⟨Za, hpa, hla, qa, hia, hka⟩ := hta.out
  have hoa : ∀ {i : Int}, 0 ≤ i → i < ka.length → SV.one (qa i.toNat) = true := fun h0 h1 => kids_one hka h0 h1
  obtain ⟨Zb, hpb, hlb, qb, hib, hkb⟩ := htb.out
  have hob : ∀ {i : Int}, 0 ≤ i → i < kb.length → SV.one (qb i.toNat) = true := fun h0 h1 => kids_one hkb h0 h1
  have hsz : psize ts = psize ti + (1 + sizeL ka) := by rw [hts, psize, List.map_append, sizeL_append, ← psize]; rfl
  have hka1 := len_sizeL ka
  have hti1 : (ti.length : Int) ≤ psize ti := by have := len_sizeL (ti.map (·.1)); rw [List.length_map] at this; unfold psize; omega
  have hti2 : ((L5.take (Int.toNat ((L5.length : Int) - 1))).length : Int) = ti.length := by rw [hti.1]
  have hL1 : (L5.length : Int) = (ti.length : Int) + 1 := by rw [hi.1.1, hts, List.length_append, List.length_singleton]; omega
  have hi2 := hi.2
  refine oqp v5 (by simp only [quiet, ev_set, e5] <;> rfl) ?_
  refine oqp v5 (by simp only [quiet, ev_set, e5] <;> rfl) ?_
  refine oqp (iV (L5.length : Int)) (by exact LL.len rfl rfl hl5) ?_
  refine oqp (iV ((L5.length : Int) - 1)) (by exact congrArg one (a3_sub (by omega) (by omega) (by omega))) ?_
  refine oqp (.ptr sb5 (Int.toNat ((L5.length : Int) - 1) * 2)) (by exact congrArg one (LL.idx rfl rfl hl5 (by omega) (by omega))) ?_
  refine oqf (.agg [pa, pb]) ([.cells sb5 ((Int.toNat ((L5.length : Int) - 1) * 2) + 0) [pa, pb]]) (by exact win_cut (P := Tryz.prog) (t := 221) (k := 0) (n := 2) (vs := [pa, pb]) rfl rfl (LL.win_eq (i := (L5.length : Int) - 1) hl5 (by omega) (by omega) hget) rfl) ?_
  refine ops_alloc (z := .agg #[.pointer none, .pointer none]) rfl rfl rfl rfl rfl (fun H1 g1 k1 n1 => ?_)
  have of0_1 : Off v5 sb5 h.next := hl5.off (.inr (Nat.le_refl _))
  have lo1_0 : h0.next ≤ h.next := (Nat.le_trans (Nat.le_refl _) K0.next)
  have lo1_1 : lo ≤ h.next := hlo
  have hl5_H1 := hl5.kept k1
  have KH1 : Kept h0.next h0 H1 := K0.trans (k1.less (Nat.le_trans (Nat.le_refl _) K0.next))
  have K1H1 : Kept lo h H1 := k1.less hlo
  refine ops_storeA (b := h.next) (off := 0) (v := .agg [pa, pb]) (l2 := [pa, pb]) rfl rfl rfl rfl rfl rfl rfl g1.get (splice_all (l := [.lit (.pointer none), .lit (.pointer none)]) (off := 0) (vs := [pa, pb]) (show 2 ≤ 2 from by decide) (by simp only [List.all_cons, List.all_nil, ((hpa.kept KH1)).one, ((hpb.kept KH1)).one, Bool.and_self])) (fun H2 g2 j2 n2 => ?_)
  have g2 : At H2 h.next _ := ⟨by rw [n2]; exact g1.lt, g2⟩
  have hl5_H2 := hl5_H1.other of0_1 j2 n2
  have KH2 : Kept h0.next h0 H2 := kept_other KH1 j2 n2 lo1_0
  have K1H2 : Kept lo h H2 := kept_other K1H1 j2 n2 lo1_1
  refine nt ?_
  refine sr ?_
  refine oqp v5 (by simp only [quiet, ev_set, e5] <;> rfl) ?_
  refine oqp v5 (by simp only [quiet, ev_set, e5] <;> rfl) ?_
  refine oqp (iV (L5.length : Int)) (by exact LL.len rfl rfl hl5_H2) ?_
  refine oqp (iV ((L5.length : Int) - 1)) (by exact congrArg one (a3_sub (by omega) (by omega) (by omega))) ?_
  obtain ⟨w3, ht3, hl_3⟩ := LL.take (P := Tryz.prog) (t := 222) (i := (L5.length : Int) - 1) rfl rfl hl5_H2 (by omega) (by omega)
  have q_3 : (((L5.take (Int.toNat ((L5.length : Int) - 1)))).length : Int) = (L5.length : Int) - 1 := by rw [List.length_take]; omega
  have of1_3 : Off w3 sb5 h.next := LL.off_take hl5_H2 (by omega) of0_1
  refine oqp w3 (by exact congrArg one ht3) ?_
  refine oq w3 ?_
  refine nt ?_
  refine runs_seq ?_
  refine sr ?_
  refine oq (.ptr h.next 0) ?_
  refine olc pa 0 g2 ?_
  refine oq (.ptr h.next 1) ?_
  refine olc pb 1 g2 ?_
  refine ops_c (f := 110) (args := [pa, pb]) rfl rfl rfl (clone_body Tryz.func110 rfl) rfl rfl ?_
  refine (alike_runs Γ xa (ka.length : Int) xb (kb.length : Int) Za Zb pa pb H2 (hpa.kept KH2) (hpb.kept KH2) hla hlb).mono ?_
  rintro ⟨ex4, fr4, H4, v4⟩ ⟨hv4, k4⟩
  have k4 : Kept H2.next H2 H4 := k4
  have g2_H4 := g2.kept k4
  have hl5_H4 := hl5_H2.kept k4
  have hl_H4 := hl_3.kept k4
  have KH4 : Kept h0.next h0 H4 := KH2.trans (k4.less (Nat.le_trans (Nat.le_refl _) KH2.next))
  have K1H4 : Kept lo h H4 := K1H2.trans (k4.less (Nat.le_trans hlo K1H2.next))
  by_cases c2 : alike xa (ka.length : Int) xb (kb.length : Int) = true
  have hv4 : v4 = bV true := hv4.trans (congrArg (fun b => SV.lit (.bool b)) c2)
  subst hv4
  refine oq (bV false) ?_
  refine nt ?_
  refine runs_cond false rfl ?_
  refine runs_skip ?_
  refine then_n ?_
  refine sr ?_
  refine oq (.ptr h.next 0) ?_
  refine olc pa 0 g2_H4 ?_
  refine oqp pa (by exact px_nil (hpa.kept KH4)) ?_
  refine oqp (padd pa 21) (by exact congrArg one (px_field (off := 21) (hpa.kept KH4) (fun _ _ => rfl) (fun _ _ => rfl))) ?_
  refine oqf Za (pfacts pa 21 [Za]) (by exact px_cell (P := Tryz.prog) (t := 34) (k := 21) (v := Za) rfl (hpa.kept KH4) rfl) ?_
  refine oqp (iV (ka.length : Int)) (by exact hla.2.2 _) ?_
  refine oq (iV 0) ?_
  refine nt ?_
  refine runs_blk ?_
  obtain ⟨r5, hr5⟩ : ∃ r, Same_l0_l2 ka qa qb ((ka.length : Int).toNat - (0 : Int).toNat + 1) (L5.take (Int.toNat ((L5.length : Int) - 1))) 0 = r := ⟨_, rfl⟩
  refine (Same_l0_l2_runs Γ h.next pa xa Za ka qa pb xb Zb kb qb hla hia hoa hlb hib hob h0 lo h00 hpa hpb ((ka.length : Int).toNat - (0 : Int).toNat + 1) (L5.take (Int.toNat ((L5.length : Int) - 1))) 0 w3 sb5 _ _ _ hr5 (by omega) (by have := alike_len c2; omega) (Nat.le_trans hlo K1H4.next) KH4 rfl rfl rfl rfl hl_H4 g2_H4 of1_3).mono ?_
  rintro _ ⟨tm5, H5, v5, v5_5, sb5_5, rfl, ⟨e5_5, e6_5, e35_5, e36_5⟩, hl5_5, ⟨g2b_5, oz5b6_5⟩, i5, k5⟩
  refine blk_x ?_
  have KH5 : Kept h0.next h0 H5 := KH4.trans (k5.less h00)
  have K1H5 : Kept lo h H5 := K1H4.trans (k5.less (Nat.le_refl _))
  refine blk_n ?_
  refine then_n ?_
  have hab : ka.length = kb.length := by have := alike_len c2; omega
  have hres : r5.1 = (L5.take (Int.toNat ((L5.length : Int) - 1))) ++ kidPairs qa qb ka.length 0 := by rw [← hr5]; exact congrArg Prod.fst (same_push ka qa qb ka.length _ 0 (by omega) (by omega) _)
  have hps : psize (ti ++ ka.zip kb) = psize ti + sizeL ka := by rw [psize, List.map_append, sizeL_append, map_zip_fst hab, ← psize]
  have hE : allP ts = allP (ti ++ ka.zip kb) := by rw [hts, allP_append, allP_append, allP_zip hab]; congr 1; show (sameT _ _ && true) = _; rw [Bool.and_true, sameT, c2, Bool.true_and]
  refine (ih r5.1 (ti ++ ka.zip kb) v5_5 sb5_5 _ _ (by omega) ⟨by rw [hres]; exact hti.append (PairsAt.kids hab hka hkb), by omega⟩ (Nat.le_trans hlo K1H5.next) KH5  (by simp only [e5_5] <;> rfl) hl5_5  ).mono ?_
  exact fun o ho => ho.imp (fun ⟨x, hx, tm2, H, v, a1, a2, a3⟩ => ⟨x, (fun hx => ⟨hx.1, hE.trans hx.2⟩) hx, tm2, H, v, a1, a2, Kept.trans K1H5 a3⟩) (fun ⟨y0, hp, tm2, H, v, w0, w1, a1, a2, a3, a5, a4⟩ => ⟨y0, (fun hp => hE.trans hp) hp, tm2, H, v, w0, w1, a1, a2, a3, a5, Kept.trans K1H5 a4⟩)
  have hv4 : v4 = bV false := hv4.trans (congrArg (fun b => SV.lit (.bool b)) (Bool.eq_false_iff.2 c2))
  subst hv4
  refine oq (bV true) ?_
  refine nt ?_
  refine runs_cond true rfl ?_
  refine sr ?_
  refine oq (bV false) ?_
  refine nt ?_
  refine runs_ret ?_
  refine then_r ?_
  refine blk_r ?_
  refine then_r ?_
  exact .inl ⟨false, ⟨rfl, by rw [hts, allP_append]; show (allP ti && (sameT _ _ && true)) = false; rw [Bool.and_true, sameT, Bool.eq_false_iff.2 c2, Bool.false_and, Bool.and_false]⟩, _, _, _, rfl, rfl, K1H4⟩
  refine oqp (bV false) (by exact congrArg one (c3_gtrF c1)) ?_
  refine nt ?_
  refine runs_cond false rfl ?_
  refine runs_exit ?_
  refine then_x ?_
  refine then_x ?_
  exact .inr ⟨L5, (by have h1 : ts = [] := List.length_eq_zero_iff.1 (by rw [← hi.1.1]; omega); rw [h1]; rfl), _, _, _, v5, sb5, rfl, (by simp only [ev_set, e5] <;> rfl), hl5, True.intro, (Kept.refl _ _)⟩
set_option maxHeartbeats 8000000 in
set_option maxRecDepth 20000 in
theorem Same_runs (Γ : Glob) (x : ND) (ks : List Tr) (y : ND) (ls : List Tr) (L : SV) (M : SV) (h : Hp) (hka : KidsOf Γ h L ks) (hkb : KidsOf Γ h M ls) (hsz : 1 + sizeL ks ≤ 1900000) : Runs Tryz.prog Γ (.call 53 [.agg [iV x.k, iV x.v0, iV x.v1, iV x.v2, sV x.v3, bV x.v4, iV x.v5, sV x.name, iV x.a0, iV x.a1, iV x.a2, iV x.a3, bV x.a4, bV x.a5, iV x.b0, iV x.b1, iV x.b2, iV x.b3, bV x.b4, bV x.b5, iV x.rows, L], .agg [iV y.k, iV y.v0, iV y.v1, iV y.v2, sV y.v3, bV y.v4, iV y.v5, sV y.name, iV y.a0, iV y.a1, iV y.a2, iV y.a3, bV y.a4, bV y.a5, iV y.b0, iV y.b1, iV y.b2, iV y.b3, bV y.b4, bV y.b5, iV y.rows, M]] h) (Tells h (bV (sameT (Tr.mk x ks) (Tr.mk y ls)))) := by
 refine runs_call Tryz.func53 rfl ?_
 refine sr ?_
 refine ops_box (cs := [iV x.k, iV x.v0, iV x.v1, iV x.v2, sV x.v3, bV x.v4, iV x.v5, sV x.name, iV x.a0, iV x.a1, iV x.a2, iV x.a3, bV x.a4, bV x.a5, iV x.b0, iV x.b1, iV x.b2, iV x.b3, bV x.b4, bV x.b5, iV x.rows, L]) rfl rfl rfl rfl rfl (fun H1 g1 k1 n1 => ?_)
 have lo1_0 : h.next ≤ h.next := (Nat.le_refl _)
 refine ops_box (cs := [iV y.k, iV y.v0, iV y.v1, iV y.v2, sV y.v3, bV y.v4, iV y.v5, sV y.name, iV y.a0, iV y.a1, iV y.a2, iV y.a3, bV y.a4, bV y.a5, iV y.b0, iV y.b1, iV y.b2, iV y.b3, bV y.b4, bV y.b5, iV y.rows, M]) rfl rfl rfl rfl rfl (fun H2 g2 k2 n2 => ?_)
 have lt1_2 : h.next < H1.next := g1.lt
 have lo2_0 : h.next ≤ H1.next := (Nat.le_trans (Nat.le_refl _) k1.next)
 have g1_H2 := g1.kept k2
 have KH2 : Kept h.next h H2 := k1.trans (k2.less (Nat.le_trans (Nat.le_refl _) k1.next))
 refine oq (bV false) ?_
 refine nt ?_
 refine sr ?_
 refine oq (.agg [.ptr h.next 0, .ptr H1.next 0]) ?_
 refine ops_bsl (t := 222) (k := 1) (cs := [.ptr h.next 0, .ptr H1.next 0]) (e := 221) rfl rfl (by rfl) rfl rfl (fun H3 g3 k3 n3 => ?_)
 have lt3_3 : h.next < H2.next := g1_H2.lt
 have lt4_3 : H1.next < H2.next := g2.lt
 have lo3_0 : h.next ≤ H2.next := (Nat.le_trans (Nat.le_refl _) KH2.next)
 have g1_H3 := g1_H2.kept k3
 have g2_H3 := g2.kept k3
 have KH3 : Kept h.next h H3 := KH2.trans (k3.less (Nat.le_trans (Nat.le_refl _) KH2.next))
 refine oq (.slice H2.next 0 1 1) ?_
 refine nt ?_
 refine runs_seq ?_
 refine runs_blk ?_
 refine (Same_l0_runs Γ  H2 H2.next (Nat.le_refl _) (psize [(Tr.mk x ks, Tr.mk y ls)] + 1) [(.ptr h.next 0, .ptr H1.next 0)] [(Tr.mk x ks, Tr.mk y ls)] (.slice H2.next 0 1 1) H2.next _ _  (by omega) ⟨PairsAt.one (TreeAt.of (PtrTo.ofAt g1_H2) (hka.kept KH2)) (TreeAt.of (PtrTo.ofAt g2) (hkb.kept KH2)), by show 1 + sizeL ks + 0 ≤ _; omega⟩ (Nat.le_of_lt g3.lt) k3 rfl (LL.of1 g3 rfl rfl rfl (Nat.le_refl _))  ).mono ?_
 rintro _ (⟨r4, hx4, tm4, H4, v4, rfl, q4_4, k4⟩ | ⟨y0_4, hp4, tm4, H4, v4, v5_4, sb5_4, rfl, e5_4, hl5_4, _, k4⟩)
 refine blk_r ?_
 have g1_H4 := g1_H3.keptLo k4 lt3_3
 have g2_H4 := g2_H3.keptLo k4 lt4_3
 have KH4 : Kept h.next h H4 := KH3.trans (k4.less lo3_0)
 refine then_r ?_
 exact ⟨_, leave_t1 rfl (by simp only [q4_4] <;> rfl), fb (r4) (by rw [hx4.1]; have := hx4.2; show false = _; rw [← Bool.and_true (sameT _ _)]; exact this.symm), KH4⟩
 refine blk_x ?_
 have g1_H4 := g1_H3.keptLo k4 lt3_3
 have g2_H4 := g2_H3.keptLo k4 lt4_3
 have KH4 : Kept h.next h H4 := KH3.trans (k4.less lo3_0)
 have of0_4 : Off v5_4 sb5_4 h.next := hl5_4.off (.inl lt3_3)
 have of1_4 : Off v5_4 sb5_4 H1.next := hl5_4.off (.inl lt4_3)
 refine then_n ?_
 refine sr ?_
 refine oq (bV true) ?_
 refine nt ?_
 refine runs_ret ?_
 exact ⟨_, leave_t1 rfl rfl, fb (true) (by show true = _; rw [← Bool.and_true (sameT _ _)]; exact hp4.symm), KH4⟩
end Go.Proofs.YtcnfmcbmephdfaaGreatDoor.d
