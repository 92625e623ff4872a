/-
  NUMBERS: what the model makes of two of them, at the types that this program has; printed by the author's dec.py. | BYTES AND NAMES, as package tree reads them.
-/
import Derived.Test.YtcnfmcbmephdfaaGreatDoorDeA
namespace Go.Proofs.YtcnfmcbmephdfaaGreatDoor.d
open Go Go.Proofs.YtcnfmcbmephdfaaGreatDoor.Ev Go.Proofs.YtcnfmcbmephdfaaGreatDoor.snap
theorem c3_lss {x y : Operand} {a b : Int} : binQ Tryz.prog .lss 3 x y (.lit (.int .i64 a)) (.lit (.int .i64 b)) = some (.lit (.bool (decide (a < b)))) := rfl
theorem c3_lssT {x y : Operand} {a b : Int} (h : a < b) : binQ Tryz.prog .lss 3 x y (.lit (.int .i64 a)) (.lit (.int .i64 b)) = some (.lit (.bool true)) := c3_lss.trans (by rw [decide_eq_true h])
theorem c3_lssF {x y : Operand} {a b : Int} (h : ¬ (a < b)) : binQ Tryz.prog .lss 3 x y (.lit (.int .i64 a)) (.lit (.int .i64 b)) = some (.lit (.bool false)) := c3_lss.trans (by rw [decide_eq_false h])
theorem c3_leq {x y : Operand} {a b : Int} : binQ Tryz.prog .leq 3 x y (.lit (.int .i64 a)) (.lit (.int .i64 b)) = some (.lit (.bool (decide (a ≤ b)))) := rfl
theorem c3_leqT {x y : Operand} {a b : Int} (h : a ≤ b) : binQ Tryz.prog .leq 3 x y (.lit (.int .i64 a)) (.lit (.int .i64 b)) = some (.lit (.bool true)) := c3_leq.trans (by rw [decide_eq_true h])
theorem c3_leqF {x y : Operand} {a b : Int} (h : ¬ (a ≤ b)) : binQ Tryz.prog .leq 3 x y (.lit (.int .i64 a)) (.lit (.int .i64 b)) = some (.lit (.bool false)) := c3_leq.trans (by rw [decide_eq_false h])
theorem c3_gtr {x y : Operand} {a b : Int} : binQ Tryz.prog .gtr 3 x y (.lit (.int .i64 a)) (.lit (.int .i64 b)) = some (.lit (.bool (decide (a > b)))) := rfl
theorem c3_gtrT {x y : Operand} {a b : Int} (h : a > b) : binQ Tryz.prog .gtr 3 x y (.lit (.int .i64 a)) (.lit (.int .i64 b)) = some (.lit (.bool true)) := c3_gtr.trans (by rw [decide_eq_true h])
theorem c3_gtrF {x y : Operand} {a b : Int} (h : ¬ (a > b)) : binQ Tryz.prog .gtr 3 x y (.lit (.int .i64 a)) (.lit (.int .i64 b)) = some (.lit (.bool false)) := c3_gtr.trans (by rw [decide_eq_false h])
theorem c3_geq {x y : Operand} {a b : Int} : binQ Tryz.prog .geq 3 x y (.lit (.int .i64 a)) (.lit (.int .i64 b)) = some (.lit (.bool (decide (a ≥ b)))) := rfl
theorem c3_geqT {x y : Operand} {a b : Int} (h : a ≥ b) : binQ Tryz.prog .geq 3 x y (.lit (.int .i64 a)) (.lit (.int .i64 b)) = some (.lit (.bool true)) := c3_geq.trans (by rw [decide_eq_true h])
theorem c3_geqF {x y : Operand} {a b : Int} (h : ¬ (a ≥ b)) : binQ Tryz.prog .geq 3 x y (.lit (.int .i64 a)) (.lit (.int .i64 b)) = some (.lit (.bool false)) := c3_geq.trans (by rw [decide_eq_false h])
theorem c3_eql {x y : Operand} {a b : Int} : binQ Tryz.prog .eql 3 x y (.lit (.int .i64 a)) (.lit (.int .i64 b)) = some (.lit (.bool (decide (a = b)))) := by
  show some (SV.lit (.bool (a == b))) = _
  by_cases h : a = b <;> simp [h]
theorem c3_eqlT {x y : Operand} {a b : Int} (h : a = b) : binQ Tryz.prog .eql 3 x y (.lit (.int .i64 a)) (.lit (.int .i64 b)) = some (.lit (.bool true)) := c3_eql.trans (by rw [decide_eq_true h])
theorem c3_eqlF {x y : Operand} {a b : Int} (h : ¬ (a = b)) : binQ Tryz.prog .eql 3 x y (.lit (.int .i64 a)) (.lit (.int .i64 b)) = some (.lit (.bool false)) := c3_eql.trans (by rw [decide_eq_false h])
theorem c3_neq {x y : Operand} {a b : Int} : binQ Tryz.prog .neq 3 x y (.lit (.int .i64 a)) (.lit (.int .i64 b)) = some (.lit (.bool (decide (a ≠ b)))) := by
  show some (SV.lit (.bool (!(a == b)))) = _
  by_cases h : a = b <;> simp [h]
theorem c3_neqT {x y : Operand} {a b : Int} (h : a ≠ b) : binQ Tryz.prog .neq 3 x y (.lit (.int .i64 a)) (.lit (.int .i64 b)) = some (.lit (.bool true)) := c3_neq.trans (by rw [decide_eq_true h])
theorem c3_neqF {x y : Operand} {a b : Int} (h : ¬ (a ≠ b)) : binQ Tryz.prog .neq 3 x y (.lit (.int .i64 a)) (.lit (.int .i64 b)) = some (.lit (.bool false)) := c3_neq.trans (by rw [decide_eq_false h])
theorem w3_add {x y : Operand} {a b : Int} : binQ Tryz.prog .add 3 x y (.lit (.int .i64 a)) (.lit (.int .i64 b)) = some (.lit (.int .i64 (IntKind.i64.wrap (a + b)))) := rfl
theorem a3_add {x y : Operand} {a b c : Int} (h : a + b = c) (h1 : -9223372036854775808 ≤ c) (h2 : c < 9223372036854775808) : binQ Tryz.prog .add 3 x y (.lit (.int .i64 a)) (.lit (.int .i64 b)) = some (.lit (.int .i64 c)) := by
  rw [w3_add, h, wrap_i64 h1 h2]
theorem w3_sub {x y : Operand} {a b : Int} : binQ Tryz.prog .sub 3 x y (.lit (.int .i64 a)) (.lit (.int .i64 b)) = some (.lit (.int .i64 (IntKind.i64.wrap (a - b)))) := rfl
theorem a3_sub {x y : Operand} {a b c : Int} (h : a - b = c) (h1 : -9223372036854775808 ≤ c) (h2 : c < 9223372036854775808) : binQ Tryz.prog .sub 3 x y (.lit (.int .i64 a)) (.lit (.int .i64 b)) = some (.lit (.int .i64 c)) := by
  rw [w3_sub, h, wrap_i64 h1 h2]
theorem a3_rem {x y : Operand} {a b : Int} (h0 : 0 ≤ a) (h1 : 0 < b) (_h2 : a < 9223372036854775808) : binQ Tryz.prog .rem 3 x y (.lit (.int .i64 a)) (.lit (.int .i64 b)) = some (.lit (.int .i64 (a % b))) := by
  have hb : b ≠ 0 := by omega
  show (pureRun Tryz.prog (Op.intDiv .rem .i64 a b)).map SV.lit = _
  simp only [Op.intDiv, if_neg hb, Int.tmod_eq_emod_of_nonneg h0]
  rfl
theorem c5_leq {x y : Operand} {a b : Int} : binQ Tryz.prog .leq 5 x y (.lit (.int .u8 a)) (.lit (.int .u8 b)) = some (.lit (.bool (decide (a ≤ b)))) := rfl
theorem c5_geq {x y : Operand} {a b : Int} : binQ Tryz.prog .geq 5 x y (.lit (.int .u8 a)) (.lit (.int .u8 b)) = some (.lit (.bool (decide (a ≥ b)))) := rfl
theorem c5_geqT {x y : Operand} {a b : Int} (h : a ≥ b) : binQ Tryz.prog .geq 5 x y (.lit (.int .u8 a)) (.lit (.int .u8 b)) = some (.lit (.bool true)) := c5_geq.trans (by rw [decide_eq_true h])
theorem c5_geqF {x y : Operand} {a b : Int} (h : ¬ (a ≥ b)) : binQ Tryz.prog .geq 5 x y (.lit (.int .u8 a)) (.lit (.int .u8 b)) = some (.lit (.bool false)) := c5_geq.trans (by rw [decide_eq_false h])
theorem c5_eql {x y : Operand} {a b : Int} : binQ Tryz.prog .eql 5 x y (.lit (.int .u8 a)) (.lit (.int .u8 b)) = some (.lit (.bool (decide (a = b)))) := by
  show some (SV.lit (.bool (a == b))) = _
  by_cases h : a = b <;> simp [h]
theorem c5_eqlT {x y : Operand} {a b : Int} (h : a = b) : binQ Tryz.prog .eql 5 x y (.lit (.int .u8 a)) (.lit (.int .u8 b)) = some (.lit (.bool true)) := c5_eql.trans (by rw [decide_eq_true h])
theorem c5_eqlF {x y : Operand} {a b : Int} (h : ¬ (a = b)) : binQ Tryz.prog .eql 5 x y (.lit (.int .u8 a)) (.lit (.int .u8 b)) = some (.lit (.bool false)) := c5_eql.trans (by rw [decide_eq_false h])
theorem c5_neq {x y : Operand} {a b : Int} : binQ Tryz.prog .neq 5 x y (.lit (.int .u8 a)) (.lit (.int .u8 b)) = some (.lit (.bool (decide (a ≠ b)))) := by
  show some (SV.lit (.bool (!(a == b)))) = _
  by_cases h : a = b <;> simp [h]
theorem c5_neqT {x y : Operand} {a b : Int} (h : a ≠ b) : binQ Tryz.prog .neq 5 x y (.lit (.int .u8 a)) (.lit (.int .u8 b)) = some (.lit (.bool true)) := c5_neq.trans (by rw [decide_eq_true h])
theorem c5_neqF {x y : Operand} {a b : Int} (h : ¬ (a ≠ b)) : binQ Tryz.prog .neq 5 x y (.lit (.int .u8 a)) (.lit (.int .u8 b)) = some (.lit (.bool false)) := c5_neq.trans (by rw [decide_eq_false h])
theorem c52_eql {x y : Operand} {a b : Int} : binQ Tryz.prog .eql 52 x y (.lit (.int .i64 a)) (.lit (.int .i64 b)) = some (.lit (.bool (decide (a = b)))) := by
  show some (SV.lit (.bool (a == b))) = _
  by_cases h : a = b <;> simp [h]
theorem c301_geq {x y : Operand} {a b : Int} : binQ Tryz.prog .geq 301 x y (.lit (.int .u64 a)) (.lit (.int .u64 b)) = some (.lit (.bool (decide (a ≥ b)))) := rfl
theorem c301_geqT {x y : Operand} {a b : Int} (h : a ≥ b) : binQ Tryz.prog .geq 301 x y (.lit (.int .u64 a)) (.lit (.int .u64 b)) = some (.lit (.bool true)) := c301_geq.trans (by rw [decide_eq_true h])
theorem c301_geqF {x y : Operand} {a b : Int} (h : ¬ (a ≥ b)) : binQ Tryz.prog .geq 301 x y (.lit (.int .u64 a)) (.lit (.int .u64 b)) = some (.lit (.bool false)) := c301_geq.trans (by rw [decide_eq_false h])
theorem c301_eql {x y : Operand} {a b : Int} : binQ Tryz.prog .eql 301 x y (.lit (.int .u64 a)) (.lit (.int .u64 b)) = some (.lit (.bool (decide (a = b)))) := by
  show some (SV.lit (.bool (a == b))) = _
  by_cases h : a = b <;> simp [h]
theorem c301_eqlT {x y : Operand} {a b : Int} (h : a = b) : binQ Tryz.prog .eql 301 x y (.lit (.int .u64 a)) (.lit (.int .u64 b)) = some (.lit (.bool true)) := c301_eql.trans (by rw [decide_eq_true h])
theorem c301_eqlF {x y : Operand} {a b : Int} (h : ¬ (a = b)) : binQ Tryz.prog .eql 301 x y (.lit (.int .u64 a)) (.lit (.int .u64 b)) = some (.lit (.bool false)) := c301_eql.trans (by rw [decide_eq_false h])
theorem a301_quo {x y : Operand} {a b : Int} (h0 : 0 ≤ a) (h1 : 0 < b) (h2 : a < 18446744073709551616) : binQ Tryz.prog .quo 301 x y (.lit (.int .u64 a)) (.lit (.int .u64 b)) = some (.lit (.int .u64 (a / b))) := by
  have hb : b ≠ 0 := by omega
  have h3 : a / b ≤ a := Int.ediv_le_self b h0
  have h4 : 0 ≤ a / b := Int.ediv_nonneg h0 (by omega)
  show (pureRun Tryz.prog (Op.intDiv .quo .u64 a b)).map SV.lit = _
  simp only [Op.intDiv, if_neg hb, Int.tdiv_eq_ediv_of_nonneg h0, wrap_u64 (show 0 ≤ a / b by omega) (show a / b < 18446744073709551616 by omega)]
  rfl
theorem a301_rem {x y : Operand} {a b : Int} (h0 : 0 ≤ a) (h1 : 0 < b) (_h2 : a < 18446744073709551616) : binQ Tryz.prog .rem 301 x y (.lit (.int .u64 a)) (.lit (.int .u64 b)) = some (.lit (.int .u64 (a % b))) := by
  have hb : b ≠ 0 := by omega
  show (pureRun Tryz.prog (Op.intDiv .rem .u64 a b)).map SV.lit = _
  simp only [Op.intDiv, if_neg hb, Int.tmod_eq_emod_of_nonneg h0]
  rfl
end Go.Proofs.YtcnfmcbmephdfaaGreatDoor.d
namespace Go.Proofs.YtcnfmcbmephdfaaGreatDoor.d
open Go Go.Proofs.YtcnfmcbmephdfaaGreatDoor.Ev Go.Proofs.YtcnfmcbmephdfaaGreatDoor.snap
def isCapital (b : Int) : Bool :=
 if b ≥ 65 then
  decide (b ≤ 90)
 else
  false
set_option maxHeartbeats 8000000 in
set_option maxRecDepth 20000 in
theorem isCapital_runs (Γ : Glob) (b : Int) (h : Hp)  : Runs Tryz.prog Γ (.call 229 [yV b] h) (Tells h (bV (isCapital b))) := by
 refine runs_call Tryz.func229 rfl ?_
 refine sr ?_
 refine oq (bV false) ?_
 refine nt ?_
 refine sr ?_
 refine oq (yV b) ?_
 by_cases c1 : b ≥ 65
 refine oqp (bV true) (by exact congrArg one (c5_geqT c1)) ?_
 refine oq (bV true) ?_
 refine oq (yV b) ?_
 refine oqp (bV (decide (b ≤ 90))) (by exact congrArg one c5_leq) ?_
 refine oq (bV (decide (b ≤ 90))) ?_
 refine oq (bV (decide (b ≤ 90))) ?_
 refine nt ?_
 refine runs_ret ?_
 exact ⟨_, leave_t1 rfl rfl, fb (decide (b ≤ 90)) (by simp only [isCapital, if_pos c1]), (Kept.refl _ _)⟩
 refine oqp (bV false) (by exact congrArg one (c5_geqF c1)) ?_
 refine oq (bV false) ?_
 refine ou ?_
 refine ou ?_
 refine oq (bV false) ?_
 refine oq (bV false) ?_
 refine nt ?_
 refine runs_ret ?_
 exact ⟨_, leave_t1 rfl rfl, fb (false) (by simp only [isCapital, if_neg c1]), (Kept.refl _ _)⟩
def isDigit (b : Int) : Bool :=
 if b ≥ 48 then
  decide (b ≤ 57)
 else
  false
set_option maxHeartbeats 8000000 in
set_option maxRecDepth 20000 in
theorem isDigit_runs (Γ : Glob) (b : Int) (h : Hp)  : Runs Tryz.prog Γ (.call 230 [yV b] h) (Tells h (bV (isDigit b))) := by
 refine runs_call Tryz.func230 rfl ?_
 refine sr ?_
 refine oq (bV false) ?_
 refine nt ?_
 refine sr ?_
 refine oq (yV b) ?_
 by_cases c1 : b ≥ 48
 refine oqp (bV true) (by exact congrArg one (c5_geqT c1)) ?_
 refine oq (bV true) ?_
 refine oq (yV b) ?_
 refine oqp (bV (decide (b ≤ 57))) (by exact congrArg one c5_leq) ?_
 refine oq (bV (decide (b ≤ 57))) ?_
 refine oq (bV (decide (b ≤ 57))) ?_
 refine nt ?_
 refine runs_ret ?_
 exact ⟨_, leave_t1 rfl rfl, fb (decide (b ≤ 57)) (by simp only [isDigit, if_pos c1]), (Kept.refl _ _)⟩
 refine oqp (bV false) (by exact congrArg one (c5_geqF c1)) ?_
 refine oq (bV false) ?_
 refine ou ?_
 refine ou ?_
 refine oq (bV false) ?_
 refine oq (bV false) ?_
 refine nt ?_
 refine runs_ret ?_
 exact ⟨_, leave_t1 rfl rfl, fb (false) (by simp only [isDigit, if_neg c1]), (Kept.refl _ _)⟩
def digitsOf_l0 (s : List UInt8) : Nat → Int → Int
 | 0, x3 => x3
 | f + 1, x3 => if x3 < (s.length : Int) then
  if isDigit (bAt s x3) = true then
   digitsOf_l0 s f (x3 + 1)
  else
   x3
 else
  x3
noncomputable def digitsOf_l0_c : Code := (inBlk (seqL (seqR (seqR (bodyOf Tryz.f295)))))
set_option maxHeartbeats 8000000 in
set_option maxRecDepth 20000 in
theorem digitsOf_l0_runs (Γ : Glob) (s : List UInt8) (hs : (s.length : Int) ≤ 1152921504606846976) (h0 : Hp) (lo : Nat) (_h00 : h0.next ≤ lo) : ∀ (fuel : Nat) (x3 : Int) (tm : T SV) (h : Hp) (r : Int), digitsOf_l0 s fuel x3 = r → ((s.length : Int).toNat - x3.toNat) < fuel → (0 ≤ x3 ∧ x3 ≤ (s.length : Int)) → lo ≤ h.next → Kept h0.next h0 h → Fr.ev ⟨tm, 17, []⟩ (.tmp 0) = sV s → Fr.ev ⟨tm, 17, []⟩ (.tmp 3) = iV x3 →
  Runs Tryz.prog Γ (.code digitsOf_l0_c none ⟨tm, 17, []⟩ h) fun o => ∃ tm2 H v, o = ⟨.exit 0, ⟨tm2, 17, []⟩, H, v⟩ ∧ (Fr.ev ⟨tm2, 17, []⟩ (.tmp 0) = sV s ∧ Fr.ev ⟨tm2, 17, []⟩ (.tmp 3) = iV r) ∧ (True) ∧ (True) ∧ (0 ≤ r ∧ r ≤ (s.length : Int)) ∧ Kept lo h H := by
 intro fuel
 induction fuel with
 | zero =>
  intros
  omega
 | succ f ih =>
  intro x3  tm h r hr hm hi hlo K0 e0 e3 
  refine runs_loop ?_
  refine runs_seq ?_
  refine sr ?_
  refine oqp (iV x3) (by simp only [quiet, e3] <;> rfl) ?_
  refine oqp (sV s) (by simp only [quiet, ev_set, e0] <;> rfl) ?_
  refine oq (iV (s.length : Int)) ?_
  by_cases c1 : x3 < (s.length : Int)
  refine oqp (bV true) (by exact congrArg one (c3_lssT c1)) ?_
  refine oq (bV true) ?_
  refine oqp (sV s) (by simp only [quiet, ev_set, e0] <;> rfl) ?_
  refine oqp (iV x3) (by simp only [quiet, ev_set, e3] <;> rfl) ?_
  refine oqp (yV (bAt s x3)) (by exact congrArg one (txt_at (i := x3) (by omega) (by omega))) ?_
  have q2 := bAt_range s x3
  refine ops_c (f := 230) (args := [yV (bAt s x3)]) rfl rfl rfl (clone_body Tryz.func230 rfl) rfl rfl ?_
  refine (isDigit_runs Γ (bAt s x3) h ).mono ?_
  rintro ⟨ex1, fr1, H1, v1⟩ ⟨hv1, k1⟩
  have k1 : Kept h.next h H1 := k1
  have KH1 : Kept h0.next h0 H1 := K0.trans (k1.less (Nat.le_trans (Nat.le_refl _) K0.next))
  have K1H1 : Kept lo h H1 := k1.less hlo
  by_cases c3 : isDigit (bAt s x3) = true
  have hv1 : v1 = bV true := hv1.trans (congrArg (fun b => SV.lit (.bool b)) c3)
  subst hv1
  refine oq (bV true) ?_
  refine nt ?_
  refine runs_cond true rfl ?_
  refine runs_skip ?_
  refine then_n ?_
  refine runs_blk ?_
  refine runs_region ?_
  refine oqp (iV x3) (by simp only [quiet, ev_set, e3] <;> rfl) ?_
  refine oqp (iV (x3 + 1)) (by exact congrArg one (a3_add (by omega) (by omega) (by omega))) ?_
  refine oq (iV (x3 + 1)) ?_
  refine ops_nil ?_
  refine blk_n ?_
  refine then_n ?_
  refine (ih (x3 + 1)  _ _ r (by rw [← hr, digitsOf_l0]; simp only [if_pos c1, if_pos c3]) (by omega) (by omega) (Nat.le_trans hlo K1H1.next) KH1 (by simp only [ev_set, e0] <;> rfl) rfl   ).mono ?_
  exact fun o ⟨tm2, H, v, a1, a2, a3, a5, a0, a4⟩ => ⟨tm2, H, v, a1, a2, a3, a5, a0, Kept.trans K1H1 a4⟩
  have hv1 : v1 = bV false := hv1.trans (congrArg (fun b => SV.lit (.bool b)) (Bool.eq_false_iff.2 c3))
  subst hv1
  refine oq (bV false) ?_
  refine nt ?_
  refine runs_cond false rfl ?_
  refine runs_exit ?_
  refine then_x ?_
  refine then_x ?_
  obtain rfl : x3 = r := by rw [← hr, digitsOf_l0]; simp only [if_pos c1, if_neg c3]
  exact ⟨_, _, _, rfl, ⟨(by simp only [ev_set, e0] <;> rfl), (by simp only [ev_set, e3] <;> rfl)⟩, True.intro, True.intro, (by (try dsimp only); omega), K1H1⟩
  refine oqp (bV false) (by exact congrArg one (c3_lssF c1)) ?_
  refine oq (bV false) ?_
  iterate 4 refine ou ?_
  refine oq (bV false) ?_
  refine nt ?_
  refine runs_cond false rfl ?_
  refine runs_exit ?_
  refine then_x ?_
  refine then_x ?_
  obtain rfl : x3 = r := by rw [← hr, digitsOf_l0]; simp only [if_neg c1]
  exact ⟨_, _, _, rfl, ⟨(by simp only [ev_set, e0] <;> rfl), (by simp only [ev_set, e3] <;> rfl)⟩, True.intro, True.intro, (by (try dsimp only); omega), (Kept.refl _ _)⟩
def digitsOf (s : List UInt8) : Int :=
 let r1 := digitsOf_l0 s ((s.length : Int).toNat - (0 : Int).toNat + 1) 0
 r1
set_option maxHeartbeats 8000000 in
set_option maxRecDepth 20000 in
theorem digitsOf_runs (Γ : Glob) (s : List UInt8) (h : Hp) (hs : (s.length : Int) ≤ 1152921504606846976) : Runs Tryz.prog Γ (.call 295 [sV s] h) (fun o => Tells h (iV (digitsOf s)) o ∧ 0 ≤ (digitsOf s) ∧ (digitsOf s) ≤ (s.length : Int)) := by
 refine runs_call Tryz.func295 rfl ?_
 refine sr ?_
 refine oq (iV 0) ?_
 refine nt ?_
 refine sr ?_
 refine oq (iV 0) ?_
 refine nt ?_
 refine runs_seq ?_
 refine runs_blk ?_
 obtain ⟨r1, hr1⟩ : ∃ r, digitsOf_l0 s ((s.length : Int).toNat - (0 : Int).toNat + 1) 0 = r := ⟨_, rfl⟩
 refine (digitsOf_l0_runs Γ s hs h h.next (Nat.le_refl _) ((s.length : Int).toNat - (0 : Int).toNat + 1) 0  _ _ _ hr1 (by omega) (by omega) (Nat.le_refl _) (Kept.refl _ _) rfl rfl   ).mono ?_
 rintro _ ⟨tm1, H1, v1, rfl, ⟨e0_1, e3_1⟩, _, _, i1, k1⟩
 refine blk_x ?_
 have KH1 : Kept h.next h H1 := k1.less (Nat.le_refl _)
 refine then_n ?_
 refine sr ?_
 refine oqp (iV r1) (by simp only [quiet, e3_1] <;> rfl) ?_
 refine oq (iV r1) ?_
 refine nt ?_
 refine runs_ret ?_
 have eF : (r1) = digitsOf s := (by subst hr1; simp only [digitsOf])
 exact ⟨_, leave_t1 rfl rfl, ⟨congrArg (fun (x : Int) => (iV x : SV)) eF, KH1⟩, fact_of (p := fun x => 0 ≤ x ∧ x ≤ (s.length : Int)) eF (by ((try dsimp only); omega))⟩
def split_l0 (s : List UInt8) : Nat → Int → Int
 | 0, x2 => x2
 | f + 1, x2 => if x2 < (s.length : Int) then
  if isCapital (bAt s x2) = true then
   split_l0 s f (x2 + 1)
  else
   x2
 else
  x2
noncomputable def split_l0_c : Code := (inBlk (seqL (seqR (bodyOf Tryz.f231))))
set_option maxHeartbeats 8000000 in
set_option maxRecDepth 20000 in
theorem split_l0_runs (Γ : Glob) (s : List UInt8) (hs : (s.length : Int) ≤ 1152921504606846976) (h0 : Hp) (lo : Nat) (_h00 : h0.next ≤ lo) : ∀ (fuel : Nat) (x2 : Int) (tm : T SV) (h : Hp) (r : Int), split_l0 s fuel x2 = r → ((s.length : Int).toNat - x2.toNat) < fuel → (0 ≤ x2 ∧ x2 ≤ (s.length : Int)) → lo ≤ h.next → Kept h0.next h0 h → Fr.ev ⟨tm, 32, []⟩ (.tmp 0) = sV s → Fr.ev ⟨tm, 32, []⟩ (.tmp 2) = iV x2 →
  Runs Tryz.prog Γ (.code split_l0_c none ⟨tm, 32, []⟩ h) fun o => ∃ tm2 H v, o = ⟨.exit 0, ⟨tm2, 32, []⟩, H, v⟩ ∧ (Fr.ev ⟨tm2, 32, []⟩ (.tmp 0) = sV s ∧ Fr.ev ⟨tm2, 32, []⟩ (.tmp 2) = iV r) ∧ (True) ∧ (True) ∧ (0 ≤ r ∧ r ≤ (s.length : Int)) ∧ Kept lo h H := by
 intro fuel
 induction fuel with
 | zero =>
  intros
  omega
 | succ f ih =>
  intro x2  tm h r hr hm hi hlo K0 e0 e2 
  refine runs_loop ?_
  refine runs_seq ?_
  refine sr ?_
  refine oqp (iV x2) (by simp only [quiet, e2] <;> rfl) ?_
  refine oqp (sV s) (by simp only [quiet, ev_set, e0] <;> rfl) ?_
  refine oq (iV (s.length : Int)) ?_
  by_cases c1 : x2 < (s.length : Int)
  refine oqp (bV true) (by exact congrArg one (c3_lssT c1)) ?_
  refine oq (bV true) ?_
  refine oqp (sV s) (by simp only [quiet, ev_set, e0] <;> rfl) ?_
  refine oqp (iV x2) (by simp only [quiet, ev_set, e2] <;> rfl) ?_
  refine oqp (yV (bAt s x2)) (by exact congrArg one (txt_at (i := x2) (by omega) (by omega))) ?_
  have q2 := bAt_range s x2
  refine ops_c (f := 229) (args := [yV (bAt s x2)]) rfl rfl rfl (clone_body Tryz.func229 rfl) rfl rfl ?_
  refine (isCapital_runs Γ (bAt s x2) h ).mono ?_
  rintro ⟨ex1, fr1, H1, v1⟩ ⟨hv1, k1⟩
  have k1 : Kept h.next h H1 := k1
  have KH1 : Kept h0.next h0 H1 := K0.trans (k1.less (Nat.le_trans (Nat.le_refl _) K0.next))
  have K1H1 : Kept lo h H1 := k1.less hlo
  by_cases c3 : isCapital (bAt s x2) = true
  have hv1 : v1 = bV true := hv1.trans (congrArg (fun b => SV.lit (.bool b)) c3)
  subst hv1
  refine oq (bV true) ?_
  refine nt ?_
  refine runs_cond true rfl ?_
  refine runs_skip ?_
  refine then_n ?_
  refine runs_blk ?_
  refine runs_region ?_
  refine oqp (iV x2) (by simp only [quiet, ev_set, e2] <;> rfl) ?_
  refine oqp (iV (x2 + 1)) (by exact congrArg one (a3_add (by omega) (by omega) (by omega))) ?_
  refine oq (iV (x2 + 1)) ?_
  refine ops_nil ?_
  refine blk_n ?_
  refine then_n ?_
  refine (ih (x2 + 1)  _ _ r (by rw [← hr, split_l0]; simp only [if_pos c1, if_pos c3]) (by omega) (by omega) (Nat.le_trans hlo K1H1.next) KH1 (by simp only [ev_set, e0] <;> rfl) rfl   ).mono ?_
  exact fun o ⟨tm2, H, v, a1, a2, a3, a5, a0, a4⟩ => ⟨tm2, H, v, a1, a2, a3, a5, a0, Kept.trans K1H1 a4⟩
  have hv1 : v1 = bV false := hv1.trans (congrArg (fun b => SV.lit (.bool b)) (Bool.eq_false_iff.2 c3))
  subst hv1
  refine oq (bV false) ?_
  refine nt ?_
  refine runs_cond false rfl ?_
  refine runs_exit ?_
  refine then_x ?_
  refine then_x ?_
  obtain rfl : x2 = r := by rw [← hr, split_l0]; simp only [if_pos c1, if_neg c3]
  exact ⟨_, _, _, rfl, ⟨(by simp only [ev_set, e0] <;> rfl), (by simp only [ev_set, e2] <;> rfl)⟩, True.intro, True.intro, (by (try dsimp only); omega), K1H1⟩
  refine oqp (bV false) (by exact congrArg one (c3_lssF c1)) ?_
  refine oq (bV false) ?_
  iterate 4 refine ou ?_
  refine oq (bV false) ?_
  refine nt ?_
  refine runs_cond false rfl ?_
  refine runs_exit ?_
  refine then_x ?_
  refine then_x ?_
  obtain rfl : x2 = r := by rw [← hr, split_l0]; simp only [if_neg c1]
  exact ⟨_, _, _, rfl, ⟨(by simp only [ev_set, e0] <;> rfl), (by simp only [ev_set, e2] <;> rfl)⟩, True.intro, True.intro, (by (try dsimp only); omega), (Kept.refl _ _)⟩
def split (s : List UInt8) : Int × Int × Bool :=
 let r1 := split_l0 s ((s.length : Int).toNat - (0 : Int).toNat + 1) 0
 (r1, (r1 + (digitsOf (tFrom s r1))) - r1, decide ((r1 + (digitsOf (tFrom s r1))) = (s.length : Int)))
set_option maxHeartbeats 8000000 in
set_option maxRecDepth 20000 in
theorem split_runs (Γ : Glob) (s : List UInt8) (h : Hp) (hs : (s.length : Int) ≤ 1152921504606846976) : Runs Tryz.prog Γ (.call 231 [sV s] h) (fun o => Tells h (.tuple [iV ((split s).1), iV ((split s).2.1), bV ((split s).2.2)]) o ∧ 0 ≤ (split s).1 ∧ 0 ≤ (split s).2.1 ∧ (split s).1 + (split s).2.1 ≤ (s.length : Int) ∧ ((split s).2.2 = true → (split s).1 + (split s).2.1 = (s.length : Int))) := by
 refine runs_call Tryz.func231 rfl ?_
 refine sr ?_
 refine oq (iV 0) ?_
 refine oq (iV 0) ?_
 refine oq (bV false) ?_
 refine nt ?_
 refine runs_seq ?_
 refine runs_blk ?_
 obtain ⟨r1, hr1⟩ : ∃ r, split_l0 s ((s.length : Int).toNat - (0 : Int).toNat + 1) 0 = r := ⟨_, rfl⟩
 refine (split_l0_runs Γ s hs h h.next (Nat.le_refl _) ((s.length : Int).toNat - (0 : Int).toNat + 1) 0  _ _ _ hr1 (by omega) (by omega) (Nat.le_refl _) (Kept.refl _ _) rfl rfl   ).mono ?_
 rintro _ ⟨tm1, H1, v1, rfl, ⟨e0_1, e2_1⟩, _, _, i1, k1⟩
 refine blk_x ?_
 have KH1 : Kept h.next h H1 := k1.less (Nat.le_refl _)
 refine then_n ?_
 refine sr ?_
 refine oqp (iV r1) (by simp only [quiet, e2_1] <;> rfl) ?_
 refine oqp (sV s) (by simp only [quiet, ev_set, e0_1] <;> rfl) ?_
 refine oqp (iV r1) (by simp only [quiet, ev_set, e2_1] <;> rfl) ?_
 refine oqp (sV (tFrom s r1)) (by exact congrArg one (txt_from (by omega) (by omega))) ?_
 have q1 : ((tFrom s r1).length : Int) = _ := tFrom_len (by omega) (by omega)
 refine ops_c (f := 295) (args := [sV (tFrom s r1)]) rfl rfl rfl (clone_body Tryz.func295 rfl) rfl rfl ?_
 refine (digitsOf_runs Γ (tFrom s r1) H1 (by omega)).mono ?_
 rintro ⟨ex2, fr2, H2, v2⟩ ⟨⟨hv2, k2⟩, fa2⟩
 have k2 : Kept H1.next H1 H2 := k2
 have KH2 : Kept h.next h H2 := KH1.trans (k2.less (Nat.le_trans (Nat.le_refl _) KH1.next))
 have hv2 : v2 = iV (digitsOf (tFrom s r1)) := hv2
 subst hv2
 refine oqp (iV (r1 + (digitsOf (tFrom s r1)))) (by exact congrArg one (a3_add (by omega) (by omega) (by omega))) ?_
 refine oq (iV (r1 + (digitsOf (tFrom s r1)))) ?_
 refine nt ?_
 refine sr ?_
 refine oqp (iV r1) (by simp only [quiet, ev_set, e2_1] <;> rfl) ?_
 refine oq (iV (r1 + (digitsOf (tFrom s r1)))) ?_
 refine oqp (iV r1) (by simp only [quiet, ev_set, e2_1] <;> rfl) ?_
 refine oqp (iV ((r1 + (digitsOf (tFrom s r1))) - r1)) (by exact congrArg one (a3_sub (by omega) (by omega) (by omega))) ?_
 refine oq (iV (r1 + (digitsOf (tFrom s r1)))) ?_
 refine oqp (sV s) (by simp only [quiet, ev_set, e0_1] <;> rfl) ?_
 refine oq (iV (s.length : Int)) ?_
 refine oqp (bV (decide ((r1 + (digitsOf (tFrom s r1))) = (s.length : Int)))) (by exact congrArg one c3_eql) ?_
 refine oq (iV r1) ?_
 refine oq (iV ((r1 + (digitsOf (tFrom s r1))) - r1)) ?_
 refine oq (bV (decide ((r1 + (digitsOf (tFrom s r1))) = (s.length : Int)))) ?_
 refine nt ?_
 refine runs_ret ?_
 have eF : ((r1, (r1 + (digitsOf (tFrom s r1))) - r1, decide ((r1 + (digitsOf (tFrom s r1))) = (s.length : Int)))) = split s := (by subst hr1; simp only [split])
 exact ⟨_, leave_t3 rfl rfl rfl rfl, ⟨congrArg (fun (x : Int × Int × Bool) => (.tuple [iV x.1, iV x.2.1, bV x.2.2] : SV)) eF, KH2⟩, fact_of (p := fun x => 0 ≤ x.1 ∧ 0 ≤ x.2.1 ∧ x.1 + x.2.1 ≤ (s.length : Int) ∧ (x.2.2 = true → x.1 + x.2.1 = (s.length : Int))) eF (by (refine ⟨?_, ?_, ?_, fun h => ?_⟩ <;> (try (have h := of_decide_eq_true h)) <;> (try dsimp only at *) <;> omega))⟩
def isCall_l0 (s : List UInt8) : Nat → Int → Bool ⊕ Int
 | 0, x24 => Sum.inr x24
 | f + 1, x24 => if x24 < (s.length : Int) then
  if isCapital (bAt s x24) = true then
   isCall_l0 s f (x24 + 1)
  else
   if isDigit (bAt s x24) = true then
    isCall_l0 s f (x24 + 1)
   else
    if (bAt s x24) ≠ 46 then
     Sum.inl false
    else
     isCall_l0 s f (x24 + 1)
 else
  Sum.inr x24
noncomputable def isCall_l0_c : Code := (inBlk (seqR (seqL (seqR (seqR (bodyOf Tryz.f177))))))
set_option maxHeartbeats 8000000 in
set_option maxRecDepth 20000 in
theorem isCall_l0_runs (Γ : Glob) (s : List UInt8) (b22 : Nat) (h0 : Hp) (lo : Nat) (_h00 : h0.next ≤ lo) : ∀ (fuel : Nat) (x24 : Int) (tm : T SV) (h : Hp) (r : Bool ⊕ Int), isCall_l0 s fuel x24 = r → ((s.length : Int).toNat - x24.toNat) < fuel → (0 ≤ x24 ∧ x24 ≤ (s.length : Int) ∧ (s.length : Int) ≤ 32) → lo ≤ h.next → Kept h0.next h0 h → Fr.ev ⟨tm, 67, []⟩ (.tmp 0) = sV s → Fr.ev ⟨tm, 67, []⟩ (.tmp 22) = .row b22 0 s.length s.length b22 → Fr.ev ⟨tm, 67, []⟩ (.tmp 23) = iV (s.length : Int) → Fr.ev ⟨tm, 67, []⟩ (.tmp 24) = iV x24 → At h b22 (.row (bytesC s) 5 s.length b22 1) →
  Runs Tryz.prog Γ (.code isCall_l0_c none ⟨tm, 67, []⟩ h) fun o => (∃ x, r = .inl x ∧ ∃ tm2 H v, o = ⟨.ret, ⟨tm2, 67, []⟩, H, v⟩ ∧ (Fr.ev ⟨tm2, 67, []⟩ (.tmp 2) = bV x) ∧ Kept lo h H) ∨ (∃ x, r = .inr x ∧ ∃ tm2 H v, o = ⟨.exit 0, ⟨tm2, 67, []⟩, H, v⟩ ∧ (Fr.ev ⟨tm2, 67, []⟩ (.tmp 0) = sV s ∧ Fr.ev ⟨tm2, 67, []⟩ (.tmp 22) = .row b22 0 s.length s.length b22 ∧ Fr.ev ⟨tm2, 67, []⟩ (.tmp 23) = iV (s.length : Int) ∧ Fr.ev ⟨tm2, 67, []⟩ (.tmp 24) = iV x) ∧ (True) ∧ (At H b22 (.row (bytesC s) 5 s.length b22 1)) ∧ (0 ≤ x ∧ x ≤ (s.length : Int) ∧ (s.length : Int) ≤ 32) ∧ Kept lo h H) := by
 intro fuel
 induction fuel with
 | zero =>
  intros
  omega
 | succ f ih =>
  intro x24  tm h r hr hm hi hlo K0 e0 e22 e23 e24 gb22
  refine runs_loop ?_
  refine sr ?_
  by_cases c1 : x24 < (s.length : Int)
  refine oqp (bV true) (by simp only [quiet, e23, e24]; exact congrArg one (c3_lssT c1)) ?_
  refine nt ?_
  refine runs_seq ?_
  refine runs_cond true rfl ?_
  refine runs_skip ?_
  refine then_n ?_
  refine runs_seq ?_
  refine runs_blk ?_
  refine sr ?_
  refine oqp (.ptr b22 (Int.toNat x24)) (by simp only [quiet, ev_set, e22, e24]; exact congrArg one (row_at rfl rfl (by omega) (by omega))) ?_
  refine oqf (yV (bAt s x24)) ([.cells b22 (Int.toNat x24) [yV (bAt s x24)]]) (by exact load_byte (t := 5) (l := s) (i := x24) rfl gb22.get (by omega) (by omega)) ?_
  have q2 := bAt_range s x24
  refine oq (yV (bAt s x24)) ?_
  refine nt ?_
  refine sr ?_
  refine oq (yV (bAt s x24)) ?_
  refine ops_c (f := 229) (args := [yV (bAt s x24)]) rfl rfl rfl (clone_body Tryz.func229 rfl) rfl rfl ?_
  refine (isCapital_runs Γ (bAt s x24) h ).mono ?_
  rintro ⟨ex1, fr1, H1, v1⟩ ⟨hv1, k1⟩
  have k1 : Kept h.next h H1 := k1
  have gb22_H1 := gb22.kept k1
  have KH1 : Kept h0.next h0 H1 := K0.trans (k1.less (Nat.le_trans (Nat.le_refl _) K0.next))
  have K1H1 : Kept lo h H1 := k1.less hlo
  by_cases c3 : isCapital (bAt s x24) = true
  have hv1 : v1 = bV true := hv1.trans (congrArg (fun b => SV.lit (.bool b)) c3)
  subst hv1
  refine oq (bV false) ?_
  refine oq (bV false) ?_
  iterate 3 refine ou ?_
  refine oq (bV false) ?_
  refine oq (bV false) ?_
  refine ou ?_
  refine ou ?_
  refine oq (bV false) ?_
  refine nt ?_
  refine runs_cond false rfl ?_
  refine runs_skip ?_
  refine blk_n ?_
  refine then_n ?_
  refine runs_region ?_
  refine oqp (iV (x24 + 1)) (by simp only [quiet, ev_set, e24]; exact congrArg one (a3_add (by omega) (by omega) (by omega))) ?_
  refine oq (iV (x24 + 1)) ?_
  refine nt ?_
  refine (ih (x24 + 1)  _ _ r (by rw [← hr, isCall_l0]; simp only [if_pos c1, if_pos c3]) (by omega) (by omega) (Nat.le_trans hlo K1H1.next) KH1 (by simp only [ev_set, e0] <;> rfl) (by simp only [ev_set, e22] <;> rfl) (by simp only [ev_set, e23] <;> rfl) rfl  gb22_H1 ).mono ?_
  exact fun o ho => ho.imp (fun ⟨x, hx, tm2, H, v, a1, a2, a3⟩ => ⟨x, hx, tm2, H, v, a1, a2, Kept.trans K1H1 a3⟩) (fun ⟨x, hx, tm2, H, v, a1, a2, a3, a5, a0, a4⟩ => ⟨x, hx, tm2, H, v, a1, a2, a3, a5, a0, Kept.trans K1H1 a4⟩)
  have hv1 : v1 = bV false := hv1.trans (congrArg (fun b => SV.lit (.bool b)) (Bool.eq_false_iff.2 c3))
  subst hv1
  refine oq (bV true) ?_
  refine oq (bV true) ?_
  refine oq (yV (bAt s x24)) ?_
  refine ops_c (f := 230) (args := [yV (bAt s x24)]) rfl rfl rfl (clone_body Tryz.func230 rfl) rfl rfl ?_
  refine (isDigit_runs Γ (bAt s x24) H1 ).mono ?_
  rintro ⟨ex2, fr2, H2, v2⟩ ⟨hv2, k2⟩
  have k2 : Kept H1.next H1 H2 := k2
  have gb22_H2 := gb22_H1.kept k2
  have KH2 : Kept h0.next h0 H2 := KH1.trans (k2.less (Nat.le_trans (Nat.le_refl _) KH1.next))
  have K1H2 : Kept lo h H2 := K1H1.trans (k2.less (Nat.le_trans hlo K1H1.next))
  by_cases c4 : isDigit (bAt s x24) = true
  have hv2 : v2 = bV true := hv2.trans (congrArg (fun b => SV.lit (.bool b)) c4)
  subst hv2
  refine oq (bV false) ?_
  refine oq (bV false) ?_
  refine oq (bV false) ?_
  refine ou ?_
  refine ou ?_
  refine oq (bV false) ?_
  refine nt ?_
  refine runs_cond false rfl ?_
  refine runs_skip ?_
  refine blk_n ?_
  refine then_n ?_
  refine runs_region ?_
  refine oqp (iV (x24 + 1)) (by simp only [quiet, ev_set, e24]; exact congrArg one (a3_add (by omega) (by omega) (by omega))) ?_
  refine oq (iV (x24 + 1)) ?_
  refine nt ?_
  refine (ih (x24 + 1)  _ _ r (by rw [← hr, isCall_l0]; simp only [if_pos c1, if_neg c3, if_pos c4]) (by omega) (by omega) (Nat.le_trans hlo K1H2.next) KH2 (by simp only [ev_set, e0] <;> rfl) (by simp only [ev_set, e22] <;> rfl) (by simp only [ev_set, e23] <;> rfl) rfl  gb22_H2 ).mono ?_
  exact fun o ho => ho.imp (fun ⟨x, hx, tm2, H, v, a1, a2, a3⟩ => ⟨x, hx, tm2, H, v, a1, a2, Kept.trans K1H2 a3⟩) (fun ⟨x, hx, tm2, H, v, a1, a2, a3, a5, a0, a4⟩ => ⟨x, hx, tm2, H, v, a1, a2, a3, a5, a0, Kept.trans K1H2 a4⟩)
  have hv2 : v2 = bV false := hv2.trans (congrArg (fun b => SV.lit (.bool b)) (Bool.eq_false_iff.2 c4))
  subst hv2
  refine oq (bV true) ?_
  refine oq (bV true) ?_
  refine oq (bV true) ?_
  refine oq (yV (bAt s x24)) ?_
  by_cases c5 : (bAt s x24) ≠ 46
  refine oqp (bV true) (by exact congrArg one (c5_neqT c5)) ?_
  refine oq (bV true) ?_
  refine nt ?_
  refine runs_cond true rfl ?_
  refine sr ?_
  refine oq (bV false) ?_
  refine nt ?_
  refine runs_ret ?_
  refine blk_r ?_
  refine then_r ?_
  refine then_r ?_
  obtain rfl : Sum.inl false = r := by rw [← hr, isCall_l0]; simp only [if_pos c1, if_neg c3, if_neg c4, if_pos c5]
  exact .inl ⟨_, rfl, _, _, _, rfl, rfl, K1H2⟩
  refine oqp (bV false) (by exact congrArg one (c5_neqF c5)) ?_
  refine oq (bV false) ?_
  refine nt ?_
  refine runs_cond false rfl ?_
  refine runs_skip ?_
  refine blk_n ?_
  refine then_n ?_
  refine runs_region ?_
  refine oqp (iV (x24 + 1)) (by simp only [quiet, ev_set, e24]; exact congrArg one (a3_add (by omega) (by omega) (by omega))) ?_
  refine oq (iV (x24 + 1)) ?_
  refine nt ?_
  refine (ih (x24 + 1)  _ _ r (by rw [← hr, isCall_l0]; simp only [if_pos c1, if_neg c3, if_neg c4, if_neg c5]) (by omega) (by omega) (Nat.le_trans hlo K1H2.next) KH2 (by simp only [ev_set, e0] <;> rfl) (by simp only [ev_set, e22] <;> rfl) (by simp only [ev_set, e23] <;> rfl) rfl  gb22_H2 ).mono ?_
  exact fun o ho => ho.imp (fun ⟨x, hx, tm2, H, v, a1, a2, a3⟩ => ⟨x, hx, tm2, H, v, a1, a2, Kept.trans K1H2 a3⟩) (fun ⟨x, hx, tm2, H, v, a1, a2, a3, a5, a0, a4⟩ => ⟨x, hx, tm2, H, v, a1, a2, a3, a5, a0, Kept.trans K1H2 a4⟩)
  refine oqp (bV false) (by simp only [quiet, e23, e24]; exact congrArg one (c3_lssF c1)) ?_
  refine nt ?_
  refine runs_seq ?_
  refine runs_cond false rfl ?_
  refine runs_exit ?_
  refine then_x ?_
  refine then_x ?_
  obtain rfl : Sum.inr x24 = r := by rw [← hr, isCall_l0]; simp only [if_neg c1]
  exact .inr ⟨_, rfl, _, _, _, rfl, ⟨(by simp only [ev_set, e0] <;> rfl), (by simp only [ev_set, e22] <;> rfl), (by simp only [ev_set, e23] <;> rfl), (by simp only [ev_set, e24] <;> rfl)⟩, True.intro, gb22, (by (try dsimp only); omega), (Kept.refl _ _)⟩
def isCall (s : List UInt8) : Bool :=
 if s = [] then
  false
 else
  if (s.length : Int) > 32 then
   false
  else
   if isCapital (bAt s 0) = true then
    match isCall_l0 s ((s.length : Int).toNat - (0 : Int).toNat + 1) 0 with
    | .inl r3 => r3
    | .inr _r3 => let r4 := split s
      if r4.2.2 = true then
       if r4.1 ≤ 3 then
        if r4.2.1 ≥ 1 then
         if r4.2.1 ≤ 7 then
          !(decide ((bAt s r4.1) ≠ 48))
         else
          true
        else
         true
       else
        true
      else
       true
   else
    false
set_option maxHeartbeats 8000000 in
set_option maxRecDepth 20000 in
theorem isCall_runs (Γ : Glob) (s : List UInt8) (h : Hp)  : Runs Tryz.prog Γ (.call 177 [sV s] h) (Tells h (bV (isCall s))) := by
 refine runs_call Tryz.func177 rfl ?_
 refine sr ?_
 refine oq (bV false) ?_
 refine nt ?_
 refine runs_seq ?_
 refine sr ?_
 refine oq (sV s) ?_
 by_cases c1 : s = []
 refine oqp (bV true) (by exact congrArg one (t_eqlT c1)) ?_
 have q2 : ((s).length : Int) = (([] : List UInt8).length : Int) := by rw [c1]
 simp only [List.length_nil] at q2
 refine oq (bV true) ?_
 iterate 3 refine ou ?_
 refine oq (bV true) ?_
 refine oq (bV true) ?_
 iterate 4 refine ou ?_
 refine oq (bV true) ?_
 refine nt ?_
 refine runs_cond true rfl ?_
 refine sr ?_
 refine oq (bV false) ?_
 refine nt ?_
 refine runs_ret ?_
 refine then_r ?_
 exact ⟨_, leave_t1 rfl rfl, fb (false) (by simp only [isCall, if_pos c1]), (Kept.refl _ _)⟩
 refine oqp (bV false) (by exact congrArg one (t_eqlF c1)) ?_
 have q3 := len_pos c1
 refine oq (bV false) ?_
 refine oq (sV s) ?_
 refine oq (iV (s.length : Int)) ?_
 by_cases c4 : (s.length : Int) > 32
 refine oqp (bV true) (by exact congrArg one (c3_gtrT c4)) ?_
 refine oq (bV true) ?_
 refine oq (bV true) ?_
 iterate 4 refine ou ?_
 refine oq (bV true) ?_
 refine nt ?_
 refine runs_cond true rfl ?_
 refine sr ?_
 refine oq (bV false) ?_
 refine nt ?_
 refine runs_ret ?_
 refine then_r ?_
 exact ⟨_, leave_t1 rfl rfl, fb (false) (by simp only [isCall, if_neg c1, if_pos c4]), (Kept.refl _ _)⟩
 refine oqp (bV false) (by exact congrArg one (c3_gtrF c4)) ?_
 refine oq (bV false) ?_
 refine oq (bV false) ?_
 refine oq (sV s) ?_
 refine oqp (yV (bAt s 0)) (by exact congrArg one (txt_at (i := 0) (by omega) (by omega))) ?_
 have q5 := bAt_range s 0
 refine ops_c (f := 229) (args := [yV (bAt s 0)]) rfl rfl rfl (clone_body Tryz.func229 rfl) rfl rfl ?_
 refine (isCapital_runs Γ (bAt s 0) h ).mono ?_
 rintro ⟨ex1, fr1, H1, v1⟩ ⟨hv1, k1⟩
 have k1 : Kept h.next h H1 := k1
 by_cases c6 : isCapital (bAt s 0) = true
 have hv1 : v1 = bV true := hv1.trans (congrArg (fun b => SV.lit (.bool b)) c6)
 subst hv1
 refine oq (bV false) ?_
 refine oq (bV false) ?_
 refine nt ?_
 refine runs_cond false rfl ?_
 refine runs_skip ?_
 refine then_n ?_
 refine runs_seq ?_
 refine sr ?_
 refine oq (sV s) ?_
 refine ops_bytes (l := s) rfl rfl rfl rfl rfl (fun H2 g2 k2 n2 => ?_)
 have lo2_0 : h.next ≤ H1.next := (Nat.le_trans (Nat.le_refl _) k1.next)
 have KH2 : Kept h.next h H2 := k1.trans (k2.less (Nat.le_trans (Nat.le_refl _) k1.next))
 refine oq (iV (s.length : Int)) ?_
 refine oq (iV 0) ?_
 refine nt ?_
 refine runs_blk ?_
 refine (isCall_l0_runs Γ s H1.next h H2.next (Nat.le_trans (Nat.le_refl _) KH2.next) ((s.length : Int).toNat - (0 : Int).toNat + 1) 0  _ _ _ rfl (by omega) (by omega) (Nat.le_refl _) KH2 rfl rfl rfl rfl  g2 ).mono ?_
 rintro _ (⟨r3, hr3, tm3, H3, v3, rfl, q2_3, k3⟩ | ⟨r3, hr3, tm3, H3, v3, rfl, ⟨e0_3, e22_3, e23_3, e24_3⟩, _, g2b_3, i3, k3⟩)
 refine blk_r ?_
 have g2_H3 := g2.keptLo k3 g2.lt
 have KH3 : Kept h.next h H3 := KH2.trans (k3.less (Nat.le_trans (Nat.le_refl _) KH2.next))
 refine then_r ?_
 exact ⟨_, leave_t1 rfl (by simp only [q2_3] <;> rfl), fb (r3) (by simp only [isCall, if_neg c1, if_neg c4, if_pos c6, hr3]), KH3⟩
 refine blk_x ?_
 have g2_H3 := g2.keptLo k3 g2.lt
 have KH3 : Kept h.next h H3 := KH2.trans (k3.less (Nat.le_trans (Nat.le_refl _) KH2.next))
 refine then_n ?_
 refine sr ?_
 refine oqp (sV s) (by simp only [quiet, e0_3] <;> rfl) ?_
 refine ops_c (f := 231) (args := [sV s]) rfl rfl rfl (clone_body Tryz.func231 rfl) rfl rfl ?_
 refine (split_runs Γ s H3 (by omega)).mono ?_
 rintro ⟨ex4, fr4, H4, v4⟩ ⟨⟨hv4, k4⟩, fa4⟩
 have k4 : Kept H3.next H3 H4 := k4
 have g2b_H4 := g2b_3.kept k4
 have KH4 : Kept h.next h H4 := KH3.trans (k4.less (Nat.le_trans (Nat.le_refl _) KH3.next))
 generalize hr4 : split s = r4 at hv4 fa4
 have hv4 : v4 = .tuple [iV r4.1, iV r4.2.1, bV r4.2.2] := hv4
 subst hv4
 refine oq (.tuple [iV r4.1, iV r4.2.1, bV r4.2.2]) ?_
 refine oq (iV r4.1) ?_
 refine oq (iV r4.2.1) ?_
 by_cases c7 : r4.2.2 = true
 refine oqp (bV true) (by exact congrArg (fun b => some (SV.lit (.bool b), ([] : List Fact))) c7) ?_
 refine oq (iV r4.1) ?_
 refine oq (iV r4.2.1) ?_
 refine oq (bV true) ?_
 refine nt ?_
 refine sr ?_
 refine oq (bV true) ?_
 refine oq (bV true) ?_
 refine oq (iV r4.1) ?_
 by_cases c8 : r4.1 ≤ 3
 refine oqp (bV true) (by exact congrArg one (c3_leqT c8)) ?_
 refine oq (bV true) ?_
 refine oq (bV true) ?_
 refine oq (iV r4.2.1) ?_
 by_cases c9 : r4.2.1 ≥ 1
 refine oqp (bV true) (by exact congrArg one (c3_geqT c9)) ?_
 refine oq (bV true) ?_
 refine oq (bV true) ?_
 refine oq (iV r4.2.1) ?_
 by_cases c10 : r4.2.1 ≤ 7
 refine oqp (bV true) (by exact congrArg one (c3_leqT c10)) ?_
 refine oq (bV true) ?_
 refine oq (bV true) ?_
 refine oqp (sV s) (by simp only [quiet, ev_set, e0_3] <;> rfl) ?_
 refine oq (iV r4.1) ?_
 refine oqp (yV (bAt s r4.1)) (by exact congrArg one (txt_at (i := r4.1) (by omega) (by omega))) ?_
 have q11 := bAt_range s r4.1
 refine oqp (bV (decide ((bAt s r4.1) ≠ 48))) (by exact congrArg one c5_neq) ?_
 refine oq (bV (decide ((bAt s r4.1) ≠ 48))) ?_
 refine oq (bV (!(decide ((bAt s r4.1) ≠ 48)))) ?_
 refine oq (bV (!(decide ((bAt s r4.1) ≠ 48)))) ?_
 refine nt ?_
 refine runs_ret ?_
 exact ⟨_, leave_t1 rfl rfl, fb (!(decide ((bAt s r4.1) ≠ 48))) (by subst hr4; simp only [isCall, if_neg c1, if_neg c4, if_pos c6, hr3, if_pos c7, if_pos c8, if_pos c9, if_pos c10]), KH4⟩
 refine oqp (bV false) (by exact congrArg one (c3_leqF c10)) ?_
 refine oq (bV false) ?_
 refine oq (bV false) ?_
 iterate 4 refine ou ?_
 refine oq (bV false) ?_
 refine oq (bV true) ?_
 refine oq (bV true) ?_
 refine nt ?_
 refine runs_ret ?_
 exact ⟨_, leave_t1 rfl rfl, fb (true) (by subst hr4; simp only [isCall, if_neg c1, if_neg c4, if_pos c6, hr3, if_pos c7, if_pos c8, if_pos c9, if_neg c10]), KH4⟩
 refine oqp (bV false) (by exact congrArg one (c3_geqF c9)) ?_
 refine oq (bV false) ?_
 refine oq (bV false) ?_
 refine ou ?_
 refine ou ?_
 refine oq (bV false) ?_
 refine oq (bV false) ?_
 iterate 4 refine ou ?_
 refine oq (bV false) ?_
 refine oq (bV true) ?_
 refine oq (bV true) ?_
 refine nt ?_
 refine runs_ret ?_
 exact ⟨_, leave_t1 rfl rfl, fb (true) (by subst hr4; simp only [isCall, if_neg c1, if_neg c4, if_pos c6, hr3, if_pos c7, if_pos c8, if_neg c9]), KH4⟩
 refine oqp (bV false) (by exact congrArg one (c3_leqF c8)) ?_
 refine oq (bV false) ?_
 refine oq (bV false) ?_
 refine ou ?_
 refine ou ?_
 refine oq (bV false) ?_
 refine oq (bV false) ?_
 refine ou ?_
 refine ou ?_
 refine oq (bV false) ?_
 refine oq (bV false) ?_
 iterate 4 refine ou ?_
 refine oq (bV false) ?_
 refine oq (bV true) ?_
 refine oq (bV true) ?_
 refine nt ?_
 refine runs_ret ?_
 exact ⟨_, leave_t1 rfl rfl, fb (true) (by subst hr4; simp only [isCall, if_neg c1, if_neg c4, if_pos c6, hr3, if_pos c7, if_neg c8]), KH4⟩
 refine oqp (bV false) (by exact congrArg (fun b => some (SV.lit (.bool b), ([] : List Fact))) (Bool.eq_false_iff.2 c7)) ?_
 refine oq (iV r4.1) ?_
 refine oq (iV r4.2.1) ?_
 refine oq (bV false) ?_
 refine nt ?_
 refine sr ?_
 refine oq (bV false) ?_
 refine oq (bV false) ?_
 refine ou ?_
 refine ou ?_
 refine oq (bV false) ?_
 refine oq (bV false) ?_
 refine ou ?_
 refine ou ?_
 refine oq (bV false) ?_
 refine oq (bV false) ?_
 refine ou ?_
 refine ou ?_
 refine oq (bV false) ?_
 refine oq (bV false) ?_
 iterate 4 refine ou ?_
 refine oq (bV false) ?_
 refine oq (bV true) ?_
 refine oq (bV true) ?_
 refine nt ?_
 refine runs_ret ?_
 exact ⟨_, leave_t1 rfl rfl, fb (true) (by subst hr4; simp only [isCall, if_neg c1, if_neg c4, if_pos c6, hr3, if_neg c7]), KH4⟩
 have hv1 : v1 = bV false := hv1.trans (congrArg (fun b => SV.lit (.bool b)) (Bool.eq_false_iff.2 c6))
 subst hv1
 refine oq (bV true) ?_
 refine oq (bV true) ?_
 refine nt ?_
 refine runs_cond true rfl ?_
 refine sr ?_
 refine oq (bV false) ?_
 refine nt ?_
 refine runs_ret ?_
 refine then_r ?_
 exact ⟨_, leave_t1 rfl rfl, fb (false) (by simp only [isCall, if_neg c1, if_neg c4, if_neg c6]), k1⟩
end Go.Proofs.YtcnfmcbmephdfaaGreatDoor.d
