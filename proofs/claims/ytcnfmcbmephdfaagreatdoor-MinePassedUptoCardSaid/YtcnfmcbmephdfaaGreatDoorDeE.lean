/-
  STRUCTS HELD AGAINST EACH OTHER, field by field. | NUMBERS AND VALUES.
-/
import Derived.Test.YtcnfmcbmephdfaaGreatDoorDeB
namespace Go.Proofs.YtcnfmcbmephdfaaGreatDoor.d
open Go Go.Proofs.YtcnfmcbmephdfaaGreatDoor.Ev Go.Proofs.YtcnfmcbmephdfaaGreatDoor.snap
noncomputable def s23_fs : Array Field := match Tryz.prog.underlying 23 with
 | some (.struct fs) => fs
 | _ => #[]
noncomputable def s23_f (i : Nat) : Field := match s23_fs[i]? with
 | some f => f
 | none => default
theorem s23_eq : s23_fs = #[s23_f 0, s23_f 1] := by kernel_rfl
theorem s23_u : pureRun Tryz.prog (underlying 23) = some (.struct s23_fs) := by kernel_rfl
theorem s23_h : Tryz.prog.stoodInHeld 23 = false := by kernel_rfl
theorem s23_n0 : (s23_f 0).name ≠ "_" := of_decide_eq_true (by kernel_rfl)
theorem s23_t0 : (s23_f 0).type = 3 := by kernel_rfl
theorem s23_p0 (a0 : Int) (a1 : Int) : pureRun Tryz.prog (part 3 #[.int .i64 a0, .int .i64 a1] (s23_f 0).offset) = some (.int .i64 a0) := by kernel_rfl
theorem s23_e0 (m : Nat) (a0 b0 : Int) : pureRun Tryz.prog (Op.equalIn (m + 1) 3 (.int .i64 a0) (.int .i64 b0)) = some (a0 == b0) := by kernel_rfl
theorem s23_n1 : (s23_f 1).name ≠ "_" := of_decide_eq_true (by kernel_rfl)
theorem s23_t1 : (s23_f 1).type = 3 := by kernel_rfl
theorem s23_p1 (a0 : Int) (a1 : Int) : pureRun Tryz.prog (part 3 #[.int .i64 a0, .int .i64 a1] (s23_f 1).offset) = some (.int .i64 a1) := by kernel_rfl
theorem s23_e1 (m : Nat) (a1 b1 : Int) : pureRun Tryz.prog (Op.equalIn (m + 1) 3 (.int .i64 a1) (.int .i64 b1)) = some (a1 == b1) := by kernel_rfl
def s23_B (a0 b0 : Int) (a1 b1 : Int) : Bool := (a0 == b0) && (a1 == b1)
set_option maxRecDepth 100000 in
set_option maxHeartbeats 4000000 in
theorem s23_all (m : Nat) (a0 b0 : Int) (a1 b1 : Int) : pureRun Tryz.prog (Op.equalIn (m + 2) 23 (.agg #[.int .i64 a0, .int .i64 a1]) (.agg #[.int .i64 b0, .int .i64 b1])) = some (s23_B a0 b0 a1 b1) := by
 have hp : pureRun Tryz.prog program = some Tryz.prog := rfl
 show pureRun Tryz.prog (Op.equalIn ((m + 1) + 1) 23 (.agg #[.int .i64 a0, .int .i64 a1]) (.agg #[.int .i64 b0, .int .i64 b1])) = _
 rw [Op.equalIn, pureRun_bind, s23_u]
 simp only [Option.bind_some]
 rw [pureRun_bind, hp]
 simp only [Option.bind_some, s23_h, Bool.false_eq_true, if_false]
 rw [pureRun_bind, s23_eq, List.forIn_toArray]
 simp only [List.forIn_cons, List.forIn_nil, s23_B]
 simp only [if_pos s23_n0, if_pos s23_n1, pureRun_bind, Option.bind_some, s23_p0, s23_t0, s23_t1, s23_e0]
 cases (a0 == b0) with
 | false => rfl
 | true =>
  try simp only [Bool.not_true, Bool.false_eq_true, if_false, Bool.true_and, pureRun_bind, pureRun_pure, Option.bind_some, s23_p1, s23_e0]
  cases (a1 == b1) <;> rfl
set_option maxRecDepth 100000 in
theorem s23_BP (a0 b0 : Int) (a1 b1 : Int) : s23_B a0 b0 a1 b1 = decide (a0 = b0 ∧ a1 = b1) := by
 rw [Bool.eq_iff_iff]
 simp [s23_B]
theorem s23_geql (x y : Operand) (a0 b0 : Int) (a1 b1 : Int) : pureRun Tryz.prog (eqGuard .eql 23 x y (.agg #[.int .i64 a0, .int .i64 a1]) (.agg #[.int .i64 b0, .int .i64 b1])) = some () := by kernel_rfl
theorem s23_beql (a0 b0 : Int) (a1 b1 : Int) : binOp .eql 23 (.agg #[.int .i64 a0, .int .i64 a1]) (.agg #[.int .i64 b0, .int .i64 b1]) = (Op.equal 23 (.agg #[.int .i64 a0, .int .i64 a1]) (.agg #[.int .i64 b0, .int .i64 b1]) >>= fun r => pure (.bool r)) := by kernel_rfl
theorem s23_qeql (x y : Operand) (a0 b0 : Int) (a1 b1 : Int) : binQ Tryz.prog .eql 23 x y (.agg [iV a0, iV a1]) (.agg [iV b0, iV b1]) = (pureRun Tryz.prog (eqGuard .eql 23 x y (.agg #[.int .i64 a0, .int .i64 a1]) (.agg #[.int .i64 b0, .int .i64 b1]) >>= fun _ => binOp .eql 23 (.agg #[.int .i64 a0, .int .i64 a1]) (.agg #[.int .i64 b0, .int .i64 b1]))).map .lit := by kernel_rfl
set_option maxRecDepth 100000 in
theorem s23_eql {x y : Operand} {a0 b0 : Int} {a1 b1 : Int} : binQ Tryz.prog .eql 23 x y (.agg [iV a0, iV a1]) (.agg [iV b0, iV b1]) = some (bV (decide (a0 = b0 ∧ a1 = b1))) := by
 rw [s23_qeql, pureRun_bind, s23_geql, Option.bind_some, s23_beql, pureRun_bind]
 have := s23_all 9998 a0 b0 a1 b1
 rw [show Op.equal 23 (.agg #[.int .i64 a0, .int .i64 a1]) (.agg #[.int .i64 b0, .int .i64 b1]) = Op.equalIn (9998 + 2) 23 (.agg #[.int .i64 a0, .int .i64 a1]) (.agg #[.int .i64 b0, .int .i64 b1]) from rfl, this, ← s23_BP]
 rfl
theorem s23_eqlT {x y : Operand} {a0 b0 : Int} {a1 b1 : Int} (h : a0 = b0 ∧ a1 = b1) : binQ Tryz.prog .eql 23 x y (.agg [iV a0, iV a1]) (.agg [iV b0, iV b1]) = some (bV true) := s23_eql.trans (by rw [decide_eq_true h])
theorem s23_eqlF {x y : Operand} {a0 b0 : Int} {a1 b1 : Int} (h : ¬ (a0 = b0 ∧ a1 = b1)) : binQ Tryz.prog .eql 23 x y (.agg [iV a0, iV a1]) (.agg [iV b0, iV b1]) = some (bV false) := s23_eql.trans (by rw [decide_eq_false h])
theorem s23_gneq (x y : Operand) (a0 b0 : Int) (a1 b1 : Int) : pureRun Tryz.prog (eqGuard .neq 23 x y (.agg #[.int .i64 a0, .int .i64 a1]) (.agg #[.int .i64 b0, .int .i64 b1])) = some () := by kernel_rfl
theorem s23_bneq (a0 b0 : Int) (a1 b1 : Int) : binOp .neq 23 (.agg #[.int .i64 a0, .int .i64 a1]) (.agg #[.int .i64 b0, .int .i64 b1]) = (Op.equal 23 (.agg #[.int .i64 a0, .int .i64 a1]) (.agg #[.int .i64 b0, .int .i64 b1]) >>= fun r => pure (.bool (!r))) := by kernel_rfl
theorem s23_qneq (x y : Operand) (a0 b0 : Int) (a1 b1 : Int) : binQ Tryz.prog .neq 23 x y (.agg [iV a0, iV a1]) (.agg [iV b0, iV b1]) = (pureRun Tryz.prog (eqGuard .neq 23 x y (.agg #[.int .i64 a0, .int .i64 a1]) (.agg #[.int .i64 b0, .int .i64 b1]) >>= fun _ => binOp .neq 23 (.agg #[.int .i64 a0, .int .i64 a1]) (.agg #[.int .i64 b0, .int .i64 b1]))).map .lit := by kernel_rfl
set_option maxRecDepth 100000 in
theorem s23_neq {x y : Operand} {a0 b0 : Int} {a1 b1 : Int} : binQ Tryz.prog .neq 23 x y (.agg [iV a0, iV a1]) (.agg [iV b0, iV b1]) = some (bV (!decide (a0 = b0 ∧ a1 = b1))) := by
 rw [s23_qneq, pureRun_bind, s23_gneq, Option.bind_some, s23_bneq, pureRun_bind]
 have := s23_all 9998 a0 b0 a1 b1
 rw [show Op.equal 23 (.agg #[.int .i64 a0, .int .i64 a1]) (.agg #[.int .i64 b0, .int .i64 b1]) = Op.equalIn (9998 + 2) 23 (.agg #[.int .i64 a0, .int .i64 a1]) (.agg #[.int .i64 b0, .int .i64 b1]) from rfl, this, ← s23_BP]
 rfl
theorem s23_neqT {x y : Operand} {a0 b0 : Int} {a1 b1 : Int} (h : a0 = b0 ∧ a1 = b1) : binQ Tryz.prog .neq 23 x y (.agg [iV a0, iV a1]) (.agg [iV b0, iV b1]) = some (bV false) := s23_neq.trans (by rw [decide_eq_true h]; rfl)
theorem s23_neqF {x y : Operand} {a0 b0 : Int} {a1 b1 : Int} (h : ¬ (a0 = b0 ∧ a1 = b1)) : binQ Tryz.prog .neq 23 x y (.agg [iV a0, iV a1]) (.agg [iV b0, iV b1]) = some (bV true) := s23_neq.trans (by rw [decide_eq_false h]; rfl)
noncomputable def s27_fs : Array Field := match Tryz.prog.underlying 27 with
 | some (.struct fs) => fs
 | _ => #[]
noncomputable def s27_f (i : Nat) : Field := match s27_fs[i]? with
 | some f => f
 | none => default
theorem s27_eq : s27_fs = #[s27_f 0, s27_f 1] := by kernel_rfl
theorem s27_u : pureRun Tryz.prog (underlying 27) = some (.struct s27_fs) := by kernel_rfl
theorem s27_h : Tryz.prog.stoodInHeld 27 = false := by kernel_rfl
theorem s27_n0 : (s27_f 0).name ≠ "_" := of_decide_eq_true (by kernel_rfl)
theorem s27_t0 : (s27_f 0).type = 3 := by kernel_rfl
theorem s27_p0 (a0 : Int) (a1 : Int) : pureRun Tryz.prog (part 3 #[.int .i64 a0, .int .i64 a1] (s27_f 0).offset) = some (.int .i64 a0) := by kernel_rfl
theorem s27_e0 (m : Nat) (a0 b0 : Int) : pureRun Tryz.prog (Op.equalIn (m + 1) 3 (.int .i64 a0) (.int .i64 b0)) = some (a0 == b0) := by kernel_rfl
theorem s27_n1 : (s27_f 1).name ≠ "_" := of_decide_eq_true (by kernel_rfl)
theorem s27_t1 : (s27_f 1).type = 3 := by kernel_rfl
theorem s27_p1 (a0 : Int) (a1 : Int) : pureRun Tryz.prog (part 3 #[.int .i64 a0, .int .i64 a1] (s27_f 1).offset) = some (.int .i64 a1) := by kernel_rfl
theorem s27_e1 (m : Nat) (a1 b1 : Int) : pureRun Tryz.prog (Op.equalIn (m + 1) 3 (.int .i64 a1) (.int .i64 b1)) = some (a1 == b1) := by kernel_rfl
def s27_B (a0 b0 : Int) (a1 b1 : Int) : Bool := (a0 == b0) && (a1 == b1)
set_option maxRecDepth 100000 in
set_option maxHeartbeats 4000000 in
theorem s27_all (m : Nat) (a0 b0 : Int) (a1 b1 : Int) : pureRun Tryz.prog (Op.equalIn (m + 2) 27 (.agg #[.int .i64 a0, .int .i64 a1]) (.agg #[.int .i64 b0, .int .i64 b1])) = some (s27_B a0 b0 a1 b1) := by
 have hp : pureRun Tryz.prog program = some Tryz.prog := rfl
 show pureRun Tryz.prog (Op.equalIn ((m + 1) + 1) 27 (.agg #[.int .i64 a0, .int .i64 a1]) (.agg #[.int .i64 b0, .int .i64 b1])) = _
 rw [Op.equalIn, pureRun_bind, s27_u]
 simp only [Option.bind_some]
 rw [pureRun_bind, hp]
 simp only [Option.bind_some, s27_h, Bool.false_eq_true, if_false]
 rw [pureRun_bind, s27_eq, List.forIn_toArray]
 simp only [List.forIn_cons, List.forIn_nil, s27_B]
 simp only [if_pos s27_n0, if_pos s27_n1, pureRun_bind, Option.bind_some, s27_p0, s27_t0, s27_t1, s27_e0]
 cases (a0 == b0) with
 | false => rfl
 | true =>
  try simp only [Bool.not_true, Bool.false_eq_true, if_false, Bool.true_and, pureRun_bind, pureRun_pure, Option.bind_some, s27_p1, s27_e0]
  cases (a1 == b1) <;> rfl
set_option maxRecDepth 100000 in
theorem s27_BP (a0 b0 : Int) (a1 b1 : Int) : s27_B a0 b0 a1 b1 = decide (a0 = b0 ∧ a1 = b1) := by
 rw [Bool.eq_iff_iff]
 simp [s27_B]
noncomputable def s29_fs : Array Field := match Tryz.prog.underlying 29 with
 | some (.struct fs) => fs
 | _ => #[]
noncomputable def s29_f (i : Nat) : Field := match s29_fs[i]? with
 | some f => f
 | none => default
theorem s29_eq : s29_fs = #[s29_f 0, s29_f 1, s29_f 2, s29_f 3, s29_f 4] := by kernel_rfl
theorem s29_u : pureRun Tryz.prog (underlying 29) = some (.struct s29_fs) := by kernel_rfl
theorem s29_h : Tryz.prog.stoodInHeld 29 = false := by kernel_rfl
theorem s29_n0 : (s29_f 0).name ≠ "_" := of_decide_eq_true (by kernel_rfl)
theorem s29_t0 : (s29_f 0).type = 3 := by kernel_rfl
theorem s29_p0 (a0 : Int) (a1 : Int) (a2 : Int) (a3 : List UInt8) (a4 : Bool) (a5 : Int) : pureRun Tryz.prog (part 3 #[.int .i64 a0, .int .i64 a1, .int .i64 a2, .string ⟨⟨a3⟩⟩, .bool a4, .int .i64 a5] (s29_f 0).offset) = some (.int .i64 a0) := by kernel_rfl
theorem s29_e0 (m : Nat) (a0 b0 : Int) : pureRun Tryz.prog (Op.equalIn (m + 1) 3 (.int .i64 a0) (.int .i64 b0)) = some (a0 == b0) := by kernel_rfl
theorem s29_n1 : (s29_f 1).name ≠ "_" := of_decide_eq_true (by kernel_rfl)
theorem s29_t1 : (s29_f 1).type = 27 := by kernel_rfl
theorem s29_p1 (a0 : Int) (a1 : Int) (a2 : Int) (a3 : List UInt8) (a4 : Bool) (a5 : Int) : pureRun Tryz.prog (part 27 #[.int .i64 a0, .int .i64 a1, .int .i64 a2, .string ⟨⟨a3⟩⟩, .bool a4, .int .i64 a5] (s29_f 1).offset) = some (.agg #[.int .i64 a1, .int .i64 a2]) := by kernel_rfl
theorem s29_n2 : (s29_f 2).name ≠ "_" := of_decide_eq_true (by kernel_rfl)
theorem s29_t2 : (s29_f 2).type = 9 := by kernel_rfl
theorem s29_p2 (a0 : Int) (a1 : Int) (a2 : Int) (a3 : List UInt8) (a4 : Bool) (a5 : Int) : pureRun Tryz.prog (part 9 #[.int .i64 a0, .int .i64 a1, .int .i64 a2, .string ⟨⟨a3⟩⟩, .bool a4, .int .i64 a5] (s29_f 2).offset) = some (.string ⟨⟨a3⟩⟩) := by kernel_rfl
theorem s29_e2 (m : Nat) (a3 b3 : List UInt8) : pureRun Tryz.prog (Op.equalIn (m + 1) 9 (.string ⟨⟨a3⟩⟩) (.string ⟨⟨b3⟩⟩)) = some (a3 == b3) := by
 have h : pureRun Tryz.prog (Op.equalIn (m + 1) 9 (.string ⟨⟨a3⟩⟩) (.string ⟨⟨b3⟩⟩)) = some ((⟨⟨a3⟩⟩ : ByteArray) == ⟨⟨b3⟩⟩) := by kernel_rfl
 rw [h, ba_beq]
theorem s29_n3 : (s29_f 3).name ≠ "_" := of_decide_eq_true (by kernel_rfl)
theorem s29_t3 : (s29_f 3).type = 4 := by kernel_rfl
theorem s29_p3 (a0 : Int) (a1 : Int) (a2 : Int) (a3 : List UInt8) (a4 : Bool) (a5 : Int) : pureRun Tryz.prog (part 4 #[.int .i64 a0, .int .i64 a1, .int .i64 a2, .string ⟨⟨a3⟩⟩, .bool a4, .int .i64 a5] (s29_f 3).offset) = some (.bool a4) := by kernel_rfl
theorem s29_e3 (m : Nat) (a4 b4 : Bool) : pureRun Tryz.prog (Op.equalIn (m + 1) 4 (.bool a4) (.bool b4)) = some (a4 == b4) := by kernel_rfl
theorem s29_n4 : (s29_f 4).name ≠ "_" := of_decide_eq_true (by kernel_rfl)
theorem s29_t4 : (s29_f 4).type = 3 := by kernel_rfl
theorem s29_p4 (a0 : Int) (a1 : Int) (a2 : Int) (a3 : List UInt8) (a4 : Bool) (a5 : Int) : pureRun Tryz.prog (part 3 #[.int .i64 a0, .int .i64 a1, .int .i64 a2, .string ⟨⟨a3⟩⟩, .bool a4, .int .i64 a5] (s29_f 4).offset) = some (.int .i64 a5) := by kernel_rfl
theorem s29_e4 (m : Nat) (a5 b5 : Int) : pureRun Tryz.prog (Op.equalIn (m + 1) 3 (.int .i64 a5) (.int .i64 b5)) = some (a5 == b5) := by kernel_rfl
def s29_B (a0 b0 : Int) (a1 b1 : Int) (a2 b2 : Int) (a3 b3 : List UInt8) (a4 b4 : Bool) (a5 b5 : Int) : Bool := (a0 == b0) && (s27_B a1 b1 a2 b2) && (a3 == b3) && (a4 == b4) && (a5 == b5)
set_option maxRecDepth 100000 in
set_option maxHeartbeats 4000000 in
theorem s29_all (m : Nat) (a0 b0 : Int) (a1 b1 : Int) (a2 b2 : Int) (a3 b3 : List UInt8) (a4 b4 : Bool) (a5 b5 : Int) : pureRun Tryz.prog (Op.equalIn (m + 3) 29 (.agg #[.int .i64 a0, .int .i64 a1, .int .i64 a2, .string ⟨⟨a3⟩⟩, .bool a4, .int .i64 a5]) (.agg #[.int .i64 b0, .int .i64 b1, .int .i64 b2, .string ⟨⟨b3⟩⟩, .bool b4, .int .i64 b5])) = some (s29_B a0 b0 a1 b1 a2 b2 a3 b3 a4 b4 a5 b5) := by
 have hp : pureRun Tryz.prog program = some Tryz.prog := rfl
 show pureRun Tryz.prog (Op.equalIn ((m + 2) + 1) 29 (.agg #[.int .i64 a0, .int .i64 a1, .int .i64 a2, .string ⟨⟨a3⟩⟩, .bool a4, .int .i64 a5]) (.agg #[.int .i64 b0, .int .i64 b1, .int .i64 b2, .string ⟨⟨b3⟩⟩, .bool b4, .int .i64 b5])) = _
 rw [Op.equalIn, pureRun_bind, s29_u]
 simp only [Option.bind_some]
 rw [pureRun_bind, hp]
 simp only [Option.bind_some, s29_h, Bool.false_eq_true, if_false]
 rw [pureRun_bind, s29_eq, List.forIn_toArray]
 simp only [List.forIn_cons, List.forIn_nil, s29_B]
 simp only [if_pos s29_n0, if_pos s29_n1, if_pos s29_n2, if_pos s29_n3, if_pos s29_n4, pureRun_bind, Option.bind_some, s29_p0, s29_t0, s29_t1, s29_t2, s29_t3, s29_t4, s29_e0]
 cases (a0 == b0) with
 | false => rfl
 | true =>
  try simp only [Bool.not_true, Bool.false_eq_true, if_false, Bool.true_and, pureRun_bind, pureRun_pure, Option.bind_some, s29_p1, s27_all]
  cases (s27_B a1 b1 a2 b2) with
  | false => rfl
  | true =>
   try simp only [Bool.not_true, Bool.false_eq_true, if_false, Bool.true_and, pureRun_bind, pureRun_pure, Option.bind_some, s29_p2, s29_e2]
   cases (a3 == b3) with
   | false => rfl
   | true =>
    try simp only [Bool.not_true, Bool.false_eq_true, if_false, Bool.true_and, pureRun_bind, pureRun_pure, Option.bind_some, s29_p3, s29_e3]
    cases (a4 == b4) with
    | false => rfl
    | true =>
     try simp only [Bool.not_true, Bool.false_eq_true, if_false, Bool.true_and, pureRun_bind, pureRun_pure, Option.bind_some, s29_p4, s29_e0]
     cases (a5 == b5) <;> rfl
set_option maxRecDepth 100000 in
theorem s29_BP (a0 b0 : Int) (a1 b1 : Int) (a2 b2 : Int) (a3 b3 : List UInt8) (a4 b4 : Bool) (a5 b5 : Int) : s29_B a0 b0 a1 b1 a2 b2 a3 b3 a4 b4 a5 b5 = decide (a0 = b0 ∧ a1 = b1 ∧ a2 = b2 ∧ a3 = b3 ∧ a4 = b4 ∧ a5 = b5) := by
 rw [Bool.eq_iff_iff]
 simp [s29_B, s27_BP, and_assoc]
theorem s29_geql (x y : Operand) (a0 b0 : Int) (a1 b1 : Int) (a2 b2 : Int) (a3 b3 : List UInt8) (a4 b4 : Bool) (a5 b5 : Int) : pureRun Tryz.prog (eqGuard .eql 29 x y (.agg #[.int .i64 a0, .int .i64 a1, .int .i64 a2, .string ⟨⟨a3⟩⟩, .bool a4, .int .i64 a5]) (.agg #[.int .i64 b0, .int .i64 b1, .int .i64 b2, .string ⟨⟨b3⟩⟩, .bool b4, .int .i64 b5])) = some () := by kernel_rfl
theorem s29_beql (a0 b0 : Int) (a1 b1 : Int) (a2 b2 : Int) (a3 b3 : List UInt8) (a4 b4 : Bool) (a5 b5 : Int) : binOp .eql 29 (.agg #[.int .i64 a0, .int .i64 a1, .int .i64 a2, .string ⟨⟨a3⟩⟩, .bool a4, .int .i64 a5]) (.agg #[.int .i64 b0, .int .i64 b1, .int .i64 b2, .string ⟨⟨b3⟩⟩, .bool b4, .int .i64 b5]) = (Op.equal 29 (.agg #[.int .i64 a0, .int .i64 a1, .int .i64 a2, .string ⟨⟨a3⟩⟩, .bool a4, .int .i64 a5]) (.agg #[.int .i64 b0, .int .i64 b1, .int .i64 b2, .string ⟨⟨b3⟩⟩, .bool b4, .int .i64 b5]) >>= fun r => pure (.bool r)) := by kernel_rfl
theorem s29_qeql (x y : Operand) (a0 b0 : Int) (a1 b1 : Int) (a2 b2 : Int) (a3 b3 : List UInt8) (a4 b4 : Bool) (a5 b5 : Int) : binQ Tryz.prog .eql 29 x y (.agg [iV a0, iV a1, iV a2, sV a3, bV a4, iV a5]) (.agg [iV b0, iV b1, iV b2, sV b3, bV b4, iV b5]) = (pureRun Tryz.prog (eqGuard .eql 29 x y (.agg #[.int .i64 a0, .int .i64 a1, .int .i64 a2, .string ⟨⟨a3⟩⟩, .bool a4, .int .i64 a5]) (.agg #[.int .i64 b0, .int .i64 b1, .int .i64 b2, .string ⟨⟨b3⟩⟩, .bool b4, .int .i64 b5]) >>= fun _ => binOp .eql 29 (.agg #[.int .i64 a0, .int .i64 a1, .int .i64 a2, .string ⟨⟨a3⟩⟩, .bool a4, .int .i64 a5]) (.agg #[.int .i64 b0, .int .i64 b1, .int .i64 b2, .string ⟨⟨b3⟩⟩, .bool b4, .int .i64 b5]))).map .lit := by kernel_rfl
set_option maxRecDepth 100000 in
theorem s29_eql {x y : Operand} {a0 b0 : Int} {a1 b1 : Int} {a2 b2 : Int} {a3 b3 : List UInt8} {a4 b4 : Bool} {a5 b5 : Int} : binQ Tryz.prog .eql 29 x y (.agg [iV a0, iV a1, iV a2, sV a3, bV a4, iV a5]) (.agg [iV b0, iV b1, iV b2, sV b3, bV b4, iV b5]) = some (bV (decide (a0 = b0 ∧ a1 = b1 ∧ a2 = b2 ∧ a3 = b3 ∧ a4 = b4 ∧ a5 = b5))) := by
 rw [s29_qeql, pureRun_bind, s29_geql, Option.bind_some, s29_beql, pureRun_bind]
 have := s29_all 9997 a0 b0 a1 b1 a2 b2 a3 b3 a4 b4 a5 b5
 rw [show Op.equal 29 (.agg #[.int .i64 a0, .int .i64 a1, .int .i64 a2, .string ⟨⟨a3⟩⟩, .bool a4, .int .i64 a5]) (.agg #[.int .i64 b0, .int .i64 b1, .int .i64 b2, .string ⟨⟨b3⟩⟩, .bool b4, .int .i64 b5]) = Op.equalIn (9997 + 3) 29 (.agg #[.int .i64 a0, .int .i64 a1, .int .i64 a2, .string ⟨⟨a3⟩⟩, .bool a4, .int .i64 a5]) (.agg #[.int .i64 b0, .int .i64 b1, .int .i64 b2, .string ⟨⟨b3⟩⟩, .bool b4, .int .i64 b5]) from rfl, this, ← s29_BP]
 rfl
theorem s29_eqlT {x y : Operand} {a0 b0 : Int} {a1 b1 : Int} {a2 b2 : Int} {a3 b3 : List UInt8} {a4 b4 : Bool} {a5 b5 : Int} (h : a0 = b0 ∧ a1 = b1 ∧ a2 = b2 ∧ a3 = b3 ∧ a4 = b4 ∧ a5 = b5) : binQ Tryz.prog .eql 29 x y (.agg [iV a0, iV a1, iV a2, sV a3, bV a4, iV a5]) (.agg [iV b0, iV b1, iV b2, sV b3, bV b4, iV b5]) = some (bV true) := s29_eql.trans (by rw [decide_eq_true h])
theorem s29_eqlF {x y : Operand} {a0 b0 : Int} {a1 b1 : Int} {a2 b2 : Int} {a3 b3 : List UInt8} {a4 b4 : Bool} {a5 b5 : Int} (h : ¬ (a0 = b0 ∧ a1 = b1 ∧ a2 = b2 ∧ a3 = b3 ∧ a4 = b4 ∧ a5 = b5)) : binQ Tryz.prog .eql 29 x y (.agg [iV a0, iV a1, iV a2, sV a3, bV a4, iV a5]) (.agg [iV b0, iV b1, iV b2, sV b3, bV b4, iV b5]) = some (bV false) := s29_eql.trans (by rw [decide_eq_false h])
noncomputable def s31_fs : Array Field := match Tryz.prog.underlying 31 with
 | some (.struct fs) => fs
 | _ => #[]
noncomputable def s31_f (i : Nat) : Field := match s31_fs[i]? with
 | some f => f
 | none => default
theorem s31_eq : s31_fs = #[s31_f 0, s31_f 1, s31_f 2, s31_f 3] := by kernel_rfl
theorem s31_u : pureRun Tryz.prog (underlying 31) = some (.struct s31_fs) := by kernel_rfl
theorem s31_h : Tryz.prog.stoodInHeld 31 = false := by kernel_rfl
theorem s31_n0 : (s31_f 0).name ≠ "_" := of_decide_eq_true (by kernel_rfl)
theorem s31_t0 : (s31_f 0).type = 23 := by kernel_rfl
theorem s31_p0 (a0 : Int) (a1 : Int) (a2 : Int) (a3 : Int) (a4 : Bool) (a5 : Bool) : pureRun Tryz.prog (part 23 #[.int .i64 a0, .int .i64 a1, .int .i64 a2, .int .i64 a3, .bool a4, .bool a5] (s31_f 0).offset) = some (.agg #[.int .i64 a0, .int .i64 a1]) := by kernel_rfl
theorem s31_n1 : (s31_f 1).name ≠ "_" := of_decide_eq_true (by kernel_rfl)
theorem s31_t1 : (s31_f 1).type = 23 := by kernel_rfl
theorem s31_p1 (a0 : Int) (a1 : Int) (a2 : Int) (a3 : Int) (a4 : Bool) (a5 : Bool) : pureRun Tryz.prog (part 23 #[.int .i64 a0, .int .i64 a1, .int .i64 a2, .int .i64 a3, .bool a4, .bool a5] (s31_f 1).offset) = some (.agg #[.int .i64 a2, .int .i64 a3]) := by kernel_rfl
theorem s31_n2 : (s31_f 2).name ≠ "_" := of_decide_eq_true (by kernel_rfl)
theorem s31_t2 : (s31_f 2).type = 4 := by kernel_rfl
theorem s31_p2 (a0 : Int) (a1 : Int) (a2 : Int) (a3 : Int) (a4 : Bool) (a5 : Bool) : pureRun Tryz.prog (part 4 #[.int .i64 a0, .int .i64 a1, .int .i64 a2, .int .i64 a3, .bool a4, .bool a5] (s31_f 2).offset) = some (.bool a4) := by kernel_rfl
theorem s31_e2 (m : Nat) (a4 b4 : Bool) : pureRun Tryz.prog (Op.equalIn (m + 1) 4 (.bool a4) (.bool b4)) = some (a4 == b4) := by kernel_rfl
theorem s31_n3 : (s31_f 3).name ≠ "_" := of_decide_eq_true (by kernel_rfl)
theorem s31_t3 : (s31_f 3).type = 4 := by kernel_rfl
theorem s31_p3 (a0 : Int) (a1 : Int) (a2 : Int) (a3 : Int) (a4 : Bool) (a5 : Bool) : pureRun Tryz.prog (part 4 #[.int .i64 a0, .int .i64 a1, .int .i64 a2, .int .i64 a3, .bool a4, .bool a5] (s31_f 3).offset) = some (.bool a5) := by kernel_rfl
theorem s31_e3 (m : Nat) (a5 b5 : Bool) : pureRun Tryz.prog (Op.equalIn (m + 1) 4 (.bool a5) (.bool b5)) = some (a5 == b5) := by kernel_rfl
def s31_B (a0 b0 : Int) (a1 b1 : Int) (a2 b2 : Int) (a3 b3 : Int) (a4 b4 : Bool) (a5 b5 : Bool) : Bool := (s23_B a0 b0 a1 b1) && (s23_B a2 b2 a3 b3) && (a4 == b4) && (a5 == b5)
set_option maxRecDepth 100000 in
set_option maxHeartbeats 4000000 in
theorem s31_all (m : Nat) (a0 b0 : Int) (a1 b1 : Int) (a2 b2 : Int) (a3 b3 : Int) (a4 b4 : Bool) (a5 b5 : Bool) : pureRun Tryz.prog (Op.equalIn (m + 3) 31 (.agg #[.int .i64 a0, .int .i64 a1, .int .i64 a2, .int .i64 a3, .bool a4, .bool a5]) (.agg #[.int .i64 b0, .int .i64 b1, .int .i64 b2, .int .i64 b3, .bool b4, .bool b5])) = some (s31_B a0 b0 a1 b1 a2 b2 a3 b3 a4 b4 a5 b5) := by
 have hp : pureRun Tryz.prog program = some Tryz.prog := rfl
 show pureRun Tryz.prog (Op.equalIn ((m + 2) + 1) 31 (.agg #[.int .i64 a0, .int .i64 a1, .int .i64 a2, .int .i64 a3, .bool a4, .bool a5]) (.agg #[.int .i64 b0, .int .i64 b1, .int .i64 b2, .int .i64 b3, .bool b4, .bool b5])) = _
 rw [Op.equalIn, pureRun_bind, s31_u]
 simp only [Option.bind_some]
 rw [pureRun_bind, hp]
 simp only [Option.bind_some, s31_h, Bool.false_eq_true, if_false]
 rw [pureRun_bind, s31_eq, List.forIn_toArray]
 simp only [List.forIn_cons, List.forIn_nil, s31_B]
 simp only [if_pos s31_n0, if_pos s31_n1, if_pos s31_n2, if_pos s31_n3, pureRun_bind, Option.bind_some, s31_p0, s31_t0, s31_t1, s31_t2, s31_t3, s23_all]
 cases (s23_B a0 b0 a1 b1) with
 | false => rfl
 | true =>
  try simp only [Bool.not_true, Bool.false_eq_true, if_false, Bool.true_and, pureRun_bind, pureRun_pure, Option.bind_some, s31_p1, s23_all]
  cases (s23_B a2 b2 a3 b3) with
  | false => rfl
  | true =>
   try simp only [Bool.not_true, Bool.false_eq_true, if_false, Bool.true_and, pureRun_bind, pureRun_pure, Option.bind_some, s31_p2, s31_e2]
   cases (a4 == b4) with
   | false => rfl
   | true =>
    try simp only [Bool.not_true, Bool.false_eq_true, if_false, Bool.true_and, pureRun_bind, pureRun_pure, Option.bind_some, s31_p3, s31_e2]
    cases (a5 == b5) <;> rfl
set_option maxRecDepth 100000 in
theorem s31_BP (a0 b0 : Int) (a1 b1 : Int) (a2 b2 : Int) (a3 b3 : Int) (a4 b4 : Bool) (a5 b5 : Bool) : s31_B a0 b0 a1 b1 a2 b2 a3 b3 a4 b4 a5 b5 = decide (a0 = b0 ∧ a1 = b1 ∧ a2 = b2 ∧ a3 = b3 ∧ a4 = b4 ∧ a5 = b5) := by
 rw [Bool.eq_iff_iff]
 simp [s31_B, s23_BP, and_assoc]
noncomputable def s33_fs : Array Field := match Tryz.prog.underlying 33 with
 | some (.struct fs) => fs
 | _ => #[]
noncomputable def s33_f (i : Nat) : Field := match s33_fs[i]? with
 | some f => f
 | none => default
theorem s33_eq : s33_fs = #[s33_f 0, s33_f 1] := by kernel_rfl
theorem s33_u : pureRun Tryz.prog (underlying 33) = some (.struct s33_fs) := by kernel_rfl
theorem s33_h : Tryz.prog.stoodInHeld 33 = false := by kernel_rfl
theorem s33_n0 : (s33_f 0).name ≠ "_" := of_decide_eq_true (by kernel_rfl)
theorem s33_t0 : (s33_f 0).type = 31 := by kernel_rfl
theorem s33_p0 (a0 : Int) (a1 : Int) (a2 : Int) (a3 : Int) (a4 : Bool) (a5 : Bool) (a6 : Int) (a7 : Int) (a8 : Int) (a9 : Int) (a10 : Bool) (a11 : Bool) : pureRun Tryz.prog (part 31 #[.int .i64 a0, .int .i64 a1, .int .i64 a2, .int .i64 a3, .bool a4, .bool a5, .int .i64 a6, .int .i64 a7, .int .i64 a8, .int .i64 a9, .bool a10, .bool a11] (s33_f 0).offset) = some (.agg #[.int .i64 a0, .int .i64 a1, .int .i64 a2, .int .i64 a3, .bool a4, .bool a5]) := by kernel_rfl
theorem s33_n1 : (s33_f 1).name ≠ "_" := of_decide_eq_true (by kernel_rfl)
theorem s33_t1 : (s33_f 1).type = 31 := by kernel_rfl
theorem s33_p1 (a0 : Int) (a1 : Int) (a2 : Int) (a3 : Int) (a4 : Bool) (a5 : Bool) (a6 : Int) (a7 : Int) (a8 : Int) (a9 : Int) (a10 : Bool) (a11 : Bool) : pureRun Tryz.prog (part 31 #[.int .i64 a0, .int .i64 a1, .int .i64 a2, .int .i64 a3, .bool a4, .bool a5, .int .i64 a6, .int .i64 a7, .int .i64 a8, .int .i64 a9, .bool a10, .bool a11] (s33_f 1).offset) = some (.agg #[.int .i64 a6, .int .i64 a7, .int .i64 a8, .int .i64 a9, .bool a10, .bool a11]) := by kernel_rfl
def s33_B (a0 b0 : Int) (a1 b1 : Int) (a2 b2 : Int) (a3 b3 : Int) (a4 b4 : Bool) (a5 b5 : Bool) (a6 b6 : Int) (a7 b7 : Int) (a8 b8 : Int) (a9 b9 : Int) (a10 b10 : Bool) (a11 b11 : Bool) : Bool := (s31_B a0 b0 a1 b1 a2 b2 a3 b3 a4 b4 a5 b5) && (s31_B a6 b6 a7 b7 a8 b8 a9 b9 a10 b10 a11 b11)
set_option maxRecDepth 100000 in
set_option maxHeartbeats 4000000 in
theorem s33_all (m : Nat) (a0 b0 : Int) (a1 b1 : Int) (a2 b2 : Int) (a3 b3 : Int) (a4 b4 : Bool) (a5 b5 : Bool) (a6 b6 : Int) (a7 b7 : Int) (a8 b8 : Int) (a9 b9 : Int) (a10 b10 : Bool) (a11 b11 : Bool) : pureRun Tryz.prog (Op.equalIn (m + 4) 33 (.agg #[.int .i64 a0, .int .i64 a1, .int .i64 a2, .int .i64 a3, .bool a4, .bool a5, .int .i64 a6, .int .i64 a7, .int .i64 a8, .int .i64 a9, .bool a10, .bool a11]) (.agg #[.int .i64 b0, .int .i64 b1, .int .i64 b2, .int .i64 b3, .bool b4, .bool b5, .int .i64 b6, .int .i64 b7, .int .i64 b8, .int .i64 b9, .bool b10, .bool b11])) = some (s33_B a0 b0 a1 b1 a2 b2 a3 b3 a4 b4 a5 b5 a6 b6 a7 b7 a8 b8 a9 b9 a10 b10 a11 b11) := by
 have hp : pureRun Tryz.prog program = some Tryz.prog := rfl
 show pureRun Tryz.prog (Op.equalIn ((m + 3) + 1) 33 (.agg #[.int .i64 a0, .int .i64 a1, .int .i64 a2, .int .i64 a3, .bool a4, .bool a5, .int .i64 a6, .int .i64 a7, .int .i64 a8, .int .i64 a9, .bool a10, .bool a11]) (.agg #[.int .i64 b0, .int .i64 b1, .int .i64 b2, .int .i64 b3, .bool b4, .bool b5, .int .i64 b6, .int .i64 b7, .int .i64 b8, .int .i64 b9, .bool b10, .bool b11])) = _
 rw [Op.equalIn, pureRun_bind, s33_u]
 simp only [Option.bind_some]
 rw [pureRun_bind, hp]
 simp only [Option.bind_some, s33_h, Bool.false_eq_true, if_false]
 rw [pureRun_bind, s33_eq, List.forIn_toArray]
 simp only [List.forIn_cons, List.forIn_nil, s33_B]
 simp only [if_pos s33_n0, if_pos s33_n1, pureRun_bind, Option.bind_some, s33_p0, s33_t0, s33_t1, s31_all]
 cases (s31_B a0 b0 a1 b1 a2 b2 a3 b3 a4 b4 a5 b5) with
 | false => rfl
 | true =>
  try simp only [Bool.not_true, Bool.false_eq_true, if_false, Bool.true_and, pureRun_bind, pureRun_pure, Option.bind_some, s33_p1, s31_all]
  cases (s31_B a6 b6 a7 b7 a8 b8 a9 b9 a10 b10 a11 b11) <;> rfl
set_option maxRecDepth 100000 in
theorem s33_BP (a0 b0 : Int) (a1 b1 : Int) (a2 b2 : Int) (a3 b3 : Int) (a4 b4 : Bool) (a5 b5 : Bool) (a6 b6 : Int) (a7 b7 : Int) (a8 b8 : Int) (a9 b9 : Int) (a10 b10 : Bool) (a11 b11 : Bool) : s33_B a0 b0 a1 b1 a2 b2 a3 b3 a4 b4 a5 b5 a6 b6 a7 b7 a8 b8 a9 b9 a10 b10 a11 b11 = decide (a0 = b0 ∧ a1 = b1 ∧ a2 = b2 ∧ a3 = b3 ∧ a4 = b4 ∧ a5 = b5 ∧ a6 = b6 ∧ a7 = b7 ∧ a8 = b8 ∧ a9 = b9 ∧ a10 = b10 ∧ a11 = b11) := by
 rw [Bool.eq_iff_iff]
 simp [s33_B, s31_BP, and_assoc]
theorem s33_geql (x y : Operand) (a0 b0 : Int) (a1 b1 : Int) (a2 b2 : Int) (a3 b3 : Int) (a4 b4 : Bool) (a5 b5 : Bool) (a6 b6 : Int) (a7 b7 : Int) (a8 b8 : Int) (a9 b9 : Int) (a10 b10 : Bool) (a11 b11 : Bool) : pureRun Tryz.prog (eqGuard .eql 33 x y (.agg #[.int .i64 a0, .int .i64 a1, .int .i64 a2, .int .i64 a3, .bool a4, .bool a5, .int .i64 a6, .int .i64 a7, .int .i64 a8, .int .i64 a9, .bool a10, .bool a11]) (.agg #[.int .i64 b0, .int .i64 b1, .int .i64 b2, .int .i64 b3, .bool b4, .bool b5, .int .i64 b6, .int .i64 b7, .int .i64 b8, .int .i64 b9, .bool b10, .bool b11])) = some () := by kernel_rfl
theorem s33_beql (a0 b0 : Int) (a1 b1 : Int) (a2 b2 : Int) (a3 b3 : Int) (a4 b4 : Bool) (a5 b5 : Bool) (a6 b6 : Int) (a7 b7 : Int) (a8 b8 : Int) (a9 b9 : Int) (a10 b10 : Bool) (a11 b11 : Bool) : binOp .eql 33 (.agg #[.int .i64 a0, .int .i64 a1, .int .i64 a2, .int .i64 a3, .bool a4, .bool a5, .int .i64 a6, .int .i64 a7, .int .i64 a8, .int .i64 a9, .bool a10, .bool a11]) (.agg #[.int .i64 b0, .int .i64 b1, .int .i64 b2, .int .i64 b3, .bool b4, .bool b5, .int .i64 b6, .int .i64 b7, .int .i64 b8, .int .i64 b9, .bool b10, .bool b11]) = (Op.equal 33 (.agg #[.int .i64 a0, .int .i64 a1, .int .i64 a2, .int .i64 a3, .bool a4, .bool a5, .int .i64 a6, .int .i64 a7, .int .i64 a8, .int .i64 a9, .bool a10, .bool a11]) (.agg #[.int .i64 b0, .int .i64 b1, .int .i64 b2, .int .i64 b3, .bool b4, .bool b5, .int .i64 b6, .int .i64 b7, .int .i64 b8, .int .i64 b9, .bool b10, .bool b11]) >>= fun r => pure (.bool r)) := by kernel_rfl
theorem s33_qeql (x y : Operand) (a0 b0 : Int) (a1 b1 : Int) (a2 b2 : Int) (a3 b3 : Int) (a4 b4 : Bool) (a5 b5 : Bool) (a6 b6 : Int) (a7 b7 : Int) (a8 b8 : Int) (a9 b9 : Int) (a10 b10 : Bool) (a11 b11 : Bool) : binQ Tryz.prog .eql 33 x y (.agg [iV a0, iV a1, iV a2, iV a3, bV a4, bV a5, iV a6, iV a7, iV a8, iV a9, bV a10, bV a11]) (.agg [iV b0, iV b1, iV b2, iV b3, bV b4, bV b5, iV b6, iV b7, iV b8, iV b9, bV b10, bV b11]) = (pureRun Tryz.prog (eqGuard .eql 33 x y (.agg #[.int .i64 a0, .int .i64 a1, .int .i64 a2, .int .i64 a3, .bool a4, .bool a5, .int .i64 a6, .int .i64 a7, .int .i64 a8, .int .i64 a9, .bool a10, .bool a11]) (.agg #[.int .i64 b0, .int .i64 b1, .int .i64 b2, .int .i64 b3, .bool b4, .bool b5, .int .i64 b6, .int .i64 b7, .int .i64 b8, .int .i64 b9, .bool b10, .bool b11]) >>= fun _ => binOp .eql 33 (.agg #[.int .i64 a0, .int .i64 a1, .int .i64 a2, .int .i64 a3, .bool a4, .bool a5, .int .i64 a6, .int .i64 a7, .int .i64 a8, .int .i64 a9, .bool a10, .bool a11]) (.agg #[.int .i64 b0, .int .i64 b1, .int .i64 b2, .int .i64 b3, .bool b4, .bool b5, .int .i64 b6, .int .i64 b7, .int .i64 b8, .int .i64 b9, .bool b10, .bool b11]))).map .lit := by kernel_rfl
set_option maxRecDepth 100000 in
theorem s33_eql {x y : Operand} {a0 b0 : Int} {a1 b1 : Int} {a2 b2 : Int} {a3 b3 : Int} {a4 b4 : Bool} {a5 b5 : Bool} {a6 b6 : Int} {a7 b7 : Int} {a8 b8 : Int} {a9 b9 : Int} {a10 b10 : Bool} {a11 b11 : Bool} : binQ Tryz.prog .eql 33 x y (.agg [iV a0, iV a1, iV a2, iV a3, bV a4, bV a5, iV a6, iV a7, iV a8, iV a9, bV a10, bV a11]) (.agg [iV b0, iV b1, iV b2, iV b3, bV b4, bV b5, iV b6, iV b7, iV b8, iV b9, bV b10, bV b11]) = some (bV (decide (a0 = b0 ∧ a1 = b1 ∧ a2 = b2 ∧ a3 = b3 ∧ a4 = b4 ∧ a5 = b5 ∧ a6 = b6 ∧ a7 = b7 ∧ a8 = b8 ∧ a9 = b9 ∧ a10 = b10 ∧ a11 = b11))) := by
 rw [s33_qeql, pureRun_bind, s33_geql, Option.bind_some, s33_beql, pureRun_bind]
 have := s33_all 9996 a0 b0 a1 b1 a2 b2 a3 b3 a4 b4 a5 b5 a6 b6 a7 b7 a8 b8 a9 b9 a10 b10 a11 b11
 rw [show Op.equal 33 (.agg #[.int .i64 a0, .int .i64 a1, .int .i64 a2, .int .i64 a3, .bool a4, .bool a5, .int .i64 a6, .int .i64 a7, .int .i64 a8, .int .i64 a9, .bool a10, .bool a11]) (.agg #[.int .i64 b0, .int .i64 b1, .int .i64 b2, .int .i64 b3, .bool b4, .bool b5, .int .i64 b6, .int .i64 b7, .int .i64 b8, .int .i64 b9, .bool b10, .bool b11]) = Op.equalIn (9996 + 4) 33 (.agg #[.int .i64 a0, .int .i64 a1, .int .i64 a2, .int .i64 a3, .bool a4, .bool a5, .int .i64 a6, .int .i64 a7, .int .i64 a8, .int .i64 a9, .bool a10, .bool a11]) (.agg #[.int .i64 b0, .int .i64 b1, .int .i64 b2, .int .i64 b3, .bool b4, .bool b5, .int .i64 b6, .int .i64 b7, .int .i64 b8, .int .i64 b9, .bool b10, .bool b11]) from rfl, this, ← s33_BP]
 rfl
theorem s33_eqlT {x y : Operand} {a0 b0 : Int} {a1 b1 : Int} {a2 b2 : Int} {a3 b3 : Int} {a4 b4 : Bool} {a5 b5 : Bool} {a6 b6 : Int} {a7 b7 : Int} {a8 b8 : Int} {a9 b9 : Int} {a10 b10 : Bool} {a11 b11 : Bool} (h : a0 = b0 ∧ a1 = b1 ∧ a2 = b2 ∧ a3 = b3 ∧ a4 = b4 ∧ a5 = b5 ∧ a6 = b6 ∧ a7 = b7 ∧ a8 = b8 ∧ a9 = b9 ∧ a10 = b10 ∧ a11 = b11) : binQ Tryz.prog .eql 33 x y (.agg [iV a0, iV a1, iV a2, iV a3, bV a4, bV a5, iV a6, iV a7, iV a8, iV a9, bV a10, bV a11]) (.agg [iV b0, iV b1, iV b2, iV b3, bV b4, bV b5, iV b6, iV b7, iV b8, iV b9, bV b10, bV b11]) = some (bV true) := s33_eql.trans (by rw [decide_eq_true h])
theorem s33_eqlF {x y : Operand} {a0 b0 : Int} {a1 b1 : Int} {a2 b2 : Int} {a3 b3 : Int} {a4 b4 : Bool} {a5 b5 : Bool} {a6 b6 : Int} {a7 b7 : Int} {a8 b8 : Int} {a9 b9 : Int} {a10 b10 : Bool} {a11 b11 : Bool} (h : ¬ (a0 = b0 ∧ a1 = b1 ∧ a2 = b2 ∧ a3 = b3 ∧ a4 = b4 ∧ a5 = b5 ∧ a6 = b6 ∧ a7 = b7 ∧ a8 = b8 ∧ a9 = b9 ∧ a10 = b10 ∧ a11 = b11)) : binQ Tryz.prog .eql 33 x y (.agg [iV a0, iV a1, iV a2, iV a3, bV a4, bV a5, iV a6, iV a7, iV a8, iV a9, bV a10, bV a11]) (.agg [iV b0, iV b1, iV b2, iV b3, bV b4, bV b5, iV b6, iV b7, iV b8, iV b9, bV b10, bV b11]) = some (bV false) := s33_eql.trans (by rw [decide_eq_false h])
noncomputable def s25_fs : Array Field := match Tryz.prog.underlying 25 with
 | some (.struct fs) => fs
 | _ => #[]
noncomputable def s25_f (i : Nat) : Field := match s25_fs[i]? with
 | some f => f
 | none => default
theorem s25_eq : s25_fs = #[s25_f 0, s25_f 1] := by kernel_rfl
theorem s25_u : pureRun Tryz.prog (underlying 25) = some (.struct s25_fs) := by kernel_rfl
theorem s25_h : Tryz.prog.stoodInHeld 25 = false := by kernel_rfl
theorem s25_n0 : (s25_f 0).name ≠ "_" := of_decide_eq_true (by kernel_rfl)
theorem s25_t0 : (s25_f 0).type = 23 := by kernel_rfl
theorem s25_p0 (a0 : Int) (a1 : Int) (a2 : Int) (a3 : Int) : pureRun Tryz.prog (part 23 #[.int .i64 a0, .int .i64 a1, .int .i64 a2, .int .i64 a3] (s25_f 0).offset) = some (.agg #[.int .i64 a0, .int .i64 a1]) := by kernel_rfl
theorem s25_n1 : (s25_f 1).name ≠ "_" := of_decide_eq_true (by kernel_rfl)
theorem s25_t1 : (s25_f 1).type = 23 := by kernel_rfl
theorem s25_p1 (a0 : Int) (a1 : Int) (a2 : Int) (a3 : Int) : pureRun Tryz.prog (part 23 #[.int .i64 a0, .int .i64 a1, .int .i64 a2, .int .i64 a3] (s25_f 1).offset) = some (.agg #[.int .i64 a2, .int .i64 a3]) := by kernel_rfl
def s25_B (a0 b0 : Int) (a1 b1 : Int) (a2 b2 : Int) (a3 b3 : Int) : Bool := (s23_B a0 b0 a1 b1) && (s23_B a2 b2 a3 b3)
set_option maxRecDepth 100000 in
set_option maxHeartbeats 4000000 in
theorem s25_all (m : Nat) (a0 b0 : Int) (a1 b1 : Int) (a2 b2 : Int) (a3 b3 : Int) : pureRun Tryz.prog (Op.equalIn (m + 3) 25 (.agg #[.int .i64 a0, .int .i64 a1, .int .i64 a2, .int .i64 a3]) (.agg #[.int .i64 b0, .int .i64 b1, .int .i64 b2, .int .i64 b3])) = some (s25_B a0 b0 a1 b1 a2 b2 a3 b3) := by
 have hp : pureRun Tryz.prog program = some Tryz.prog := rfl
 show pureRun Tryz.prog (Op.equalIn ((m + 2) + 1) 25 (.agg #[.int .i64 a0, .int .i64 a1, .int .i64 a2, .int .i64 a3]) (.agg #[.int .i64 b0, .int .i64 b1, .int .i64 b2, .int .i64 b3])) = _
 rw [Op.equalIn, pureRun_bind, s25_u]
 simp only [Option.bind_some]
 rw [pureRun_bind, hp]
 simp only [Option.bind_some, s25_h, Bool.false_eq_true, if_false]
 rw [pureRun_bind, s25_eq, List.forIn_toArray]
 simp only [List.forIn_cons, List.forIn_nil, s25_B]
 simp only [if_pos s25_n0, if_pos s25_n1, pureRun_bind, Option.bind_some, s25_p0, s25_t0, s25_t1, s23_all]
 cases (s23_B a0 b0 a1 b1) with
 | false => rfl
 | true =>
  try simp only [Bool.not_true, Bool.false_eq_true, if_false, Bool.true_and, pureRun_bind, pureRun_pure, Option.bind_some, s25_p1, s23_all]
  cases (s23_B a2 b2 a3 b3) <;> rfl
set_option maxRecDepth 100000 in
theorem s25_BP (a0 b0 : Int) (a1 b1 : Int) (a2 b2 : Int) (a3 b3 : Int) : s25_B a0 b0 a1 b1 a2 b2 a3 b3 = decide (a0 = b0 ∧ a1 = b1 ∧ a2 = b2 ∧ a3 = b3) := by
 rw [Bool.eq_iff_iff]
 simp [s25_B, s23_BP, and_assoc]
theorem s25_geql (x y : Operand) (a0 b0 : Int) (a1 b1 : Int) (a2 b2 : Int) (a3 b3 : Int) : pureRun Tryz.prog (eqGuard .eql 25 x y (.agg #[.int .i64 a0, .int .i64 a1, .int .i64 a2, .int .i64 a3]) (.agg #[.int .i64 b0, .int .i64 b1, .int .i64 b2, .int .i64 b3])) = some () := by kernel_rfl
theorem s25_beql (a0 b0 : Int) (a1 b1 : Int) (a2 b2 : Int) (a3 b3 : Int) : binOp .eql 25 (.agg #[.int .i64 a0, .int .i64 a1, .int .i64 a2, .int .i64 a3]) (.agg #[.int .i64 b0, .int .i64 b1, .int .i64 b2, .int .i64 b3]) = (Op.equal 25 (.agg #[.int .i64 a0, .int .i64 a1, .int .i64 a2, .int .i64 a3]) (.agg #[.int .i64 b0, .int .i64 b1, .int .i64 b2, .int .i64 b3]) >>= fun r => pure (.bool r)) := by kernel_rfl
theorem s25_qeql (x y : Operand) (a0 b0 : Int) (a1 b1 : Int) (a2 b2 : Int) (a3 b3 : Int) : binQ Tryz.prog .eql 25 x y (.agg [iV a0, iV a1, iV a2, iV a3]) (.agg [iV b0, iV b1, iV b2, iV b3]) = (pureRun Tryz.prog (eqGuard .eql 25 x y (.agg #[.int .i64 a0, .int .i64 a1, .int .i64 a2, .int .i64 a3]) (.agg #[.int .i64 b0, .int .i64 b1, .int .i64 b2, .int .i64 b3]) >>= fun _ => binOp .eql 25 (.agg #[.int .i64 a0, .int .i64 a1, .int .i64 a2, .int .i64 a3]) (.agg #[.int .i64 b0, .int .i64 b1, .int .i64 b2, .int .i64 b3]))).map .lit := by kernel_rfl
set_option maxRecDepth 100000 in
theorem s25_eql {x y : Operand} {a0 b0 : Int} {a1 b1 : Int} {a2 b2 : Int} {a3 b3 : Int} : binQ Tryz.prog .eql 25 x y (.agg [iV a0, iV a1, iV a2, iV a3]) (.agg [iV b0, iV b1, iV b2, iV b3]) = some (bV (decide (a0 = b0 ∧ a1 = b1 ∧ a2 = b2 ∧ a3 = b3))) := by
 rw [s25_qeql, pureRun_bind, s25_geql, Option.bind_some, s25_beql, pureRun_bind]
 have := s25_all 9997 a0 b0 a1 b1 a2 b2 a3 b3
 rw [show Op.equal 25 (.agg #[.int .i64 a0, .int .i64 a1, .int .i64 a2, .int .i64 a3]) (.agg #[.int .i64 b0, .int .i64 b1, .int .i64 b2, .int .i64 b3]) = Op.equalIn (9997 + 3) 25 (.agg #[.int .i64 a0, .int .i64 a1, .int .i64 a2, .int .i64 a3]) (.agg #[.int .i64 b0, .int .i64 b1, .int .i64 b2, .int .i64 b3]) from rfl, this, ← s25_BP]
 rfl
theorem s25_eqlT {x y : Operand} {a0 b0 : Int} {a1 b1 : Int} {a2 b2 : Int} {a3 b3 : Int} (h : a0 = b0 ∧ a1 = b1 ∧ a2 = b2 ∧ a3 = b3) : binQ Tryz.prog .eql 25 x y (.agg [iV a0, iV a1, iV a2, iV a3]) (.agg [iV b0, iV b1, iV b2, iV b3]) = some (bV true) := s25_eql.trans (by rw [decide_eq_true h])
theorem s25_eqlF {x y : Operand} {a0 b0 : Int} {a1 b1 : Int} {a2 b2 : Int} {a3 b3 : Int} (h : ¬ (a0 = b0 ∧ a1 = b1 ∧ a2 = b2 ∧ a3 = b3)) : binQ Tryz.prog .eql 25 x y (.agg [iV a0, iV a1, iV a2, iV a3]) (.agg [iV b0, iV b1, iV b2, iV b3]) = some (bV false) := s25_eql.trans (by rw [decide_eq_false h])
end Go.Proofs.YtcnfmcbmephdfaaGreatDoor.d
namespace Go.Proofs.YtcnfmcbmephdfaaGreatDoor.d
open Go Go.Proofs.YtcnfmcbmephdfaaGreatDoor.Ev Go.Proofs.YtcnfmcbmephdfaaGreatDoor.snap
def size (a : Int) : Int :=
 if a < 0 then
  (0 - (a % 18446744073709551616)) % 18446744073709551616
 else
  a % 18446744073709551616
set_option maxHeartbeats 8000000 in
set_option maxRecDepth 20000 in
theorem size_runs (Γ : Glob) (a : Int) (h : Hp)  : Runs Tryz.prog Γ (.call 171 [iV a] h) (fun o => Tells h (.lit (.int .u64 (size a))) o ∧ 0 ≤ (size a) ∧ (size a) < 18446744073709551616) := by
 refine runs_call Tryz.func171 rfl ?_
 refine sr ?_
 refine oq (.lit (.int .u64 0)) ?_
 refine nt ?_
 refine runs_seq ?_
 refine sr ?_
 refine oq (iV a) ?_
 by_cases c1 : a < 0
 refine oqp (bV true) (by exact congrArg one (c3_lssT c1)) ?_
 refine nt ?_
 refine runs_cond true rfl ?_
 refine sr ?_
 refine oq (iV a) ?_
 refine oq (.lit (.int .u64 (a % 18446744073709551616))) ?_
 refine oq (.lit (.int .u64 ((0 - (a % 18446744073709551616)) % 18446744073709551616))) ?_
 refine oq (.lit (.int .u64 ((0 - (a % 18446744073709551616)) % 18446744073709551616))) ?_
 refine nt ?_
 refine runs_ret ?_
 refine then_r ?_
 have eF : ((0 - (a % 18446744073709551616)) % 18446744073709551616) = size a := (by simp only [size, if_pos c1])
 exact ⟨_, leave_t1 rfl rfl, ⟨congrArg (fun (x : Int) => (.lit (.int .u64 x) : SV)) eF, (Kept.refl _ _)⟩, fact_of (p := fun x => 0 ≤ x ∧ x < 18446744073709551616) eF (by ((try dsimp only); omega))⟩
 refine oqp (bV false) (by exact congrArg one (c3_lssF c1)) ?_
 refine nt ?_
 refine runs_cond false rfl ?_
 refine runs_skip ?_
 refine then_n ?_
 refine sr ?_
 refine oq (iV a) ?_
 refine oq (.lit (.int .u64 (a % 18446744073709551616))) ?_
 refine oq (.lit (.int .u64 (a % 18446744073709551616))) ?_
 refine nt ?_
 refine runs_ret ?_
 have eF : (a % 18446744073709551616) = size a := (by simp only [size, if_neg c1])
 exact ⟨_, leave_t1 rfl rfl, ⟨congrArg (fun (x : Int) => (.lit (.int .u64 x) : SV)) eF, (Kept.refl _ _)⟩, fact_of (p := fun x => 0 ≤ x ∧ x < 18446744073709551616) eF (by ((try dsimp only); omega))⟩
def count_l0 (a : Int) : Nat → Int → Int → Int × Int
 | 0, x0, x3 => (x0, x3)
 | f + 1, x0, x3 => if x0 ≥ 10 then
  count_l0 a f (x0 / 10) (x3 + 1)
 else
  (x0, x3)
noncomputable def count_l0_c : Code := (inBlk (seqL (seqR (seqR (bodyOf Tryz.f172)))))
set_option maxHeartbeats 8000000 in
set_option maxRecDepth 20000 in
theorem count_l0_runs (Γ : Glob) (a : Int) (ha : 0 ≤ a ∧ a < 4611686018427387904) (h0 : Hp) (lo : Nat) (_h00 : h0.next ≤ lo) : ∀ (fuel : Nat) (x0 : Int) (x3 : Int) (tm : T SV) (h : Hp) (r : Int × Int), count_l0 a fuel x0 x3 = r → x0.toNat < fuel → (0 ≤ x0 ∧ 1 ≤ x3 ∧ x3 + x0 ≤ 1 + a) → lo ≤ h.next → Kept h0.next h0 h → Fr.ev ⟨tm, 11, []⟩ (.tmp 0) = .lit (.int .u64 x0) → Fr.ev ⟨tm, 11, []⟩ (.tmp 3) = iV x3 →
  Runs Tryz.prog Γ (.code count_l0_c none ⟨tm, 11, []⟩ h) fun o => ∃ tm2 H v, o = ⟨.exit 0, ⟨tm2, 11, []⟩, H, v⟩ ∧ (Fr.ev ⟨tm2, 11, []⟩ (.tmp 0) = .lit (.int .u64 r.1) ∧ Fr.ev ⟨tm2, 11, []⟩ (.tmp 3) = iV r.2) ∧ (True) ∧ (True) ∧ (0 ≤ r.1 ∧ 1 ≤ r.2 ∧ r.2 + r.1 ≤ 1 + a) ∧ Kept lo h H := by
 intro fuel
 induction fuel with
 | zero =>
  intros
  omega
 | succ f ih =>
  intro x0 x3  tm h r hr hm hi hlo K0 e0 e3 
  refine runs_loop ?_
  refine runs_seq ?_
  refine sr ?_
  refine oqp (.lit (.int .u64 x0)) (by simp only [quiet, e0] <;> rfl) ?_
  by_cases c1 : x0 ≥ 10
  refine oqp (bV true) (by exact congrArg one (c301_geqT c1)) ?_
  refine nt ?_
  refine runs_cond true rfl ?_
  refine runs_skip ?_
  refine then_n ?_
  refine runs_blk ?_
  refine sr ?_
  refine oqp (.lit (.int .u64 x0)) (by simp only [quiet, ev_set, e0] <;> rfl) ?_
  refine oqp (.lit (.int .u64 (x0 / 10))) (by exact congrArg one (a301_quo (by omega) (by omega) (by omega))) ?_
  refine oq (.lit (.int .u64 (x0 / 10))) ?_
  refine nt ?_
  refine runs_region ?_
  refine oqp (iV x3) (by simp only [quiet, ev_set, e3] <;> rfl) ?_
  refine oqp (iV (x3 + 1)) (by exact congrArg one (a3_add (by omega) (by omega) (by omega))) ?_
  refine oq (iV (x3 + 1)) ?_
  refine ops_nil ?_
  refine blk_n ?_
  refine then_n ?_
  refine (ih (x0 / 10) (x3 + 1)  _ _ r (by rw [← hr, count_l0]; simp only [if_pos c1]) (by omega) (by omega) hlo K0 rfl rfl   ).mono ?_
  exact fun o ho => ho
  refine oqp (bV false) (by exact congrArg one (c301_geqF c1)) ?_
  refine nt ?_
  refine runs_cond false rfl ?_
  refine runs_exit ?_
  refine then_x ?_
  refine then_x ?_
  obtain rfl : (x0, x3) = r := by rw [← hr, count_l0]; simp only [if_neg c1]
  exact ⟨_, _, _, rfl, ⟨(by simp only [ev_set, e0] <;> rfl), (by simp only [ev_set, e3] <;> rfl)⟩, True.intro, True.intro, (by (try dsimp only); omega), (Kept.refl _ _)⟩
def count (a : Int) : Int :=
 let r1 := count_l0 a (a.toNat + 1) a 1
 r1.2
set_option maxHeartbeats 8000000 in
set_option maxRecDepth 20000 in
theorem count_runs (Γ : Glob) (a : Int) (h : Hp) (ha : 0 ≤ a ∧ a < 4611686018427387904) : Runs Tryz.prog Γ (.call 172 [.lit (.int .u64 a)] h) (fun o => Tells h (iV (count a)) o ∧ 1 ≤ (count a) ∧ (count a) ≤ 1 + a) := by
 refine runs_call Tryz.func172 rfl ?_
 refine sr ?_
 refine oq (iV 0) ?_
 refine nt ?_
 refine sr ?_
 refine oq (iV 1) ?_
 refine nt ?_
 refine runs_seq ?_
 refine runs_blk ?_
 obtain ⟨r1, hr1⟩ : ∃ r, count_l0 a (a.toNat + 1) a 1 = r := ⟨_, rfl⟩
 refine (count_l0_runs Γ a ha h h.next (Nat.le_refl _) (a.toNat + 1) a 1  _ _ _ hr1 (by omega) (by omega) (Nat.le_refl _) (Kept.refl _ _) rfl rfl   ).mono ?_
 rintro _ ⟨tm1, H1, v1, rfl, ⟨e0_1, e3_1⟩, _, _, i1, k1⟩
 refine blk_x ?_
 have KH1 : Kept h.next h H1 := k1.less (Nat.le_refl _)
 refine then_n ?_
 refine sr ?_
 refine oqp (iV r1.2) (by simp only [quiet, e3_1] <;> rfl) ?_
 refine oq (iV r1.2) ?_
 refine nt ?_
 refine runs_ret ?_
 have eF : (r1.2) = count a := (by subst hr1; simp only [count])
 exact ⟨_, leave_t1 rfl rfl, ⟨congrArg (fun (x : Int) => (iV x : SV)) eF, KH1⟩, fact_of (p := fun x => 1 ≤ x ∧ x ≤ 1 + a) eF (by ((try dsimp only); omega))⟩
noncomputable def numRight_o6 : Array Oper := opsOf (seqL (seqR (seqR (seqR (seqR (bodyOf Tryz.f111))))))
def numRight (p0 : Int) (p1 : Int) : Bool :=
 if p0 = 0 then
  decide (p1 = 0)
 else
  if (size p0) ≥ 1000000000000000 then
   false
  else
   if ((size p0) % 10) = 0 then
    false
   else
    if p1 < (-40) then
     false
    else
     if p1 ≥ 40 then
      false
     else
      decide (((count (size p0)) + p1) ≤ 40)
set_option maxHeartbeats 8000000 in
set_option maxRecDepth 20000 in
theorem numRight_runs (Γ : Glob) (p0 : Int) (p1 : Int) (h : Hp)  : Runs Tryz.prog Γ (.call 111 [.agg [iV p0, iV p1]] h) (Tells h (bV (numRight p0 p1))) := by
 refine runs_call Tryz.func111 rfl ?_
 refine sr ?_
 refine ops_box (cs := [iV p0, iV p1]) rfl rfl rfl rfl rfl (fun H1 g1 k1 n1 => ?_)
 have lo1_0 : h.next ≤ h.next := (Nat.le_refl _)
 refine oq (bV false) ?_
 refine nt ?_
 refine runs_seq ?_
 refine sr ?_
 refine oq (.ptr h.next 0) ?_
 refine olc (iV p0) 0 g1 ?_
 by_cases c1 : p0 = 0
 refine oqp (bV true) (by exact congrArg one (c3_eqlT c1)) ?_
 refine nt ?_
 refine runs_cond true rfl ?_
 refine sr ?_
 refine oq (.ptr h.next 1) ?_
 refine olc (iV p1) 1 g1 ?_
 refine oqp (bV (decide (p1 = 0))) (by exact congrArg one c3_eql) ?_
 refine oq (bV (decide (p1 = 0))) ?_
 refine nt ?_
 refine runs_ret ?_
 refine then_r ?_
 exact ⟨_, leave_t1 rfl rfl, fb (decide (p1 = 0)) (by simp only [numRight, if_pos c1]), k1⟩
 refine oqp (bV false) (by exact congrArg one (c3_eqlF c1)) ?_
 refine nt ?_
 refine runs_cond false rfl ?_
 refine runs_skip ?_
 refine then_n ?_
 refine sr ?_
 refine oq (.ptr h.next 0) ?_
 refine olc (iV p0) 0 g1 ?_
 refine ops_c (f := 171) (args := [iV p0]) rfl rfl rfl (clone_body Tryz.func171 rfl) rfl rfl ?_
 refine (size_runs Γ p0 H1 ).mono ?_
 rintro ⟨ex2, fr2, H2, v2⟩ ⟨⟨hv2, k2⟩, fa2⟩
 have k2 : Kept H1.next H1 H2 := k2
 have g1_H2 := g1.kept k2
 have KH2 : Kept h.next h H2 := k1.trans (k2.less (Nat.le_trans (Nat.le_refl _) k1.next))
 have hv2 : v2 = .lit (.int .u64 (size p0)) := hv2
 subst hv2
 refine oq (.lit (.int .u64 (size p0))) ?_
 refine nt ?_
 refine runs_seq ?_
 refine sr ?_
 refine oq (.lit (.int .u64 (size p0))) ?_
 by_cases c2 : (size p0) ≥ 1000000000000000
 refine oqp (bV true) (by exact congrArg one (c301_geqT c2)) ?_
 refine oq (bV true) ?_
 iterate 3 refine ou ?_
 refine oq (bV true) ?_
 refine oq (bV true) ?_
 iterate 3 refine ou ?_
 refine oq (bV true) ?_
 refine oq (bV true) ?_
 iterate 3 refine ou ?_
 refine oq (bV true) ?_
 refine nt ?_
 refine runs_cond true rfl ?_
 refine sr ?_
 refine oq (bV false) ?_
 refine nt ?_
 refine runs_ret ?_
 refine then_r ?_
 exact ⟨_, leave_t1 rfl rfl, fb (false) (by simp only [numRight, if_neg c1, if_pos c2]), KH2⟩
 refine oqp (bV false) (by exact congrArg one (c301_geqF c2)) ?_
 refine oq (bV false) ?_
 refine oq (.lit (.int .u64 (size p0))) ?_
 refine oqp (.lit (.int .u64 ((size p0) % 10))) (by exact congrArg one (a301_rem (by omega) (by omega) (by omega))) ?_
 by_cases c3 : ((size p0) % 10) = 0
 refine oqp (bV true) (by exact congrArg one (c301_eqlT c3)) ?_
 refine oq (bV true) ?_
 refine oq (bV true) ?_
 iterate 3 refine ou ?_
 refine oq (bV true) ?_
 refine oq (bV true) ?_
 iterate 3 refine ou ?_
 refine oq (bV true) ?_
 refine nt ?_
 refine runs_cond true rfl ?_
 refine sr ?_
 refine oq (bV false) ?_
 refine nt ?_
 refine runs_ret ?_
 refine then_r ?_
 exact ⟨_, leave_t1 rfl rfl, fb (false) (by simp only [numRight, if_neg c1, if_neg c2, if_pos c3]), KH2⟩
 refine oqp (bV false) (by exact congrArg one (c301_eqlF c3)) ?_
 refine oq (bV false) ?_
 refine oq (bV false) ?_
 refine oq (.ptr h.next 1) ?_
 refine olc (iV p1) 1 g1_H2 ?_
 by_cases c4 : p1 < (-40)
 refine oqp (bV true) (by exact congrArg one (c3_lssT c4)) ?_
 refine oq (bV true) ?_
 refine oq (bV true) ?_
 iterate 3 refine ou ?_
 refine oq (bV true) ?_
 refine nt ?_
 refine runs_cond true rfl ?_
 refine sr ?_
 refine oq (bV false) ?_
 refine nt ?_
 refine runs_ret ?_
 refine then_r ?_
 exact ⟨_, leave_t1 rfl rfl, fb (false) (by simp only [numRight, if_neg c1, if_neg c2, if_neg c3, if_pos c4]), KH2⟩
 refine oqp (bV false) (by exact congrArg one (c3_lssF c4)) ?_
 refine oq (bV false) ?_
 refine oq (bV false) ?_
 refine oq (.ptr h.next 1) ?_
 refine olc (iV p1) 1 g1_H2 ?_
 by_cases c5 : p1 ≥ 40
 refine oqp (bV true) (by exact congrArg one (c3_geqT c5)) ?_
 refine oq (bV true) ?_
 refine nt ?_
 refine runs_cond true rfl ?_
 refine sr ?_
 refine oq (bV false) ?_
 refine nt ?_
 refine runs_ret ?_
 refine then_r ?_
 exact ⟨_, leave_t1 rfl rfl, fb (false) (by simp only [numRight, if_neg c1, if_neg c2, if_neg c3, if_neg c4, if_pos c5]), KH2⟩
 refine oqp (bV false) (by exact congrArg one (c3_geqF c5)) ?_
 refine oq (bV false) ?_
 refine nt ?_
 refine runs_cond false rfl ?_
 refine runs_skip ?_
 refine then_n ?_
 refine runs_seq ?_
 refine runs_drawn (ops := numRight_o6) rfl ?_
 have t_numRight_o6_3_1 : Nat.testBit (descOf 3 numRight_o6.toList 0 0) 1 = false := rfl
 refine drawn_c (i := 1) (f := 172) (args := [.lit (.int .u64 (size p0))]) (m' := 13) (held' := [⟨descOf 3 numRight_o6.toList 0 0, [.cells h.next 1 [iV p1]], none⟩]) (hp := H2) (by
  refine tq (.lit (.int .u64 (size p0))) ?_
  refine take_loud rfl rfl rfl rfl rfl ?_
  refine tq (.ptr h.next 1) ?_
  refine take_f (v := iV p1) (fact := .cells h.next 1 [iV p1]) rfl rfl rfl (by exact load_cell (P := Tryz.prog) (t := 3) (k := 1) (v := iV p1) rfl g1_H2.get rfl) rfl rfl ?_
  iterate 3 refine tw ?_
  rfl) (by rfl) (by rfl) (by rfl) (clone_body Tryz.func172 rfl) rfl rfl ?_
 refine (count_runs Γ (size p0) H2 (by omega)).mono ?_
 rintro ⟨ex3, fr3, H3, v3⟩ ⟨⟨hv3, k3⟩, fa3⟩
 have k3 : Kept H2.next H2 H3 := k3
 have g1_H3 := g1_H2.kept k3
 have KH3 : Kept h.next h H3 := KH2.trans (k3.less (Nat.le_trans (Nat.le_refl _) KH2.next))
 have hv3 : v3 = iV (count (size p0)) := hv3
 subst hv3
 have f_numRight_o6_3_1 := fact_cells g1_H3 (off := 1) (vs := [iV p1]) rfl (by simp only [SV.sameL, same_int, Bool.and_self])
 refine ⟨_, rfl, (by simp only [factsStand, t_numRight_o6_3_1, cond_false, List.all_cons, List.all_nil, f_numRight_o6_3_1, Bool.or_true, Bool.and_true]), ?_⟩
 rw [show drop 1 [⟨descOf 3 numRight_o6.toList 0 0, [.cells h.next 1 [iV p1]], none⟩] = [⟨descOf 3 numRight_o6.toList 0 0, [.cells h.next 1 [iV p1]], none⟩] from by simp only [drop, t_numRight_o6_3_1, cond_false]]
 refine drawn_end (m' := 127) (held' := [⟨descOf 3 numRight_o6.toList 0 0, [.cells h.next 1 [iV p1]], none⟩]) (hp' := H3) (by
  iterate 4 refine td ?_
  refine tqp (iV ((count (size p0)) + p1)) (by exact congrArg one (a3_add (by omega) (by omega) (by omega))) ?_
  refine tqp (bV (decide (((count (size p0)) + p1) ≤ 40))) (by exact congrArg one c3_leq) ?_
  refine tq (bV (decide (((count (size p0)) + p1) ≤ 40))) ?_
  rfl) (by rfl) (by rfl) ?_
 refine then_n ?_
 refine runs_ret ?_
 exact ⟨_, leave_t1 rfl rfl, fb (decide (((count (size p0)) + p1) ≤ 40)) (by simp only [numRight, if_neg c1, if_neg c2, if_neg c3, if_neg c4, if_neg c5]), KH3⟩
def vOf (p0 : Int) (p1 : Int) : Int × Int × Int × List UInt8 × Bool × Int :=
 (1, p0, p1, [], false, 0)
set_option maxHeartbeats 8000000 in
set_option maxRecDepth 20000 in
theorem vOf_runs (Γ : Glob) (p0 : Int) (p1 : Int) (h : Hp)  : Runs Tryz.prog Γ (.call 112 [.agg [iV p0, iV p1]] h) (Tells h (.agg [iV ((vOf p0 p1).1), iV ((vOf p0 p1).2.1), iV ((vOf p0 p1).2.2.1), sV ((vOf p0 p1).2.2.2.1), bV ((vOf p0 p1).2.2.2.2.1), iV ((vOf p0 p1).2.2.2.2.2)])) := by
 refine runs_call Tryz.func112 rfl ?_
 refine sr ?_
 refine ops_box (cs := [iV p0, iV p1]) rfl rfl rfl rfl rfl (fun H1 g1 k1 n1 => ?_)
 have lo1_0 : h.next ≤ h.next := (Nat.le_refl _)
 refine ops_alloc (z := .agg #[.int .i64 0, .int .i64 0, .int .i64 0, .string ⟨⟨[]⟩⟩, .bool false, .int .i64 0]) rfl rfl rfl rfl rfl (fun H2 g2 k2 n2 => ?_)
 have lt1_2 : h.next < H1.next := g1.lt
 have lo2_0 : h.next ≤ H1.next := (Nat.le_trans (Nat.le_refl _) k1.next)
 have g1_H2 := g1.kept k2
 have KH2 : Kept h.next h H2 := k1.trans (k2.less (Nat.le_trans (Nat.le_refl _) k1.next))
 refine nt ?_
 refine sr ?_
 refine ola [iV p0, iV p1] 0 g1_H2 ?_
 refine oq (.agg [iV 1, iV p0, iV p1, sV [], bV false, iV 0]) ?_
 refine ops_storeA (b := H1.next) (off := 0) (v := .agg [iV 1, iV p0, iV p1, sV [], bV false, iV 0]) (l2 := [iV 1, iV p0, iV p1, sV [], bV false, iV 0]) rfl rfl rfl rfl rfl rfl rfl g2.get rfl (fun H3 g3 j3 n3 => ?_)
 have g3 : At H3 H1.next _ := ⟨by rw [n3]; exact g2.lt, g3⟩
 have g1_H3 := g1_H2.other (j3 _ (Nat.ne_of_lt lt1_2)) n3
 have KH3 : Kept h.next h H3 := kept_other KH2 j3 n3 lo2_0
 refine nt ?_
 refine runs_ret ?_
 exact ⟨_, leave_ca rfl rfl rfl rfl g3.get rfl, congrArg (fun (x : Int × Int × Int × List UInt8 × Bool × Int) => (.agg [iV x.1, iV x.2.1, iV x.2.2.1, sV x.2.2.2.1, bV x.2.2.2.2.1, iV x.2.2.2.2.2] : SV)) (show ((1, p0, p1, [], false, 0)) = vOf p0 p1 from (by simp only [vOf])), KH3⟩
def vBad (a : Int) : Int × Int × Int × List UInt8 × Bool × Int :=
 if a < 1 then
  (4, 0, 0, [], false, 9)
 else
  if a > 9 then
   (4, 0, 0, [], false, 9)
  else
   (4, 0, 0, [], false, a)
set_option maxHeartbeats 8000000 in
set_option maxRecDepth 20000 in
theorem vBad_runs (Γ : Glob) (a : Int) (h : Hp)  : Runs Tryz.prog Γ (.call 114 [iV a] h) (Tells h (.agg [iV ((vBad a).1), iV ((vBad a).2.1), iV ((vBad a).2.2.1), sV ((vBad a).2.2.2.1), bV ((vBad a).2.2.2.2.1), iV ((vBad a).2.2.2.2.2)])) := by
 refine runs_call Tryz.func114 rfl ?_
 refine sr ?_
 refine ops_alloc (z := .agg #[.int .i64 0, .int .i64 0, .int .i64 0, .string ⟨⟨[]⟩⟩, .bool false, .int .i64 0]) rfl rfl rfl rfl rfl (fun H1 g1 k1 n1 => ?_)
 have lo1_0 : h.next ≤ h.next := (Nat.le_refl _)
 refine nt ?_
 refine runs_seq ?_
 refine sr ?_
 refine oq (iV a) ?_
 by_cases c1 : a < 1
 refine oqp (bV true) (by exact congrArg one (c3_lssT c1)) ?_
 refine oq (bV true) ?_
 refine ou ?_
 refine ou ?_
 refine oq (bV true) ?_
 refine nt ?_
 refine runs_cond true rfl ?_
 refine runs_region ?_
 refine oq (iV 9) ?_
 refine nt ?_
 refine sr ?_
 refine oq (iV 9) ?_
 refine oq (.agg [iV 4, iV 0, iV 0, sV [], bV false, iV 9]) ?_
 refine ops_storeA (b := h.next) (off := 0) (v := .agg [iV 4, iV 0, iV 0, sV [], bV false, iV 9]) (l2 := [iV 4, iV 0, iV 0, sV [], bV false, iV 9]) rfl rfl rfl rfl rfl rfl rfl g1.get rfl (fun H2 g2 j2 n2 => ?_)
 have g2 : At H2 h.next _ := ⟨by rw [n2]; exact g1.lt, g2⟩
 have KH2 : Kept h.next h H2 := kept_other k1 j2 n2 lo1_0
 refine nt ?_
 refine runs_ret ?_
 exact ⟨_, leave_ca rfl rfl rfl rfl g2.get rfl, congrArg (fun (x : Int × Int × Int × List UInt8 × Bool × Int) => (.agg [iV x.1, iV x.2.1, iV x.2.2.1, sV x.2.2.2.1, bV x.2.2.2.2.1, iV x.2.2.2.2.2] : SV)) (show ((4, 0, 0, [], false, 9)) = vBad a from (by simp only [vBad, if_pos c1])), KH2⟩
 refine oqp (bV false) (by exact congrArg one (c3_lssF c1)) ?_
 refine oq (bV false) ?_
 refine oq (iV a) ?_
 by_cases c2 : a > 9
 refine oqp (bV true) (by exact congrArg one (c3_gtrT c2)) ?_
 refine oq (bV true) ?_
 refine nt ?_
 refine runs_cond true rfl ?_
 refine runs_region ?_
 refine oq (iV 9) ?_
 refine nt ?_
 refine sr ?_
 refine oq (iV 9) ?_
 refine oq (.agg [iV 4, iV 0, iV 0, sV [], bV false, iV 9]) ?_
 refine ops_storeA (b := h.next) (off := 0) (v := .agg [iV 4, iV 0, iV 0, sV [], bV false, iV 9]) (l2 := [iV 4, iV 0, iV 0, sV [], bV false, iV 9]) rfl rfl rfl rfl rfl rfl rfl g1.get rfl (fun H3 g3 j3 n3 => ?_)
 have g3 : At H3 h.next _ := ⟨by rw [n3]; exact g1.lt, g3⟩
 have KH3 : Kept h.next h H3 := kept_other k1 j3 n3 lo1_0
 refine nt ?_
 refine runs_ret ?_
 exact ⟨_, leave_ca rfl rfl rfl rfl g3.get rfl, congrArg (fun (x : Int × Int × Int × List UInt8 × Bool × Int) => (.agg [iV x.1, iV x.2.1, iV x.2.2.1, sV x.2.2.2.1, bV x.2.2.2.2.1, iV x.2.2.2.2.2] : SV)) (show ((4, 0, 0, [], false, 9)) = vBad a from (by simp only [vBad, if_neg c1, if_pos c2])), KH3⟩
 refine oqp (bV false) (by exact congrArg one (c3_gtrF c2)) ?_
 refine oq (bV false) ?_
 refine nt ?_
 refine runs_cond false rfl ?_
 refine runs_skip ?_
 refine then_n ?_
 refine sr ?_
 refine oq (iV a) ?_
 refine oq (.agg [iV 4, iV 0, iV 0, sV [], bV false, iV a]) ?_
 refine ops_storeA (b := h.next) (off := 0) (v := .agg [iV 4, iV 0, iV 0, sV [], bV false, iV a]) (l2 := [iV 4, iV 0, iV 0, sV [], bV false, iV a]) rfl rfl rfl rfl rfl rfl rfl g1.get rfl (fun H4 g4 j4 n4 => ?_)
 have g4 : At H4 h.next _ := ⟨by rw [n4]; exact g1.lt, g4⟩
 have KH4 : Kept h.next h H4 := kept_other k1 j4 n4 lo1_0
 refine nt ?_
 refine runs_ret ?_
 exact ⟨_, leave_ca rfl rfl rfl rfl g4.get rfl, congrArg (fun (x : Int × Int × Int × List UInt8 × Bool × Int) => (.agg [iV x.1, iV x.2.1, iV x.2.2.1, sV x.2.2.2.1, bV x.2.2.2.2.1, iV x.2.2.2.2.2] : SV)) (show ((4, 0, 0, [], false, a)) = vBad a from (by simp only [vBad, if_neg c1, if_neg c2])), KH4⟩
def vText (s : List UInt8) : Int × Int × Int × List UInt8 × Bool × Int :=
 if (s.length : Int) > 255 then
  let r2 := vBad 2
  (r2.1, r2.2.1, r2.2.2.1, r2.2.2.2.1, r2.2.2.2.2.1, r2.2.2.2.2.2)
 else
  (2, 0, 0, s, false, 0)
set_option maxHeartbeats 8000000 in
set_option maxRecDepth 20000 in
theorem vText_runs (Γ : Glob) (s : List UInt8) (h : Hp)  : Runs Tryz.prog Γ (.call 102 [sV s] h) (Tells h (.agg [iV ((vText s).1), iV ((vText s).2.1), iV ((vText s).2.2.1), sV ((vText s).2.2.2.1), bV ((vText s).2.2.2.2.1), iV ((vText s).2.2.2.2.2)])) := by
 refine runs_call Tryz.func102 rfl ?_
 refine sr ?_
 refine ops_alloc (z := .agg #[.int .i64 0, .int .i64 0, .int .i64 0, .string ⟨⟨[]⟩⟩, .bool false, .int .i64 0]) rfl rfl rfl rfl rfl (fun H1 g1 k1 n1 => ?_)
 have lo1_0 : h.next ≤ h.next := (Nat.le_refl _)
 refine nt ?_
 refine runs_seq ?_
 refine sr ?_
 refine oq (sV s) ?_
 refine oq (iV (s.length : Int)) ?_
 by_cases c1 : (s.length : Int) > 255
 refine oqp (bV true) (by exact congrArg one (c3_gtrT c1)) ?_
 refine nt ?_
 refine runs_cond true rfl ?_
 refine sr ?_
 refine ops_c (f := 114) (args := [iV 2]) rfl rfl rfl (clone_body Tryz.func114 rfl) rfl rfl ?_
 refine (vBad_runs Γ 2 H1 ).mono ?_
 rintro ⟨ex2, fr2, H2, v2⟩ ⟨hv2, k2⟩
 have k2 : Kept H1.next H1 H2 := k2
 have g1_H2 := g1.kept k2
 have KH2 : Kept h.next h H2 := k1.trans (k2.less (Nat.le_trans (Nat.le_refl _) k1.next))
 generalize hr2 : vBad 2 = r2 at hv2
 have hv2 : v2 = .agg [iV r2.1, iV r2.2.1, iV r2.2.2.1, sV r2.2.2.2.1, bV r2.2.2.2.2.1, iV r2.2.2.2.2.2] := hv2
 subst hv2
 refine ops_storeA (b := h.next) (off := 0) (v := .agg [iV r2.1, iV r2.2.1, iV r2.2.2.1, sV r2.2.2.2.1, bV r2.2.2.2.2.1, iV r2.2.2.2.2.2]) (l2 := [iV r2.1, iV r2.2.1, iV r2.2.2.1, sV r2.2.2.2.1, bV r2.2.2.2.2.1, iV r2.2.2.2.2.2]) rfl rfl rfl rfl rfl rfl rfl g1_H2.get rfl (fun H3 g3 j3 n3 => ?_)
 have g3 : At H3 h.next _ := ⟨by rw [n3]; exact g1_H2.lt, g3⟩
 have KH3 : Kept h.next h H3 := kept_other KH2 j3 n3 lo1_0
 refine nt ?_
 refine runs_ret ?_
 refine then_r ?_
 exact ⟨_, leave_ca rfl rfl rfl rfl g3.get rfl, congrArg (fun (x : Int × Int × Int × List UInt8 × Bool × Int) => (.agg [iV x.1, iV x.2.1, iV x.2.2.1, sV x.2.2.2.1, bV x.2.2.2.2.1, iV x.2.2.2.2.2] : SV)) (show ((r2.1, r2.2.1, r2.2.2.1, r2.2.2.2.1, r2.2.2.2.2.1, r2.2.2.2.2.2)) = vText s from (by subst hr2; simp only [vText, if_pos c1])), KH3⟩
 refine oqp (bV false) (by exact congrArg one (c3_gtrF c1)) ?_
 refine nt ?_
 refine runs_cond false rfl ?_
 refine runs_skip ?_
 refine then_n ?_
 refine sr ?_
 refine oq (sV s) ?_
 refine oq (.agg [iV 2, iV 0, iV 0, sV s, bV false, iV 0]) ?_
 refine ops_storeA (b := h.next) (off := 0) (v := .agg [iV 2, iV 0, iV 0, sV s, bV false, iV 0]) (l2 := [iV 2, iV 0, iV 0, sV s, bV false, iV 0]) rfl rfl rfl rfl rfl rfl rfl g1.get rfl (fun H4 g4 j4 n4 => ?_)
 have g4 : At H4 h.next _ := ⟨by rw [n4]; exact g1.lt, g4⟩
 have KH4 : Kept h.next h H4 := kept_other k1 j4 n4 lo1_0
 refine nt ?_
 refine runs_ret ?_
 exact ⟨_, leave_ca rfl rfl rfl rfl g4.get rfl, congrArg (fun (x : Int × Int × Int × List UInt8 × Bool × Int) => (.agg [iV x.1, iV x.2.1, iV x.2.2.1, sV x.2.2.2.1, bV x.2.2.2.2.1, iV x.2.2.2.2.2] : SV)) (show ((2, 0, 0, s, false, 0)) = vText s from (by simp only [vText, if_neg c1])), KH4⟩
def vTruth (b : Bool) : Int × Int × Int × List UInt8 × Bool × Int :=
 (3, 0, 0, [], b, 0)
set_option maxHeartbeats 8000000 in
set_option maxRecDepth 20000 in
theorem vTruth_runs (Γ : Glob) (b : Bool) (h : Hp)  : Runs Tryz.prog Γ (.call 113 [bV b] h) (Tells h (.agg [iV ((vTruth b).1), iV ((vTruth b).2.1), iV ((vTruth b).2.2.1), sV ((vTruth b).2.2.2.1), bV ((vTruth b).2.2.2.2.1), iV ((vTruth b).2.2.2.2.2)])) := by
 refine runs_call Tryz.func113 rfl ?_
 refine sr ?_
 refine ops_alloc (z := .agg #[.int .i64 0, .int .i64 0, .int .i64 0, .string ⟨⟨[]⟩⟩, .bool false, .int .i64 0]) rfl rfl rfl rfl rfl (fun H1 g1 k1 n1 => ?_)
 have lo1_0 : h.next ≤ h.next := (Nat.le_refl _)
 refine nt ?_
 refine sr ?_
 refine oq (bV b) ?_
 refine oq (.agg [iV 3, iV 0, iV 0, sV [], bV b, iV 0]) ?_
 refine ops_storeA (b := h.next) (off := 0) (v := .agg [iV 3, iV 0, iV 0, sV [], bV b, iV 0]) (l2 := [iV 3, iV 0, iV 0, sV [], bV b, iV 0]) rfl rfl rfl rfl rfl rfl rfl g1.get rfl (fun H2 g2 j2 n2 => ?_)
 have g2 : At H2 h.next _ := ⟨by rw [n2]; exact g1.lt, g2⟩
 have KH2 : Kept h.next h H2 := kept_other k1 j2 n2 lo1_0
 refine nt ?_
 refine runs_ret ?_
 exact ⟨_, leave_ca rfl rfl rfl rfl g2.get rfl, congrArg (fun (x : Int × Int × Int × List UInt8 × Bool × Int) => (.agg [iV x.1, iV x.2.1, iV x.2.2.1, sV x.2.2.2.1, bV x.2.2.2.2.1, iV x.2.2.2.2.2] : SV)) (show ((3, 0, 0, [], b, 0)) = vTruth b from (by simp only [vTruth])), KH2⟩
def vSame (p0 : Int) (p1 : Int) (p2 : Int) (p3 : List UInt8) (p4 : Bool) (p5 : Int) (w0 : Int) (w1 : Int) (w2 : Int) (w3 : List UInt8) (w4 : Bool) (w5 : Int) : Bool :=
 decide (p0 = w0 ∧ p1 = w1 ∧ p2 = w2 ∧ p3 = w3 ∧ p4 = w4 ∧ p5 = w5)
set_option maxHeartbeats 8000000 in
set_option maxRecDepth 20000 in
theorem vSame_runs (Γ : Glob) (p0 : Int) (p1 : Int) (p2 : Int) (p3 : List UInt8) (p4 : Bool) (p5 : Int) (w0 : Int) (w1 : Int) (w2 : Int) (w3 : List UInt8) (w4 : Bool) (w5 : Int) (h : Hp)  : Runs Tryz.prog Γ (.call 56 [.agg [iV p0, iV p1, iV p2, sV p3, bV p4, iV p5], .agg [iV w0, iV w1, iV w2, sV w3, bV w4, iV w5]] h) (Tells h (bV (vSame p0 p1 p2 p3 p4 p5 w0 w1 w2 w3 w4 w5))) := by
 refine runs_call Tryz.func56 rfl ?_
 refine sr ?_
 refine ops_box (cs := [iV p0, iV p1, iV p2, sV p3, bV p4, iV p5]) rfl rfl rfl rfl rfl (fun H1 g1 k1 n1 => ?_)
 have lo1_0 : h.next ≤ h.next := (Nat.le_refl _)
 refine ops_box (cs := [iV w0, iV w1, iV w2, sV w3, bV w4, iV w5]) rfl rfl rfl rfl rfl (fun H2 g2 k2 n2 => ?_)
 have lt1_2 : h.next < H1.next := g1.lt
 have lo2_0 : h.next ≤ H1.next := (Nat.le_trans (Nat.le_refl _) k1.next)
 have g1_H2 := g1.kept k2
 have KH2 : Kept h.next h H2 := k1.trans (k2.less (Nat.le_trans (Nat.le_refl _) k1.next))
 refine oq (bV false) ?_
 refine nt ?_
 refine sr ?_
 refine ola [iV p0, iV p1, iV p2, sV p3, bV p4, iV p5] 0 g1_H2 ?_
 refine ola [iV w0, iV w1, iV w2, sV w3, bV w4, iV w5] 0 g2 ?_
 refine oqp (bV (decide (p0 = w0 ∧ p1 = w1 ∧ p2 = w2 ∧ p3 = w3 ∧ p4 = w4 ∧ p5 = w5))) (by exact congrArg one s29_eql) ?_
 refine oq (bV (decide (p0 = w0 ∧ p1 = w1 ∧ p2 = w2 ∧ p3 = w3 ∧ p4 = w4 ∧ p5 = w5))) ?_
 refine nt ?_
 refine runs_ret ?_
 exact ⟨_, leave_t1 rfl rfl, fb (decide (p0 = w0 ∧ p1 = w1 ∧ p2 = w2 ∧ p3 = w3 ∧ p4 = w4 ∧ p5 = w5)) (by simp only [vSame]), KH2⟩
noncomputable def vRight_o5 : Array Oper := opsOf (seqL (condL (seqR (condR (seqR (inBlk (seqR (seqL (seqR (bodyOf Tryz.f54))))))))))
noncomputable def vRight_o7 : Array Oper := opsOf (seqL (condL (seqR (condR (seqR (condR (seqR (inBlk (seqR (seqL (seqR (bodyOf Tryz.f54))))))))))))
noncomputable def vRight_o9 : Array Oper := opsOf (seqL (condL (seqR (condR (seqR (condR (seqR (condR (seqR (inBlk (seqR (seqL (seqR (bodyOf Tryz.f54))))))))))))))
noncomputable def vRight_o11 : Array Oper := opsOf (seqL (condL (seqR (condR (seqR (condR (seqR (condR (seqR (condR (seqR (inBlk (seqR (seqL (seqR (bodyOf Tryz.f54))))))))))))))))
def vRight (p0 : Int) (p1 : Int) (p2 : Int) (p3 : List UInt8) (p4 : Bool) (p5 : Int) : Bool :=
 if p0 = 0 then
  decide (p0 = 0 ∧ p1 = 0 ∧ p2 = 0 ∧ p3 = [] ∧ p4 = false ∧ p5 = 0)
 else
  if p0 = 1 then
   if numRight p1 p2 = true then
    let r3 := vOf p1 p2
    decide (p0 = r3.1 ∧ p1 = r3.2.1 ∧ p2 = r3.2.2.1 ∧ p3 = r3.2.2.2.1 ∧ p4 = r3.2.2.2.2.1 ∧ p5 = r3.2.2.2.2.2)
   else
    false
  else
   if p0 = 2 then
    let r4 := vText p3
    decide (p0 = r4.1 ∧ p1 = r4.2.1 ∧ p2 = r4.2.2.1 ∧ p3 = r4.2.2.2.1 ∧ p4 = r4.2.2.2.2.1 ∧ p5 = r4.2.2.2.2.2)
   else
    if p0 = 3 then
     let r5 := vTruth p4
     decide (p0 = r5.1 ∧ p1 = r5.2.1 ∧ p2 = r5.2.2.1 ∧ p3 = r5.2.2.2.1 ∧ p4 = r5.2.2.2.2.1 ∧ p5 = r5.2.2.2.2.2)
    else
     if p0 = 4 then
      let r6 := vBad p5
      decide (p0 = r6.1 ∧ p1 = r6.2.1 ∧ p2 = r6.2.2.1 ∧ p3 = r6.2.2.2.1 ∧ p4 = r6.2.2.2.2.1 ∧ p5 = r6.2.2.2.2.2)
     else
      false
set_option maxHeartbeats 8000000 in
set_option maxRecDepth 20000 in
theorem vRight_runs (Γ : Glob) (p0 : Int) (p1 : Int) (p2 : Int) (p3 : List UInt8) (p4 : Bool) (p5 : Int) (h : Hp)  : Runs Tryz.prog Γ (.call 54 [.agg [iV p0, iV p1, iV p2, sV p3, bV p4, iV p5]] h) (Tells h (bV (vRight p0 p1 p2 p3 p4 p5))) := by
 refine runs_call Tryz.func54 rfl ?_
 refine sr ?_
 refine ops_box (cs := [iV p0, iV p1, iV p2, sV p3, bV p4, iV p5]) rfl rfl rfl rfl rfl (fun H1 g1 k1 n1 => ?_)
 have lo1_0 : h.next ≤ h.next := (Nat.le_refl _)
 refine oq (bV false) ?_
 refine nt ?_
 refine runs_seq ?_
 refine sr ?_
 refine oq (.ptr h.next 0) ?_
 refine olc (iV p0) 0 g1 ?_
 refine nt ?_
 refine runs_blk ?_
 refine sr ?_
 by_cases c1 : p0 = 0
 refine oqp (bV true) (by exact congrArg one (c3_eqlT c1)) ?_
 refine oq (bV true) ?_
 refine nt ?_
 refine runs_cond true rfl ?_
 refine sr ?_
 refine ola [iV p0, iV p1, iV p2, sV p3, bV p4, iV p5] 0 g1 ?_
 refine oq (.agg [iV 0, iV 0, iV 0, sV [], bV false, iV 0]) ?_
 refine oqp (bV (decide (p0 = 0 ∧ p1 = 0 ∧ p2 = 0 ∧ p3 = [] ∧ p4 = false ∧ p5 = 0))) (by exact congrArg one s29_eql) ?_
 refine oq (bV (decide (p0 = 0 ∧ p1 = 0 ∧ p2 = 0 ∧ p3 = [] ∧ p4 = false ∧ p5 = 0))) ?_
 refine nt ?_
 refine runs_ret ?_
 refine blk_r ?_
 refine then_r ?_
 exact ⟨_, leave_t1 rfl rfl, fb (decide (p0 = 0 ∧ p1 = 0 ∧ p2 = 0 ∧ p3 = [] ∧ p4 = false ∧ p5 = 0)) (by simp only [vRight, if_pos c1]), k1⟩
 refine oqp (bV false) (by exact congrArg one (c3_eqlF c1)) ?_
 refine oq (bV false) ?_
 refine nt ?_
 refine runs_cond false rfl ?_
 refine sr ?_
 by_cases c2 : p0 = 1
 refine oqp (bV true) (by exact congrArg one (c3_eqlT c2)) ?_
 refine oq (bV true) ?_
 refine nt ?_
 refine runs_cond true rfl ?_
 refine runs_seq ?_
 refine runs_drawn (ops := vRight_o5) rfl ?_
 have t_vRight_o5_1_2 : Nat.testBit (descOf 1 vRight_o5.toList 0 0) 2 = true := rfl
 refine drawn_c (i := 2) (f := 111) (args := [.agg [iV p1, iV p2]]) (m' := 3) (held' := [⟨descOf 1 vRight_o5.toList 0 0, [.cells h.next 1 [iV p1, iV p2]], none⟩]) (hp := H1) (by
  refine tq (.ptr h.next 1) ?_
  refine take_f (v := .agg [iV p1, iV p2]) (fact := .cells h.next 1 [iV p1, iV p2]) rfl rfl rfl (by exact load_cut (P := Tryz.prog) (t := 27) (k := 1) (n := 2) (vs := [iV p1, iV p2]) rfl rfl g1.get rfl) rfl rfl ?_
  refine take_loud rfl rfl rfl rfl rfl ?_
  iterate 8 refine tw ?_
  rfl) (by rfl) (by rfl) (by rfl) (clone_body Tryz.func111 rfl) rfl rfl ?_
 refine (numRight_runs Γ p1 p2 H1 ).mono ?_
 rintro ⟨ex2, fr2, H2, v2⟩ ⟨hv2, k2⟩
 have k2 : Kept H1.next H1 H2 := k2
 have g1_H2 := g1.kept k2
 have KH2 : Kept h.next h H2 := k1.trans (k2.less (Nat.le_trans (Nat.le_refl _) k1.next))
 by_cases c3 : numRight p1 p2 = true
 have hv2 : v2 = bV true := hv2.trans (congrArg (fun b => SV.lit (.bool b)) c3)
 subst hv2
 refine ⟨_, rfl, (by simp only [factsStand, t_vRight_o5_1_2, cond_true, List.all_cons, List.all_nil, Bool.and_true]), ?_⟩
 rw [show drop 2 [⟨descOf 1 vRight_o5.toList 0 0, [.cells h.next 1 [iV p1, iV p2]], none⟩] = [] from by simp only [drop, t_vRight_o5_1_2, cond_true]]
 have t_vRight_o5_6_7 : Nat.testBit (descOf 6 vRight_o5.toList 0 0) 7 = true := rfl
 have t_vRight_o5_4_7 : Nat.testBit (descOf 4 vRight_o5.toList 0 0) 7 = false := rfl
 refine drawn_c (i := 7) (f := 112) (args := [.agg [iV p1, iV p2]]) (m' := 127) (held' := [⟨descOf 6 vRight_o5.toList 0 0, [.cells h.next 1 [iV p1, iV p2]], none⟩, ⟨descOf 4 vRight_o5.toList 0 0, [.cells h.next 0 [iV p0, iV p1, iV p2, sV p3, bV p4, iV p5]], none⟩]) (hp := H2) (by
  iterate 3 refine td ?_
  refine tq (bV true) ?_
  refine take_f (v := .agg [iV p0, iV p1, iV p2, sV p3, bV p4, iV p5]) (fact := .cells h.next 0 [iV p0, iV p1, iV p2, sV p3, bV p4, iV p5]) rfl rfl rfl (by exact load_cut (P := Tryz.prog) (t := 29) (k := 0) (n := 6) (vs := [iV p0, iV p1, iV p2, sV p3, bV p4, iV p5]) rfl rfl g1_H2.get rfl) rfl rfl ?_
  refine tq (.ptr h.next 1) ?_
  refine take_f (v := .agg [iV p1, iV p2]) (fact := .cells h.next 1 [iV p1, iV p2]) rfl rfl rfl (by exact load_cut (P := Tryz.prog) (t := 27) (k := 1) (n := 2) (vs := [iV p1, iV p2]) rfl rfl g1_H2.get rfl) rfl rfl ?_
  refine take_loud rfl rfl rfl rfl rfl ?_
  iterate 3 refine tw ?_
  rfl) (by rfl) (by rfl) (by rfl) (clone_body Tryz.func112 rfl) rfl rfl ?_
 refine (vOf_runs Γ p1 p2 H2 ).mono ?_
 rintro ⟨ex3, fr3, H3, v3⟩ ⟨hv3, k3⟩
 have k3 : Kept H2.next H2 H3 := k3
 have g1_H3 := g1_H2.kept k3
 have KH3 : Kept h.next h H3 := KH2.trans (k3.less (Nat.le_trans (Nat.le_refl _) KH2.next))
 generalize hr3 : vOf p1 p2 = r3 at hv3
 have hv3 : v3 = .agg [iV r3.1, iV r3.2.1, iV r3.2.2.1, sV r3.2.2.2.1, bV r3.2.2.2.2.1, iV r3.2.2.2.2.2] := hv3
 subst hv3
 have f_vRight_o5_4_7 := fact_cells g1_H3 (off := 0) (vs := [iV p0, iV p1, iV p2, sV p3, bV p4, iV p5]) rfl (by simp only [SV.sameL, same_int, same_bool, same_txt, Bool.and_self])
 refine ⟨_, rfl, (by simp only [factsStand, t_vRight_o5_6_7, t_vRight_o5_4_7, cond_true, cond_false, List.all_cons, List.all_nil, f_vRight_o5_4_7, Bool.or_true, Bool.and_true]), ?_⟩
 rw [show drop 7 [⟨descOf 6 vRight_o5.toList 0 0, [.cells h.next 1 [iV p1, iV p2]], none⟩, ⟨descOf 4 vRight_o5.toList 0 0, [.cells h.next 0 [iV p0, iV p1, iV p2, sV p3, bV p4, iV p5]], none⟩] = [⟨descOf 4 vRight_o5.toList 0 0, [.cells h.next 0 [iV p0, iV p1, iV p2, sV p3, bV p4, iV p5]], none⟩] from by simp only [drop, t_vRight_o5_6_7, t_vRight_o5_4_7, cond_true, cond_false]]
 refine drawn_end (m' := 2047) (held' := [⟨descOf 4 vRight_o5.toList 0 0, [.cells h.next 0 [iV p0, iV p1, iV p2, sV p3, bV p4, iV p5]], none⟩]) (hp' := H3) (by
  iterate 8 refine td ?_
  refine tqp (bV (decide (p0 = r3.1 ∧ p1 = r3.2.1 ∧ p2 = r3.2.2.1 ∧ p3 = r3.2.2.2.1 ∧ p4 = r3.2.2.2.2.1 ∧ p5 = r3.2.2.2.2.2))) (by exact congrArg one s29_eql) ?_
  refine tq (bV (decide (p0 = r3.1 ∧ p1 = r3.2.1 ∧ p2 = r3.2.2.1 ∧ p3 = r3.2.2.2.1 ∧ p4 = r3.2.2.2.2.1 ∧ p5 = r3.2.2.2.2.2))) ?_
  refine tq (bV (decide (p0 = r3.1 ∧ p1 = r3.2.1 ∧ p2 = r3.2.2.1 ∧ p3 = r3.2.2.2.1 ∧ p4 = r3.2.2.2.2.1 ∧ p5 = r3.2.2.2.2.2))) ?_
  rfl) (by rfl) (by rfl) ?_
 refine then_n ?_
 refine runs_ret ?_
 refine blk_r ?_
 refine then_r ?_
 exact ⟨_, leave_t1 rfl rfl, fb (decide (p0 = r3.1 ∧ p1 = r3.2.1 ∧ p2 = r3.2.2.1 ∧ p3 = r3.2.2.2.1 ∧ p4 = r3.2.2.2.2.1 ∧ p5 = r3.2.2.2.2.2)) (by subst hr3; simp only [vRight, if_neg c1, if_pos c2, if_pos c3]), KH3⟩
 have hv2 : v2 = bV false := hv2.trans (congrArg (fun b => SV.lit (.bool b)) (Bool.eq_false_iff.2 c3))
 subst hv2
 refine ⟨_, rfl, (by simp only [factsStand, t_vRight_o5_1_2, cond_true, List.all_cons, List.all_nil, Bool.and_true]), ?_⟩
 rw [show drop 2 [⟨descOf 1 vRight_o5.toList 0 0, [.cells h.next 1 [iV p1, iV p2]], none⟩] = [] from by simp only [drop, t_vRight_o5_1_2, cond_true]]
 refine drawn_end (m' := 2047) (held' := []) (hp' := H2) (by
  iterate 3 refine td ?_
  refine tq (bV false) ?_
  iterate 5 refine tu ?_
  refine tq (bV false) ?_
  refine tq (bV false) ?_
  rfl) (by rfl) (by rfl) ?_
 refine then_n ?_
 refine runs_ret ?_
 refine blk_r ?_
 refine then_r ?_
 exact ⟨_, leave_t1 rfl rfl, fb (false) (by simp only [vRight, if_neg c1, if_pos c2, if_neg c3]), KH2⟩
 refine oqp (bV false) (by exact congrArg one (c3_eqlF c2)) ?_
 refine oq (bV false) ?_
 refine nt ?_
 refine runs_cond false rfl ?_
 refine sr ?_
 by_cases c4 : p0 = 2
 refine oqp (bV true) (by exact congrArg one (c3_eqlT c4)) ?_
 refine oq (bV true) ?_
 refine nt ?_
 refine runs_cond true rfl ?_
 refine runs_seq ?_
 refine runs_drawn (ops := vRight_o7) rfl ?_
 have t_vRight_o7_2_3 : Nat.testBit (descOf 2 vRight_o7.toList 0 0) 3 = true := rfl
 have t_vRight_o7_0_3 : Nat.testBit (descOf 0 vRight_o7.toList 0 0) 3 = false := rfl
 refine drawn_c (i := 3) (f := 102) (args := [sV p3]) (m' := 7) (held' := [⟨descOf 2 vRight_o7.toList 0 0, [.cells h.next 3 [sV p3]], none⟩, ⟨descOf 0 vRight_o7.toList 0 0, [.cells h.next 0 [iV p0, iV p1, iV p2, sV p3, bV p4, iV p5]], none⟩]) (hp := H1) (by
  refine take_f (v := .agg [iV p0, iV p1, iV p2, sV p3, bV p4, iV p5]) (fact := .cells h.next 0 [iV p0, iV p1, iV p2, sV p3, bV p4, iV p5]) rfl rfl rfl (by exact load_cut (P := Tryz.prog) (t := 29) (k := 0) (n := 6) (vs := [iV p0, iV p1, iV p2, sV p3, bV p4, iV p5]) rfl rfl g1.get rfl) rfl rfl ?_
  refine tq (.ptr h.next 3) ?_
  refine take_f (v := sV p3) (fact := .cells h.next 3 [sV p3]) rfl rfl rfl (by exact load_cell (P := Tryz.prog) (t := 9) (k := 3) (v := sV p3) rfl g1.get rfl) rfl rfl ?_
  refine take_loud rfl rfl rfl rfl rfl ?_
  refine tw ?_
  refine tw ?_
  rfl) (by rfl) (by rfl) (by rfl) (clone_body Tryz.func102 rfl) rfl rfl ?_
 refine (vText_runs Γ p3 H1 ).mono ?_
 rintro ⟨ex4, fr4, H4, v4⟩ ⟨hv4, k4⟩
 have k4 : Kept H1.next H1 H4 := k4
 have g1_H4 := g1.kept k4
 have KH4 : Kept h.next h H4 := k1.trans (k4.less (Nat.le_trans (Nat.le_refl _) k1.next))
 generalize hr4 : vText p3 = r4 at hv4
 have hv4 : v4 = .agg [iV r4.1, iV r4.2.1, iV r4.2.2.1, sV r4.2.2.2.1, bV r4.2.2.2.2.1, iV r4.2.2.2.2.2] := hv4
 subst hv4
 have f_vRight_o7_0_3 := fact_cells g1_H4 (off := 0) (vs := [iV p0, iV p1, iV p2, sV p3, bV p4, iV p5]) rfl (by simp only [SV.sameL, same_int, same_bool, same_txt, Bool.and_self])
 refine ⟨_, rfl, (by simp only [factsStand, t_vRight_o7_2_3, t_vRight_o7_0_3, cond_true, cond_false, List.all_cons, List.all_nil, f_vRight_o7_0_3, Bool.or_true, Bool.and_true]), ?_⟩
 rw [show drop 3 [⟨descOf 2 vRight_o7.toList 0 0, [.cells h.next 3 [sV p3]], none⟩, ⟨descOf 0 vRight_o7.toList 0 0, [.cells h.next 0 [iV p0, iV p1, iV p2, sV p3, bV p4, iV p5]], none⟩] = [⟨descOf 0 vRight_o7.toList 0 0, [.cells h.next 0 [iV p0, iV p1, iV p2, sV p3, bV p4, iV p5]], none⟩] from by simp only [drop, t_vRight_o7_2_3, t_vRight_o7_0_3, cond_true, cond_false]]
 refine drawn_end (m' := 63) (held' := [⟨descOf 0 vRight_o7.toList 0 0, [.cells h.next 0 [iV p0, iV p1, iV p2, sV p3, bV p4, iV p5]], none⟩]) (hp' := H4) (by
  iterate 4 refine td ?_
  refine tqp (bV (decide (p0 = r4.1 ∧ p1 = r4.2.1 ∧ p2 = r4.2.2.1 ∧ p3 = r4.2.2.2.1 ∧ p4 = r4.2.2.2.2.1 ∧ p5 = r4.2.2.2.2.2))) (by exact congrArg one s29_eql) ?_
  refine tq (bV (decide (p0 = r4.1 ∧ p1 = r4.2.1 ∧ p2 = r4.2.2.1 ∧ p3 = r4.2.2.2.1 ∧ p4 = r4.2.2.2.2.1 ∧ p5 = r4.2.2.2.2.2))) ?_
  rfl) (by rfl) (by rfl) ?_
 refine then_n ?_
 refine runs_ret ?_
 refine blk_r ?_
 refine then_r ?_
 exact ⟨_, leave_t1 rfl rfl, fb (decide (p0 = r4.1 ∧ p1 = r4.2.1 ∧ p2 = r4.2.2.1 ∧ p3 = r4.2.2.2.1 ∧ p4 = r4.2.2.2.2.1 ∧ p5 = r4.2.2.2.2.2)) (by subst hr4; simp only [vRight, if_neg c1, if_neg c2, if_pos c4]), KH4⟩
 refine oqp (bV false) (by exact congrArg one (c3_eqlF c4)) ?_
 refine oq (bV false) ?_
 refine nt ?_
 refine runs_cond false rfl ?_
 refine sr ?_
 by_cases c5 : p0 = 3
 refine oqp (bV true) (by exact congrArg one (c3_eqlT c5)) ?_
 refine oq (bV true) ?_
 refine nt ?_
 refine runs_cond true rfl ?_
 refine runs_seq ?_
 refine runs_drawn (ops := vRight_o9) rfl ?_
 have t_vRight_o9_2_3 : Nat.testBit (descOf 2 vRight_o9.toList 0 0) 3 = true := rfl
 have t_vRight_o9_0_3 : Nat.testBit (descOf 0 vRight_o9.toList 0 0) 3 = false := rfl
 refine drawn_c (i := 3) (f := 113) (args := [bV p4]) (m' := 7) (held' := [⟨descOf 2 vRight_o9.toList 0 0, [.cells h.next 4 [bV p4]], none⟩, ⟨descOf 0 vRight_o9.toList 0 0, [.cells h.next 0 [iV p0, iV p1, iV p2, sV p3, bV p4, iV p5]], none⟩]) (hp := H1) (by
  refine take_f (v := .agg [iV p0, iV p1, iV p2, sV p3, bV p4, iV p5]) (fact := .cells h.next 0 [iV p0, iV p1, iV p2, sV p3, bV p4, iV p5]) rfl rfl rfl (by exact load_cut (P := Tryz.prog) (t := 29) (k := 0) (n := 6) (vs := [iV p0, iV p1, iV p2, sV p3, bV p4, iV p5]) rfl rfl g1.get rfl) rfl rfl ?_
  refine tq (.ptr h.next 4) ?_
  refine take_f (v := bV p4) (fact := .cells h.next 4 [bV p4]) rfl rfl rfl (by exact load_cell (P := Tryz.prog) (t := 4) (k := 4) (v := bV p4) rfl g1.get rfl) rfl rfl ?_
  refine take_loud rfl rfl rfl rfl rfl ?_
  refine tw ?_
  refine tw ?_
  rfl) (by rfl) (by rfl) (by rfl) (clone_body Tryz.func113 rfl) rfl rfl ?_
 refine (vTruth_runs Γ p4 H1 ).mono ?_
 rintro ⟨ex5, fr5, H5, v5⟩ ⟨hv5, k5⟩
 have k5 : Kept H1.next H1 H5 := k5
 have g1_H5 := g1.kept k5
 have KH5 : Kept h.next h H5 := k1.trans (k5.less (Nat.le_trans (Nat.le_refl _) k1.next))
 generalize hr5 : vTruth p4 = r5 at hv5
 have hv5 : v5 = .agg [iV r5.1, iV r5.2.1, iV r5.2.2.1, sV r5.2.2.2.1, bV r5.2.2.2.2.1, iV r5.2.2.2.2.2] := hv5
 subst hv5
 have f_vRight_o9_0_3 := fact_cells g1_H5 (off := 0) (vs := [iV p0, iV p1, iV p2, sV p3, bV p4, iV p5]) rfl (by simp only [SV.sameL, same_int, same_bool, same_txt, Bool.and_self])
 refine ⟨_, rfl, (by simp only [factsStand, t_vRight_o9_2_3, t_vRight_o9_0_3, cond_true, cond_false, List.all_cons, List.all_nil, f_vRight_o9_0_3, Bool.or_true, Bool.and_true]), ?_⟩
 rw [show drop 3 [⟨descOf 2 vRight_o9.toList 0 0, [.cells h.next 4 [bV p4]], none⟩, ⟨descOf 0 vRight_o9.toList 0 0, [.cells h.next 0 [iV p0, iV p1, iV p2, sV p3, bV p4, iV p5]], none⟩] = [⟨descOf 0 vRight_o9.toList 0 0, [.cells h.next 0 [iV p0, iV p1, iV p2, sV p3, bV p4, iV p5]], none⟩] from by simp only [drop, t_vRight_o9_2_3, t_vRight_o9_0_3, cond_true, cond_false]]
 refine drawn_end (m' := 63) (held' := [⟨descOf 0 vRight_o9.toList 0 0, [.cells h.next 0 [iV p0, iV p1, iV p2, sV p3, bV p4, iV p5]], none⟩]) (hp' := H5) (by
  iterate 4 refine td ?_
  refine tqp (bV (decide (p0 = r5.1 ∧ p1 = r5.2.1 ∧ p2 = r5.2.2.1 ∧ p3 = r5.2.2.2.1 ∧ p4 = r5.2.2.2.2.1 ∧ p5 = r5.2.2.2.2.2))) (by exact congrArg one s29_eql) ?_
  refine tq (bV (decide (p0 = r5.1 ∧ p1 = r5.2.1 ∧ p2 = r5.2.2.1 ∧ p3 = r5.2.2.2.1 ∧ p4 = r5.2.2.2.2.1 ∧ p5 = r5.2.2.2.2.2))) ?_
  rfl) (by rfl) (by rfl) ?_
 refine then_n ?_
 refine runs_ret ?_
 refine blk_r ?_
 refine then_r ?_
 exact ⟨_, leave_t1 rfl rfl, fb (decide (p0 = r5.1 ∧ p1 = r5.2.1 ∧ p2 = r5.2.2.1 ∧ p3 = r5.2.2.2.1 ∧ p4 = r5.2.2.2.2.1 ∧ p5 = r5.2.2.2.2.2)) (by subst hr5; simp only [vRight, if_neg c1, if_neg c2, if_neg c4, if_pos c5]), KH5⟩
 refine oqp (bV false) (by exact congrArg one (c3_eqlF c5)) ?_
 refine oq (bV false) ?_
 refine nt ?_
 refine runs_cond false rfl ?_
 refine sr ?_
 by_cases c6 : p0 = 4
 refine oqp (bV true) (by exact congrArg one (c3_eqlT c6)) ?_
 refine oq (bV true) ?_
 refine nt ?_
 refine runs_cond true rfl ?_
 refine runs_seq ?_
 refine runs_drawn (ops := vRight_o11) rfl ?_
 have t_vRight_o11_2_3 : Nat.testBit (descOf 2 vRight_o11.toList 0 0) 3 = true := rfl
 have t_vRight_o11_0_3 : Nat.testBit (descOf 0 vRight_o11.toList 0 0) 3 = false := rfl
 refine drawn_c (i := 3) (f := 114) (args := [iV p5]) (m' := 7) (held' := [⟨descOf 2 vRight_o11.toList 0 0, [.cells h.next 5 [iV p5]], none⟩, ⟨descOf 0 vRight_o11.toList 0 0, [.cells h.next 0 [iV p0, iV p1, iV p2, sV p3, bV p4, iV p5]], none⟩]) (hp := H1) (by
  refine take_f (v := .agg [iV p0, iV p1, iV p2, sV p3, bV p4, iV p5]) (fact := .cells h.next 0 [iV p0, iV p1, iV p2, sV p3, bV p4, iV p5]) rfl rfl rfl (by exact load_cut (P := Tryz.prog) (t := 29) (k := 0) (n := 6) (vs := [iV p0, iV p1, iV p2, sV p3, bV p4, iV p5]) rfl rfl g1.get rfl) rfl rfl ?_
  refine tq (.ptr h.next 5) ?_
  refine take_f (v := iV p5) (fact := .cells h.next 5 [iV p5]) rfl rfl rfl (by exact load_cell (P := Tryz.prog) (t := 3) (k := 5) (v := iV p5) rfl g1.get rfl) rfl rfl ?_
  refine take_loud rfl rfl rfl rfl rfl ?_
  refine tw ?_
  refine tw ?_
  rfl) (by rfl) (by rfl) (by rfl) (clone_body Tryz.func114 rfl) rfl rfl ?_
 refine (vBad_runs Γ p5 H1 ).mono ?_
 rintro ⟨ex6, fr6, H6, v6⟩ ⟨hv6, k6⟩
 have k6 : Kept H1.next H1 H6 := k6
 have g1_H6 := g1.kept k6
 have KH6 : Kept h.next h H6 := k1.trans (k6.less (Nat.le_trans (Nat.le_refl _) k1.next))
 generalize hr6 : vBad p5 = r6 at hv6
 have hv6 : v6 = .agg [iV r6.1, iV r6.2.1, iV r6.2.2.1, sV r6.2.2.2.1, bV r6.2.2.2.2.1, iV r6.2.2.2.2.2] := hv6
 subst hv6
 have f_vRight_o11_0_3 := fact_cells g1_H6 (off := 0) (vs := [iV p0, iV p1, iV p2, sV p3, bV p4, iV p5]) rfl (by simp only [SV.sameL, same_int, same_bool, same_txt, Bool.and_self])
 refine ⟨_, rfl, (by simp only [factsStand, t_vRight_o11_2_3, t_vRight_o11_0_3, cond_true, cond_false, List.all_cons, List.all_nil, f_vRight_o11_0_3, Bool.or_true, Bool.and_true]), ?_⟩
 rw [show drop 3 [⟨descOf 2 vRight_o11.toList 0 0, [.cells h.next 5 [iV p5]], none⟩, ⟨descOf 0 vRight_o11.toList 0 0, [.cells h.next 0 [iV p0, iV p1, iV p2, sV p3, bV p4, iV p5]], none⟩] = [⟨descOf 0 vRight_o11.toList 0 0, [.cells h.next 0 [iV p0, iV p1, iV p2, sV p3, bV p4, iV p5]], none⟩] from by simp only [drop, t_vRight_o11_2_3, t_vRight_o11_0_3, cond_true, cond_false]]
 refine drawn_end (m' := 63) (held' := [⟨descOf 0 vRight_o11.toList 0 0, [.cells h.next 0 [iV p0, iV p1, iV p2, sV p3, bV p4, iV p5]], none⟩]) (hp' := H6) (by
  iterate 4 refine td ?_
  refine tqp (bV (decide (p0 = r6.1 ∧ p1 = r6.2.1 ∧ p2 = r6.2.2.1 ∧ p3 = r6.2.2.2.1 ∧ p4 = r6.2.2.2.2.1 ∧ p5 = r6.2.2.2.2.2))) (by exact congrArg one s29_eql) ?_
  refine tq (bV (decide (p0 = r6.1 ∧ p1 = r6.2.1 ∧ p2 = r6.2.2.1 ∧ p3 = r6.2.2.2.1 ∧ p4 = r6.2.2.2.2.1 ∧ p5 = r6.2.2.2.2.2))) ?_
  rfl) (by rfl) (by rfl) ?_
 refine then_n ?_
 refine runs_ret ?_
 refine blk_r ?_
 refine then_r ?_
 exact ⟨_, leave_t1 rfl rfl, fb (decide (p0 = r6.1 ∧ p1 = r6.2.1 ∧ p2 = r6.2.2.1 ∧ p3 = r6.2.2.2.1 ∧ p4 = r6.2.2.2.2.1 ∧ p5 = r6.2.2.2.2.2)) (by subst hr6; simp only [vRight, if_neg c1, if_neg c2, if_neg c4, if_neg c5, if_pos c6]), KH6⟩
 refine oqp (bV false) (by exact congrArg one (c3_eqlF c6)) ?_
 refine oq (bV false) ?_
 refine nt ?_
 refine runs_cond false rfl ?_
 refine runs_skip ?_
 refine blk_n ?_
 refine then_n ?_
 refine sr ?_
 refine oq (bV false) ?_
 refine nt ?_
 refine runs_ret ?_
 exact ⟨_, leave_t1 rfl rfl, fb (false) (by simp only [vRight, if_neg c1, if_neg c2, if_neg c4, if_neg c5, if_neg c6]), k1⟩
def rightLit (p0 : Int) (p1 : Int) (p2 : Int) (p3 : List UInt8) (p4 : Bool) (p5 : Int) (b : Bool) : Bool :=
 if p0 ≠ 0 then
  if vRight p0 p1 p2 p3 p4 p5 = true then
   if b = true then
    true
   else
    decide (p1 ≥ 0)
  else
   false
 else
  false
set_option maxHeartbeats 8000000 in
set_option maxRecDepth 20000 in
theorem rightLit_runs (Γ : Glob) (p0 : Int) (p1 : Int) (p2 : Int) (p3 : List UInt8) (p4 : Bool) (p5 : Int) (b : Bool) (h : Hp)  : Runs Tryz.prog Γ (.call 174 [.agg [iV p0, iV p1, iV p2, sV p3, bV p4, iV p5], bV b] h) (Tells h (bV (rightLit p0 p1 p2 p3 p4 p5 b))) := by
 refine runs_call Tryz.func174 rfl ?_
 refine sr ?_
 refine ops_box (cs := [iV p0, iV p1, iV p2, sV p3, bV p4, iV p5]) rfl rfl rfl rfl rfl (fun H1 g1 k1 n1 => ?_)
 have lo1_0 : h.next ≤ h.next := (Nat.le_refl _)
 refine oq (bV false) ?_
 refine nt ?_
 refine sr ?_
 refine oq (.ptr h.next 0) ?_
 refine olc (iV p0) 0 g1 ?_
 by_cases c1 : p0 ≠ 0
 refine oqp (bV true) (by exact congrArg one (c3_neqT c1)) ?_
 refine oq (bV true) ?_
 refine ola [iV p0, iV p1, iV p2, sV p3, bV p4, iV p5] 0 g1 ?_
 refine ops_c (f := 54) (args := [.agg [iV p0, iV p1, iV p2, sV p3, bV p4, iV p5]]) rfl rfl rfl (clone_body Tryz.func54 rfl) rfl rfl ?_
 refine (vRight_runs Γ p0 p1 p2 p3 p4 p5 H1 ).mono ?_
 rintro ⟨ex2, fr2, H2, v2⟩ ⟨hv2, k2⟩
 have k2 : Kept H1.next H1 H2 := k2
 have g1_H2 := g1.kept k2
 have KH2 : Kept h.next h H2 := k1.trans (k2.less (Nat.le_trans (Nat.le_refl _) k1.next))
 by_cases c2 : vRight p0 p1 p2 p3 p4 p5 = true
 have hv2 : v2 = bV true := hv2.trans (congrArg (fun b => SV.lit (.bool b)) c2)
 subst hv2
 refine oq (bV true) ?_
 refine oq (bV true) ?_
 by_cases c3 : b = true
 refine oqp (bV true) (by exact congrArg (fun b => some (SV.lit (.bool b), ([] : List Fact))) c3) ?_
 refine oq (bV true) ?_
 iterate 4 refine ou ?_
 refine oq (bV true) ?_
 refine oq (bV true) ?_
 refine oq (bV true) ?_
 refine nt ?_
 refine runs_ret ?_
 exact ⟨_, leave_t1 rfl rfl, fb (true) (by simp only [rightLit, if_pos c1, if_pos c2, if_pos c3]), KH2⟩
 refine oqp (bV false) (by exact congrArg (fun b => some (SV.lit (.bool b), ([] : List Fact))) (Bool.eq_false_iff.2 c3)) ?_
 refine oq (bV false) ?_
 refine oq (.ptr h.next 1) ?_
 refine oq (.ptr h.next 1) ?_
 refine olc (iV p1) 1 g1_H2 ?_
 refine oqp (bV (decide (p1 ≥ 0))) (by exact congrArg one c3_geq) ?_
 refine oq (bV (decide (p1 ≥ 0))) ?_
 refine oq (bV (decide (p1 ≥ 0))) ?_
 refine oq (bV (decide (p1 ≥ 0))) ?_
 refine nt ?_
 refine runs_ret ?_
 exact ⟨_, leave_t1 rfl rfl, fb (decide (p1 ≥ 0)) (by simp only [rightLit, if_pos c1, if_pos c2, if_neg c3]), KH2⟩
 have hv2 : v2 = bV false := hv2.trans (congrArg (fun b => SV.lit (.bool b)) (Bool.eq_false_iff.2 c2))
 subst hv2
 refine oq (bV false) ?_
 refine oq (bV false) ?_
 iterate 7 refine ou ?_
 refine oq (bV false) ?_
 refine oq (bV false) ?_
 refine nt ?_
 refine runs_ret ?_
 exact ⟨_, leave_t1 rfl rfl, fb (false) (by simp only [rightLit, if_pos c1, if_neg c2]), KH2⟩
 refine oqp (bV false) (by exact congrArg one (c3_neqF c1)) ?_
 refine oq (bV false) ?_
 refine ou ?_
 refine ou ?_
 refine oq (bV false) ?_
 refine oq (bV false) ?_
 iterate 7 refine ou ?_
 refine oq (bV false) ?_
 refine oq (bV false) ?_
 refine nt ?_
 refine runs_ret ?_
 exact ⟨_, leave_t1 rfl rfl, fb (false) (by simp only [rightLit, if_neg c1]), k1⟩
end Go.Proofs.YtcnfmcbmephdfaaGreatDoor.d
