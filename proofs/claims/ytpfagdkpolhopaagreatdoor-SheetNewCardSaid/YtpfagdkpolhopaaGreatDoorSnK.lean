/-
  THE DOCUMENT's EXAMPLE OF 'counterpanelaw19', run by the author's own evaluator (texts EvA to EvZ, EvOracle, proved sound), the search of a byte in a text by the kit's law.
-/
import Derived.Test.YtpfagdkpolhopaaGreatDoorSnJ
namespace Go.Proofs.YtpfagdkpolhopaaGreatDoor.sheetNew
open Go Go.RowKit Go.WideShapes Go.ChangeShapes Go.Proofs.YtpfagdkpolhopaaGreatDoor.Ev

theorem callIdx (s : ByteArray) (c : Int) (w : World) : (callFunc 264 #[.string s, .int .u8 c]).run Tryz.prog w = .ok (.value (.int .i64 (firstIdx s c.toNat.toUInt8))) w := by
  rw [run_callFunc_extern Tryz.func264 (by kernel_rfl) (by kernel_rfl) (by kernel_rfl) (e := Extern.BytealgIndexByte.indexByte) (by kernel_rfl), run_indexByte_string]
  rfl
theorem idx_calls (s : ByteArray) (c : Int) (w : World) : Calls Tryz.prog 242 #[.string s, .int .u8 c] w fun e w' => e = .returned (.int .i64 (firstIdx s c.toNat.toUInt8)) ∧ Below w.heap.size w w' := by
  have hx := callIdx s c w
  go_enter Tryz.func242, Tryz.ntmps242
  go_wp2
  all_goals go_ret
  all_goals exact ⟨rfl, Below.refl _ _⟩

/-- The words on a search, and on two insertions. -/
def awMem : Oracle := fun f args hp =>
  bif Nat.beq f 242 then (match args with
    | [.lit (.string s), .lit (.int .u8 c)] => some (told hp [.int .i64 (firstIdx s c.toNat.toUInt8)])
    | _ => none)
  else bif Nat.beq f 46 then insW 43 2 args hp
  else bif Nat.beq f 47 then insW 4 1 args hp
  else bif Nat.beq f 205 then ccW args hp
  else bif Nat.beq f 164 then strW args hp else none
theorem awMemOk (Γ : Env) : OracleOk Tryz.prog Γ awMem := by
  intro f args hp outs h
  unfold awMem at h
  cases hb : Nat.beq f 242 with
  | true =>
    obtain rfl : f = 242 := eq_of_beq hb
    rw [hb, cond_true] at h
    split at h
    · rename_i s c
      obtain rfl := Option.some.inj h
      exact ⟨⟨_, _, Tryz.func242, rfl⟩, fun X w0 θ K w hr _ => told_post hr ((idx_calls s c w).mono fun e w' ⟨h1, h2⟩ => ⟨⟨_, List.mem_singleton_self _, h1⟩, h2⟩)⟩
    · cases h
  | false =>
    rw [hb, cond_false] at h
    cases hb2 : Nat.beq f 46 with
    | true =>
      obtain rfl : f = 46 := eq_of_beq hb2
      rw [hb2, cond_true] at h
      exact ⟨⟨_, _, Tryz.func46, rfl⟩, fun X w0 θ K w hr _ => insIdOk h hr⟩
    | false =>
      rw [hb2, cond_false] at h
      cases hb3 : Nat.beq f 47 with
      | true =>
        obtain rfl : f = 47 := eq_of_beq hb3
        rw [hb3, cond_true] at h
        exact ⟨⟨_, _, Tryz.func47, rfl⟩, fun X w0 θ K w hr _ => insBoolOk h hr⟩
      | false =>
        rw [hb3, cond_false] at h
        cases hb4 : Nat.beq f 205 with
        | true =>
          obtain rfl : f = 205 := eq_of_beq hb4
          rw [hb4, cond_true] at h
          exact ⟨⟨_, _, Tryz.func205, rfl⟩, fun X w0 θ K w hr _ => ccOk h hr⟩
        | false =>
          rw [hb4, cond_false] at h
          cases hb5 : Nat.beq f 164 with
          | true =>
            obtain rfl : f = 164 := eq_of_beq hb5
            rw [hb5, cond_true] at h
            exact ⟨⟨_, _, Tryz.func164, rfl⟩, fun X w0 θ K w hr _ => strOk h hr⟩
          | false =>
            rw [hb5, cond_false] at h
            cases h

set_option maxRecDepth 100000 in
theorem awakeRuns : allTrue (runO Tryz.prog .leaf awMem 2000 (.call 4 [] ⟨.leaf, 100⟩)) = true := by kernel_rfl
/-- The document's example holds. -/
theorem awake (w : World) : Calls Tryz.prog 4 #[] w fun e w' => e = .returned (.bool true) ∧ Below w.heap.size w w' :=
  calls_trueO (Γ := .plain .leaf) noCount mixed (awMemOk _) 2000 100 4 [] ⟨fun _ => 0, fun _ => 0, fun _ => 0, fun _ => .bool false⟩ w awakeRuns (globMet_leaf w) trivial trivial
/-- The seat's oracle says what is so. -/
theorem theMemOk (Γ : Env) : OracleOk Tryz.prog Γ theMem := by
  intro f args hp outs h
  unfold theMem at h
  cases hb : Nat.beq f 4 with
  | false => rw [hb, cond_false] at h; cases h
  | true =>
    obtain rfl : f = 4 := eq_of_beq hb
    rw [hb, cond_true] at h
    split at h
    · obtain rfl := Option.some.inj h
      exact ⟨⟨_, _, Tryz.func4, rfl⟩, fun X w0 θ K w hr _ => told_post (vs := [.bool true]) hr ((awake w).mono fun e w' ⟨h1, h2⟩ => ⟨⟨_, List.mem_singleton_self _, h1⟩, h2⟩)⟩
    · cases h
end Go.Proofs.YtpfagdkpolhopaaGreatDoor.sheetNew
