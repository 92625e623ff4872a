/-
  WHAT THE ORACLE SAYS IS SO. No condition.
-/
import Derived.Test.YtogagnopkkiniaaGreatDoorGoGS
import Derived.Test.YtogagnopkkiniaaGreatDoorGoGX
namespace Go.Proofs.YtogagnopkkiniaaGreatDoor.gone
open Go Go.RowKit Go.Proofs.YtogagnopkkiniaaGreatDoor.Ev

theorem theMemOk (Γ : Env) : OracleOk Tryz.prog Γ theMem := by
  intro f args hp outs h
  unfold theMem at h
  cases hb : Nat.beq f 4 with
  | true =>
    obtain rfl : f = 4 := eq_of_beq hb
    rw [hb, cond_true] at h
    split at h
    · obtain rfl := Option.some.inj h
      exact ⟨⟨_, _, Tryz.func4, rfl⟩, fun X w0 θ K w hr _ => told_post (vs := [.bool true]) hr ((awake w).mono fun e w' ⟨h1, h2⟩ => ⟨⟨_, List.mem_singleton_self _, h1⟩, h2⟩)⟩
    · cases h
  | false =>
    rw [hb, cond_false] at h
    cases hb2 : Nat.beq f 17 with
    | true =>
      obtain rfl : f = 17 := eq_of_beq hb2
      rw [hb2, cond_true] at h
      exact ⟨⟨_, _, Tryz.func17, rfl⟩, fun X w0 θ K w hr _ => sortOk h hr⟩
    | false =>
      rw [hb2, cond_false] at h
      cases h
end Go.Proofs.YtogagnopkkiniaaGreatDoor.gone
