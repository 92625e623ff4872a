/-
  THE EVALUATOR WITH CALLS WHOSE WORD IS KNOWN, by the author of this claim: an oracle tells what a call comes to; each of its words is shown by hand. Of any program in which no function is runtime.NumGoroutine, and that draws the order in which a region's operations come.
-/
import Derived.Test.YthjkejnmjbljfaaGreatDoorEvRuns
namespace Go.Proofs.YthjkejnmjbljfaaGreatDoor.Ev
open Go Go.RowKit

abbrev Oracle := FuncId → List SV → Hp → R

def stepO (P : Program) (Γ : Glob) (mem : Oracle) (self : Task → R) : Task → R
  | .call f args hp => match mem f args hp with
    | some outs => some outs
    | none => stepTask P Γ self (.call f args hp)
  | t => stepTask P Γ self t
def runO (P : Program) (Γ : Glob) (mem : Oracle) (n : Nat) : Task → R := Nat.rec (fun _ => none) (fun _ ih => stepO P Γ mem ih) n

section
variable {P : Program} {Γ : Env}

/-- What an oracle says is so. -/
def OracleOk (P : Program) (Γ : Env) (mem : Oracle) : Prop := ∀ f args hp outs, mem f args hp = some outs → (∃ fn c, P.funcs[f]? = some fn ∧ fn.body = some c) ∧
    ∀ X w0 θ K w, Rep Γ X w0 θ K hp w → SV.okL K args → CallsIn Fence.wide 0 P f (concL θ args).toArray w (CPost Γ X w0 θ K hp.next outs)

theorem stepO_sound (hN : NoCount P) (hmix : P.follows .mixedOrders = true) {mem : Oracle} (hmem : OracleOk P Γ mem) {self : Task → R} {m : Nat} (hS : Sound P Γ self) (hL : Loops P Γ m self) :
    Sound P Γ (stepO P Γ mem self) ∧ Loops P Γ (m + 1) (stepO P Γ mem self) := by
  obtain ⟨h1, h2⟩ := step_sound hN hmix hS hL
  refine ⟨⟨h1.code, fun f args hp outs hq => ?_, h1.round⟩, h2⟩
  simp only [stepO] at hq
  split at hq
  · rename_i os hos
    simp only [Option.some.injEq] at hq
    subst hq
    exact hmem f args hp _ hos
  · exact h1.call f args hp outs hq

theorem runO_sound (hN : NoCount P) (hmix : P.follows .mixedOrders = true) {mem : Oracle} (hmem : OracleOk P Γ mem) : ∀ n, Sound P Γ (runO P Γ mem n) ∧ Loops P Γ n (runO P Γ mem n)
  | 0 => ⟨⟨fun _ _ _ _ _ h => (by cases h), fun _ _ _ _ h => (by cases h), fun _ _ _ _ h => (by cases h)⟩, fun _ _ _ _ _ h => (by cases h)⟩
  | n + 1 => stepO_sound hN hmix hmem (runO_sound hN hmix hmem n).1 (runO_sound hN hmix hmem n).2

/-- What a call leaves as it was stands for what it stood for. -/
theorem Rep.behind {X : Nat → Prop} {w0 : World} {θ : Ren} {K : Nat → Prop} {hp : Hp} {w w' : World} (hr : Rep Γ X w0 θ K hp w) (hb : Below w.heap.size w w') : Rep Γ X w0 θ K hp w' := by
  obtain ⟨b1, b2, b3, b4, b5⟩ := hb
  refine ⟨b1.trans hr.os, b2.trans hr.tape, b3.trans hr.output, Nat.le_trans hr.size b4, fun k hk => (b5 k ?_).trans (hr.kept k hk), hr.low, hr.glob, fun b o hb => ?_, hr.inj, hr.next, hr.inv⟩
  · exact Nat.lt_of_lt_of_le (hr.low k hk) hr.size
  · obtain ⟨k1, k2, k3, ob, k4, k5⟩ := hr.obj b o hb
    exact ⟨k1, k2, k3, ob, (b5 _ (Array.getElem?_eq_some_iff.1 k4).1).trans k4, k5⟩

/-- A word: one of these values comes back, and all is as it was. -/
def told (hp : Hp) (vs : List Value) : List Out := vs.map fun v => ⟨.ret, ⟨.leaf, 0, []⟩, hp, .lit v⟩
theorem told_post {X : Nat → Prop} {w0 : World} {θ : Ren} {K : Nat → Prop} {hp : Hp} {w : World} (hr : Rep Γ X w0 θ K hp w) {f : FuncId} {args : Array Value} {vs : List Value}
    (h : Calls P f args w fun e w' => (∃ v ∈ vs, e = .returned v) ∧ Below w.heap.size w w') : CallsIn Fence.wide 0 P f args w (CPost Γ X w0 θ K hp.next (told hp vs)) := by
  refine callsIn_wide.2 (h.mono ?_)
  rintro e w' ⟨⟨v, hv, rfl⟩, hb⟩
  exact ⟨_, List.mem_map.2 ⟨v, hv, rfl⟩, θ, K, Grow.refl _ _ _, rfl, trivial, hr.behind hb⟩

/-- **A call that the evaluator runs to 'true' on all ways, with an oracle**, returns true, and leaves what there was. -/
theorem calls_trueO (hN : NoCount P) (hmix : P.follows .mixedOrders = true) {mem : Oracle} (hmem : OracleOk P Γ mem) (n m : Nat) (f : FuncId) (args : List SV) (θ : Ren) (w : World) (hq : allTrue (runO P Γ mem n (.call f args ⟨.leaf, m⟩)) = true)
    (hΓ : globMet Γ w) (hi : Γ.inv (· < w.heap.size) w θ (· < m)) (hok : SV.okL (· < m) args) : Calls P f (concL θ args).toArray w fun e w' => e = .returned (.bool true) ∧ Below w.heap.size w w' := by
  obtain ⟨outs, ho, ht⟩ := allTrue_spec hq
  refine (callsIn_wide.1 (((runO_sound hN hmix hmem n).1.call f args ⟨.leaf, m⟩ outs ho).2 _ w θ _ w (rep_start θ m hΓ hi) hok)).mono ?_
  rintro e w' ⟨o, hm, θ', K', _, rfl, _, hrep⟩
  rw [ht o hm]
  exact ⟨rfl, hrep.below⟩

/-- **The bridge, for any values**: what a call comes to on all ways, if it is told in literals, and what there was stays. -/
theorem calls_of_runsV {Γ : Glob} (hN : NoCount P) (hmix : P.follows .mixedOrders = true) {m : Nat} {f : FuncId} {args : List SV} (θ : Ren) {w : World} {vs : List Value} (h : Runs P Γ (.call f args ⟨.leaf, m⟩) fun o => ∃ v ∈ vs, o.v = .lit v) (hΓ : globMet Γ w) (hok : SV.okL (· < m) args) :
    Calls P f (concL θ args).toArray w fun e w' => (∃ v ∈ vs, e = .returned v) ∧ Below w.heap.size w w' := by
  obtain ⟨n, outs, h1, h2⟩ := h
  refine (calls_of_run (Γ := .plain Γ) hN hmix (h1 n (Nat.le_refl _)) (rep_start θ m hΓ trivial) hok).mono ?_
  rintro e w' ⟨o, hm, θ', K', _, rfl, _, hrep⟩
  obtain ⟨v, hv, e⟩ := h2 o hm
  rw [e]
  exact ⟨⟨v, hv, rfl⟩, hrep.below⟩
end
end Go.Proofs.YthjkejnmjbljfaaGreatDoor.Ev
