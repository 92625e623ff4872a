/-
  A RANGE OVER A FUNCTION, IN THE CALCULUS OF RUNS, by the author of this claim: outside of other rounds. Of any program.
-/
import Derived.Test.YtogagnopkkiniaaGreatDoorEvGH
namespace Go.Proofs.YtogagnopkkiniaaGreatDoor.Ev
open Go Go.RowKit

section
variable {P : Program} {Γ : Glob}
/-- A range over a function that calls no round, or whose rounds have ended. -/
theorem runs_range {g : Operand} {ps : Array Tmp} {assign body : Code} {fr : Fr} {hp : Hp} {f : FuncId} {args : List SV} {Φ : Out → Prop} (hc : seqCallee (fr.ev g) (hp.next + 1) = some (f, args))
    (h : Runs P Γ (.call f args ⟨(hp.objs.set hp.next (.deferred true)).set (hp.next + 1) (.loop ⟨.ready, none, 0, fr.tmps, fr.sz, ps, assign, body, hp.next⟩), hp.next + 2⟩) fun r => ∃ x, loopEnd (hp.next + 1) { fr with marks := hp.next :: fr.marks } r = some [x] ∧ Φ x) :
    Runs P Γ (.code (.rangeFunc g ps assign body) none fr hp) Φ := by
  refine Runs.step (Ends.bind (g := fun _ r => loopEnd (hp.next + 1) { fr with marks := hp.next :: fr.marks } r) h (fun r hr => ?_) fun n l hl => ?_)
  · obtain ⟨x, h1, h2⟩ := hr
    exact Ends.one (fun _ => h1) h2
  · simp only [stepO, stepTask, loopStart, Hp.new]
    have hl : runO P Γ theMem n (.call f args ⟨(hp.objs.set hp.next (.deferred true)).set (hp.next + 1) (.loop ⟨.ready, none, 0, fr.tmps, fr.sz, ps, assign, body, hp.next⟩), hp.next + 2⟩) = some l := hl
    simp only [hc, hl]
end
end Go.Proofs.YtogagnopkkiniaaGreatDoor.Ev
