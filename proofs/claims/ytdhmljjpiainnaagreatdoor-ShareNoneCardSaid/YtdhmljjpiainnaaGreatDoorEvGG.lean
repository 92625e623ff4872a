/-
  NO GO STATEMENT STANDS IN A WHOLE TRANSLATION: then no call starts a goroutine, by one look at all bodies; by the author of this claim. Of any program.
-/
import Derived.SevenTiedAt
namespace Go.Proofs.YtdhmljjpiainnaaGreatDoor.Ev
open Go
theorem goes_false {P : Program} (h : P.funcs.any Func.goes = false) (f : FuncId) : P.goes f = false := by
  have one : ∀ g : Nat, (P.funcs[g]?).any Func.goes = false := fun g => by
    cases hg : P.funcs[g]? with
    | none => rfl
    | some fn =>
      have := Array.any_eq_false.1 h g (Array.getElem?_eq_some_iff.1 hg).1
      rw [(Array.getElem?_eq_some_iff.1 hg).2] at this
      simpa using this
  have h1 : ((P.closure f).any fun g => (P.funcs[g]?).any Func.goes) = false := by
    rw [show (fun g => (P.funcs[g]?).any Func.goes) = fun _ => false from funext one]
    simp
  unfold Program.goes
  rw [h1, h, Bool.and_false]
  rfl
theorem goesBy_false {P : Program} {c : OpenClaim} (h : P.funcs.any Func.goes = false) (hs : c.start = .entering) : false = c.goesBy P := by
  unfold OpenClaim.goesBy Program.goesAt Program.goesFrom
  rw [hs]
  cases P.funcNamed c.func with
  | none => rfl
  | some f => simp [goes_false h f]
end Go.Proofs.YtdhmljjpiainnaaGreatDoor.Ev
