/-
  A CALL BY THE EVALUATOR IN ANY WORLD, by the author of this claim: what a run that ends in 'true' on all ways says of the call; and a row's last step. Of any program in which no function is runtime.NumGoroutine, and that draws the order in which a region's operations come.
-/
import Derived.Test.YthjkejnmjbljfaaGreatDoorEvZ
import Derived.Below
import Derived.ChangeSame
namespace Go.Proofs.YthjkejnmjbljfaaGreatDoor.Ev
open Go Go.RowKit Go.WideShapes Go.ChangeShapes

/-- Do all ways end in the value true? -/
def allTrue (r : R) : Bool := match r with
  | some l => l.all fun o => match o.v with
    | .lit (.bool b) => b
    | _ => false
  | none => false

theorem allTrue_spec {r : R} (h : allTrue r = true) : ∃ outs, r = some outs ∧ ∀ o ∈ outs, o.v = .lit (.bool true) := by
  cases r with
  | none => cases h
  | some l =>
    refine ⟨l, rfl, fun o ho => ?_⟩
    have := List.all_eq_true.1 h o ho
    revert this
    generalize o.v = v
    intro h
    split at h
    · rw [h]
    · cases h

theorem noCount_of {P : Program} (h : P.funcs.all (fun fn => !(fn.name == "runtime.NumGoroutine")) = true) : NoCount P := fun f fn hf => by
  have := Array.all_eq_true.1 h f (Array.getElem?_eq_some_iff.1 hf).1
  rw [(Array.getElem?_eq_some_iff.1 hf).2] at this
  simpa using this

/-- What the blocks ahead are known to hold. -/
def globMet (Γ : Glob) (w : World) : Prop := ∀ g cs, Γ.get g = some cs → ∃ e fr, w.heap[g]? = some (.cells cs.toArray e fr)
theorem globMet_leaf (w : World) : globMet T.leaf w := fun g cs h => by cases h

theorem rep_start {Γ : Env} (θ : Ren) {w : World} (n : Nat) (hΓ : globMet Γ w) (hi : Γ.inv (· < w.heap.size) w θ (· < n)) : Rep Γ (· < w.heap.size) w θ (· < n) ⟨.leaf, n⟩ w :=
  ⟨rfl, rfl, rfl, Nat.le_refl _, fun _ _ => rfl, fun _ h => h, fun g cs hg => by
    obtain ⟨e, fr, h⟩ := hΓ g cs hg
    exact ⟨(Array.getElem?_eq_some_iff.1 h).1, e, fr, h⟩, fun b o h => (by cases h), fun b b' o o' h => (by cases h), fun i hi => Nat.not_lt.2 hi, hi⟩

theorem Rep.below {Γ : Env} {θ : Ren} {K : Nat → Prop} {h : Hp} {w0 w : World} (hr : Rep Γ (· < w0.heap.size) w0 θ K h w) : Below w0.heap.size w0 w :=
  ⟨hr.os, hr.tape, hr.output, hr.size, fun k hk => hr.kept k hk⟩

/-- **A call that the evaluator runs to 'true' on all ways returns true**, and leaves what there was. -/
theorem calls_true {P : Program} {Γ : Glob} (hN : NoCount P) (hmix : P.follows .mixedOrders = true) (n m : Nat) (f : FuncId) (args : List SV) (θ : Ren) (w : World) (hq : allTrue (run P Γ n (.call f args ⟨.leaf, m⟩)) = true)
    (hΓ : globMet Γ w) (hok : SV.okL (· < m) args) : Calls P f (concL θ args).toArray w fun e w' => e = .returned (.bool true) ∧ Below w.heap.size w w' := by
  obtain ⟨outs, ho, ht⟩ := allTrue_spec hq
  refine (calls_of_run (Γ := .plain Γ) hN hmix ho (rep_start θ m hΓ trivial) hok).mono ?_
  rintro e w' ⟨o, hm, θ', K', _, rfl, _, hrep⟩
  rw [ht o hm]
  exact ⟨rfl, hrep.below⟩

section
variable {H : Type} {enc : TypeId × Value → H} {P : Program}
/-- A row's last step, where the call may have frozen something new. -/
theorem post_of_below {f : Func} {s : ChangeSpec} {apart fresh handsOn again : Bool} {W W' : World} {args : Array Value} {v : Value} {ds gs : List (DataW H)} {before pa pv : List MemPlace}
    (hW : DataW.Whole enc P f.params.toList s.vars apart W args.toList ds gs before)
    (hres : ∀ (b : Nat) (sp : Nat → Bool) (hd : Bool), DataW.TrodAll enc P W' b sp hd f.resultTypes.toList (v.resultList f.resultTypes.size) (s.fn H (ds ++ gs)).results [])
    (hargs : ∀ sp : Nat → Bool, (∀ p ∈ before, sp p.block = true) → DataW.TrodAll enc P W' 0 sp true f.params.toList args.toList (s.fn H (ds ++ gs)).args pa)
    (hvars : ∀ sp : Nat → Bool, (∀ p ∈ before, sp p.block = true) → DataW.TrodVars enc P W' sp s.vars (s.fn H (ds ++ gs)).vars pv)
    (hps : before = pa ++ pv) (hb : Below W.heap.size W W')
    (hok : ∀ (j : Nat) (t : TypeId) (r : Value), f.resultTypes[j]? = some t → (v.resultList f.resultTypes.size)[j]? = some r → Value.okWide P W' .any 0 t r) :
    s.post enc P f apart fresh handsOn again W args v W' := by
  have hlt : ∀ p ∈ before, p.block < W.heap.size := fun p hp => hW.lt p hp
  have hold : ∀ p ∈ before, (fun b => decide (b < W.heap.size)) p.block = true := fun p hp => by simpa using hlt p hp
  refine ⟨ds, gs, before, [], pa, pv, hW, hres _ _ _, hargs _ hold, hvars _ hold, World.keptBut_mono (fun p hp => ⟨hp, ?_⟩) (hb.frame (· ∈ before)), fun _ => ?_⟩
  · rw [hps, List.mem_append] at hp
    exact Or.inr hp
  · obtain ⟨_, _, _, _, _, hz, hn⟩ := hW
    refine ⟨hok, _, _, ([] ++ pa) ++ pv, ⟨[] ++ pa, pv, trodAll_append (hargs _ (fun _ _ => rfl)) (hres _ _ _), hvars _ (fun _ _ => rfl), rfl, ?_, ?_⟩, ?_⟩
    · intro b off hp
      have hin : MemPlace.cell b off ∈ before := by rw [hps]; simpa using hp
      rw [hb.frozen (hlt _ hin)]
      exact hz b off hin
    · intro ha
      have := hn ha
      rw [hps] at this
      simpa using this
    · intro p hp _
      rw [hps]
      simpa using hp
end
end Go.Proofs.YthjkejnmjbljfaaGreatDoor.Ev
