/-
  THE EVALUATOR's STEP IS SOUND (2): ranges over functions, calls, rounds; the evaluator, by the author of this claim. Of any program in which no function is runtime.NumGoroutine.
-/
import Derived.Test.YthjkejnmjbljfaaGreatDoorEvW
namespace Go.Proofs.YthjkejnmjbljfaaGreatDoor.Ev
open Go Go.RowKit

section
variable {P : Program} {Γ : Env} {X : Nat → Prop} {w0 : World} {self : Task → R} {θ : Ren} {K : Nat → Prop} {h : Hp} {w : World}

/-- The record of a loop. -/
theorem Rep.loop {b : Nat} {l : ALoop} (hr : Rep Γ X w0 θ K h w) (hb : h.objs.get b = some (.loop l)) : ∃ r : Loop, w.heap[θ.blk b]? = some (.loop r) ∧ r.state = l.state ∧ r.pending = l.pending ∧ r.params = l.params ∧ r.assign = l.assign ∧ r.body = l.body ∧ r.defers = θ.blk l.defers ∧
    tmpsRep θ l.tmps l.sz r.tmps ∧ (∀ i v, l.tmps.get i = some v → v.ok K) ∧ K l.defers ∧ K b ∧
    ∀ st pe, Rep Γ X w0 θ K (h.upd b (.loop { l with state := st, pending := pe })) (w.putObj (θ.blk b) (.loop { r with state := st, pending := pe })) := by
  obtain ⟨k1, _, k3, ob, k4, fn, xs, ht, rfl⟩ := hr.obj b _ hb
  exact ⟨_, k4, rfl, rfl, rfl, rfl, rfl, rfl, ht, k3.1, k3.2, k1, fun st pe => hr.turn hb (o' := .loop { l with state := st, pending := pe }) k3 ⟨fn, xs, ht, rfl⟩⟩

theorem callFunc_run (hN : NoCount P) {f : FuncId} (hf : ∃ fn c, P.funcs[f]? = some fn ∧ fn.body = some c) (vs : Array Value) : (callFunc f vs).run P w = .ok (.enter f vs) w := by
  obtain ⟨fn, c, hfn, hbody⟩ := hf
  simp only [callFunc, Sem.run_bind, run_program, Result.andThen, hfn, hN f fn hfn, Bool.false_eq_true, if_false, hbody, Option.isNone_some, Sem.run_pure]

theorem seqCallee_ok {v : SV} {b f : Nat} {args : List SV} (h : seqCallee v b = some (f, args)) (hv : v.ok K) {K' : Nat → Prop} (hk : ∀ i, K i → K' i) (hb : K' b) : SV.okL K' args := by
  unfold seqCallee at h
  split at h
  · simp only [Option.some.injEq, Prod.mk.injEq] at h
    obtain ⟨_, rfl⟩ := h
    exact okL_append (okL_append (okL_lits _ _) ⟨hb, trivial⟩) (okL_lits _ _)
  · simp only [Option.some.injEq, Prod.mk.injEq] at h
    obtain ⟨_, rfl⟩ := h
    exact okL_append (okL_append (okL_mono hk _ hv.1) ⟨hb, trivial⟩) (okL_mono hk _ hv.2)
  · cases h

/-- The one call of a range over a function. -/
theorem seqCallee_run (hN : NoCount P) {v : SV} {b f : Nat} {args : List SV} (h : seqCallee v b = some (f, args)) (hf : ∃ fn c, P.funcs[f]? = some fn ∧ fn.body = some c) {a : Act} {g : Operand} (hv : a.eval g = conc θ v) :
    ∃ d : Deferred, (resolve a.eval (rangeCall g (θ.blk b)) 0).run P w = .ok d w ∧ (invoke d.target d.args).run P w = .ok (.enter f (concL θ args).toArray) w := by
  unfold seqCallee at h
  split at h
  · rename_i f' x y
    simp only [Option.some.injEq, Prod.mk.injEq] at h
    obtain ⟨rfl, rfl⟩ := h
    have he : (x ++ #[Value.func (.yield (θ.blk b)) #[] #[]]) ++ y = (concL θ (x.toList.map .lit ++ [.yield b] ++ y.toList.map .lit)).toArray := by
      rw [← Array.toList_inj]
      simp only [Array.toList_append, concL_append, concL_lits, concL, conc]
    refine ⟨_, by simp only [resolve, hv, conc, Deferred.ofValue, Sem.run_pure, List.map_toArray, List.map_cons, List.map_nil]; rfl, ?_⟩
    simp only [invoke, ← he]
    exact callFunc_run hN hf _
  · rename_i f' x y
    simp only [Option.some.injEq, Prod.mk.injEq] at h
    obtain ⟨rfl, rfl⟩ := h
    have he : ((concL θ x).toArray ++ #[Value.func (.yield (θ.blk b)) #[] #[]]) ++ (concL θ y).toArray = (concL θ (x ++ [.yield b] ++ y)).toArray := by
      rw [← Array.toList_inj]
      simp only [Array.toList_append, concL_append, concL, conc]
    refine ⟨_, by simp only [resolve, hv, conc, Deferred.ofValue, Sem.run_pure, List.map_toArray, List.map_cons, List.map_nil]; rfl, ?_⟩
    simp only [invoke, ← he]
    exact callFunc_run hN hf _
  · cases h
end
end Go.Proofs.YthjkejnmjbljfaaGreatDoor.Ev
