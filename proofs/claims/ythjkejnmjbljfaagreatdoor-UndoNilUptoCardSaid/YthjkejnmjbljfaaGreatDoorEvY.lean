/-
  THE EVALUATOR's STEP IS SOUND (3): ranges over functions, calls, rounds; the evaluator, by the author of this claim. Of any program in which no function is runtime.NumGoroutine.
-/
import Derived.Test.YthjkejnmjbljfaaGreatDoorEvX
namespace Go.Proofs.YthjkejnmjbljfaaGreatDoor.Ev
open Go Go.RowKit

section
variable {P : Program} {Γ : Env} {X : Nat → Prop} {w0 : World} {self : Task → R} {θ : Ren} {K : Nat → Prop} {h : Hp} {w : World}

theorem loopEnd_sound {b : Nat} {fr : Fr} {x : Out} {outs : List Out} (hq : loopEnd b fr x = some outs) {r : Option Nat} {n : Nat} {θ' : Ren} {K' : Nat → Prop} {w' : World} {a : Act} (hG : Grow K θ n K' θ' x.hp.next) (hr : Rep Γ X w0 θ' K' x.hp w') (hf : FRep θ' K' fr a)
    {outs' : List Out} (hm : ∀ y ∈ outs, y ∈ outs') : ∃ jump w₄, (Instr.endLoop (θ'.blk b)).run P w' = .ok jump w₄ ∧
      (match jump with
       | none => Post Γ X w0 θ K n outs' .normal a w₄
       | some c => c.wpIn (G r) 0 P (Post Γ X w0 θ K n outs') a w₄) := by
  unfold loopEnd at hq
  split at hq
  · rename_i l hl
    obtain ⟨rc, hw, hst, hpe, _, _, _, _, _, _, _, _, hrep⟩ := hr.loop hl
    have go : l.state ≠ .busy → (∃ e, outs = [⟨e, fr, x.hp.upd b (.loop { l with state := .exhausted }), .lit undef⟩] ∧ (match l.pending with
        | none => e = .normal
        | some .ret => e = .ret
        | some (.exit id) => e = .exit id
        | _ => False)) → ∃ jump w₄, (Instr.endLoop (θ'.blk b)).run P w' = .ok jump w₄ ∧
      (match jump with
       | none => Post Γ X w0 θ K n outs' .normal a w₄
       | some c => c.wpIn (G r) 0 P (Post Γ X w0 θ K n outs') a w₄) := fun hb ⟨e, ho, he⟩ => by
      have hend := run_endLoop (P := P) hw (by rw [hst]; exact hb)
      have hrep' := hrep .exhausted l.pending
      have post : Post Γ X w0 θ K n outs' e.conc a (w'.putObj (θ'.blk b) (.loop { rc with state := .exhausted })) := by
        refine ⟨⟨e, fr, x.hp.upd b (.loop { l with state := .exhausted }), .lit undef⟩, hm _ (by rw [ho]; exact List.mem_singleton.2 rfl), θ', K', hG, rfl, ?_, hf⟩
        rw [← hpe] at hrep'
        have e1 : ({ l with state := .exhausted, pending := rc.pending } : ALoop) = { l with state := .exhausted } := by rw [hpe]
        rw [e1] at hrep'
        exact hrep'
      generalize w'.putObj (θ'.blk b) (.loop { rc with state := .exhausted }) = W at hend post
      refine ⟨rc.pending, W, hend, ?_⟩
      rw [hpe]
      split at he
      · rename_i hp; rw [hp]; subst he; exact post
      · rename_i hp; rw [hp]; subst he; exact wpIn_ret post
      · rename_i id hp; rw [hp]; subst he; exact wpIn_exit post
      · exact he.elim
    split at hq
    · cases hq
    · rename_i hb
      refine go (fun e => hb e) ?_
      split at hq
      · simp only [Option.some.injEq] at hq; exact ⟨.normal, hq.symm, by simp [*]⟩
      · simp only [Option.some.injEq] at hq; exact ⟨.ret, hq.symm, by simp [*]⟩
      · simp only [Option.some.injEq] at hq; rename_i id _; exact ⟨.exit id, hq.symm, by simp [*]⟩
      · cases hq
  · cases hq

theorem loop_rep {b : Nat} {fr : Fr} {a : Act} {fn : FuncId} {ps : Array Tmp} {assign body : Code} (hr : Rep Γ X w0 θ K h w) (hf : FRep θ K fr a) (hb : K b) :
    Rep Γ X w0 (θ.bind h.next w.heap.size 0) (also K h.next) (h.new (.loop ⟨.ready, none, 0, fr.tmps, fr.sz, ps, assign, body, b⟩)).2 (w.alloc (.loop { state := .ready, pending := none, fn, tmps := a.tmps, params := ps, assign, body, defers := θ.blk b })) := by
  have hE : Ext K θ (θ.bind h.next w.heap.size 0) := Ren.bind_ext (hr.next _ (Nat.le_refl _))
  have hok : AObj.ok K (.loop ⟨.ready, none, 0, fr.tmps, fr.sz, ps, assign, body, b⟩) := ⟨fun i v hv => hf.ok i v hv, hb⟩
  exact hr.make_next rfl rfl rfl rfl (AObj.ok_mono also_mono _ hok) (ORep_ext hE hok ⟨fn, a.tmps, hf.tmps, rfl⟩)

theorem new_grow (hr : Rep Γ X w0 θ K h w) (o : AObj) (n c : Nat) : Grow K θ h.next (also K h.next) (θ.bind h.next n c) (h.new o).2.next :=
  ⟨Ren.bind_ext (hr.next _ (Nat.le_refl _)), also_mono, also_fresh, Nat.le_succ _⟩

/-- From the record on. -/
theorem range_tail (hN : NoCount P) (hS : Sound P Γ self) {g : Operand} {ps : Array Tmp} {assign body : Code} {fr fr' : Fr} {hp : Hp} {outs : List Out} {d : Nat} {n0 : Nat} {θ0 : Ren} {K0 : Nat → Prop} {r : Option Nat}
    {a a' : Act} {fn : FuncId} (hr : Rep Γ X w0 θ K hp w) (hf : FRep θ K fr a) (hf' : FRep θ K fr' a') (hd : K d) (hG : Grow K0 θ0 n0 K θ hp.next)
    (hq : (match seqCallee (fr.ev g) (hp.new (.loop ⟨.ready, none, 0, fr.tmps, fr.sz, ps, assign, body, d⟩)).1 with
      | none => none
      | some c => match self (.call c.1 c.2 (hp.new (.loop ⟨.ready, none, 0, fr.tmps, fr.sz, ps, assign, body, d⟩)).2) with
        | none => none
        | some outs => allOf (loopEnd (hp.new (.loop ⟨.ready, none, 0, fr.tmps, fr.sz, ps, assign, body, d⟩)).1 fr') outs) = some outs) :
    ∃ (dd : Deferred) (w₁' : World) (f : FuncId) (args : Array Value) (w₂ : World),
      (resolve a.eval (rangeCall g w.heap.size) 0).run P (w.alloc (.loop { state := .ready, pending := none, fn, tmps := a.tmps, params := ps, assign, body, defers := θ.blk d })) = .ok dd w₁' ∧
      (invoke dd.target dd.args).run P w₁' = .ok (.enter f args) w₂ ∧
      CallsIn (G r) (0 - 1) P f args w₂ (rangePost (G r) 0 P w.heap.size (Post Γ X w0 θ0 K0 n0 outs) a') := by
  split at hq
  · cases hq
  · rename_i c hc
    obtain ⟨f, args⟩ := c
    split at hq
    · cases hq
    · rename_i os hos
      obtain ⟨hfn, hcall⟩ := hS.call f args _ os hos
      have hrep := loop_rep (fn := fn) (ps := ps) (assign := assign) (body := body) hr hf hd
      have hG1 := new_grow hr (.loop ⟨.ready, none, 0, fr.tmps, fr.sz, ps, assign, body, d⟩) w.heap.size 0
      have hv : a.eval g = conc (θ.bind hp.next w.heap.size 0) (fr.ev g) := by rw [hf.ev, conc_ext hG1.ext _ (hf.evOk g)]
      obtain ⟨dd, h1, h2⟩ := seqCallee_run (θ := θ.bind hp.next w.heap.size 0) (w := w.alloc (.loop { state := .ready, pending := none, fn, tmps := a.tmps, params := ps, assign, body, defers := θ.blk d })) hN hc hfn hv
      have hb : (θ.bind hp.next w.heap.size 0).blk (hp.new (.loop ⟨.ready, none, 0, fr.tmps, fr.sz, ps, assign, body, d⟩)).1 = w.heap.size := Ren.bind_blk
      rw [hb] at h1
      refine ⟨dd, _, f, _, _, h1, h2, ?_⟩
      refine CallsIn.mono (F := Fence.wide) (n := 0) (hcall X w0 _ _ _ hrep (seqCallee_ok hc (hf.evOk g) also_mono (.inr rfl))) fun e w' he => ?_
      obtain ⟨o, ho, θ', K', hG2, rfl, _, hr'⟩ := he
      obtain ⟨y, hy, hm⟩ := allOf_mem hq o ho
      have hG3 := hG1.trans hG2
      have := loopEnd_sound (P := P) (r := r) hy (hG.trans hG3) hr' (hf'.ext hG3.ext hG3.mono) hm
      rw [show θ'.blk (hp.new (.loop ⟨.ready, none, 0, fr.tmps, fr.sz, ps, assign, body, d⟩)).1 = w.heap.size from (hG2.ext.blk _ (.inr rfl)).trans hb] at this
      exact this

theorem range_sound (hN : NoCount P) (hS : Sound P Γ self) {g : Operand} {ps : Array Tmp} {assign body : Code} {ro : Option Nat} {fr : Fr} {hp : Hp} {outs : List Out} (hq : stepTask P Γ self (.code (.rangeFunc g ps assign body) ro fr hp) = some outs)
    {a : Act} (hr : Rep Γ X w0 θ K hp w) (hf : FRep θ K fr a) : (Code.rangeFunc g ps assign body).wpIn (G (ro.map θ.blk)) 0 P (Post Γ X w0 θ K hp.next outs) a w := by
  refine wpIn_rangeFunc fun fn _ => ?_
  simp only [stepTask] at hq
  split at hq
  · cases hq
  · rename_i s hs
    cases ro with
    | some l =>
      simp only [loopStart] at hs
      split at hs
      · rename_i x hx
        simp only [Option.some.injEq] at hs
        subst hs
        obtain ⟨rc, hw, _, _, _, _, _, hdef, _, _, hkd, _, _⟩ := hr.loop hx
        obtain ⟨dd, w1, f, args, w2, h1, h2, h3⟩ := range_tail (fn := fn) (r := (some l).map θ.blk) hN hS hr hf hf hkd (Grow.refl _ _ _) hq
        refine ⟨w.heap.size, [], _, dd, w1, f, args, w2, ?_, h1, fun f' _ => G_fn _ f', h2, G_depth _ 0, h3⟩
        show (Instr.enterLoop fn a.tmps ps assign body (some (θ.blk l))).run P w = _
        unfold Instr.enterLoop
        simp only [Sem.run_bind, run_getLoop hw, run_newObj_alloc, Result.andThen, Sem.run_pure, hdef]
      · cases hs
    | none =>
      simp only [loopStart, Option.some.injEq] at hs
      subst hs
      have hE := new_grow hr (.deferred true) w.heap.size 0
      have hr1 : Rep Γ X w0 (θ.bind hp.next w.heap.size 0) (also K hp.next) (hp.new (.deferred true)).2 (w.alloc (.deferred (some []))) := hr.make_next (o := .deferred true) rfl rfl rfl rfl trivial rfl
      have hf1 := hf.ext hE.ext hE.mono
      have hf2 : FRep (θ.bind hp.next w.heap.size 0) (also K hp.next) { fr with marks := hp.next :: fr.marks } { a with defers := [{ target := .collected w.heap.size, args := #[] }] ++ a.defers } := by
        refine ⟨hf1.tmps, hf1.ok, ?_, fun b hb => ?_⟩
        · simp only [List.map_cons, Ren.bind_blk, List.singleton_append, hf1.marks]
        · rcases List.mem_cons.1 hb with rfl | hb
          · exact .inr rfl
          · exact hf1.marksOk b hb
      obtain ⟨dd, w1, f, args, w2, h1, h2, h3⟩ := range_tail (fn := fn) (r := Option.map θ.blk none) hN hS hr1 hf1 hf2 (.inr rfl) hE hq
      refine ⟨_, _, _, dd, w1, f, args, w2, ?_, h1, fun f' _ => G_fn _ f', h2, G_depth _ 0, h3⟩
      show (Instr.enterLoop fn a.tmps ps assign body none).run P w = _
      rw [run_enterLoop_outer]
      simp only [World.size_alloc, Ren.bind_blk]

theorem setAll_rep {l : List (Tmp × SV)} : ∀ {fr fr' : Fr} {a : Act}, setAll l fr = some fr' → FRep θ K fr a → (∀ x ∈ l, x.2.ok K) → FRep θ K fr' { a with tmps := (l.map fun x => (x.1, conc θ x.2)).foldl (fun tmps (x : Tmp × Value) => tmps.setIfInBounds x.1 x.2) a.tmps } := by
  induction l with
  | nil => intro fr fr' a hq hf _; simp only [setAll, Option.some.injEq] at hq; subst hq; exact hf
  | cons x l ih =>
    intro fr fr' a hq hf hok
    obtain ⟨t, v⟩ := x
    simp only [setAll] at hq
    split at hq
    · rename_i f1 h1
      exact ih hq (hf.put (hok _ (List.mem_cons_self ..)) h1) fun x hx => hok x (List.mem_cons_of_mem _ hx)
    · cases hq
end
end Go.Proofs.YthjkejnmjbljfaaGreatDoor.Ev
