/-
  WHAT THE EVALUATOR COMES TO, WITH ENOUGH FUEL: a calculus of its runs over states that hold variables, by the author of this claim. Of any program. | A ROW THAT A RUN OWNS, of whatever length, in the evaluator's heap: how it is appended to, by the author of this claim. Of any program. | A REGION THAT DRAWS ITS ORDER, IN THE CALCULUS OF RUNS, by the author of this claim: where at each time one loud operation is ready. Of any program. | A LIST THAT A RUN HAS MADE BY APPENDS, of whatever length: nil, or a row of its own; by the author of this claim. Of any program. | STEPS IN THE CALCULUS OF RUNS WHOSE FRAMES STAY SMALL, by the author of this claim: the same rules, the frame's slots named. Of any program. | A RANGE OVER A FUNCTION, IN THE CALCULUS OF RUNS, by the author of this claim: outside of other rounds. Of any program. | THE EVALUATOR WITH CALLS WHOSE WORD IS KNOWN, by the author of this claim: an oracle tells what a call comes to; each of its words is shown by hand. Of any program in which no function is runtime.NumGoroutine, and that draws the order in which a region's operations come.
-/
import Derived.Test.YtdhmljjpiainnaaGreatDoorEvGF
namespace Go.Proofs.YtdhmljjpiainnaaGreatDoor.Ev
open Go Go.RowKit
def Ends {α : Type} (f : Nat → Option (List α)) (Φ : α → Prop) : Prop := ∃ (N : Nat) (l : List α), (∀ n, N ≤ n → f n = some l) ∧ ∀ x ∈ l, Φ x
theorem Ends.mono {α : Type} {f : Nat → Option (List α)} {Φ Ψ : α → Prop} (h : Ends f Φ) (hp : ∀ x, Φ x → Ψ x) : Ends f Ψ := by
  obtain ⟨N, l, h1, h2⟩ := h
  exact ⟨N, l, h1, fun x hx => hp x (h2 x hx)⟩
theorem Ends.one {α : Type} {f : Nat → Option (List α)} {x : α} {Φ : α → Prop} (h : ∀ n, f n = some [x]) (hx : Φ x) : Ends f Φ :=
  ⟨0, [x], fun n _ => h n, fun y hy => by rw [List.mem_singleton.1 hy]; exact hx⟩
theorem Ends.eq {α : Type} {f g : Nat → Option (List α)} {Φ : α → Prop} (h : Ends f Φ) (he : ∀ n, g n = f n) : Ends g Φ := by
  obtain ⟨N, l, h1, h2⟩ := h
  exact ⟨N, l, fun n hn => (he n).trans (h1 n hn), h2⟩
theorem Ends.succ {α : Type} {f g : Nat → Option (List α)} {Φ : α → Prop} (h : Ends f Φ) (he : ∀ n, g (n + 1) = f n) : Ends g Φ := by
  obtain ⟨N, l, h1, h2⟩ := h
  refine ⟨N + 1, l, fun n hn => ?_, h2⟩
  obtain ⟨m, rfl⟩ : ∃ m, n = m + 1 := ⟨n - 1, by omega⟩
  rw [he]
  exact h1 m (by omega)
theorem Ends.all {α β : Type} {f : Nat → α → Option (List β)} {Φ : β → Prop} : ∀ (l : List α), (∀ a ∈ l, Ends (fun n => f n a) Φ) → Ends (fun n => allOf (f n) l) Φ
  | [], _ => ⟨0, [], fun _ _ => rfl, fun _ h => by cases h⟩
  | a :: l, h => by
    obtain ⟨N, x, h1, h2⟩ := h a (List.mem_cons_self ..)
    obtain ⟨M, y, h3, h4⟩ := Ends.all l fun b hb => h b (List.mem_cons_of_mem _ hb)
    refine ⟨max N M, x ++ y, fun n hn => ?_, fun z hz => (List.mem_append.1 hz).elim (h2 z) (h4 z)⟩
    have e1 : f n a = some x := h1 n (by omega)
    have e2 : allOf (f n) l = some y := h3 n (by omega)
    simp only [allOf, e1, e2]
theorem Ends.bind {α β : Type} {f : Nat → Option (List α)} {g : Nat → α → Option (List β)} {k : Nat → Option (List β)} {Φ : α → Prop} {Ψ : β → Prop} (h : Ends f Φ) (hg : ∀ a, Φ a → Ends (fun n => g n a) Ψ)
    (he : ∀ n l, f n = some l → k n = allOf (g n) l) : Ends k Ψ := by
  obtain ⟨N, l, h1, h2⟩ := h
  obtain ⟨M, r, h3, h4⟩ := Ends.all l fun a ha => hg a (h2 a ha)
  exact ⟨max N M, r, fun n hn => (he n l (h1 n (by omega))).trans (h3 n (by omega)), h4⟩
section
variable {P : Program} {Γ : Glob}
def Runs (P : Program) (Γ : Glob) (t : Task) (Φ : Out → Prop) : Prop := Ends (fun n => runO P Γ theMem n t) Φ
theorem Runs.mono {t : Task} {Φ Ψ : Out → Prop} (h : Runs P Γ t Φ) (hp : ∀ x, Φ x → Ψ x) : Runs P Γ t Ψ := Ends.mono h hp
theorem Runs.intro {t : Task} {Φ : Out → Prop} (n : Nat) {outs : List Out} (h : runO P Γ theMem n t = some outs) (hp : ∀ o ∈ outs, Φ o) : Runs P Γ t Φ :=
  ⟨n, outs, fun _ hm => runO_le hm t outs h, hp⟩
theorem Runs.step {t : Task} {Φ : Out → Prop} (h : Ends (fun n => stepO P Γ theMem (runO P Γ theMem n) t) Φ) : Runs P Γ t Φ := Ends.succ h fun n => runO_succ n t
def Then (next : Fr → Hp → Prop) (Φ : Out → Prop) (o : Out) : Prop := match o.exit with
  | .normal => next o.fr o.hp
  | _ => Φ o
def seqStep (g : Fr → Hp → R) (x : Out) : R := match x.exit with
  | .normal => g x.fr x.hp
  | _ => some [x]
theorem seqOut_eq (g : Fr → Hp → R) (l : List Out) : seqOut g l = allOf (seqStep g) l := rfl
theorem seq_ends {f : Nat → Option (List Out)} {g : Nat → Fr → Hp → R} {k : Nat → R} {Φ : Out → Prop} (h : Ends f (Then (fun fr hp => Ends (fun n => g n fr hp) Φ) Φ)) (he : ∀ n l, f n = some l → k n = seqOut (g n) l) : Ends k Φ := by
  refine Ends.bind (g := fun n x => seqStep (g n) x) h (fun o ho => ?_) fun n l hl => (he n l hl).trans (seqOut_eq _ _)
  obtain ⟨ex, fr, hp, v⟩ := o
  cases ex with
  | normal => exact ho
  | ret => exact Ends.one (fun _ => rfl) ho
  | exit id => exact Ends.one (fun _ => rfl) ho
theorem runs_skip {ro : Option Nat} {fr : Fr} {hp : Hp} {Φ : Out → Prop} (h : Φ ⟨.normal, fr, hp, .lit undef⟩) : Runs P Γ (.code .skip ro fr hp) Φ := Runs.step (Ends.one (fun _ => rfl) h)
theorem runs_ret {ro : Option Nat} {fr : Fr} {hp : Hp} {Φ : Out → Prop} (h : Φ ⟨.ret, fr, hp, .lit undef⟩) : Runs P Γ (.code .ret ro fr hp) Φ := Runs.step (Ends.one (fun _ => rfl) h)
theorem runs_exit {id : Nat} {ro : Option Nat} {fr : Fr} {hp : Hp} {Φ : Out → Prop} (h : Φ ⟨.exit id, fr, hp, .lit undef⟩) : Runs P Γ (.code (.exit id) ro fr hp) Φ := Runs.step (Ends.one (fun _ => rfl) h)
theorem runs_seq {a b : Code} {ro : Option Nat} {fr : Fr} {hp : Hp} {Φ : Out → Prop} (h : Runs P Γ (.code a ro fr hp) (Then (fun f p => Runs P Γ (.code b ro f p) Φ) Φ)) : Runs P Γ (.code (.seq a b) ro fr hp) Φ :=
  Runs.step (seq_ends (g := fun n f p => runO P Γ theMem n (.code b ro f p)) h fun n l hl => by simp only [stepO, stepTask]; rw [hl])
theorem runs_loop {c : Code} {ro : Option Nat} {fr : Fr} {hp : Hp} {Φ : Out → Prop} (h : Runs P Γ (.code c ro fr hp) (Then (fun f p => Runs P Γ (.code (.loop c) ro f p) Φ) Φ)) : Runs P Γ (.code (.loop c) ro fr hp) Φ :=
  Runs.step (seq_ends (g := fun n f p => runO P Γ theMem n (.code (.loop c) ro f p)) h fun n l hl => by simp only [stepO, stepTask]; rw [hl])
theorem runs_cond {c : Operand} {x y : Code} {ro : Option Nat} {fr : Fr} {hp : Hp} {Φ : Out → Prop} (b : Bool) (hc : fr.ev c = .lit (.bool b)) (h : Runs P Γ (.code (bif b then x else y) ro fr hp) Φ) : Runs P Γ (.code (.cond c x y) ro fr hp) Φ := by
  refine Runs.step (Ends.eq h fun n => ?_)
  simp only [stepO, stepTask]
  rw [hc]
  cases b <;> rfl
def atEnd (id : Nat) (x : Out) : Out := match x.exit with
  | .exit k => bif Nat.beq k id then { x with exit := .normal } else x
  | _ => x
theorem runs_block {id : Nat} {c : Code} {ro : Option Nat} {fr : Fr} {hp : Hp} {Φ : Out → Prop} (h : Runs P Γ (.code c ro fr hp) fun o => Φ (atEnd id o)) : Runs P Γ (.code (.block id c) ro fr hp) Φ := by
  obtain ⟨N, l, h1, h2⟩ := h
  refine Runs.step ⟨N, l.map (atEnd id), fun n hn => ?_, fun x hx => ?_⟩
  · have e : runO P Γ theMem n (.code c ro fr hp) = some l := h1 n hn
    simp only [stepO, stepTask, e]
    rfl
  · obtain ⟨y, hy, rfl⟩ := List.mem_map.1 hx
    exact h2 y hy
def RunsOps (P : Program) (Γ : Glob) (ops : Array Oper) (l : List Oper) (fr : Fr) (hp : Hp) (Φ : Out → Prop) : Prop := Ends (fun n => inTurn P Γ (runO P Γ theMem n) ops l fr hp) Φ
theorem runs_region {id : Nat} {ops : Array Oper} {ro : Option Nat} {fr : Fr} {hp : Hp} {Φ : Out → Prop} (h : RunsOps P Γ ops ops.toList fr hp Φ) : Runs P Γ (.code (.region id ops false) ro fr hp) Φ := Runs.step h
theorem runs_draws {id : Nat} {ops : Array Oper} {ro : Option Nat} {fr : Fr} {hp : Hp} {Φ : Out → Prop} (hf : regionFit ops ops.toList 0 = true) (h : Ends (fun n => drawn P Γ (runO P Γ theMem n) ops (ops.size + 1) 0 [] fr hp) Φ) : Runs P Γ (.code (.region id ops true) ro fr hp) Φ := by
  refine Runs.step (Ends.eq h fun n => ?_)
  simp only [stepO, stepTask]
  rw [hf]
  rfl
theorem ops_nil {ops : Array Oper} {fr : Fr} {hp : Hp} {Φ : Out → Prop} (h : Φ ⟨.normal, fr, hp, .lit undef⟩) : RunsOps P Γ ops [] fr hp Φ := Ends.one (fun _ => rfl) h
theorem ops_cons {ops : Array Oper} {o : Oper} {l : List Oper} {fr : Fr} {hp : Hp} {Φ : Out → Prop} (h : Ends (fun n => oper P Γ (runO P Γ theMem n) ops fr hp o) fun x => RunsOps P Γ ops l x.1 x.2 Φ) : RunsOps P Γ ops (o :: l) fr hp Φ :=
  Ends.bind (α := Fr × Hp) (g := fun n (x : Fr × Hp) => inTurn P Γ (runO P Γ theMem n) ops l x.1 x.2) (Φ := fun x => RunsOps P Γ ops l x.1 x.2 Φ) h (fun _ hx => hx) fun n xs hxs => by simp only [inTurn]; rw [hxs]
theorem ops_quiet {ops : Array Oper} {o : Oper} {l : List Oper} {fr fr' : Fr} {hp : Hp} {Φ : Out → Prop} {v : SV} {fs : List Fact} (hw : wantedQ ops fr o = some true) (hq : quiet P Γ hp fr.ev o.op = some (v, fs)) (hput : fr.put o.dst v = some fr')
    (h : RunsOps P Γ ops l fr' hp Φ) : RunsOps P Γ ops (o :: l) fr hp Φ :=
  ops_cons (Ends.one (x := (fr', hp)) (fun n => by simp only [oper, hw, quietA_of hq, hput, Option.map_some]) h)
theorem ops_unwanted {ops : Array Oper} {o : Oper} {l : List Oper} {fr fr' : Fr} {hp : Hp} {Φ : Out → Prop} (hw : wantedQ ops fr o = some false) (hput : fr.put o.dst (.lit undef) = some fr') (h : RunsOps P Γ ops l fr' hp Φ) : RunsOps P Γ ops (o :: l) fr hp Φ :=
  ops_cons (Ends.one (x := (fr', hp)) (fun n => by simp only [oper, hw, hput, Option.map_some]) h)
theorem runs_call {f : FuncId} {fn : Func} {c : Code} {args : List SV} {hp : Hp} {Φ : Out → Prop} (hf : P.funcs[f]? = some fn) (hb : fn.body = some c)
    (h : Runs P Γ (.code c none ⟨T.ofList args 0 .leaf, Nat.max fn.ntmps args.length, []⟩ hp) fun o => ∃ r, leave P Γ fn o = some [r] ∧ Φ r) (hm : theMem f args hp = none := by rfl) : Runs P Γ (.call f args hp) Φ := by
  refine Runs.step (Ends.bind (g := fun _ o => leave P Γ fn o) h (fun o ho => ?_) fun n xs hxs => ?_)
  · obtain ⟨r, h1, h2⟩ := ho
    exact Ends.one (fun _ => h1) h2
  · simp only [stepO, hm, stepTask, hf, hb, hxs]
theorem runs_told {f : FuncId} {args : List SV} {hp : Hp} {outs : List Out} {Φ : Out → Prop} (hm : theMem f args hp = some outs) (h : ∀ o ∈ outs, Φ o) : Runs P Γ (.call f args hp) Φ :=
  ⟨1, outs, fun n hn => by
    obtain ⟨m, rfl⟩ : ∃ m, n = m + 1 := ⟨n - 1, by omega⟩
    show stepO P Γ theMem (runO P Γ theMem m) (.call f args hp) = some outs
    simp only [stepO, hm], h⟩
end
open Go Go.RowKit
theorem ev_set (tm : T SV) (n : Nat) (ms : List Nat) (d t : Nat) (v : SV) : Fr.ev ⟨tm.set d v, n, ms⟩ (.tmp t) = if t = d then v else Fr.ev ⟨tm, n, ms⟩ (.tmp t) := by
  simp only [Fr.ev, T.get_set]
  by_cases h : t = d
  · rw [if_pos h, if_pos h]
  · rw [if_neg h, if_neg h]
structure Kept (lo : Nat) (h h' : Hp) : Prop where
  next : h.next ≤ h'.next
  old : ∀ b, b < lo → h'.objs.get b = h.objs.get b
theorem Kept.refl (lo : Nat) (h : Hp) : Kept lo h h := ⟨Nat.le_refl _, fun _ _ => rfl⟩
theorem Kept.trans {lo : Nat} {a b c : Hp} (h : Kept lo a b) (h' : Kept lo b c) : Kept lo a c := ⟨Nat.le_trans h.next h'.next, fun k hk => (h'.old k hk).trans (h.old k hk)⟩
theorem Kept.less {lo lo' : Nat} {a b : Hp} (h : Kept lo a b) (hl : lo' ≤ lo) : Kept lo' a b := ⟨h.next, fun k hk => h.old k (by omega)⟩
open Go Go.RowKit
section
variable {P : Program} {Γ : Glob}
theorem allOf_one {α β : Type} (f : α → Option (List β)) (a : α) : allOf f [a] = f a := by
  simp only [allOf]
  cases f a with
  | none => rfl
  | some x => simp
def RunsDrawn (P : Program) (Γ : Glob) (ops : Array Oper) (k mask : Nat) (held : List Held) (fr : Fr) (hp : Hp) (Φ : Out → Prop) : Prop := Ends (fun n => drawn P Γ (runO P Γ theMem n) ops k mask held fr hp) Φ
theorem runs_drawn {id : Nat} {ops : Array Oper} {ro : Option Nat} {fr : Fr} {hp : Hp} {Φ : Out → Prop} (hf : regionFit ops ops.toList 0 = true) (h : RunsDrawn P Γ ops (ops.size + 1) 0 [] fr hp Φ) : Runs P Γ (.code (.region id ops true) ro fr hp) Φ := runs_draws hf h
variable {ops : Array Oper} {k mask : Nat} {held : List Held} {fr : Fr} {hp : Hp} {Φ : Out → Prop} {m' : Nat} {held' : List Held} {fr' : Fr} {hp' : Hp}
variable {o : Oper} {rest : List Oper} {i : Nat} {res : Option (Nat × List Held × Fr × Hp)}
theorem take_done (hm : Nat.testBit mask i = true) (h : takeAll P Γ ops rest (i + 1) mask held fr hp = res) : takeAll P Γ ops (o :: rest) i mask held fr hp = res := by
  rw [← h, takeAll, hm, cond_true]
theorem take_wait (hm : Nat.testBit mask i = false) (hd : Nat.beq (Nat.land (depsOf o) mask) (depsOf o) = false) (h : takeAll P Γ ops rest (i + 1) mask held fr hp = res) : takeAll P Γ ops (o :: rest) i mask held fr hp = res := by
  rw [← h, takeAll, hm, cond_false, hd, cond_false]
end
open Go Go.RowKit
def RowIs (h : Hp) (lo bl : Nat) (e : TypeId) (size : Nat) (v : SV) (l : List (List SV)) : Prop :=
  (v = .lit (.slice none 0 0) ∧ l = []) ∨ (v = .row bl 0 l.length l.length bl ∧ lo ≤ bl ∧ bl < h.next ∧ h.objs.get bl = some (.row l.flatten e l.length bl size))
theorem RowIs.same {h : Hp} {lo bl : Nat} {e : TypeId} {size : Nat} {v : SV} {l : List (List SV)} (hr : RowIs h lo bl e size v l) : SV.one v = true ∧ SV.sameL [v] [v] = true := by
  rcases hr with ⟨rfl, _⟩ | ⟨rfl, _⟩
  · exact ⟨rfl, rfl⟩
  · refine ⟨rfl, ?_⟩
    simp [SV.sameL, SV.same]
theorem RowIs.kept {h h' : Hp} {lo bl : Nat} {e : TypeId} {size : Nat} {v : SV} {l : List (List SV)} (hr : RowIs h lo bl e size v l) (hn : h.next ≤ h'.next) (hg : bl < h.next → lo ≤ bl → h'.objs.get bl = h.objs.get bl) : RowIs h' lo bl e size v l := by
  rcases hr with hr | ⟨r1, r2, r3, r4⟩
  · exact .inl hr
  · exact .inr ⟨r1, r2, by omega, (hg r3 r2).trans r4⟩
theorem RowIs.len {P : Program} {h h' : Hp} {lo bl : Nat} {t e e' : TypeId} {size : Nat} {v : SV} {l : List (List SV)} (ht : tyU P t = some (.slice e')) (hr : RowIs h lo bl e size v l) (hnil : lenQ P h' t (.lit (.slice none 0 0)) = some (.lit (.int .i64 0), [])) : lenQ P h' t v = some (.lit (.int .i64 (Int.ofNat l.length)), []) := by
  rcases hr with ⟨rfl, rfl⟩ | ⟨rfl, _⟩
  · exact hnil
  · simp only [lenQ, ht]
    rfl
theorem flat_len {size : Nat} : ∀ {l : List (List SV)}, (∀ x ∈ l, x.length = size) → l.flatten.length = l.length * size
  | [], _ => by simp
  | a :: l, h => by
    rw [List.flatten_cons, List.length_append, h a (List.mem_cons_self ..), flat_len fun x hx => h x (List.mem_cons_of_mem _ hx), List.length_cons, Nat.succ_mul]
    omega
theorem get_same {α : Type} {t : T α} {k : Nat} {v : α} : (t.set k v).get k = some v := by rw [T.get_set, if_pos rfl]
theorem get_ne {α : Type} {t : T α} {k j : Nat} {v : α} (h : j ≠ k) : (t.set k v).get j = t.get j := by rw [T.get_set, if_neg h]
open Go Go.RowKit
section
variable {P : Program} {Γ : Glob} {ops : Array Oper} {o : Oper} {l : List Oper} {tm : T SV} {n d : Nat} {ms : List Nat} {hp hp' : Hp} {Φ : Out → Prop} {v : SV} {fs : List Fact}
theorem store_eff {h : Hp} {ρ : Operand → SV} {t : TypeId} {a x : Operand} {b off m : Nat} {l l' : List SV} {e : TypeId} (hs : tySize P t = some m) (ha : ρ a = .ptr b off) (hx : ρ x = v) (hl : v.cells.length = m) (hb : h.objs.get b = some (.cells l e)) (hsp : splice l off v.cells = some l') :
    effect P Γ h ρ (.store t a x) = some [(.lit undef, ⟨h.objs.set b (.cells l' e), h.next⟩)] := by
  simp only [effect, storeE, hs, ha, hx, beq_t hl, cond_true, hb, hsp, Option.map_some, Hp.upd, unit]
variable {k mask m' i : Nat} {held held' : List Held} {rest : List Oper} {res : Option (Nat × List Held × Fr × Hp)}
end
open Go Go.RowKit
section
variable {P : Program} {Γ : Glob}
theorem runs_range {g : Operand} {ps : Array Tmp} {assign body : Code} {fr : Fr} {hp : Hp} {f : FuncId} {args : List SV} {Φ : Out → Prop} (hc : seqCallee (fr.ev g) (hp.next + 1) = some (f, args))
    (h : Runs P Γ (.call f args ⟨(hp.objs.set hp.next (.deferred true)).set (hp.next + 1) (.loop ⟨.ready, none, 0, fr.tmps, fr.sz, ps, assign, body, hp.next⟩), hp.next + 2⟩) fun r => ∃ x, loopEnd (hp.next + 1) { fr with marks := hp.next :: fr.marks } r = some [x] ∧ Φ x) :
    Runs P Γ (.code (.rangeFunc g ps assign body) none fr hp) Φ := by
  refine Runs.step (Ends.bind (g := fun _ r => loopEnd (hp.next + 1) { fr with marks := hp.next :: fr.marks } r) h (fun r hr => ?_) fun n l hl => ?_)
  · obtain ⟨x, h1, h2⟩ := hr
    exact Ends.one (fun _ => h1) h2
  · simp only [stepO, stepTask, loopStart, Hp.new]
    have hl : runO P Γ theMem n (.call f args ⟨(hp.objs.set hp.next (.deferred true)).set (hp.next + 1) (.loop ⟨.ready, none, 0, fr.tmps, fr.sz, ps, assign, body, hp.next⟩), hp.next + 2⟩) = some l := hl
    simp only [hc, hl]
end
open Go Go.RowKit
section
variable {P : Program} {Γ : Env}
def OracleOk (P : Program) (Γ : Env) (mem : Oracle) : Prop := ∀ f args hp outs, mem f args hp = some outs → (∃ fn c, P.funcs[f]? = some fn ∧ fn.body = some c) ∧
    ∀ X w0 θ K w, Rep Γ X w0 θ K hp w → SV.okL K args → CallsIn Fence.wide 0 P f (concL θ args).toArray w (CPost Γ X w0 θ K hp.next outs)
theorem stepO_sound [AskOk P Γ] (hN : NoCount P) (hmix : P.follows .mixedOrders = true) {mem : Oracle} (hmem : OracleOk P Γ mem) {self : Task → R} {m : Nat} (hS : Sound P Γ self) (hL : Loops P Γ m self) :
    Sound P Γ (stepO P Γ mem self) ∧ Loops P Γ (m + 1) (stepO P Γ mem self) := by
  obtain ⟨h1, h2⟩ := step_sound hN hmix hS hL
  refine ⟨⟨h1.code, fun f args hp outs hq => ?_, h1.round⟩, h2⟩
  simp only [stepO] at hq
  split at hq
  · rename_i os hos
    simp only [Option.some.injEq] at hq
    subst hq
    exact hmem f args hp _ hos
  · exact h1.call f args hp outs hq
theorem runO_sound [AskOk P Γ] (hN : NoCount P) (hmix : P.follows .mixedOrders = true) {mem : Oracle} (hmem : OracleOk P Γ mem) : ∀ n, Sound P Γ (runO P Γ mem n) ∧ Loops P Γ n (runO P Γ mem n)
  | 0 => ⟨⟨fun _ _ _ _ _ h => (by cases h), fun _ _ _ _ h => (by cases h), fun _ _ _ _ h => (by cases h)⟩, fun _ _ _ _ _ h => (by cases h)⟩
  | n + 1 => stepO_sound hN hmix hmem (runO_sound hN hmix hmem n).1 (runO_sound hN hmix hmem n).2
theorem Rep.behind {X : Nat → Prop} {w0 : World} {θ : Ren} {K : Nat → Prop} {hp : Hp} {w w' : World} (hr : Rep Γ X w0 θ K hp w) (hb : Below w.heap.size w w') : Rep Γ X w0 θ K hp w' := by
  obtain ⟨b1, b2, b3, b4, b5⟩ := hb
  refine ⟨b1.trans hr.os, b2.trans hr.tape, b3.trans hr.output, Nat.le_trans hr.size b4, fun k hk => (b5 k ?_).trans (hr.kept k hk), hr.low, hr.glob, fun b o hb => ?_, hr.inj, hr.next, hr.inv⟩
  · exact Nat.lt_of_lt_of_le (hr.low k hk) hr.size
  · obtain ⟨k1, k2, k3, ob, k4, k5⟩ := hr.obj b o hb
    exact ⟨k1, k2, k3, ob, (b5 _ (Array.getElem?_eq_some_iff.1 k4).1).trans k4, k5⟩
def told (hp : Hp) (vs : List Value) : List Out := vs.map fun v => ⟨.ret, ⟨.leaf, 0, []⟩, hp, .lit v⟩
theorem told_post {X : Nat → Prop} {w0 : World} {θ : Ren} {K : Nat → Prop} {hp : Hp} {w : World} (hr : Rep Γ X w0 θ K hp w) {f : FuncId} {args : Array Value} {vs : List Value}
    (h : Calls P f args w fun e w' => (∃ v ∈ vs, e = .returned v) ∧ Below w.heap.size w w') : CallsIn Fence.wide 0 P f args w (CPost Γ X w0 θ K hp.next (told hp vs)) := by
  refine callsIn_wide.2 (h.mono ?_)
  rintro e w' ⟨⟨v, hv, rfl⟩, hb⟩
  exact ⟨_, List.mem_map.2 ⟨v, hv, rfl⟩, θ, K, Grow.refl _ _ _, rfl, trivial, hr.behind hb⟩
theorem calls_of_runsV {Γ : Glob} [Mute Γ] (hN : NoCount P) (hmix : P.follows .mixedOrders = true) (hmem : OracleOk P (.plain Γ) theMem) {m : Nat} {f : FuncId} {args : List SV} (θ : Ren) {w : World} {vs : List Value} (h : Runs P Γ (.call f args ⟨.leaf, m⟩) fun o => ∃ v ∈ vs, o.v = .lit v) (hΓ : globMet Γ w) (hok : SV.okL (· < m) args) :
    Calls P f (concL θ args).toArray w fun e w' => (∃ v ∈ vs, e = .returned v) ∧ Below w.heap.size w w' := by
  obtain ⟨n, outs, h1, h2⟩ := h
  refine (callsIn_wide.1 (((runO_sound (Γ := .plain Γ) hN hmix hmem n).1.call f args ⟨.leaf, m⟩ outs (h1 n (Nat.le_refl _))).2 _ w θ _ w (rep_start θ m hΓ trivial) hok)).mono ?_
  rintro e w' ⟨o, hm, θ', K', _, rfl, _, hrep⟩
  obtain ⟨v, hv, e⟩ := h2 o hm
  rw [e]
  exact ⟨⟨v, hv, rfl⟩, hrep.below⟩
end
end Go.Proofs.YtdhmljjpiainnaaGreatDoor.Ev
