/-
  WHAT THE EVALUATOR COMES TO, WITH ENOUGH FUEL: a calculus of its runs over states that hold variables, by the author of this claim. Of any program.
-/
import Derived.Test.YthjkejnmjbljfaaGreatDoorEvMono
namespace Go.Proofs.YthjkejnmjbljfaaGreatDoor.Ev
open Go Go.RowKit

/-- From some fuel on the same ways are told, and each is such a one. -/
def Ends {α : Type} (f : Nat → Option (List α)) (Φ : α → Prop) : Prop := ∃ (N : Nat) (l : List α), (∀ n, N ≤ n → f n = some l) ∧ ∀ x ∈ l, Φ x

theorem Ends.mono {α : Type} {f : Nat → Option (List α)} {Φ Ψ : α → Prop} (h : Ends f Φ) (hp : ∀ x, Φ x → Ψ x) : Ends f Ψ := by
  obtain ⟨N, l, h1, h2⟩ := h
  exact ⟨N, l, h1, fun x hx => hp x (h2 x hx)⟩
theorem Ends.one {α : Type} {f : Nat → Option (List α)} {x : α} {Φ : α → Prop} (h : ∀ n, f n = some [x]) (hx : Φ x) : Ends f Φ :=
  ⟨0, [x], fun n _ => h n, fun y hy => by rw [List.mem_singleton.1 hy]; exact hx⟩
theorem Ends.eq {α : Type} {f g : Nat → Option (List α)} {Φ : α → Prop} (h : Ends f Φ) (he : ∀ n, g n = f n) : Ends g Φ := by
  obtain ⟨N, l, h1, h2⟩ := h
  exact ⟨N, l, fun n hn => (he n).trans (h1 n hn), h2⟩
/-- One step of fuel more. -/
theorem Ends.succ {α : Type} {f g : Nat → Option (List α)} {Φ : α → Prop} (h : Ends f Φ) (he : ∀ n, g (n + 1) = f n) : Ends g Φ := by
  obtain ⟨N, l, h1, h2⟩ := h
  refine ⟨N + 1, l, fun n hn => ?_, h2⟩
  obtain ⟨m, rfl⟩ : ∃ m, n = m + 1 := ⟨n - 1, by omega⟩
  rw [he]
  exact h1 m (by omega)

theorem Ends.all {α β : Type} {f : Nat → α → Option (List β)} {Φ : β → Prop} : ∀ (l : List α), (∀ a ∈ l, Ends (fun n => f n a) Φ) → Ends (fun n => allOf (f n) l) Φ
  | [], _ => ⟨0, [], fun _ _ => rfl, fun _ h => by cases h⟩
  | a :: l, h => by
    obtain ⟨N, x, h1, h2⟩ := h a (List.mem_cons_self ..)
    obtain ⟨M, y, h3, h4⟩ := Ends.all l fun b hb => h b (List.mem_cons_of_mem _ hb)
    refine ⟨max N M, x ++ y, fun n hn => ?_, fun z hz => (List.mem_append.1 hz).elim (h2 z) (h4 z)⟩
    have e1 : f n a = some x := h1 n (by omega)
    have e2 : allOf (f n) l = some y := h3 n (by omega)
    simp only [allOf, e1, e2]

/-- First this, then that on each way. -/
theorem Ends.bind {α β : Type} {f : Nat → Option (List α)} {g : Nat → α → Option (List β)} {k : Nat → Option (List β)} {Φ : α → Prop} {Ψ : β → Prop} (h : Ends f Φ) (hg : ∀ a, Φ a → Ends (fun n => g n a) Ψ)
    (he : ∀ n l, f n = some l → k n = allOf (g n) l) : Ends k Ψ := by
  obtain ⟨N, l, h1, h2⟩ := h
  obtain ⟨M, r, h3, h4⟩ := Ends.all l fun a ha => hg a (h2 a ha)
  exact ⟨max N M, r, fun n hn => (he n l (h1 n (by omega))).trans (h3 n (by omega)), h4⟩

section
variable {P : Program} {Γ : Glob}

/-- What a task comes to. -/
def Runs (P : Program) (Γ : Glob) (t : Task) (Φ : Out → Prop) : Prop := Ends (fun n => run P Γ n t) Φ

theorem Runs.mono {t : Task} {Φ Ψ : Out → Prop} (h : Runs P Γ t Φ) (hp : ∀ x, Φ x → Ψ x) : Runs P Γ t Ψ := Ends.mono h hp
theorem Runs.intro {t : Task} {Φ : Out → Prop} (n : Nat) {outs : List Out} (h : run P Γ n t = some outs) (hp : ∀ o ∈ outs, Φ o) : Runs P Γ t Φ :=
  ⟨n, outs, fun _ hm => run_le hm t outs h, hp⟩
/-- One step of the evaluator. -/
theorem Runs.step {t : Task} {Φ : Out → Prop} (h : Ends (fun n => stepTask P Γ (run P Γ n) t) Φ) : Runs P Γ t Φ := Ends.succ h fun n => run_succ n t

/-- What comes behind a normal end. -/
def Then (next : Fr → Hp → Prop) (Φ : Out → Prop) (o : Out) : Prop := match o.exit with
  | .normal => next o.fr o.hp
  | _ => Φ o

def seqStep (g : Fr → Hp → R) (x : Out) : R := match x.exit with
  | .normal => g x.fr x.hp
  | _ => some [x]
theorem seqOut_eq (g : Fr → Hp → R) (l : List Out) : seqOut g l = allOf (seqStep g) l := rfl
theorem seq_ends {f : Nat → Option (List Out)} {g : Nat → Fr → Hp → R} {k : Nat → R} {Φ : Out → Prop} (h : Ends f (Then (fun fr hp => Ends (fun n => g n fr hp) Φ) Φ)) (he : ∀ n l, f n = some l → k n = seqOut (g n) l) : Ends k Φ := by
  refine Ends.bind (g := fun n x => seqStep (g n) x) h (fun o ho => ?_) fun n l hl => (he n l hl).trans (seqOut_eq _ _)
  obtain ⟨ex, fr, hp, v⟩ := o
  cases ex with
  | normal => exact ho
  | ret => exact Ends.one (fun _ => rfl) ho
  | exit id => exact Ends.one (fun _ => rfl) ho

theorem runs_skip {ro : Option Nat} {fr : Fr} {hp : Hp} {Φ : Out → Prop} (h : Φ ⟨.normal, fr, hp, .lit undef⟩) : Runs P Γ (.code .skip ro fr hp) Φ := Runs.step (Ends.one (fun _ => rfl) h)
theorem runs_ret {ro : Option Nat} {fr : Fr} {hp : Hp} {Φ : Out → Prop} (h : Φ ⟨.ret, fr, hp, .lit undef⟩) : Runs P Γ (.code .ret ro fr hp) Φ := Runs.step (Ends.one (fun _ => rfl) h)
theorem runs_exit {id : Nat} {ro : Option Nat} {fr : Fr} {hp : Hp} {Φ : Out → Prop} (h : Φ ⟨.exit id, fr, hp, .lit undef⟩) : Runs P Γ (.code (.exit id) ro fr hp) Φ := Runs.step (Ends.one (fun _ => rfl) h)

theorem runs_seq {a b : Code} {ro : Option Nat} {fr : Fr} {hp : Hp} {Φ : Out → Prop} (h : Runs P Γ (.code a ro fr hp) (Then (fun f p => Runs P Γ (.code b ro f p) Φ) Φ)) : Runs P Γ (.code (.seq a b) ro fr hp) Φ :=
  Runs.step (seq_ends (g := fun n f p => run P Γ n (.code b ro f p)) h fun n l hl => by simp only [stepTask]; rw [hl])
theorem runs_loop {c : Code} {ro : Option Nat} {fr : Fr} {hp : Hp} {Φ : Out → Prop} (h : Runs P Γ (.code c ro fr hp) (Then (fun f p => Runs P Γ (.code (.loop c) ro f p) Φ) Φ)) : Runs P Γ (.code (.loop c) ro fr hp) Φ :=
  Runs.step (seq_ends (g := fun n f p => run P Γ n (.code (.loop c) ro f p)) h fun n l hl => by simp only [stepTask]; rw [hl])
theorem runs_cond {c : Operand} {x y : Code} {ro : Option Nat} {fr : Fr} {hp : Hp} {Φ : Out → Prop} (b : Bool) (hc : fr.ev c = .lit (.bool b)) (h : Runs P Γ (.code (bif b then x else y) ro fr hp) Φ) : Runs P Γ (.code (.cond c x y) ro fr hp) Φ := by
  refine Runs.step (Ends.eq h fun n => ?_)
  simp only [stepTask]
  rw [hc]
  cases b <;> rfl

/-- A block's end. -/
def atEnd (id : Nat) (x : Out) : Out := match x.exit with
  | .exit k => bif Nat.beq k id then { x with exit := .normal } else x
  | _ => x
theorem runs_block {id : Nat} {c : Code} {ro : Option Nat} {fr : Fr} {hp : Hp} {Φ : Out → Prop} (h : Runs P Γ (.code c ro fr hp) fun o => Φ (atEnd id o)) : Runs P Γ (.code (.block id c) ro fr hp) Φ := by
  obtain ⟨N, l, h1, h2⟩ := h
  refine Runs.step ⟨N, l.map (atEnd id), fun n hn => ?_, fun x hx => ?_⟩
  · have e : run P Γ n (.code c ro fr hp) = some l := h1 n hn
    simp only [stepTask, e]
    rfl
  · obtain ⟨y, hy, rfl⟩ := List.mem_map.1 hx
    exact h2 y hy

/-- Operations in turn. -/
def RunsOps (P : Program) (Γ : Glob) (ops : Array Oper) (l : List Oper) (fr : Fr) (hp : Hp) (Φ : Out → Prop) : Prop := Ends (fun n => inTurn P Γ (run P Γ n) ops l fr hp) Φ
theorem runs_region {id : Nat} {ops : Array Oper} {ro : Option Nat} {fr : Fr} {hp : Hp} {Φ : Out → Prop} (h : RunsOps P Γ ops ops.toList fr hp Φ) : Runs P Γ (.code (.region id ops false) ro fr hp) Φ := Runs.step h
theorem runs_draws {id : Nat} {ops : Array Oper} {ro : Option Nat} {fr : Fr} {hp : Hp} {Φ : Out → Prop} (hf : regionFit ops ops.toList 0 = true) (h : Ends (fun n => drawn P Γ (run P Γ n) ops (ops.size + 1) 0 [] fr hp) Φ) : Runs P Γ (.code (.region id ops true) ro fr hp) Φ := by
  refine Runs.step (Ends.eq h fun n => ?_)
  simp only [stepTask]
  rw [hf]
  rfl

theorem ops_nil {ops : Array Oper} {fr : Fr} {hp : Hp} {Φ : Out → Prop} (h : Φ ⟨.normal, fr, hp, .lit undef⟩) : RunsOps P Γ ops [] fr hp Φ := Ends.one (fun _ => rfl) h

theorem ops_cons {ops : Array Oper} {o : Oper} {l : List Oper} {fr : Fr} {hp : Hp} {Φ : Out → Prop} (h : Ends (fun n => oper P Γ (run P Γ n) ops fr hp o) fun x => RunsOps P Γ ops l x.1 x.2 Φ) : RunsOps P Γ ops (o :: l) fr hp Φ :=
  Ends.bind (α := Fr × Hp) (g := fun n (x : Fr × Hp) => inTurn P Γ (run P Γ n) ops l x.1 x.2) (Φ := fun x => RunsOps P Γ ops l x.1 x.2 Φ) h (fun _ hx => hx) fun n xs hxs => by simp only [inTurn]; rw [hxs]

/-- A quiet operation. -/
theorem ops_quiet {ops : Array Oper} {o : Oper} {l : List Oper} {fr fr' : Fr} {hp : Hp} {Φ : Out → Prop} {v : SV} {fs : List Fact} (hw : wantedQ ops fr o = some true) (hq : quiet P Γ hp fr.ev o.op = some (v, fs)) (hput : fr.put o.dst v = some fr')
    (h : RunsOps P Γ ops l fr' hp Φ) : RunsOps P Γ ops (o :: l) fr hp Φ :=
  ops_cons (Ends.one (x := (fr', hp)) (fun n => by simp only [oper, hw, hq, hput, Option.map_some]) h)
/-- One that is not wanted. -/
theorem ops_unwanted {ops : Array Oper} {o : Oper} {l : List Oper} {fr fr' : Fr} {hp : Hp} {Φ : Out → Prop} (hw : wantedQ ops fr o = some false) (hput : fr.put o.dst (.lit undef) = some fr') (h : RunsOps P Γ ops l fr' hp Φ) : RunsOps P Γ ops (o :: l) fr hp Φ :=
  ops_cons (Ends.one (x := (fr', hp)) (fun n => by simp only [oper, hw, hput, Option.map_some]) h)
/-- One that makes or turns memory. -/
theorem ops_effect {ops : Array Oper} {o : Oper} {l : List Oper} {fr fr' : Fr} {hp hp' : Hp} {Φ : Out → Prop} {v : SV} (hw : wantedQ ops fr o = some true) (hq : quiet P Γ hp fr.ev o.op = none) (hc : calleeOf fr.ev o.op = none)
    (he : effect P Γ hp fr.ev o.op = some [(v, hp')]) (hn : hp.next ≤ hp'.next) (hput : fr.put o.dst v = some fr') (h : RunsOps P Γ ops l fr' hp' Φ) : RunsOps P Γ ops (o :: l) fr hp Φ :=
  ops_cons (Ends.one (x := (fr', hp')) (fun n => by
    simp only [oper, hw, hq, loud, hc, he, List.all_cons, List.all_nil, Nat.ble_eq_true_of_le hn, Bool.and_self, cond_true, allOf, hput, Option.map_some]
    rfl) h)
theorem allOf_map {α β γ : Type} (f : β → Option (List γ)) (g : α → β) : ∀ l : List α, allOf f (l.map g) = allOf (fun a => f (g a)) l
  | [] => rfl
  | a :: l => by simp only [List.map_cons, allOf, allOf_map f g l]
/-- A call. -/
theorem ops_call {ops : Array Oper} {o : Oper} {l : List Oper} {fr : Fr} {hp : Hp} {Φ : Out → Prop} {f : FuncId} {args : List SV} (hw : wantedQ ops fr o = some true) (hq : quiet P Γ hp fr.ev o.op = none) (hc : calleeOf fr.ev o.op = some (.fn f args))
    (hcl : cloneE P hp f args = none) (h : Runs P Γ (.call f args hp) fun r => ∃ fr', fr.put o.dst r.v = some fr' ∧ RunsOps P Γ ops l fr' r.hp Φ) : RunsOps P Γ ops (o :: l) fr hp Φ := by
  refine ops_cons (Ends.bind (g := fun _ r => (fr.put o.dst r.v).map fun f => [(f, r.hp)]) h (fun r hr => ?_) fun n xs hxs => ?_)
  · obtain ⟨fr', h1, h2⟩ := hr
    exact Ends.one (x := (fr', r.hp)) (fun _ => by rw [h1]; rfl) h2
  · simp only [oper, hw, hq, loud, hc, hcl, hxs, Option.map_some]
    exact allOf_map _ _ xs

/-- What a call comes to when its body has ended. -/
theorem runs_call {f : FuncId} {fn : Func} {c : Code} {args : List SV} {hp : Hp} {Φ : Out → Prop} (hf : P.funcs[f]? = some fn) (hb : fn.body = some c)
    (h : Runs P Γ (.code c none ⟨T.ofList args 0 .leaf, Nat.max fn.ntmps args.length, []⟩ hp) fun o => ∃ r, leave P Γ fn o = some [r] ∧ Φ r) : Runs P Γ (.call f args hp) Φ := by
  refine Runs.step (Ends.bind (g := fun _ o => leave P Γ fn o) h (fun o ho => ?_) fun n xs hxs => ?_)
  · obtain ⟨r, h1, h2⟩ := ho
    exact Ends.one (fun _ => h1) h2
  · simp only [stepTask, hf, hb, hxs]

/-- **The bridge**: a call that comes to 'true' on all ways returns true, and leaves what there was. -/
theorem calls_of_runs (hN : NoCount P) (hmix : P.follows .mixedOrders = true) {m : Nat} {f : FuncId} {args : List SV} (θ : Ren) {w : World} (h : Runs P Γ (.call f args ⟨.leaf, m⟩) fun o => o.v = .lit (.bool true)) (hΓ : globMet Γ w) (hok : SV.okL (· < m) args) :
    Calls P f (concL θ args).toArray w fun e w' => e = .returned (.bool true) ∧ Below w.heap.size w w' := by
  obtain ⟨n, outs, h1, h2⟩ := h
  refine (calls_of_run (Γ := .plain Γ) hN hmix (h1 n (Nat.le_refl _)) (rep_start θ m hΓ trivial) hok).mono ?_
  rintro e w' ⟨o, hm, θ', K', _, rfl, _, hrep⟩
  rw [h2 o hm]
  exact ⟨rfl, hrep.below⟩
end
end Go.Proofs.YthjkejnmjbljfaaGreatDoor.Ev
