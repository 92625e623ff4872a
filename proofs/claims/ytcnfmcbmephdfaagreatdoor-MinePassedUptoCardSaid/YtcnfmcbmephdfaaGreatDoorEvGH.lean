/-
  WHAT THE EVALUATOR COMES TO, WITH ENOUGH FUEL: a calculus of its runs over states that hold variables, by the author of this claim. Of any program. | A ROW THAT A RUN OWNS, of whatever length, in the evaluator's heap: how it is appended to, by the author of this claim. Of any program. | A REGION THAT DRAWS ITS ORDER, IN THE CALCULUS OF RUNS, by the author of this claim: where at each time one loud operation is ready. Of any program. | A LIST THAT A RUN HAS MADE BY APPENDS, of whatever length: nil, or a row of its own; by the author of this claim. Of any program. | STEPS IN THE CALCULUS OF RUNS WHOSE FRAMES STAY SMALL, by the author of this claim: the same rules, the frame's slots named. Of any program. | A RANGE OVER A FUNCTION, IN THE CALCULUS OF RUNS, by the author of this claim: outside of other rounds. Of any program. | THE EVALUATOR WITH CALLS WHOSE WORD IS KNOWN, by the author of this claim: an oracle tells what a call comes to; each of its words is shown by hand. Of any program in which no function is runtime.NumGoroutine, and that draws the order in which a region's operations come. | WHAT CAME IN, AS THE EVALUATOR READS IT, by the author of this claim: a table of all blocks of a world; what a reading of the arguments says of their cells. Of any program. | THE CALCULUS OF RUNS OVER ANY ORACLE, by the author of this claim: the same rules (printed out of EvRuns and EvStep). | A CALL THAT LEAVES WHAT THERE WAS, AS A WORD: from what it comes to in the calculus of runs, at the memory that is there, to an oracle's word that says the memory is the same; by the author of this claim. Of any program.
-/
import Derived.Test.YtcnfmcbmephdfaaGreatDoorEvGF
import Derived.Test.YtcnfmcbmephdfaaGreatDoorEvGE
import Derived.DeepKeys4
namespace Go.Proofs.YtcnfmcbmephdfaaGreatDoor.Ev
open Go Go.RowKit
def Ends {α : Type} (f : Nat → Option (List α)) (Φ : α → Prop) : Prop := ∃ (N : Nat) (l : List α), (∀ n, N ≤ n → f n = some l) ∧ ∀ x ∈ l, Φ x
theorem Ends.mono {α : Type} {f : Nat → Option (List α)} {Φ Ψ : α → Prop} (h : Ends f Φ) (hp : ∀ x, Φ x → Ψ x) : Ends f Ψ := by
  obtain ⟨N, l, h1, h2⟩ := h
  exact ⟨N, l, h1, fun x hx => hp x (h2 x hx)⟩
theorem Ends.one {α : Type} {f : Nat → Option (List α)} {x : α} {Φ : α → Prop} (h : ∀ n, f n = some [x]) (hx : Φ x) : Ends f Φ :=
  ⟨0, [x], fun n _ => h n, fun y hy => by rw [List.mem_singleton.1 hy]; exact hx⟩
theorem Ends.eq {α : Type} {f g : Nat → Option (List α)} {Φ : α → Prop} (h : Ends f Φ) (he : ∀ n, g n = f n) : Ends g Φ := by
  obtain ⟨N, l, h1, h2⟩ := h
  exact ⟨N, l, fun n hn => (he n).trans (h1 n hn), h2⟩
theorem Ends.succ {α : Type} {f g : Nat → Option (List α)} {Φ : α → Prop} (h : Ends f Φ) (he : ∀ n, g (n + 1) = f n) : Ends g Φ := by
  obtain ⟨N, l, h1, h2⟩ := h
  refine ⟨N + 1, l, fun n hn => ?_, h2⟩
  obtain ⟨m, rfl⟩ : ∃ m, n = m + 1 := ⟨n - 1, by omega⟩
  rw [he]
  exact h1 m (by omega)
theorem Ends.all {α β : Type} {f : Nat → α → Option (List β)} {Φ : β → Prop} : ∀ (l : List α), (∀ a ∈ l, Ends (fun n => f n a) Φ) → Ends (fun n => allOf (f n) l) Φ
  | [], _ => ⟨0, [], fun _ _ => rfl, fun _ h => by cases h⟩
  | a :: l, h => by
    obtain ⟨N, x, h1, h2⟩ := h a (List.mem_cons_self ..)
    obtain ⟨M, y, h3, h4⟩ := Ends.all l fun b hb => h b (List.mem_cons_of_mem _ hb)
    refine ⟨max N M, x ++ y, fun n hn => ?_, fun z hz => (List.mem_append.1 hz).elim (h2 z) (h4 z)⟩
    have e1 : f n a = some x := h1 n (by omega)
    have e2 : allOf (f n) l = some y := h3 n (by omega)
    simp only [allOf, e1, e2]
theorem Ends.bind {α β : Type} {f : Nat → Option (List α)} {g : Nat → α → Option (List β)} {k : Nat → Option (List β)} {Φ : α → Prop} {Ψ : β → Prop} (h : Ends f Φ) (hg : ∀ a, Φ a → Ends (fun n => g n a) Ψ)
    (he : ∀ n l, f n = some l → k n = allOf (g n) l) : Ends k Ψ := by
  obtain ⟨N, l, h1, h2⟩ := h
  obtain ⟨M, r, h3, h4⟩ := Ends.all l fun a ha => hg a (h2 a ha)
  exact ⟨max N M, r, fun n hn => (he n l (h1 n (by omega))).trans (h3 n (by omega)), h4⟩
section
variable {P : Program} {Γ : Glob}
def Runs (P : Program) (Γ : Glob) (t : Task) (Φ : Out → Prop) : Prop := Ends (fun n => runO P Γ theMem n t) Φ
theorem Runs.mono {t : Task} {Φ Ψ : Out → Prop} (h : Runs P Γ t Φ) (hp : ∀ x, Φ x → Ψ x) : Runs P Γ t Ψ := Ends.mono h hp
theorem Runs.intro {t : Task} {Φ : Out → Prop} (n : Nat) {outs : List Out} (h : runO P Γ theMem n t = some outs) (hp : ∀ o ∈ outs, Φ o) : Runs P Γ t Φ :=
  ⟨n, outs, fun _ hm => runO_le hm t outs h, hp⟩
theorem Runs.step {t : Task} {Φ : Out → Prop} (h : Ends (fun n => stepO P Γ theMem (runO P Γ theMem n) t) Φ) : Runs P Γ t Φ := Ends.succ h fun n => runO_succ n t
def Then (next : Fr → Hp → Prop) (Φ : Out → Prop) (o : Out) : Prop := match o.exit with
  | .normal => next o.fr o.hp
  | _ => Φ o
def seqStep (g : Fr → Hp → R) (x : Out) : R := match x.exit with
  | .normal => g x.fr x.hp
  | _ => some [x]
theorem seqOut_eq (g : Fr → Hp → R) (l : List Out) : seqOut g l = allOf (seqStep g) l := rfl
theorem seq_ends {f : Nat → Option (List Out)} {g : Nat → Fr → Hp → R} {k : Nat → R} {Φ : Out → Prop} (h : Ends f (Then (fun fr hp => Ends (fun n => g n fr hp) Φ) Φ)) (he : ∀ n l, f n = some l → k n = seqOut (g n) l) : Ends k Φ := by
  refine Ends.bind (g := fun n x => seqStep (g n) x) h (fun o ho => ?_) fun n l hl => (he n l hl).trans (seqOut_eq _ _)
  obtain ⟨ex, fr, hp, v⟩ := o
  cases ex with
  | normal => exact ho
  | ret => exact Ends.one (fun _ => rfl) ho
  | exit id => exact Ends.one (fun _ => rfl) ho
theorem runs_skip {ro : Option Nat} {fr : Fr} {hp : Hp} {Φ : Out → Prop} (h : Φ ⟨.normal, fr, hp, .lit undef⟩) : Runs P Γ (.code .skip ro fr hp) Φ := Runs.step (Ends.one (fun _ => rfl) h)
theorem runs_ret {ro : Option Nat} {fr : Fr} {hp : Hp} {Φ : Out → Prop} (h : Φ ⟨.ret, fr, hp, .lit undef⟩) : Runs P Γ (.code .ret ro fr hp) Φ := Runs.step (Ends.one (fun _ => rfl) h)
theorem runs_exit {id : Nat} {ro : Option Nat} {fr : Fr} {hp : Hp} {Φ : Out → Prop} (h : Φ ⟨.exit id, fr, hp, .lit undef⟩) : Runs P Γ (.code (.exit id) ro fr hp) Φ := Runs.step (Ends.one (fun _ => rfl) h)
theorem runs_seq {a b : Code} {ro : Option Nat} {fr : Fr} {hp : Hp} {Φ : Out → Prop} (h : Runs P Γ (.code a ro fr hp) (Then (fun f p => Runs P Γ (.code b ro f p) Φ) Φ)) : Runs P Γ (.code (.seq a b) ro fr hp) Φ :=
  Runs.step (seq_ends (g := fun n f p => runO P Γ theMem n (.code b ro f p)) h fun n l hl => by simp only [stepO, stepTask]; rw [hl])
theorem runs_loop {c : Code} {ro : Option Nat} {fr : Fr} {hp : Hp} {Φ : Out → Prop} (h : Runs P Γ (.code c ro fr hp) (Then (fun f p => Runs P Γ (.code (.loop c) ro f p) Φ) Φ)) : Runs P Γ (.code (.loop c) ro fr hp) Φ :=
  Runs.step (seq_ends (g := fun n f p => runO P Γ theMem n (.code (.loop c) ro f p)) h fun n l hl => by simp only [stepO, stepTask]; rw [hl])
theorem runs_cond {c : Operand} {x y : Code} {ro : Option Nat} {fr : Fr} {hp : Hp} {Φ : Out → Prop} (b : Bool) (hc : fr.ev c = .lit (.bool b)) (h : Runs P Γ (.code (bif b then x else y) ro fr hp) Φ) : Runs P Γ (.code (.cond c x y) ro fr hp) Φ := by
  refine Runs.step (Ends.eq h fun n => ?_)
  simp only [stepO, stepTask]
  rw [hc]
  cases b <;> rfl
def atEnd (id : Nat) (x : Out) : Out := match x.exit with
  | .exit k => bif Nat.beq k id then { x with exit := .normal } else x
  | _ => x
theorem runs_block {id : Nat} {c : Code} {ro : Option Nat} {fr : Fr} {hp : Hp} {Φ : Out → Prop} (h : Runs P Γ (.code c ro fr hp) fun o => Φ (atEnd id o)) : Runs P Γ (.code (.block id c) ro fr hp) Φ := by
  obtain ⟨N, l, h1, h2⟩ := h
  refine Runs.step ⟨N, l.map (atEnd id), fun n hn => ?_, fun x hx => ?_⟩
  · have e : runO P Γ theMem n (.code c ro fr hp) = some l := h1 n hn
    simp only [stepO, stepTask, e]
    rfl
  · obtain ⟨y, hy, rfl⟩ := List.mem_map.1 hx
    exact h2 y hy
def RunsOps (P : Program) (Γ : Glob) (ops : Array Oper) (l : List Oper) (fr : Fr) (hp : Hp) (Φ : Out → Prop) : Prop := Ends (fun n => inTurn P Γ (runO P Γ theMem n) ops l fr hp) Φ
theorem runs_region {id : Nat} {ops : Array Oper} {ro : Option Nat} {fr : Fr} {hp : Hp} {Φ : Out → Prop} (h : RunsOps P Γ ops ops.toList fr hp Φ) : Runs P Γ (.code (.region id ops false) ro fr hp) Φ := Runs.step h
theorem runs_draws {id : Nat} {ops : Array Oper} {ro : Option Nat} {fr : Fr} {hp : Hp} {Φ : Out → Prop} (hf : regionFit ops ops.toList 0 = true) (h : Ends (fun n => drawn P Γ (runO P Γ theMem n) ops (ops.size + 1) 0 [] fr hp) Φ) : Runs P Γ (.code (.region id ops true) ro fr hp) Φ := by
  refine Runs.step (Ends.eq h fun n => ?_)
  simp only [stepO, stepTask]
  rw [hf]
  rfl
theorem ops_nil {ops : Array Oper} {fr : Fr} {hp : Hp} {Φ : Out → Prop} (h : Φ ⟨.normal, fr, hp, .lit undef⟩) : RunsOps P Γ ops [] fr hp Φ := Ends.one (fun _ => rfl) h
theorem ops_cons {ops : Array Oper} {o : Oper} {l : List Oper} {fr : Fr} {hp : Hp} {Φ : Out → Prop} (h : Ends (fun n => oper P Γ (runO P Γ theMem n) ops fr hp o) fun x => RunsOps P Γ ops l x.1 x.2 Φ) : RunsOps P Γ ops (o :: l) fr hp Φ :=
  Ends.bind (α := Fr × Hp) (g := fun n (x : Fr × Hp) => inTurn P Γ (runO P Γ theMem n) ops l x.1 x.2) (Φ := fun x => RunsOps P Γ ops l x.1 x.2 Φ) h (fun _ hx => hx) fun n xs hxs => by simp only [inTurn]; rw [hxs]
theorem ops_quiet {ops : Array Oper} {o : Oper} {l : List Oper} {fr fr' : Fr} {hp : Hp} {Φ : Out → Prop} {v : SV} {fs : List Fact} (hw : wantedQ ops fr o = some true) (hq : quiet P Γ hp fr.ev o.op = some (v, fs)) (hput : fr.put o.dst v = some fr')
    (h : RunsOps P Γ ops l fr' hp Φ) : RunsOps P Γ ops (o :: l) fr hp Φ :=
  ops_cons (Ends.one (x := (fr', hp)) (fun n => by simp only [oper, hw, hq, hput, Option.map_some]) h)
theorem ops_unwanted {ops : Array Oper} {o : Oper} {l : List Oper} {fr fr' : Fr} {hp : Hp} {Φ : Out → Prop} (hw : wantedQ ops fr o = some false) (hput : fr.put o.dst (.lit undef) = some fr') (h : RunsOps P Γ ops l fr' hp Φ) : RunsOps P Γ ops (o :: l) fr hp Φ :=
  ops_cons (Ends.one (x := (fr', hp)) (fun n => by simp only [oper, hw, hput, Option.map_some]) h)
theorem ops_effect {ops : Array Oper} {o : Oper} {l : List Oper} {fr fr' : Fr} {hp hp' : Hp} {Φ : Out → Prop} {v : SV} (hw : wantedQ ops fr o = some true) (hq : quiet P Γ hp fr.ev o.op = none) (hc : calleeOf fr.ev o.op = none)
    (he : effect P Γ hp fr.ev o.op = some [(v, hp')]) (hn : hp.next ≤ hp'.next) (hput : fr.put o.dst v = some fr') (h : RunsOps P Γ ops l fr' hp' Φ) : RunsOps P Γ ops (o :: l) fr hp Φ :=
  ops_cons (Ends.one (x := (fr', hp')) (fun n => by
    simp only [oper, hw, hq, loud, hc, he, List.all_cons, List.all_nil, Nat.ble_eq_true_of_le hn, Bool.and_self, cond_true, allOf, hput, Option.map_some]
    rfl) h)
theorem allOf_map {α β γ : Type} (f : β → Option (List γ)) (g : α → β) : ∀ l : List α, allOf f (l.map g) = allOf (fun a => f (g a)) l
  | [] => rfl
  | a :: l => by simp only [List.map_cons, allOf, allOf_map f g l]
theorem ops_call {ops : Array Oper} {o : Oper} {l : List Oper} {fr : Fr} {hp : Hp} {Φ : Out → Prop} {f : FuncId} {args : List SV} (hw : wantedQ ops fr o = some true) (hq : quiet P Γ hp fr.ev o.op = none) (hc : calleeOf fr.ev o.op = some (.fn f args))
    (hcl : cloneE P hp f args = none) (h : Runs P Γ (.call f args hp) fun r => ∃ fr', fr.put o.dst r.v = some fr' ∧ RunsOps P Γ ops l fr' r.hp Φ) : RunsOps P Γ ops (o :: l) fr hp Φ := by
  refine ops_cons (Ends.bind (g := fun _ r => (fr.put o.dst r.v).map fun f => [(f, r.hp)]) h (fun r hr => ?_) fun n xs hxs => ?_)
  · obtain ⟨fr', h1, h2⟩ := hr
    exact Ends.one (x := (fr', r.hp)) (fun _ => by rw [h1]; rfl) h2
  · simp only [oper, hw, hq, loud, hc, hcl, hxs, Option.map_some]
    exact allOf_map _ _ xs
theorem runs_call {f : FuncId} {fn : Func} {c : Code} {args : List SV} {hp : Hp} {Φ : Out → Prop} (hf : P.funcs[f]? = some fn) (hb : fn.body = some c)
    (h : Runs P Γ (.code c none ⟨T.ofList args 0 .leaf, Nat.max fn.ntmps args.length, []⟩ hp) fun o => ∃ r, leave P Γ fn o = some [r] ∧ Φ r) (hm : theMem f args hp = none := by rfl) : Runs P Γ (.call f args hp) Φ := by
  refine Runs.step (Ends.bind (g := fun _ o => leave P Γ fn o) h (fun o ho => ?_) fun n xs hxs => ?_)
  · obtain ⟨r, h1, h2⟩ := ho
    exact Ends.one (fun _ => h1) h2
  · simp only [stepO, hm, stepTask, hf, hb, hxs]
theorem runs_told {f : FuncId} {args : List SV} {hp : Hp} {outs : List Out} {Φ : Out → Prop} (hm : theMem f args hp = some outs) (h : ∀ o ∈ outs, Φ o) : Runs P Γ (.call f args hp) Φ :=
  ⟨1, outs, fun n hn => by
    obtain ⟨m, rfl⟩ : ∃ m, n = m + 1 := ⟨n - 1, by omega⟩
    show stepO P Γ theMem (runO P Γ theMem m) (.call f args hp) = some outs
    simp only [stepO, hm], h⟩
end
end Go.Proofs.YtcnfmcbmephdfaaGreatDoor.Ev
namespace Go.Proofs.YtcnfmcbmephdfaaGreatDoor.Ev
open Go Go.RowKit
theorem ev_set (tm : T SV) (n : Nat) (ms : List Nat) (d t : Nat) (v : SV) : Fr.ev ⟨tm.set d v, n, ms⟩ (.tmp t) = if t = d then v else Fr.ev ⟨tm, n, ms⟩ (.tmp t) := by
  simp only [Fr.ev, T.get_set]
  by_cases h : t = d
  · rw [if_pos h, if_pos h]
  · rw [if_neg h, if_neg h]
structure Kept (lo : Nat) (h h' : Hp) : Prop where
  next : h.next ≤ h'.next
  old : ∀ b, b < lo → h'.objs.get b = h.objs.get b
theorem Kept.refl (lo : Nat) (h : Hp) : Kept lo h h := ⟨Nat.le_refl _, fun _ _ => rfl⟩
theorem Kept.trans {lo : Nat} {a b c : Hp} (h : Kept lo a b) (h' : Kept lo b c) : Kept lo a c := ⟨Nat.le_trans h.next h'.next, fun k hk => (h'.old k hk).trans (h.old k hk)⟩
theorem Kept.less {lo lo' : Nat} {a b : Hp} (h : Kept lo a b) (hl : lo' ≤ lo) : Kept lo' a b := ⟨h.next, fun k hk => h.old k (by omega)⟩
theorem cut_whole (l : List SV) : cut l 0 l.length = some l := by
  simp only [cut, List.drop_zero, List.take_length]
  rw [beq_t rfl]
  rfl
end Go.Proofs.YtcnfmcbmephdfaaGreatDoor.Ev
namespace Go.Proofs.YtcnfmcbmephdfaaGreatDoor.Ev
open Go Go.RowKit
section
variable {P : Program} {Γ : Glob}
theorem allOf_one {α β : Type} (f : α → Option (List β)) (a : α) : allOf f [a] = f a := by
  simp only [allOf]
  cases f a with
  | none => rfl
  | some x => simp
def RunsDrawn (P : Program) (Γ : Glob) (ops : Array Oper) (k mask : Nat) (held : List Held) (fr : Fr) (hp : Hp) (Φ : Out → Prop) : Prop := Ends (fun n => drawn P Γ (runO P Γ theMem n) ops k mask held fr hp) Φ
theorem runs_drawn {id : Nat} {ops : Array Oper} {ro : Option Nat} {fr : Fr} {hp : Hp} {Φ : Out → Prop} (hf : regionFit ops ops.toList 0 = true) (h : RunsDrawn P Γ ops (ops.size + 1) 0 [] fr hp Φ) : Runs P Γ (.code (.region id ops true) ro fr hp) Φ := runs_draws hf h
variable {ops : Array Oper} {k mask : Nat} {held : List Held} {fr : Fr} {hp : Hp} {Φ : Out → Prop} {m' : Nat} {held' : List Held} {fr' : Fr} {hp' : Hp}
theorem drawn_end (ht : takeAll P Γ ops ops.toList 0 mask held fr hp = some (m', held', fr', hp')) (hr : readyNow m' ops.toList 0 = []) (hm : Nat.beq m' (2 ^ ops.size - 1) = true) (h : Φ ⟨.normal, fr', hp', .lit undef⟩) : RunsDrawn P Γ ops (k + 1) mask held fr hp Φ :=
  Ends.one (fun n => by simp only [drawn, ht, hr, hm, cond_true]) h
theorem drawn_call {i : Nat} {o : Oper} {f : FuncId} {args : List SV} (ht : takeAll P Γ ops ops.toList 0 mask held fr hp = some (m', held', fr', hp')) (hr : readyNow m' ops.toList 0 = [(i, o)]) (hw : wantedQ ops fr' o = some true)
    (hc : calleeOf fr'.ev o.op = some (.fn f args)) (hcl : cloneE P ⟨hide i held' hp'.objs, hp'.next⟩ f args = none)
    (h : Runs P Γ (.call f args ⟨hide i held' hp'.objs, hp'.next⟩) fun r => ∃ t fr2, showed i hp'.objs r.hp.objs held' r.hp.objs = some t ∧ fr'.put o.dst r.v = some fr2 ∧ factsStand r.hp i held' held' = true ∧ RunsDrawn P Γ ops k (m' ||| 2 ^ i) (drop i held') fr2 ⟨t, r.hp.next⟩ Φ) :
    RunsDrawn P Γ ops (k + 1) mask held fr hp Φ := by
  refine Ends.bind (g := fun n (r : Out) => match showed i hp'.objs r.hp.objs held' r.hp.objs, fr'.put o.dst r.v with
      | some t, some f => bif factsStand r.hp i held' held' then drawn P Γ (runO P Γ theMem n) ops k (m' ||| 2 ^ i) (drop i held') f ⟨t, r.hp.next⟩ else none
      | _, _ => none) h (fun r hr => ?_) fun n l hl => ?_
  · obtain ⟨t, fr2, h1, h2, h3, h4⟩ := hr
    refine Ends.eq h4 fun n => ?_
    simp only [h1, h2, h3, cond_true]
  · simp only [drawn, ht, hr, allOf_one, comesUp, hw, loud, hc, hcl, hl, Option.map_some]
    exact allOf_map _ _ l
theorem drawn_effect {i : Nat} {o : Oper} {v : SV} {h2 : Hp} {t : T AObj} {fr2 : Fr} (ht : takeAll P Γ ops ops.toList 0 mask held fr hp = some (m', held', fr', hp')) (hr : readyNow m' ops.toList 0 = [(i, o)]) (hw : wantedQ ops fr' o = some true)
    (hc : calleeOf fr'.ev o.op = none) (he : effect P Γ ⟨hide i held' hp'.objs, hp'.next⟩ fr'.ev o.op = some [(v, h2)]) (hn : hp'.next ≤ h2.next)
    (hs : showed i hp'.objs h2.objs held' h2.objs = some t) (hput : fr'.put o.dst v = some fr2) (hst : factsStand h2 i held' held' = true) (h : RunsDrawn P Γ ops k (m' ||| 2 ^ i) (drop i held') fr2 ⟨t, h2.next⟩ Φ) :
    RunsDrawn P Γ ops (k + 1) mask held fr hp Φ := by
  refine Ends.eq h fun n => ?_
  simp only [drawn, ht, hr, allOf_one, comesUp, hw, loud, hc, he, List.all_cons, List.all_nil, Nat.ble_eq_true_of_le hn, Bool.and_self, cond_true, hs, hput, hst]
variable {o : Oper} {rest : List Oper} {i : Nat} {res : Option (Nat × List Held × Fr × Hp)}
theorem take_done (hm : Nat.testBit mask i = true) (h : takeAll P Γ ops rest (i + 1) mask held fr hp = res) : takeAll P Γ ops (o :: rest) i mask held fr hp = res := by
  rw [← h, takeAll, hm, cond_true]
theorem take_wait (hm : Nat.testBit mask i = false) (hd : Nat.beq (Nat.land (depsOf o) mask) (depsOf o) = false) (h : takeAll P Γ ops rest (i + 1) mask held fr hp = res) : takeAll P Γ ops (o :: rest) i mask held fr hp = res := by
  rw [← h, takeAll, hm, cond_false, hd, cond_false]
theorem take_loud (hm : Nat.testBit mask i = false) (hd : Nat.beq (Nat.land (depsOf o) mask) (depsOf o) = true) (hw : wantedQ ops fr o = some true) (hq : quiet P Γ ⟨hide i held hp.objs, hp.next⟩ fr.ev o.op = none) (hl : localE P ⟨hide i held hp.objs, hp.next⟩ fr.ev o.op = none)
    (h : takeAll P Γ ops rest (i + 1) mask held fr hp = res) : takeAll P Γ ops (o :: rest) i mask held fr hp = res := by
  rw [← h, takeAll, hm, cond_false, hd, cond_true, hw]
  simp only [hq, hl]
theorem take_quiet {v : SV} {fr2 : Fr} (hm : Nat.testBit mask i = false) (hd : Nat.beq (Nat.land (depsOf o) mask) (depsOf o) = true) (hw : wantedQ ops fr o = some true) (hq : quiet P Γ ⟨hide i held hp.objs, hp.next⟩ fr.ev o.op = some (v, [])) (hput : fr.put o.dst v = some fr2)
    (h : takeAll P Γ ops rest (i + 1) (mask ||| 2 ^ i) held fr2 hp = res) : takeAll P Γ ops (o :: rest) i mask held fr hp = res := by
  rw [← h, takeAll, hm, cond_false, hd, cond_true, hw]
  simp only [hq, hput]
theorem take_lean {v : SV} {fs : Fact} {fr2 : Fr} (hm : Nat.testBit mask i = false) (hd : Nat.beq (Nat.land (depsOf o) mask) (depsOf o) = true) (hw : wantedQ ops fr o = some true) (hq : quiet P Γ ⟨hide i held hp.objs, hp.next⟩ fr.ev o.op = some (v, [fs])) (hput : fr.put o.dst v = some fr2)
    (h : takeAll P Γ ops rest (i + 1) (mask ||| 2 ^ i) (⟨descOf i ops.toList 0 0, [fs], none⟩ :: held) fr2 hp = res) : takeAll P Γ ops (o :: rest) i mask held fr hp = res := by
  rw [← h, takeAll, hm, cond_false, hd, cond_true, hw]
  simp only [hq, hput]
theorem take_local {v : SV} {b nx : Nat} {ob : AObj} {fr2 : Fr} (hm : Nat.testBit mask i = false) (hd : Nat.beq (Nat.land (depsOf o) mask) (depsOf o) = true) (hw : wantedQ ops fr o = some true) (hq : quiet P Γ ⟨hide i held hp.objs, hp.next⟩ fr.ev o.op = none)
    (hl : localE P ⟨hide i held hp.objs, hp.next⟩ fr.ev o.op = some (v, b, ob, nx)) (hn : noneLeans i b held = true) (hput : fr.put o.dst v = some fr2)
    (h : takeAll P Γ ops rest (i + 1) (mask ||| 2 ^ i) (⟨descOf i ops.toList 0 0, [], some (b, ob)⟩ :: held) fr2 ⟨hp.objs.set b ob, nx⟩ = res) : takeAll P Γ ops (o :: rest) i mask held fr hp = res := by
  rw [← h, takeAll, hm, cond_false, hd, cond_true, hw]
  simp only [hq, hl, hn, cond_true, hput]
end
end Go.Proofs.YtcnfmcbmephdfaaGreatDoor.Ev
namespace Go.Proofs.YtcnfmcbmephdfaaGreatDoor.Ev
open Go Go.RowKit
def RowIs (h : Hp) (lo bl : Nat) (e : TypeId) (size : Nat) (v : SV) (l : List (List SV)) : Prop :=
  (v = .lit (.slice none 0 0) ∧ l = []) ∨ (v = .row bl 0 l.length l.length bl ∧ lo ≤ bl ∧ bl < h.next ∧ h.objs.get bl = some (.row l.flatten e l.length bl size))
theorem RowIs.same {h : Hp} {lo bl : Nat} {e : TypeId} {size : Nat} {v : SV} {l : List (List SV)} (hr : RowIs h lo bl e size v l) : SV.one v = true ∧ SV.sameL [v] [v] = true := by
  rcases hr with ⟨rfl, _⟩ | ⟨rfl, _⟩
  · exact ⟨rfl, rfl⟩
  · refine ⟨rfl, ?_⟩
    simp [SV.sameL, SV.same]
theorem RowIs.kept {h h' : Hp} {lo bl : Nat} {e : TypeId} {size : Nat} {v : SV} {l : List (List SV)} (hr : RowIs h lo bl e size v l) (hn : h.next ≤ h'.next) (hg : bl < h.next → lo ≤ bl → h'.objs.get bl = h.objs.get bl) : RowIs h' lo bl e size v l := by
  rcases hr with hr | ⟨r1, r2, r3, r4⟩
  · exact .inl hr
  · exact .inr ⟨r1, r2, by omega, (hg r3 r2).trans r4⟩
theorem RowIs.len {P : Program} {h h' : Hp} {lo bl : Nat} {t e e' : TypeId} {size : Nat} {v : SV} {l : List (List SV)} (ht : tyU P t = some (.slice e')) (hr : RowIs h lo bl e size v l) (hnil : lenQ P h' t (.lit (.slice none 0 0)) = some (.lit (.int .i64 0), [])) : lenQ P h' t v = some (.lit (.int .i64 (Int.ofNat l.length)), []) := by
  rcases hr with ⟨rfl, rfl⟩ | ⟨rfl, _⟩
  · exact hnil
  · simp only [lenQ, ht]
    rfl
theorem build_one {P : Program} {h : Hp} {st e : TypeId} {n : Nat} {z : Value} {c : List SV} {v : SV} (hst : tyU P st = some (.slice e)) (hs : tySize P e = some n) (hz : tyZero P e = some z) (hzs : (SV.cells (.lit z)).length = n) (hn : 0 < n) (hn2 : n ≤ 1000) (hv : v.cells = c) (hc : c.length = n) (hone : c.all SV.one = true) :
    buildSliceE P h st 1 [(0, v)] = some (.slice h.next 0 1 1, ⟨h.objs.set h.next (.cells c e), h.next + 1⟩) := by
  have hrep : repeatL (SV.cells (.lit z)) 1 = SV.cells (.lit z) := by simp only [repeatL, List.append_nil]
  have hsp : splice (SV.cells (.lit z)) (0 * n) c = some c := by
    simp only [splice, Nat.zero_mul, Nat.zero_add, hc, hzs, Nat.ble_eq_true_of_le (Nat.le_refl _), hone, Bool.and_self, cond_true, List.take_zero, List.nil_append]
    rw [← hzs, List.drop_length, List.append_nil]
  have hcond : (Nat.ble (1 * n) 16777216 && Nat.beq (SV.cells (.lit z)).length n) = true := by
    rw [Nat.ble_eq_true_of_le (by omega), beq_t hzs]; rfl
  have h0 : Nat.beq (1 * n) 0 = false := beq_f (by omega)
  simp only [buildSliceE, hst, hs, hz, hcond, cond_true, h0, cond_false, hrep, fillQ, hv, beq_t hc, hsp, Hp.new]
theorem get_same {α : Type} {t : T α} {k : Nat} {v : α} : (t.set k v).get k = some v := by rw [T.get_set, if_pos rfl]
theorem get_ne {α : Type} {t : T α} {k j : Nat} {v : α} (h : j ≠ k) : (t.set k v).get j = t.get j := by rw [T.get_set, if_neg h]
end Go.Proofs.YtcnfmcbmephdfaaGreatDoor.Ev
namespace Go.Proofs.YtcnfmcbmephdfaaGreatDoor.Ev
open Go Go.RowKit
section
variable {P : Program} {Γ : Glob} {ops : Array Oper} {o : Oper} {l : List Oper} {tm : T SV} {n d : Nat} {ms : List Nat} {hp hp' : Hp} {Φ : Out → Prop} {v : SV} {fs : List Fact}
theorem put_slot (hd : o.dst = some d) (hn : Nat.blt d n = true) : Fr.put ⟨tm, n, ms⟩ o.dst v = some ⟨tm.set d v, n, ms⟩ := by
  rw [hd]
  simp only [Fr.put, hn, cond_true]
theorem ops_q (hw : wantedQ ops ⟨tm, n, ms⟩ o = some true) (hq : quiet P Γ hp (Fr.ev ⟨tm, n, ms⟩) o.op = some (v, fs)) (hd : o.dst = some d) (hn : Nat.blt d n = true) (h : RunsOps P Γ ops l ⟨tm.set d v, n, ms⟩ hp Φ) : RunsOps P Γ ops (o :: l) ⟨tm, n, ms⟩ hp Φ :=
  ops_quiet hw hq (put_slot hd hn) h
theorem ops_u (hw : wantedQ ops ⟨tm, n, ms⟩ o = some false) (hd : o.dst = some d) (hn : Nat.blt d n = true) (h : RunsOps P Γ ops l ⟨tm.set d (.lit undef), n, ms⟩ hp Φ) : RunsOps P Γ ops (o :: l) ⟨tm, n, ms⟩ hp Φ :=
  ops_unwanted hw (put_slot hd hn) h
theorem ops_e (hw : wantedQ ops ⟨tm, n, ms⟩ o = some true) (hq : quiet P Γ hp (Fr.ev ⟨tm, n, ms⟩) o.op = none) (hc : calleeOf (Fr.ev ⟨tm, n, ms⟩) o.op = none) (he : effect P Γ hp (Fr.ev ⟨tm, n, ms⟩) o.op = some [(v, hp')]) (hx : hp.next ≤ hp'.next) (hd : o.dst = some d) (hn : Nat.blt d n = true)
    (h : RunsOps P Γ ops l ⟨tm.set d v, n, ms⟩ hp' Φ) : RunsOps P Γ ops (o :: l) ⟨tm, n, ms⟩ hp Φ :=
  ops_effect hw hq hc he hx (put_slot hd hn) h
theorem ops_e0 (hw : wantedQ ops ⟨tm, n, ms⟩ o = some true) (hq : quiet P Γ hp (Fr.ev ⟨tm, n, ms⟩) o.op = none) (hc : calleeOf (Fr.ev ⟨tm, n, ms⟩) o.op = none) (he : effect P Γ hp (Fr.ev ⟨tm, n, ms⟩) o.op = some [(v, hp')]) (hx : hp.next ≤ hp'.next) (hd : o.dst = none)
    (h : RunsOps P Γ ops l ⟨tm, n, ms⟩ hp' Φ) : RunsOps P Γ ops (o :: l) ⟨tm, n, ms⟩ hp Φ :=
  ops_effect hw hq hc he hx (by rw [hd]; rfl) h
theorem ops_c {f : FuncId} {args : List SV} (hw : wantedQ ops ⟨tm, n, ms⟩ o = some true) (hq : quiet P Γ hp (Fr.ev ⟨tm, n, ms⟩) o.op = none) (hc : calleeOf (Fr.ev ⟨tm, n, ms⟩) o.op = some (.fn f args)) (hcl : cloneE P hp f args = none) (hd : o.dst = some d) (hn : Nat.blt d n = true)
    (h : Runs P Γ (.call f args hp) fun r => RunsOps P Γ ops l ⟨tm.set d r.v, n, ms⟩ r.hp Φ) : RunsOps P Γ ops (o :: l) ⟨tm, n, ms⟩ hp Φ :=
  ops_call hw hq hc hcl (h.mono fun _ hr => ⟨_, put_slot hd hn, hr⟩)
theorem store_eff {h : Hp} {ρ : Operand → SV} {t : TypeId} {a x : Operand} {b off m : Nat} {l l' : List SV} {e : TypeId} (hs : tySize P t = some m) (ha : ρ a = .ptr b off) (hx : ρ x = v) (hl : v.cells.length = m) (hb : h.objs.get b = some (.cells l e)) (hsp : splice l off v.cells = some l') :
    effect P Γ h ρ (.store t a x) = some [(.lit undef, ⟨h.objs.set b (.cells l' e), h.next⟩)] := by
  simp only [effect, storeE, hs, ha, hx, beq_t hl, cond_true, hb, hsp, Option.map_some, Hp.upd, unit]
variable {k mask m' i : Nat} {held held' : List Held} {rest : List Oper} {res : Option (Nat × List Held × Fr × Hp)}
theorem take_q (hm : Nat.testBit mask i = false) (hdp : Nat.beq (Nat.land (depsOf o) mask) (depsOf o) = true) (hw : wantedQ ops ⟨tm, n, ms⟩ o = some true) (hq : quiet P Γ ⟨hide i held hp.objs, hp.next⟩ (Fr.ev ⟨tm, n, ms⟩) o.op = some (v, [])) (hd : o.dst = some d) (hn : Nat.blt d n = true)
    (h : takeAll P Γ ops rest (i + 1) (mask ||| 2 ^ i) held ⟨tm.set d v, n, ms⟩ hp = res) : takeAll P Γ ops (o :: rest) i mask held ⟨tm, n, ms⟩ hp = res :=
  take_quiet hm hdp hw hq (put_slot hd hn) h
theorem take_f {fact : Fact} (hm : Nat.testBit mask i = false) (hdp : Nat.beq (Nat.land (depsOf o) mask) (depsOf o) = true) (hw : wantedQ ops ⟨tm, n, ms⟩ o = some true) (hq : quiet P Γ ⟨hide i held hp.objs, hp.next⟩ (Fr.ev ⟨tm, n, ms⟩) o.op = some (v, [fact])) (hd : o.dst = some d) (hn : Nat.blt d n = true)
    (h : takeAll P Γ ops rest (i + 1) (mask ||| 2 ^ i) (⟨descOf i ops.toList 0 0, [fact], none⟩ :: held) ⟨tm.set d v, n, ms⟩ hp = res) : takeAll P Γ ops (o :: rest) i mask held ⟨tm, n, ms⟩ hp = res :=
  take_lean hm hdp hw hq (put_slot hd hn) h
theorem drawn_c {tm' : T SV} {f : FuncId} {args : List SV} {fr0 : Fr} {h0 : Hp} (ht : takeAll P Γ ops ops.toList 0 mask held fr0 h0 = some (m', held', ⟨tm', n, ms⟩, hp)) (hr : readyNow m' ops.toList 0 = [(i, o)]) (hw : wantedQ ops ⟨tm', n, ms⟩ o = some true)
    (hc : calleeOf (Fr.ev ⟨tm', n, ms⟩) o.op = some (.fn f args)) (hcl : cloneE P ⟨hide i held' hp.objs, hp.next⟩ f args = none) (hd : o.dst = some d) (hn : Nat.blt d n = true)
    (h : Runs P Γ (.call f args ⟨hide i held' hp.objs, hp.next⟩) fun r => ∃ t, showed i hp.objs r.hp.objs held' r.hp.objs = some t ∧ factsStand r.hp i held' held' = true ∧ RunsDrawn P Γ ops k (m' ||| 2 ^ i) (drop i held') ⟨tm'.set d r.v, n, ms⟩ ⟨t, r.hp.next⟩ Φ) :
    RunsDrawn P Γ ops (k + 1) mask held fr0 h0 Φ :=
  drawn_call ht hr hw hc hcl (h.mono fun _ ⟨t, h1, h2, h3⟩ => ⟨t, _, h1, put_slot hd hn, h2, h3⟩)
end
end Go.Proofs.YtcnfmcbmephdfaaGreatDoor.Ev
namespace Go.Proofs.YtcnfmcbmephdfaaGreatDoor.Ev
open Go Go.RowKit
section
variable {P : Program} {Γ : Glob}
theorem runs_range {g : Operand} {ps : Array Tmp} {assign body : Code} {fr : Fr} {hp : Hp} {f : FuncId} {args : List SV} {Φ : Out → Prop} (hc : seqCallee (fr.ev g) (hp.next + 1) = some (f, args))
    (h : Runs P Γ (.call f args ⟨(hp.objs.set hp.next (.deferred true)).set (hp.next + 1) (.loop ⟨.ready, none, 0, fr.tmps, fr.sz, ps, assign, body, hp.next⟩), hp.next + 2⟩) fun r => ∃ x, loopEnd (hp.next + 1) { fr with marks := hp.next :: fr.marks } r = some [x] ∧ Φ x) :
    Runs P Γ (.code (.rangeFunc g ps assign body) none fr hp) Φ := by
  refine Runs.step (Ends.bind (g := fun _ r => loopEnd (hp.next + 1) { fr with marks := hp.next :: fr.marks } r) h (fun r hr => ?_) fun n l hl => ?_)
  · obtain ⟨x, h1, h2⟩ := hr
    exact Ends.one (fun _ => h1) h2
  · simp only [stepO, stepTask, loopStart, Hp.new]
    have hl : runO P Γ theMem n (.call f args ⟨(hp.objs.set hp.next (.deferred true)).set (hp.next + 1) (.loop ⟨.ready, none, 0, fr.tmps, fr.sz, ps, assign, body, hp.next⟩), hp.next + 2⟩) = some l := hl
    simp only [hc, hl]
end
end Go.Proofs.YtcnfmcbmephdfaaGreatDoor.Ev
namespace Go.Proofs.YtcnfmcbmephdfaaGreatDoor.Ev
open Go Go.RowKit
section
variable {P : Program} {Γ : Env}
def OracleOk (P : Program) (Γ : Env) (mem : Oracle) : Prop := ∀ f args hp outs, mem f args hp = some outs → (∃ fn c, P.funcs[f]? = some fn ∧ fn.body = some c) ∧
    ∀ X w0 θ K w, Rep Γ X w0 θ K hp w → SV.okL K args → CallsIn Fence.wide 0 P f (concL θ args).toArray w (CPost Γ X w0 θ K hp.next outs)
theorem stepO_sound (hN : NoCount P) (hmix : P.follows .mixedOrders = true) {mem : Oracle} (hmem : OracleOk P Γ mem) {self : Task → R} {m : Nat} (hS : Sound P Γ self) (hL : Loops P Γ m self) :
    Sound P Γ (stepO P Γ mem self) ∧ Loops P Γ (m + 1) (stepO P Γ mem self) := by
  obtain ⟨h1, h2⟩ := step_sound hN hmix hS hL
  refine ⟨⟨h1.code, fun f args hp outs hq => ?_, h1.round⟩, h2⟩
  simp only [stepO] at hq
  split at hq
  · rename_i os hos
    simp only [Option.some.injEq] at hq
    subst hq
    exact hmem f args hp _ hos
  · exact h1.call f args hp outs hq
theorem runO_sound (hN : NoCount P) (hmix : P.follows .mixedOrders = true) {mem : Oracle} (hmem : OracleOk P Γ mem) : ∀ n, Sound P Γ (runO P Γ mem n) ∧ Loops P Γ n (runO P Γ mem n)
  | 0 => ⟨⟨fun _ _ _ _ _ h => (by cases h), fun _ _ _ _ h => (by cases h), fun _ _ _ _ h => (by cases h)⟩, fun _ _ _ _ _ h => (by cases h)⟩
  | n + 1 => stepO_sound hN hmix hmem (runO_sound hN hmix hmem n).1 (runO_sound hN hmix hmem n).2
theorem Rep.behind {X : Nat → Prop} {w0 : World} {θ : Ren} {K : Nat → Prop} {hp : Hp} {w w' : World} (hr : Rep Γ X w0 θ K hp w) (hb : Below w.heap.size w w') : Rep Γ X w0 θ K hp w' := by
  obtain ⟨b1, b2, b3, b4, b5⟩ := hb
  refine ⟨b1.trans hr.os, b2.trans hr.tape, b3.trans hr.output, Nat.le_trans hr.size b4, fun k hk => (b5 k ?_).trans (hr.kept k hk), hr.low, hr.glob, fun b o hb => ?_, hr.inj, hr.next, hr.inv⟩
  · exact Nat.lt_of_lt_of_le (hr.low k hk) hr.size
  · obtain ⟨k1, k2, k3, ob, k4, k5⟩ := hr.obj b o hb
    exact ⟨k1, k2, k3, ob, (b5 _ (Array.getElem?_eq_some_iff.1 k4).1).trans k4, k5⟩
def told (hp : Hp) (vs : List Value) : List Out := vs.map fun v => ⟨.ret, ⟨.leaf, 0, []⟩, hp, .lit v⟩
theorem told_post {X : Nat → Prop} {w0 : World} {θ : Ren} {K : Nat → Prop} {hp : Hp} {w : World} (hr : Rep Γ X w0 θ K hp w) {f : FuncId} {args : Array Value} {vs : List Value}
    (h : Calls P f args w fun e w' => (∃ v ∈ vs, e = .returned v) ∧ Below w.heap.size w w') : CallsIn Fence.wide 0 P f args w (CPost Γ X w0 θ K hp.next (told hp vs)) := by
  refine callsIn_wide.2 (h.mono ?_)
  rintro e w' ⟨⟨v, hv, rfl⟩, hb⟩
  exact ⟨_, List.mem_map.2 ⟨v, hv, rfl⟩, θ, K, Grow.refl _ _ _, rfl, trivial, hr.behind hb⟩
theorem noOracle (Γ : Env) : OracleOk P Γ fun _ _ _ => none := fun _ _ _ _ h => by cases h
end
end Go.Proofs.YtcnfmcbmephdfaaGreatDoor.Ev
namespace Go.Proofs.YtcnfmcbmephdfaaGreatDoor.Ev
open Go Go.RowKit
section
variable {H : Type} {enc : TypeId × Value → H} {P : Program} {w : World} {base : Nat} {sp : Nat → Bool} {held : Bool}
end
def objCells : Obj → Option (List Value)
  | .cells c _ _ => some c.toList
  | _ => none
theorem objCells_spec {o : Obj} {cs : List Value} (h : objCells o = some cs) : ∃ c e fr, o = .cells c e fr ∧ cs = c.toList := by
  cases o with
  | cells c e fr => exact ⟨c, e, fr, rfl, (Option.some.inj h).symm⟩
  | _ => cases h
def cellsTab : List Obj → Nat → Glob → Glob
  | [], _, t => t
  | o :: l, k, t => cellsTab l (k + 1) (t.put k (objCells o))
theorem cellsTab_lt : ∀ (l : List Obj) (k : Nat) (t : Glob) (g : Nat), g < k → (cellsTab l k t).get g = t.get g
  | [], _, _, _, _ => rfl
  | o :: l, k, t, g, h => by
    rw [cellsTab, cellsTab_lt l (k + 1) _ g (by omega), T.get_put, if_neg (by omega)]
theorem cellsTab_get : ∀ (l : List Obj) (k : Nat) (t : Glob) (g : Nat), (∀ i, k ≤ i → t.get i = none) → (cellsTab l k t).get (k + g) = (l[g]?).bind objCells
  | [], k, t, g, ht => by rw [cellsTab, ht _ (by omega)]; rfl
  | o :: l, k, t, 0, _ => by
    show (cellsTab l (k + 1) (t.put k (objCells o))).get k = _
    rw [cellsTab_lt l (k + 1) _ k (by omega), T.get_put, if_pos rfl]
    rfl
  | o :: l, k, t, g + 1, ht => by
    rw [cellsTab, show k + (g + 1) = (k + 1) + g by omega, cellsTab_get l (k + 1) _ g fun i hi => by rw [T.get_put, if_neg (by omega), ht i (by omega)]]
    rfl
def allTab (w : World) : Glob := cellsTab w.heap.toList 0 .leaf
theorem allTab_spec {w : World} {g : Nat} {cs : List Value} : (allTab w).get g = some cs ↔ ∃ c e fr, w.heap[g]? = some (.cells c e fr) ∧ cs = c.toList := by
  have := cellsTab_get w.heap.toList 0 .leaf g fun _ _ => rfl
  rw [Nat.zero_add, Array.getElem?_toList] at this
  show (cellsTab w.heap.toList 0 .leaf).get g = some cs ↔ _
  rw [this]
  constructor
  · intro h
    obtain ⟨o, h1, h2⟩ := Option.bind_eq_some_iff.1 h
    obtain ⟨c, e, fr, rfl, rfl⟩ := objCells_spec h2
    exact ⟨c, e, fr, h1, rfl⟩
  · rintro ⟨c, e, fr, h1, rfl⟩
    rw [h1]
    rfl
theorem allTab_met (w : World) : globMet (allTab w) w := fun g cs h => by
  obtain ⟨c, e, fr, h1, rfl⟩ := allTab_spec.1 h
  exact ⟨e, fr, by rw [h1]⟩
def Glob.le (Γ Γ' : Glob) : Prop := ∀ g cs, Γ.get g = some cs → Γ'.get g = some cs
theorem cells_read {w : World} {b : Nat} {a : Addr} {n : Nat} {cs : List Value} (hn : 0 < n) (h : w.cells? b a n = some cs) (hp : Hp) : a.spot = none ∧ cs.length = n ∧ readCells (allTab w) hp (.lit (.pointer (some ⟨a.block, a.off, none⟩))) n = some (cs.map .lit, []) := by
  unfold World.cells? at h
  split at h
  case isFalse => cases h
  have hlen : cs.length = n := by have := mapM_some_length h; simpa using this
  have hget : ∀ i, i < n → w.cell? (a.add i) = cs[i]? := fun i hi => mapM_some_get h i i (by simp [hi])
  have h0 : w.cell? a = some cs[0] := by
    have := hget 0 hn
    rw [List.getElem?_eq_getElem (by omega)] at this
    exact this
  unfold World.cell? at h0
  split at h0
  case h_2 => cases h0
  rename_i c e fr hb
  split at h0
  case isTrue => cases h0
  rename_i hs
  have hs : a.spot = none := by simpa using hs
  refine ⟨hs, hlen, ?_⟩
  have hcut : ∀ i, i < n → c.toList[a.off + i]? = cs[i]? := fun i hi => by
    have := hget i hi
    unfold World.cell? at this
    have hblk : (a.add i).block = a.block := by unfold Addr.add; split <;> rfl
    have hoff : (a.add i).off = a.off + i := by unfold Addr.add; split <;> simp_all
    have hsp : (a.add i).spot = none := by unfold Addr.add; split <;> simp_all
    rw [hblk, hb, hsp, hoff] at this
    simpa using this
  have hl : ((c.toList.map SV.lit).drop a.off).take n = cs.map SV.lit := by
    apply List.ext_getElem?
    intro i
    rw [List.getElem?_take]
    by_cases hi : i < n
    · rw [if_pos hi, List.getElem?_drop, List.getElem?_map, List.getElem?_map, hcut i hi]
    · rw [if_neg hi, List.getElem?_eq_none]
      simp only [List.length_map]
      omega
  have hg : (allTab w).get a.block = some c.toList := allTab_spec.2 ⟨c, e, fr, hb, rfl⟩
  simp only [readCells, hg, Option.bind_some, cut, hl, List.length_map, beq_t hlen, cond_true]
theorem slice_read {H : Type} {enc : TypeId × Value → H} {P : Program} {w : World} {sp : Nat → Bool} {held : Bool} {fuel : Nat} {t e : TypeId} {cs : List Value} {d : DataW H} {ps : List MemPlace} (hu : P.underlying t = some (.slice e)) (hs : 0 < P.cellsOf e)
    (h : DataW.trod enc P w 0 sp held (fuel + 1) t cs = some (d, ps)) :
    (∃ p cap, cs = [.slice p 0 cap]) ∨ ∃ (g off cap : Nat) (kids : List (List Value × DataW H)), cs = [.slice (some ⟨g, off, none⟩) kids.length cap] ∧ (∃ rest, d = .slice (kids.map (·.2)) rest) ∧
      ∀ k x, kids[k]? = some x → x.1.length = P.cellsOf e ∧ (∃ ps', DataW.trod enc P w 0 sp held fuel e x.1 = some (x.2, ps')) ∧ ∀ hp : Hp, readCells (allTab w) hp (.lit (.pointer (some ⟨g, off + k * P.cellsOf e, none⟩))) (P.cellsOf e) = some (x.1.map .lit, []) := by
  unfold DataW.trod at h
  rw [hu] at h
  split at h
  all_goals (try (rename_i hh; cases hh; done))
  all_goals (try (rename_i hh _; cases hh; done))
  all_goals (try (cases h; done))
  case h_7 => exact .inl ⟨_, _, rfl⟩
  case h_8 e' a len cap heq =>
    cases heq
    split at h
    case isFalse => cases h
    obtain ⟨elems, he, h⟩ := Option.bind_eq_some_iff.1 h
    obtain ⟨rest, _, hd⟩ := Option.map_eq_some_iff.1 h
    rcases Nat.eq_zero_or_pos len with rfl | hpos
    · exact .inl ⟨_, _, rfl⟩
    have hel : elems.length = len := by have := mapM_some_length he; simpa using this
    have hat : ∀ k, k < len → ∃ cs x, w.cells? 0 (a.add (k * P.cellsOf e)) (P.cellsOf e) = some cs ∧ elems[k]? = some x ∧ DataW.trod enc P w 0 sp held fuel e cs = some x := fun k hk => by
      have h1 := mapM_some_get he k k (by simp [hk])
      rw [List.getElem?_eq_getElem (by omega)] at h1
      obtain ⟨cs, h2, h3⟩ := Option.bind_eq_some_iff.1 h1
      exact ⟨cs, elems[k], h2, List.getElem?_eq_getElem (by omega), h3⟩
    have hspot : a.spot = none := by
      obtain ⟨cs, x, h1, _⟩ := hat 0 hpos
      rw [Nat.zero_mul] at h1
      exact (cells_read hs h1 ⟨.leaf, 0⟩).1
    obtain ⟨blk, off, sp'⟩ := a
    obtain rfl : sp' = none := hspot
    let kids : List (List Value × DataW H) := (List.range len).map fun i => ((w.cells? 0 (Addr.add ⟨blk, off, none⟩ (i * P.cellsOf e)) (P.cellsOf e)).getD [], ((elems[i]?).map (·.1)).getD .nil)
    have hkl : kids.length = len := by simp [kids]
    refine .inr ⟨blk, off, cap, kids, by rw [hkl], ⟨rest.map (·.1), ?_⟩, fun k x hx => ?_⟩
    · have : d = .slice (elems.map (·.1)) (rest.map (·.1)) := (congrArg Prod.fst hd).symm
      rw [this]
      congr 1
      apply List.ext_getElem?
      intro i
      by_cases hi : i < len
      · obtain ⟨_, x, _, h2, _⟩ := hat i hi
        simp [kids, List.getElem?_map, hi, h2]
      · simp [kids, hi, hel]
    · have hk : k < len := by have := (List.getElem?_eq_some_iff.1 hx).1; omega
      obtain ⟨cs, y, h1, h2, h3⟩ := hat k hk
      have hx' : x = (cs, y.1) := by
        simp [kids, hk, h1, h2] at hx
        exact hx.symm
      subst hx'
      have hadd : ∀ hp, readCells (allTab w) hp (.lit (.pointer (some ⟨blk, off + k * P.cellsOf e, none⟩))) (P.cellsOf e) = some (cs.map .lit, []) := fun hp => by
        have := (cells_read hs h1 hp).2.2
        have hblk : (Addr.add ⟨blk, off, none⟩ (k * P.cellsOf e)).block = blk := by unfold Addr.add; split <;> rfl
        have hoff : (Addr.add ⟨blk, off, none⟩ (k * P.cellsOf e)).off = off + k * P.cellsOf e := by unfold Addr.add; split <;> simp_all
        rw [hblk, hoff] at this
        exact this
      exact ⟨(cells_read hs h1 ⟨.leaf, 0⟩).2.1, ⟨y.2, h3⟩, hadd⟩
theorem struct_read {H : Type} {enc : TypeId × Value → H} {P : Program} {w : World} {b : Nat} {sp : Nat → Bool} {held : Bool} {fuel : Nat} {t : TypeId} {fs : Array Field} {cs : List Value} {d : DataW H} {ps : List MemPlace} (hu : P.underlying t = some (.struct fs))
    (h : DataW.trod enc P w b sp held (fuel + 1) t cs = some (d, ps)) :
    cs.length = P.cellsOf t ∧ ∃ xs : List (DataW H × List MemPlace), d = .agg (xs.map (·.1)) ∧ ∀ (j : Nat) (f : Field), fs.toList[j]? = some f → ∃ x, xs[j]? = some x ∧ DataW.trod enc P w b sp held fuel f.type ((cs.drop f.offset).take (P.cellsOf f.type)) = some x := by
  unfold DataW.trod at h
  rw [hu] at h
  split at h
  all_goals (try (rename_i hh; cases hh; done))
  all_goals (try (rename_i hh _; cases hh; done))
  all_goals (try (cases h; done))
  all_goals (try (exact (‹∀ fs_1 : Array Field, some (TypeDesc.struct fs) = some (TypeDesc.struct fs_1) → False› fs rfl).elim))
  rename_i heq
  cases heq
  split at h
  case isFalse => cases h
  rename_i hl
  obtain ⟨xs, h1, h2⟩ := Option.map_eq_some_iff.1 h
  refine ⟨hl, xs, (congrArg Prod.fst h2).symm, fun j f hf => ?_⟩
  have := mapM_some_get h1 j f hf
  have hx : j < xs.length := by have := mapM_some_length h1; have := (List.getElem?_eq_some_iff.1 hf).1; omega
  rw [List.getElem?_eq_getElem hx] at this
  exact ⟨xs[j], List.getElem?_eq_getElem hx, this⟩
end Go.Proofs.YtcnfmcbmephdfaaGreatDoor.Ev
namespace Go.Proofs.YtcnfmcbmephdfaaGreatDoor.Ev.O
open Go Go.RowKit Go.Proofs.YtcnfmcbmephdfaaGreatDoor.Ev
section
variable {P : Program} {Γ : Glob} {mem : Oracle}
def Runs (P : Program) (Γ : Glob) (mem : Oracle) (t : Task) (Φ : Out → Prop) : Prop := Ends (fun n => runO P Γ mem n t) Φ
theorem Runs.mono {t : Task} {Φ Ψ : Out → Prop} (h : Runs P Γ mem t Φ) (hp : ∀ x, Φ x → Ψ x) : Runs P Γ mem t Ψ := Ends.mono h hp
theorem Runs.intro {t : Task} {Φ : Out → Prop} (n : Nat) {outs : List Out} (h : runO P Γ mem n t = some outs) (hp : ∀ o ∈ outs, Φ o) : Runs P Γ mem t Φ :=
  ⟨n, outs, fun _ hm => runO_le hm t outs h, hp⟩
theorem Runs.step {t : Task} {Φ : Out → Prop} (h : Ends (fun n => stepO P Γ mem (runO P Γ mem n) t) Φ) : Runs P Γ mem t Φ := Ends.succ h fun n => runO_succ n t
def Then (next : Fr → Hp → Prop) (Φ : Out → Prop) (o : Out) : Prop := match o.exit with
  | .normal => next o.fr o.hp
  | _ => Φ o
def seqStep (g : Fr → Hp → R) (x : Out) : R := match x.exit with
  | .normal => g x.fr x.hp
  | _ => some [x]
theorem seqOut_eq (g : Fr → Hp → R) (l : List Out) : seqOut g l = allOf (seqStep g) l := rfl
theorem seq_ends {f : Nat → Option (List Out)} {g : Nat → Fr → Hp → R} {k : Nat → R} {Φ : Out → Prop} (h : Ends f (Then (fun fr hp => Ends (fun n => g n fr hp) Φ) Φ)) (he : ∀ n l, f n = some l → k n = seqOut (g n) l) : Ends k Φ := by
  refine Ends.bind (g := fun n x => seqStep (g n) x) h (fun o ho => ?_) fun n l hl => (he n l hl).trans (seqOut_eq _ _)
  obtain ⟨ex, fr, hp, v⟩ := o
  cases ex with
  | normal => exact ho
  | ret => exact Ends.one (fun _ => rfl) ho
  | exit id => exact Ends.one (fun _ => rfl) ho
theorem runs_skip {ro : Option Nat} {fr : Fr} {hp : Hp} {Φ : Out → Prop} (h : Φ ⟨.normal, fr, hp, .lit undef⟩) : Runs P Γ mem (.code .skip ro fr hp) Φ := Runs.step (Ends.one (fun _ => rfl) h)
theorem runs_ret {ro : Option Nat} {fr : Fr} {hp : Hp} {Φ : Out → Prop} (h : Φ ⟨.ret, fr, hp, .lit undef⟩) : Runs P Γ mem (.code .ret ro fr hp) Φ := Runs.step (Ends.one (fun _ => rfl) h)
theorem runs_exit {id : Nat} {ro : Option Nat} {fr : Fr} {hp : Hp} {Φ : Out → Prop} (h : Φ ⟨.exit id, fr, hp, .lit undef⟩) : Runs P Γ mem (.code (.exit id) ro fr hp) Φ := Runs.step (Ends.one (fun _ => rfl) h)
theorem runs_seq {a b : Code} {ro : Option Nat} {fr : Fr} {hp : Hp} {Φ : Out → Prop} (h : Runs P Γ mem (.code a ro fr hp) (Then (fun f p => Runs P Γ mem (.code b ro f p) Φ) Φ)) : Runs P Γ mem (.code (.seq a b) ro fr hp) Φ :=
  Runs.step (seq_ends (g := fun n f p => runO P Γ mem n (.code b ro f p)) h fun n l hl => by simp only [stepO, stepTask]; rw [hl])
theorem runs_loop {c : Code} {ro : Option Nat} {fr : Fr} {hp : Hp} {Φ : Out → Prop} (h : Runs P Γ mem (.code c ro fr hp) (Then (fun f p => Runs P Γ mem (.code (.loop c) ro f p) Φ) Φ)) : Runs P Γ mem (.code (.loop c) ro fr hp) Φ :=
  Runs.step (seq_ends (g := fun n f p => runO P Γ mem n (.code (.loop c) ro f p)) h fun n l hl => by simp only [stepO, stepTask]; rw [hl])
theorem runs_cond {c : Operand} {x y : Code} {ro : Option Nat} {fr : Fr} {hp : Hp} {Φ : Out → Prop} (b : Bool) (hc : fr.ev c = .lit (.bool b)) (h : Runs P Γ mem (.code (bif b then x else y) ro fr hp) Φ) : Runs P Γ mem (.code (.cond c x y) ro fr hp) Φ := by
  refine Runs.step (Ends.eq h fun n => ?_)
  simp only [stepO, stepTask]
  rw [hc]
  cases b <;> rfl
def atEnd (id : Nat) (x : Out) : Out := match x.exit with
  | .exit k => bif Nat.beq k id then { x with exit := .normal } else x
  | _ => x
theorem runs_block {id : Nat} {c : Code} {ro : Option Nat} {fr : Fr} {hp : Hp} {Φ : Out → Prop} (h : Runs P Γ mem (.code c ro fr hp) fun o => Φ (atEnd id o)) : Runs P Γ mem (.code (.block id c) ro fr hp) Φ := by
  obtain ⟨N, l, h1, h2⟩ := h
  refine Runs.step ⟨N, l.map (atEnd id), fun n hn => ?_, fun x hx => ?_⟩
  · have e : runO P Γ mem n (.code c ro fr hp) = some l := h1 n hn
    simp only [stepO, stepTask, e]
    rfl
  · obtain ⟨y, hy, rfl⟩ := List.mem_map.1 hx
    exact h2 y hy
def RunsOps (P : Program) (Γ : Glob) (mem : Oracle) (ops : Array Oper) (l : List Oper) (fr : Fr) (hp : Hp) (Φ : Out → Prop) : Prop := Ends (fun n => inTurn P Γ (runO P Γ mem n) ops l fr hp) Φ
theorem runs_region {id : Nat} {ops : Array Oper} {ro : Option Nat} {fr : Fr} {hp : Hp} {Φ : Out → Prop} (h : RunsOps P Γ mem ops ops.toList fr hp Φ) : Runs P Γ mem (.code (.region id ops false) ro fr hp) Φ := Runs.step h
theorem runs_draws {id : Nat} {ops : Array Oper} {ro : Option Nat} {fr : Fr} {hp : Hp} {Φ : Out → Prop} (hf : regionFit ops ops.toList 0 = true) (h : Ends (fun n => drawn P Γ (runO P Γ mem n) ops (ops.size + 1) 0 [] fr hp) Φ) : Runs P Γ mem (.code (.region id ops true) ro fr hp) Φ := by
  refine Runs.step (Ends.eq h fun n => ?_)
  simp only [stepO, stepTask]
  rw [hf]
  rfl
theorem ops_nil {ops : Array Oper} {fr : Fr} {hp : Hp} {Φ : Out → Prop} (h : Φ ⟨.normal, fr, hp, .lit undef⟩) : RunsOps P Γ mem ops [] fr hp Φ := Ends.one (fun _ => rfl) h
theorem ops_cons {ops : Array Oper} {o : Oper} {l : List Oper} {fr : Fr} {hp : Hp} {Φ : Out → Prop} (h : Ends (fun n => oper P Γ (runO P Γ mem n) ops fr hp o) fun x => RunsOps P Γ mem ops l x.1 x.2 Φ) : RunsOps P Γ mem ops (o :: l) fr hp Φ :=
  Ends.bind (α := Fr × Hp) (g := fun n (x : Fr × Hp) => inTurn P Γ (runO P Γ mem n) ops l x.1 x.2) (Φ := fun x => RunsOps P Γ mem ops l x.1 x.2 Φ) h (fun _ hx => hx) fun n xs hxs => by simp only [inTurn]; rw [hxs]
theorem ops_quiet {ops : Array Oper} {o : Oper} {l : List Oper} {fr fr' : Fr} {hp : Hp} {Φ : Out → Prop} {v : SV} {fs : List Fact} (hw : wantedQ ops fr o = some true) (hq : quiet P Γ hp fr.ev o.op = some (v, fs)) (hput : fr.put o.dst v = some fr')
    (h : RunsOps P Γ mem ops l fr' hp Φ) : RunsOps P Γ mem ops (o :: l) fr hp Φ :=
  ops_cons (Ends.one (x := (fr', hp)) (fun n => by simp only [oper, hw, hq, hput, Option.map_some]) h)
theorem ops_unwanted {ops : Array Oper} {o : Oper} {l : List Oper} {fr fr' : Fr} {hp : Hp} {Φ : Out → Prop} (hw : wantedQ ops fr o = some false) (hput : fr.put o.dst (.lit undef) = some fr') (h : RunsOps P Γ mem ops l fr' hp Φ) : RunsOps P Γ mem ops (o :: l) fr hp Φ :=
  ops_cons (Ends.one (x := (fr', hp)) (fun n => by simp only [oper, hw, hput, Option.map_some]) h)
theorem ops_effect {ops : Array Oper} {o : Oper} {l : List Oper} {fr fr' : Fr} {hp hp' : Hp} {Φ : Out → Prop} {v : SV} (hw : wantedQ ops fr o = some true) (hq : quiet P Γ hp fr.ev o.op = none) (hc : calleeOf fr.ev o.op = none)
    (he : effect P Γ hp fr.ev o.op = some [(v, hp')]) (hn : hp.next ≤ hp'.next) (hput : fr.put o.dst v = some fr') (h : RunsOps P Γ mem ops l fr' hp' Φ) : RunsOps P Γ mem ops (o :: l) fr hp Φ :=
  ops_cons (Ends.one (x := (fr', hp')) (fun n => by
    simp only [oper, hw, hq, loud, hc, he, List.all_cons, List.all_nil, Nat.ble_eq_true_of_le hn, Bool.and_self, cond_true, allOf, hput, Option.map_some]
    rfl) h)
theorem allOf_map {α β γ : Type} (f : β → Option (List γ)) (g : α → β) : ∀ l : List α, allOf f (l.map g) = allOf (fun a => f (g a)) l
  | [] => rfl
  | a :: l => by simp only [List.map_cons, allOf, allOf_map f g l]
theorem ops_call {ops : Array Oper} {o : Oper} {l : List Oper} {fr : Fr} {hp : Hp} {Φ : Out → Prop} {f : FuncId} {args : List SV} (hw : wantedQ ops fr o = some true) (hq : quiet P Γ hp fr.ev o.op = none) (hc : calleeOf fr.ev o.op = some (.fn f args))
    (hcl : cloneE P hp f args = none) (h : Runs P Γ mem (.call f args hp) fun r => ∃ fr', fr.put o.dst r.v = some fr' ∧ RunsOps P Γ mem ops l fr' r.hp Φ) : RunsOps P Γ mem ops (o :: l) fr hp Φ := by
  refine ops_cons (Ends.bind (g := fun _ r => (fr.put o.dst r.v).map fun f => [(f, r.hp)]) h (fun r hr => ?_) fun n xs hxs => ?_)
  · obtain ⟨fr', h1, h2⟩ := hr
    exact Ends.one (x := (fr', r.hp)) (fun _ => by rw [h1]; rfl) h2
  · simp only [oper, hw, hq, loud, hc, hcl, hxs, Option.map_some]
    exact allOf_map _ _ xs
theorem runs_call {f : FuncId} {fn : Func} {c : Code} {args : List SV} {hp : Hp} {Φ : Out → Prop} (hf : P.funcs[f]? = some fn) (hb : fn.body = some c)
    (h : Runs P Γ mem (.code c none ⟨T.ofList args 0 .leaf, Nat.max fn.ntmps args.length, []⟩ hp) fun o => ∃ r, leave P Γ fn o = some [r] ∧ Φ r) (hm : mem f args hp = none := by rfl) : Runs P Γ mem (.call f args hp) Φ := by
  refine Runs.step (Ends.bind (g := fun _ o => leave P Γ fn o) h (fun o ho => ?_) fun n xs hxs => ?_)
  · obtain ⟨r, h1, h2⟩ := ho
    exact Ends.one (fun _ => h1) h2
  · simp only [stepO, hm, stepTask, hf, hb, hxs]
theorem runs_told {f : FuncId} {args : List SV} {hp : Hp} {outs : List Out} {Φ : Out → Prop} (hm : mem f args hp = some outs) (h : ∀ o ∈ outs, Φ o) : Runs P Γ mem (.call f args hp) Φ :=
  ⟨1, outs, fun n hn => by
    obtain ⟨m, rfl⟩ : ∃ m, n = m + 1 := ⟨n - 1, by omega⟩
    show stepO P Γ mem (runO P Γ mem m) (.call f args hp) = some outs
    simp only [stepO, hm], h⟩
end
section
variable {P : Program} {Γ : Glob} {mem : Oracle} {ops : Array Oper} {o : Oper} {l : List Oper} {tm : T SV} {n d : Nat} {ms : List Nat} {hp hp' : Hp} {Φ : Out → Prop} {v : SV} {fs : List Fact}
theorem ops_q (hw : wantedQ ops ⟨tm, n, ms⟩ o = some true) (hq : quiet P Γ hp (Fr.ev ⟨tm, n, ms⟩) o.op = some (v, fs)) (hd : o.dst = some d) (hn : Nat.blt d n = true) (h : RunsOps P Γ mem ops l ⟨tm.set d v, n, ms⟩ hp Φ) : RunsOps P Γ mem ops (o :: l) ⟨tm, n, ms⟩ hp Φ :=
  ops_quiet hw hq (put_slot hd hn) h
theorem ops_u (hw : wantedQ ops ⟨tm, n, ms⟩ o = some false) (hd : o.dst = some d) (hn : Nat.blt d n = true) (h : RunsOps P Γ mem ops l ⟨tm.set d (.lit undef), n, ms⟩ hp Φ) : RunsOps P Γ mem ops (o :: l) ⟨tm, n, ms⟩ hp Φ :=
  ops_unwanted hw (put_slot hd hn) h
theorem ops_e (hw : wantedQ ops ⟨tm, n, ms⟩ o = some true) (hq : quiet P Γ hp (Fr.ev ⟨tm, n, ms⟩) o.op = none) (hc : calleeOf (Fr.ev ⟨tm, n, ms⟩) o.op = none) (he : effect P Γ hp (Fr.ev ⟨tm, n, ms⟩) o.op = some [(v, hp')]) (hx : hp.next ≤ hp'.next) (hd : o.dst = some d) (hn : Nat.blt d n = true)
    (h : RunsOps P Γ mem ops l ⟨tm.set d v, n, ms⟩ hp' Φ) : RunsOps P Γ mem ops (o :: l) ⟨tm, n, ms⟩ hp Φ :=
  ops_effect hw hq hc he hx (put_slot hd hn) h
theorem ops_e0 (hw : wantedQ ops ⟨tm, n, ms⟩ o = some true) (hq : quiet P Γ hp (Fr.ev ⟨tm, n, ms⟩) o.op = none) (hc : calleeOf (Fr.ev ⟨tm, n, ms⟩) o.op = none) (he : effect P Γ hp (Fr.ev ⟨tm, n, ms⟩) o.op = some [(v, hp')]) (hx : hp.next ≤ hp'.next) (hd : o.dst = none)
    (h : RunsOps P Γ mem ops l ⟨tm, n, ms⟩ hp' Φ) : RunsOps P Γ mem ops (o :: l) ⟨tm, n, ms⟩ hp Φ :=
  ops_effect hw hq hc he hx (by rw [hd]; rfl) h
theorem ops_c {f : FuncId} {args : List SV} (hw : wantedQ ops ⟨tm, n, ms⟩ o = some true) (hq : quiet P Γ hp (Fr.ev ⟨tm, n, ms⟩) o.op = none) (hc : calleeOf (Fr.ev ⟨tm, n, ms⟩) o.op = some (.fn f args)) (hcl : cloneE P hp f args = none) (hd : o.dst = some d) (hn : Nat.blt d n = true)
    (h : Runs P Γ mem (.call f args hp) fun r => RunsOps P Γ mem ops l ⟨tm.set d r.v, n, ms⟩ r.hp Φ) : RunsOps P Γ mem ops (o :: l) ⟨tm, n, ms⟩ hp Φ :=
  ops_call hw hq hc hcl (h.mono fun _ hr => ⟨_, put_slot hd hn, hr⟩)
end
theorem calls_true {P : Program} {Γ : Env} (hN : NoCount P) (hmix : P.follows .mixedOrders = true) {mem : Oracle} (hmem : OracleOk P Γ mem) {m : Nat} {f : FuncId} {args : List SV} (θ : Ren) {w : World} (h : Runs P Γ.tab mem (.call f args ⟨.leaf, m⟩) fun o => o.v = .lit (.bool true))
    (hΓ : globMet Γ.tab w) (hi : Γ.inv (· < w.heap.size) w θ (· < m)) (hok : SV.okL (· < m) args) : Calls P f (concL θ args).toArray w fun e w' => e = .returned (.bool true) ∧ Below w.heap.size w w' := by
  obtain ⟨n, outs, h1, h2⟩ := h
  refine (callsIn_wide.1 (((runO_sound hN hmix hmem n).1.call f args ⟨.leaf, m⟩ outs (h1 n (Nat.le_refl _))).2 _ w θ _ w (rep_start θ m hΓ hi) hok)).mono ?_
  rintro e w' ⟨o, hm, θ', K', _, rfl, _, hrep⟩
  rw [h2 o hm]
  exact ⟨rfl, hrep.below⟩
end Go.Proofs.YtcnfmcbmephdfaaGreatDoor.Ev.O
namespace Go.Proofs.YtcnfmcbmephdfaaGreatDoor.Ev
open Go Go.RowKit
theorem Ext.symm {K : Nat → Prop} {θ θ' : Ren} (h : Ext K θ θ') : Ext K θ' θ := ⟨fun i hi => (h.blk i hi).symm, fun i hi => (h.cap i hi).symm, fun i hi => (h.num i hi).symm, fun i hi => (h.opq i hi).symm⟩
theorem Rep.again {Γ Γ' : Env} {X : Nat → Prop} {w0 : World} {θ θ' : Ren} {K K' : Nat → Prop} {hp hp' : Hp} {w w' : World} (hr : Rep Γ X w0 θ K hp w) (hr' : Rep Γ' X w0 θ' K' hp' w') (hG : Grow K θ hp.next K' θ' hp'.next) (hk : Kept hp.next hp hp') : Rep Γ X w0 θ K hp w' :=
  ⟨hr'.os, hr'.tape, hr'.output, hr'.size, hr'.kept, hr.low, hr.glob, fun b o hb => by
    obtain ⟨k1, k2, k3, _⟩ := hr.obj b o hb
    have hlt : b < hp.next := Nat.lt_of_not_le fun h => hr.next b h k1
    obtain ⟨_, _, _, ob, k4, k5⟩ := hr'.obj b o ((hk.old b hlt).trans hb)
    rw [hG.ext.blk b k1] at k4
    exact ⟨k1, k2, k3, ob, k4, ORep_ext hG.ext.symm k3 k5⟩, hr.inj, hr.next, hr.inv⟩
theorem told_runs {P : Program} {Γ : Env} {Γx : Glob} (hN : NoCount P) (hmix : P.follows .mixedOrders = true) (hmem : OracleOk P (.plain Γx) theMem) {X : Nat → Prop} {w0 : World} {θ : Ren} {K : Nat → Prop} {hp : Hp} {w : World} (hr : Rep Γ X w0 θ K hp w) (hx : ∀ g cs, Γx.get g = some cs → X g ∧ ∃ e fr, w0.heap[g]? = some (.cells cs.toArray e fr))
    {f : FuncId} {args args' : List SV} {v : Value} (hok : SV.okL K args') (he : concL θ args' = concL θ args) (h : Runs P Γx (.call f args' hp) fun o => (∀ θ, conc θ o.v = v) ∧ Kept hp.next hp o.hp) : CallsIn Fence.wide 0 P f (concL θ args).toArray w (CPost Γ X w0 θ K hp.next (told hp [v])) := by
  obtain ⟨n, outs, h1, h2⟩ := h
  have hr2 : Rep (.plain Γx) X w0 θ K hp w := ⟨hr.os, hr.tape, hr.output, hr.size, hr.kept, hr.low, hx, hr.obj, hr.inj, hr.next, trivial⟩
  have hs := ((runO_sound (Γ := .plain Γx) hN hmix hmem n).1.call f args' hp outs (h1 n (Nat.le_refl _))).2 X w0 θ K w hr2 hok
  rw [he] at hs
  refine CallsIn.mono (F := Fence.wide) (n := 0) hs fun en w' hp' => ?_
  obtain ⟨o, ho, θ', K', hG, rfl, _, hr'⟩ := hp'
  obtain ⟨h3, h4⟩ := h2 o ho
  exact ⟨_, List.mem_singleton_self _, θ, K, Grow.refl _ _ _, congrArg Ending.returned (h3 θ'), trivial, hr.again hr' hG h4⟩
end Go.Proofs.YtcnfmcbmephdfaaGreatDoor.Ev
