/-
  WHAT THE EVALUATOR COMES TO, WITH ENOUGH FUEL: a calculus of its runs over states that hold variables, by the author of this claim. Of any program. | A ROW THAT A RUN OWNS, of whatever length, in the evaluator's heap: how it is appended to, by the author of this claim. Of any program. | A REGION THAT DRAWS ITS ORDER, IN THE CALCULUS OF RUNS, by the author of this claim: where at each time one loud operation is ready. Of any program. | STEPS IN THE CALCULUS OF RUNS WHOSE FRAMES STAY SMALL, by the author of this claim: the same rules, the frame's slots named. Of any program. | THE EVALUATOR WITH CALLS WHOSE WORD IS KNOWN, by the author of this claim: an oracle tells what a call comes to; each of its words is shown by hand. Of any program in which no function is runtime.NumGoroutine, and that draws the order in which a region's operations come. | THE CALCULUS OF RUNS OVER ANY ORACLE, by the author of this claim: the same rules (printed out of EvRuns and EvStep). | WHAT IS TOLD OF OPERATIONS ON NAMED VALUES, by the author of this claim: a table of rows, each of which says what an operation on these values yields; a row is so where the model's own word on the values that the names mean is that. Of any program.
-/
import Derived.Test.YtcpigoljjbhkkaaGreatDoorEvGF
namespace Go.Proofs.YtcpigoljjbhkkaaGreatDoor.Ev
open Go Go.RowKit

/-- From some fuel on the same ways are told, and each is such a one. -/
def Ends {α : Type} (f : Nat → Option (List α)) (Φ : α → Prop) : Prop := ∃ (N : Nat) (l : List α), (∀ n, N ≤ n → f n = some l) ∧ ∀ x ∈ l, Φ x

theorem Ends.mono {α : Type} {f : Nat → Option (List α)} {Φ Ψ : α → Prop} (h : Ends f Φ) (hp : ∀ x, Φ x → Ψ x) : Ends f Ψ := by
  obtain ⟨N, l, h1, h2⟩ := h
  exact ⟨N, l, h1, fun x hx => hp x (h2 x hx)⟩
theorem Ends.one {α : Type} {f : Nat → Option (List α)} {x : α} {Φ : α → Prop} (h : ∀ n, f n = some [x]) (hx : Φ x) : Ends f Φ :=
  ⟨0, [x], fun n _ => h n, fun y hy => by rw [List.mem_singleton.1 hy]; exact hx⟩
theorem Ends.eq {α : Type} {f g : Nat → Option (List α)} {Φ : α → Prop} (h : Ends f Φ) (he : ∀ n, g n = f n) : Ends g Φ := by
  obtain ⟨N, l, h1, h2⟩ := h
  exact ⟨N, l, fun n hn => (he n).trans (h1 n hn), h2⟩
/-- One step of fuel more. -/
theorem Ends.succ {α : Type} {f g : Nat → Option (List α)} {Φ : α → Prop} (h : Ends f Φ) (he : ∀ n, g (n + 1) = f n) : Ends g Φ := by
  obtain ⟨N, l, h1, h2⟩ := h
  refine ⟨N + 1, l, fun n hn => ?_, h2⟩
  obtain ⟨m, rfl⟩ : ∃ m, n = m + 1 := ⟨n - 1, by omega⟩
  rw [he]
  exact h1 m (by omega)

theorem Ends.all {α β : Type} {f : Nat → α → Option (List β)} {Φ : β → Prop} : ∀ (l : List α), (∀ a ∈ l, Ends (fun n => f n a) Φ) → Ends (fun n => allOf (f n) l) Φ
  | [], _ => ⟨0, [], fun _ _ => rfl, fun _ h => by cases h⟩
  | a :: l, h => by
    obtain ⟨N, x, h1, h2⟩ := h a (List.mem_cons_self ..)
    obtain ⟨M, y, h3, h4⟩ := Ends.all l fun b hb => h b (List.mem_cons_of_mem _ hb)
    refine ⟨max N M, x ++ y, fun n hn => ?_, fun z hz => (List.mem_append.1 hz).elim (h2 z) (h4 z)⟩
    have e1 : f n a = some x := h1 n (by omega)
    have e2 : allOf (f n) l = some y := h3 n (by omega)
    simp only [allOf, e1, e2]

/-- First this, then that on each way. -/
theorem Ends.bind {α β : Type} {f : Nat → Option (List α)} {g : Nat → α → Option (List β)} {k : Nat → Option (List β)} {Φ : α → Prop} {Ψ : β → Prop} (h : Ends f Φ) (hg : ∀ a, Φ a → Ends (fun n => g n a) Ψ)
    (he : ∀ n l, f n = some l → k n = allOf (g n) l) : Ends k Ψ := by
  obtain ⟨N, l, h1, h2⟩ := h
  obtain ⟨M, r, h3, h4⟩ := Ends.all l fun a ha => hg a (h2 a ha)
  exact ⟨max N M, r, fun n hn => (he n l (h1 n (by omega))).trans (h3 n (by omega)), h4⟩

section
variable {P : Program} {Γ : Glob}

/-- What a task comes to. -/
def Runs (P : Program) (Γ : Glob) (t : Task) (Φ : Out → Prop) : Prop := Ends (fun n => runO P Γ theMem n t) Φ

theorem Runs.mono {t : Task} {Φ Ψ : Out → Prop} (h : Runs P Γ t Φ) (hp : ∀ x, Φ x → Ψ x) : Runs P Γ t Ψ := Ends.mono h hp
theorem Runs.intro {t : Task} {Φ : Out → Prop} (n : Nat) {outs : List Out} (h : runO P Γ theMem n t = some outs) (hp : ∀ o ∈ outs, Φ o) : Runs P Γ t Φ :=
  ⟨n, outs, fun _ hm => runO_le hm t outs h, hp⟩
/-- One step of the evaluator. -/
theorem Runs.step {t : Task} {Φ : Out → Prop} (h : Ends (fun n => stepO P Γ theMem (runO P Γ theMem n) t) Φ) : Runs P Γ t Φ := Ends.succ h fun n => runO_succ n t

/-- What comes behind a normal end. -/
def Then (next : Fr → Hp → Prop) (Φ : Out → Prop) (o : Out) : Prop := match o.exit with
  | .normal => next o.fr o.hp
  | _ => Φ o

def seqStep (g : Fr → Hp → R) (x : Out) : R := match x.exit with
  | .normal => g x.fr x.hp
  | _ => some [x]
theorem seqOut_eq (g : Fr → Hp → R) (l : List Out) : seqOut g l = allOf (seqStep g) l := rfl
theorem seq_ends {f : Nat → Option (List Out)} {g : Nat → Fr → Hp → R} {k : Nat → R} {Φ : Out → Prop} (h : Ends f (Then (fun fr hp => Ends (fun n => g n fr hp) Φ) Φ)) (he : ∀ n l, f n = some l → k n = seqOut (g n) l) : Ends k Φ := by
  refine Ends.bind (g := fun n x => seqStep (g n) x) h (fun o ho => ?_) fun n l hl => (he n l hl).trans (seqOut_eq _ _)
  obtain ⟨ex, fr, hp, v⟩ := o
  cases ex with
  | normal => exact ho
  | ret => exact Ends.one (fun _ => rfl) ho
  | exit id => exact Ends.one (fun _ => rfl) ho

theorem runs_skip {ro : Option Nat} {fr : Fr} {hp : Hp} {Φ : Out → Prop} (h : Φ ⟨.normal, fr, hp, .lit undef⟩) : Runs P Γ (.code .skip ro fr hp) Φ := Runs.step (Ends.one (fun _ => rfl) h)
theorem runs_ret {ro : Option Nat} {fr : Fr} {hp : Hp} {Φ : Out → Prop} (h : Φ ⟨.ret, fr, hp, .lit undef⟩) : Runs P Γ (.code .ret ro fr hp) Φ := Runs.step (Ends.one (fun _ => rfl) h)
theorem runs_exit {id : Nat} {ro : Option Nat} {fr : Fr} {hp : Hp} {Φ : Out → Prop} (h : Φ ⟨.exit id, fr, hp, .lit undef⟩) : Runs P Γ (.code (.exit id) ro fr hp) Φ := Runs.step (Ends.one (fun _ => rfl) h)

theorem runs_seq {a b : Code} {ro : Option Nat} {fr : Fr} {hp : Hp} {Φ : Out → Prop} (h : Runs P Γ (.code a ro fr hp) (Then (fun f p => Runs P Γ (.code b ro f p) Φ) Φ)) : Runs P Γ (.code (.seq a b) ro fr hp) Φ :=
  Runs.step (seq_ends (g := fun n f p => runO P Γ theMem n (.code b ro f p)) h fun n l hl => by simp only [stepO, stepTask]; rw [hl])
theorem runs_loop {c : Code} {ro : Option Nat} {fr : Fr} {hp : Hp} {Φ : Out → Prop} (h : Runs P Γ (.code c ro fr hp) (Then (fun f p => Runs P Γ (.code (.loop c) ro f p) Φ) Φ)) : Runs P Γ (.code (.loop c) ro fr hp) Φ :=
  Runs.step (seq_ends (g := fun n f p => runO P Γ theMem n (.code (.loop c) ro f p)) h fun n l hl => by simp only [stepO, stepTask]; rw [hl])
theorem runs_cond {c : Operand} {x y : Code} {ro : Option Nat} {fr : Fr} {hp : Hp} {Φ : Out → Prop} (b : Bool) (hc : fr.ev c = .lit (.bool b)) (h : Runs P Γ (.code (bif b then x else y) ro fr hp) Φ) : Runs P Γ (.code (.cond c x y) ro fr hp) Φ := by
  refine Runs.step (Ends.eq h fun n => ?_)
  simp only [stepO, stepTask]
  rw [hc]
  cases b <;> rfl

/-- A block's end. -/
def atEnd (id : Nat) (x : Out) : Out := match x.exit with
  | .exit k => bif Nat.beq k id then { x with exit := .normal } else x
  | _ => x
theorem runs_block {id : Nat} {c : Code} {ro : Option Nat} {fr : Fr} {hp : Hp} {Φ : Out → Prop} (h : Runs P Γ (.code c ro fr hp) fun o => Φ (atEnd id o)) : Runs P Γ (.code (.block id c) ro fr hp) Φ := by
  obtain ⟨N, l, h1, h2⟩ := h
  refine Runs.step ⟨N, l.map (atEnd id), fun n hn => ?_, fun x hx => ?_⟩
  · have e : runO P Γ theMem n (.code c ro fr hp) = some l := h1 n hn
    simp only [stepO, stepTask, e]
    rfl
  · obtain ⟨y, hy, rfl⟩ := List.mem_map.1 hx
    exact h2 y hy

/-- Operations in turn. -/
def RunsOps (P : Program) (Γ : Glob) (ops : Array Oper) (l : List Oper) (fr : Fr) (hp : Hp) (Φ : Out → Prop) : Prop := Ends (fun n => inTurn P Γ (runO P Γ theMem n) ops l fr hp) Φ
theorem runs_region {id : Nat} {ops : Array Oper} {ro : Option Nat} {fr : Fr} {hp : Hp} {Φ : Out → Prop} (h : RunsOps P Γ ops ops.toList fr hp Φ) : Runs P Γ (.code (.region id ops false) ro fr hp) Φ := Runs.step h
theorem runs_draws {id : Nat} {ops : Array Oper} {ro : Option Nat} {fr : Fr} {hp : Hp} {Φ : Out → Prop} (hf : regionFit ops ops.toList 0 = true) (h : Ends (fun n => drawn P Γ (runO P Γ theMem n) ops (ops.size + 1) 0 [] fr hp) Φ) : Runs P Γ (.code (.region id ops true) ro fr hp) Φ := by
  refine Runs.step (Ends.eq h fun n => ?_)
  simp only [stepO, stepTask]
  rw [hf]
  rfl

theorem ops_nil {ops : Array Oper} {fr : Fr} {hp : Hp} {Φ : Out → Prop} (h : Φ ⟨.normal, fr, hp, .lit undef⟩) : RunsOps P Γ ops [] fr hp Φ := Ends.one (fun _ => rfl) h

theorem ops_cons {ops : Array Oper} {o : Oper} {l : List Oper} {fr : Fr} {hp : Hp} {Φ : Out → Prop} (h : Ends (fun n => oper P Γ (runO P Γ theMem n) ops fr hp o) fun x => RunsOps P Γ ops l x.1 x.2 Φ) : RunsOps P Γ ops (o :: l) fr hp Φ :=
  Ends.bind (α := Fr × Hp) (g := fun n (x : Fr × Hp) => inTurn P Γ (runO P Γ theMem n) ops l x.1 x.2) (Φ := fun x => RunsOps P Γ ops l x.1 x.2 Φ) h (fun _ hx => hx) fun n xs hxs => by simp only [inTurn]; rw [hxs]

/-- A quiet operation. -/
theorem ops_quiet {ops : Array Oper} {o : Oper} {l : List Oper} {fr fr' : Fr} {hp : Hp} {Φ : Out → Prop} {v : SV} {fs : List Fact} (hw : wantedQ ops fr o = some true) (hq : quiet P Γ hp fr.ev o.op = some (v, fs)) (hput : fr.put o.dst v = some fr')
    (h : RunsOps P Γ ops l fr' hp Φ) : RunsOps P Γ ops (o :: l) fr hp Φ :=
  ops_cons (Ends.one (x := (fr', hp)) (fun n => by simp only [oper, hw, quietA_of hq, hput, Option.map_some]) h)
/-- One that is not wanted. -/
theorem ops_unwanted {ops : Array Oper} {o : Oper} {l : List Oper} {fr fr' : Fr} {hp : Hp} {Φ : Out → Prop} (hw : wantedQ ops fr o = some false) (hput : fr.put o.dst (.lit undef) = some fr') (h : RunsOps P Γ ops l fr' hp Φ) : RunsOps P Γ ops (o :: l) fr hp Φ :=
  ops_cons (Ends.one (x := (fr', hp)) (fun n => by simp only [oper, hw, hput, Option.map_some]) h)
/-- One that makes or turns memory. -/
theorem ops_effectA {ops : Array Oper} {o : Oper} {l : List Oper} {fr fr' : Fr} {hp hp' : Hp} {Φ : Out → Prop} {v : SV} (hw : wantedQ ops fr o = some true) (hq : quietA P Γ hp fr.ev o.op = none) (hc : calleeOf fr.ev o.op = none)
    (he : effect P Γ hp fr.ev o.op = some [(v, hp')]) (hn : hp.next ≤ hp'.next) (hput : fr.put o.dst v = some fr') (h : RunsOps P Γ ops l fr' hp' Φ) : RunsOps P Γ ops (o :: l) fr hp Φ :=
  ops_cons (Ends.one (x := (fr', hp')) (fun n => by
    simp only [oper, hw, hq, loud, hc, he, List.all_cons, List.all_nil, Nat.ble_eq_true_of_le hn, Bool.and_self, cond_true, allOf, hput, Option.map_some]
    rfl) h)
theorem ops_effect [Mute Γ] {ops : Array Oper} {o : Oper} {l : List Oper} {fr fr' : Fr} {hp hp' : Hp} {Φ : Out → Prop} {v : SV} (hw : wantedQ ops fr o = some true) (hq : quiet P Γ hp fr.ev o.op = none) (hc : calleeOf fr.ev o.op = none)
    (he : effect P Γ hp fr.ev o.op = some [(v, hp')]) (hn : hp.next ≤ hp'.next) (hput : fr.put o.dst v = some fr') (h : RunsOps P Γ ops l fr' hp' Φ) : RunsOps P Γ ops (o :: l) fr hp Φ :=
  ops_effectA hw (quietA_mute hq) hc he hn hput h
theorem allOf_map {α β γ : Type} (f : β → Option (List γ)) (g : α → β) : ∀ l : List α, allOf f (l.map g) = allOf (fun a => f (g a)) l
  | [] => rfl
  | a :: l => by simp only [List.map_cons, allOf, allOf_map f g l]
/-- A call. -/
theorem ops_callA {ops : Array Oper} {o : Oper} {l : List Oper} {fr : Fr} {hp : Hp} {Φ : Out → Prop} {f : FuncId} {args : List SV} (hw : wantedQ ops fr o = some true) (hq : quietA P Γ hp fr.ev o.op = none) (hc : calleeOf fr.ev o.op = some (.fn f args))
    (hcl : cloneE P hp f args = none) (h : Runs P Γ (.call f args hp) fun r => ∃ fr', fr.put o.dst r.v = some fr' ∧ RunsOps P Γ ops l fr' r.hp Φ) : RunsOps P Γ ops (o :: l) fr hp Φ := by
  refine ops_cons (Ends.bind (g := fun _ r => (fr.put o.dst r.v).map fun f => [(f, r.hp)]) h (fun r hr => ?_) fun n xs hxs => ?_)
  · obtain ⟨fr', h1, h2⟩ := hr
    exact Ends.one (x := (fr', r.hp)) (fun _ => by rw [h1]; rfl) h2
  · simp only [oper, hw, hq, loud, hc, hcl, hxs, Option.map_some]
    exact allOf_map _ _ xs
theorem ops_call [Mute Γ] {ops : Array Oper} {o : Oper} {l : List Oper} {fr : Fr} {hp : Hp} {Φ : Out → Prop} {f : FuncId} {args : List SV} (hw : wantedQ ops fr o = some true) (hq : quiet P Γ hp fr.ev o.op = none) (hc : calleeOf fr.ev o.op = some (.fn f args))
    (hcl : cloneE P hp f args = none) (h : Runs P Γ (.call f args hp) fun r => ∃ fr', fr.put o.dst r.v = some fr' ∧ RunsOps P Γ ops l fr' r.hp Φ) : RunsOps P Γ ops (o :: l) fr hp Φ :=
  ops_callA hw (quietA_mute hq) hc hcl h

/-- What a call comes to when its body has ended. -/
theorem runs_call {f : FuncId} {fn : Func} {c : Code} {args : List SV} {hp : Hp} {Φ : Out → Prop} (hf : P.funcs[f]? = some fn) (hb : fn.body = some c)
    (h : Runs P Γ (.code c none ⟨T.ofList args 0 .leaf, Nat.max fn.ntmps args.length, []⟩ hp) fun o => ∃ r, leave P Γ fn o = some [r] ∧ Φ r) (hm : theMem f args hp = none := by rfl) : Runs P Γ (.call f args hp) Φ := by
  refine Runs.step (Ends.bind (g := fun _ o => leave P Γ fn o) h (fun o ho => ?_) fun n xs hxs => ?_)
  · obtain ⟨r, h1, h2⟩ := ho
    exact Ends.one (fun _ => h1) h2
  · simp only [stepO, hm, stepTask, hf, hb, hxs]

/-- A call whose word is known. -/
theorem runs_told {f : FuncId} {args : List SV} {hp : Hp} {outs : List Out} {Φ : Out → Prop} (hm : theMem f args hp = some outs) (h : ∀ o ∈ outs, Φ o) : Runs P Γ (.call f args hp) Φ :=
  ⟨1, outs, fun n hn => by
    obtain ⟨m, rfl⟩ : ∃ m, n = m + 1 := ⟨n - 1, by omega⟩
    show stepO P Γ theMem (runO P Γ theMem m) (.call f args hp) = some outs
    simp only [stepO, hm], h⟩
end
end Go.Proofs.YtcpigoljjbhkkaaGreatDoor.Ev
namespace Go.Proofs.YtcpigoljjbhkkaaGreatDoor.Ev
open Go Go.RowKit

theorem ev_set (tm : T SV) (n : Nat) (ms : List Nat) (d t : Nat) (v : SV) : Fr.ev ⟨tm.set d v, n, ms⟩ (.tmp t) = if t = d then v else Fr.ev ⟨tm, n, ms⟩ (.tmp t) := by
  simp only [Fr.ev, T.get_set]
  by_cases h : t = d
  · rw [if_pos h, if_pos h]
  · rw [if_neg h, if_neg h]

/-- The value v is a slice of n elements of type e, of so many cells each, that lies at the head of a block of its own, whose number is at least lo. -/
def Own (h : Hp) (lo : Nat) (e : TypeId) (size : Nat) (v : SV) (n : Nat) (l : List SV) : Prop :=
  l.length = n * size ∧ l.all SV.one = true ∧ ∃ b, lo ≤ b ∧ b < h.next ∧
    ((v = .row b 0 n n b ∧ h.objs.get b = some (.row l e n b size)) ∨ (v = .slice b 0 n n ∧ h.objs.get b = some (.cells l e)))

/-- What lies ahead of a number is as it was. -/
structure Kept (lo : Nat) (h h' : Hp) : Prop where
  next : h.next ≤ h'.next
  old : ∀ b, b < lo → h'.objs.get b = h.objs.get b
theorem Kept.refl (lo : Nat) (h : Hp) : Kept lo h h := ⟨Nat.le_refl _, fun _ _ => rfl⟩
theorem Kept.trans {lo : Nat} {a b c : Hp} (h : Kept lo a b) (h' : Kept lo b c) : Kept lo a c := ⟨Nat.le_trans h.next h'.next, fun k hk => (h'.old k hk).trans (h.old k hk)⟩
theorem Kept.less {lo lo' : Nat} {a b : Hp} (h : Kept lo a b) (hl : lo' ≤ lo) : Kept lo' a b := ⟨h.next, fun k hk => h.old k (by omega)⟩

theorem cut_whole (l : List SV) : cut l 0 l.length = some l := by
  simp only [cut, List.drop_zero, List.take_length]
  rw [beq_t rfl]
  rfl

theorem Own.src {Γ : Glob} {h : Hp} {lo : Nat} {e : TypeId} {size : Nat} {v : SV} {n : Nat} {l : List SV} (ho : Own h lo e size v n l) : srcCells Γ h size v = some (l, n) := by
  obtain ⟨hl, _, b, _, _, ⟨rfl, hb⟩ | ⟨rfl, hb⟩⟩ := ho
  · simp only [srcCells, readCells, knownCells, hb, Option.bind_some]
    rw [← hl, cut_whole]
  · simp only [srcCells, readCells, knownCells, hb, Option.bind_some]
    rw [← hl, cut_whole]

/-- **append of a row to a row.** -/
theorem append_own {P : Program} {Γ : Glob} {h : Hp} {lo lo' : Nat} {st e : TypeId} {i : TypeInfo} {z : Value} {v x : SV} {n m : Nat} {l l' : List SV} (hst : tyU P st = some (.slice e)) (hi : P.info? e = some i) (hz : i.zero = some z) (hby : i.bytes ≤ 1000) (hsz : 0 < i.size) (hzs : (SV.cells (.lit z)).length = i.size)
    (hv : Own h lo e i.size v n l) (hx : Own h lo' e i.size x m l') (hm : 0 < m) (hn : n ≤ 2000000) (hm2 : m ≤ 2000000) (hlo : lo ≤ h.next) :
    ∃ v' h', appendE P Γ h [st, st] v x = some (v', h') ∧ Own h' lo e i.size v' (n + m) (l ++ l') ∧ Kept lo h h' := by
  have hsrc := hx.src (Γ := Γ)
  obtain ⟨hl, hone, b, hb0, hb1, hb⟩ := hv
  obtain ⟨hl', hone', _⟩ := hx
  have hcond : (Nat.ble i.bytes 1000 && Nat.ble m 2000000 && Nat.blt 0 i.size && Nat.beq (SV.cells (.lit z)).length i.size && Nat.beq l'.length (m * i.size)) = true := by
    rw [Nat.ble_eq_true_of_le hby, Nat.ble_eq_true_of_le hm2, show Nat.blt 0 i.size = true from Nat.ble_eq_true_of_le hsz, beq_t hzs, beq_t hl']
    rfl
  have hall : (l ++ l').all SV.one = true := by rw [List.all_append, hone, hone']; rfl
  have hlen : (l ++ l').length = (n + m) * i.size := by rw [List.length_append, hl, hl', Nat.add_mul]
  rcases hb with ⟨rfl, hb⟩ | ⟨rfl, hb⟩
  · have htake : l.take (n * i.size) = l := by rw [← hl]; exact List.take_length
    refine ⟨(newRowE ⟨h.objs.put b none, h.next⟩ (l.take (n * i.size) ++ l') e (n + m) i.size).1, (newRowE ⟨h.objs.put b none, h.next⟩ (l.take (n * i.size) ++ l') e (n + m) i.size).2, ?_, ⟨hlen, hall, h.next, hlo, Nat.lt_succ_self _, .inl ⟨rfl, ?_⟩⟩, ⟨Nat.le_succ _, fun k hk => ?_⟩⟩
    · simp only [appendE, hst, hi, hz, hsrc, isIntD, cond_false, hcond, cond_true, Nat.ble_eq_true_of_le hn, hb, beq_t rfl, Nat.ble_eq_true_of_le (Nat.le_refl _), hone', beq_f (Nat.pos_iff_ne_zero.1 hm), Bool.and_self, hl, cond_false]
    · simp only [newRowE, T.get_set, if_true, htake]
    · simp only [newRowE, T.get_set, T.get_put]
      rw [if_neg (by omega), if_neg (by omega)]
  · have hread : readCells Γ h (.ptr b 0) (n * i.size) = some (l, [.cells b 0 l]) := by
      simp only [readCells, knownCells, hb, Option.bind_some]
      rw [← hl, cut_whole]
    refine ⟨(newRowE h (l ++ l') e (n + m) i.size).1, (newRowE h (l ++ l') e (n + m) i.size).2, ?_, ⟨hlen, hall, h.next, hlo, Nat.lt_succ_self _, .inl ⟨rfl, ?_⟩⟩, ⟨Nat.le_succ _, fun k hk => ?_⟩⟩
    · have hnot : Nat.ble (n + m) n = false := by
        cases hh : Nat.ble (n + m) n with
        | false => rfl
        | true => have := Nat.le_of_ble_eq_true hh; omega
      simp only [appendE, hst, hi, hz, hsrc, isIntD, cond_false, hcond, cond_true, Nat.ble_eq_true_of_le hn, Nat.ble_eq_true_of_le (Nat.le_refl _), Bool.and_self, hnot, hread]
    · simp only [newRowE, T.get_set, if_true]
    · simp only [newRowE, T.get_set]
      rw [if_neg (by omega)]
end Go.Proofs.YtcpigoljjbhkkaaGreatDoor.Ev
namespace Go.Proofs.YtcpigoljjbhkkaaGreatDoor.Ev
open Go Go.RowKit

section
variable {P : Program} {Γ : Glob}

theorem allOf_one {α β : Type} (f : α → Option (List β)) (a : α) : allOf f [a] = f a := by
  simp only [allOf]
  cases f a with
  | none => rfl
  | some x => simp

/-- A region that draws, from a state on. -/
def RunsDrawn (P : Program) (Γ : Glob) (ops : Array Oper) (k mask : Nat) (held : List Held) (fr : Fr) (hp : Hp) (Φ : Out → Prop) : Prop := Ends (fun n => drawn P Γ (runO P Γ theMem n) ops k mask held fr hp) Φ

theorem runs_drawn {id : Nat} {ops : Array Oper} {ro : Option Nat} {fr : Fr} {hp : Hp} {Φ : Out → Prop} (hf : regionFit ops ops.toList 0 = true) (h : RunsDrawn P Γ ops (ops.size + 1) 0 [] fr hp Φ) : Runs P Γ (.code (.region id ops true) ro fr hp) Φ := runs_draws hf h

variable {ops : Array Oper} {k mask : Nat} {held : List Held} {fr : Fr} {hp : Hp} {Φ : Out → Prop} {m' : Nat} {held' : List Held} {fr' : Fr} {hp' : Hp}

theorem drawn_end (ht : takeAll P Γ ops ops.toList 0 mask held fr hp = some (m', held', fr', hp')) (hr : readyNow m' ops.toList 0 = []) (hm : Nat.beq m' (2 ^ ops.size - 1) = true) (h : Φ ⟨.normal, fr', hp', .lit undef⟩) : RunsDrawn P Γ ops (k + 1) mask held fr hp Φ :=
  Ends.one (fun n => by simp only [drawn, ht, hr, hm, cond_true]) h

/-- A call comes up. -/
theorem drawn_call {i : Nat} {o : Oper} {f : FuncId} {args : List SV} (ht : takeAll P Γ ops ops.toList 0 mask held fr hp = some (m', held', fr', hp')) (hr : readyNow m' ops.toList 0 = [(i, o)]) (hw : wantedQ ops fr' o = some true)
    (hc : calleeOf fr'.ev o.op = some (.fn f args)) (hcl : cloneE P ⟨hide i held' hp'.objs, hp'.next⟩ f args = none)
    (h : Runs P Γ (.call f args ⟨hide i held' hp'.objs, hp'.next⟩) fun r => ∃ t fr2, showed i hp'.objs r.hp.objs held' r.hp.objs = some t ∧ fr'.put o.dst r.v = some fr2 ∧ factsStand r.hp i held' held' = true ∧ RunsDrawn P Γ ops k (m' ||| 2 ^ i) (drop i held') fr2 ⟨t, r.hp.next⟩ Φ) :
    RunsDrawn P Γ ops (k + 1) mask held fr hp Φ := by
  refine Ends.bind (g := fun n (r : Out) => match showed i hp'.objs r.hp.objs held' r.hp.objs, fr'.put o.dst r.v with
      | some t, some f => bif factsStand r.hp i held' held' then drawn P Γ (runO P Γ theMem n) ops k (m' ||| 2 ^ i) (drop i held') f ⟨t, r.hp.next⟩ else none
      | _, _ => none) h (fun r hr => ?_) fun n l hl => ?_
  · obtain ⟨t, fr2, h1, h2, h3, h4⟩ := hr
    refine Ends.eq h4 fun n => ?_
    simp only [h1, h2, h3, cond_true]
  · simp only [drawn, ht, hr, allOf_one, comesUp, hw, loud, hc, hcl, hl, Option.map_some]
    exact allOf_map _ _ l

/-- An operation that makes or turns memory comes up. -/
theorem drawn_effect {i : Nat} {o : Oper} {v : SV} {h2 : Hp} {t : T AObj} {fr2 : Fr} (ht : takeAll P Γ ops ops.toList 0 mask held fr hp = some (m', held', fr', hp')) (hr : readyNow m' ops.toList 0 = [(i, o)]) (hw : wantedQ ops fr' o = some true)
    (hc : calleeOf fr'.ev o.op = none) (he : effect P Γ ⟨hide i held' hp'.objs, hp'.next⟩ fr'.ev o.op = some [(v, h2)]) (hn : hp'.next ≤ h2.next)
    (hs : showed i hp'.objs h2.objs held' h2.objs = some t) (hput : fr'.put o.dst v = some fr2) (hst : factsStand h2 i held' held' = true) (h : RunsDrawn P Γ ops k (m' ||| 2 ^ i) (drop i held') fr2 ⟨t, h2.next⟩ Φ) :
    RunsDrawn P Γ ops (k + 1) mask held fr hp Φ := by
  refine Ends.eq h fun n => ?_
  simp only [drawn, ht, hr, allOf_one, comesUp, hw, loud, hc, he, List.all_cons, List.all_nil, Nat.ble_eq_true_of_le hn, Bool.and_self, cond_true, hs, hput, hst]

/-! ### the pass -/
variable {o : Oper} {rest : List Oper} {i : Nat} {res : Option (Nat × List Held × Fr × Hp)}
theorem take_done (hm : Nat.testBit mask i = true) (h : takeAll P Γ ops rest (i + 1) mask held fr hp = res) : takeAll P Γ ops (o :: rest) i mask held fr hp = res := by
  rw [← h, takeAll, hm, cond_true]
theorem take_wait (hm : Nat.testBit mask i = false) (hd : Nat.beq (Nat.land (depsOf o) mask) (depsOf o) = false) (h : takeAll P Γ ops rest (i + 1) mask held fr hp = res) : takeAll P Γ ops (o :: rest) i mask held fr hp = res := by
  rw [← h, takeAll, hm, cond_false, hd, cond_false]
theorem take_loud [Mute Γ] (hm : Nat.testBit mask i = false) (hd : Nat.beq (Nat.land (depsOf o) mask) (depsOf o) = true) (hw : wantedQ ops fr o = some true) (hq : quiet P Γ ⟨hide i held hp.objs, hp.next⟩ fr.ev o.op = none) (hl : localE P ⟨hide i held hp.objs, hp.next⟩ fr.ev o.op = none)
    (h : takeAll P Γ ops rest (i + 1) mask held fr hp = res) : takeAll P Γ ops (o :: rest) i mask held fr hp = res := by
  rw [← h, takeAll, hm, cond_false, hd, cond_true, hw]
  simp only [quietA_mute hq, hl]
theorem take_quiet {v : SV} {fr2 : Fr} (hm : Nat.testBit mask i = false) (hd : Nat.beq (Nat.land (depsOf o) mask) (depsOf o) = true) (hw : wantedQ ops fr o = some true) (hq : quiet P Γ ⟨hide i held hp.objs, hp.next⟩ fr.ev o.op = some (v, [])) (hput : fr.put o.dst v = some fr2)
    (h : takeAll P Γ ops rest (i + 1) (mask ||| 2 ^ i) held fr2 hp = res) : takeAll P Γ ops (o :: rest) i mask held fr hp = res := by
  rw [← h, takeAll, hm, cond_false, hd, cond_true, hw]
  simp only [quietA_of hq, hput]
theorem take_lean {v : SV} {fs : Fact} {fr2 : Fr} (hm : Nat.testBit mask i = false) (hd : Nat.beq (Nat.land (depsOf o) mask) (depsOf o) = true) (hw : wantedQ ops fr o = some true) (hq : quiet P Γ ⟨hide i held hp.objs, hp.next⟩ fr.ev o.op = some (v, [fs])) (hput : fr.put o.dst v = some fr2)
    (h : takeAll P Γ ops rest (i + 1) (mask ||| 2 ^ i) (⟨descOf i ops.toList 0 0, [fs], none⟩ :: held) fr2 hp = res) : takeAll P Γ ops (o :: rest) i mask held fr hp = res := by
  rw [← h, takeAll, hm, cond_false, hd, cond_true, hw]
  simp only [quietA_of hq, hput]
theorem take_local [Mute Γ] {v : SV} {b nx : Nat} {ob : AObj} {fr2 : Fr} (hm : Nat.testBit mask i = false) (hd : Nat.beq (Nat.land (depsOf o) mask) (depsOf o) = true) (hw : wantedQ ops fr o = some true) (hq : quiet P Γ ⟨hide i held hp.objs, hp.next⟩ fr.ev o.op = none)
    (hl : localE P ⟨hide i held hp.objs, hp.next⟩ fr.ev o.op = some (v, b, ob, nx)) (hn : noneLeans i b held = true) (hput : fr.put o.dst v = some fr2)
    (h : takeAll P Γ ops rest (i + 1) (mask ||| 2 ^ i) (⟨descOf i ops.toList 0 0, [], some (b, ob)⟩ :: held) fr2 ⟨hp.objs.set b ob, nx⟩ = res) : takeAll P Γ ops (o :: rest) i mask held fr hp = res := by
  rw [← h, takeAll, hm, cond_false, hd, cond_true, hw]
  simp only [quietA_mute hq, hl, hn, cond_true, hput]
end
end Go.Proofs.YtcpigoljjbhkkaaGreatDoor.Ev
namespace Go.Proofs.YtcpigoljjbhkkaaGreatDoor.Ev
open Go Go.RowKit

section
variable {P : Program} {Γ : Glob} {ops : Array Oper} {o : Oper} {l : List Oper} {tm : T SV} {n d : Nat} {ms : List Nat} {hp hp' : Hp} {Φ : Out → Prop} {v : SV} {fs : List Fact}
theorem put_slot (hd : o.dst = some d) (hn : Nat.blt d n = true) : Fr.put ⟨tm, n, ms⟩ o.dst v = some ⟨tm.set d v, n, ms⟩ := by
  rw [hd]
  simp only [Fr.put, hn, cond_true]
theorem ops_q (hw : wantedQ ops ⟨tm, n, ms⟩ o = some true) (hq : quiet P Γ hp (Fr.ev ⟨tm, n, ms⟩) o.op = some (v, fs)) (hd : o.dst = some d) (hn : Nat.blt d n = true) (h : RunsOps P Γ ops l ⟨tm.set d v, n, ms⟩ hp Φ) : RunsOps P Γ ops (o :: l) ⟨tm, n, ms⟩ hp Φ :=
  ops_quiet hw hq (put_slot hd hn) h
theorem ops_u (hw : wantedQ ops ⟨tm, n, ms⟩ o = some false) (hd : o.dst = some d) (hn : Nat.blt d n = true) (h : RunsOps P Γ ops l ⟨tm.set d (.lit undef), n, ms⟩ hp Φ) : RunsOps P Γ ops (o :: l) ⟨tm, n, ms⟩ hp Φ :=
  ops_unwanted hw (put_slot hd hn) h
theorem ops_u0 (hw : wantedQ ops ⟨tm, n, ms⟩ o = some false) (hd : o.dst = none) (h : RunsOps P Γ ops l ⟨tm, n, ms⟩ hp Φ) : RunsOps P Γ ops (o :: l) ⟨tm, n, ms⟩ hp Φ :=
  ops_unwanted hw (by rw [hd]; rfl) h
theorem ops_e [Mute Γ] (hw : wantedQ ops ⟨tm, n, ms⟩ o = some true) (hq : quiet P Γ hp (Fr.ev ⟨tm, n, ms⟩) o.op = none) (hc : calleeOf (Fr.ev ⟨tm, n, ms⟩) o.op = none) (he : effect P Γ hp (Fr.ev ⟨tm, n, ms⟩) o.op = some [(v, hp')]) (hx : hp.next ≤ hp'.next) (hd : o.dst = some d) (hn : Nat.blt d n = true)
    (h : RunsOps P Γ ops l ⟨tm.set d v, n, ms⟩ hp' Φ) : RunsOps P Γ ops (o :: l) ⟨tm, n, ms⟩ hp Φ :=
  ops_effect hw hq hc he hx (put_slot hd hn) h
theorem ops_e0 [Mute Γ] (hw : wantedQ ops ⟨tm, n, ms⟩ o = some true) (hq : quiet P Γ hp (Fr.ev ⟨tm, n, ms⟩) o.op = none) (hc : calleeOf (Fr.ev ⟨tm, n, ms⟩) o.op = none) (he : effect P Γ hp (Fr.ev ⟨tm, n, ms⟩) o.op = some [(v, hp')]) (hx : hp.next ≤ hp'.next) (hd : o.dst = none)
    (h : RunsOps P Γ ops l ⟨tm, n, ms⟩ hp' Φ) : RunsOps P Γ ops (o :: l) ⟨tm, n, ms⟩ hp Φ :=
  ops_effect hw hq hc he hx (by rw [hd]; rfl) h
theorem ops_c [Mute Γ] {f : FuncId} {args : List SV} (hw : wantedQ ops ⟨tm, n, ms⟩ o = some true) (hq : quiet P Γ hp (Fr.ev ⟨tm, n, ms⟩) o.op = none) (hc : calleeOf (Fr.ev ⟨tm, n, ms⟩) o.op = some (.fn f args)) (hcl : cloneE P hp f args = none) (hd : o.dst = some d) (hn : Nat.blt d n = true)
    (h : Runs P Γ (.call f args hp) fun r => RunsOps P Γ ops l ⟨tm.set d r.v, n, ms⟩ r.hp Φ) : RunsOps P Γ ops (o :: l) ⟨tm, n, ms⟩ hp Φ :=
  ops_call hw hq hc hcl (h.mono fun _ hr => ⟨_, put_slot hd hn, hr⟩)

theorem splice_whole {l cs : List SV} (hl : l.length = cs.length) (h1 : cs.all SV.one = true) : splice l 0 cs = some cs := by
  simp only [splice, h1, Bool.and_true, Nat.zero_add, List.take_zero, List.nil_append]
  rw [Nat.ble_eq_true_of_le (by omega), cond_true, ← hl, List.drop_length, List.append_nil]
theorem store_eff {h : Hp} {ρ : Operand → SV} {t : TypeId} {a x : Operand} {b off m : Nat} {l l' : List SV} {e : TypeId} (hs : tySize P t = some m) (ha : ρ a = .ptr b off) (hx : ρ x = v) (hl : v.cells.length = m) (hb : h.objs.get b = some (.cells l e)) (hsp : splice l off v.cells = some l') :
    effect P Γ h ρ (.store t a x) = some [(.lit undef, ⟨h.objs.set b (.cells l' e), h.next⟩)] := by
  simp only [effect, storeE, hs, ha, hx, beq_t hl, cond_true, hb, hsp, Option.map_some, Hp.upd, unit]
/-- A new block for a value: made, and stored into. -/
theorem ops_new [Mute Γ] {o2 : Oper} {e : TypeId} {z : Value} {cs : List SV} {m : Nat} {x : Operand}
    (w1 : wantedQ ops ⟨tm, n, ms⟩ o = some true) (h1 : o.op = .alloc e) (hz : tyZero P e = some z) (hd : o.dst = some d) (hn : Nat.blt d n = true)
    (w2 : wantedQ ops ⟨tm.set d (.ptr hp.next 0), n, ms⟩ o2 = some true) (h2 : o2.op = .store e (.tmp d) x) (p2 : o2.dst = none) (hx : Fr.ev ⟨tm.set d (.ptr hp.next 0), n, ms⟩ x = .agg cs) (hs : tySize P e = some m) (hzl : (SV.cells (.lit z)).length = m) (hl : cs.length = m) (hone : cs.all SV.one = true)
    (k : ∀ H, H.objs.get hp.next = some (.cells cs e) → (∀ b, b ≠ hp.next → H.objs.get b = hp.objs.get b) → H.next = hp.next + 1 → RunsOps P Γ ops l ⟨tm.set d (.ptr hp.next 0), n, ms⟩ H Φ) : RunsOps P Γ ops (o :: o2 :: l) ⟨tm, n, ms⟩ hp Φ := by
  refine ops_e (v := .ptr hp.next 0) (hp' := ⟨hp.objs.set hp.next (.cells (SV.cells (.lit z)) e), hp.next + 1⟩) w1 (by rw [h1]; rfl) (by rw [h1]; rfl) (by rw [h1]; simp only [effect, hz, Option.map_some]; rfl) (Nat.le_succ _) hd hn ?_
  refine ops_e0 (v := .lit undef) (hp' := ⟨(hp.objs.set hp.next (.cells (SV.cells (.lit z)) e)).set hp.next (.cells cs e), hp.next + 1⟩) w2 (by rw [h2]; rfl) (by rw [h2]; rfl) ?_ (Nat.le_refl _) p2 ?_
  · rw [h2]
    exact store_eff hs (by rw [ev_set, if_pos rfl]) hx hl (by show (hp.objs.set _ _).get _ = _; rw [T.get_set, if_pos rfl]) (splice_whole (by rw [hzl]; exact hl.symm) hone)
  · refine k _ (by show ((hp.objs.set _ _).set _ _).get _ = _; rw [T.get_set, if_pos rfl]) (fun b hb => ?_) rfl
    show ((hp.objs.set hp.next (.cells (SV.cells (.lit z)) e)).set hp.next (.cells cs e)).get b = _
    rw [T.get_set, if_neg hb, T.get_set, if_neg hb]

/-! ### regions that draw -/
variable {k mask m' i : Nat} {held held' : List Held} {rest : List Oper} {res : Option (Nat × List Held × Fr × Hp)}
theorem take_q (hm : Nat.testBit mask i = false) (hdp : Nat.beq (Nat.land (depsOf o) mask) (depsOf o) = true) (hw : wantedQ ops ⟨tm, n, ms⟩ o = some true) (hq : quiet P Γ ⟨hide i held hp.objs, hp.next⟩ (Fr.ev ⟨tm, n, ms⟩) o.op = some (v, [])) (hd : o.dst = some d) (hn : Nat.blt d n = true)
    (h : takeAll P Γ ops rest (i + 1) (mask ||| 2 ^ i) held ⟨tm.set d v, n, ms⟩ hp = res) : takeAll P Γ ops (o :: rest) i mask held ⟨tm, n, ms⟩ hp = res :=
  take_quiet hm hdp hw hq (put_slot hd hn) h
theorem take_f {fact : Fact} (hm : Nat.testBit mask i = false) (hdp : Nat.beq (Nat.land (depsOf o) mask) (depsOf o) = true) (hw : wantedQ ops ⟨tm, n, ms⟩ o = some true) (hq : quiet P Γ ⟨hide i held hp.objs, hp.next⟩ (Fr.ev ⟨tm, n, ms⟩) o.op = some (v, [fact])) (hd : o.dst = some d) (hn : Nat.blt d n = true)
    (h : takeAll P Γ ops rest (i + 1) (mask ||| 2 ^ i) (⟨descOf i ops.toList 0 0, [fact], none⟩ :: held) ⟨tm.set d v, n, ms⟩ hp = res) : takeAll P Γ ops (o :: rest) i mask held ⟨tm, n, ms⟩ hp = res :=
  take_lean hm hdp hw hq (put_slot hd hn) h
theorem drawn_c {tm' : T SV} {f : FuncId} {args : List SV} {fr0 : Fr} {h0 : Hp} (ht : takeAll P Γ ops ops.toList 0 mask held fr0 h0 = some (m', held', ⟨tm', n, ms⟩, hp)) (hr : readyNow m' ops.toList 0 = [(i, o)]) (hw : wantedQ ops ⟨tm', n, ms⟩ o = some true)
    (hc : calleeOf (Fr.ev ⟨tm', n, ms⟩) o.op = some (.fn f args)) (hcl : cloneE P ⟨hide i held' hp.objs, hp.next⟩ f args = none) (hd : o.dst = some d) (hn : Nat.blt d n = true)
    (h : Runs P Γ (.call f args ⟨hide i held' hp.objs, hp.next⟩) fun r => ∃ t, showed i hp.objs r.hp.objs held' r.hp.objs = some t ∧ factsStand r.hp i held' held' = true ∧ RunsDrawn P Γ ops k (m' ||| 2 ^ i) (drop i held') ⟨tm'.set d r.v, n, ms⟩ ⟨t, r.hp.next⟩ Φ) :
    RunsDrawn P Γ ops (k + 1) mask held fr0 h0 Φ :=
  drawn_call ht hr hw hc hcl (h.mono fun _ ⟨t, h1, h2, h3⟩ => ⟨t, _, h1, put_slot hd hn, h2, h3⟩)
end
end Go.Proofs.YtcpigoljjbhkkaaGreatDoor.Ev
namespace Go.Proofs.YtcpigoljjbhkkaaGreatDoor.Ev
open Go Go.RowKit

section
variable {P : Program} {Γ : Env}

/-- What an oracle says is so. -/
def OracleOk (P : Program) (Γ : Env) (mem : Oracle) : Prop := ∀ f args hp outs, mem f args hp = some outs → (∃ fn c, P.funcs[f]? = some fn ∧ fn.body = some c) ∧
    ∀ X w0 θ K w, Rep Γ X w0 θ K hp w → SV.okL K args → CallsIn Fence.wide 0 P f (concL θ args).toArray w (CPost Γ X w0 θ K hp.next outs)

theorem stepO_sound [AskOk P Γ] (hN : NoCount P) (hmix : P.follows .mixedOrders = true) {mem : Oracle} (hmem : OracleOk P Γ mem) {self : Task → R} {m : Nat} (hS : Sound P Γ self) (hL : Loops P Γ m self) :
    Sound P Γ (stepO P Γ mem self) ∧ Loops P Γ (m + 1) (stepO P Γ mem self) := by
  obtain ⟨h1, h2⟩ := step_sound hN hmix hS hL
  refine ⟨⟨h1.code, fun f args hp outs hq => ?_, h1.round⟩, h2⟩
  simp only [stepO] at hq
  split at hq
  · rename_i os hos
    simp only [Option.some.injEq] at hq
    subst hq
    exact hmem f args hp _ hos
  · exact h1.call f args hp outs hq

theorem runO_sound [AskOk P Γ] (hN : NoCount P) (hmix : P.follows .mixedOrders = true) {mem : Oracle} (hmem : OracleOk P Γ mem) : ∀ n, Sound P Γ (runO P Γ mem n) ∧ Loops P Γ n (runO P Γ mem n)
  | 0 => ⟨⟨fun _ _ _ _ _ h => (by cases h), fun _ _ _ _ h => (by cases h), fun _ _ _ _ h => (by cases h)⟩, fun _ _ _ _ _ h => (by cases h)⟩
  | n + 1 => stepO_sound hN hmix hmem (runO_sound hN hmix hmem n).1 (runO_sound hN hmix hmem n).2

/-- What a call leaves as it was stands for what it stood for. -/
theorem Rep.behind {X : Nat → Prop} {w0 : World} {θ : Ren} {K : Nat → Prop} {hp : Hp} {w w' : World} (hr : Rep Γ X w0 θ K hp w) (hb : Below w.heap.size w w') : Rep Γ X w0 θ K hp w' := by
  obtain ⟨b1, b2, b3, b4, b5⟩ := hb
  refine ⟨b1.trans hr.os, b2.trans hr.tape, b3.trans hr.output, Nat.le_trans hr.size b4, fun k hk => (b5 k ?_).trans (hr.kept k hk), hr.low, hr.glob, fun b o hb => ?_, hr.inj, hr.next, hr.inv⟩
  · exact Nat.lt_of_lt_of_le (hr.low k hk) hr.size
  · obtain ⟨k1, k2, k3, ob, k4, k5⟩ := hr.obj b o hb
    exact ⟨k1, k2, k3, ob, (b5 _ (Array.getElem?_eq_some_iff.1 k4).1).trans k4, k5⟩

/-- A word: one of these values comes back, and all is as it was. -/
def told (hp : Hp) (vs : List Value) : List Out := vs.map fun v => ⟨.ret, ⟨.leaf, 0, []⟩, hp, .lit v⟩
theorem told_post {X : Nat → Prop} {w0 : World} {θ : Ren} {K : Nat → Prop} {hp : Hp} {w : World} (hr : Rep Γ X w0 θ K hp w) {f : FuncId} {args : Array Value} {vs : List Value}
    (h : Calls P f args w fun e w' => (∃ v ∈ vs, e = .returned v) ∧ Below w.heap.size w w') : CallsIn Fence.wide 0 P f args w (CPost Γ X w0 θ K hp.next (told hp vs)) := by
  refine callsIn_wide.2 (h.mono ?_)
  rintro e w' ⟨⟨v, hv, rfl⟩, hb⟩
  exact ⟨_, List.mem_map.2 ⟨v, hv, rfl⟩, θ, K, Grow.refl _ _ _, rfl, trivial, hr.behind hb⟩

/-- **A call that the evaluator runs to 'true' on all ways, with an oracle**, returns true, and leaves what there was. -/
theorem calls_trueO [AskOk P Γ] (hN : NoCount P) (hmix : P.follows .mixedOrders = true) {mem : Oracle} (hmem : OracleOk P Γ mem) (n m : Nat) (f : FuncId) (args : List SV) (θ : Ren) (w : World) (hq : allTrue (runO P Γ mem n (.call f args ⟨.leaf, m⟩)) = true)
    (hΓ : globMet Γ w) (hi : Γ.inv (· < w.heap.size) w θ (· < m)) (hok : SV.okL (· < m) args) : Calls P f (concL θ args).toArray w fun e w' => e = .returned (.bool true) ∧ Below w.heap.size w w' := by
  obtain ⟨outs, ho, ht⟩ := allTrue_spec hq
  refine (callsIn_wide.1 (((runO_sound hN hmix hmem n).1.call f args ⟨.leaf, m⟩ outs ho).2 _ w θ _ w (rep_start θ m hΓ hi) hok)).mono ?_
  rintro e w' ⟨o, hm, θ', K', _, rfl, _, hrep⟩
  rw [ht o hm]
  exact ⟨rfl, hrep.below⟩

/-- **The bridge, for any values**: what a call comes to on all ways, if it is told in literals, and what there was stays; where the seat's oracle says what is so. -/
theorem calls_of_runsV {Γ : Glob} [Mute Γ] (hN : NoCount P) (hmix : P.follows .mixedOrders = true) (hmem : OracleOk P (.plain Γ) theMem) {m : Nat} {f : FuncId} {args : List SV} (θ : Ren) {w : World} {vs : List Value} (h : Runs P Γ (.call f args ⟨.leaf, m⟩) fun o => ∃ v ∈ vs, o.v = .lit v) (hΓ : globMet Γ w) (hok : SV.okL (· < m) args) :
    Calls P f (concL θ args).toArray w fun e w' => (∃ v ∈ vs, e = .returned v) ∧ Below w.heap.size w w' := by
  obtain ⟨n, outs, h1, h2⟩ := h
  refine (callsIn_wide.1 (((runO_sound (Γ := .plain Γ) hN hmix hmem n).1.call f args ⟨.leaf, m⟩ outs (h1 n (Nat.le_refl _))).2 _ w θ _ w (rep_start θ m hΓ trivial) hok)).mono ?_
  rintro e w' ⟨o, hm, θ', K', _, rfl, _, hrep⟩
  obtain ⟨v, hv, e⟩ := h2 o hm
  rw [e]
  exact ⟨⟨v, hv, rfl⟩, hrep.below⟩
theorem noOracle (Γ : Env) : OracleOk P Γ fun _ _ _ => none := fun _ _ _ _ h => by cases h
end
end Go.Proofs.YtcpigoljjbhkkaaGreatDoor.Ev
namespace Go.Proofs.YtcpigoljjbhkkaaGreatDoor.Ev.O
open Go Go.RowKit Go.Proofs.YtcpigoljjbhkkaaGreatDoor.Ev

section
variable {P : Program} {Γ : Glob} {mem : Oracle}

/-- What a task comes to. -/
def Runs (P : Program) (Γ : Glob) (mem : Oracle) (t : Task) (Φ : Out → Prop) : Prop := Ends (fun n => runO P Γ mem n t) Φ

theorem Runs.mono {t : Task} {Φ Ψ : Out → Prop} (h : Runs P Γ mem t Φ) (hp : ∀ x, Φ x → Ψ x) : Runs P Γ mem t Ψ := Ends.mono h hp
theorem Runs.intro {t : Task} {Φ : Out → Prop} (n : Nat) {outs : List Out} (h : runO P Γ mem n t = some outs) (hp : ∀ o ∈ outs, Φ o) : Runs P Γ mem t Φ :=
  ⟨n, outs, fun _ hm => runO_le hm t outs h, hp⟩
/-- One step of the evaluator. -/
theorem Runs.step {t : Task} {Φ : Out → Prop} (h : Ends (fun n => stepO P Γ mem (runO P Γ mem n) t) Φ) : Runs P Γ mem t Φ := Ends.succ h fun n => runO_succ n t

/-- What comes behind a normal end. -/
def Then (next : Fr → Hp → Prop) (Φ : Out → Prop) (o : Out) : Prop := match o.exit with
  | .normal => next o.fr o.hp
  | _ => Φ o

def seqStep (g : Fr → Hp → R) (x : Out) : R := match x.exit with
  | .normal => g x.fr x.hp
  | _ => some [x]
theorem seqOut_eq (g : Fr → Hp → R) (l : List Out) : seqOut g l = allOf (seqStep g) l := rfl
theorem seq_ends {f : Nat → Option (List Out)} {g : Nat → Fr → Hp → R} {k : Nat → R} {Φ : Out → Prop} (h : Ends f (Then (fun fr hp => Ends (fun n => g n fr hp) Φ) Φ)) (he : ∀ n l, f n = some l → k n = seqOut (g n) l) : Ends k Φ := by
  refine Ends.bind (g := fun n x => seqStep (g n) x) h (fun o ho => ?_) fun n l hl => (he n l hl).trans (seqOut_eq _ _)
  obtain ⟨ex, fr, hp, v⟩ := o
  cases ex with
  | normal => exact ho
  | ret => exact Ends.one (fun _ => rfl) ho
  | exit id => exact Ends.one (fun _ => rfl) ho

theorem runs_skip {ro : Option Nat} {fr : Fr} {hp : Hp} {Φ : Out → Prop} (h : Φ ⟨.normal, fr, hp, .lit undef⟩) : Runs P Γ mem (.code .skip ro fr hp) Φ := Runs.step (Ends.one (fun _ => rfl) h)
theorem runs_ret {ro : Option Nat} {fr : Fr} {hp : Hp} {Φ : Out → Prop} (h : Φ ⟨.ret, fr, hp, .lit undef⟩) : Runs P Γ mem (.code .ret ro fr hp) Φ := Runs.step (Ends.one (fun _ => rfl) h)
theorem runs_exit {id : Nat} {ro : Option Nat} {fr : Fr} {hp : Hp} {Φ : Out → Prop} (h : Φ ⟨.exit id, fr, hp, .lit undef⟩) : Runs P Γ mem (.code (.exit id) ro fr hp) Φ := Runs.step (Ends.one (fun _ => rfl) h)

theorem runs_seq {a b : Code} {ro : Option Nat} {fr : Fr} {hp : Hp} {Φ : Out → Prop} (h : Runs P Γ mem (.code a ro fr hp) (Then (fun f p => Runs P Γ mem (.code b ro f p) Φ) Φ)) : Runs P Γ mem (.code (.seq a b) ro fr hp) Φ :=
  Runs.step (seq_ends (g := fun n f p => runO P Γ mem n (.code b ro f p)) h fun n l hl => by simp only [stepO, stepTask]; rw [hl])
theorem runs_loop {c : Code} {ro : Option Nat} {fr : Fr} {hp : Hp} {Φ : Out → Prop} (h : Runs P Γ mem (.code c ro fr hp) (Then (fun f p => Runs P Γ mem (.code (.loop c) ro f p) Φ) Φ)) : Runs P Γ mem (.code (.loop c) ro fr hp) Φ :=
  Runs.step (seq_ends (g := fun n f p => runO P Γ mem n (.code (.loop c) ro f p)) h fun n l hl => by simp only [stepO, stepTask]; rw [hl])
theorem runs_cond {c : Operand} {x y : Code} {ro : Option Nat} {fr : Fr} {hp : Hp} {Φ : Out → Prop} (b : Bool) (hc : fr.ev c = .lit (.bool b)) (h : Runs P Γ mem (.code (bif b then x else y) ro fr hp) Φ) : Runs P Γ mem (.code (.cond c x y) ro fr hp) Φ := by
  refine Runs.step (Ends.eq h fun n => ?_)
  simp only [stepO, stepTask]
  rw [hc]
  cases b <;> rfl

/-- A block's end. -/
def atEnd (id : Nat) (x : Out) : Out := match x.exit with
  | .exit k => bif Nat.beq k id then { x with exit := .normal } else x
  | _ => x
theorem runs_block {id : Nat} {c : Code} {ro : Option Nat} {fr : Fr} {hp : Hp} {Φ : Out → Prop} (h : Runs P Γ mem (.code c ro fr hp) fun o => Φ (atEnd id o)) : Runs P Γ mem (.code (.block id c) ro fr hp) Φ := by
  obtain ⟨N, l, h1, h2⟩ := h
  refine Runs.step ⟨N, l.map (atEnd id), fun n hn => ?_, fun x hx => ?_⟩
  · have e : runO P Γ mem n (.code c ro fr hp) = some l := h1 n hn
    simp only [stepO, stepTask, e]
    rfl
  · obtain ⟨y, hy, rfl⟩ := List.mem_map.1 hx
    exact h2 y hy

/-- Operations in turn. -/
def RunsOps (P : Program) (Γ : Glob) (mem : Oracle) (ops : Array Oper) (l : List Oper) (fr : Fr) (hp : Hp) (Φ : Out → Prop) : Prop := Ends (fun n => inTurn P Γ (runO P Γ mem n) ops l fr hp) Φ
theorem runs_region {id : Nat} {ops : Array Oper} {ro : Option Nat} {fr : Fr} {hp : Hp} {Φ : Out → Prop} (h : RunsOps P Γ mem ops ops.toList fr hp Φ) : Runs P Γ mem (.code (.region id ops false) ro fr hp) Φ := Runs.step h
theorem runs_draws {id : Nat} {ops : Array Oper} {ro : Option Nat} {fr : Fr} {hp : Hp} {Φ : Out → Prop} (hf : regionFit ops ops.toList 0 = true) (h : Ends (fun n => drawn P Γ (runO P Γ mem n) ops (ops.size + 1) 0 [] fr hp) Φ) : Runs P Γ mem (.code (.region id ops true) ro fr hp) Φ := by
  refine Runs.step (Ends.eq h fun n => ?_)
  simp only [stepO, stepTask]
  rw [hf]
  rfl

theorem ops_nil {ops : Array Oper} {fr : Fr} {hp : Hp} {Φ : Out → Prop} (h : Φ ⟨.normal, fr, hp, .lit undef⟩) : RunsOps P Γ mem ops [] fr hp Φ := Ends.one (fun _ => rfl) h

theorem ops_cons {ops : Array Oper} {o : Oper} {l : List Oper} {fr : Fr} {hp : Hp} {Φ : Out → Prop} (h : Ends (fun n => oper P Γ (runO P Γ mem n) ops fr hp o) fun x => RunsOps P Γ mem ops l x.1 x.2 Φ) : RunsOps P Γ mem ops (o :: l) fr hp Φ :=
  Ends.bind (α := Fr × Hp) (g := fun n (x : Fr × Hp) => inTurn P Γ (runO P Γ mem n) ops l x.1 x.2) (Φ := fun x => RunsOps P Γ mem ops l x.1 x.2 Φ) h (fun _ hx => hx) fun n xs hxs => by simp only [inTurn]; rw [hxs]

/-- A quiet operation. -/
theorem ops_quiet {ops : Array Oper} {o : Oper} {l : List Oper} {fr fr' : Fr} {hp : Hp} {Φ : Out → Prop} {v : SV} {fs : List Fact} (hw : wantedQ ops fr o = some true) (hq : quiet P Γ hp fr.ev o.op = some (v, fs)) (hput : fr.put o.dst v = some fr')
    (h : RunsOps P Γ mem ops l fr' hp Φ) : RunsOps P Γ mem ops (o :: l) fr hp Φ :=
  ops_cons (Ends.one (x := (fr', hp)) (fun n => by simp only [oper, hw, quietA_of hq, hput, Option.map_some]) h)
/-- One that is not wanted. -/
theorem ops_unwanted {ops : Array Oper} {o : Oper} {l : List Oper} {fr fr' : Fr} {hp : Hp} {Φ : Out → Prop} (hw : wantedQ ops fr o = some false) (hput : fr.put o.dst (.lit undef) = some fr') (h : RunsOps P Γ mem ops l fr' hp Φ) : RunsOps P Γ mem ops (o :: l) fr hp Φ :=
  ops_cons (Ends.one (x := (fr', hp)) (fun n => by simp only [oper, hw, hput, Option.map_some]) h)
/-- One that makes or turns memory. -/
theorem ops_effectA {ops : Array Oper} {o : Oper} {l : List Oper} {fr fr' : Fr} {hp hp' : Hp} {Φ : Out → Prop} {v : SV} (hw : wantedQ ops fr o = some true) (hq : quietA P Γ hp fr.ev o.op = none) (hc : calleeOf fr.ev o.op = none)
    (he : effect P Γ hp fr.ev o.op = some [(v, hp')]) (hn : hp.next ≤ hp'.next) (hput : fr.put o.dst v = some fr') (h : RunsOps P Γ mem ops l fr' hp' Φ) : RunsOps P Γ mem ops (o :: l) fr hp Φ :=
  ops_cons (Ends.one (x := (fr', hp')) (fun n => by
    simp only [oper, hw, hq, loud, hc, he, List.all_cons, List.all_nil, Nat.ble_eq_true_of_le hn, Bool.and_self, cond_true, allOf, hput, Option.map_some]
    rfl) h)
theorem ops_effect [Mute Γ] {ops : Array Oper} {o : Oper} {l : List Oper} {fr fr' : Fr} {hp hp' : Hp} {Φ : Out → Prop} {v : SV} (hw : wantedQ ops fr o = some true) (hq : quiet P Γ hp fr.ev o.op = none) (hc : calleeOf fr.ev o.op = none)
    (he : effect P Γ hp fr.ev o.op = some [(v, hp')]) (hn : hp.next ≤ hp'.next) (hput : fr.put o.dst v = some fr') (h : RunsOps P Γ mem ops l fr' hp' Φ) : RunsOps P Γ mem ops (o :: l) fr hp Φ :=
  ops_effectA hw (quietA_mute hq) hc he hn hput h
theorem allOf_map {α β γ : Type} (f : β → Option (List γ)) (g : α → β) : ∀ l : List α, allOf f (l.map g) = allOf (fun a => f (g a)) l
  | [] => rfl
  | a :: l => by simp only [List.map_cons, allOf, allOf_map f g l]
/-- A call. -/
theorem ops_callA {ops : Array Oper} {o : Oper} {l : List Oper} {fr : Fr} {hp : Hp} {Φ : Out → Prop} {f : FuncId} {args : List SV} (hw : wantedQ ops fr o = some true) (hq : quietA P Γ hp fr.ev o.op = none) (hc : calleeOf fr.ev o.op = some (.fn f args))
    (hcl : cloneE P hp f args = none) (h : Runs P Γ mem (.call f args hp) fun r => ∃ fr', fr.put o.dst r.v = some fr' ∧ RunsOps P Γ mem ops l fr' r.hp Φ) : RunsOps P Γ mem ops (o :: l) fr hp Φ := by
  refine ops_cons (Ends.bind (g := fun _ r => (fr.put o.dst r.v).map fun f => [(f, r.hp)]) h (fun r hr => ?_) fun n xs hxs => ?_)
  · obtain ⟨fr', h1, h2⟩ := hr
    exact Ends.one (x := (fr', r.hp)) (fun _ => by rw [h1]; rfl) h2
  · simp only [oper, hw, hq, loud, hc, hcl, hxs, Option.map_some]
    exact allOf_map _ _ xs
theorem ops_call [Mute Γ] {ops : Array Oper} {o : Oper} {l : List Oper} {fr : Fr} {hp : Hp} {Φ : Out → Prop} {f : FuncId} {args : List SV} (hw : wantedQ ops fr o = some true) (hq : quiet P Γ hp fr.ev o.op = none) (hc : calleeOf fr.ev o.op = some (.fn f args))
    (hcl : cloneE P hp f args = none) (h : Runs P Γ mem (.call f args hp) fun r => ∃ fr', fr.put o.dst r.v = some fr' ∧ RunsOps P Γ mem ops l fr' r.hp Φ) : RunsOps P Γ mem ops (o :: l) fr hp Φ :=
  ops_callA hw (quietA_mute hq) hc hcl h

/-- What a call comes to when its body has ended. -/
theorem runs_call {f : FuncId} {fn : Func} {c : Code} {args : List SV} {hp : Hp} {Φ : Out → Prop} (hf : P.funcs[f]? = some fn) (hb : fn.body = some c)
    (h : Runs P Γ mem (.code c none ⟨T.ofList args 0 .leaf, Nat.max fn.ntmps args.length, []⟩ hp) fun o => ∃ r, leave P Γ fn o = some [r] ∧ Φ r) (hm : mem f args hp = none := by rfl) : Runs P Γ mem (.call f args hp) Φ := by
  refine Runs.step (Ends.bind (g := fun _ o => leave P Γ fn o) h (fun o ho => ?_) fun n xs hxs => ?_)
  · obtain ⟨r, h1, h2⟩ := ho
    exact Ends.one (fun _ => h1) h2
  · simp only [stepO, hm, stepTask, hf, hb, hxs]

/-- A call whose word is known. -/
theorem runs_told {f : FuncId} {args : List SV} {hp : Hp} {outs : List Out} {Φ : Out → Prop} (hm : mem f args hp = some outs) (h : ∀ o ∈ outs, Φ o) : Runs P Γ mem (.call f args hp) Φ :=
  ⟨1, outs, fun n hn => by
    obtain ⟨m, rfl⟩ : ∃ m, n = m + 1 := ⟨n - 1, by omega⟩
    show stepO P Γ mem (runO P Γ mem m) (.call f args hp) = some outs
    simp only [stepO, hm], h⟩
end

section
variable {P : Program} {Γ : Glob} {mem : Oracle} {ops : Array Oper} {o : Oper} {l : List Oper} {tm : T SV} {n d : Nat} {ms : List Nat} {hp hp' : Hp} {Φ : Out → Prop} {v : SV} {fs : List Fact}
theorem ops_q (hw : wantedQ ops ⟨tm, n, ms⟩ o = some true) (hq : quiet P Γ hp (Fr.ev ⟨tm, n, ms⟩) o.op = some (v, fs)) (hd : o.dst = some d) (hn : Nat.blt d n = true) (h : RunsOps P Γ mem ops l ⟨tm.set d v, n, ms⟩ hp Φ) : RunsOps P Γ mem ops (o :: l) ⟨tm, n, ms⟩ hp Φ :=
  ops_quiet hw hq (put_slot hd hn) h
theorem ops_u (hw : wantedQ ops ⟨tm, n, ms⟩ o = some false) (hd : o.dst = some d) (hn : Nat.blt d n = true) (h : RunsOps P Γ mem ops l ⟨tm.set d (.lit undef), n, ms⟩ hp Φ) : RunsOps P Γ mem ops (o :: l) ⟨tm, n, ms⟩ hp Φ :=
  ops_unwanted hw (put_slot hd hn) h
theorem ops_u0 (hw : wantedQ ops ⟨tm, n, ms⟩ o = some false) (hd : o.dst = none) (h : RunsOps P Γ mem ops l ⟨tm, n, ms⟩ hp Φ) : RunsOps P Γ mem ops (o :: l) ⟨tm, n, ms⟩ hp Φ :=
  ops_unwanted hw (by rw [hd]; rfl) h
theorem ops_e [Mute Γ] (hw : wantedQ ops ⟨tm, n, ms⟩ o = some true) (hq : quiet P Γ hp (Fr.ev ⟨tm, n, ms⟩) o.op = none) (hc : calleeOf (Fr.ev ⟨tm, n, ms⟩) o.op = none) (he : effect P Γ hp (Fr.ev ⟨tm, n, ms⟩) o.op = some [(v, hp')]) (hx : hp.next ≤ hp'.next) (hd : o.dst = some d) (hn : Nat.blt d n = true)
    (h : RunsOps P Γ mem ops l ⟨tm.set d v, n, ms⟩ hp' Φ) : RunsOps P Γ mem ops (o :: l) ⟨tm, n, ms⟩ hp Φ :=
  ops_effect hw hq hc he hx (put_slot hd hn) h
theorem ops_e0 [Mute Γ] (hw : wantedQ ops ⟨tm, n, ms⟩ o = some true) (hq : quiet P Γ hp (Fr.ev ⟨tm, n, ms⟩) o.op = none) (hc : calleeOf (Fr.ev ⟨tm, n, ms⟩) o.op = none) (he : effect P Γ hp (Fr.ev ⟨tm, n, ms⟩) o.op = some [(v, hp')]) (hx : hp.next ≤ hp'.next) (hd : o.dst = none)
    (h : RunsOps P Γ mem ops l ⟨tm, n, ms⟩ hp' Φ) : RunsOps P Γ mem ops (o :: l) ⟨tm, n, ms⟩ hp Φ :=
  ops_effect hw hq hc he hx (by rw [hd]; rfl) h
theorem ops_c [Mute Γ] {f : FuncId} {args : List SV} (hw : wantedQ ops ⟨tm, n, ms⟩ o = some true) (hq : quiet P Γ hp (Fr.ev ⟨tm, n, ms⟩) o.op = none) (hc : calleeOf (Fr.ev ⟨tm, n, ms⟩) o.op = some (.fn f args)) (hcl : cloneE P hp f args = none) (hd : o.dst = some d) (hn : Nat.blt d n = true)
    (h : Runs P Γ mem (.call f args hp) fun r => RunsOps P Γ mem ops l ⟨tm.set d r.v, n, ms⟩ r.hp Φ) : RunsOps P Γ mem ops (o :: l) ⟨tm, n, ms⟩ hp Φ :=
  ops_call hw hq hc hcl (h.mono fun _ hr => ⟨_, put_slot hd hn, hr⟩)

end
/-- **The bridge**: a call that comes to true on all ways, over an oracle that says what is so. -/
theorem calls_true {P : Program} {Γ : Env} [AskOk P Γ] (hN : NoCount P) (hmix : P.follows .mixedOrders = true) {mem : Oracle} (hmem : OracleOk P Γ mem) {m : Nat} {f : FuncId} {args : List SV} (θ : Ren) {w : World} (h : Runs P Γ.tab mem (.call f args ⟨.leaf, m⟩) fun o => o.v = .lit (.bool true))
    (hΓ : globMet Γ.tab w) (hi : Γ.inv (· < w.heap.size) w θ (· < m)) (hok : SV.okL (· < m) args) : Calls P f (concL θ args).toArray w fun e w' => e = .returned (.bool true) ∧ Below w.heap.size w w' := by
  obtain ⟨n, outs, h1, h2⟩ := h
  refine (callsIn_wide.1 (((runO_sound hN hmix hmem n).1.call f args ⟨.leaf, m⟩ outs (h1 n (Nat.le_refl _))).2 _ w θ _ w (rep_start θ m hΓ hi) hok)).mono ?_
  rintro e w' ⟨o, hm, θ', K', _, rfl, _, hrep⟩
  rw [h2 o hm]
  exact ⟨rfl, hrep.below⟩
end Go.Proofs.YtcpigoljjbhkkaaGreatDoor.Ev.O
namespace Go.Proofs.YtcpigoljjbhkkaaGreatDoor.Ev
open Go Go.RowKit

/-- An operation, by what it looks at. -/
inductive Key where
  | bin (op : BinOp) (t : TypeId) (x y : SV)
  | len (t : TypeId) (x : SV)
  | idx (t : TypeId) (x i : SV)
  | slc (t : TypeId) (x : SV) (lo hi : Option SV)

def sameO : Option SV → Option SV → Bool
  | none, none => true
  | some x, some y => SV.same x y
  | _, _ => false
theorem sameO_eq {x y : Option SV} (h : sameO x y = true) : x = y := by
  cases x <;> cases y <;> first | rfl | cases h | exact congrArg some (same_eq _ _ h)
def Key.same : Key → Key → Bool
  | .bin o t x y, .bin o' t' x' y' => decide (o = o') && (Nat.beq t t' && (SV.same x x' && SV.same y y'))
  | .len t x, .len t' x' => Nat.beq t t' && SV.same x x'
  | .idx t x i, .idx t' x' i' => Nat.beq t t' && (SV.same x x' && SV.same i i')
  | .slc t x l h, .slc t' x' l' h' => Nat.beq t t' && (SV.same x x' && (sameO l l' && sameO h h'))
  | _, _ => false
theorem Key.same_eq {a b : Key} (h : Key.same a b = true) : a = b := by
  cases a <;> cases b <;> first | (cases h; done) | skip
  all_goals simp only [Key.same, Bool.and_eq_true, decide_eq_true_eq] at h
  · obtain ⟨rfl, h1, h2, h3⟩ := h
    rw [Nat.eq_of_beq_eq_true h1, Ev.same_eq _ _ h2, Ev.same_eq _ _ h3]
  · rw [Nat.eq_of_beq_eq_true h.1, Ev.same_eq _ _ h.2]
  · rw [Nat.eq_of_beq_eq_true h.1, Ev.same_eq _ _ h.2.1, Ev.same_eq _ _ h.2.2]
  · rw [Nat.eq_of_beq_eq_true h.1, Ev.same_eq _ _ h.2.1, sameO_eq h.2.2.1, sameO_eq h.2.2.2]

abbrev Row := Key × SV
def findRow (k : Key) : List Row → Option SV
  | [] => none
  | r :: l => bif Key.same k r.1 then some r.2 else findRow k l
theorem findRow_mem {k : Key} {v : SV} : ∀ {l : List Row}, findRow k l = some v → (k, v) ∈ l
  | r :: l, h => by
    unfold findRow at h
    cases hs : Key.same k r.1 with
    | true =>
      rw [hs, cond_true] at h
      rw [Key.same_eq hs, ← Option.some.inj h]
      exact List.mem_cons_self ..
    | false =>
      rw [hs, cond_false] at h
      exact List.mem_cons_of_mem _ (findRow_mem h)

/-- What an operation looks at, if it is one of those that are told. -/
def keyOf (op : Op) (ρ : Operand → SV) : Option Key :=
  match op with
  | .binOp b t x y _ => some (.bin b t (ρ x) (ρ y))
  | .call ⟨.builtin .len, args, argTypes⟩ => match args[0]?, argTypes[0]? with
    | some x, some t => some (.len t (ρ x))
    | _, _ => none
  | .index t x i => some (.idx t (ρ x) (ρ i))
  | .slice t x lo hi none => some (.slc t (ρ x) (lo.map ρ) (hi.map ρ))
  | _ => none
def askBy (g : Key → Option SV) : Ask := fun op ρ => match keyOf op ρ with
  | some k => g k
  | none => none
def askOf (rows : List Row) : Ask := askBy fun k => findRow k rows

/-- The model's own word on a row, where names mean this. -/
def RowW (P : Program) (θ : Ren) : Row → Prop
  | (.bin b t x y, v) => ∀ xo yo, binQ P b t xo yo (.lit (conc θ x)) (.lit (conc θ y)) = some (.lit (conc θ v))
  | (.len t x, v) => lenQ P ⟨.leaf, 0⟩ t (.lit (conc θ x)) = some (.lit (conc θ v), [])
  | (.idx t x i, v) => indexQ P t (.lit (conc θ x)) (.lit (conc θ i)) = some (.lit (conc θ v))
  | (.slc t x lo hi, v) => sliceQ P t (.lit (conc θ x)) (lo.map fun z => .lit (conc θ z)) (hi.map fun z => .lit (conc θ z)) none = some (.lit (conc θ v))

/-- What is told is so, if each word is. -/
theorem askH_by {P : Program} {Γ : Glob} {g : Key → Option SV} {θ : Ren} {K : Nat → Prop} (ha : Γ.ask = askBy g) (hg : ∀ k v, g k = some v → v.ok K ∧ RowW P θ (k, v)) : AskH P Γ θ K := by
  intro op ρ v hv hops
  clear hops
  rw [ha] at hv
  unfold askBy at hv
  cases hk : keyOf op ρ with
  | none => rw [hk] at hv; cases hv
  | some k =>
    rw [hk] at hv
    obtain ⟨hok, hw⟩ := hg _ _ hv
    have main : ∀ (h : quiet P ⟨.leaf, noAsk⟩ ⟨.leaf, 0⟩ (fun z => .lit (conc θ (ρ z))) op = some (.lit (conc θ v), [])), isSelect op = false → isDefer op = false →
        v.ok K ∧ isSelect op = false ∧ isDefer op = false ∧ ∀ (o : Oper) (w : World), o.op = op → (execOp (fun x => conc θ (ρ x)) o).run P w = .ok (.value (conc θ v)) w := by
      intro h h1 h2
      refine ⟨hok, h1, h2, fun o w ho => ?_⟩
      have := quiet_sound (P := P) (Γ := .plain ⟨.leaf, noAsk⟩) (θ := θ) (w := w) (h := ⟨.leaf, 0⟩) (ρ := fun z => .lit (conc θ (ρ z))) (o := o) (v := .lit (conc θ v)) (fs := []) (by rw [ho]; exact h) (fun g cs hg => by cases hg) (fun f hf => by cases hf)
      simpa only [conc] using this
    unfold keyOf at hk
    split at hk
    · rename_i b t x y _r
      obtain rfl := Option.some.inj hk
      have hw : ∀ xo yo, binQ P b t xo yo (.lit (conc θ (ρ x))) (.lit (conc θ (ρ y))) = some (.lit (conc θ v)) := hw
      exact main (by simp only [quiet, hw x y, one, Option.map_some]) rfl rfl
    · rename_i args argTypes
      split at hk
      · rename_i x t hx ht
        obtain rfl := Option.some.inj hk
        have hw : lenQ P ⟨.leaf, 0⟩ t (.lit (conc θ (ρ x))) = some (.lit (conc θ v), []) := hw
        exact main (by simp only [quiet, hx, ht, hw]) rfl rfl
      · cases hk
    · rename_i t x i
      obtain rfl := Option.some.inj hk
      have hw : indexQ P t (.lit (conc θ (ρ x))) (.lit (conc θ (ρ i))) = some (.lit (conc θ v)) := hw
      exact main (by simp only [quiet, hw, one, Option.map_some]) rfl rfl
    · rename_i t x lo hi
      obtain rfl := Option.some.inj hk
      have hw : sliceQ P t (.lit (conc θ (ρ x))) ((lo.map ρ).map fun z => .lit (conc θ z)) ((hi.map ρ).map fun z => .lit (conc θ z)) none = some (.lit (conc θ v)) := hw
      refine main ?_ rfl rfl
      have e : ∀ o : Option Operand, (o.map ρ).map (fun z => SV.lit (conc θ z)) = o.map fun z => SV.lit (conc θ (ρ z)) := fun o => by cases o <;> rfl
      rw [e, e] at hw
      simp only [quiet, Option.map_none, hw, one, Option.map_some]
    · cases hk

/-- The run's own table is so, if each row is. -/
theorem askH_of {P : Program} {Γ : Glob} {rows : List Row} {θ : Ren} {K : Nat → Prop} (ha : Γ.ask = askOf rows) (hrows : ∀ r ∈ rows, r.2.ok K ∧ RowW P θ r) : AskH P Γ θ K :=
  askH_by ha fun _ _ h => hrows _ (findRow_mem h)

/-- A word: this value comes back, and all is as it was. -/
def told1 (hp : Hp) (v : SV) : List Out := [⟨.ret, ⟨.leaf, 0, []⟩, hp, v⟩]
theorem told1_post {P : Program} {Γ : Env} {X : Nat → Prop} {w0 : World} {θ : Ren} {K : Nat → Prop} {hp : Hp} {w : World} (hr : Rep Γ X w0 θ K hp w) {f : FuncId} {args : Array Value} {v : SV} (hv : v.ok K)
    (h : Calls P f args w fun e w' => e = .returned (conc θ v) ∧ Below w.heap.size w w') : CallsIn Fence.wide 0 P f args w (CPost Γ X w0 θ K hp.next (told1 hp v)) := by
  refine callsIn_wide.2 (h.mono ?_)
  rintro e w' ⟨rfl, hb⟩
  exact ⟨_, List.mem_singleton_self _, θ, K, Grow.refl _ _ _, rfl, hv, hr.behind hb⟩
end Go.Proofs.YtcpigoljjbhkkaaGreatDoor.Ev
