/-
  A REGION THAT DRAWS ITS ORDER, IN THE CALCULUS OF RUNS, by the author of this claim: where at each time one loud operation is ready. Of any program.
-/
import Derived.Test.YthjkejnmjbljfaaGreatDoorEvOwn
namespace Go.Proofs.YthjkejnmjbljfaaGreatDoor.Ev
open Go Go.RowKit

section
variable {P : Program} {Γ : Glob}

theorem allOf_one {α β : Type} (f : α → Option (List β)) (a : α) : allOf f [a] = f a := by
  simp only [allOf]
  cases f a with
  | none => rfl
  | some x => simp

/-- A region that draws, from a state on. -/
def RunsDrawn (P : Program) (Γ : Glob) (ops : Array Oper) (k mask : Nat) (held : List Held) (fr : Fr) (hp : Hp) (Φ : Out → Prop) : Prop := Ends (fun n => drawn P Γ (run P Γ n) ops k mask held fr hp) Φ

theorem runs_drawn {id : Nat} {ops : Array Oper} {ro : Option Nat} {fr : Fr} {hp : Hp} {Φ : Out → Prop} (hf : regionFit ops ops.toList 0 = true) (h : RunsDrawn P Γ ops (ops.size + 1) 0 [] fr hp Φ) : Runs P Γ (.code (.region id ops true) ro fr hp) Φ := runs_draws hf h

variable {ops : Array Oper} {k mask : Nat} {held : List Held} {fr : Fr} {hp : Hp} {Φ : Out → Prop} {m' : Nat} {held' : List Held} {fr' : Fr} {hp' : Hp}

theorem drawn_end (ht : takeAll P Γ ops ops.toList 0 mask held fr hp = some (m', held', fr', hp')) (hr : readyNow m' ops.toList 0 = []) (hm : Nat.beq m' (2 ^ ops.size - 1) = true) (h : Φ ⟨.normal, fr', hp', .lit undef⟩) : RunsDrawn P Γ ops (k + 1) mask held fr hp Φ :=
  Ends.one (fun n => by simp only [drawn, ht, hr, hm, cond_true]) h

/-- A call comes up. -/
theorem drawn_call {i : Nat} {o : Oper} {f : FuncId} {args : List SV} (ht : takeAll P Γ ops ops.toList 0 mask held fr hp = some (m', held', fr', hp')) (hr : readyNow m' ops.toList 0 = [(i, o)]) (hw : wantedQ ops fr' o = some true)
    (hc : calleeOf fr'.ev o.op = some (.fn f args)) (hcl : cloneE P ⟨hide i held' hp'.objs, hp'.next⟩ f args = none)
    (h : Runs P Γ (.call f args ⟨hide i held' hp'.objs, hp'.next⟩) fun r => ∃ t fr2, showed i hp'.objs r.hp.objs held' r.hp.objs = some t ∧ fr'.put o.dst r.v = some fr2 ∧ factsStand r.hp i held' held' = true ∧ RunsDrawn P Γ ops k (m' ||| 2 ^ i) (drop i held') fr2 ⟨t, r.hp.next⟩ Φ) :
    RunsDrawn P Γ ops (k + 1) mask held fr hp Φ := by
  refine Ends.bind (g := fun n (r : Out) => match showed i hp'.objs r.hp.objs held' r.hp.objs, fr'.put o.dst r.v with
      | some t, some f => bif factsStand r.hp i held' held' then drawn P Γ (run P Γ n) ops k (m' ||| 2 ^ i) (drop i held') f ⟨t, r.hp.next⟩ else none
      | _, _ => none) h (fun r hr => ?_) fun n l hl => ?_
  · obtain ⟨t, fr2, h1, h2, h3, h4⟩ := hr
    refine Ends.eq h4 fun n => ?_
    simp only [h1, h2, h3, cond_true]
  · simp only [drawn, ht, hr, allOf_one, comesUp, hw, loud, hc, hcl, hl, Option.map_some]
    exact allOf_map _ _ l

/-- An operation that makes or turns memory comes up. -/
theorem drawn_effect {i : Nat} {o : Oper} {v : SV} {h2 : Hp} {t : T AObj} {fr2 : Fr} (ht : takeAll P Γ ops ops.toList 0 mask held fr hp = some (m', held', fr', hp')) (hr : readyNow m' ops.toList 0 = [(i, o)]) (hw : wantedQ ops fr' o = some true)
    (hc : calleeOf fr'.ev o.op = none) (he : effect P Γ ⟨hide i held' hp'.objs, hp'.next⟩ fr'.ev o.op = some [(v, h2)]) (hn : hp'.next ≤ h2.next)
    (hs : showed i hp'.objs h2.objs held' h2.objs = some t) (hput : fr'.put o.dst v = some fr2) (hst : factsStand h2 i held' held' = true) (h : RunsDrawn P Γ ops k (m' ||| 2 ^ i) (drop i held') fr2 ⟨t, h2.next⟩ Φ) :
    RunsDrawn P Γ ops (k + 1) mask held fr hp Φ := by
  refine Ends.eq h fun n => ?_
  simp only [drawn, ht, hr, allOf_one, comesUp, hw, loud, hc, he, List.all_cons, List.all_nil, Nat.ble_eq_true_of_le hn, Bool.and_self, cond_true, hs, hput, hst]

/-! ### the pass -/
variable {o : Oper} {rest : List Oper} {i : Nat} {res : Option (Nat × List Held × Fr × Hp)}
theorem take_done (hm : Nat.testBit mask i = true) (h : takeAll P Γ ops rest (i + 1) mask held fr hp = res) : takeAll P Γ ops (o :: rest) i mask held fr hp = res := by
  rw [← h, takeAll, hm, cond_true]
theorem take_wait (hm : Nat.testBit mask i = false) (hd : Nat.beq (Nat.land (depsOf o) mask) (depsOf o) = false) (h : takeAll P Γ ops rest (i + 1) mask held fr hp = res) : takeAll P Γ ops (o :: rest) i mask held fr hp = res := by
  rw [← h, takeAll, hm, cond_false, hd, cond_false]
theorem take_loud (hm : Nat.testBit mask i = false) (hd : Nat.beq (Nat.land (depsOf o) mask) (depsOf o) = true) (hw : wantedQ ops fr o = some true) (hq : quiet P Γ ⟨hide i held hp.objs, hp.next⟩ fr.ev o.op = none) (hl : localE P ⟨hide i held hp.objs, hp.next⟩ fr.ev o.op = none)
    (h : takeAll P Γ ops rest (i + 1) mask held fr hp = res) : takeAll P Γ ops (o :: rest) i mask held fr hp = res := by
  rw [← h, takeAll, hm, cond_false, hd, cond_true, hw]
  simp only [hq, hl]
theorem take_quiet {v : SV} {fr2 : Fr} (hm : Nat.testBit mask i = false) (hd : Nat.beq (Nat.land (depsOf o) mask) (depsOf o) = true) (hw : wantedQ ops fr o = some true) (hq : quiet P Γ ⟨hide i held hp.objs, hp.next⟩ fr.ev o.op = some (v, [])) (hput : fr.put o.dst v = some fr2)
    (h : takeAll P Γ ops rest (i + 1) (mask ||| 2 ^ i) held fr2 hp = res) : takeAll P Γ ops (o :: rest) i mask held fr hp = res := by
  rw [← h, takeAll, hm, cond_false, hd, cond_true, hw]
  simp only [hq, hput]
theorem take_lean {v : SV} {fs : Fact} {fr2 : Fr} (hm : Nat.testBit mask i = false) (hd : Nat.beq (Nat.land (depsOf o) mask) (depsOf o) = true) (hw : wantedQ ops fr o = some true) (hq : quiet P Γ ⟨hide i held hp.objs, hp.next⟩ fr.ev o.op = some (v, [fs])) (hput : fr.put o.dst v = some fr2)
    (h : takeAll P Γ ops rest (i + 1) (mask ||| 2 ^ i) (⟨descOf i ops.toList 0 0, [fs], none⟩ :: held) fr2 hp = res) : takeAll P Γ ops (o :: rest) i mask held fr hp = res := by
  rw [← h, takeAll, hm, cond_false, hd, cond_true, hw]
  simp only [hq, hput]
theorem take_local {v : SV} {b nx : Nat} {ob : AObj} {fr2 : Fr} (hm : Nat.testBit mask i = false) (hd : Nat.beq (Nat.land (depsOf o) mask) (depsOf o) = true) (hw : wantedQ ops fr o = some true) (hq : quiet P Γ ⟨hide i held hp.objs, hp.next⟩ fr.ev o.op = none)
    (hl : localE P ⟨hide i held hp.objs, hp.next⟩ fr.ev o.op = some (v, b, ob, nx)) (hn : noneLeans i b held = true) (hput : fr.put o.dst v = some fr2)
    (h : takeAll P Γ ops rest (i + 1) (mask ||| 2 ^ i) (⟨descOf i ops.toList 0 0, [], some (b, ob)⟩ :: held) fr2 ⟨hp.objs.set b ob, nx⟩ = res) : takeAll P Γ ops (o :: rest) i mask held fr hp = res := by
  rw [← h, takeAll, hm, cond_false, hd, cond_true, hw]
  simp only [hq, hl, hn, cond_true, hput]
end
end Go.Proofs.YthjkejnmjbljfaaGreatDoor.Ev
