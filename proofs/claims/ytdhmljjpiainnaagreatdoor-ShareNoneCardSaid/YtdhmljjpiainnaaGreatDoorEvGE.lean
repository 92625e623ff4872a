/-
  A REGION THAT DRAWS ITS ORDER (6): every order comes to one of the evaluator's outcomes, by the author of this claim. Of any program in which no function is runtime.NumGoroutine. | A REGION THAT DRAWS ITS ORDER (7): the walk over all orders, by the author of this claim. Of any program in which no function is runtime.NumGoroutine. | THE EVALUATOR's STEP IS SOUND (1): code, by the author of this claim. Of any program in which no function is runtime.NumGoroutine. | THE EVALUATOR's STEP IS SOUND (2): ranges over functions, calls, rounds; the evaluator, by the author of this claim. Of any program in which no function is runtime.NumGoroutine. | THE EVALUATOR's STEP IS SOUND (3): ranges over functions, calls, rounds; the evaluator, by the author of this claim. Of any program in which no function is runtime.NumGoroutine. | THE EVALUATOR IS SOUND, by the author of this claim. Of any program in which no function is runtime.NumGoroutine, and that draws the order in which a region's operations come. | A CALL BY THE EVALUATOR IN ANY WORLD, by the author of this claim: what a run that ends in 'true' on all ways says of the call; and a row's last step. Of any program in which no function is runtime.NumGoroutine, and that draws the order in which a region's operations come. | A LAW'S LAST STEP, by the author of this claim: a call that returns true and leaves what there was meets the row's word, whatever the types of its arguments; and an argument that is a struct as cells. Of any program.
-/
import Derived.Test.YtdhmljjpiainnaaGreatDoorEvGD
import Derived.RangeFuncRecord
import Derived.LoopNIn
import Derived.Below
import Derived.ChangeSame
import Derived.Carry
import Derived.ProofKit
import Derived.OpenShut
import Derived.Lib.LaidTab
namespace Go.Proofs.YtdhmljjpiainnaaGreatDoor.Ev
open Go Go.RowKit
section
variable {P : Program} {Γ : Env} {ops : Array Oper} {X : Nat → Prop} {w0 : World}
def more (X : Nat → Prop) (g : Nat → Bool) (θ : Ren) (t : T AObj) (k : Nat) : Prop := X k ∨ ∃ b o, g b = true ∧ t.get b = some o ∧ k = θ.blk b
theorem Rep.part {θ : Ren} {K : Nat → Prop} {g : Nat → Bool} {t v : T AObj} {n : Nat} {w : World} (hr : Rep Γ X w0 θ K ⟨t, n⟩ w) (hv : ∀ b, v.get b = bif g b then none else t.get b) : Rep Γ (more X g θ t) w θ K ⟨v, n⟩ w := by
  have vis : ∀ b o, v.get b = some o → g b = false ∧ t.get b = some o := fun b o hb => by
    rw [hv b] at hb
    cases hg : g b with
    | true => rw [hg] at hb; cases hb
    | false => rw [hg] at hb; exact ⟨rfl, hb⟩
  refine ⟨rfl, rfl, rfl, Nat.le_refl _, fun _ _ => rfl, fun k hk => ?_, fun x cs hx => ?_, fun b o hb => ?_, fun b b' o o' hb hb' e => ?_, hr.next, Γ.base hr.inv (fun _ h => .inl h) hr.kept hr.size⟩
  · rcases hk with hk | ⟨b, o, _, hb, rfl⟩
    · exact Nat.lt_of_lt_of_le (hr.low k hk) hr.size
    · obtain ⟨_, _, _, ob, hob, _⟩ := hr.obj b o hb
      exact (Array.getElem?_eq_some_iff.1 hob).1
  · obtain ⟨h1, e, fr, h2⟩ := hr.glob x cs hx
    exact ⟨.inl h1, e, fr, by rw [hr.kept x h1]; exact h2⟩
  · obtain ⟨hg, hb⟩ := vis b o hb
    obtain ⟨k1, k2, k3, k4⟩ := hr.obj b o hb
    refine ⟨k1, ?_, k3, k4⟩
    rintro (hx | ⟨b', o', hg', hb', e⟩)
    · exact k2 hx
    · have := hr.inj b b' o o' hb hb' e
      subst this
      rw [hg] at hg'; cases hg'
  · exact hr.inj b b' o o' (vis b o hb).2 (vis b' o' hb').2 e
theorem Rep.whole {θ θ' : Ren} {K K' : Nat → Prop} {g : Nat → Bool} {t r t' : T AObj} {n n' : Nat} {w w' : World} (hr : Rep Γ X w0 θ K ⟨t, n⟩ w) (hr' : Rep Γ (more X g θ t) w θ' K' ⟨r, n'⟩ w') (hE : Ext K θ θ') (hm : ∀ i, K i → K' i)
    (h1 : ∀ b, g b = true → t'.get b = t.get b) (h2 : ∀ b, g b = false → t'.get b = r.get b) : Rep Γ X w0 θ' K' ⟨t', n'⟩ w' := by
  refine ⟨hr'.os.trans hr.os, hr'.tape.trans hr.tape, hr'.output.trans hr.output, Nat.le_trans hr.size hr'.size, fun k hk => (hr'.kept k (.inl hk)).trans (hr.kept k hk), hr.low, hr.glob, fun b o hb => ?_, fun b b' o o' hb hb' e => ?_, hr'.next, Γ.ext hr.inv hE hm⟩
  · cases hg : g b with
    | true =>
      have hb : t.get b = some o := by rw [← h1 b hg]; exact hb
      obtain ⟨k1, k2, k3, ob, k4, k5⟩ := hr.obj b o hb
      refine ⟨hm _ k1, by rw [hE.blk b k1]; exact k2, AObj.ok_mono hm o k3, ob, ?_, ORep_ext hE k3 k5⟩
      rw [hE.blk b k1, hr'.kept _ (.inr ⟨b, o, hg, hb, rfl⟩)]
      exact k4
    | false =>
      have hb : r.get b = some o := by rw [← h2 b hg]; exact hb
      obtain ⟨k1, k2, k3, k4⟩ := hr'.obj b o hb
      exact ⟨k1, fun hx => k2 (.inl hx), k3, k4⟩
  · have cross : ∀ b b' o o', g b = true → g b' = false → t'.get b = some o → t'.get b' = some o' → θ'.blk b = θ'.blk b' → False := fun b b' o o' hg hg' hb hb' e => by
      rw [h1 b hg] at hb
      rw [h2 b' hg'] at hb'
      obtain ⟨_, k2, _⟩ := hr'.obj b' o' hb'
      refine k2 (.inr ⟨b, o, hg, hb, ?_⟩)
      rw [← e, hE.blk b (hr.obj b o hb).1]
    cases hg : g b with
    | true =>
      cases hg' : g b' with
      | true =>
        have hb : t.get b = some o := by rw [← h1 b hg]; exact hb
        have hb' : t.get b' = some o' := by rw [← h1 b' hg']; exact hb'
        rw [hE.blk b (hr.obj b o hb).1, hE.blk b' (hr.obj b' o' hb').1] at e
        exact hr.inj b b' o o' hb hb' e
      | false => exact (cross b b' o o' hg hg' hb hb' e).elim
    | false =>
      cases hg' : g b' with
      | true => exact (cross b' b o' o hg' hg hb' hb e.symm).elim
      | false =>
        have hb : r.get b = some o := by rw [← h2 b hg]; exact hb
        have hb' : r.get b' = some o' := by rw [← h2 b' hg']; exact hb'
        exact hr'.inj b b' o o' hb hb' e
theorem Rep.later {θ : Ren} {K : Nat → Prop} {t : T AObj} {n n' : Nat} {w : World} (hr : Rep Γ X w0 θ K ⟨t, n⟩ w) (h : n ≤ n') : Rep Γ X w0 θ K ⟨t, n'⟩ w :=
  ⟨hr.os, hr.tape, hr.output, hr.size, hr.kept, hr.low, hr.glob, hr.obj, hr.inj, fun i hi => hr.next i (Nat.le_trans h hi), hr.inv⟩
theorem FRep.feq {θ : Ren} {K : Nat → Prop} {f g : Fr} {a : Act} (hf : FRep θ K f a) (h : FEq f g) : FRep θ K g a := by
  refine ⟨⟨hf.tmps.1.trans h.sz, fun x => ?_⟩, fun x v hx => hf.ok x v ((h.tmps x).trans hx), by rw [← h.marks]; exact hf.marks, by rw [← h.marks]; exact hf.marksOk⟩
  rw [← h.tmps x]; exact hf.tmps.2 x
theorem Chain.newNe {fr : Fr} {hp : T AObj} : ∀ (pd : List Rec) {f : Fr} {t : T AObj} {β : Nat} {o : AObj}, Chain P Γ ops pd f t fr hp → t.get β = some o → ∀ q ∈ pd, q.new = true → ∀ b ob, q.chg = some (b, ob) → b ≠ β := by
  intro pd
  induction pd with
  | nil => intro f t β o _ _ q hq; cases hq
  | cons p pd ih =>
    intro f t β o h hβ q hq hn b ob hc
    obtain ⟨hd, f1, t1, _, hch, hr⟩ := h
    rcases List.mem_cons.1 hq with rfl | hq
    · rcases hd.does with ⟨_, _, _, c⟩ | ⟨_, c, _⟩ | ⟨_, _, _, b', ob', c, g, _⟩ | ⟨_, _, n, _⟩
      · rw [hc] at c; cases c
      · rw [hc] at c; cases c
      · rw [hc] at c; cases c
        intro e; rw [e, hβ] at g; cases g
      · rw [hn] at n; cases n
    · have hs : ∃ o', t1.get β = some o' := by
        rw [hch β]
        cases p.chg with
        | none => exact ⟨o, hβ⟩
        | some c =>
          obtain ⟨b', ob'⟩ := c
          simp only
          split
          · exact ⟨_, rfl⟩
          · exact ⟨o, hβ⟩
      obtain ⟨o', ho'⟩ := hs
      exact ih hr ho' q hq hn b ob hc
theorem land_of_sub {a b : Nat} (h : ∀ k, a.testBit k = true → b.testBit k = true) : Nat.beq (Nat.land a b) a = true := by
  apply beq_t
  apply Nat.eq_of_testBit_eq
  intro i
  show (a &&& b).testBit i = a.testBit i
  rw [Nat.testBit_and]
  cases ha : a.testBit i with
  | false => rfl
  | true => rw [h i ha]; rfl
def Passed (P : Program) (Γ : Env) (self : Task → R) (ops : Array Oper) (n M : Nat) (held : List Held) (fr : Fr) (hp : Hp) (outs : List Out) : Prop :=
  (readyNow M ops.toList 0 = [] → (⟨.normal, fr, hp, .lit undef⟩ : Out) ∈ outs) ∧ ∀ io ∈ readyNow M ops.toList 0, ∃ x, comesUp P Γ self ops (drawn P Γ self ops n) M held fr hp io = some x ∧ ∀ y ∈ x, y ∈ outs
theorem Passed.of {self : Task → R} {n M : Nat} {held : List Held} {fr : Fr} {hp : Hp} {outs : List Out} (h : drawn P Γ self ops (n + 1) M held fr hp = some outs) :
    ∃ x, takeAll P Γ ops ops.toList 0 M held fr hp = some x ∧ Passed P Γ self ops n x.1 x.2.1 x.2.2.1 x.2.2.2 outs := by
  simp only [drawn] at h
  split at h
  · cases h
  · rename_i x hx
    refine ⟨x, hx, ?_⟩
    split at h
    · rename_i hr
      cases hb : Nat.beq x.1 (2 ^ ops.size - 1) with
      | false => rw [hb] at h; cases h
      | true =>
        rw [hb] at h
        simp only [cond_true, Option.some.injEq] at h
        subst h
        exact ⟨fun _ => List.mem_singleton.2 rfl, fun io hio => by rw [hr] at hio; cases hio⟩
    · rename_i rs hne
      exact ⟨fun e => absurd e hne, fun io hio => allOf_mem h io hio⟩
variable {n0 : Nat} {θ : Ren} {K : Nat → Prop} {M : Nat} {held : List Held} {fr : Fr} {hp : Hp} {pd : List Rec} {f : Fr} {t : T AObj} {a : Act} {w : World} {listed : Array Bool}
theorem Inv.pass (hI : Inv P Γ ops X w0 n0 θ K M held fr hp pd f t a w listed) {x : Nat × List Held × Fr × Hp} (hx : takeAll P Γ ops ops.toList 0 M held fr hp = some x) : ∃ pd', Inv P Γ ops X w0 n0 θ K x.1 x.2.1 x.2.2.1 x.2.2.2 pd' f t a w listed := by
  obtain ⟨ts, T⟩ := takeAll_sound ops.toList (fun m => by rw [Nat.zero_add, Array.getElem?_toList]) hx hI.wf hI.chain hI.freshGet hI.heldLt
  have hdone : ∀ j, Done x.1 (pd ++ ts) j ↔ Done M pd j := fun j => by
    constructor
    · rintro ⟨h1, h2⟩
      refine ⟨?_, fun p hp => h2 p (List.mem_append_left _ hp)⟩
      rcases (T.mask j).1 h1 with h | ⟨p, hp, e⟩
      · exact h
      · exact absurd e (h2 p (List.mem_append_right _ hp))
    · rintro ⟨h1, h2⟩
      refine ⟨(T.mask j).2 (.inl h1), fun p hp e => ?_⟩
      rcases List.mem_append.1 hp with hp | hp
      · exact h2 p hp e
      · have := T.fresh p hp
        rw [e, h1] at this; cases this
  refine ⟨pd ++ ts, T.wf, T.chain, hI.fr, hI.rep.later T.next, fun p hp hn b ob hc => ?_, T.freshGet, T.heldLt, hI.size, fun j hj => ?_, fun j o ho hd k hk => ?_, fun j hj => ?_⟩
  · rcases List.mem_append.1 hp with hp | hp
    · exact hI.newK p hp hn b ob hc
    · exact hI.rep.next b (T.new p hp hn b ob hc)
  · rw [hI.listed j hj, hdone]
  · exact (hdone k).2 (hI.closed j o ho ((hdone j).1 hd) k hk)
  · rcases (T.mask j).1 hj with h | ⟨p, hp, e⟩
    · exact hI.mask j h
    · have := (T.wf.op p (List.mem_append_right _ hp)).1
      rw [e] at this
      exact (Array.getElem?_eq_some_iff.1 this).1
theorem Inv.allDone (hI : Inv P Γ ops X w0 n0 θ K M held fr hp pd f t a w listed) (fit : Fit ops) (h0 : Region.ready .any ops listed = []) : ∀ j, j < ops.size → Done M pd j := by
  have key : ∀ n j, j < n → j < ops.size → Done M pd j := by
    intro n
    induction n with
    | zero => intro j h; omega
    | succ n ih =>
      intro j hj hlt
      have ho : ops[j]? = some ops[j] := Array.getElem?_eq_getElem hlt
      refine Classical.byContradiction fun hn => ?_
      have := hI.ofReady fit ho hn fun k hk => by
        have := fit.low j _ k ho hk
        exact ih k (by omega) (by omega)
      rw [h0] at this; cases this
  exact fun j => key (j + 1) j (Nat.lt_succ_self _)
theorem Inv.finish {self : Task → R} {n : Nat} {outs : List Out} (hI : Inv P Γ ops X w0 n0 θ K M held fr hp pd f t a w listed) (fit : Fit ops) (hP : Passed P Γ self ops n M held fr hp outs) (h0 : Region.ready .any ops listed = []) :
    Post Γ X w0 θ K n0 outs .normal a w := by
  have hall := hI.allDone fit h0
  have hpd : pd = [] := by
    cases pd with
    | nil => rfl
    | cons p l =>
      have hp := (hI.wf.op p (List.mem_cons_self ..)).1
      exact absurd rfl ((hall p.i (Array.getElem?_eq_some_iff.1 hp).1).2 p (List.mem_cons_self ..))
  subst hpd
  have hr : readyNow M ops.toList 0 = [] := by
    cases hr : readyNow M ops.toList 0 with
    | nil => rfl
    | cons io l =>
      obtain ⟨j, o⟩ := io
      obtain ⟨m, e, ho, hb, _⟩ := readyNow_mem.1 (show (j, o) ∈ readyNow M ops.toList 0 by rw [hr]; exact List.mem_cons_self ..)
      rw [Nat.zero_add] at e
      subst e
      rw [Array.getElem?_toList] at ho
      rw [(hall j (Array.getElem?_eq_some_iff.1 ho).1).1] at hb; cases hb
  refine ⟨_, hP.1 hr, θ, K, ⟨Ext.refl _ _, fun _ h => h, fun _ h => .inl h, hI.wf.next⟩, rfl, hI.rep.teq fun b => (hI.chain.2 b).symm, hI.fr.feq hI.chain.1⟩
theorem getD_set (listed : Array Bool) (i j : Nat) (hi : i < listed.size) : (listed.setIfInBounds i true).getD j true = if i = j then true else listed.getD j true := by
  by_cases e : i = j
  · subst e; rw [if_pos rfl]; simp [hi]
  · rw [if_neg e, getD_set_ne true e]
theorem Inv.comes (hI : Inv P Γ ops X w0 n0 θ K M held fr hp pd f t a w listed) (fit : Fit ops) {p : Rec} {pre post : List Rec} (hpd : pd = pre ++ p :: post) (hdeps : ∀ k, (depsOf p.o).testBit k = true → Done M pd k) :
    Does P Γ ops p f t ∧ ∃ f1 t1, FPut f p f1 ∧ HChg t p t1 ∧ Chain P Γ ops (pre ++ post) f1 t1 fr hp.objs ∧
      ∀ θ' K' a' w', FRep θ' K' f1 a' → Rep Γ X w0 θ' K' ⟨t1, hp.next⟩ w' → (∀ q ∈ pre ++ post, q.new = true → ∀ b ob, q.chg = some (b, ob) → ¬ K' b) → Inv P Γ ops X w0 n0 θ' K' M held fr hp (pre ++ post) f1 t1 a' w' (listed.setIfInBounds p.i true) := by
  subst hpd
  have hmem : p ∈ pre ++ p :: post := by simp
  obtain ⟨hpo, hpM⟩ := hI.wf.op p hmem
  have hlt : p.i < ops.size := (Array.getElem?_eq_some_iff.1 hpo).1
  have hpair := hI.wf.pair
  have hsub : ∀ q ∈ pre ++ post, q ∈ pre ++ p :: post := fun q hq => by
    rcases List.mem_append.1 hq with h | h
    · exact List.mem_append_left _ h
    · exact List.mem_append_right _ (List.mem_cons_of_mem _ h)
  rw [List.pairwise_append] at hpair
  have hne : ∀ q ∈ pre ++ post, q.i ≠ p.i := fun q hq => by
    rcases List.mem_append.1 hq with h | h
    · exact (hpair.2.2 q h p (List.mem_cons_self ..)).ne
    · exact fun e => ((List.pairwise_cons.1 hpair.2.1).1 q h).ne e.symm
  have hind : ∀ q ∈ pre, Ind ops q p := fun q hq => (hpair.2.2 q hq p (List.mem_cons_self ..)).ind fit (hI.wf.op q (List.mem_append_left _ hq)).1 hpo (hI.wf.desc q (List.mem_append_left _ hq))
    (hI.notDesc fit (List.mem_append_left _ hq) p.i p.o hpo hdeps)
  obtain ⟨hd, f1, t1, hf1, ht1, hch⟩ := Chain.first pre hind hI.chain
  have hdone : ∀ j, Done M (pre ++ post) j ↔ j = p.i ∨ Done M (pre ++ p :: post) j := fun j => by
    constructor
    · rintro ⟨h1, h2⟩
      by_cases e : j = p.i
      · exact .inl e
      · refine .inr ⟨h1, fun q hq => ?_⟩
        rcases List.mem_append.1 hq with h | h
        · exact h2 q (List.mem_append_left _ h)
        · rcases List.mem_cons.1 h with rfl | h
          · exact fun e' => e e'.symm
          · exact h2 q (List.mem_append_right _ h)
    · rintro (rfl | ⟨h1, h2⟩)
      · exact ⟨hpM, hne⟩
      · exact ⟨h1, fun q hq => h2 q (hsub q hq)⟩
  refine ⟨hd, f1, t1, hf1, ht1, hch, fun θ' K' a' w' hf hr hk => ?_⟩
  refine ⟨⟨fun q hq => hI.wf.op q (hsub q hq), fun q hq => hI.wf.deps q (hsub q hq), fun q hq => hI.wf.desc q (hsub q hq), fun q hq => hI.wf.held q (hsub q hq), ?_, fun q hq => hI.wf.new q (hsub q hq), hI.wf.next⟩, hch, hf, hr, hk, hI.freshGet, hI.heldLt, by rw [Array.size_setIfInBounds]; exact hI.size, fun j hj => ?_, fun j o ho hdj k hkk => ?_, hI.mask⟩
  · rw [List.pairwise_append]
    exact ⟨hpair.1, (List.pairwise_cons.1 hpair.2.1).2, fun q hq r hr => hpair.2.2 q hq r (List.mem_cons_of_mem _ hr)⟩
  · rw [getD_set listed p.i j (by rw [hI.size]; exact hlt), hdone]
    by_cases e : p.i = j
    · rw [if_pos e]; simp [e]
    · rw [if_neg e, hI.listed j hj]
      exact ⟨fun h => .inr h, fun h => h.resolve_left fun e' => e e'.symm⟩
  · rcases (hdone j).1 hdj with rfl | hdj
    · rw [hpo] at ho; cases ho
      exact (hdone k).2 (.inr (hdeps k hkk))
    · exact (hdone k).2 (.inr (hI.closed j o ho hdj k hkk))
end
open Go Go.RowKit
section
variable {P : Program} {Γ : Env} {ops : Array Oper} {X : Nat → Prop} {w0 : World} {self : Task → R}
variable {n0 : Nat} {θ : Ren} {K : Nat → Prop} {M : Nat} {held : List Held} {fr : Fr} {hp : Hp} {pd : List Rec} {f : Fr} {t : T AObj} {a : Act} {w : World} {listed : Array Bool}
theorem Inv.runAhead [AskOk P Γ] (hI : Inv P Γ ops X w0 n0 θ K M held fr hp pd f t a w listed) (fit : Fit ops) {r : Option Nat} {p : Rec} {pre post : List Rec} (hpd : pd = pre ++ p :: post) (hdeps : ∀ k, (depsOf p.o).testBit k = true → Done M pd k)
    {next : Act → World → Prop} {Q : Exit → Act → World → Prop}
    (hnext : ∀ θ' K' f' t' a' w', Grow K θ n0 K' θ' n0 → Inv P Γ ops X w0 n0 θ' K' M held fr hp (pre ++ post) f' t' a' w' (listed.setIfInBounds p.i true) → next a' w') :
    wpOpIn (G r) 0 P ops Q p.i next a w := by
  have hmem : p ∈ pd := by rw [hpd]; simp
  have hsub : ∀ q ∈ pre ++ post, q ∈ pd := fun q hq => by
    rw [hpd]
    rcases List.mem_append.1 hq with h | h
    · exact List.mem_append_left _ h
    · exact List.mem_append_right _ (List.mem_cons_of_mem _ h)
  have hpo := (hI.wf.op p hmem).1
  obtain ⟨hd, f1, t1, hf1, ht1, hch, hinv⟩ := hI.comes fit hpd hdeps
  have hag : Agr ops θ K f a p.o := hI.fr.agr p.o
  have hw := hd.guard θ K a hag
  obtain ⟨hsel, hdef⟩ := fit.sel p.i p.o hpo
  unfold wpOpIn
  simp only [hpo]
  rw [hw]
  have keepK : ∀ q ∈ pre ++ post, q.new = true → ∀ b ob, q.chg = some (b, ob) → ¬ K b := fun q hq => hI.newK q (hsub q hq)
  rcases hd.does with ⟨h1, h2, h3, h4⟩ | ⟨h1, h2, h3, h4⟩ | ⟨h1, h2, hn, b, ob, hc, hg, hv, h4⟩ | ⟨h1, h2, hn, b, ob, old, hc, hg, hv, h4⟩
  · rw [h1, if_neg (by simp)]
    refine ⟨fun f _ => G_fn r f, ?_⟩
    have ht : ∀ b, t1.get b = t.get b := fun b => by rw [ht1 b, h4]
    have := hI.fr.putR hf1 (by rw [h2]; trivial)
    rw [h2] at this
    exact hnext θ K f1 t1 _ w (Grow.refl _ _ _) (hinv θ K _ w this (hI.rep.teq ht) keepK)
  · rw [h1, if_pos rfl]
    refine ⟨fun f _ => G_fn r f, ?_⟩
    obtain ⟨hok, hrun⟩ := h4 θ K a hag (AskOk.ok hI.rep.inv)
    rw [semAt_exec hdef, hrun w hI.rep.globW fun fc hfc => hI.rep.fact (h3 fc hfc).toA]
    have ht : ∀ b, t1.get b = t.get b := fun b => by rw [ht1 b, h2]
    have hvok : p.v.ok K := hok fun fc hfc => factT_ok (h3 fc hfc) fun b o hb => (hI.rep.obj b o hb).2.2.1
    exact hnext θ K f1 t1 _ w (Grow.refl _ _ _) (hinv θ K _ w (hI.fr.putR hf1 hvok) (hI.rep.teq ht) keepK)
  · rw [h1, if_pos rfl]
    refine ⟨fun f _ => G_fn r f, ?_⟩
    obtain ⟨hok, hrun⟩ := h4 θ K a hag
    obtain ⟨ob', hrun, hO⟩ := hrun w
    rw [semAt_exec hdef, hrun]
    obtain ⟨hb1, hb2⟩ := hI.wf.new p hmem hn b ob hc
    have hnk : ¬ K b := hI.newK p hmem hn b ob hc
    have hE : Ext K θ (θ.bind b w.heap.size 0) := Ren.bind_ext hnk
    have hrep : Rep Γ X w0 (θ.bind b w.heap.size 0) (also K b) ⟨t.set b ob, hp.next⟩ (w.alloc ob') :=
      hI.rep.make (h := ⟨t, hp.next⟩) hnk hI.rep.next hb2 rfl rfl rfl rfl (AObj.ok_mono also_mono _ hok) (ORep_ext hE hok hO)
    have ht : ∀ x, t1.get x = (t.set b ob).get x := fun x => by rw [ht1 x, hc, T.get_set]
    have hfr := (hI.fr.ext hE also_mono).putR hf1 (ok_mono (fun i e => .inr e) _ hv)
    refine hnext _ _ f1 t1 _ _ ⟨hE, also_mono, fun i hi => ?_, Nat.le_refl _⟩ (hinv _ _ _ _ hfr (hrep.teq ht) fun q hq hqn b' ob'' hc' hk => ?_)
    · rcases hi with h | rfl
      · exact .inl h
      · exact .inr hb1
    · rcases hk with h | e
      · exact keepK q hq hqn b' ob'' hc' h
      · exact Chain.newNe _ hch (β := b) (o := ob) (by rw [ht, T.get_set, if_pos rfl]) q hq hqn b' ob'' hc' e
  · rw [h1, if_pos rfl]
    refine ⟨fun f _ => G_fn r f, ?_⟩
    obtain ⟨w', hrun, hrep⟩ := h4 X w0 θ K a ⟨t, hp.next⟩ w hag hI.rep hg
    rw [semAt_exec hdef, hrun]
    have ht : ∀ x, t1.get x = (t.set b ob).get x := fun x => by rw [ht1 x, hc, T.get_set]
    have hfr := hI.fr.putR hf1 (by rw [hv]; trivial)
    rw [hv] at hfr
    exact hnext θ K f1 t1 _ w' (Grow.refl _ _ _) (hinv θ K _ w' hfr (Rep.teq ht hrep) keepK)
theorem Inv.runLoud [AskOk P Γ] (hN : NoCount P) (hS : Sound P Γ self) (hI : Inv P Γ ops X w0 n0 θ K M held fr hp pd f t a w listed) (fit : Fit ops) {r : Option Nat} {j : Nat} {o : Oper} (ho : ops[j]? = some o) (hM : M.testBit j = false) (hdeps : ∀ k, (depsOf o).testBit k = true → Done M pd k)
    {go : Nat → List Held → Fr → Hp → R} {outs : List Out} (hq : comesUp P Γ self ops go M held fr hp (j, o) = some outs)
    {next : Act → World → Prop} {Q : Exit → Act → World → Prop}
    (hnext : ∀ θ' K' fr' hp' f' t' a' w' outs', Grow K θ n0 K' θ' n0 → Inv P Γ ops X w0 n0 θ' K' (M ||| 2 ^ j) (drop j held) fr' hp' pd f' t' a' w' (listed.setIfInBounds j true) → go (M ||| 2 ^ j) (drop j held) fr' hp' = some outs' → (∀ y ∈ outs', y ∈ outs) → next a' w') :
    wpOpIn (G r) 0 P ops Q j next a w := by
  have hlt : j < ops.size := (Array.getElem?_eq_some_iff.1 ho).1
  have hnd : ∀ p ∈ pd, p.desc.testBit j = false := fun p hp => hI.notDesc fit hp j o ho hdeps
  have hne : ∀ p ∈ pd, p.i ≠ j := fun p hp e => by have := (hI.wf.op p hp).2; rw [e, hM] at this; cases this
  have hap : ∀ p ∈ pd, (∀ d, p.o.dst = some d → d ∉ o.looksAt ops ∧ o.dst ≠ some d) ∧ ∀ d, o.dst = some d → d ∉ p.o.looksAt ops ∧ p.o.dst ≠ some d := fun p hp => by
    have hpo := (hI.wf.op p hp).1
    have h1 : (depsOf o).testBit p.i = false := by
      cases hb : (depsOf o).testBit p.i with
      | false => rfl
      | true => exact absurd rfl ((hdeps _ hb).2 p hp)
    have h2 : (depsOf p.o).testBit j = false := by
      cases hb : (depsOf p.o).testBit j with
      | false => rfl
      | true => have := hI.wf.deps p hp j hb; rw [hM] at this; cases this
    exact ⟨fit.apart p.i j p.o o hpo ho (hne p hp) h1 h2, fit.apart j p.i o p.o ho hpo (Ne.symm (hne p hp)) h2 h1⟩
  have hhid : ∀ p ∈ pd, ∀ b ob, p.chg = some (b, ob) → hidden j held b = true := fun p hp b ob hc => by
    obtain ⟨x, hx, e1, _, e3⟩ := hI.wf.held p hp (.inr (by rw [hc]; simp))
    exact hidden_spec.2 ⟨x, hx, by rw [e1]; exact hnd p hp, ob, by rw [e3]; exact hc⟩
  have hvis : ∀ b, (hide j held hp.objs).get b = bif hidden j held b then none else t.get b := fun b => by
    rw [hide_get]
    cases hh : hidden j held b with
    | true => rfl
    | false =>
      simp only [cond_false]
      exact (Chain.block pd b hI.chain fun p hp ob hc => by rw [hhid p hp b ob hc] at hh; cases hh).symm
  have hsz := Chain.size pd hI.chain
  have hag : Agr ops θ K fr a o := (hI.fr.agr o).congr hsz.1 fun x hx => Chain.slot pd x hI.chain fun p hp e => ((hap p hp).1 x e).1 hx
  unfold comesUp at hq
  split at hq
  · rename_i hw
    split at hq
    · cases hq
    · rename_i rs hloud
      unfold wpOpIn
      simp only [ho]
      rw [hag.wanted hw, if_pos rfl]
      have hpart := hI.rep.part hvis
      refine loud_sound hN hS hloud hpart hag.on fun x hx θ' K' w' hG hok hr' => ?_
      obtain ⟨y, hy, hm⟩ := allOf_mem hq x hx
      split at hy
      · rename_i s f' hs hput
        cases hst : factsStand x.2 j held held with
        | false => rw [hst] at hy; cases hy
        | true =>
          rw [hst] at hy
          simp only [cond_true] at hy
          obtain ⟨s1, s2⟩ := showed_spec hs
          obtain ⟨t', ht'⟩ := showed_exists (s := t) hs x.2.objs
          obtain ⟨t1, t2⟩ := showed_spec ht'
          let q : Rec := ⟨j, o, true, x.1, [], none, false, 0⟩
          have hfp : FPut fr q f' := put_of (p := q) hput
          obtain ⟨f1, hf1⟩ := put_exists f q fun d hd => by rw [hsz.1]; exact hfp.lt d hd
          have hfr' : FRep θ' K' f1 (a.put o.dst (conc θ' x.1)) := (hI.fr.ext hG.ext hG.mono).putR hf1 hok
          have hrep : Rep Γ X w0 θ' K' ⟨t', x.2.next⟩ w' := hI.rep.whole hr' hG.ext hG.mono (fun b hb => (t1 b hb).2) fun b hb => t2 b hb
          have hle : hp.next ≤ x.2.next := hG.le
          have hdone : ∀ k, Done (M ||| 2 ^ j) pd k ↔ k = j ∨ Done M pd k := fun k => by
            unfold Done
            rw [bit_set, Bool.or_eq_true, decide_eq_true_eq]
            constructor
            · rintro ⟨h1 | h1, h2⟩
              · exact .inr ⟨h1, h2⟩
              · exact .inl h1.symm
            · rintro (rfl | ⟨h1, h2⟩)
              · exact ⟨.inr rfl, hne⟩
              · exact ⟨.inl h1, h2⟩
          have keep : ∀ k, M.testBit k = true → (M ||| 2 ^ j).testBit k = true := fun k hk => by rw [bit_set, hk]; rfl
          refine hnext θ' K' f' ⟨s, x.2.next⟩ f1 t' _ w' y ⟨hG.ext, hG.mono, fun i hi => (hG.fresh i hi).imp id fun h => Nat.le_trans hI.wf.next h, Nat.le_refl _⟩
            ⟨⟨fun p hp => ⟨(hI.wf.op p hp).1, keep _ (hI.wf.op p hp).2⟩, fun p hp k hk => keep _ (hI.wf.deps p hp k hk), hI.wf.desc, fun p hp h => ?_, hI.wf.pair, fun p hp hn b ob hc => ?_, Nat.le_trans hI.wf.next hle⟩, ?_, hfr', hrep, fun p hp hn b ob hc hk => ?_, fun b hb => ?_, fun x' hx' b ob hc => ?_,
              by rw [Array.size_setIfInBounds]; exact hI.size, fun k hk => ?_, fun k o' ho' hd e he => ?_, fun k hk => ?_⟩ hy hm
          · obtain ⟨x', hx', e⟩ := hI.wf.held p hp h
            exact ⟨x', drop_mem.2 ⟨hx', by rw [e.1]; exact hnd p hp⟩, e⟩
          · have := hI.wf.new p hp hn b ob hc
            exact ⟨this.1, Nat.lt_of_lt_of_le this.2 hle⟩
          · refine Chain.rebase (g := hidden j held) (d := o.dst) (v := x.1) (r := x.2.objs) pd hI.chain hf1.sz hfp.sz (by rw [hf1.marks, hfp.marks]; exact hsz.2) hf1.tmps hfp.tmps (fun p hp d hd => (hap p hp).2 d hd) (fun b hb => (t1 b hb).2) (fun b hb => t2 b hb) (fun b hb => (s1 b hb).2) (fun b hb => s2 b hb) hhid fun p hp fc hfc hg => ?_
            obtain ⟨x', hx', e1, e2, _⟩ := hI.wf.held p hp (.inl fun e => by rw [e] at hfc; cases hfc)
            exact factsStand_spec hst x' hx' (by rw [e1]; exact hnd p hp) fc (by rw [e2]; exact hfc) hg
          · rcases hG.fresh b hk with h | h
            · exact hI.newK p hp hn b ob hc h
            · exact absurd (hI.wf.new p hp hn b ob hc).2 (Nat.not_lt.2 h)
          · have hb : x.2.next ≤ b := hb
            cases hh : hidden j held b with
            | true =>
              obtain ⟨x', hx', _, ob, hc⟩ := hidden_spec.1 hh
              have := hI.heldLt x' hx' b ob hc
              omega
            | false =>
              show s.get b = none
              rw [s2 b hh]
              cases hg : x.2.objs.get b with
              | none => rfl
              | some ob => exact absurd (hr'.obj b ob hg).1 (hr'.next b hb)
          · exact Nat.lt_of_lt_of_le (hI.heldLt x' (drop_mem.1 hx').1 b ob hc) hle
          · rw [getD_set listed j k (by rw [hI.size]; exact hlt), hdone]
            by_cases e : j = k
            · rw [if_pos e]; simp [e]
            · rw [if_neg e, hI.listed k hk]
              exact ⟨fun h => .inr h, fun h => h.resolve_left fun e' => e e'.symm⟩
          · rcases (hdone k).1 hd with rfl | hd
            · rw [ho] at ho'; cases ho'
              exact (hdone e).2 (.inr (hdeps e he))
            · exact (hdone e).2 (.inr (hI.closed k o' ho' hd e he))
          · rw [bit_set, Bool.or_eq_true, decide_eq_true_eq] at hk
            rcases hk with hk | rfl
            · exact hI.mask k hk
            · exact hlt
      · cases hy
  · cases hq
theorem drawn_any [AskOk P Γ] (hN : NoCount P) (hS : Sound P Γ self) (fit : Fit ops) {r : Option Nat} : ∀ (fuel : Nat) {n M : Nat} {held : List Held} {fr : Fr} {hp : Hp} {pd : List Rec} {f : Fr} {t : T AObj} {a : Act} {w : World} {listed : Array Bool} {θ : Ren} {K : Nat → Prop} {outs : List Out},
    Inv P Γ ops X w0 n0 θ K M held fr hp pd f t a w listed → Passed P Γ self ops n M held fr hp outs → left ops listed ≤ fuel → wpAnyIn (G r) 0 P .any ops (Post Γ X w0 θ K n0 outs) fuel listed a w := by
  intro fuel
  induction fuel with
  | zero =>
    intro n M held fr hp pd f t a w listed θ K outs hI hP hl
    have h0 : Region.ready .any ops listed = [] := by
      cases hr : Region.ready .any ops listed with
      | nil => rfl
      | cons j l =>
        have hj : j ∈ Region.ready .any ops listed := by rw [hr]; exact List.mem_cons_self ..
        obtain ⟨o, ho, hlt, hnd, _⟩ := hI.ready fit hj
        have hf : listed.getD j true = false := (mem_ready.1 hj).1
        have := left_set (listed := listed) hI.size hlt hf
        omega
    exact ⟨h0, hI.finish fit hP h0⟩
  | succ fuel ih =>
    intro n M held fr hp pd f t a w listed θ K outs hI hP hl
    refine ⟨fun h0 => hI.finish fit hP h0, fun j hj => ?_⟩
    obtain ⟨o, ho, hlt, hnd, hdeps⟩ := hI.ready fit hj
    have hlf := left_set (listed := listed) hI.size hlt (mem_ready.1 hj).1
    cases hM : M.testBit j with
    | true =>
      have hex : ∃ p ∈ pd, p.i = j := Classical.byContradiction fun h => hnd ⟨hM, fun p hp e => h ⟨p, hp, e⟩⟩
      obtain ⟨p, hp', rfl⟩ := hex
      have hpo := (hI.wf.op p hp').1
      rw [ho] at hpo; cases hpo
      obtain ⟨pre, post, hpd⟩ := List.append_of_mem hp'
      refine hI.runAhead fit hpd hdeps fun θ' K' f' t' a' w' hG hI' => ?_
      exact wpAnyIn_mono (fun e a w h => h.trans hG fun y hy => hy) _ _ _ _ (ih hI' hP (by omega))
    | false =>
      have hr : (j, o) ∈ readyNow M ops.toList 0 := readyNow_mem.2 ⟨j, (Nat.zero_add j).symm, by rw [Array.getElem?_toList]; exact ho, hM, land_of_sub fun k hk => (hdeps k hk).1⟩
      obtain ⟨xs, hx, hm⟩ := hP.2 _ hr
      refine hI.runLoud hN hS fit ho hM hdeps hx fun θ' K' fr' hp' f' t' a' w' outs' hG hI' hgo hm' => ?_
      cases n with
      | zero => cases hgo
      | succ n =>
        obtain ⟨y, hy, hP'⟩ := Passed.of hgo
        obtain ⟨pd', hI''⟩ := hI'.pass hy
        exact wpAnyIn_mono (fun e a w h => h.trans hG fun z hz => hm z (hm' z hz)) _ _ _ _ (ih hI'' hP' (by omega))
theorem drawn_sound [AskOk P Γ] (hN : NoCount P) (hS : Sound P Γ self) (hmix : P.follows .mixedOrders = true) {r : Option Nat} {id n : Nat} {fr : Fr} {hp : Hp} {outs : List Out} {θ : Ren} {K : Nat → Prop} {a : Act} {w : World} (hfit : regionFit ops ops.toList 0 = true)
    (hq : drawn P Γ self ops n 0 [] fr hp = some outs) (hr : Rep Γ X w0 θ K hp w) (hf : FRep θ K fr a) : (Code.region id ops true).wpIn (G r) 0 P (Post Γ X w0 θ K hp.next outs) a w := by
  refine wpIn_region_any hmix ?_
  cases n with
  | zero => cases hq
  | succ n =>
    obtain ⟨y, hy, hP⟩ := Passed.of hq
    have hI : Inv P Γ ops X w0 hp.next θ K 0 [] fr hp [] fr hp.objs a { w with drawn := w.drawn + 1 } (Array.replicate ops.size false) :=
      ⟨⟨fun p h => (by cases h), fun p h => (by cases h), fun p h => (by cases h), fun p h => (by cases h), List.Pairwise.nil, fun p h => (by cases h), Nat.le_refl _⟩, ⟨⟨rfl, rfl, fun _ => rfl⟩, fun _ => rfl⟩, hf, hr.same rfl rfl rfl rfl,
       fun p h => (by cases h), fun b hb => by
        cases hg : hp.objs.get b with
        | none => rfl
        | some o => exact absurd (hr.obj b o hg).1 (hr.next b hb), fun x h => (by cases h), Array.size_replicate, fun j hj => by simp [Done, hj], fun j o _ hd => by simp [Done] at hd, fun j hj => by simp at hj⟩
    obtain ⟨pd', hI'⟩ := hI.pass hy
    refine drawn_any hN hS (Fit.of hfit) ops.size hI' hP ?_
    unfold left
    exact Nat.le_trans (List.length_filter_le ..) (by rw [List.length_range]; exact Nat.le_refl _)
end
open Go Go.RowKit
theorem roundsIn_mono {F : Fence} {n : Nat} {P : Program} {c : Code} {Q Q' : Exit → Act → World → Prop} (hq : ∀ e a w, Q e a w → Q' e a w) : ∀ (m : Nat) (a : Act) (w : World), Code.roundsIn F n P c Q m a w → Code.roundsIn F n P c Q' m a w := by
  intro m
  induction m with
  | zero => intro a w h; exact h
  | succ m ih =>
    intro a w h
    refine wpIn_mono h fun e a w he => ?_
    cases e <;> first | exact ih _ _ he | exact hq _ _ _ he
section
variable {P : Program} {Γ : Env} {X : Nat → Prop} {w0 : World} {self : Task → R}
def Loops (P : Program) (Γ : Env) (m : Nat) (self : Task → R) : Prop :=
  ∀ c ro fr hp outs, self (.code (.loop c) ro fr hp) = some outs → ∀ X w0 θ K a w, Rep Γ X w0 θ K hp w → FRep θ K fr a → (∀ l, ro = some l → K l) → Code.roundsIn (G (ro.map θ.blk)) 0 P c (Post Γ X w0 θ K hp.next outs) m a w
theorem round_same {K K' : Nat → Prop} {θ θ' : Ren} {n n' : Nat} {ro : Option Nat} (hG : Grow K θ n K' θ' n') (hro : ∀ l, ro = some l → K l) : ro.map θ'.blk = ro.map θ.blk ∧ ∀ l, ro = some l → K' l := by
  cases ro with
  | none => exact ⟨rfl, fun l h => by cases h⟩
  | some l => exact ⟨by simp only [Option.map_some, hG.ext.blk l (hro l rfl)], fun l' h => hG.mono _ (hro l' h)⟩
theorem then_sound {f : Fr → Hp → R} {outs outs' : List Out} (hs : seqOut f outs = some outs') {θ : Ren} {K : Nat → Prop} {n : Nat} {next : Act → World → Prop}
    (hn : ∀ θ' K' fr hp ys a w, Grow K θ n K' θ' hp.next → f fr hp = some ys → (∀ y ∈ ys, y ∈ outs') → Rep Γ X w0 θ' K' hp w → FRep θ' K' fr a → next a w) :
    ∀ e a w, Post Γ X w0 θ K n outs e a w → Exit.then next (Post Γ X w0 θ K n outs') e a w := by
  intro e a w ⟨o, ho, θ', K', hG, he, hr, hf⟩
  obtain ⟨ys, hy, hm⟩ := allOf_mem hs o ho
  obtain ⟨ex, fr, hp, v⟩ := o
  cases ex with
  | normal => rw [he]; exact hn θ' K' fr hp ys a w hG hy hm hr hf
  | ret =>
    simp only [Option.some.injEq] at hy; subst hy
    rw [he]
    exact ⟨_, hm _ (List.mem_singleton.2 rfl), θ', K', hG, rfl, hr, hf⟩
  | exit id =>
    simp only [Option.some.injEq] at hy; subst hy
    rw [he]
    exact ⟨_, hm _ (List.mem_singleton.2 rfl), θ', K', hG, rfl, hr, hf⟩
theorem loop_round (hS : Sound P Γ self) {m : Nat} (hL : Loops P Γ m self) {c : Code} {ro : Option Nat} {fr : Fr} {hp : Hp} {outs : List Out} (hq : stepTask P Γ self (.code (.loop c) ro fr hp) = some outs) {θ : Ren} {K : Nat → Prop} {a : Act} {w : World}
    (hr : Rep Γ X w0 θ K hp w) (hf : FRep θ K fr a) (hro : ∀ l, ro = some l → K l) : Code.roundsIn (G (ro.map θ.blk)) 0 P c (Post Γ X w0 θ K hp.next outs) (m + 1) a w := by
  simp only [stepTask] at hq
  split at hq
  · rename_i o1 h1
    refine wpIn_mono (hS.code c ro fr hp o1 h1 X w0 θ K a w hr hf hro) ?_
    refine then_sound hq fun θ' K' fr' hp' ys a' w' hG hy hm hr' hf' => ?_
    obtain ⟨e1, e2⟩ := round_same hG hro
    have := hL c ro fr' hp' ys hy X w0 θ' K' a' w' hr' hf' e2
    rw [e1] at this
    exact roundsIn_mono (fun e a w h => h.trans hG hm) _ _ _ this
  · cases hq
theorem wpIn_scope {F : Fence} {n : Nat} {P : Program} {Q : Exit → Act → World → Prop} {a : Act} {w : World} {c : Code} (h : c.wpIn F n P Q a w) (hg : ∀ l a w, ¬Q (.goto l) a w) : (Code.scope c).wpIn F n P Q a w := by
  intro b k cs hro hb hr
  have s1 : step P (lone (b.atR a (.code (.scope c) :: k)) cs w) = .next (lone (b.atR a (.code c :: .inScope c :: k)) cs w) := step_lone_go (by simp [stepG, stepG.exec, Frame.atR])
  have s2 : ∀ a w, step P (lone (b.atR a (.inScope c :: k)) cs w) = .next (lone (b.atR a k) cs w) := fun a w => step_lone_go (by simp [stepG, stepG.exec, Frame.atR])
  have h0 : (lone (b.atR a (.code (.scope c) :: k)) cs w).fenced P F := fenced_calm hb hr rfl
  obtain ⟨e, a₁, w₁, hq, harr⟩ := h b (.inScope c :: k) cs hro hb hr
  cases e with
  | normal => exact ⟨.normal, a₁, w₁, hq, .head h0 s1 (StepsIn.trans harr (.one (fenced_calm hb hr rfl) (s2 _ _)))⟩
  | exit id =>
    have hx : exitTo id (.inScope c :: k) = exitTo id k := by simp [exitTo]
    exact ⟨.exit id, a₁, w₁, hq, fun k' hk => .head h0 s1 (harr.1 k' (by rw [hx]; exact hk)), fun hr' hk => let ⟨k₁, h1, h2⟩ := harr.2 hr' (by rw [hx]; exact hk); ⟨k₁, h1, .head h0 s1 h2⟩⟩
  | goto l => exact (hg l _ _ hq).elim
  | ret => exact ⟨_, a₁, w₁, hq, .of_steps (.one h0 s1) harr⟩
  | panic ch => exact ⟨_, a₁, w₁, hq, .of_steps (.one h0 s1) harr⟩
  | outgrown => exact ⟨_, a₁, w₁, hq, .of_steps (.one h0 s1) harr⟩
theorem code_sound [AskOk P Γ] (hN : NoCount P) (hmix : P.follows .mixedOrders = true) (hS : Sound P Γ self) {m : Nat} (hL : Loops P Γ m self) {c : Code} {ro : Option Nat} {fr : Fr} {hp : Hp} {outs : List Out} (hq : stepTask P Γ self (.code c ro fr hp) = some outs)
    {θ : Ren} {K : Nat → Prop} {a : Act} {w : World} (hr : Rep Γ X w0 θ K hp w) (hf : FRep θ K fr a) (hro : ∀ l, ro = some l → K l)
    (hrange : ∀ g ps assign body, c = .rangeFunc g ps assign body → c.wpIn (G (ro.map θ.blk)) 0 P (Post Γ X w0 θ K hp.next outs) a w) : c.wpIn (G (ro.map θ.blk)) 0 P (Post Γ X w0 θ K hp.next outs) a w := by
  have one : ∀ e, some [(⟨e, fr, hp, .lit undef⟩ : Out)] = some outs → Post Γ X w0 θ K hp.next outs e.conc a w := fun e h => by
    simp only [Option.some.injEq] at h; subst h
    exact ⟨_, List.mem_singleton.2 rfl, θ, K, Grow.refl _ _ _, rfl, hr, hf⟩
  cases c with
  | skip => exact wpIn_skip (one .normal hq)
  | label l => exact wpIn_label (one .normal hq)
  | ret => exact wpIn_ret (one .ret hq)
  | exit id => exact wpIn_exit (one (.exit id) hq)
  | seq x y =>
    simp only [stepTask] at hq
    split at hq
    · rename_i o1 h1
      refine wpIn_seq (wpIn_mono (hS.code x ro fr hp o1 h1 X w0 θ K a w hr hf hro) ?_)
      refine then_sound hq fun θ' K' fr' hp' ys a' w' hG hy hm hr' hf' => ?_
      obtain ⟨e1, e2⟩ := round_same hG hro
      have := hS.code y ro fr' hp' ys hy X w0 θ' K' a' w' hr' hf' e2
      rw [e1] at this
      exact wpIn_mono this fun e a w h => h.trans hG hm
    · cases hq
  | cond x y z =>
    simp only [stepTask] at hq
    split at hq
    · rename_i hv; exact wpIn_cond_true (by rw [hf.ev, hv]; rfl) (hS.code y ro fr hp outs hq X w0 θ K a w hr hf hro)
    · rename_i hv; exact wpIn_cond_false (by rw [hf.ev, hv]; rfl) (hS.code z ro fr hp outs hq X w0 θ K a w hr hf hro)
    · cases hq
  | block id x =>
    simp only [stepTask] at hq
    split at hq
    · rename_i o1 h1
      simp only [Option.some.injEq] at hq
      refine wpIn_block (wpIn_mono (hS.code x ro fr hp o1 h1 X w0 θ K a w hr hf hro) ?_)
      rintro e a' w' ⟨o, ho, θ', K', hG, rfl, hr', hf'⟩
      have hmem : ∀ y, (match o.exit with
        | .exit k => bif Nat.beq k id then { o with exit := .normal } else o
        | _ => o) = y → y ∈ outs := fun y hy => by rw [← hq]; exact List.mem_map.2 ⟨o, ho, hy⟩
      obtain ⟨ex, fr', hp', v⟩ := o
      cases ex with
      | normal => exact ⟨_, hmem _ rfl, θ', K', hG, rfl, hr', hf'⟩
      | ret => exact ⟨_, hmem _ rfl, θ', K', hG, rfl, hr', hf'⟩
      | exit k =>
        simp only [SExit.conc, Exit.inBlock]
        by_cases e : k = id
        · rw [if_pos e]
          exact ⟨_, hmem ⟨.normal, fr', hp', v⟩ (by simp only [beq_t e, cond_true]), θ', K', hG, rfl, hr', hf'⟩
        · rw [if_neg e]
          exact ⟨_, hmem ⟨.exit k, fr', hp', v⟩ (by simp only [beq_f e, cond_false]), θ', K', hG, rfl, hr', hf'⟩
    · cases hq
  | loop x => exact wpIn_loop_rounds (m + 1) (loop_round hS hL hq hr hf hro)
  | scope x =>
    refine wpIn_scope (hS.code x ro fr hp outs hq X w0 θ K a w hr hf hro) ?_
    rintro l a' w' ⟨o, _, _, _, _, he, _⟩
    cases hx : o.exit <;> rw [hx] at he <;> cases he
  | region id ops d =>
    cases d with
    | false =>
      refine wpIn_region ?_
      have := inTurn_sound (X := X) (w0 := w0) (r := ro.map θ.blk) hN hS ops.toList (i := 0) (fun k => by rw [Nat.zero_add, Array.getElem?_toList]) hq hr hf
      rw [Array.length_toList, ← List.range_eq_range'] at this
      exact this
    | true =>
      simp only [stepTask] at hq
      cases hfit : regionFit ops ops.toList 0 with
      | false => rw [hfit] at hq; cases hq
      | true =>
        rw [hfit] at hq
        exact drawn_sound hN hS hmix hfit hq hr hf
  | rangeFunc g ps assign body => exact hrange g ps assign body rfl
  | _ => simp only [stepTask] at hq; cases hq
end
open Go Go.RowKit
section
variable {P : Program} {Γ : Env} {X : Nat → Prop} {w0 : World} {self : Task → R} {θ : Ren} {K : Nat → Prop} {h : Hp} {w : World}
theorem Rep.loop {b : Nat} {l : ALoop} (hr : Rep Γ X w0 θ K h w) (hb : h.objs.get b = some (.loop l)) : ∃ r : Loop, w.heap[θ.blk b]? = some (.loop r) ∧ r.state = l.state ∧ r.pending = l.pending ∧ r.params = l.params ∧ r.assign = l.assign ∧ r.body = l.body ∧ r.defers = θ.blk l.defers ∧
    tmpsRep θ l.tmps l.sz r.tmps ∧ (∀ i v, l.tmps.get i = some v → v.ok K) ∧ K l.defers ∧ K b ∧
    ∀ st pe, Rep Γ X w0 θ K (h.upd b (.loop { l with state := st, pending := pe })) (w.putObj (θ.blk b) (.loop { r with state := st, pending := pe })) := by
  obtain ⟨k1, _, k3, ob, k4, fn, xs, ht, rfl⟩ := hr.obj b _ hb
  exact ⟨_, k4, rfl, rfl, rfl, rfl, rfl, rfl, ht, k3.1, k3.2, k1, fun st pe => hr.turn hb (o' := .loop { l with state := st, pending := pe }) k3 ⟨fn, xs, ht, rfl⟩⟩
theorem callFunc_run (hN : NoCount P) {f : FuncId} (hf : ∃ fn c, P.funcs[f]? = some fn ∧ fn.body = some c) (vs : Array Value) : (callFunc f vs).run P w = .ok (.enter f vs) w := by
  obtain ⟨fn, c, hfn, hbody⟩ := hf
  simp only [callFunc, Sem.run_bind, run_program, Result.andThen, hfn, hN f fn hfn, Bool.false_eq_true, if_false, hbody, Option.isNone_some, Sem.run_pure]
theorem seqCallee_ok {v : SV} {b f : Nat} {args : List SV} (h : seqCallee v b = some (f, args)) (hv : v.ok K) {K' : Nat → Prop} (hk : ∀ i, K i → K' i) (hb : K' b) : SV.okL K' args := by
  unfold seqCallee at h
  split at h
  · simp only [Option.some.injEq, Prod.mk.injEq] at h
    obtain ⟨_, rfl⟩ := h
    exact okL_append (okL_append (okL_lits _ _) ⟨hb, trivial⟩) (okL_lits _ _)
  · simp only [Option.some.injEq, Prod.mk.injEq] at h
    obtain ⟨_, rfl⟩ := h
    exact okL_append (okL_append (okL_mono hk _ hv.1) ⟨hb, trivial⟩) (okL_mono hk _ hv.2)
  · cases h
theorem seqCallee_run (hN : NoCount P) {v : SV} {b f : Nat} {args : List SV} (h : seqCallee v b = some (f, args)) (hf : ∃ fn c, P.funcs[f]? = some fn ∧ fn.body = some c) {a : Act} {g : Operand} (hv : a.eval g = conc θ v) :
    ∃ d : Deferred, (resolve a.eval (rangeCall g (θ.blk b)) 0).run P w = .ok d w ∧ (invoke d.target d.args).run P w = .ok (.enter f (concL θ args).toArray) w := by
  unfold seqCallee at h
  split at h
  · rename_i f' x y
    simp only [Option.some.injEq, Prod.mk.injEq] at h
    obtain ⟨rfl, rfl⟩ := h
    have he : (x ++ #[Value.func (.yield (θ.blk b)) #[] #[]]) ++ y = (concL θ (x.toList.map .lit ++ [.yield b] ++ y.toList.map .lit)).toArray := by
      rw [← Array.toList_inj]
      simp only [Array.toList_append, concL_append, concL_lits, concL, conc]
    refine ⟨_, by simp only [resolve, hv, conc, Deferred.ofValue, Sem.run_pure, List.map_toArray, List.map_cons, List.map_nil]; rfl, ?_⟩
    simp only [invoke, ← he]
    exact callFunc_run hN hf _
  · rename_i f' x y
    simp only [Option.some.injEq, Prod.mk.injEq] at h
    obtain ⟨rfl, rfl⟩ := h
    have he : ((concL θ x).toArray ++ #[Value.func (.yield (θ.blk b)) #[] #[]]) ++ (concL θ y).toArray = (concL θ (x ++ [.yield b] ++ y)).toArray := by
      rw [← Array.toList_inj]
      simp only [Array.toList_append, concL_append, concL, conc]
    refine ⟨_, by simp only [resolve, hv, conc, Deferred.ofValue, Sem.run_pure, List.map_toArray, List.map_cons, List.map_nil]; rfl, ?_⟩
    simp only [invoke, ← he]
    exact callFunc_run hN hf _
  · cases h
end
open Go Go.RowKit
section
variable {P : Program} {Γ : Env} {X : Nat → Prop} {w0 : World} {self : Task → R} {θ : Ren} {K : Nat → Prop} {h : Hp} {w : World}
theorem loopEnd_sound {b : Nat} {fr : Fr} {x : Out} {outs : List Out} (hq : loopEnd b fr x = some outs) {r : Option Nat} {n : Nat} {θ' : Ren} {K' : Nat → Prop} {w' : World} {a : Act} (hG : Grow K θ n K' θ' x.hp.next) (hr : Rep Γ X w0 θ' K' x.hp w') (hf : FRep θ' K' fr a)
    {outs' : List Out} (hm : ∀ y ∈ outs, y ∈ outs') : ∃ jump w₄, (Instr.endLoop (θ'.blk b)).run P w' = .ok jump w₄ ∧
      (match jump with
       | none => Post Γ X w0 θ K n outs' .normal a w₄
       | some c => c.wpIn (G r) 0 P (Post Γ X w0 θ K n outs') a w₄) := by
  unfold loopEnd at hq
  split at hq
  · rename_i l hl
    obtain ⟨rc, hw, hst, hpe, _, _, _, _, _, _, _, _, hrep⟩ := hr.loop hl
    have go : l.state ≠ .busy → (∃ e, outs = [⟨e, fr, x.hp.upd b (.loop { l with state := .exhausted }), .lit undef⟩] ∧ (match l.pending with
        | none => e = .normal
        | some .ret => e = .ret
        | some (.exit id) => e = .exit id
        | _ => False)) → ∃ jump w₄, (Instr.endLoop (θ'.blk b)).run P w' = .ok jump w₄ ∧
      (match jump with
       | none => Post Γ X w0 θ K n outs' .normal a w₄
       | some c => c.wpIn (G r) 0 P (Post Γ X w0 θ K n outs') a w₄) := fun hb ⟨e, ho, he⟩ => by
      have hend := run_endLoop (P := P) hw (by rw [hst]; exact hb)
      have hrep' := hrep .exhausted l.pending
      have post : Post Γ X w0 θ K n outs' e.conc a (w'.putObj (θ'.blk b) (.loop { rc with state := .exhausted })) := by
        refine ⟨⟨e, fr, x.hp.upd b (.loop { l with state := .exhausted }), .lit undef⟩, hm _ (by rw [ho]; exact List.mem_singleton.2 rfl), θ', K', hG, rfl, ?_, hf⟩
        rw [← hpe] at hrep'
        have e1 : ({ l with state := .exhausted, pending := rc.pending } : ALoop) = { l with state := .exhausted } := by rw [hpe]
        rw [e1] at hrep'
        exact hrep'
      generalize w'.putObj (θ'.blk b) (.loop { rc with state := .exhausted }) = W at hend post
      refine ⟨rc.pending, W, hend, ?_⟩
      rw [hpe]
      split at he
      · rename_i hp; rw [hp]; subst he; exact post
      · rename_i hp; rw [hp]; subst he; exact wpIn_ret post
      · rename_i id hp; rw [hp]; subst he; exact wpIn_exit post
      · exact he.elim
    split at hq
    · cases hq
    · rename_i hb
      refine go (fun e => hb e) ?_
      split at hq
      · simp only [Option.some.injEq] at hq; exact ⟨.normal, hq.symm, by simp [*]⟩
      · simp only [Option.some.injEq] at hq; exact ⟨.ret, hq.symm, by simp [*]⟩
      · simp only [Option.some.injEq] at hq; rename_i id _; exact ⟨.exit id, hq.symm, by simp [*]⟩
      · cases hq
  · cases hq
theorem loop_rep {b : Nat} {fr : Fr} {a : Act} {fn : FuncId} {ps : Array Tmp} {assign body : Code} (hr : Rep Γ X w0 θ K h w) (hf : FRep θ K fr a) (hb : K b) :
    Rep Γ X w0 (θ.bind h.next w.heap.size 0) (also K h.next) (h.new (.loop ⟨.ready, none, 0, fr.tmps, fr.sz, ps, assign, body, b⟩)).2 (w.alloc (.loop { state := .ready, pending := none, fn, tmps := a.tmps, params := ps, assign, body, defers := θ.blk b })) := by
  have hE : Ext K θ (θ.bind h.next w.heap.size 0) := Ren.bind_ext (hr.next _ (Nat.le_refl _))
  have hok : AObj.ok K (.loop ⟨.ready, none, 0, fr.tmps, fr.sz, ps, assign, body, b⟩) := ⟨fun i v hv => hf.ok i v hv, hb⟩
  exact hr.make_next rfl rfl rfl rfl (AObj.ok_mono also_mono _ hok) (ORep_ext hE hok ⟨fn, a.tmps, hf.tmps, rfl⟩)
theorem new_grow (hr : Rep Γ X w0 θ K h w) (o : AObj) (n c : Nat) : Grow K θ h.next (also K h.next) (θ.bind h.next n c) (h.new o).2.next :=
  ⟨Ren.bind_ext (hr.next _ (Nat.le_refl _)), also_mono, also_fresh, Nat.le_succ _⟩
theorem range_tail [AskOk P Γ] (hN : NoCount P) (hS : Sound P Γ self) {g : Operand} {ps : Array Tmp} {assign body : Code} {fr fr' : Fr} {hp : Hp} {outs : List Out} {d : Nat} {n0 : Nat} {θ0 : Ren} {K0 : Nat → Prop} {r : Option Nat}
    {a a' : Act} {fn : FuncId} (hr : Rep Γ X w0 θ K hp w) (hf : FRep θ K fr a) (hf' : FRep θ K fr' a') (hd : K d) (hG : Grow K0 θ0 n0 K θ hp.next)
    (hq : (match seqCallee (fr.ev g) (hp.new (.loop ⟨.ready, none, 0, fr.tmps, fr.sz, ps, assign, body, d⟩)).1 with
      | none => none
      | some c => match self (.call c.1 c.2 (hp.new (.loop ⟨.ready, none, 0, fr.tmps, fr.sz, ps, assign, body, d⟩)).2) with
        | none => none
        | some outs => allOf (loopEnd (hp.new (.loop ⟨.ready, none, 0, fr.tmps, fr.sz, ps, assign, body, d⟩)).1 fr') outs) = some outs) :
    ∃ (dd : Deferred) (w₁' : World) (f : FuncId) (args : Array Value) (w₂ : World),
      (resolve a.eval (rangeCall g w.heap.size) 0).run P (w.alloc (.loop { state := .ready, pending := none, fn, tmps := a.tmps, params := ps, assign, body, defers := θ.blk d })) = .ok dd w₁' ∧
      (invoke dd.target dd.args).run P w₁' = .ok (.enter f args) w₂ ∧
      CallsIn (G r) (0 - 1) P f args w₂ (rangePost (G r) 0 P w.heap.size (Post Γ X w0 θ0 K0 n0 outs) a') := by
  split at hq
  · cases hq
  · rename_i c hc
    obtain ⟨f, args⟩ := c
    split at hq
    · cases hq
    · rename_i os hos
      obtain ⟨hfn, hcall⟩ := hS.call f args _ os hos
      have hrep := loop_rep (fn := fn) (ps := ps) (assign := assign) (body := body) hr hf hd
      have hG1 := new_grow hr (.loop ⟨.ready, none, 0, fr.tmps, fr.sz, ps, assign, body, d⟩) w.heap.size 0
      have hv : a.eval g = conc (θ.bind hp.next w.heap.size 0) (fr.ev g) := by rw [hf.ev, conc_ext hG1.ext _ (hf.evOk g)]
      obtain ⟨dd, h1, h2⟩ := seqCallee_run (θ := θ.bind hp.next w.heap.size 0) (w := w.alloc (.loop { state := .ready, pending := none, fn, tmps := a.tmps, params := ps, assign, body, defers := θ.blk d })) hN hc hfn hv
      have hb : (θ.bind hp.next w.heap.size 0).blk (hp.new (.loop ⟨.ready, none, 0, fr.tmps, fr.sz, ps, assign, body, d⟩)).1 = w.heap.size := Ren.bind_blk
      rw [hb] at h1
      refine ⟨dd, _, f, _, _, h1, h2, ?_⟩
      refine CallsIn.mono (F := Fence.wide) (n := 0) (hcall X w0 _ _ _ hrep (seqCallee_ok hc (hf.evOk g) also_mono (.inr rfl))) fun e w' he => ?_
      obtain ⟨o, ho, θ', K', hG2, rfl, _, hr'⟩ := he
      obtain ⟨y, hy, hm⟩ := allOf_mem hq o ho
      have hG3 := hG1.trans hG2
      have := loopEnd_sound (P := P) (r := r) hy (hG.trans hG3) hr' (hf'.ext hG3.ext hG3.mono) hm
      rw [show θ'.blk (hp.new (.loop ⟨.ready, none, 0, fr.tmps, fr.sz, ps, assign, body, d⟩)).1 = w.heap.size from (hG2.ext.blk _ (.inr rfl)).trans hb] at this
      exact this
theorem range_sound [AskOk P Γ] (hN : NoCount P) (hS : Sound P Γ self) {g : Operand} {ps : Array Tmp} {assign body : Code} {ro : Option Nat} {fr : Fr} {hp : Hp} {outs : List Out} (hq : stepTask P Γ self (.code (.rangeFunc g ps assign body) ro fr hp) = some outs)
    {a : Act} (hr : Rep Γ X w0 θ K hp w) (hf : FRep θ K fr a) : (Code.rangeFunc g ps assign body).wpIn (G (ro.map θ.blk)) 0 P (Post Γ X w0 θ K hp.next outs) a w := by
  refine wpIn_rangeFunc fun fn _ => ?_
  simp only [stepTask] at hq
  split at hq
  · cases hq
  · rename_i s hs
    cases ro with
    | some l =>
      simp only [loopStart] at hs
      split at hs
      · rename_i x hx
        simp only [Option.some.injEq] at hs
        subst hs
        obtain ⟨rc, hw, _, _, _, _, _, hdef, _, _, hkd, _, _⟩ := hr.loop hx
        obtain ⟨dd, w1, f, args, w2, h1, h2, h3⟩ := range_tail (fn := fn) (r := (some l).map θ.blk) hN hS hr hf hf hkd (Grow.refl _ _ _) hq
        refine ⟨w.heap.size, [], _, dd, w1, f, args, w2, ?_, h1, fun f' _ => G_fn _ f', h2, G_depth _ 0, h3⟩
        show (Instr.enterLoop fn a.tmps ps assign body (some (θ.blk l))).run P w = _
        unfold Instr.enterLoop
        simp only [Sem.run_bind, run_getLoop hw, run_newObj_alloc, Result.andThen, Sem.run_pure, hdef]
      · cases hs
    | none =>
      simp only [loopStart, Option.some.injEq] at hs
      subst hs
      have hE := new_grow hr (.deferred true) w.heap.size 0
      have hr1 : Rep Γ X w0 (θ.bind hp.next w.heap.size 0) (also K hp.next) (hp.new (.deferred true)).2 (w.alloc (.deferred (some []))) := hr.make_next (o := .deferred true) rfl rfl rfl rfl trivial rfl
      have hf1 := hf.ext hE.ext hE.mono
      have hf2 : FRep (θ.bind hp.next w.heap.size 0) (also K hp.next) { fr with marks := hp.next :: fr.marks } { a with defers := [{ target := .collected w.heap.size, args := #[] }] ++ a.defers } := by
        refine ⟨hf1.tmps, hf1.ok, ?_, fun b hb => ?_⟩
        · simp only [List.map_cons, Ren.bind_blk, List.singleton_append, hf1.marks]
        · rcases List.mem_cons.1 hb with rfl | hb
          · exact .inr rfl
          · exact hf1.marksOk b hb
      obtain ⟨dd, w1, f, args, w2, h1, h2, h3⟩ := range_tail (fn := fn) (r := Option.map θ.blk none) hN hS hr1 hf1 hf2 (.inr rfl) hE hq
      refine ⟨_, _, _, dd, w1, f, args, w2, ?_, h1, fun f' _ => G_fn _ f', h2, G_depth _ 0, h3⟩
      show (Instr.enterLoop fn a.tmps ps assign body none).run P w = _
      rw [run_enterLoop_outer]
      simp only [World.size_alloc, Ren.bind_blk]
theorem setAll_rep {l : List (Tmp × SV)} : ∀ {fr fr' : Fr} {a : Act}, setAll l fr = some fr' → FRep θ K fr a → (∀ x ∈ l, x.2.ok K) → FRep θ K fr' { a with tmps := (l.map fun x => (x.1, conc θ x.2)).foldl (fun tmps (x : Tmp × Value) => tmps.setIfInBounds x.1 x.2) a.tmps } := by
  induction l with
  | nil => intro fr fr' a hq hf _; simp only [setAll, Option.some.injEq] at hq; subst hq; exact hf
  | cons x l ih =>
    intro fr fr' a hq hf hok
    obtain ⟨t, v⟩ := x
    simp only [setAll] at hq
    split at hq
    · rename_i f1 h1
      exact ih hq (hf.put (hok _ (List.mem_cons_self ..)) h1) fun x hx => hok x (List.mem_cons_of_mem _ hx)
    · cases hq
end
open Go Go.RowKit
section
variable {P : Program} {Γ : Env} {X : Nat → Prop} {w0 : World} {self : Task → R} {θ : Ren} {K : Nat → Prop} {h : Hp} {w : World}
theorem roundEnd_sound {b : Nat} {y : Out} {outs outs' : List Out} (hq : roundEnd b y = some outs) {n : Nat} {θ' : Ren} {K' : Nat → Prop} {w' : World} {a : Act} (hG : Grow K θ n K' θ' y.hp.next) (hr : Rep Γ X w0 θ' K' y.hp w') (hm : ∀ y ∈ outs, y ∈ outs') :
    roundPost P (θ'.blk b) (CPost Γ X w0 θ K n outs') y.exit.conc a w' := by
  have go : ∀ jump r, endRoundE y.hp b jump = some r → outs = [⟨.ret, y.fr, r.2, r.1⟩] → ∃ v w₂, (Instr.endRound (θ'.blk b) jump).run P w' = .ok v w₂ ∧ CPost Γ X w0 θ K n outs' (.returned v) w₂ := by
    intro jump r he ho
    unfold endRoundE at he
    split at he
    · rename_i l hl
      simp only [Option.some.injEq] at he
      subst he
      obtain ⟨rc, hw, _, _, _, _, _, _, _, _, _, _, hrep⟩ := hr.loop hl
      refine ⟨_, _, run_endRound jump hw, ⟨.ret, y.fr, y.hp.upd b (.loop { l with state := bif jump.isNone then .ready else .done, pending := jump }), litBool jump.isNone⟩, hm _ (by rw [ho]; exact List.mem_singleton.2 rfl), θ', K', hG, rfl, trivial, ?_⟩
      cases jump with
      | none => exact hrep .ready none
      | some c => exact hrep .done (some c)
    · cases he
  unfold roundEnd at hq
  split at hq
  · rename_i r he
    simp only [Option.some.injEq] at hq
    obtain ⟨ex, fr, hp, v⟩ := y
    cases ex with
    | normal => exact go none r he hq.symm
    | ret => exact go (some .ret) r he hq.symm
    | exit id => exact go (some (.exit id)) r he hq.symm
  · cases hq
theorem round_sound (hS : Sound P Γ self) {b : Nat} {args : List SV} {hp : Hp} {outs : List Out} (hq : stepTask P Γ self (.round b args hp) = some outs) (hr : Rep Γ X w0 θ K hp w) (hok : SV.okL K args) :
    ∃ l f tmps assign body, (Instr.yield (θ.blk b) (concL θ args).toArray).run P w = .ok (.round l f tmps assign body) w ∧ RoundIn Fence.wide 0 P l f tmps assign body w (CPost Γ X w0 θ K hp.next outs) := by
  simp only [stepTask] at hq
  split at hq
  · rename_i l hl
    cases hlen : Nat.beq args.length l.params.size with
    | false => rw [hlen] at hq; cases hq
    | true =>
      rw [hlen] at hq
      simp only [cond_true] at hq
      split at hq
      · cases hq
      · rename_i fr hset
        split at hq
        · cases hq
        · rename_i os hos
          obtain ⟨rc, hw, _, _, hpar, hass, hbody, _, htm, htok, _, hkb, _⟩ := hr.loop hl
          have hfr : FRep θ K fr { tmps := (rc.params.zip (concL θ args).toArray).foldl (fun tmps (t, a) => tmps.setIfInBounds t a) rc.tmps, defers := [] } := by
            have := setAll_rep (θ := θ) (K := K) (a := { tmps := rc.tmps, defers := [] }) hset ⟨htm, htok, rfl, fun b hb => (by cases hb)⟩ (fun x hx => (okL_iff _ _).1 hok _ (List.of_mem_zip hx).2)
            have e : (rc.params.zip (concL θ args).toArray).foldl (fun tmps (t, a) => tmps.setIfInBounds t a) rc.tmps = ((l.params.toList.zip args).map fun x => (x.1, conc θ x.2)).foldl (fun tmps (x : Tmp × Value) => tmps.setIfInBounds x.1 x.2) rc.tmps := by
              rw [← Array.foldl_toList, Array.toList_zip, hpar, concL_eq, List.zip_map_right]
              rfl
            rw [e]
            exact this
          refine ⟨θ.blk b, rc.fn, _, rc.assign, rc.body, run_yield hw (by rw [hpar]; simpa using eq_of_beq hlen), roundIn_of_wpIn trivial ?_⟩
          have hcode := hS.code l.assign (some b) fr hp os hos X w0 θ K _ w hr hfr (fun l' h' => by cases h'; exact hkb)
          rw [hass, hbody]
          refine wpIn_mono (F := Fence.wide.inRound (θ.blk b)) hcode ?_
          rintro e a1 w1 ⟨o, ho, θ1, K1, hG1, rfl, hr1, hf1⟩
          obtain ⟨y, hy, hm⟩ := allOf_mem hq o ho
          unfold roundBody at hy
          split at hy
          · rename_i l1 hex hl1
            split at hy
            · rename_i hready
              split at hy
              · cases hy
              · rename_i os2 hos2
                rw [hex]
                obtain ⟨rc1, hw1, hst1, hpe1, _, _, _, _, _, _, _, hkb1, hrep1⟩ := hr1.loop hl1
                have hblk : θ1.blk b = θ.blk b := hG1.ext.blk b hkb
                have hbegin := run_beginRound (P := P) hw1 (by rw [hst1, hready])
                have hrep := hrep1 .busy l1.pending
                rw [← hpe1, show ({ l1 with state := .busy, pending := rc1.pending } : ALoop) = { l1 with state := .busy } by rw [hpe1]] at hrep
                rw [hblk] at hbegin hrep
                refine ⟨_, hbegin, ?_⟩
                have hcode2 := hS.code l.body (some b) o.fr _ os2 hos2 X w0 θ1 K1 a1 _ hrep hf1 (fun l' h' => by cases h'; exact hkb1)
                rw [show (some b).map θ1.blk = some (θ.blk b) from congrArg some hblk] at hcode2
                refine wpIn_mono (F := Fence.wide.inRound (θ.blk b)) hcode2 ?_
                rintro e a2 w2 ⟨o2, ho2, θ2, K2, hG2, rfl, hr2, hf2⟩
                obtain ⟨z, hz, hm2⟩ := allOf_mem hy o2 ho2
                have := roundEnd_sound (P := P) (a := a2) hz (hG1.trans hG2) hr2 fun y hy => hm y (hm2 y hy)
                rw [hG2.ext.blk b hkb1, hblk] at this
                exact this
            · cases hy
          · cases hy
  · cases hq
theorem resultsQ_sound {fr : Fr} {a : Act} (hr : Rep Γ X w0 θ K h w) (hf : FRep θ K fr a) : ∀ (l : List ResultVar) {vs : List SV}, resultsQ P Γ fr h l = some vs →
    (l.mapM fun
    | .tmp t => pure (a.tmps.getD t undef)
    | .cell x t => do loadVar t (← asAddr (a.tmps.getD x undef)) : Sem (List Value)).run P w = .ok (concL θ vs) w ∧ SV.okL K vs := by
  intro l
  induction l with
  | nil => intro vs hq; simp only [resultsQ, Option.some.injEq] at hq; subst hq; exact ⟨rfl, trivial⟩
  | cons x l ih =>
    intro vs hq
    cases x with
    | tmp t =>
      simp only [resultsQ, Option.map_eq_some_iff] at hq
      obtain ⟨r, hr', rfl⟩ := hq
      obtain ⟨h1, h2⟩ := ih hr'
      refine ⟨?_, hf.evOk (.tmp t), h2⟩
      simp only [List.mapM_cons, Sem.run_bind, Sem.run_pure, Result.andThen, h1, concL]
      rw [show a.tmps.getD t undef = conc θ (fr.ev (.tmp t)) from hf.ev (.tmp t)]
    | cell x t =>
      simp only [resultsQ] at hq
      split at hq
      · rename_i v fs r hv hr'
        simp only [Option.some.injEq] at hq; subst hq
        obtain ⟨h1, h2⟩ := ih hr'
        obtain ⟨ad, had, hld⟩ := loadVar_sound (θ := θ) hv hr.globW fun f hf => hr.fact (loadQ_facts hv f hf)
        refine ⟨?_, loadQ_ok hv hr.okAll, h2⟩
        have hd : (do loadVar t (← asAddr (a.tmps.getD x undef)) : Sem Value).run P w = .ok (conc θ v) w := by
          rw [show a.tmps.getD x undef = conc θ (fr.ev (.tmp x)) from hf.ev (.tmp x), had]
          simp only [asAddr, Sem.run_bind, Sem.run_pure, Result.andThen, hld]
        have e : ∀ g : ResultVar → Sem Value, (g (.cell x t)).run P w = .ok (conc θ v) w → (l.mapM g).run P w = .ok (concL θ r) w → ((ResultVar.cell x t :: l).mapM g).run P w = .ok (concL θ (v :: r)) w := fun g h h' => by
          simp only [List.mapM_cons, Sem.run_bind, h, h', Result.andThen, Sem.run_pure, concL]
        exact e _ hd h1
      · cases hq
def oneOr : List SV → SV
  | [v] => v
  | vs => .tuple vs
theorem results_sound {fn : Func} {fr : Fr} {a : Act} {vs : List SV} (hr : Rep Γ X w0 θ K h w) (hf : FRep θ K fr a) (hq : resultsQ P Γ fr h fn.results.toList = some vs) :
    (results fn a.tmps).run P w = .ok (conc θ (oneOr vs)) w ∧ SV.okL K vs := by
  obtain ⟨h1, h2⟩ := resultsQ_sound hr hf _ hq
  refine ⟨?_, h2⟩
  have e : ∀ g : ResultVar → Sem Value, (fn.results.toList.mapM g).run P w = .ok (concL θ vs) w → (do
      let us ← fn.results.mapM g
      pure (if h : us.size = 1 then us[0] else .tuple us) : Sem Value).run P w = .ok (conc θ (oneOr vs)) w := fun g hg => by
    simp only [Array.mapM_eq_mapM_toList, Sem.run_bind, Sem.run_map, hg, Result.andThen, Sem.run_pure]
    match vs with
    | [] => rfl
    | [v] => rfl
    | _ :: _ :: _ => rfl
  unfold results
  exact e _ h1
theorem shut_sound {fn : Func} {tmps : Array Value} {R : Ending → World → Prop} : ∀ (marks : List Nat) {h h' : Hp} {w : World}, shutMarks marks h = some h' → Rep Γ X w0 θ K h w → h'.next = h.next ∧
    ((∀ w', Rep Γ X w0 θ K h' w' → LeavesIn Fence.wide 0 P fn tmps R [] .returning w') → LeavesInM Fence.wide 0 P fn tmps R (marks.map fun b => ({ target := .collected (θ.blk b), args := #[] } : Deferred)) .returning w) := by
  intro marks
  induction marks with
  | nil => intro h h' w hq hr; simp only [shutMarks, Option.some.injEq] at hq; subst hq; exact ⟨rfl, fun H => H w hr⟩
  | cons b l ih =>
    intro h h' w hq hr
    simp only [shutMarks] at hq
    split at hq
    · rename_i hb
      obtain ⟨_, _, _, ob, hw, hO⟩ := hr.obj b _ hb
      have hO : ob = .deferred (some []) := hO
      subst hO
      have hrep : Rep Γ X w0 θ K (h.upd b (.deferred false)) (w.putObj (θ.blk b) (.deferred none)) := hr.turn hb (o' := .deferred false) trivial rfl
      obtain ⟨h1, h2⟩ := ih hq hrep
      refine ⟨h1, fun H => ?_⟩
      exact ⟨by simp, .inl ⟨θ.blk b, _, rfl, run_takeDeferred hw, h2 H⟩⟩
    · cases hq
theorem enter_rep {args : List SV} {n : Nat} (hok : SV.okL K args) : FRep θ K ⟨T.ofList args 0 .leaf, Nat.max n args.length, []⟩ { tmps := (concL θ args).toArray ++ Array.replicate (n - (concL θ args).toArray.size) undef, defers := [] } := by
  refine ⟨⟨?_, fun i => ?_⟩, fun i v hv => ?_, rfl, fun b hb => by cases hb⟩
  · simp only [Array.size_append, List.size_toArray, concL_length, Array.size_replicate]
    show _ = max n args.length
    omega
  · simp only [T.get_ofList, Nat.zero_le, true_and, Nat.zero_add, Nat.sub_zero, Array.getD_eq_getD_getElem?, Array.getElem?_append, List.size_toArray, concL_length, List.getElem?_toArray, concL_get]
    by_cases hi : i < args.length
    · rw [if_pos hi, if_pos hi, List.getElem?_eq_getElem hi]; rfl
    · rw [if_neg hi, if_neg hi]
      simp only [Array.getElem?_replicate, T.get, conc]
      split <;> rfl
  · rw [T.get_ofList] at hv
    split at hv
    · exact (okL_iff _ _).1 hok v (List.mem_of_getElem? hv)
    · cases hv
theorem call_sound (hS : Sound P Γ self) {f : FuncId} {args : List SV} {hp : Hp} {outs : List Out} (hq : stepTask P Γ self (.call f args hp) = some outs) : (∃ fn c, P.funcs[f]? = some fn ∧ fn.body = some c) ∧
    ∀ X w0 θ K w, Rep Γ X w0 θ K hp w → SV.okL K args → CallsIn Fence.wide 0 P f (concL θ args).toArray w (CPost Γ X w0 θ K hp.next outs) := by
  simp only [stepTask] at hq
  split at hq
  · cases hq
  · rename_i fn hfn
    split at hq
    · cases hq
    · rename_i c hc
      split at hq
      · rename_i os hos
        refine ⟨⟨fn, c, hfn, hc⟩, fun X w0 θ K w hr hok => callsIn_of_wp_marks hfn hc trivial ?_⟩
        have hcode := hS.code c none _ hp os hos X w0 θ K _ w hr (enter_rep hok) (fun l h => by cases h)
        refine wpIn_mono (F := Fence.wide) hcode ?_
        rintro e a w' ⟨o, ho, θ', K', hG, rfl, hr', hf'⟩
        obtain ⟨y, hy, hm⟩ := allOf_mem hq o ho
        have go : (match shutMarks o.fr.marks o.hp with
            | none => none
            | some h => match resultsQ P Γ o.fr h fn.results.toList with
              | some [v] => some [(⟨.ret, o.fr, h, v⟩ : Out)]
              | some vs => some [⟨.ret, o.fr, h, .tuple vs⟩]
              | none => none) = some y → LeavesInM Fence.wide 0 P fn a.tmps (CPost Γ X w0 θ K hp.next outs) a.defers .returning w' := fun hy => by
          split at hy
          · cases hy
          · rename_i h' hsh
            rw [hf'.marks]
            obtain ⟨hnx, hl⟩ := shut_sound (P := P) (fn := fn) (tmps := a.tmps) (R := CPost Γ X w0 θ K hp.next outs) _ hsh hr'
            refine hl fun w2 hr2 => ?_
            have key : ∀ vs, resultsQ P Γ o.fr h' fn.results.toList = some vs → y = [⟨.ret, o.fr, h', oneOr vs⟩] → LeavesIn Fence.wide 0 P fn a.tmps (CPost Γ X w0 θ K hp.next outs) [] .returning w2 := fun vs hvs hy => by
              obtain ⟨h1, h2⟩ := results_sound hr2 hf' hvs
              refine ⟨_, h1, _, hm _ (by rw [hy]; exact List.mem_singleton.2 rfl), θ', K', ?_, rfl, ?_, hr2⟩
              · show Grow K θ hp.next K' θ' h'.next
                rw [hnx]; exact hG
              · match vs, h2 with
                | [], _ => exact trivial
                | [v], h2 => exact h2.1
                | _ :: _ :: _, h2 => exact h2
            split at hy
            · rename_i v hv
              simp only [Option.some.injEq] at hy
              exact key [v] hv hy.symm
            · rename_i vs hne hv
              simp only [Option.some.injEq] at hy
              refine key vs hv ?_
              rw [← hy]
              match vs, hne with
              | [], _ => rfl
              | [v], hne => exact absurd rfl (hne v)
              | _ :: _ :: _, _ => rfl
            · cases hy
        unfold leave at hy
        obtain ⟨ex, fr, hp', v⟩ := o
        cases ex with
        | normal => exact go hy
        | ret => exact go hy
        | exit id => cases hy
      · cases hq
theorem step_sound [AskOk P Γ] (hN : NoCount P) (hmix : P.follows .mixedOrders = true) {m : Nat} (hS : Sound P Γ self) (hL : Loops P Γ m self) : Sound P Γ (stepTask P Γ self) ∧ Loops P Γ (m + 1) (stepTask P Γ self) :=
  ⟨⟨fun c ro fr hp outs hq X w0 θ K a w hr hf hro => code_sound hN hmix hS hL hq hr hf hro fun g ps assign body e => by subst e; exact range_sound hN hS hq hr hf,
    fun f args hp outs hq => call_sound hS hq, fun b args hp outs hq X w0 θ K w hr hok => round_sound hS hq hr hok⟩,
   fun c ro fr hp outs hq X w0 θ K a w hr hf hro => loop_round hS hL hq hr hf hro⟩
theorem run_sound [AskOk P Γ] (hN : NoCount P) (hmix : P.follows .mixedOrders = true) : ∀ n, Sound P Γ (run P Γ n) ∧ Loops P Γ n (run P Γ n)
  | 0 => ⟨⟨fun _ _ _ _ _ h => (by cases h), fun _ _ _ _ h => (by cases h), fun _ _ _ _ h => (by cases h)⟩, fun _ _ _ _ _ h => (by cases h)⟩
  | n + 1 => step_sound hN hmix (run_sound hN hmix n).1 (run_sound hN hmix n).2
end
open Go Go.RowKit Go.WideShapes Go.ChangeShapes
def allTrue (r : R) : Bool := match r with
  | some l => l.all fun o => match o.v with
    | .lit (.bool b) => b
    | _ => false
  | none => false
theorem allTrue_spec {r : R} (h : allTrue r = true) : ∃ outs, r = some outs ∧ ∀ o ∈ outs, o.v = .lit (.bool true) := by
  cases r with
  | none => cases h
  | some l =>
    refine ⟨l, rfl, fun o ho => ?_⟩
    have := List.all_eq_true.1 h o ho
    revert this
    generalize o.v = v
    intro h
    split at h
    · rw [h]
    · cases h
theorem noCount_of {P : Program} (h : P.funcs.all (fun fn => !(fn.name == "runtime.NumGoroutine")) = true) : NoCount P := fun f fn hf => by
  have := Array.all_eq_true.1 h f (Array.getElem?_eq_some_iff.1 hf).1
  rw [(Array.getElem?_eq_some_iff.1 hf).2] at this
  simpa using this
def globMet (Γ : Glob) (w : World) : Prop := ∀ g cs, Γ.get g = some cs → ∃ e fr, w.heap[g]? = some (.cells cs.toArray e fr)
theorem globMet_leaf (w : World) : globMet Glob.leaf w := fun g cs h => by cases h
theorem rep_start {Γ : Env} (θ : Ren) {w : World} (n : Nat) (hΓ : globMet Γ w) (hi : Γ.inv (· < w.heap.size) w θ (· < n)) : Rep Γ (· < w.heap.size) w θ (· < n) ⟨.leaf, n⟩ w :=
  ⟨rfl, rfl, rfl, Nat.le_refl _, fun _ _ => rfl, fun _ h => h, fun g cs hg => by
    obtain ⟨e, fr, h⟩ := hΓ g cs hg
    exact ⟨(Array.getElem?_eq_some_iff.1 h).1, e, fr, h⟩, fun b o h => (by cases h), fun b b' o o' h => (by cases h), fun i hi => Nat.not_lt.2 hi, hi⟩
theorem Rep.below {Γ : Env} {θ : Ren} {K : Nat → Prop} {h : Hp} {w0 w : World} (hr : Rep Γ (· < w0.heap.size) w0 θ K h w) : Below w0.heap.size w0 w :=
  ⟨hr.os, hr.tape, hr.output, hr.size, fun k hk => hr.kept k hk⟩
section
variable {H : Type} {enc : TypeId × Value → H} {P : Program}
theorem post_of_below {f : Func} {s : ChangeSpec} {apart fresh handsOn again : Bool} {W W' : World} {args : Array Value} {v : Value} {ds gs : List (DataW H)} {before pa pv : List MemPlace}
    (hW : DataW.Whole enc P f.params.toList s.vars apart W args.toList ds gs before)
    (hres : ∀ (b : Nat) (sp : Nat → Bool) (hd : Bool), DataW.TrodAll enc P W' b sp hd f.resultTypes.toList (v.resultList f.resultTypes.size) (s.fn H (ds ++ gs)).results [])
    (hargs : ∀ sp : Nat → Bool, (∀ p ∈ before, sp p.block = true) → DataW.TrodAll enc P W' 0 sp true f.params.toList args.toList (s.fn H (ds ++ gs)).args pa)
    (hvars : ∀ sp : Nat → Bool, (∀ p ∈ before, sp p.block = true) → DataW.TrodVars enc P W' sp s.vars (s.fn H (ds ++ gs)).vars pv)
    (hps : before = pa ++ pv) (hb : Below W.heap.size W W')
    (hok : ∀ (j : Nat) (t : TypeId) (r : Value), f.resultTypes[j]? = some t → (v.resultList f.resultTypes.size)[j]? = some r → Value.okWide P W' .any 0 t r) :
    s.post enc P f apart fresh handsOn again W args v W' := by
  have hlt : ∀ p ∈ before, p.block < W.heap.size := fun p hp => hW.lt p hp
  have hold : ∀ p ∈ before, (fun b => decide (b < W.heap.size)) p.block = true := fun p hp => by simpa using hlt p hp
  refine ⟨ds, gs, before, [], pa, pv, hW, hres _ _ _, hargs _ hold, hvars _ hold, World.keptBut_mono (fun p hp => ⟨hp, ?_⟩) (hb.frame (· ∈ before)), fun _ => ?_⟩
  · rw [hps, List.mem_append] at hp
    exact Or.inr hp
  · obtain ⟨_, _, _, _, _, hz, hn⟩ := hW
    refine ⟨hok, _, _, ([] ++ pa) ++ pv, ⟨[] ++ pa, pv, trodAll_append (hargs _ (fun _ _ => rfl)) (hres _ _ _), hvars _ (fun _ _ => rfl), rfl, ?_, ?_⟩, ?_⟩
    · intro b off hp
      have hin : MemPlace.cell b off ∈ before := by rw [hps]; simpa using hp
      rw [hb.frozen (hlt _ hin)]
      exact hz b off hin
    · intro ha
      have := hn ha
      rw [hps] at this
      simpa using this
    · intro p hp _
      rw [hps]
      simpa using hp
end
open Go Go.RowKit Go.WideShapes Go.ChangeShapes
section
variable {H : Type} {enc : TypeId × Value → H} {P : Program}
theorem back_all (hl : laidOutB P = true) {W W' : World} (hb : Below W.heap.size W W') {sp : Nat → Bool} (ts : List TypeId) : ∀ {vs : List Value} {ds : List (DataW H)} {ps : List MemPlace}, (∀ t ∈ ts, P.readableRec t = true ∧ t < P.types.size) →
    DataW.TrodAll enc P W 0 (fun _ => true) true ts vs ds ps → (∀ p ∈ ps, p.block < W.heap.size) → (∀ p ∈ ps, sp p.block = true) → DataW.TrodAll enc P W' 0 sp true ts vs ds ps := by
  induction ts with
  | nil =>
    intro vs ds ps _ h _ _
    cases vs <;> cases ds <;> exact h
  | cons t ts ih =>
    intro vs ds ps ht h hlt hs
    cases vs with
    | nil => cases ds <;> exact h.elim
    | cons v vs =>
      cases ds with
      | nil => exact h.elim
      | cons d ds =>
        obtain ⟨p, q, h1, h2, rfl⟩ := h
        exact ⟨p, q, WideElems.Trod_stays hl (ht t (List.mem_cons_self ..)).1 (ht t (List.mem_cons_self ..)).2 h1 (fun x hx => hb.same (hlt x (List.mem_append_left _ hx))) (fun x hx => hs x (List.mem_append_left _ hx)),
          ih (fun u hu => ht u (List.mem_cons_of_mem _ hu)) h2 (fun x hx => hlt x (List.mem_append_right _ hx)) (fun x hx => hs x (List.mem_append_right _ hx)), rfl⟩
theorem law_post {f : Func} {s : ChangeSpec} {tb : TypeId} {W W' : World} {args : Array Value} {ds gs : List (DataW H)} {before : List MemPlace} (hl : laidOutB P = true) (hts : ∀ t ∈ f.params.toList, P.readableRec t = true ∧ t < P.types.size)
    (hvars : s.vars = []) (hres : f.resultTypes = #[tb]) (hbt : P.underlying tb = some .bool) (hs : s.fn H ds = { results := [.lit (.bool true)], args := ds })
    (hW : DataW.Whole enc P f.params.toList s.vars false W args.toList ds gs before) (hb : Below W.heap.size W W') : s.post enc P f false true false false W args (.bool true) W' := by
  have hW' := hW
  obtain ⟨p, q, hA, hV, hp, _, _⟩ := hW
  rw [hvars] at hV
  have hgq : gs = [] ∧ q = [] := by
    cases gs with
    | nil => exact ⟨rfl, hV⟩
    | cons _ _ => exact hV.elim
  obtain ⟨rfl, rfl⟩ := hgq
  have hlt : ∀ x ∈ before, x.block < W.heap.size := fun x hx => hW'.lt x hx
  have hbe : before = p := by rw [hp, List.append_nil]
  refine post_of_below (pa := p) (pv := []) hW' (fun b sp hd => ?_) (fun sp hsp => ?_) (fun sp hsp => ?_) hp hb (ok_one hres rfl (okWide_bool_mk hbt _))
  · rw [List.append_nil, hs, hres]
    exact trodAll_cons_mk (shut_bool hbt _) trodAll_mk0
  · rw [List.append_nil, hs]
    exact back_all hl hb _ hts hA (fun x hx => hlt x (by rw [hbe]; exact hx)) fun x hx => hsp x (by rw [hbe]; exact hx)
  · rw [List.append_nil, hs, hvars]
    exact rfl
end
def litVal : Lit → Value
  | .int k n => .int k n
  | .bool b => .bool b
  | .string l => .string ⟨l.toArray⟩
  | _ => .bool false
mutual
def flat : DataW Unit → List Value
  | .lit l => [litVal l]
  | .agg ds => flatL ds
  | _ => []
def flatL : List (DataW Unit) → List Value
  | [] => []
  | d :: ds => flat d ++ flatL ds
end
def laidCells (l : List Value) : Obj → Obj
  | .cells _ t frozen => .cells l.toArray t frozen
  | o => o
def laidHeap (l : List (Nat × DataW Unit)) (h : Array Obj) : Array Obj := l.foldl (fun h x => h.modify x.1 (laidCells (flat x.2))) h
end Go.Proofs.YtdhmljjpiainnaaGreatDoor.Ev
