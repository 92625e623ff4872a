/-
  A REGION THAT DRAWS ITS ORDER (6): every order comes to one of the evaluator's outcomes, by the author of this claim. Of any program in which no function is runtime.NumGoroutine.
-/
import Derived.Test.YthjkejnmjbljfaaGreatDoorEvS
namespace Go.Proofs.YthjkejnmjbljfaaGreatDoor.Ev
open Go Go.RowKit

section
variable {P : Program} {Γ : Env} {ops : Array Oper} {X : Nat → Prop} {w0 : World}

/-! ### the frame -/
def more (X : Nat → Prop) (g : Nat → Bool) (θ : Ren) (t : T AObj) (k : Nat) : Prop := X k ∨ ∃ b o, g b = true ∧ t.get b = some o ∧ k = θ.blk b

theorem Rep.part {θ : Ren} {K : Nat → Prop} {g : Nat → Bool} {t v : T AObj} {n : Nat} {w : World} (hr : Rep Γ X w0 θ K ⟨t, n⟩ w) (hv : ∀ b, v.get b = bif g b then none else t.get b) : Rep Γ (more X g θ t) w θ K ⟨v, n⟩ w := by
  have vis : ∀ b o, v.get b = some o → g b = false ∧ t.get b = some o := fun b o hb => by
    rw [hv b] at hb
    cases hg : g b with
    | true => rw [hg] at hb; cases hb
    | false => rw [hg] at hb; exact ⟨rfl, hb⟩
  refine ⟨rfl, rfl, rfl, Nat.le_refl _, fun _ _ => rfl, fun k hk => ?_, fun x cs hx => ?_, fun b o hb => ?_, fun b b' o o' hb hb' e => ?_, hr.next, Γ.base hr.inv (fun _ h => .inl h) hr.kept hr.size⟩
  · rcases hk with hk | ⟨b, o, _, hb, rfl⟩
    · exact Nat.lt_of_lt_of_le (hr.low k hk) hr.size
    · obtain ⟨_, _, _, ob, hob, _⟩ := hr.obj b o hb
      exact (Array.getElem?_eq_some_iff.1 hob).1
  · obtain ⟨h1, e, fr, h2⟩ := hr.glob x cs hx
    exact ⟨.inl h1, e, fr, by rw [hr.kept x h1]; exact h2⟩
  · obtain ⟨hg, hb⟩ := vis b o hb
    obtain ⟨k1, k2, k3, k4⟩ := hr.obj b o hb
    refine ⟨k1, ?_, k3, k4⟩
    rintro (hx | ⟨b', o', hg', hb', e⟩)
    · exact k2 hx
    · have := hr.inj b b' o o' hb hb' e
      subst this
      rw [hg] at hg'; cases hg'
  · exact hr.inj b b' o o' (vis b o hb).2 (vis b' o' hb').2 e

theorem Rep.whole {θ θ' : Ren} {K K' : Nat → Prop} {g : Nat → Bool} {t r t' : T AObj} {n n' : Nat} {w w' : World} (hr : Rep Γ X w0 θ K ⟨t, n⟩ w) (hr' : Rep Γ (more X g θ t) w θ' K' ⟨r, n'⟩ w') (hE : Ext K θ θ') (hm : ∀ i, K i → K' i)
    (h1 : ∀ b, g b = true → t'.get b = t.get b) (h2 : ∀ b, g b = false → t'.get b = r.get b) : Rep Γ X w0 θ' K' ⟨t', n'⟩ w' := by
  refine ⟨hr'.os.trans hr.os, hr'.tape.trans hr.tape, hr'.output.trans hr.output, Nat.le_trans hr.size hr'.size, fun k hk => (hr'.kept k (.inl hk)).trans (hr.kept k hk), hr.low, hr.glob, fun b o hb => ?_, fun b b' o o' hb hb' e => ?_, hr'.next, Γ.ext hr.inv hE hm⟩
  · cases hg : g b with
    | true =>
      have hb : t.get b = some o := by rw [← h1 b hg]; exact hb
      obtain ⟨k1, k2, k3, ob, k4, k5⟩ := hr.obj b o hb
      refine ⟨hm _ k1, by rw [hE.blk b k1]; exact k2, AObj.ok_mono hm o k3, ob, ?_, ORep_ext hE k3 k5⟩
      rw [hE.blk b k1, hr'.kept _ (.inr ⟨b, o, hg, hb, rfl⟩)]
      exact k4
    | false =>
      have hb : r.get b = some o := by rw [← h2 b hg]; exact hb
      obtain ⟨k1, k2, k3, k4⟩ := hr'.obj b o hb
      exact ⟨k1, fun hx => k2 (.inl hx), k3, k4⟩
  · have cross : ∀ b b' o o', g b = true → g b' = false → t'.get b = some o → t'.get b' = some o' → θ'.blk b = θ'.blk b' → False := fun b b' o o' hg hg' hb hb' e => by
      rw [h1 b hg] at hb
      rw [h2 b' hg'] at hb'
      obtain ⟨_, k2, _⟩ := hr'.obj b' o' hb'
      refine k2 (.inr ⟨b, o, hg, hb, ?_⟩)
      rw [← e, hE.blk b (hr.obj b o hb).1]
    cases hg : g b with
    | true =>
      cases hg' : g b' with
      | true =>
        have hb : t.get b = some o := by rw [← h1 b hg]; exact hb
        have hb' : t.get b' = some o' := by rw [← h1 b' hg']; exact hb'
        rw [hE.blk b (hr.obj b o hb).1, hE.blk b' (hr.obj b' o' hb').1] at e
        exact hr.inj b b' o o' hb hb' e
      | false => exact (cross b b' o o' hg hg' hb hb' e).elim
    | false =>
      cases hg' : g b' with
      | true => exact (cross b' b o' o hg' hg hb' hb e.symm).elim
      | false =>
        have hb : r.get b = some o := by rw [← h2 b hg]; exact hb
        have hb' : r.get b' = some o' := by rw [← h2 b' hg']; exact hb'
        exact hr'.inj b b' o o' hb hb' e

theorem Rep.later {θ : Ren} {K : Nat → Prop} {t : T AObj} {n n' : Nat} {w : World} (hr : Rep Γ X w0 θ K ⟨t, n⟩ w) (h : n ≤ n') : Rep Γ X w0 θ K ⟨t, n'⟩ w :=
  ⟨hr.os, hr.tape, hr.output, hr.size, hr.kept, hr.low, hr.glob, hr.obj, hr.inj, fun i hi => hr.next i (Nat.le_trans h hi), hr.inv⟩

theorem FRep.feq {θ : Ren} {K : Nat → Prop} {f g : Fr} {a : Act} (hf : FRep θ K f a) (h : FEq f g) : FRep θ K g a := by
  refine ⟨⟨hf.tmps.1.trans h.sz, fun x => ?_⟩, fun x v hx => hf.ok x v ((h.tmps x).trans hx), by rw [← h.marks]; exact hf.marks, by rw [← h.marks]; exact hf.marksOk⟩
  rw [← h.tmps x]; exact hf.tmps.2 x

theorem Chain.newNe {fr : Fr} {hp : T AObj} : ∀ (pd : List Rec) {f : Fr} {t : T AObj} {β : Nat} {o : AObj}, Chain P Γ ops pd f t fr hp → t.get β = some o → ∀ q ∈ pd, q.new = true → ∀ b ob, q.chg = some (b, ob) → b ≠ β := by
  intro pd
  induction pd with
  | nil => intro f t β o _ _ q hq; cases hq
  | cons p pd ih =>
    intro f t β o h hβ q hq hn b ob hc
    obtain ⟨hd, f1, t1, _, hch, hr⟩ := h
    rcases List.mem_cons.1 hq with rfl | hq
    · rcases hd.does with ⟨_, _, _, c⟩ | ⟨_, c, _⟩ | ⟨_, _, _, b', ob', c, g, _⟩ | ⟨_, _, n, _⟩
      · rw [hc] at c; cases c
      · rw [hc] at c; cases c
      · rw [hc] at c; cases c
        intro e; rw [e, hβ] at g; cases g
      · rw [hn] at n; cases n
    · have hs : ∃ o', t1.get β = some o' := by
        rw [hch β]
        cases p.chg with
        | none => exact ⟨o, hβ⟩
        | some c =>
          obtain ⟨b', ob'⟩ := c
          simp only
          split
          · exact ⟨_, rfl⟩
          · exact ⟨o, hβ⟩
      obtain ⟨o', ho'⟩ := hs
      exact ih hr ho' q hq hn b ob hc

theorem land_of_sub {a b : Nat} (h : ∀ k, a.testBit k = true → b.testBit k = true) : Nat.beq (Nat.land a b) a = true := by
  apply beq_t
  apply Nat.eq_of_testBit_eq
  intro i
  show (a &&& b).testBit i = a.testBit i
  rw [Nat.testBit_and]
  cases ha : a.testBit i with
  | false => rfl
  | true => rw [h i ha]; rfl

def Passed (P : Program) (Γ : Env) (self : Task → R) (ops : Array Oper) (n M : Nat) (held : List Held) (fr : Fr) (hp : Hp) (outs : List Out) : Prop :=
  (readyNow M ops.toList 0 = [] → (⟨.normal, fr, hp, .lit undef⟩ : Out) ∈ outs) ∧ ∀ io ∈ readyNow M ops.toList 0, ∃ x, comesUp P Γ self ops (drawn P Γ self ops n) M held fr hp io = some x ∧ ∀ y ∈ x, y ∈ outs

theorem Passed.of {self : Task → R} {n M : Nat} {held : List Held} {fr : Fr} {hp : Hp} {outs : List Out} (h : drawn P Γ self ops (n + 1) M held fr hp = some outs) :
    ∃ x, takeAll P Γ ops ops.toList 0 M held fr hp = some x ∧ Passed P Γ self ops n x.1 x.2.1 x.2.2.1 x.2.2.2 outs := by
  simp only [drawn] at h
  split at h
  · cases h
  · rename_i x hx
    refine ⟨x, hx, ?_⟩
    split at h
    · rename_i hr
      cases hb : Nat.beq x.1 (2 ^ ops.size - 1) with
      | false => rw [hb] at h; cases h
      | true =>
        rw [hb] at h
        simp only [cond_true, Option.some.injEq] at h
        subst h
        exact ⟨fun _ => List.mem_singleton.2 rfl, fun io hio => by rw [hr] at hio; cases hio⟩
    · rename_i rs hne
      exact ⟨fun e => absurd e hne, fun io hio => allOf_mem h io hio⟩

variable {n0 : Nat} {θ : Ren} {K : Nat → Prop} {M : Nat} {held : List Held} {fr : Fr} {hp : Hp} {pd : List Rec} {f : Fr} {t : T AObj} {a : Act} {w : World} {listed : Array Bool}

theorem Inv.pass (hI : Inv P Γ ops X w0 n0 θ K M held fr hp pd f t a w listed) {x : Nat × List Held × Fr × Hp} (hx : takeAll P Γ ops ops.toList 0 M held fr hp = some x) : ∃ pd', Inv P Γ ops X w0 n0 θ K x.1 x.2.1 x.2.2.1 x.2.2.2 pd' f t a w listed := by
  obtain ⟨ts, T⟩ := takeAll_sound ops.toList (fun m => by rw [Nat.zero_add, Array.getElem?_toList]) hx hI.wf hI.chain hI.freshGet hI.heldLt
  have hdone : ∀ j, Done x.1 (pd ++ ts) j ↔ Done M pd j := fun j => by
    constructor
    · rintro ⟨h1, h2⟩
      refine ⟨?_, fun p hp => h2 p (List.mem_append_left _ hp)⟩
      rcases (T.mask j).1 h1 with h | ⟨p, hp, e⟩
      · exact h
      · exact absurd e (h2 p (List.mem_append_right _ hp))
    · rintro ⟨h1, h2⟩
      refine ⟨(T.mask j).2 (.inl h1), fun p hp e => ?_⟩
      rcases List.mem_append.1 hp with hp | hp
      · exact h2 p hp e
      · have := T.fresh p hp
        rw [e, h1] at this; cases this
  refine ⟨pd ++ ts, T.wf, T.chain, hI.fr, hI.rep.later T.next, fun p hp hn b ob hc => ?_, T.freshGet, T.heldLt, hI.size, fun j hj => ?_, fun j o ho hd k hk => ?_, fun j hj => ?_⟩
  · rcases List.mem_append.1 hp with hp | hp
    · exact hI.newK p hp hn b ob hc
    · exact hI.rep.next b (T.new p hp hn b ob hc)
  · rw [hI.listed j hj, hdone]
  · exact (hdone k).2 (hI.closed j o ho ((hdone j).1 hd) k hk)
  · rcases (T.mask j).1 hj with h | ⟨p, hp, e⟩
    · exact hI.mask j h
    · have := (T.wf.op p (List.mem_append_right _ hp)).1
      rw [e] at this
      exact (Array.getElem?_eq_some_iff.1 this).1

/-- All have come. -/
theorem Inv.allDone (hI : Inv P Γ ops X w0 n0 θ K M held fr hp pd f t a w listed) (fit : Fit ops) (h0 : Region.ready .any ops listed = []) : ∀ j, j < ops.size → Done M pd j := by
  have key : ∀ n j, j < n → j < ops.size → Done M pd j := by
    intro n
    induction n with
    | zero => intro j h; omega
    | succ n ih =>
      intro j hj hlt
      have ho : ops[j]? = some ops[j] := Array.getElem?_eq_getElem hlt
      refine Classical.byContradiction fun hn => ?_
      have := hI.ofReady fit ho hn fun k hk => by
        have := fit.low j _ k ho hk
        exact ih k (by omega) (by omega)
      rw [h0] at this; cases this
  exact fun j => key (j + 1) j (Nat.lt_succ_self _)

theorem Inv.finish {self : Task → R} {n : Nat} {outs : List Out} (hI : Inv P Γ ops X w0 n0 θ K M held fr hp pd f t a w listed) (fit : Fit ops) (hP : Passed P Γ self ops n M held fr hp outs) (h0 : Region.ready .any ops listed = []) :
    Post Γ X w0 θ K n0 outs .normal a w := by
  have hall := hI.allDone fit h0
  have hpd : pd = [] := by
    cases pd with
    | nil => rfl
    | cons p l =>
      have hp := (hI.wf.op p (List.mem_cons_self ..)).1
      exact absurd rfl ((hall p.i (Array.getElem?_eq_some_iff.1 hp).1).2 p (List.mem_cons_self ..))
  subst hpd
  have hr : readyNow M ops.toList 0 = [] := by
    cases hr : readyNow M ops.toList 0 with
    | nil => rfl
    | cons io l =>
      obtain ⟨j, o⟩ := io
      obtain ⟨m, e, ho, hb, _⟩ := readyNow_mem.1 (show (j, o) ∈ readyNow M ops.toList 0 by rw [hr]; exact List.mem_cons_self ..)
      rw [Nat.zero_add] at e
      subst e
      rw [Array.getElem?_toList] at ho
      rw [(hall j (Array.getElem?_eq_some_iff.1 ho).1).1] at hb; cases hb
  refine ⟨_, hP.1 hr, θ, K, ⟨Ext.refl _ _, fun _ h => h, fun _ h => .inl h, hI.wf.next⟩, rfl, hI.rep.teq fun b => (hI.chain.2 b).symm, hI.fr.feq hI.chain.1⟩

theorem getD_set (listed : Array Bool) (i j : Nat) (hi : i < listed.size) : (listed.setIfInBounds i true).getD j true = if i = j then true else listed.getD j true := by
  by_cases e : i = j
  · subst e; rw [if_pos rfl]; simp [hi]
  · rw [if_neg e, getD_set_ne true e]

/-- One that was taken ahead comes. -/
theorem Inv.comes (hI : Inv P Γ ops X w0 n0 θ K M held fr hp pd f t a w listed) (fit : Fit ops) {p : Rec} {pre post : List Rec} (hpd : pd = pre ++ p :: post) (hdeps : ∀ k, (depsOf p.o).testBit k = true → Done M pd k) :
    Does P Γ ops p f t ∧ ∃ f1 t1, FPut f p f1 ∧ HChg t p t1 ∧ Chain P Γ ops (pre ++ post) f1 t1 fr hp.objs ∧
      ∀ θ' K' a' w', FRep θ' K' f1 a' → Rep Γ X w0 θ' K' ⟨t1, hp.next⟩ w' → (∀ q ∈ pre ++ post, q.new = true → ∀ b ob, q.chg = some (b, ob) → ¬ K' b) → Inv P Γ ops X w0 n0 θ' K' M held fr hp (pre ++ post) f1 t1 a' w' (listed.setIfInBounds p.i true) := by
  subst hpd
  have hmem : p ∈ pre ++ p :: post := by simp
  obtain ⟨hpo, hpM⟩ := hI.wf.op p hmem
  have hlt : p.i < ops.size := (Array.getElem?_eq_some_iff.1 hpo).1
  have hpair := hI.wf.pair
  have hsub : ∀ q ∈ pre ++ post, q ∈ pre ++ p :: post := fun q hq => by
    rcases List.mem_append.1 hq with h | h
    · exact List.mem_append_left _ h
    · exact List.mem_append_right _ (List.mem_cons_of_mem _ h)
  rw [List.pairwise_append] at hpair
  have hne : ∀ q ∈ pre ++ post, q.i ≠ p.i := fun q hq => by
    rcases List.mem_append.1 hq with h | h
    · exact (hpair.2.2 q h p (List.mem_cons_self ..)).ne
    · exact fun e => ((List.pairwise_cons.1 hpair.2.1).1 q h).ne e.symm
  have hind : ∀ q ∈ pre, Ind ops q p := fun q hq => (hpair.2.2 q hq p (List.mem_cons_self ..)).ind fit (hI.wf.op q (List.mem_append_left _ hq)).1 hpo (hI.wf.desc q (List.mem_append_left _ hq))
    (hI.notDesc fit (List.mem_append_left _ hq) p.i p.o hpo hdeps)
  obtain ⟨hd, f1, t1, hf1, ht1, hch⟩ := Chain.first pre hind hI.chain
  have hdone : ∀ j, Done M (pre ++ post) j ↔ j = p.i ∨ Done M (pre ++ p :: post) j := fun j => by
    constructor
    · rintro ⟨h1, h2⟩
      by_cases e : j = p.i
      · exact .inl e
      · refine .inr ⟨h1, fun q hq => ?_⟩
        rcases List.mem_append.1 hq with h | h
        · exact h2 q (List.mem_append_left _ h)
        · rcases List.mem_cons.1 h with rfl | h
          · exact fun e' => e e'.symm
          · exact h2 q (List.mem_append_right _ h)
    · rintro (rfl | ⟨h1, h2⟩)
      · exact ⟨hpM, hne⟩
      · exact ⟨h1, fun q hq => h2 q (hsub q hq)⟩
  refine ⟨hd, f1, t1, hf1, ht1, hch, fun θ' K' a' w' hf hr hk => ?_⟩
  refine ⟨⟨fun q hq => hI.wf.op q (hsub q hq), fun q hq => hI.wf.deps q (hsub q hq), fun q hq => hI.wf.desc q (hsub q hq), fun q hq => hI.wf.held q (hsub q hq), ?_, fun q hq => hI.wf.new q (hsub q hq), hI.wf.next⟩, hch, hf, hr, hk, hI.freshGet, hI.heldLt, by rw [Array.size_setIfInBounds]; exact hI.size, fun j hj => ?_, fun j o ho hdj k hkk => ?_, hI.mask⟩
  · rw [List.pairwise_append]
    exact ⟨hpair.1, (List.pairwise_cons.1 hpair.2.1).2, fun q hq r hr => hpair.2.2 q hq r (List.mem_cons_of_mem _ hr)⟩
  · rw [getD_set listed p.i j (by rw [hI.size]; exact hlt), hdone]
    by_cases e : p.i = j
    · rw [if_pos e]; simp [e]
    · rw [if_neg e, hI.listed j hj]
      exact ⟨fun h => .inr h, fun h => h.resolve_left fun e' => e e'.symm⟩
  · rcases (hdone j).1 hdj with rfl | hdj
    · rw [hpo] at ho; cases ho
      exact (hdone k).2 (.inr (hdeps k hkk))
    · exact (hdone k).2 (.inr (hI.closed j o ho hdj k hkk))

end
end Go.Proofs.YthjkejnmjbljfaaGreatDoor.Ev
