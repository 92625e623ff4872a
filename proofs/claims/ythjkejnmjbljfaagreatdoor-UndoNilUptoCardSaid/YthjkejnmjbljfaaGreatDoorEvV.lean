/-
  A REGION THAT DRAWS ITS ORDER (7): the walk over all orders, by the author of this claim. Of any program in which no function is runtime.NumGoroutine.
-/
import Derived.Test.YthjkejnmjbljfaaGreatDoorEvU
namespace Go.Proofs.YthjkejnmjbljfaaGreatDoor.Ev
open Go Go.RowKit

section
variable {P : Program} {Γ : Env} {ops : Array Oper} {X : Nat → Prop} {w0 : World} {self : Task → R}
variable {n0 : Nat} {θ : Ren} {K : Nat → Prop} {M : Nat} {held : List Held} {fr : Fr} {hp : Hp} {pd : List Rec} {f : Fr} {t : T AObj} {a : Act} {w : World} {listed : Array Bool}

/-- One that was taken ahead comes: what it does. -/
theorem Inv.runAhead (hI : Inv P Γ ops X w0 n0 θ K M held fr hp pd f t a w listed) (fit : Fit ops) {r : Option Nat} {p : Rec} {pre post : List Rec} (hpd : pd = pre ++ p :: post) (hdeps : ∀ k, (depsOf p.o).testBit k = true → Done M pd k)
    {next : Act → World → Prop} {Q : Exit → Act → World → Prop}
    (hnext : ∀ θ' K' f' t' a' w', Grow K θ n0 K' θ' n0 → Inv P Γ ops X w0 n0 θ' K' M held fr hp (pre ++ post) f' t' a' w' (listed.setIfInBounds p.i true) → next a' w') :
    wpOpIn (G r) 0 P ops Q p.i next a w := by
  have hmem : p ∈ pd := by rw [hpd]; simp
  have hsub : ∀ q ∈ pre ++ post, q ∈ pd := fun q hq => by
    rw [hpd]
    rcases List.mem_append.1 hq with h | h
    · exact List.mem_append_left _ h
    · exact List.mem_append_right _ (List.mem_cons_of_mem _ h)
  have hpo := (hI.wf.op p hmem).1
  obtain ⟨hd, f1, t1, hf1, ht1, hch, hinv⟩ := hI.comes fit hpd hdeps
  have hag : Agr ops θ K f a p.o := hI.fr.agr p.o
  have hw := hd.guard θ K a hag
  obtain ⟨hsel, hdef⟩ := fit.sel p.i p.o hpo
  unfold wpOpIn
  simp only [hpo]
  rw [hw]
  have keepK : ∀ q ∈ pre ++ post, q.new = true → ∀ b ob, q.chg = some (b, ob) → ¬ K b := fun q hq => hI.newK q (hsub q hq)
  rcases hd.does with ⟨h1, h2, h3, h4⟩ | ⟨h1, h2, h3, h4⟩ | ⟨h1, h2, hn, b, ob, hc, hg, hv, h4⟩ | ⟨h1, h2, hn, b, ob, old, hc, hg, hv, h4⟩
  · rw [h1, if_neg (by simp)]
    refine ⟨fun f _ => G_fn r f, ?_⟩
    have ht : ∀ b, t1.get b = t.get b := fun b => by rw [ht1 b, h4]
    have := hI.fr.putR hf1 (by rw [h2]; trivial)
    rw [h2] at this
    exact hnext θ K f1 t1 _ w (Grow.refl _ _ _) (hinv θ K _ w this (hI.rep.teq ht) keepK)
  · rw [h1, if_pos rfl]
    refine ⟨fun f _ => G_fn r f, ?_⟩
    obtain ⟨hok, hrun⟩ := h4 θ K a hag
    rw [semAt_exec hdef, hrun w hI.rep.globW fun fc hfc => hI.rep.fact (h3 fc hfc).toA]
    have ht : ∀ b, t1.get b = t.get b := fun b => by rw [ht1 b, h2]
    have hvok : p.v.ok K := hok fun fc hfc => factT_ok (h3 fc hfc) fun b o hb => (hI.rep.obj b o hb).2.2.1
    exact hnext θ K f1 t1 _ w (Grow.refl _ _ _) (hinv θ K _ w (hI.fr.putR hf1 hvok) (hI.rep.teq ht) keepK)
  · rw [h1, if_pos rfl]
    refine ⟨fun f _ => G_fn r f, ?_⟩
    obtain ⟨hok, hrun⟩ := h4 θ K a hag
    obtain ⟨ob', hrun, hO⟩ := hrun w
    rw [semAt_exec hdef, hrun]
    obtain ⟨hb1, hb2⟩ := hI.wf.new p hmem hn b ob hc
    have hnk : ¬ K b := hI.newK p hmem hn b ob hc
    have hE : Ext K θ (θ.bind b w.heap.size 0) := Ren.bind_ext hnk
    have hrep : Rep Γ X w0 (θ.bind b w.heap.size 0) (also K b) ⟨t.set b ob, hp.next⟩ (w.alloc ob') :=
      hI.rep.make (h := ⟨t, hp.next⟩) hnk hI.rep.next hb2 rfl rfl rfl rfl (AObj.ok_mono also_mono _ hok) (ORep_ext hE hok hO)
    have ht : ∀ x, t1.get x = (t.set b ob).get x := fun x => by rw [ht1 x, hc, T.get_set]
    have hfr := (hI.fr.ext hE also_mono).putR hf1 (ok_mono (fun i e => .inr e) _ hv)
    refine hnext _ _ f1 t1 _ _ ⟨hE, also_mono, fun i hi => ?_, Nat.le_refl _⟩ (hinv _ _ _ _ hfr (hrep.teq ht) fun q hq hqn b' ob'' hc' hk => ?_)
    · rcases hi with h | rfl
      · exact .inl h
      · exact .inr hb1
    · rcases hk with h | e
      · exact keepK q hq hqn b' ob'' hc' h
      · exact Chain.newNe _ hch (β := b) (o := ob) (by rw [ht, T.get_set, if_pos rfl]) q hq hqn b' ob'' hc' e
  · rw [h1, if_pos rfl]
    refine ⟨fun f _ => G_fn r f, ?_⟩
    obtain ⟨w', hrun, hrep⟩ := h4 X w0 θ K a ⟨t, hp.next⟩ w hag hI.rep hg
    rw [semAt_exec hdef, hrun]
    have ht : ∀ x, t1.get x = (t.set b ob).get x := fun x => by rw [ht1 x, hc, T.get_set]
    have hfr := hI.fr.putR hf1 (by rw [hv]; trivial)
    rw [hv] at hfr
    exact hnext θ K f1 t1 _ w' (Grow.refl _ _ _) (hinv θ K _ w' hfr (Rep.teq ht hrep) keepK)

/-- One comes that was not taken ahead. -/
theorem Inv.runLoud (hN : NoCount P) (hS : Sound P Γ self) (hI : Inv P Γ ops X w0 n0 θ K M held fr hp pd f t a w listed) (fit : Fit ops) {r : Option Nat} {j : Nat} {o : Oper} (ho : ops[j]? = some o) (hM : M.testBit j = false) (hdeps : ∀ k, (depsOf o).testBit k = true → Done M pd k)
    {go : Nat → List Held → Fr → Hp → R} {outs : List Out} (hq : comesUp P Γ self ops go M held fr hp (j, o) = some outs)
    {next : Act → World → Prop} {Q : Exit → Act → World → Prop}
    (hnext : ∀ θ' K' fr' hp' f' t' a' w' outs', Grow K θ n0 K' θ' n0 → Inv P Γ ops X w0 n0 θ' K' (M ||| 2 ^ j) (drop j held) fr' hp' pd f' t' a' w' (listed.setIfInBounds j true) → go (M ||| 2 ^ j) (drop j held) fr' hp' = some outs' → (∀ y ∈ outs', y ∈ outs) → next a' w') :
    wpOpIn (G r) 0 P ops Q j next a w := by
  have hlt : j < ops.size := (Array.getElem?_eq_some_iff.1 ho).1
  have hnd : ∀ p ∈ pd, p.desc.testBit j = false := fun p hp => hI.notDesc fit hp j o ho hdeps
  have hne : ∀ p ∈ pd, p.i ≠ j := fun p hp e => by have := (hI.wf.op p hp).2; rw [e, hM] at this; cases this
  have hap : ∀ p ∈ pd, (∀ d, p.o.dst = some d → d ∉ o.looksAt ops ∧ o.dst ≠ some d) ∧ ∀ d, o.dst = some d → d ∉ p.o.looksAt ops ∧ p.o.dst ≠ some d := fun p hp => by
    have hpo := (hI.wf.op p hp).1
    have h1 : (depsOf o).testBit p.i = false := by
      cases hb : (depsOf o).testBit p.i with
      | false => rfl
      | true => exact absurd rfl ((hdeps _ hb).2 p hp)
    have h2 : (depsOf p.o).testBit j = false := by
      cases hb : (depsOf p.o).testBit j with
      | false => rfl
      | true => have := hI.wf.deps p hp j hb; rw [hM] at this; cases this
    exact ⟨fit.apart p.i j p.o o hpo ho (hne p hp) h1 h2, fit.apart j p.i o p.o ho hpo (Ne.symm (hne p hp)) h2 h1⟩
  have hhid : ∀ p ∈ pd, ∀ b ob, p.chg = some (b, ob) → hidden j held b = true := fun p hp b ob hc => by
    obtain ⟨x, hx, e1, _, e3⟩ := hI.wf.held p hp (.inr (by rw [hc]; simp))
    exact hidden_spec.2 ⟨x, hx, by rw [e1]; exact hnd p hp, ob, by rw [e3]; exact hc⟩
  have hvis : ∀ b, (hide j held hp.objs).get b = bif hidden j held b then none else t.get b := fun b => by
    rw [hide_get]
    cases hh : hidden j held b with
    | true => rfl
    | false =>
      simp only [cond_false]
      exact (Chain.block pd b hI.chain fun p hp ob hc => by rw [hhid p hp b ob hc] at hh; cases hh).symm
  have hsz := Chain.size pd hI.chain
  have hag : Agr ops θ K fr a o := (hI.fr.agr o).congr hsz.1 fun x hx => Chain.slot pd x hI.chain fun p hp e => ((hap p hp).1 x e).1 hx
  unfold comesUp at hq
  split at hq
  · rename_i hw
    split at hq
    · cases hq
    · rename_i rs hloud
      unfold wpOpIn
      simp only [ho]
      rw [hag.wanted hw, if_pos rfl]
      have hpart := hI.rep.part hvis
      refine loud_sound hN hS hloud hpart hag.on fun x hx θ' K' w' hG hok hr' => ?_
      obtain ⟨y, hy, hm⟩ := allOf_mem hq x hx
      split at hy
      · rename_i s f' hs hput
        cases hst : factsStand x.2 j held held with
        | false => rw [hst] at hy; cases hy
        | true =>
          rw [hst] at hy
          simp only [cond_true] at hy
          obtain ⟨s1, s2⟩ := showed_spec hs
          obtain ⟨t', ht'⟩ := showed_exists (s := t) hs x.2.objs
          obtain ⟨t1, t2⟩ := showed_spec ht'
          let q : Rec := ⟨j, o, true, x.1, [], none, false, 0⟩
          have hfp : FPut fr q f' := put_of (p := q) hput
          obtain ⟨f1, hf1⟩ := put_exists f q fun d hd => by rw [hsz.1]; exact hfp.lt d hd
          have hfr' : FRep θ' K' f1 (a.put o.dst (conc θ' x.1)) := (hI.fr.ext hG.ext hG.mono).putR hf1 hok
          have hrep : Rep Γ X w0 θ' K' ⟨t', x.2.next⟩ w' := hI.rep.whole hr' hG.ext hG.mono (fun b hb => (t1 b hb).2) fun b hb => t2 b hb
          have hle : hp.next ≤ x.2.next := hG.le
          have hdone : ∀ k, Done (M ||| 2 ^ j) pd k ↔ k = j ∨ Done M pd k := fun k => by
            unfold Done
            rw [bit_set, Bool.or_eq_true, decide_eq_true_eq]
            constructor
            · rintro ⟨h1 | h1, h2⟩
              · exact .inr ⟨h1, h2⟩
              · exact .inl h1.symm
            · rintro (rfl | ⟨h1, h2⟩)
              · exact ⟨.inr rfl, hne⟩
              · exact ⟨.inl h1, h2⟩
          have keep : ∀ k, M.testBit k = true → (M ||| 2 ^ j).testBit k = true := fun k hk => by rw [bit_set, hk]; rfl
          refine hnext θ' K' f' ⟨s, x.2.next⟩ f1 t' _ w' y ⟨hG.ext, hG.mono, fun i hi => (hG.fresh i hi).imp id fun h => Nat.le_trans hI.wf.next h, Nat.le_refl _⟩
            ⟨⟨fun p hp => ⟨(hI.wf.op p hp).1, keep _ (hI.wf.op p hp).2⟩, fun p hp k hk => keep _ (hI.wf.deps p hp k hk), hI.wf.desc, fun p hp h => ?_, hI.wf.pair, fun p hp hn b ob hc => ?_, Nat.le_trans hI.wf.next hle⟩, ?_, hfr', hrep, fun p hp hn b ob hc hk => ?_, fun b hb => ?_, fun x' hx' b ob hc => ?_,
              by rw [Array.size_setIfInBounds]; exact hI.size, fun k hk => ?_, fun k o' ho' hd e he => ?_, fun k hk => ?_⟩ hy hm
          · obtain ⟨x', hx', e⟩ := hI.wf.held p hp h
            exact ⟨x', drop_mem.2 ⟨hx', by rw [e.1]; exact hnd p hp⟩, e⟩
          · have := hI.wf.new p hp hn b ob hc
            exact ⟨this.1, Nat.lt_of_lt_of_le this.2 hle⟩
          · refine Chain.rebase (g := hidden j held) (d := o.dst) (v := x.1) (r := x.2.objs) pd hI.chain hf1.sz hfp.sz (by rw [hf1.marks, hfp.marks]; exact hsz.2) hf1.tmps hfp.tmps (fun p hp d hd => (hap p hp).2 d hd) (fun b hb => (t1 b hb).2) (fun b hb => t2 b hb) (fun b hb => (s1 b hb).2) (fun b hb => s2 b hb) hhid fun p hp fc hfc hg => ?_
            obtain ⟨x', hx', e1, e2, _⟩ := hI.wf.held p hp (.inl fun e => by rw [e] at hfc; cases hfc)
            exact factsStand_spec hst x' hx' (by rw [e1]; exact hnd p hp) fc (by rw [e2]; exact hfc) hg
          · rcases hG.fresh b hk with h | h
            · exact hI.newK p hp hn b ob hc h
            · exact absurd (hI.wf.new p hp hn b ob hc).2 (Nat.not_lt.2 h)
          · have hb : x.2.next ≤ b := hb
            cases hh : hidden j held b with
            | true =>
              obtain ⟨x', hx', _, ob, hc⟩ := hidden_spec.1 hh
              have := hI.heldLt x' hx' b ob hc
              omega
            | false =>
              show s.get b = none
              rw [s2 b hh]
              cases hg : x.2.objs.get b with
              | none => rfl
              | some ob => exact absurd (hr'.obj b ob hg).1 (hr'.next b hb)
          · exact Nat.lt_of_lt_of_le (hI.heldLt x' (drop_mem.1 hx').1 b ob hc) hle
          · rw [getD_set listed j k (by rw [hI.size]; exact hlt), hdone]
            by_cases e : j = k
            · rw [if_pos e]; simp [e]
            · rw [if_neg e, hI.listed k hk]
              exact ⟨fun h => .inr h, fun h => h.resolve_left fun e' => e e'.symm⟩
          · rcases (hdone k).1 hd with rfl | hd
            · rw [ho] at ho'; cases ho'
              exact (hdone e).2 (.inr (hdeps e he))
            · exact (hdone e).2 (.inr (hI.closed k o' ho' hd e he))
          · rw [bit_set, Bool.or_eq_true, decide_eq_true_eq] at hk
            rcases hk with hk | rfl
            · exact hI.mask k hk
            · exact hlt
      · cases hy
  · cases hq

/-- Whatever order is drawn. -/
theorem drawn_any (hN : NoCount P) (hS : Sound P Γ self) (fit : Fit ops) {r : Option Nat} : ∀ (fuel : Nat) {n M : Nat} {held : List Held} {fr : Fr} {hp : Hp} {pd : List Rec} {f : Fr} {t : T AObj} {a : Act} {w : World} {listed : Array Bool} {θ : Ren} {K : Nat → Prop} {outs : List Out},
    Inv P Γ ops X w0 n0 θ K M held fr hp pd f t a w listed → Passed P Γ self ops n M held fr hp outs → left ops listed ≤ fuel → wpAnyIn (G r) 0 P .any ops (Post Γ X w0 θ K n0 outs) fuel listed a w := by
  intro fuel
  induction fuel with
  | zero =>
    intro n M held fr hp pd f t a w listed θ K outs hI hP hl
    have h0 : Region.ready .any ops listed = [] := by
      cases hr : Region.ready .any ops listed with
      | nil => rfl
      | cons j l =>
        have hj : j ∈ Region.ready .any ops listed := by rw [hr]; exact List.mem_cons_self ..
        obtain ⟨o, ho, hlt, hnd, _⟩ := hI.ready fit hj
        have hf : listed.getD j true = false := (mem_ready.1 hj).1
        have := left_set (listed := listed) hI.size hlt hf
        omega
    exact ⟨h0, hI.finish fit hP h0⟩
  | succ fuel ih =>
    intro n M held fr hp pd f t a w listed θ K outs hI hP hl
    refine ⟨fun h0 => hI.finish fit hP h0, fun j hj => ?_⟩
    obtain ⟨o, ho, hlt, hnd, hdeps⟩ := hI.ready fit hj
    have hlf := left_set (listed := listed) hI.size hlt (mem_ready.1 hj).1
    cases hM : M.testBit j with
    | true =>
      have hex : ∃ p ∈ pd, p.i = j := Classical.byContradiction fun h => hnd ⟨hM, fun p hp e => h ⟨p, hp, e⟩⟩
      obtain ⟨p, hp', rfl⟩ := hex
      have hpo := (hI.wf.op p hp').1
      rw [ho] at hpo; cases hpo
      obtain ⟨pre, post, hpd⟩ := List.append_of_mem hp'
      refine hI.runAhead fit hpd hdeps fun θ' K' f' t' a' w' hG hI' => ?_
      exact wpAnyIn_mono (fun e a w h => h.trans hG fun y hy => hy) _ _ _ _ (ih hI' hP (by omega))
    | false =>
      have hr : (j, o) ∈ readyNow M ops.toList 0 := readyNow_mem.2 ⟨j, (Nat.zero_add j).symm, by rw [Array.getElem?_toList]; exact ho, hM, land_of_sub fun k hk => (hdeps k hk).1⟩
      obtain ⟨xs, hx, hm⟩ := hP.2 _ hr
      refine hI.runLoud hN hS fit ho hM hdeps hx fun θ' K' fr' hp' f' t' a' w' outs' hG hI' hgo hm' => ?_
      cases n with
      | zero => cases hgo
      | succ n =>
        obtain ⟨y, hy, hP'⟩ := Passed.of hgo
        obtain ⟨pd', hI''⟩ := hI'.pass hy
        exact wpAnyIn_mono (fun e a w h => h.trans hG fun z hz => hm z (hm' z hz)) _ _ _ _ (ih hI'' hP' (by omega))

/-- A region that draws its order. -/
theorem drawn_sound (hN : NoCount P) (hS : Sound P Γ self) (hmix : P.follows .mixedOrders = true) {r : Option Nat} {id n : Nat} {fr : Fr} {hp : Hp} {outs : List Out} {θ : Ren} {K : Nat → Prop} {a : Act} {w : World} (hfit : regionFit ops ops.toList 0 = true)
    (hq : drawn P Γ self ops n 0 [] fr hp = some outs) (hr : Rep Γ X w0 θ K hp w) (hf : FRep θ K fr a) : (Code.region id ops true).wpIn (G r) 0 P (Post Γ X w0 θ K hp.next outs) a w := by
  refine wpIn_region_any hmix ?_
  cases n with
  | zero => cases hq
  | succ n =>
    obtain ⟨y, hy, hP⟩ := Passed.of hq
    have hI : Inv P Γ ops X w0 hp.next θ K 0 [] fr hp [] fr hp.objs a { w with drawn := w.drawn + 1 } (Array.replicate ops.size false) :=
      ⟨⟨fun p h => (by cases h), fun p h => (by cases h), fun p h => (by cases h), fun p h => (by cases h), List.Pairwise.nil, fun p h => (by cases h), Nat.le_refl _⟩, ⟨⟨rfl, rfl, fun _ => rfl⟩, fun _ => rfl⟩, hf, hr.same rfl rfl rfl rfl,
       fun p h => (by cases h), fun b hb => by
        cases hg : hp.objs.get b with
        | none => rfl
        | some o => exact absurd (hr.obj b o hg).1 (hr.next b hb), fun x h => (by cases h), Array.size_replicate, fun j hj => by simp [Done, hj], fun j o _ hd => by simp [Done] at hd, fun j hj => by simp at hj⟩
    obtain ⟨pd', hI'⟩ := hI.pass hy
    refine drawn_any hN hS (Fit.of hfit) ops.size hI' hP ?_
    unfold left
    exact Nat.le_trans (List.length_filter_le ..) (by rw [List.length_range]; exact Nat.le_refl _)
end
end Go.Proofs.YthjkejnmjbljfaaGreatDoor.Ev
