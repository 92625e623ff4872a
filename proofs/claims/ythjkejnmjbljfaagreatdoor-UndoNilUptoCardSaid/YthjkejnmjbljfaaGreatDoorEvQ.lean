/-
  A REGION THAT DRAWS ITS ORDER (3): the pass that takes operations ahead, by the author of this claim. Of any program; no condition.
-/
import Derived.Test.YthjkejnmjbljfaaGreatDoorEvO
namespace Go.Proofs.YthjkejnmjbljfaaGreatDoor.Ev
open Go Go.RowKit

/-- Two of a chain, the first one ahead: the second one waits for the first, or they keep off each other's blocks; the first never waits for the second. -/
structure Pair (p q : Rec) : Prop where
  ne : p.i ≠ q.i
  no : (depsOf p.o).testBit q.i = false
  apart : p.desc.testBit q.i = true ∨ ((∀ b ob, p.chg = some (b, ob) → ¬ q.on b) ∧ (∀ b ob, q.chg = some (b, ob) → ¬ p.on b))

structure WF (ops : Array Oper) (M : Nat) (held : List Held) (n0 : Nat) (hp : Hp) (pd : List Rec) : Prop where
  op : ∀ p ∈ pd, ops[p.i]? = some p.o ∧ M.testBit p.i = true
  deps : ∀ p ∈ pd, ∀ k, (depsOf p.o).testBit k = true → M.testBit k = true
  desc : ∀ p ∈ pd, p.desc = descOf p.i ops.toList 0 0
  held : ∀ p ∈ pd, (p.facts ≠ [] ∨ p.chg ≠ none) → ∃ x ∈ held, x.desc = p.desc ∧ x.facts = p.facts ∧ x.chg = p.chg
  pair : pd.Pairwise Pair
  new : ∀ p ∈ pd, p.new = true → ∀ b ob, p.chg = some (b, ob) → n0 ≤ b ∧ b < hp.next
  next : n0 ≤ hp.next

theorem hidden_spec {i b : Nat} : ∀ {held : List Held}, hidden i held b = true ↔ ∃ x ∈ held, x.desc.testBit i = false ∧ ∃ ob, x.chg = some (b, ob) := by
  intro held
  induction held with
  | nil => simp [hidden]
  | cons x l ih =>
    simp only [hidden, Bool.or_eq_true, ih, List.mem_cons, exists_eq_or_imp]
    refine or_congr ?_ Iff.rfl
    cases hc : x.chg with
    | none => simp
    | some c =>
      obtain ⟨b', ob⟩ := c
      simp only [Bool.and_eq_true, Bool.not_eq_true', Option.some.injEq, Prod.mk.injEq]
      constructor
      · rintro ⟨h1, h2⟩; exact ⟨h1, ob, (eq_of_beq h2).symm, rfl⟩
      · rintro ⟨h1, ob', h2, _⟩; exact ⟨h1, beq_t h2.symm⟩
theorem hide_get {i b : Nat} : ∀ {held : List Held} {t : T AObj}, (hide i held t).get b = bif hidden i held b then none else t.get b := by
  intro held
  induction held with
  | nil => intro t; simp [hide, hidden]
  | cons x l ih =>
    intro t
    obtain ⟨desc, facts, chg⟩ := x
    cases chg with
    | none => simp only [hide, hidden, ih, Bool.false_or]
    | some c =>
      obtain ⟨b', ob⟩ := c
      simp only [hide, hidden]
      cases hd : desc.testBit i with
      | true => simp only [cond_true, ih, Bool.not_true, Bool.false_and, Bool.false_or]
      | false =>
        simp only [cond_false, ih, T.get_put, Bool.not_false, Bool.true_and]
        by_cases e : b = b'
        · rw [if_pos e, beq_t e]; cases hidden i l b <;> rfl
        · rw [if_neg e, beq_f e]; rfl

theorem noneLeans_spec {i b : Nat} : ∀ {held : List Held}, noneLeans i b held = true → ∀ x ∈ held, x.desc.testBit i = false → ∀ f ∈ x.facts, f.blk ≠ b := by
  intro held
  induction held with
  | nil => intro _ x hx; cases hx
  | cons y l ih =>
    intro h x hx hd f hf
    simp only [noneLeans, Bool.and_eq_true] at h
    rcases List.mem_cons.1 hx with rfl | hx
    · rw [hd] at h
      simp only [cond_false] at h
      have := List.all_eq_true.1 h.1 f hf
      simp only [Bool.not_eq_true'] at this
      exact ne_of_beq this
    · exact ih h.2 x hx hd f hf

section
variable {P : Program} {Γ : Env} {ops : Array Oper}

theorem looks_operand {o : Oper} {x : Tmp} (h : .tmp x ∈ o.op.operands) : x ∈ o.looksAt ops := by
  unfold Oper.looksAt
  exact List.mem_append_left _ (List.mem_filterMap.2 ⟨.tmp x, by simpa using h, rfl⟩)
theorem looks_guard {o : Oper} {j : Nat} {want : Bool} {t : Tmp} (hg : o.guard = some (j, want)) (ht : (ops[j]?).bind (·.dst) = some t) : t ∈ o.looksAt ops := by
  unfold Oper.looksAt
  refine List.mem_append_right _ ?_
  rw [hg]
  simp [ht]

theorem Agr.on {θ : Ren} {K : Nat → Prop} {f : Fr} {a : Act} {o : Oper} (h : Agr ops θ K f a o) : AgreeOn θ K f a o := fun x hx => by
  cases x with
  | tmp t => exact h.2 t (looks_operand hx)
  | const v => exact ⟨rfl, trivial⟩
  | global g => exact ⟨rfl, trivial⟩
  | func f => exact ⟨rfl, trivial⟩
theorem Agr.wanted {θ : Ren} {K : Nat → Prop} {f : Fr} {a : Act} {o : Oper} {b : Bool} (h : Agr ops θ K f a o) (hw : wantedQ ops f o = some b) : Region.wanted o (yielded ops a.tmps) = b :=
  wantedQ_sound hw h.1 fun _ _ t hg ht => (h.2 t (looks_guard hg ht)).1

theorem put_of {f g : Fr} {p : Rec} (h : f.put p.o.dst p.v = some g) : FPut f p g := by
  unfold Fr.put at h
  split at h
  · rename_i hd
    simp only [Option.some.injEq] at h; subst h
    exact ⟨rfl, rfl, fun t => by rw [hd, if_neg (by simp)], fun d he => by rw [hd] at he; cases he⟩
  · rename_i d hd
    cases hlt : Nat.blt d f.sz with
    | false => rw [hlt] at h; cases h
    | true =>
      rw [hlt] at h
      simp only [cond_true, Option.some.injEq] at h; subst h
      exact ⟨rfl, rfl, fun t => by
        simp only [T.get_set, hd, Option.some.injEq]
        by_cases e : t = d
        · rw [if_pos e, if_pos e.symm]
        · rw [if_neg e, if_neg (fun e' => e e'.symm)], fun d' he => by rw [hd] at he; cases he; exact lt_of_blt hlt⟩

/-- One more is taken ahead. -/
theorem WF.snoc {M n0 : Nat} {held held' : List Held} {hp hp' : Hp} {pd : List Rec} {p : Rec} (h : WF ops M held n0 hp pd) (hop : ops[p.i]? = some p.o) (hM : M.testBit p.i = false)
    (hdeps : ∀ k, (depsOf p.o).testBit k = true → M.testBit k = true) (hdesc : p.desc = descOf p.i ops.toList 0 0) (hsub : ∀ x ∈ held, x ∈ held')
    (hheld : (p.facts ≠ [] ∨ p.chg ≠ none) → ∃ x ∈ held', x.desc = p.desc ∧ x.facts = p.facts ∧ x.chg = p.chg) (hnx : hp.next ≤ hp'.next) (hnew : p.new = true → ∀ b ob, p.chg = some (b, ob) → hp.next ≤ b ∧ b < hp'.next)
    (hvis : ∀ b, p.on b → hidden p.i held b = false) (hlean : ∀ b ob, p.chg = some (b, ob) → ∀ x ∈ held, x.desc.testBit p.i = false → ∀ f ∈ x.facts, f.blk ≠ b) :
    WF ops (M ||| 2 ^ p.i) held' n0 hp' (pd ++ [p]) := by
  have keep : ∀ k, M.testBit k = true → (M ||| 2 ^ p.i).testBit k = true := fun k hk => by rw [bit_set, hk]; rfl
  have inv : ∀ q ∈ pd ++ [p], q ∈ pd ∨ q = p := fun q hq => by
    rcases List.mem_append.1 hq with h1 | h1
    · exact .inl h1
    · exact .inr (List.mem_singleton.1 h1)
  refine ⟨fun q hq => ?_, fun q hq k hk => ?_, fun q hq => ?_, fun q hq hne => ?_, ?_, fun q hq hn b ob hc => ?_, Nat.le_trans h.next hnx⟩
  · rcases inv q hq with h1 | rfl
    · exact ⟨(h.op q h1).1, keep _ (h.op q h1).2⟩
    · exact ⟨hop, by rw [bit_set]; simp⟩
  · rcases inv q hq with h1 | rfl
    · exact keep _ (h.deps q h1 k hk)
    · exact keep _ (hdeps k hk)
  · rcases inv q hq with h1 | rfl
    · exact h.desc q h1
    · exact hdesc
  · rcases inv q hq with h1 | rfl
    · obtain ⟨x, hx, e⟩ := h.held q h1 hne
      exact ⟨x, hsub x hx, e⟩
    · exact hheld hne
  · rw [List.pairwise_append]
    refine ⟨h.pair, List.pairwise_singleton _ _, fun q hq r hr => ?_⟩
    rw [List.mem_singleton.1 hr]
    refine ⟨fun e => ?_, ?_, ?_⟩
    · have := (h.op q hq).2
      rw [e, hM] at this; cases this
    · cases hd : (depsOf q.o).testBit p.i with
      | false => rfl
      | true => have := h.deps q hq _ hd; rw [hM] at this; cases this
    · cases hdq : q.desc.testBit p.i with
      | true => exact .inl rfl
      | false =>
        refine .inr ⟨fun b ob hc hon => ?_, fun b ob hc hon => ?_⟩
        · obtain ⟨x, hx, e1, _, e3⟩ := h.held q hq (.inr (by rw [hc]; simp))
          have := hidden_spec.2 ⟨x, hx, by rw [e1]; exact hdq, ob, by rw [e3]; exact hc⟩
          rw [hvis b hon] at this; cases this
        · rcases hon with ⟨f, hf, hfb⟩ | ⟨ob', hc'⟩
          · obtain ⟨x, hx, e1, e2, _⟩ := h.held q hq (.inl (fun e => by rw [e] at hf; cases hf))
            exact hlean b ob hc x hx (by rw [e1]; exact hdq) f (by rw [e2]; exact hf) hfb
          · obtain ⟨x, hx, e1, _, e3⟩ := h.held q hq (.inr (by rw [hc']; simp))
            have := hidden_spec.2 ⟨x, hx, by rw [e1]; exact hdq, ob', by rw [e3]; exact hc'⟩
            rw [hvis b (.inr ⟨ob, hc⟩)] at this; cases this
  · rcases inv q hq with h1 | rfl
    · have := h.new q h1 hn b ob hc
      exact ⟨this.1, Nat.lt_of_lt_of_le this.2 hnx⟩
    · have := hnew hn b ob hc
      exact ⟨Nat.le_trans h.next this.1, this.2⟩

/-- What the pass leaves. -/
structure Took (P : Program) (Γ : Env) (ops : Array Oper) (M n0 : Nat) (hp : Hp) (pd : List Rec) (f : Fr) (t : T AObj) (r : Nat × List Held × Fr × Hp) (ts : List Rec) : Prop where
  wf : WF ops r.1 r.2.1 n0 r.2.2.2 (pd ++ ts)
  chain : Chain P Γ ops (pd ++ ts) f t r.2.2.1 r.2.2.2.objs
  next : hp.next ≤ r.2.2.2.next
  mask : ∀ j, r.1.testBit j = true ↔ M.testBit j = true ∨ ∃ p ∈ ts, p.i = j
  fresh : ∀ p ∈ ts, M.testBit p.i = false
  new : ∀ p ∈ ts, p.new = true → ∀ b ob, p.chg = some (b, ob) → hp.next ≤ b
  freshGet : ∀ b, r.2.2.2.next ≤ b → r.2.2.2.objs.get b = none
  heldLt : ∀ x ∈ r.2.1, ∀ b ob, x.chg = some (b, ob) → b < r.2.2.2.next

theorem takeAll_sound {n0 : Nat} {f : Fr} {t : T AObj} (L : List Oper) : ∀ {i : Nat} {M : Nat} {held : List Held} {fr : Fr} {hp : Hp} {pd : List Rec} {r : Nat × List Held × Fr × Hp},
    (∀ m, L[m]? = ops[i + m]?) → takeAll P Γ ops L i M held fr hp = some r → WF ops M held n0 hp pd → Chain P Γ ops pd f t fr hp.objs → (∀ b, hp.next ≤ b → hp.objs.get b = none) → (∀ x ∈ held, ∀ b ob, x.chg = some (b, ob) → b < hp.next) → ∃ ts, Took P Γ ops M n0 hp pd f t r ts := by
  induction L with
  | nil =>
    intro i M held fr hp pd r _ hq hwf hch hfresh hheldlt
    simp only [takeAll, Option.some.injEq] at hq; subst hq
    exact ⟨[], by simpa using hwf, by simpa using hch, Nat.le_refl _, fun j => by simp, fun p hp => (by cases hp), fun p hp => (by cases hp), hfresh, hheldlt⟩
  | cons o L ih =>
    intro i M held fr hp pd r hl hq hwf hch hfresh hheldlt
    have h0 : ops[i]? = some o := (hl 0).symm
    have hl' : ∀ k, L[k]? = ops[i + 1 + k]? := fun k => by have := hl (k + 1); rw [List.getElem?_cons_succ] at this; rw [this]; congr 1; omega
    simp only [takeAll] at hq
    -- one record is taken, then the rest
    have more : ∀ (p : Rec) (held' : List Held) (fr' : Fr) (hp' : Hp), p.i = i → p.o = o → M.testBit i = false → WF ops (M ||| 2 ^ i) held' n0 hp' (pd ++ [p]) → Chain P Γ ops (pd ++ [p]) f t fr' hp'.objs → hp.next ≤ hp'.next →
        (p.new = true → ∀ b ob, p.chg = some (b, ob) → hp.next ≤ b) → (∀ b, hp'.next ≤ b → hp'.objs.get b = none) → (∀ x ∈ held', ∀ b ob, x.chg = some (b, ob) → b < hp'.next) → takeAll P Γ ops L (i + 1) (M ||| 2 ^ i) held' fr' hp' = some r → ∃ ts, Took P Γ ops M n0 hp pd f t r ts := by
      intro p held' fr' hp' hpi hpo hM hwf' hch' hnx hnew hfr' hlt' hrest
      obtain ⟨ts, h1, h2, h3, h4, h5, h6, h7, h8⟩ := ih hl' hrest hwf' hch' hfr' hlt'
      refine ⟨p :: ts, by simpa using h1, by simpa using h2, Nat.le_trans hnx h3, fun j => ?_, fun q hq => ?_, fun q hq hn b ob hc => ?_, h7, h8⟩
      · rw [h4 j, bit_set, Bool.or_eq_true, decide_eq_true_eq]
        simp only [List.mem_cons, exists_eq_or_imp, hpi]
        rw [or_assoc]
      · rcases List.mem_cons.1 hq with rfl | hq
        · rw [hpi]; exact hM
        · have := h5 q hq
          rw [bit_set, Bool.or_eq_false_iff] at this
          exact this.1
      · rcases List.mem_cons.1 hq with rfl | hq
        · exact hnew hn b ob hc
        · exact Nat.le_trans hnx (h6 q hq hn b ob hc)
    cases hM : M.testBit i with
    | true => rw [hM] at hq; exact ih hl' hq hwf hch hfresh hheldlt
    | false =>
      rw [hM] at hq
      simp only [cond_false] at hq
      cases hd : Nat.beq (Nat.land (depsOf o) M) (depsOf o) with
      | false => rw [hd] at hq; exact ih hl' hq hwf hch hfresh hheldlt
      | true =>
        rw [hd] at hq
        simp only [cond_true] at hq
        have hdeps : ∀ k, (depsOf o).testBit k = true → M.testBit k = true := fun k hk => land_sub hd k hk
        split at hq
        · cases hq
        · -- it isn't wanted
          rename_i hw
          split at hq
          · rename_i g hput
            let p : Rec := ⟨i, o, false, .lit undef, [], none, false, descOf i ops.toList 0 0⟩
            have hdoes : Does P Γ ops p fr hp.objs := ⟨fun θ K a ha => ha.wanted hw, .inl ⟨rfl, rfl, rfl, rfl⟩⟩
            refine more p held g hp rfl rfl hM (hwf.snoc (p := p) h0 hM hdeps rfl (fun x hx => hx) (fun h => h.elim (fun h => absurd rfl h) fun h => absurd rfl h) (Nat.le_refl _) (fun h => by cases h) (fun b hb => ?_) (fun b ob hc => by cases hc))
              (hch.snoc pd hdoes (put_of (p := p) hput) fun b => rfl) (Nat.le_refl _) (fun h => by cases h) hfresh hheldlt hq
            rcases hb with ⟨_, hf, _⟩ | ⟨_, hc⟩
            · cases hf
            · cases hc
          · cases hq
        · rename_i hw
          split at hq
          · -- a quiet one
            rename_i v fs hquiet
            obtain ⟨hsel, _⟩ := quiet_kind hquiet
            split at hq
            · rename_i g hput
              let p : Rec := ⟨i, o, true, v, fs, none, false, descOf i ops.toList 0 0⟩
              have hfacts := quiet_facts hquiet
              have hvisf : ∀ fc ∈ fs, hidden i held fc.blk = false ∧ FactT hp.objs fc := fun fc hfc => by
                have hA := hfacts fc hfc
                have hne : (hide i held hp.objs).get fc.blk ≠ none := by
                  cases fc with
                  | cells b off vs =>
                    intro hn
                    simp only [FactA, knownCells] at hA
                    rw [show (hide i held hp.objs).get b = none from hn] at hA
                    cases hA
                  | obj b ob =>
                    intro hn
                    simp only [FactA] at hA
                    rw [show (hide i held hp.objs).get b = none from hn] at hA
                    cases hA
                rw [hide_get] at hne
                cases hh : hidden i held fc.blk with
                | true => rw [hh] at hne; exact absurd rfl hne
                | false =>
                  refine ⟨rfl, (FactT.ofA hA).congr ?_⟩
                  simp only [hide_get, hh]; rfl
              have hdoes : Does P Γ ops p fr hp.objs := ⟨fun θ K a ha => ha.wanted hw, .inr (.inl ⟨rfl, rfl, fun fc hfc => (hvisf fc hfc).2, fun θ K a ha => ⟨fun hok => quiet_okF hquiet (fun x hx => (ha.on x hx).2) hok, fun w hg hfw => by
                rw [agree_exec hsel ha.on]; exact quiet_sound hquiet hg hfw⟩⟩)⟩
              have hvis : ∀ b, p.on b → hidden i held b = false := fun b hb => by
                rcases hb with ⟨fc, hfc, rfl⟩ | ⟨_, hc⟩
                · exact (hvisf fc hfc).1
                · cases hc
              have hchain := hch.snoc pd hdoes (put_of (p := p) hput) (hp' := hp.objs) fun b => rfl
              cases fs with
              | nil =>
                exact more p held g hp rfl rfl hM (hwf.snoc (p := p) h0 hM hdeps rfl (fun x hx => hx) (fun h => h.elim (fun h => absurd rfl h) fun h => absurd rfl h) (Nat.le_refl _) (fun h => by cases h) hvis (fun b ob hc => by cases hc))
                  hchain (Nat.le_refl _) (fun h => by cases h) hfresh hheldlt hq
              | cons fc fs =>
                exact more p (⟨descOf i ops.toList 0 0, fc :: fs, none⟩ :: held) g hp rfl rfl hM (hwf.snoc (p := p) h0 hM hdeps rfl (fun x hx => List.mem_cons_of_mem _ hx) (fun _ => ⟨_, List.mem_cons_self .., rfl, rfl, rfl⟩) (Nat.le_refl _) (fun h => by cases h) hvis (fun b ob hc => by cases hc))
                  hchain (Nat.le_refl _) (fun h => by cases h) hfresh (fun x hx b ob hc => by
                    rcases List.mem_cons.1 hx with rfl | hx
                    · cases hc
                    · exact hheldlt x hx b ob hc) hq
            · cases hq
          · split at hq
            · -- one that turns one block
              rename_i v b ob nx hloc
              cases hlean : noneLeans i b held with
              | false => rw [hlean] at hq; exact ih hl' hq hwf hch hfresh hheldlt
              | true =>
                rw [hlean] at hq
                simp only [cond_true] at hq
                have hsel : isSelect o.op = false := by
                  cases hop : o.op <;> first | rfl | (rw [hop] at hloc; simp only [localE] at hloc; cases hloc)
                split at hq
                · rename_i g hput
                  rcases localE_sound (P := P) (Γ := Γ) hloc with ⟨hb, hnx, hv, hobok, hrun⟩ | ⟨hnx, hv, old, hget, hrun⟩
                  · -- a new block
                    have hb' : b = hp.next := hb
                    have hnx' : nx = hp.next + 1 := hnx
                    subst hb' hnx'
                    let p : Rec := ⟨i, o, true, v, [], some (hp.next, ob), true, descOf i ops.toList 0 0⟩
                    have hfreshget : hp.objs.get hp.next = none := hfresh hp.next (Nat.le_refl _)
                    have hdoes : Does P Γ ops p fr hp.objs := ⟨fun θ K a ha => ha.wanted hw, .inr (.inr (.inl ⟨rfl, rfl, rfl, hp.next, ob, rfl, hfreshget, hv, fun θ K a ha => ⟨hobok K fun x hx => (ha.on x hx).2, fun w => by
                      rw [agree_exec hsel ha.on]; exact hrun θ w⟩⟩))⟩
                    have hnohide : hidden i held hp.next = false := by
                      cases hh : hidden i held hp.next with
                      | false => rfl
                      | true =>
                        obtain ⟨x, hx, _, ob', hc⟩ := hidden_spec.1 hh
                        exact absurd (hheldlt x hx hp.next ob' hc) (Nat.lt_irrefl _)
                    refine more p (⟨descOf i ops.toList 0 0, [], some (hp.next, ob)⟩ :: held) g ⟨hp.objs.set hp.next ob, hp.next + 1⟩ rfl rfl hM (hwf.snoc (p := p) h0 hM hdeps rfl (fun x hx => List.mem_cons_of_mem _ hx) (fun _ => ⟨_, List.mem_cons_self .., rfl, rfl, rfl⟩) (Nat.le_succ _)
                      (fun _ b' ob' hc => by cases hc; exact ⟨Nat.le_refl _, Nat.lt_succ_self _⟩) (fun b' hb' => ?_) (fun b' ob' hc => by cases hc; exact noneLeans_spec hlean))
                      (hch.snoc pd hdoes (put_of (p := p) hput) fun b' => T.get_set _ _ _ _) (Nat.le_succ _) (fun _ b' ob' hc => by cases hc; exact Nat.le_refl _) (fun b' hb' => ?_) (fun x hx b' ob' hc => ?_) hq
                    · rcases hb' with ⟨_, hf, _⟩ | ⟨_, hc⟩
                      · cases hf
                      · cases hc; exact hnohide
                    · show (hp.objs.set hp.next ob).get b' = none
                      rw [T.get_set, if_neg (fun e => by rw [e] at hb'; exact absurd hb' (Nat.not_succ_le_self _))]
                      exact hfresh b' (Nat.le_of_succ_le hb')
                    · rcases List.mem_cons.1 hx with rfl | hx
                      · cases hc; exact Nat.lt_succ_self _
                      · exact Nat.lt_succ_of_lt (hheldlt x hx b' ob' hc)
                  · -- a store
                    have hnx' : nx = hp.next := hnx
                    subst hnx' hv
                    let p : Rec := ⟨i, o, true, .lit undef, [], some (b, ob), false, descOf i ops.toList 0 0⟩
                    have hne : (hide i held hp.objs).get b ≠ none := by rw [show (hide i held hp.objs).get b = some old from hget]; simp
                    have hnohide : hidden i held b = false := by
                      rw [hide_get] at hne
                      cases hh : hidden i held b with
                      | true => rw [hh] at hne; exact absurd rfl hne
                      | false => rfl
                    have hgetb : hp.objs.get b = some old := by
                      have := hget
                      simp only [hide_get, hnohide] at this
                      exact this
                    have hdoes : Does P Γ ops p fr hp.objs := ⟨fun θ K a ha => ha.wanted hw, .inr (.inr (.inr ⟨rfl, rfl, rfl, b, ob, old, rfl, hgetb, rfl, fun X w0 θ K a h w ha hr hb => by
                      rw [agree_exec hsel ha.on]; exact hrun X w0 θ K h w hr hb fun x hx => (ha.on x hx).2⟩))⟩
                    have hblt : b < hp.next := by
                      rcases Nat.lt_or_ge b hp.next with h | h
                      · exact h
                      · rw [hfresh b h] at hgetb; cases hgetb
                    refine more p (⟨descOf i ops.toList 0 0, [], some (b, ob)⟩ :: held) g ⟨hp.objs.set b ob, hp.next⟩ rfl rfl hM (hwf.snoc (p := p) h0 hM hdeps rfl (fun x hx => List.mem_cons_of_mem _ hx) (fun _ => ⟨_, List.mem_cons_self .., rfl, rfl, rfl⟩) (Nat.le_refl _)
                      (fun h => by cases h) (fun b' hb' => ?_) (fun b' ob' hc => by cases hc; exact noneLeans_spec hlean))
                      (hch.snoc pd hdoes (put_of (p := p) hput) fun b' => T.get_set _ _ _ _) (Nat.le_refl _) (fun h => by cases h) (fun b' hb' => ?_) (fun x hx b' ob' hc => ?_) hq
                    · rcases hb' with ⟨_, hf, _⟩ | ⟨_, hc⟩
                      · cases hf
                      · cases hc; exact hnohide
                    · show (hp.objs.set b ob).get b' = none
                      rw [T.get_set, if_neg (fun e => by rw [e] at hb'; exact absurd hblt (Nat.not_lt.2 hb'))]
                      exact hfresh b' hb'
                    · rcases List.mem_cons.1 hx with rfl | hx
                      · cases hc; exact hblt
                      · exact hheldlt x hx b' ob' hc
                · cases hq
            · exact ih hl' hq hwf hch hfresh hheldlt
end
end Go.Proofs.YthjkejnmjbljfaaGreatDoor.Ev
