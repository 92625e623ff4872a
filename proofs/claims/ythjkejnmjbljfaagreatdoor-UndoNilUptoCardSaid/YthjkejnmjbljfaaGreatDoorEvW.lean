/-
  THE EVALUATOR's STEP IS SOUND (1): code, by the author of this claim. Of any program in which no function is runtime.NumGoroutine.
-/
import Derived.Test.YthjkejnmjbljfaaGreatDoorEvV
import Derived.RangeFuncRecord
import Derived.LoopNIn
namespace Go.Proofs.YthjkejnmjbljfaaGreatDoor.Ev
open Go Go.RowKit

theorem roundsIn_mono {F : Fence} {n : Nat} {P : Program} {c : Code} {Q Q' : Exit → Act → World → Prop} (hq : ∀ e a w, Q e a w → Q' e a w) : ∀ (m : Nat) (a : Act) (w : World), Code.roundsIn F n P c Q m a w → Code.roundsIn F n P c Q' m a w := by
  intro m
  induction m with
  | zero => intro a w h; exact h
  | succ m ih =>
    intro a w h
    refine wpIn_mono h fun e a w he => ?_
    cases e <;> first | exact ih _ _ he | exact hq _ _ _ he

section
variable {P : Program} {Γ : Env} {X : Nat → Prop} {w0 : World} {self : Task → R}

/-- A loop's rounds, so many at most. -/
def Loops (P : Program) (Γ : Env) (m : Nat) (self : Task → R) : Prop :=
  ∀ c ro fr hp outs, self (.code (.loop c) ro fr hp) = some outs → ∀ X w0 θ K a w, Rep Γ X w0 θ K hp w → FRep θ K fr a → (∀ l, ro = some l → K l) → Code.roundsIn (G (ro.map θ.blk)) 0 P c (Post Γ X w0 θ K hp.next outs) m a w

theorem round_same {K K' : Nat → Prop} {θ θ' : Ren} {n n' : Nat} {ro : Option Nat} (hG : Grow K θ n K' θ' n') (hro : ∀ l, ro = some l → K l) : ro.map θ'.blk = ro.map θ.blk ∧ ∀ l, ro = some l → K' l := by
  cases ro with
  | none => exact ⟨rfl, fun l h => by cases h⟩
  | some l => exact ⟨by simp only [Option.map_some, hG.ext.blk l (hro l rfl)], fun l' h => hG.mono _ (hro l' h)⟩

theorem conc_normal {e : SExit} (h : Exit.normal = e.conc) : e = .normal := by cases e <;> first | rfl | cases h

/-- What comes behind. -/
theorem then_sound {f : Fr → Hp → R} {outs outs' : List Out} (hs : seqOut f outs = some outs') {θ : Ren} {K : Nat → Prop} {n : Nat} {next : Act → World → Prop}
    (hn : ∀ θ' K' fr hp ys a w, Grow K θ n K' θ' hp.next → f fr hp = some ys → (∀ y ∈ ys, y ∈ outs') → Rep Γ X w0 θ' K' hp w → FRep θ' K' fr a → next a w) :
    ∀ e a w, Post Γ X w0 θ K n outs e a w → Exit.then next (Post Γ X w0 θ K n outs') e a w := by
  intro e a w ⟨o, ho, θ', K', hG, he, hr, hf⟩
  obtain ⟨ys, hy, hm⟩ := allOf_mem hs o ho
  obtain ⟨ex, fr, hp, v⟩ := o
  cases ex with
  | normal => rw [he]; exact hn θ' K' fr hp ys a w hG hy hm hr hf
  | ret =>
    simp only [Option.some.injEq] at hy; subst hy
    rw [he]
    exact ⟨_, hm _ (List.mem_singleton.2 rfl), θ', K', hG, rfl, hr, hf⟩
  | exit id =>
    simp only [Option.some.injEq] at hy; subst hy
    rw [he]
    exact ⟨_, hm _ (List.mem_singleton.2 rfl), θ', K', hG, rfl, hr, hf⟩

theorem loop_round (hS : Sound P Γ self) {m : Nat} (hL : Loops P Γ m self) {c : Code} {ro : Option Nat} {fr : Fr} {hp : Hp} {outs : List Out} (hq : stepTask P Γ self (.code (.loop c) ro fr hp) = some outs) {θ : Ren} {K : Nat → Prop} {a : Act} {w : World}
    (hr : Rep Γ X w0 θ K hp w) (hf : FRep θ K fr a) (hro : ∀ l, ro = some l → K l) : Code.roundsIn (G (ro.map θ.blk)) 0 P c (Post Γ X w0 θ K hp.next outs) (m + 1) a w := by
  simp only [stepTask] at hq
  split at hq
  · rename_i o1 h1
    refine wpIn_mono (hS.code c ro fr hp o1 h1 X w0 θ K a w hr hf hro) ?_
    refine then_sound hq fun θ' K' fr' hp' ys a' w' hG hy hm hr' hf' => ?_
    obtain ⟨e1, e2⟩ := round_same hG hro
    have := hL c ro fr' hp' ys hy X w0 θ' K' a' w' hr' hf' e2
    rw [e1] at this
    exact roundsIn_mono (fun e a w h => h.trans hG hm) _ _ _ this
  · cases hq

/-- Code, but for ranges over functions. -/
theorem code_sound (hN : NoCount P) (hmix : P.follows .mixedOrders = true) (hS : Sound P Γ self) {m : Nat} (hL : Loops P Γ m self) {c : Code} {ro : Option Nat} {fr : Fr} {hp : Hp} {outs : List Out} (hq : stepTask P Γ self (.code c ro fr hp) = some outs)
    {θ : Ren} {K : Nat → Prop} {a : Act} {w : World} (hr : Rep Γ X w0 θ K hp w) (hf : FRep θ K fr a) (hro : ∀ l, ro = some l → K l)
    (hrange : ∀ g ps assign body, c = .rangeFunc g ps assign body → c.wpIn (G (ro.map θ.blk)) 0 P (Post Γ X w0 θ K hp.next outs) a w) : c.wpIn (G (ro.map θ.blk)) 0 P (Post Γ X w0 θ K hp.next outs) a w := by
  have one : ∀ e, some [(⟨e, fr, hp, .lit undef⟩ : Out)] = some outs → Post Γ X w0 θ K hp.next outs e.conc a w := fun e h => by
    simp only [Option.some.injEq] at h; subst h
    exact ⟨_, List.mem_singleton.2 rfl, θ, K, Grow.refl _ _ _, rfl, hr, hf⟩
  cases c with
  | skip => exact wpIn_skip (one .normal hq)
  | label l => exact wpIn_label (one .normal hq)
  | ret => exact wpIn_ret (one .ret hq)
  | exit id => exact wpIn_exit (one (.exit id) hq)
  | seq x y =>
    simp only [stepTask] at hq
    split at hq
    · rename_i o1 h1
      refine wpIn_seq (wpIn_mono (hS.code x ro fr hp o1 h1 X w0 θ K a w hr hf hro) ?_)
      refine then_sound hq fun θ' K' fr' hp' ys a' w' hG hy hm hr' hf' => ?_
      obtain ⟨e1, e2⟩ := round_same hG hro
      have := hS.code y ro fr' hp' ys hy X w0 θ' K' a' w' hr' hf' e2
      rw [e1] at this
      exact wpIn_mono this fun e a w h => h.trans hG hm
    · cases hq
  | cond x y z =>
    simp only [stepTask] at hq
    split at hq
    · rename_i hv; exact wpIn_cond_true (by rw [hf.ev, hv]; rfl) (hS.code y ro fr hp outs hq X w0 θ K a w hr hf hro)
    · rename_i hv; exact wpIn_cond_false (by rw [hf.ev, hv]; rfl) (hS.code z ro fr hp outs hq X w0 θ K a w hr hf hro)
    · cases hq
  | block id x =>
    simp only [stepTask] at hq
    split at hq
    · rename_i o1 h1
      simp only [Option.some.injEq] at hq
      refine wpIn_block (wpIn_mono (hS.code x ro fr hp o1 h1 X w0 θ K a w hr hf hro) ?_)
      rintro e a' w' ⟨o, ho, θ', K', hG, rfl, hr', hf'⟩
      have hmem : ∀ y, (match o.exit with
        | .exit k => bif Nat.beq k id then { o with exit := .normal } else o
        | _ => o) = y → y ∈ outs := fun y hy => by rw [← hq]; exact List.mem_map.2 ⟨o, ho, hy⟩
      obtain ⟨ex, fr', hp', v⟩ := o
      cases ex with
      | normal => exact ⟨_, hmem _ rfl, θ', K', hG, rfl, hr', hf'⟩
      | ret => exact ⟨_, hmem _ rfl, θ', K', hG, rfl, hr', hf'⟩
      | exit k =>
        simp only [SExit.conc, Exit.inBlock]
        by_cases e : k = id
        · rw [if_pos e]
          exact ⟨_, hmem ⟨.normal, fr', hp', v⟩ (by simp only [beq_t e, cond_true]), θ', K', hG, rfl, hr', hf'⟩
        · rw [if_neg e]
          exact ⟨_, hmem ⟨.exit k, fr', hp', v⟩ (by simp only [beq_f e, cond_false]), θ', K', hG, rfl, hr', hf'⟩
    · cases hq
  | loop x => exact wpIn_loop_rounds (m + 1) (loop_round hS hL hq hr hf hro)
  | region id ops d =>
    cases d with
    | false =>
      refine wpIn_region ?_
      have := inTurn_sound (X := X) (w0 := w0) (r := ro.map θ.blk) hN hS ops.toList (i := 0) (fun k => by rw [Nat.zero_add, Array.getElem?_toList]) hq hr hf
      rw [Array.length_toList, ← List.range_eq_range'] at this
      exact this
    | true =>
      simp only [stepTask] at hq
      cases hfit : regionFit ops ops.toList 0 with
      | false => rw [hfit] at hq; cases hq
      | true =>
        rw [hfit] at hq
        exact drawn_sound hN hS hmix hfit hq hr hf
  | rangeFunc g ps assign body => exact hrange g ps assign body rfl
  | _ => simp only [stepTask] at hq; cases hq
end
end Go.Proofs.YthjkejnmjbljfaaGreatDoor.Ev
