/-
  A REGION THAT DRAWS ITS ORDER (4): whatever order is drawn, it comes to one of the evaluator's outcomes, by the author of this claim. Of any program in which no function is runtime.NumGoroutine.
-/
import Derived.Test.YthjkejnmjbljfaaGreatDoorEvQ
namespace Go.Proofs.YthjkejnmjbljfaaGreatDoor.Ev
open Go Go.RowKit

/-! ### the same value is the same -/
theorem litSame_eq {x y : Value} (h : litSame x y = true) : x = y := by
  unfold litSame at h
  split at h
  · simp only [Bool.and_eq_true, beq_iff_eq] at h; obtain ⟨rfl, rfl⟩ := h; rfl
  · simp only [beq_iff_eq] at h; subst h; rfl
  · rename_i a b
    simp only [beq_iff_eq] at h
    obtain ⟨⟨l⟩⟩ := a
    obtain ⟨⟨m⟩⟩ := b
    simp only at h
    subst h; rfl
  · rfl
  · simp only [Bool.and_eq_true, beq_iff_eq] at h; obtain ⟨rfl, rfl⟩ := h; rfl
  · rfl
  · rfl
  · rfl
  · cases h

mutual
theorem same_eq : ∀ (a b : SV), SV.same a b = true → a = b
  | .lit x, b, h => by
    cases b with
    | lit y => rw [litSame_eq (x := x) (y := y) h]
    | _ => cases h
  | .ptr _ _, b, h => by
    cases b <;> first | (cases h; done) | (simp only [SV.same, Bool.and_eq_true, beq_iff_eq] at h; obtain ⟨rfl, rfl⟩ := h; rfl)
  | .slice _ _ _ _, b, h => by
    cases b <;> first | (cases h; done) | (simp only [SV.same, Bool.and_eq_true, beq_iff_eq] at h; obtain ⟨⟨⟨rfl, rfl⟩, rfl⟩, rfl⟩ := h; rfl)
  | .row _ _ _ _ _, b, h => by
    cases b <;> first | (cases h; done) | (simp only [SV.same, Bool.and_eq_true, beq_iff_eq] at h; obtain ⟨⟨⟨⟨rfl, rfl⟩, rfl⟩, rfl⟩, rfl⟩ := h; rfl)
  | .map _, b, h => by
    cases b <;> first | (cases h; done) | (simp only [SV.same, beq_iff_eq] at h; subst h; rfl)
  | .agg l, b, h => by
    cases b with
    | agg m => rw [sameL_eq l m h]
    | _ => cases h
  | .num _ _, b, h => by
    cases b <;> first | (cases h; done) | (simp only [SV.same, Bool.and_eq_true, beq_iff_eq] at h; obtain ⟨rfl, rfl⟩ := h; rfl)
  | .opq _, b, h => by
    cases b <;> first | (cases h; done) | (simp only [SV.same, beq_iff_eq] at h; subst h; rfl)
  | .func _ _ _, b, h => by cases b <;> cases h
  | .tail _ _ _ _, b, h => by cases b <;> cases h
  | .yield _, b, h => by cases b <;> cases h
  | .iface _ _, b, h => by cases b <;> cases h
  | .tuple _, b, h => by cases b <;> cases h
theorem sameL_eq : ∀ (l m : List SV), SV.sameL l m = true → l = m
  | [], [], _ => rfl
  | a :: l, b :: m, h => by
    simp only [SV.sameL, Bool.and_eq_true] at h
    rw [same_eq a b h.1, sameL_eq l m h.2]
  | [], _ :: _, h => by cases h
  | _ :: _, [], h => by cases h
end
theorem sameEntries_eq : ∀ (l m : List (SV × SV × Nat)), sameEntries l m = true → l = m
  | [], [], _ => rfl
  | (k, v, c) :: l, (k', v', c') :: m, h => by
    simp only [sameEntries, Bool.and_eq_true] at h
    rw [same_eq k k' h.1.1.1, same_eq v v' h.1.1.2, eq_of_beq h.1.2, sameEntries_eq l m h.2]
  | [], _ :: _, h => by cases h
  | _ :: _, [], h => by cases h

theorem factHolds_sound {h : Hp} {f : Fact} (hf : factHolds h f = true) : FactT h.objs f := by
  cases f with
  | cells b off vs =>
    simp only [factHolds] at hf
    split at hf
    · rename_i ws hws
      rw [← sameL_eq vs ws hf] at hws
      exact hws
    · cases hf
  | obj b o =>
    cases o with
    | map es c =>
      simp only [factHolds] at hf
      split at hf
      · rename_i es' c' hg
        rw [Bool.and_eq_true] at hf
        rw [← eq_of_beq hf.1, ← sameEntries_eq es es' hf.2] at hg
        exact hg
      · cases hf
    | _ => cases hf

theorem showed_spec {i : Nat} {t r : T AObj} : ∀ {held : List Held} {acc t' : T AObj}, showed i t r held acc = some t' → (∀ b, hidden i held b = true → r.get b = none ∧ t'.get b = t.get b) ∧ (∀ b, hidden i held b = false → t'.get b = acc.get b) := by
  intro held
  induction held with
  | nil => intro acc t' h; simp only [showed, Option.some.injEq] at h; subst h; exact ⟨fun b hb => (by cases hb), fun b _ => rfl⟩
  | cons x l ih =>
    intro acc t' h
    obtain ⟨desc, facts, chg⟩ := x
    cases chg with
    | none =>
      simp only [showed] at h
      obtain ⟨h1, h2⟩ := ih h
      exact ⟨fun b hb => h1 b (by simpa [hidden] using hb), fun b hb => h2 b (by simpa [hidden] using hb)⟩
    | some c =>
      obtain ⟨b', ob⟩ := c
      simp only [showed] at h
      cases hd : desc.testBit i with
      | true =>
        rw [hd] at h
        obtain ⟨h1, h2⟩ := ih h
        exact ⟨fun b hb => h1 b (by simpa [hidden, hd] using hb), fun b hb => h2 b (by simpa [hidden, hd] using hb)⟩
      | false =>
        rw [hd] at h
        simp only [cond_false] at h
        split at h
        · cases h
        · rename_i hr
          obtain ⟨h1, h2⟩ := ih h
          refine ⟨fun b hb => ?_, fun b hb => ?_⟩
          · cases hl : hidden i l b with
            | true => exact h1 b hl
            | false =>
              simp only [hidden, hd, hl, Bool.not_false, Bool.true_and, Bool.or_false] at hb
              have e := eq_of_beq hb
              subst e
              exact ⟨hr, by rw [h2 b hl, T.get_put, if_pos rfl]⟩
          · simp only [hidden, hd, Bool.not_false, Bool.true_and, Bool.or_eq_false_iff] at hb
            rw [h2 b hb.2, T.get_put, if_neg (ne_of_beq hb.1)]
theorem showed_exists {i : Nat} {t s r : T AObj} : ∀ {held : List Held} {acc t' : T AObj}, showed i t r held acc = some t' → ∀ acc', ∃ s', showed i s r held acc' = some s' := by
  intro held
  induction held with
  | nil => intro acc t' _ acc'; exact ⟨acc', rfl⟩
  | cons x l ih =>
    intro acc t' h acc'
    obtain ⟨desc, facts, chg⟩ := x
    cases chg with
    | none => simp only [showed] at h ⊢; exact ih h acc'
    | some c =>
      obtain ⟨b', ob⟩ := c
      simp only [showed] at h ⊢
      cases hd : desc.testBit i with
      | true => rw [hd] at h; exact ih h acc'
      | false =>
        rw [hd] at h
        simp only [cond_false] at h ⊢
        split at h
        · cases h
        · exact ih h _

theorem factsStand_spec {r : Hp} {i : Nat} {all : List Held} : ∀ {held : List Held}, factsStand r i all held = true → ∀ x ∈ held, x.desc.testBit i = false → ∀ f ∈ x.facts, hidden i all f.blk = false → FactT r.objs f := by
  intro held
  induction held with
  | nil => intro _ x hx; cases hx
  | cons y l ih =>
    intro h x hx hd f hf hh
    simp only [factsStand, Bool.and_eq_true] at h
    rcases List.mem_cons.1 hx with rfl | hx
    · rw [hd] at h
      simp only [cond_false] at h
      have := List.all_eq_true.1 h.1 f hf
      rw [hh, Bool.false_or] at this
      exact factHolds_sound this
    · exact ih h.2 x hx hd f hf hh
theorem drop_mem {i : Nat} : ∀ {held : List Held} {x : Held}, x ∈ drop i held ↔ x ∈ held ∧ x.desc.testBit i = false := by
  intro held
  induction held with
  | nil => intro x; simp [drop]
  | cons y l ih =>
    intro x
    simp only [drop]
    cases hd : y.desc.testBit i with
    | true =>
      simp only [cond_true, ih, List.mem_cons]
      constructor
      · rintro ⟨h1, h2⟩; exact ⟨.inr h1, h2⟩
      · rintro ⟨rfl | h1, h2⟩
        · rw [hd] at h2; cases h2
        · exact ⟨h1, h2⟩
    | false =>
      simp only [cond_false, List.mem_cons, ih]
      constructor
      · rintro (rfl | ⟨h1, h2⟩)
        · exact ⟨.inl rfl, hd⟩
        · exact ⟨.inr h1, h2⟩
      · rintro ⟨rfl | h1, h2⟩
        · exact .inl rfl
        · exact .inr ⟨h1, h2⟩

theorem readyNow_mem {mask : Nat} : ∀ {L : List Oper} {i0 : Nat} {j : Nat} {o : Oper}, (j, o) ∈ readyNow mask L i0 ↔ ∃ m, j = i0 + m ∧ L[m]? = some o ∧ mask.testBit j = false ∧ Nat.beq (Nat.land (depsOf o) mask) (depsOf o) = true := by
  intro L
  induction L with
  | nil => intro i0 j o; simp [readyNow]
  | cons x L ih =>
    intro i0 j o
    simp only [readyNow]
    have hrec : (j, o) ∈ readyNow mask L (i0 + 1) ↔ ∃ m, j = i0 + (m + 1) ∧ L[m]? = some o ∧ mask.testBit j = false ∧ Nat.beq (Nat.land (depsOf o) mask) (depsOf o) = true := by
      rw [ih]
      constructor
      · rintro ⟨m, h1, h2⟩; exact ⟨m, by omega, h2⟩
      · rintro ⟨m, h1, h2⟩; exact ⟨m, by omega, h2⟩
    cases hc : !mask.testBit i0 && Nat.beq (Nat.land (depsOf x) mask) (depsOf x) with
    | true =>
      simp only [cond_true, List.mem_cons, Prod.mk.injEq, hrec]
      rw [Bool.and_eq_true, Bool.not_eq_true'] at hc
      constructor
      · rintro (⟨rfl, rfl⟩ | ⟨m, h1, h2⟩)
        · exact ⟨0, rfl, rfl, hc⟩
        · exact ⟨m + 1, h1, by simpa using h2⟩
      · rintro ⟨m, h1, h2, h3⟩
        cases m with
        | zero => simp only [List.getElem?_cons_zero, Option.some.injEq] at h2; exact .inl ⟨h1, h2.symm⟩
        | succ m => exact .inr ⟨m, h1, by simpa using h2, h3⟩
    | false =>
      simp only [cond_false, hrec]
      constructor
      · rintro ⟨m, h1, h2⟩; exact ⟨m + 1, h1, by simpa using h2⟩
      · rintro ⟨m, h1, h2, h3⟩
        cases m with
        | zero =>
          simp only [List.getElem?_cons_zero, Option.some.injEq] at h2
          subst h2
          rw [Nat.add_zero] at h1
          subst h1
          rw [h3.1, h3.2] at hc
          cases hc
        | succ m => exact ⟨m, h1, by simpa using h2, h3⟩
end Go.Proofs.YthjkejnmjbljfaaGreatDoor.Ev
