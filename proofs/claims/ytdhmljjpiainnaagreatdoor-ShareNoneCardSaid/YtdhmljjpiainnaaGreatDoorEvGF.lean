/-
  MORE FUEL GIVES THE SAME WORD, by the author of this claim: whatever the evaluator tells with some fuel it tells with more. Of any program. | THE EVALUATOR WITH CALLS WHOSE WORD IS KNOWN: its steps, and that more fuel tells the same; by the author of this claim. Of any program. | THE SEAT's ORACLE: the document's example ('counterpanelaw38.awake') tells true; shown in the text ShnX.
-/
import Derived.Test.YtdhmljjpiainnaaGreatDoorEvGE
namespace Go.Proofs.YtdhmljjpiainnaaGreatDoor.Ev
open Go Go.RowKit
def Le (s s' : Task → R) : Prop := ∀ t o, s t = some o → s' t = some o
theorem allOf_le {α β : Type} {f g : α → Option (List β)} (h : ∀ a o, f a = some o → g a = some o) : ∀ (l : List α) (r : List β), allOf f l = some r → allOf g l = some r
  | [], _, hr => hr
  | a :: l, r, hr => by
    simp only [allOf] at hr ⊢
    split at hr
    · rename_i x y hx hy
      rw [h a x hx, allOf_le h l y hy]
      exact hr
    · cases hr
section
variable {P : Program} {Γ : Glob} {s s' : Task → R}
theorem map_le {α : Type} {x y : R} {f : List Out → α} {r : α} (h : ∀ o, x = some o → y = some o) (hr : x.map f = some r) : y.map f = some r := by
  rw [Option.map_eq_some_iff] at hr
  obtain ⟨o, ho, e⟩ := hr
  rw [h o ho, Option.map_some, e]
theorem loud_le (h : Le s s') {fr : Fr} {hp : Hp} {o : Oper} {r : List (SV × Hp)} (hr : loud P Γ s fr hp o = some r) : loud P Γ s' fr hp o = some r := by
  unfold loud at hr ⊢
  cases hc : calleeOf fr.ev o.op with
  | none => rw [hc] at hr; exact hr
  | some c =>
    rw [hc] at hr
    cases c with
    | fn f args =>
      simp only at hr ⊢
      cases hcl : cloneE P hp f args with
      | some x => rw [hcl] at hr; exact hr
      | none => rw [hcl] at hr; exact map_le (h _) hr
    | round b args => exact map_le (h _) hr
theorem oper_le (h : Le s s') {ops : Array Oper} {fr : Fr} {hp : Hp} {o : Oper} {r : List (Fr × Hp)} (hr : oper P Γ s ops fr hp o = some r) : oper P Γ s' ops fr hp o = some r := by
  unfold oper at hr ⊢
  split at hr
  · cases hr
  · exact hr
  · split at hr
    · exact hr
    · split at hr
      · rename_i rs hl
        try rw [loud_le h hl]
        exact hr
      · cases hr
theorem inTurn_le (h : Le s s') {ops : Array Oper} : ∀ (l : List Oper) {fr : Fr} {hp : Hp} {r : List Out}, inTurn P Γ s ops l fr hp = some r → inTurn P Γ s' ops l fr hp = some r
  | [], _, _, _, hr => hr
  | o :: l, fr, hp, r, hr => by
    simp only [inTurn] at hr ⊢
    split at hr
    · rename_i x hx
      rw [oper_le h hx]
      exact allOf_le (fun a o ho => inTurn_le h l ho) x r hr
    · cases hr
theorem comesUp_le (h : Le s s') {ops : Array Oper} {go go' : Nat → List Held → Fr → Hp → R} (hg : ∀ m x f p o, go m x f p = some o → go' m x f p = some o) {mask : Nat} {held : List Held} {fr : Fr} {hp : Hp} {io : Nat × Oper} {r : List Out}
    (hr : comesUp P Γ s ops go mask held fr hp io = some r) : comesUp P Γ s' ops go' mask held fr hp io = some r := by
  unfold comesUp at hr ⊢
  split at hr
  · split at hr
    · cases hr
    · rename_i outs ho
      rw [loud_le h ho]
      refine allOf_le (fun x o hx => ?_) outs r hr
      split at hx
      · rename_i t f h1 h2
        try rw [h1, h2]
        try simp only
        cases hf : factsStand x.2 io.1 held held with
        | false => rw [hf] at hx; cases hx
        | true => rw [hf] at hx; exact hg _ _ _ _ _ hx
      · cases hx
  · cases hr
theorem drawn_le (h : Le s s') {ops : Array Oper} : ∀ (n : Nat) {mask : Nat} {held : List Held} {fr : Fr} {hp : Hp} {r : List Out}, drawn P Γ s ops n mask held fr hp = some r → drawn P Γ s' ops n mask held fr hp = some r
  | 0, _, _, _, _, _, hr => by cases hr
  | n + 1, mask, held, fr, hp, r, hr => by
    simp only [drawn] at hr ⊢
    split at hr
    · cases hr
    · rename_i x hx
      try rw [hx]
      try simp only
      split at hr
      · exact hr
      · exact allOf_le (fun io o ho => comesUp_le h (fun m y f p o ho => drawn_le h n ho) ho) _ r hr
theorem seqOut_le {f g : Fr → Hp → R} (h : ∀ a b o, f a b = some o → g a b = some o) {outs r : List Out} (hr : seqOut f outs = some r) : seqOut g outs = some r := by
  unfold seqOut at hr ⊢
  refine allOf_le (fun x o hx => ?_) outs r hr
  split at hx
  · exact h _ _ _ hx
  · exact hx
theorem stepTask_le (h : Le s s') : Le (stepTask P Γ s) (stepTask P Γ s') := by
  intro t r hr
  unfold stepTask at hr
  split at hr
  · exact hr
  · exact hr
  · exact hr
  · exact hr
  · rename_i a b ro fr hp
    simp only [stepTask]
    split at hr
    · rename_i outs ho
      rw [h _ _ ho]
      exact seqOut_le (fun _ _ _ ho => h _ _ ho) hr
    · cases hr
  · rename_i c x y ro fr hp
    simp only [stepTask]
    split at hr
    · exact h _ _ hr
    · exact h _ _ hr
    · cases hr
  · rename_i id c ro fr hp
    simp only [stepTask]
    split at hr
    · rename_i outs ho
      rw [h _ _ ho]
      exact hr
    · cases hr
  · rename_i c ro fr hp
    simp only [stepTask]
    split at hr
    · rename_i outs ho
      rw [h _ _ ho]
      exact seqOut_le (fun _ _ _ ho => h _ _ ho) hr
    · cases hr
  · rename_i c ro fr hp
    exact h _ _ hr
  · rename_i id ops ro fr hp
    exact inTurn_le h _ hr
  · rename_i id ops ro fr hp
    simp only [stepTask]
    cases hf : regionFit ops ops.toList 0 with
    | false => rw [hf] at hr; cases hr
    | true => rw [hf] at hr; exact drawn_le h _ hr
  · rename_i g ps assign body ro fr hp
    simp only [stepTask]
    split at hr
    · cases hr
    · rename_i s0 hs0
      try rw [hs0]
      try simp only at hr ⊢
      split at hr
      · cases hr
      · rename_i c hc
        try rw [hc]
        try simp only at hr ⊢
        split at hr
        · cases hr
        · rename_i outs ho
          rw [h _ _ ho]
          exact hr
  · cases hr
  · rename_i f args hp
    simp only [stepTask]
    split at hr
    · cases hr
    · rename_i fn hfn
      try rw [hfn]
      try simp only at hr ⊢
      split at hr
      · cases hr
      · rename_i c hc
        try rw [hc]
        try simp only at hr ⊢
        split at hr
        · rename_i outs ho
          rw [h _ _ ho]
          exact hr
        · cases hr
  · rename_i b args hp
    simp only [stepTask]
    split at hr
    · rename_i l hl
      try rw [hl]
      try simp only at hr ⊢
      cases hb : Nat.beq args.length l.params.size with
      | false => rw [hb] at hr; cases hr
      | true =>
        rw [hb] at hr
        simp only [cond_true] at hr ⊢
        split at hr
        · cases hr
        · rename_i fr hfr
          try rw [hfr]
          try simp only at hr ⊢
          split at hr
          · cases hr
          · rename_i outs ho
            rw [h _ _ ho]
            try simp only
            refine allOf_le (fun x o hx => ?_) outs r hr
            unfold roundBody at hx ⊢
            split at hx
            · rename_i l' he hl'
              try rw [he, hl']
              try simp only
              split at hx
              · rename_i hst
                try rw [hst]
                try simp only
                split at hx
                · cases hx
                · rename_i os hos
                  rw [h _ _ hos]
                  exact hx
              · cases hx
            · cases hx
    · cases hr
end
open Go Go.RowKit
abbrev Oracle := FuncId → List SV → Hp → R
def stepO (P : Program) (Γ : Glob) (mem : Oracle) (self : Task → R) : Task → R
  | .call f args hp => match mem f args hp with
    | some outs => some outs
    | none => stepTask P Γ self (.call f args hp)
  | t => stepTask P Γ self t
def runO (P : Program) (Γ : Glob) (mem : Oracle) (n : Nat) : Task → R := Nat.rec (fun _ => none) (fun _ ih => stepO P Γ mem ih) n
section
variable {P : Program} {Γ : Glob} {mem : Oracle}
theorem stepO_le {s s' : Task → R} (h : Le s s') : Le (stepO P Γ mem s) (stepO P Γ mem s') := fun t o ht => by
  cases t with
  | call f args hp =>
    simp only [stepO] at ht ⊢
    split at ht
    · exact ht
    · exact stepTask_le h _ _ ht
  | code c ro fr hp => exact stepTask_le (P := P) (Γ := Γ) h (.code c ro fr hp) o ht
  | round b args hp => exact stepTask_le (P := P) (Γ := Γ) h (.round b args hp) o ht
theorem runO_succ (n : Nat) (t : Task) : runO P Γ mem (n + 1) t = stepO P Γ mem (runO P Γ mem n) t := rfl
theorem runO_le_succ : ∀ n, Le (runO P Γ mem n) (runO P Γ mem (n + 1))
  | 0 => fun _ _ h => (by cases h)
  | n + 1 => stepO_le (runO_le_succ n)
theorem runO_le {n m : Nat} (h : n ≤ m) : Le (runO P Γ mem n) (runO P Γ mem m) := by
  induction h with
  | refl => exact fun _ _ h => h
  | step _ ih => exact fun t o ho => runO_le_succ _ t o (ih t o ho)
end
open Go
def theMem : Oracle := fun f args hp => bif Nat.beq f 4 then (match args with
  | [] => some [⟨.ret, ⟨.leaf, 0, []⟩, hp, .lit (.bool true)⟩]
  | _ => none) else none
end Go.Proofs.YtdhmljjpiainnaaGreatDoor.Ev
