/-
  EDITS: what one is that came in, and what one is that 'counterpanelaw27.Plain' has made; by the author of this claim.
-/
import Derived.Test.YthjkejnmjbljfaaGreatDoorUndoNilC
import Derived.Test.YthjkejnmjbljfaaGreatDoorEvDrawn
namespace Go.Proofs.YthjkejnmjbljfaaGreatDoor.undoNil
open Go Go.Proofs.YthjkejnmjbljfaaGreatDoor.Ev

/-- An edit that came in, and how many edits and nodes there are in it. -/
def IsEd (Γ : Glob) : Nat → List SV → Nat → Prop
  | 0, _, _ => False
  | f + 1, cs, s => ∃ (a fa : Nat) (kids : List (List SV × Nat)), cs.length = 40 ∧ cs.all SV.one = true ∧ IsNd Γ fa ((cs.drop 12).take 22) a ∧ s = 1 + a + (kids.map (·.2)).sum ∧ (∀ x ∈ kids, IsEd Γ f x.1 x.2) ∧ KidsAt Γ 40 cs[39]? (kids.map (·.1))

/-- A row of edits that the run owns. -/
def PlRow (h : Hp) (A : Nat → Prop) (L : Option SV) (l : List (List SV)) : Prop :=
  (L = some (.lit (.slice none 0 0)) ∧ l = []) ∨ ∃ b, L = some (.row b 0 l.length l.length b) ∧ A b ∧ b < h.next ∧ h.objs.get b = some (.row l.flatten 64 l.length b 40)
/-- An edit that Plain has made. -/
def IsPl (Γ : Glob) (h : Hp) (A : Nat → Prop) : Nat → List SV → Nat → Prop
  | 0, _, _ => False
  | f + 1, cs, s => ∃ (a fa : Nat) (kids : List (List SV × Nat)), cs.length = 40 ∧ cs.all SV.one = true ∧ IsNd Γ fa ((cs.drop 12).take 22) a ∧ s = 1 + a + (kids.map (·.2)).sum ∧ (∀ x ∈ kids, IsPl Γ h A f x.1 x.2) ∧ PlRow h A cs[39]? (kids.map (·.1))

theorem IsPl.len {Γ : Glob} {h : Hp} {A : Nat → Prop} : ∀ {f : Nat} {cs : List SV} {s : Nat}, IsPl Γ h A f cs s → cs.length = 40 ∧ cs.all SV.one = true ∧ 0 < s
  | 0, _, _, hp => hp.elim
  | _ + 1, _, _, ⟨_, _, _, h1, h2, _, h3, _⟩ => ⟨h1, h2, by omega⟩
theorem IsEd.len {Γ : Glob} : ∀ {f : Nat} {cs : List SV} {s : Nat}, IsEd Γ f cs s → cs.length = 40 ∧ cs.all SV.one = true ∧ 0 < s
  | 0, _, _, hp => hp.elim
  | _ + 1, _, _, ⟨_, _, _, h1, h2, _, h3, _⟩ => ⟨h1, h2, by omega⟩

/-- What its blocks hold is all that counts. -/
theorem IsPl.mono {Γ : Glob} {h h' : Hp} {A A' : Nat → Prop} (hn : h.next ≤ h'.next) (hk : ∀ b, A b → b < h.next → A' b ∧ h'.objs.get b = h.objs.get b) : ∀ (f : Nat) (cs : List SV) (s : Nat), IsPl Γ h A f cs s → IsPl Γ h' A' f cs s
  | 0, _, _, hp => hp
  | f + 1, _, _, ⟨a, fa, kids, h1, h2, h3, h4, h5, h6⟩ => by
    refine ⟨a, fa, kids, h1, h2, h3, h4, fun x hx => IsPl.mono hn hk f x.1 x.2 (h5 x hx), ?_⟩
    rcases h6 with h6 | ⟨b, e1, e2, e3, e4⟩
    · exact .inl h6
    · obtain ⟨k1, k2⟩ := hk b e2 e3
      exact .inr ⟨b, e1, k1, Nat.lt_of_lt_of_le e3 hn, k2.trans e4⟩

theorem cut_flat {n : Nat} : ∀ {kids : List (List SV)}, (∀ x ∈ kids, x.length = n) → ∀ {k : Nat} {x : List SV}, kids[k]? = some x → cut kids.flatten (k * n) n = some x
  | [], _, k, x, h => by simp at h
  | y :: ys, hl, 0, x, h => by
    simp only [List.getElem?_cons_zero, Option.some.injEq] at h
    subst h
    have hy := hl y (List.mem_cons_self ..)
    have e : ((y ++ ys.flatten).drop (0 * n)).take n = y := by
      rw [Nat.zero_mul, List.drop_zero, ← hy, List.take_left']
      rfl
    simp only [List.flatten_cons, cut, e, beq_t hy, cond_true]
  | y :: ys, hl, k + 1, x, h => by
    have hy := hl y (List.mem_cons_self ..)
    have ih := cut_flat (kids := ys) (fun z hz => hl z (List.mem_cons_of_mem _ hz)) (k := k) (x := x) (by simpa using h)
    have e : (y ++ ys.flatten).drop ((k + 1) * n) = ys.flatten.drop (k * n) := by
      rw [Nat.succ_mul, Nat.add_comm, ← hy, List.drop_append, List.drop_eq_nil_of_le (by omega), List.nil_append]
      congr 1
      omega
    simp only [List.flatten_cons, cut] at ih ⊢
    rw [e]
    exact ih
end Go.Proofs.YthjkejnmjbljfaaGreatDoor.undoNil
