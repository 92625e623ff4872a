/-
  A REGION THAT DRAWS ITS ORDER (5): the walk over all orders, by the author of this claim. Of any program in which no function is runtime.NumGoroutine.
-/
import Derived.Test.YthjkejnmjbljfaaGreatDoorEvR
namespace Go.Proofs.YthjkejnmjbljfaaGreatDoor.Ev
open Go Go.RowKit

section
variable {P : Program} {Γ : Env} {ops : Array Oper} {X : Nat → Prop} {w0 : World}

def Done (M : Nat) (pd : List Rec) (j : Nat) : Prop := M.testBit j = true ∧ ∀ p ∈ pd, p.i ≠ j

structure Inv (P : Program) (Γ : Env) (ops : Array Oper) (X : Nat → Prop) (w0 : World) (n0 : Nat) (θ : Ren) (K : Nat → Prop) (M : Nat) (held : List Held) (fr : Fr) (hp : Hp) (pd : List Rec) (f : Fr) (t : T AObj) (a : Act) (w : World) (listed : Array Bool) : Prop where
  wf : WF ops M held n0 hp pd
  chain : Chain P Γ ops pd f t fr hp.objs
  fr : FRep θ K f a
  rep : Rep Γ X w0 θ K ⟨t, hp.next⟩ w
  newK : ∀ p ∈ pd, p.new = true → ∀ b ob, p.chg = some (b, ob) → ¬ K b
  freshGet : ∀ b, hp.next ≤ b → hp.objs.get b = none
  heldLt : ∀ x ∈ held, ∀ b ob, x.chg = some (b, ob) → b < hp.next
  size : listed.size = ops.size
  listed : ∀ j, j < ops.size → (listed.getD j true = true ↔ Done M pd j)
  closed : ∀ j o, ops[j]? = some o → Done M pd j → ∀ k, (depsOf o).testBit k = true → Done M pd k
  mask : ∀ j, M.testBit j = true → j < ops.size

theorem Rep.teq {θ : Ren} {K : Nat → Prop} {t t' : T AObj} {n : Nat} {w : World} (h : ∀ b, t'.get b = t.get b) (hr : Rep Γ X w0 θ K ⟨t, n⟩ w) : Rep Γ X w0 θ K ⟨t', n⟩ w :=
  ⟨hr.os, hr.tape, hr.output, hr.size, hr.kept, hr.low, hr.glob, fun b o hb => hr.obj b o ((h b).symm.trans hb), fun b b' o o' hb hb' => hr.inj b b' o o' ((h b).symm.trans hb) ((h b').symm.trans hb'), hr.next, hr.inv⟩

theorem FRep.putR {θ : Ren} {K : Nat → Prop} {f g : Fr} {a : Act} {p : Rec} (hf : FRep θ K f a) (hp : FPut f p g) (hv : p.v.ok K) : FRep θ K g (a.put p.o.dst (conc θ p.v)) := by
  cases hd : p.o.dst with
  | none =>
    refine ⟨⟨hf.tmps.1.trans hp.sz.symm, fun x => ?_⟩, fun x v hx => ?_, by rw [hp.marks]; exact hf.marks, by rw [hp.marks]; exact hf.marksOk⟩
    · rw [hp.tmps x, hd, if_neg (by simp)]; exact hf.tmps.2 x
    · rw [hp.tmps x, hd, if_neg (by simp)] at hx; exact hf.ok x v hx
  | some d =>
    have hlt := hp.lt d hd
    refine ⟨⟨by simp [Act.put, hf.tmps.1, hp.sz], fun x => ?_⟩, fun x v hx => ?_, by rw [hp.marks]; exact hf.marks, by rw [hp.marks]; exact hf.marksOk⟩
    · rw [hp.tmps x, hd]
      simp only [Act.put, Option.some.injEq]
      by_cases e : d = x
      · subst e
        have : d < a.tmps.size := by rw [hf.tmps.1]; exact hlt
        simp [this]
      · rw [if_neg e]
        have := hf.tmps.2 x
        simp only [Array.getD_eq_getD_getElem?] at this ⊢
        rw [Array.getElem?_setIfInBounds_ne e]
        exact this
    · rw [hp.tmps x, hd] at hx
      by_cases e : d = x
      · rw [if_pos (by rw [e])] at hx; cases hx; exact hv
      · rw [if_neg (fun e' => e (Option.some.inj e'))] at hx; exact hf.ok x v hx

theorem FRep.agr {θ : Ren} {K : Nat → Prop} {f : Fr} {a : Act} (hf : FRep θ K f a) (o : Oper) : Agr ops θ K f a o := ⟨hf.tmps.1, fun t _ => ⟨hf.tmps.2 t, hf.evOk (.tmp t)⟩⟩

theorem factT_ok {K : Nat → Prop} {t : T AObj} {fc : Fact} (hf : FactT t fc) (hh : ∀ b o, t.get b = some o → o.ok K) : fc.ok K := by
  cases fc with
  | cells b off vs =>
    simp only [FactT, FactA, Option.bind_eq_some_iff] at hf
    obtain ⟨l, hl, hc⟩ := hf
    obtain ⟨o, ho, hcase⟩ := known_obj hl
    have := hh b o ho
    rcases hcase with ⟨e, rfl⟩ | ⟨e, k, cv, s, rfl⟩
    · exact okL_sub this fun v hv => cut_mem hc hv
    · exact okL_sub this.1 fun v hv => cut_mem hc hv
  | obj b o => exact hh b o hf

theorem wpOpIn_mono2 {F : Fence} {n i : Nat} {a : Act} {w : World} {N N' : Act → World → Prop} {Q Q' : Exit → Act → World → Prop} (h : ∀ a w, N a w → N' a w) (hQ : ∀ e a w, Q e a w → Q' e a w) (hh : wpOpIn F n P ops Q i N a w) : wpOpIn F n P ops Q' i N' a w := by
  unfold wpOpIn at *
  split
  · exact h _ _ (by simpa [*] using hh)
  · rename_i o ho
    simp only [ho] at hh
    split
    · rename_i hw; simp only [hw, if_true] at hh; exact wpIn_mono2 h hQ hh
    · rename_i hw; simp only [hw] at hh; exact ⟨hh.1, h _ _ hh.2⟩
theorem wpAnyIn_mono {F : Fence} {n : Nat} {md : Region.Mode} {Q Q' : Exit → Act → World → Prop} (hQ : ∀ e a w, Q e a w → Q' e a w) : ∀ (fuel : Nat) (listed : Array Bool) (a : Act) (w : World), wpAnyIn F n P md ops Q fuel listed a w → wpAnyIn F n P md ops Q' fuel listed a w := by
  intro fuel
  induction fuel with
  | zero => intro listed a w h; exact ⟨h.1, hQ _ _ _ h.2⟩
  | succ fuel ih => intro listed a w h; exact ⟨fun h0 => hQ _ _ _ (h.1 h0), fun i hi => wpOpIn_mono2 (ih _) hQ (h.2 i hi)⟩

theorem filter_lt {l : List Nat} {p q : Nat → Bool} (h : ∀ j ∈ l, q j = true → p j = true) : (l.filter q).length ≤ (l.filter p).length ∧ ((∃ i ∈ l, p i = true ∧ q i = false) → (l.filter q).length < (l.filter p).length) := by
  induction l with
  | nil => exact ⟨Nat.le_refl _, fun ⟨_, h, _⟩ => by cases h⟩
  | cons x l ih =>
    obtain ⟨h1, h2⟩ := ih fun j hj => h j (List.mem_cons_of_mem _ hj)
    have hx := h x (List.mem_cons_self ..)
    cases hq : q x with
    | true =>
      rw [List.filter_cons_of_pos (by rw [hq]), List.filter_cons_of_pos (by rw [hx hq])]
      simp only [List.length_cons]
      refine ⟨by omega, fun ⟨i, hi, hp, hn⟩ => ?_⟩
      rcases List.mem_cons.1 hi with rfl | hi
      · rw [hq] at hn; cases hn
      · have := h2 ⟨i, hi, hp, hn⟩; omega
    | false =>
      rw [List.filter_cons_of_neg (by rw [hq]; simp)]
      cases hp : p x with
      | true =>
        rw [List.filter_cons_of_pos (by rw [hp])]
        simp only [List.length_cons]
        exact ⟨by omega, fun _ => by omega⟩
      | false =>
        rw [List.filter_cons_of_neg (by rw [hp]; simp)]
        refine ⟨h1, fun ⟨i, hi, hp', hn⟩ => ?_⟩
        rcases List.mem_cons.1 hi with rfl | hi
        · rw [hp] at hp'; cases hp'
        · exact h2 ⟨i, hi, hp', hn⟩

/-- How many are still to come. -/
def left (ops : Array Oper) (listed : Array Bool) : Nat := ((List.range ops.size).filter fun j => !listed.getD j true).length
theorem left_set {listed : Array Bool} {i : Nat} (hsz : listed.size = ops.size) (hi : i < ops.size) (hn : listed.getD i true = false) : left ops (listed.setIfInBounds i true) < left ops listed := by
  unfold left
  refine (filter_lt fun j _ hj => ?_).2 ⟨i, List.mem_range.2 hi, by rw [hn]; rfl, ?_⟩
  · by_cases e : i = j
    · subst e; simp [hsz, hi] at hj
    · rw [getD_set_ne true e] at hj; exact hj
  · simp [hsz, hi]

variable {n0 : Nat} {θ : Ren} {K : Nat → Prop} {M : Nat} {held : List Held} {fr : Fr} {hp : Hp} {pd : List Rec} {f : Fr} {t : T AObj} {a : Act} {w : World} {listed : Array Bool}

theorem Inv.ready (hI : Inv P Γ ops X w0 n0 θ K M held fr hp pd f t a w listed) (fit : Fit ops) {j : Nat} (hj : j ∈ Region.ready .any ops listed) : ∃ o, ops[j]? = some o ∧ j < ops.size ∧ ¬ Done M pd j ∧ ∀ k, (depsOf o).testBit k = true → Done M pd k := by
  obtain ⟨h0, o, ho, hall⟩ := mem_ready.1 hj
  have hlt : j < ops.size := (Array.getElem?_eq_some_iff.1 ho).1
  refine ⟨o, ho, hlt, fun hd => ?_, fun k hk => ?_⟩
  · rw [(hI.listed j hlt).2 hd] at h0; cases h0
  · obtain ⟨e, he, hb, rfl⟩ := (depsOf_bit o k).1 hk
    have hkj := fit.low j o e.on ho hk
    have h1 := hall e he hb
    refine (hI.listed e.on (by omega)).1 ?_
    have hin : e.on < listed.size := by rw [hI.size]; omega
    simp [hin] at h1 ⊢
    exact h1

theorem Inv.ofReady (hI : Inv P Γ ops X w0 n0 θ K M held fr hp pd f t a w listed) (fit : Fit ops) {j : Nat} {o : Oper} (ho : ops[j]? = some o) (hn : ¬ Done M pd j) (hd : ∀ k, (depsOf o).testBit k = true → Done M pd k) : j ∈ Region.ready .any ops listed := by
  have hlt : j < ops.size := (Array.getElem?_eq_some_iff.1 ho).1
  refine mem_ready.2 ⟨?_, o, ho, fun e he hb => ?_⟩
  · cases h : listed.getD j true with
    | false => rfl
    | true => exact absurd ((hI.listed j hlt).1 h) hn
  · have hk := (depsOf_bit o e.on).2 ⟨e, he, hb, rfl⟩
    have hkj := fit.low j o e.on ho hk
    have := (hI.listed e.on (by omega)).2 (hd _ hk)
    have hin : e.on < listed.size := by rw [hI.size]; omega
    simp [hin] at this ⊢
    exact this

/-- Who waits for one that hasn't come can't come. -/
theorem Inv.notDesc (hI : Inv P Γ ops X w0 n0 θ K M held fr hp pd f t a w listed) (fit : Fit ops) {p : Rec} (hp' : p ∈ pd) : ∀ (j : Nat) (o : Oper), ops[j]? = some o → (∀ k, (depsOf o).testBit k = true → Done M pd k) → p.desc.testBit j = false := by
  have sound := descOf_sound p.i (ops := ops) ops.toList 0 0 (fun m => by rw [Nat.zero_add, Array.getElem?_toList]) (fun x hx => by simp at hx)
  rw [← hI.wf.desc p hp'] at sound
  have nd : ¬ Done M pd p.i := fun hd => hd.2 p hp' rfl
  have key : ∀ (n j : Nat), j < n → p.desc.testBit j = true → ¬ Done M pd j := by
    intro n
    induction n with
    | zero => intro j h; omega
    | succ n ih =>
      intro j hj hd hdone
      obtain ⟨o, ho, e, he, hcase⟩ := sound j hd
      have hde := hI.closed j o ho hdone e he
      rcases hcase with rfl | h
      · exact nd hde
      · have := fit.low j o e ho he
        exact ih e (by omega) h hde
  intro j o ho hdeps
  cases hd : p.desc.testBit j with
  | false => rfl
  | true =>
    obtain ⟨o', ho', e, he, hcase⟩ := sound j hd
    rw [ho] at ho'
    cases ho'
    have hde := hdeps e he
    rcases hcase with rfl | h
    · exact absurd hde nd
    · exact absurd hde (key (e + 1) e (Nat.lt_succ_self _) h)

theorem Pair.ind (fit : Fit ops) {p q : Rec} (h : Pair p q) (hp : ops[p.i]? = some p.o) (hq : ops[q.i]? = some q.o) (hdesc : p.desc = descOf p.i ops.toList 0 0) (hd : p.desc.testBit q.i = false) : Ind ops p q := by
  have hno : (depsOf q.o).testBit p.i = false := by
    cases hb : (depsOf q.o).testBit p.i with
    | false => rfl
    | true =>
      have := descOf_direct p.i ops.toList 0 0 q.i q.o (by rw [Array.getElem?_toList]; exact hq) hb
      rw [Nat.zero_add, ← hdesc, hd] at this
      cases this
  rcases h.apart with h1 | ⟨h1, h2⟩
  · rw [hd] at h1; cases h1
  · exact ⟨fun d he => fit.apart p.i q.i p.o q.o hp hq h.ne hno h.no d he, fun d he => (fit.apart q.i p.i q.o p.o hq hp (Ne.symm h.ne) h.no hno d he).1, h1, h2⟩
end
end Go.Proofs.YthjkejnmjbljfaaGreatDoor.Ev
