/-
  A REGION THAT DRAWS ITS ORDER (2): operations that were taken ahead, as a chain; any of them that may come now may come first, by the author of this claim. Of any program; no condition.
-/
import Derived.Test.YthjkejnmjbljfaaGreatDoorEvN
namespace Go.Proofs.YthjkejnmjbljfaaGreatDoor.Ev
open Go Go.RowKit

/-- An operation that was taken ahead. -/
structure Rec where
  i : Nat
  o : Oper
  want : Bool
  v : SV
  facts : List Fact
  chg : Option (Nat × AObj)
  new : Bool
  desc : Nat

def FactT (t : T AObj) (f : Fact) : Prop := FactA ⟨t, 0⟩ f

theorem FactT.congr {t t' : T AObj} {f : Fact} (h : t'.get f.blk = t.get f.blk) (hf : FactT t f) : FactT t' f := by
  cases f with
  | cells b off vs =>
    have h' : t'.get b = t.get b := h
    simp only [FactT, FactA, knownCells] at hf ⊢
    rw [h']; exact hf
  | obj b o =>
    have h' : t'.get b = t.get b := h
    simp only [FactT, FactA] at hf ⊢
    rw [h']; exact hf
theorem FactT.ofA {h : Hp} {f : Fact} (hf : FactA h f) : FactT h.objs f := by
  cases f <;> exact hf
theorem FactT.toA {t : T AObj} {n : Nat} {f : Fact} (hf : FactT t f) : FactA ⟨t, n⟩ f := by
  cases f <;> exact hf

section
variable (P : Program) (Γ : Env) (ops : Array Oper)

/-- The state agrees on all that an operation looks at. -/
def Agr (θ : Ren) (K : Nat → Prop) (f : Fr) (a : Act) (o : Oper) : Prop :=
  a.tmps.size = f.sz ∧ ∀ t ∈ o.looksAt ops, a.tmps.getD t undef = conc θ (f.ev (.tmp t)) ∧ (f.ev (.tmp t)).ok K

structure Does (p : Rec) (f : Fr) (t : T AObj) : Prop where
  guard : ∀ θ K a, Agr ops θ K f a p.o → Region.wanted p.o (yielded ops a.tmps) = p.want
  does : (p.want = false ∧ p.v = .lit undef ∧ p.facts = [] ∧ p.chg = none) ∨
    (p.want = true ∧ p.chg = none ∧ (∀ fc ∈ p.facts, FactT t fc) ∧ ∀ θ K a, Agr ops θ K f a p.o → ((∀ fc ∈ p.facts, fc.ok K) → p.v.ok K) ∧
      ∀ w, GlobW Γ w → (∀ fc ∈ p.facts, FactW θ w fc) → (execOp a.eval p.o).run P w = .ok (.value (conc θ p.v)) w) ∨
    (p.want = true ∧ p.facts = [] ∧ p.new = true ∧ ∃ b ob, p.chg = some (b, ob) ∧ t.get b = none ∧ p.v.ok (· = b) ∧ ∀ θ K a, Agr ops θ K f a p.o → ob.ok K ∧
      ∀ w, ∃ ob', (execOp a.eval p.o).run P w = .ok (.value (conc (θ.bind b w.heap.size 0) p.v)) (w.alloc ob') ∧ ORep θ ob ob') ∨
    (p.want = true ∧ p.facts = [] ∧ p.new = false ∧ ∃ b ob old, p.chg = some (b, ob) ∧ t.get b = some old ∧ p.v = .lit undef ∧ ∀ X w0 θ K a h w, Agr ops θ K f a p.o → Rep Γ X w0 θ K h w → h.objs.get b = some old →
      ∃ w', (execOp a.eval p.o).run P w = .ok .skip w' ∧ Rep Γ X w0 θ K (h.upd b ob) w')

structure FEq (f g : Fr) : Prop where
  sz : f.sz = g.sz
  marks : f.marks = g.marks
  tmps : ∀ t, f.tmps.get t = g.tmps.get t

structure FPut (f : Fr) (p : Rec) (g : Fr) : Prop where
  sz : g.sz = f.sz
  marks : g.marks = f.marks
  tmps : ∀ t, g.tmps.get t = if p.o.dst = some t then some p.v else f.tmps.get t
  lt : ∀ d, p.o.dst = some d → d < f.sz

def HChg (t : T AObj) (p : Rec) (t' : T AObj) : Prop := ∀ b, t'.get b = match p.chg with
  | some (b', ob) => if b = b' then some ob else t.get b
  | none => t.get b

/-- From a state to another one by operations that were taken ahead. -/
def Chain : List Rec → Fr → T AObj → Fr → T AObj → Prop
  | [], f, t, fr, hp => FEq f fr ∧ ∀ b, t.get b = hp.get b
  | p :: rest, f, t, fr, hp => Does P Γ ops p f t ∧ ∃ f1 t1, FPut f p f1 ∧ HChg t p t1 ∧ Chain rest f1 t1 fr hp

/-- The blocks that an operation that was taken ahead has to do with. -/
def Rec.on (p : Rec) (b : Nat) : Prop := (∃ fc ∈ p.facts, fc.blk = b) ∨ ∃ ob, p.chg = some (b, ob)

/-- Two that may come in either order. -/
structure Ind (p q : Rec) : Prop where
  pq : ∀ d, p.o.dst = some d → d ∉ q.o.looksAt ops ∧ q.o.dst ≠ some d
  qp : ∀ d, q.o.dst = some d → d ∉ p.o.looksAt ops
  bp : ∀ b ob, p.chg = some (b, ob) → ¬ q.on b
  bq : ∀ b ob, q.chg = some (b, ob) → ¬ p.on b
end

section
variable {P : Program} {Γ : Env} {ops : Array Oper}

theorem FEq.ev {f g : Fr} (h : FEq f g) (x : Operand) : f.ev x = g.ev x := by
  cases x with
  | tmp t => simp only [Fr.ev, h.tmps t]
  | _ => rfl
theorem FPut.ev {f g : Fr} {p : Rec} (h : FPut f p g) {t : Nat} (hne : p.o.dst ≠ some t) : g.ev (.tmp t) = f.ev (.tmp t) := by
  simp only [Fr.ev, h.tmps t, if_neg hne]

theorem Agr.congr {θ : Ren} {K : Nat → Prop} {f g : Fr} {a : Act} {o : Oper} (hs : g.sz = f.sz) (he : ∀ t ∈ o.looksAt ops, g.ev (.tmp t) = f.ev (.tmp t)) (h : Agr ops θ K g a o) : Agr ops θ K f a o :=
  ⟨h.1.trans hs, fun t ht => by rw [← he t ht]; exact h.2 t ht⟩

theorem Does.congr {p : Rec} {f g : Fr} {t s : T AObj} (hs : g.sz = f.sz) (he : ∀ t ∈ p.o.looksAt ops, g.ev (.tmp t) = f.ev (.tmp t)) (hb : ∀ b, p.on b → s.get b = t.get b) (h : Does P Γ ops p f t) : Does P Γ ops p g s := by
  have ag : ∀ {θ K a}, Agr ops θ K g a p.o → Agr ops θ K f a p.o := fun h => h.congr hs he
  refine ⟨fun θ K a ha => h.guard θ K a (ag ha), ?_⟩
  rcases h.does with h1 | ⟨w1, c1, f1, r1⟩ | ⟨w1, f1, n1, b, ob, c1, g1, v1, r1⟩ | ⟨w1, f1, n1, b, ob, old, c1, g1, v1, r1⟩
  · exact .inl h1
  · exact .inr (.inl ⟨w1, c1, fun fc hfc => (f1 fc hfc).congr (hb _ (.inl ⟨fc, hfc, rfl⟩)), fun θ K a ha => r1 θ K a (ag ha)⟩)
  · exact .inr (.inr (.inl ⟨w1, f1, n1, b, ob, c1, by rw [hb b (.inr ⟨ob, c1⟩)]; exact g1, v1, fun θ K a ha => r1 θ K a (ag ha)⟩))
  · exact .inr (.inr (.inr ⟨w1, f1, n1, b, ob, old, c1, by rw [hb b (.inr ⟨ob, c1⟩)]; exact g1, v1, fun X w0 θ K a h w ha => r1 X w0 θ K a h w (ag ha)⟩))

theorem Chain.start {pd : List Rec} : ∀ {f f' : Fr} {t t' : T AObj} {fr : Fr} {hp : T AObj}, FEq f' f → (∀ b, t'.get b = t.get b) → Chain P Γ ops pd f t fr hp → Chain P Γ ops pd f' t' fr hp := by
  cases pd with
  | nil => intro f f' t t' fr hp hf ht h; exact ⟨⟨hf.sz.trans h.1.sz, hf.marks.trans h.1.marks, fun x => (hf.tmps x).trans (h.1.tmps x)⟩, fun b => (ht b).trans (h.2 b)⟩
  | cons p rest =>
    intro f f' t t' fr hp hf ht h
    obtain ⟨hd, f1, t1, hp1, hc1, hr⟩ := h
    refine ⟨hd.congr hf.sz (fun x _ => hf.ev _) fun b _ => ht b, f1, t1, ⟨hp1.sz.trans hf.sz.symm, hp1.marks.trans hf.marks.symm, fun x => by rw [hp1.tmps x, hf.tmps x], fun d hd => by rw [hf.sz]; exact hp1.lt d hd⟩, fun b => ?_, hr⟩
    rw [hc1 b]
    cases p.chg with
    | none => exact (ht b).symm
    | some c => obtain ⟨b', ob⟩ := c; simp only; split
                · rfl
                · exact (ht b).symm

theorem put_exists (f : Fr) (p : Rec) (h : ∀ d, p.o.dst = some d → d < f.sz) : ∃ g, FPut f p g := by
  cases hd : p.o.dst with
  | none => exact ⟨f, rfl, rfl, fun t => by rw [hd, if_neg (by simp)], fun d he => by rw [hd] at he; cases he⟩
  | some d => exact ⟨{ f with tmps := f.tmps.set d p.v }, rfl, rfl, fun t => by
      simp only [T.get_set, hd, Option.some.injEq]
      by_cases e : t = d
      · rw [if_pos e, if_pos e.symm]
      · rw [if_neg e, if_neg (fun e' => e e'.symm)], fun d' he => by rw [hd] at he; cases he; exact h d hd⟩
theorem chg_exists (t : T AObj) (p : Rec) : ∃ t', HChg t p t' := by
  cases hc : p.chg with
  | none => exact ⟨t, fun b => by rw [hc]⟩
  | some c => obtain ⟨b', ob⟩ := c; exact ⟨t.set b' ob, fun b => by rw [hc]; exact T.get_set _ _ _ _⟩

/-- Two neighbours change places. -/
theorem Chain.swap {p q : Rec} {rest : List Rec} {f fr : Fr} {t hp : T AObj} (hi : Ind ops p q) (h : Chain P Γ ops (p :: q :: rest) f t fr hp) : Chain P Γ ops (q :: p :: rest) f t fr hp := by
  obtain ⟨dp, f1, t1, fp, hcp, dq, f2, t2, fq, hcq, hr⟩ := h
  have ht1 : ∀ b, q.on b → t1.get b = t.get b := fun b hb => by
    rw [hcp b]
    cases hc : p.chg with
    | none => rfl
    | some c =>
      obtain ⟨b', ob⟩ := c
      simp only
      rw [if_neg (fun e : b = b' => hi.bp b' ob hc (e ▸ hb))]
  have hev1 : ∀ x ∈ q.o.looksAt ops, f1.ev (.tmp x) = f.ev (.tmp x) := fun x hx => fp.ev fun e => (hi.pq x e).1 hx
  have dq' : Does P Γ ops q f t := dq.congr fp.sz.symm (fun x hx => (hev1 x hx).symm) fun b hb => (ht1 b hb).symm
  obtain ⟨g1, hg1⟩ := put_exists f q (fun d hd => by rw [← fp.sz]; exact fq.lt d hd)
  obtain ⟨s1, hs1⟩ := chg_exists t q
  have dp' : Does P Γ ops p g1 s1 := dp.congr hg1.sz (fun x hx => hg1.ev fun e => hi.qp x e hx) fun b hb => by
    rw [hs1 b]
    cases hc : q.chg with
    | none => rfl
    | some c =>
      obtain ⟨b', ob⟩ := c
      simp only
      rw [if_neg (fun e : b = b' => hi.bq b' ob hc (e ▸ hb))]
  obtain ⟨g2, hg2⟩ := put_exists g1 p (fun d hd => by rw [hg1.sz]; exact fp.lt d hd)
  obtain ⟨s2, hs2⟩ := chg_exists s1 p
  refine ⟨dq', g1, s1, hg1, hs1, dp', g2, s2, hg2, hs2, hr.start ⟨?_, ?_, fun x => ?_⟩ fun b => ?_⟩
  · rw [hg2.sz, hg1.sz, fq.sz, fp.sz]
  · rw [hg2.marks, hg1.marks, fq.marks, fp.marks]
  · rw [hg2.tmps x, hg1.tmps x, fq.tmps x, fp.tmps x]
    by_cases e1 : p.o.dst = some x
    · rw [if_pos e1, if_neg (hi.pq x e1).2, if_pos e1]
    · rw [if_neg e1, if_neg e1]
  · rw [hs2 b, hs1 b, hcq b, hcp b]
    cases hc : p.chg with
    | none => rfl
    | some c =>
      obtain ⟨b1, o1⟩ := c
      cases hc2 : q.chg with
      | none => rfl
      | some c2 =>
        obtain ⟨b2, o2⟩ := c2
        simp only
        by_cases e1 : b = b1
        · rw [if_pos e1]
          have hne : ¬ b = b2 := fun e2 => hi.bp b1 o1 hc (.inr ⟨o2, by rw [← e1, e2]; exact hc2⟩)
          rw [if_neg hne, if_pos e1]
        · rw [if_neg e1, if_neg e1]

/-- One that may come now comes first. -/
theorem Chain.first {p : Rec} {post : List Rec} {fr : Fr} {hp : T AObj} : ∀ (pre : List Rec) {f : Fr} {t : T AObj}, (∀ q ∈ pre, Ind ops q p) → Chain P Γ ops (pre ++ p :: post) f t fr hp → Chain P Γ ops (p :: (pre ++ post)) f t fr hp := by
  intro pre
  induction pre with
  | nil => intro f t _ h; exact h
  | cons q pre ih =>
    intro f t hi h
    obtain ⟨dq, f1, t1, fq, hcq, hr⟩ := h
    have := ih (fun x hx => hi x (List.mem_cons_of_mem _ hx)) hr
    exact Chain.swap (hi q (List.mem_cons_self ..)) ⟨dq, f1, t1, fq, hcq, this⟩

theorem Chain.snoc {p : Rec} {fr fr' : Fr} {hp hp' : T AObj} : ∀ (pd : List Rec) {f : Fr} {t : T AObj}, Chain P Γ ops pd f t fr hp → Does P Γ ops p fr hp → FPut fr p fr' → HChg hp p hp' → Chain P Γ ops (pd ++ [p]) f t fr' hp' := by
  intro pd
  induction pd with
  | nil =>
    intro f t h hd hf hc
    refine ⟨hd.congr h.1.sz (fun x _ => h.1.ev _) fun b _ => h.2 b, fr', hp', ⟨hf.sz.trans h.1.sz.symm, hf.marks.trans h.1.marks.symm, fun x => by rw [hf.tmps x, h.1.tmps x], fun d hd => by rw [h.1.sz]; exact hf.lt d hd⟩, fun b => ?_, ⟨rfl, rfl, fun _ => rfl⟩, fun _ => rfl⟩
    rw [hc b]
    cases p.chg with
    | none => exact (h.2 b).symm
    | some c => obtain ⟨b', ob⟩ := c; simp only; split
                · rfl
                · exact (h.2 b).symm
  | cons q pd ih =>
    intro f t h hd hf hc
    obtain ⟨dq, f1, t1, fq, hcq, hr⟩ := h
    exact ⟨dq, f1, t1, fq, hcq, ih hr hd hf hc⟩

/-- What the chain leaves alone. -/
theorem Chain.block {fr : Fr} {hp : T AObj} : ∀ (pd : List Rec) {f : Fr} {t : T AObj} (b : Nat), Chain P Γ ops pd f t fr hp → (∀ p ∈ pd, ∀ ob, p.chg ≠ some (b, ob)) → t.get b = hp.get b := by
  intro pd
  induction pd with
  | nil => intro f t b h _; exact h.2 b
  | cons p pd ih =>
    intro f t b h hn
    obtain ⟨_, f1, t1, _, hc, hr⟩ := h
    rw [← ih b hr fun q hq => hn q (List.mem_cons_of_mem _ hq), hc b]
    cases hch : p.chg with
    | none => rfl
    | some c =>
      obtain ⟨b', ob⟩ := c
      simp only
      rw [if_neg (fun e => hn p (List.mem_cons_self ..) ob (by rw [hch, e]))]
theorem Chain.slot {fr : Fr} {hp : T AObj} : ∀ (pd : List Rec) {f : Fr} {t : T AObj} (x : Nat), Chain P Γ ops pd f t fr hp → (∀ p ∈ pd, p.o.dst ≠ some x) → f.ev (.tmp x) = fr.ev (.tmp x) := by
  intro pd
  induction pd with
  | nil => intro f t x h _; exact h.1.ev _
  | cons p pd ih =>
    intro f t x h hn
    obtain ⟨_, f1, t1, fp, _, hr⟩ := h
    rw [← ih x hr fun q hq => hn q (List.mem_cons_of_mem _ hq), fp.ev (hn p (List.mem_cons_self ..))]
theorem Chain.size {fr : Fr} {hp : T AObj} : ∀ (pd : List Rec) {f : Fr} {t : T AObj}, Chain P Γ ops pd f t fr hp → f.sz = fr.sz ∧ f.marks = fr.marks := by
  intro pd
  induction pd with
  | nil => intro f t h; exact ⟨h.1.sz, h.1.marks⟩
  | cons p pd ih =>
    intro f t h
    obtain ⟨_, f1, t1, fp, _, hr⟩ := h
    obtain ⟨h1, h2⟩ := ih hr
    exact ⟨fp.sz.symm.trans h1, fp.marks.symm.trans h2⟩

/-- The state below turns, in what the chain has nothing to do with, or in what is seen to hold. -/
theorem Chain.rebase {g : Nat → Bool} {d : Option Tmp} {v : SV} {r : T AObj} : ∀ (pd : List Rec) {f f' fr fr' : Fr} {t t' hp hp' : T AObj},
    Chain P Γ ops pd f t fr hp → f'.sz = f.sz → fr'.sz = fr.sz → f'.marks = fr'.marks → (∀ x, f'.tmps.get x = if d = some x then some v else f.tmps.get x) → (∀ x, fr'.tmps.get x = if d = some x then some v else fr.tmps.get x) →
    (∀ p ∈ pd, ∀ x, d = some x → x ∉ p.o.looksAt ops ∧ p.o.dst ≠ some x) →
    (∀ b, g b = true → t'.get b = t.get b) → (∀ b, g b = false → t'.get b = r.get b) → (∀ b, g b = true → hp'.get b = hp.get b) → (∀ b, g b = false → hp'.get b = r.get b) →
    (∀ p ∈ pd, ∀ b ob, p.chg = some (b, ob) → g b = true) → (∀ p ∈ pd, ∀ fc ∈ p.facts, g fc.blk = false → FactT r fc) → Chain P Γ ops pd f' t' fr' hp' := by
  intro pd
  induction pd with
  | nil =>
    intro f f' fr fr' t t' hp hp' h s1 s2 m1 e1 e2 _ g1 g2 g3 g4 _ _
    refine ⟨⟨by rw [s1, s2]; exact h.1.sz, m1, fun x => ?_⟩, fun b => ?_⟩
    · rw [e1 x, e2 x, h.1.tmps x]
    · cases hg : g b with
      | true => rw [g1 b hg, g3 b hg]; exact h.2 b
      | false => rw [g2 b hg, g4 b hg]
  | cons p pd ih =>
    intro f f' fr fr' t t' hp hp' h s1 s2 m1 e1 e2 hap g1 g2 g3 g4 hch hfa
    obtain ⟨dp, f1, t1, fp, hc, hr⟩ := h
    have hpa := hap p (List.mem_cons_self ..)
    have hev : ∀ x ∈ p.o.looksAt ops, f'.ev (.tmp x) = f.ev (.tmp x) := fun x hx => by
      simp only [Fr.ev, e1 x]
      rw [if_neg (fun e => (hpa x e).1 hx)]
    have dp' : Does P Γ ops p f' t' := by
      have ag : ∀ {θ K a}, Agr ops θ K f' a p.o → Agr ops θ K f a p.o := fun h => h.congr s1 hev
      refine ⟨fun θ K a ha => dp.guard θ K a (ag ha), ?_⟩
      rcases dp.does with h1 | ⟨w1, c1, fa1, r1⟩ | ⟨w1, fa1, n1, b, ob, c1, gg1, v1, r1⟩ | ⟨w1, fa1, n1, b, ob, old, c1, gg1, v1, r1⟩
      · exact .inl h1
      · refine .inr (.inl ⟨w1, c1, fun fc hfc => ?_, fun θ K a ha => r1 θ K a (ag ha)⟩)
        cases hg : g fc.blk with
        | true => exact (fa1 fc hfc).congr (g1 _ hg)
        | false => exact (hfa p (List.mem_cons_self ..) fc hfc hg).congr (g2 _ hg)
      · exact .inr (.inr (.inl ⟨w1, fa1, n1, b, ob, c1, by rw [g1 b (hch p (List.mem_cons_self ..) b ob c1)]; exact gg1, v1, fun θ K a ha => r1 θ K a (ag ha)⟩))
      · exact .inr (.inr (.inr ⟨w1, fa1, n1, b, ob, old, c1, by rw [g1 b (hch p (List.mem_cons_self ..) b ob c1)]; exact gg1, v1, fun X w0 θ K a h w ha => r1 X w0 θ K a h w (ag ha)⟩))
    obtain ⟨f1', hf1'⟩ := put_exists f' p (fun x hx => by rw [s1]; exact fp.lt x hx)
    obtain ⟨t1', ht1'⟩ := chg_exists t' p
    refine ⟨dp', f1', t1', hf1', ht1', ih hr (by rw [hf1'.sz, s1, fp.sz]) s2 (by rw [hf1'.marks]; exact m1) (fun x => ?_) e2 (fun q hq => hap q (List.mem_cons_of_mem _ hq)) (fun b hb => ?_) (fun b hb => ?_) g3 g4
      (fun q hq => hch q (List.mem_cons_of_mem _ hq)) fun q hq => hfa q (List.mem_cons_of_mem _ hq)⟩
    · rw [hf1'.tmps x, e1 x, fp.tmps x]
      by_cases h1 : p.o.dst = some x
      · rw [if_pos h1, if_neg (fun e => (hpa x e).2 h1), if_pos h1]
      · rw [if_neg h1, if_neg h1]
    · rw [ht1' b, hc b]
      cases p.chg with
      | none => exact g1 b hb
      | some c => obtain ⟨b', ob⟩ := c; simp only; split
                  · rfl
                  · exact g1 b hb
    · rw [ht1' b]
      cases hcc : p.chg with
      | none => exact g2 b hb
      | some c =>
        obtain ⟨b', ob⟩ := c
        simp only
        rw [if_neg (fun e => by rw [e, hch p (List.mem_cons_self ..) b' ob hcc] at hb; cases hb)]
        exact g2 b hb
end
end Go.Proofs.YthjkejnmjbljfaaGreatDoor.Ev
