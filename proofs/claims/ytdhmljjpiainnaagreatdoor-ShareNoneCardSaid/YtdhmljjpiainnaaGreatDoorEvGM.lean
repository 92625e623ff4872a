/-
  THE EVALUATOR WITH A TABLE OF CALLS THAT WERE RUN BEFORE, by the author of this claim: a long run is cut at calls; each entry's word is proved by a run of its own, and what a call does not know of stays as it was. Of any program in which no function is runtime.NumGoroutine, and that draws the order in which a region's operations come.
-/
import Derived.Test.YtdhmljjpiainnaaGreatDoorEvGE
namespace Go.Proofs.YtdhmljjpiainnaaGreatDoor.Ev
open Go Go.RowKit
def litEq : Value → Value → Bool
  | .int k a, .int k' b => k == k' && a == b
  | .bool a, .bool b => a == b
  | .string a, .string b => a.data.toList == b.data.toList
  | .pointer none, .pointer none => true
  | .pointer (some ⟨a, i, none⟩), .pointer (some ⟨b, j, none⟩) => Nat.beq a b && Nat.beq i j
  | .slice none a b, .slice none c d => Nat.beq a c && Nat.beq b d
  | .map none, .map none => true
  | .func (.func f) ⟨[]⟩ ⟨[]⟩, .func (.func g) ⟨[]⟩ ⟨[]⟩ => Nat.beq f g
  | .nilFunc, .nilFunc => true
  | .nilIface, .nilIface => true
  | .tuple ⟨[]⟩, .tuple ⟨[]⟩ => true
  | _, _ => false
theorem eq_of_beq_list {a b : List UInt8} (h : (a == b) = true) : a = b := by simpa using h
theorem litEq_eq {x y : Value} (h : litEq x y = true) : x = y := by
  unfold litEq at h
  split at h
  · simp only [Bool.and_eq_true, beq_iff_eq] at h; obtain ⟨rfl, rfl⟩ := h; rfl
  · simp only [beq_iff_eq] at h; subst h; rfl
  · rename_i a b
    have h := eq_of_beq_list h
    obtain ⟨⟨a⟩⟩ := a
    obtain ⟨⟨b⟩⟩ := b
    have h : a = b := h
    subst h; rfl
  · rfl
  · rw [Bool.and_eq_true] at h
    rw [eq_of_beq h.1, eq_of_beq h.2]
  · rw [Bool.and_eq_true] at h
    rw [eq_of_beq h.1, eq_of_beq h.2]
  · rfl
  · rw [eq_of_beq h]
  · rfl
  · rfl
  · rfl
  · cases h
def fnEq : Fn → Fn → Bool
  | .func f, .func g => Nat.beq f g
  | _, _ => false
theorem fnEq_eq {x y : Fn} (h : fnEq x y = true) : x = y := by
  unfold fnEq at h
  split at h
  · rw [eq_of_beq h]
  · cases h
mutual
def SV.eqv : SV → SV → Bool
  | .lit x, .lit y => litEq x y
  | .ptr a b, .ptr c d => Nat.beq a c && Nat.beq b d
  | .slice a b c d, .slice a' b' c' d' => Nat.beq a a' && (Nat.beq b b' && (Nat.beq c c' && Nat.beq d d'))
  | .row a b c d e, .row a' b' c' d' e' => Nat.beq a a' && (Nat.beq b b' && (Nat.beq c c' && (Nat.beq d d' && Nat.beq e e')))
  | .map a, .map b => Nat.beq a b
  | .func f a c, .func f' a' c' => fnEq f f' && (SV.eqvL a a' && SV.eqvL c c')
  | .iface t v, .iface t' v' => Nat.beq t t' && SV.eqv v v'
  | .agg l, .agg l' => SV.eqvL l l'
  | .tuple l, .tuple l' => SV.eqvL l l'
  | .num k i, .num k' j => k == k' && Nat.beq i j
  | .opq i, .opq j => Nat.beq i j
  | _, _ => false
def SV.eqvL : List SV → List SV → Bool
  | [], [] => true
  | a :: l, b :: m => SV.eqv a b && SV.eqvL l m
  | _, _ => false
end
mutual
theorem eqv_eq : ∀ (a b : SV), SV.eqv a b = true → a = b
  | .lit x, b, h => by
    cases b with
    | lit y => rw [litEq_eq (x := x) (y := y) h]
    | _ => cases h
  | .ptr _ _, b, h => by
    cases b <;> first | (cases h; done) | (simp only [SV.eqv, Bool.and_eq_true] at h; rw [eq_of_beq h.1, eq_of_beq h.2])
  | .slice _ _ _ _, b, h => by
    cases b <;> first | (cases h; done) | (simp only [SV.eqv, Bool.and_eq_true] at h; rw [eq_of_beq h.1, eq_of_beq h.2.1, eq_of_beq h.2.2.1, eq_of_beq h.2.2.2])
  | .row _ _ _ _ _, b, h => by
    cases b <;> first | (cases h; done) | (simp only [SV.eqv, Bool.and_eq_true] at h; rw [eq_of_beq h.1, eq_of_beq h.2.1, eq_of_beq h.2.2.1, eq_of_beq h.2.2.2.1, eq_of_beq h.2.2.2.2])
  | .map _, b, h => by
    cases b <;> first | (cases h; done) | (simp only [SV.eqv] at h; rw [eq_of_beq h])
  | .func f a c, b, h => by
    cases b with
    | func f' a' c' =>
      simp only [SV.eqv, Bool.and_eq_true] at h
      rw [fnEq_eq h.1, eqvL_eq a a' h.2.1, eqvL_eq c c' h.2.2]
    | _ => cases h
  | .iface t v, b, h => by
    cases b with
    | iface t' v' =>
      simp only [SV.eqv, Bool.and_eq_true] at h
      rw [eq_of_beq h.1, eqv_eq v v' h.2]
    | _ => cases h
  | .agg l, b, h => by
    cases b with
    | agg m => rw [eqvL_eq l m h]
    | _ => cases h
  | .tuple l, b, h => by
    cases b with
    | tuple m => rw [eqvL_eq l m h]
    | _ => cases h
  | .num _ _, b, h => by
    cases b <;> first | (cases h; done) | (simp only [SV.eqv, Bool.and_eq_true, beq_iff_eq] at h; rw [h.1, eq_of_beq h.2])
  | .opq _, b, h => by
    cases b <;> first | (cases h; done) | (simp only [SV.eqv] at h; rw [eq_of_beq h])
  | .yield _, b, h => by cases b <;> cases h
  | .tail _ _ _ _, b, h => by cases b <;> cases h
theorem eqvL_eq : ∀ (l m : List SV), SV.eqvL l m = true → l = m
  | [], [], _ => rfl
  | a :: l, b :: m, h => by
    simp only [SV.eqvL, Bool.and_eq_true] at h
    rw [eqv_eq a b h.1, eqvL_eq l m h.2]
  | [], _ :: _, h => by cases h
  | _ :: _, [], h => by cases h
end
def entEq : List (SV × SV × Nat) → List (SV × SV × Nat) → Bool
  | [], [] => true
  | (k, v, c) :: l, (k', v', c') :: m => SV.eqv k k' && (SV.eqv v v' && (Nat.beq c c' && entEq l m))
  | _, _ => false
theorem entEq_eq : ∀ (l m : List (SV × SV × Nat)), entEq l m = true → l = m
  | [], [], _ => rfl
  | (k, v, c) :: l, (k', v', c') :: m, h => by
    simp only [entEq, Bool.and_eq_true] at h
    rw [eqv_eq k k' h.1, eqv_eq v v' h.2.1, eq_of_beq h.2.2.1, entEq_eq l m h.2.2.2]
  | [], _ :: _, h => by cases h
  | _ :: _, [], h => by cases h
def objEq : AObj → AObj → Bool
  | .cells l e, .cells l' e' => Nat.beq e e' && SV.eqvL l l'
  | .row l e k cv s, .row l' e' k' cv' s' => Nat.beq e e' && (Nat.beq k k' && (Nat.beq cv cv' && (Nat.beq s s' && SV.eqvL l l')))
  | .map es c, .map es' c' => Nat.beq c c' && entEq es es'
  | _, _ => false
theorem objEq_eq {a b : AObj} (h : objEq a b = true) : a = b := by
  unfold objEq at h
  split at h
  · simp only [Bool.and_eq_true] at h
    rw [eq_of_beq h.1, eqvL_eq _ _ h.2]
  · simp only [Bool.and_eq_true] at h
    rw [eq_of_beq h.1, eq_of_beq h.2.1, eq_of_beq h.2.2.1, eq_of_beq h.2.2.2.1, eqvL_eq _ _ h.2.2.2.2]
  · simp only [Bool.and_eq_true] at h
    rw [eq_of_beq h.1, entEq_eq _ _ h.2]
  · cases h
abbrev Objs := List (Nat × AObj)
structure Entry where
  f : FuncId
  args : List SV
  objs : Objs
  next : Nat
  outs : List (SV × Objs × Nat)
def tOf : Objs → T AObj → T AObj
  | [], t => t
  | (b, o) :: l, t => tOf l (t.set b o)
def without : Objs → T AObj → T AObj
  | [], t => t
  | (b, _) :: l, t => without l (t.put b none)
def holdsObjs (t : T AObj) : Objs → Bool
  | [] => true
  | (b, o) :: l => (match t.get b with
    | some o' => objEq o' o
    | none => false) && holdsObjs t l
def Entry.hp (e : Entry) : Hp := ⟨tOf e.objs .leaf, e.next⟩
def Entry.fits (e : Entry) (f : FuncId) (args : List SV) (hp : Hp) : Bool := Nat.beq f e.f && (Nat.beq hp.next e.next && (SV.eqvL args e.args && holdsObjs hp.objs e.objs))
def outOf (t : T AObj) (o : SV × Objs × Nat) : Out := ⟨.ret, ⟨.leaf, 0, []⟩, ⟨tOf o.2.1 t, o.2.2⟩, o.1⟩
def memo : List Entry → FuncId → List SV → Hp → R
  | [], _, _, _ => none
  | e :: l, f, args, hp => bif e.fits f args hp then some (e.outs.map (outOf (without e.objs hp.objs))) else memo l f args hp
def stepM (P : Program) (Γ : Glob) (tab : List Entry) (self : Task → R) : Task → R
  | .call f args hp => match memo tab f args hp with
    | some outs => some outs
    | none => stepTask P Γ self (.call f args hp)
  | t => stepTask P Γ self t
def runM (P : Program) (Γ : Glob) (tab : List Entry) (n : Nat) : Task → R := Nat.rec (fun _ => none) (fun _ ih => stepM P Γ tab ih) n
def covers (r : R) (l : List (SV × Objs × Nat)) : Bool := match r with
  | some outs => outs.all fun o => l.any fun x => SV.eqv o.v x.1 && (Nat.beq o.hp.next x.2.2 && holdsObjs o.hp.objs x.2.1)
  | none => false
theorem tOf_get : ∀ (l : Objs) (t : T AObj) (b : Nat) (o : AObj), (tOf l t).get b = some o → (b, o) ∈ l ∨ ((∀ o', (b, o') ∉ l) ∧ t.get b = some o)
  | [], _, _, _, h => .inr ⟨fun _ h => (by cases h), h⟩
  | (b', o') :: l, t, b, o, h => by
    rcases tOf_get l _ b o h with h1 | ⟨h1, h2⟩
    · exact .inl (List.mem_cons_of_mem _ h1)
    · rw [T.get_set] at h2
      by_cases e : b = b'
      · rw [if_pos e] at h2
        cases h2
        rw [e]
        exact .inl (List.mem_cons_self ..)
      · rw [if_neg e] at h2
        refine .inr ⟨fun o2 hm => ?_, h2⟩
        rcases List.mem_cons.1 hm with h3 | h3
        · cases h3; exact e rfl
        · exact h1 o2 h3
theorem tOf_two : ∀ (l : Objs) (t : T AObj) (b : Nat), (∀ t', (tOf l t').get b = (tOf l t).get b) ∨ (tOf l t).get b = t.get b
  | [], _, _ => .inr rfl
  | (b', o') :: l, t, b => by
    rcases tOf_two l (t.set b' o') b with h | h
    · exact .inl fun t' => h _
    · by_cases e : b = b'
      · refine .inl fun t' => ?_
        subst e
        have h2 : (tOf l (t'.set b o')).get b = some o' ∨ (tOf l (t'.set b o')).get b = (tOf l (t.set b o')).get b := by
          rcases tOf_two l (t'.set b o') b with h3 | h3
          · exact .inr (h3 _).symm
          · rw [T.get_set, if_pos rfl] at h3; exact .inl h3
        show (tOf l (t'.set b o')).get b = (tOf l (t.set b o')).get b
        rcases h2 with h2 | h2
        · rw [h2, h, T.get_set, if_pos rfl]
        · exact h2
      · rw [T.get_set, if_neg e] at h
        exact .inr h
theorem without_get : ∀ (l : Objs) (t : T AObj) (b : Nat) (o : AObj), (without l t).get b = some o → (∀ o', (b, o') ∉ l) ∧ t.get b = some o
  | [], _, _, _, h => ⟨fun _ h => (by cases h), h⟩
  | (b', o') :: l, t, b, o, h => by
    obtain ⟨h1, h2⟩ := without_get l _ b o h
    rw [T.get_put] at h2
    by_cases e : b = b'
    · rw [if_pos e] at h2; cases h2
    · rw [if_neg e] at h2
      refine ⟨fun o2 hm => ?_, h2⟩
      rcases List.mem_cons.1 hm with h3 | h3
      · cases h3; exact e rfl
      · exact h1 o2 h3
theorem holds_get : ∀ {l : Objs} {t : T AObj}, holdsObjs t l = true → ∀ x ∈ l, t.get x.1 = some x.2
  | [], _, _, x, hx => by cases hx
  | (b, o) :: l, t, h, x, hx => by
    simp only [holdsObjs, Bool.and_eq_true] at h
    rcases List.mem_cons.1 hx with rfl | hx
    · have h1 := h.1
      split at h1
      · rename_i o' ho
        rw [ho, objEq_eq h1]
      · cases h1
    · exact holds_get h.2 x hx
section
variable {P : Program} {Γ : Env}
structure EntryOk (P : Program) (Γ : Env) (e : Entry) : Prop where
  body : ∃ fn c, P.funcs[e.f]? = some fn ∧ fn.body = some c
  calls : ∀ X w0 θ K w, Rep Γ X w0 θ K e.hp w → SV.okL K e.args → CallsIn Fence.wide 0 P e.f (concL θ e.args).toArray w fun en w' =>
    ∃ o ∈ e.outs, ∃ (θ' : Ren) (K' : Nat → Prop), Grow K θ e.next K' θ' o.2.2 ∧ en = .returned (conc θ' o.1) ∧ o.1.ok K' ∧ Rep Γ X w0 θ' K' ⟨tOf o.2.1 .leaf, o.2.2⟩ w'
theorem tab_cons {e : Entry} {l : List Entry} (h : EntryOk P Γ e) (ht : ∀ x ∈ l, EntryOk P Γ x) : ∀ x ∈ e :: l, EntryOk P Γ x := fun x hx => by
  rcases List.mem_cons.1 hx with rfl | hx
  · exact h
  · exact ht x hx
theorem Entry.fits_spec {e : Entry} {f : FuncId} {args : List SV} {hp : Hp} (h : e.fits f args hp = true) : f = e.f ∧ hp.next = e.next ∧ args = e.args ∧ ∀ x ∈ e.objs, hp.objs.get x.1 = some x.2 := by
  simp only [Entry.fits, Bool.and_eq_true] at h
  exact ⟨eq_of_beq h.1, eq_of_beq h.2.1, eqvL_eq _ _ h.2.2.1, holds_get h.2.2.2⟩
theorem memo_sound : ∀ (tab : List Entry), (∀ e ∈ tab, EntryOk P Γ e) → ∀ f args hp outs, memo tab f args hp = some outs → (∃ fn c, P.funcs[f]? = some fn ∧ fn.body = some c) ∧
    ∀ X w0 θ K w, Rep Γ X w0 θ K hp w → SV.okL K args → CallsIn Fence.wide 0 P f (concL θ args).toArray w (CPost Γ X w0 θ K hp.next outs)
  | [], _, _, _, _, _, h => by cases h
  | e :: l, hall, f, args, hp, outs, h => by
    simp only [memo] at h
    cases hf : e.fits f args hp with
    | false => rw [hf] at h; exact memo_sound l (fun x hx => hall x (List.mem_cons_of_mem _ hx)) f args hp outs h
    | true =>
      rw [hf] at h
      simp only [cond_true, Option.some.injEq] at h
      obtain ⟨rfl, hnx, rfl, hob⟩ := e.fits_spec hf
      obtain ⟨hbody, hcalls⟩ := hall e (List.mem_cons_self ..)
      refine ⟨hbody, fun X w0 θ K w hr hok => ?_⟩
      -- what the entry does not know of stays
      let X' : Nat → Prop := fun k => X k ∨ ∃ b o, (without e.objs hp.objs).get b = some o ∧ θ.blk b = k
      have hlow : ∀ k, X' k → k < w.heap.size := fun k hk => by
        rcases hk with hk | ⟨b, o, hb, rfl⟩
        · have := hr.low k hk; have := hr.size; omega
        · obtain ⟨_, hb⟩ := without_get _ _ _ _ hb
          obtain ⟨_, _, _, ob, hw, _⟩ := hr.obj b o hb
          exact (Array.getElem?_eq_some_iff.1 hw).1
      have hin : ∀ b o, (tOf e.objs .leaf).get b = some o → hp.objs.get b = some o ∧ ∃ o', (b, o') ∈ e.objs := fun b o hb => by
        rcases tOf_get _ _ _ _ hb with h1 | ⟨_, h2⟩
        · exact ⟨hob _ h1, o, h1⟩
        · cases h2
      have hrep : Rep Γ X' w θ K e.hp w := by
        refine ⟨rfl, rfl, rfl, Nat.le_refl _, fun _ _ => rfl, hlow, fun g cs hg => ?_, fun b o hb => ?_, fun b b' o o' hb hb' => ?_, fun i hi => hr.next i (by rw [hnx]; exact hi), Γ.base hr.inv (fun _ h => .inl h) hr.kept hr.size⟩
        · obtain ⟨hx, e, fr, hw⟩ := hr.glob g cs hg
          exact ⟨.inl hx, e, fr, by rw [hr.kept g hx]; exact hw⟩
        · obtain ⟨hb1, o', hm⟩ := hin b o hb
          obtain ⟨k1, k2, k3, k4⟩ := hr.obj b o hb1
          refine ⟨k1, ?_, k3, k4⟩
          rintro (hx | ⟨b', o2, hb', he⟩)
          · exact k2 hx
          · obtain ⟨hn, hb'⟩ := without_get _ _ _ _ hb'
            have := hr.inj b' b o2 o hb' hb1 he
            rw [this] at hn
            exact hn o' hm
        · exact hr.inj b b' o o' (hin b o hb).1 (hin b' o' hb').1
      refine CallsIn.mono (F := Fence.wide) (n := 0) (hcalls X' w θ K w hrep hok) fun en w' he => ?_
      obtain ⟨o, ho, θ', K', hG, rfl, hvok, hr'⟩ := he
      refine ⟨outOf (without e.objs hp.objs) o, by rw [← h]; exact List.mem_map.2 ⟨o, ho, rfl⟩, θ', K', by rw [hnx]; exact hG, rfl, hvok, ?_⟩
      have hext := hG.ext
      have part : ∀ b ob, (tOf o.2.1 (without e.objs hp.objs)).get b = some ob → (tOf o.2.1 .leaf).get b = some ob ∨ (without e.objs hp.objs).get b = some ob := fun b ob hb => by
        rcases tOf_two o.2.1 (without e.objs hp.objs) b with h1 | h1
        · left; rw [h1]; exact hb
        · right; rw [← h1]; exact hb
      have other : ∀ b ob, (without e.objs hp.objs).get b = some ob → K b ∧ hp.objs.get b = some ob ∧ θ'.blk b = θ.blk b ∧ X' (θ'.blk b) := fun b ob hb => by
        obtain ⟨_, hb2⟩ := without_get _ _ _ _ hb
        have k1 := (hr.obj b ob hb2).1
        have k2 := hext.blk b k1
        exact ⟨k1, hb2, k2, .inr ⟨b, ob, hb, k2.symm⟩⟩
      refine ⟨hr'.os.trans hr.os, hr'.tape.trans hr.tape, hr'.output.trans hr.output, Nat.le_trans hr.size hr'.size, fun k hk => (hr'.kept k (.inl hk)).trans (hr.kept k hk), hr.low, hr.glob, fun b ob hb => ?_, fun b1 b2 o1 o2 h1 h2 he => ?_, hr'.next, Γ.ext hr.inv hext hG.mono⟩
      · rcases part b ob hb with h1 | h1
        · obtain ⟨k1, k2, k3, k4⟩ := hr'.obj b ob h1
          exact ⟨k1, fun hx => k2 (.inl hx), k3, k4⟩
        · obtain ⟨k1, hb2, k6, _⟩ := other b ob h1
          obtain ⟨_, k2, k3, ob', k4, k5⟩ := hr.obj b ob hb2
          rw [k6]
          refine ⟨hG.mono b k1, k2, AObj.ok_mono hG.mono _ k3, ob', ?_, ORep_ext hext k3 k5⟩
          rw [hr'.kept _ (.inr ⟨b, ob, h1, rfl⟩)]
          exact k4
      · rcases part b1 o1 h1 with g1 | g1
        · rcases part b2 o2 h2 with g2 | g2
          · exact hr'.inj b1 b2 o1 o2 g1 g2 he
          · obtain ⟨_, _, _, hx⟩ := other b2 o2 g2
            rw [← he] at hx
            exact absurd hx (hr'.obj b1 o1 g1).2.1
        · rcases part b2 o2 h2 with g2 | g2
          · obtain ⟨_, _, _, hx⟩ := other b1 o1 g1
            rw [he] at hx
            exact absurd hx (hr'.obj b2 o2 g2).2.1
          · obtain ⟨_, hb1, e1, _⟩ := other b1 o1 g1
            obtain ⟨_, hb2, e2, _⟩ := other b2 o2 g2
            rw [e1, e2] at he
            exact hr.inj b1 b2 o1 o2 hb1 hb2 he
theorem stepM_sound [AskOk P Γ] (hN : NoCount P) (hmix : P.follows .mixedOrders = true) {tab : List Entry} (htab : ∀ e ∈ tab, EntryOk P Γ e) {self : Task → R} {m : Nat} (hS : Sound P Γ self) (hL : Loops P Γ m self) :
    Sound P Γ (stepM P Γ tab self) ∧ Loops P Γ (m + 1) (stepM P Γ tab self) := by
  obtain ⟨h1, h2⟩ := step_sound hN hmix hS hL
  refine ⟨⟨h1.code, fun f args hp outs hq => ?_, h1.round⟩, h2⟩
  simp only [stepM] at hq
  split at hq
  · rename_i os hos
    simp only [Option.some.injEq] at hq
    subst hq
    exact memo_sound tab htab f args hp _ hos
  · exact h1.call f args hp outs hq
theorem runM_sound [AskOk P Γ] (hN : NoCount P) (hmix : P.follows .mixedOrders = true) {tab : List Entry} (htab : ∀ e ∈ tab, EntryOk P Γ e) : ∀ n, Sound P Γ (runM P Γ tab n) ∧ Loops P Γ n (runM P Γ tab n)
  | 0 => ⟨⟨fun _ _ _ _ _ h => (by cases h), fun _ _ _ _ h => (by cases h), fun _ _ _ _ h => (by cases h)⟩, fun _ _ _ _ _ h => (by cases h)⟩
  | n + 1 => stepM_sound hN hmix htab (runM_sound hN hmix htab n).1 (runM_sound hN hmix htab n).2
theorem entry_ok [AskOk P Γ] (hN : NoCount P) (hmix : P.follows .mixedOrders = true) {tab : List Entry} (htab : ∀ e ∈ tab, EntryOk P Γ e) (n : Nat) (e : Entry) (h : covers (runM P Γ tab n (.call e.f e.args e.hp)) e.outs = true) : EntryOk P Γ e := by
  unfold covers at h
  split at h
  · rename_i outs ho
    obtain ⟨hb, hc⟩ := (runM_sound hN hmix htab n).1.call e.f e.args e.hp outs ho
    refine ⟨hb, fun X w0 θ K w hr hok => CallsIn.mono (F := Fence.wide) (n := 0) (hc X w0 θ K w hr hok) fun en w' he => ?_⟩
    obtain ⟨o, hm, θ', K', hG, rfl, hvok, hr'⟩ := he
    have := List.all_eq_true.1 h o hm
    obtain ⟨x, hx, hxx⟩ := List.any_eq_true.1 this
    simp only [Bool.and_eq_true] at hxx
    have e1 := eqv_eq _ _ hxx.1
    have e2 := eq_of_beq hxx.2.1
    have e3 := holds_get hxx.2.2
    refine ⟨x, hx, θ', K', by rw [← e2]; exact hG, by rw [e1], by rw [← e1]; exact hvok, ?_⟩
    rw [← e2]
    refine hr'.fewer fun b ob hb => ?_
    rcases tOf_get _ _ _ _ hb with h1 | ⟨_, h2⟩
    · exact e3 _ h1
    · cases h2
  · cases h
theorem calls_trueM [AskOk P Γ] (hN : NoCount P) (hmix : P.follows .mixedOrders = true) {tab : List Entry} (htab : ∀ e ∈ tab, EntryOk P Γ e) (n m : Nat) (f : FuncId) (args : List SV) (θ : Ren) (w : World) (hq : allTrue (runM P Γ tab n (.call f args ⟨.leaf, m⟩)) = true)
    (hΓ : globMet Γ w) (hi : Γ.inv (· < w.heap.size) w θ (· < m)) (hok : SV.okL (· < m) args) : Calls P f (concL θ args).toArray w fun e w' => e = .returned (.bool true) ∧ Below w.heap.size w w' := by
  obtain ⟨outs, ho, ht⟩ := allTrue_spec hq
  refine (callsIn_wide.1 (((runM_sound hN hmix htab n).1.call f args ⟨.leaf, m⟩ outs ho).2 _ w θ _ w (rep_start θ m hΓ hi) hok)).mono ?_
  rintro e w' ⟨o, hm, θ', K', _, rfl, _, hrep⟩
  rw [ht o hm]
  exact ⟨rfl, hrep.below⟩
end
end Go.Proofs.YtdhmljjpiainnaaGreatDoor.Ev
