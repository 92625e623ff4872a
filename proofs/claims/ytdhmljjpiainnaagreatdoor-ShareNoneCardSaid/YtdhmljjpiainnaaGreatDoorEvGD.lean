/-
  A REGION THAT DRAWS ITS ORDER (1): what was taken ahead, and that it may come in another order, by the author of this claim. Of any program; no condition. | A REGION THAT DRAWS ITS ORDER (2): operations that were taken ahead, as a chain; any of them that may come now may come first, by the author of this claim. Of any program; no condition. | A REGION THAT DRAWS ITS ORDER (3): the pass that takes operations ahead, by the author of this claim. Of any program; no condition. | A REGION THAT DRAWS ITS ORDER (4): whatever order is drawn, it comes to one of the evaluator's outcomes, by the author of this claim. Of any program in which no function is runtime.NumGoroutine. | A REGION THAT DRAWS ITS ORDER (5): the walk over all orders, by the author of this claim. Of any program in which no function is runtime.NumGoroutine.
-/
import Derived.Test.YtdhmljjpiainnaaGreatDoorEvGC
namespace Go.Proofs.YtdhmljjpiainnaaGreatDoor.Ev
open Go Go.RowKit
def Fact.ok (K : Nat → Prop) : Fact → Prop
  | .cells _ _ vs => SV.okL K vs
  | .obj _ o => o.ok K
section
variable {P : Program} {Γ : Env} {K : Nat → Prop} {h : Hp}
theorem readCells_okF {p : SV} {n : Nat} {vs : List SV} {fs : List Fact} (hq : readCells Γ h p n = some (vs, fs)) (hf : ∀ f ∈ fs, f.ok K) : SV.okL K vs := by
  unfold readCells at hq
  split at hq
  · split at hq
    · simp only [Option.some.injEq, Prod.mk.injEq] at hq
      obtain ⟨rfl, rfl⟩ := hq
      exact hf _ (List.mem_singleton.2 rfl)
    · cases hq
  · split at hq
    · rename_i us hus
      simp only [Option.some.injEq, Prod.mk.injEq] at hq
      obtain ⟨rfl, rfl⟩ := hq
      simp only [Option.bind_eq_some_iff] at hus
      obtain ⟨cs, _, hc⟩ := hus
      exact okL_sub (okL_lits K cs) fun v hv => cut_mem hc hv
    · cases hq
  · cases hq
theorem loadQ_okF {t : TypeId} {p v : SV} {fs : List Fact} (hq : loadQ P Γ h t p = some (v, fs)) (hf : ∀ f ∈ fs, f.ok K) : v.ok K := by
  unfold loadQ at hq
  split at hq
  · split at hq
    · split at hq
      · rename_i hr
        simp only [Option.some.injEq, Prod.mk.injEq] at hq
        obtain ⟨rfl, rfl⟩ := hq
        exact readCells_okF hr hf
      · cases hq
    · cases hq
  · split at hq
    · rename_i hr
      simp only [Option.some.injEq, Prod.mk.injEq] at hq
      obtain ⟨rfl, rfl⟩ := hq
      exact (readCells_okF hr hf).1
    · cases hq
  · cases hq
theorem entriesQ_okF {m : SV} {es : List (SV × SV × Nat)} {fs : List Fact} (hq : entriesQ h m = some (es, fs)) (hf : ∀ f ∈ fs, f.ok K) : ∀ e ∈ es, e.1.ok K ∧ e.2.1.ok K := by
  unfold entriesQ at hq
  split at hq
  · simp only [Option.some.injEq, Prod.mk.injEq] at hq
    obtain ⟨rfl, rfl⟩ := hq
    intro e he; cases he
  · split at hq
    · simp only [Option.some.injEq, Prod.mk.injEq] at hq
      obtain ⟨rfl, rfl⟩ := hq
      exact hf _ (List.mem_singleton.2 rfl)
    · cases hq
  · cases hq
theorem lookupQ_okF {t : TypeId} {m k v : SV} {ok : Bool} {fs : List Fact} (hq : lookupQ P h t m k ok = some (v, fs)) (hf : ∀ f ∈ fs, f.ok K) : v.ok K := by
  unfold lookupQ at hq
  split at hq
  · rename_i hes hk
    split at hq
    · rename_i i v' hck hfd
      simp only [Option.some.injEq, Prod.mk.injEq] at hq
      obtain ⟨rfl, rfl⟩ := hq
      obtain ⟨e, he, rfl⟩ := findQ_mem _ hfd
      have := (entriesQ_okF hes hf e he).2
      cases ok
      · exact this
      · exact ⟨this, trivial, trivial⟩
    · split at hq
      · simp only [Option.some.injEq, Prod.mk.injEq] at hq
        obtain ⟨rfl, rfl⟩ := hq
        cases ok
        · trivial
        · exact ⟨trivial, trivial, trivial⟩
      · cases hq
    · cases hq
  · cases hq
theorem quiet_okF {ρ : Operand → SV} {op : Op} {v : SV} {fs : List Fact} (hq : quiet P Γ h ρ op = some (v, fs)) (hρ : ∀ x ∈ op.operands, (ρ x).ok K) (hf : ∀ f ∈ fs, f.ok K) : v.ok K := by
  unfold quiet at hq
  split at hq
  · simp only [Option.some.injEq, Prod.mk.injEq] at hq
    obtain ⟨rfl, rfl⟩ := hq
    exact hρ _ (by simp [Op.operands])
  · simp only [Option.some.injEq, Prod.mk.injEq] at hq
    obtain ⟨rfl, rfl⟩ := hq
    exact hρ _ (by simp [Op.operands])
  · split at hq
    · rename_i t ht
      simp only [Option.some.injEq, Prod.mk.injEq] at hq
      obtain ⟨rfl, rfl⟩ := hq
      cases t
      · exact hρ _ (by simp [Op.operands])
      · exact hρ _ (by simp [Op.operands])
    · cases hq
  · exact loadQ_okF hq hf
  · rename_i x
    cases hn : nonNil (ρ x) with
    | false => rw [hn] at hq; cases hq
    | true =>
      rw [hn] at hq
      simp only [cond_true, Option.some.injEq, Prod.mk.injEq] at hq
      obtain ⟨rfl, rfl⟩ := hq
      exact hρ _ (by simp [Op.operands])
  · obtain ⟨h1, rfl⟩ := one_spec hq
    exact fieldAddrQ_ok h1 (hρ _ (by simp [Op.operands]))
  · obtain ⟨h1, rfl⟩ := one_spec hq
    exact indexAddrQ_ok h1 (hρ _ (by simp [Op.operands]))
  · rename_i t x i
    split at hq
    · split at hq
      · rename_i f l hfi hx
        obtain ⟨h1, rfl⟩ := one_spec hq
        have := hρ x (by simp [Op.operands])
        rw [hx] at this
        exact partQ_ok h1 this
      · obtain ⟨h1, rfl⟩ := one_spec hq
        exact partQ_ok h1 (okL_lits _ _)
      · cases hq
    · cases hq
  · obtain ⟨h1, rfl⟩ := one_spec hq
    exact indexQ_ok h1 (hρ _ (by simp [Op.operands]))
  · rename_i x i
    split at hq
    · rename_i l hx
      obtain ⟨h1, rfl⟩ := one_spec hq
      have := hρ x (by simp [Op.operands])
      rw [hx] at this
      exact (okL_iff _ _).1 this _ (List.mem_of_getElem? h1)
    · obtain ⟨h1, rfl⟩ := one_spec hq
      rw [Option.map_eq_some_iff] at h1
      obtain ⟨u, _, rfl⟩ := h1
      trivial
    · cases hq
  · rename_i t parts
    obtain ⟨h1, rfl⟩ := one_spec hq
    refine buildQ_ok h1 fun p hp => ?_
    obtain ⟨q, hq, rfl⟩ := List.mem_map.1 hp
    refine hρ _ ?_
    simp only [Op.operands, List.mem_toArray, List.mem_map]
    exact ⟨q, hq, rfl⟩
  · rename_i fn a c
    simp only [Option.some.injEq, Prod.mk.injEq] at hq
    obtain ⟨rfl, rfl⟩ := hq
    refine ⟨(okL_iff _ _).2 fun v hv => ?_, (okL_iff _ _).2 fun v hv => ?_⟩
    · obtain ⟨x, hx, rfl⟩ := List.mem_map.1 hv
      exact hρ _ (by simp only [Op.operands, Array.mem_append]; exact .inl (by simpa using hx))
    · obtain ⟨x, hx, rfl⟩ := List.mem_map.1 hv
      exact hρ _ (by simp only [Op.operands, Array.mem_append]; exact .inr (by simpa using hx))
  · split at hq
    · cases hq
    · simp only [Option.some.injEq, Prod.mk.injEq] at hq
      obtain ⟨rfl, rfl⟩ := hq
      exact hρ _ (by simp [Op.operands])
    · cases hq
  · obtain ⟨h1, rfl⟩ := one_spec hq
    exact binQ_ok h1
  · split at hq
    · obtain ⟨h1, rfl⟩ := one_spec hq
      rw [Option.map_eq_some_iff] at h1
      obtain ⟨u, _, rfl⟩ := h1
      trivial
    · cases hq
  · exact (convertQ_ok hq).1
  · obtain ⟨h1, rfl⟩ := one_spec hq
    exact sliceQ_ok h1 (hρ _ (by simp [Op.operands]))
  · exact lookupQ_okF hq hf
  · obtain ⟨h1, rfl⟩ := one_spec hq
    exact assertQ_ok h1 (hρ _ (by simp [Op.operands]))
  · split at hq
    · exact (lenQ_ok hq).1
    · cases hq
  · split at hq
    · obtain ⟨h1, rfl⟩ := one_spec hq
      rw [Option.map_eq_some_iff] at h1
      obtain ⟨u, _, rfl⟩ := h1
      trivial
    · cases hq
  · split at hq
    · obtain ⟨h1, rfl⟩ := one_spec hq
      rw [Option.map_eq_some_iff] at h1
      obtain ⟨u, _, rfl⟩ := h1
      trivial
    · cases hq
  · cases hq
end
theorem bit_or (a b i : Nat) : (a ||| b).testBit i = (a.testBit i || b.testBit i) := Nat.testBit_or a b i
theorem bit_pow (n m : Nat) : (2 ^ n).testBit m = decide (n = m) := Nat.testBit_two_pow
theorem bit_set (a n i : Nat) : (a ||| 2 ^ n).testBit i = (a.testBit i || decide (n = i)) := by rw [bit_or, bit_pow]
theorem land_zero {a b : Nat} (h : Nat.beq (Nat.land a b) 0 = true) (i : Nat) (ha : a.testBit i = true) : b.testBit i = false := by
  have h0 : a &&& b = 0 := eq_of_beq h
  have := Nat.testBit_and a b i
  rw [h0, ha] at this
  simpa using this.symm
theorem land_nonzero {a b : Nat} (h : Nat.beq (Nat.land a b) 0 = false) : ∃ i, a.testBit i = true ∧ b.testBit i = true := by
  have h0 : a &&& b ≠ 0 := ne_of_beq h
  obtain ⟨i, hi⟩ := Nat.exists_testBit_of_ne_zero h0
  rw [Nat.testBit_and, Bool.and_eq_true] at hi
  exact ⟨i, hi⟩
theorem land_sub {a b : Nat} (h : Nat.beq (Nat.land a b) a = true) (i : Nat) (ha : a.testBit i = true) : b.testBit i = true := by
  have h0 : a &&& b = a := eq_of_beq h
  have := Nat.testBit_and a b i
  rw [h0, ha] at this
  simpa using this.symm
theorem depsOf_bit (o : Oper) (k : Nat) : (depsOf o).testBit k = true ↔ ∃ e ∈ o.after, Region.binds .any e = true ∧ e.on = k := by
  unfold depsOf
  rw [← Array.foldl_toList]
  have key : ∀ (l : List Edge) (s : Nat), (l.foldl (fun s e => bif Region.binds .any e then s ||| 2 ^ e.on else s) s).testBit k = true ↔ s.testBit k = true ∨ ∃ e ∈ l, Region.binds .any e = true ∧ e.on = k := by
    intro l
    induction l with
    | nil => intro s; simp
    | cons e l ih =>
      intro s
      rw [List.foldl_cons, ih]
      cases hb : Region.binds .any e with
      | false =>
        simp only [cond_false, List.mem_cons, exists_eq_or_imp, hb, Bool.false_eq_true, false_and, false_or]
      | true =>
        simp only [cond_true, bit_set, Bool.or_eq_true, decide_eq_true_eq, List.mem_cons, exists_eq_or_imp, hb, true_and]
        rw [or_assoc]
  rw [key]
  simp
theorem looksBits_bit {ops : Array Oper} {o : Oper} {t : Nat} (h : t ∈ o.looksAt ops) : (looksBits ops o).testBit t = true := by
  unfold looksBits
  have key : ∀ (l : List Tmp) (s : Nat), (s.testBit t = true ∨ t ∈ l) → (l.foldl (fun s t => s ||| 2 ^ t) s).testBit t = true := by
    intro l
    induction l with
    | nil => intro s h; simpa using h
    | cons e l ih =>
      intro s h
      rw [List.foldl_cons]
      refine ih _ ?_
      rcases h with h | h
      · left; rw [bit_set, h]; rfl
      · rcases List.mem_cons.1 h with rfl | h
        · left; rw [bit_set]; simp
        · exact .inr h
  exact key _ _ (.inr h)
theorem dstBits_bit {o : Oper} {d : Nat} (h : o.dst = some d) : (dstBits o).testBit d = true := by
  unfold dstBits
  rw [h, bit_pow]; simp
structure Fit (ops : Array Oper) : Prop where
  sel : ∀ (j : Nat) (o : Oper), ops[j]? = some o → isSelect o.op = false ∧ isDefer o.op = false
  low : ∀ (j : Nat) (o : Oper) (k : Nat), ops[j]? = some o → (depsOf o).testBit k = true → k < j
  apart : ∀ (i j : Nat) (oi oj : Oper), ops[i]? = some oi → ops[j]? = some oj → i ≠ j → (depsOf oj).testBit i = false → (depsOf oi).testBit j = false →
    ∀ d, oi.dst = some d → d ∉ oj.looksAt ops ∧ oj.dst ≠ some d
theorem apartFrom_spec {ops : Array Oper} {j d l deps : Nat} (L : List Oper) : ∀ {i0 : Nat}, apartFrom ops j d l L i0 deps = true → ∀ (k : Nat) (o : Oper), L[k]? = some o → i0 + k = j ∨ deps.testBit (i0 + k) = true ∨
    (Nat.beq (Nat.land (dstBits o) (l ||| d)) 0 = true ∧ Nat.beq (Nat.land d (looksBits ops o)) 0 = true) := by
  induction L with
  | nil => intro i0 _ k o h; cases h
  | cons o L ih =>
    intro i0 h k o' hk
    simp only [apartFrom, Bool.and_eq_true] at h
    obtain ⟨h1, h2⟩ := h
    cases k with
    | zero =>
      simp only [List.getElem?_cons_zero, Option.some.injEq] at hk
      subst hk
      rw [Nat.add_zero]
      cases hb : Nat.beq i0 j with
      | true => exact .inl (eq_of_beq hb)
      | false =>
        rw [hb] at h1
        simp only [cond_false] at h1
        cases hd : deps.testBit i0 with
        | true => exact .inr (.inl rfl)
        | false =>
          rw [hd] at h1
          simp only [cond_false, Bool.and_eq_true] at h1
          exact .inr (.inr h1)
    | succ k =>
      have := ih h2 k o' (by simpa using hk)
      rwa [show i0 + (k + 1) = i0 + 1 + k by omega]
theorem regionFit_spec {ops : Array Oper} (L : List Oper) : ∀ {j0 : Nat}, regionFit ops L j0 = true → ∀ (k : Nat) (o : Oper), L[k]? = some o →
    isSelect o.op = false ∧ isDefer o.op = false ∧ depsOf o < 2 ^ (j0 + k) ∧ apartFrom ops (j0 + k) (dstBits o) (looksBits ops o) (ops.toList.take (j0 + k)) 0 (depsOf o) = true := by
  induction L with
  | nil => intro j0 _ k o h; cases h
  | cons o L ih =>
    intro j0 h k o' hk
    simp only [regionFit, Bool.and_eq_true, Bool.not_eq_true'] at h
    obtain ⟨⟨⟨⟨h1, h2⟩, h3⟩, h4⟩, h5⟩ := h
    cases k with
    | zero =>
      simp only [List.getElem?_cons_zero, Option.some.injEq] at hk
      subst hk
      exact ⟨h1, h2, lt_of_blt h3, h4⟩
    | succ k =>
      have := ih h5 k o' (by simpa using hk)
      rwa [show j0 + 1 + k = j0 + (k + 1) by omega] at this
theorem Fit.of {ops : Array Oper} (h : regionFit ops ops.toList 0 = true) : Fit ops := by
  have spec := fun (j : Nat) (o : Oper) (hj : ops[j]? = some o) => regionFit_spec ops.toList h j o (by rw [Array.getElem?_toList]; exact hj)
  simp only [Nat.zero_add] at spec
  have pair : ∀ (i j : Nat) (oi oj : Oper), ops[i]? = some oi → ops[j]? = some oj → i < j → (depsOf oj).testBit i = false →
      (∀ d, oi.dst = some d → d ∉ oj.looksAt ops ∧ oj.dst ≠ some d) ∧ (∀ d, oj.dst = some d → d ∉ oi.looksAt ops) := by
    intro i j oi oj hi hj hlt hdep
    obtain ⟨_, _, _, h4⟩ := spec j oj hj
    have := apartFrom_spec (ops.toList.take j) h4 i oi (by rw [List.getElem?_take_of_lt hlt, Array.getElem?_toList]; exact hi)
    rw [Nat.zero_add] at this
    rcases this with e | e | ⟨e1, e2⟩
    · omega
    · rw [hdep] at e; cases e
    · refine ⟨fun d hd => ?_, fun d hd hin => ?_⟩
      · have hb := land_zero e1 d (dstBits_bit hd)
        rw [bit_or, Bool.or_eq_false_iff] at hb
        refine ⟨fun hin => ?_, fun he => ?_⟩
        · rw [looksBits_bit hin] at hb; cases hb.1
        · rw [dstBits_bit he] at hb; cases hb.2
      · have hb := land_zero e2 d (dstBits_bit hd)
        rw [looksBits_bit hin] at hb; cases hb
  refine ⟨fun j o hj => ⟨(spec j o hj).1, (spec j o hj).2.1⟩, fun j o k hj hk => ?_, fun i j oi oj hi hj hne hd1 hd2 d hd => ?_⟩
  · have hlt := (spec j o hj).2.2.1
    rcases Nat.lt_or_ge k j with h' | h'
    · exact h'
    · have : (depsOf o).testBit k = false := Nat.testBit_lt_two_pow (Nat.lt_of_lt_of_le hlt (Nat.pow_le_pow_right (by omega) h'))
      rw [this] at hk; cases hk
  · rcases Nat.lt_or_gt_of_ne hne with hlt | hgt
    · exact (pair i j oi oj hi hj hlt hd1).1 d hd
    · obtain ⟨p1, p2⟩ := pair j i oj oi hj hi hgt hd2
      exact ⟨p2 d hd, fun he => (p1 d he).2 hd⟩
theorem descOf_mono (i : Nat) (l : List Oper) : ∀ (k d x : Nat), d.testBit x = true → (descOf i l k d).testBit x = true := by
  induction l with
  | nil => intro k d x h; exact h
  | cons o l ih =>
    intro k d x h
    rw [descOf]
    refine ih _ _ _ ?_
    cases Nat.beq (Nat.land (depsOf o) (d ||| 2 ^ i)) 0 with
    | true => exact h
    | false => rw [cond_false, bit_set, h]; rfl
theorem descOf_direct (i : Nat) (l : List Oper) : ∀ (k d m : Nat) (o : Oper), l[m]? = some o → (depsOf o).testBit i = true → (descOf i l k d).testBit (k + m) = true := by
  induction l with
  | nil => intro k d m o h; cases h
  | cons o l ih =>
    intro k d m o' h hd
    rw [descOf]
    cases m with
    | zero =>
      simp only [List.getElem?_cons_zero, Option.some.injEq] at h
      subst h
      refine descOf_mono i l _ _ _ ?_
      have : Nat.beq (Nat.land (depsOf o) (d ||| 2 ^ i)) 0 = false := by
        cases hb : Nat.beq (Nat.land (depsOf o) (d ||| 2 ^ i)) 0 with
        | false => rfl
        | true =>
          have := land_zero hb i hd
          rw [bit_set] at this
          simp at this
      rw [this, cond_false, bit_set]
      simp
    | succ m =>
      have := ih (k + 1) (bif Nat.beq (Nat.land (depsOf o) (d ||| 2 ^ i)) 0 then d else d ||| 2 ^ k) m o' (by simpa using h) hd
      rwa [show k + 1 + m = k + (m + 1) by omega] at this
theorem descOf_sound (i : Nat) {ops : Array Oper} (l : List Oper) : ∀ (k d : Nat), (∀ m, l[m]? = ops[k + m]?) → (∀ x, d.testBit x = true → ∃ o, ops[x]? = some o ∧ ∃ e, (depsOf o).testBit e = true ∧ (e = i ∨ d.testBit e = true)) →
    ∀ x, (descOf i l k d).testBit x = true → ∃ o, ops[x]? = some o ∧ ∃ e, (depsOf o).testBit e = true ∧ (e = i ∨ (descOf i l k d).testBit e = true) := by
  induction l with
  | nil => intro k d _ h; exact h
  | cons o l ih =>
    intro k d hl h
    rw [descOf]
    refine ih _ _ (fun m => by have := hl (m + 1); rw [List.getElem?_cons_succ] at this; rw [this]; congr 1; omega) ?_
    cases hb : Nat.beq (Nat.land (depsOf o) (d ||| 2 ^ i)) 0 with
    | true => simpa using h
    | false =>
      obtain ⟨e, he1, he2⟩ := land_nonzero hb
      rw [bit_set, Bool.or_eq_true, decide_eq_true_eq] at he2
      intro x hx
      simp only [cond_false, bit_set, Bool.or_eq_true, decide_eq_true_eq] at hx ⊢
      rcases hx with hx | rfl
      · obtain ⟨o', ho', e', h1, h2⟩ := h x hx
        exact ⟨o', ho', e', h1, h2.imp id .inl⟩
      · refine ⟨o, by have := hl 0; simpa using this.symm, e, he1, ?_⟩
        rcases he2 with h2 | h2
        · exact .inr (.inl h2)
        · exact .inl h2.symm
open Go Go.RowKit
structure Rec where
  i : Nat
  o : Oper
  want : Bool
  v : SV
  facts : List Fact
  chg : Option (Nat × AObj)
  new : Bool
  desc : Nat
def FactT (t : T AObj) (f : Fact) : Prop := FactA ⟨t, 0⟩ f
theorem FactT.congr {t t' : T AObj} {f : Fact} (h : t'.get f.blk = t.get f.blk) (hf : FactT t f) : FactT t' f := by
  cases f with
  | cells b off vs =>
    have h' : t'.get b = t.get b := h
    simp only [FactT, FactA, knownCells] at hf ⊢
    rw [h']; exact hf
  | obj b o =>
    have h' : t'.get b = t.get b := h
    simp only [FactT, FactA] at hf ⊢
    rw [h']; exact hf
theorem FactT.ofA {h : Hp} {f : Fact} (hf : FactA h f) : FactT h.objs f := by
  cases f <;> exact hf
theorem FactT.toA {t : T AObj} {n : Nat} {f : Fact} (hf : FactT t f) : FactA ⟨t, n⟩ f := by
  cases f <;> exact hf
section
variable (P : Program) (Γ : Env) (ops : Array Oper)
def Agr (θ : Ren) (K : Nat → Prop) (f : Fr) (a : Act) (o : Oper) : Prop :=
  a.tmps.size = f.sz ∧ ∀ t ∈ o.looksAt ops, a.tmps.getD t undef = conc θ (f.ev (.tmp t)) ∧ (f.ev (.tmp t)).ok K
structure Does (p : Rec) (f : Fr) (t : T AObj) : Prop where
  guard : ∀ θ K a, Agr ops θ K f a p.o → Region.wanted p.o (yielded ops a.tmps) = p.want
  does : (p.want = false ∧ p.v = .lit undef ∧ p.facts = [] ∧ p.chg = none) ∨
    (p.want = true ∧ p.chg = none ∧ (∀ fc ∈ p.facts, FactT t fc) ∧ ∀ θ K a, Agr ops θ K f a p.o → AskH P Γ θ K → ((∀ fc ∈ p.facts, fc.ok K) → p.v.ok K) ∧
      ∀ w, GlobW Γ w → (∀ fc ∈ p.facts, FactW θ w fc) → (execOp a.eval p.o).run P w = .ok (.value (conc θ p.v)) w) ∨
    (p.want = true ∧ p.facts = [] ∧ p.new = true ∧ ∃ b ob, p.chg = some (b, ob) ∧ t.get b = none ∧ p.v.ok (· = b) ∧ ∀ θ K a, Agr ops θ K f a p.o → ob.ok K ∧
      ∀ w, ∃ ob', (execOp a.eval p.o).run P w = .ok (.value (conc (θ.bind b w.heap.size 0) p.v)) (w.alloc ob') ∧ ORep θ ob ob') ∨
    (p.want = true ∧ p.facts = [] ∧ p.new = false ∧ ∃ b ob old, p.chg = some (b, ob) ∧ t.get b = some old ∧ p.v = .lit undef ∧ ∀ X w0 θ K a h w, Agr ops θ K f a p.o → Rep Γ X w0 θ K h w → h.objs.get b = some old →
      ∃ w', (execOp a.eval p.o).run P w = .ok .skip w' ∧ Rep Γ X w0 θ K (h.upd b ob) w')
structure FEq (f g : Fr) : Prop where
  sz : f.sz = g.sz
  marks : f.marks = g.marks
  tmps : ∀ t, f.tmps.get t = g.tmps.get t
structure FPut (f : Fr) (p : Rec) (g : Fr) : Prop where
  sz : g.sz = f.sz
  marks : g.marks = f.marks
  tmps : ∀ t, g.tmps.get t = if p.o.dst = some t then some p.v else f.tmps.get t
  lt : ∀ d, p.o.dst = some d → d < f.sz
def HChg (t : T AObj) (p : Rec) (t' : T AObj) : Prop := ∀ b, t'.get b = match p.chg with
  | some (b', ob) => if b = b' then some ob else t.get b
  | none => t.get b
def Chain : List Rec → Fr → T AObj → Fr → T AObj → Prop
  | [], f, t, fr, hp => FEq f fr ∧ ∀ b, t.get b = hp.get b
  | p :: rest, f, t, fr, hp => Does P Γ ops p f t ∧ ∃ f1 t1, FPut f p f1 ∧ HChg t p t1 ∧ Chain rest f1 t1 fr hp
def Rec.on (p : Rec) (b : Nat) : Prop := (∃ fc ∈ p.facts, fc.blk = b) ∨ ∃ ob, p.chg = some (b, ob)
structure Ind (p q : Rec) : Prop where
  pq : ∀ d, p.o.dst = some d → d ∉ q.o.looksAt ops ∧ q.o.dst ≠ some d
  qp : ∀ d, q.o.dst = some d → d ∉ p.o.looksAt ops
  bp : ∀ b ob, p.chg = some (b, ob) → ¬ q.on b
  bq : ∀ b ob, q.chg = some (b, ob) → ¬ p.on b
end
section
variable {P : Program} {Γ : Env} {ops : Array Oper}
theorem FEq.ev {f g : Fr} (h : FEq f g) (x : Operand) : f.ev x = g.ev x := by
  cases x with
  | tmp t => simp only [Fr.ev, h.tmps t]
  | _ => rfl
theorem FPut.ev {f g : Fr} {p : Rec} (h : FPut f p g) {t : Nat} (hne : p.o.dst ≠ some t) : g.ev (.tmp t) = f.ev (.tmp t) := by
  simp only [Fr.ev, h.tmps t, if_neg hne]
theorem Agr.congr {θ : Ren} {K : Nat → Prop} {f g : Fr} {a : Act} {o : Oper} (hs : g.sz = f.sz) (he : ∀ t ∈ o.looksAt ops, g.ev (.tmp t) = f.ev (.tmp t)) (h : Agr ops θ K g a o) : Agr ops θ K f a o :=
  ⟨h.1.trans hs, fun t ht => by rw [← he t ht]; exact h.2 t ht⟩
theorem Does.congr {p : Rec} {f g : Fr} {t s : T AObj} (hs : g.sz = f.sz) (he : ∀ t ∈ p.o.looksAt ops, g.ev (.tmp t) = f.ev (.tmp t)) (hb : ∀ b, p.on b → s.get b = t.get b) (h : Does P Γ ops p f t) : Does P Γ ops p g s := by
  have ag : ∀ {θ K a}, Agr ops θ K g a p.o → Agr ops θ K f a p.o := fun h => h.congr hs he
  refine ⟨fun θ K a ha => h.guard θ K a (ag ha), ?_⟩
  rcases h.does with h1 | ⟨w1, c1, f1, r1⟩ | ⟨w1, f1, n1, b, ob, c1, g1, v1, r1⟩ | ⟨w1, f1, n1, b, ob, old, c1, g1, v1, r1⟩
  · exact .inl h1
  · exact .inr (.inl ⟨w1, c1, fun fc hfc => (f1 fc hfc).congr (hb _ (.inl ⟨fc, hfc, rfl⟩)), fun θ K a ha => r1 θ K a (ag ha)⟩)
  · exact .inr (.inr (.inl ⟨w1, f1, n1, b, ob, c1, by rw [hb b (.inr ⟨ob, c1⟩)]; exact g1, v1, fun θ K a ha => r1 θ K a (ag ha)⟩))
  · exact .inr (.inr (.inr ⟨w1, f1, n1, b, ob, old, c1, by rw [hb b (.inr ⟨ob, c1⟩)]; exact g1, v1, fun X w0 θ K a h w ha => r1 X w0 θ K a h w (ag ha)⟩))
theorem Chain.start {pd : List Rec} : ∀ {f f' : Fr} {t t' : T AObj} {fr : Fr} {hp : T AObj}, FEq f' f → (∀ b, t'.get b = t.get b) → Chain P Γ ops pd f t fr hp → Chain P Γ ops pd f' t' fr hp := by
  cases pd with
  | nil => intro f f' t t' fr hp hf ht h; exact ⟨⟨hf.sz.trans h.1.sz, hf.marks.trans h.1.marks, fun x => (hf.tmps x).trans (h.1.tmps x)⟩, fun b => (ht b).trans (h.2 b)⟩
  | cons p rest =>
    intro f f' t t' fr hp hf ht h
    obtain ⟨hd, f1, t1, hp1, hc1, hr⟩ := h
    refine ⟨hd.congr hf.sz (fun x _ => hf.ev _) fun b _ => ht b, f1, t1, ⟨hp1.sz.trans hf.sz.symm, hp1.marks.trans hf.marks.symm, fun x => by rw [hp1.tmps x, hf.tmps x], fun d hd => by rw [hf.sz]; exact hp1.lt d hd⟩, fun b => ?_, hr⟩
    rw [hc1 b]
    cases p.chg with
    | none => exact (ht b).symm
    | some c => obtain ⟨b', ob⟩ := c; simp only; split
                · rfl
                · exact (ht b).symm
theorem put_exists (f : Fr) (p : Rec) (h : ∀ d, p.o.dst = some d → d < f.sz) : ∃ g, FPut f p g := by
  cases hd : p.o.dst with
  | none => exact ⟨f, rfl, rfl, fun t => by rw [hd, if_neg (by simp)], fun d he => by rw [hd] at he; cases he⟩
  | some d => exact ⟨{ f with tmps := f.tmps.set d p.v }, rfl, rfl, fun t => by
      simp only [T.get_set, hd, Option.some.injEq]
      by_cases e : t = d
      · rw [if_pos e, if_pos e.symm]
      · rw [if_neg e, if_neg (fun e' => e e'.symm)], fun d' he => by rw [hd] at he; cases he; exact h d hd⟩
theorem chg_exists (t : T AObj) (p : Rec) : ∃ t', HChg t p t' := by
  cases hc : p.chg with
  | none => exact ⟨t, fun b => by rw [hc]⟩
  | some c => obtain ⟨b', ob⟩ := c; exact ⟨t.set b' ob, fun b => by rw [hc]; exact T.get_set _ _ _ _⟩
theorem Chain.swap {p q : Rec} {rest : List Rec} {f fr : Fr} {t hp : T AObj} (hi : Ind ops p q) (h : Chain P Γ ops (p :: q :: rest) f t fr hp) : Chain P Γ ops (q :: p :: rest) f t fr hp := by
  obtain ⟨dp, f1, t1, fp, hcp, dq, f2, t2, fq, hcq, hr⟩ := h
  have ht1 : ∀ b, q.on b → t1.get b = t.get b := fun b hb => by
    rw [hcp b]
    cases hc : p.chg with
    | none => rfl
    | some c =>
      obtain ⟨b', ob⟩ := c
      simp only
      rw [if_neg (fun e : b = b' => hi.bp b' ob hc (e ▸ hb))]
  have hev1 : ∀ x ∈ q.o.looksAt ops, f1.ev (.tmp x) = f.ev (.tmp x) := fun x hx => fp.ev fun e => (hi.pq x e).1 hx
  have dq' : Does P Γ ops q f t := dq.congr fp.sz.symm (fun x hx => (hev1 x hx).symm) fun b hb => (ht1 b hb).symm
  obtain ⟨g1, hg1⟩ := put_exists f q (fun d hd => by rw [← fp.sz]; exact fq.lt d hd)
  obtain ⟨s1, hs1⟩ := chg_exists t q
  have dp' : Does P Γ ops p g1 s1 := dp.congr hg1.sz (fun x hx => hg1.ev fun e => hi.qp x e hx) fun b hb => by
    rw [hs1 b]
    cases hc : q.chg with
    | none => rfl
    | some c =>
      obtain ⟨b', ob⟩ := c
      simp only
      rw [if_neg (fun e : b = b' => hi.bq b' ob hc (e ▸ hb))]
  obtain ⟨g2, hg2⟩ := put_exists g1 p (fun d hd => by rw [hg1.sz]; exact fp.lt d hd)
  obtain ⟨s2, hs2⟩ := chg_exists s1 p
  refine ⟨dq', g1, s1, hg1, hs1, dp', g2, s2, hg2, hs2, hr.start ⟨?_, ?_, fun x => ?_⟩ fun b => ?_⟩
  · rw [hg2.sz, hg1.sz, fq.sz, fp.sz]
  · rw [hg2.marks, hg1.marks, fq.marks, fp.marks]
  · rw [hg2.tmps x, hg1.tmps x, fq.tmps x, fp.tmps x]
    by_cases e1 : p.o.dst = some x
    · rw [if_pos e1, if_neg (hi.pq x e1).2, if_pos e1]
    · rw [if_neg e1, if_neg e1]
  · rw [hs2 b, hs1 b, hcq b, hcp b]
    cases hc : p.chg with
    | none => rfl
    | some c =>
      obtain ⟨b1, o1⟩ := c
      cases hc2 : q.chg with
      | none => rfl
      | some c2 =>
        obtain ⟨b2, o2⟩ := c2
        simp only
        by_cases e1 : b = b1
        · rw [if_pos e1]
          have hne : ¬ b = b2 := fun e2 => hi.bp b1 o1 hc (.inr ⟨o2, by rw [← e1, e2]; exact hc2⟩)
          rw [if_neg hne, if_pos e1]
        · rw [if_neg e1, if_neg e1]
theorem Chain.first {p : Rec} {post : List Rec} {fr : Fr} {hp : T AObj} : ∀ (pre : List Rec) {f : Fr} {t : T AObj}, (∀ q ∈ pre, Ind ops q p) → Chain P Γ ops (pre ++ p :: post) f t fr hp → Chain P Γ ops (p :: (pre ++ post)) f t fr hp := by
  intro pre
  induction pre with
  | nil => intro f t _ h; exact h
  | cons q pre ih =>
    intro f t hi h
    obtain ⟨dq, f1, t1, fq, hcq, hr⟩ := h
    have := ih (fun x hx => hi x (List.mem_cons_of_mem _ hx)) hr
    exact Chain.swap (hi q (List.mem_cons_self ..)) ⟨dq, f1, t1, fq, hcq, this⟩
theorem Chain.snoc {p : Rec} {fr fr' : Fr} {hp hp' : T AObj} : ∀ (pd : List Rec) {f : Fr} {t : T AObj}, Chain P Γ ops pd f t fr hp → Does P Γ ops p fr hp → FPut fr p fr' → HChg hp p hp' → Chain P Γ ops (pd ++ [p]) f t fr' hp' := by
  intro pd
  induction pd with
  | nil =>
    intro f t h hd hf hc
    refine ⟨hd.congr h.1.sz (fun x _ => h.1.ev _) fun b _ => h.2 b, fr', hp', ⟨hf.sz.trans h.1.sz.symm, hf.marks.trans h.1.marks.symm, fun x => by rw [hf.tmps x, h.1.tmps x], fun d hd => by rw [h.1.sz]; exact hf.lt d hd⟩, fun b => ?_, ⟨rfl, rfl, fun _ => rfl⟩, fun _ => rfl⟩
    rw [hc b]
    cases p.chg with
    | none => exact (h.2 b).symm
    | some c => obtain ⟨b', ob⟩ := c; simp only; split
                · rfl
                · exact (h.2 b).symm
  | cons q pd ih =>
    intro f t h hd hf hc
    obtain ⟨dq, f1, t1, fq, hcq, hr⟩ := h
    exact ⟨dq, f1, t1, fq, hcq, ih hr hd hf hc⟩
theorem Chain.block {fr : Fr} {hp : T AObj} : ∀ (pd : List Rec) {f : Fr} {t : T AObj} (b : Nat), Chain P Γ ops pd f t fr hp → (∀ p ∈ pd, ∀ ob, p.chg ≠ some (b, ob)) → t.get b = hp.get b := by
  intro pd
  induction pd with
  | nil => intro f t b h _; exact h.2 b
  | cons p pd ih =>
    intro f t b h hn
    obtain ⟨_, f1, t1, _, hc, hr⟩ := h
    rw [← ih b hr fun q hq => hn q (List.mem_cons_of_mem _ hq), hc b]
    cases hch : p.chg with
    | none => rfl
    | some c =>
      obtain ⟨b', ob⟩ := c
      simp only
      rw [if_neg (fun e => hn p (List.mem_cons_self ..) ob (by rw [hch, e]))]
theorem Chain.slot {fr : Fr} {hp : T AObj} : ∀ (pd : List Rec) {f : Fr} {t : T AObj} (x : Nat), Chain P Γ ops pd f t fr hp → (∀ p ∈ pd, p.o.dst ≠ some x) → f.ev (.tmp x) = fr.ev (.tmp x) := by
  intro pd
  induction pd with
  | nil => intro f t x h _; exact h.1.ev _
  | cons p pd ih =>
    intro f t x h hn
    obtain ⟨_, f1, t1, fp, _, hr⟩ := h
    rw [← ih x hr fun q hq => hn q (List.mem_cons_of_mem _ hq), fp.ev (hn p (List.mem_cons_self ..))]
theorem Chain.size {fr : Fr} {hp : T AObj} : ∀ (pd : List Rec) {f : Fr} {t : T AObj}, Chain P Γ ops pd f t fr hp → f.sz = fr.sz ∧ f.marks = fr.marks := by
  intro pd
  induction pd with
  | nil => intro f t h; exact ⟨h.1.sz, h.1.marks⟩
  | cons p pd ih =>
    intro f t h
    obtain ⟨_, f1, t1, fp, _, hr⟩ := h
    obtain ⟨h1, h2⟩ := ih hr
    exact ⟨fp.sz.symm.trans h1, fp.marks.symm.trans h2⟩
theorem Chain.rebase {g : Nat → Bool} {d : Option Tmp} {v : SV} {r : T AObj} : ∀ (pd : List Rec) {f f' fr fr' : Fr} {t t' hp hp' : T AObj},
    Chain P Γ ops pd f t fr hp → f'.sz = f.sz → fr'.sz = fr.sz → f'.marks = fr'.marks → (∀ x, f'.tmps.get x = if d = some x then some v else f.tmps.get x) → (∀ x, fr'.tmps.get x = if d = some x then some v else fr.tmps.get x) →
    (∀ p ∈ pd, ∀ x, d = some x → x ∉ p.o.looksAt ops ∧ p.o.dst ≠ some x) →
    (∀ b, g b = true → t'.get b = t.get b) → (∀ b, g b = false → t'.get b = r.get b) → (∀ b, g b = true → hp'.get b = hp.get b) → (∀ b, g b = false → hp'.get b = r.get b) →
    (∀ p ∈ pd, ∀ b ob, p.chg = some (b, ob) → g b = true) → (∀ p ∈ pd, ∀ fc ∈ p.facts, g fc.blk = false → FactT r fc) → Chain P Γ ops pd f' t' fr' hp' := by
  intro pd
  induction pd with
  | nil =>
    intro f f' fr fr' t t' hp hp' h s1 s2 m1 e1 e2 _ g1 g2 g3 g4 _ _
    refine ⟨⟨by rw [s1, s2]; exact h.1.sz, m1, fun x => ?_⟩, fun b => ?_⟩
    · rw [e1 x, e2 x, h.1.tmps x]
    · cases hg : g b with
      | true => rw [g1 b hg, g3 b hg]; exact h.2 b
      | false => rw [g2 b hg, g4 b hg]
  | cons p pd ih =>
    intro f f' fr fr' t t' hp hp' h s1 s2 m1 e1 e2 hap g1 g2 g3 g4 hch hfa
    obtain ⟨dp, f1, t1, fp, hc, hr⟩ := h
    have hpa := hap p (List.mem_cons_self ..)
    have hev : ∀ x ∈ p.o.looksAt ops, f'.ev (.tmp x) = f.ev (.tmp x) := fun x hx => by
      simp only [Fr.ev, e1 x]
      rw [if_neg (fun e => (hpa x e).1 hx)]
    have dp' : Does P Γ ops p f' t' := by
      have ag : ∀ {θ K a}, Agr ops θ K f' a p.o → Agr ops θ K f a p.o := fun h => h.congr s1 hev
      refine ⟨fun θ K a ha => dp.guard θ K a (ag ha), ?_⟩
      rcases dp.does with h1 | ⟨w1, c1, fa1, r1⟩ | ⟨w1, fa1, n1, b, ob, c1, gg1, v1, r1⟩ | ⟨w1, fa1, n1, b, ob, old, c1, gg1, v1, r1⟩
      · exact .inl h1
      · refine .inr (.inl ⟨w1, c1, fun fc hfc => ?_, fun θ K a ha => r1 θ K a (ag ha)⟩)
        cases hg : g fc.blk with
        | true => exact (fa1 fc hfc).congr (g1 _ hg)
        | false => exact (hfa p (List.mem_cons_self ..) fc hfc hg).congr (g2 _ hg)
      · exact .inr (.inr (.inl ⟨w1, fa1, n1, b, ob, c1, by rw [g1 b (hch p (List.mem_cons_self ..) b ob c1)]; exact gg1, v1, fun θ K a ha => r1 θ K a (ag ha)⟩))
      · exact .inr (.inr (.inr ⟨w1, fa1, n1, b, ob, old, c1, by rw [g1 b (hch p (List.mem_cons_self ..) b ob c1)]; exact gg1, v1, fun X w0 θ K a h w ha => r1 X w0 θ K a h w (ag ha)⟩))
    obtain ⟨f1', hf1'⟩ := put_exists f' p (fun x hx => by rw [s1]; exact fp.lt x hx)
    obtain ⟨t1', ht1'⟩ := chg_exists t' p
    refine ⟨dp', f1', t1', hf1', ht1', ih hr (by rw [hf1'.sz, s1, fp.sz]) s2 (by rw [hf1'.marks]; exact m1) (fun x => ?_) e2 (fun q hq => hap q (List.mem_cons_of_mem _ hq)) (fun b hb => ?_) (fun b hb => ?_) g3 g4
      (fun q hq => hch q (List.mem_cons_of_mem _ hq)) fun q hq => hfa q (List.mem_cons_of_mem _ hq)⟩
    · rw [hf1'.tmps x, e1 x, fp.tmps x]
      by_cases h1 : p.o.dst = some x
      · rw [if_pos h1, if_neg (fun e => (hpa x e).2 h1), if_pos h1]
      · rw [if_neg h1, if_neg h1]
    · rw [ht1' b, hc b]
      cases p.chg with
      | none => exact g1 b hb
      | some c => obtain ⟨b', ob⟩ := c; simp only; split
                  · rfl
                  · exact g1 b hb
    · rw [ht1' b]
      cases hcc : p.chg with
      | none => exact g2 b hb
      | some c =>
        obtain ⟨b', ob⟩ := c
        simp only
        rw [if_neg (fun e => by rw [e, hch p (List.mem_cons_self ..) b' ob hcc] at hb; cases hb)]
        exact g2 b hb
end
open Go Go.RowKit
structure Pair (p q : Rec) : Prop where
  ne : p.i ≠ q.i
  no : (depsOf p.o).testBit q.i = false
  apart : p.desc.testBit q.i = true ∨ ((∀ b ob, p.chg = some (b, ob) → ¬ q.on b) ∧ (∀ b ob, q.chg = some (b, ob) → ¬ p.on b))
structure WF (ops : Array Oper) (M : Nat) (held : List Held) (n0 : Nat) (hp : Hp) (pd : List Rec) : Prop where
  op : ∀ p ∈ pd, ops[p.i]? = some p.o ∧ M.testBit p.i = true
  deps : ∀ p ∈ pd, ∀ k, (depsOf p.o).testBit k = true → M.testBit k = true
  desc : ∀ p ∈ pd, p.desc = descOf p.i ops.toList 0 0
  held : ∀ p ∈ pd, (p.facts ≠ [] ∨ p.chg ≠ none) → ∃ x ∈ held, x.desc = p.desc ∧ x.facts = p.facts ∧ x.chg = p.chg
  pair : pd.Pairwise Pair
  new : ∀ p ∈ pd, p.new = true → ∀ b ob, p.chg = some (b, ob) → n0 ≤ b ∧ b < hp.next
  next : n0 ≤ hp.next
theorem hidden_spec {i b : Nat} : ∀ {held : List Held}, hidden i held b = true ↔ ∃ x ∈ held, x.desc.testBit i = false ∧ ∃ ob, x.chg = some (b, ob) := by
  intro held
  induction held with
  | nil => simp [hidden]
  | cons x l ih =>
    simp only [hidden, Bool.or_eq_true, ih, List.mem_cons, exists_eq_or_imp]
    refine or_congr ?_ Iff.rfl
    cases hc : x.chg with
    | none => simp
    | some c =>
      obtain ⟨b', ob⟩ := c
      simp only [Bool.and_eq_true, Bool.not_eq_true', Option.some.injEq, Prod.mk.injEq]
      constructor
      · rintro ⟨h1, h2⟩; exact ⟨h1, ob, (eq_of_beq h2).symm, rfl⟩
      · rintro ⟨h1, ob', h2, _⟩; exact ⟨h1, beq_t h2.symm⟩
theorem hide_get {i b : Nat} : ∀ {held : List Held} {t : T AObj}, (hide i held t).get b = bif hidden i held b then none else t.get b := by
  intro held
  induction held with
  | nil => intro t; simp [hide, hidden]
  | cons x l ih =>
    intro t
    obtain ⟨desc, facts, chg⟩ := x
    cases chg with
    | none => simp only [hide, hidden, ih, Bool.false_or]
    | some c =>
      obtain ⟨b', ob⟩ := c
      simp only [hide, hidden]
      cases hd : desc.testBit i with
      | true => simp only [cond_true, ih, Bool.not_true, Bool.false_and, Bool.false_or]
      | false =>
        simp only [cond_false, ih, T.get_put, Bool.not_false, Bool.true_and]
        by_cases e : b = b'
        · rw [if_pos e, beq_t e]; cases hidden i l b <;> rfl
        · rw [if_neg e, beq_f e]; rfl
theorem noneLeans_spec {i b : Nat} : ∀ {held : List Held}, noneLeans i b held = true → ∀ x ∈ held, x.desc.testBit i = false → ∀ f ∈ x.facts, f.blk ≠ b := by
  intro held
  induction held with
  | nil => intro _ x hx; cases hx
  | cons y l ih =>
    intro h x hx hd f hf
    simp only [noneLeans, Bool.and_eq_true] at h
    rcases List.mem_cons.1 hx with rfl | hx
    · rw [hd] at h
      simp only [cond_false] at h
      have := List.all_eq_true.1 h.1 f hf
      simp only [Bool.not_eq_true'] at this
      exact ne_of_beq this
    · exact ih h.2 x hx hd f hf
section
variable {P : Program} {Γ : Env} {ops : Array Oper}
theorem looks_operand {o : Oper} {x : Tmp} (h : .tmp x ∈ o.op.operands) : x ∈ o.looksAt ops := by
  unfold Oper.looksAt
  exact List.mem_append_left _ (List.mem_filterMap.2 ⟨.tmp x, by simpa using h, rfl⟩)
theorem looks_guard {o : Oper} {j : Nat} {want : Bool} {t : Tmp} (hg : o.guard = some (j, want)) (ht : (ops[j]?).bind (·.dst) = some t) : t ∈ o.looksAt ops := by
  unfold Oper.looksAt
  refine List.mem_append_right _ ?_
  rw [hg]
  simp [ht]
theorem Agr.on {θ : Ren} {K : Nat → Prop} {f : Fr} {a : Act} {o : Oper} (h : Agr ops θ K f a o) : AgreeOn θ K f a o := fun x hx => by
  cases x with
  | tmp t => exact h.2 t (looks_operand hx)
  | const v => exact ⟨rfl, trivial⟩
  | global g => exact ⟨rfl, trivial⟩
  | func f => exact ⟨rfl, trivial⟩
theorem Agr.wanted {θ : Ren} {K : Nat → Prop} {f : Fr} {a : Act} {o : Oper} {b : Bool} (h : Agr ops θ K f a o) (hw : wantedQ ops f o = some b) : Region.wanted o (yielded ops a.tmps) = b :=
  wantedQ_sound hw h.1 fun _ _ t hg ht => (h.2 t (looks_guard hg ht)).1
theorem put_of {f g : Fr} {p : Rec} (h : f.put p.o.dst p.v = some g) : FPut f p g := by
  unfold Fr.put at h
  split at h
  · rename_i hd
    simp only [Option.some.injEq] at h; subst h
    exact ⟨rfl, rfl, fun t => by rw [hd, if_neg (by simp)], fun d he => by rw [hd] at he; cases he⟩
  · rename_i d hd
    cases hlt : Nat.blt d f.sz with
    | false => rw [hlt] at h; cases h
    | true =>
      rw [hlt] at h
      simp only [cond_true, Option.some.injEq] at h; subst h
      exact ⟨rfl, rfl, fun t => by
        simp only [T.get_set, hd, Option.some.injEq]
        by_cases e : t = d
        · rw [if_pos e, if_pos e.symm]
        · rw [if_neg e, if_neg (fun e' => e e'.symm)], fun d' he => by rw [hd] at he; cases he; exact lt_of_blt hlt⟩
theorem WF.snoc {M n0 : Nat} {held held' : List Held} {hp hp' : Hp} {pd : List Rec} {p : Rec} (h : WF ops M held n0 hp pd) (hop : ops[p.i]? = some p.o) (hM : M.testBit p.i = false)
    (hdeps : ∀ k, (depsOf p.o).testBit k = true → M.testBit k = true) (hdesc : p.desc = descOf p.i ops.toList 0 0) (hsub : ∀ x ∈ held, x ∈ held')
    (hheld : (p.facts ≠ [] ∨ p.chg ≠ none) → ∃ x ∈ held', x.desc = p.desc ∧ x.facts = p.facts ∧ x.chg = p.chg) (hnx : hp.next ≤ hp'.next) (hnew : p.new = true → ∀ b ob, p.chg = some (b, ob) → hp.next ≤ b ∧ b < hp'.next)
    (hvis : ∀ b, p.on b → hidden p.i held b = false) (hlean : ∀ b ob, p.chg = some (b, ob) → ∀ x ∈ held, x.desc.testBit p.i = false → ∀ f ∈ x.facts, f.blk ≠ b) :
    WF ops (M ||| 2 ^ p.i) held' n0 hp' (pd ++ [p]) := by
  have keep : ∀ k, M.testBit k = true → (M ||| 2 ^ p.i).testBit k = true := fun k hk => by rw [bit_set, hk]; rfl
  have inv : ∀ q ∈ pd ++ [p], q ∈ pd ∨ q = p := fun q hq => by
    rcases List.mem_append.1 hq with h1 | h1
    · exact .inl h1
    · exact .inr (List.mem_singleton.1 h1)
  refine ⟨fun q hq => ?_, fun q hq k hk => ?_, fun q hq => ?_, fun q hq hne => ?_, ?_, fun q hq hn b ob hc => ?_, Nat.le_trans h.next hnx⟩
  · rcases inv q hq with h1 | rfl
    · exact ⟨(h.op q h1).1, keep _ (h.op q h1).2⟩
    · exact ⟨hop, by rw [bit_set]; simp⟩
  · rcases inv q hq with h1 | rfl
    · exact keep _ (h.deps q h1 k hk)
    · exact keep _ (hdeps k hk)
  · rcases inv q hq with h1 | rfl
    · exact h.desc q h1
    · exact hdesc
  · rcases inv q hq with h1 | rfl
    · obtain ⟨x, hx, e⟩ := h.held q h1 hne
      exact ⟨x, hsub x hx, e⟩
    · exact hheld hne
  · rw [List.pairwise_append]
    refine ⟨h.pair, List.pairwise_singleton _ _, fun q hq r hr => ?_⟩
    rw [List.mem_singleton.1 hr]
    refine ⟨fun e => ?_, ?_, ?_⟩
    · have := (h.op q hq).2
      rw [e, hM] at this; cases this
    · cases hd : (depsOf q.o).testBit p.i with
      | false => rfl
      | true => have := h.deps q hq _ hd; rw [hM] at this; cases this
    · cases hdq : q.desc.testBit p.i with
      | true => exact .inl rfl
      | false =>
        refine .inr ⟨fun b ob hc hon => ?_, fun b ob hc hon => ?_⟩
        · obtain ⟨x, hx, e1, _, e3⟩ := h.held q hq (.inr (by rw [hc]; simp))
          have := hidden_spec.2 ⟨x, hx, by rw [e1]; exact hdq, ob, by rw [e3]; exact hc⟩
          rw [hvis b hon] at this; cases this
        · rcases hon with ⟨f, hf, hfb⟩ | ⟨ob', hc'⟩
          · obtain ⟨x, hx, e1, e2, _⟩ := h.held q hq (.inl (fun e => by rw [e] at hf; cases hf))
            exact hlean b ob hc x hx (by rw [e1]; exact hdq) f (by rw [e2]; exact hf) hfb
          · obtain ⟨x, hx, e1, _, e3⟩ := h.held q hq (.inr (by rw [hc']; simp))
            have := hidden_spec.2 ⟨x, hx, by rw [e1]; exact hdq, ob', by rw [e3]; exact hc'⟩
            rw [hvis b (.inr ⟨ob, hc⟩)] at this; cases this
  · rcases inv q hq with h1 | rfl
    · have := h.new q h1 hn b ob hc
      exact ⟨this.1, Nat.lt_of_lt_of_le this.2 hnx⟩
    · have := hnew hn b ob hc
      exact ⟨Nat.le_trans h.next this.1, this.2⟩
structure Took (P : Program) (Γ : Env) (ops : Array Oper) (M n0 : Nat) (hp : Hp) (pd : List Rec) (f : Fr) (t : T AObj) (r : Nat × List Held × Fr × Hp) (ts : List Rec) : Prop where
  wf : WF ops r.1 r.2.1 n0 r.2.2.2 (pd ++ ts)
  chain : Chain P Γ ops (pd ++ ts) f t r.2.2.1 r.2.2.2.objs
  next : hp.next ≤ r.2.2.2.next
  mask : ∀ j, r.1.testBit j = true ↔ M.testBit j = true ∨ ∃ p ∈ ts, p.i = j
  fresh : ∀ p ∈ ts, M.testBit p.i = false
  new : ∀ p ∈ ts, p.new = true → ∀ b ob, p.chg = some (b, ob) → hp.next ≤ b
  freshGet : ∀ b, r.2.2.2.next ≤ b → r.2.2.2.objs.get b = none
  heldLt : ∀ x ∈ r.2.1, ∀ b ob, x.chg = some (b, ob) → b < r.2.2.2.next
theorem takeAll_sound {n0 : Nat} {f : Fr} {t : T AObj} (L : List Oper) : ∀ {i : Nat} {M : Nat} {held : List Held} {fr : Fr} {hp : Hp} {pd : List Rec} {r : Nat × List Held × Fr × Hp},
    (∀ m, L[m]? = ops[i + m]?) → takeAll P Γ ops L i M held fr hp = some r → WF ops M held n0 hp pd → Chain P Γ ops pd f t fr hp.objs → (∀ b, hp.next ≤ b → hp.objs.get b = none) → (∀ x ∈ held, ∀ b ob, x.chg = some (b, ob) → b < hp.next) → ∃ ts, Took P Γ ops M n0 hp pd f t r ts := by
  induction L with
  | nil =>
    intro i M held fr hp pd r _ hq hwf hch hfresh hheldlt
    simp only [takeAll, Option.some.injEq] at hq; subst hq
    exact ⟨[], by simpa using hwf, by simpa using hch, Nat.le_refl _, fun j => by simp, fun p hp => (by cases hp), fun p hp => (by cases hp), hfresh, hheldlt⟩
  | cons o L ih =>
    intro i M held fr hp pd r hl hq hwf hch hfresh hheldlt
    have h0 : ops[i]? = some o := (hl 0).symm
    have hl' : ∀ k, L[k]? = ops[i + 1 + k]? := fun k => by have := hl (k + 1); rw [List.getElem?_cons_succ] at this; rw [this]; congr 1; omega
    simp only [takeAll] at hq
    -- one record is taken, then the rest
    have more : ∀ (p : Rec) (held' : List Held) (fr' : Fr) (hp' : Hp), p.i = i → p.o = o → M.testBit i = false → WF ops (M ||| 2 ^ i) held' n0 hp' (pd ++ [p]) → Chain P Γ ops (pd ++ [p]) f t fr' hp'.objs → hp.next ≤ hp'.next →
        (p.new = true → ∀ b ob, p.chg = some (b, ob) → hp.next ≤ b) → (∀ b, hp'.next ≤ b → hp'.objs.get b = none) → (∀ x ∈ held', ∀ b ob, x.chg = some (b, ob) → b < hp'.next) → takeAll P Γ ops L (i + 1) (M ||| 2 ^ i) held' fr' hp' = some r → ∃ ts, Took P Γ ops M n0 hp pd f t r ts := by
      intro p held' fr' hp' hpi hpo hM hwf' hch' hnx hnew hfr' hlt' hrest
      obtain ⟨ts, h1, h2, h3, h4, h5, h6, h7, h8⟩ := ih hl' hrest hwf' hch' hfr' hlt'
      refine ⟨p :: ts, by simpa using h1, by simpa using h2, Nat.le_trans hnx h3, fun j => ?_, fun q hq => ?_, fun q hq hn b ob hc => ?_, h7, h8⟩
      · rw [h4 j, bit_set, Bool.or_eq_true, decide_eq_true_eq]
        simp only [List.mem_cons, exists_eq_or_imp, hpi]
        rw [or_assoc]
      · rcases List.mem_cons.1 hq with rfl | hq
        · rw [hpi]; exact hM
        · have := h5 q hq
          rw [bit_set, Bool.or_eq_false_iff] at this
          exact this.1
      · rcases List.mem_cons.1 hq with rfl | hq
        · exact hnew hn b ob hc
        · exact Nat.le_trans hnx (h6 q hq hn b ob hc)
    cases hM : M.testBit i with
    | true => rw [hM] at hq; exact ih hl' hq hwf hch hfresh hheldlt
    | false =>
      rw [hM] at hq
      simp only [cond_false] at hq
      cases hd : Nat.beq (Nat.land (depsOf o) M) (depsOf o) with
      | false => rw [hd] at hq; exact ih hl' hq hwf hch hfresh hheldlt
      | true =>
        rw [hd] at hq
        simp only [cond_true] at hq
        have hdeps : ∀ k, (depsOf o).testBit k = true → M.testBit k = true := fun k hk => land_sub hd k hk
        split at hq
        · cases hq
        · -- it isn't wanted
          rename_i hw
          split at hq
          · rename_i g hput
            let p : Rec := ⟨i, o, false, .lit undef, [], none, false, descOf i ops.toList 0 0⟩
            have hdoes : Does P Γ ops p fr hp.objs := ⟨fun θ K a ha => ha.wanted hw, .inl ⟨rfl, rfl, rfl, rfl⟩⟩
            refine more p held g hp rfl rfl hM (hwf.snoc (p := p) h0 hM hdeps rfl (fun x hx => hx) (fun h => h.elim (fun h => absurd rfl h) fun h => absurd rfl h) (Nat.le_refl _) (fun h => by cases h) (fun b hb => ?_) (fun b ob hc => by cases hc))
              (hch.snoc pd hdoes (put_of (p := p) hput) fun b => rfl) (Nat.le_refl _) (fun h => by cases h) hfresh hheldlt hq
            rcases hb with ⟨_, hf, _⟩ | ⟨_, hc⟩
            · cases hf
            · cases hc
          · cases hq
        · rename_i hw
          split at hq
          · -- a quiet one
            rename_i v fs hquiet
            split at hq
            · rename_i g hput
              let p : Rec := ⟨i, o, true, v, fs, none, false, descOf i ops.toList 0 0⟩
              have hfacts : ∀ f ∈ fs, FactA ⟨hide i held hp.objs, hp.next⟩ f := by
                rcases quietA_split hquiet with hquiet | ⟨rfl, _⟩
                · exact quiet_facts hquiet
                · exact fun f hf => by cases hf
              have hvisf : ∀ fc ∈ fs, hidden i held fc.blk = false ∧ FactT hp.objs fc := fun fc hfc => by
                have hA := hfacts fc hfc
                have hne : (hide i held hp.objs).get fc.blk ≠ none := by
                  cases fc with
                  | cells b off vs =>
                    intro hn
                    simp only [FactA, knownCells] at hA
                    rw [show (hide i held hp.objs).get b = none from hn] at hA
                    cases hA
                  | obj b ob =>
                    intro hn
                    simp only [FactA] at hA
                    rw [show (hide i held hp.objs).get b = none from hn] at hA
                    cases hA
                rw [hide_get] at hne
                cases hh : hidden i held fc.blk with
                | true => rw [hh] at hne; exact absurd rfl hne
                | false =>
                  refine ⟨rfl, (FactT.ofA hA).congr ?_⟩
                  simp only [hide_get, hh]; rfl
              have hdoes : Does P Γ ops p fr hp.objs := ⟨fun θ K a ha => ha.wanted hw, .inr (.inl ⟨rfl, rfl, fun fc hfc => (hvisf fc hfc).2, fun θ K a ha hA => by
                rcases quietA_split hquiet with hquiet | ⟨rfl, hask⟩
                · exact ⟨fun hok => quiet_okF hquiet (fun x hx => (ha.on x hx).2) hok, fun w hg hfw => by
                    rw [agree_exec (quiet_kind hquiet).1 ha.on]; exact quiet_sound hquiet hg hfw⟩
                · obtain ⟨hvk, hsel, _, hrun⟩ := hA _ _ _ hask fun x hx => (ha.on x hx).2
                  exact ⟨fun _ => hvk, fun w _ _ => by rw [agree_exec hsel ha.on]; exact hrun o w rfl⟩⟩)⟩
              have hvis : ∀ b, p.on b → hidden i held b = false := fun b hb => by
                rcases hb with ⟨fc, hfc, rfl⟩ | ⟨_, hc⟩
                · exact (hvisf fc hfc).1
                · cases hc
              have hchain := hch.snoc pd hdoes (put_of (p := p) hput) (hp' := hp.objs) fun b => rfl
              cases fs with
              | nil =>
                exact more p held g hp rfl rfl hM (hwf.snoc (p := p) h0 hM hdeps rfl (fun x hx => hx) (fun h => h.elim (fun h => absurd rfl h) fun h => absurd rfl h) (Nat.le_refl _) (fun h => by cases h) hvis (fun b ob hc => by cases hc))
                  hchain (Nat.le_refl _) (fun h => by cases h) hfresh hheldlt hq
              | cons fc fs =>
                exact more p (⟨descOf i ops.toList 0 0, fc :: fs, none⟩ :: held) g hp rfl rfl hM (hwf.snoc (p := p) h0 hM hdeps rfl (fun x hx => List.mem_cons_of_mem _ hx) (fun _ => ⟨_, List.mem_cons_self .., rfl, rfl, rfl⟩) (Nat.le_refl _) (fun h => by cases h) hvis (fun b ob hc => by cases hc))
                  hchain (Nat.le_refl _) (fun h => by cases h) hfresh (fun x hx b ob hc => by
                    rcases List.mem_cons.1 hx with rfl | hx
                    · cases hc
                    · exact hheldlt x hx b ob hc) hq
            · cases hq
          · split at hq
            · -- one that turns one block
              rename_i v b ob nx hloc
              cases hlean : noneLeans i b held with
              | false => rw [hlean] at hq; exact ih hl' hq hwf hch hfresh hheldlt
              | true =>
                rw [hlean] at hq
                simp only [cond_true] at hq
                have hsel : isSelect o.op = false := by
                  cases hop : o.op <;> first | rfl | (rw [hop] at hloc; simp only [localE] at hloc; cases hloc)
                split at hq
                · rename_i g hput
                  rcases localE_sound (P := P) (Γ := Γ) hloc with ⟨hb, hnx, hv, hobok, hrun⟩ | ⟨hnx, hv, old, hget, hrun⟩
                  · -- a new block
                    have hb' : b = hp.next := hb
                    have hnx' : nx = hp.next + 1 := hnx
                    subst hb' hnx'
                    let p : Rec := ⟨i, o, true, v, [], some (hp.next, ob), true, descOf i ops.toList 0 0⟩
                    have hfreshget : hp.objs.get hp.next = none := hfresh hp.next (Nat.le_refl _)
                    have hdoes : Does P Γ ops p fr hp.objs := ⟨fun θ K a ha => ha.wanted hw, .inr (.inr (.inl ⟨rfl, rfl, rfl, hp.next, ob, rfl, hfreshget, hv, fun θ K a ha => ⟨hobok K fun x hx => (ha.on x hx).2, fun w => by
                      rw [agree_exec hsel ha.on]; exact hrun θ w⟩⟩))⟩
                    have hnohide : hidden i held hp.next = false := by
                      cases hh : hidden i held hp.next with
                      | false => rfl
                      | true =>
                        obtain ⟨x, hx, _, ob', hc⟩ := hidden_spec.1 hh
                        exact absurd (hheldlt x hx hp.next ob' hc) (Nat.lt_irrefl _)
                    refine more p (⟨descOf i ops.toList 0 0, [], some (hp.next, ob)⟩ :: held) g ⟨hp.objs.set hp.next ob, hp.next + 1⟩ rfl rfl hM (hwf.snoc (p := p) h0 hM hdeps rfl (fun x hx => List.mem_cons_of_mem _ hx) (fun _ => ⟨_, List.mem_cons_self .., rfl, rfl, rfl⟩) (Nat.le_succ _)
                      (fun _ b' ob' hc => by cases hc; exact ⟨Nat.le_refl _, Nat.lt_succ_self _⟩) (fun b' hb' => ?_) (fun b' ob' hc => by cases hc; exact noneLeans_spec hlean))
                      (hch.snoc pd hdoes (put_of (p := p) hput) fun b' => T.get_set _ _ _ _) (Nat.le_succ _) (fun _ b' ob' hc => by cases hc; exact Nat.le_refl _) (fun b' hb' => ?_) (fun x hx b' ob' hc => ?_) hq
                    · rcases hb' with ⟨_, hf, _⟩ | ⟨_, hc⟩
                      · cases hf
                      · cases hc; exact hnohide
                    · show (hp.objs.set hp.next ob).get b' = none
                      rw [T.get_set, if_neg (fun e => by rw [e] at hb'; exact absurd hb' (Nat.not_succ_le_self _))]
                      exact hfresh b' (Nat.le_of_succ_le hb')
                    · rcases List.mem_cons.1 hx with rfl | hx
                      · cases hc; exact Nat.lt_succ_self _
                      · exact Nat.lt_succ_of_lt (hheldlt x hx b' ob' hc)
                  · -- a store
                    have hnx' : nx = hp.next := hnx
                    subst hnx' hv
                    let p : Rec := ⟨i, o, true, .lit undef, [], some (b, ob), false, descOf i ops.toList 0 0⟩
                    have hne : (hide i held hp.objs).get b ≠ none := by rw [show (hide i held hp.objs).get b = some old from hget]; simp
                    have hnohide : hidden i held b = false := by
                      rw [hide_get] at hne
                      cases hh : hidden i held b with
                      | true => rw [hh] at hne; exact absurd rfl hne
                      | false => rfl
                    have hgetb : hp.objs.get b = some old := by
                      have := hget
                      simp only [hide_get, hnohide] at this
                      exact this
                    have hdoes : Does P Γ ops p fr hp.objs := ⟨fun θ K a ha => ha.wanted hw, .inr (.inr (.inr ⟨rfl, rfl, rfl, b, ob, old, rfl, hgetb, rfl, fun X w0 θ K a h w ha hr hb => by
                      rw [agree_exec hsel ha.on]; exact hrun X w0 θ K h w hr hb fun x hx => (ha.on x hx).2⟩))⟩
                    have hblt : b < hp.next := by
                      rcases Nat.lt_or_ge b hp.next with h | h
                      · exact h
                      · rw [hfresh b h] at hgetb; cases hgetb
                    refine more p (⟨descOf i ops.toList 0 0, [], some (b, ob)⟩ :: held) g ⟨hp.objs.set b ob, hp.next⟩ rfl rfl hM (hwf.snoc (p := p) h0 hM hdeps rfl (fun x hx => List.mem_cons_of_mem _ hx) (fun _ => ⟨_, List.mem_cons_self .., rfl, rfl, rfl⟩) (Nat.le_refl _)
                      (fun h => by cases h) (fun b' hb' => ?_) (fun b' ob' hc => by cases hc; exact noneLeans_spec hlean))
                      (hch.snoc pd hdoes (put_of (p := p) hput) fun b' => T.get_set _ _ _ _) (Nat.le_refl _) (fun h => by cases h) (fun b' hb' => ?_) (fun x hx b' ob' hc => ?_) hq
                    · rcases hb' with ⟨_, hf, _⟩ | ⟨_, hc⟩
                      · cases hf
                      · cases hc; exact hnohide
                    · show (hp.objs.set b ob).get b' = none
                      rw [T.get_set, if_neg (fun e => by rw [e] at hb'; exact absurd hblt (Nat.not_lt.2 hb'))]
                      exact hfresh b' hb'
                    · rcases List.mem_cons.1 hx with rfl | hx
                      · cases hc; exact hblt
                      · exact hheldlt x hx b' ob' hc
                · cases hq
            · exact ih hl' hq hwf hch hfresh hheldlt
end
open Go Go.RowKit
theorem litSame_eq {x y : Value} (h : litSame x y = true) : x = y := by
  unfold litSame at h
  split at h
  · simp only [Bool.and_eq_true, beq_iff_eq] at h; obtain ⟨rfl, rfl⟩ := h; rfl
  · simp only [beq_iff_eq] at h; subst h; rfl
  · rename_i a b
    simp only [beq_iff_eq] at h
    obtain ⟨⟨l⟩⟩ := a
    obtain ⟨⟨m⟩⟩ := b
    simp only at h
    subst h; rfl
  · rfl
  · simp only [Bool.and_eq_true, beq_iff_eq] at h; obtain ⟨rfl, rfl⟩ := h; rfl
  · simp only [Bool.and_eq_true] at h
    obtain ⟨⟨h1, h3⟩, h4⟩ := h
    rw [of_decide_eq_true h1, Nat.eq_of_beq_eq_true h3, Nat.eq_of_beq_eq_true h4]
  · rw [of_decide_eq_true h]
  · rfl
  · rfl
  · rfl
  · rw [Nat.eq_of_beq_eq_true h]
  · cases h
mutual
theorem same_eq : ∀ (a b : SV), SV.same a b = true → a = b
  | .lit x, b, h => by
    cases b with
    | lit y => rw [litSame_eq (x := x) (y := y) h]
    | _ => cases h
  | .ptr _ _, b, h => by
    cases b <;> first | (cases h; done) | (simp only [SV.same, Bool.and_eq_true, beq_iff_eq] at h; obtain ⟨rfl, rfl⟩ := h; rfl)
  | .slice _ _ _ _, b, h => by
    cases b <;> first | (cases h; done) | (simp only [SV.same, Bool.and_eq_true, beq_iff_eq] at h; obtain ⟨⟨⟨rfl, rfl⟩, rfl⟩, rfl⟩ := h; rfl)
  | .row _ _ _ _ _, b, h => by
    cases b <;> first | (cases h; done) | (simp only [SV.same, Bool.and_eq_true, beq_iff_eq] at h; obtain ⟨⟨⟨⟨rfl, rfl⟩, rfl⟩, rfl⟩, rfl⟩ := h; rfl)
  | .map _, b, h => by
    cases b <;> first | (cases h; done) | (simp only [SV.same, beq_iff_eq] at h; subst h; rfl)
  | .agg l, b, h => by
    cases b with
    | agg m => rw [sameL_eq l m h]
    | _ => cases h
  | .num _ _, b, h => by
    cases b <;> first | (cases h; done) | (simp only [SV.same, Bool.and_eq_true, beq_iff_eq] at h; obtain ⟨rfl, rfl⟩ := h; rfl)
  | .opq _, b, h => by
    cases b <;> first | (cases h; done) | (simp only [SV.same, beq_iff_eq] at h; subst h; rfl)
  | .func fn a c, b, h => by
    cases b with
    | func gn a' c' =>
      cases fn <;> cases gn <;> first | (cases h; done) | skip
      simp only [SV.same, Bool.and_eq_true] at h
      rw [Nat.eq_of_beq_eq_true h.1, sameL_eq a a' h.2.1, sameL_eq c c' h.2.2]
    | _ => cases fn <;> cases h
  | .tail _ _ _ _, b, h => by cases b <;> cases h
  | .yield _, b, h => by cases b <;> cases h
  | .iface t v, b, h => by
    cases b with
    | iface u v' =>
      simp only [SV.same, Bool.and_eq_true] at h
      rw [Nat.eq_of_beq_eq_true h.1, same_eq v v' h.2]
    | _ => cases h
  | .tuple l, b, h => by
    cases b with
    | tuple m => rw [sameL_eq l m h]
    | _ => cases h
theorem sameL_eq : ∀ (l m : List SV), SV.sameL l m = true → l = m
  | [], [], _ => rfl
  | a :: l, b :: m, h => by
    simp only [SV.sameL, Bool.and_eq_true] at h
    rw [same_eq a b h.1, sameL_eq l m h.2]
  | [], _ :: _, h => by cases h
  | _ :: _, [], h => by cases h
end
theorem sameEntries_eq : ∀ (l m : List (SV × SV × Nat)), sameEntries l m = true → l = m
  | [], [], _ => rfl
  | (k, v, c) :: l, (k', v', c') :: m, h => by
    simp only [sameEntries, Bool.and_eq_true] at h
    rw [same_eq k k' h.1.1.1, same_eq v v' h.1.1.2, eq_of_beq h.1.2, sameEntries_eq l m h.2]
  | [], _ :: _, h => by cases h
  | _ :: _, [], h => by cases h
theorem factHolds_sound {h : Hp} {f : Fact} (hf : factHolds h f = true) : FactT h.objs f := by
  cases f with
  | cells b off vs =>
    simp only [factHolds] at hf
    split at hf
    · rename_i ws hws
      rw [← sameL_eq vs ws hf] at hws
      exact hws
    · cases hf
  | obj b o =>
    cases o with
    | map es c =>
      simp only [factHolds] at hf
      split at hf
      · rename_i es' c' hg
        rw [Bool.and_eq_true] at hf
        rw [← eq_of_beq hf.1, ← sameEntries_eq es es' hf.2] at hg
        exact hg
      · cases hf
    | _ => cases hf
theorem showed_spec {i : Nat} {t r : T AObj} : ∀ {held : List Held} {acc t' : T AObj}, showed i t r held acc = some t' → (∀ b, hidden i held b = true → r.get b = none ∧ t'.get b = t.get b) ∧ (∀ b, hidden i held b = false → t'.get b = acc.get b) := by
  intro held
  induction held with
  | nil => intro acc t' h; simp only [showed, Option.some.injEq] at h; subst h; exact ⟨fun b hb => (by cases hb), fun b _ => rfl⟩
  | cons x l ih =>
    intro acc t' h
    obtain ⟨desc, facts, chg⟩ := x
    cases chg with
    | none =>
      simp only [showed] at h
      obtain ⟨h1, h2⟩ := ih h
      exact ⟨fun b hb => h1 b (by simpa [hidden] using hb), fun b hb => h2 b (by simpa [hidden] using hb)⟩
    | some c =>
      obtain ⟨b', ob⟩ := c
      simp only [showed] at h
      cases hd : desc.testBit i with
      | true =>
        rw [hd] at h
        obtain ⟨h1, h2⟩ := ih h
        exact ⟨fun b hb => h1 b (by simpa [hidden, hd] using hb), fun b hb => h2 b (by simpa [hidden, hd] using hb)⟩
      | false =>
        rw [hd] at h
        simp only [cond_false] at h
        split at h
        · cases h
        · rename_i hr
          obtain ⟨h1, h2⟩ := ih h
          refine ⟨fun b hb => ?_, fun b hb => ?_⟩
          · cases hl : hidden i l b with
            | true => exact h1 b hl
            | false =>
              simp only [hidden, hd, hl, Bool.not_false, Bool.true_and, Bool.or_false] at hb
              have e := eq_of_beq hb
              subst e
              exact ⟨hr, by rw [h2 b hl, T.get_put, if_pos rfl]⟩
          · simp only [hidden, hd, Bool.not_false, Bool.true_and, Bool.or_eq_false_iff] at hb
            rw [h2 b hb.2, T.get_put, if_neg (ne_of_beq hb.1)]
theorem showed_exists {i : Nat} {t s r : T AObj} : ∀ {held : List Held} {acc t' : T AObj}, showed i t r held acc = some t' → ∀ acc', ∃ s', showed i s r held acc' = some s' := by
  intro held
  induction held with
  | nil => intro acc t' _ acc'; exact ⟨acc', rfl⟩
  | cons x l ih =>
    intro acc t' h acc'
    obtain ⟨desc, facts, chg⟩ := x
    cases chg with
    | none => simp only [showed] at h ⊢; exact ih h acc'
    | some c =>
      obtain ⟨b', ob⟩ := c
      simp only [showed] at h ⊢
      cases hd : desc.testBit i with
      | true => rw [hd] at h; exact ih h acc'
      | false =>
        rw [hd] at h
        simp only [cond_false] at h ⊢
        split at h
        · cases h
        · exact ih h _
theorem factsStand_spec {r : Hp} {i : Nat} {all : List Held} : ∀ {held : List Held}, factsStand r i all held = true → ∀ x ∈ held, x.desc.testBit i = false → ∀ f ∈ x.facts, hidden i all f.blk = false → FactT r.objs f := by
  intro held
  induction held with
  | nil => intro _ x hx; cases hx
  | cons y l ih =>
    intro h x hx hd f hf hh
    simp only [factsStand, Bool.and_eq_true] at h
    rcases List.mem_cons.1 hx with rfl | hx
    · rw [hd] at h
      simp only [cond_false] at h
      have := List.all_eq_true.1 h.1 f hf
      rw [hh, Bool.false_or] at this
      exact factHolds_sound this
    · exact ih h.2 x hx hd f hf hh
theorem drop_mem {i : Nat} : ∀ {held : List Held} {x : Held}, x ∈ drop i held ↔ x ∈ held ∧ x.desc.testBit i = false := by
  intro held
  induction held with
  | nil => intro x; simp [drop]
  | cons y l ih =>
    intro x
    simp only [drop]
    cases hd : y.desc.testBit i with
    | true =>
      simp only [cond_true, ih, List.mem_cons]
      constructor
      · rintro ⟨h1, h2⟩; exact ⟨.inr h1, h2⟩
      · rintro ⟨rfl | h1, h2⟩
        · rw [hd] at h2; cases h2
        · exact ⟨h1, h2⟩
    | false =>
      simp only [cond_false, List.mem_cons, ih]
      constructor
      · rintro (rfl | ⟨h1, h2⟩)
        · exact ⟨.inl rfl, hd⟩
        · exact ⟨.inr h1, h2⟩
      · rintro ⟨rfl | h1, h2⟩
        · exact .inl rfl
        · exact .inr ⟨h1, h2⟩
theorem readyNow_mem {mask : Nat} : ∀ {L : List Oper} {i0 : Nat} {j : Nat} {o : Oper}, (j, o) ∈ readyNow mask L i0 ↔ ∃ m, j = i0 + m ∧ L[m]? = some o ∧ mask.testBit j = false ∧ Nat.beq (Nat.land (depsOf o) mask) (depsOf o) = true := by
  intro L
  induction L with
  | nil => intro i0 j o; simp [readyNow]
  | cons x L ih =>
    intro i0 j o
    simp only [readyNow]
    have hrec : (j, o) ∈ readyNow mask L (i0 + 1) ↔ ∃ m, j = i0 + (m + 1) ∧ L[m]? = some o ∧ mask.testBit j = false ∧ Nat.beq (Nat.land (depsOf o) mask) (depsOf o) = true := by
      rw [ih]
      constructor
      · rintro ⟨m, h1, h2⟩; exact ⟨m, by omega, h2⟩
      · rintro ⟨m, h1, h2⟩; exact ⟨m, by omega, h2⟩
    cases hc : !mask.testBit i0 && Nat.beq (Nat.land (depsOf x) mask) (depsOf x) with
    | true =>
      simp only [cond_true, List.mem_cons, Prod.mk.injEq, hrec]
      rw [Bool.and_eq_true, Bool.not_eq_true'] at hc
      constructor
      · rintro (⟨rfl, rfl⟩ | ⟨m, h1, h2⟩)
        · exact ⟨0, rfl, rfl, hc⟩
        · exact ⟨m + 1, h1, by simpa using h2⟩
      · rintro ⟨m, h1, h2, h3⟩
        cases m with
        | zero => simp only [List.getElem?_cons_zero, Option.some.injEq] at h2; exact .inl ⟨h1, h2.symm⟩
        | succ m => exact .inr ⟨m, h1, by simpa using h2, h3⟩
    | false =>
      simp only [cond_false, hrec]
      constructor
      · rintro ⟨m, h1, h2⟩; exact ⟨m + 1, h1, by simpa using h2⟩
      · rintro ⟨m, h1, h2, h3⟩
        cases m with
        | zero =>
          simp only [List.getElem?_cons_zero, Option.some.injEq] at h2
          subst h2
          rw [Nat.add_zero] at h1
          subst h1
          rw [h3.1, h3.2] at hc
          cases hc
        | succ m => exact ⟨m, h1, by simpa using h2, h3⟩
open Go Go.RowKit
section
variable {P : Program} {Γ : Env} {ops : Array Oper} {X : Nat → Prop} {w0 : World}
def Done (M : Nat) (pd : List Rec) (j : Nat) : Prop := M.testBit j = true ∧ ∀ p ∈ pd, p.i ≠ j
structure Inv (P : Program) (Γ : Env) (ops : Array Oper) (X : Nat → Prop) (w0 : World) (n0 : Nat) (θ : Ren) (K : Nat → Prop) (M : Nat) (held : List Held) (fr : Fr) (hp : Hp) (pd : List Rec) (f : Fr) (t : T AObj) (a : Act) (w : World) (listed : Array Bool) : Prop where
  wf : WF ops M held n0 hp pd
  chain : Chain P Γ ops pd f t fr hp.objs
  fr : FRep θ K f a
  rep : Rep Γ X w0 θ K ⟨t, hp.next⟩ w
  newK : ∀ p ∈ pd, p.new = true → ∀ b ob, p.chg = some (b, ob) → ¬ K b
  freshGet : ∀ b, hp.next ≤ b → hp.objs.get b = none
  heldLt : ∀ x ∈ held, ∀ b ob, x.chg = some (b, ob) → b < hp.next
  size : listed.size = ops.size
  listed : ∀ j, j < ops.size → (listed.getD j true = true ↔ Done M pd j)
  closed : ∀ j o, ops[j]? = some o → Done M pd j → ∀ k, (depsOf o).testBit k = true → Done M pd k
  mask : ∀ j, M.testBit j = true → j < ops.size
theorem Rep.teq {θ : Ren} {K : Nat → Prop} {t t' : T AObj} {n : Nat} {w : World} (h : ∀ b, t'.get b = t.get b) (hr : Rep Γ X w0 θ K ⟨t, n⟩ w) : Rep Γ X w0 θ K ⟨t', n⟩ w :=
  ⟨hr.os, hr.tape, hr.output, hr.size, hr.kept, hr.low, hr.glob, fun b o hb => hr.obj b o ((h b).symm.trans hb), fun b b' o o' hb hb' => hr.inj b b' o o' ((h b).symm.trans hb) ((h b').symm.trans hb'), hr.next, hr.inv⟩
theorem FRep.putR {θ : Ren} {K : Nat → Prop} {f g : Fr} {a : Act} {p : Rec} (hf : FRep θ K f a) (hp : FPut f p g) (hv : p.v.ok K) : FRep θ K g (a.put p.o.dst (conc θ p.v)) := by
  cases hd : p.o.dst with
  | none =>
    refine ⟨⟨hf.tmps.1.trans hp.sz.symm, fun x => ?_⟩, fun x v hx => ?_, by rw [hp.marks]; exact hf.marks, by rw [hp.marks]; exact hf.marksOk⟩
    · rw [hp.tmps x, hd, if_neg (by simp)]; exact hf.tmps.2 x
    · rw [hp.tmps x, hd, if_neg (by simp)] at hx; exact hf.ok x v hx
  | some d =>
    have hlt := hp.lt d hd
    refine ⟨⟨by simp [Act.put, hf.tmps.1, hp.sz], fun x => ?_⟩, fun x v hx => ?_, by rw [hp.marks]; exact hf.marks, by rw [hp.marks]; exact hf.marksOk⟩
    · rw [hp.tmps x, hd]
      simp only [Act.put, Option.some.injEq]
      by_cases e : d = x
      · subst e
        have : d < a.tmps.size := by rw [hf.tmps.1]; exact hlt
        simp [this]
      · rw [if_neg e]
        have := hf.tmps.2 x
        simp only [Array.getD_eq_getD_getElem?] at this ⊢
        rw [Array.getElem?_setIfInBounds_ne e]
        exact this
    · rw [hp.tmps x, hd] at hx
      by_cases e : d = x
      · rw [if_pos (by rw [e])] at hx; cases hx; exact hv
      · rw [if_neg (fun e' => e (Option.some.inj e'))] at hx; exact hf.ok x v hx
theorem FRep.agr {θ : Ren} {K : Nat → Prop} {f : Fr} {a : Act} (hf : FRep θ K f a) (o : Oper) : Agr ops θ K f a o := ⟨hf.tmps.1, fun t _ => ⟨hf.tmps.2 t, hf.evOk (.tmp t)⟩⟩
theorem factT_ok {K : Nat → Prop} {t : T AObj} {fc : Fact} (hf : FactT t fc) (hh : ∀ b o, t.get b = some o → o.ok K) : fc.ok K := by
  cases fc with
  | cells b off vs =>
    simp only [FactT, FactA, Option.bind_eq_some_iff] at hf
    obtain ⟨l, hl, hc⟩ := hf
    obtain ⟨o, ho, hcase⟩ := known_obj hl
    have := hh b o ho
    rcases hcase with ⟨e, rfl⟩ | ⟨e, k, cv, s, rfl⟩
    · exact okL_sub this fun v hv => cut_mem hc hv
    · exact okL_sub this.1 fun v hv => cut_mem hc hv
  | obj b o => exact hh b o hf
theorem wpOpIn_mono2 {F : Fence} {n i : Nat} {a : Act} {w : World} {N N' : Act → World → Prop} {Q Q' : Exit → Act → World → Prop} (h : ∀ a w, N a w → N' a w) (hQ : ∀ e a w, Q e a w → Q' e a w) (hh : wpOpIn F n P ops Q i N a w) : wpOpIn F n P ops Q' i N' a w := by
  unfold wpOpIn at *
  split
  · exact h _ _ (by simpa [*] using hh)
  · rename_i o ho
    simp only [ho] at hh
    split
    · rename_i hw; simp only [hw, if_true] at hh; exact wpIn_mono2 h hQ hh
    · rename_i hw; simp only [hw] at hh; exact ⟨hh.1, h _ _ hh.2⟩
theorem wpAnyIn_mono {F : Fence} {n : Nat} {md : Region.Mode} {Q Q' : Exit → Act → World → Prop} (hQ : ∀ e a w, Q e a w → Q' e a w) : ∀ (fuel : Nat) (listed : Array Bool) (a : Act) (w : World), wpAnyIn F n P md ops Q fuel listed a w → wpAnyIn F n P md ops Q' fuel listed a w := by
  intro fuel
  induction fuel with
  | zero => intro listed a w h; exact ⟨h.1, hQ _ _ _ h.2⟩
  | succ fuel ih => intro listed a w h; exact ⟨fun h0 => hQ _ _ _ (h.1 h0), fun i hi => wpOpIn_mono2 (ih _) hQ (h.2 i hi)⟩
theorem filter_lt {l : List Nat} {p q : Nat → Bool} (h : ∀ j ∈ l, q j = true → p j = true) : (l.filter q).length ≤ (l.filter p).length ∧ ((∃ i ∈ l, p i = true ∧ q i = false) → (l.filter q).length < (l.filter p).length) := by
  induction l with
  | nil => exact ⟨Nat.le_refl _, fun ⟨_, h, _⟩ => by cases h⟩
  | cons x l ih =>
    obtain ⟨h1, h2⟩ := ih fun j hj => h j (List.mem_cons_of_mem _ hj)
    have hx := h x (List.mem_cons_self ..)
    cases hq : q x with
    | true =>
      rw [List.filter_cons_of_pos (by rw [hq]), List.filter_cons_of_pos (by rw [hx hq])]
      simp only [List.length_cons]
      refine ⟨by omega, fun ⟨i, hi, hp, hn⟩ => ?_⟩
      rcases List.mem_cons.1 hi with rfl | hi
      · rw [hq] at hn; cases hn
      · have := h2 ⟨i, hi, hp, hn⟩; omega
    | false =>
      rw [List.filter_cons_of_neg (by rw [hq]; simp)]
      cases hp : p x with
      | true =>
        rw [List.filter_cons_of_pos (by rw [hp])]
        simp only [List.length_cons]
        exact ⟨by omega, fun _ => by omega⟩
      | false =>
        rw [List.filter_cons_of_neg (by rw [hp]; simp)]
        refine ⟨h1, fun ⟨i, hi, hp', hn⟩ => ?_⟩
        rcases List.mem_cons.1 hi with rfl | hi
        · rw [hp] at hp'; cases hp'
        · exact h2 ⟨i, hi, hp', hn⟩
def left (ops : Array Oper) (listed : Array Bool) : Nat := ((List.range ops.size).filter fun j => !listed.getD j true).length
theorem left_set {listed : Array Bool} {i : Nat} (hsz : listed.size = ops.size) (hi : i < ops.size) (hn : listed.getD i true = false) : left ops (listed.setIfInBounds i true) < left ops listed := by
  unfold left
  refine (filter_lt fun j _ hj => ?_).2 ⟨i, List.mem_range.2 hi, by rw [hn]; rfl, ?_⟩
  · by_cases e : i = j
    · subst e; simp [hsz, hi] at hj
    · rw [getD_set_ne true e] at hj; exact hj
  · simp [hsz, hi]
variable {n0 : Nat} {θ : Ren} {K : Nat → Prop} {M : Nat} {held : List Held} {fr : Fr} {hp : Hp} {pd : List Rec} {f : Fr} {t : T AObj} {a : Act} {w : World} {listed : Array Bool}
theorem Inv.ready (hI : Inv P Γ ops X w0 n0 θ K M held fr hp pd f t a w listed) (fit : Fit ops) {j : Nat} (hj : j ∈ Region.ready .any ops listed) : ∃ o, ops[j]? = some o ∧ j < ops.size ∧ ¬ Done M pd j ∧ ∀ k, (depsOf o).testBit k = true → Done M pd k := by
  obtain ⟨h0, o, ho, hall⟩ := mem_ready.1 hj
  have hlt : j < ops.size := (Array.getElem?_eq_some_iff.1 ho).1
  refine ⟨o, ho, hlt, fun hd => ?_, fun k hk => ?_⟩
  · rw [(hI.listed j hlt).2 hd] at h0; cases h0
  · obtain ⟨e, he, hb, rfl⟩ := (depsOf_bit o k).1 hk
    have hkj := fit.low j o e.on ho hk
    have h1 := hall e he hb
    refine (hI.listed e.on (by omega)).1 ?_
    have hin : e.on < listed.size := by rw [hI.size]; omega
    simp [hin] at h1 ⊢
    exact h1
theorem Inv.ofReady (hI : Inv P Γ ops X w0 n0 θ K M held fr hp pd f t a w listed) (fit : Fit ops) {j : Nat} {o : Oper} (ho : ops[j]? = some o) (hn : ¬ Done M pd j) (hd : ∀ k, (depsOf o).testBit k = true → Done M pd k) : j ∈ Region.ready .any ops listed := by
  have hlt : j < ops.size := (Array.getElem?_eq_some_iff.1 ho).1
  refine mem_ready.2 ⟨?_, o, ho, fun e he hb => ?_⟩
  · cases h : listed.getD j true with
    | false => rfl
    | true => exact absurd ((hI.listed j hlt).1 h) hn
  · have hk := (depsOf_bit o e.on).2 ⟨e, he, hb, rfl⟩
    have hkj := fit.low j o e.on ho hk
    have := (hI.listed e.on (by omega)).2 (hd _ hk)
    have hin : e.on < listed.size := by rw [hI.size]; omega
    simp [hin] at this ⊢
    exact this
theorem Inv.notDesc (hI : Inv P Γ ops X w0 n0 θ K M held fr hp pd f t a w listed) (fit : Fit ops) {p : Rec} (hp' : p ∈ pd) : ∀ (j : Nat) (o : Oper), ops[j]? = some o → (∀ k, (depsOf o).testBit k = true → Done M pd k) → p.desc.testBit j = false := by
  have sound := descOf_sound p.i (ops := ops) ops.toList 0 0 (fun m => by rw [Nat.zero_add, Array.getElem?_toList]) (fun x hx => by simp at hx)
  rw [← hI.wf.desc p hp'] at sound
  have nd : ¬ Done M pd p.i := fun hd => hd.2 p hp' rfl
  have key : ∀ (n j : Nat), j < n → p.desc.testBit j = true → ¬ Done M pd j := by
    intro n
    induction n with
    | zero => intro j h; omega
    | succ n ih =>
      intro j hj hd hdone
      obtain ⟨o, ho, e, he, hcase⟩ := sound j hd
      have hde := hI.closed j o ho hdone e he
      rcases hcase with rfl | h
      · exact nd hde
      · have := fit.low j o e ho he
        exact ih e (by omega) h hde
  intro j o ho hdeps
  cases hd : p.desc.testBit j with
  | false => rfl
  | true =>
    obtain ⟨o', ho', e, he, hcase⟩ := sound j hd
    rw [ho] at ho'
    cases ho'
    have hde := hdeps e he
    rcases hcase with rfl | h
    · exact absurd hde nd
    · exact absurd hde (key (e + 1) e (Nat.lt_succ_self _) h)
theorem Pair.ind (fit : Fit ops) {p q : Rec} (h : Pair p q) (hp : ops[p.i]? = some p.o) (hq : ops[q.i]? = some q.o) (hdesc : p.desc = descOf p.i ops.toList 0 0) (hd : p.desc.testBit q.i = false) : Ind ops p q := by
  have hno : (depsOf q.o).testBit p.i = false := by
    cases hb : (depsOf q.o).testBit p.i with
    | false => rfl
    | true =>
      have := descOf_direct p.i ops.toList 0 0 q.i q.o (by rw [Array.getElem?_toList]; exact hq) hb
      rw [Nat.zero_add, ← hdesc, hd] at this
      cases this
  rcases h.apart with h1 | ⟨h1, h2⟩
  · rw [hd] at h1; cases h1
  · exact ⟨fun d he => fit.apart p.i q.i p.o q.o hp hq h.ne hno h.no d he, fun d he => (fit.apart q.i p.i q.o p.o hq hp (Ne.symm h.ne) h.no hno d he).1, h1, h2⟩
end
end Go.Proofs.YtdhmljjpiainnaaGreatDoor.Ev
