/-
  A REGION THAT DRAWS ITS ORDER (1): what was taken ahead, and that it may come in another order, by the author of this claim. Of any program; no condition.
-/
import Derived.Test.YthjkejnmjbljfaaGreatDoorEvM
namespace Go.Proofs.YthjkejnmjbljfaaGreatDoor.Ev
open Go Go.RowKit

/-! ### a quiet operation's value knows no more than its operands and its facts -/
def Fact.ok (K : Nat → Prop) : Fact → Prop
  | .cells _ _ vs => SV.okL K vs
  | .obj _ o => o.ok K

section
variable {P : Program} {Γ : Env} {K : Nat → Prop} {h : Hp}

theorem readCells_okF {p : SV} {n : Nat} {vs : List SV} {fs : List Fact} (hq : readCells Γ h p n = some (vs, fs)) (hf : ∀ f ∈ fs, f.ok K) : SV.okL K vs := by
  unfold readCells at hq
  split at hq
  · split at hq
    · simp only [Option.some.injEq, Prod.mk.injEq] at hq
      obtain ⟨rfl, rfl⟩ := hq
      exact hf _ (List.mem_singleton.2 rfl)
    · cases hq
  · split at hq
    · rename_i us hus
      simp only [Option.some.injEq, Prod.mk.injEq] at hq
      obtain ⟨rfl, rfl⟩ := hq
      simp only [Option.bind_eq_some_iff] at hus
      obtain ⟨cs, _, hc⟩ := hus
      exact okL_sub (okL_lits K cs) fun v hv => cut_mem hc hv
    · cases hq
  · cases hq
theorem loadQ_okF {t : TypeId} {p v : SV} {fs : List Fact} (hq : loadQ P Γ h t p = some (v, fs)) (hf : ∀ f ∈ fs, f.ok K) : v.ok K := by
  unfold loadQ at hq
  split at hq
  · split at hq
    · split at hq
      · rename_i hr
        simp only [Option.some.injEq, Prod.mk.injEq] at hq
        obtain ⟨rfl, rfl⟩ := hq
        exact readCells_okF hr hf
      · cases hq
    · cases hq
  · split at hq
    · rename_i hr
      simp only [Option.some.injEq, Prod.mk.injEq] at hq
      obtain ⟨rfl, rfl⟩ := hq
      exact (readCells_okF hr hf).1
    · cases hq
  · cases hq
theorem entriesQ_okF {m : SV} {es : List (SV × SV × Nat)} {fs : List Fact} (hq : entriesQ h m = some (es, fs)) (hf : ∀ f ∈ fs, f.ok K) : ∀ e ∈ es, e.1.ok K ∧ e.2.1.ok K := by
  unfold entriesQ at hq
  split at hq
  · simp only [Option.some.injEq, Prod.mk.injEq] at hq
    obtain ⟨rfl, rfl⟩ := hq
    intro e he; cases he
  · split at hq
    · simp only [Option.some.injEq, Prod.mk.injEq] at hq
      obtain ⟨rfl, rfl⟩ := hq
      exact hf _ (List.mem_singleton.2 rfl)
    · cases hq
  · cases hq
theorem lookupQ_okF {t : TypeId} {m k v : SV} {ok : Bool} {fs : List Fact} (hq : lookupQ P h t m k ok = some (v, fs)) (hf : ∀ f ∈ fs, f.ok K) : v.ok K := by
  unfold lookupQ at hq
  split at hq
  · rename_i hes hk
    split at hq
    · rename_i i v' hck hfd
      simp only [Option.some.injEq, Prod.mk.injEq] at hq
      obtain ⟨rfl, rfl⟩ := hq
      obtain ⟨e, he, rfl⟩ := findQ_mem _ hfd
      have := (entriesQ_okF hes hf e he).2
      cases ok
      · exact this
      · exact ⟨this, trivial, trivial⟩
    · split at hq
      · simp only [Option.some.injEq, Prod.mk.injEq] at hq
        obtain ⟨rfl, rfl⟩ := hq
        cases ok
        · trivial
        · exact ⟨trivial, trivial, trivial⟩
      · cases hq
    · cases hq
  · cases hq

theorem quiet_okF {ρ : Operand → SV} {op : Op} {v : SV} {fs : List Fact} (hq : quiet P Γ h ρ op = some (v, fs)) (hρ : ∀ x ∈ op.operands, (ρ x).ok K) (hf : ∀ f ∈ fs, f.ok K) : v.ok K := by
  unfold quiet at hq
  split at hq
  · simp only [Option.some.injEq, Prod.mk.injEq] at hq
    obtain ⟨rfl, rfl⟩ := hq
    exact hρ _ (by simp [Op.operands])
  · simp only [Option.some.injEq, Prod.mk.injEq] at hq
    obtain ⟨rfl, rfl⟩ := hq
    exact hρ _ (by simp [Op.operands])
  · split at hq
    · rename_i t ht
      simp only [Option.some.injEq, Prod.mk.injEq] at hq
      obtain ⟨rfl, rfl⟩ := hq
      cases t
      · exact hρ _ (by simp [Op.operands])
      · exact hρ _ (by simp [Op.operands])
    · cases hq
  · exact loadQ_okF hq hf
  · rename_i x
    cases hn : nonNil (ρ x) with
    | false => rw [hn] at hq; cases hq
    | true =>
      rw [hn] at hq
      simp only [cond_true, Option.some.injEq, Prod.mk.injEq] at hq
      obtain ⟨rfl, rfl⟩ := hq
      exact hρ _ (by simp [Op.operands])
  · obtain ⟨h1, rfl⟩ := one_spec hq
    exact fieldAddrQ_ok h1 (hρ _ (by simp [Op.operands]))
  · obtain ⟨h1, rfl⟩ := one_spec hq
    exact indexAddrQ_ok h1 (hρ _ (by simp [Op.operands]))
  · rename_i t x i
    split at hq
    · split at hq
      · rename_i f l hfi hx
        obtain ⟨h1, rfl⟩ := one_spec hq
        have := hρ x (by simp [Op.operands])
        rw [hx] at this
        exact partQ_ok h1 this
      · obtain ⟨h1, rfl⟩ := one_spec hq
        exact partQ_ok h1 (okL_lits _ _)
      · cases hq
    · cases hq
  · obtain ⟨h1, rfl⟩ := one_spec hq
    exact indexQ_ok h1 (hρ _ (by simp [Op.operands]))
  · rename_i x i
    split at hq
    · rename_i l hx
      obtain ⟨h1, rfl⟩ := one_spec hq
      have := hρ x (by simp [Op.operands])
      rw [hx] at this
      exact (okL_iff _ _).1 this _ (List.mem_of_getElem? h1)
    · obtain ⟨h1, rfl⟩ := one_spec hq
      rw [Option.map_eq_some_iff] at h1
      obtain ⟨u, _, rfl⟩ := h1
      trivial
    · cases hq
  · rename_i t parts
    obtain ⟨h1, rfl⟩ := one_spec hq
    refine buildQ_ok h1 fun p hp => ?_
    obtain ⟨q, hq, rfl⟩ := List.mem_map.1 hp
    refine hρ _ ?_
    simp only [Op.operands, List.mem_toArray, List.mem_map]
    exact ⟨q, hq, rfl⟩
  · rename_i fn a c
    simp only [Option.some.injEq, Prod.mk.injEq] at hq
    obtain ⟨rfl, rfl⟩ := hq
    refine ⟨(okL_iff _ _).2 fun v hv => ?_, (okL_iff _ _).2 fun v hv => ?_⟩
    · obtain ⟨x, hx, rfl⟩ := List.mem_map.1 hv
      exact hρ _ (by simp only [Op.operands, Array.mem_append]; exact .inl (by simpa using hx))
    · obtain ⟨x, hx, rfl⟩ := List.mem_map.1 hv
      exact hρ _ (by simp only [Op.operands, Array.mem_append]; exact .inr (by simpa using hx))
  · split at hq
    · cases hq
    · simp only [Option.some.injEq, Prod.mk.injEq] at hq
      obtain ⟨rfl, rfl⟩ := hq
      exact hρ _ (by simp [Op.operands])
    · cases hq
  · obtain ⟨h1, rfl⟩ := one_spec hq
    exact binQ_ok h1
  · split at hq
    · obtain ⟨h1, rfl⟩ := one_spec hq
      rw [Option.map_eq_some_iff] at h1
      obtain ⟨u, _, rfl⟩ := h1
      trivial
    · cases hq
  · exact (convertQ_ok hq).1
  · obtain ⟨h1, rfl⟩ := one_spec hq
    exact sliceQ_ok h1 (hρ _ (by simp [Op.operands]))
  · exact lookupQ_okF hq hf
  · obtain ⟨h1, rfl⟩ := one_spec hq
    exact assertQ_ok h1 (hρ _ (by simp [Op.operands]))
  · split at hq
    · exact (lenQ_ok hq).1
    · cases hq
  · split at hq
    · obtain ⟨h1, rfl⟩ := one_spec hq
      rw [Option.map_eq_some_iff] at h1
      obtain ⟨u, _, rfl⟩ := h1
      trivial
    · cases hq
  · split at hq
    · obtain ⟨h1, rfl⟩ := one_spec hq
      rw [Option.map_eq_some_iff] at h1
      obtain ⟨u, _, rfl⟩ := h1
      trivial
    · cases hq
  · cases hq

end

/-! ### bits -/
theorem bit_or (a b i : Nat) : (a ||| b).testBit i = (a.testBit i || b.testBit i) := Nat.testBit_or a b i
theorem bit_pow (n m : Nat) : (2 ^ n).testBit m = decide (n = m) := Nat.testBit_two_pow
theorem bit_set (a n i : Nat) : (a ||| 2 ^ n).testBit i = (a.testBit i || decide (n = i)) := by rw [bit_or, bit_pow]
theorem land_zero {a b : Nat} (h : Nat.beq (Nat.land a b) 0 = true) (i : Nat) (ha : a.testBit i = true) : b.testBit i = false := by
  have h0 : a &&& b = 0 := eq_of_beq h
  have := Nat.testBit_and a b i
  rw [h0, ha] at this
  simpa using this.symm
theorem land_nonzero {a b : Nat} (h : Nat.beq (Nat.land a b) 0 = false) : ∃ i, a.testBit i = true ∧ b.testBit i = true := by
  have h0 : a &&& b ≠ 0 := ne_of_beq h
  obtain ⟨i, hi⟩ := Nat.exists_testBit_of_ne_zero h0
  rw [Nat.testBit_and, Bool.and_eq_true] at hi
  exact ⟨i, hi⟩
theorem land_sub {a b : Nat} (h : Nat.beq (Nat.land a b) a = true) (i : Nat) (ha : a.testBit i = true) : b.testBit i = true := by
  have h0 : a &&& b = a := eq_of_beq h
  have := Nat.testBit_and a b i
  rw [h0, ha] at this
  simpa using this.symm

theorem depsOf_bit (o : Oper) (k : Nat) : (depsOf o).testBit k = true ↔ ∃ e ∈ o.after, Region.binds .any e = true ∧ e.on = k := by
  unfold depsOf
  rw [← Array.foldl_toList]
  have key : ∀ (l : List Edge) (s : Nat), (l.foldl (fun s e => bif Region.binds .any e then s ||| 2 ^ e.on else s) s).testBit k = true ↔ s.testBit k = true ∨ ∃ e ∈ l, Region.binds .any e = true ∧ e.on = k := by
    intro l
    induction l with
    | nil => intro s; simp
    | cons e l ih =>
      intro s
      rw [List.foldl_cons, ih]
      cases hb : Region.binds .any e with
      | false =>
        simp only [cond_false, List.mem_cons, exists_eq_or_imp, hb, Bool.false_eq_true, false_and, false_or]
      | true =>
        simp only [cond_true, bit_set, Bool.or_eq_true, decide_eq_true_eq, List.mem_cons, exists_eq_or_imp, hb, true_and]
        rw [or_assoc]
  rw [key]
  simp

theorem looksBits_bit {ops : Array Oper} {o : Oper} {t : Nat} (h : t ∈ o.looksAt ops) : (looksBits ops o).testBit t = true := by
  unfold looksBits
  have key : ∀ (l : List Tmp) (s : Nat), (s.testBit t = true ∨ t ∈ l) → (l.foldl (fun s t => s ||| 2 ^ t) s).testBit t = true := by
    intro l
    induction l with
    | nil => intro s h; simpa using h
    | cons e l ih =>
      intro s h
      rw [List.foldl_cons]
      refine ih _ ?_
      rcases h with h | h
      · left; rw [bit_set, h]; rfl
      · rcases List.mem_cons.1 h with rfl | h
        · left; rw [bit_set]; simp
        · exact .inr h
  exact key _ _ (.inr h)
theorem dstBits_bit {o : Oper} {d : Nat} (h : o.dst = some d) : (dstBits o).testBit d = true := by
  unfold dstBits
  rw [h, bit_pow]; simp

/-! ### what a fit region is -/
structure Fit (ops : Array Oper) : Prop where
  sel : ∀ (j : Nat) (o : Oper), ops[j]? = some o → isSelect o.op = false ∧ isDefer o.op = false
  low : ∀ (j : Nat) (o : Oper) (k : Nat), ops[j]? = some o → (depsOf o).testBit k = true → k < j
  apart : ∀ (i j : Nat) (oi oj : Oper), ops[i]? = some oi → ops[j]? = some oj → i ≠ j → (depsOf oj).testBit i = false → (depsOf oi).testBit j = false →
    ∀ d, oi.dst = some d → d ∉ oj.looksAt ops ∧ oj.dst ≠ some d

theorem apartFrom_spec {ops : Array Oper} {j d l deps : Nat} (L : List Oper) : ∀ {i0 : Nat}, apartFrom ops j d l L i0 deps = true → ∀ (k : Nat) (o : Oper), L[k]? = some o → i0 + k = j ∨ deps.testBit (i0 + k) = true ∨
    (Nat.beq (Nat.land (dstBits o) (l ||| d)) 0 = true ∧ Nat.beq (Nat.land d (looksBits ops o)) 0 = true) := by
  induction L with
  | nil => intro i0 _ k o h; cases h
  | cons o L ih =>
    intro i0 h k o' hk
    simp only [apartFrom, Bool.and_eq_true] at h
    obtain ⟨h1, h2⟩ := h
    cases k with
    | zero =>
      simp only [List.getElem?_cons_zero, Option.some.injEq] at hk
      subst hk
      rw [Nat.add_zero]
      cases hb : Nat.beq i0 j with
      | true => exact .inl (eq_of_beq hb)
      | false =>
        rw [hb] at h1
        simp only [cond_false] at h1
        cases hd : deps.testBit i0 with
        | true => exact .inr (.inl rfl)
        | false =>
          rw [hd] at h1
          simp only [cond_false, Bool.and_eq_true] at h1
          exact .inr (.inr h1)
    | succ k =>
      have := ih h2 k o' (by simpa using hk)
      rwa [show i0 + (k + 1) = i0 + 1 + k by omega]

theorem regionFit_spec {ops : Array Oper} (L : List Oper) : ∀ {j0 : Nat}, regionFit ops L j0 = true → ∀ (k : Nat) (o : Oper), L[k]? = some o →
    isSelect o.op = false ∧ isDefer o.op = false ∧ depsOf o < 2 ^ (j0 + k) ∧ apartFrom ops (j0 + k) (dstBits o) (looksBits ops o) (ops.toList.take (j0 + k)) 0 (depsOf o) = true := by
  induction L with
  | nil => intro j0 _ k o h; cases h
  | cons o L ih =>
    intro j0 h k o' hk
    simp only [regionFit, Bool.and_eq_true, Bool.not_eq_true'] at h
    obtain ⟨⟨⟨⟨h1, h2⟩, h3⟩, h4⟩, h5⟩ := h
    cases k with
    | zero =>
      simp only [List.getElem?_cons_zero, Option.some.injEq] at hk
      subst hk
      exact ⟨h1, h2, lt_of_blt h3, h4⟩
    | succ k =>
      have := ih h5 k o' (by simpa using hk)
      rwa [show j0 + 1 + k = j0 + (k + 1) by omega] at this

theorem Fit.of {ops : Array Oper} (h : regionFit ops ops.toList 0 = true) : Fit ops := by
  have spec := fun (j : Nat) (o : Oper) (hj : ops[j]? = some o) => regionFit_spec ops.toList h j o (by rw [Array.getElem?_toList]; exact hj)
  simp only [Nat.zero_add] at spec
  have pair : ∀ (i j : Nat) (oi oj : Oper), ops[i]? = some oi → ops[j]? = some oj → i < j → (depsOf oj).testBit i = false →
      (∀ d, oi.dst = some d → d ∉ oj.looksAt ops ∧ oj.dst ≠ some d) ∧ (∀ d, oj.dst = some d → d ∉ oi.looksAt ops) := by
    intro i j oi oj hi hj hlt hdep
    obtain ⟨_, _, _, h4⟩ := spec j oj hj
    have := apartFrom_spec (ops.toList.take j) h4 i oi (by rw [List.getElem?_take_of_lt hlt, Array.getElem?_toList]; exact hi)
    rw [Nat.zero_add] at this
    rcases this with e | e | ⟨e1, e2⟩
    · omega
    · rw [hdep] at e; cases e
    · refine ⟨fun d hd => ?_, fun d hd hin => ?_⟩
      · have hb := land_zero e1 d (dstBits_bit hd)
        rw [bit_or, Bool.or_eq_false_iff] at hb
        refine ⟨fun hin => ?_, fun he => ?_⟩
        · rw [looksBits_bit hin] at hb; cases hb.1
        · rw [dstBits_bit he] at hb; cases hb.2
      · have hb := land_zero e2 d (dstBits_bit hd)
        rw [looksBits_bit hin] at hb; cases hb
  refine ⟨fun j o hj => ⟨(spec j o hj).1, (spec j o hj).2.1⟩, fun j o k hj hk => ?_, fun i j oi oj hi hj hne hd1 hd2 d hd => ?_⟩
  · have hlt := (spec j o hj).2.2.1
    rcases Nat.lt_or_ge k j with h' | h'
    · exact h'
    · have : (depsOf o).testBit k = false := Nat.testBit_lt_two_pow (Nat.lt_of_lt_of_le hlt (Nat.pow_le_pow_right (by omega) h'))
      rw [this] at hk; cases hk
  · rcases Nat.lt_or_gt_of_ne hne with hlt | hgt
    · exact (pair i j oi oj hi hj hlt hd1).1 d hd
    · obtain ⟨p1, p2⟩ := pair j i oj oi hj hi hgt hd2
      exact ⟨p2 d hd, fun he => (p1 d he).2 hd⟩

/-! ### who waits -/
theorem descOf_mono (i : Nat) (l : List Oper) : ∀ (k d x : Nat), d.testBit x = true → (descOf i l k d).testBit x = true := by
  induction l with
  | nil => intro k d x h; exact h
  | cons o l ih =>
    intro k d x h
    rw [descOf]
    refine ih _ _ _ ?_
    cases Nat.beq (Nat.land (depsOf o) (d ||| 2 ^ i)) 0 with
    | true => exact h
    | false => rw [cond_false, bit_set, h]; rfl
theorem descOf_direct (i : Nat) (l : List Oper) : ∀ (k d m : Nat) (o : Oper), l[m]? = some o → (depsOf o).testBit i = true → (descOf i l k d).testBit (k + m) = true := by
  induction l with
  | nil => intro k d m o h; cases h
  | cons o l ih =>
    intro k d m o' h hd
    rw [descOf]
    cases m with
    | zero =>
      simp only [List.getElem?_cons_zero, Option.some.injEq] at h
      subst h
      refine descOf_mono i l _ _ _ ?_
      have : Nat.beq (Nat.land (depsOf o) (d ||| 2 ^ i)) 0 = false := by
        cases hb : Nat.beq (Nat.land (depsOf o) (d ||| 2 ^ i)) 0 with
        | false => rfl
        | true =>
          have := land_zero hb i hd
          rw [bit_set] at this
          simp at this
      rw [this, cond_false, bit_set]
      simp
    | succ m =>
      have := ih (k + 1) (bif Nat.beq (Nat.land (depsOf o) (d ||| 2 ^ i)) 0 then d else d ||| 2 ^ k) m o' (by simpa using h) hd
      rwa [show k + 1 + m = k + (m + 1) by omega] at this
theorem descOf_sound (i : Nat) {ops : Array Oper} (l : List Oper) : ∀ (k d : Nat), (∀ m, l[m]? = ops[k + m]?) → (∀ x, d.testBit x = true → ∃ o, ops[x]? = some o ∧ ∃ e, (depsOf o).testBit e = true ∧ (e = i ∨ d.testBit e = true)) →
    ∀ x, (descOf i l k d).testBit x = true → ∃ o, ops[x]? = some o ∧ ∃ e, (depsOf o).testBit e = true ∧ (e = i ∨ (descOf i l k d).testBit e = true) := by
  induction l with
  | nil => intro k d _ h; exact h
  | cons o l ih =>
    intro k d hl h
    rw [descOf]
    refine ih _ _ (fun m => by have := hl (m + 1); rw [List.getElem?_cons_succ] at this; rw [this]; congr 1; omega) ?_
    cases hb : Nat.beq (Nat.land (depsOf o) (d ||| 2 ^ i)) 0 with
    | true => simpa using h
    | false =>
      obtain ⟨e, he1, he2⟩ := land_nonzero hb
      rw [bit_set, Bool.or_eq_true, decide_eq_true_eq] at he2
      intro x hx
      simp only [cond_false, bit_set, Bool.or_eq_true, decide_eq_true_eq] at hx ⊢
      rcases hx with hx | rfl
      · obtain ⟨o', ho', e', h1, h2⟩ := h x hx
        exact ⟨o', ho', e', h1, h2.imp id .inl⟩
      · refine ⟨o, by have := hl 0; simpa using this.symm, e, he1, ?_⟩
        rcases he2 with h2 | h2
        · exact .inr (.inl h2)
        · exact .inl h2.symm
end Go.Proofs.YthjkejnmjbljfaaGreatDoor.Ev
