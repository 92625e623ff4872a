/-
  THE EVALUATOR'S QUIET OPERATIONS ARE THE MODEL'S (the rest of them), by the author of this claim. Of any program; no condition.
-/
import Derived.Test.YthjkejnmjbljfaaGreatDoorEvC
namespace Go.Proofs.YthjkejnmjbljfaaGreatDoor.Ev
open Go Go.RowKit

section
variable {P : Program} {Γ : Env} {θ : Ren} {w : World}

/-! ### index -/
theorem indexQ_sound {t : TypeId} {x i q : SV} (hq : indexQ P t x i = some q) : (Instr.index t (conc θ x) (conc θ i)).run P w = .ok (conc θ q) w := by
  unfold indexQ at hq
  split at hq
  · rename_i len e l hu
    split at hq
    · rename_i s k hs hk
      obtain ⟨j, hj, hlt⟩ := idxQ_sound (θ := θ) hk
      rw [hj]
      have h0 : (0 : Int) ≤ (k : Int) ∧ (k : Int) < (len : Int) := by omega
      simp only [Instr.index, asIntOf, conc, Sem.run_bind, Sem.run_pure, Result.andThen, r_underlying hu w, h0, and_self, if_true, r_sizeOf hs w, Int.toNat_natCast]
      exact partQ_sound hq
    · cases hq
  · split at hq
    · rename_i a b ha hb
      rw [Option.map_eq_some_iff] at hq
      obtain ⟨v, hv, rfl⟩ := hq
      rw [toLit_conc θ _ _ ha, toLit_conc θ _ _ hb]
      exact pureRun_sound _ v hv w
    · cases hq
theorem indexQ_ok {K : Nat → Prop} {t : TypeId} {x i q : SV} (hq : indexQ P t x i = some q) (hx : x.ok K) : q.ok K := by
  unfold indexQ at hq
  split at hq
  · split at hq
    · exact partQ_ok hq hx
    · cases hq
  · split at hq
    · rw [Option.map_eq_some_iff] at hq
      obtain ⟨v, hv, rfl⟩ := hq
      trivial
    · cases hq

/-! ### build -/
theorem splice_all {l vs r : List SV} {off : Nat} (h : splice l off vs = some r) : (off + vs.length ≤ l.length ∧ r = l.take off ++ vs ++ l.drop (off + vs.length)) ∧ vs.all SV.one = true := by
  unfold splice at h
  cases e : Nat.ble (off + vs.length) l.length && vs.all SV.one with
  | false => rw [e] at h; cases h
  | true =>
    rw [e] at h
    simp only [cond_true, Option.some.injEq] at h
    rw [Bool.and_eq_true] at e
    exact ⟨⟨le_of_ble e.1, h.symm⟩, e.2⟩
theorem splice_spec {l vs r : List SV} {off : Nat} (h : splice l off vs = some r) : off + vs.length ≤ l.length ∧ r = l.take off ++ vs ++ l.drop (off + vs.length) := (splice_all h).1
theorem splice_length {l vs r : List SV} {off : Nat} (h : splice l off vs = some r) : r.length = l.length := by
  obtain ⟨hl, rfl⟩ := splice_spec h
  simp only [List.length_append, List.length_take, List.length_drop]
  omega
theorem splice_ok {K : Nat → Prop} {l vs r : List SV} {off : Nat} (h : splice l off vs = some r) (hl : SV.okL K l) (hv : SV.okL K vs) : SV.okL K r := by
  obtain ⟨_, rfl⟩ := splice_spec h
  exact okL_append (okL_append (okL_sub hl fun v hv => List.mem_of_mem_take hv) hv) (okL_sub hl fun v hv => List.mem_of_mem_drop hv)
theorem concL_splice {l vs r : List SV} {off : Nat} (h : splice l off vs = some r) : concL θ r = (concL θ l).take off ++ concL θ vs ++ (concL θ l).drop (off + vs.length) := by
  obtain ⟨_, rfl⟩ := splice_spec h
  simp only [concL_eq, List.map_append, List.map_take, List.map_drop]

theorem foldl_sets (vs : List Value) : ∀ (k off : Nat) (L : List Value), off + k + vs.length ≤ L.length →
    ((vs.zipIdx k).foldl (fun (cs : Array Value) (p : Value × Nat) => cs.setIfInBounds (off + p.2) p.1) L.toArray) = (L.take (off + k) ++ vs ++ L.drop (off + k + vs.length)).toArray := by
  induction vs with
  | nil => intro k off L h; simp
  | cons a vs ih =>
    intro k off L h
    simp only [List.zipIdx_cons, List.foldl_cons, List.length_cons] at h ⊢
    have hlt : off + k < L.length := by omega
    rw [List.setIfInBounds_toArray, show off + k = off + k by rfl, ih (k + 1) off (L.set (off + k) a) (by simp only [List.length_set]; omega)]
    congr 1
    rw [show off + (k + 1) = (off + k) + 1 by omega, List.take_succ_eq_append_getElem (by simpa using hlt), List.take_set_of_le (Nat.le_refl _), List.getElem_set_self]
    rw [List.drop_set_of_lt (by omega), show off + k + 1 + vs.length = off + k + (vs.length + 1) by omega]
    simp

theorem fillQ_sound {place : Nat → Option (Nat × Nat)} (parts : List (Nat × SV)) : ∀ {l r : List SV}, fillQ place l parts = some r →
    Instr.fill place (concL θ l).toArray (parts.map fun p => (p.1, conc θ p.2)) = some (concL θ r).toArray := by
  induction parts with
  | nil => intro l r h; simp only [fillQ, Option.some.injEq] at h; subst h; rfl
  | cons p parts ih =>
    intro l r h
    obtain ⟨i, v⟩ := p
    simp only [fillQ] at h
    simp only [List.map_cons, Instr.fill]
    split at h
    · cases h
    · rename_i off size hp
      simp only [hp]
      cases hb : Nat.beq v.cells.length size with
      | false => rw [hb] at h; cases h
      | true =>
        rw [hb] at h
        simp only [cond_true] at h
        split at h
        · rename_i l' hs
          have hsz : (conc θ v).cells.size = size := by rw [cells_conc]; simp [eq_of_beq hb]
          have hle := (splice_spec hs).1
          have hle2 : ¬ (off + (conc θ v).cells.size > (concL θ l).toArray.size) := by rw [hsz]; simp [← eq_of_beq hb]; exact hle
          have hcond : (decide ((conc θ v).cells.size ≠ size) || decide (off + (conc θ v).cells.size > (concL θ l).toArray.size)) = false := by
            simp only [Bool.or_eq_false_iff, decide_eq_false_iff_not, ne_eq, Decidable.not_not]
            exact ⟨hsz, hle2⟩
          rw [hcond, if_neg (by simp)]
          have hfold : (conc θ v).cells.zipIdx.foldl (fun (cs : Array Value) (p : Value × Nat) => cs.setIfInBounds (off + p.2) p.1) (concL θ l).toArray = (concL θ l').toArray := by
            rw [cells_conc, ← Array.foldl_toList, Array.toList_zipIdx]
            have := foldl_sets (concL θ v.cells) 0 off (concL θ l) (by simp only [concL_length]; omega)
            simp only [Nat.add_zero, concL_length] at this
            rw [this, concL_splice hs]
          rw [hfold]
          exact ih h
        · cases h
theorem fillQ_ok {K : Nat → Prop} {place : Nat → Option (Nat × Nat)} (parts : List (Nat × SV)) : ∀ {l r : List SV}, fillQ place l parts = some r → SV.okL K l → (∀ p ∈ parts, p.2.ok K) → SV.okL K r := by
  induction parts with
  | nil => intro l r h hl _; simp only [fillQ, Option.some.injEq] at h; subst h; exact hl
  | cons p parts ih =>
    intro l r h hl hp
    obtain ⟨i, v⟩ := p
    simp only [fillQ] at h
    split at h
    · cases h
    · cases hb : Nat.beq v.cells.length _ with
      | false => rw [hb] at h; cases h
      | true =>
        rw [hb] at h
        simp only [cond_true] at h
        split at h
        · rename_i l' hs
          exact ih h (splice_ok hs hl (cells_ok (hp (i, v) (List.mem_cons_self ..)))) fun q hq => hp q (List.mem_cons_of_mem _ hq)
        · cases h

theorem sizesQ_run (fs : List Field) : ∀ {r : List (Nat × Nat)}, sizesQ P fs = some r → ∀ w : World, (fs.mapM fun f => do pure (f.offset, ← sizeOf f.type) : Sem (List (Nat × Nat))).run P w = .ok r w := by
  induction fs with
  | nil => intro r h w; simp only [sizesQ, Option.some.injEq] at h; subst h; rfl
  | cons f fs ih =>
    intro r h w
    simp only [sizesQ] at h
    split at h
    · rename_i s r' hs hr
      simp only [Option.some.injEq] at h; subst h
      simp only [List.mapM_cons, Sem.run_bind, r_sizeOf hs w, Result.andThen, Sem.run_pure, ih hr w]
    · cases h

theorem buildQ_sound {t : TypeId} {parts : List (Nat × SV)} {q : SV} (hq : buildQ P t parts = some q) :
    (Instr.build t (parts.map fun p => (p.1, conc θ p.2)).toArray).run P w = .ok (conc θ q) w := by
  unfold buildQ at hq
  split at hq
  · rename_i z fields hz hu
    split at hq
    · rename_i places hp
      rw [Option.map_eq_some_iff] at hq
      obtain ⟨r, hr, rfl⟩ := hq
      have h1 := fillQ_sound (θ := θ) parts hr
      have hc : (concL θ (SV.cells (.lit z))).toArray = z.cells := (cells_conc θ (.lit z)).symm
      rw [hc] at h1
      have hm := sizesQ_run fields.toList hp w
      have hm' : (fields.mapM fun f => do pure (f.offset, ← sizeOf f.type) : Sem (Array (Nat × Nat))).run P w = .ok places.toArray w := by
        rw [Array.mapM_eq_mapM_toList]
        simp only [Sem.run_map, hm, Result.andThen]
      have hfun : (fun i : Nat => places.toArray[i]?) = (fun i : Nat => places[i]?) := by funext i; simp
      simp only [Instr.build, Sem.run_bind, r_zeroValue hz w, Result.andThen, r_underlying hu w, hm', hfun, h1, Sem.run_pure]
      rfl
    · cases hq
  · rename_i z n e hz hu
    split at hq
    · rename_i size hs
      rw [Option.map_eq_some_iff] at hq
      obtain ⟨r, hr, rfl⟩ := hq
      have h1 := fillQ_sound (θ := θ) parts hr
      have hc : (concL θ (SV.cells (.lit z))).toArray = z.cells := (cells_conc θ (.lit z)).symm
      rw [hc] at h1
      simp only [Instr.build, Sem.run_bind, r_zeroValue hz w, Result.andThen, r_underlying hu w, r_sizeOf hs w, h1, Sem.run_pure]
      rfl
    · cases hq
  · cases hq
theorem buildQ_ok {K : Nat → Prop} {t : TypeId} {parts : List (Nat × SV)} {q : SV} (hq : buildQ P t parts = some q) (hp : ∀ p ∈ parts, p.2.ok K) : q.ok K := by
  unfold buildQ at hq
  split at hq
  · split at hq
    · rw [Option.map_eq_some_iff] at hq
      obtain ⟨r, hr, rfl⟩ := hq
      exact fillQ_ok parts hr (cells_ok (v := .lit _) trivial) hp
    · cases hq
  · split at hq
    · rw [Option.map_eq_some_iff] at hq
      obtain ⟨r, hr, rfl⟩ := hq
      exact fillQ_ok parts hr (cells_ok (v := .lit _) trivial) hp
    · cases hq
  · cases hq

/-! ### == of references -/
theorem maxDepth_eq : ∃ d, Op.maxDepth = d + 1 := ⟨9999, rfl⟩

theorem refEq_sound {t : TypeId} {x y : SV} {b : Bool} (hq : refEq P t x y = some b) : (Op.equal t (conc θ x) (conc θ y)).run P w = .ok b w := by
  unfold refEq at hq
  obtain ⟨d, hd⟩ := maxDepth_eq
  rw [Op.equal, hd]
  split at hq
  all_goals first
    | (rename_i hu; simp only [Option.some.injEq] at hq; subst hq; simp only [Op.equalIn, conc, Sem.run_bind, r_underlying hu w, Result.andThen, Sem.run_pure, Option.isNone]; done)
    | skip
  · rename_i e b0 o b1 o1 hu
    split at hq
    · rename_i n hn
      cases hb : Nat.beq b0 b1 with
      | false => rw [hb] at hq; cases hq
      | true =>
        rw [hb] at hq
        simp only [cond_true, Option.some.injEq] at hq
        have := eq_of_beq hb
        subst this
        subst hq
        simp only [Op.equalIn, conc, Sem.run_bind, r_underlying hu w, Result.andThen, r_sizeOf hn w, ne_eq, Nat.succ_ne_zero, not_false_eq_true, if_true, sameAddr, beq_self_eq_true, Sem.run_pure]
        congr 1
        cases hoo : Nat.beq o o1 with
        | true => have := eq_of_beq hoo; subst this; simp
        | false => simp [ne_of_beq hoo]
    · cases hq
  · cases hq

theorem eqGuard_ref {op : BinOp} {t : TypeId} {xo yo : Operand} {a b : Value} (h1 : ¬ (a = .nilIface ∧ b = .nilIface)) (h2 : ∀ c d, ¬ (a = .agg c ∧ b = .agg d)) : (eqGuard op t xo yo a b).run P w = .ok () w := by
  unfold eqGuard
  cases op <;> first
    | rfl
    | (cases a <;> first
        | rfl
        | (cases b <;> first | rfl | exact absurd ⟨rfl, rfl⟩ h1 | exact absurd ⟨rfl, rfl⟩ (h2 _ _)))

theorem binQ_sound {op : BinOp} {t : TypeId} {xo yo : Operand} {x y q : SV} (hq : binQ P op t xo yo x y = some q) :
    (do eqGuard op t xo yo (conc θ x) (conc θ y); binOp op t (conc θ x) (conc θ y) : Sem Value).run P w = .ok (conc θ q) w := by
  unfold binQ at hq
  split at hq
  · rename_i a b ha hb
    rw [Option.map_eq_some_iff] at hq
    obtain ⟨v, hv, rfl⟩ := hq
    rw [toLit_conc θ _ _ ha, toLit_conc θ _ _ hb]
    exact pureRun_sound _ v hv w
  · have key : ∀ r, refEq P t x y = some r → (eqGuard op t xo yo (conc θ x) (conc θ y)).run P w = .ok () w ∧
        (∀ k n, conc θ x ≠ .int k n) ∧ (∀ k n, conc θ x ≠ .float k n) ∧ (∀ k n m, conc θ x ≠ .complex k n m) ∧ (∀ s, conc θ x ≠ .string s) := by
      intro r hr
      unfold refEq at hr
      split at hr
      all_goals first
        | (cases hr; done)
        | (refine ⟨eqGuard_ref (by simp [conc]) (by simp [conc]), ?_, ?_, ?_, ?_⟩ <;> simp [conc])
    split at hq
    · rw [Option.map_eq_some_iff] at hq
      obtain ⟨r, hr, rfl⟩ := hq
      obtain ⟨hg, n1, n2, n3, n4⟩ := key r hr
      have he := refEq_sound (θ := θ) (w := w) hr
      simp only [Sem.run_bind, hg, Result.andThen]
      generalize conc θ x = cx at *
      generalize conc θ y = cy at *
      unfold binOp
      cases cx <;> first
        | (exact absurd rfl (n1 _ _))
        | (exact absurd rfl (n2 _ _))
        | (exact absurd rfl (n3 _ _ _))
        | (exact absurd rfl (n4 _))
        | (simp only [Sem.run_bind, he, Result.andThen, Sem.run_pure]; rfl)
    · rw [Option.map_eq_some_iff] at hq
      obtain ⟨r, hr, rfl⟩ := hq
      obtain ⟨hg, n1, n2, n3, n4⟩ := key r hr
      have he := refEq_sound (θ := θ) (w := w) hr
      simp only [Sem.run_bind, hg, Result.andThen]
      generalize conc θ x = cx at *
      generalize conc θ y = cy at *
      unfold binOp
      cases cx <;> first
        | (exact absurd rfl (n1 _ _))
        | (exact absurd rfl (n2 _ _))
        | (exact absurd rfl (n3 _ _ _))
        | (exact absurd rfl (n4 _))
        | (simp only [Sem.run_bind, he, Result.andThen, Sem.run_pure]; rfl)
    · cases hq
theorem binQ_ok {K : Nat → Prop} {op : BinOp} {t : TypeId} {xo yo : Operand} {x y q : SV} (hq : binQ P op t xo yo x y = some q) : q.ok K := by
  unfold binQ at hq
  split at hq
  · rw [Option.map_eq_some_iff] at hq
    obtain ⟨v, _, rfl⟩ := hq; trivial
  · split at hq
    · rw [Option.map_eq_some_iff] at hq
      obtain ⟨v, _, rfl⟩ := hq; trivial
    · rw [Option.map_eq_some_iff] at hq
      obtain ⟨v, _, rfl⟩ := hq; trivial
    · cases hq
end
end Go.Proofs.YthjkejnmjbljfaaGreatDoor.Ev
