/-
  THE EVALUATOR'S QUIET OPERATIONS ARE THE MODEL'S (slices, maps, lengths, conversions; and all of them in one word), by the author of this claim. Of any program; no condition.
-/
import Derived.Test.YthjkejnmjbljfaaGreatDoorEvD
namespace Go.Proofs.YthjkejnmjbljfaaGreatDoor.Ev
open Go Go.RowKit

section
variable {P : Program} {Γ : Env} {θ : Ren} {w : World}

/-! ### slice expressions -/
theorem boundQ_some {v : SV} {d most r : Nat} (h : boundQ (some v) d most = some r) : ∃ k, v = .lit (.int k (r : Int)) ∧ r ≤ most := by
  unfold boundQ at h
  split at h
  · rename_i he; cases he
  · rename_i k i he
    cases he
    cases e : Nat.ble i most with
    | false => rw [e] at h; cases h
    | true =>
      rw [e] at h
      simp only [cond_true, Option.some.injEq] at h
      subst h
      exact ⟨k, rfl, le_of_ble e⟩
  · cases h

theorem sliceBound_run {k : IntKind} {i y : Nat} (code : BoundsCode) (h : i ≤ y) : (Instr.sliceBound (.int k (i : Int)) y code).run P w = .ok i w := by
  have h0 : (0 : Int) ≤ (i : Int) ∧ (i : Int) ≤ (y : Int) := by omega
  simp only [Instr.sliceBound, asIntOf, Sem.run_bind, Sem.run_pure, Result.andThen, h0, and_self, if_true, Int.toNat_natCast]

theorem boundQ_lo {lo : Option SV} {h l : Nat} (h2 : boundQ lo 0 h = some l) : (lo = none ∧ l = 0) ∨ ∃ k, lo = some (.lit (.int k (l : Int))) ∧ l ≤ h := by
  cases lo with
  | none => simp only [boundQ, Option.some.injEq] at h2; exact .inl ⟨rfl, h2.symm⟩
  | some v => obtain ⟨k, rfl, hle⟩ := boundQ_some h2; exact .inr ⟨k, rfl, hle⟩

theorem bounds_nomax {lo hi : Option SV} {len cap most h l : Nat} (isS : Bool) (h1 : boundQ hi len most = some h) (hm : most ≤ cap) (h2 : boundQ lo 0 h = some l) :
    (Instr.sliceBounds isS len cap (lo.map (conc θ)) (hi.map (conc θ)) none).run P w = .ok (l, h, cap) w := by
  cases hi with
  | none =>
    simp only [boundQ, Option.some.injEq] at h1
    subst h1
    rcases boundQ_lo h2 with ⟨rfl, rfl⟩ | ⟨k, rfl, hle⟩
    · simp only [Instr.sliceBounds, Option.map_none, Sem.run_bind, Sem.run_pure, Result.andThen]
    · simp only [Instr.sliceBounds, Option.map_none, Option.map_some, conc, Sem.run_bind, Sem.run_pure, Result.andThen, Option.isSome_none, Bool.false_eq_true, if_false, sliceBound_run _ hle]
  | some v =>
    obtain ⟨k, rfl, hle⟩ := boundQ_some h1
    have e1 := sliceBound_run (P := P) (w := w) (k := k) (if isS then .sliceAcap else .sliceAlen) (Nat.le_trans hle hm)
    rcases boundQ_lo h2 with ⟨rfl, rfl⟩ | ⟨k', rfl, hle'⟩
    · simp only [Instr.sliceBounds, Option.map_none, Option.map_some, conc, Sem.run_bind, Sem.run_pure, Result.andThen, e1]
    · simp only [Instr.sliceBounds, Option.map_some, conc, Sem.run_bind, Sem.run_pure, Result.andThen, e1, Option.isSome_none, Bool.false_eq_true, if_false, sliceBound_run _ hle']

theorem bounds_max {lo : Option SV} {m hv : SV} {len cap most mm h l d : Nat} (isS : Bool) (h0 : boundQ (some m) d most = some mm) (hm : most ≤ cap) (h1 : boundQ (some hv) d mm = some h) (h2 : boundQ lo 0 h = some l) :
    (Instr.sliceBounds isS len cap (lo.map (conc θ)) (some (conc θ hv)) (some (conc θ m))).run P w = .ok (l, h, mm) w := by
  obtain ⟨k, rfl, hle⟩ := boundQ_some h0
  obtain ⟨k', rfl, hle'⟩ := boundQ_some h1
  have e0 := sliceBound_run (P := P) (w := w) (k := k) (if isS then .slice3Acap else .slice3Alen) (Nat.le_trans hle hm)
  have e1 := sliceBound_run (P := P) (w := w) (k := k') .slice3B hle'
  rcases boundQ_lo h2 with ⟨rfl, rfl⟩ | ⟨k', rfl, hle'⟩
  · simp only [Instr.sliceBounds, Option.map_none, conc, Sem.run_bind, Sem.run_pure, Result.andThen, e0, e1]
  · simp only [Instr.sliceBounds, Option.map_some, conc, Sem.run_bind, Sem.run_pure, Result.andThen, e0, e1, Option.isSome_some, if_true, sliceBound_run _ hle']

theorem offs {b off m l s : Nat} : (if m = l then some (⟨b, off, none⟩ : Addr) else (some (⟨b, off, none⟩ : Addr)).map (·.add (l * s))) = some ⟨b, bif Nat.beq m l then off else off + l * s, none⟩ := by
  by_cases h : m = l
  · rw [if_pos h, beq_t h]; rfl
  · rw [if_neg h, beq_f h]; simp [add_none]

theorem sliceQ_sound {t : TypeId} {x q : SV} {lo hi mx : Option SV} (hq : sliceQ P t x lo hi mx = some q) :
    (Instr.sliceAt t (conc θ x) (lo.map (conc θ)) (hi.map (conc θ)) (mx.map (conc θ))).run P w = .ok (conc θ q) w := by
  unfold sliceQ at hq
  split at hq
  · rename_i e b off len cap hu
    split at hq
    · rename_i s h hs h1
      split at hq
      · rename_i l h2
        simp only [Option.some.injEq] at hq; subst hq
        simp only [Instr.sliceAt, Instr.slice, conc, Sem.run_bind, r_underlying hu w, Result.andThen, Option.map_none, bounds_nomax (θ := θ) true h1 (Nat.le_refl _) h2, r_sizeOf hs w, Sem.run_pure, offs]
      · cases hq
    · cases hq
  · rename_i e b off len k cv hu
    split at hq
    · rename_i s h hs h1
      split at hq
      · rename_i l h2
        have hb := bounds_nomax (P := P) (w := w) (θ := θ) (cap := k + θ.cap cv) true h1 (Nat.le_add_right _ _) h2
        cases hlt : Nat.blt l k with
        | true =>
          rw [hlt] at hq
          simp only [cond_true, Option.some.injEq] at hq; subst hq
          have hlk := lt_of_blt hlt
          have hne : ¬ (k + θ.cap cv = l) := by omega
          simp only [Instr.sliceAt, Instr.slice, conc, Sem.run_bind, r_underlying hu w, Result.andThen, Option.map_none, hb, r_sizeOf hs w, Sem.run_pure, hne, if_false, Option.map_some, add_none]
          rw [show k + θ.cap cv - l = k - l + θ.cap cv by omega]
        | false =>
          rw [hlt] at hq
          simp only [cond_false] at hq
          cases hz : Nat.beq l 0 with
          | false =>
            rw [hz] at hq
            simp only [cond_false] at hq
            cases hk : Nat.beq l k && Nat.beq h k with
            | false => rw [hk] at hq; cases hq
            | true =>
              rw [hk] at hq
              simp only [cond_true, Option.some.injEq] at hq; subst hq
              rw [Bool.and_eq_true] at hk
              have e1 := eq_of_beq hk.1
              have e2 := eq_of_beq hk.2
              have z0 : h - l = 0 := by omega
              have z1 : k + θ.cap cv - l = θ.cap cv := by omega
              simp only [Instr.sliceAt, Instr.slice, conc, Sem.run_bind, r_underlying hu w, Result.andThen, Option.map_none, hb, r_sizeOf hs w, Sem.run_pure, offs, z0, z1]
              have : Nat.beq (k + θ.cap cv) l = Nat.beq (θ.cap cv) 0 := by
                by_cases hc : θ.cap cv = 0
                · rw [beq_t hc, beq_t (by omega)]
                · rw [beq_f hc, beq_f (by omega)]
              rw [this]
          | true =>
            rw [hz] at hq
            simp only [cond_true, Option.some.injEq] at hq; subst hq
            have := eq_of_beq hz
            subst this
            simp only [Instr.sliceAt, Instr.slice, conc, Sem.run_bind, r_underlying hu w, Result.andThen, Option.map_none, hb, r_sizeOf hs w, Sem.run_pure, Option.map_some, add_none, Nat.zero_mul, Nat.add_zero, Nat.sub_zero, ite_self]
      · cases hq
    · cases hq
  · rename_i e b off len cap m hu
    split at hq
    · rename_i s mm hs h0
      split at hq
      · rename_i hv h h1
        split at hq
        · rename_i l h2
          simp only [Option.some.injEq] at hq; subst hq
          simp only [Instr.sliceAt, Instr.slice, conc, Sem.run_bind, r_underlying hu w, Result.andThen, Option.map_some, bounds_max (θ := θ) true h0 (Nat.le_refl _) h1 h2, r_sizeOf hs w, Sem.run_pure]
          have := offs (b := θ.blk b) (off := off) (m := mm) (l := l) (s := s)
          simp only [Option.map_some] at this
          rw [this]
        · cases hq
      · cases hq
    · cases hq
  · rename_i e b off len k cv m hu
    split at hq
    · rename_i s mm hs h0
      split at hq
      · rename_i hv h h1
        split at hq
        · rename_i l h2
          simp only [Option.some.injEq] at hq; subst hq
          simp only [Instr.sliceAt, Instr.slice, conc, Sem.run_bind, r_underlying hu w, Result.andThen, Option.map_some, bounds_max (θ := θ) true h0 (Nat.le_add_right _ _) h1 h2, r_sizeOf hs w, Sem.run_pure]
          have := offs (b := θ.blk b) (off := off) (m := mm) (l := l) (s := s)
          simp only [Option.map_some] at this
          rw [this]
        · cases hq
      · cases hq
    · cases hq
  · rename_i n e b off hu
    split at hq
    · rename_i s h hs h1
      split at hq
      · rename_i l h2
        simp only [Option.some.injEq] at hq; subst hq
        simp only [Instr.sliceAt, conc, Instr.sureAddr, Sem.run_bind, r_underlying hu w, Result.andThen, Option.map_none, bounds_nomax (θ := θ) false h1 (Nat.le_refl _) h2, r_sizeOf hs w, Sem.run_pure]
        by_cases hnl : n = l
        · rw [if_pos hnl, beq_t hnl]; rfl
        · rw [if_neg hnl, beq_f hnl, add_none]; rfl
      · cases hq
    · cases hq
  · rename_i a hu
    split at hq
    all_goals first
      | (cases hq; done)
      | (rw [Option.map_eq_some_iff] at hq; obtain ⟨v, hv, rfl⟩ := hq; exact pureRun_sound _ v hv w)
  · rename_i a m hu
    split at hq
    all_goals first
      | (cases hq; done)
      | (rw [Option.map_eq_some_iff] at hq; obtain ⟨v, hv, rfl⟩ := hq; exact pureRun_sound _ v hv w)
  · cases hq
theorem cond_some {α : Type} {c : Bool} {x y : α} (h : (bif c then some x else none) = some y) : x = y := by
  cases c with
  | false => cases h
  | true => exact Option.some.inj h

theorem sliceQ_ok {K : Nat → Prop} {t : TypeId} {x q : SV} {lo hi mx : Option SV} (hq : sliceQ P t x lo hi mx = some q) (hx : x.ok K) : q.ok K := by
  unfold sliceQ at hq
  split at hq
  · split at hq
    · split at hq
      · simp only [Option.some.injEq] at hq; subst hq; exact hx
      · cases hq
    · cases hq
  · split at hq
    · split at hq
      · rename_i l h2
        cases hlt : Nat.blt l _ with
        | true => rw [hlt] at hq; simp only [cond_true, Option.some.injEq] at hq; subst hq; exact hx
        | false =>
          rw [hlt] at hq
          simp only [cond_false] at hq
          cases hz : Nat.beq l 0 with
          | false =>
            rw [hz] at hq
            simp only [cond_false] at hq
            have he := cond_some hq
            subst he
            exact hx
          | true => rw [hz] at hq; simp only [cond_true, Option.some.injEq] at hq; subst hq; exact hx
      · cases hq
    · cases hq
  · split at hq
    · split at hq
      · split at hq
        · simp only [Option.some.injEq] at hq; subst hq; exact hx
        · cases hq
      · cases hq
    · cases hq
  · split at hq
    · split at hq
      · split at hq
        · simp only [Option.some.injEq] at hq; subst hq; exact hx.1
        · cases hq
      · cases hq
    · cases hq
  · split at hq
    · split at hq
      · simp only [Option.some.injEq] at hq; subst hq; exact hx
      · cases hq
    · cases hq
  · split at hq
    all_goals first
      | (cases hq; done)
      | (rw [Option.map_eq_some_iff] at hq; obtain ⟨v, _, rfl⟩ := hq; trivial)
  · split at hq
    all_goals first
      | (cases hq; done)
      | (rw [Option.map_eq_some_iff] at hq; obtain ⟨v, _, rfl⟩ := hq; trivial)
  · cases hq

/-! ### maps -/
def entryC (θ : Ren) (e : SV × SV × Nat) : MapEntry := ⟨conc θ e.1, conc θ e.2.1, e.2.2⟩

theorem sameNow_equal {kt : TypeId} {d : TypeDesc} {k x : Value} {r r' : Bool} (hu : tyU P kt = some d) (h : Instr.sameNow d k x = some r) (he : pureRun P (Op.equal kt k x) = some r') : r = r' := by
  have hrun := pureRun_sound _ r' he default
  obtain ⟨dd, hd⟩ := maxDepth_eq
  rw [Op.equal, hd] at hrun
  unfold Instr.sameNow at h
  split at h
  · rename_i k1 k2 a k3 b
    by_cases e : k2 = k3
    · rw [if_pos e] at h
      simp only [Option.some.injEq] at h
      simp only [Op.equalIn, Sem.run_bind, r_underlying hu default, Result.andThen, e, if_true, Sem.run_pure, Result.ok.injEq, and_true] at hrun
      rw [← h, ← hrun]
    · rw [if_neg e] at h; cases h
  · rename_i a b
    simp only [Option.some.injEq] at h
    simp only [Op.equalIn, Sem.run_bind, r_underlying hu default, Result.andThen, Sem.run_pure, Result.ok.injEq, and_true] at hrun
    rw [← h, ← hrun]
  · rename_i a b
    simp only [Option.some.injEq] at h
    simp only [Op.equalIn, Sem.run_bind, r_underlying hu default, Result.andThen, Sem.run_pure, Result.ok.injEq, and_true] at hrun
    rw [← h, ← hrun]
  · cases h

theorem findNow_eq {kt : TypeId} {d : TypeDesc} {k : Value} (hu : tyU P kt = some d) (es : List (SV × SV × Nat)) : ∀ {i : Nat} {r : Option (Nat × SV)} {r' : Option (Nat × Value)}, findQ P kt k es i = some r →
    Instr.findNow d k (es.map (entryC θ)) i = some r' → r' = r.map fun x => (x.1, conc θ x.2) := by
  induction es with
  | nil => intro i r r' h h'; simp only [findQ, Option.some.injEq] at h; simp only [List.map_nil, Instr.findNow, Option.some.injEq] at h'; subst h h'; rfl
  | cons e es ih =>
    intro i r r' h h'
    obtain ⟨k', v, c⟩ := e
    simp only [findQ] at h
    split at h
    · rename_i x hx
      simp only [List.map_cons, Instr.findNow] at h'
      have hk : (entryC θ (k', v, c)).key = x := toLit_conc θ _ _ hx
      rw [hk] at h'
      split at h
      · rename_i he
        simp only [Option.some.injEq] at h; subst h
        split at h'
        · simp only [Option.some.injEq] at h'; subst h'; rfl
        · rename_i hn; have := sameNow_equal hu hn he; cases this
        · cases h'
      · rename_i he
        split at h'
        · rename_i hn; have := sameNow_equal hu hn he; cases this
        · exact ih h h'
        · cases h'
      · cases h
    · cases h

theorem findAsking_eq {kt : TypeId} {k : Value} (es : List (SV × SV × Nat)) : ∀ {i : Nat} {r : Option (Nat × SV)}, findQ P kt k es i = some r →
    (Instr.findAsking kt k (es.map (entryC θ)) i).run P w = .ok (r.map fun x => (x.1, conc θ x.2)) w := by
  induction es with
  | nil => intro i r h; simp only [findQ, Option.some.injEq] at h; subst h; rfl
  | cons e es ih =>
    intro i r h
    obtain ⟨k', v, c⟩ := e
    simp only [findQ] at h
    split at h
    · rename_i x hx
      have hk : (entryC θ (k', v, c)).key = x := toLit_conc θ _ _ hx
      simp only [List.map_cons, Instr.findAsking, hk, Sem.run_bind]
      split at h
      · rename_i he
        simp only [Option.some.injEq] at h; subst h
        simp only [pureRun_sound _ _ he w, Result.andThen, if_true, Sem.run_pure]; rfl
      · rename_i he
        simp only [pureRun_sound _ _ he w, Result.andThen, Bool.false_eq_true, if_false]
        exact ih h
      · cases h
    · cases h

theorem findKey_eq {kt : TypeId} {d : TypeDesc} {k : Value} (hu : tyU P kt = some d) {es : List (SV × SV × Nat)} {r : Option (Nat × SV)} (h : findQ P kt k es 0 = some r) :
    (Instr.findKey kt k (es.map (entryC θ))).run P w = .ok (r.map fun x => (x.1, conc θ x.2)) w := by
  simp only [Instr.findKey, Sem.run_bind, r_underlying hu w, Result.andThen]
  cases hn : Instr.findNow d k (es.map (entryC θ)) 0 with
  | none => exact findAsking_eq es h
  | some r' => simp only [Sem.run_pure]; rw [findNow_eq hu es h hn]

/-- The key's type is one: the model has looked at it. -/
theorem checkKey_type {e : Bool} {kt : TypeId} {k : Value} {u : Unit} (h : pureRun P (Instr.checkKey e 10000 kt k) = some u) : ∃ d, tyU P kt = some d := by
  have hr := pureRun_sound _ u h default
  cases hu : tyU P kt with
  | some d => exact ⟨d, rfl⟩
  | none =>
    obtain ⟨n, hn⟩ : ∃ n, 10000 = n + 1 := ⟨9999, rfl⟩
    rw [hn] at hr
    have hus : (underlying kt).run P (default : World) = .halt (.stuck "no such type") default := by
      have hu' : P.underlying kt = none := hu
      simp only [underlying, Sem.run_bind, run_program, Result.andThen, hu', run_stuck]
    simp only [Instr.checkKey, Sem.run_bind, hus, Result.andThen] at hr
    cases hr

theorem getObj_map {b : Nat} {es : List (SV × SV × Nat)} {c : Nat} (hf : FactW θ w (.obj b (.map es c))) : (getObj (θ.blk b)).run P w = .ok (.map (es.map (entryC θ)).toArray c) w := by
  obtain ⟨ob, hw, hO⟩ := hf
  simp only [ORep] at hO
  subst hO
  simp only [getObj, Sem.run, hw]
  rfl

theorem entriesQ_sound {h : Hp} {m : SV} {es : List (SV × SV × Nat)} {fs : List Fact} (hq : entriesQ h m = some (es, fs)) (hf : ∀ f ∈ fs, FactW θ w f) :
    (conc θ m = .map none ∧ es = []) ∨ ∃ r c, conc θ m = .map (some r) ∧ (getObj r).run P w = .ok (.map (es.map (entryC θ)).toArray c) w := by
  unfold entriesQ at hq
  split at hq
  · simp only [Option.some.injEq, Prod.mk.injEq] at hq
    obtain ⟨rfl, rfl⟩ := hq
    exact .inl ⟨rfl, rfl⟩
  · split at hq
    · rename_i b es' c hb
      simp only [Option.some.injEq, Prod.mk.injEq] at hq
      obtain ⟨rfl, rfl⟩ := hq
      exact .inr ⟨_, c, rfl, getObj_map (hf _ (List.mem_singleton.2 rfl))⟩
    · cases hq
  · cases hq

theorem lookupQ_sound {h : Hp} {t : TypeId} {m k v : SV} {ok : Bool} {fs : List Fact} (hq : lookupQ P h t m k ok = some (v, fs)) (hf : ∀ f ∈ fs, FactW θ w f) :
    (Instr.lookup t (conc θ m) (conc θ k) ok).run P w = .ok (conc θ v) w := by
  unfold lookupQ at hq
  split at hq
  · rename_i kt et es gs kv hu hes hk
    rw [toLit_conc θ _ _ hk]
    have hemp : (es.map (entryC θ)).toArray.isEmpty = es.isEmpty := by cases es <;> rfl
    split at hq
    · rename_i i v' hck hfd
      simp only [Option.some.injEq, Prod.mk.injEq] at hq
      obtain ⟨rfl, rfl⟩ := hq
      obtain ⟨d, hd⟩ := checkKey_type hck
      have hfk := findKey_eq (θ := θ) (w := w) hd hfd
      rcases entriesQ_sound (P := P) hes hf with ⟨hm, rfl⟩ | ⟨r, c, hm, hg⟩
      · simp only [findQ, Option.some.injEq] at hfd; cases hfd
      · rw [hm]
        simp only [Instr.lookup, Sem.run_bind, r_underlying hu w, Result.andThen, hg, Sem.run_pure, hemp, pureRun_sound _ _ hck w, hfk, Option.map_some]
        cases ok <;> rfl
    · rename_i hck hfd
      split at hq
      · rename_i z hz
        simp only [Option.some.injEq, Prod.mk.injEq] at hq
        obtain ⟨rfl, rfl⟩ := hq
        obtain ⟨d, hd⟩ := checkKey_type hck
        have hfk := findKey_eq (θ := θ) (w := w) hd hfd
        rcases entriesQ_sound (P := P) hes hf with ⟨hm, rfl⟩ | ⟨r, c, hm, hg⟩
        · rw [hm]
          simp only [List.map_nil, Option.map_none] at hfk
          have hck' : pureRun P (Instr.checkKey (#[] : Array MapEntry).isEmpty 10000 kt kv) = some _ := hck
          simp only [Instr.lookup, Sem.run_bind, r_underlying hu w, Result.andThen, Sem.run_pure, pureRun_sound _ _ hck' w, hfk, r_zeroValue hz w]
          cases ok <;> rfl
        · rw [hm]
          simp only [Instr.lookup, Sem.run_bind, r_underlying hu w, Result.andThen, hg, Sem.run_pure, hemp, pureRun_sound _ _ hck w, hfk, Option.map_none, r_zeroValue hz w]
          cases ok <;> rfl
      · cases hq
    · cases hq
  · cases hq

theorem findQ_mem {kt : TypeId} {k : Value} (es : List (SV × SV × Nat)) : ∀ {i j : Nat} {v : SV}, findQ P kt k es i = some (some (j, v)) → ∃ e ∈ es, e.2.1 = v := by
  induction es with
  | nil => intro i j v h; simp only [findQ, Option.some.injEq] at h; cases h
  | cons e es ih =>
    intro i j v h
    obtain ⟨k', u, c⟩ := e
    simp only [findQ] at h
    split at h
    · split at h
      · simp only [Option.some.injEq, Prod.mk.injEq] at h
        exact ⟨_, List.mem_cons_self .., h.2⟩
      · obtain ⟨e, he, hv⟩ := ih h
        exact ⟨e, List.mem_cons_of_mem _ he, hv⟩
      · cases h
    · cases h
theorem entriesQ_ok {K : Nat → Prop} {h : Hp} {m : SV} {es : List (SV × SV × Nat)} {fs : List Fact} (hq : entriesQ h m = some (es, fs)) (hh : ∀ b o, h.objs.get b = some o → o.ok K) : ∀ e ∈ es, e.1.ok K ∧ e.2.1.ok K := by
  unfold entriesQ at hq
  split at hq
  · simp only [Option.some.injEq, Prod.mk.injEq] at hq
    obtain ⟨rfl, rfl⟩ := hq
    intro e he; cases he
  · split at hq
    · rename_i hb
      simp only [Option.some.injEq, Prod.mk.injEq] at hq
      obtain ⟨rfl, rfl⟩ := hq
      exact hh _ _ hb
    · cases hq
  · cases hq
theorem entriesQ_facts {h : Hp} {m : SV} {es : List (SV × SV × Nat)} {fs : List Fact} (hq : entriesQ h m = some (es, fs)) : ∀ f ∈ fs, FactA h f := by
  unfold entriesQ at hq
  split at hq
  · simp only [Option.some.injEq, Prod.mk.injEq] at hq
    obtain ⟨rfl, rfl⟩ := hq
    intro f hf; cases hf
  · split at hq
    · rename_i hb
      simp only [Option.some.injEq, Prod.mk.injEq] at hq
      obtain ⟨rfl, rfl⟩ := hq
      intro f hf
      rw [List.mem_singleton.1 hf]
      exact hb
    · cases hq
  · cases hq
theorem lookupQ_facts {h : Hp} {t : TypeId} {m k v : SV} {ok : Bool} {fs : List Fact} (hq : lookupQ P h t m k ok = some (v, fs)) : ∀ f ∈ fs, FactA h f := by
  unfold lookupQ at hq
  split at hq
  · rename_i hes _
    split at hq
    · simp only [Option.some.injEq, Prod.mk.injEq] at hq
      obtain ⟨rfl, rfl⟩ := hq
      exact entriesQ_facts hes
    · split at hq
      · simp only [Option.some.injEq, Prod.mk.injEq] at hq
        obtain ⟨rfl, rfl⟩ := hq
        exact entriesQ_facts hes
      · cases hq
    · cases hq
  · cases hq
theorem lookupQ_ok {K : Nat → Prop} {h : Hp} {t : TypeId} {m k v : SV} {ok : Bool} {fs : List Fact} (hq : lookupQ P h t m k ok = some (v, fs)) (hh : ∀ b o, h.objs.get b = some o → o.ok K) : v.ok K ∧ ∀ f ∈ fs, FactA h f := by
  unfold lookupQ at hq
  split at hq
  · rename_i kt et es gs kv hu hes hk
    split at hq
    · rename_i i v' hck hfd
      simp only [Option.some.injEq, Prod.mk.injEq] at hq
      obtain ⟨rfl, rfl⟩ := hq
      obtain ⟨e, he, rfl⟩ := findQ_mem es hfd
      have := (entriesQ_ok hes hh e he).2
      refine ⟨?_, entriesQ_facts hes⟩
      cases ok
      · exact this
      · exact ⟨this, trivial, trivial⟩
    · split at hq
      · simp only [Option.some.injEq, Prod.mk.injEq] at hq
        obtain ⟨rfl, rfl⟩ := hq
        refine ⟨?_, entriesQ_facts hes⟩
        cases ok
        · trivial
        · exact ⟨trivial, trivial, trivial⟩
      · cases hq
    · cases hq
  · cases hq
end
end Go.Proofs.YthjkejnmjbljfaaGreatDoor.Ev
