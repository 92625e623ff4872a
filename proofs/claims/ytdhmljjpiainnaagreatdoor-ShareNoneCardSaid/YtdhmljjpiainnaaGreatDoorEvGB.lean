/-
  THE EVALUATOR'S QUIET OPERATIONS ARE THE MODEL'S (slices, maps, lengths, conversions; and all of them in one word), by the author of this claim. Of any program; no condition. | THE EVALUATOR'S QUIET OPERATIONS ARE THE MODEL'S, in one word, by the author of this claim. Of any program; no condition. | THE EVALUATOR'S OPERATIONS THAT MAKE OR TURN MEMORY ARE THE MODEL'S (1: the laws of the heap; stores, new blocks, maps), by the author of this claim. Of any program; no condition. | THE EVALUATOR'S OPERATIONS THAT MAKE OR TURN MEMORY ARE THE MODEL'S (2: make, maps, ranges), by the author of this claim. Of any program; no condition.
-/
import Derived.Test.YtdhmljjpiainnaaGreatDoorEvGA
namespace Go.Proofs.YtdhmljjpiainnaaGreatDoor.Ev
open Go Go.RowKit
section
variable {P : Program} {Γ : Env} {θ : Ren} {w : World}
theorem boundQ_some {v : SV} {d most r : Nat} (h : boundQ (some v) d most = some r) : ∃ k, v = .lit (.int k (r : Int)) ∧ r ≤ most := by
  unfold boundQ at h
  split at h
  · rename_i he; cases he
  · rename_i k i he
    cases he
    cases e : Nat.ble i most with
    | false => rw [e] at h; cases h
    | true =>
      rw [e] at h
      simp only [cond_true, Option.some.injEq] at h
      subst h
      exact ⟨k, rfl, le_of_ble e⟩
  · cases h
theorem sliceBound_run {k : IntKind} {i y : Nat} (code : BoundsCode) (h : i ≤ y) : (Instr.sliceBound (.int k (i : Int)) y code).run P w = .ok i w := by
  have h0 : (0 : Int) ≤ (i : Int) ∧ (i : Int) ≤ (y : Int) := by omega
  simp only [Instr.sliceBound, asIntOf, Sem.run_bind, Sem.run_pure, Result.andThen, h0, and_self, if_true, Int.toNat_natCast]
theorem boundQ_lo {lo : Option SV} {h l : Nat} (h2 : boundQ lo 0 h = some l) : (lo = none ∧ l = 0) ∨ ∃ k, lo = some (.lit (.int k (l : Int))) ∧ l ≤ h := by
  cases lo with
  | none => simp only [boundQ, Option.some.injEq] at h2; exact .inl ⟨rfl, h2.symm⟩
  | some v => obtain ⟨k, rfl, hle⟩ := boundQ_some h2; exact .inr ⟨k, rfl, hle⟩
theorem bounds_nomax {lo hi : Option SV} {len cap most h l : Nat} (isS : Bool) (h1 : boundQ hi len most = some h) (hm : most ≤ cap) (h2 : boundQ lo 0 h = some l) :
    (Instr.sliceBounds isS len cap (lo.map (conc θ)) (hi.map (conc θ)) none).run P w = .ok (l, h, cap) w := by
  cases hi with
  | none =>
    simp only [boundQ, Option.some.injEq] at h1
    subst h1
    rcases boundQ_lo h2 with ⟨rfl, rfl⟩ | ⟨k, rfl, hle⟩
    · simp only [Instr.sliceBounds, Option.map_none, Sem.run_bind, Sem.run_pure, Result.andThen]
    · simp only [Instr.sliceBounds, Option.map_none, Option.map_some, conc, Sem.run_bind, Sem.run_pure, Result.andThen, Option.isSome_none, Bool.false_eq_true, if_false, sliceBound_run _ hle]
  | some v =>
    obtain ⟨k, rfl, hle⟩ := boundQ_some h1
    have e1 := sliceBound_run (P := P) (w := w) (k := k) (if isS then .sliceAcap else .sliceAlen) (Nat.le_trans hle hm)
    rcases boundQ_lo h2 with ⟨rfl, rfl⟩ | ⟨k', rfl, hle'⟩
    · simp only [Instr.sliceBounds, Option.map_none, Option.map_some, conc, Sem.run_bind, Sem.run_pure, Result.andThen, e1]
    · simp only [Instr.sliceBounds, Option.map_some, conc, Sem.run_bind, Sem.run_pure, Result.andThen, e1, Option.isSome_none, Bool.false_eq_true, if_false, sliceBound_run _ hle']
theorem bounds_max {lo : Option SV} {m hv : SV} {len cap most mm h l d : Nat} (isS : Bool) (h0 : boundQ (some m) d most = some mm) (hm : most ≤ cap) (h1 : boundQ (some hv) d mm = some h) (h2 : boundQ lo 0 h = some l) :
    (Instr.sliceBounds isS len cap (lo.map (conc θ)) (some (conc θ hv)) (some (conc θ m))).run P w = .ok (l, h, mm) w := by
  obtain ⟨k, rfl, hle⟩ := boundQ_some h0
  obtain ⟨k', rfl, hle'⟩ := boundQ_some h1
  have e0 := sliceBound_run (P := P) (w := w) (k := k) (if isS then .slice3Acap else .slice3Alen) (Nat.le_trans hle hm)
  have e1 := sliceBound_run (P := P) (w := w) (k := k') .slice3B hle'
  rcases boundQ_lo h2 with ⟨rfl, rfl⟩ | ⟨k', rfl, hle'⟩
  · simp only [Instr.sliceBounds, Option.map_none, conc, Sem.run_bind, Sem.run_pure, Result.andThen, e0, e1]
  · simp only [Instr.sliceBounds, Option.map_some, conc, Sem.run_bind, Sem.run_pure, Result.andThen, e0, e1, Option.isSome_some, if_true, sliceBound_run _ hle']
theorem offs {b off m l s : Nat} : (if m = l then some (⟨b, off, none⟩ : Addr) else (some (⟨b, off, none⟩ : Addr)).map (·.add (l * s))) = some ⟨b, bif Nat.beq m l then off else off + l * s, none⟩ := by
  by_cases h : m = l
  · rw [if_pos h, beq_t h]; rfl
  · rw [if_neg h, beq_f h]; simp [add_none]
theorem sliceQ_sound {t : TypeId} {x q : SV} {lo hi mx : Option SV} (hq : sliceQ P t x lo hi mx = some q) :
    (Instr.sliceAt t (conc θ x) (lo.map (conc θ)) (hi.map (conc θ)) (mx.map (conc θ))).run P w = .ok (conc θ q) w := by
  unfold sliceQ at hq
  split at hq
  · rename_i e b off len cap hu
    split at hq
    · rename_i s h hs h1
      split at hq
      · rename_i l h2
        simp only [Option.some.injEq] at hq; subst hq
        simp only [Instr.sliceAt, Instr.slice, conc, Sem.run_bind, r_underlying hu w, Result.andThen, Option.map_none, bounds_nomax (θ := θ) true h1 (Nat.le_refl _) h2, r_sizeOf hs w, Sem.run_pure, offs]
      · cases hq
    · cases hq
  · rename_i e b off len k cv hu
    split at hq
    · rename_i s h hs h1
      split at hq
      · rename_i l h2
        have hb := bounds_nomax (P := P) (w := w) (θ := θ) (cap := k + θ.cap cv) true h1 (Nat.le_add_right _ _) h2
        cases hlt : Nat.blt l k with
        | true =>
          rw [hlt] at hq
          simp only [cond_true, Option.some.injEq] at hq; subst hq
          have hlk := lt_of_blt hlt
          have hne : ¬ (k + θ.cap cv = l) := by omega
          simp only [Instr.sliceAt, Instr.slice, conc, Sem.run_bind, r_underlying hu w, Result.andThen, Option.map_none, hb, r_sizeOf hs w, Sem.run_pure, hne, if_false, Option.map_some, add_none]
          rw [show k + θ.cap cv - l = k - l + θ.cap cv by omega]
        | false =>
          rw [hlt] at hq
          simp only [cond_false] at hq
          cases hz : Nat.beq l 0 with
          | false =>
            rw [hz] at hq
            simp only [cond_false] at hq
            cases hk : Nat.beq l k && Nat.beq h k with
            | false => rw [hk] at hq; cases hq
            | true =>
              rw [hk] at hq
              simp only [cond_true, Option.some.injEq] at hq; subst hq
              rw [Bool.and_eq_true] at hk
              have e1 := eq_of_beq hk.1
              have e2 := eq_of_beq hk.2
              have z0 : h - l = 0 := by omega
              have z1 : k + θ.cap cv - l = θ.cap cv := by omega
              simp only [Instr.sliceAt, Instr.slice, conc, Sem.run_bind, r_underlying hu w, Result.andThen, Option.map_none, hb, r_sizeOf hs w, Sem.run_pure, offs, z0, z1]
              have : Nat.beq (k + θ.cap cv) l = Nat.beq (θ.cap cv) 0 := by
                by_cases hc : θ.cap cv = 0
                · rw [beq_t hc, beq_t (by omega)]
                · rw [beq_f hc, beq_f (by omega)]
              rw [this]
          | true =>
            rw [hz] at hq
            simp only [cond_true, Option.some.injEq] at hq; subst hq
            have := eq_of_beq hz
            subst this
            simp only [Instr.sliceAt, Instr.slice, conc, Sem.run_bind, r_underlying hu w, Result.andThen, Option.map_none, hb, r_sizeOf hs w, Sem.run_pure, Option.map_some, add_none, Nat.zero_mul, Nat.add_zero, Nat.sub_zero, ite_self]
      · cases hq
    · cases hq
  · rename_i e b off len cap m hu
    split at hq
    · rename_i s mm hs h0
      split at hq
      · rename_i hv h h1
        split at hq
        · rename_i l h2
          simp only [Option.some.injEq] at hq; subst hq
          simp only [Instr.sliceAt, Instr.slice, conc, Sem.run_bind, r_underlying hu w, Result.andThen, Option.map_some, bounds_max (θ := θ) true h0 (Nat.le_refl _) h1 h2, r_sizeOf hs w, Sem.run_pure]
          have := offs (b := θ.blk b) (off := off) (m := mm) (l := l) (s := s)
          simp only [Option.map_some] at this
          rw [this]
        · cases hq
      · cases hq
    · cases hq
  · rename_i e b off len k cv m hu
    split at hq
    · rename_i s mm hs h0
      split at hq
      · rename_i hv h h1
        split at hq
        · rename_i l h2
          simp only [Option.some.injEq] at hq; subst hq
          simp only [Instr.sliceAt, Instr.slice, conc, Sem.run_bind, r_underlying hu w, Result.andThen, Option.map_some, bounds_max (θ := θ) true h0 (Nat.le_add_right _ _) h1 h2, r_sizeOf hs w, Sem.run_pure]
          have := offs (b := θ.blk b) (off := off) (m := mm) (l := l) (s := s)
          simp only [Option.map_some] at this
          rw [this]
        · cases hq
      · cases hq
    · cases hq
  · rename_i n e b off hu
    split at hq
    · rename_i s h hs h1
      split at hq
      · rename_i l h2
        simp only [Option.some.injEq] at hq; subst hq
        simp only [Instr.sliceAt, conc, Instr.sureAddr, Sem.run_bind, r_underlying hu w, Result.andThen, Option.map_none, bounds_nomax (θ := θ) false h1 (Nat.le_refl _) h2, r_sizeOf hs w, Sem.run_pure]
        by_cases hnl : n = l
        · rw [if_pos hnl, beq_t hnl]; rfl
        · rw [if_neg hnl, beq_f hnl, add_none]; rfl
      · cases hq
    · cases hq
  · rename_i a hu
    split at hq
    all_goals first
      | (cases hq; done)
      | (rw [Option.map_eq_some_iff] at hq; obtain ⟨v, hv, rfl⟩ := hq; exact pureRun_sound _ v hv w)
  · rename_i a m hu
    split at hq
    all_goals first
      | (cases hq; done)
      | (rw [Option.map_eq_some_iff] at hq; obtain ⟨v, hv, rfl⟩ := hq; exact pureRun_sound _ v hv w)
  · cases hq
theorem cond_some {α : Type} {c : Bool} {x y : α} (h : (bif c then some x else none) = some y) : x = y := by
  cases c with
  | false => cases h
  | true => exact Option.some.inj h
theorem sliceQ_ok {K : Nat → Prop} {t : TypeId} {x q : SV} {lo hi mx : Option SV} (hq : sliceQ P t x lo hi mx = some q) (hx : x.ok K) : q.ok K := by
  unfold sliceQ at hq
  split at hq
  · split at hq
    · split at hq
      · simp only [Option.some.injEq] at hq; subst hq; exact hx
      · cases hq
    · cases hq
  · split at hq
    · split at hq
      · rename_i l h2
        cases hlt : Nat.blt l _ with
        | true => rw [hlt] at hq; simp only [cond_true, Option.some.injEq] at hq; subst hq; exact hx
        | false =>
          rw [hlt] at hq
          simp only [cond_false] at hq
          cases hz : Nat.beq l 0 with
          | false =>
            rw [hz] at hq
            simp only [cond_false] at hq
            have he := cond_some hq
            subst he
            exact hx
          | true => rw [hz] at hq; simp only [cond_true, Option.some.injEq] at hq; subst hq; exact hx
      · cases hq
    · cases hq
  · split at hq
    · split at hq
      · split at hq
        · simp only [Option.some.injEq] at hq; subst hq; exact hx
        · cases hq
      · cases hq
    · cases hq
  · split at hq
    · split at hq
      · split at hq
        · simp only [Option.some.injEq] at hq; subst hq; exact hx.1
        · cases hq
      · cases hq
    · cases hq
  · split at hq
    · split at hq
      · simp only [Option.some.injEq] at hq; subst hq; exact hx
      · cases hq
    · cases hq
  · split at hq
    all_goals first
      | (cases hq; done)
      | (rw [Option.map_eq_some_iff] at hq; obtain ⟨v, _, rfl⟩ := hq; trivial)
  · split at hq
    all_goals first
      | (cases hq; done)
      | (rw [Option.map_eq_some_iff] at hq; obtain ⟨v, _, rfl⟩ := hq; trivial)
  · cases hq
def entryC (θ : Ren) (e : SV × SV × Nat) : MapEntry := ⟨conc θ e.1, conc θ e.2.1, e.2.2⟩
theorem sameNow_equal {kt : TypeId} {d : TypeDesc} {k x : Value} {r r' : Bool} (hu : tyU P kt = some d) (h : Instr.sameNow d k x = some r) (he : pureRun P (Op.equal kt k x) = some r') : r = r' := by
  have hrun := pureRun_sound _ r' he default
  obtain ⟨dd, hd⟩ := maxDepth_eq
  rw [Op.equal, hd] at hrun
  unfold Instr.sameNow at h
  split at h
  · rename_i k1 k2 a k3 b
    by_cases e : k2 = k3
    · rw [if_pos e] at h
      simp only [Option.some.injEq] at h
      simp only [Op.equalIn, Sem.run_bind, r_underlying hu default, Result.andThen, e, if_true, Sem.run_pure, Result.ok.injEq, and_true] at hrun
      rw [← h, ← hrun]
    · rw [if_neg e] at h; cases h
  · rename_i a b
    simp only [Option.some.injEq] at h
    simp only [Op.equalIn, Sem.run_bind, r_underlying hu default, Result.andThen, Sem.run_pure, Result.ok.injEq, and_true] at hrun
    rw [← h, ← hrun]
  · rename_i a b
    simp only [Option.some.injEq] at h
    simp only [Op.equalIn, Sem.run_bind, r_underlying hu default, Result.andThen, Sem.run_pure, Result.ok.injEq, and_true] at hrun
    rw [← h, ← hrun]
  · cases h
theorem findNow_eq {kt : TypeId} {d : TypeDesc} {k : Value} (hu : tyU P kt = some d) (es : List (SV × SV × Nat)) : ∀ {i : Nat} {r : Option (Nat × SV)} {r' : Option (Nat × Value)}, findQ P kt k es i = some r →
    Instr.findNow d k (es.map (entryC θ)) i = some r' → r' = r.map fun x => (x.1, conc θ x.2) := by
  induction es with
  | nil => intro i r r' h h'; simp only [findQ, Option.some.injEq] at h; simp only [List.map_nil, Instr.findNow, Option.some.injEq] at h'; subst h h'; rfl
  | cons e es ih =>
    intro i r r' h h'
    obtain ⟨k', v, c⟩ := e
    simp only [findQ] at h
    split at h
    · rename_i x hx
      simp only [List.map_cons, Instr.findNow] at h'
      have hk : (entryC θ (k', v, c)).key = x := toLit_conc θ _ _ hx
      rw [hk] at h'
      split at h
      · rename_i he
        simp only [Option.some.injEq] at h; subst h
        split at h'
        · simp only [Option.some.injEq] at h'; subst h'; rfl
        · rename_i hn; have := sameNow_equal hu hn he; cases this
        · cases h'
      · rename_i he
        split at h'
        · rename_i hn; have := sameNow_equal hu hn he; cases this
        · exact ih h h'
        · cases h'
      · cases h
    · cases h
theorem findAsking_eq {kt : TypeId} {k : Value} (es : List (SV × SV × Nat)) : ∀ {i : Nat} {r : Option (Nat × SV)}, findQ P kt k es i = some r →
    (Instr.findAsking kt k (es.map (entryC θ)) i).run P w = .ok (r.map fun x => (x.1, conc θ x.2)) w := by
  induction es with
  | nil => intro i r h; simp only [findQ, Option.some.injEq] at h; subst h; rfl
  | cons e es ih =>
    intro i r h
    obtain ⟨k', v, c⟩ := e
    simp only [findQ] at h
    split at h
    · rename_i x hx
      have hk : (entryC θ (k', v, c)).key = x := toLit_conc θ _ _ hx
      simp only [List.map_cons, Instr.findAsking, hk, Sem.run_bind]
      split at h
      · rename_i he
        simp only [Option.some.injEq] at h; subst h
        simp only [pureRun_sound _ _ he w, Result.andThen, if_true, Sem.run_pure]; rfl
      · rename_i he
        simp only [pureRun_sound _ _ he w, Result.andThen, Bool.false_eq_true, if_false]
        exact ih h
      · cases h
    · cases h
theorem findKey_eq {kt : TypeId} {d : TypeDesc} {k : Value} (hu : tyU P kt = some d) {es : List (SV × SV × Nat)} {r : Option (Nat × SV)} (h : findQ P kt k es 0 = some r) :
    (Instr.findKey kt k (es.map (entryC θ))).run P w = .ok (r.map fun x => (x.1, conc θ x.2)) w := by
  simp only [Instr.findKey, Sem.run_bind, r_underlying hu w, Result.andThen]
  cases hn : Instr.findNow d k (es.map (entryC θ)) 0 with
  | none => exact findAsking_eq es h
  | some r' => simp only [Sem.run_pure]; rw [findNow_eq hu es h hn]
theorem checkKey_type {e : Bool} {kt : TypeId} {k : Value} {u : Unit} (h : pureRun P (Instr.checkKey e 10000 kt k) = some u) : ∃ d, tyU P kt = some d := by
  have hr := pureRun_sound _ u h default
  cases hu : tyU P kt with
  | some d => exact ⟨d, rfl⟩
  | none =>
    obtain ⟨n, hn⟩ : ∃ n, 10000 = n + 1 := ⟨9999, rfl⟩
    rw [hn] at hr
    have hus : (underlying kt).run P (default : World) = .halt (.stuck "no such type") default := by
      have hu' : P.underlying kt = none := hu
      simp only [underlying, Sem.run_bind, run_program, Result.andThen, hu', run_stuck]
    simp only [Instr.checkKey, Sem.run_bind, hus, Result.andThen] at hr
    cases hr
theorem getObj_map {b : Nat} {es : List (SV × SV × Nat)} {c : Nat} (hf : FactW θ w (.obj b (.map es c))) : (getObj (θ.blk b)).run P w = .ok (.map (es.map (entryC θ)).toArray c) w := by
  obtain ⟨ob, hw, hO⟩ := hf
  simp only [ORep] at hO
  subst hO
  simp only [getObj, Sem.run, hw]
  rfl
theorem entriesQ_sound {h : Hp} {m : SV} {es : List (SV × SV × Nat)} {fs : List Fact} (hq : entriesQ h m = some (es, fs)) (hf : ∀ f ∈ fs, FactW θ w f) :
    (conc θ m = .map none ∧ es = []) ∨ ∃ r c, conc θ m = .map (some r) ∧ (getObj r).run P w = .ok (.map (es.map (entryC θ)).toArray c) w := by
  unfold entriesQ at hq
  split at hq
  · simp only [Option.some.injEq, Prod.mk.injEq] at hq
    obtain ⟨rfl, rfl⟩ := hq
    exact .inl ⟨rfl, rfl⟩
  · split at hq
    · rename_i b es' c hb
      simp only [Option.some.injEq, Prod.mk.injEq] at hq
      obtain ⟨rfl, rfl⟩ := hq
      exact .inr ⟨_, c, rfl, getObj_map (hf _ (List.mem_singleton.2 rfl))⟩
    · cases hq
  · cases hq
theorem lookupQ_sound {h : Hp} {t : TypeId} {m k v : SV} {ok : Bool} {fs : List Fact} (hq : lookupQ P h t m k ok = some (v, fs)) (hf : ∀ f ∈ fs, FactW θ w f) :
    (Instr.lookup t (conc θ m) (conc θ k) ok).run P w = .ok (conc θ v) w := by
  unfold lookupQ at hq
  split at hq
  · rename_i kt et es gs kv hu hes hk
    rw [toLit_conc θ _ _ hk]
    have hemp : (es.map (entryC θ)).toArray.isEmpty = es.isEmpty := by cases es <;> rfl
    split at hq
    · rename_i i v' hck hfd
      simp only [Option.some.injEq, Prod.mk.injEq] at hq
      obtain ⟨rfl, rfl⟩ := hq
      obtain ⟨d, hd⟩ := checkKey_type hck
      have hfk := findKey_eq (θ := θ) (w := w) hd hfd
      rcases entriesQ_sound (P := P) hes hf with ⟨hm, rfl⟩ | ⟨r, c, hm, hg⟩
      · simp only [findQ, Option.some.injEq] at hfd; cases hfd
      · rw [hm]
        simp only [Instr.lookup, Sem.run_bind, r_underlying hu w, Result.andThen, hg, Sem.run_pure, hemp, pureRun_sound _ _ hck w, hfk, Option.map_some]
        cases ok <;> rfl
    · rename_i hck hfd
      split at hq
      · rename_i z hz
        simp only [Option.some.injEq, Prod.mk.injEq] at hq
        obtain ⟨rfl, rfl⟩ := hq
        obtain ⟨d, hd⟩ := checkKey_type hck
        have hfk := findKey_eq (θ := θ) (w := w) hd hfd
        rcases entriesQ_sound (P := P) hes hf with ⟨hm, rfl⟩ | ⟨r, c, hm, hg⟩
        · rw [hm]
          simp only [List.map_nil, Option.map_none] at hfk
          have hck' : pureRun P (Instr.checkKey (#[] : Array MapEntry).isEmpty 10000 kt kv) = some _ := hck
          simp only [Instr.lookup, Sem.run_bind, r_underlying hu w, Result.andThen, Sem.run_pure, pureRun_sound _ _ hck' w, hfk, r_zeroValue hz w]
          cases ok <;> rfl
        · rw [hm]
          simp only [Instr.lookup, Sem.run_bind, r_underlying hu w, Result.andThen, hg, Sem.run_pure, hemp, pureRun_sound _ _ hck w, hfk, Option.map_none, r_zeroValue hz w]
          cases ok <;> rfl
      · cases hq
    · cases hq
  · cases hq
theorem findQ_mem {kt : TypeId} {k : Value} (es : List (SV × SV × Nat)) : ∀ {i j : Nat} {v : SV}, findQ P kt k es i = some (some (j, v)) → ∃ e ∈ es, e.2.1 = v := by
  induction es with
  | nil => intro i j v h; simp only [findQ, Option.some.injEq] at h; cases h
  | cons e es ih =>
    intro i j v h
    obtain ⟨k', u, c⟩ := e
    simp only [findQ] at h
    split at h
    · split at h
      · simp only [Option.some.injEq, Prod.mk.injEq] at h
        exact ⟨_, List.mem_cons_self .., h.2⟩
      · obtain ⟨e, he, hv⟩ := ih h
        exact ⟨e, List.mem_cons_of_mem _ he, hv⟩
      · cases h
    · cases h
theorem entriesQ_ok {K : Nat → Prop} {h : Hp} {m : SV} {es : List (SV × SV × Nat)} {fs : List Fact} (hq : entriesQ h m = some (es, fs)) (hh : ∀ b o, h.objs.get b = some o → o.ok K) : ∀ e ∈ es, e.1.ok K ∧ e.2.1.ok K := by
  unfold entriesQ at hq
  split at hq
  · simp only [Option.some.injEq, Prod.mk.injEq] at hq
    obtain ⟨rfl, rfl⟩ := hq
    intro e he; cases he
  · split at hq
    · rename_i hb
      simp only [Option.some.injEq, Prod.mk.injEq] at hq
      obtain ⟨rfl, rfl⟩ := hq
      exact hh _ _ hb
    · cases hq
  · cases hq
theorem entriesQ_facts {h : Hp} {m : SV} {es : List (SV × SV × Nat)} {fs : List Fact} (hq : entriesQ h m = some (es, fs)) : ∀ f ∈ fs, FactA h f := by
  unfold entriesQ at hq
  split at hq
  · simp only [Option.some.injEq, Prod.mk.injEq] at hq
    obtain ⟨rfl, rfl⟩ := hq
    intro f hf; cases hf
  · split at hq
    · rename_i hb
      simp only [Option.some.injEq, Prod.mk.injEq] at hq
      obtain ⟨rfl, rfl⟩ := hq
      intro f hf
      rw [List.mem_singleton.1 hf]
      exact hb
    · cases hq
  · cases hq
theorem lookupQ_facts {h : Hp} {t : TypeId} {m k v : SV} {ok : Bool} {fs : List Fact} (hq : lookupQ P h t m k ok = some (v, fs)) : ∀ f ∈ fs, FactA h f := by
  unfold lookupQ at hq
  split at hq
  · rename_i hes _
    split at hq
    · simp only [Option.some.injEq, Prod.mk.injEq] at hq
      obtain ⟨rfl, rfl⟩ := hq
      exact entriesQ_facts hes
    · split at hq
      · simp only [Option.some.injEq, Prod.mk.injEq] at hq
        obtain ⟨rfl, rfl⟩ := hq
        exact entriesQ_facts hes
      · cases hq
    · cases hq
  · cases hq
theorem lookupQ_ok {K : Nat → Prop} {h : Hp} {t : TypeId} {m k v : SV} {ok : Bool} {fs : List Fact} (hq : lookupQ P h t m k ok = some (v, fs)) (hh : ∀ b o, h.objs.get b = some o → o.ok K) : v.ok K ∧ ∀ f ∈ fs, FactA h f := by
  unfold lookupQ at hq
  split at hq
  · rename_i kt et es gs kv hu hes hk
    split at hq
    · rename_i i v' hck hfd
      simp only [Option.some.injEq, Prod.mk.injEq] at hq
      obtain ⟨rfl, rfl⟩ := hq
      obtain ⟨e, he, rfl⟩ := findQ_mem es hfd
      have := (entriesQ_ok hes hh e he).2
      refine ⟨?_, entriesQ_facts hes⟩
      cases ok
      · exact this
      · exact ⟨this, trivial, trivial⟩
    · split at hq
      · simp only [Option.some.injEq, Prod.mk.injEq] at hq
        obtain ⟨rfl, rfl⟩ := hq
        refine ⟨?_, entriesQ_facts hes⟩
        cases ok
        · trivial
        · exact ⟨trivial, trivial, trivial⟩
      · cases hq
    · cases hq
  · cases hq
end
open Go Go.RowKit
section
variable {P : Program} {Γ : Env} {θ : Ren} {w : World}
theorem len_same {tys : Array TypeId} {args : Array Value} {ty ty' t : TypeId} {x : Value} (h1 : tys[0]? = some t) (h2 : args[0]? = some x) : Builtin.len_ tys ty args = Builtin.len_ #[t] ty' #[x] := by
  unfold Builtin.len_
  rw [h1, h2]
  rfl
theorem lenQ_sound {h : Hp} {t : TypeId} {x v : SV} {fs : List Fact} (hq : lenQ P h t x = some (v, fs)) (hf : ∀ f ∈ fs, FactW θ w f) :
    (Builtin.len_ #[t] 0 #[conc θ x]).run P w = .ok (conc θ v) w := by
  unfold lenQ at hq
  split at hq
  · rename_i e b off n c hu
    simp only [Option.some.injEq, Prod.mk.injEq] at hq
    obtain ⟨rfl, rfl⟩ := hq
    simp [Builtin.len_, r_underlying hu w, conc]
  · rename_i e b off n k cv hu
    simp only [Option.some.injEq, Prod.mk.injEq] at hq
    obtain ⟨rfl, rfl⟩ := hq
    simp [Builtin.len_, r_underlying hu w, conc]
  · rename_i e b o1 o2 cv hu
    simp only [Option.some.injEq, Prod.mk.injEq] at hq
    obtain ⟨rfl, rfl⟩ := hq
    simp [Builtin.len_, r_underlying hu w, conc]
  · rename_i k e b hu
    split at hq
    · rename_i es c hb
      simp only [Option.some.injEq, Prod.mk.injEq] at hq
      obtain ⟨rfl, rfl⟩ := hq
      have hg := getObj_map (P := P) (hf _ (List.mem_singleton.2 rfl))
      simp [Builtin.len_, r_underlying hu w, conc, hg]
    · cases hq
  · split at hq
    · rename_i a ha
      split at hq
      · rename_i u hu
        simp only [Option.some.injEq, Prod.mk.injEq] at hq
        obtain ⟨rfl, rfl⟩ := hq
        rw [toLit_conc θ _ _ ha]
        exact pureRun_sound _ u hu w
      · cases hq
    · cases hq
theorem lenQ_ok {K : Nat → Prop} {h : Hp} {t : TypeId} {x v : SV} {fs : List Fact} (hq : lenQ P h t x = some (v, fs)) : v.ok K ∧ ∀ f ∈ fs, FactA h f := by
  unfold lenQ at hq
  split at hq
  · simp only [Option.some.injEq, Prod.mk.injEq] at hq
    obtain ⟨rfl, rfl⟩ := hq
    exact ⟨trivial, fun f hf => by cases hf⟩
  · simp only [Option.some.injEq, Prod.mk.injEq] at hq
    obtain ⟨rfl, rfl⟩ := hq
    exact ⟨trivial, fun f hf => by cases hf⟩
  · simp only [Option.some.injEq, Prod.mk.injEq] at hq
    obtain ⟨rfl, rfl⟩ := hq
    exact ⟨trivial, fun f hf => by cases hf⟩
  · split at hq
    · rename_i hb
      simp only [Option.some.injEq, Prod.mk.injEq] at hq
      obtain ⟨rfl, rfl⟩ := hq
      exact ⟨trivial, fun f hf => by rw [List.mem_singleton.1 hf]; exact hb⟩
    · cases hq
  · split at hq
    · split at hq
      · simp only [Option.some.injEq, Prod.mk.injEq] at hq
        obtain ⟨rfl, rfl⟩ := hq
        exact ⟨trivial, fun f hf => by cases hf⟩
      · cases hq
    · cases hq
theorem bytesQ_conc {f : Value → ByteArray → Sem (ForInStep ByteArray)} (hfn : ∀ n s, f (.int .u8 n) s = pure (ForInStep.yield (s.push (UInt8.ofNat n.toNat)))) (l : List SV) :
    ∀ {bs : List UInt8}, bytesQ l = some bs → ∀ (s : ByteArray), (forIn (concL θ l) s f : Sem ByteArray).run P w = .ok ⟨s.data ++ bs.toArray⟩ w := by
  induction l with
  | nil => intro bs h s; simp only [bytesQ, Option.some.injEq] at h; subst h; simp [concL]
  | cons v l ih =>
    intro bs h s
    unfold bytesQ at h
    split at h
    · rename_i he; cases he
    · rename_i n l' he
      cases he
      split at h
      · rename_i r hr
        simp only [Option.some.injEq] at h; subst h
        have := ih hr (s.push (UInt8.ofNat n.toNat))
        simp only [concL, conc, List.forIn_cons, hfn, Sem.run_bind, Sem.run_pure, Result.andThen]
        rw [this]
        congr 2
        simp [ByteArray.push]
      · cases h
    · cases h
theorem bytesToString_run {a : Addr} {n cap : Nat} {vs : List SV} {bs : List UInt8} (hl : (loadCells a n).run P w = .ok (concL θ vs).toArray w) (hb : bytesQ vs = some bs) :
    (Conv.bytesToString (.slice (some a) n cap)).run P w = .ok (.string ⟨bs.toArray⟩) w := by
  simp only [Conv.bytesToString, Sem.run_bind, hl, Result.andThen]
  rw [← Array.forIn_toList]
  rw [bytesQ_conc (P := P) (w := w) (θ := θ) (fun _ _ => rfl) vs hb ByteArray.empty]
  show Result.ok (Value.string ⟨#[] ++ bs.toArray⟩) w = _
  rw [Array.empty_append]
theorem convertQ_sound {h : Hp} {s d : TypeId} {x v : SV} {fs : List Fact} (hq : convertQ P Γ h s d x = some (v, fs)) (hg : GlobW Γ w) (hf : ∀ f ∈ fs, FactW θ w f) :
    (convert s d (conc θ x)).run P w = .ok (conc θ v) w := by
  unfold convertQ at hq
  split at hq
  · rename_i e b off len c hs hd
    split at hq
    · rename_i vs gs he hr
      split at hq
      · rename_i bs hb
        simp only [Option.some.injEq, Prod.mk.injEq] at hq
        obtain ⟨rfl, rfl⟩ := hq
        obtain ⟨a, ha, hl⟩ := readCells_loads (P := P) hr hg hf
        simp only [conc, Value.pointer.injEq, Option.some.injEq] at ha
        subst ha
        simp only [convert, Sem.run_bind, r_underlying hs w, r_underlying hd w, Result.andThen, conc, r_underlying he w]
        exact bytesToString_run hl hb
      · cases hq
    · cases hq
  · rename_i e b off len k cv hs hd
    split at hq
    · rename_i vs gs he hr
      split at hq
      · rename_i bs hb
        simp only [Option.some.injEq, Prod.mk.injEq] at hq
        obtain ⟨rfl, rfl⟩ := hq
        obtain ⟨a, ha, hl⟩ := readCells_loads (P := P) hr hg hf
        simp only [conc, Value.pointer.injEq, Option.some.injEq] at ha
        subst ha
        simp only [convert, Sem.run_bind, r_underlying hs w, r_underlying hd w, Result.andThen, conc, r_underlying he w]
        exact bytesToString_run hl hb
      · cases hq
    · cases hq
  · split at hq
    · rename_i a ha
      split at hq
      · rename_i u hu
        simp only [Option.some.injEq, Prod.mk.injEq] at hq
        obtain ⟨rfl, rfl⟩ := hq
        rw [toLit_conc θ _ _ ha]
        exact pureRun_sound _ u hu w
      · cases hq
    · cases hq
theorem convertQ_ok {K : Nat → Prop} {h : Hp} {s d : TypeId} {x v : SV} {fs : List Fact} (hq : convertQ P Γ h s d x = some (v, fs)) : v.ok K ∧ ∀ f ∈ fs, FactA h f := by
  unfold convertQ at hq
  split at hq
  · split at hq
    · rename_i hr
      split at hq
      · simp only [Option.some.injEq, Prod.mk.injEq] at hq
        obtain ⟨rfl, rfl⟩ := hq
        exact ⟨trivial, readCells_facts hr⟩
      · cases hq
    · cases hq
  · split at hq
    · rename_i hr
      split at hq
      · simp only [Option.some.injEq, Prod.mk.injEq] at hq
        obtain ⟨rfl, rfl⟩ := hq
        exact ⟨trivial, readCells_facts hr⟩
      · cases hq
    · cases hq
  · split at hq
    · split at hq
      · simp only [Option.some.injEq, Prod.mk.injEq] at hq
        obtain ⟨rfl, rfl⟩ := hq
        exact ⟨trivial, fun f hf => by cases hf⟩
      · cases hq
    · cases hq
theorem one_spec {o : Option SV} {v : SV} {fs : List Fact} (h : one o = some (v, fs)) : o = some v ∧ fs = [] := by
  unfold one at h
  rw [Option.map_eq_some_iff] at h
  obtain ⟨x, hx, he⟩ := h
  simp only [Prod.mk.injEq] at he
  obtain ⟨rfl, rfl⟩ := he
  exact ⟨hx, rfl⟩
theorem nonNil_run {x : SV} (h : nonNil x = true) (o : Oper) (y : Operand) (ho : o.op = .nilCheck y) (ρ : Operand → SV) (hy : ρ y = x) : (execOp (fun z => conc θ (ρ z)) o).run P w = .ok (.value (conc θ x)) w := by
  simp only [execOp, ho, hy]
  unfold nonNil at h
  split at h
  all_goals first
    | rfl
    | cases h
theorem assertQ_sound {t xt : TypeId} {ok : Bool} {x v : SV} (hq : assertQ P t ok x = some v) : (Instr.typeAssert (conc θ x) xt t ok).run P w = .ok (conc θ v) w := by
  unfold assertQ at hq
  split at hq
  · cases hq
  · cases hq
  · rename_i d hd hu
    split at hq
    · rename_i t' u
      cases hb : Nat.beq t' t with
      | true =>
        rw [hb] at hq
        have he := eq_of_beq hb
        simp only [cond_true, Option.some.injEq] at hq
        subst hq
        simp only [Instr.typeAssert, Sem.run_bind, r_underlying hu w, Result.andThen, conc]
        cases d <;> first | exact absurd rfl (hd _) | (cases ok <;> simp [he, conc, concL, litBool])
      | false =>
        rw [hb] at hq
        have he := ne_of_beq hb
        cases ok with
        | false => cases hq
        | true =>
          simp only [cond_true, cond_false] at hq
          rw [Option.map_eq_some_iff] at hq
          obtain ⟨z, hz, rfl⟩ := hq
          simp only [Instr.typeAssert, Sem.run_bind, r_underlying hu w, Result.andThen, conc]
          cases d <;> first | exact absurd rfl (hd _) | simp [he, r_zeroValue hz w, conc, concL, litBool]
    · rename_i t' u
      cases hb : Nat.beq t' t with
      | true =>
        rw [hb] at hq
        have he := eq_of_beq hb
        simp only [cond_true, Option.some.injEq] at hq
        subst hq
        simp only [Instr.typeAssert, Sem.run_bind, r_underlying hu w, Result.andThen, conc]
        cases d <;> first | exact absurd rfl (hd _) | (cases ok <;> simp [he, conc, concL, litBool])
      | false =>
        rw [hb] at hq
        have he := ne_of_beq hb
        cases ok with
        | false => cases hq
        | true =>
          simp only [cond_true, cond_false] at hq
          rw [Option.map_eq_some_iff] at hq
          obtain ⟨z, hz, rfl⟩ := hq
          simp only [Instr.typeAssert, Sem.run_bind, r_underlying hu w, Result.andThen, conc]
          cases d <;> first | exact absurd rfl (hd _) | simp [he, r_zeroValue hz w, conc, concL, litBool]
    · cases ok with
      | false => cases hq
      | true =>
        simp only [cond_true] at hq
        rw [Option.map_eq_some_iff] at hq
        obtain ⟨z, hz, rfl⟩ := hq
        simp only [Instr.typeAssert, Sem.run_bind, r_underlying hu w, Result.andThen, conc]
        cases d <;> first | exact absurd rfl (hd _) | simp [r_zeroValue hz w, conc, concL, litBool]
    · cases hq
theorem assertQ_ok {K : Nat → Prop} {t : TypeId} {ok : Bool} {x v : SV} (hq : assertQ P t ok x = some v) (hx : x.ok K) : v.ok K := by
  have hfail : ∀ {b : Bool}, (bif b then (tyZero P t).map fun z => SV.tuple [.lit z, litBool false] else none) = some v → v.ok K := fun {b} h => by
    cases b with
    | false => cases h
    | true =>
      simp only [cond_true] at h
      rw [Option.map_eq_some_iff] at h
      obtain ⟨z, _, rfl⟩ := h
      exact ⟨trivial, trivial, trivial⟩
  unfold assertQ at hq
  split at hq
  · cases hq
  · cases hq
  · split at hq
    · rename_i t' u
      cases hb : Nat.beq t' t with
      | true =>
        rw [hb] at hq
        simp only [cond_true, Option.some.injEq] at hq
        subst hq
        cases ok with
        | true => exact ⟨hx, trivial, trivial⟩
        | false => exact hx
      | false => rw [hb] at hq; exact hfail hq
    · rename_i t' u
      cases hb : Nat.beq t' t with
      | true =>
        rw [hb] at hq
        simp only [cond_true, Option.some.injEq] at hq
        subst hq
        cases ok with
        | true => exact ⟨trivial, trivial, trivial⟩
        | false => trivial
      | false => rw [hb] at hq; exact hfail hq
    · exact hfail hq
    · cases hq
theorem quiet_sound {h : Hp} {ρ : Operand → SV} {o : Oper} {v : SV} {fs : List Fact} (hq : quiet P Γ h ρ o.op = some (v, fs)) (hg : GlobW Γ w) (hf : ∀ f ∈ fs, FactW θ w f) :
    (execOp (fun x => conc θ (ρ x)) o).run P w = .ok (.value (conc θ v)) w := by
  unfold quiet at hq
  split at hq
  · rename_i x ho
    simp only [Option.some.injEq, Prod.mk.injEq] at hq
    obtain ⟨rfl, rfl⟩ := hq
    simp only [execOp, ho, Sem.run_pure]
  · rename_i x ho
    simp only [Option.some.injEq, Prod.mk.injEq] at hq
    obtain ⟨rfl, rfl⟩ := hq
    simp only [execOp, ho, Sem.run_pure]
  · rename_i c a b ho
    split at hq
    · rename_i t ht
      simp only [Option.some.injEq, Prod.mk.injEq] at hq
      obtain ⟨rfl, rfl⟩ := hq
      simp only [execOp, ho, ht, conc, asBool, Sem.run_bind, Sem.run_pure, Result.andThen]
      cases t <;> rfl
    · cases hq
  · rename_i t a ho
    simp only [execOp, ho, Sem.run_bind, loadQ_sound hq hg hf, Result.andThen, Sem.run_pure]
  · rename_i x ho
    cases hn : nonNil (ρ x) with
    | false => rw [hn] at hq; cases hq
    | true =>
      rw [hn] at hq
      simp only [cond_true, Option.some.injEq, Prod.mk.injEq] at hq
      obtain ⟨rfl, rfl⟩ := hq
      exact nonNil_run hn o x ho ρ rfl
  · rename_i s x i ho
    obtain ⟨h1, rfl⟩ := one_spec hq
    simp only [execOp, ho, Sem.run_bind, fieldAddrQ_sound h1, Result.andThen, Sem.run_pure]
  · rename_i t x i ho
    obtain ⟨h1, rfl⟩ := one_spec hq
    simp only [execOp, ho, Sem.run_bind, indexAddrQ_sound h1, Result.andThen, Sem.run_pure]
  · rename_i t x i ho
    split at hq
    · rename_i fields hu
      split at hq
      · rename_i f l hfi hx
        obtain ⟨h1, rfl⟩ := one_spec hq
        simp only [execOp, ho, Instr.field, Sem.run_bind, r_underlying hu w, Result.andThen, hfi, hx, conc, asAgg, Sem.run_pure, partQ_sound h1]
      · rename_i f cs hfi hx
        obtain ⟨h1, rfl⟩ := one_spec hq
        have := partQ_sound (θ := θ) (w := w) h1
        rw [concL_lits] at this
        simp only [execOp, ho, Instr.field, Sem.run_bind, r_underlying hu w, Result.andThen, hfi, hx, conc, asAgg, Sem.run_pure, this]
      · cases hq
    · cases hq
  · rename_i t x i ho
    obtain ⟨h1, rfl⟩ := one_spec hq
    simp only [execOp, ho, Sem.run_bind, indexQ_sound h1, Result.andThen, Sem.run_pure]
  · rename_i x i ho
    split at hq
    · rename_i l hx
      obtain ⟨h1, rfl⟩ := one_spec hq
      simp only [execOp, ho, hx, conc, Instr.extract, List.getElem?_toArray, concL_get, h1, Option.map_some, Sem.run_bind, Sem.run_pure, Result.andThen]
    · rename_i vs hx
      obtain ⟨h1, rfl⟩ := one_spec hq
      rw [Option.map_eq_some_iff] at h1
      obtain ⟨u, hu, rfl⟩ := h1
      simp only [execOp, ho, hx, conc, Instr.extract, hu, Sem.run_bind, Sem.run_pure, Result.andThen]
    · cases hq
  · rename_i t parts ho
    obtain ⟨h1, rfl⟩ := one_spec hq
    have := buildQ_sound (θ := θ) (w := w) h1
    have he : (parts.map fun (x : Nat × Operand) => (x.1, conc θ (ρ x.2))) = ((parts.toList.map fun p => (p.1, ρ p.2)).map fun p => (p.1, conc θ p.2)).toArray := by
      rw [← Array.toList_inj]; simp
    simp only [execOp, ho]
    rw [he]
    simp only [Sem.run_bind, this, Result.andThen, Sem.run_pure]
  · rename_i fn a c ho
    simp only [Option.some.injEq, Prod.mk.injEq] at hq
    obtain ⟨rfl, rfl⟩ := hq
    simp only [execOp, ho, Instr.makeFunc, Sem.run_bind, Sem.run_pure, Result.andThen, conc]
    congr 3
    · rw [← Array.toList_inj]; simp [concL_eq]
    · rw [← Array.toList_inj]; simp [concL_eq]
  · rename_i t x ho
    split at hq
    · cases hq
    · rename_i d hd hu
      simp only [Option.some.injEq, Prod.mk.injEq] at hq
      obtain ⟨rfl, rfl⟩ := hq
      simp only [execOp, ho, Instr.makeInterface, Sem.run_bind, r_underlying hu w, Result.andThen, conc]
      cases d <;> first | rfl | (exact absurd rfl (hd _))
    · cases hq
  · rename_i op t x y ty ho
    obtain ⟨h1, rfl⟩ := one_spec hq
    have := binQ_sound (θ := θ) (w := w) h1
    simp only [execOp, ho]
    rw [Sem.run_bind, this]
    rfl
  · rename_i op t x ho
    split at hq
    · rename_i a ha
      obtain ⟨h1, rfl⟩ := one_spec hq
      rw [Option.map_eq_some_iff] at h1
      obtain ⟨u, hu, rfl⟩ := h1
      simp only [execOp, ho, toLit_conc θ _ _ ha, Sem.run_bind, pureRun_sound _ u hu w, Result.andThen, Sem.run_pure, conc]
    · cases hq
  · rename_i s d x ho
    simp only [execOp, ho, Sem.run_bind, convertQ_sound hq hg hf, Result.andThen, Sem.run_pure]
  · rename_i t x lo hi mx ho
    obtain ⟨h1, rfl⟩ := one_spec hq
    have := sliceQ_sound (θ := θ) (w := w) h1
    simp only [Option.map_map] at this
    simp only [execOp, ho, Sem.run_bind]
    rw [show (fun x => conc θ (ρ x)) = conc θ ∘ ρ from rfl, this]
    rfl
  · rename_i t m k ok ho
    simp only [execOp, ho, Sem.run_bind, lookupQ_sound hq hf, Result.andThen, Sem.run_pure]
  · rename_i x xt t ok ho
    obtain ⟨h1, rfl⟩ := one_spec hq
    simp only [execOp, ho, Sem.run_bind, assertQ_sound h1, Result.andThen, Sem.run_pure]
  · rename_i args tys ho
    split at hq
    · rename_i x t hx ht
      have hs := lenQ_sound hq hf
      simp only [execOp, ho, resolve, Sem.run_bind, Sem.run_pure, Result.andThen, invoke, builtin]
      rw [len_same (ty' := 0) (x := conc θ (ρ x)) ht (by simp [hx]), hs]
    · cases hq
  · rename_i args tys ho
    split at hq
    · rename_i vs hvs
      obtain ⟨h1, rfl⟩ := one_spec hq
      rw [Option.map_eq_some_iff] at h1
      obtain ⟨u, hu, rfl⟩ := h1
      have he : (args.map fun x => conc θ (ρ x)) = vs.toArray := by
        rw [← toLitL_conc θ _ _ hvs, ← Array.toList_inj]; simp [concL_eq]
      have hr := pureRun_sound _ u hu w
      simp only [execOp, ho, resolve, Sem.run_bind, Sem.run_pure, Result.andThen, invoke, builtin, he]
      unfold Builtin.max_ at hr ⊢
      rw [hr]
      rfl
    · cases hq
  · rename_i args tys ho
    split at hq
    · rename_i vs hvs
      obtain ⟨h1, rfl⟩ := one_spec hq
      rw [Option.map_eq_some_iff] at h1
      obtain ⟨u, hu, rfl⟩ := h1
      have he : (args.map fun x => conc θ (ρ x)) = vs.toArray := by
        rw [← toLitL_conc θ _ _ hvs, ← Array.toList_inj]; simp [concL_eq]
      have hr := pureRun_sound _ u hu w
      simp only [execOp, ho, resolve, Sem.run_bind, Sem.run_pure, Result.andThen, invoke, builtin, he]
      unfold Builtin.min_ at hr ⊢
      rw [hr]
      rfl
    · cases hq
  · cases hq
theorem quiet_ok {K : Nat → Prop} {h : Hp} {ρ : Operand → SV} {op : Op} {v : SV} {fs : List Fact} (hq : quiet P Γ h ρ op = some (v, fs)) (hρ : ∀ x ∈ op.operands, (ρ x).ok K) (hh : ∀ b o, h.objs.get b = some o → o.ok K) : v.ok K := by
  unfold quiet at hq
  split at hq
  · simp only [Option.some.injEq, Prod.mk.injEq] at hq
    obtain ⟨rfl, rfl⟩ := hq
    exact hρ _ (by simp [Op.operands])
  · simp only [Option.some.injEq, Prod.mk.injEq] at hq
    obtain ⟨rfl, rfl⟩ := hq
    exact hρ _ (by simp [Op.operands])
  · split at hq
    · rename_i t ht
      simp only [Option.some.injEq, Prod.mk.injEq] at hq
      obtain ⟨rfl, rfl⟩ := hq
      cases t
      · exact hρ _ (by simp [Op.operands])
      · exact hρ _ (by simp [Op.operands])
    · cases hq
  · exact loadQ_ok hq hh
  · rename_i x
    cases hn : nonNil (ρ x) with
    | false => rw [hn] at hq; cases hq
    | true =>
      rw [hn] at hq
      simp only [cond_true, Option.some.injEq, Prod.mk.injEq] at hq
      obtain ⟨rfl, rfl⟩ := hq
      exact hρ _ (by simp [Op.operands])
  · obtain ⟨h1, rfl⟩ := one_spec hq
    exact fieldAddrQ_ok h1 (hρ _ (by simp [Op.operands]))
  · obtain ⟨h1, rfl⟩ := one_spec hq
    exact indexAddrQ_ok h1 (hρ _ (by simp [Op.operands]))
  · rename_i t x i
    split at hq
    · split at hq
      · rename_i f l hfi hx
        obtain ⟨h1, rfl⟩ := one_spec hq
        have := hρ x (by simp [Op.operands])
        rw [hx] at this
        exact partQ_ok h1 this
      · obtain ⟨h1, rfl⟩ := one_spec hq
        exact partQ_ok h1 (okL_lits _ _)
      · cases hq
    · cases hq
  · obtain ⟨h1, rfl⟩ := one_spec hq
    exact indexQ_ok h1 (hρ _ (by simp [Op.operands]))
  · rename_i x i
    split at hq
    · rename_i l hx
      obtain ⟨h1, rfl⟩ := one_spec hq
      have := hρ x (by simp [Op.operands])
      rw [hx] at this
      exact (okL_iff _ _).1 this _ (List.mem_of_getElem? h1)
    · obtain ⟨h1, rfl⟩ := one_spec hq
      rw [Option.map_eq_some_iff] at h1
      obtain ⟨u, _, rfl⟩ := h1
      trivial
    · cases hq
  · rename_i t parts
    obtain ⟨h1, rfl⟩ := one_spec hq
    refine buildQ_ok h1 fun p hp => ?_
    obtain ⟨q, hq, rfl⟩ := List.mem_map.1 hp
    refine hρ _ ?_
    simp only [Op.operands, List.mem_toArray, List.mem_map]
    exact ⟨q, hq, rfl⟩
  · rename_i fn a c
    simp only [Option.some.injEq, Prod.mk.injEq] at hq
    obtain ⟨rfl, rfl⟩ := hq
    refine ⟨(okL_iff _ _).2 fun v hv => ?_, (okL_iff _ _).2 fun v hv => ?_⟩
    · obtain ⟨x, hx, rfl⟩ := List.mem_map.1 hv
      exact hρ _ (by simp only [Op.operands, Array.mem_append]; exact .inl (by simpa using hx))
    · obtain ⟨x, hx, rfl⟩ := List.mem_map.1 hv
      exact hρ _ (by simp only [Op.operands, Array.mem_append]; exact .inr (by simpa using hx))
  · split at hq
    · cases hq
    · simp only [Option.some.injEq, Prod.mk.injEq] at hq
      obtain ⟨rfl, rfl⟩ := hq
      exact hρ _ (by simp [Op.operands])
    · cases hq
  · obtain ⟨h1, rfl⟩ := one_spec hq
    exact binQ_ok h1
  · split at hq
    · obtain ⟨h1, rfl⟩ := one_spec hq
      rw [Option.map_eq_some_iff] at h1
      obtain ⟨u, _, rfl⟩ := h1
      trivial
    · cases hq
  · exact (convertQ_ok hq).1
  · obtain ⟨h1, rfl⟩ := one_spec hq
    exact sliceQ_ok h1 (hρ _ (by simp [Op.operands]))
  · exact (lookupQ_ok hq hh).1
  · obtain ⟨h1, rfl⟩ := one_spec hq
    exact assertQ_ok h1 (hρ _ (by simp [Op.operands]))
  · split at hq
    · exact (lenQ_ok hq).1
    · cases hq
  · split at hq
    · obtain ⟨h1, rfl⟩ := one_spec hq
      rw [Option.map_eq_some_iff] at h1
      obtain ⟨u, _, rfl⟩ := h1
      trivial
    · cases hq
  · split at hq
    · obtain ⟨h1, rfl⟩ := one_spec hq
      rw [Option.map_eq_some_iff] at h1
      obtain ⟨u, _, rfl⟩ := h1
      trivial
    · cases hq
  · cases hq
theorem quiet_facts {h : Hp} {ρ : Operand → SV} {op : Op} {v : SV} {fs : List Fact} (hq : quiet P Γ h ρ op = some (v, fs)) : ∀ f ∈ fs, FactA h f := by
  have nil : ∀ f ∈ ([] : List Fact), FactA h f := fun f hf => by cases hf
  unfold quiet at hq
  split at hq
  · simp only [Option.some.injEq, Prod.mk.injEq] at hq; obtain ⟨rfl, rfl⟩ := hq; exact nil
  · simp only [Option.some.injEq, Prod.mk.injEq] at hq; obtain ⟨rfl, rfl⟩ := hq; exact nil
  · split at hq
    · simp only [Option.some.injEq, Prod.mk.injEq] at hq; obtain ⟨rfl, rfl⟩ := hq; exact nil
    · cases hq
  · exact loadQ_facts hq
  · rename_i x
    cases hn : nonNil (ρ x) with
    | false => rw [hn] at hq; cases hq
    | true => rw [hn] at hq; simp only [cond_true, Option.some.injEq, Prod.mk.injEq] at hq; obtain ⟨rfl, rfl⟩ := hq; exact nil
  · obtain ⟨_, rfl⟩ := one_spec hq; exact nil
  · obtain ⟨_, rfl⟩ := one_spec hq; exact nil
  · split at hq
    · split at hq
      · obtain ⟨_, rfl⟩ := one_spec hq; exact nil
      · obtain ⟨_, rfl⟩ := one_spec hq; exact nil
      · cases hq
    · cases hq
  · obtain ⟨_, rfl⟩ := one_spec hq; exact nil
  · split at hq
    · obtain ⟨_, rfl⟩ := one_spec hq; exact nil
    · obtain ⟨_, rfl⟩ := one_spec hq; exact nil
    · cases hq
  · obtain ⟨_, rfl⟩ := one_spec hq; exact nil
  · simp only [Option.some.injEq, Prod.mk.injEq] at hq; obtain ⟨rfl, rfl⟩ := hq; exact nil
  · split at hq
    · cases hq
    · simp only [Option.some.injEq, Prod.mk.injEq] at hq; obtain ⟨rfl, rfl⟩ := hq; exact nil
    · cases hq
  · obtain ⟨_, rfl⟩ := one_spec hq; exact nil
  · split at hq
    · obtain ⟨_, rfl⟩ := one_spec hq; exact nil
    · cases hq
  · exact (convertQ_ok (K := fun _ => True) hq).2
  · obtain ⟨_, rfl⟩ := one_spec hq; exact nil
  · exact (lookupQ_facts hq)
  · obtain ⟨_, rfl⟩ := one_spec hq; exact nil
  · split at hq
    · exact (lenQ_ok (K := fun _ => True) hq).2
    · cases hq
  · split at hq
    · obtain ⟨_, rfl⟩ := one_spec hq; exact nil
    · cases hq
  · split at hq
    · obtain ⟨_, rfl⟩ := one_spec hq; exact nil
    · cases hq
  · cases hq
end
def AskH (P : Program) (Γ : Glob) (θ : Ren) (K : Nat → Prop) : Prop := ∀ op ρ v, Γ.ask op ρ = some v → (∀ x ∈ op.operands, (ρ x).ok K) →
  v.ok K ∧ isSelect op = false ∧ isDefer op = false ∧ ∀ (o : Oper) (w : World), o.op = op → (execOp (fun x => conc θ (ρ x)) o).run P w = .ok (.value (conc θ v)) w
class AskOk (P : Program) (Γ : Env) : Prop where
  ok : ∀ {X : Nat → Prop} {w0 : World} {θ : Ren} {K : Nat → Prop}, Γ.inv X w0 θ K → AskH P Γ θ K
class Mute (Γ : Glob) : Prop where
  mute : Γ.ask = noAsk
instance (t : T (List Value)) : Mute ⟨t, noAsk⟩ := ⟨rfl⟩
instance : Mute Glob.leaf := ⟨rfl⟩
instance (Γ : Glob) [m : Mute Γ] (g : Nat) (l : List Value) : Mute (Γ.set g l) := ⟨m.mute⟩
theorem AskOk.quietly {P : Program} {Γ : Env} (h : Γ.tab.ask = noAsk) : AskOk P Γ := ⟨fun _ op ρ v hv => by rw [h] at hv; cases hv⟩
instance {P : Program} {Γ : Glob} [m : Mute Γ] : AskOk P (.plain Γ) := AskOk.quietly m.mute
theorem quietA_split {P : Program} {Γ : Glob} {h : Hp} {ρ : Operand → SV} {op : Op} {v : SV} {fs : List Fact} (hq : quietA P Γ h ρ op = some (v, fs)) : quiet P Γ h ρ op = some (v, fs) ∨ (fs = [] ∧ Γ.ask op ρ = some v) := by
  unfold quietA at hq
  split at hq
  · rename_i r hr
    rw [hr]; exact .inl hq
  · split at hq
    · rename_i u hu
      simp only [Option.some.injEq, Prod.mk.injEq] at hq
      obtain ⟨rfl, rfl⟩ := hq
      exact .inr ⟨rfl, hu⟩
    · cases hq
theorem quietA_of {P : Program} {Γ : Glob} {h : Hp} {ρ : Operand → SV} {op : Op} {r : SV × List Fact} (hq : quiet P Γ h ρ op = some r) : quietA P Γ h ρ op = some r := by rw [quietA, hq]
theorem quietA_mute {P : Program} {Γ : Glob} [m : Mute Γ] {h : Hp} {ρ : Operand → SV} {op : Op} (hq : quiet P Γ h ρ op = none) : quietA P Γ h ρ op = none := by rw [quietA, hq, m.mute]; rfl
open Go Go.RowKit
def setB (w : World) (b : Nat) (ob : Obj) : World := { w with heap := w.heap.setIfInBounds b ob }
theorem setB_get (w : World) (b : Nat) (ob : Obj) (k : Nat) : (setB w b ob).heap[k]? = if k = b ∧ b < w.heap.size then some ob else w.heap[k]? := by
  simp only [setB, Array.getElem?_setIfInBounds]
  by_cases h : b = k
  · subst h
    by_cases h2 : b < w.heap.size
    · simp [h2]
    · simp [h2]
  · rw [if_neg h, if_neg (fun e => h e.1.symm)]
theorem setB_same {w : World} {b : Nat} {ob ob' : Obj} (h : w.heap[b]? = some ob) : (setB w b ob').heap[b]? = some ob' := by
  rw [setB_get, if_pos ⟨rfl, (Array.getElem?_eq_some_iff.1 h).1⟩]
theorem setB_setB (w : World) (b : Nat) (ob ob' : Obj) : setB (setB w b ob) b ob' = setB w b ob' := by
  have : (setB (setB w b ob) b ob').heap = (setB w b ob').heap := Array.ext_getElem? fun k => by
    rw [setB_get, setB_get, setB_get]
    have hs : (setB w b ob).heap.size = w.heap.size := by simp [setB]
    rw [hs]
    by_cases h : k = b ∧ b < w.heap.size
    · rw [if_pos h, if_pos h]
    · rw [if_neg h, if_neg h, if_neg h]
  simp only [setB] at this ⊢
  rw [this]
theorem setB_id {w : World} {b : Nat} {ob : Obj} (h : w.heap[b]? = some ob) : setB w b ob = w := by
  have : (setB w b ob).heap = w.heap := Array.ext_getElem? fun k => by
    rw [setB_get]
    by_cases hk : k = b ∧ b < w.heap.size
    · rw [if_pos hk, hk.1, h]
    · rw [if_neg hk]
  simp only [setB] at this ⊢
  rw [this]
theorem setCell_setB {w : World} {b off : Nat} {c : Array Value} {e : TypeId} {fr : Nat × Nat} (h : w.heap[b]? = some (.cells c e fr)) (v : Value) :
    w.setCell ⟨b, off, none⟩ v = setB w b (.cells (c.setIfInBounds off v) e fr) := by
  have hlt := (Array.getElem?_eq_some_iff.1 h).1
  have : (w.setCell ⟨b, off, none⟩ v).heap = (setB w b (.cells (c.setIfInBounds off v) e fr)).heap := Array.ext_getElem? fun k => by
    rw [setB_get]
    simp only [World.setCell, Array.getElem?_modify]
    by_cases hk : b = k
    · subst hk
      rw [if_pos rfl, if_pos ⟨rfl, hlt⟩, h]
      simp
    · rw [if_neg hk, if_neg (fun e => hk e.1.symm)]
  simp only [World.setCell, setB] at this ⊢
  rw [this]
theorem run_storeCells_any {P : Program} {b off : Nat} {e : TypeId} {fr : Nat × Nat} (vs : List Value) : ∀ (i : Nat) (L : List Value) (w : World), w.heap[b]? = some (.cells L.toArray e fr) → off + i + vs.length ≤ L.length → frOk fr L.length →
    (∀ v ∈ vs, v.oneCell' = true) → (storeCells ⟨b, off, none⟩ vs i).run P w = .ok () (setB w b (.cells (L.take (off + i) ++ vs ++ L.drop (off + i + vs.length)).toArray e fr)) := by
  induction vs with
  | nil =>
    intro i L w hw _ _ _
    simp only [storeCells, Sem.run_pure, List.append_nil, List.length_nil, Nat.add_zero, List.take_append_drop]
    rw [setB_id hw]
  | cons v vs ih =>
    intro i L w hw hle hfr hone
    simp only [List.length_cons] at hle
    have hlt : off + i < L.length := by omega
    have hcell : w.cell? ⟨b, off + i, none⟩ = some L[off + i] := by
      simp [World.cell?, hw, hlt]
    have hfz : w.frozen? ⟨b, off + i, none⟩ = false := by
      simp only [World.frozen?, hw]
      have := hfr.at (off + i) hlt
      simpa using this
    have h1 := run_store P w ⟨b, off + i, none⟩ v .plain (hone v (List.mem_cons_self ..))
    simp only [hcell, hfz, Bool.false_eq_true, if_false] at h1
    simp only [storeCells, Sem.run_bind, add_none, h1, Result.andThen]
    rw [setCell_setB hw, List.setIfInBounds_toArray]
    rw [ih (i + 1) (L.set (off + i) v) _ (setB_same hw) (by simp only [List.length_set]; omega) (by simpa using hfr) (fun u hu => hone u (List.mem_cons_of_mem _ hu)), setB_setB]
    congr 4
    rw [show off + (i + 1) = (off + i) + 1 by omega, List.take_succ_eq_append_getElem (by simpa using hlt), List.take_set_of_le (Nat.le_refl _), List.getElem_set_self]
    rw [List.drop_set_of_lt (by omega), List.length_cons, show off + i + 1 + vs.length = off + i + (vs.length + 1) by omega]
    simp
section
variable {P : Program} {Γ : Env} {X : Nat → Prop} {w0 : World} {θ : Ren} {K : Nat → Prop} {h : Hp} {w : World}
theorem Rep.same {w' : World} (hr : Rep Γ X w0 θ K h w) (h1 : w'.os = w.os) (h2 : w'.tape = w.tape) (h3 : w'.output = w.output) (h4 : w'.heap = w.heap) : Rep Γ X w0 θ K h w' :=
  ⟨h1.trans hr.os, h2.trans hr.tape, h3.trans hr.output, by rw [h4]; exact hr.size, fun k hk => by rw [h4]; exact hr.kept k hk, hr.low, hr.glob,
   fun b o hb => by rw [h4]; exact hr.obj b o hb, hr.inj, hr.next, hr.inv⟩
theorem Rep.turn {b : Nat} {o o' : AObj} {ob' : Obj} (hr : Rep Γ X w0 θ K h w) (hb : h.objs.get b = some o) (hok : o'.ok K) (hO : ORep θ o' ob') : Rep Γ X w0 θ K (h.upd b o') (setB w (θ.blk b) ob') := by
  obtain ⟨hKb, hXb, _, ob, hw, _⟩ := hr.obj b o hb
  have hlt := (Array.getElem?_eq_some_iff.1 hw).1
  refine ⟨hr.os, hr.tape, hr.output, by simpa [setB] using hr.size, fun k hk => ?_, hr.low, hr.glob, fun b' o1 hb' => ?_, fun b1 b2 o1 o2 h1 h2 he => ?_, hr.next, hr.inv⟩
  · rw [setB_get, if_neg (fun e : k = θ.blk b ∧ _ => hXb (e.1 ▸ hk))]
    exact hr.kept k hk
  · simp only [Hp.upd, T.get_set] at hb'
    by_cases e : b' = b
    · subst e
      rw [if_pos rfl] at hb'
      cases hb'
      exact ⟨hKb, hXb, hok, ob', setB_same hw, hO⟩
    · rw [if_neg e] at hb'
      obtain ⟨k1, k2, k3, ob1, k4, k5⟩ := hr.obj b' o1 hb'
      refine ⟨k1, k2, k3, ob1, ?_, k5⟩
      rw [setB_get, if_neg (fun e' : θ.blk b' = θ.blk b ∧ _ => e (hr.inj b' b o1 o hb' hb e'.1))]
      exact k4
  · simp only [Hp.upd, T.get_set] at h1 h2
    have g1 : ∃ o, h.objs.get b1 = some o := by
      by_cases e : b1 = b
      · exact ⟨o, by rw [e]; exact hb⟩
      · rw [if_neg e] at h1; exact ⟨o1, h1⟩
    have g2 : ∃ o, h.objs.get b2 = some o := by
      by_cases e : b2 = b
      · exact ⟨o, by rw [e]; exact hb⟩
      · rw [if_neg e] at h2; exact ⟨o2, h2⟩
    obtain ⟨p1, q1⟩ := g1
    obtain ⟨p2, q2⟩ := g2
    exact hr.inj b1 b2 p1 p2 q1 q2 he
def Ren.bind (θ : Ren) (β n c : Nat) : Ren := { θ with blk := fun i => if i = β then n else θ.blk i, cap := fun i => if i = β then c else θ.cap i }
theorem Ren.bind_ext {β n c : Nat} (hβ : ¬ K β) : Ext K θ (θ.bind β n c) :=
  ⟨fun i hi => by simp only [Ren.bind]; rw [if_neg (fun e : i = β => hβ (e ▸ hi))], fun i hi => by simp only [Ren.bind]; rw [if_neg (fun e : i = β => hβ (e ▸ hi))], fun _ _ => rfl, fun _ _ => rfl⟩
@[simp] theorem Ren.bind_blk {β n c : Nat} : (θ.bind β n c).blk β = n := by simp [Ren.bind]
@[simp] theorem Ren.bind_cap {β n c : Nat} : (θ.bind β n c).cap β = c := by simp [Ren.bind]
def also (K : Nat → Prop) (β : Nat) : Nat → Prop := fun i => K i ∨ i = β
theorem also_mono {β : Nat} : ∀ i, K i → also K β i := fun _ h => .inl h
theorem also_fresh {β : Nat} : ∀ i, also K β i → K i ∨ β ≤ i := fun _ h => h.imp id fun e => Nat.le_of_eq e.symm
theorem Rep.make {β nx c : Nat} {o : AObj} {ob : Obj} {w' : World} (hr : Rep Γ X w0 θ K h w) (hβ : ¬ K β) (hnx : ∀ i, nx ≤ i → ¬ K i) (hlt : β < nx)
    (h1 : w'.os = w.os) (h2 : w'.tape = w.tape) (h3 : w'.output = w.output) (h4 : w'.heap = w.heap.push ob)
    (hok : o.ok (also K β)) (hO : ORep (θ.bind β w.heap.size c) o ob) : Rep Γ X w0 (θ.bind β w.heap.size c) (also K β) ⟨h.objs.set β o, nx⟩ w' := by
  have hE : Ext K θ (θ.bind β w.heap.size c) := Ren.bind_ext hβ
  have hX : ¬ X w.heap.size := fun hx => by have := hr.low _ hx; have := hr.size; omega
  have hne : ∀ b o, h.objs.get b = some o → b ≠ β := fun b o hb e => hβ (e ▸ (hr.obj b o hb).1)
  have hblk : ∀ b o, h.objs.get b = some o → (θ.bind β w.heap.size c).blk b = θ.blk b ∧ θ.blk b < w.heap.size := fun b o hb => by
    obtain ⟨k1, _, _, ob1, k4, _⟩ := hr.obj b o hb
    exact ⟨hE.blk b k1, (Array.getElem?_eq_some_iff.1 k4).1⟩
  refine ⟨h1.trans hr.os, h2.trans hr.tape, h3.trans hr.output, ?_, fun k hk => ?_, hr.low, hr.glob, fun b o1 hb => ?_, fun b1 b2 o1 o2 g1 g2 he => ?_, fun i hi => ?_, Γ.ext hr.inv hE also_mono⟩
  · rw [h4, Array.size_push]; have := hr.size; omega
  · rw [h4, Array.getElem?_push, if_neg (by have := hr.low k hk; have := hr.size; omega)]
    exact hr.kept k hk
  · simp only [T.get_set] at hb
    by_cases e : b = β
    · subst e
      rw [if_pos rfl] at hb
      cases hb
      refine ⟨.inr rfl, by rw [Ren.bind_blk]; exact hX, hok, ob, ?_, hO⟩
      rw [h4, Ren.bind_blk, Array.getElem?_push, if_pos rfl]
    · rw [if_neg e] at hb
      obtain ⟨k1, k2, k3, ob1, k4, k5⟩ := hr.obj b o1 hb
      obtain ⟨e1, e2⟩ := hblk b o1 hb
      refine ⟨.inl k1, by rw [e1]; exact k2, AObj.ok_mono also_mono _ k3, ob1, ?_, ORep_ext hE k3 k5⟩
      rw [h4, e1, Array.getElem?_push, if_neg (by omega)]
      exact k4
  · simp only [T.get_set] at g1 g2
    by_cases e1 : b1 = β
    · by_cases e2 : b2 = β
      · rw [e1, e2]
      · rw [if_neg e2] at g2
        obtain ⟨k1, k2⟩ := hblk b2 o2 g2
        rw [e1, Ren.bind_blk, k1] at he
        omega
    · rw [if_neg e1] at g1
      by_cases e2 : b2 = β
      · obtain ⟨k1, k2⟩ := hblk b1 o1 g1
        rw [e2, Ren.bind_blk, k1] at he
        omega
      · rw [if_neg e2] at g2
        rw [(hblk b1 o1 g1).1, (hblk b2 o2 g2).1] at he
        exact hr.inj b1 b2 o1 o2 g1 g2 he
  · have hi' : nx ≤ i := hi
    rintro (hk | rfl)
    · exact hnx i hi' hk
    · omega
theorem Rep.make_next {c : Nat} {o : AObj} {ob : Obj} {w' : World} (hr : Rep Γ X w0 θ K h w) (h1 : w'.os = w.os) (h2 : w'.tape = w.tape) (h3 : w'.output = w.output) (h4 : w'.heap = w.heap.push ob)
    (hok : o.ok (also K h.next)) (hO : ORep (θ.bind h.next w.heap.size c) o ob) : Rep Γ X w0 (θ.bind h.next w.heap.size c) (also K h.next) ⟨h.objs.set h.next o, h.next + 1⟩ w' :=
  hr.make (hr.next _ (Nat.le_refl _)) (fun i hi => hr.next i (by omega)) (Nat.lt_succ_self _) h1 h2 h3 h4 hok hO
theorem Rep.okAll (hr : Rep Γ X w0 θ K h w) : ∀ b o, h.objs.get b = some o → o.ok K := fun b o hb => (hr.obj b o hb).2.2.1
theorem Rep.fewer {t : T AObj} (hr : Rep Γ X w0 θ K h w) (hs : ∀ b o, t.get b = some o → h.objs.get b = some o) : Rep Γ X w0 θ K ⟨t, h.next⟩ w :=
  ⟨hr.os, hr.tape, hr.output, hr.size, hr.kept, hr.low, hr.glob, fun b o hb => hr.obj b o (hs b o hb), fun b b' o o' hb hb' => hr.inj b b' o o' (hs b o hb) (hs b' o' hb'), hr.next, hr.inv⟩
def Eff (P : Program) (Γ : Env) (X : Nat → Prop) (w0 : World) (θ : Ren) (K : Nat → Prop) (n : Nat) (s : Sem Next) (w : World) (outs : List (SV × Hp)) : Prop :=
  ∃ r ∈ outs, ∃ (θ' : Ren) (K' : Nat → Prop) (w' : World) (nx : Next), Ext K θ θ' ∧ (∀ i, K i → K' i) ∧ (∀ i, K' i → K i ∨ n ≤ i) ∧ s.run P w = .ok nx w' ∧
    (nx = .value (conc θ' r.1) ∨ (nx = .skip ∧ r.1 = .lit undef)) ∧ r.1.ok K' ∧ Rep Γ X w0 θ' K' r.2 w'
theorem one_conc {v : SV} (h : v.one = true) : (conc θ v).oneCell' = true := by
  unfold SV.one at h
  split at h
  all_goals first
    | cases h
    | skip
  rename_i h1 h2 h3 h4
  cases v with
  | lit x => cases x <;> first | rfl | exact absurd rfl (h3 _) | exact absurd rfl (h4 _)
  | agg l => exact absurd rfl (h1 l)
  | tuple l => exact absurd rfl (h2 l)
  | opq i => simp only [conc]; cases θ.opq i <;> rfl
  | _ => rfl
theorem all_one {vs : List SV} (h : vs.all SV.one = true) : ∀ v ∈ concL θ vs, v.oneCell' = true := fun v hv => by
  rw [concL_eq] at hv
  obtain ⟨x, hx, rfl⟩ := List.mem_map.1 hv
  exact one_conc (List.all_eq_true.1 h x hx)
theorem storeCells_rep {b off : Nat} {l l' vs : List SV} {o : AObj} (hr : Rep Γ X w0 θ K h w) (hb : h.objs.get b = some o) (hs : splice l off vs = some l') (hv : SV.okL K vs)
    (ho : (∃ e, o = .cells l e) ∨ (∃ e k cv s, o = .row l e k cv s)) :
    ∃ (o' : AObj) (w' : World), (∀ e, o = .cells l e → o' = .cells l' e) ∧ (∀ e k cv s, o = .row l e k cv s → o' = .row l' e k cv s) ∧ (storeCells ⟨θ.blk b, off, none⟩ (concL θ vs) 0).run P w = .ok () w' ∧ Rep Γ X w0 θ K (h.upd b o') w' := by
  obtain ⟨hKb, hXb, hok, ob, hw, hO⟩ := hr.obj b o hb
  obtain ⟨⟨hle, hl'⟩, hone⟩ := splice_all hs
  have hlen := splice_length hs
  rcases ho with ⟨e, rfl⟩ | ⟨e, k, cv, s, rfl⟩
  · obtain ⟨fr, rfl, hfr⟩ := hO
    have hrun := run_storeCells_any (P := P) (off := off) (concL θ vs) 0 (concL θ l) w hw (by simp only [concL_length, Nat.add_zero]; exact hle) (by simpa using hfr) (all_one hone)
    simp only [Nat.add_zero, concL_length] at hrun
    rw [← concL_splice hs] at hrun
    exact ⟨.cells l' e, _, (fun e1 he => by cases he; rfl), (fun e1 k1 cv1 s1 he => by cases he), hrun, hr.turn (o' := .cells l' e) hb (splice_ok hs hok hv) ⟨fr, rfl, by rw [hlen]; exact hfr⟩⟩
  · obtain ⟨fr, ex, rfl, hfr, hsz⟩ := hO
    have hrun := run_storeCells_any (P := P) (off := off) (concL θ vs) 0 (concL θ l ++ ex) w hw (by simp only [concL_length, Nat.add_zero, List.length_append]; omega) (by simpa using hfr) (all_one hone)
    simp only [Nat.add_zero, concL_length] at hrun
    have he : (concL θ l ++ ex).take off ++ concL θ vs ++ (concL θ l ++ ex).drop (off + vs.length) = concL θ l' ++ ex := by
      rw [concL_splice hs, List.take_append_of_le_length (by simp only [concL_length]; omega), List.drop_append_of_le_length (by simp only [concL_length]; omega)]
      simp
    rw [he] at hrun
    exact ⟨.row l' e k cv s, _, (fun e1 he => by cases he), (fun e1 k1 cv1 s1 he => by cases he; rfl), hrun, hr.turn (o' := .row l' e k cv s) hb ⟨splice_ok hs hok.1 hv, hok.2⟩ ⟨fr, ex, rfl, by rw [hlen]; exact hfr, by rw [hlen]; exact hsz⟩⟩
theorem storeE_sound {t : TypeId} {p v : SV} {h' : Hp} (hq : storeE P h t p v = some h') (hr : Rep Γ X w0 θ K h w) (hv : v.ok K) :
    ∃ w', (Instr.storeAt t (conc θ p) (conc θ v)).run P w = .ok () w' ∧ Rep Γ X w0 θ K h' w' := by
  unfold storeE at hq
  split at hq
  · rename_i n b off hn
    cases hbe : Nat.beq v.cells.length n with
    | false => rw [hbe] at hq; cases hq
    | true =>
      rw [hbe] at hq
      simp only [cond_true] at hq
      have hsz : (conc θ v).cells.size = n := by rw [cells_conc]; simp [eq_of_beq hbe]
      have hcl : (conc θ v).cells.toList = concL θ v.cells := by rw [cells_conc]
      split at hq
      · rename_i l e hb
        rw [Option.map_eq_some_iff] at hq
        obtain ⟨l', hs, rfl⟩ := hq
        obtain ⟨o', w', ho', _, hrun, hrep⟩ := storeCells_rep (P := P) hr hb hs (cells_ok hv) (.inl ⟨e, rfl⟩)
        rw [ho' e rfl] at hrep
        refine ⟨w', ?_, hrep⟩
        simp only [Instr.storeAt, conc, Instr.sureAddr, storeVar, Sem.run_bind, Sem.run_pure, Result.andThen, r_sizeOf hn w, hsz, ne_eq, not_true_eq_false, if_false, hcl]
        exact hrun
      · rename_i l e k cv s hb
        rw [Option.map_eq_some_iff] at hq
        obtain ⟨l', hs, rfl⟩ := hq
        obtain ⟨o', w', _, ho', hrun, hrep⟩ := storeCells_rep (P := P) hr hb hs (cells_ok hv) (.inr ⟨e, k, cv, s, rfl⟩)
        rw [ho' e k cv s rfl] at hrep
        refine ⟨w', ?_, hrep⟩
        simp only [Instr.storeAt, conc, Instr.sureAddr, storeVar, Sem.run_bind, Sem.run_pure, Result.andThen, r_sizeOf hn w, hsz, ne_eq, not_true_eq_false, if_false, hcl]
        exact hrun
      · cases hq
  · cases hq
theorem okL_also {l : List SV} {β : Nat} (hv : SV.okL K l) : SV.okL (also K β) l := okL_mono also_mono l hv
theorem frOk_zero (n : Nat) : frOk (0, 0) n := .inl rfl
theorem newCells_rep {l : List SV} {e : TypeId} (hr : Rep Γ X w0 θ K h w) (hl : SV.okL K l) :
    Rep Γ X w0 (θ.bind h.next w.heap.size 0) (also K h.next) ⟨h.objs.set h.next (.cells l e), h.next + 1⟩ (w.alloc (.cells (concL θ l).toArray e)) :=
  hr.make_next rfl rfl rfl rfl (okL_also hl) ⟨(0, 0), by rw [concL_ext (Ren.bind_ext (hr.next _ (Nat.le_refl _))) l hl], frOk_zero _⟩
theorem repeatL_length (z : List SV) (n : Nat) : (repeatL z n).length = n * z.length := by
  induction n with
  | zero => simp [repeatL]
  | succ n ih => rw [repeatL, List.length_append, ih, Nat.succ_mul, Nat.add_comm]
theorem repeatL_get (z : List SV) : ∀ (n i : Nat), i < n * z.length → (repeatL z n)[i]? = z[i % z.length]? := by
  intro n
  induction n with
  | zero => intro i h; simp at h
  | succ n ih =>
    intro i h
    rw [repeatL]
    by_cases hi : i < z.length
    · rw [List.getElem?_append_left hi, Nat.mod_eq_of_lt hi]
    · rw [List.getElem?_append_right (by omega), ih (i - z.length) (by rw [Nat.succ_mul] at h; omega)]
      rw [← Nat.mod_eq_sub_mod (a := i) (b := z.length) (by omega)]
theorem repeatL_ok {z : List SV} (hz : SV.okL K z) : ∀ n, SV.okL K (repeatL z n)
  | 0 => trivial
  | n + 1 => okL_append hz (repeatL_ok hz n)
theorem zeros_eq (z : Value) (n m : Nat) (hm : m = n * z.cells.size) :
    ((Array.range m).map fun i => z.cells[i % z.cells.size]!) = (concL θ (repeatL (SV.cells (.lit z)) n)).toArray := by
  have hc : z.cells = (concL θ (SV.cells (.lit z))).toArray := cells_conc θ (.lit z)
  have hlen : (SV.cells (.lit z)).length = z.cells.size := by rw [hc]; simp
  apply Array.ext
  · simp [repeatL_length, hlen, hm]
  · intro i h1 h2
    have hi : i < n * (SV.cells (.lit z)).length := by rw [hlen, ← hm]; simpa using h1
    have hpos : 0 < (SV.cells (.lit z)).length := by
      rcases Nat.eq_zero_or_pos (SV.cells (.lit z)).length with h0 | h0
      · rw [h0] at hi; simp at hi
      · exact h0
    have hmod : i % (SV.cells (.lit z)).length < (SV.cells (.lit z)).length := Nat.mod_lt _ hpos
    have hg := repeatL_get (SV.cells (.lit z)) n i hi
    have h2' : i < (concL θ (repeatL (SV.cells (.lit z)) n)).length := by simpa using h2
    have e1 : (concL θ (repeatL (SV.cells (.lit z)) n))[i]? = (concL θ (SV.cells (.lit z)))[i % (SV.cells (.lit z)).length]? := by
      rw [concL_get, concL_get, hg]
    have hmod' : i % z.cells.size < z.cells.size := by rw [← hlen]; exact hmod
    simp only [Array.getElem_map, Array.getElem_range, List.getElem_toArray]
    rw [getElem!_pos z.cells (i % z.cells.size) hmod']
    have e2 : z.cells[i % z.cells.size]? = (concL θ (SV.cells (.lit z)))[i % (SV.cells (.lit z)).length]? := by
      rw [hlen]
      conv => lhs; rw [hc]
      simp [hlen]
    rw [← e1, List.getElem?_eq_getElem h2', Array.getElem?_eq_getElem hmod'] at e2
    exact Option.some.inj e2
theorem alloc_sound {e : TypeId} {z : Value} (hz : tyZero P e = some z) (w : World) :
    (Instr.alloc e true (.tuple #[])).run P w = .ok (.pointer (some ⟨w.heap.size, 0, none⟩)) (w.alloc (.cells z.cells e)) := by
  simp only [Instr.alloc, Sem.run_bind, r_zeroValue hz w, Result.andThen, newVar, newRow, run_newObj, Sem.run_pure, World.alloc_eq]
theorem buildSliceE_sound {t : TypeId} {len : Nat} {parts : List (Nat × SV)} {r : SV × Hp} (hq : buildSliceE P h t len parts = some r) (hr : Rep Γ X w0 θ K h w) (hp : ∀ p ∈ parts, p.2.ok K) :
    ∃ θ' K' w', Ext K θ θ' ∧ (∀ i, K i → K' i) ∧ (∀ i, K' i → K i ∨ h.next ≤ i) ∧ (Instr.buildSlice t len (parts.map fun p => (p.1, conc θ p.2)).toArray).run P w = .ok (conc θ' r.1) w' ∧ r.1.ok K' ∧ Rep Γ X w0 θ' K' r.2 w' := by
  unfold buildSliceE at hq
  split at hq
  · rename_i e hu
    split at hq
    · rename_i size z hs hz
      cases hc : Nat.ble (len * size) 16777216 && Nat.beq (SV.cells (.lit z)).length size with
      | false => rw [hc] at hq; cases hq
      | true =>
        rw [hc] at hq
        rw [Bool.and_eq_true] at hc
        have hle := le_of_ble hc.1
        have hsz : z.cells.size = size := by rw [← eq_of_beq hc.2]; have := cells_conc θ (.lit z); simp only [conc] at this; rw [this]; simp
        simp only [cond_true] at hq
        split at hq
        · rename_i l hf
          simp only [Option.some.injEq] at hq; subst hq
          have hnk := hr.next h.next (Nat.le_refl _)
          have hnot : ¬ (len * size > 2 ^ 24) := by omega
          by_cases h0 : len * size = 0
          · rw [beq_t h0] at hf
            have hlok := fillQ_ok (K := K) parts hf trivial hp
            have hfs := fillQ_sound (θ := θ) parts hf
            refine ⟨_, _, _, Ren.bind_ext hnk, also_mono, also_fresh, ?_, .inr rfl, newCells_rep hr hlok⟩
            have hfs' : Instr.fill (fun i => some (i * size, size)) #[] (parts.map fun p => (p.1, conc θ p.2)) = some (concL θ l).toArray := hfs
            have hr0 : ∀ f : Nat → Value, Array.map f (Array.range 0) = #[] := fun f => by simp
            simp only [Instr.buildSlice, Sem.run_bind, r_underlying hu w, Result.andThen, r_sizeOf hs w, h0, Nat.not_lt_zero, gt_iff_lt, if_false, if_true, Sem.run_pure, hr0, hfs', newRow, run_newObj, World.alloc_eq, Hp.new, conc, Ren.bind_blk]
          · rw [beq_f h0] at hf
            have hlok := fillQ_ok (K := K) parts hf (repeatL_ok (cells_ok (v := .lit z) trivial) len) hp
            have hfs := fillQ_sound (θ := θ) parts hf
            refine ⟨_, _, _, Ren.bind_ext hnk, also_mono, also_fresh, ?_, .inr rfl, newCells_rep hr hlok⟩
            have hze := zeros_eq (θ := θ) z len (len * size) (by rw [hsz])
            simp only [cond_false] at hfs
            simp only [Instr.buildSlice, Sem.run_bind, r_underlying hu w, Result.andThen, r_sizeOf hs w, hnot, if_false, h0, r_zeroValue hz w, Sem.run_pure, hze, hfs, newRow, run_newObj, World.alloc_eq, Hp.new, conc, Ren.bind_blk]
        · cases hq
    · cases hq
  · cases hq
end
open Go Go.RowKit
section
variable {P : Program} {Γ : Env} {X : Nat → Prop} {w0 : World} {θ : Ren} {K : Nat → Prop} {h : Hp} {w : World}
theorem wrap_small {n : Nat} (hn : n ≤ 1048576) : IntKind.i64.wrap (n : Int) = (n : Int) := by
  have h1 : (n : Int) % 2 ^ 64 = (n : Int) := Int.emod_eq_of_lt (by omega) (by omega)
  have h2 : ¬ ((n : Int) ≥ 2 ^ (64 - 1)) := by omega
  simp only [IntKind.wrap, IntKind.signed, IntKind.bits, h1, h2, decide_false, Bool.and_false, Bool.false_eq_true, if_false]
theorem makeSliceE_sound {t : TypeId} {l c : SV} {r : SV × Hp} (hq : makeSliceE P h t l c = some r) (hr : Rep Γ X w0 θ K h w) :
    ∃ θ' K' w', Ext K θ θ' ∧ (∀ i, K i → K' i) ∧ (∀ i, K' i → K i ∨ h.next ≤ i) ∧ (Instr.makeSlice t (conc θ l) (conc θ c)).run P w = .ok (conc θ' r.1) w' ∧ r.1.ok K' ∧ Rep Γ X w0 θ' K' r.2 w' := by
  unfold makeSliceE at hq
  split at hq
  · rename_i e k1 l k2 c hu
    split at hq
    · rename_i i hi
      split at hq
      · rename_i z hz
        cases hc : Nat.ble l c && Nat.ble (i.bytes * c) 1048576 && Nat.ble c 1048576 && Nat.beq (SV.cells (.lit z)).length i.size with
        | false => rw [hc] at hq; cases hq
        | true =>
          rw [hc] at hq
          simp only [Bool.and_eq_true] at hc
          obtain ⟨⟨⟨c1, c2⟩, c3⟩, c4⟩ := hc
          have d1 := le_of_ble c1
          have d2 := le_of_ble c2
          have d3 := le_of_ble c3
          have hsz : z.cells.size = i.size := by rw [← eq_of_beq c4]; have := cells_conc θ (.lit z); simp only [conc] at this; rw [this]; simp
          simp only [cond_true, Option.some.injEq] at hq
          have hnk := hr.next h.next (Nat.le_refl _)
          have hzero : tyZero P e = some z := by simp only [tyZero, hi, Option.bind_some, hz]
          have hsize : tySize P e = some i.size := by simp only [tySize, hi, Option.map_some]
          have w1 : IntKind.i64.wrap (l : Int) = (l : Int) := wrap_small (by omega)
          have w2 : IntKind.i64.wrap (c : Int) = (c : Int) := wrap_small d3
          have t1 : ((decide ((c : Int) < 0) || decide ((i.bytes : Int) * (c : Int) > 2 ^ 48)) || decide ((l : Int) < 0) || decide ((l : Int) > (c : Int))) = false := by
            have : ((i.bytes * c : Nat) : Int) = (i.bytes : Int) * (c : Int) := by simp
            simp only [Bool.or_eq_false_iff, decide_eq_false_iff_not]
            refine ⟨⟨⟨by omega, by rw [← this]; omega⟩, by omega⟩, by omega⟩
          subst hq
          by_cases h0 : c * i.size = 0
          · rw [beq_t h0]
            refine ⟨_, _, _, Ren.bind_ext hnk, also_mono, also_fresh, ?_, .inr rfl, newCells_rep (l := []) hr trivial⟩
            have hr0 : ∀ f : Nat → Value, Array.map f (Array.range 0) = #[] := fun f => by simp
            simp only [Instr.makeSlice, conc, Sem.run_bind, r_underlying hu w, Result.andThen, asInt, asIntOf, Sem.run_pure, r_typeInfo hi w, Int.ofNat_eq_natCast, w1, w2, t1, Bool.false_eq_true, if_false, run_askRoom, r_sizeOf hsize w, Int.toNat_natCast, h0, if_true, hr0, newRow, run_newObj, World.alloc_eq, Hp.new, Ren.bind_blk]
            rfl
          · rw [beq_f h0]
            refine ⟨_, _, _, Ren.bind_ext hnk, also_mono, also_fresh, ?_, .inr rfl, newCells_rep hr (repeatL_ok (cells_ok (v := .lit z) trivial) c)⟩
            have hze := zeros_eq (θ := θ) z c (c * i.size) (by rw [hsz])
            simp only [Instr.makeSlice, conc, Sem.run_bind, r_underlying hu w, Result.andThen, asInt, asIntOf, Sem.run_pure, r_typeInfo hi w, Int.ofNat_eq_natCast, w1, w2, t1, Bool.false_eq_true, if_false, run_askRoom, r_sizeOf hsize w, Int.toNat_natCast, h0, r_zeroValue hzero w, hze, newRow, run_newObj, World.alloc_eq, Hp.new, Ren.bind_blk]
            rfl
      · cases hq
    · cases hq
  · cases hq
theorem newMap_rep (hr : Rep Γ X w0 θ K h w) : Rep Γ X w0 (θ.bind h.next w.heap.size 0) (also K h.next) ⟨h.objs.set h.next (.map [] 0), h.next + 1⟩ (w.alloc (.map #[] 0)) :=
  hr.make_next rfl rfl rfl rfl (fun e he => by cases he) rfl
theorem Rep.map {b : Nat} {es : List (SV × SV × Nat)} {c : Nat} (hr : Rep Γ X w0 θ K h w) (hb : h.objs.get b = some (.map es c)) : (getObj (θ.blk b)).run P w = .ok (.map (es.map (entryC θ)).toArray c) w ∧
    (∀ ob, (setObj (θ.blk b) ob).run P w = .ok () (setB w (θ.blk b) ob)) := by
  obtain ⟨_, _, _, ob, hw, hO⟩ := hr.obj b _ hb
  refine ⟨getObj_map (by exact ⟨ob, hw, hO⟩), fun ob' => ?_⟩
  simp only [ORep] at hO
  subst hO
  simp only [setObj, Sem.run, hw]
  rfl
theorem setEntry_map (es : List (SV × SV × Nat)) : ∀ (i : Nat) (k v : SV), (setEntry es i k v).map (entryC θ) = (es.map (entryC θ)).modify i fun e => { e with key := conc θ k, val := conc θ v } := by
  induction es with
  | nil => intro i k v; simp [setEntry]
  | cons e es ih =>
    intro i k v
    obtain ⟨k', u, c⟩ := e
    cases i with
    | zero => simp [setEntry, entryC]
    | succ i => simp [setEntry, ih]
theorem setEntry_mem (es : List (SV × SV × Nat)) : ∀ (i : Nat) (k v : SV), ∀ e ∈ setEntry es i k v, (e.1 = k ∧ e.2.1 = v) ∨ e ∈ es := by
  induction es with
  | nil => intro i k v e he; cases he
  | cons e es ih =>
    intro i k v e' he
    obtain ⟨k', u, c⟩ := e
    cases i with
    | zero =>
      simp only [setEntry, List.mem_cons] at he
      rcases he with rfl | he
      · exact .inl ⟨rfl, rfl⟩
      · exact .inr (List.mem_cons_of_mem _ he)
    | succ i =>
      simp only [setEntry, List.mem_cons] at he
      rcases he with rfl | he
      · exact .inr (List.mem_cons_self ..)
      · rcases ih i k v e' he with h | h
        · exact .inl h
        · exact .inr (List.mem_cons_of_mem _ h)
theorem mapUpdateE_sound {t : TypeId} {m k v : SV} {h' : Hp} (hq : mapUpdateE P h t m k v = some h') (hr : Rep Γ X w0 θ K h w) (hk : k.ok K) (hv : v.ok K) :
    ∃ w', (Instr.mapUpdate t (conc θ m) (conc θ k) (conc θ v)).run P w = .ok () w' ∧ Rep Γ X w0 θ K h' w' := by
  unfold mapUpdateE at hq
  split at hq
  · rename_i kt et b kv hu hkv
    have hkc := toLit_conc θ _ _ hkv
    split at hq
    · rename_i es c hb
      obtain ⟨hg, hs⟩ := hr.map (P := P) hb
      have hok := hr.okAll b _ hb
      split at hq
      · rename_i i v' hck hfd
        split at hq
        · rename_i old hold
          cases hsb : Instr.sameBits 10000 old kv with
          | false => rw [hsb] at hq; cases hq
          | true =>
            rw [hsb] at hq
            simp only [cond_true, Option.some.injEq] at hq; subst hq
            obtain ⟨d, hd⟩ := checkKey_type hck
            have hfk := findKey_eq (θ := θ) (w := w) hd hfd
            simp only [Option.bind_eq_some_iff] at hold
            obtain ⟨e, he, hel⟩ := hold
            have hek := toLit_conc θ _ _ hel
            refine ⟨setB w (θ.blk b) (.map ((setEntry es i k v).map (entryC θ)).toArray c), ?_, hr.turn (o' := .map (setEntry es i k v) c) hb (fun e' he' => ?_) rfl⟩
            · have hget : (((es.map (entryC θ)).toArray[i]?).map (·.key)).getD kv = old := by
                rw [List.getElem?_toArray, List.getElem?_map, he]
                exact hek
              have hmod : (es.map (entryC θ)).toArray.modify i (fun e => { e with key := kv, val := conc θ v }) = ((setEntry es i k v).map (entryC θ)).toArray := by
                rw [setEntry_map, hkc, ← Array.toList_inj]
                simp
              simp only [Instr.mapUpdate, conc, Sem.run_bind, r_underlying hu w, Result.andThen, hg, hkc, pureRun_sound _ _ hck w, hfk, Option.map_some, hget, Instr.keyThatStays, hsb, if_true, Sem.run_pure, hmod, hs]
            · rcases setEntry_mem es i k v e' he' with ⟨rfl, rfl⟩ | hm
              · exact ⟨hk, hv⟩
              · exact hok e' hm
        · cases hq
      · rename_i hck hfd
        simp only [Option.some.injEq] at hq; subst hq
        obtain ⟨d, hd⟩ := checkKey_type hck
        have hfk := findKey_eq (θ := θ) (w := w) hd hfd
        refine ⟨setB w (θ.blk b) (.map ((es ++ [(k, v, c)]).map (entryC θ)).toArray (c + 1)), ?_, hr.turn (o' := .map (es ++ [(k, v, c)]) (c + 1)) hb (fun e' he' => ?_) rfl⟩
        · have hp : (es.map (entryC θ)).toArray.push ⟨kv, conc θ v, c⟩ = ((es ++ [(k, v, c)]).map (entryC θ)).toArray := by
            rw [← Array.toList_inj]
            simp [entryC, hkc]
          simp only [Instr.mapUpdate, conc, Sem.run_bind, r_underlying hu w, Result.andThen, hg, hkc, pureRun_sound _ _ hck w, hfk, Option.map_none, hp, hs]
        · rcases List.mem_append.1 he' with hm | hm
          · exact hok e' hm
          · rw [List.mem_singleton.1 hm]; exact ⟨hk, hv⟩
      · cases hq
    · cases hq
  · cases hq
theorem map_eraseIdx {α β : Type} (f : α → β) : ∀ (l : List α) (i : Nat), (l.map f).eraseIdx i = (l.eraseIdx i).map f
  | [], _ => rfl
  | _ :: _, 0 => rfl
  | a :: l, i + 1 => by simp only [List.map_cons, List.eraseIdx_cons_succ, map_eraseIdx f l i]
theorem deleteE_sound {tys : Array TypeId} {ty t : TypeId} {args : Array Value} {m k : SV} {h' : Hp} (hq : deleteE P h t m k = some h') (hr : Rep Γ X w0 θ K h w)
    (ht : tys[0]? = some t) (ha : args[0]? = some (conc θ m)) (hb' : args[1]? = some (conc θ k)) :
    ∃ w', (Builtin.delete_ tys ty args).run P w = .ok (.tuple #[]) w' ∧ Rep Γ X w0 θ K h' w' := by
  unfold deleteE at hq
  split at hq
  · rename_i kt et kv hu hkv
    have hkc := toLit_conc θ _ _ hkv
    split at hq
    · rename_i hck
      simp only [Option.some.injEq] at hq; subst hq
      exact ⟨w, by simp only [Builtin.delete_, ht, ha, hb', conc, Sem.run_bind, r_underlying hu w, Result.andThen, hkc, pureRun_sound _ _ hck w, Sem.run_pure], hr⟩
    · cases hq
  · rename_i kt et b kv hu hkv
    have hkc := toLit_conc θ _ _ hkv
    split at hq
    · rename_i es c hb
      obtain ⟨hg, hs⟩ := hr.map (P := P) hb
      have hok := hr.okAll b _ hb
      have hemp : (es.map (entryC θ)).toArray.isEmpty = es.isEmpty := by cases es <;> rfl
      split at hq
      · rename_i i v' hck hfd
        simp only [Option.some.injEq] at hq; subst hq
        obtain ⟨d, hd⟩ := checkKey_type hck
        have hfk := findKey_eq (θ := θ) (w := w) hd hfd
        refine ⟨setB w (θ.blk b) (.map ((es.eraseIdx i).map (entryC θ)).toArray c), ?_, hr.turn (o' := .map (es.eraseIdx i) c) hb (fun e' he' => hok e' (List.mem_of_mem_eraseIdx he')) rfl⟩
        have he : (es.map (entryC θ)).toArray.eraseIdxIfInBounds i = ((es.eraseIdx i).map (entryC θ)).toArray := by
          rw [← Array.toList_inj]
          simp [map_eraseIdx]
        simp only [Builtin.delete_, ht, ha, hb', conc, Sem.run_bind, r_underlying hu w, Result.andThen, hg, hkc, hemp, pureRun_sound _ _ hck w, hfk, Option.map_some, he, hs, Sem.run_pure]
      · rename_i hck hfd
        simp only [Option.some.injEq] at hq; subst hq
        obtain ⟨d, hd⟩ := checkKey_type hck
        have hfk := findKey_eq (θ := θ) (w := w) hd hfd
        refine ⟨setB w (θ.blk b) (.map (es.map (entryC θ)).toArray c), ?_, hr.turn (o' := .map es c) hb hok rfl⟩
        simp only [Builtin.delete_, ht, ha, hb', conc, Sem.run_bind, r_underlying hu w, Result.andThen, hg, hkc, hemp, pureRun_sound _ _ hck w, hfk, Option.map_none, hs, Sem.run_pure]
      · cases hq
    · cases hq
  · cases hq
theorem clear_slice {tys : Array TypeId} {ty t e : TypeId} {args : Array Value} {b off n c : Nat} {z : Value} {h' : Hp} (hr : Rep Γ X w0 θ K h w) (hu : tyU P t = some (.slice e)) (hz : tyZero P e = some z) (hn : n ≠ 0)
    (ht : tys[0]? = some t) (ha : args[0]? = some (.slice (some ⟨θ.blk b, off, none⟩) n c))
    (hq : (match h.objs.get b with
       | some (.cells l e') => (splice l off (repeatL (SV.cells (.lit z)) n)).map fun l' => h.upd b (.cells l' e')
       | some (.row l e' k cv s) => (splice l off (repeatL (SV.cells (.lit z)) n)).map fun l' => h.upd b (.row l' e' k cv s)
       | _ => none) = some h') :
    ∃ w', (Builtin.clear_ tys ty args).run P w = .ok (.tuple #[]) w' ∧ Rep Γ X w0 θ K h' w' := by
  have hz' : (Builtin.zeroCells z.cells n).toList = concL θ (repeatL (SV.cells (.lit z)) n) := by
    have := zeros_eq (θ := θ) z n (n * z.cells.size) rfl
    unfold Builtin.zeroCells
    rw [this]
  have hrok : SV.okL K (repeatL (SV.cells (.lit z)) n) := repeatL_ok (cells_ok (v := .lit z) trivial) n
  obtain ⟨n', rfl⟩ : ∃ n', n = n' + 1 := ⟨n - 1, by omega⟩
  split at hq
  · rename_i l e' hb
    rw [Option.map_eq_some_iff] at hq
    obtain ⟨l', hs, rfl⟩ := hq
    obtain ⟨o', w', ho', _, hrun, hrep⟩ := storeCells_rep (P := P) hr hb hs hrok (.inl ⟨e', rfl⟩)
    rw [ho' e' rfl] at hrep
    refine ⟨w', ?_, hrep⟩
    simp only [Builtin.clear_, ht, ha, Sem.run_bind, r_underlying hu w, Result.andThen, r_zeroValue hz w, hz', hrun, Sem.run_pure]
  · rename_i l e' k cv s hb
    rw [Option.map_eq_some_iff] at hq
    obtain ⟨l', hs, rfl⟩ := hq
    obtain ⟨o', w', _, ho', hrun, hrep⟩ := storeCells_rep (P := P) hr hb hs hrok (.inr ⟨e', k, cv, s, rfl⟩)
    rw [ho' e' k cv s rfl] at hrep
    refine ⟨w', ?_, hrep⟩
    simp only [Builtin.clear_, ht, ha, Sem.run_bind, r_underlying hu w, Result.andThen, r_zeroValue hz w, hz', hrun, Sem.run_pure]
  · cases hq
theorem clearE_sound {tys : Array TypeId} {ty t : TypeId} {args : Array Value} {x : SV} {h' : Hp} (hq : clearE P h t x = some h') (hr : Rep Γ X w0 θ K h w) (ht : tys[0]? = some t) (ha : args[0]? = some (conc θ x)) :
    ∃ w', (Builtin.clear_ tys ty args).run P w = .ok (.tuple #[]) w' ∧ Rep Γ X w0 θ K h' w' := by
  unfold clearE at hq
  split at hq
  · rename_i e a c hu
    simp only [Option.some.injEq] at hq; subst hq
    exact ⟨w, by simp only [Builtin.clear_, ht, ha, conc, Sem.run_bind, r_underlying hu w, Result.andThen, Sem.run_pure], hr⟩
  · rename_i e b off n c hu
    split at hq
    · rename_i hn
      have := eq_of_beq hn
      subst this
      simp only [Option.some.injEq] at hq; subst hq
      exact ⟨w, by simp only [Builtin.clear_, ht, ha, conc, Sem.run_bind, r_underlying hu w, Result.andThen, Sem.run_pure], hr⟩
    · rename_i z hz hn
      exact clear_slice hr hu hz (ne_of_beq hn) ht ha hq
    · cases hq
  · rename_i e b off n k cv hu
    split at hq
    · rename_i hn
      have := eq_of_beq hn
      subst this
      simp only [Option.some.injEq] at hq; subst hq
      exact ⟨w, by simp only [Builtin.clear_, ht, ha, conc, Sem.run_bind, r_underlying hu w, Result.andThen, Sem.run_pure], hr⟩
    · rename_i z hz hn
      exact clear_slice hr hu hz (ne_of_beq hn) ht ha hq
    · cases hq
  · cases hq
theorem rangeE_sound {t : TypeId} {x : SV} {r : SV × Hp} (hq : rangeE P h t x = some r) (hr : Rep Γ X w0 θ K h w) :
    ∃ θ' K' w', Ext K θ θ' ∧ (∀ i, K i → K' i) ∧ (∀ i, K' i → K i ∨ h.next ≤ i) ∧ (Instr.range t (conc θ x)).run P w = .ok (conc θ' r.1) w' ∧ r.1.ok K' ∧ Rep Γ X w0 θ' K' r.2 w' := by
  have hnk := hr.next h.next (Nat.le_refl _)
  unfold rangeE at hq
  split at hq
  · rename_i s hu
    simp only [Option.some.injEq] at hq; subst hq
    refine ⟨_, _, _, Ren.bind_ext (n := w.heap.size) (c := 0) hnk, also_mono, also_fresh, ?_, .inr rfl, hr.make_next (w' := w.alloc (.stringIter s 0)) (ob := .stringIter s 0) rfl rfl rfl rfl trivial rfl⟩
    simp only [Instr.range, conc, Sem.run_bind, r_underlying hu w, Result.andThen, Sem.run_pure, run_newObj, World.alloc_eq, Hp.new, Ren.bind_blk]
  · rename_i k e hu
    simp only [Option.some.injEq] at hq; subst hq
    refine ⟨_, _, _, Ren.bind_ext (n := w.heap.size) (c := 0) hnk, also_mono, also_fresh, ?_, .inr rfl, hr.make_next (w' := w.alloc (.mapIter none 0 #[] 0)) (ob := .mapIter none 0 #[] 0) rfl rfl rfl rfl (fun b hb => by cases hb) rfl⟩
    simp only [Instr.range, conc, Sem.run_bind, r_underlying hu w, Result.andThen, Sem.run_pure, run_newObj, World.alloc_eq, Hp.new, Ren.bind_blk]
  · rename_i k e b hu
    split at hq
    · rename_i es c hb
      simp only [Option.some.injEq] at hq; subst hq
      obtain ⟨hg, _⟩ := hr.map (P := P) hb
      have hKb := (hr.obj b _ hb).1
      refine ⟨_, _, _, Ren.bind_ext (n := w.heap.size) (c := 0) hnk, also_mono, also_fresh, ?_, .inr rfl, hr.make_next (w' := w.alloc (.mapIter (some (θ.blk b)) c #[] c)) (ob := .mapIter (some (θ.blk b)) c #[] c) rfl rfl rfl rfl (fun b' hb' => by cases hb'; exact .inl hKb) ?_⟩
      · simp only [Instr.range, conc, Sem.run_bind, r_underlying hu w, Result.andThen, hg, Sem.run_pure, run_newObj, World.alloc_eq, Hp.new, Ren.bind_blk]
      · simp only [ORep, Option.map_some, (Ren.bind_ext (n := w.heap.size) (c := 0) hnk).blk b hKb]
    · cases hq
  · cases hq
theorem Rep.other {b : Nat} {o : AObj} (hr : Rep Γ X w0 θ K h w) (hb : h.objs.get b = some o) {ob : Obj} (hw : w.heap[θ.blk b]? = some ob) (hc : ∀ c e f, ob ≠ .cells c e f) :
    (getObj (θ.blk b)).run P w = .ok ob w ∧ ∀ ob', (setObj (θ.blk b) ob').run P w = .ok () (setB w (θ.blk b) ob') := by
  have _ := hr.obj b o hb
  constructor
  · cases ob <;> first | (exact absurd rfl (hc _ _ _)) | (simp only [getObj, Sem.run, hw])
  · intro ob'
    cases ob <;> first | (exact absurd rfl (hc _ _ _)) | (simp only [setObj, Sem.run, hw]; rfl)
theorem nextE_sound {it : SV} {isS : Bool} {ty : TypeId} {outs : List (SV × Hp)} (hq : nextE h it isS = some outs) (hr : Rep Γ X w0 θ K h w) :
    ∃ r ∈ outs, ∃ w', (Instr.next (conc θ it) isS ty).run P w = .ok (conc θ r.1) w' ∧ r.1.ok K ∧ Rep Γ X w0 θ K r.2 w' := by
  unfold nextE at hq
  split at hq
  · rename_i b
    split at hq
    · rename_i s pos hb
      obtain ⟨_, _, _, ob, hw, hO⟩ := hr.obj b _ hb
      simp only [ORep] at hO
      subst hO
      obtain ⟨hg, hs⟩ := hr.other (P := P) hb hw (fun _ _ _ he => by cases he)
      cases hlt : Nat.blt pos s.size with
      | true =>
        rw [hlt] at hq
        have hp := lt_of_blt hlt
        simp only [cond_true, Option.some.injEq] at hq; subst hq
        refine ⟨_, List.mem_singleton.2 rfl, _, ?_, ⟨trivial, trivial, trivial, trivial⟩, hr.turn (o' := .strIter s (pos + (Utf8.decode s pos).2)) (ob' := .stringIter s (pos + (Utf8.decode s pos).2)) hb trivial rfl⟩
        simp only [Instr.next, conc, Sem.run_bind, hg, Result.andThen, hp, if_true, hs, Sem.run_pure]
        rfl
      | false =>
        rw [hlt] at hq
        have hp : ¬ pos < s.size := fun hp => by
          have : Nat.blt pos s.size = true := Nat.ble_eq_true_of_le hp
          rw [this] at hlt; cases hlt
        simp only [cond_false, Option.some.injEq] at hq; subst hq
        refine ⟨_, List.mem_singleton.2 rfl, w, ?_, ⟨trivial, trivial⟩, hr⟩
        simp only [Instr.next, conc, Sem.run_bind, hg, Result.andThen, hp, if_false, Sem.run_pure]
        rfl
    · cases hq
  · rename_i b
    split at hq
    · rename_i s1 s2 s3 hb
      obtain ⟨_, _, _, ob, hw, hO⟩ := hr.obj b _ hb
      simp only [ORep] at hO
      subst hO
      obtain ⟨hg, _⟩ := hr.other (P := P) hb hw (fun _ _ _ he => by cases he)
      simp only [Option.some.injEq] at hq; subst hq
      refine ⟨_, List.mem_singleton.2 rfl, w, ?_, ⟨trivial, trivial⟩, hr⟩
      simp only [Instr.next, conc, Sem.run_bind, hg, Option.map_none, Result.andThen, Sem.run_pure]
      rfl
    · rename_i m since seen last hb
      split at hq
      · rename_i es clock hm
        obtain ⟨_, _, hbok, ob, hw, hO⟩ := hr.obj b _ hb
        simp only [ORep, Option.map_some] at hO
        subst hO
        obtain ⟨hg, hs⟩ := hr.other (P := P) hb hw (fun _ _ _ he => by cases he)
        obtain ⟨hgm, _⟩ := hr.map (P := P) hm
        have hmok := hr.okAll m _ hm
        have hc1 : (!seen.toArray.isEmpty && !(es.map (entryC θ)).toArray.isEmpty && (es.map (entryC θ)).toArray.all (fun e => decide (e.born ≥ last))) = (!seen.isEmpty && !es.isEmpty && es.all fun e => Nat.ble last e.2.2) := by
          have a1 : seen.toArray.isEmpty = seen.isEmpty := by cases seen <;> rfl
          have a2 : (es.map (entryC θ)).toArray.isEmpty = es.isEmpty := by cases es <;> rfl
          have a3 : (es.map (entryC θ)).toArray.all (fun e => decide (e.born ≥ last)) = es.all fun e => Nat.ble last e.2.2 := by
            rw [List.all_toArray, List.all_map]
            congr 1
            funext e
            show decide (e.2.2 ≥ last) = Nat.ble last e.2.2
            cases hle : Nat.ble last e.2.2 with
            | true => exact decide_eq_true (le_of_ble hle)
            | false => exact decide_eq_false fun hge => by rw [Nat.ble_eq_true_of_le hge] at hle; cases hle
          rw [a1, a2, a3]
        cases hcc : (!seen.isEmpty && !es.isEmpty && es.all fun e => Nat.ble last e.2.2) with
        | true => rw [hcc] at hq; cases hq
        | false =>
          rw [hcc] at hq
          rw [hcc] at hc1
          simp only [cond_false] at hq
          cases hall : es.all fun e => Nat.blt e.2.2 since with
          | false => rw [hall] at hq; cases hq
          | true =>
            rw [hall] at hq
            simp only [cond_true] at hq
            have hborn : ∀ e ∈ es, e.2.2 < since := fun e he => lt_of_blt (List.all_eq_true.1 hall e he)
            have hleft : (es.map (entryC θ)).toArray.filter (fun e => !seen.toArray.contains e.born) = ((leftOf es seen).map (entryC θ)).toArray := by
              rw [← Array.toList_inj]
              simp only [Array.toList_filter, leftOf, List.filter_map]
              congr 2
              funext e
              simp [Function.comp, entryC]
            have hold : ((leftOf es seen).map (entryC θ)).toArray.filter (fun e => decide (e.born < since)) = ((leftOf es seen).map (entryC θ)).toArray := by
              rw [← Array.toList_inj]
              simp only [Array.toList_filter]
              rw [List.filter_eq_self]
              intro e he
              obtain ⟨x, hx, rfl⟩ := List.mem_map.1 he
              exact decide_eq_true (hborn x (List.mem_filter.1 hx).1)
            have hnew : ((leftOf es seen).map (entryC θ)).toArray.filter (fun e => decide (e.born ≥ since)) = #[] := by
              rw [← Array.toList_inj]
              simp only [Array.toList_filter]
              rw [List.filter_eq_nil_iff]
              intro e he
              obtain ⟨x, hx, rfl⟩ := List.mem_map.1 he
              have := hborn x (List.mem_filter.1 hx).1
              intro hd
              have hge : (entryC θ x).born ≥ since := of_decide_eq_true hd
              have : x.2.2 ≥ since := hge
              omega
            cases hL : leftOf es seen with
            | nil =>
              rw [hL] at hq hleft hold hnew
              simp only [Option.some.injEq] at hq; subst hq
              refine ⟨_, List.mem_singleton.2 rfl, w, ?_, ⟨trivial, trivial⟩, hr⟩
              simp only [Instr.next, conc, Sem.run_bind, hg, Result.andThen, hgm, hc1, Bool.false_eq_true, if_false, hleft, List.map_nil]
              simp [Question.forced]
              rfl
            | cons e0 rest =>
              rw [hL] at hq hleft hold hnew
              simp only [Option.some.injEq] at hq; subst hq
              have hcand : ((if ((e0 :: rest).map (entryC θ)).toArray.isEmpty then (#[none] : Array (Option MapEntry)) else #[]) ++ (((e0 :: rest).map (entryC θ)).toArray ++ #[]).map some) = ((e0 :: rest).map fun e => some (entryC θ e)).toArray := by
                rw [← Array.toList_inj]
                simp [Function.comp]
              have hpick : ∃ (k : Nat) (w1 : World), (choose (.mapNext ((e0 :: rest).map fun e => some (entryC θ e)).toArray.size)).run P w = .ok k w1 ∧ k < (e0 :: rest).length ∧ w1.os = w.os ∧ w1.tape = w.tape ∧ w1.output = w.output ∧ w1.heap = w.heap := by
                simp only [run_choose]
                split
                · exact ⟨0, w, rfl, by simp, rfl, rfl, rfl, rfl⟩
                · refine ⟨_, _, rfl, ?_, rfl, rfl, rfl, rfl⟩
                  simp only [Question.cut, List.size_toArray, List.length_map]
                  exact Nat.mod_lt _ (by simp)
              obtain ⟨k, w1, hch, hk, g1, g2, g3, g4⟩ := hpick
              have hr1 : Rep Γ X w0 θ K h w1 := hr.same g1 g2 g3 g4
              have hw1 : w1.heap[θ.blk b]? = some (.mapIter (some (θ.blk m)) since seen.toArray last) := by rw [g4]; exact hw
              obtain ⟨_, hs1⟩ := hr1.other (P := P) hb hw1 (fun _ _ _ he => by cases he)
              have hek : (e0 :: rest)[k]? = some (e0 :: rest)[k] := List.getElem?_eq_getElem hk
              have hmem : (e0 :: rest)[k] ∈ e0 :: rest := List.getElem_mem hk
              have hin : (e0 :: rest)[k] ∈ es := (List.mem_filter.1 (show (e0 :: rest)[k] ∈ leftOf es seen by rw [hL]; exact hmem)).1
              have hcg : (((e0 :: rest).map fun e => some (entryC θ e)).toArray)[k]? = some (some (entryC θ (e0 :: rest)[k])) := by
                rw [List.getElem?_toArray, List.getElem?_map, hek]; rfl
              generalize (e0 :: rest)[k] = e at *
              refine ⟨_, List.mem_map.2 ⟨e, hmem, rfl⟩, _, ?_, ⟨trivial, (hmok e hin).1, (hmok e hin).2, trivial⟩, hr1.turn (o' := .mapIter (some m) since (seen ++ [e.2.2]) clock) (ob' := .mapIter (some (θ.blk m)) since (seen ++ [e.2.2]).toArray clock) hb hbok rfl⟩
              simp only [Instr.next, conc, Sem.run_bind, hg, Result.andThen, hgm, hc1, Bool.false_eq_true, if_false, hleft, hold, hnew, hcand, hch, hcg]
              have hpush : seen.toArray.push (entryC θ e).born = (seen ++ [e.2.2]).toArray := by simp [entryC]
              simp only [hpush, hs1, Sem.run_pure]
              rfl
      · cases hq
    · cases hq
  · cases hq
end
end Go.Proofs.YtdhmljjpiainnaaGreatDoor.Ev
