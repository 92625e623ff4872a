/-
  THE EVALUATOR'S QUIET OPERATIONS ARE THE MODEL'S, in one word, by the author of this claim. Of any program; no condition.
-/
import Derived.Test.YthjkejnmjbljfaaGreatDoorEvE
namespace Go.Proofs.YthjkejnmjbljfaaGreatDoor.Ev
open Go Go.RowKit

section
variable {P : Program} {Γ : Env} {θ : Ren} {w : World}

/-! ### len -/
theorem len_same {tys : Array TypeId} {args : Array Value} {ty ty' t : TypeId} {x : Value} (h1 : tys[0]? = some t) (h2 : args[0]? = some x) : Builtin.len_ tys ty args = Builtin.len_ #[t] ty' #[x] := by
  unfold Builtin.len_
  rw [h1, h2]
  rfl

theorem lenQ_sound {h : Hp} {t : TypeId} {x v : SV} {fs : List Fact} (hq : lenQ P h t x = some (v, fs)) (hf : ∀ f ∈ fs, FactW θ w f) :
    (Builtin.len_ #[t] 0 #[conc θ x]).run P w = .ok (conc θ v) w := by
  unfold lenQ at hq
  split at hq
  · rename_i e b off n c hu
    simp only [Option.some.injEq, Prod.mk.injEq] at hq
    obtain ⟨rfl, rfl⟩ := hq
    simp [Builtin.len_, r_underlying hu w, conc]
  · rename_i e b off n k cv hu
    simp only [Option.some.injEq, Prod.mk.injEq] at hq
    obtain ⟨rfl, rfl⟩ := hq
    simp [Builtin.len_, r_underlying hu w, conc]
  · rename_i k e b hu
    split at hq
    · rename_i es c hb
      simp only [Option.some.injEq, Prod.mk.injEq] at hq
      obtain ⟨rfl, rfl⟩ := hq
      have hg := getObj_map (P := P) (hf _ (List.mem_singleton.2 rfl))
      simp [Builtin.len_, r_underlying hu w, conc, hg]
    · cases hq
  · split at hq
    · rename_i a ha
      split at hq
      · rename_i u hu
        simp only [Option.some.injEq, Prod.mk.injEq] at hq
        obtain ⟨rfl, rfl⟩ := hq
        rw [toLit_conc θ _ _ ha]
        exact pureRun_sound _ u hu w
      · cases hq
    · cases hq
theorem lenQ_ok {K : Nat → Prop} {h : Hp} {t : TypeId} {x v : SV} {fs : List Fact} (hq : lenQ P h t x = some (v, fs)) : v.ok K ∧ ∀ f ∈ fs, FactA h f := by
  unfold lenQ at hq
  split at hq
  · simp only [Option.some.injEq, Prod.mk.injEq] at hq
    obtain ⟨rfl, rfl⟩ := hq
    exact ⟨trivial, fun f hf => by cases hf⟩
  · simp only [Option.some.injEq, Prod.mk.injEq] at hq
    obtain ⟨rfl, rfl⟩ := hq
    exact ⟨trivial, fun f hf => by cases hf⟩
  · split at hq
    · rename_i hb
      simp only [Option.some.injEq, Prod.mk.injEq] at hq
      obtain ⟨rfl, rfl⟩ := hq
      exact ⟨trivial, fun f hf => by rw [List.mem_singleton.1 hf]; exact hb⟩
    · cases hq
  · split at hq
    · split at hq
      · simp only [Option.some.injEq, Prod.mk.injEq] at hq
        obtain ⟨rfl, rfl⟩ := hq
        exact ⟨trivial, fun f hf => by cases hf⟩
      · cases hq
    · cases hq

/-! ### conversions -/
theorem bytesQ_conc {f : Value → ByteArray → Sem (ForInStep ByteArray)} (hfn : ∀ n s, f (.int .u8 n) s = pure (ForInStep.yield (s.push (UInt8.ofNat n.toNat)))) (l : List SV) :
    ∀ {bs : List UInt8}, bytesQ l = some bs → ∀ (s : ByteArray), (forIn (concL θ l) s f : Sem ByteArray).run P w = .ok ⟨s.data ++ bs.toArray⟩ w := by
  induction l with
  | nil => intro bs h s; simp only [bytesQ, Option.some.injEq] at h; subst h; simp [concL]
  | cons v l ih =>
    intro bs h s
    unfold bytesQ at h
    split at h
    · rename_i he; cases he
    · rename_i n l' he
      cases he
      split at h
      · rename_i r hr
        simp only [Option.some.injEq] at h; subst h
        have := ih hr (s.push (UInt8.ofNat n.toNat))
        simp only [concL, conc, List.forIn_cons, hfn, Sem.run_bind, Sem.run_pure, Result.andThen]
        rw [this]
        congr 2
        simp [ByteArray.push]
      · cases h
    · cases h

theorem bytesToString_run {a : Addr} {n cap : Nat} {vs : List SV} {bs : List UInt8} (hl : (loadCells a n).run P w = .ok (concL θ vs).toArray w) (hb : bytesQ vs = some bs) :
    (Conv.bytesToString (.slice (some a) n cap)).run P w = .ok (.string ⟨bs.toArray⟩) w := by
  simp only [Conv.bytesToString, Sem.run_bind, hl, Result.andThen]
  rw [← Array.forIn_toList]
  rw [bytesQ_conc (P := P) (w := w) (θ := θ) (fun _ _ => rfl) vs hb ByteArray.empty]
  show Result.ok (Value.string ⟨#[] ++ bs.toArray⟩) w = _
  rw [Array.empty_append]

theorem convertQ_sound {h : Hp} {s d : TypeId} {x v : SV} {fs : List Fact} (hq : convertQ P Γ h s d x = some (v, fs)) (hg : GlobW Γ w) (hf : ∀ f ∈ fs, FactW θ w f) :
    (convert s d (conc θ x)).run P w = .ok (conc θ v) w := by
  unfold convertQ at hq
  split at hq
  · rename_i e b off len c hs hd
    split at hq
    · rename_i vs gs he hr
      split at hq
      · rename_i bs hb
        simp only [Option.some.injEq, Prod.mk.injEq] at hq
        obtain ⟨rfl, rfl⟩ := hq
        obtain ⟨a, ha, hl⟩ := readCells_loads (P := P) hr hg hf
        simp only [conc, Value.pointer.injEq, Option.some.injEq] at ha
        subst ha
        simp only [convert, Sem.run_bind, r_underlying hs w, r_underlying hd w, Result.andThen, conc, r_underlying he w]
        exact bytesToString_run hl hb
      · cases hq
    · cases hq
  · rename_i e b off len k cv hs hd
    split at hq
    · rename_i vs gs he hr
      split at hq
      · rename_i bs hb
        simp only [Option.some.injEq, Prod.mk.injEq] at hq
        obtain ⟨rfl, rfl⟩ := hq
        obtain ⟨a, ha, hl⟩ := readCells_loads (P := P) hr hg hf
        simp only [conc, Value.pointer.injEq, Option.some.injEq] at ha
        subst ha
        simp only [convert, Sem.run_bind, r_underlying hs w, r_underlying hd w, Result.andThen, conc, r_underlying he w]
        exact bytesToString_run hl hb
      · cases hq
    · cases hq
  · split at hq
    · rename_i a ha
      split at hq
      · rename_i u hu
        simp only [Option.some.injEq, Prod.mk.injEq] at hq
        obtain ⟨rfl, rfl⟩ := hq
        rw [toLit_conc θ _ _ ha]
        exact pureRun_sound _ u hu w
      · cases hq
    · cases hq
theorem convertQ_ok {K : Nat → Prop} {h : Hp} {s d : TypeId} {x v : SV} {fs : List Fact} (hq : convertQ P Γ h s d x = some (v, fs)) : v.ok K ∧ ∀ f ∈ fs, FactA h f := by
  unfold convertQ at hq
  split at hq
  · split at hq
    · rename_i hr
      split at hq
      · simp only [Option.some.injEq, Prod.mk.injEq] at hq
        obtain ⟨rfl, rfl⟩ := hq
        exact ⟨trivial, readCells_facts hr⟩
      · cases hq
    · cases hq
  · split at hq
    · rename_i hr
      split at hq
      · simp only [Option.some.injEq, Prod.mk.injEq] at hq
        obtain ⟨rfl, rfl⟩ := hq
        exact ⟨trivial, readCells_facts hr⟩
      · cases hq
    · cases hq
  · split at hq
    · split at hq
      · simp only [Option.some.injEq, Prod.mk.injEq] at hq
        obtain ⟨rfl, rfl⟩ := hq
        exact ⟨trivial, fun f hf => by cases hf⟩
      · cases hq
    · cases hq

theorem one_spec {o : Option SV} {v : SV} {fs : List Fact} (h : one o = some (v, fs)) : o = some v ∧ fs = [] := by
  unfold one at h
  rw [Option.map_eq_some_iff] at h
  obtain ⟨x, hx, he⟩ := h
  simp only [Prod.mk.injEq] at he
  obtain ⟨rfl, rfl⟩ := he
  exact ⟨hx, rfl⟩

theorem nonNil_run {x : SV} (h : nonNil x = true) (o : Oper) (y : Operand) (ho : o.op = .nilCheck y) (ρ : Operand → SV) (hy : ρ y = x) : (execOp (fun z => conc θ (ρ z)) o).run P w = .ok (.value (conc θ x)) w := by
  simp only [execOp, ho, hy]
  unfold nonNil at h
  split at h
  all_goals first
    | rfl
    | cases h

/-! ### type assertions -/
theorem assertQ_sound {t xt : TypeId} {ok : Bool} {x v : SV} (hq : assertQ P t ok x = some v) : (Instr.typeAssert (conc θ x) xt t ok).run P w = .ok (conc θ v) w := by
  unfold assertQ at hq
  split at hq
  · cases hq
  · cases hq
  · rename_i d hd hu
    split at hq
    · rename_i t' u
      cases hb : Nat.beq t' t with
      | true =>
        rw [hb] at hq
        have he := eq_of_beq hb
        simp only [cond_true, Option.some.injEq] at hq
        subst hq
        simp only [Instr.typeAssert, Sem.run_bind, r_underlying hu w, Result.andThen, conc]
        cases d <;> first | exact absurd rfl (hd _) | (cases ok <;> simp [he, conc, concL, litBool])
      | false =>
        rw [hb] at hq
        have he := ne_of_beq hb
        cases ok with
        | false => cases hq
        | true =>
          simp only [cond_true, cond_false] at hq
          rw [Option.map_eq_some_iff] at hq
          obtain ⟨z, hz, rfl⟩ := hq
          simp only [Instr.typeAssert, Sem.run_bind, r_underlying hu w, Result.andThen, conc]
          cases d <;> first | exact absurd rfl (hd _) | simp [he, r_zeroValue hz w, conc, concL, litBool]
    · rename_i t' u
      cases hb : Nat.beq t' t with
      | true =>
        rw [hb] at hq
        have he := eq_of_beq hb
        simp only [cond_true, Option.some.injEq] at hq
        subst hq
        simp only [Instr.typeAssert, Sem.run_bind, r_underlying hu w, Result.andThen, conc]
        cases d <;> first | exact absurd rfl (hd _) | (cases ok <;> simp [he, conc, concL, litBool])
      | false =>
        rw [hb] at hq
        have he := ne_of_beq hb
        cases ok with
        | false => cases hq
        | true =>
          simp only [cond_true, cond_false] at hq
          rw [Option.map_eq_some_iff] at hq
          obtain ⟨z, hz, rfl⟩ := hq
          simp only [Instr.typeAssert, Sem.run_bind, r_underlying hu w, Result.andThen, conc]
          cases d <;> first | exact absurd rfl (hd _) | simp [he, r_zeroValue hz w, conc, concL, litBool]
    · cases ok with
      | false => cases hq
      | true =>
        simp only [cond_true] at hq
        rw [Option.map_eq_some_iff] at hq
        obtain ⟨z, hz, rfl⟩ := hq
        simp only [Instr.typeAssert, Sem.run_bind, r_underlying hu w, Result.andThen, conc]
        cases d <;> first | exact absurd rfl (hd _) | simp [r_zeroValue hz w, conc, concL, litBool]
    · cases hq
theorem assertQ_ok {K : Nat → Prop} {t : TypeId} {ok : Bool} {x v : SV} (hq : assertQ P t ok x = some v) (hx : x.ok K) : v.ok K := by
  have hfail : ∀ {b : Bool}, (bif b then (tyZero P t).map fun z => SV.tuple [.lit z, litBool false] else none) = some v → v.ok K := fun {b} h => by
    cases b with
    | false => cases h
    | true =>
      simp only [cond_true] at h
      rw [Option.map_eq_some_iff] at h
      obtain ⟨z, _, rfl⟩ := h
      exact ⟨trivial, trivial, trivial⟩
  unfold assertQ at hq
  split at hq
  · cases hq
  · cases hq
  · split at hq
    · rename_i t' u
      cases hb : Nat.beq t' t with
      | true =>
        rw [hb] at hq
        simp only [cond_true, Option.some.injEq] at hq
        subst hq
        cases ok with
        | true => exact ⟨hx, trivial, trivial⟩
        | false => exact hx
      | false => rw [hb] at hq; exact hfail hq
    · rename_i t' u
      cases hb : Nat.beq t' t with
      | true =>
        rw [hb] at hq
        simp only [cond_true, Option.some.injEq] at hq
        subst hq
        cases ok with
        | true => exact ⟨trivial, trivial, trivial⟩
        | false => trivial
      | false => rw [hb] at hq; exact hfail hq
    · exact hfail hq
    · cases hq

/-- **Every quiet operation yields what the evaluator says**, wherever the facts hold on which it leans. -/
theorem quiet_sound {h : Hp} {ρ : Operand → SV} {o : Oper} {v : SV} {fs : List Fact} (hq : quiet P Γ h ρ o.op = some (v, fs)) (hg : GlobW Γ w) (hf : ∀ f ∈ fs, FactW θ w f) :
    (execOp (fun x => conc θ (ρ x)) o).run P w = .ok (.value (conc θ v)) w := by
  unfold quiet at hq
  split at hq
  · rename_i x ho
    simp only [Option.some.injEq, Prod.mk.injEq] at hq
    obtain ⟨rfl, rfl⟩ := hq
    simp only [execOp, ho, Sem.run_pure]
  · rename_i x ho
    simp only [Option.some.injEq, Prod.mk.injEq] at hq
    obtain ⟨rfl, rfl⟩ := hq
    simp only [execOp, ho, Sem.run_pure]
  · rename_i c a b ho
    split at hq
    · rename_i t ht
      simp only [Option.some.injEq, Prod.mk.injEq] at hq
      obtain ⟨rfl, rfl⟩ := hq
      simp only [execOp, ho, ht, conc, asBool, Sem.run_bind, Sem.run_pure, Result.andThen]
      cases t <;> rfl
    · cases hq
  · rename_i t a ho
    simp only [execOp, ho, Sem.run_bind, loadQ_sound hq hg hf, Result.andThen, Sem.run_pure]
  · rename_i x ho
    cases hn : nonNil (ρ x) with
    | false => rw [hn] at hq; cases hq
    | true =>
      rw [hn] at hq
      simp only [cond_true, Option.some.injEq, Prod.mk.injEq] at hq
      obtain ⟨rfl, rfl⟩ := hq
      exact nonNil_run hn o x ho ρ rfl
  · rename_i s x i ho
    obtain ⟨h1, rfl⟩ := one_spec hq
    simp only [execOp, ho, Sem.run_bind, fieldAddrQ_sound h1, Result.andThen, Sem.run_pure]
  · rename_i t x i ho
    obtain ⟨h1, rfl⟩ := one_spec hq
    simp only [execOp, ho, Sem.run_bind, indexAddrQ_sound h1, Result.andThen, Sem.run_pure]
  · rename_i t x i ho
    split at hq
    · rename_i fields hu
      split at hq
      · rename_i f l hfi hx
        obtain ⟨h1, rfl⟩ := one_spec hq
        simp only [execOp, ho, Instr.field, Sem.run_bind, r_underlying hu w, Result.andThen, hfi, hx, conc, asAgg, Sem.run_pure, partQ_sound h1]
      · rename_i f cs hfi hx
        obtain ⟨h1, rfl⟩ := one_spec hq
        have := partQ_sound (θ := θ) (w := w) h1
        rw [concL_lits] at this
        simp only [execOp, ho, Instr.field, Sem.run_bind, r_underlying hu w, Result.andThen, hfi, hx, conc, asAgg, Sem.run_pure, this]
      · cases hq
    · cases hq
  · rename_i t x i ho
    obtain ⟨h1, rfl⟩ := one_spec hq
    simp only [execOp, ho, Sem.run_bind, indexQ_sound h1, Result.andThen, Sem.run_pure]
  · rename_i x i ho
    split at hq
    · rename_i l hx
      obtain ⟨h1, rfl⟩ := one_spec hq
      simp only [execOp, ho, hx, conc, Instr.extract, List.getElem?_toArray, concL_get, h1, Option.map_some, Sem.run_bind, Sem.run_pure, Result.andThen]
    · rename_i vs hx
      obtain ⟨h1, rfl⟩ := one_spec hq
      rw [Option.map_eq_some_iff] at h1
      obtain ⟨u, hu, rfl⟩ := h1
      simp only [execOp, ho, hx, conc, Instr.extract, hu, Sem.run_bind, Sem.run_pure, Result.andThen]
    · cases hq
  · rename_i t parts ho
    obtain ⟨h1, rfl⟩ := one_spec hq
    have := buildQ_sound (θ := θ) (w := w) h1
    have he : (parts.map fun (x : Nat × Operand) => (x.1, conc θ (ρ x.2))) = ((parts.toList.map fun p => (p.1, ρ p.2)).map fun p => (p.1, conc θ p.2)).toArray := by
      rw [← Array.toList_inj]; simp
    simp only [execOp, ho]
    rw [he]
    simp only [Sem.run_bind, this, Result.andThen, Sem.run_pure]
  · rename_i fn a c ho
    simp only [Option.some.injEq, Prod.mk.injEq] at hq
    obtain ⟨rfl, rfl⟩ := hq
    simp only [execOp, ho, Instr.makeFunc, Sem.run_bind, Sem.run_pure, Result.andThen, conc]
    congr 3
    · rw [← Array.toList_inj]; simp [concL_eq]
    · rw [← Array.toList_inj]; simp [concL_eq]
  · rename_i t x ho
    split at hq
    · cases hq
    · rename_i d hd hu
      simp only [Option.some.injEq, Prod.mk.injEq] at hq
      obtain ⟨rfl, rfl⟩ := hq
      simp only [execOp, ho, Instr.makeInterface, Sem.run_bind, r_underlying hu w, Result.andThen, conc]
      cases d <;> first | rfl | (exact absurd rfl (hd _))
    · cases hq
  · rename_i op t x y ty ho
    obtain ⟨h1, rfl⟩ := one_spec hq
    have := binQ_sound (θ := θ) (w := w) h1
    simp only [execOp, ho]
    rw [Sem.run_bind, this]
    rfl
  · rename_i op t x ho
    split at hq
    · rename_i a ha
      obtain ⟨h1, rfl⟩ := one_spec hq
      rw [Option.map_eq_some_iff] at h1
      obtain ⟨u, hu, rfl⟩ := h1
      simp only [execOp, ho, toLit_conc θ _ _ ha, Sem.run_bind, pureRun_sound _ u hu w, Result.andThen, Sem.run_pure, conc]
    · cases hq
  · rename_i s d x ho
    simp only [execOp, ho, Sem.run_bind, convertQ_sound hq hg hf, Result.andThen, Sem.run_pure]
  · rename_i t x lo hi mx ho
    obtain ⟨h1, rfl⟩ := one_spec hq
    have := sliceQ_sound (θ := θ) (w := w) h1
    simp only [Option.map_map] at this
    simp only [execOp, ho, Sem.run_bind]
    rw [show (fun x => conc θ (ρ x)) = conc θ ∘ ρ from rfl, this]
    rfl
  · rename_i t m k ok ho
    simp only [execOp, ho, Sem.run_bind, lookupQ_sound hq hf, Result.andThen, Sem.run_pure]
  · rename_i x xt t ok ho
    obtain ⟨h1, rfl⟩ := one_spec hq
    simp only [execOp, ho, Sem.run_bind, assertQ_sound h1, Result.andThen, Sem.run_pure]
  · rename_i args tys ho
    split at hq
    · rename_i x t hx ht
      have hs := lenQ_sound hq hf
      simp only [execOp, ho, resolve, Sem.run_bind, Sem.run_pure, Result.andThen, invoke, builtin]
      rw [len_same (ty' := 0) (x := conc θ (ρ x)) ht (by simp [hx]), hs]
    · cases hq
  · rename_i args tys ho
    split at hq
    · rename_i vs hvs
      obtain ⟨h1, rfl⟩ := one_spec hq
      rw [Option.map_eq_some_iff] at h1
      obtain ⟨u, hu, rfl⟩ := h1
      have he : (args.map fun x => conc θ (ρ x)) = vs.toArray := by
        rw [← toLitL_conc θ _ _ hvs, ← Array.toList_inj]; simp [concL_eq]
      have hr := pureRun_sound _ u hu w
      simp only [execOp, ho, resolve, Sem.run_bind, Sem.run_pure, Result.andThen, invoke, builtin, he]
      unfold Builtin.max_ at hr ⊢
      rw [hr]
      rfl
    · cases hq
  · rename_i args tys ho
    split at hq
    · rename_i vs hvs
      obtain ⟨h1, rfl⟩ := one_spec hq
      rw [Option.map_eq_some_iff] at h1
      obtain ⟨u, hu, rfl⟩ := h1
      have he : (args.map fun x => conc θ (ρ x)) = vs.toArray := by
        rw [← toLitL_conc θ _ _ hvs, ← Array.toList_inj]; simp [concL_eq]
      have hr := pureRun_sound _ u hu w
      simp only [execOp, ho, resolve, Sem.run_bind, Sem.run_pure, Result.andThen, invoke, builtin, he]
      unfold Builtin.min_ at hr ⊢
      rw [hr]
      rfl
    · cases hq
  · cases hq

theorem quiet_ok {K : Nat → Prop} {h : Hp} {ρ : Operand → SV} {op : Op} {v : SV} {fs : List Fact} (hq : quiet P Γ h ρ op = some (v, fs)) (hρ : ∀ x ∈ op.operands, (ρ x).ok K) (hh : ∀ b o, h.objs.get b = some o → o.ok K) : v.ok K := by
  unfold quiet at hq
  split at hq
  · simp only [Option.some.injEq, Prod.mk.injEq] at hq
    obtain ⟨rfl, rfl⟩ := hq
    exact hρ _ (by simp [Op.operands])
  · simp only [Option.some.injEq, Prod.mk.injEq] at hq
    obtain ⟨rfl, rfl⟩ := hq
    exact hρ _ (by simp [Op.operands])
  · split at hq
    · rename_i t ht
      simp only [Option.some.injEq, Prod.mk.injEq] at hq
      obtain ⟨rfl, rfl⟩ := hq
      cases t
      · exact hρ _ (by simp [Op.operands])
      · exact hρ _ (by simp [Op.operands])
    · cases hq
  · exact loadQ_ok hq hh
  · rename_i x
    cases hn : nonNil (ρ x) with
    | false => rw [hn] at hq; cases hq
    | true =>
      rw [hn] at hq
      simp only [cond_true, Option.some.injEq, Prod.mk.injEq] at hq
      obtain ⟨rfl, rfl⟩ := hq
      exact hρ _ (by simp [Op.operands])
  · obtain ⟨h1, rfl⟩ := one_spec hq
    exact fieldAddrQ_ok h1 (hρ _ (by simp [Op.operands]))
  · obtain ⟨h1, rfl⟩ := one_spec hq
    exact indexAddrQ_ok h1 (hρ _ (by simp [Op.operands]))
  · rename_i t x i
    split at hq
    · split at hq
      · rename_i f l hfi hx
        obtain ⟨h1, rfl⟩ := one_spec hq
        have := hρ x (by simp [Op.operands])
        rw [hx] at this
        exact partQ_ok h1 this
      · obtain ⟨h1, rfl⟩ := one_spec hq
        exact partQ_ok h1 (okL_lits _ _)
      · cases hq
    · cases hq
  · obtain ⟨h1, rfl⟩ := one_spec hq
    exact indexQ_ok h1 (hρ _ (by simp [Op.operands]))
  · rename_i x i
    split at hq
    · rename_i l hx
      obtain ⟨h1, rfl⟩ := one_spec hq
      have := hρ x (by simp [Op.operands])
      rw [hx] at this
      exact (okL_iff _ _).1 this _ (List.mem_of_getElem? h1)
    · obtain ⟨h1, rfl⟩ := one_spec hq
      rw [Option.map_eq_some_iff] at h1
      obtain ⟨u, _, rfl⟩ := h1
      trivial
    · cases hq
  · rename_i t parts
    obtain ⟨h1, rfl⟩ := one_spec hq
    refine buildQ_ok h1 fun p hp => ?_
    obtain ⟨q, hq, rfl⟩ := List.mem_map.1 hp
    refine hρ _ ?_
    simp only [Op.operands, List.mem_toArray, List.mem_map]
    exact ⟨q, hq, rfl⟩
  · rename_i fn a c
    simp only [Option.some.injEq, Prod.mk.injEq] at hq
    obtain ⟨rfl, rfl⟩ := hq
    refine ⟨(okL_iff _ _).2 fun v hv => ?_, (okL_iff _ _).2 fun v hv => ?_⟩
    · obtain ⟨x, hx, rfl⟩ := List.mem_map.1 hv
      exact hρ _ (by simp only [Op.operands, Array.mem_append]; exact .inl (by simpa using hx))
    · obtain ⟨x, hx, rfl⟩ := List.mem_map.1 hv
      exact hρ _ (by simp only [Op.operands, Array.mem_append]; exact .inr (by simpa using hx))
  · split at hq
    · cases hq
    · simp only [Option.some.injEq, Prod.mk.injEq] at hq
      obtain ⟨rfl, rfl⟩ := hq
      exact hρ _ (by simp [Op.operands])
    · cases hq
  · obtain ⟨h1, rfl⟩ := one_spec hq
    exact binQ_ok h1
  · split at hq
    · obtain ⟨h1, rfl⟩ := one_spec hq
      rw [Option.map_eq_some_iff] at h1
      obtain ⟨u, _, rfl⟩ := h1
      trivial
    · cases hq
  · exact (convertQ_ok hq).1
  · obtain ⟨h1, rfl⟩ := one_spec hq
    exact sliceQ_ok h1 (hρ _ (by simp [Op.operands]))
  · exact (lookupQ_ok hq hh).1
  · obtain ⟨h1, rfl⟩ := one_spec hq
    exact assertQ_ok h1 (hρ _ (by simp [Op.operands]))
  · split at hq
    · exact (lenQ_ok hq).1
    · cases hq
  · split at hq
    · obtain ⟨h1, rfl⟩ := one_spec hq
      rw [Option.map_eq_some_iff] at h1
      obtain ⟨u, _, rfl⟩ := h1
      trivial
    · cases hq
  · split at hq
    · obtain ⟨h1, rfl⟩ := one_spec hq
      rw [Option.map_eq_some_iff] at h1
      obtain ⟨u, _, rfl⟩ := h1
      trivial
    · cases hq
  · cases hq

theorem quiet_facts {h : Hp} {ρ : Operand → SV} {op : Op} {v : SV} {fs : List Fact} (hq : quiet P Γ h ρ op = some (v, fs)) : ∀ f ∈ fs, FactA h f := by
  have nil : ∀ f ∈ ([] : List Fact), FactA h f := fun f hf => by cases hf
  unfold quiet at hq
  split at hq
  · simp only [Option.some.injEq, Prod.mk.injEq] at hq; obtain ⟨rfl, rfl⟩ := hq; exact nil
  · simp only [Option.some.injEq, Prod.mk.injEq] at hq; obtain ⟨rfl, rfl⟩ := hq; exact nil
  · split at hq
    · simp only [Option.some.injEq, Prod.mk.injEq] at hq; obtain ⟨rfl, rfl⟩ := hq; exact nil
    · cases hq
  · exact loadQ_facts hq
  · rename_i x
    cases hn : nonNil (ρ x) with
    | false => rw [hn] at hq; cases hq
    | true => rw [hn] at hq; simp only [cond_true, Option.some.injEq, Prod.mk.injEq] at hq; obtain ⟨rfl, rfl⟩ := hq; exact nil
  · obtain ⟨_, rfl⟩ := one_spec hq; exact nil
  · obtain ⟨_, rfl⟩ := one_spec hq; exact nil
  · split at hq
    · split at hq
      · obtain ⟨_, rfl⟩ := one_spec hq; exact nil
      · obtain ⟨_, rfl⟩ := one_spec hq; exact nil
      · cases hq
    · cases hq
  · obtain ⟨_, rfl⟩ := one_spec hq; exact nil
  · split at hq
    · obtain ⟨_, rfl⟩ := one_spec hq; exact nil
    · obtain ⟨_, rfl⟩ := one_spec hq; exact nil
    · cases hq
  · obtain ⟨_, rfl⟩ := one_spec hq; exact nil
  · simp only [Option.some.injEq, Prod.mk.injEq] at hq; obtain ⟨rfl, rfl⟩ := hq; exact nil
  · split at hq
    · cases hq
    · simp only [Option.some.injEq, Prod.mk.injEq] at hq; obtain ⟨rfl, rfl⟩ := hq; exact nil
    · cases hq
  · obtain ⟨_, rfl⟩ := one_spec hq; exact nil
  · split at hq
    · obtain ⟨_, rfl⟩ := one_spec hq; exact nil
    · cases hq
  · exact (convertQ_ok (K := fun _ => True) hq).2
  · obtain ⟨_, rfl⟩ := one_spec hq; exact nil
  · exact (lookupQ_facts hq)
  · obtain ⟨_, rfl⟩ := one_spec hq; exact nil
  · split at hq
    · exact (lenQ_ok (K := fun _ => True) hq).2
    · cases hq
  · split at hq
    · obtain ⟨_, rfl⟩ := one_spec hq; exact nil
    · cases hq
  · split at hq
    · obtain ⟨_, rfl⟩ := one_spec hq; exact nil
    · cases hq
  · cases hq
end
end Go.Proofs.YthjkejnmjbljfaaGreatDoor.Ev
