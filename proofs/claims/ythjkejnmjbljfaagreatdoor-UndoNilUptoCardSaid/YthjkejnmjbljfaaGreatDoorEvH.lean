/-
  THE EVALUATOR'S OPERATIONS THAT MAKE OR TURN MEMORY ARE THE MODEL'S (2: make, maps, ranges), by the author of this claim. Of any program; no condition.
-/
import Derived.Test.YthjkejnmjbljfaaGreatDoorEvG
namespace Go.Proofs.YthjkejnmjbljfaaGreatDoor.Ev
open Go Go.RowKit

section
variable {P : Program} {Γ : Env} {X : Nat → Prop} {w0 : World} {θ : Ren} {K : Nat → Prop} {h : Hp} {w : World}

theorem wrap_small {n : Nat} (hn : n ≤ 1048576) : IntKind.i64.wrap (n : Int) = (n : Int) := by
  have h1 : (n : Int) % 2 ^ 64 = (n : Int) := Int.emod_eq_of_lt (by omega) (by omega)
  have h2 : ¬ ((n : Int) ≥ 2 ^ (64 - 1)) := by omega
  simp only [IntKind.wrap, IntKind.signed, IntKind.bits, h1, h2, decide_false, Bool.and_false, Bool.false_eq_true, if_false]

theorem makeSliceE_sound {t : TypeId} {l c : SV} {r : SV × Hp} (hq : makeSliceE P h t l c = some r) (hr : Rep Γ X w0 θ K h w) :
    ∃ θ' K' w', Ext K θ θ' ∧ (∀ i, K i → K' i) ∧ (∀ i, K' i → K i ∨ h.next ≤ i) ∧ (Instr.makeSlice t (conc θ l) (conc θ c)).run P w = .ok (conc θ' r.1) w' ∧ r.1.ok K' ∧ Rep Γ X w0 θ' K' r.2 w' := by
  unfold makeSliceE at hq
  split at hq
  · rename_i e k1 l k2 c hu
    split at hq
    · rename_i i hi
      split at hq
      · rename_i z hz
        cases hc : Nat.ble l c && Nat.ble (i.bytes * c) 1048576 && Nat.ble c 1048576 && Nat.beq (SV.cells (.lit z)).length i.size with
        | false => rw [hc] at hq; cases hq
        | true =>
          rw [hc] at hq
          simp only [Bool.and_eq_true] at hc
          obtain ⟨⟨⟨c1, c2⟩, c3⟩, c4⟩ := hc
          have d1 := le_of_ble c1
          have d2 := le_of_ble c2
          have d3 := le_of_ble c3
          have hsz : z.cells.size = i.size := by rw [← eq_of_beq c4]; have := cells_conc θ (.lit z); simp only [conc] at this; rw [this]; simp
          simp only [cond_true, Option.some.injEq] at hq
          have hnk := hr.next h.next (Nat.le_refl _)
          have hzero : tyZero P e = some z := by simp only [tyZero, hi, Option.bind_some, hz]
          have hsize : tySize P e = some i.size := by simp only [tySize, hi, Option.map_some]
          have w1 : IntKind.i64.wrap (l : Int) = (l : Int) := wrap_small (by omega)
          have w2 : IntKind.i64.wrap (c : Int) = (c : Int) := wrap_small d3
          have t1 : ((decide ((c : Int) < 0) || decide ((i.bytes : Int) * (c : Int) > 2 ^ 48)) || decide ((l : Int) < 0) || decide ((l : Int) > (c : Int))) = false := by
            have : ((i.bytes * c : Nat) : Int) = (i.bytes : Int) * (c : Int) := by simp
            simp only [Bool.or_eq_false_iff, decide_eq_false_iff_not]
            refine ⟨⟨⟨by omega, by rw [← this]; omega⟩, by omega⟩, by omega⟩
          subst hq
          by_cases h0 : c * i.size = 0
          · rw [beq_t h0]
            refine ⟨_, _, _, Ren.bind_ext hnk, also_mono, also_fresh, ?_, .inr rfl, newCells_rep (l := []) hr trivial⟩
            have hr0 : ∀ f : Nat → Value, Array.map f (Array.range 0) = #[] := fun f => by simp
            simp only [Instr.makeSlice, conc, Sem.run_bind, r_underlying hu w, Result.andThen, asInt, asIntOf, Sem.run_pure, r_typeInfo hi w, Int.ofNat_eq_natCast, w1, w2, t1, Bool.false_eq_true, if_false, run_askRoom, r_sizeOf hsize w, Int.toNat_natCast, h0, if_true, hr0, newRow, run_newObj, World.alloc_eq, Hp.new, Ren.bind_blk]
            rfl
          · rw [beq_f h0]
            refine ⟨_, _, _, Ren.bind_ext hnk, also_mono, also_fresh, ?_, .inr rfl, newCells_rep hr (repeatL_ok (cells_ok (v := .lit z) trivial) c)⟩
            have hze := zeros_eq (θ := θ) z c (c * i.size) (by rw [hsz])
            simp only [Instr.makeSlice, conc, Sem.run_bind, r_underlying hu w, Result.andThen, asInt, asIntOf, Sem.run_pure, r_typeInfo hi w, Int.ofNat_eq_natCast, w1, w2, t1, Bool.false_eq_true, if_false, run_askRoom, r_sizeOf hsize w, Int.toNat_natCast, h0, r_zeroValue hzero w, hze, newRow, run_newObj, World.alloc_eq, Hp.new, Ren.bind_blk]
            rfl
      · cases hq
    · cases hq
  · cases hq

theorem newMap_rep (hr : Rep Γ X w0 θ K h w) : Rep Γ X w0 (θ.bind h.next w.heap.size 0) (also K h.next) ⟨h.objs.set h.next (.map [] 0), h.next + 1⟩ (w.alloc (.map #[] 0)) :=
  hr.make_next rfl rfl rfl rfl (fun e he => by cases he) rfl

/-! ### maps -/
theorem Rep.map {b : Nat} {es : List (SV × SV × Nat)} {c : Nat} (hr : Rep Γ X w0 θ K h w) (hb : h.objs.get b = some (.map es c)) : (getObj (θ.blk b)).run P w = .ok (.map (es.map (entryC θ)).toArray c) w ∧
    (∀ ob, (setObj (θ.blk b) ob).run P w = .ok () (setB w (θ.blk b) ob)) := by
  obtain ⟨_, _, _, ob, hw, hO⟩ := hr.obj b _ hb
  refine ⟨getObj_map (by exact ⟨ob, hw, hO⟩), fun ob' => ?_⟩
  simp only [ORep] at hO
  subst hO
  simp only [setObj, Sem.run, hw]
  rfl

theorem findQ_lt {kt : TypeId} {k : Value} (es : List (SV × SV × Nat)) : ∀ {i j : Nat} {v : SV}, findQ P kt k es i = some (some (j, v)) → ∃ m, j = i + m ∧ ∃ e, es[m]? = some e ∧ e.2.1 = v := by
  induction es with
  | nil => intro i j v h; simp only [findQ, Option.some.injEq] at h; cases h
  | cons e es ih =>
    intro i j v h
    obtain ⟨k', u, c⟩ := e
    simp only [findQ] at h
    split at h
    · split at h
      · simp only [Option.some.injEq, Prod.mk.injEq] at h
        exact ⟨0, h.1.symm, _, rfl, h.2⟩
      · obtain ⟨m, hm, e, he, hv⟩ := ih h
        exact ⟨m + 1, by omega, e, he, hv⟩
      · cases h
    · cases h

theorem setEntry_map (es : List (SV × SV × Nat)) : ∀ (i : Nat) (k v : SV), (setEntry es i k v).map (entryC θ) = (es.map (entryC θ)).modify i fun e => { e with key := conc θ k, val := conc θ v } := by
  induction es with
  | nil => intro i k v; simp [setEntry]
  | cons e es ih =>
    intro i k v
    obtain ⟨k', u, c⟩ := e
    cases i with
    | zero => simp [setEntry, entryC]
    | succ i => simp [setEntry, ih]
theorem setEntry_mem (es : List (SV × SV × Nat)) : ∀ (i : Nat) (k v : SV), ∀ e ∈ setEntry es i k v, (e.1 = k ∧ e.2.1 = v) ∨ e ∈ es := by
  induction es with
  | nil => intro i k v e he; cases he
  | cons e es ih =>
    intro i k v e' he
    obtain ⟨k', u, c⟩ := e
    cases i with
    | zero =>
      simp only [setEntry, List.mem_cons] at he
      rcases he with rfl | he
      · exact .inl ⟨rfl, rfl⟩
      · exact .inr (List.mem_cons_of_mem _ he)
    | succ i =>
      simp only [setEntry, List.mem_cons] at he
      rcases he with rfl | he
      · exact .inr (List.mem_cons_self ..)
      · rcases ih i k v e' he with h | h
        · exact .inl h
        · exact .inr (List.mem_cons_of_mem _ h)

theorem mapUpdateE_sound {t : TypeId} {m k v : SV} {h' : Hp} (hq : mapUpdateE P h t m k v = some h') (hr : Rep Γ X w0 θ K h w) (hk : k.ok K) (hv : v.ok K) :
    ∃ w', (Instr.mapUpdate t (conc θ m) (conc θ k) (conc θ v)).run P w = .ok () w' ∧ Rep Γ X w0 θ K h' w' := by
  unfold mapUpdateE at hq
  split at hq
  · rename_i kt et b kv hu hkv
    have hkc := toLit_conc θ _ _ hkv
    split at hq
    · rename_i es c hb
      obtain ⟨hg, hs⟩ := hr.map (P := P) hb
      have hok := hr.okAll b _ hb
      split at hq
      · rename_i i v' hck hfd
        split at hq
        · rename_i old hold
          cases hsb : Instr.sameBits 10000 old kv with
          | false => rw [hsb] at hq; cases hq
          | true =>
            rw [hsb] at hq
            simp only [cond_true, Option.some.injEq] at hq; subst hq
            obtain ⟨d, hd⟩ := checkKey_type hck
            have hfk := findKey_eq (θ := θ) (w := w) hd hfd
            simp only [Option.bind_eq_some_iff] at hold
            obtain ⟨e, he, hel⟩ := hold
            have hek := toLit_conc θ _ _ hel
            refine ⟨setB w (θ.blk b) (.map ((setEntry es i k v).map (entryC θ)).toArray c), ?_, hr.turn (o' := .map (setEntry es i k v) c) hb (fun e' he' => ?_) rfl⟩
            · have hget : (((es.map (entryC θ)).toArray[i]?).map (·.key)).getD kv = old := by
                rw [List.getElem?_toArray, List.getElem?_map, he]
                exact hek
              have hmod : (es.map (entryC θ)).toArray.modify i (fun e => { e with key := kv, val := conc θ v }) = ((setEntry es i k v).map (entryC θ)).toArray := by
                rw [setEntry_map, hkc, ← Array.toList_inj]
                simp
              simp only [Instr.mapUpdate, conc, Sem.run_bind, r_underlying hu w, Result.andThen, hg, hkc, pureRun_sound _ _ hck w, hfk, Option.map_some, hget, Instr.keyThatStays, hsb, if_true, Sem.run_pure, hmod, hs]
            · rcases setEntry_mem es i k v e' he' with ⟨rfl, rfl⟩ | hm
              · exact ⟨hk, hv⟩
              · exact hok e' hm
        · cases hq
      · rename_i hck hfd
        simp only [Option.some.injEq] at hq; subst hq
        obtain ⟨d, hd⟩ := checkKey_type hck
        have hfk := findKey_eq (θ := θ) (w := w) hd hfd
        refine ⟨setB w (θ.blk b) (.map ((es ++ [(k, v, c)]).map (entryC θ)).toArray (c + 1)), ?_, hr.turn (o' := .map (es ++ [(k, v, c)]) (c + 1)) hb (fun e' he' => ?_) rfl⟩
        · have hp : (es.map (entryC θ)).toArray.push ⟨kv, conc θ v, c⟩ = ((es ++ [(k, v, c)]).map (entryC θ)).toArray := by
            rw [← Array.toList_inj]
            simp [entryC, hkc]
          simp only [Instr.mapUpdate, conc, Sem.run_bind, r_underlying hu w, Result.andThen, hg, hkc, pureRun_sound _ _ hck w, hfk, Option.map_none, hp, hs]
        · rcases List.mem_append.1 he' with hm | hm
          · exact hok e' hm
          · rw [List.mem_singleton.1 hm]; exact ⟨hk, hv⟩
      · cases hq
    · cases hq
  · cases hq

theorem map_eraseIdx {α β : Type} (f : α → β) : ∀ (l : List α) (i : Nat), (l.map f).eraseIdx i = (l.eraseIdx i).map f
  | [], _ => rfl
  | _ :: _, 0 => rfl
  | a :: l, i + 1 => by simp only [List.map_cons, List.eraseIdx_cons_succ, map_eraseIdx f l i]

theorem deleteE_sound {tys : Array TypeId} {ty t : TypeId} {args : Array Value} {m k : SV} {h' : Hp} (hq : deleteE P h t m k = some h') (hr : Rep Γ X w0 θ K h w)
    (ht : tys[0]? = some t) (ha : args[0]? = some (conc θ m)) (hb' : args[1]? = some (conc θ k)) :
    ∃ w', (Builtin.delete_ tys ty args).run P w = .ok (.tuple #[]) w' ∧ Rep Γ X w0 θ K h' w' := by
  unfold deleteE at hq
  split at hq
  · rename_i kt et kv hu hkv
    have hkc := toLit_conc θ _ _ hkv
    split at hq
    · rename_i hck
      simp only [Option.some.injEq] at hq; subst hq
      exact ⟨w, by simp only [Builtin.delete_, ht, ha, hb', conc, Sem.run_bind, r_underlying hu w, Result.andThen, hkc, pureRun_sound _ _ hck w, Sem.run_pure], hr⟩
    · cases hq
  · rename_i kt et b kv hu hkv
    have hkc := toLit_conc θ _ _ hkv
    split at hq
    · rename_i es c hb
      obtain ⟨hg, hs⟩ := hr.map (P := P) hb
      have hok := hr.okAll b _ hb
      have hemp : (es.map (entryC θ)).toArray.isEmpty = es.isEmpty := by cases es <;> rfl
      split at hq
      · rename_i i v' hck hfd
        simp only [Option.some.injEq] at hq; subst hq
        obtain ⟨d, hd⟩ := checkKey_type hck
        have hfk := findKey_eq (θ := θ) (w := w) hd hfd
        refine ⟨setB w (θ.blk b) (.map ((es.eraseIdx i).map (entryC θ)).toArray c), ?_, hr.turn (o' := .map (es.eraseIdx i) c) hb (fun e' he' => hok e' (List.mem_of_mem_eraseIdx he')) rfl⟩
        have he : (es.map (entryC θ)).toArray.eraseIdxIfInBounds i = ((es.eraseIdx i).map (entryC θ)).toArray := by
          rw [← Array.toList_inj]
          simp [map_eraseIdx]
        simp only [Builtin.delete_, ht, ha, hb', conc, Sem.run_bind, r_underlying hu w, Result.andThen, hg, hkc, hemp, pureRun_sound _ _ hck w, hfk, Option.map_some, he, hs, Sem.run_pure]
      · rename_i hck hfd
        simp only [Option.some.injEq] at hq; subst hq
        obtain ⟨d, hd⟩ := checkKey_type hck
        have hfk := findKey_eq (θ := θ) (w := w) hd hfd
        refine ⟨setB w (θ.blk b) (.map (es.map (entryC θ)).toArray c), ?_, hr.turn (o' := .map es c) hb hok rfl⟩
        simp only [Builtin.delete_, ht, ha, hb', conc, Sem.run_bind, r_underlying hu w, Result.andThen, hg, hkc, hemp, pureRun_sound _ _ hck w, hfk, Option.map_none, hs, Sem.run_pure]
      · cases hq
    · cases hq
  · cases hq

/-! ### clear -/
theorem clear_slice {tys : Array TypeId} {ty t e : TypeId} {args : Array Value} {b off n c : Nat} {z : Value} {h' : Hp} (hr : Rep Γ X w0 θ K h w) (hu : tyU P t = some (.slice e)) (hz : tyZero P e = some z) (hn : n ≠ 0)
    (ht : tys[0]? = some t) (ha : args[0]? = some (.slice (some ⟨θ.blk b, off, none⟩) n c))
    (hq : (match h.objs.get b with
       | some (.cells l e') => (splice l off (repeatL (SV.cells (.lit z)) n)).map fun l' => h.upd b (.cells l' e')
       | some (.row l e' k cv s) => (splice l off (repeatL (SV.cells (.lit z)) n)).map fun l' => h.upd b (.row l' e' k cv s)
       | _ => none) = some h') :
    ∃ w', (Builtin.clear_ tys ty args).run P w = .ok (.tuple #[]) w' ∧ Rep Γ X w0 θ K h' w' := by
  have hz' : (Builtin.zeroCells z.cells n).toList = concL θ (repeatL (SV.cells (.lit z)) n) := by
    have := zeros_eq (θ := θ) z n (n * z.cells.size) rfl
    unfold Builtin.zeroCells
    rw [this]
  have hrok : SV.okL K (repeatL (SV.cells (.lit z)) n) := repeatL_ok (cells_ok (v := .lit z) trivial) n
  obtain ⟨n', rfl⟩ : ∃ n', n = n' + 1 := ⟨n - 1, by omega⟩
  split at hq
  · rename_i l e' hb
    rw [Option.map_eq_some_iff] at hq
    obtain ⟨l', hs, rfl⟩ := hq
    obtain ⟨o', w', ho', _, hrun, hrep⟩ := storeCells_rep (P := P) hr hb hs hrok (.inl ⟨e', rfl⟩)
    rw [ho' e' rfl] at hrep
    refine ⟨w', ?_, hrep⟩
    simp only [Builtin.clear_, ht, ha, Sem.run_bind, r_underlying hu w, Result.andThen, r_zeroValue hz w, hz', hrun, Sem.run_pure]
  · rename_i l e' k cv s hb
    rw [Option.map_eq_some_iff] at hq
    obtain ⟨l', hs, rfl⟩ := hq
    obtain ⟨o', w', _, ho', hrun, hrep⟩ := storeCells_rep (P := P) hr hb hs hrok (.inr ⟨e', k, cv, s, rfl⟩)
    rw [ho' e' k cv s rfl] at hrep
    refine ⟨w', ?_, hrep⟩
    simp only [Builtin.clear_, ht, ha, Sem.run_bind, r_underlying hu w, Result.andThen, r_zeroValue hz w, hz', hrun, Sem.run_pure]
  · cases hq

theorem clearE_sound {tys : Array TypeId} {ty t : TypeId} {args : Array Value} {x : SV} {h' : Hp} (hq : clearE P h t x = some h') (hr : Rep Γ X w0 θ K h w) (ht : tys[0]? = some t) (ha : args[0]? = some (conc θ x)) :
    ∃ w', (Builtin.clear_ tys ty args).run P w = .ok (.tuple #[]) w' ∧ Rep Γ X w0 θ K h' w' := by
  unfold clearE at hq
  split at hq
  · rename_i e a c hu
    simp only [Option.some.injEq] at hq; subst hq
    exact ⟨w, by simp only [Builtin.clear_, ht, ha, conc, Sem.run_bind, r_underlying hu w, Result.andThen, Sem.run_pure], hr⟩
  · rename_i e b off n c hu
    split at hq
    · rename_i hn
      have := eq_of_beq hn
      subst this
      simp only [Option.some.injEq] at hq; subst hq
      exact ⟨w, by simp only [Builtin.clear_, ht, ha, conc, Sem.run_bind, r_underlying hu w, Result.andThen, Sem.run_pure], hr⟩
    · rename_i z hz hn
      exact clear_slice hr hu hz (ne_of_beq hn) ht ha hq
    · cases hq
  · rename_i e b off n k cv hu
    split at hq
    · rename_i hn
      have := eq_of_beq hn
      subst this
      simp only [Option.some.injEq] at hq; subst hq
      exact ⟨w, by simp only [Builtin.clear_, ht, ha, conc, Sem.run_bind, r_underlying hu w, Result.andThen, Sem.run_pure], hr⟩
    · rename_i z hz hn
      exact clear_slice hr hu hz (ne_of_beq hn) ht ha hq
    · cases hq
  · cases hq

/-! ### range, next -/
theorem rangeE_sound {t : TypeId} {x : SV} {r : SV × Hp} (hq : rangeE P h t x = some r) (hr : Rep Γ X w0 θ K h w) :
    ∃ θ' K' w', Ext K θ θ' ∧ (∀ i, K i → K' i) ∧ (∀ i, K' i → K i ∨ h.next ≤ i) ∧ (Instr.range t (conc θ x)).run P w = .ok (conc θ' r.1) w' ∧ r.1.ok K' ∧ Rep Γ X w0 θ' K' r.2 w' := by
  have hnk := hr.next h.next (Nat.le_refl _)
  unfold rangeE at hq
  split at hq
  · rename_i s hu
    simp only [Option.some.injEq] at hq; subst hq
    refine ⟨_, _, _, Ren.bind_ext (n := w.heap.size) (c := 0) hnk, also_mono, also_fresh, ?_, .inr rfl, hr.make_next (w' := w.alloc (.stringIter s 0)) (ob := .stringIter s 0) rfl rfl rfl rfl trivial rfl⟩
    simp only [Instr.range, conc, Sem.run_bind, r_underlying hu w, Result.andThen, Sem.run_pure, run_newObj, World.alloc_eq, Hp.new, Ren.bind_blk]
  · rename_i k e hu
    simp only [Option.some.injEq] at hq; subst hq
    refine ⟨_, _, _, Ren.bind_ext (n := w.heap.size) (c := 0) hnk, also_mono, also_fresh, ?_, .inr rfl, hr.make_next (w' := w.alloc (.mapIter none 0 #[] 0)) (ob := .mapIter none 0 #[] 0) rfl rfl rfl rfl (fun b hb => by cases hb) rfl⟩
    simp only [Instr.range, conc, Sem.run_bind, r_underlying hu w, Result.andThen, Sem.run_pure, run_newObj, World.alloc_eq, Hp.new, Ren.bind_blk]
  · rename_i k e b hu
    split at hq
    · rename_i es c hb
      simp only [Option.some.injEq] at hq; subst hq
      obtain ⟨hg, _⟩ := hr.map (P := P) hb
      have hKb := (hr.obj b _ hb).1
      refine ⟨_, _, _, Ren.bind_ext (n := w.heap.size) (c := 0) hnk, also_mono, also_fresh, ?_, .inr rfl, hr.make_next (w' := w.alloc (.mapIter (some (θ.blk b)) c #[] c)) (ob := .mapIter (some (θ.blk b)) c #[] c) rfl rfl rfl rfl (fun b' hb' => by cases hb'; exact .inl hKb) ?_⟩
      · simp only [Instr.range, conc, Sem.run_bind, r_underlying hu w, Result.andThen, hg, Sem.run_pure, run_newObj, World.alloc_eq, Hp.new, Ren.bind_blk]
      · simp only [ORep, Option.map_some, (Ren.bind_ext (n := w.heap.size) (c := 0) hnk).blk b hKb]
    · cases hq
  · cases hq

theorem Rep.other {b : Nat} {o : AObj} (hr : Rep Γ X w0 θ K h w) (hb : h.objs.get b = some o) {ob : Obj} (hw : w.heap[θ.blk b]? = some ob) (hc : ∀ c e f, ob ≠ .cells c e f) :
    (getObj (θ.blk b)).run P w = .ok ob w ∧ ∀ ob', (setObj (θ.blk b) ob').run P w = .ok () (setB w (θ.blk b) ob') := by
  have _ := hr.obj b o hb
  constructor
  · cases ob <;> first | (exact absurd rfl (hc _ _ _)) | (simp only [getObj, Sem.run, hw])
  · intro ob'
    cases ob <;> first | (exact absurd rfl (hc _ _ _)) | (simp only [setObj, Sem.run, hw]; rfl)

theorem nextE_sound {it : SV} {isS : Bool} {ty : TypeId} {outs : List (SV × Hp)} (hq : nextE h it isS = some outs) (hr : Rep Γ X w0 θ K h w) :
    ∃ r ∈ outs, ∃ w', (Instr.next (conc θ it) isS ty).run P w = .ok (conc θ r.1) w' ∧ r.1.ok K ∧ Rep Γ X w0 θ K r.2 w' := by
  unfold nextE at hq
  split at hq
  · rename_i b
    split at hq
    · rename_i s pos hb
      obtain ⟨_, _, _, ob, hw, hO⟩ := hr.obj b _ hb
      simp only [ORep] at hO
      subst hO
      obtain ⟨hg, hs⟩ := hr.other (P := P) hb hw (fun _ _ _ he => by cases he)
      cases hlt : Nat.blt pos s.size with
      | true =>
        rw [hlt] at hq
        have hp := lt_of_blt hlt
        simp only [cond_true, Option.some.injEq] at hq; subst hq
        refine ⟨_, List.mem_singleton.2 rfl, _, ?_, ⟨trivial, trivial, trivial, trivial⟩, hr.turn (o' := .strIter s (pos + (Utf8.decode s pos).2)) (ob' := .stringIter s (pos + (Utf8.decode s pos).2)) hb trivial rfl⟩
        simp only [Instr.next, conc, Sem.run_bind, hg, Result.andThen, hp, if_true, hs, Sem.run_pure]
        rfl
      | false =>
        rw [hlt] at hq
        have hp : ¬ pos < s.size := fun hp => by
          have : Nat.blt pos s.size = true := Nat.ble_eq_true_of_le hp
          rw [this] at hlt; cases hlt
        simp only [cond_false, Option.some.injEq] at hq; subst hq
        refine ⟨_, List.mem_singleton.2 rfl, w, ?_, ⟨trivial, trivial⟩, hr⟩
        simp only [Instr.next, conc, Sem.run_bind, hg, Result.andThen, hp, if_false, Sem.run_pure]
        rfl
    · cases hq
  · rename_i b
    split at hq
    · rename_i s1 s2 s3 hb
      obtain ⟨_, _, _, ob, hw, hO⟩ := hr.obj b _ hb
      simp only [ORep] at hO
      subst hO
      obtain ⟨hg, _⟩ := hr.other (P := P) hb hw (fun _ _ _ he => by cases he)
      simp only [Option.some.injEq] at hq; subst hq
      refine ⟨_, List.mem_singleton.2 rfl, w, ?_, ⟨trivial, trivial⟩, hr⟩
      simp only [Instr.next, conc, Sem.run_bind, hg, Option.map_none, Result.andThen, Sem.run_pure]
      rfl
    · rename_i m since seen last hb
      split at hq
      · rename_i es clock hm
        obtain ⟨_, _, hbok, ob, hw, hO⟩ := hr.obj b _ hb
        simp only [ORep, Option.map_some] at hO
        subst hO
        obtain ⟨hg, hs⟩ := hr.other (P := P) hb hw (fun _ _ _ he => by cases he)
        obtain ⟨hgm, _⟩ := hr.map (P := P) hm
        have hmok := hr.okAll m _ hm
        have hc1 : (!seen.toArray.isEmpty && !(es.map (entryC θ)).toArray.isEmpty && (es.map (entryC θ)).toArray.all (fun e => decide (e.born ≥ last))) = (!seen.isEmpty && !es.isEmpty && es.all fun e => Nat.ble last e.2.2) := by
          have a1 : seen.toArray.isEmpty = seen.isEmpty := by cases seen <;> rfl
          have a2 : (es.map (entryC θ)).toArray.isEmpty = es.isEmpty := by cases es <;> rfl
          have a3 : (es.map (entryC θ)).toArray.all (fun e => decide (e.born ≥ last)) = es.all fun e => Nat.ble last e.2.2 := by
            rw [List.all_toArray, List.all_map]
            congr 1
            funext e
            show decide (e.2.2 ≥ last) = Nat.ble last e.2.2
            cases hle : Nat.ble last e.2.2 with
            | true => exact decide_eq_true (le_of_ble hle)
            | false => exact decide_eq_false fun hge => by rw [Nat.ble_eq_true_of_le hge] at hle; cases hle
          rw [a1, a2, a3]
        cases hcc : (!seen.isEmpty && !es.isEmpty && es.all fun e => Nat.ble last e.2.2) with
        | true => rw [hcc] at hq; cases hq
        | false =>
          rw [hcc] at hq
          rw [hcc] at hc1
          simp only [cond_false] at hq
          cases hall : es.all fun e => Nat.blt e.2.2 since with
          | false => rw [hall] at hq; cases hq
          | true =>
            rw [hall] at hq
            simp only [cond_true] at hq
            have hborn : ∀ e ∈ es, e.2.2 < since := fun e he => lt_of_blt (List.all_eq_true.1 hall e he)
            have hleft : (es.map (entryC θ)).toArray.filter (fun e => !seen.toArray.contains e.born) = ((leftOf es seen).map (entryC θ)).toArray := by
              rw [← Array.toList_inj]
              simp only [Array.toList_filter, leftOf, List.filter_map]
              congr 2
              funext e
              simp [Function.comp, entryC]
            have hold : ((leftOf es seen).map (entryC θ)).toArray.filter (fun e => decide (e.born < since)) = ((leftOf es seen).map (entryC θ)).toArray := by
              rw [← Array.toList_inj]
              simp only [Array.toList_filter]
              rw [List.filter_eq_self]
              intro e he
              obtain ⟨x, hx, rfl⟩ := List.mem_map.1 he
              exact decide_eq_true (hborn x (List.mem_filter.1 hx).1)
            have hnew : ((leftOf es seen).map (entryC θ)).toArray.filter (fun e => decide (e.born ≥ since)) = #[] := by
              rw [← Array.toList_inj]
              simp only [Array.toList_filter]
              rw [List.filter_eq_nil_iff]
              intro e he
              obtain ⟨x, hx, rfl⟩ := List.mem_map.1 he
              have := hborn x (List.mem_filter.1 hx).1
              intro hd
              have hge : (entryC θ x).born ≥ since := of_decide_eq_true hd
              have : x.2.2 ≥ since := hge
              omega
            cases hL : leftOf es seen with
            | nil =>
              rw [hL] at hq hleft hold hnew
              simp only [Option.some.injEq] at hq; subst hq
              refine ⟨_, List.mem_singleton.2 rfl, w, ?_, ⟨trivial, trivial⟩, hr⟩
              simp only [Instr.next, conc, Sem.run_bind, hg, Result.andThen, hgm, hc1, Bool.false_eq_true, if_false, hleft, List.map_nil]
              simp [Question.forced]
              rfl
            | cons e0 rest =>
              rw [hL] at hq hleft hold hnew
              simp only [Option.some.injEq] at hq; subst hq
              have hcand : ((if ((e0 :: rest).map (entryC θ)).toArray.isEmpty then (#[none] : Array (Option MapEntry)) else #[]) ++ (((e0 :: rest).map (entryC θ)).toArray ++ #[]).map some) = ((e0 :: rest).map fun e => some (entryC θ e)).toArray := by
                rw [← Array.toList_inj]
                simp [Function.comp]
              have hpick : ∃ (k : Nat) (w1 : World), (choose (.mapNext ((e0 :: rest).map fun e => some (entryC θ e)).toArray.size)).run P w = .ok k w1 ∧ k < (e0 :: rest).length ∧ w1.os = w.os ∧ w1.tape = w.tape ∧ w1.output = w.output ∧ w1.heap = w.heap := by
                simp only [run_choose]
                split
                · exact ⟨0, w, rfl, by simp, rfl, rfl, rfl, rfl⟩
                · refine ⟨_, _, rfl, ?_, rfl, rfl, rfl, rfl⟩
                  simp only [Question.cut, List.size_toArray, List.length_map]
                  exact Nat.mod_lt _ (by simp)
              obtain ⟨k, w1, hch, hk, g1, g2, g3, g4⟩ := hpick
              have hr1 : Rep Γ X w0 θ K h w1 := hr.same g1 g2 g3 g4
              have hw1 : w1.heap[θ.blk b]? = some (.mapIter (some (θ.blk m)) since seen.toArray last) := by rw [g4]; exact hw
              obtain ⟨_, hs1⟩ := hr1.other (P := P) hb hw1 (fun _ _ _ he => by cases he)
              have hek : (e0 :: rest)[k]? = some (e0 :: rest)[k] := List.getElem?_eq_getElem hk
              have hmem : (e0 :: rest)[k] ∈ e0 :: rest := List.getElem_mem hk
              have hin : (e0 :: rest)[k] ∈ es := (List.mem_filter.1 (show (e0 :: rest)[k] ∈ leftOf es seen by rw [hL]; exact hmem)).1
              have hcg : (((e0 :: rest).map fun e => some (entryC θ e)).toArray)[k]? = some (some (entryC θ (e0 :: rest)[k])) := by
                rw [List.getElem?_toArray, List.getElem?_map, hek]; rfl
              generalize (e0 :: rest)[k] = e at *
              refine ⟨_, List.mem_map.2 ⟨e, hmem, rfl⟩, _, ?_, ⟨trivial, (hmok e hin).1, (hmok e hin).2, trivial⟩, hr1.turn (o' := .mapIter (some m) since (seen ++ [e.2.2]) clock) (ob' := .mapIter (some (θ.blk m)) since (seen ++ [e.2.2]).toArray clock) hb hbok rfl⟩
              simp only [Instr.next, conc, Sem.run_bind, hg, Result.andThen, hgm, hc1, Bool.false_eq_true, if_false, hleft, hold, hnew, hcand, hch, hcg]
              have hpush : seen.toArray.push (entryC θ e).born = (seen ++ [e.2.2]).toArray := by simp [entryC]
              simp only [hpush, hs1, Sem.run_pure]
              rfl
      · cases hq
    · cases hq
  · cases hq
end
end Go.Proofs.YthjkejnmjbljfaaGreatDoor.Ev
