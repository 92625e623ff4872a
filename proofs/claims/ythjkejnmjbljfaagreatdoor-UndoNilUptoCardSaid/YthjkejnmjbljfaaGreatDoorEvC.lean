/-
  THE EVALUATOR'S QUIET OPERATIONS ARE THE MODEL'S, by the author of this claim: each operation that leaves memory as it is yields what the evaluator says, in every world in which the facts hold on which it leans. Of any program; no condition.
-/
import Derived.Test.YthjkejnmjbljfaaGreatDoorEvB
import Derived.Laws.Cells
namespace Go.Proofs.YthjkejnmjbljfaaGreatDoor.Ev
open Go Go.RowKit

section
variable {P : Program} {Γ : Env} {θ : Ren} {w : World}

theorem pureRun_sound {α : Type} (s : Sem α) : ∀ (a : α), pureRun P s = some a → ∀ w : World, s.run P w = .ok a w := by
  induction s with
  | pure a => intro b h w; simp only [pureRun, Option.some.injEq] at h; subst h; rfl
  | program k ih => intro b h w; exact ih P b h w
  | mark m k ih => intro b h w; exact ih b h w
  | _ => intro b h; cases h

theorem r_underlying {t : TypeId} {d : TypeDesc} (h : tyU P t = some d) (w : World) : (underlying t).run P w = .ok d w := run_underlying h w
theorem r_typeInfo {t : TypeId} {i : TypeInfo} (h : P.info? t = some i) (w : World) : (typeInfo t).run P w = .ok i w := by
  simp only [typeInfo, Sem.run_bind, run_program, Result.andThen, h, Sem.run_pure]
theorem r_sizeOf {t : TypeId} {n : Nat} (h : tySize P t = some n) (w : World) : (sizeOf t).run P w = .ok n w := by
  simp only [tySize, Option.map_eq_some_iff] at h
  obtain ⟨i, hi, rfl⟩ := h
  simp only [sizeOf, Sem.run_bind, r_typeInfo hi w, Result.andThen, Sem.run_pure]
theorem r_zeroValue {t : TypeId} {z : Value} (h : tyZero P t = some z) (w : World) : (zeroValue t).run P w = .ok z w := by
  simp only [tyZero, Option.bind_eq_some_iff] at h
  obtain ⟨i, hi, hz⟩ := h
  simp only [zeroValue, Sem.run_bind, r_typeInfo hi w, Result.andThen, hz, Sem.run_pure]
theorem r_isAgg {t : TypeId} {b : Bool} (h : tyAgg P t = some b) (w : World) : (isAgg t).run P w = .ok b w := by
  unfold tyAgg at h
  unfold isAgg
  cases hu : P.underlying t with
  | none => rw [hu] at h; cases h
  | some d =>
    rw [hu] at h
    simp only [Sem.run_bind, r_underlying hu w, Result.andThen]
    cases d <;> simp only [Option.some.injEq] at h <;> subst h <;> rfl

theorem add_none (b off i : Nat) : (⟨b, off, none⟩ : Addr).add i = ⟨b, off + i, none⟩ := by
  unfold Addr.add
  split
  · rename_i h; subst h; rfl
  · rfl

/-! ### facts -/
def FactW (θ : Ren) (w : World) : Fact → Prop
  | .cells b off vs => ∀ i v, vs[i]? = some v → w.cell? ⟨θ.blk b, off + i, none⟩ = some (conc θ v)
  | .obj b o => ∃ ob, w.heap[θ.blk b]? = some ob ∧ ORep θ o ob

def FactA (h : Hp) : Fact → Prop
  | .cells b off vs => (knownCells h b).bind (cut · off vs.length) = some vs
  | .obj b o => h.objs.get b = some o

def GlobW (Γ : Glob) (w : World) : Prop := ∀ g cs, Γ.get g = some cs → ∃ e fr, w.heap[g]? = some (.cells cs.toArray e fr)

theorem Rep.globW {X : Nat → Prop} {w0 : World} {K : Nat → Prop} {h : Hp} (hr : Rep Γ X w0 θ K h w) : GlobW Γ w := fun g cs hg => by
  obtain ⟨hx, e, fr, hw⟩ := hr.glob g cs hg
  exact ⟨e, fr, (hr.kept g hx).trans hw⟩

theorem cut_spec {l vs : List SV} {off n : Nat} (h : cut l off n = some vs) : vs = (l.drop off).take n ∧ vs.length = n := by
  unfold cut at h
  cases e : Nat.beq ((l.drop off).take n).length n with
  | false => simp only [e, cond_false] at h; cases h
  | true =>
    simp only [e, cond_true, Option.some.injEq] at h
    subst h
    exact ⟨rfl, eq_of_beq e⟩
theorem cut_get {l vs : List SV} {off n : Nat} (h : cut l off n = some vs) {i : Nat} {v : SV} (hv : vs[i]? = some v) : l[off + i]? = some v := by
  obtain ⟨rfl, hl⟩ := cut_spec h
  have hi : i < n := by
    have := (List.getElem?_eq_some_iff.1 hv).1
    omega
  rw [List.getElem?_take_of_lt hi, List.getElem?_drop] at hv
  exact hv
theorem cut_mem {l vs : List SV} {off n : Nat} (h : cut l off n = some vs) {v : SV} (hv : v ∈ vs) : v ∈ l := by
  obtain ⟨rfl, _⟩ := cut_spec h
  exact List.mem_of_mem_drop (List.mem_of_mem_take hv)

/-- A known cell of a block. -/
theorem ORep.cell {o : AObj} {ob : Obj} {l : List SV} (hr : ORep θ o ob) (hl : (∃ e, o = .cells l e) ∨ (∃ e k cv s, o = .row l e k cv s)) {b : Nat} (hb : w.heap[b]? = some ob) {i : Nat} {v : SV} (hv : l[i]? = some v) :
    w.cell? ⟨b, i, none⟩ = some (conc θ v) ∧ w.frozen? ⟨b, i, none⟩ = false := by
  have hi := (List.getElem?_eq_some_iff.1 hv).1
  rcases hl with ⟨e, rfl⟩ | ⟨e, k, cv, s, rfl⟩
  · obtain ⟨fr, rfl, hf⟩ := hr
    refine ⟨?_, ?_⟩
    · simp only [World.cell?, hb, Option.isSome_none, Bool.false_eq_true, if_false]
      rw [List.getElem?_toArray, concL_get, hv]; rfl
    · simp only [World.frozen?, hb]
      have := hf.at i hi
      simpa using this
  · obtain ⟨fr, ex, rfl, hf, _⟩ := hr
    refine ⟨?_, ?_⟩
    · simp only [World.cell?, hb, Option.isSome_none, Bool.false_eq_true, if_false]
      rw [List.getElem?_toArray, List.getElem?_append_left (by rw [concL_length]; exact hi), concL_get, hv]; rfl
    · simp only [World.frozen?, hb]
      have := hf.at i (by omega)
      simpa using this

theorem known_obj {h : Hp} {b : Nat} {l : List SV} (hk : knownCells h b = some l) : ∃ o, h.objs.get b = some o ∧ ((∃ e, o = .cells l e) ∨ (∃ e k cv s, o = .row l e k cv s)) := by
  unfold knownCells at hk
  cases e : h.objs.get b with
  | none => rw [e] at hk; cases hk
  | some o =>
    rw [e] at hk
    cases o <;> simp only [Option.some.injEq] at hk <;> first | (subst hk; exact ⟨_, rfl, .inl ⟨_, rfl⟩⟩) | (subst hk; exact ⟨_, rfl, .inr ⟨_, _, _, _, rfl⟩⟩) | cases hk

theorem Rep.fact {X : Nat → Prop} {w0 : World} {K : Nat → Prop} {h : Hp} (hr : Rep Γ X w0 θ K h w) {f : Fact} (hf : FactA h f) : FactW θ w f := by
  cases f with
  | cells b off vs =>
    intro i v hv
    simp only [FactA, Option.bind_eq_some_iff] at hf
    obtain ⟨l, hl, hc⟩ := hf
    obtain ⟨o, ho, hcase⟩ := known_obj hl
    obtain ⟨_, _, _, ob, hw, hO⟩ := hr.obj b o ho
    exact (hO.cell hcase hw (cut_get hc hv)).1
  | obj b o =>
    obtain ⟨_, _, _, ob, hw, hO⟩ := hr.obj b o hf
    exact ⟨ob, hw, hO⟩

theorem readCells_sound {h : Hp} {p : SV} {n : Nat} {vs : List SV} {fs : List Fact} (hq : readCells Γ h p n = some (vs, fs)) (hg : GlobW Γ w) (hf : ∀ f ∈ fs, FactW θ w f) :
    ∃ a : Addr, conc θ p = .pointer (some a) ∧ vs.length = n ∧ ∀ (i : Nat) (v : SV), vs[i]? = some v → w.cell? (a.add i) = some (conc θ v) := by
  unfold readCells at hq
  split at hq
  · rename_i b off
    split at hq
    · rename_i us hus
      simp only [Option.some.injEq, Prod.mk.injEq] at hq
      obtain ⟨rfl, rfl⟩ := hq
      simp only [Option.bind_eq_some_iff] at hus
      obtain ⟨l, _, hc⟩ := hus
      refine ⟨⟨θ.blk b, off, none⟩, rfl, (cut_spec hc).2, fun i v hv => ?_⟩
      rw [add_none]
      exact hf _ (List.mem_singleton.2 rfl) i v hv
    · cases hq
  · rename_i g off
    split at hq
    · rename_i us hus
      simp only [Option.some.injEq, Prod.mk.injEq] at hq
      obtain ⟨rfl, rfl⟩ := hq
      simp only [Option.bind_eq_some_iff] at hus
      obtain ⟨cs, hcs, hc⟩ := hus
      refine ⟨⟨g, off, none⟩, rfl, (cut_spec hc).2, fun i v hv => ?_⟩
      rw [add_none]
      have h1 := cut_get hc hv
      obtain ⟨e, fr, hw⟩ := hg g cs hcs
      rw [List.getElem?_map, Option.map_eq_some_iff] at h1
      obtain ⟨x, hx, rfl⟩ := h1
      simp only [World.cell?, hw, Option.isSome_none, Bool.false_eq_true, if_false, List.getElem?_toArray, hx]
      rfl
    · cases hq
  · cases hq

theorem readCells_loads {h : Hp} {p : SV} {n : Nat} {vs : List SV} {fs : List Fact} (hq : readCells Γ h p n = some (vs, fs)) (hg : GlobW Γ w) (hf : ∀ f ∈ fs, FactW θ w f) :
    ∃ a : Addr, conc θ p = .pointer (some a) ∧ (loadCells a n).run P w = .ok (concL θ vs).toArray w := by
  obtain ⟨a, ha, hl, hc⟩ := readCells_sound hq hg hf
  refine ⟨a, ha, ?_⟩
  have := run_loadCells_list (P := P) w a (concL θ vs) (fun j v hv => by
    rw [concL_get, Option.map_eq_some_iff] at hv
    obtain ⟨x, hx, rfl⟩ := hv
    exact hc j x hx)
  rw [concL_length, hl] at this
  exact this

theorem readCells_ok {K : Nat → Prop} {h : Hp} {p : SV} {n : Nat} {vs : List SV} {fs : List Fact} (hq : readCells Γ h p n = some (vs, fs)) (hh : ∀ b o, h.objs.get b = some o → o.ok K) : SV.okL K vs := by
  unfold readCells at hq
  split at hq
  · split at hq
    · rename_i us hus
      simp only [Option.some.injEq, Prod.mk.injEq] at hq
      obtain ⟨rfl, rfl⟩ := hq
      simp only [Option.bind_eq_some_iff] at hus
      obtain ⟨l, hl, hc⟩ := hus
      obtain ⟨o, ho, hcase⟩ := known_obj hl
      have := hh _ o ho
      rcases hcase with ⟨e, rfl⟩ | ⟨e, k, cv, s, rfl⟩
      · exact okL_sub this fun v hv => cut_mem hc hv
      · exact okL_sub this.1 fun v hv => cut_mem hc hv
    · cases hq
  · split at hq
    · rename_i us hus
      simp only [Option.some.injEq, Prod.mk.injEq] at hq
      obtain ⟨rfl, rfl⟩ := hq
      simp only [Option.bind_eq_some_iff] at hus
      obtain ⟨cs, _, hc⟩ := hus
      exact okL_sub (okL_lits K cs) fun v hv => cut_mem hc hv
    · cases hq
  · cases hq

theorem readCells_facts {h : Hp} {p : SV} {n : Nat} {vs : List SV} {fs : List Fact} (hq : readCells Γ h p n = some (vs, fs)) : ∀ f ∈ fs, FactA h f := by
  unfold readCells at hq
  split at hq
  · split at hq
    · rename_i us hus
      simp only [Option.some.injEq, Prod.mk.injEq] at hq
      obtain ⟨rfl, rfl⟩ := hq
      intro f hf
      rw [List.mem_singleton.1 hf]
      have hl : us.length = n := by
        simp only [Option.bind_eq_some_iff] at hus
        obtain ⟨l, _, hc⟩ := hus
        exact (cut_spec hc).2
      simp only [FactA, hl]
      exact hus
    · cases hq
  · split at hq
    · simp only [Option.some.injEq, Prod.mk.injEq] at hq
      obtain ⟨_, rfl⟩ := hq
      intro f hf; cases hf
    · cases hq
  · cases hq

/-! ### loads -/
theorem loadVar_sound {h : Hp} {t : TypeId} {p v : SV} {fs : List Fact} (hq : loadQ P Γ h t p = some (v, fs)) (hg : GlobW Γ w) (hf : ∀ f ∈ fs, FactW θ w f) :
    ∃ a : Addr, conc θ p = .pointer (some a) ∧ (loadVar t a).run P w = .ok (conc θ v) w := by
  unfold loadQ at hq
  split at hq
  · rename_i hagg
    split at hq
    · rename_i n hn
      split at hq
      · rename_i vs gs hr
        simp only [Option.some.injEq, Prod.mk.injEq] at hq
        obtain ⟨rfl, rfl⟩ := hq
        obtain ⟨a, ha, hl⟩ := readCells_loads (P := P) hr hg hf
        refine ⟨a, ha, ?_⟩
        simp only [loadVar, Sem.run_bind, r_isAgg hagg w, Result.andThen, if_true, r_sizeOf hn w, hl, Sem.run_pure]
        rfl
      · cases hq
    · cases hq
  · rename_i hagg
    split at hq
    · rename_i u gs hr
      simp only [Option.some.injEq, Prod.mk.injEq] at hq
      obtain ⟨rfl, rfl⟩ := hq
      obtain ⟨a, ha, _, hc⟩ := readCells_sound hr hg hf
      refine ⟨a, ha, ?_⟩
      have h0 : w.cell? a = some (conc θ u) := by
        have := hc 0 u rfl
        rwa [show a.add 0 = a by simp [Addr.add]] at this
      simp only [loadVar, Sem.run_bind, r_isAgg hagg w, Result.andThen, Bool.false_eq_true, if_false, run_load, h0]
    · cases hq
  · cases hq
theorem loadQ_sound {h : Hp} {t : TypeId} {p v : SV} {fs : List Fact} (hq : loadQ P Γ h t p = some (v, fs)) (hg : GlobW Γ w) (hf : ∀ f ∈ fs, FactW θ w f) :
    (Instr.loadAt t (conc θ p)).run P w = .ok (conc θ v) w := by
  obtain ⟨a, ha, hl⟩ := loadVar_sound hq hg hf
  rw [ha]
  simp only [Instr.loadAt, Instr.sureAddr, Sem.run_bind, Sem.run_pure, Result.andThen, hl]
theorem loadQ_ok {K : Nat → Prop} {h : Hp} {t : TypeId} {p v : SV} {fs : List Fact} (hq : loadQ P Γ h t p = some (v, fs)) (hh : ∀ b o, h.objs.get b = some o → o.ok K) : v.ok K := by
  unfold loadQ at hq
  split at hq
  · split at hq
    · split at hq
      · rename_i hr
        simp only [Option.some.injEq, Prod.mk.injEq] at hq
        obtain ⟨rfl, rfl⟩ := hq
        exact readCells_ok hr hh
      · cases hq
    · cases hq
  · split at hq
    · rename_i hr
      simp only [Option.some.injEq, Prod.mk.injEq] at hq
      obtain ⟨rfl, rfl⟩ := hq
      exact (readCells_ok hr hh).1
    · cases hq
  · cases hq
theorem loadQ_facts {h : Hp} {t : TypeId} {p v : SV} {fs : List Fact} (hq : loadQ P Γ h t p = some (v, fs)) : ∀ f ∈ fs, FactA h f := by
  unfold loadQ at hq
  split at hq
  · split at hq
    · split at hq
      · rename_i hr
        simp only [Option.some.injEq, Prod.mk.injEq] at hq
        obtain ⟨rfl, rfl⟩ := hq
        exact readCells_facts hr
      · cases hq
    · cases hq
  · split at hq
    · rename_i hr
      simp only [Option.some.injEq, Prod.mk.injEq] at hq
      obtain ⟨rfl, rfl⟩ := hq
      exact readCells_facts hr
    · cases hq
  · cases hq

/-! ### parts, addresses -/
theorem concL_drop_take (l : List SV) (off n : Nat) : concL θ ((l.drop off).take n) = ((concL θ l).drop off).take n := by
  simp only [concL_eq, List.map_take, List.map_drop]

theorem partQ_sound {t : TypeId} {l : List SV} {off : Nat} {v : SV} (hq : partQ P t l off = some v) : (part t (concL θ l).toArray off).run P w = .ok (conc θ v) w := by
  unfold partQ at hq
  split at hq
  · rename_i hagg
    split at hq
    · rename_i n hn
      rw [Option.map_eq_some_iff] at hq
      obtain ⟨vs, hc, rfl⟩ := hq
      simp only [part, Sem.run_bind, r_isAgg hagg w, Result.andThen, if_true, r_sizeOf hn w, Sem.run_pure]
      obtain ⟨rfl, _⟩ := cut_spec hc
      simp only [conc, concL_drop_take]
      congr 2
      rw [← Array.toList_inj]
      simp [List.extract_eq_take_drop]
    · cases hq
  · rename_i hagg
    simp only [part, Sem.run_bind, r_isAgg hagg w, Result.andThen, Bool.false_eq_true, if_false, List.getElem?_toArray, concL_get, hq, Option.map_some, Sem.run_pure]
  · cases hq
theorem partQ_ok {K : Nat → Prop} {t : TypeId} {l : List SV} {off : Nat} {v : SV} (hq : partQ P t l off = some v) (hl : SV.okL K l) : v.ok K := by
  unfold partQ at hq
  split at hq
  · split at hq
    · rw [Option.map_eq_some_iff] at hq
      obtain ⟨vs, hc, rfl⟩ := hq
      exact okL_sub hl fun v hv => cut_mem hc hv
    · cases hq
  · exact (okL_iff _ _).1 hl v (List.mem_of_getElem? hq)
  · cases hq

theorem addrQ_sound {p q : SV} {n : Nat} (hq : addrQ p n = some q) : ∃ a : Addr, conc θ p = .pointer (some a) ∧ conc θ q = .pointer (some (a.add n)) := by
  unfold addrQ at hq
  split at hq
  · rename_i b off
    simp only [Option.some.injEq] at hq; subst hq
    exact ⟨⟨θ.blk b, off, none⟩, rfl, by rw [add_none]; rfl⟩
  · rename_i g off
    simp only [Option.some.injEq] at hq; subst hq
    exact ⟨⟨g, off, none⟩, rfl, by rw [add_none]; rfl⟩
  · cases hq
theorem addrQ_ok {K : Nat → Prop} {p q : SV} {n : Nat} (hq : addrQ p n = some q) (hp : p.ok K) : q.ok K := by
  unfold addrQ at hq
  split at hq
  · simp only [Option.some.injEq] at hq; subst hq; exact hp
  · simp only [Option.some.injEq] at hq; subst hq; trivial
  · cases hq

theorem fieldAddrQ_sound {s : TypeId} {p q : SV} {i : Nat} (hq : fieldAddrQ P s p i = some q) : (Instr.fieldAt s (conc θ p) i).run P w = .ok (conc θ q) w := by
  unfold fieldAddrQ at hq
  split at hq
  · rename_i fields hu
    split at hq
    · rename_i f hf
      split at hq
      · rename_i n hn
        obtain ⟨a, ha, hb⟩ := addrQ_sound (θ := θ) hq
        rw [ha, hb]
        simp only [Instr.fieldAt, Sem.run_bind, r_underlying hu w, Result.andThen, hf, Instr.sureAddr, Sem.run_pure, fieldPlace, r_sizeOf hn w, Nat.succ_ne_zero, if_false]
      · cases hq
    · cases hq
  · cases hq
theorem fieldAddrQ_ok {K : Nat → Prop} {s : TypeId} {p q : SV} {i : Nat} (hq : fieldAddrQ P s p i = some q) (hp : p.ok K) : q.ok K := by
  unfold fieldAddrQ at hq
  split at hq
  · split at hq
    · split at hq
      · exact addrQ_ok hq hp
      · cases hq
    · cases hq
  · cases hq

theorem idxQ_sound {v : SV} {len k : Nat} (h : idxQ v len = some k) : ∃ j, conc θ v = .int j (k : Int) ∧ k < len := by
  unfold idxQ at h
  split at h
  · rename_i j i
    cases e : Nat.blt i len with
    | false => rw [e] at h; cases h
    | true =>
      rw [e] at h
      simp only [cond_true, Option.some.injEq] at h
      subst h
      exact ⟨j, rfl, lt_of_blt e⟩
  · cases h

theorem indexAddrQ_sound {t : TypeId} {x i q : SV} (hq : indexAddrQ P t x i = some q) : (Instr.indexAt t (conc θ x) (conc θ i)).run P w = .ok (conc θ q) w := by
  unfold indexAddrQ at hq
  split at hq
  · rename_i len e hu
    split at hq
    · rename_i s k hs hk
      obtain ⟨j, hj, hlt⟩ := idxQ_sound (θ := θ) hk
      obtain ⟨a, ha, hb⟩ := addrQ_sound (θ := θ) hq
      rw [hj, ha, hb]
      have h0 : (0 : Int) ≤ (k : Int) ∧ (k : Int) < (len : Int) := by omega
      simp only [Instr.indexAt, asIntOf, Sem.run_bind, Sem.run_pure, Result.andThen, r_underlying hu w, Instr.sureAddr, h0, and_self, if_true, r_sizeOf hs w, Int.toNat_natCast]
    · cases hq
  · rename_i e b off len cap hu
    split at hq
    · rename_i s k hs hk
      obtain ⟨j, hj, hlt⟩ := idxQ_sound (θ := θ) hk
      simp only [Option.some.injEq] at hq; subst hq
      rw [hj]
      have h0 : (0 : Int) ≤ (k : Int) ∧ (k : Int) < (len : Int) := by omega
      simp only [Instr.indexAt, asIntOf, conc, Sem.run_bind, Sem.run_pure, Result.andThen, r_underlying hu w, h0, and_self, if_true, r_sizeOf hs w, Int.toNat_natCast, add_none]
    · cases hq
  · rename_i e b off len k cv hu
    split at hq
    · rename_i s k hs hk
      obtain ⟨j, hj, hlt⟩ := idxQ_sound (θ := θ) hk
      simp only [Option.some.injEq] at hq; subst hq
      rw [hj]
      have h0 : (0 : Int) ≤ (k : Int) ∧ (k : Int) < (len : Int) := by omega
      simp only [Instr.indexAt, asIntOf, conc, Sem.run_bind, Sem.run_pure, Result.andThen, r_underlying hu w, h0, and_self, if_true, r_sizeOf hs w, Int.toNat_natCast, add_none]
    · cases hq
  · rename_i e b off len c hu
    split at hq
    · rename_i s k hs hk
      obtain ⟨j, hj, hlt⟩ := idxQ_sound (θ := θ) hk
      simp only [Option.some.injEq] at hq; subst hq
      rw [hj]
      have h0 : (0 : Int) ≤ (k : Int) ∧ (k : Int) < (len : Int) := by omega
      simp only [Instr.indexAt, asIntOf, conc, Sem.run_bind, Sem.run_pure, Result.andThen, r_underlying hu w, h0, and_self, if_true, r_sizeOf hs w, Int.toNat_natCast, add_none]
    · cases hq
  · cases hq
theorem indexAddrQ_ok {K : Nat → Prop} {t : TypeId} {x i q : SV} (hq : indexAddrQ P t x i = some q) (hx : x.ok K) : q.ok K := by
  unfold indexAddrQ at hq
  split at hq
  · split at hq
    · exact addrQ_ok hq hx
    · cases hq
  · split at hq
    · simp only [Option.some.injEq] at hq; subst hq; exact hx
    · cases hq
  · split at hq
    · simp only [Option.some.injEq] at hq; subst hq; exact hx.1
    · cases hq
  · split at hq
    · simp only [Option.some.injEq] at hq; subst hq; exact trivial
    · cases hq
  · cases hq
end
end Go.Proofs.YthjkejnmjbljfaaGreatDoor.Ev
