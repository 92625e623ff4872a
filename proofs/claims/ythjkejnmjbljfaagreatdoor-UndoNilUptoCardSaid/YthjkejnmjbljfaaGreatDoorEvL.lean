/-
  THE EVALUATOR'S OPERATIONS THAT MAKE OR TURN MEMORY ARE THE MODEL'S: all of them in one word, by the author of this claim. Of any program; no condition.
-/
import Derived.Test.YthjkejnmjbljfaaGreatDoorEvK
namespace Go.Proofs.YthjkejnmjbljfaaGreatDoor.Ev
open Go Go.RowKit

section
variable {P : Program} {Γ : Env} {X : Nat → Prop} {w0 : World} {θ : Ren} {K : Nat → Prop} {h : Hp} {w : World}

theorem val_spec {o : Option (SV × Hp)} {outs : List (SV × Hp)} (hq : val o = some outs) : ∃ r, o = some r ∧ outs = [r] := by
  unfold val at hq
  rw [Option.map_eq_some_iff] at hq
  obtain ⟨r, hr, he⟩ := hq
  exact ⟨r, hr, he.symm⟩
theorem unit_spec {o : Option Hp} {outs : List (SV × Hp)} (hq : unit o = some outs) : ∃ r, o = some r ∧ outs = [(.lit undef, r)] := by
  unfold unit at hq
  rw [Option.map_eq_some_iff] at hq
  obtain ⟨r, hr, he⟩ := hq
  exact ⟨r, hr, he.symm⟩
theorem done_spec {o : Option Hp} {outs : List (SV × Hp)} (hq : done o = some outs) : ∃ r, o = some r ∧ outs = [(.lit (.tuple #[]), r)] := by
  unfold done at hq
  rw [Option.map_eq_some_iff] at hq
  obtain ⟨r, hr, he⟩ := hq
  exact ⟨r, hr, he.symm⟩

theorem Eff.ofApp {s : Sem Value} {r : SV × Hp} (ha : AppOut P Γ X w0 θ K h.next s w r) : Eff P Γ X w0 θ K h.next (do pure (.value (← s))) w [r] := by
  obtain ⟨θ', K', w', he, hk, hfresh, hrun, hok, hrep⟩ := ha
  exact ⟨r, List.mem_singleton.2 rfl, θ', K', w', _, he, hk, hfresh, by simp only [Sem.run_bind, hrun, Result.andThen, Sem.run_pure], .inl rfl, hok, hrep⟩
theorem Eff.ofUnit {s : Sem Unit} {h' : Hp} (ha : ∃ w', s.run P w = .ok () w' ∧ Rep Γ X w0 θ K h' w') : Eff P Γ X w0 θ K h.next (do s; pure .skip) w [(.lit undef, h')] := by
  obtain ⟨w', hrun, hrep⟩ := ha
  exact ⟨_, List.mem_singleton.2 rfl, θ, K, w', _, Ext.refl _ _, fun _ h => h, fun _ h => .inl h, by simp only [Sem.run_bind, hrun, Result.andThen, Sem.run_pure], .inr ⟨rfl, rfl⟩, trivial, hrep⟩
theorem Eff.ofDone {s : Sem Value} {h' : Hp} (ha : ∃ w', s.run P w = .ok (.tuple #[]) w' ∧ Rep Γ X w0 θ K h' w') : Eff P Γ X w0 θ K h.next (do pure (.value (← s))) w [(.lit (.tuple #[]), h')] := by
  obtain ⟨w', hrun, hrep⟩ := ha
  exact ⟨_, List.mem_singleton.2 rfl, θ, K, w', .value (.tuple #[]), Ext.refl _ _, fun _ h => h, fun _ h => .inl h, by simp only [Sem.run_bind, hrun, Result.andThen, Sem.run_pure], .inl rfl, trivial, hrep⟩

theorem args_two {args : Array Operand} {x y : Operand} (h : args.toList = [x, y]) (f : Operand → Value) : (args.map f)[0]? = some (f x) ∧ (args.map f)[1]? = some (f y) := by
  constructor
  · rw [Array.getElem?_map, ← Array.getElem?_toList, h]; rfl
  · rw [Array.getElem?_map, ← Array.getElem?_toList, h]; rfl
theorem args_one {args : Array Operand} {x : Operand} (h : args.toList = [x]) (f : Operand → Value) : (args.map f)[0]? = some (f x) := by
  rw [Array.getElem?_map, ← Array.getElem?_toList, h]; rfl

theorem builtin_run {ρ : Operand → Value} {o : Oper} {b : Builtin} {args : Array Operand} {tys : Array TypeId} (ho : o.op = .call ⟨.builtin b, args, tys⟩) :
    (execOp ρ o) = builtin b tys o.type (args.map fun | .const _ => true | _ => false) (args.map ρ) := by
  simp only [execOp, ho, resolve, invoke]
  rfl

/-- **Every operation that makes or turns memory comes to one of the evaluator's outcomes.** -/
theorem effect_sound {ρ : Operand → SV} {o : Oper} {outs : List (SV × Hp)} (hq : effect P Γ h ρ o.op = some outs) (hr : Rep Γ X w0 θ K h w) (hρ : ∀ x ∈ o.op.operands, (ρ x).ok K) :
    Eff P Γ X w0 θ K h.next (execOp (fun x => conc θ (ρ x)) o) w outs := by
  have hnk := hr.next h.next (Nat.le_refl _)
  unfold effect at hq
  split at hq
  · rename_i t a x ho
    obtain ⟨h', h1, rfl⟩ := unit_spec hq
    simp only [execOp, ho]
    exact Eff.ofUnit (storeE_sound h1 hr (hρ x (by simp [ho, Op.operands])))
  · rename_i e ho
    obtain ⟨r, h1, rfl⟩ := val_spec hq
    rw [Option.map_eq_some_iff] at h1
    obtain ⟨z, hz, rfl⟩ := h1
    simp only [execOp, ho]
    refine Eff.ofApp ⟨θ.bind h.next w.heap.size 0, also K h.next, w.alloc (.cells z.cells e), Ren.bind_ext hnk, also_mono, also_fresh, ?_, .inr rfl, ?_⟩
    · rw [alloc_sound hz w]; simp only [Hp.new, conc, Ren.bind_blk]
    · have := newCells_rep (e := e) hr (cells_ok (v := .lit z) (K := K) trivial)
      rw [← cells_conc θ (.lit z)] at this
      exact this
  · rename_i e x ho
    simp only [Option.some.injEq] at hq; subst hq
    simp only [execOp, ho]
    refine Eff.ofApp ⟨θ.bind h.next w.heap.size 0, also K h.next, w.alloc (.cells (conc θ (ρ x)).cells e), Ren.bind_ext hnk, also_mono, also_fresh, ?_, .inr rfl, ?_⟩
    · simp only [Instr.box, newVar, newRow, Sem.run_bind, run_newObj, Result.andThen, Sem.run_pure, World.alloc_eq, Hp.new, conc, Ren.bind_blk]
    · have := newCells_rep (e := e) hr (cells_ok (hρ x (by simp [ho, Op.operands])))
      rw [← cells_conc θ (ρ x)] at this
      exact this
  · rename_i t len parts ho
    obtain ⟨r, h1, rfl⟩ := val_spec hq
    have he : (parts.map fun (x : Nat × Operand) => (x.1, conc θ (ρ x.2))) = ((parts.toList.map fun p => (p.1, ρ p.2)).map fun p => (p.1, conc θ p.2)).toArray := by
      rw [← Array.toList_inj]; simp
    simp only [execOp, ho]
    rw [he]
    refine Eff.ofApp (buildSliceE_sound h1 hr fun p hp => ?_)
    obtain ⟨q, hq, rfl⟩ := List.mem_map.1 hp
    refine hρ _ ?_
    simp only [ho, Op.operands, List.mem_toArray, List.mem_map]
    exact ⟨q, hq, rfl⟩
  · rename_i t ho
    split at hq
    · rename_i k e hu
      simp only [Option.some.injEq] at hq; subst hq
      simp only [execOp, ho, Option.map_none]
      refine Eff.ofApp ⟨θ.bind h.next w.heap.size 0, also K h.next, w.alloc (.map #[] 0), Ren.bind_ext hnk, also_mono, also_fresh, ?_, .inr rfl, newMap_rep hr⟩
      simp only [Instr.makeMap, Sem.run_bind, run_newObj, Result.andThen, Sem.run_pure, World.alloc_eq, Hp.new, conc, Ren.bind_blk]
    · cases hq
  · rename_i t x ho
    split at hq
    · rename_i k e ik n hu hx
      simp only [Option.some.injEq] at hq; subst hq
      simp only [execOp, ho, Option.map_some, hx, conc]
      refine Eff.ofApp ⟨θ.bind h.next w.heap.size 0, also K h.next, w.alloc (.map #[] 0), Ren.bind_ext hnk, also_mono, also_fresh, ?_, .inr rfl, newMap_rep hr⟩
      simp only [Instr.makeMap, Sem.run_bind, r_underlying hu w, asInt, asIntOf, run_newObj, Result.andThen, Sem.run_pure, World.alloc_eq, Hp.new, conc, Ren.bind_blk]
    · cases hq
  · rename_i t l c ho
    obtain ⟨r, h1, rfl⟩ := val_spec hq
    simp only [execOp, ho]
    exact Eff.ofApp (makeSliceE_sound h1 hr)
  · rename_i t m k x ho
    obtain ⟨h', h1, rfl⟩ := unit_spec hq
    simp only [execOp, ho]
    exact Eff.ofUnit (mapUpdateE_sound h1 hr (hρ k (by simp [ho, Op.operands])) (hρ x (by simp [ho, Op.operands])))
  · rename_i t m k x ho
    obtain ⟨h', h1, rfl⟩ := unit_spec hq
    simp only [execOp, ho]
    exact Eff.ofUnit (mapUpdateE_sound h1 hr (hρ k (by simp [ho, Op.operands])) (hρ x (by simp [ho, Op.operands])))
  · rename_i t x ho
    obtain ⟨r, h1, rfl⟩ := val_spec hq
    simp only [execOp, ho]
    exact Eff.ofApp (rangeE_sound h1 hr)
  · rename_i it isS ho
    obtain ⟨r, hm, w', hrun, hok, hrep⟩ := nextE_sound (P := P) (ty := o.type) hq hr
    simp only [execOp, ho]
    exact ⟨r, hm, θ, K, w', _, Ext.refl _ _, fun _ h => h, fun _ h => .inl h, by simp only [Sem.run_bind, hrun, Result.andThen, Sem.run_pure], .inl rfl, hok, hrep⟩
  · rename_i it ho
    obtain ⟨r, h1, rfl⟩ := val_spec hq
    simp only [execOp, ho]
    exact Eff.ofApp (entryE_sound h1 hr)
  · rename_i s d x ho
    obtain ⟨r, h1, rfl⟩ := val_spec hq
    simp only [execOp, ho]
    exact Eff.ofApp (bytesE_sound h1 hr (hρ x (by simp [ho, Op.operands])))
  · rename_i args tys ho
    split at hq
    · rename_i s x hargs
      obtain ⟨r, h1, rfl⟩ := val_spec hq
      obtain ⟨a0, a1⟩ := args_two hargs fun x => conc θ (ρ x)
      rw [builtin_run ho]
      simp only [builtin]
      refine Eff.ofApp (appendE_sound h1 hr (hρ s ?_) a0 a1)
      simp only [ho, Op.operands, Call.operands, Array.mem_append]
      exact .inr (by rw [← Array.mem_toList_iff, hargs]; exact List.mem_cons_self ..)
    · cases hq
  · rename_i args tys ho
    split at hq
    · rename_i d s t hargs ht
      obtain ⟨r, h1, rfl⟩ := val_spec hq
      obtain ⟨a0, a1⟩ := args_two hargs fun x => conc θ (ρ x)
      rw [builtin_run ho]
      simp only [builtin]
      exact Eff.ofApp (copyE_sound h1 hr ht a0 a1)
    · cases hq
  · rename_i args tys ho
    split at hq
    · rename_i m k t hargs ht
      obtain ⟨h', h1, rfl⟩ := done_spec hq
      obtain ⟨a0, a1⟩ := args_two hargs fun x => conc θ (ρ x)
      rw [builtin_run ho]
      simp only [builtin]
      exact Eff.ofDone (deleteE_sound h1 hr ht a0 a1)
    · cases hq
  · rename_i args tys ho
    split at hq
    · rename_i x t hargs ht
      obtain ⟨h', h1, rfl⟩ := done_spec hq
      have a0 := args_one hargs fun x => conc θ (ρ x)
      rw [builtin_run ho]
      simp only [builtin]
      exact Eff.ofDone (clearE_sound h1 hr ht a0)
    · cases hq
  · cases hq

/-! ### operations that turn one block -/
/-- What a local operation does, whatever else the heap holds. -/
theorem localE_sound {ρ : Operand → SV} {o : Oper} {v : SV} {b nx : Nat} {ob : AObj} {hv : Hp} (hq : localE P hv ρ o.op = some (v, b, ob, nx)) :
    (b = hv.next ∧ nx = hv.next + 1 ∧ v.ok (· = hv.next) ∧ (∀ K : Nat → Prop, (∀ x ∈ o.op.operands, (ρ x).ok K) → ob.ok K) ∧ ∀ (θ : Ren) (w : World), ∃ ob' : Obj, (execOp (fun x => conc θ (ρ x)) o).run P w = .ok (.value (conc (θ.bind hv.next w.heap.size 0) v)) (w.alloc ob') ∧ ORep θ ob ob') ∨
    (nx = hv.next ∧ v = .lit undef ∧ ∃ old, hv.objs.get b = some old ∧ ∀ (X : Nat → Prop) (w0 : World) (θ : Ren) (K : Nat → Prop) (h : Hp) (w : World), Rep Γ X w0 θ K h w → h.objs.get b = some old → (∀ x ∈ o.op.operands, (ρ x).ok K) →
      ∃ w', (execOp (fun x => conc θ (ρ x)) o).run P w = .ok .skip w' ∧ Rep Γ X w0 θ K (h.upd b ob) w') := by
  unfold localE at hq
  split at hq
  · rename_i e ho
    rw [Option.map_eq_some_iff] at hq
    obtain ⟨z, hz, he⟩ := hq
    simp only [Prod.mk.injEq] at he
    obtain ⟨rfl, rfl, rfl, rfl⟩ := he
    refine .inl ⟨rfl, rfl, rfl, fun K _ => cells_ok (v := .lit z) trivial, fun θ w => ⟨.cells z.cells e, ?_, ⟨(0, 0), by rw [← cells_conc θ (.lit z)]; rfl, frOk_zero _⟩⟩⟩
    simp only [execOp, ho, Sem.run_bind, alloc_sound hz w, Result.andThen, Sem.run_pure, conc, Ren.bind_blk]
  · rename_i e x ho
    simp only [Option.some.injEq, Prod.mk.injEq] at hq
    obtain ⟨rfl, rfl, rfl, rfl⟩ := hq
    refine .inl ⟨rfl, rfl, rfl, fun K hρ => cells_ok (hρ x (by simp [ho, Op.operands])), fun θ w => ⟨.cells (conc θ (ρ x)).cells e, ?_, ⟨(0, 0), by rw [cells_conc θ (ρ x)], frOk_zero _⟩⟩⟩
    simp only [execOp, ho, Instr.box, newVar, newRow, Sem.run_bind, run_newObj, Result.andThen, Sem.run_pure, World.alloc_eq, conc, Ren.bind_blk]
  · rename_i t ho
    split at hq
    · rename_i k e hu
      simp only [Option.some.injEq, Prod.mk.injEq] at hq
      obtain ⟨rfl, rfl, rfl, rfl⟩ := hq
      refine .inl ⟨rfl, rfl, rfl, fun K _ e he => (by cases he), fun θ w => ⟨.map #[] 0, ?_, rfl⟩⟩
      simp only [execOp, ho, Option.map_none, Instr.makeMap, Sem.run_bind, run_newObj, Result.andThen, Sem.run_pure, World.alloc_eq, conc, Ren.bind_blk]
    · cases hq
  · rename_i t x ho
    split at hq
    · rename_i k e ik n hu hx
      simp only [Option.some.injEq, Prod.mk.injEq] at hq
      obtain ⟨rfl, rfl, rfl, rfl⟩ := hq
      refine .inl ⟨rfl, rfl, rfl, fun K _ e he => (by cases he), fun θ w => ⟨.map #[] 0, ?_, rfl⟩⟩
      simp only [execOp, ho, Option.map_some, hx, Instr.makeMap, Sem.run_bind, r_underlying hu w, asInt, asIntOf, run_newObj, Result.andThen, Sem.run_pure, World.alloc_eq, conc, Ren.bind_blk]
    · cases hq
  · rename_i t a x ho
    split at hq
    · rename_i n b' off hn ha
      cases hbe : Nat.beq (ρ x).cells.length n with
      | false => rw [hbe] at hq; cases hq
      | true =>
        rw [hbe] at hq
        simp only [cond_true] at hq
        split at hq
        · rename_i l e hb
          rw [Option.map_eq_some_iff] at hq
          obtain ⟨l', hs, he⟩ := hq
          simp only [Prod.mk.injEq] at he
          obtain ⟨rfl, rfl, rfl, rfl⟩ := he
          refine .inr ⟨rfl, rfl, _, hb, fun X w0 θ K h w hr hb' hok => ?_⟩
          have hse : storeE P h t (ρ a) (ρ x) = some (h.upd b' (.cells l' e)) := by
            simp only [storeE, hn, ha, hbe, cond_true, hb', hs, Option.map_some]
          obtain ⟨w', hrun, hrep⟩ := storeE_sound hse hr (hok x (by simp [ho, Op.operands]))
          exact ⟨w', by simp only [execOp, ho, Sem.run_bind, hrun, Result.andThen, Sem.run_pure], hrep⟩
        · rename_i l e k cv s hb
          rw [Option.map_eq_some_iff] at hq
          obtain ⟨l', hs, he⟩ := hq
          simp only [Prod.mk.injEq] at he
          obtain ⟨rfl, rfl, rfl, rfl⟩ := he
          refine .inr ⟨rfl, rfl, _, hb, fun X w0 θ K h w hr hb' hok => ?_⟩
          have hse : storeE P h t (ρ a) (ρ x) = some (h.upd b' (.row l' e k cv s)) := by
            simp only [storeE, hn, ha, hbe, cond_true, hb', hs, Option.map_some]
          obtain ⟨w', hrun, hrep⟩ := storeE_sound hse hr (hok x (by simp [ho, Op.operands]))
          exact ⟨w', by simp only [execOp, ho, Sem.run_bind, hrun, Result.andThen, Sem.run_pure], hrep⟩
        · cases hq
    · cases hq
  · cases hq
end
end Go.Proofs.YthjkejnmjbljfaaGreatDoor.Ev
