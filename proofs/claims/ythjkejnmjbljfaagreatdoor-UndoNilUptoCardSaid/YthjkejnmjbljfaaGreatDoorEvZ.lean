/-
  THE EVALUATOR IS SOUND, by the author of this claim. Of any program in which no function is runtime.NumGoroutine, and that draws the order in which a region's operations come.
-/
import Derived.Test.YthjkejnmjbljfaaGreatDoorEvY
namespace Go.Proofs.YthjkejnmjbljfaaGreatDoor.Ev
open Go Go.RowKit

section
variable {P : Program} {Γ : Env} {X : Nat → Prop} {w0 : World} {self : Task → R} {θ : Ren} {K : Nat → Prop} {h : Hp} {w : World}

/-! ### a round -/
theorem roundEnd_sound {b : Nat} {y : Out} {outs outs' : List Out} (hq : roundEnd b y = some outs) {n : Nat} {θ' : Ren} {K' : Nat → Prop} {w' : World} {a : Act} (hG : Grow K θ n K' θ' y.hp.next) (hr : Rep Γ X w0 θ' K' y.hp w') (hm : ∀ y ∈ outs, y ∈ outs') :
    roundPost P (θ'.blk b) (CPost Γ X w0 θ K n outs') y.exit.conc a w' := by
  have go : ∀ jump r, endRoundE y.hp b jump = some r → outs = [⟨.ret, y.fr, r.2, r.1⟩] → ∃ v w₂, (Instr.endRound (θ'.blk b) jump).run P w' = .ok v w₂ ∧ CPost Γ X w0 θ K n outs' (.returned v) w₂ := by
    intro jump r he ho
    unfold endRoundE at he
    split at he
    · rename_i l hl
      simp only [Option.some.injEq] at he
      subst he
      obtain ⟨rc, hw, _, _, _, _, _, _, _, _, _, _, hrep⟩ := hr.loop hl
      refine ⟨_, _, run_endRound jump hw, ⟨.ret, y.fr, y.hp.upd b (.loop { l with state := bif jump.isNone then .ready else .done, pending := jump }), litBool jump.isNone⟩, hm _ (by rw [ho]; exact List.mem_singleton.2 rfl), θ', K', hG, rfl, trivial, ?_⟩
      cases jump with
      | none => exact hrep .ready none
      | some c => exact hrep .done (some c)
    · cases he
  unfold roundEnd at hq
  split at hq
  · rename_i r he
    simp only [Option.some.injEq] at hq
    obtain ⟨ex, fr, hp, v⟩ := y
    cases ex with
    | normal => exact go none r he hq.symm
    | ret => exact go (some .ret) r he hq.symm
    | exit id => exact go (some (.exit id)) r he hq.symm
  · cases hq

theorem round_sound (hS : Sound P Γ self) {b : Nat} {args : List SV} {hp : Hp} {outs : List Out} (hq : stepTask P Γ self (.round b args hp) = some outs) (hr : Rep Γ X w0 θ K hp w) (hok : SV.okL K args) :
    ∃ l f tmps assign body, (Instr.yield (θ.blk b) (concL θ args).toArray).run P w = .ok (.round l f tmps assign body) w ∧ RoundIn Fence.wide 0 P l f tmps assign body w (CPost Γ X w0 θ K hp.next outs) := by
  simp only [stepTask] at hq
  split at hq
  · rename_i l hl
    cases hlen : Nat.beq args.length l.params.size with
    | false => rw [hlen] at hq; cases hq
    | true =>
      rw [hlen] at hq
      simp only [cond_true] at hq
      split at hq
      · cases hq
      · rename_i fr hset
        split at hq
        · cases hq
        · rename_i os hos
          obtain ⟨rc, hw, _, _, hpar, hass, hbody, _, htm, htok, _, hkb, _⟩ := hr.loop hl
          have hfr : FRep θ K fr { tmps := (rc.params.zip (concL θ args).toArray).foldl (fun tmps (t, a) => tmps.setIfInBounds t a) rc.tmps, defers := [] } := by
            have := setAll_rep (θ := θ) (K := K) (a := { tmps := rc.tmps, defers := [] }) hset ⟨htm, htok, rfl, fun b hb => (by cases hb)⟩ (fun x hx => (okL_iff _ _).1 hok _ (List.of_mem_zip hx).2)
            have e : (rc.params.zip (concL θ args).toArray).foldl (fun tmps (t, a) => tmps.setIfInBounds t a) rc.tmps = ((l.params.toList.zip args).map fun x => (x.1, conc θ x.2)).foldl (fun tmps (x : Tmp × Value) => tmps.setIfInBounds x.1 x.2) rc.tmps := by
              rw [← Array.foldl_toList, Array.toList_zip, hpar, concL_eq, List.zip_map_right]
              rfl
            rw [e]
            exact this
          refine ⟨θ.blk b, rc.fn, _, rc.assign, rc.body, run_yield hw (by rw [hpar]; simpa using eq_of_beq hlen), roundIn_of_wpIn trivial ?_⟩
          have hcode := hS.code l.assign (some b) fr hp os hos X w0 θ K _ w hr hfr (fun l' h' => by cases h'; exact hkb)
          rw [hass, hbody]
          refine wpIn_mono (F := Fence.wide.inRound (θ.blk b)) hcode ?_
          rintro e a1 w1 ⟨o, ho, θ1, K1, hG1, rfl, hr1, hf1⟩
          obtain ⟨y, hy, hm⟩ := allOf_mem hq o ho
          unfold roundBody at hy
          split at hy
          · rename_i l1 hex hl1
            split at hy
            · rename_i hready
              split at hy
              · cases hy
              · rename_i os2 hos2
                rw [hex]
                obtain ⟨rc1, hw1, hst1, hpe1, _, _, _, _, _, _, _, hkb1, hrep1⟩ := hr1.loop hl1
                have hblk : θ1.blk b = θ.blk b := hG1.ext.blk b hkb
                have hbegin := run_beginRound (P := P) hw1 (by rw [hst1, hready])
                have hrep := hrep1 .busy l1.pending
                rw [← hpe1, show ({ l1 with state := .busy, pending := rc1.pending } : ALoop) = { l1 with state := .busy } by rw [hpe1]] at hrep
                rw [hblk] at hbegin hrep
                refine ⟨_, hbegin, ?_⟩
                have hcode2 := hS.code l.body (some b) o.fr _ os2 hos2 X w0 θ1 K1 a1 _ hrep hf1 (fun l' h' => by cases h'; exact hkb1)
                rw [show (some b).map θ1.blk = some (θ.blk b) from congrArg some hblk] at hcode2
                refine wpIn_mono (F := Fence.wide.inRound (θ.blk b)) hcode2 ?_
                rintro e a2 w2 ⟨o2, ho2, θ2, K2, hG2, rfl, hr2, hf2⟩
                obtain ⟨z, hz, hm2⟩ := allOf_mem hy o2 ho2
                have := roundEnd_sound (P := P) (a := a2) hz (hG1.trans hG2) hr2 fun y hy => hm y (hm2 y hy)
                rw [hG2.ext.blk b hkb1, hblk] at this
                exact this
            · cases hy
          · cases hy
      
  · cases hq

/-! ### a call -/
theorem resultsQ_sound {fr : Fr} {a : Act} (hr : Rep Γ X w0 θ K h w) (hf : FRep θ K fr a) : ∀ (l : List ResultVar) {vs : List SV}, resultsQ P Γ fr h l = some vs →
    (l.mapM fun
    | .tmp t => pure (a.tmps.getD t undef)
    | .cell x t => do loadVar t (← asAddr (a.tmps.getD x undef)) : Sem (List Value)).run P w = .ok (concL θ vs) w ∧ SV.okL K vs := by
  intro l
  induction l with
  | nil => intro vs hq; simp only [resultsQ, Option.some.injEq] at hq; subst hq; exact ⟨rfl, trivial⟩
  | cons x l ih =>
    intro vs hq
    cases x with
    | tmp t =>
      simp only [resultsQ, Option.map_eq_some_iff] at hq
      obtain ⟨r, hr', rfl⟩ := hq
      obtain ⟨h1, h2⟩ := ih hr'
      refine ⟨?_, hf.evOk (.tmp t), h2⟩
      simp only [List.mapM_cons, Sem.run_bind, Sem.run_pure, Result.andThen, h1, concL]
      rw [show a.tmps.getD t undef = conc θ (fr.ev (.tmp t)) from hf.ev (.tmp t)]
    | cell x t =>
      simp only [resultsQ] at hq
      split at hq
      · rename_i v fs r hv hr'
        simp only [Option.some.injEq] at hq; subst hq
        obtain ⟨h1, h2⟩ := ih hr'
        obtain ⟨ad, had, hld⟩ := loadVar_sound (θ := θ) hv hr.globW fun f hf => hr.fact (loadQ_facts hv f hf)
        refine ⟨?_, loadQ_ok hv hr.okAll, h2⟩
        have hd : (do loadVar t (← asAddr (a.tmps.getD x undef)) : Sem Value).run P w = .ok (conc θ v) w := by
          rw [show a.tmps.getD x undef = conc θ (fr.ev (.tmp x)) from hf.ev (.tmp x), had]
          simp only [asAddr, Sem.run_bind, Sem.run_pure, Result.andThen, hld]
        have e : ∀ g : ResultVar → Sem Value, (g (.cell x t)).run P w = .ok (conc θ v) w → (l.mapM g).run P w = .ok (concL θ r) w → ((ResultVar.cell x t :: l).mapM g).run P w = .ok (concL θ (v :: r)) w := fun g h h' => by
          simp only [List.mapM_cons, Sem.run_bind, h, h', Result.andThen, Sem.run_pure, concL]
        exact e _ hd h1
      · cases hq

def oneOr : List SV → SV
  | [v] => v
  | vs => .tuple vs
theorem results_sound {fn : Func} {fr : Fr} {a : Act} {vs : List SV} (hr : Rep Γ X w0 θ K h w) (hf : FRep θ K fr a) (hq : resultsQ P Γ fr h fn.results.toList = some vs) :
    (results fn a.tmps).run P w = .ok (conc θ (oneOr vs)) w ∧ SV.okL K vs := by
  obtain ⟨h1, h2⟩ := resultsQ_sound hr hf _ hq
  refine ⟨?_, h2⟩
  have e : ∀ g : ResultVar → Sem Value, (fn.results.toList.mapM g).run P w = .ok (concL θ vs) w → (do
      let us ← fn.results.mapM g
      pure (if h : us.size = 1 then us[0] else .tuple us) : Sem Value).run P w = .ok (conc θ (oneOr vs)) w := fun g hg => by
    simp only [Array.mapM_eq_mapM_toList, Sem.run_bind, Sem.run_map, hg, Result.andThen, Sem.run_pure]
    match vs with
    | [] => rfl
    | [v] => rfl
    | _ :: _ :: _ => rfl
  unfold results
  exact e _ h1

theorem shut_sound {fn : Func} {tmps : Array Value} {R : Ending → World → Prop} : ∀ (marks : List Nat) {h h' : Hp} {w : World}, shutMarks marks h = some h' → Rep Γ X w0 θ K h w → h'.next = h.next ∧
    ((∀ w', Rep Γ X w0 θ K h' w' → LeavesIn Fence.wide 0 P fn tmps R [] .returning w') → LeavesInM Fence.wide 0 P fn tmps R (marks.map fun b => ({ target := .collected (θ.blk b), args := #[] } : Deferred)) .returning w) := by
  intro marks
  induction marks with
  | nil => intro h h' w hq hr; simp only [shutMarks, Option.some.injEq] at hq; subst hq; exact ⟨rfl, fun H => H w hr⟩
  | cons b l ih =>
    intro h h' w hq hr
    simp only [shutMarks] at hq
    split at hq
    · rename_i hb
      obtain ⟨_, _, _, ob, hw, hO⟩ := hr.obj b _ hb
      have hO : ob = .deferred (some []) := hO
      subst hO
      have hrep : Rep Γ X w0 θ K (h.upd b (.deferred false)) (w.putObj (θ.blk b) (.deferred none)) := hr.turn hb (o' := .deferred false) trivial rfl
      obtain ⟨h1, h2⟩ := ih hq hrep
      refine ⟨h1, fun H => ?_⟩
      exact ⟨by simp, .inl ⟨θ.blk b, _, rfl, run_takeDeferred hw, h2 H⟩⟩
    · cases hq

theorem enter_rep {args : List SV} {n : Nat} (hok : SV.okL K args) : FRep θ K ⟨T.ofList args 0 .leaf, Nat.max n args.length, []⟩ { tmps := (concL θ args).toArray ++ Array.replicate (n - (concL θ args).toArray.size) undef, defers := [] } := by
  refine ⟨⟨?_, fun i => ?_⟩, fun i v hv => ?_, rfl, fun b hb => by cases hb⟩
  · simp only [Array.size_append, List.size_toArray, concL_length, Array.size_replicate]
    show _ = max n args.length
    omega
  · simp only [T.get_ofList, Nat.zero_le, true_and, Nat.zero_add, Nat.sub_zero, Array.getD_eq_getD_getElem?, Array.getElem?_append, List.size_toArray, concL_length, List.getElem?_toArray, concL_get]
    by_cases hi : i < args.length
    · rw [if_pos hi, if_pos hi, List.getElem?_eq_getElem hi]; rfl
    · rw [if_neg hi, if_neg hi]
      simp only [Array.getElem?_replicate, T.get, conc]
      split <;> rfl
  · rw [T.get_ofList] at hv
    split at hv
    · exact (okL_iff _ _).1 hok v (List.mem_of_getElem? hv)
    · cases hv

theorem call_sound (hS : Sound P Γ self) {f : FuncId} {args : List SV} {hp : Hp} {outs : List Out} (hq : stepTask P Γ self (.call f args hp) = some outs) : (∃ fn c, P.funcs[f]? = some fn ∧ fn.body = some c) ∧
    ∀ X w0 θ K w, Rep Γ X w0 θ K hp w → SV.okL K args → CallsIn Fence.wide 0 P f (concL θ args).toArray w (CPost Γ X w0 θ K hp.next outs) := by
  simp only [stepTask] at hq
  split at hq
  · cases hq
  · rename_i fn hfn
    split at hq
    · cases hq
    · rename_i c hc
      split at hq
      · rename_i os hos
        refine ⟨⟨fn, c, hfn, hc⟩, fun X w0 θ K w hr hok => callsIn_of_wp_marks hfn hc trivial ?_⟩
        have hcode := hS.code c none _ hp os hos X w0 θ K _ w hr (enter_rep hok) (fun l h => by cases h)
        refine wpIn_mono (F := Fence.wide) hcode ?_
        rintro e a w' ⟨o, ho, θ', K', hG, rfl, hr', hf'⟩
        obtain ⟨y, hy, hm⟩ := allOf_mem hq o ho
        have go : (match shutMarks o.fr.marks o.hp with
            | none => none
            | some h => match resultsQ P Γ o.fr h fn.results.toList with
              | some [v] => some [(⟨.ret, o.fr, h, v⟩ : Out)]
              | some vs => some [⟨.ret, o.fr, h, .tuple vs⟩]
              | none => none) = some y → LeavesInM Fence.wide 0 P fn a.tmps (CPost Γ X w0 θ K hp.next outs) a.defers .returning w' := fun hy => by
          split at hy
          · cases hy
          · rename_i h' hsh
            rw [hf'.marks]
            obtain ⟨hnx, hl⟩ := shut_sound (P := P) (fn := fn) (tmps := a.tmps) (R := CPost Γ X w0 θ K hp.next outs) _ hsh hr'
            refine hl fun w2 hr2 => ?_
            have key : ∀ vs, resultsQ P Γ o.fr h' fn.results.toList = some vs → y = [⟨.ret, o.fr, h', oneOr vs⟩] → LeavesIn Fence.wide 0 P fn a.tmps (CPost Γ X w0 θ K hp.next outs) [] .returning w2 := fun vs hvs hy => by
              obtain ⟨h1, h2⟩ := results_sound hr2 hf' hvs
              refine ⟨_, h1, _, hm _ (by rw [hy]; exact List.mem_singleton.2 rfl), θ', K', ?_, rfl, ?_, hr2⟩
              · show Grow K θ hp.next K' θ' h'.next
                rw [hnx]; exact hG
              · match vs, h2 with
                | [], _ => exact trivial
                | [v], h2 => exact h2.1
                | _ :: _ :: _, h2 => exact h2
            split at hy
            · rename_i v hv
              simp only [Option.some.injEq] at hy
              exact key [v] hv hy.symm
            · rename_i vs hne hv
              simp only [Option.some.injEq] at hy
              refine key vs hv ?_
              rw [← hy]
              match vs, hne with
              | [], _ => rfl
              | [v], hne => exact absurd rfl (hne v)
              | _ :: _ :: _, _ => rfl
            · cases hy
        unfold leave at hy
        obtain ⟨ex, fr, hp', v⟩ := o
        cases ex with
        | normal => exact go hy
        | ret => exact go hy
        | exit id => cases hy
      · cases hq

theorem step_sound (hN : NoCount P) (hmix : P.follows .mixedOrders = true) {m : Nat} (hS : Sound P Γ self) (hL : Loops P Γ m self) : Sound P Γ (stepTask P Γ self) ∧ Loops P Γ (m + 1) (stepTask P Γ self) :=
  ⟨⟨fun c ro fr hp outs hq X w0 θ K a w hr hf hro => code_sound hN hmix hS hL hq hr hf hro fun g ps assign body e => by subst e; exact range_sound hN hS hq hr hf,
    fun f args hp outs hq => call_sound hS hq, fun b args hp outs hq X w0 θ K w hr hok => round_sound hS hq hr hok⟩,
   fun c ro fr hp outs hq X w0 θ K a w hr hf hro => loop_round hS hL hq hr hf hro⟩

/-- The evaluator's word holds. -/
theorem run_sound (hN : NoCount P) (hmix : P.follows .mixedOrders = true) : ∀ n, Sound P Γ (run P Γ n) ∧ Loops P Γ n (run P Γ n)
  | 0 => ⟨⟨fun _ _ _ _ _ h => (by cases h), fun _ _ _ _ h => (by cases h), fun _ _ _ _ h => (by cases h)⟩, fun _ _ _ _ _ h => (by cases h)⟩
  | n + 1 => step_sound hN hmix (run_sound hN hmix n).1 (run_sound hN hmix n).2

/-- A call, by the evaluator. -/
theorem calls_of_run (hN : NoCount P) (hmix : P.follows .mixedOrders = true) {n : Nat} {f : FuncId} {args : List SV} {hp : Hp} {outs : List Out} (hq : run P Γ n (.call f args hp) = some outs) (hr : Rep Γ X w0 θ K hp w) (hok : SV.okL K args) :
    Calls P f (concL θ args).toArray w (CPost Γ X w0 θ K hp.next outs) :=
  callsIn_wide.1 (((run_sound hN hmix n).1.call f args hp outs hq).2 X w0 θ K w hr hok)
end
end Go.Proofs.YthjkejnmjbljfaaGreatDoor.Ev
