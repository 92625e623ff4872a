/-
  WHAT IT MEANS THAT THE EVALUATOR IS SOUND; operations one behind the other, by the author of this claim. Of any program in which no function is runtime.NumGoroutine.
-/
import Derived.Test.YthjkejnmjbljfaaGreatDoorEvL
namespace Go.Proofs.YthjkejnmjbljfaaGreatDoor.Ev
open Go Go.RowKit

/-- No function is the one that the model answers by itself. -/
def NoCount (P : Program) : Prop := ∀ (f : Nat) (fn : Func), P.funcs[f]? = some fn → (fn.name == "runtime.NumGoroutine") = false

def G (r : Option Nat) : Fence := { Fence.wide with round := r }
theorem G_none : G none = Fence.wide := rfl
theorem G_fn (r : Option Nat) (f : FuncId) : (G r).fn f := trivial
theorem G_depth (r : Option Nat) (n : Nat) : (G r).depth.isSome = true → 1 ≤ n := fun h => by cases h

def SExit.conc : SExit → Exit
  | .normal => .normal
  | .exit id => .exit id
  | .ret => .ret

/-- More is known. -/
structure Grow (K : Nat → Prop) (θ : Ren) (n : Nat) (K' : Nat → Prop) (θ' : Ren) (n' : Nat) : Prop where
  ext : Ext K θ θ'
  mono : ∀ i, K i → K' i
  fresh : ∀ i, K' i → K i ∨ n ≤ i
  le : n ≤ n'
theorem Grow.refl (K : Nat → Prop) (θ : Ren) (n : Nat) : Grow K θ n K θ n := ⟨Ext.refl _ _, fun _ h => h, fun _ h => .inl h, Nat.le_refl _⟩
theorem Grow.trans {K K' K'' : Nat → Prop} {θ θ' θ'' : Ren} {n n' n'' : Nat} (h : Grow K θ n K' θ' n') (h' : Grow K' θ' n' K'' θ'' n'') : Grow K θ n K'' θ'' n'' :=
  ⟨h.ext.trans h.mono h'.ext, fun i hi => h'.mono i (h.mono i hi), fun i hi => (h'.fresh i hi).elim (h.fresh i) fun hle => .inr (Nat.le_trans h.le hle), Nat.le_trans h.le h'.le⟩

section
variable (P : Program) (Γ : Env)

def Post (X : Nat → Prop) (w0 : World) (θ : Ren) (K : Nat → Prop) (n : Nat) (outs : List Out) (e : Exit) (a : Act) (w : World) : Prop :=
  ∃ o ∈ outs, ∃ (θ' : Ren) (K' : Nat → Prop), Grow K θ n K' θ' o.hp.next ∧ e = o.exit.conc ∧ Rep Γ X w0 θ' K' o.hp w ∧ FRep θ' K' o.fr a
def CPost (X : Nat → Prop) (w0 : World) (θ : Ren) (K : Nat → Prop) (n : Nat) (outs : List Out) (e : Ending) (w : World) : Prop :=
  ∃ o ∈ outs, ∃ (θ' : Ren) (K' : Nat → Prop), Grow K θ n K' θ' o.hp.next ∧ e = .returned (conc θ' o.v) ∧ o.v.ok K' ∧ Rep Γ X w0 θ' K' o.hp w

structure Sound (run1 : Task → R) : Prop where
  code : ∀ c ro fr hp outs, run1 (.code c ro fr hp) = some outs → ∀ X w0 θ K a w, Rep Γ X w0 θ K hp w → FRep θ K fr a → (∀ l, ro = some l → K l) → c.wpIn (G (ro.map θ.blk)) 0 P (Post Γ X w0 θ K hp.next outs) a w
  call : ∀ f args hp outs, run1 (.call f args hp) = some outs → (∃ fn c, P.funcs[f]? = some fn ∧ fn.body = some c) ∧
    ∀ X w0 θ K w, Rep Γ X w0 θ K hp w → SV.okL K args → CallsIn Fence.wide 0 P f (concL θ args).toArray w (CPost Γ X w0 θ K hp.next outs)
  round : ∀ b args hp outs, run1 (.round b args hp) = some outs → ∀ X w0 θ K w, Rep Γ X w0 θ K hp w → SV.okL K args →
    ∃ l f tmps assign body, (Instr.yield (θ.blk b) (concL θ args).toArray).run P w = .ok (.round l f tmps assign body) w ∧ RoundIn Fence.wide 0 P l f tmps assign body w (CPost Γ X w0 θ K hp.next outs)
end

theorem Post.trans {Γ : Env} {X : Nat → Prop} {w0 : World} {θ θ' : Ren} {K K' : Nat → Prop} {n n' : Nat} {outs outs' : List Out} {e : Exit} {a : Act} {w : World} (hG : Grow K θ n K' θ' n') (hs : ∀ o ∈ outs, o ∈ outs') (h : Post Γ X w0 θ' K' n' outs e a w) :
    Post Γ X w0 θ K n outs' e a w := by
  obtain ⟨o, ho, θ2, K2, h1, h3⟩ := h
  exact ⟨o, hs o ho, θ2, K2, hG.trans h1, h3⟩

theorem wpIn_mono2 {F : Fence} {n : Nat} {P : Program} {o : Oper} {a : Act} {w : World} {N N' : Act → World → Prop} {Q Q' : Exit → Act → World → Prop} (h : ∀ a w, N a w → N' a w) (hQ : ∀ e a w, Q e a w → Q' e a w)
    (hh : o.wpIn F n P a w N Q) : o.wpIn F n P a w N' Q' := by
  have lets : LetsOut Q → LetsOut Q' := fun ⟨a, w, hq⟩ => ⟨a, w, hQ _ _ _ hq⟩
  unfold Oper.wpIn at *
  refine ⟨hh.1, ?_⟩
  have hh := hh.2
  generalize (o.semAt F.round a.eval).run P w = r at *
  cases r with
  | ok x w' =>
    cases x <;> simp only [Oper.uponIn] at hh ⊢ <;>
      first
        | exact h _ _ hh
        | exact ⟨hh.1, CallsIn.mono hh.2 (fun e w'' he => by cases e <;> first | exact h _ _ he | exact hQ _ _ _ he | exact lets he)⟩
        | exact ⟨hh.1, RowsIn.mono hh.2 (fun _ _ he => h _ _ he)⟩
        | exact ⟨hh.1, RoundIn.mono hh.2 (fun e w'' he => by cases e <;> first | exact h _ _ he | exact hQ _ _ _ he | exact lets he)⟩
  | halt x w' => cases x <;> simp only [Oper.uponIn] at hh ⊢ <;> exact hQ _ _ _ hh

theorem wpOpsIn_mono {F : Fence} {n : Nat} {P : Program} {ops : Array Oper} {Q Q' : Exit → Act → World → Prop} (hQ : ∀ e a w, Q e a w → Q' e a w) : ∀ (l : List Nat) (a : Act) (w : World), wpOpsIn F n P ops Q l a w → wpOpsIn F n P ops Q' l a w := by
  intro l
  induction l with
  | nil => intro a w h; exact hQ _ _ _ h
  | cons i l ih =>
    intro a w h
    simp only [wpOpsIn] at h ⊢
    split at h
    · exact ih a w h
    · split at h
      · rename_i hw; simp only [hw, if_true]; exact wpIn_mono2 ih hQ h
      · rename_i hw; simp only [hw]; exact ⟨h.1, ih _ _ h.2⟩

theorem allOf_mem {α β : Type} {f : α → Option (List β)} : ∀ {l : List α} {r : List β}, allOf f l = some r → ∀ a ∈ l, ∃ x, f a = some x ∧ ∀ y ∈ x, y ∈ r := by
  intro l
  induction l with
  | nil => intro r _ a ha; cases ha
  | cons b l ih =>
    intro r h a ha
    simp only [allOf] at h
    split at h
    · rename_i x y hx hy
      simp only [Option.some.injEq] at h; subst h
      rcases List.mem_cons.1 ha with rfl | ha
      · exact ⟨x, hx, fun z hz => List.mem_append_left _ hz⟩
      · obtain ⟨u, hu, hm⟩ := ih hy a ha
        exact ⟨u, hu, fun z hz => List.mem_append_right _ (hm z hz)⟩
    · cases h

section
variable {P : Program} {Γ : Env} {X : Nat → Prop} {w0 : World} {θ : Ren} {K : Nat → Prop} {h : Hp} {w : World} {self : Task → R}

/-- The state agrees with the evaluator's on an operation's operands. -/
def AgreeOn (θ : Ren) (K : Nat → Prop) (fr : Fr) (a : Act) (o : Oper) : Prop := ∀ x ∈ o.op.operands, a.eval x = conc θ (fr.ev x) ∧ (fr.ev x).ok K

theorem FRep.agree {fr : Fr} {a : Act} (hf : FRep θ K fr a) (o : Oper) : AgreeOn θ K fr a o := fun x _ => ⟨hf.ev x, hf.evOk x⟩

theorem agree_exec {fr : Fr} {a : Act} {o : Oper} (hs : isSelect o.op = false) (ha : AgreeOn θ K fr a o) : execOp a.eval o = execOp (fun x => conc θ (fr.ev x)) o :=
  execOp_congr o (fun cs b he => by rw [he] at hs; cases hs) fun x hx => (ha x hx).1

theorem semAt_exec {r : Option Nat} {a : Act} {o : Oper} (hd : isDefer o.op = false) : o.semAt r a.eval = execOp a.eval o :=
  Oper.semAt_eq r a.eval o fun c he => by rw [he] at hd; cases hd

theorem quiet_kind {ρ : Operand → SV} {op : Op} {v : SV} {fs : List Fact} (hq : quiet P Γ h ρ op = some (v, fs)) : isSelect op = false ∧ isDefer op = false := by
  cases op <;> first | exact ⟨rfl, rfl⟩ | (simp only [quiet] at hq; cases hq)
theorem effect_kind {ρ : Operand → SV} {op : Op} {outs : List (SV × Hp)} (hq : effect P Γ h ρ op = some outs) : isSelect op = false ∧ isDefer op = false := by
  cases op <;> first | exact ⟨rfl, rfl⟩ | (simp only [effect] at hq; cases hq)
theorem callee_kind {ρ : Operand → SV} {op : Op} {c : Callee'} (hq : calleeOf ρ op = some c) : isSelect op = false ∧ isDefer op = false := by
  cases op <;> first | exact ⟨rfl, rfl⟩ | (simp only [calleeOf] at hq; cases hq)

/-- The model's word on the one function without a body that the evaluator knows. -/
theorem clone_find {fn : Func} (hn : fn.name = "maps.clone") (ho : fn.origin = "" ∨ fn.origin = "maps.clone") : Extern.findNext fn = none ∧ Extern.find fn = some Extern.MapsClone.clone := by
  have a1 : Extern.allNextRows.lookup "maps.clone" = none := by kernel_rfl
  have a2 : Extern.allNextRows.lookup "" = none := by kernel_rfl
  have b1 : Extern.allGenericRows.lookup "maps.clone" = none := by kernel_rfl
  have b2 : Extern.allTypedRows.lookup "maps.clone" = none := by kernel_rfl
  have b3 : Extern.allRows.lookup "maps.clone" = some Extern.MapsClone.clone := by kernel_rfl
  constructor
  · rcases ho with ho | ho <;> simp only [Extern.findNext, hn, ho, a1, a2] <;> rfl
  · simp only [Extern.find, hn, b1, b2, b3]; rfl

theorem cloneE_run (hN : NoCount P) {f : FuncId} {args : List SV} {x : SV × Hp} (hq : cloneE P h f args = some x) (hr : Rep Γ X w0 θ K h w) (hok : SV.okL K args) :
    ∃ (θ' : Ren) (K' : Nat → Prop) (w' : World), Grow K θ h.next K' θ' x.2.next ∧ (callFunc f (concL θ args).toArray).run P w = .ok (.value (conc θ' x.1)) w' ∧ x.1.ok K' ∧ Rep Γ X w0 θ' K' x.2 w' := by
  unfold cloneE at hq
  split at hq
  · rename_i fn t b hfn
    cases hc : (fn.body.isNone && (fn.name == "maps.clone") && (fn.origin == "" || fn.origin == "maps.clone")) with
    | false => rw [hc] at hq; cases hq
    | true =>
      rw [hc] at hq
      simp only [cond_true] at hq
      simp only [Bool.and_eq_true, Bool.or_eq_true, beq_iff_eq] at hc
      obtain ⟨⟨hbody, hname⟩, horg⟩ := hc
      obtain ⟨hfn1, hfn2⟩ := clone_find hname horg
      split at hq
      · rename_i es c hb
        simp only [Option.some.injEq] at hq; subst hq
        have hnk := hr.next h.next (Nat.le_refl _)
        obtain ⟨hg, _⟩ := hr.map (P := P) hb
        have hmok := hr.okAll b _ hb
        have hE : Ext K θ (θ.bind h.next w.heap.size 0) := Ren.bind_ext hnk
        refine ⟨θ.bind h.next w.heap.size 0, also K h.next, w.alloc (.map (es.map (entryC θ)).toArray c), ⟨hE, also_mono, also_fresh, Nat.le_succ _⟩, ?_, .inr rfl, ?_⟩
        · simp only [callFunc, Sem.run_bind, run_program, Result.andThen, hfn, hN f fn hfn, Bool.false_eq_true, if_false, hbody, if_true, hfn1, hfn2]
          have hcl : (Extern.MapsClone.clone #[.iface t (.map (some (θ.blk b)))]).run P w = .ok (.iface t (.map (some w.heap.size))) (w.alloc (.map (es.map (entryC θ)).toArray c)) := by
            have e : Extern.MapsClone.clone #[.iface t (.map (some (θ.blk b)))] = (getObj (θ.blk b) >>= fun o => match o with
              | .map entries clock => newObj (.map entries clock) >>= fun r => pure (.iface t (.map (some r)))
              | _ => stuck "maps.clone: a map expected") := rfl
            rw [e]
            simp only [Sem.run_bind, hg, Result.andThen, run_newObj, Sem.run_pure, World.alloc_eq]
          simp only [mark, Sem.run, concL, conc, hcl, Sem.run_pure, Hp.new, Ren.bind_blk]
        · refine hr.make_next (o := .map es c) rfl rfl rfl rfl (fun e he => ⟨ok_mono also_mono _ (hmok e he).1, ok_mono also_mono _ (hmok e he).2⟩) ?_
          simp only [ORep]
          congr 2
          exact List.map_congr_left fun e he => by rw [conc_ext hE _ (hmok e he).1, conc_ext hE _ (hmok e he).2]; rfl
      · cases hq
  · cases hq

/-- What an operation that is no quiet one comes to, whatever comes behind it. -/
theorem loud_sound (hN : NoCount P) (hS : Sound P Γ self) {fr : Fr} {o : Oper} {outs : List (SV × Hp)} (hq : loud P Γ self fr h o = some outs) {r : Option Nat} {a : Act} (hr : Rep Γ X w0 θ K h w) (ha : AgreeOn θ K fr a o)
    {next : Act → World → Prop} {Q : Exit → Act → World → Prop}
    (hnext : ∀ x ∈ outs, ∀ (θ' : Ren) (K' : Nat → Prop) (w' : World), Grow K θ h.next K' θ' x.2.next → x.1.ok K' → Rep Γ X w0 θ' K' x.2 w' → next (a.put o.dst (conc θ' x.1)) w') :
    o.wpIn (G r) 0 P a w next Q := by
  refine ⟨fun f _ => G_fn r f, ?_⟩
  unfold loud at hq
  split at hq
  · rename_i f args hc
    obtain ⟨hsel, hdef⟩ := callee_kind hc
    rw [semAt_exec hdef, agree_exec hsel ha]
    have hargs : SV.okL K args ∧ (execOp (fun x => conc θ (fr.ev x)) o).run P w = (callFunc f (concL θ args).toArray).run P w := by
      unfold calleeOf at hc
      split at hc
      · rename_i fo ar ty ho
        have hopf : fo ∈ o.op.operands := by rw [ho]; simp [Op.operands, Call.operands]
        have hopa : ∀ x ∈ ar.toList, x ∈ o.op.operands := fun x hx => by rw [ho]; simp only [Op.operands, Call.operands, Array.mem_append]; exact .inr (by simpa using hx)
        split at hc
        · rename_i g x y hv
          simp only [Option.some.injEq, Callee'.fn.injEq] at hc
          obtain ⟨rfl, rfl⟩ := hc
          refine ⟨okL_append (okL_append (okL_lits _ _) ((okL_iff _ _).2 fun v hv => ?_)) (okL_lits _ _), ?_⟩
          · obtain ⟨u, hu, rfl⟩ := List.mem_map.1 hv
            exact (ha u (hopa u hu)).2
          · have he : (x ++ ar.map fun z => conc θ (fr.ev z)) ++ y = (concL θ (x.toList.map .lit ++ ar.toList.map fr.ev ++ y.toList.map .lit)).toArray := by
              rw [← Array.toList_inj]
              simp only [Array.toList_append, concL_append, concL_lits, Array.toList_map]
              simp [concL_eq, Function.comp]
            simp only [execOp, ho, resolve, hv, conc, Deferred.ofValue, Sem.run_bind, Sem.run_pure, Result.andThen, invoke, he]
        · rename_i g x y hv
          simp only [Option.some.injEq, Callee'.fn.injEq] at hc
          obtain ⟨rfl, rfl⟩ := hc
          have hfok := (ha fo hopf).2
          rw [hv] at hfok
          refine ⟨okL_append (okL_append hfok.1 ((okL_iff _ _).2 fun v hv => ?_)) hfok.2, ?_⟩
          · obtain ⟨u, hu, rfl⟩ := List.mem_map.1 hv
            exact (ha u (hopa u hu)).2
          · have he : ((concL θ x).toArray ++ ar.map fun z => conc θ (fr.ev z)) ++ (concL θ y).toArray = (concL θ (x ++ ar.toList.map fr.ev ++ y)).toArray := by
              rw [← Array.toList_inj]
              simp only [Array.toList_append, concL_append, Array.toList_map]
              simp [concL_eq, Function.comp]
            simp only [execOp, ho, resolve, hv, conc, Deferred.ofValue, Sem.run_bind, Sem.run_pure, Result.andThen, invoke, he]
        · simp only [Option.some.injEq] at hc; cases hc
        · cases hc
      · cases hc
    rw [hargs.2]
    split at hq
    · rename_i x hx
      simp only [Option.some.injEq] at hq
      subst hq
      obtain ⟨θ', K', w', hG, hrun, hok, hrep⟩ := cloneE_run hN hx hr hargs.1
      rw [hrun]
      exact hnext x (List.mem_singleton.2 rfl) θ' K' w' hG hok hrep
    · rw [Option.map_eq_some_iff] at hq
      obtain ⟨os, hos, rfl⟩ := hq
      obtain ⟨⟨fn, c, hfn, hbody⟩, hcall⟩ := hS.call f args h os hos
      have hcf : ∀ vs : Array Value, (callFunc f vs).run P w = .ok (.enter f vs) w := fun vs => by
        simp only [callFunc, Sem.run_bind, run_program, Result.andThen, hfn, hN f fn hfn, Bool.false_eq_true, if_false, hbody, Option.isNone_some, Sem.run_pure]
      rw [hcf]
      refine ⟨G_depth r 0, ?_⟩
      refine CallsIn.mono (F := Fence.wide) (n := 0) (hcall X w0 θ K w hr hargs.1) fun e w' he => ?_
      obtain ⟨x, hx, θ', K', h1, rfl, h4, h5⟩ := he
      exact hnext (x.v, x.hp) (List.mem_map.2 ⟨x, hx, rfl⟩) θ' K' w' h1 h4 h5
  · rename_i b args hc
    obtain ⟨hsel, hdef⟩ := callee_kind hc
    rw [Option.map_eq_some_iff] at hq
    obtain ⟨os, hos, rfl⟩ := hq
    rw [semAt_exec hdef, agree_exec hsel ha]
    unfold calleeOf at hc
    split at hc
    · rename_i fo ar ty ho
      split at hc
      · simp only [Option.some.injEq] at hc; cases hc
      · simp only [Option.some.injEq] at hc; cases hc
      · rename_i b' hv
        simp only [Option.some.injEq, Callee'.round.injEq] at hc
        obtain ⟨rfl, rfl⟩ := hc
        have hok : SV.okL K (ar.toList.map fr.ev) := (okL_iff _ _).2 fun v hv => by
          obtain ⟨u, hu, rfl⟩ := List.mem_map.1 hv
          exact (ha u (by rw [ho]; simp only [Op.operands, Call.operands, Array.mem_append]; exact .inr (by simpa using hu))).2
        obtain ⟨l, f, tmps, assign, body, hy, hround⟩ := hS.round b' _ h os hos X w0 θ K w hr hok
        have he : (#[] ++ ar.map fun z => conc θ (fr.ev z)) = (concL θ (ar.toList.map fr.ev)).toArray := by
          rw [← Array.toList_inj]
          simp [concL_eq, Function.comp]
        have hrun : (execOp (fun x => conc θ (fr.ev x)) o).run P w = .ok (.round l f tmps assign body) w := by
          simp only [execOp, ho, resolve, hv, conc, Deferred.ofValue, Sem.run_bind, Sem.run_pure, Result.andThen, invoke, he, hy]
        rw [hrun]
        refine ⟨G_depth r 0, ?_⟩
        refine RoundIn.mono (F := Fence.wide) (n := 0) hround fun e w' he => ?_
        obtain ⟨x, hx, θ', K', h1, rfl, h4, h5⟩ := he
        exact hnext (x.v, x.hp) (List.mem_map.2 ⟨x, hx, rfl⟩) θ' K' w' h1 h4 h5
      · cases hc
    · cases hc
  · split at hq
    · cases hq
    · rename_i os hos
      cases hall : os.all (fun r => Nat.ble h.next r.2.next) with
      | false => rw [hall] at hq; cases hq
      | true =>
        rw [hall] at hq
        simp only [cond_true, Option.some.injEq] at hq; subst hq
        obtain ⟨hsel, hdef⟩ := effect_kind hos
        rw [semAt_exec hdef, agree_exec hsel ha]
        obtain ⟨x, hx, θ', K', w', nx, h1, h2, h3, hrun, hnx, h4, h5⟩ := effect_sound hos hr fun x hx => (ha x hx).2
        have hg : Grow K θ h.next K' θ' x.2.next := ⟨h1, h2, h3, le_of_ble (List.all_eq_true.1 hall x hx)⟩
        rw [hrun]
        rcases hnx with rfl | ⟨rfl, hv⟩
        · exact hnext x hx θ' K' w' hg h4 h5
        · have := hnext x hx θ' K' w' hg h4 h5
          rw [hv] at this
          exact this

theorem wantedQ_sound {fr : Fr} {a : Act} {ops : Array Oper} {o : Oper} {b : Bool} (hq : wantedQ ops fr o = some b) (hsz : a.tmps.size = fr.sz)
    (hf : ∀ j want t, o.guard = some (j, want) → (ops[j]?).bind (·.dst) = some t → a.tmps.getD t undef = conc θ (fr.ev (.tmp t))) : Region.wanted o (yielded ops a.tmps) = b := by
  unfold wantedQ at hq
  unfold Region.wanted
  split at hq
  · rename_i hg
    rw [hg]
    simp only [Option.some.injEq] at hq
    exact hq
  · rename_i j want hg
    rw [hg]
    simp only
    split at hq
    · rename_i ht
      simp only [Option.some.injEq] at hq
      subst hq
      simp [yielded, ht]
    · rename_i t ht
      have hy : yielded ops a.tmps j = if t < fr.sz then (match conc θ (fr.ev (.tmp t)) with | .bool b => some b | _ => none) else none := by
        unfold yielded
        rw [ht]
        simp only [Option.bind_some]
        by_cases hlt : t < fr.sz
        · rw [if_pos hlt]
          have h1 := hf j want t hg ht
          have hsz' : t < a.tmps.size := by rw [hsz]; exact hlt
          simp only [Array.getD_eq_getD_getElem?, Array.getElem?_eq_getElem hsz', Option.getD_some] at h1
          rw [Array.getElem?_eq_getElem hsz', h1]
          generalize conc θ (fr.ev (.tmp t)) = u
          cases u <;> rfl
        · rw [if_neg hlt]
          rw [Array.getElem?_eq_none (by rw [hsz]; exact Nat.le_of_not_lt hlt)]
      rw [hy]
      cases hlt : Nat.blt t fr.sz with
      | false =>
        rw [hlt] at hq
        simp only [cond_false, Option.some.injEq] at hq
        have : ¬ t < fr.sz := fun hp => by
          have : Nat.blt t fr.sz = true := Nat.ble_eq_true_of_le hp
          rw [this] at hlt; cases hlt
        rw [if_neg this, ← hq]
        rfl
      | true =>
        rw [hlt] at hq
        simp only [cond_true] at hq
        rw [if_pos (lt_of_blt hlt)]
        split at hq
        · rename_i c hc
          simp only [Option.some.injEq] at hq
          rw [hc, ← hq]
          simp only [conc]
          cases c <;> cases want <;> rfl
        · rename_i v hv hc
          simp only [Option.some.injEq] at hq
          rw [hc, ← hq]
          simp only [conc]
          cases v <;> first | rfl | exact absurd hc (hv _)
        · cases hq

/-- One operation, in its turn. -/
theorem oper_sound (hN : NoCount P) (hS : Sound P Γ self) {ops : Array Oper} {fr : Fr} {o : Oper} {outs : List (Fr × Hp)} (hq : oper P Γ self ops fr h o = some outs) {r : Option Nat} {a : Act} (hr : Rep Γ X w0 θ K h w) (hf : FRep θ K fr a)
    {next : Act → World → Prop} {Q : Exit → Act → World → Prop}
    (hnext : ∀ x ∈ outs, ∀ (θ' : Ren) (K' : Nat → Prop) (a' : Act) (w' : World), Grow K θ h.next K' θ' x.2.next → FRep θ' K' x.1 a' → Rep Γ X w0 θ' K' x.2 w' → next a' w') :
    if Region.wanted o (yielded ops a.tmps) then o.wpIn (G r) 0 P a w next Q else (∀ f, o.about P w a.eval = some f → (G r).fn f) ∧ next (a.put o.dst undef) w := by
  unfold oper at hq
  have hwant : ∀ b, wantedQ ops fr o = some b → Region.wanted o (yielded ops a.tmps) = b := fun b hb => wantedQ_sound hb hf.tmps.1 fun j want t _ _ => hf.tmps.2 t
  split at hq
  · cases hq
  · rename_i hw
    rw [hwant _ hw, if_neg (by simp)]
    rw [Option.map_eq_some_iff] at hq
    obtain ⟨f, hp, rfl⟩ := hq
    refine ⟨fun f _ => G_fn r f, hnext (f, h) (List.mem_singleton.2 rfl) θ K _ w (Grow.refl _ _ _) ?_ hr⟩
    exact hf.put (v := .lit undef) trivial hp
  · rename_i hw
    rw [hwant _ hw, if_pos rfl]
    split at hq
    · rename_i v fs hquiet
      obtain ⟨hsel, hdef⟩ := quiet_kind hquiet
      rw [Option.map_eq_some_iff] at hq
      obtain ⟨f, hp, rfl⟩ := hq
      refine ⟨fun f _ => G_fn r f, ?_⟩
      rw [semAt_exec hdef, agree_exec hsel (hf.agree o), quiet_sound hquiet hr.globW fun f hf => hr.fact (quiet_facts hquiet f hf)]
      exact hnext (f, h) (List.mem_singleton.2 rfl) θ K _ w (Grow.refl _ _ _) (hf.put (quiet_ok hquiet (fun x hx => hf.evOk x) hr.okAll) hp) hr
    · split at hq
      · rename_i rs hloud
        refine loud_sound hN hS hloud hr (hf.agree o) fun x hx θ' K' w' h1 h3 h4 => ?_
        obtain ⟨y, hy, hm⟩ := allOf_mem hq x hx
        rw [Option.map_eq_some_iff] at hy
        obtain ⟨f, hp, rfl⟩ := hy
        exact hnext (f, x.2) (hm _ (List.mem_singleton.2 rfl)) θ' K' _ w' h1 ((hf.ext h1.ext h1.mono).put h3 hp) h4
      · cases hq

/-- Operations, one behind the other. -/
theorem inTurn_sound (hN : NoCount P) (hS : Sound P Γ self) {ops : Array Oper} {r : Option Nat} (l : List Oper) : ∀ {i : Nat} {fr : Fr} {h : Hp} {outs : List Out} {θ : Ren} {K : Nat → Prop} {a : Act} {w : World},
    (∀ k, (l[k]?) = ops[i + k]?) → inTurn P Γ self ops l fr h = some outs → Rep Γ X w0 θ K h w → FRep θ K fr a → wpOpsIn (G r) 0 P ops (Post Γ X w0 θ K h.next outs) (List.range' i l.length) a w := by
  induction l with
  | nil =>
    intro i fr h outs θ K a w _ hq hr hf
    simp only [inTurn, Option.some.injEq] at hq; subst hq
    exact ⟨_, List.mem_singleton.2 rfl, θ, K, Grow.refl _ _ _, rfl, hr, hf⟩
  | cons o l ih =>
    intro i fr h outs θ K a w hl hq hr hf
    simp only [inTurn] at hq
    have h0 : ops[i]? = some o := (hl 0).symm
    have hl' : ∀ k, l[k]? = ops[i + 1 + k]? := fun k => by have := hl (k + 1); rw [List.getElem?_cons_succ] at this; rw [this]; congr 1; omega
    split at hq
    · rename_i xs hxs
      simp only [List.length_cons, List.range'_succ, wpOpsIn, h0]
      have := oper_sound (next := wpOpsIn (G r) 0 P ops (Post Γ X w0 θ K h.next outs) (List.range' (i + 1) l.length)) (Q := Post Γ X w0 θ K h.next outs) (r := r) hN hS hxs hr hf (fun x hx θ' K' a' w' h1 h3 h4 => by
        obtain ⟨y, hy, hm⟩ := allOf_mem hq x hx
        have := ih hl' hy h4 h3
        refine wpOpsIn_mono ?_ _ _ _ this
        intro e a w hp
        exact hp.trans h1 hm)
      exact this
    · cases hq
end
end Go.Proofs.YthjkejnmjbljfaaGreatDoor.Ev
