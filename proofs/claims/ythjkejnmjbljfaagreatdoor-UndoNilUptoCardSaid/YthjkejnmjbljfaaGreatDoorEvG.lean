/-
  THE EVALUATOR'S OPERATIONS THAT MAKE OR TURN MEMORY ARE THE MODEL'S (1: the laws of the heap; stores, new blocks, maps), by the author of this claim. Of any program; no condition.
-/
import Derived.Test.YthjkejnmjbljfaaGreatDoorEvF
namespace Go.Proofs.YthjkejnmjbljfaaGreatDoor.Ev
open Go Go.RowKit

/-! ### one block of a world -/
def setB (w : World) (b : Nat) (ob : Obj) : World := { w with heap := w.heap.setIfInBounds b ob }

theorem setB_get (w : World) (b : Nat) (ob : Obj) (k : Nat) : (setB w b ob).heap[k]? = if k = b ∧ b < w.heap.size then some ob else w.heap[k]? := by
  simp only [setB, Array.getElem?_setIfInBounds]
  by_cases h : b = k
  · subst h
    by_cases h2 : b < w.heap.size
    · simp [h2]
    · simp [h2]
  · rw [if_neg h, if_neg (fun e => h e.1.symm)]
theorem setB_same {w : World} {b : Nat} {ob ob' : Obj} (h : w.heap[b]? = some ob) : (setB w b ob').heap[b]? = some ob' := by
  rw [setB_get, if_pos ⟨rfl, (Array.getElem?_eq_some_iff.1 h).1⟩]
theorem setB_setB (w : World) (b : Nat) (ob ob' : Obj) : setB (setB w b ob) b ob' = setB w b ob' := by
  have : (setB (setB w b ob) b ob').heap = (setB w b ob').heap := Array.ext_getElem? fun k => by
    rw [setB_get, setB_get, setB_get]
    have hs : (setB w b ob).heap.size = w.heap.size := by simp [setB]
    rw [hs]
    by_cases h : k = b ∧ b < w.heap.size
    · rw [if_pos h, if_pos h]
    · rw [if_neg h, if_neg h, if_neg h]
  simp only [setB] at this ⊢
  rw [this]
theorem setB_id {w : World} {b : Nat} {ob : Obj} (h : w.heap[b]? = some ob) : setB w b ob = w := by
  have : (setB w b ob).heap = w.heap := Array.ext_getElem? fun k => by
    rw [setB_get]
    by_cases hk : k = b ∧ b < w.heap.size
    · rw [if_pos hk, hk.1, h]
    · rw [if_neg hk]
  simp only [setB] at this ⊢
  rw [this]

theorem setCell_setB {w : World} {b off : Nat} {c : Array Value} {e : TypeId} {fr : Nat × Nat} (h : w.heap[b]? = some (.cells c e fr)) (v : Value) :
    w.setCell ⟨b, off, none⟩ v = setB w b (.cells (c.setIfInBounds off v) e fr) := by
  have hlt := (Array.getElem?_eq_some_iff.1 h).1
  have : (w.setCell ⟨b, off, none⟩ v).heap = (setB w b (.cells (c.setIfInBounds off v) e fr)).heap := Array.ext_getElem? fun k => by
    rw [setB_get]
    simp only [World.setCell, Array.getElem?_modify]
    by_cases hk : b = k
    · subst hk
      rw [if_pos rfl, if_pos ⟨rfl, hlt⟩, h]
      simp
    · rw [if_neg hk, if_neg (fun e => hk e.1.symm)]
  simp only [World.setCell, setB] at this ⊢
  rw [this]

theorem run_storeCells_any {P : Program} {b off : Nat} {e : TypeId} {fr : Nat × Nat} (vs : List Value) : ∀ (i : Nat) (L : List Value) (w : World), w.heap[b]? = some (.cells L.toArray e fr) → off + i + vs.length ≤ L.length → frOk fr L.length →
    (∀ v ∈ vs, v.oneCell' = true) → (storeCells ⟨b, off, none⟩ vs i).run P w = .ok () (setB w b (.cells (L.take (off + i) ++ vs ++ L.drop (off + i + vs.length)).toArray e fr)) := by
  induction vs with
  | nil =>
    intro i L w hw _ _ _
    simp only [storeCells, Sem.run_pure, List.append_nil, List.length_nil, Nat.add_zero, List.take_append_drop]
    rw [setB_id hw]
  | cons v vs ih =>
    intro i L w hw hle hfr hone
    simp only [List.length_cons] at hle
    have hlt : off + i < L.length := by omega
    have hcell : w.cell? ⟨b, off + i, none⟩ = some L[off + i] := by
      simp [World.cell?, hw, hlt]
    have hfz : w.frozen? ⟨b, off + i, none⟩ = false := by
      simp only [World.frozen?, hw]
      have := hfr.at (off + i) hlt
      simpa using this
    have h1 := run_store P w ⟨b, off + i, none⟩ v .plain (hone v (List.mem_cons_self ..))
    simp only [hcell, hfz, Bool.false_eq_true, if_false] at h1
    simp only [storeCells, Sem.run_bind, add_none, h1, Result.andThen]
    rw [setCell_setB hw, List.setIfInBounds_toArray]
    rw [ih (i + 1) (L.set (off + i) v) _ (setB_same hw) (by simp only [List.length_set]; omega) (by simpa using hfr) (fun u hu => hone u (List.mem_cons_of_mem _ hu)), setB_setB]
    congr 4
    rw [show off + (i + 1) = (off + i) + 1 by omega, List.take_succ_eq_append_getElem (by simpa using hlt), List.take_set_of_le (Nat.le_refl _), List.getElem_set_self]
    rw [List.drop_set_of_lt (by omega), List.length_cons, show off + i + 1 + vs.length = off + i + (vs.length + 1) by omega]
    simp

/-! ### a heap and a turned world -/
section
variable {P : Program} {Γ : Env} {X : Nat → Prop} {w0 : World} {θ : Ren} {K : Nat → Prop} {h : Hp} {w : World}

theorem Rep.same {w' : World} (hr : Rep Γ X w0 θ K h w) (h1 : w'.os = w.os) (h2 : w'.tape = w.tape) (h3 : w'.output = w.output) (h4 : w'.heap = w.heap) : Rep Γ X w0 θ K h w' :=
  ⟨h1.trans hr.os, h2.trans hr.tape, h3.trans hr.output, by rw [h4]; exact hr.size, fun k hk => by rw [h4]; exact hr.kept k hk, hr.low, hr.glob,
   fun b o hb => by rw [h4]; exact hr.obj b o hb, hr.inj, hr.next, hr.inv⟩

/-- A block is turned. -/
theorem Rep.turn {b : Nat} {o o' : AObj} {ob' : Obj} (hr : Rep Γ X w0 θ K h w) (hb : h.objs.get b = some o) (hok : o'.ok K) (hO : ORep θ o' ob') : Rep Γ X w0 θ K (h.upd b o') (setB w (θ.blk b) ob') := by
  obtain ⟨hKb, hXb, _, ob, hw, _⟩ := hr.obj b o hb
  have hlt := (Array.getElem?_eq_some_iff.1 hw).1
  refine ⟨hr.os, hr.tape, hr.output, by simpa [setB] using hr.size, fun k hk => ?_, hr.low, hr.glob, fun b' o1 hb' => ?_, fun b1 b2 o1 o2 h1 h2 he => ?_, hr.next, hr.inv⟩
  · rw [setB_get, if_neg (fun e : k = θ.blk b ∧ _ => hXb (e.1 ▸ hk))]
    exact hr.kept k hk
  · simp only [Hp.upd, T.get_set] at hb'
    by_cases e : b' = b
    · subst e
      rw [if_pos rfl] at hb'
      cases hb'
      exact ⟨hKb, hXb, hok, ob', setB_same hw, hO⟩
    · rw [if_neg e] at hb'
      obtain ⟨k1, k2, k3, ob1, k4, k5⟩ := hr.obj b' o1 hb'
      refine ⟨k1, k2, k3, ob1, ?_, k5⟩
      rw [setB_get, if_neg (fun e' : θ.blk b' = θ.blk b ∧ _ => e (hr.inj b' b o1 o hb' hb e'.1))]
      exact k4
  · simp only [Hp.upd, T.get_set] at h1 h2
    have g1 : ∃ o, h.objs.get b1 = some o := by
      by_cases e : b1 = b
      · exact ⟨o, by rw [e]; exact hb⟩
      · rw [if_neg e] at h1; exact ⟨o1, h1⟩
    have g2 : ∃ o, h.objs.get b2 = some o := by
      by_cases e : b2 = b
      · exact ⟨o, by rw [e]; exact hb⟩
      · rw [if_neg e] at h2; exact ⟨o2, h2⟩
    obtain ⟨p1, q1⟩ := g1
    obtain ⟨p2, q2⟩ := g2
    exact hr.inj b1 b2 p1 p2 q1 q2 he

/-- A number is bound to a block. -/
def Ren.bind (θ : Ren) (β n c : Nat) : Ren := { θ with blk := fun i => if i = β then n else θ.blk i, cap := fun i => if i = β then c else θ.cap i }
theorem Ren.bind_ext {β n c : Nat} (hβ : ¬ K β) : Ext K θ (θ.bind β n c) :=
  ⟨fun i hi => by simp only [Ren.bind]; rw [if_neg (fun e : i = β => hβ (e ▸ hi))], fun i hi => by simp only [Ren.bind]; rw [if_neg (fun e : i = β => hβ (e ▸ hi))], fun _ _ => rfl, fun _ _ => rfl⟩
@[simp] theorem Ren.bind_blk {β n c : Nat} : (θ.bind β n c).blk β = n := by simp [Ren.bind]
@[simp] theorem Ren.bind_cap {β n c : Nat} : (θ.bind β n c).cap β = c := by simp [Ren.bind]

def also (K : Nat → Prop) (β : Nat) : Nat → Prop := fun i => K i ∨ i = β
theorem also_mono {β : Nat} : ∀ i, K i → also K β i := fun _ h => .inl h
theorem also_fresh {β : Nat} : ∀ i, also K β i → K i ∨ β ≤ i := fun _ h => h.imp id fun e => Nat.le_of_eq e.symm

/-- A block is made. -/
theorem Rep.make {β nx c : Nat} {o : AObj} {ob : Obj} {w' : World} (hr : Rep Γ X w0 θ K h w) (hβ : ¬ K β) (hnx : ∀ i, nx ≤ i → ¬ K i) (hlt : β < nx)
    (h1 : w'.os = w.os) (h2 : w'.tape = w.tape) (h3 : w'.output = w.output) (h4 : w'.heap = w.heap.push ob)
    (hok : o.ok (also K β)) (hO : ORep (θ.bind β w.heap.size c) o ob) : Rep Γ X w0 (θ.bind β w.heap.size c) (also K β) ⟨h.objs.set β o, nx⟩ w' := by
  have hE : Ext K θ (θ.bind β w.heap.size c) := Ren.bind_ext hβ
  have hX : ¬ X w.heap.size := fun hx => by have := hr.low _ hx; have := hr.size; omega
  have hne : ∀ b o, h.objs.get b = some o → b ≠ β := fun b o hb e => hβ (e ▸ (hr.obj b o hb).1)
  have hblk : ∀ b o, h.objs.get b = some o → (θ.bind β w.heap.size c).blk b = θ.blk b ∧ θ.blk b < w.heap.size := fun b o hb => by
    obtain ⟨k1, _, _, ob1, k4, _⟩ := hr.obj b o hb
    exact ⟨hE.blk b k1, (Array.getElem?_eq_some_iff.1 k4).1⟩
  refine ⟨h1.trans hr.os, h2.trans hr.tape, h3.trans hr.output, ?_, fun k hk => ?_, hr.low, hr.glob, fun b o1 hb => ?_, fun b1 b2 o1 o2 g1 g2 he => ?_, fun i hi => ?_, Γ.ext hr.inv hE also_mono⟩
  · rw [h4, Array.size_push]; have := hr.size; omega
  · rw [h4, Array.getElem?_push, if_neg (by have := hr.low k hk; have := hr.size; omega)]
    exact hr.kept k hk
  · simp only [T.get_set] at hb
    by_cases e : b = β
    · subst e
      rw [if_pos rfl] at hb
      cases hb
      refine ⟨.inr rfl, by rw [Ren.bind_blk]; exact hX, hok, ob, ?_, hO⟩
      rw [h4, Ren.bind_blk, Array.getElem?_push, if_pos rfl]
    · rw [if_neg e] at hb
      obtain ⟨k1, k2, k3, ob1, k4, k5⟩ := hr.obj b o1 hb
      obtain ⟨e1, e2⟩ := hblk b o1 hb
      refine ⟨.inl k1, by rw [e1]; exact k2, AObj.ok_mono also_mono _ k3, ob1, ?_, ORep_ext hE k3 k5⟩
      rw [h4, e1, Array.getElem?_push, if_neg (by omega)]
      exact k4
  · simp only [T.get_set] at g1 g2
    by_cases e1 : b1 = β
    · by_cases e2 : b2 = β
      · rw [e1, e2]
      · rw [if_neg e2] at g2
        obtain ⟨k1, k2⟩ := hblk b2 o2 g2
        rw [e1, Ren.bind_blk, k1] at he
        omega
    · rw [if_neg e1] at g1
      by_cases e2 : b2 = β
      · obtain ⟨k1, k2⟩ := hblk b1 o1 g1
        rw [e2, Ren.bind_blk, k1] at he
        omega
      · rw [if_neg e2] at g2
        rw [(hblk b1 o1 g1).1, (hblk b2 o2 g2).1] at he
        exact hr.inj b1 b2 o1 o2 g1 g2 he
  · have hi' : nx ≤ i := hi
    rintro (hk | rfl)
    · exact hnx i hi' hk
    · omega

theorem Rep.make_next {c : Nat} {o : AObj} {ob : Obj} {w' : World} (hr : Rep Γ X w0 θ K h w) (h1 : w'.os = w.os) (h2 : w'.tape = w.tape) (h3 : w'.output = w.output) (h4 : w'.heap = w.heap.push ob)
    (hok : o.ok (also K h.next)) (hO : ORep (θ.bind h.next w.heap.size c) o ob) : Rep Γ X w0 (θ.bind h.next w.heap.size c) (also K h.next) ⟨h.objs.set h.next o, h.next + 1⟩ w' :=
  hr.make (hr.next _ (Nat.le_refl _)) (fun i hi => hr.next i (by omega)) (Nat.lt_succ_self _) h1 h2 h3 h4 hok hO

theorem Rep.okAll (hr : Rep Γ X w0 θ K h w) : ∀ b o, h.objs.get b = some o → o.ok K := fun b o hb => (hr.obj b o hb).2.2.1

/-- Fewer blocks are known. -/
theorem Rep.fewer {t : T AObj} (hr : Rep Γ X w0 θ K h w) (hs : ∀ b o, t.get b = some o → h.objs.get b = some o) : Rep Γ X w0 θ K ⟨t, h.next⟩ w :=
  ⟨hr.os, hr.tape, hr.output, hr.size, hr.kept, hr.low, hr.glob, fun b o hb => hr.obj b o (hs b o hb), fun b b' o o' hb hb' => hr.inj b b' o o' (hs b o hb) (hs b' o' hb'), hr.next, hr.inv⟩

/-! ### what an operation that turns memory comes to -/
def Eff (P : Program) (Γ : Env) (X : Nat → Prop) (w0 : World) (θ : Ren) (K : Nat → Prop) (n : Nat) (s : Sem Next) (w : World) (outs : List (SV × Hp)) : Prop :=
  ∃ r ∈ outs, ∃ (θ' : Ren) (K' : Nat → Prop) (w' : World) (nx : Next), Ext K θ θ' ∧ (∀ i, K i → K' i) ∧ (∀ i, K' i → K i ∨ n ≤ i) ∧ s.run P w = .ok nx w' ∧
    (nx = .value (conc θ' r.1) ∨ (nx = .skip ∧ r.1 = .lit undef)) ∧ r.1.ok K' ∧ Rep Γ X w0 θ' K' r.2 w'

theorem one_conc {v : SV} (h : v.one = true) : (conc θ v).oneCell' = true := by
  unfold SV.one at h
  split at h
  all_goals first
    | cases h
    | skip
  rename_i h1 h2 h3 h4
  cases v with
  | lit x => cases x <;> first | rfl | exact absurd rfl (h3 _) | exact absurd rfl (h4 _)
  | agg l => exact absurd rfl (h1 l)
  | tuple l => exact absurd rfl (h2 l)
  | opq i => simp only [conc]; cases θ.opq i <;> rfl
  | _ => rfl
theorem all_one {vs : List SV} (h : vs.all SV.one = true) : ∀ v ∈ concL θ vs, v.oneCell' = true := fun v hv => by
  rw [concL_eq] at hv
  obtain ⟨x, hx, rfl⟩ := List.mem_map.1 hv
  exact one_conc (List.all_eq_true.1 h x hx)

/-- Cells are stored into a block of known cells. -/
theorem storeCells_rep {b off : Nat} {l l' vs : List SV} {o : AObj} (hr : Rep Γ X w0 θ K h w) (hb : h.objs.get b = some o) (hs : splice l off vs = some l') (hv : SV.okL K vs)
    (ho : (∃ e, o = .cells l e) ∨ (∃ e k cv s, o = .row l e k cv s)) :
    ∃ (o' : AObj) (w' : World), (∀ e, o = .cells l e → o' = .cells l' e) ∧ (∀ e k cv s, o = .row l e k cv s → o' = .row l' e k cv s) ∧ (storeCells ⟨θ.blk b, off, none⟩ (concL θ vs) 0).run P w = .ok () w' ∧ Rep Γ X w0 θ K (h.upd b o') w' := by
  obtain ⟨hKb, hXb, hok, ob, hw, hO⟩ := hr.obj b o hb
  obtain ⟨⟨hle, hl'⟩, hone⟩ := splice_all hs
  have hlen := splice_length hs
  rcases ho with ⟨e, rfl⟩ | ⟨e, k, cv, s, rfl⟩
  · obtain ⟨fr, rfl, hfr⟩ := hO
    have hrun := run_storeCells_any (P := P) (off := off) (concL θ vs) 0 (concL θ l) w hw (by simp only [concL_length, Nat.add_zero]; exact hle) (by simpa using hfr) (all_one hone)
    simp only [Nat.add_zero, concL_length] at hrun
    rw [← concL_splice hs] at hrun
    exact ⟨.cells l' e, _, (fun e1 he => by cases he; rfl), (fun e1 k1 cv1 s1 he => by cases he), hrun, hr.turn (o' := .cells l' e) hb (splice_ok hs hok hv) ⟨fr, rfl, by rw [hlen]; exact hfr⟩⟩
  · obtain ⟨fr, ex, rfl, hfr, hsz⟩ := hO
    have hrun := run_storeCells_any (P := P) (off := off) (concL θ vs) 0 (concL θ l ++ ex) w hw (by simp only [concL_length, Nat.add_zero, List.length_append]; omega) (by simpa using hfr) (all_one hone)
    simp only [Nat.add_zero, concL_length] at hrun
    have he : (concL θ l ++ ex).take off ++ concL θ vs ++ (concL θ l ++ ex).drop (off + vs.length) = concL θ l' ++ ex := by
      rw [concL_splice hs, List.take_append_of_le_length (by simp only [concL_length]; omega), List.drop_append_of_le_length (by simp only [concL_length]; omega)]
      simp
    rw [he] at hrun
    exact ⟨.row l' e k cv s, _, (fun e1 he => by cases he), (fun e1 k1 cv1 s1 he => by cases he; rfl), hrun, hr.turn (o' := .row l' e k cv s) hb ⟨splice_ok hs hok.1 hv, hok.2⟩ ⟨fr, ex, rfl, by rw [hlen]; exact hfr, by rw [hlen]; exact hsz⟩⟩

/-! ### store -/
theorem storeE_sound {t : TypeId} {p v : SV} {h' : Hp} (hq : storeE P h t p v = some h') (hr : Rep Γ X w0 θ K h w) (hv : v.ok K) :
    ∃ w', (Instr.storeAt t (conc θ p) (conc θ v)).run P w = .ok () w' ∧ Rep Γ X w0 θ K h' w' := by
  unfold storeE at hq
  split at hq
  · rename_i n b off hn
    cases hbe : Nat.beq v.cells.length n with
    | false => rw [hbe] at hq; cases hq
    | true =>
      rw [hbe] at hq
      simp only [cond_true] at hq
      have hsz : (conc θ v).cells.size = n := by rw [cells_conc]; simp [eq_of_beq hbe]
      have hcl : (conc θ v).cells.toList = concL θ v.cells := by rw [cells_conc]
      split at hq
      · rename_i l e hb
        rw [Option.map_eq_some_iff] at hq
        obtain ⟨l', hs, rfl⟩ := hq
        obtain ⟨o', w', ho', _, hrun, hrep⟩ := storeCells_rep (P := P) hr hb hs (cells_ok hv) (.inl ⟨e, rfl⟩)
        rw [ho' e rfl] at hrep
        refine ⟨w', ?_, hrep⟩
        simp only [Instr.storeAt, conc, Instr.sureAddr, storeVar, Sem.run_bind, Sem.run_pure, Result.andThen, r_sizeOf hn w, hsz, ne_eq, not_true_eq_false, if_false, hcl]
        exact hrun
      · rename_i l e k cv s hb
        rw [Option.map_eq_some_iff] at hq
        obtain ⟨l', hs, rfl⟩ := hq
        obtain ⟨o', w', _, ho', hrun, hrep⟩ := storeCells_rep (P := P) hr hb hs (cells_ok hv) (.inr ⟨e, k, cv, s, rfl⟩)
        rw [ho' e k cv s rfl] at hrep
        refine ⟨w', ?_, hrep⟩
        simp only [Instr.storeAt, conc, Instr.sureAddr, storeVar, Sem.run_bind, Sem.run_pure, Result.andThen, r_sizeOf hn w, hsz, ne_eq, not_true_eq_false, if_false, hcl]
        exact hrun
      · cases hq
  · cases hq

/-! ### new blocks -/
theorem ok_also {v : SV} {β : Nat} (hv : v.ok K) : v.ok (also K β) := ok_mono also_mono v hv
theorem okL_also {l : List SV} {β : Nat} (hv : SV.okL K l) : SV.okL (also K β) l := okL_mono also_mono l hv

theorem frOk_zero (n : Nat) : frOk (0, 0) n := .inl rfl

/-- A block of known cells is made. -/
theorem newCells_rep {l : List SV} {e : TypeId} (hr : Rep Γ X w0 θ K h w) (hl : SV.okL K l) :
    Rep Γ X w0 (θ.bind h.next w.heap.size 0) (also K h.next) ⟨h.objs.set h.next (.cells l e), h.next + 1⟩ (w.alloc (.cells (concL θ l).toArray e)) :=
  hr.make_next rfl rfl rfl rfl (okL_also hl) ⟨(0, 0), by rw [concL_ext (Ren.bind_ext (hr.next _ (Nat.le_refl _))) l hl], frOk_zero _⟩

theorem repeatL_length (z : List SV) (n : Nat) : (repeatL z n).length = n * z.length := by
  induction n with
  | zero => simp [repeatL]
  | succ n ih => rw [repeatL, List.length_append, ih, Nat.succ_mul, Nat.add_comm]
theorem repeatL_get (z : List SV) : ∀ (n i : Nat), i < n * z.length → (repeatL z n)[i]? = z[i % z.length]? := by
  intro n
  induction n with
  | zero => intro i h; simp at h
  | succ n ih =>
    intro i h
    rw [repeatL]
    by_cases hi : i < z.length
    · rw [List.getElem?_append_left hi, Nat.mod_eq_of_lt hi]
    · rw [List.getElem?_append_right (by omega), ih (i - z.length) (by rw [Nat.succ_mul] at h; omega)]
      rw [← Nat.mod_eq_sub_mod (a := i) (b := z.length) (by omega)]
theorem repeatL_ok {z : List SV} (hz : SV.okL K z) : ∀ n, SV.okL K (repeatL z n)
  | 0 => trivial
  | n + 1 => okL_append hz (repeatL_ok hz n)

/-- So many zeros, as the model lays them. -/
theorem zeros_eq (z : Value) (n m : Nat) (hm : m = n * z.cells.size) :
    ((Array.range m).map fun i => z.cells[i % z.cells.size]!) = (concL θ (repeatL (SV.cells (.lit z)) n)).toArray := by
  have hc : z.cells = (concL θ (SV.cells (.lit z))).toArray := cells_conc θ (.lit z)
  have hlen : (SV.cells (.lit z)).length = z.cells.size := by rw [hc]; simp
  apply Array.ext
  · simp [repeatL_length, hlen, hm]
  · intro i h1 h2
    have hi : i < n * (SV.cells (.lit z)).length := by rw [hlen, ← hm]; simpa using h1
    have hpos : 0 < (SV.cells (.lit z)).length := by
      rcases Nat.eq_zero_or_pos (SV.cells (.lit z)).length with h0 | h0
      · rw [h0] at hi; simp at hi
      · exact h0
    have hmod : i % (SV.cells (.lit z)).length < (SV.cells (.lit z)).length := Nat.mod_lt _ hpos
    have hg := repeatL_get (SV.cells (.lit z)) n i hi
    have h2' : i < (concL θ (repeatL (SV.cells (.lit z)) n)).length := by simpa using h2
    have e1 : (concL θ (repeatL (SV.cells (.lit z)) n))[i]? = (concL θ (SV.cells (.lit z)))[i % (SV.cells (.lit z)).length]? := by
      rw [concL_get, concL_get, hg]
    have hmod' : i % z.cells.size < z.cells.size := by rw [← hlen]; exact hmod
    simp only [Array.getElem_map, Array.getElem_range, List.getElem_toArray]
    rw [getElem!_pos z.cells (i % z.cells.size) hmod']
    have e2 : z.cells[i % z.cells.size]? = (concL θ (SV.cells (.lit z)))[i % (SV.cells (.lit z)).length]? := by
      rw [hlen]
      conv => lhs; rw [hc]
      simp [hlen]
    rw [← e1, List.getElem?_eq_getElem h2', Array.getElem?_eq_getElem hmod'] at e2
    exact Option.some.inj e2

theorem alloc_sound {e : TypeId} {z : Value} (hz : tyZero P e = some z) (w : World) :
    (Instr.alloc e true (.tuple #[])).run P w = .ok (.pointer (some ⟨w.heap.size, 0, none⟩)) (w.alloc (.cells z.cells e)) := by
  simp only [Instr.alloc, Sem.run_bind, r_zeroValue hz w, Result.andThen, newVar, newRow, run_newObj, Sem.run_pure, World.alloc_eq]

theorem buildSliceE_sound {t : TypeId} {len : Nat} {parts : List (Nat × SV)} {r : SV × Hp} (hq : buildSliceE P h t len parts = some r) (hr : Rep Γ X w0 θ K h w) (hp : ∀ p ∈ parts, p.2.ok K) :
    ∃ θ' K' w', Ext K θ θ' ∧ (∀ i, K i → K' i) ∧ (∀ i, K' i → K i ∨ h.next ≤ i) ∧ (Instr.buildSlice t len (parts.map fun p => (p.1, conc θ p.2)).toArray).run P w = .ok (conc θ' r.1) w' ∧ r.1.ok K' ∧ Rep Γ X w0 θ' K' r.2 w' := by
  unfold buildSliceE at hq
  split at hq
  · rename_i e hu
    split at hq
    · rename_i size z hs hz
      cases hc : Nat.ble (len * size) 16777216 && Nat.beq (SV.cells (.lit z)).length size with
      | false => rw [hc] at hq; cases hq
      | true =>
        rw [hc] at hq
        rw [Bool.and_eq_true] at hc
        have hle := le_of_ble hc.1
        have hsz : z.cells.size = size := by rw [← eq_of_beq hc.2]; have := cells_conc θ (.lit z); simp only [conc] at this; rw [this]; simp
        simp only [cond_true] at hq
        split at hq
        · rename_i l hf
          simp only [Option.some.injEq] at hq; subst hq
          have hnk := hr.next h.next (Nat.le_refl _)
          have hnot : ¬ (len * size > 2 ^ 24) := by omega
          by_cases h0 : len * size = 0
          · rw [beq_t h0] at hf
            have hlok := fillQ_ok (K := K) parts hf trivial hp
            have hfs := fillQ_sound (θ := θ) parts hf
            refine ⟨_, _, _, Ren.bind_ext hnk, also_mono, also_fresh, ?_, .inr rfl, newCells_rep hr hlok⟩
            have hfs' : Instr.fill (fun i => some (i * size, size)) #[] (parts.map fun p => (p.1, conc θ p.2)) = some (concL θ l).toArray := hfs
            have hr0 : ∀ f : Nat → Value, Array.map f (Array.range 0) = #[] := fun f => by simp
            simp only [Instr.buildSlice, Sem.run_bind, r_underlying hu w, Result.andThen, r_sizeOf hs w, h0, Nat.not_lt_zero, gt_iff_lt, if_false, if_true, Sem.run_pure, hr0, hfs', newRow, run_newObj, World.alloc_eq, Hp.new, conc, Ren.bind_blk]
          · rw [beq_f h0] at hf
            have hlok := fillQ_ok (K := K) parts hf (repeatL_ok (cells_ok (v := .lit z) trivial) len) hp
            have hfs := fillQ_sound (θ := θ) parts hf
            refine ⟨_, _, _, Ren.bind_ext hnk, also_mono, also_fresh, ?_, .inr rfl, newCells_rep hr hlok⟩
            have hze := zeros_eq (θ := θ) z len (len * size) (by rw [hsz])
            simp only [cond_false] at hfs
            simp only [Instr.buildSlice, Sem.run_bind, r_underlying hu w, Result.andThen, r_sizeOf hs w, hnot, if_false, h0, r_zeroValue hz w, Sem.run_pure, hze, hfs, newRow, run_newObj, World.alloc_eq, Hp.new, conc, Ren.bind_blk]
        · cases hq
    · cases hq
  · cases hq
end
end Go.Proofs.YthjkejnmjbljfaaGreatDoor.Ev
