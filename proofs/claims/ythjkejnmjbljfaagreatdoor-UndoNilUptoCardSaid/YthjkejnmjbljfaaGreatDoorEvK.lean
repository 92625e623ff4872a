/-
  THE EVALUATOR'S OPERATIONS THAT MAKE OR TURN MEMORY ARE THE MODEL'S (4: copy, bytes of a string; all of them in one word), by the author of this claim. Of any program; no condition.
-/
import Derived.Test.YthjkejnmjbljfaaGreatDoorEvJ
namespace Go.Proofs.YthjkejnmjbljfaaGreatDoor.Ev
open Go Go.RowKit

section
variable {P : Program} {Γ : Env} {X : Nat → Prop} {w0 : World} {θ : Ren} {K : Nat → Prop} {h : Hp} {w : World}

theorem lenOf_firstCells {size n m : Nat} {x : SV} {vs : List SV} (hq : srcCells Γ h size x = some (vs, n)) (hr : Rep Γ X w0 θ K h w) (hm : m ≤ n) (hsz : vs.length = n * size) :
    (Builtin.firstCells size m (conc θ x)).run P w = .ok (concL θ (vs.take (m * size))).toArray w := by
  have hmn : m * size ≤ n * size := Nat.mul_le_mul_right _ hm
  have hct : concL θ (vs.take (m * size)) = (concL θ vs).take (m * size) := by simp only [concL_eq, List.map_take]
  unfold srcCells at hq
  split at hq
  · simp only [Option.some.injEq, Prod.mk.injEq] at hq
    obtain ⟨rfl, rfl⟩ := hq
    rw [List.take_nil]; rfl
  · rename_i s
    simp only [Option.some.injEq, Prod.mk.injEq] at hq
    obtain ⟨rfl, rfl⟩ := hq
    rw [List.length_map, Array.length_toList] at hsz
    have hdisj : s.size = 0 ∨ size = 1 := by
      have e1 : s.data.size = s.size := rfl
      rw [e1] at hsz
      rcases Nat.eq_zero_or_pos s.size with h0 | h0
      · exact .inl h0
      · right
        have : s.size * 1 = s.size * size := by omega
        exact (Nat.eq_of_mul_eq_mul_left h0 this).symm
    rw [hct]
    simp only [conc, Builtin.firstCells, Sem.run_pure]
    congr 1
    rw [← Array.toList_inj]
    rcases hdisj with h0 | rfl
    · have hm0 : m = 0 := by omega
      subst hm0
      simp
    · simp [concL_eq, List.extract_eq_take_drop]
      rfl
  · rename_i b off k c
    split at hq
    · rename_i us fs hus
      simp only [Option.some.injEq, Prod.mk.injEq] at hq
      obtain ⟨rfl, rfl⟩ := hq
      obtain ⟨a, ha, _, hc⟩ := readCells_sound (θ := θ) hus hr.globW (fun f hf => hr.fact (readCells_facts hus f hf))
      simp only [conc, Value.pointer.injEq, Option.some.injEq] at ha
      subst ha
      have := run_loadCells_list (P := P) w ⟨θ.blk b, off, none⟩ (concL θ (us.take (m * size))) (fun j v hv => by
        rw [concL_get, Option.map_eq_some_iff] at hv
        obtain ⟨y, hy, rfl⟩ := hv
        have hj : j < m * size := by
          have := (List.getElem?_eq_some_iff.1 hy).1
          rw [List.length_take] at this; omega
        rw [List.getElem?_take_of_lt hj] at hy
        exact hc j y hy)
      rw [concL_length, List.length_take, Nat.min_eq_left (by omega)] at this
      exact this
    · cases hq
  · rename_i b off k kk cv
    split at hq
    · rename_i us fs hus
      simp only [Option.some.injEq, Prod.mk.injEq] at hq
      obtain ⟨rfl, rfl⟩ := hq
      obtain ⟨a, ha, _, hc⟩ := readCells_sound (θ := θ) hus hr.globW (fun f hf => hr.fact (readCells_facts hus f hf))
      simp only [conc, Value.pointer.injEq, Option.some.injEq] at ha
      subst ha
      have := run_loadCells_list (P := P) w ⟨θ.blk b, off, none⟩ (concL θ (us.take (m * size))) (fun j v hv => by
        rw [concL_get, Option.map_eq_some_iff] at hv
        obtain ⟨y, hy, rfl⟩ := hv
        have hj : j < m * size := by
          have := (List.getElem?_eq_some_iff.1 hy).1
          rw [List.length_take] at this; omega
        rw [List.getElem?_take_of_lt hj] at hy
        exact hc j y hy)
      rw [concL_length, List.length_take, Nat.min_eq_left (by omega)] at this
      exact this
    · cases hq
  · cases hq

theorem copyE_sound {tys : Array TypeId} {args : Array Value} {ty t : TypeId} {d s : SV} {r : SV × Hp} (hq : copyE P Γ h t d s = some r) (hr : Rep Γ X w0 θ K h w) (ht : tys[0]? = some t)
    (ha0 : args[0]? = some (conc θ d)) (ha1 : args[1]? = some (conc θ s)) : AppOut P Γ X w0 θ K h.next (Builtin.copy_ tys ty args) w r := by
  unfold copyE at hq
  split at hq
  · rename_i e hu
    split at hq
    · rename_i size hs
      split at hq
      · rename_i vs n c hsrc
        simp only [Option.some.injEq] at hq; subst hq
        obtain ⟨hlen, _, _⟩ := srcCells_sound (P := P) hsrc hr
        have hmin : Nat.min n 0 = 0 := Nat.min_zero n
        have h0 : (Builtin.firstCells size 0 (conc θ s)).run P w = .ok #[] w := by
          unfold srcCells at hsrc
          split at hsrc
          · rfl
          · simp [conc, Builtin.firstCells]
          · simp [conc, Builtin.firstCells, loadCells, loadCellsFrom]
          · simp [conc, Builtin.firstCells, loadCells, loadCellsFrom]
          · cases hsrc
        refine ⟨θ, K, w, Ext.refl _ _, fun _ h => h, fun _ h => .inl h, ?_, trivial, hr⟩
        simp only [Builtin.copy_, ht, ha0, ha1, conc, Sem.run_bind, r_underlying hu w, Result.andThen, hlen, hmin, r_sizeOf hs w, h0, Sem.run_pure]
        rfl
      · rename_i vs n b off dlen c hsrc
        split at hq
        · rename_i l e' hb
          cases hvl : Nat.beq vs.length (n * size) with
          | false => rw [hvl] at hq; cases hq
          | true =>
            rw [hvl] at hq
            simp only [cond_true] at hq
            rw [Option.map_eq_some_iff] at hq
            obtain ⟨l', hsp, rfl⟩ := hq
            obtain ⟨hlen, _, hvok⟩ := srcCells_sound (P := P) hsrc hr
            have hfc : (Builtin.firstCells size (Nat.min n dlen) (conc θ s)).run P w = .ok (concL θ (vs.take (Nat.min n dlen * size))).toArray w := lenOf_firstCells hsrc hr (Nat.min_le_left n dlen) (eq_of_beq hvl)
            obtain ⟨o', w', ho', _, hst, hrep⟩ := storeCells_rep (P := P) hr hb hsp (okL_sub hvok fun v hv => List.mem_of_mem_take hv) (.inl ⟨e', rfl⟩)
            rw [ho' e' rfl] at hrep
            refine ⟨θ, K, w', Ext.refl _ _, fun _ h => h, fun _ h => .inl h, ?_, trivial, hrep⟩
            simp only [Builtin.copy_, ht, ha0, ha1, conc, Sem.run_bind, r_underlying hu w, Result.andThen, hlen, r_sizeOf hs w, hfc, hst, Sem.run_pure]
        · cases hq
      · rename_i vs n b off dlen kk cv hsrc
        split at hq
        · rename_i l e' k' cv' s' hb
          cases hvl : Nat.beq vs.length (n * size) with
          | false => rw [hvl] at hq; cases hq
          | true =>
            rw [hvl] at hq
            simp only [cond_true] at hq
            rw [Option.map_eq_some_iff] at hq
            obtain ⟨l', hsp, rfl⟩ := hq
            obtain ⟨hlen, _, hvok⟩ := srcCells_sound (P := P) hsrc hr
            have hfc : (Builtin.firstCells size (Nat.min n dlen) (conc θ s)).run P w = .ok (concL θ (vs.take (Nat.min n dlen * size))).toArray w := lenOf_firstCells hsrc hr (Nat.min_le_left n dlen) (eq_of_beq hvl)
            obtain ⟨o', w', _, ho', hst, hrep⟩ := storeCells_rep (P := P) hr hb hsp (okL_sub hvok fun v hv => List.mem_of_mem_take hv) (.inr ⟨e', k', cv', s', rfl⟩)
            rw [ho' e' k' cv' s' rfl] at hrep
            refine ⟨θ, K, w', Ext.refl _ _, fun _ h => h, fun _ h => .inl h, ?_, trivial, hrep⟩
            simp only [Builtin.copy_, ht, ha0, ha1, conc, Sem.run_bind, r_underlying hu w, Result.andThen, hlen, r_sizeOf hs w, hfc, hst, Sem.run_pure]
        · cases hq
      · cases hq
    · cases hq
  · cases hq

/-- The mark that a block of bytes has been looked at as a text lies behind its cells. -/
theorem mark_cells {b off : Nat} {o : AObj} {ob : Obj} (hw : w.heap[θ.blk b]? = some ob) (hO : ORep θ o ob) (ho : (∃ l e, o = .cells l e) ∨ (∃ l e k cv s, o = .row l e k cv s)) :
    ∃ w2, (markStringish ⟨θ.blk b, off, none⟩).run P w = .ok () w2 ∧ ∃ ob', w2 = setB w (θ.blk b) ob' ∧ ORep θ o ob' := by
  have key : ∀ (c : Array Value) (e : TypeId) (fr : Nat × Nat), ob = .cells c e fr → frOk fr c.size → ∃ fr' : Nat × Nat, frOk fr' c.size ∧ (markStringish ⟨θ.blk b, off, none⟩).run P w = .ok () (setB w (θ.blk b) (.cells c e fr')) := by
    intro c e fr he hfr
    subst he
    have hlt := (Array.getElem?_eq_some_iff.1 hw).1
    obtain ⟨lo, hi⟩ := fr
    refine ⟨if lo == hi then (c.size, c.size + 1) else (min lo c.size, max hi (c.size + 1)), ?_, ?_⟩
    · by_cases h : lo = hi
      · subst h; simp [frOk]
      · have hne : (lo == hi) = false := by simpa using h
        rw [hne]
        rcases hfr with hfr | hfr
        · exact absurd hfr h
        · right; simp only [Bool.false_eq_true, if_false]; exact Nat.le_min.2 ⟨hfr, Nat.le_refl _⟩
    · have hshape : w.shape? (θ.blk b) = some (e, c.size) := by simp [World.shape?, hw]
      simp only [markStringish, Sem.run_bind, run_shape, hshape, Result.andThen, run_freeze]
      congr 1
      have : (w.freeze { block := θ.blk b, off := c.size } 1).heap = (setB w (θ.blk b) (.cells c e (if lo == hi then (c.size, c.size + 1) else (min lo c.size, max hi (c.size + 1))))).heap := Array.ext_getElem? fun k => by
        rw [setB_get]
        simp only [World.freeze, Nat.succ_ne_zero, if_false, Array.getElem?_modify]
        by_cases hk : θ.blk b = k
        · subst hk
          rw [if_pos rfl, if_pos ⟨rfl, hlt⟩, hw]
          simp
        · rw [if_neg hk, if_neg (fun e => hk e.1.symm)]
      simp only [World.freeze, Nat.succ_ne_zero, if_false, setB] at this ⊢
      rw [this]
  rcases ho with ⟨l, e, rfl⟩ | ⟨l, e, k, cv, s, rfl⟩
  · obtain ⟨fr, rfl, hfr⟩ := hO
    obtain ⟨fr', h1, h2⟩ := key _ _ _ rfl (by simpa using hfr)
    exact ⟨_, h2, _, rfl, fr', rfl, by simpa using h1⟩
  · obtain ⟨fr, ex, rfl, hfr, hsz⟩ := hO
    obtain ⟨fr', h1, h2⟩ := key _ _ _ rfl (by simpa using hfr)
    exact ⟨_, h2, _, rfl, fr', ex, rfl, by simpa using h1, hsz⟩

theorem bytesE_sound {s d : TypeId} {x : SV} {r : SV × Hp} (hq : bytesE P h s d x = some r) (hr : Rep Γ X w0 θ K h w) (hxok : x.ok K) : AppOut P Γ X w0 θ K h.next (convert s d (conc θ x)) w r := by
  unfold bytesE at hq
  split at hq
  · rename_i e t hs hd
    split at hq
    · rename_i he
      simp only [Option.some.injEq] at hq; subst hq
      have hnk := hr.next h.next (Nat.le_refl _)
      let c := w.tape w.drawn (.appendCap t.size 0 e) % (2 ^ 63 - t.size)
      let cs : List SV := t.data.toList.map fun b => .lit (.int .u8 b.toNat)
      let ex : List Value := List.replicate c (.int .u8 0)
      have hcs : cs.length = t.size := by simp only [cs, List.length_map, Array.length_toList]; rfl
      have hok : SV.okL K cs := (okL_iff _ _).2 fun v hv => by obtain ⟨y, _, rfl⟩ := List.mem_map.1 hv; trivial
      have harr : (t.data.map fun b => Value.int .u8 b.toNat) ++ Array.replicate c (.int .u8 0) = (concL θ cs ++ ex).toArray := by
        rw [← Array.toList_inj]
        simp [cs, ex, concL_eq, Function.comp, conc]
      have hcut : Question.cut (.appendCap t.size 0 e) (w.tape w.drawn (.appendCap t.size 0 e)) = t.size + c := rfl
      have hfo : Question.forced (.appendCap t.size 0 e) = false := rfl
      let w1 : World := { w.drew with heap := w.heap.push (.cells (concL θ cs ++ ex).toArray e (0, 0)) }
      let n := (concL θ cs ++ ex).length
      have hshape : w1.shape? w.heap.size = some (e, n) := by simp [World.shape?, w1, n]
      let w2 : World := { w.drew with heap := w.heap.push (.cells (concL θ cs ++ ex).toArray e (n, n + 1)) }
      have hfz : w1.freeze { block := w.heap.size, off := n } 1 = w2 := by
        have : (w1.freeze { block := w.heap.size, off := n } 1).heap = w2.heap := Array.ext_getElem? fun k => by
          simp only [World.freeze, Nat.succ_ne_zero, if_false, w1, w2, Array.getElem?_modify, Array.getElem?_push]
          by_cases hk : k = w.heap.size
          · subst hk; simp
          · rw [if_neg (fun e => hk e.symm), if_neg hk, if_neg hk]
        simp only [World.freeze, Nat.succ_ne_zero, if_false] at this ⊢
        simp only [w2] at this ⊢
        rw [this]
      obtain ⟨hrep, hc, hok'⟩ := newRow_rep (h := h) (w1 := w2) (l := cs) (e := e) (len := t.size) (size := 1) (ex := ex) (c := c) (fr := (n, n + 1)) hr hok (by rw [hcs, Nat.mul_one]) (by simp [ex]) rfl rfl rfl rfl
        (.inr (by simp only [n, List.length_append, concL_length]; exact Nat.le_refl _))
      refine ⟨_, _, w2, Ren.bind_ext hnk, also_mono, also_fresh, ?_, hok', hrep⟩
      rw [hc]
      simp only [convert, conc, Sem.run_bind, r_underlying hs w, r_underlying hd w, Result.andThen, r_underlying he w, Conv.stringToBytes, run_choose, hfo, Bool.false_eq_true, if_false, hcut, World.drew_eq, newRow, run_newObj, Sem.run_pure, Nat.add_sub_cancel_left, harr]
      have hms : (markStringish ⟨w.heap.size, 0, none⟩).run P w1 = .ok () w2 := by
        simp only [markStringish, Sem.run_bind, run_shape, hshape, Result.andThen, run_freeze, hfz]
      have hms' : (markStringish ⟨w.drew.heap.size, 0, none⟩).run P { w.drew with heap := w.drew.heap.push (.cells (concL θ cs ++ ex).toArray e) } = .ok () w2 := hms
      rw [hms']
      rfl
    · cases hq
  · rename_i e0 e b off n c hs hd
    split at hq
    · rename_i l e' hsd he hb
      simp only [Option.some.injEq] at hq; subst hq
      have hsd' := eq_of_beq hsd
      obtain ⟨hKb, _, hok, ob, hw, hO0⟩ := hr.obj b _ hb
      obtain ⟨w2, hm, ob', rfl, hO⟩ := mark_cells (P := P) (θ := θ) (o := .cells l e') (off := off) hw hO0 (.inl ⟨l, e', rfl⟩)
      refine ⟨θ, K, _, Ext.refl _ _, fun _ h => h, fun _ h => .inl h, ?_, hKb, hr.turn hb hok hO⟩
      have hbeq : (s == d) = true := by rw [hsd']; exact BEq.rfl
      simp only [convert, conc, Sem.run_bind, r_underlying hs w, r_underlying hd w, Result.andThen, r_underlying he w, hbeq, hm, Sem.run_pure]
    · rename_i l e' k cv z hsd he hb
      simp only [Option.some.injEq] at hq; subst hq
      have hsd' := eq_of_beq hsd
      obtain ⟨hKb, _, hok, ob, hw, hO0⟩ := hr.obj b _ hb
      obtain ⟨w2, hm, ob', rfl, hO⟩ := mark_cells (P := P) (θ := θ) (o := .row l e' k cv z) (off := off) hw hO0 (.inr ⟨l, e', k, cv, z, rfl⟩)
      refine ⟨θ, K, _, Ext.refl _ _, fun _ h => h, fun _ h => .inl h, ?_, hKb, hr.turn hb hok hO⟩
      have hbeq : (s == d) = true := by rw [hsd']; exact BEq.rfl
      simp only [convert, conc, Sem.run_bind, r_underlying hs w, r_underlying hd w, Result.andThen, r_underlying he w, hbeq, hm, Sem.run_pure]
    · cases hq
  · rename_i e0 e b off n k' cv' hs hd
    split at hq
    · rename_i l e' hsd he hb
      simp only [Option.some.injEq] at hq; subst hq
      have hsd' := eq_of_beq hsd
      obtain ⟨hKb, _, hok, ob, hw, hO0⟩ := hr.obj b _ hb
      obtain ⟨w2, hm, ob', rfl, hO⟩ := mark_cells (P := P) (θ := θ) (o := .cells l e') (off := off) hw hO0 (.inl ⟨l, e', rfl⟩)
      refine ⟨θ, K, _, Ext.refl _ _, fun _ h => h, fun _ h => .inl h, ?_, hxok, hr.turn hb hok hO⟩
      have hbeq : (s == d) = true := by rw [hsd']; exact BEq.rfl
      simp only [convert, conc, Sem.run_bind, r_underlying hs w, r_underlying hd w, Result.andThen, r_underlying he w, hbeq, hm, Sem.run_pure]
    · rename_i l e' k cv z hsd he hb
      simp only [Option.some.injEq] at hq; subst hq
      have hsd' := eq_of_beq hsd
      obtain ⟨hKb, _, hok, ob, hw, hO0⟩ := hr.obj b _ hb
      obtain ⟨w2, hm, ob', rfl, hO⟩ := mark_cells (P := P) (θ := θ) (o := .row l e' k cv z) (off := off) hw hO0 (.inr ⟨l, e', k, cv, z, rfl⟩)
      refine ⟨θ, K, _, Ext.refl _ _, fun _ h => h, fun _ h => .inl h, ?_, hxok, hr.turn hb hok hO⟩
      have hbeq : (s == d) = true := by rw [hsd']; exact BEq.rfl
      simp only [convert, conc, Sem.run_bind, r_underlying hs w, r_underlying hd w, Result.andThen, r_underlying he w, hbeq, hm, Sem.run_pure]
    · cases hq
  · cases hq

/-- The entry at which an iterator stands. -/
theorem entryE_sound {it : SV} {r : SV × Hp} (hq : entryE h it = some r) (hr : Rep Γ X w0 θ K h w) : AppOut P Γ X w0 θ K h.next (Instr.entry (conc θ it)) w r := by
  unfold entryE at hq
  split at hq
  · rename_i b
    split at hq
    · rename_i m since seen last hb
      split at hq
      · rename_i stamp es clock hs hm
        cases hc : Nat.beq clock last with
        | false => rw [hc] at hq; cases hq
        | true =>
          rw [hc] at hq
          simp only [cond_true] at hq
          have hcl := eq_of_beq hc
          subst hcl
          split at hq
          · rename_i e he
            simp only [Option.some.injEq] at hq; subst hq
            obtain ⟨_, _, _, ob, hw, hO⟩ := hr.obj b _ hb
            simp only [ORep, Option.map_some] at hO
            subst hO
            obtain ⟨hg, _⟩ := hr.other (P := P) hb hw (fun _ _ _ he => by cases he)
            obtain ⟨hgm, _⟩ := hr.map (P := P) hm
            have hmok := hr.okAll m _ hm
            have hback : seen.toArray.back? = some stamp := by rw [← hs]; simp
            have hfind : (es.map (entryC θ)).toArray.find? (fun x => x.born == stamp) = some (entryC θ e) := by
              rw [List.find?_toArray, List.find?_map]
              have : ((fun x : MapEntry => x.born == stamp) ∘ entryC θ) = fun e => Nat.beq e.2.2 stamp := by
                funext x
                show (x.2.2 == stamp) = Nat.beq x.2.2 stamp
                rw [Bool.eq_iff_iff]; simp [Nat.beq_eq]
              rw [this, he]; rfl
            have hin := List.mem_of_find?_eq_some he
            refine ⟨θ, K, w, Ext.refl _ _, fun _ h => h, fun _ h => .inl h, ?_, ⟨(hmok e hin).1, (hmok e hin).2, trivial⟩, hr⟩
            simp only [Instr.entry, conc, Sem.run_bind, hg, Result.andThen, hback, hgm, bne_self_eq_false, Bool.false_eq_true, if_false, hfind, Sem.run_pure]
            rfl
          · cases hq
      · cases hq
    · cases hq
  · cases hq
end
end Go.Proofs.YthjkejnmjbljfaaGreatDoor.Ev
