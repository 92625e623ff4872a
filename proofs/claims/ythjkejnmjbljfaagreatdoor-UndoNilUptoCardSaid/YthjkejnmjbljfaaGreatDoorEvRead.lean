/-
  WHAT CAME IN, AS THE EVALUATOR READS IT, by the author of this claim: a table of all blocks of a world; what a reading of the arguments says of their cells. Of any program.
-/
import Derived.Test.YthjkejnmjbljfaaGreatDoorEvT
import Derived.DeepKeys4
namespace Go.Proofs.YthjkejnmjbljfaaGreatDoor.Ev
open Go Go.RowKit

theorem mem_piece {α : Type} {c : α} : ∀ {sizes : List Nat} {cs : List α}, cs.length = sizes.sum → c ∈ cs → ∃ (j s : Nat), sizes[j]? = some s ∧ c ∈ (cs.drop (sizes.take j).sum).take s
  | [], cs, h, hc => by
    have : cs = [] := List.length_eq_zero_iff.1 (by simpa using h)
    subst this; cases hc
  | s :: rest, cs, h, hc => by
    rw [← List.take_append_drop s cs] at hc
    rcases List.mem_append.1 hc with hc | hc
    · exact ⟨0, s, rfl, by simpa using hc⟩
    · obtain ⟨j, s', h1, h2⟩ := mem_piece (sizes := rest) (cs := cs.drop s) (by simp only [List.sum_cons] at h; rw [List.length_drop]; omega) hc
      refine ⟨j + 1, s', by simpa using h1, ?_⟩
      rw [List.drop_drop] at h2
      simpa [List.take_succ_cons, List.sum_cons, Nat.add_comm] using h2
section
variable {H : Type} {enc : TypeId × Value → H} {P : Program} {w : World} {base : Nat} {sp : Nat → Bool} {held : Bool}
theorem single {v c : Value} (h : SV.one (.lit v) = true) (hc : c ∈ [v]) : SV.one (.lit c) = true := by rw [List.mem_singleton.1 hc]; exact h
theorem range_take_sum (n k j : Nat) : j ≤ n → ((List.replicate n k).take j).sum = j * k := by
  intro h
  rw [List.take_replicate, Nat.min_eq_left h]
  simp
theorem trod_one (hT : ∀ t, t < P.types.size → rowFine P t = true) : ∀ (fuel : Nat) (t : TypeId) (cs : List Value) (d : DataW H) (ps : List MemPlace), isVar P t = true → DataW.trod enc P w base sp held fuel t cs = some (d, ps) → ∀ c ∈ cs, SV.one (.lit c) = true
  | 0, _, _, _, _, _, h => by cases h
  | fuel + 1, t, cs, d, ps, hv, h => by
    have hlt : t < P.types.size := by simp only [isVar, Bool.and_eq_true, decide_eq_true_eq] at hv; exact hv.1
    have hr := hT t hlt
    unfold rowFine at hr
    rw [hv] at hr
    unfold DataW.trod at h
    split at h
    case h_9 fs hu =>
      rw [hu] at hr
      simp only [Bool.not_true, Bool.false_or, Bool.and_eq_true, List.all_eq_true, beq_iff_eq] at hr
      obtain ⟨⟨h1, h2⟩, h3⟩ := hr
      split at h
      case isFalse => cases h
      rename_i hl
      rw [Option.map_eq_some_iff] at h
      obtain ⟨xs, hxs, _⟩ := h
      intro c hc
      rw [h2] at hl
      obtain ⟨j, s, hj, hcj⟩ := mem_piece hl hc
      rw [List.getElem?_map, Option.map_eq_some_iff] at hj
      obtain ⟨f, hf, rfl⟩ := hj
      have hjl : j < fs.toList.length := (List.getElem?_eq_some_iff.1 hf).1
      have h3' := h3 j (List.mem_range.2 hjl)
      rw [hf] at h3'
      simp only [beq_iff_eq] at h3'
      have hget := mapM_some_get hxs j f hf
      cases hx : xs[j]? with
      | none =>
        have := mapM_some_length hxs
        rw [List.getElem?_eq_none_iff] at hx
        omega
      | some x =>
        rw [hx] at hget
        rw [← List.map_take] at hcj
        rw [← h3'] at hcj
        exact trod_one hT fuel f.type _ x.1 x.2 (h1 f (List.mem_of_getElem? hf)) hget c hcj
    case h_10 n e hu =>
      rw [hu] at hr
      simp only [Bool.not_true, Bool.false_or, Bool.and_eq_true, beq_iff_eq] at hr
      obtain ⟨h1, h2⟩ := hr
      split at h
      case isFalse => cases h
      rename_i hl
      rw [Option.map_eq_some_iff] at h
      obtain ⟨xs, hxs, _⟩ := h
      intro c hc
      rw [h2] at hl
      obtain ⟨j, s, hj, hcj⟩ := mem_piece (sizes := List.replicate n (P.cellsOf e)) (by simpa using hl) hc
      have hjn : j < n := by simpa using (List.getElem?_eq_some_iff.1 hj).1
      obtain rfl : P.cellsOf e = s := by
        have := (List.getElem?_eq_some_iff.1 hj).2
        simpa using this
      rw [range_take_sum _ _ _ (Nat.le_of_lt hjn)] at hcj
      have hget := mapM_some_get hxs j j (by simp [hjn])
      cases hx : xs[j]? with
      | none =>
        have := mapM_some_length hxs
        rw [List.getElem?_eq_none_iff] at hx
        simp at this
        omega
      | some x =>
        rw [hx] at hget
        exact trod_one hT fuel e _ x.1 x.2 h1 hget c hcj
    all_goals first
      | (intro c hc; exact single rfl hc)
      | (cases h; done)
end

/-! ### all blocks -/
def objCells : Obj → Option (List Value)
  | .cells c _ _ => some c.toList
  | _ => none
theorem objCells_spec {o : Obj} {cs : List Value} (h : objCells o = some cs) : ∃ c e fr, o = .cells c e fr ∧ cs = c.toList := by
  cases o with
  | cells c e fr => exact ⟨c, e, fr, rfl, (Option.some.inj h).symm⟩
  | _ => cases h
def cellsTab : List Obj → Nat → Glob → Glob
  | [], _, t => t
  | o :: l, k, t => cellsTab l (k + 1) (t.put k (objCells o))
theorem cellsTab_lt : ∀ (l : List Obj) (k : Nat) (t : Glob) (g : Nat), g < k → (cellsTab l k t).get g = t.get g
  | [], _, _, _, _ => rfl
  | o :: l, k, t, g, h => by
    rw [cellsTab, cellsTab_lt l (k + 1) _ g (by omega), T.get_put, if_neg (by omega)]
theorem cellsTab_get : ∀ (l : List Obj) (k : Nat) (t : Glob) (g : Nat), (∀ i, k ≤ i → t.get i = none) → (cellsTab l k t).get (k + g) = (l[g]?).bind objCells
  | [], k, t, g, ht => by rw [cellsTab, ht _ (by omega)]; rfl
  | o :: l, k, t, 0, _ => by
    show (cellsTab l (k + 1) (t.put k (objCells o))).get k = _
    rw [cellsTab_lt l (k + 1) _ k (by omega), T.get_put, if_pos rfl]
    rfl
  | o :: l, k, t, g + 1, ht => by
    rw [cellsTab, show k + (g + 1) = (k + 1) + g by omega, cellsTab_get l (k + 1) _ g fun i hi => by rw [T.get_put, if_neg (by omega), ht i (by omega)]]
    rfl
def allTab (w : World) : Glob := cellsTab w.heap.toList 0 .leaf
theorem allTab_spec {w : World} {g : Nat} {cs : List Value} : (allTab w).get g = some cs ↔ ∃ c e fr, w.heap[g]? = some (.cells c e fr) ∧ cs = c.toList := by
  have := cellsTab_get w.heap.toList 0 .leaf g fun _ _ => rfl
  rw [Nat.zero_add, Array.getElem?_toList] at this
  show (cellsTab w.heap.toList 0 .leaf).get g = some cs ↔ _
  rw [this]
  constructor
  · intro h
    obtain ⟨o, h1, h2⟩ := Option.bind_eq_some_iff.1 h
    obtain ⟨c, e, fr, rfl, rfl⟩ := objCells_spec h2
    exact ⟨c, e, fr, h1, rfl⟩
  · rintro ⟨c, e, fr, h1, rfl⟩
    rw [h1]
    rfl
theorem allTab_met (w : World) : globMet (allTab w) w := fun g cs h => by
  obtain ⟨c, e, fr, h1, rfl⟩ := allTab_spec.1 h
  exact ⟨e, fr, by rw [h1]⟩
/-- Is one table's word another one's, too? -/
def Glob.le (Γ Γ' : Glob) : Prop := ∀ g cs, Γ.get g = some cs → Γ'.get g = some cs
theorem allTab_le {Γ : Glob} {w : World} (h : globMet Γ w) : Glob.le Γ (allTab w) := fun g cs hg => by
  obtain ⟨e, fr, h1⟩ := h g cs hg
  exact allTab_spec.2 ⟨_, e, fr, h1, rfl⟩
theorem readCells_le {Γ Γ' : Glob} (h : Glob.le Γ Γ') {hp : Hp} {a : Option Addr} {n : Nat} {x : List SV × List Fact} (hr : readCells Γ hp (.lit (.pointer a)) n = some x) : readCells Γ' hp (.lit (.pointer a)) n = some x := by
  unfold readCells at hr ⊢
  split at hr
  · rename_i hh; cases hh
  · rename_i g off hh
    cases hh
    cases hg : Γ.get g with
    | none => rw [hg] at hr; cases hr
    | some cs => rw [hg] at hr; rw [h g cs hg]; exact hr
  · cases hr

/-- Cells at an address. -/
theorem cells_read {w : World} {b : Nat} {a : Addr} {n : Nat} {cs : List Value} (hn : 0 < n) (h : w.cells? b a n = some cs) (hp : Hp) : a.spot = none ∧ cs.length = n ∧ readCells (allTab w) hp (.lit (.pointer (some ⟨a.block, a.off, none⟩))) n = some (cs.map .lit, []) := by
  unfold World.cells? at h
  split at h
  case isFalse => cases h
  have hlen : cs.length = n := by have := mapM_some_length h; simpa using this
  have hget : ∀ i, i < n → w.cell? (a.add i) = cs[i]? := fun i hi => mapM_some_get h i i (by simp [hi])
  have h0 : w.cell? a = some cs[0] := by
    have := hget 0 hn
    rw [List.getElem?_eq_getElem (by omega)] at this
    exact this
  unfold World.cell? at h0
  split at h0
  case h_2 => cases h0
  rename_i c e fr hb
  split at h0
  case isTrue => cases h0
  rename_i hs
  have hs : a.spot = none := by simpa using hs
  refine ⟨hs, hlen, ?_⟩
  have hcut : ∀ i, i < n → c.toList[a.off + i]? = cs[i]? := fun i hi => by
    have := hget i hi
    unfold World.cell? at this
    have hblk : (a.add i).block = a.block := by unfold Addr.add; split <;> rfl
    have hoff : (a.add i).off = a.off + i := by unfold Addr.add; split <;> simp_all
    have hsp : (a.add i).spot = none := by unfold Addr.add; split <;> simp_all
    rw [hblk, hb, hsp, hoff] at this
    simpa using this
  have hl : ((c.toList.map SV.lit).drop a.off).take n = cs.map SV.lit := by
    apply List.ext_getElem?
    intro i
    rw [List.getElem?_take]
    by_cases hi : i < n
    · rw [if_pos hi, List.getElem?_drop, List.getElem?_map, List.getElem?_map, hcut i hi]
    · rw [if_neg hi, List.getElem?_eq_none]
      simp only [List.length_map]
      omega
  have hg : (allTab w).get a.block = some c.toList := allTab_spec.2 ⟨c, e, fr, hb, rfl⟩
  simp only [readCells, hg, Option.bind_some, cut, hl, List.length_map, beq_t hlen, cond_true]

/-- A slice that was read. -/
theorem slice_read {H : Type} {enc : TypeId × Value → H} {P : Program} {w : World} {sp : Nat → Bool} {held : Bool} {fuel : Nat} {t e : TypeId} {cs : List Value} {d : DataW H} {ps : List MemPlace} (hu : P.underlying t = some (.slice e)) (hs : 0 < P.cellsOf e)
    (h : DataW.trod enc P w 0 sp held (fuel + 1) t cs = some (d, ps)) :
    (∃ p cap, cs = [.slice p 0 cap]) ∨ ∃ (g off cap : Nat) (kids : List (List Value × DataW H)), cs = [.slice (some ⟨g, off, none⟩) kids.length cap] ∧ (∃ rest, d = .slice (kids.map (·.2)) rest) ∧
      ∀ k x, kids[k]? = some x → x.1.length = P.cellsOf e ∧ (∃ ps', DataW.trod enc P w 0 sp held fuel e x.1 = some (x.2, ps')) ∧ ∀ hp : Hp, readCells (allTab w) hp (.lit (.pointer (some ⟨g, off + k * P.cellsOf e, none⟩))) (P.cellsOf e) = some (x.1.map .lit, []) := by
  unfold DataW.trod at h
  rw [hu] at h
  split at h
  all_goals (try (rename_i hh; cases hh; done))
  all_goals (try (rename_i hh _; cases hh; done))
  all_goals (try (cases h; done))
  case h_7 => exact .inl ⟨_, _, rfl⟩
  case h_8 e' a len cap heq =>
    cases heq
    split at h
    case isFalse => cases h
    obtain ⟨elems, he, h⟩ := Option.bind_eq_some_iff.1 h
    obtain ⟨rest, _, hd⟩ := Option.map_eq_some_iff.1 h
    rcases Nat.eq_zero_or_pos len with rfl | hpos
    · exact .inl ⟨_, _, rfl⟩
    have hel : elems.length = len := by have := mapM_some_length he; simpa using this
    have hat : ∀ k, k < len → ∃ cs x, w.cells? 0 (a.add (k * P.cellsOf e)) (P.cellsOf e) = some cs ∧ elems[k]? = some x ∧ DataW.trod enc P w 0 sp held fuel e cs = some x := fun k hk => by
      have h1 := mapM_some_get he k k (by simp [hk])
      rw [List.getElem?_eq_getElem (by omega)] at h1
      obtain ⟨cs, h2, h3⟩ := Option.bind_eq_some_iff.1 h1
      exact ⟨cs, elems[k], h2, List.getElem?_eq_getElem (by omega), h3⟩
    have hspot : a.spot = none := by
      obtain ⟨cs, x, h1, _⟩ := hat 0 hpos
      rw [Nat.zero_mul] at h1
      exact (cells_read hs h1 ⟨.leaf, 0⟩).1
    obtain ⟨blk, off, sp'⟩ := a
    obtain rfl : sp' = none := hspot
    let kids : List (List Value × DataW H) := (List.range len).map fun i => ((w.cells? 0 (Addr.add ⟨blk, off, none⟩ (i * P.cellsOf e)) (P.cellsOf e)).getD [], ((elems[i]?).map (·.1)).getD .nil)
    have hkl : kids.length = len := by simp [kids]
    refine .inr ⟨blk, off, cap, kids, by rw [hkl], ⟨rest.map (·.1), ?_⟩, fun k x hx => ?_⟩
    · have : d = .slice (elems.map (·.1)) (rest.map (·.1)) := (congrArg Prod.fst hd).symm
      rw [this]
      congr 1
      apply List.ext_getElem?
      intro i
      by_cases hi : i < len
      · obtain ⟨_, x, _, h2, _⟩ := hat i hi
        simp [kids, List.getElem?_map, hi, h2]
      · simp [kids, hi, hel]
    · have hk : k < len := by have := (List.getElem?_eq_some_iff.1 hx).1; omega
      obtain ⟨cs, y, h1, h2, h3⟩ := hat k hk
      have hx' : x = (cs, y.1) := by
        simp [kids, hk, h1, h2] at hx
        exact hx.symm
      subst hx'
      have hadd : ∀ hp, readCells (allTab w) hp (.lit (.pointer (some ⟨blk, off + k * P.cellsOf e, none⟩))) (P.cellsOf e) = some (cs.map .lit, []) := fun hp => by
        have := (cells_read hs h1 hp).2.2
        have hblk : (Addr.add ⟨blk, off, none⟩ (k * P.cellsOf e)).block = blk := by unfold Addr.add; split <;> rfl
        have hoff : (Addr.add ⟨blk, off, none⟩ (k * P.cellsOf e)).off = off + k * P.cellsOf e := by unfold Addr.add; split <;> simp_all
        rw [hblk, hoff] at this
        exact this
      exact ⟨(cells_read hs h1 ⟨.leaf, 0⟩).2.1, ⟨y.2, h3⟩, hadd⟩

/-- A struct that was read. -/
theorem struct_read {H : Type} {enc : TypeId × Value → H} {P : Program} {w : World} {b : Nat} {sp : Nat → Bool} {held : Bool} {fuel : Nat} {t : TypeId} {fs : Array Field} {cs : List Value} {d : DataW H} {ps : List MemPlace} (hu : P.underlying t = some (.struct fs))
    (h : DataW.trod enc P w b sp held (fuel + 1) t cs = some (d, ps)) :
    cs.length = P.cellsOf t ∧ ∃ xs : List (DataW H × List MemPlace), d = .agg (xs.map (·.1)) ∧ ∀ (j : Nat) (f : Field), fs.toList[j]? = some f → ∃ x, xs[j]? = some x ∧ DataW.trod enc P w b sp held fuel f.type ((cs.drop f.offset).take (P.cellsOf f.type)) = some x := by
  unfold DataW.trod at h
  rw [hu] at h
  split at h
  all_goals (try (rename_i hh; cases hh; done))
  all_goals (try (rename_i hh _; cases hh; done))
  all_goals (try (cases h; done))
  all_goals (try (exact (‹∀ fs_1 : Array Field, some (TypeDesc.struct fs) = some (TypeDesc.struct fs_1) → False› fs rfl).elim))
  rename_i heq
  cases heq
  split at h
  case isFalse => cases h
  rename_i hl
  obtain ⟨xs, h1, h2⟩ := Option.map_eq_some_iff.1 h
  refine ⟨hl, xs, (congrArg Prod.fst h2).symm, fun j f hf => ?_⟩
  have := mapM_some_get h1 j f hf
  have hx : j < xs.length := by have := mapM_some_length h1; have := (List.getElem?_eq_some_iff.1 hf).1; omega
  rw [List.getElem?_eq_getElem hx] at this
  exact ⟨xs[j], List.getElem?_eq_getElem hx, this⟩

theorem one_at {α : Type} {l : List α} {k : Nat} {v : α} (h : (l.drop k).take 1 = [v]) : l[k]? = some v := by
  have : (l.drop k)[0]? = some v := by
    rw [← List.getElem?_take_of_lt (j := 1) (by omega), h]
    rfl
  simpa using this
/-- What each of a list has, side by side. -/
theorem each_of {α : Type} (R : α → Nat → Prop) (b : α → Nat) : ∀ (l : List α), (∀ x ∈ l, ∃ s, R x s ∧ s ≤ b x) → ∃ l' : List (α × Nat), l'.map (·.1) = l ∧ (∀ y ∈ l', R y.1 y.2) ∧ (l'.map (·.2)).sum ≤ (l.map b).sum
  | [], _ => ⟨[], rfl, fun _ h => (by cases h), Nat.le_refl _⟩
  | a :: l, h => by
    obtain ⟨s, h1, h2⟩ := h a (List.mem_cons_self ..)
    obtain ⟨l', k1, k2, k3⟩ := each_of R b l fun x hx => h x (List.mem_cons_of_mem _ hx)
    refine ⟨(a, s) :: l', by rw [List.map_cons, k1], fun y hy => ?_, ?_⟩
    · rcases List.mem_cons.1 hy with rfl | hy
      · exact h1
      · exact k2 y hy
    · simp only [List.map_cons, List.sum_cons]
      omega
end Go.Proofs.YthjkejnmjbljfaaGreatDoor.Ev
