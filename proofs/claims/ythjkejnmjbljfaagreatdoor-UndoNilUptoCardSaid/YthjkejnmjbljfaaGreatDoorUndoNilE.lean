/-
  TREES AND EDITS THAT CAN BE READ are such as the runs ask for, and no greater than their reading; by the author of this claim.
-/
import Derived.Test.YthjkejnmjbljfaaGreatDoorUndoNilD
import Derived.Test.YthjkejnmjbljfaaGreatDoorEvRead
import Derived.Test.YthjkejnmjbljfaaGreatDoorRows
import Derived.KernelRfl
namespace Go.Proofs.YthjkejnmjbljfaaGreatDoor.undoNil
open Go Go.Proofs.YthjkejnmjbljfaaGreatDoor.Ev

theorem IsNd.succ {Γ : Glob} : ∀ (f : Nat) (cs : List SV) (s : Nat), IsNd Γ f cs s → IsNd Γ (f + 1) cs s
  | 0, _, _, h => h.elim
  | f + 1, _, _, ⟨kids, h1, h2, h3, h4, h5⟩ => ⟨kids, h1, h2, h3, fun x hx => IsNd.succ f _ _ (h4 x hx), h5⟩
theorem IsEd.succ {Γ : Glob} : ∀ (f : Nat) (cs : List SV) (s : Nat), IsEd Γ f cs s → IsEd Γ (f + 1) cs s
  | 0, _, _, h => h.elim
  | f + 1, _, _, ⟨a, fa, kids, h1, h2, h3, h4, h5, h6⟩ => ⟨a, fa, kids, h1, h2, h3, h4, fun x hx => IsEd.succ f _ _ (h5 x hx), h6⟩
theorem KidsAt.le {Γ Γ' : Glob} (h : Glob.le Γ Γ') {n : Nat} {L : Option SV} {l : List (List SV)} (hk : KidsAt Γ n L l) : KidsAt Γ' n L l := by
  rcases hk with hk | ⟨g, off, cap, h1, h2⟩
  · exact .inl hk
  · exact .inr ⟨g, off, cap, h1, fun k cs hc hp => readCells_le h (h2 k cs hc hp)⟩
theorem IsNd.le {Γ Γ' : Glob} (h : Glob.le Γ Γ') : ∀ (f : Nat) (cs : List SV) (s : Nat), IsNd Γ f cs s → IsNd Γ' f cs s
  | 0, _, _, hn => hn.elim
  | f + 1, _, _, ⟨kids, h1, h2, h3, h4, h5⟩ => ⟨kids, h1, h2, h3, fun x hx => IsNd.le h f _ _ (h4 x hx), h5.le h⟩
theorem IsEd.le {Γ Γ' : Glob} (h : Glob.le Γ Γ') : ∀ (f : Nat) (cs : List SV) (s : Nat), IsEd Γ f cs s → IsEd Γ' f cs s
  | 0, _, _, hn => hn.elim
  | f + 1, _, _, ⟨a, fa, kids, h1, h2, h3, h4, h5, h6⟩ => ⟨a, fa, kids, h1, h2, IsNd.le h _ _ _ h3, h4, fun x hx => IsEd.le h f _ _ (h5 x hx), h6.le h⟩

section
variable {H : Type}
theorem bulk_one (d : DataW H) : 1 ≤ Rows.uptoBulk d := by
  cases d with
  | lit l => cases l <;> simp [Rows.uptoBulk]
  | _ => simp [Rows.uptoBulk]
theorem bulk_at : ∀ {l : List (DataW H)} {j : Nat} {x : DataW H}, l[j]? = some x → Rows.uptoBulk x ≤ Rows.uptoBulkAll l
  | [], _, _, h => by simp at h
  | a :: l, 0, x, h => by
    obtain rfl : a = x := by simpa using h
    simp only [Rows.uptoBulkAll]; omega
  | a :: l, j + 1, x, h => by
    have := bulk_at (l := l) (j := j) (x := x) (by simpa using h)
    simp only [Rows.uptoBulkAll]; omega
theorem bulk_two : ∀ {l : List (DataW H)} {j k : Nat} {x y : DataW H}, l[j]? = some x → l[k]? = some y → j < k → Rows.uptoBulk x + Rows.uptoBulk y ≤ Rows.uptoBulkAll l
  | [], _, _, _, _, h, _, _ => by simp at h
  | a :: l, 0, k + 1, x, y, h, h', _ => by
    obtain rfl : a = x := by simpa using h
    have := bulk_at (l := l) (j := k) (x := y) (by simpa using h')
    simp only [Rows.uptoBulkAll]; omega
  | a :: l, j + 1, k + 1, x, y, h, h', hl => by
    have := bulk_two (l := l) (j := j) (k := k) (x := x) (y := y) (by simpa using h) (by simpa using h') (by omega)
    simp only [Rows.uptoBulkAll]; omega
theorem bulk_sum : ∀ (l : List (List Value × DataW H)), (l.map fun x => Rows.uptoBulk x.2).sum = Rows.uptoBulkAll (l.map (·.2))
  | [] => by simp [Rows.uptoBulkAll]
  | a :: l => by simp only [List.map_cons, List.sum_cons, Rows.uptoBulkAll, bulk_sum l]

variable {enc : TypeId × Value → H} {w : World} {sp : Nat → Bool} {held : Bool}
/-- Elements that were read: all at once. -/
theorem kids_read {fuel : Nat} {t e : TypeId} {n : Nat} (hu : Tryz.prog.underlying t = some (.slice e)) (hn : Tryz.prog.cellsOf e = n) (hpos : 0 < n) {R : List Value → Nat → Prop} {v : Value} {d : DataW H} {ps : List MemPlace} (h : DataW.trod enc Tryz.prog w 0 sp held (fuel + 1) t [v] = some (d, ps))
    (ih : ∀ cs d ps, DataW.trod enc Tryz.prog w 0 sp held fuel e cs = some (d, ps) → ∃ s, R cs s ∧ s ≤ Rows.uptoBulk d) :
    ∃ kids : List (List Value × Nat), (∀ x ∈ kids, R x.1 x.2) ∧ (kids.map (·.2)).sum + 1 ≤ Rows.uptoBulk d ∧ KidsAt (allTab w) n (some (.lit v)) ((kids.map fun x => (x.1.map SV.lit, x.2)).map (·.1)) := by
  subst hn
  rcases slice_read hu hpos h with ⟨p, cap, hv⟩ | ⟨g, off, cap, ks, hv, ⟨rest, rfl⟩, hk⟩
  · obtain rfl : v = .slice p 0 cap := by simpa using hv
    exact ⟨[], fun _ hx => (by cases hx), bulk_one d, .inl ⟨p, cap, rfl, rfl⟩⟩
  · obtain rfl : v = .slice (some ⟨g, off, none⟩) ks.length cap := by simpa using hv
    obtain ⟨l', h1, h2, h3⟩ := each_of (fun (x : List Value × DataW H) s => R x.1 s) (fun x => Rows.uptoBulk x.2) ks fun x hx => by
      obtain ⟨k, hkx⟩ := List.getElem?_of_mem hx
      obtain ⟨_, ⟨ps', hr⟩, _⟩ := hk k x hkx
      exact ih _ _ _ hr
    refine ⟨l'.map fun y => (y.1.1, y.2), fun x hx => ?_, ?_, .inr ⟨g, off, cap, ?_, fun k cs hc hp => ?_⟩⟩
    · obtain ⟨y, hy, rfl⟩ := List.mem_map.1 hx
      exact h2 y hy
    · rw [bulk_sum] at h3
      simp only [List.map_map, Function.comp_def, Rows.uptoBulk]
      omega
    · rw [← h1]; simp
    · have : ∃ x, ks[k]? = some x ∧ cs = x.1.map SV.lit := by
        rw [← h1]
        simp only [List.map_map, List.getElem?_map] at hc ⊢
        cases hl : l'[k]? with
        | none => rw [hl] at hc; cases hc
        | some y => rw [hl] at hc; exact ⟨y.1, rfl, (Option.some.inj hc).symm⟩
      obtain ⟨x, hx, rfl⟩ := this
      exact (hk k x hx).2.2 hp
theorem laidOut : laidOutB Tryz.prog = true := by kernel_rfl
theorem fine (t : TypeId) (ht : t < Tryz.prog.types.size) : rowFine Tryz.prog t = true := rowFine_of_laidOut laidOut ht
theorem isVar36 : isVar Tryz.prog 36 = true := by kernel_rfl
theorem isVar41 : isVar Tryz.prog 41 = true := by kernel_rfl
theorem cells36 : Tryz.prog.cellsOf 36 = 22 := by kernel_rfl
theorem cells41 : Tryz.prog.cellsOf 41 = 40 := by kernel_rfl
theorem cells38 : Tryz.prog.cellsOf 38 = 29 := by kernel_rfl
theorem cells34 : Tryz.prog.cellsOf 34 = 1 := by kernel_rfl
theorem cells39 : Tryz.prog.cellsOf 39 = 1 := by kernel_rfl

theorem last_cell {cs : List Value} {k : Nat} (h : cs.length = k + 1) : ∃ v, (cs.drop k).take 1 = [v] ∧ (cs.map SV.lit)[k]? = some (.lit v) := by
  refine ⟨cs[k], ?_, ?_⟩
  · rw [List.take_one, List.head?_drop, List.getElem?_eq_getElem (by omega)]; rfl
  · rw [List.getElem?_map, List.getElem?_eq_getElem (by omega)]; rfl
theorem all_one {cs : List Value} (h : ∀ c ∈ cs, SV.one (.lit c) = true) : (cs.map SV.lit).all SV.one = true := by
  rw [List.all_map, List.all_eq_true]
  exact h

theorem trod_zero {P : Program} {t : TypeId} {cs : List Value} {x : DataW H × List MemPlace} (h : DataW.trod enc P w 0 sp held 0 t cs = some x) : False := by cases h
theorem nd_of_trod (fuel : Nat) : ∀ (cs : List Value) (d : DataW H) (ps : List MemPlace), DataW.trod enc Tryz.prog w 0 sp held fuel 36 cs = some (d, ps) → ∃ s, IsNd (allTab w) fuel (cs.map .lit) s ∧ s ≤ Rows.uptoBulk d := by
  induction fuel using Nat.strongRecOn with
  | ind fuel ih =>
    intro cs d ps h
    rcases fuel with _ | fuel
    · exact (trod_zero h).elim
    ·
      have hone := trod_one fine (fuel + 1) 36 cs d ps isVar36 h
      obtain ⟨hl, xs, rfl, hf⟩ := struct_read Tryz.underlying36 h
      rw [cells36] at hl
      obtain ⟨x, hx, hr⟩ := hf 5 _ rfl
      have hr : DataW.trod enc Tryz.prog w 0 sp held fuel 34 ((cs.drop 21).take (Tryz.prog.cellsOf 34)) = some (x.1, x.2) := hr
      rw [cells34] at hr
      obtain ⟨v, hv, hv2⟩ := last_cell hl
      rw [hv] at hr
      rcases fuel with _ | fuel
      · exact (trod_zero hr).elim
      ·
        obtain ⟨kids, h1, h2, h3⟩ := kids_read Tryz.underlying34 cells36 (by decide) (R := fun cs s => IsNd (allTab w) fuel (cs.map .lit) s) hr fun cs d ps h => ih fuel (by omega) cs d ps h
        refine ⟨1 + (kids.map (·.2)).sum, ⟨kids.map fun x => (x.1.map .lit, x.2), by rw [List.length_map, hl], all_one hone, ?_, fun y hy => ?_, ?_⟩, ?_⟩
        · rw [List.map_map]; rfl
        · obtain ⟨z, hz, rfl⟩ := List.mem_map.1 hy
          exact IsNd.succ fuel _ _ (h1 z hz)
        · rw [hv2]; exact h3
        · have := bulk_at (l := xs.map (·.1)) (j := 5) (x := x.1) (by rw [List.getElem?_map, hx]; rfl)
          simp only [Rows.uptoBulk]
          omega

theorem ed_of_trod (fuel : Nat) : ∀ (cs : List Value) (d : DataW H) (ps : List MemPlace), DataW.trod enc Tryz.prog w 0 sp held fuel 41 cs = some (d, ps) → ∃ s, IsEd (allTab w) fuel (cs.map .lit) s ∧ s ≤ Rows.uptoBulk d := by
  induction fuel using Nat.strongRecOn with
  | ind fuel ih =>
    intro cs d ps h
    rcases fuel with _ | fuel
    · exact (trod_zero h).elim
    ·
      have hone := trod_one fine (fuel + 1) 41 cs d ps isVar41 h
      obtain ⟨hl, xs, rfl, hf⟩ := struct_read Tryz.underlying41 h
      rw [cells41] at hl
      obtain ⟨x, hx, hr⟩ := hf 6 _ rfl
      have hr : DataW.trod enc Tryz.prog w 0 sp held fuel 39 ((cs.drop 39).take (Tryz.prog.cellsOf 39)) = some (x.1, x.2) := hr
      rw [cells39] at hr
      obtain ⟨v, hv, hv2⟩ := last_cell hl
      rw [hv] at hr
      obtain ⟨y, hy, hc⟩ := hf 2 _ rfl
      have hc : DataW.trod enc Tryz.prog w 0 sp held fuel 38 ((cs.drop 5).take (Tryz.prog.cellsOf 38)) = some (y.1, y.2) := hc
      rw [cells38] at hc
      rcases fuel with _ | fuel
      · exact (trod_zero hr).elim
      ·
        obtain ⟨_, zs, hzs, hg⟩ := struct_read Tryz.underlying38 hc
        obtain ⟨z, hz, ht⟩ := hg 2 _ rfl
        have ht : DataW.trod enc Tryz.prog w 0 sp held fuel 36 ((((cs.drop 5).take 29).drop 7).take (Tryz.prog.cellsOf 36)) = some (z.1, z.2) := ht
        have hpiece : ((((cs.drop 5).take 29).drop 7).take 22) = (cs.drop 12).take 22 := by
          rw [List.drop_take, List.drop_drop, List.take_take]
          rfl
        rw [cells36, hpiece] at ht
        obtain ⟨a, hnd, ha⟩ := nd_of_trod fuel _ _ _ ht
        obtain ⟨kids, h1, h2, h3⟩ := kids_read Tryz.underlying39 cells41 (by decide) (R := fun cs s => IsEd (allTab w) fuel (cs.map .lit) s) hr fun cs d ps h => ih fuel (by omega) cs d ps h
        refine ⟨1 + a + (kids.map (·.2)).sum, ⟨a, fuel, kids.map fun x => (x.1.map .lit, x.2), by rw [List.length_map, hl], all_one hone, ?_, ?_, fun y hy => ?_, ?_⟩, ?_⟩
        · rw [← List.map_drop, ← List.map_take]; exact hnd
        · rw [List.map_map]; rfl
        · obtain ⟨z, hz, rfl⟩ := List.mem_map.1 hy
          exact IsEd.succ fuel _ _ (h1 z hz)
        · rw [hv2]; exact h3
        · have e1 := bulk_two (l := xs.map (·.1)) (j := 2) (k := 6) (x := y.1) (y := x.1) (by rw [List.getElem?_map, hy]; rfl) (by rw [List.getElem?_map, hx]; rfl) (by omega)
          have e2 := bulk_at (l := zs.map (·.1)) (j := 2) (x := z.1) (by rw [List.getElem?_map, hz]; rfl)
          rw [hzs] at e1
          simp only [Rows.uptoBulk] at e1 ⊢
          omega
end
end Go.Proofs.YthjkejnmjbljfaaGreatDoor.undoNil
