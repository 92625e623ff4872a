/-
  WHAT 'counterpanelaw27.Plain' COMES TO, whole; by the author of this claim, in the calculus of runs.
-/
import Derived.Test.YthjkejnmjbljfaaGreatDoorUndoNilP
namespace Go.Proofs.YthjkejnmjbljfaaGreatDoor.undoNil
open Go Go.Proofs.YthjkejnmjbljfaaGreatDoor.Ev

theorem piece_one {cs : List SV} (h : cs.all SV.one = true) (o n : Nat) : ((cs.drop o).take n).all SV.one = true := by
  rw [List.all_eq_true] at h ⊢
  exact fun x hx => h x (List.mem_of_mem_drop (List.mem_of_mem_take hx))
theorem fill_step {place : Nat → Option (Nat × Nat)} {cs Z : List SV} {o n i : Nat} {v : SV} {rest : List (Nat × SV)} (hp : place i = some (o, n)) (hv : v.cells = (cs.drop o).take n) (hc : cs.length = 40) (hZ : Z.length = 40) (ho : o + n ≤ 40) (hone : cs.all SV.one = true) :
    fillQ place (cs.take o ++ Z.drop o) ((i, v) :: rest) = fillQ place (cs.take (o + n) ++ Z.drop (o + n)) rest := by
  have hn : ((cs.drop o).take n).length = n := by rw [List.length_take, List.length_drop]; omega
  have hto : (cs.take o).length = o := by rw [List.length_take]; omega
  have h1 : Nat.ble (o + ((cs.drop o).take n).length) (cs.take o ++ Z.drop o).length = true := Nat.ble_eq_true_of_le (by rw [hn, List.length_append, hto, List.length_drop]; omega)
  have h2 : (cs.take o ++ Z.drop o).take o = cs.take o := List.take_left' hto
  have h3 : (cs.take o ++ Z.drop o).drop (o + ((cs.drop o).take n).length) = Z.drop (o + n) := by
    rw [hn, List.drop_append, List.drop_eq_nil_of_le (by omega), List.nil_append, List.drop_drop, hto]
    congr 1
    omega
  simp only [fillQ, hp, hv, beq_t hn, cond_true, splice, h1, piece_one hone, Bool.and_self, h2, h3]
  rw [← List.take_add]
theorem load_piece {P : Program} {Γ : Glob} {h : Hp} {t : TypeId} {b o n : Nat} {cs : List SV} {e : TypeId} (ht : tyAgg P t = some true) (hs : tySize P t = some n) (hb : h.objs.get b = some (.cells cs e)) (hl : o + n ≤ cs.length) : loadQ P Γ h t (.ptr b o) = some (.agg ((cs.drop o).take n), [.cells b o ((cs.drop o).take n)]) := by
  simp only [loadQ, ht, hs, readCells, knownCells, hb, Option.bind_some, cut_piece hl]
theorem load_all {P : Program} {Γ : Glob} {h : Hp} {t : TypeId} {b n : Nat} {cs : List SV} {e : TypeId} (ht : tyAgg P t = some true) (hs : tySize P t = some n) (hb : h.objs.get b = some (.cells cs e)) (hl : cs.length = n) : loadQ P Γ h t (.ptr b 0) = some (.agg cs, [.cells b 0 cs]) := by
  simp only [loadQ, ht, hs, readCells, knownCells, hb, Option.bind_some, cut_all hl]
theorem store_all {P : Program} {h : Hp} {t : TypeId} {b n : Nat} {l cs : List SV} {e : TypeId} (hs : tySize P t = some n) (hb : h.objs.get b = some (.cells l e)) (hl : l.length = n) (hc : cs.length = n) (hone : cs.all SV.one = true) : storeE P h t (.ptr b 0) (.agg cs) = some (h.upd b (.cells cs e)) := by
  have hsp : splice l 0 cs = some cs := by
    simp only [splice, Nat.zero_add, hc, hl, Nat.ble_eq_true_of_le (Nat.le_refl _), hone, Bool.and_self, cond_true, List.take_zero, List.nil_append]
    rw [← hl, List.drop_length, List.append_nil]
  simp only [storeE, hs, SV.cells, beq_t hc, cond_true, hb, hsp, Option.map_some]
theorem store_effect {P : Program} {Γ : Glob} {h : Hp} {ρ : Operand → SV} {t : TypeId} {a x : Operand} {b n : Nat} {l cs : List SV} {e : TypeId} (ha : ρ a = .ptr b 0) (hx : ρ x = .agg cs) (hs : tySize P t = some n) (hb : h.objs.get b = some (.cells l e)) (hl : l.length = n) (hc : cs.length = n) (hone : cs.all SV.one = true) :
    effect P Γ h ρ (.store t a x) = some [(.lit undef, ⟨h.objs.set b (.cells cs e), h.next⟩)] := by
  simp only [effect, ha, hx, store_all hs hb hl hc hone]
  rfl
theorem first_cell {cs : List SV} {k : Nat} (h : k < cs.length) (hone : cs.all SV.one = true) : ∃ v, cs[k]? = some v ∧ v.cells = (cs.drop k).take 1 := by
  refine ⟨cs[k], List.getElem?_eq_getElem h, ?_⟩
  rw [cells_one (List.all_eq_true.1 hone _ (List.getElem_mem h)), List.take_one, List.head?_drop, List.getElem?_eq_getElem h]
  rfl

set_option maxRecDepth 10000 in
theorem build64 {cs : List SV} {v0 v5 : SV} (hc : cs.length = 40) (hone : cs.all SV.one = true) (h0 : v0.cells = (cs.drop 0).take 1) (h5 : v5.cells = (cs.drop 38).take 1) :
    buildQ Tryz.prog 64 [(0, v0), (1, .agg ((cs.drop 1).take 4)), (2, .agg ((cs.drop 5).take 29)), (3, .agg ((cs.drop 34).take 2)), (4, .agg ((cs.drop 36).take 2)), (5, v5)] = some (.agg (cs.take 39 ++ [.lit (.slice none 0 0)])) := by
  obtain ⟨z, hz, hzl, hzd⟩ := zero64
  obtain ⟨fs, places, hu, hp, hpl⟩ : ∃ fs places, tyU Tryz.prog 64 = some (.struct fs) ∧ sizesQ Tryz.prog fs.toList = some places ∧ places = [(0, 1), (1, 4), (5, 29), (34, 2), (36, 2), (38, 1), (39, 1)] := ⟨_, _, rfl, rfl, rfl⟩
  simp only [buildQ, hz, hu, hp]
  rw [hpl]
  have start : SV.cells (.lit z) = cs.take 0 ++ (SV.cells (.lit z)).drop 0 := by simp
  rw [start]
  rw [fill_step (o := 0) (n := 1) rfl h0 hc hzl (by decide) hone]
  rw [fill_step (o := 0 + 1) (n := 4) rfl rfl hc hzl (by decide) hone]
  rw [fill_step (o := 0 + 1 + 4) (n := 29) rfl rfl hc hzl (by decide) hone]
  rw [fill_step (o := 0 + 1 + 4 + 29) (n := 2) rfl rfl hc hzl (by decide) hone]
  rw [fill_step (o := 0 + 1 + 4 + 29 + 2) (n := 2) rfl rfl hc hzl (by decide) hone]
  rw [fill_step (o := 0 + 1 + 4 + 29 + 2 + 2) (n := 1) rfl h5 hc hzl (by decide) hone]
  show some (SV.agg (cs.take 39 ++ (SV.cells (.lit z)).drop 39)) = _
  rw [hzd]

theorem get_set2 {t : T AObj} {k n : Nat} {a c : AObj} (b : Nat) : (Hp.mk ((t.set k a).set k c) n).objs.get b = if b = k then some c else t.get b := by
  show ((t.set k a).set k c).get b = _
  rw [T.get_set, T.get_set]
  by_cases h : b = k
  · rw [if_pos h, if_pos h]
  · rw [if_neg h, if_neg h, if_neg h]
noncomputable def plainTail : Code := seqR (seqR (bodyOf Tryz.f18))
set_option maxHeartbeats 4000000 in
set_option maxRecDepth 20000 in
theorem plain_tail (Γ : Glob) (cs zs : List SV) (kids : List (List SV × Nat)) (f a fa s : Nat) (h h2 : Hp) (tm : T SV) (hlen : cs.length = 40) (hone : cs.all SV.one = true) (hzl : zs.length = 40) (hnd : IsNd Γ fa ((cs.drop 12).take 22) a) (hsum : s = 1 + a + (kids.map (·.2)).sum) (hkn : kids.length ≤ 1048576) (hat : KidsAt Γ 40 cs[39]? (kids.map (·.1)))
    (ih : ∀ x ∈ kids, ∀ h : Hp, Runs Tryz.prog Γ (.call 18 [.agg x.1] h) fun r => ∃ c, r.v = .agg c ∧ IsPl Γ r.hp (fun b => h.next ≤ b) f c x.2 ∧ Kept h.next h r.hp)
    (e1 : Fr.ev ⟨tm, 37, []⟩ (.tmp 1) = .ptr h.next 0) (e2 : Fr.ev ⟨tm, 37, []⟩ (.tmp 2) = .ptr (h.next + 1) 0) (e3 : Fr.ev ⟨tm, 37, []⟩ (.tmp 3) = .ptr (h.next + 2) 0) (hn2 : h2.next = h.next + 3)
    (hB2 : h2.objs.get h.next = some (.cells cs 41)) (hR2 : h2.objs.get (h.next + 1) = some (.cells zs 64)) (hO3 : h2.objs.get (h.next + 2) = some (.cells (cs.take 39 ++ [.lit (.slice none 0 0)]) 64)) (hk2 : ∀ b, b < h.next → h2.objs.get b = h.objs.get b) :
    Runs Tryz.prog Γ (.code plainTail none ⟨tm, 37, []⟩ h2) fun o => ∃ r, leave Tryz.prog Γ Tryz.f18 o = some [r] ∧ ∃ c, r.v = .agg c ∧ IsPl Γ r.hp (fun b => h.next ≤ b) (f + 1) c s ∧ Kept h.next h r.hp := by
    have tone : (cs.take 39).all SV.one = true := by
      rw [List.all_eq_true] at hone ⊢
      exact fun x hx => hone x (List.mem_of_mem_take hx)
    refine runs_seq (runs_seq (runs_region ?_))
    refine ops_quiet rfl rfl rfl ?_
    refine ops_nil ?_
    refine runs_block ?_
    refine (plain_loop Γ cs kids h.next (h.next + 2) (h.next + 3) f hlen (by omega) hat (by omega) (by omega) (by omega) ih kids.length 0 (by omega) _ h2 (.lit (.slice none 0 0)) (h.next + 3) [] (by simp only [ev_set]; exact e1) (by simp only [ev_set]; exact e3) (by simp only [ev_set]; rfl) hB2 hO3 (by omega) rfl (.inl ⟨rfl, rfl⟩) (Nat.le_refl _) (fun y hy => by cases hy)).mono ?_
    rintro ⟨ex, fr, hp, v⟩ ⟨he, tm', Lv', bl', ks', hfr, f2, f3, hO', hks', hrow', hpl', hkept, hnext⟩
    have he : ex = .exit 0 := he
    have hfr : fr = ⟨tm', 37, []⟩ := hfr
    subst he hfr
    rw [show atEnd 0 ⟨.exit 0, ⟨tm', 37, []⟩, hp, v⟩ = ⟨.normal, ⟨tm', 37, []⟩, hp, v⟩ from rfl]
    have hO' : hp.objs.get (h.next + 2) = some (.cells (cs.take 39 ++ [Lv']) 64) := hO'
    have hkept : ∀ b, b < h.next + 3 → b ≠ (h.next + 2) → hp.objs.get b = h2.objs.get b := hkept
    have hnext : h2.next ≤ hp.next := hnext
    have f2 : Fr.ev ⟨tm', 37, []⟩ (.tmp 2) = .ptr (h.next + 1) 0 := f2.trans (by simp only [ev_set]; exact e2)
    have hl' : (cs.take 39 ++ [Lv']).length = 40 := by rw [List.length_append, List.length_take, List.length_singleton]; omega
    have ho' : (cs.take 39 ++ [Lv']).all SV.one = true := by rw [List.all_append, tone]; simp [hrow'.same.1]
    have hR' : hp.objs.get (h.next + 1) = some (.cells zs 64) := by rw [hkept _ (by omega) (by omega)]; exact hR2
    refine runs_seq (runs_region ?_)
    refine ops_quiet (v := .agg (cs.take 39 ++ [Lv'])) (fs := [.cells (h.next + 2) 0 (cs.take 39 ++ [Lv'])]) rfl (by simp only [quiet, f3]; exact load_all (P := Tryz.prog) (t := 64) (n := 40) rfl rfl hO' hl') rfl ?_
    refine ops_effect (v := .lit undef) (hp' := ⟨hp.objs.set (h.next + 1) (.cells (cs.take 39 ++ [Lv']) 64), hp.next⟩) rfl rfl rfl (store_effect (h := hp) (n := 40) (by simp only [ev_set]; exact f2) (by simp only [ev_set]; rfl) rfl hR' hzl hl' ho') (Nat.le_refl _) rfl ?_
    refine ops_nil ?_
    refine runs_ret ?_
    have hR4 : (hp.objs.set (h.next + 1) (.cells (cs.take 39 ++ [Lv']) 64)).get (h.next + 1) = some (.cells (cs.take 39 ++ [Lv']) 64) := by rw [T.get_set, if_pos rfl]
    have hk4 : ∀ b, b ≠ h.next + 1 → (hp.objs.set (h.next + 1) (.cells (cs.take 39 ++ [Lv']) 64)).get b = hp.objs.get b := fun b hb => by rw [T.get_set, if_neg hb]
    refine ⟨⟨.ret, ⟨tm'.set 36 (.agg (cs.take 39 ++ [Lv'])), 37, []⟩, ⟨hp.objs.set (h.next + 1) (.cells (cs.take 39 ++ [Lv']) 64), hp.next⟩, .agg (cs.take 39 ++ [Lv'])⟩, ?_, cs.take 39 ++ [Lv'], rfl, ?_, ⟨?_, fun b hb => ?_⟩⟩
    · have hq : resultsQ Tryz.prog Γ ⟨tm'.set 36 (.agg (cs.take 39 ++ [Lv'])), 37, []⟩ ⟨hp.objs.set (h.next + 1) (.cells (cs.take 39 ++ [Lv']) 64), hp.next⟩ [.cell 2 64] = some [.agg (cs.take 39 ++ [Lv'])] := by
        have h2' : Fr.ev ⟨tm'.set 36 (.agg (cs.take 39 ++ [Lv'])), 37, []⟩ (.tmp 2) = .ptr (h.next + 1) 0 := by simp only [ev_set]; exact f2
        simp only [resultsQ, h2', load_all (P := Tryz.prog) (Γ := Γ) (h := ⟨hp.objs.set (h.next + 1) (.cells (cs.take 39 ++ [Lv']) 64), hp.next⟩) (t := 64) (n := 40) rfl rfl hR4 hl']
      simp only [leave, shutMarks]
      rw [show Tryz.f18.results.toList = [.cell 2 64] from rfl, hq]
    · refine ⟨a, fa, ks', hl', ho', ?_, ?_, fun x hx => ?_, ?_⟩
      · have : ((cs.take 39 ++ [Lv']).drop 12).take 22 = (cs.drop 12).take 22 := by
          rw [List.drop_append_of_le_length (by rw [List.length_take]; omega), List.take_append_of_le_length (by rw [List.length_drop, List.length_take]; omega), List.drop_take, List.take_take]
          rfl
        rw [this]
        exact hnd
      · rw [hks']; exact hsum
      · refine IsPl.mono (h := hp) (h' := ⟨hp.objs.set (h.next + 1) (.cells (cs.take 39 ++ [Lv']) 64), hp.next⟩) (Nat.le_refl _) (fun b ⟨hb1, _⟩ _ => ⟨by omega, hk4 b (by omega)⟩) f x.1 x.2 (hpl' x hx)
      · rw [last_at hlen]
        rcases hrow' with ⟨r1, r2⟩ | ⟨r1, r2, r3, r4⟩
        · exact .inl ⟨by rw [r1], r2⟩
        · exact .inr ⟨bl', by rw [r1], by omega, r3, (hk4 _ (by omega)).trans r4⟩
    · show h.next ≤ hp.next
      omega
    · show (hp.objs.set (h.next + 1) _).get b = _
      rw [hk4 b (by omega), hkept b (by omega) (by omega), hk2 b hb]

set_option maxHeartbeats 1000000 in
set_option maxRecDepth 20000 in
theorem plain_runs (Γ : Glob) : ∀ (f : Nat) (cs : List SV) (s : Nat), IsEd Γ f cs s → s ≤ 1048576 → ∀ h : Hp, Runs Tryz.prog Γ (.call 18 [.agg cs] h) fun r => ∃ c, r.v = .agg c ∧ IsPl Γ r.hp (fun b => h.next ≤ b) f c s ∧ Kept h.next h r.hp := by
  intro f
  induction f with
  | zero => intro cs s hp; exact hp.elim
  | succ f ihf =>
    intro cs s hed hs h
    obtain ⟨a, fa, kids, hlen, hone, hnd, hsum, hkids, hat⟩ := hed
    have hkn := sum_pos fun x hx => (hkids x hx).len.2.2
    have ih := fun x hx => ihf x.1 x.2 (hkids x hx) (by have := mem_sum hx; omega)
    obtain ⟨z, hz, hzl, hzd⟩ := zero64
    refine runs_call Tryz.func18 rfl ?_
    refine runs_seq (runs_region ?_)
    refine ops_effect (v := .ptr h.next 0) (hp' := ⟨h.objs.set h.next (.cells cs 41), h.next + 1⟩) rfl rfl rfl rfl (Nat.le_succ _) rfl ?_
    refine ops_effect (v := .ptr (h.next + 1) 0) (hp' := ⟨(h.objs.set h.next (.cells cs 41)).set (h.next + 1) (.cells (SV.cells (.lit z)) 64), h.next + 2⟩) rfl rfl rfl (by simp only [effect, hz]; rfl) (Nat.le_succ _) rfl ?_
    refine ops_nil ?_
    obtain ⟨h1, hh1⟩ : ∃ h1 : Hp, h1 = ⟨(h.objs.set h.next (.cells cs 41)).set (h.next + 1) (.cells (SV.cells (.lit z)) 64), h.next + 2⟩ := ⟨_, rfl⟩
    rw [← hh1]
    have hn1 : h1.next = h.next + 2 := by rw [hh1]
    have hB1 : h1.objs.get h.next = some (.cells cs 41) := by
      rw [hh1]; show ((h.objs.set h.next _).set (h.next + 1) _).get h.next = _
      rw [T.get_set, if_neg (by omega), T.get_set, if_pos rfl]
    have hR1 : h1.objs.get (h.next + 1) = some (.cells (SV.cells (.lit z)) 64) := by
      rw [hh1]; show ((h.objs.set h.next _).set (h.next + 1) _).get (h.next + 1) = _
      rw [T.get_set, if_pos rfl]
    have hk1 : ∀ b, b < h.next → h1.objs.get b = h.objs.get b := fun b hb => by
      rw [hh1]; show ((h.objs.set h.next _).set (h.next + 1) _).get b = _
      rw [T.get_set, if_neg (by omega), T.get_set, if_neg (by omega)]
    clear hh1
    obtain ⟨v0, hv0, hc0⟩ := first_cell (k := 0) (show 0 < cs.length by omega) hone
    obtain ⟨v5, hv5, hc5⟩ := first_cell (k := 38) (show 38 < cs.length by omega) hone
    refine runs_seq (runs_region ?_)
    refine ops_quiet (v := .ptr h.next 0) (fs := []) rfl rfl rfl ?_
    refine ops_quiet (v := v0) (fs := [.cells h.next 0 [v0]]) rfl (by simp only [quiet, ev_set]; exact load_cell rfl hB1 hv0) rfl ?_
    refine ops_quiet (v := .ptr h.next 1) (fs := []) rfl rfl rfl ?_
    refine ops_quiet (v := .agg ((cs.drop 1).take 4)) (fs := [.cells h.next 1 ((cs.drop 1).take 4)]) rfl (by simp only [quiet, ev_set]; exact load_piece rfl rfl hB1 (by omega)) rfl ?_
    refine ops_quiet (v := .ptr h.next 5) (fs := []) rfl rfl rfl ?_
    refine ops_quiet (v := .agg ((cs.drop 5).take 29)) (fs := [.cells h.next 5 ((cs.drop 5).take 29)]) rfl (by simp only [quiet, ev_set]; exact load_piece rfl rfl hB1 (by omega)) rfl ?_
    refine ops_quiet (v := .ptr h.next 34) (fs := []) rfl rfl rfl ?_
    refine ops_quiet (v := .agg ((cs.drop 34).take 2)) (fs := [.cells h.next 34 ((cs.drop 34).take 2)]) rfl (by simp only [quiet, ev_set]; exact load_piece rfl rfl hB1 (by omega)) rfl ?_
    refine ops_quiet (v := .ptr h.next 36) (fs := []) rfl rfl rfl ?_
    refine ops_quiet (v := .agg ((cs.drop 36).take 2)) (fs := [.cells h.next 36 ((cs.drop 36).take 2)]) rfl (by simp only [quiet, ev_set]; exact load_piece rfl rfl hB1 (by omega)) rfl ?_
    refine ops_quiet (v := .ptr h.next 38) (fs := []) rfl rfl rfl ?_
    refine ops_quiet (v := v5) (fs := [.cells h.next 38 [v5]]) rfl (by simp only [quiet, ev_set]; exact load_cell rfl hB1 hv5) rfl ?_
    refine ops_quiet (v := .agg (cs.take 39 ++ [.lit (.slice none 0 0)])) (fs := []) rfl (by simp only [quiet]; exact congrArg one (build64 hlen hone hc0 hc5)) rfl ?_
    have hol : (cs.take 39 ++ [SV.lit (.slice none 0 0)]).length = 40 := by rw [List.length_append, List.length_take, List.length_singleton]; omega
    have tone : (cs.take 39).all SV.one = true := by
      rw [List.all_eq_true] at hone ⊢
      exact fun x hx => hone x (List.mem_of_mem_take hx)
    have hoo : (cs.take 39 ++ [SV.lit (.slice none 0 0)]).all SV.one = true := by rw [List.all_append, tone]; rfl
    refine ops_effect (v := .ptr h1.next 0) (hp' := ⟨h1.objs.set h1.next (.cells (SV.cells (.lit z)) 64), h1.next + 1⟩) rfl rfl rfl (by simp only [effect, hz]; rfl) (Nat.le_succ _) rfl ?_
    have hO2 : (h1.objs.set h1.next (.cells (SV.cells (.lit z)) 64)).get h1.next = some (.cells (SV.cells (.lit z)) 64) := by rw [T.get_set, if_pos rfl]
    refine ops_effect (v := .lit undef) (hp' := ⟨(h1.objs.set h1.next (.cells (SV.cells (.lit z)) 64)).set h1.next (.cells (cs.take 39 ++ [.lit (.slice none 0 0)]) 64), h1.next + 1⟩) rfl rfl rfl (store_effect (h := ⟨h1.objs.set h1.next (.cells (SV.cells (.lit z)) 64), h1.next + 1⟩) (n := 40) rfl rfl rfl hO2 hzl hol hoo) (Nat.le_refl _) rfl ?_
    refine ops_nil ?_
    refine plain_tail Γ cs (SV.cells (.lit z)) kids f a fa s h _ _ hlen hone hzl hnd hsum (by omega) hat ih rfl rfl ?_ ?_ ?_ ?_ ?_ ?_
    · exact Eq.trans (b := SV.ptr h1.next 0) rfl (by rw [hn1])
    · exact congrArg Nat.succ hn1
    · exact (get_set2 _).trans ((if_neg (by omega)).trans hB1)
    · exact (get_set2 _).trans ((if_neg (by omega)).trans hR1)
    · exact (get_set2 _).trans (if_pos (by omega))
    · exact fun b hb => (get_set2 b).trans ((if_neg (by omega)).trans (hk1 b hb))
end Go.Proofs.YthjkejnmjbljfaaGreatDoor.undoNil
