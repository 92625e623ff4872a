/-
  WHAT 'counterpaneref27.Size' COMES TO, for every edit that Plain has made; by the author of this claim, in the calculus of runs.
-/
import Derived.Test.YthjkejnmjbljfaaGreatDoorUndoNilD
namespace Go.Proofs.YthjkejnmjbljfaaGreatDoor.undoNil
open Go Go.Proofs.YthjkejnmjbljfaaGreatDoor.Ev

noncomputable def sizeLoop : Code := inBlk (seqR (seqL (seqR (seqR (bodyOf Tryz.f17)))))

theorem PlRow.mono {h h' : Hp} {A A' : Nat → Prop} {L : Option SV} {l : List (List SV)} (hn : h.next ≤ h'.next) (hk : ∀ b, A b → b < h.next → A' b ∧ h'.objs.get b = h.objs.get b) (hp : PlRow h A L l) : PlRow h' A' L l := by
  rcases hp with hp | ⟨b, e1, e2, e3, e4⟩
  · exact .inl hp
  · obtain ⟨k1, k2⟩ := hk b e2 e3
    exact .inr ⟨b, e1, k1, Nat.lt_of_lt_of_le e3 hn, k2.trans e4⟩

theorem add_nat {a b : Nat} (h : a + b ≤ 4000000) : IntKind.i64.wrap ((a : Int) + (b : Int)) = ((a + b : Nat) : Int) := wrap_nat h

set_option maxHeartbeats 4000000 in
set_option maxRecDepth 10000 in
theorem size_loop (Γ : Glob) (A : Nat → Prop) (h0 : Hp) (cs : List SV) (kids : List (List SV × Nat)) (s B f : Nat) (hs : s ≤ 1048576) (hkn : kids.length ≤ 1048576) (hkids : ∀ x ∈ kids, IsPl Γ h0 A f x.1 x.2) (hrow : PlRow h0 A cs[39]? (kids.map (·.1)))
    (hB : h0.objs.get B = some (.cells cs 64)) (hBn : B < h0.next)
    (ih : ∀ x ∈ kids, ∀ h : Hp, IsPl Γ h A f x.1 x.2 → Runs Tryz.prog Γ (.call 17 [.agg x.1] h) fun r => r.v = .lit (.int .i64 (Int.ofNat x.2)) ∧ Kept h.next h r.hp) :
    ∀ (rem k : Nat), k + rem = kids.length → ∀ (tm : T SV) (h : Hp) (n : Nat), Fr.ev ⟨tm, 27, []⟩ (.tmp 1) = .ptr B 0 → Fr.ev ⟨tm, 27, []⟩ (.tmp 3) = .lit (.int .i64 (Int.ofNat n)) → Fr.ev ⟨tm, 27, []⟩ (.tmp 4) = .lit (.int .i64 (Int.ofNat k)) →
      Kept h0.next h0 h → n + ((kids.drop k).map (·.2)).sum = s →
      Runs Tryz.prog Γ (.code sizeLoop none ⟨tm, 27, []⟩ h) fun o => o.exit = .exit 0 ∧ ∃ tm', o.fr = ⟨tm', 27, []⟩ ∧ Fr.ev ⟨tm', 27, []⟩ (.tmp 3) = .lit (.int .i64 (Int.ofNat s)) ∧ Kept h0.next h0 o.hp := by
  have hL : ∃ Lv, cs[39]? = some Lv ∧ ∀ h, lenQ Tryz.prog h 62 Lv = some (.lit (.int .i64 kids.length), []) := by
    rcases hrow with ⟨h1, h2⟩ | ⟨b, h1, _⟩
    · have : kids = [] := by simpa using h2
      subst this
      exact ⟨_, h1, fun _ => rfl⟩
    · rw [List.length_map] at h1
      exact ⟨_, h1, fun _ => rfl⟩
  obtain ⟨Lv, hLv, hlenQ⟩ := hL
  intro rem
  induction rem with
  | zero =>
    intro k hkr tm h n e1 e3 e4 hkept hsum
    have hkl : k = kids.length := by omega
    have hBh : h.objs.get B = some (.cells cs 64) := (hkept.old B hBn).trans hB
    refine runs_loop ?_
    refine runs_seq (runs_seq (runs_region ?_))
    refine ops_quiet rfl rfl rfl ?_
    rw [e4]
    refine ops_quiet (v := .ptr B 39) (fs := []) rfl (by simp only [quiet, ev_set, e1]; rfl) rfl ?_
    refine ops_quiet (v := Lv) (fs := [.cells B 39 [Lv]]) rfl (by simp only [quiet, ev_set]; exact load_cell rfl hBh hLv) rfl ?_
    refine ops_quiet (v := .lit (.int .i64 kids.length)) (fs := []) rfl (hlenQ h) rfl ?_
    refine ops_quiet (v := .lit (.bool (decide ((k : Int) < kids.length)))) (fs := []) rfl rfl rfl ?_
    refine ops_nil ?_
    have hd : decide ((k : Int) < kids.length) = false := decide_eq_false (by omega)
    rw [hd]
    refine runs_cond false (by simp [ev_set]) ?_
    refine runs_exit ?_
    have hn : n = s := by
      have : kids.drop k = [] := List.drop_eq_nil_of_le (by omega)
      rw [this] at hsum
      simpa using hsum
    subst hn
    refine ⟨rfl, _, rfl, ?_, hkept⟩
    simp only [ev_set, e3]
    rfl
  | succ rem ihr =>
    intro k hkr tm h n e1 e3 e4 hkept hsum
    have hkl : k < kids.length := by omega
    have hBh : h.objs.get B = some (.cells cs 64) := (hkept.old B hBn).trans hB
    have hsame : ∀ b, A b → b < h0.next → A b ∧ h.objs.get b = h0.objs.get b := fun b ha hb => ⟨ha, hkept.old b hb⟩
    obtain ⟨b, hLs, hread⟩ : ∃ b, Lv = .row b 0 kids.length kids.length b ∧ h.objs.get b = some (.row (kids.map (·.1)).flatten 64 kids.length b 40) := by
      rcases PlRow.mono hkept.next hsame hrow with ⟨_, h2⟩ | ⟨b, h1, _, _, h2⟩
      · have : kids = [] := by simpa using h2
        subst this
        simp at hkl
      · rw [hLv] at h1
        rw [List.length_map] at h1 h2
        exact ⟨b, by injection h1, h2⟩
    subst hLs
    have hkid : ∃ x, kids[k]? = some x ∧ x ∈ kids := ⟨kids[k], List.getElem?_eq_getElem hkl, List.getElem_mem hkl⟩
    obtain ⟨x, hx, hxm⟩ := hkid
    have hsplit : (kids.drop k).map (·.2) = x.2 :: (kids.drop (k + 1)).map (·.2) := by
      have hxe : kids[k] = x := by
        have := List.getElem?_eq_getElem hkl
        rw [hx] at this
        exact (Option.some.inj this).symm
      rw [List.drop_eq_getElem_cons hkl, List.map_cons, hxe]
    rw [hsplit, List.sum_cons] at hsum
    have hcut : cut (kids.map (·.1)).flatten (0 + k * 40) 40 = some x.1 := by
      rw [Nat.zero_add]
      refine cut_flat (fun y hy => ?_) (by rw [List.getElem?_map, hx]; rfl)
      obtain ⟨z, hz, rfl⟩ := List.mem_map.1 hy
      exact (hkids z hz).len.1
    refine runs_loop ?_
    refine runs_seq (runs_seq (runs_region ?_))
    refine ops_quiet rfl rfl rfl ?_
    rw [e4]
    refine ops_quiet (v := .ptr B 39) (fs := []) rfl (by simp only [quiet, ev_set, e1]; rfl) rfl ?_
    refine ops_quiet (v := .row b 0 kids.length kids.length b) (fs := [.cells B 39 [.row b 0 kids.length kids.length b]]) rfl (by simp only [quiet, ev_set]; exact load_cell rfl hBh hLv) rfl ?_
    refine ops_quiet (v := .lit (.int .i64 kids.length)) (fs := []) rfl (hlenQ h) rfl ?_
    refine ops_quiet (v := .lit (.bool (decide ((k : Int) < kids.length)))) (fs := []) rfl rfl rfl ?_
    refine ops_nil ?_
    have hd : decide ((k : Int) < kids.length) = true := decide_eq_true (by omega)
    rw [hd]
    refine runs_cond true (by simp [ev_set]) ?_
    refine runs_skip ?_
    refine runs_seq (runs_block (runs_region ?_))
    refine ops_quiet (v := .lit (.int .i64 (Int.ofNat n))) (fs := []) rfl (by simp only [quiet, ev_set]; exact congrArg (fun v => some (v, [])) e3) rfl ?_
    refine ops_quiet (v := .ptr B 39) (fs := []) rfl (by simp only [quiet, ev_set, e1]; rfl) rfl ?_
    refine ops_quiet (v := .row b 0 kids.length kids.length b) (fs := [.cells B 39 [.row b 0 kids.length kids.length b]]) rfl (by simp only [quiet, ev_set]; exact load_cell rfl hBh hLv) rfl ?_
    refine ops_quiet (v := .lit (.int .i64 (Int.ofNat k))) (fs := []) rfl (by simp only [quiet, ev_set]; exact congrArg (fun v => some (v, [])) e4) rfl ?_
    refine ops_quiet (v := .ptr b (0 + k * 40)) (fs := []) rfl (by
      have hb : Nat.blt k kids.length = true := Nat.ble_eq_true_of_le hkl
      have hq : indexAddrQ Tryz.prog 62 (.row b 0 kids.length kids.length b) (.lit (.int .i64 (Int.ofNat k))) = some (.ptr b (0 + k * 40)) := by
        simp only [indexAddrQ, show tyU Tryz.prog 62 = some (.slice 64) from rfl, show tySize Tryz.prog 64 = some 40 from rfl, idxQ, hb, cond_true]
      simp only [quiet, ev_set]
      exact congrArg one hq) rfl ?_
    refine ops_quiet (v := .agg x.1) (fs := [.cells b (0 + k * 40) x.1]) rfl (by
      simp only [quiet, ev_set, if_true, loadQ, show tyAgg Tryz.prog 64 = some true from rfl, show tySize Tryz.prog 64 = some 40 from rfl, readCells, knownCells, hread, Option.bind_some, hcut]) rfl ?_
    refine ops_call (f := 17) (args := [.agg x.1]) rfl rfl (by simp [calleeOf, ev_set]; rfl) rfl ?_
    refine (ih x hxm h (IsPl.mono hkept.next hsame f x.1 x.2 (hkids x hxm))).mono fun r ⟨hrv, hrk⟩ => ⟨_, rfl, ?_⟩
    have hkept2 : Kept h0.next h0 r.hp := hkept.trans (hrk.less hkept.next)
    refine ops_quiet (v := .lit (.int .i64 (Int.ofNat (n + x.2)))) (fs := []) rfl (by
      have hw : IntKind.i64.wrap ((n : Int) + (x.2 : Int)) = ((n + x.2 : Nat) : Int) := add_nat (by omega)
      simp only [quiet, ev_set, hrv]
      show one (some (.lit (.int .i64 (IntKind.i64.wrap ((n : Int) + (x.2 : Int)))))) = _
      rw [hw]
      rfl) rfl ?_
    refine ops_quiet (v := .lit (.int .i64 (Int.ofNat (n + x.2)))) (fs := []) rfl rfl rfl ?_
    refine ops_nil ?_
    rw [show ∀ fr hp v, atEnd 1 ⟨.normal, fr, hp, v⟩ = ⟨.normal, fr, hp, v⟩ from fun _ _ _ => rfl]
    refine runs_region ?_
    refine ops_quiet (v := .lit (.int .i64 (Int.ofNat k))) (fs := []) rfl (by simp only [quiet, ev_set]; exact congrArg (fun v => some (v, [])) e4) rfl ?_
    refine ops_quiet (v := .lit (.int .i64 (Int.ofNat (k + 1)))) (fs := []) rfl (by
      have hw : IntKind.i64.wrap ((k : Int) + 1) = ((k + 1 : Nat) : Int) := wrap_nat (n := k + 1) (by omega)
      simp only [quiet, ev_set]
      show one (some (.lit (.int .i64 (IntKind.i64.wrap ((k : Int) + 1))))) = _
      rw [hw]
      rfl) rfl ?_
    refine ops_quiet (v := .lit (.int .i64 (Int.ofNat (k + 1)))) (fs := []) rfl rfl rfl ?_
    refine ops_nil ?_
    refine ihr (k + 1) (by omega) _ r.hp (n + x.2) ?_ ?_ ?_ hkept2 (by omega)
    · simp only [ev_set]; exact e1
    · simp only [ev_set]; rfl
    · simp only [ev_set]; rfl

set_option maxRecDepth 10000 in
theorem own_len {h : Hp} {lo n : Nat} {v : SV} {l : List SV} (ho : Own h lo 36 22 v n l) (h' : Hp) : lenQ Tryz.prog h' 34 v = some (.lit (.int .i64 (Int.ofNat n)), []) := by
  obtain ⟨_, _, b, _, _, ⟨rfl, _⟩ | ⟨rfl, _⟩⟩ := ho
  · rfl
  · rfl

theorem cut_piece {cs : List SV} {o n : Nat} (h : o + n ≤ cs.length) : cut cs o n = some ((cs.drop o).take n) := by
  have : ((cs.drop o).take n).length = n := by rw [List.length_take, List.length_drop]; omega
  simp only [cut, beq_t this, cond_true]

set_option maxHeartbeats 4000000 in
set_option maxRecDepth 10000 in
theorem size_runs (Γ : Glob) (A : Nat → Prop) : ∀ (f : Nat) (cs : List SV) (s : Nat), s ≤ 1048576 → ∀ h : Hp, IsPl Γ h A f cs s → Runs Tryz.prog Γ (.call 17 [.agg cs] h) fun r => r.v = .lit (.int .i64 (Int.ofNat s)) ∧ Kept h.next h r.hp := by
  intro f
  induction f with
  | zero => intro cs s _ h hp; exact hp.elim
  | succ f ihf =>
    intro cs s hs h hp
    obtain ⟨a, fa, kids, hlen, hone, hnd, hsum, hkids, hrow⟩ := hp
    have hle : ∀ x ∈ kids, x.2 ≤ 1048576 := fun x hx => by have := mem_sum hx; omega
    have hkn := sum_pos fun x hx => (hkids x hx).len.2.2
    have hnodes := (nodes_runs Γ fa _ a hnd (by omega)).2
    refine runs_call Tryz.func17 rfl ?_
    refine runs_seq (runs_region ?_)
    refine ops_effect (v := .ptr h.next 0) (hp' := ⟨h.objs.set h.next (.cells cs 64), h.next + 1⟩) rfl rfl rfl rfl (Nat.le_succ _) rfl ?_
    refine ops_quiet rfl rfl rfl ?_
    refine ops_nil ?_
    refine runs_seq (runs_region ?_)
    refine ops_quiet (v := .ptr h.next 5) (fs := []) rfl rfl rfl ?_
    refine ops_quiet (v := .ptr h.next 12) (fs := []) rfl rfl rfl ?_
    refine ops_quiet (v := .agg ((cs.drop 12).take 22)) (fs := [.cells h.next 12 ((cs.drop 12).take 22)]) rfl (by
      have hg : (h.objs.set h.next (.cells cs 64)).get h.next = some (.cells cs 64) := by rw [T.get_set, if_pos rfl]
      show loadQ Tryz.prog Γ _ 36 (.ptr h.next 12) = _
      simp only [loadQ, show tyAgg Tryz.prog 36 = some true from rfl, show tySize Tryz.prog 36 = some 22 from rfl, readCells, knownCells, hg, Option.bind_some, cut_piece (show 12 + 22 ≤ cs.length by omega)]) rfl ?_
    refine ops_call (f := 29) (args := [.agg ((cs.drop 12).take 22)]) rfl rfl rfl rfl ?_
    refine (hnodes ⟨h.objs.set h.next (.cells cs 64), h.next + 1⟩).mono fun r ⟨l, hown, hrk⟩ => ⟨_, rfl, ?_⟩
    have hk1 : Kept h.next h r.hp := Kept.trans ⟨Nat.le_succ _, fun k hk => by
      show (h.objs.set h.next (.cells cs 64)).get k = _
      rw [T.get_set, if_neg (by omega)]⟩ (hrk.less (Nat.le_succ _))
    have hrn := hrk.next
    have hrn : h.next + 1 ≤ r.hp.next := hrn
    have hBr : r.hp.objs.get h.next = some (.cells cs 64) := by
      rw [hrk.old h.next (Nat.lt_succ_self _)]
      show (h.objs.set h.next (.cells cs 64)).get h.next = _
      rw [T.get_set, if_pos rfl]
    refine ops_quiet (v := .lit (.int .i64 (Int.ofNat a))) (fs := []) rfl (own_len hown _) rfl ?_
    refine ops_quiet (v := .lit (.int .i64 (Int.ofNat (1 + a)))) (fs := []) rfl (by
      have hw : IntKind.i64.wrap ((1 : Int) + (a : Int)) = ((1 + a : Nat) : Int) := add_nat (a := 1) (by omega)
      simp only [quiet, ev_set]
      show one (some (.lit (.int .i64 (IntKind.i64.wrap ((1 : Int) + (a : Int)))))) = _
      rw [hw]
      rfl) rfl ?_
    refine ops_quiet (v := .lit (.int .i64 (Int.ofNat (1 + a)))) (fs := []) rfl rfl rfl ?_
    refine ops_nil ?_
    refine runs_seq (runs_seq (runs_region ?_))
    refine ops_quiet rfl rfl rfl ?_
    refine ops_nil ?_
    refine runs_block ?_
    have hsame : ∀ b, A b → b < h.next → A b ∧ r.hp.objs.get b = h.objs.get b := fun b ha hb => ⟨ha, hk1.old b hb⟩
    refine (size_loop Γ A r.hp cs kids s h.next f hs (by omega) (fun x hx => IsPl.mono hk1.next hsame f x.1 x.2 (hkids x hx)) (hrow.mono hk1.next hsame) hBr (by omega) (fun x hx h' hp' => ihf x.1 x.2 (hle x hx) h' hp') kids.length 0 (by omega) _ r.hp (1 + a) rfl rfl rfl (Kept.refl _ _) ?_).mono ?_
    · rw [List.drop_zero]; omega
    · rintro ⟨ex, fr, hp, v⟩ ⟨he, tm', hfr, hval, hkept⟩
      have he : ex = .exit 0 := he
      have hfr : fr = ⟨tm', 27, []⟩ := hfr
      subst he hfr
      refine runs_seq (runs_region ?_)
      refine ops_quiet rfl rfl rfl ?_
      refine ops_quiet rfl rfl rfl ?_
      refine ops_nil ?_
      refine runs_ret ?_
      refine ⟨_, rfl, ?_, hk1.trans (hkept.less hk1.next)⟩
      simp only [ev_set]
      exact hval
end Go.Proofs.YthjkejnmjbljfaaGreatDoor.undoNil
