/-
  PACKAGE dot: 'writes', 'may', 'New', 'All'; and 'maps.Clone', 'maps.Keys' at map[int]int; printed by the author's gen_snap.py, in the calculus of runs. | PACKAGE dot: 'Has' and 'Add'; printed by the author's gen_snap.py, in the calculus of runs.
-/
import Derived.Test.YtjilmneaeocimaaGreatDoorSpGB
namespace Go.Proofs.YtjilmneaeocimaaGreatDoor.snap
open Go Go.Proofs.YtjilmneaeocimaaGreatDoor.Ev

set_option maxHeartbeats 8000000 in
set_option maxRecDepth 20000 in
theorem writes_runs (Γ : Glob) (a : Int) (h : Hp) : Runs Tryz.prog Γ (.call 42 [.lit (.int .i64 a)] h) (Tells h (.lit (.bool (decide (1 ≤ a) && decide (a ≤ 1000))))) := by
  by_cases h1 : 1 ≤ a
  case neg =>
    rw [decide_eq_false h1, Bool.false_and]
    refine runs_call Tryz.func42 rfl ?_
    refine runs_seq ?_
    refine runs_region ?_
    refine ops_q (v := .lit (.bool false)) (fs := []) rfl rfl rfl rfl ?_
    refine ops_nil ?_
    refine runs_seq ?_
    refine runs_region ?_
    refine ops_q (v := .lit (.int .i64 a)) (fs := []) rfl rfl rfl rfl ?_
    refine ops_q (v := .lit (.bool false)) (fs := []) rfl (by simp only [quiet, ev_set]; exact congrArg one (geqF h1)) rfl rfl ?_
    refine ops_q (v := .lit (.bool false)) (fs := []) rfl rfl rfl rfl ?_
    refine ops_u rfl rfl rfl ?_
    refine ops_u rfl rfl rfl ?_
    refine ops_q (v := .lit (.bool false)) (fs := []) rfl rfl rfl rfl ?_
    refine ops_q (v := .lit (.bool false)) (fs := []) rfl rfl rfl rfl ?_
    refine ops_nil ?_
    refine runs_ret ?_
    exact ⟨_, rfl, rfl, Kept.refl _ _⟩
  by_cases h2 : a ≤ 1000
  case neg =>
    rw [decide_eq_true h1, decide_eq_false h2, Bool.true_and]
    refine runs_call Tryz.func42 rfl ?_
    refine runs_seq ?_
    refine runs_region ?_
    refine ops_q (v := .lit (.bool false)) (fs := []) rfl rfl rfl rfl ?_
    refine ops_nil ?_
    refine runs_seq ?_
    refine runs_region ?_
    refine ops_q (v := .lit (.int .i64 a)) (fs := []) rfl rfl rfl rfl ?_
    refine ops_q (v := .lit (.bool true)) (fs := []) rfl (by simp only [quiet, ev_set]; exact congrArg one (geqT h1)) rfl rfl ?_
    refine ops_q (v := .lit (.bool true)) (fs := []) rfl rfl rfl rfl ?_
    refine ops_q (v := .lit (.int .i64 a)) (fs := []) rfl rfl rfl rfl ?_
    refine ops_q (v := .lit (.bool false)) (fs := []) rfl (by simp only [quiet, ev_set]; exact congrArg one (leqF h2)) rfl rfl ?_
    refine ops_q (v := .lit (.bool false)) (fs := []) rfl rfl rfl rfl ?_
    refine ops_q (v := .lit (.bool false)) (fs := []) rfl rfl rfl rfl ?_
    refine ops_nil ?_
    refine runs_ret ?_
    exact ⟨_, rfl, rfl, Kept.refl _ _⟩
  rw [decide_eq_true h1, decide_eq_true h2, Bool.true_and]
  refine runs_call Tryz.func42 rfl ?_
  refine runs_seq ?_
  refine runs_region ?_
  refine ops_q (v := .lit (.bool false)) (fs := []) rfl rfl rfl rfl ?_
  refine ops_nil ?_
  refine runs_seq ?_
  refine runs_region ?_
  refine ops_q (v := .lit (.int .i64 a)) (fs := []) rfl rfl rfl rfl ?_
  refine ops_q (v := .lit (.bool true)) (fs := []) rfl (by simp only [quiet, ev_set]; exact congrArg one (geqT h1)) rfl rfl ?_
  refine ops_q (v := .lit (.bool true)) (fs := []) rfl rfl rfl rfl ?_
  refine ops_q (v := .lit (.int .i64 a)) (fs := []) rfl rfl rfl rfl ?_
  refine ops_q (v := .lit (.bool true)) (fs := []) rfl (by simp only [quiet, ev_set]; exact congrArg one (leqT h2)) rfl rfl ?_
  refine ops_q (v := .lit (.bool true)) (fs := []) rfl rfl rfl rfl ?_
  refine ops_q (v := .lit (.bool true)) (fs := []) rfl rfl rfl rfl ?_
  refine ops_nil ?_
  refine runs_ret ?_
  exact ⟨_, rfl, rfl, Kept.refl _ _⟩

set_option maxHeartbeats 8000000 in
set_option maxRecDepth 20000 in
theorem may_runs (Γ : Glob) (a n : Int) (h : Hp) : Runs Tryz.prog Γ (.call 26 [.agg [.lit (.int .i64 a), .lit (.int .i64 n)]] h) (Tells h (.lit (.bool (decide (May (a, n)))))) := by
  by_cases h1 : (1 ≤ a ∧ a ≤ 1000)
  case neg =>
    have hw : (decide (1 ≤ a) && decide (a ≤ 1000)) = false := by simp only [Bool.and_eq_false_iff, decide_eq_false_iff_not]; omega
    rw [show decide (May (a, n)) = false from decide_eq_false fun hm => h1 ⟨hm.1, hm.2.1⟩]
    refine runs_call Tryz.func26 rfl ?_
    refine runs_seq ?_
    refine runs_region ?_
    refine ops_box (cs := [.lit (.int .i64 a), .lit (.int .i64 n)]) rfl rfl rfl rfl rfl (fun H1 g1 k1 n1 => ?_)
    refine ops_q (v := .lit (.bool false)) (fs := []) rfl rfl rfl rfl ?_
    refine ops_nil ?_
    refine runs_seq ?_
    refine runs_region ?_
    refine ops_q (v := .ptr h.next 0) (fs := []) rfl rfl rfl rfl ?_
    refine ops_q (v := .lit (.int .i64 a)) (fs := [.cells h.next 0 [.lit (.int .i64 a)]]) rfl (by simp only [quiet, ev_set]; exact load_cell rfl g1.get rfl) rfl rfl ?_
    refine ops_c (f := 42) (args := [.lit (.int .i64 a)]) rfl rfl rfl (clone_body Tryz.func42 rfl) rfl rfl ?_
    refine ((writes_runs Γ a H1).mono fun r hr => (⟨hr.1.trans (by rw [hw]), hr.2⟩ : Tells H1 (.lit (.bool false)) r)).mono ?_
    rintro ⟨ex2, fr2, H2, v2⟩ ⟨hv2, k2⟩
    have hv2 : v2 = .lit (.bool false) := hv2
    subst hv2
    have k2 : Kept H1.next H1 H2 := k2
    have g1_2 := g1.kept k2
    refine ops_q (v := .lit (.bool false)) (fs := []) rfl rfl rfl rfl ?_
    refine ops_u rfl rfl rfl ?_
    refine ops_u rfl rfl rfl ?_
    refine ops_u rfl rfl rfl ?_
    refine ops_q (v := .lit (.bool false)) (fs := []) rfl rfl rfl rfl ?_
    refine ops_q (v := .lit (.bool false)) (fs := []) rfl rfl rfl rfl ?_
    refine ops_nil ?_
    refine runs_ret ?_
    exact ⟨_, rfl, rfl, k1.then k2⟩
  have hw : (decide (1 ≤ a) && decide (a ≤ 1000)) = true := by simp only [Bool.and_eq_true, decide_eq_true_eq]; exact h1
  by_cases h2 : 1 ≤ n
  case neg =>
    rw [show decide (May (a, n)) = false from decide_eq_false fun hm => h2 hm.2.2]
    refine runs_call Tryz.func26 rfl ?_
    refine runs_seq ?_
    refine runs_region ?_
    refine ops_box (cs := [.lit (.int .i64 a), .lit (.int .i64 n)]) rfl rfl rfl rfl rfl (fun H1 g1 k1 n1 => ?_)
    refine ops_q (v := .lit (.bool false)) (fs := []) rfl rfl rfl rfl ?_
    refine ops_nil ?_
    refine runs_seq ?_
    refine runs_region ?_
    refine ops_q (v := .ptr h.next 0) (fs := []) rfl rfl rfl rfl ?_
    refine ops_q (v := .lit (.int .i64 a)) (fs := [.cells h.next 0 [.lit (.int .i64 a)]]) rfl (by simp only [quiet, ev_set]; exact load_cell rfl g1.get rfl) rfl rfl ?_
    refine ops_c (f := 42) (args := [.lit (.int .i64 a)]) rfl rfl rfl (clone_body Tryz.func42 rfl) rfl rfl ?_
    refine ((writes_runs Γ a H1).mono fun r hr => (⟨hr.1.trans (by rw [hw]), hr.2⟩ : Tells H1 (.lit (.bool true)) r)).mono ?_
    rintro ⟨ex2, fr2, H2, v2⟩ ⟨hv2, k2⟩
    have hv2 : v2 = .lit (.bool true) := hv2
    subst hv2
    have k2 : Kept H1.next H1 H2 := k2
    have g1_2 := g1.kept k2
    refine ops_q (v := .lit (.bool true)) (fs := []) rfl rfl rfl rfl ?_
    refine ops_q (v := .ptr h.next 1) (fs := []) rfl rfl rfl rfl ?_
    refine ops_q (v := .lit (.int .i64 n)) (fs := [.cells h.next 1 [.lit (.int .i64 n)]]) rfl (by simp only [quiet, ev_set]; exact load_cell rfl g1_2.get rfl) rfl rfl ?_
    refine ops_q (v := .lit (.bool false)) (fs := []) rfl (by simp only [quiet, ev_set]; exact congrArg one (geqF h2)) rfl rfl ?_
    refine ops_q (v := .lit (.bool false)) (fs := []) rfl rfl rfl rfl ?_
    refine ops_q (v := .lit (.bool false)) (fs := []) rfl rfl rfl rfl ?_
    refine ops_nil ?_
    refine runs_ret ?_
    exact ⟨_, rfl, rfl, k1.then k2⟩
  rw [show decide (May (a, n)) = true from decide_eq_true ⟨h1.1, h1.2, h2⟩]
  refine runs_call Tryz.func26 rfl ?_
  refine runs_seq ?_
  refine runs_region ?_
  refine ops_box (cs := [.lit (.int .i64 a), .lit (.int .i64 n)]) rfl rfl rfl rfl rfl (fun H1 g1 k1 n1 => ?_)
  refine ops_q (v := .lit (.bool false)) (fs := []) rfl rfl rfl rfl ?_
  refine ops_nil ?_
  refine runs_seq ?_
  refine runs_region ?_
  refine ops_q (v := .ptr h.next 0) (fs := []) rfl rfl rfl rfl ?_
  refine ops_q (v := .lit (.int .i64 a)) (fs := [.cells h.next 0 [.lit (.int .i64 a)]]) rfl (by simp only [quiet, ev_set]; exact load_cell rfl g1.get rfl) rfl rfl ?_
  refine ops_c (f := 42) (args := [.lit (.int .i64 a)]) rfl rfl rfl (clone_body Tryz.func42 rfl) rfl rfl ?_
  refine ((writes_runs Γ a H1).mono fun r hr => (⟨hr.1.trans (by rw [hw]), hr.2⟩ : Tells H1 (.lit (.bool true)) r)).mono ?_
  rintro ⟨ex2, fr2, H2, v2⟩ ⟨hv2, k2⟩
  have hv2 : v2 = .lit (.bool true) := hv2
  subst hv2
  have k2 : Kept H1.next H1 H2 := k2
  have g1_2 := g1.kept k2
  refine ops_q (v := .lit (.bool true)) (fs := []) rfl rfl rfl rfl ?_
  refine ops_q (v := .ptr h.next 1) (fs := []) rfl rfl rfl rfl ?_
  refine ops_q (v := .lit (.int .i64 n)) (fs := [.cells h.next 1 [.lit (.int .i64 n)]]) rfl (by simp only [quiet, ev_set]; exact load_cell rfl g1_2.get rfl) rfl rfl ?_
  refine ops_q (v := .lit (.bool true)) (fs := []) rfl (by simp only [quiet, ev_set]; exact congrArg one (geqT h2)) rfl rfl ?_
  refine ops_q (v := .lit (.bool true)) (fs := []) rfl rfl rfl rfl ?_
  refine ops_q (v := .lit (.bool true)) (fs := []) rfl rfl rfl rfl ?_
  refine ops_nil ?_
  refine runs_ret ?_
  exact ⟨_, rfl, rfl, k1.then k2⟩

/-- What one has seen, in memory: its cell, its map's block, and the list. -/
structure SeenAt (h : Hp) (b M : Nat) (r : List (Int × Int)) : Prop where
  ob : At h b (.cells [.map M] 67)
  mp : ∃ l, At h M (.map (ent l 0) l.length) ∧ Holds l r
  asc : Asc r
  good : Good r
theorem SeenAt.kept {h H : Hp} {b M : Nat} {r : List (Int × Int)} (s : SeenAt h b M r) (k : Kept h.next h H) : SeenAt H b M r := ⟨s.ob.kept k, s.mp.elim fun l hl => ⟨l, hl.1.kept k, hl.2⟩, s.asc, s.good⟩
theorem Good.nz {r : List (Int × Int)} (h : Good r) : ∀ p ∈ r, p.2 ≠ 0 := fun p hp => by
  have := (h p hp).1.2.2
  omega
theorem SeenAt.val {h : Hp} {b M : Nat} {r : List (Int × Int)} (s : SeenAt h b M r) (a : Int) : lookupQ Tryz.prog h 49 (.map M) (.lit (.int .i64 a)) false = some (.lit (.int .i64 (val r a)), [.obj M (.map (ent (Classical.choose s.mp) 0) (Classical.choose s.mp).length)]) := by
  obtain ⟨h1, h2⟩ := Classical.choose_spec s.mp
  have := lookupI (a := a) h1.get
  rw [h2.val s.asc s.good.nz] at this
  exact this
set_option maxHeartbeats 8000000 in
set_option maxRecDepth 20000 in
theorem new_runs (Γ : Glob) (h : Hp) : Runs Tryz.prog Γ (.call 15 [] h) fun r => r.v = .ptr (h.next + 1) 0 ∧ Kept h.next h r.hp ∧ SeenAt r.hp (h.next + 1) h.next [] := by
  refine runs_call Tryz.func15 rfl ?_
  refine runs_seq ?_
  refine runs_region ?_
  refine ops_q (v := .lit (.pointer none)) (fs := []) rfl rfl rfl rfl ?_
  refine ops_nil ?_
  refine runs_seq ?_
  refine runs_region ?_
  refine ops_mkmap rfl rfl rfl rfl rfl (fun H1 g1 k1 n1 => ?_)
  refine ops_q (v := .agg [.map h.next]) (fs := []) rfl rfl rfl rfl ?_
  refine ops_box (cs := [.map h.next]) rfl rfl rfl rfl rfl (fun H2 g2 k2 n2 => ?_)
  have g1_2 := g1.kept k2
  refine ops_q (v := .ptr H1.next 0) (fs := []) rfl rfl rfl rfl ?_
  refine ops_nil ?_
  refine runs_ret ?_
  have e : H1.next = h.next + 1 := n1
  have g2 : At H2 (h.next + 1) (.cells [.map h.next] 67) := e ▸ g2
  exact ⟨_, rfl, congrArg (fun n => SV.ptr n 0) e, k1.then k2, g2, ⟨[], g1_2, List.Pairwise.nil, fun _ => Iff.rfl⟩, List.Pairwise.nil, fun _ hp => by cases hp⟩

set_option maxHeartbeats 8000000 in
set_option maxRecDepth 20000 in
theorem all_runs (Γ : Glob) (v : SV) (hv : v.cells = [v]) (h : Hp) : Runs Tryz.prog Γ (.call 19 [v] h) fun r => r.v = .func (.func 30) [] [.ptr h.next 0] ∧ Kept h.next h r.hp ∧ At r.hp h.next (.cells [v] 26) := by
  refine runs_call Tryz.func19 rfl ?_
  refine runs_seq ?_
  refine runs_region ?_
  refine ops_box (cs := [v]) rfl rfl hv rfl rfl (fun H1 g1 k1 n1 => ?_)
  refine ops_q (v := .lit .nilFunc) (fs := []) rfl rfl rfl rfl ?_
  refine ops_nil ?_
  refine runs_seq ?_
  refine runs_region ?_
  refine ops_q (v := .func (.func 30) [] [.ptr h.next 0]) (fs := []) rfl rfl rfl rfl ?_
  refine ops_q (v := .func (.func 30) [] [.ptr h.next 0]) (fs := []) rfl rfl rfl rfl ?_
  refine ops_nil ?_
  refine runs_ret ?_
  exact ⟨_, rfl, rfl, k1, g1⟩

set_option maxHeartbeats 8000000 in
set_option maxRecDepth 20000 in
theorem mclone_runs (Γ : Glob) (M : Nat) (es : List (SV × SV × Nat)) (c : Nat) (h : Hp) (hM : At h M (.map es c)) : Runs Tryz.prog Γ (.call 31 [.map M] h) fun r => r.v = .map h.next ∧ Kept h.next h r.hp ∧ At r.hp h.next (.map es c) ∧ r.hp.next = h.next + 1 := by
  have hcl : cloneE Tryz.prog h 43 [.iface 49 (.map M)] = some (.iface 49 (.map h.next), ⟨h.objs.set h.next (.map es c), h.next + 1⟩) := by
    have hf : Tryz.prog.funcs[43]? = some Tryz.f43 := Tryz.func43
    unfold cloneE
    rw [hf]
    simp only [hM.get]
    rfl
  refine runs_call Tryz.func31 rfl ?_
  refine runs_seq ?_
  refine runs_region ?_
  refine ops_q (v := .lit (.map none)) (fs := []) rfl rfl rfl rfl ?_
  refine ops_nil ?_
  refine runs_seq ?_
  refine runs_seq ?_
  refine runs_region ?_
  refine ops_q (v := .map M) (fs := []) rfl rfl rfl rfl ?_
  refine ops_q (v := .lit (.bool false)) (fs := []) rfl (by simp only [quiet, ev_set]; exact congrArg one (show binQ Tryz.prog .eql 49 _ _ (.map M) (.lit (.map none)) = some (.lit (.bool false)) from rfl)) rfl rfl ?_
  refine ops_nil ?_
  refine runs_cond false rfl ?_
  refine runs_skip ?_
  refine runs_seq ?_
  refine runs_region ?_
  refine ops_q (v := .map M) (fs := []) rfl rfl rfl rfl ?_
  refine ops_q (v := .iface 49 (.map M)) (fs := []) rfl rfl rfl rfl ?_
  refine ops_clone (f := 43) (args := [.iface 49 (.map M)]) rfl rfl rfl hcl rfl rfl ?_
  refine ops_q (v := .map h.next) (fs := []) rfl rfl rfl rfl ?_
  refine ops_q (v := .map h.next) (fs := []) rfl rfl rfl rfl ?_
  refine ops_nil ?_
  refine runs_ret ?_
  exact ⟨_, rfl, rfl, ⟨Nat.le_succ _, fun b hb => get_ne (Nat.ne_of_lt hb)⟩, ⟨Nat.lt_succ_self _, get_same⟩, rfl⟩

set_option maxHeartbeats 8000000 in
set_option maxRecDepth 20000 in
theorem mkeys_runs (Γ : Glob) (M : Nat) (h : Hp) : Runs Tryz.prog Γ (.call 33 [.map M] h) fun r => r.v = .func (.func 46) [] [.ptr h.next 0] ∧ Kept h.next h r.hp ∧ At r.hp h.next (.cells [.map M] 49) ∧ r.hp.next = h.next + 1 := by
  refine runs_call Tryz.func33 rfl ?_
  refine runs_seq ?_
  refine runs_region ?_
  refine ops_box (cs := [.map M]) rfl rfl rfl rfl rfl (fun H1 g1 k1 n1 => ?_)
  refine ops_q (v := .lit .nilFunc) (fs := []) rfl rfl rfl rfl ?_
  refine ops_nil ?_
  refine runs_seq ?_
  refine runs_region ?_
  refine ops_q (v := .func (.func 46) [] [.ptr h.next 0]) (fs := []) rfl rfl rfl rfl ?_
  refine ops_q (v := .func (.func 46) [] [.ptr h.next 0]) (fs := []) rfl rfl rfl rfl ?_
  refine ops_nil ?_
  refine runs_ret ?_
  exact ⟨_, rfl, rfl, k1, g1, n1⟩

end Go.Proofs.YtjilmneaeocimaaGreatDoor.snap
namespace Go.Proofs.YtjilmneaeocimaaGreatDoor.snap
open Go Go.Proofs.YtjilmneaeocimaaGreatDoor.Ev

noncomputable def hasOps : Array Oper := opsOf (seqL (seqR (bodyOf Tryz.f20)))
set_option maxHeartbeats 8000000 in
set_option maxRecDepth 20000 in
theorem has_runs (Γ : Glob) (b M : Nat) (r : List (Int × Int)) (a n : Int) (h : Hp) (hs : SeenAt h b M r) : Runs Tryz.prog Γ (.call 20 [.ptr b 0, .agg [.lit (.int .i64 a), .lit (.int .i64 n)]] h) (Tells h (.lit (.bool (has r (a, n))))) := by
  obtain ⟨ob, ⟨l, mp, hl⟩, asc, good⟩ := hs
  have hval : val l a = val r a := hl.val asc good.nz a
  by_cases hm : May (a, n)
  case neg =>
    have hm : decide (May (a, n)) = false := decide_eq_false hm
    rw [show has r (a, n) = false by simp only [has, hm, Bool.false_and]]
    refine runs_call Tryz.func20 rfl ?_
    refine runs_seq ?_
    refine runs_region ?_
    refine ops_box (cs := [.lit (.int .i64 a), .lit (.int .i64 n)]) rfl rfl rfl rfl rfl (fun H1 g1 k1 n1 => ?_)
    have ob_1 := ob.kept k1
    have mp_1 := mp.kept k1
    refine ops_q (v := .lit (.bool false)) (fs := []) rfl rfl rfl rfl ?_
    refine ops_nil ?_
    refine runs_seq ?_
    refine runs_drawn (ops := hasOps) rfl ?_
    have t_hasOps_3_4 : Nat.testBit (descOf 3 hasOps.toList 0 0) 4 = true := rfl
    refine drawn_c (i := 4) (f := 26) (args := [.agg [.lit (.int .i64 a), .lit (.int .i64 n)]]) (m' := 15) (held' := [⟨descOf 3 hasOps.toList 0 0, [.cells h.next 0 [.lit (.int .i64 a), .lit (.int .i64 n)]], none⟩]) (hp := H1) (by
      refine take_q (v := .ptr b 0) rfl rfl rfl rfl rfl rfl ?_
      refine take_q (v := .lit (.bool true)) rfl rfl rfl rfl rfl rfl ?_
      refine take_q (v := .lit (.bool true)) rfl rfl rfl rfl rfl rfl ?_
      refine take_f (v := .agg [.lit (.int .i64 a), .lit (.int .i64 n)]) (fact := .cells h.next 0 [.lit (.int .i64 a), .lit (.int .i64 n)]) rfl rfl rfl (by simp only [quiet, ev_set]; exact load_cut rfl rfl g1.get rfl) rfl rfl ?_
      refine take_loud rfl rfl rfl rfl rfl ?_
      refine take_wait rfl rfl ?_
      refine take_wait rfl rfl ?_
      refine take_wait rfl rfl ?_
      refine take_wait rfl rfl ?_
      refine take_wait rfl rfl ?_
      refine take_wait rfl rfl ?_
      refine take_wait rfl rfl ?_
      refine take_wait rfl rfl ?_
      refine take_wait rfl rfl ?_
      refine take_wait rfl rfl ?_
      refine take_wait rfl rfl ?_
      refine take_wait rfl rfl ?_
      refine take_wait rfl rfl ?_
      refine take_wait rfl rfl ?_
      rfl) (by rfl) (by rfl) (by rfl) (clone_body Tryz.func26 rfl) rfl rfl ?_
    refine ((may_runs Γ a n H1).mono fun r hr => (⟨hr.1.trans (by rw [hm]), hr.2⟩ : Tells H1 (.lit (.bool false)) r)).mono ?_
    rintro ⟨ex2, fr2, H2, v2⟩ ⟨hv2, k2⟩
    have hv2 : v2 = .lit (.bool false) := hv2
    subst hv2
    have k2 : Kept H1.next H1 H2 := k2
    have ob_2 := ob_1.kept k2
    have mp_2 := mp_1.kept k2
    have g1_2 := g1.kept k2
    refine ⟨_, rfl, (by simp only [factsStand, t_hasOps_3_4, cond_true, List.all_cons, List.all_nil, Bool.and_true]), ?_⟩
    rw [show drop 4 [⟨descOf 3 hasOps.toList 0 0, [.cells h.next 0 [.lit (.int .i64 a), .lit (.int .i64 n)]], none⟩] = [] from by simp only [drop, t_hasOps_3_4, cond_true]]
    refine drawn_end (m' := 524287) (held' := []) (hp' := H2) (by
      refine take_done rfl ?_
      refine take_done rfl ?_
      refine take_done rfl ?_
      refine take_done rfl ?_
      refine take_done rfl ?_
      refine take_q (v := .lit (.bool false)) rfl rfl rfl rfl rfl rfl ?_
      refine take_q (v := .lit (.bool false)) rfl rfl rfl rfl rfl rfl ?_
      refine take_unwanted rfl rfl rfl rfl ?_
      refine take_unwanted rfl rfl rfl rfl ?_
      refine take_unwanted rfl rfl rfl rfl ?_
      refine take_unwanted rfl rfl rfl rfl ?_
      refine take_unwanted rfl rfl rfl rfl ?_
      refine take_unwanted rfl rfl rfl rfl ?_
      refine take_unwanted rfl rfl rfl rfl ?_
      refine take_unwanted rfl rfl rfl rfl ?_
      refine take_unwanted rfl rfl rfl rfl ?_
      refine take_unwanted rfl rfl rfl rfl ?_
      refine take_q (v := .lit (.bool false)) rfl rfl rfl rfl rfl rfl ?_
      refine take_q (v := .lit (.bool false)) rfl rfl rfl rfl rfl rfl ?_
      rfl) (by rfl) (by rfl) ?_
    refine runs_ret ?_
    exact ⟨_, rfl, rfl, k1.then k2⟩
  have hm : decide (May (a, n)) = true := decide_eq_true hm
  by_cases hn : n ≤ val l a
  case neg =>
    rw [show has r (a, n) = false by simp only [has, hm, Bool.true_and]; rw [← hval]; exact decide_eq_false hn]
    refine runs_call Tryz.func20 rfl ?_
    refine runs_seq ?_
    refine runs_region ?_
    refine ops_box (cs := [.lit (.int .i64 a), .lit (.int .i64 n)]) rfl rfl rfl rfl rfl (fun H1 g1 k1 n1 => ?_)
    have ob_1 := ob.kept k1
    have mp_1 := mp.kept k1
    refine ops_q (v := .lit (.bool false)) (fs := []) rfl rfl rfl rfl ?_
    refine ops_nil ?_
    refine runs_seq ?_
    refine runs_drawn (ops := hasOps) rfl ?_
    have t_hasOps_3_4 : Nat.testBit (descOf 3 hasOps.toList 0 0) 4 = true := rfl
    refine drawn_c (i := 4) (f := 26) (args := [.agg [.lit (.int .i64 a), .lit (.int .i64 n)]]) (m' := 15) (held' := [⟨descOf 3 hasOps.toList 0 0, [.cells h.next 0 [.lit (.int .i64 a), .lit (.int .i64 n)]], none⟩]) (hp := H1) (by
      refine take_q (v := .ptr b 0) rfl rfl rfl rfl rfl rfl ?_
      refine take_q (v := .lit (.bool true)) rfl rfl rfl rfl rfl rfl ?_
      refine take_q (v := .lit (.bool true)) rfl rfl rfl rfl rfl rfl ?_
      refine take_f (v := .agg [.lit (.int .i64 a), .lit (.int .i64 n)]) (fact := .cells h.next 0 [.lit (.int .i64 a), .lit (.int .i64 n)]) rfl rfl rfl (by simp only [quiet, ev_set]; exact load_cut rfl rfl g1.get rfl) rfl rfl ?_
      refine take_loud rfl rfl rfl rfl rfl ?_
      refine take_wait rfl rfl ?_
      refine take_wait rfl rfl ?_
      refine take_wait rfl rfl ?_
      refine take_wait rfl rfl ?_
      refine take_wait rfl rfl ?_
      refine take_wait rfl rfl ?_
      refine take_wait rfl rfl ?_
      refine take_wait rfl rfl ?_
      refine take_wait rfl rfl ?_
      refine take_wait rfl rfl ?_
      refine take_wait rfl rfl ?_
      refine take_wait rfl rfl ?_
      refine take_wait rfl rfl ?_
      refine take_wait rfl rfl ?_
      rfl) (by rfl) (by rfl) (by rfl) (clone_body Tryz.func26 rfl) rfl rfl ?_
    refine ((may_runs Γ a n H1).mono fun r hr => (⟨hr.1.trans (by rw [hm]), hr.2⟩ : Tells H1 (.lit (.bool true)) r)).mono ?_
    rintro ⟨ex2, fr2, H2, v2⟩ ⟨hv2, k2⟩
    have hv2 : v2 = .lit (.bool true) := hv2
    subst hv2
    have k2 : Kept H1.next H1 H2 := k2
    have ob_2 := ob_1.kept k2
    have mp_2 := mp_1.kept k2
    have g1_2 := g1.kept k2
    refine ⟨_, rfl, (by simp only [factsStand, t_hasOps_3_4, cond_true, List.all_cons, List.all_nil, Bool.and_true]), ?_⟩
    rw [show drop 4 [⟨descOf 3 hasOps.toList 0 0, [.cells h.next 0 [.lit (.int .i64 a), .lit (.int .i64 n)]], none⟩] = [] from by simp only [drop, t_hasOps_3_4, cond_true]]
    refine drawn_end (m' := 524287) (held' := [⟨descOf 15 hasOps.toList 0 0, [.obj M (.map (ent l 0) l.length)], none⟩, ⟨descOf 14 hasOps.toList 0 0, [.cells h.next 0 [.lit (.int .i64 a)]], none⟩, ⟨descOf 12 hasOps.toList 0 0, [.cells b 0 [.map M]], none⟩, ⟨descOf 8 hasOps.toList 0 0, [.cells h.next 1 [.lit (.int .i64 n)]], none⟩]) (hp' := H2) (by
      refine take_done rfl ?_
      refine take_done rfl ?_
      refine take_done rfl ?_
      refine take_done rfl ?_
      refine take_done rfl ?_
      refine take_q (v := .lit (.bool true)) rfl rfl rfl rfl rfl rfl ?_
      refine take_q (v := .lit (.bool true)) rfl rfl rfl rfl rfl rfl ?_
      refine take_q (v := .ptr h.next 1) rfl rfl rfl rfl rfl rfl ?_
      refine take_f (v := .lit (.int .i64 n)) (fact := .cells h.next 1 [.lit (.int .i64 n)]) rfl rfl rfl (by simp only [quiet, ev_set]; exact load_cell rfl g1_2.get rfl) rfl rfl ?_
      refine take_q (v := .ptr b 0) rfl rfl rfl rfl rfl rfl ?_
      refine take_q (v := .ptr b 0) rfl rfl rfl rfl rfl rfl ?_
      refine take_q (v := .ptr b 0) rfl rfl rfl rfl rfl rfl ?_
      refine take_f (v := .map M) (fact := .cells b 0 [.map M]) rfl rfl rfl (by simp only [quiet, ev_set]; exact load_cell rfl ob_2.get rfl) rfl rfl ?_
      refine take_q (v := .ptr h.next 0) rfl rfl rfl rfl rfl rfl ?_
      refine take_f (v := .lit (.int .i64 a)) (fact := .cells h.next 0 [.lit (.int .i64 a)]) rfl rfl rfl (by simp only [quiet, ev_set]; exact load_cell rfl g1_2.get rfl) rfl rfl ?_
      refine take_f (v := .lit (.int .i64 (val l a))) (fact := .obj M (.map (ent l 0) l.length)) rfl rfl rfl (by simp only [quiet, ev_set]; exact lookupI mp_2.get) rfl rfl ?_
      refine take_q (v := .lit (.bool false)) rfl rfl rfl (by simp only [quiet, ev_set]; exact congrArg one (leqF hn)) rfl rfl ?_
      refine take_q (v := .lit (.bool false)) rfl rfl rfl rfl rfl rfl ?_
      refine take_q (v := .lit (.bool false)) rfl rfl rfl rfl rfl rfl ?_
      rfl) (by rfl) (by rfl) ?_
    refine runs_ret ?_
    exact ⟨_, rfl, rfl, k1.then k2⟩
  rw [show has r (a, n) = true by simp only [has, hm, Bool.true_and]; rw [← hval]; exact decide_eq_true hn]
  refine runs_call Tryz.func20 rfl ?_
  refine runs_seq ?_
  refine runs_region ?_
  refine ops_box (cs := [.lit (.int .i64 a), .lit (.int .i64 n)]) rfl rfl rfl rfl rfl (fun H1 g1 k1 n1 => ?_)
  have ob_1 := ob.kept k1
  have mp_1 := mp.kept k1
  refine ops_q (v := .lit (.bool false)) (fs := []) rfl rfl rfl rfl ?_
  refine ops_nil ?_
  refine runs_seq ?_
  refine runs_drawn (ops := hasOps) rfl ?_
  have t_hasOps_3_4 : Nat.testBit (descOf 3 hasOps.toList 0 0) 4 = true := rfl
  refine drawn_c (i := 4) (f := 26) (args := [.agg [.lit (.int .i64 a), .lit (.int .i64 n)]]) (m' := 15) (held' := [⟨descOf 3 hasOps.toList 0 0, [.cells h.next 0 [.lit (.int .i64 a), .lit (.int .i64 n)]], none⟩]) (hp := H1) (by
    refine take_q (v := .ptr b 0) rfl rfl rfl rfl rfl rfl ?_
    refine take_q (v := .lit (.bool true)) rfl rfl rfl rfl rfl rfl ?_
    refine take_q (v := .lit (.bool true)) rfl rfl rfl rfl rfl rfl ?_
    refine take_f (v := .agg [.lit (.int .i64 a), .lit (.int .i64 n)]) (fact := .cells h.next 0 [.lit (.int .i64 a), .lit (.int .i64 n)]) rfl rfl rfl (by simp only [quiet, ev_set]; exact load_cut rfl rfl g1.get rfl) rfl rfl ?_
    refine take_loud rfl rfl rfl rfl rfl ?_
    refine take_wait rfl rfl ?_
    refine take_wait rfl rfl ?_
    refine take_wait rfl rfl ?_
    refine take_wait rfl rfl ?_
    refine take_wait rfl rfl ?_
    refine take_wait rfl rfl ?_
    refine take_wait rfl rfl ?_
    refine take_wait rfl rfl ?_
    refine take_wait rfl rfl ?_
    refine take_wait rfl rfl ?_
    refine take_wait rfl rfl ?_
    refine take_wait rfl rfl ?_
    refine take_wait rfl rfl ?_
    refine take_wait rfl rfl ?_
    rfl) (by rfl) (by rfl) (by rfl) (clone_body Tryz.func26 rfl) rfl rfl ?_
  refine ((may_runs Γ a n H1).mono fun r hr => (⟨hr.1.trans (by rw [hm]), hr.2⟩ : Tells H1 (.lit (.bool true)) r)).mono ?_
  rintro ⟨ex2, fr2, H2, v2⟩ ⟨hv2, k2⟩
  have hv2 : v2 = .lit (.bool true) := hv2
  subst hv2
  have k2 : Kept H1.next H1 H2 := k2
  have ob_2 := ob_1.kept k2
  have mp_2 := mp_1.kept k2
  have g1_2 := g1.kept k2
  refine ⟨_, rfl, (by simp only [factsStand, t_hasOps_3_4, cond_true, List.all_cons, List.all_nil, Bool.and_true]), ?_⟩
  rw [show drop 4 [⟨descOf 3 hasOps.toList 0 0, [.cells h.next 0 [.lit (.int .i64 a), .lit (.int .i64 n)]], none⟩] = [] from by simp only [drop, t_hasOps_3_4, cond_true]]
  refine drawn_end (m' := 524287) (held' := [⟨descOf 15 hasOps.toList 0 0, [.obj M (.map (ent l 0) l.length)], none⟩, ⟨descOf 14 hasOps.toList 0 0, [.cells h.next 0 [.lit (.int .i64 a)]], none⟩, ⟨descOf 12 hasOps.toList 0 0, [.cells b 0 [.map M]], none⟩, ⟨descOf 8 hasOps.toList 0 0, [.cells h.next 1 [.lit (.int .i64 n)]], none⟩]) (hp' := H2) (by
    refine take_done rfl ?_
    refine take_done rfl ?_
    refine take_done rfl ?_
    refine take_done rfl ?_
    refine take_done rfl ?_
    refine take_q (v := .lit (.bool true)) rfl rfl rfl rfl rfl rfl ?_
    refine take_q (v := .lit (.bool true)) rfl rfl rfl rfl rfl rfl ?_
    refine take_q (v := .ptr h.next 1) rfl rfl rfl rfl rfl rfl ?_
    refine take_f (v := .lit (.int .i64 n)) (fact := .cells h.next 1 [.lit (.int .i64 n)]) rfl rfl rfl (by simp only [quiet, ev_set]; exact load_cell rfl g1_2.get rfl) rfl rfl ?_
    refine take_q (v := .ptr b 0) rfl rfl rfl rfl rfl rfl ?_
    refine take_q (v := .ptr b 0) rfl rfl rfl rfl rfl rfl ?_
    refine take_q (v := .ptr b 0) rfl rfl rfl rfl rfl rfl ?_
    refine take_f (v := .map M) (fact := .cells b 0 [.map M]) rfl rfl rfl (by simp only [quiet, ev_set]; exact load_cell rfl ob_2.get rfl) rfl rfl ?_
    refine take_q (v := .ptr h.next 0) rfl rfl rfl rfl rfl rfl ?_
    refine take_f (v := .lit (.int .i64 a)) (fact := .cells h.next 0 [.lit (.int .i64 a)]) rfl rfl rfl (by simp only [quiet, ev_set]; exact load_cell rfl g1_2.get rfl) rfl rfl ?_
    refine take_f (v := .lit (.int .i64 (val l a))) (fact := .obj M (.map (ent l 0) l.length)) rfl rfl rfl (by simp only [quiet, ev_set]; exact lookupI mp_2.get) rfl rfl ?_
    refine take_q (v := .lit (.bool true)) rfl rfl rfl (by simp only [quiet, ev_set]; exact congrArg one (leqT hn)) rfl rfl ?_
    refine take_q (v := .lit (.bool true)) rfl rfl rfl rfl rfl rfl ?_
    refine take_q (v := .lit (.bool true)) rfl rfl rfl rfl rfl rfl ?_
    rfl) (by rfl) (by rfl) ?_
  refine runs_ret ?_
  exact ⟨_, rfl, rfl, k1.then k2⟩

noncomputable def addOps : Array Oper := opsOf (seqL (seqL (seqR (bodyOf Tryz.f16))))
noncomputable def addOps5 : Array Oper := opsOf (seqL (seqR (seqR (seqR (bodyOf Tryz.f16)))))
/-- What 'Add' leaves. -/
def Adds (h : Hp) (b M : Nat) (r : List (Int × Int)) (p : Int × Int) (o : Out) : Prop := o.v = .lit (.bool (isNew r p)) ∧ SeenAt o.hp b M (addR r p) ∧ (∀ c, c < h.next → c ≠ M → o.hp.objs.get c = h.objs.get c) ∧ h.next ≤ o.hp.next
theorem At.ne {h : Hp} {b M c : Nat} {cs : List SV} {e : TypeId} {es : List (SV × SV × Nat)} (h1 : At h b (.cells cs e)) (h2 : At h M (.map es c)) : b ≠ M := by
  rintro rfl
  have := h1.get.symm.trans h2.get
  cases this
theorem SeenAt.same {h h' : Hp} {b M : Nat} {r : List (Int × Int)} {p : Int × Int} (s : SeenAt h b M r) (k : Kept h.next h h') (hn : isNew r p = false) : SeenAt h' b M (addR r p) := by
  rw [addR, hn, if_neg (by decide)]
  exact s.kept k
theorem SeenAt.more {h h1 : Hp} {b M : Nat} {r l : List (Int × Int)} {p : Int × Int} (ob : At h b (.cells [.map M] 67)) (mp : At h M (.map (ent l 0) l.length)) (hl : Holds l r) (asc : Asc r) (good : Good r) (h1e : h1 = h.upd M (.map (ent (putL l p.1 p.2) 0) (putL l p.1 p.2).length)) (hn : isNew r p = true) (h64 : Lim p.2) : SeenAt h1 b M (addR r p) := by
  subst h1e
  have hne := ob.ne mp
  refine ⟨⟨ob.lt, (get_ne hne).trans ob.get⟩, ⟨putL l p.1 p.2, ⟨mp.lt, get_same⟩, ?_⟩, addR_asc asc, addR_good good h64⟩
  rw [addR, if_pos hn]
  exact hl.put
set_option maxHeartbeats 8000000 in
set_option maxRecDepth 20000 in
theorem add_runs (Γ : Glob) (b M : Nat) (r : List (Int × Int)) (a n : Int) (h64 : Lim n) (h : Hp) (hs : SeenAt h b M r) : Runs Tryz.prog Γ (.call 16 [.ptr b 0, .agg [.lit (.int .i64 a), .lit (.int .i64 n)]] h) (Adds h b M r (a, n)) := by
  have hs0 := hs
  obtain ⟨ob, ⟨l, mp, hl⟩, asc, good⟩ := hs
  have hval : val l a = val r a := hl.val asc good.nz a
  by_cases hm : May (a, n)
  case neg =>
    have hm : decide (May (a, n)) = false := decide_eq_false hm
    have hnew : isNew r (a, n) = false := by simp only [isNew, hm, Bool.false_and]
    rw [show Adds h b M r (a, n) = fun o => o.v = .lit (.bool false) ∧ SeenAt o.hp b M (addR r (a, n)) ∧ (∀ c, c < h.next → c ≠ M → o.hp.objs.get c = h.objs.get c) ∧ h.next ≤ o.hp.next by unfold Adds; rw [hnew]]
    refine runs_call Tryz.func16 rfl ?_
    refine runs_seq ?_
    refine runs_region ?_
    refine ops_box (cs := [.lit (.int .i64 a), .lit (.int .i64 n)]) rfl rfl rfl rfl rfl (fun H1 g1 k1 n1 => ?_)
    have ob_1 := ob.kept k1
    have mp_1 := mp.kept k1
    refine ops_q (v := .lit (.bool false)) (fs := []) rfl rfl rfl rfl ?_
    refine ops_nil ?_
    refine runs_seq ?_
    refine runs_seq ?_
    refine runs_drawn (ops := addOps) rfl ?_
    have t_addOps_3_4 : Nat.testBit (descOf 3 addOps.toList 0 0) 4 = true := rfl
    refine drawn_c (i := 4) (f := 26) (args := [.agg [.lit (.int .i64 a), .lit (.int .i64 n)]]) (m' := 15) (held' := [⟨descOf 3 addOps.toList 0 0, [.cells h.next 0 [.lit (.int .i64 a), .lit (.int .i64 n)]], none⟩]) (hp := H1) (by
      refine take_q (v := .ptr b 0) rfl rfl rfl rfl rfl rfl ?_
      refine take_q (v := .lit (.bool false)) rfl rfl rfl rfl rfl rfl ?_
      refine take_q (v := .lit (.bool false)) rfl rfl rfl rfl rfl rfl ?_
      refine take_f (v := .agg [.lit (.int .i64 a), .lit (.int .i64 n)]) (fact := .cells h.next 0 [.lit (.int .i64 a), .lit (.int .i64 n)]) rfl rfl rfl (by simp only [quiet, ev_set]; exact load_cut rfl rfl g1.get rfl) rfl rfl ?_
      refine take_loud rfl rfl rfl rfl rfl ?_
      refine take_wait rfl rfl ?_
      refine take_wait rfl rfl ?_
      refine take_wait rfl rfl ?_
      refine take_wait rfl rfl ?_
      refine take_wait rfl rfl ?_
      refine take_wait rfl rfl ?_
      refine take_wait rfl rfl ?_
      refine take_wait rfl rfl ?_
      refine take_wait rfl rfl ?_
      refine take_wait rfl rfl ?_
      refine take_wait rfl rfl ?_
      refine take_wait rfl rfl ?_
      refine take_wait rfl rfl ?_
      refine take_wait rfl rfl ?_
      rfl) (by rfl) (by rfl) (by rfl) (clone_body Tryz.func26 rfl) rfl rfl ?_
    refine ((may_runs Γ a n H1).mono fun r hr => (⟨hr.1.trans (by rw [hm]), hr.2⟩ : Tells H1 (.lit (.bool false)) r)).mono ?_
    rintro ⟨ex2, fr2, H2, v2⟩ ⟨hv2, k2⟩
    have hv2 : v2 = .lit (.bool false) := hv2
    subst hv2
    have k2 : Kept H1.next H1 H2 := k2
    have ob_2 := ob_1.kept k2
    have mp_2 := mp_1.kept k2
    have g1_2 := g1.kept k2
    refine ⟨_, rfl, (by simp only [factsStand, t_addOps_3_4, cond_true, List.all_cons, List.all_nil, Bool.and_true]), ?_⟩
    rw [show drop 4 [⟨descOf 3 addOps.toList 0 0, [.cells h.next 0 [.lit (.int .i64 a), .lit (.int .i64 n)]], none⟩] = [] from by simp only [drop, t_addOps_3_4, cond_true]]
    refine drawn_end (m' := 524287) (held' := []) (hp' := H2) (by
      refine take_done rfl ?_
      refine take_done rfl ?_
      refine take_done rfl ?_
      refine take_done rfl ?_
      refine take_done rfl ?_
      refine take_q (v := .lit (.bool true)) rfl rfl rfl rfl rfl rfl ?_
      refine take_q (v := .lit (.bool true)) rfl rfl rfl rfl rfl rfl ?_
      refine take_q (v := .lit (.bool true)) rfl rfl rfl rfl rfl rfl ?_
      refine take_unwanted rfl rfl rfl rfl ?_
      refine take_unwanted rfl rfl rfl rfl ?_
      refine take_unwanted rfl rfl rfl rfl ?_
      refine take_unwanted rfl rfl rfl rfl ?_
      refine take_unwanted rfl rfl rfl rfl ?_
      refine take_unwanted rfl rfl rfl rfl ?_
      refine take_unwanted rfl rfl rfl rfl ?_
      refine take_unwanted rfl rfl rfl rfl ?_
      refine take_unwanted rfl rfl rfl rfl ?_
      refine take_unwanted rfl rfl rfl rfl ?_
      refine take_q (v := .lit (.bool true)) rfl rfl rfl rfl rfl rfl ?_
      rfl) (by rfl) (by rfl) ?_
    refine runs_cond true rfl ?_
    refine runs_seq ?_
    refine runs_region ?_
    refine ops_q (v := .lit (.bool false)) (fs := []) rfl rfl rfl rfl ?_
    refine ops_nil ?_
    refine runs_ret ?_
    exact ⟨_, rfl, rfl, hs0.same (k1.then k2) hnew, fun c hc _ => (k1.then k2).old c hc, (k1.then k2).next⟩
  have hm : decide (May (a, n)) = true := decide_eq_true hm
  by_cases hn : n ≤ val l a
  case pos =>
    have hnew : isNew r (a, n) = false := by simp only [isNew, hm, Bool.true_and]; rw [← hval]; exact decide_eq_false (by omega)
    rw [show Adds h b M r (a, n) = fun o => o.v = .lit (.bool false) ∧ SeenAt o.hp b M (addR r (a, n)) ∧ (∀ c, c < h.next → c ≠ M → o.hp.objs.get c = h.objs.get c) ∧ h.next ≤ o.hp.next by unfold Adds; rw [hnew]]
    refine runs_call Tryz.func16 rfl ?_
    refine runs_seq ?_
    refine runs_region ?_
    refine ops_box (cs := [.lit (.int .i64 a), .lit (.int .i64 n)]) rfl rfl rfl rfl rfl (fun H1 g1 k1 n1 => ?_)
    have ob_1 := ob.kept k1
    have mp_1 := mp.kept k1
    refine ops_q (v := .lit (.bool false)) (fs := []) rfl rfl rfl rfl ?_
    refine ops_nil ?_
    refine runs_seq ?_
    refine runs_seq ?_
    refine runs_drawn (ops := addOps) rfl ?_
    have t_addOps_3_4 : Nat.testBit (descOf 3 addOps.toList 0 0) 4 = true := rfl
    refine drawn_c (i := 4) (f := 26) (args := [.agg [.lit (.int .i64 a), .lit (.int .i64 n)]]) (m' := 15) (held' := [⟨descOf 3 addOps.toList 0 0, [.cells h.next 0 [.lit (.int .i64 a), .lit (.int .i64 n)]], none⟩]) (hp := H1) (by
      refine take_q (v := .ptr b 0) rfl rfl rfl rfl rfl rfl ?_
      refine take_q (v := .lit (.bool false)) rfl rfl rfl rfl rfl rfl ?_
      refine take_q (v := .lit (.bool false)) rfl rfl rfl rfl rfl rfl ?_
      refine take_f (v := .agg [.lit (.int .i64 a), .lit (.int .i64 n)]) (fact := .cells h.next 0 [.lit (.int .i64 a), .lit (.int .i64 n)]) rfl rfl rfl (by simp only [quiet, ev_set]; exact load_cut rfl rfl g1.get rfl) rfl rfl ?_
      refine take_loud rfl rfl rfl rfl rfl ?_
      refine take_wait rfl rfl ?_
      refine take_wait rfl rfl ?_
      refine take_wait rfl rfl ?_
      refine take_wait rfl rfl ?_
      refine take_wait rfl rfl ?_
      refine take_wait rfl rfl ?_
      refine take_wait rfl rfl ?_
      refine take_wait rfl rfl ?_
      refine take_wait rfl rfl ?_
      refine take_wait rfl rfl ?_
      refine take_wait rfl rfl ?_
      refine take_wait rfl rfl ?_
      refine take_wait rfl rfl ?_
      refine take_wait rfl rfl ?_
      rfl) (by rfl) (by rfl) (by rfl) (clone_body Tryz.func26 rfl) rfl rfl ?_
    refine ((may_runs Γ a n H1).mono fun r hr => (⟨hr.1.trans (by rw [hm]), hr.2⟩ : Tells H1 (.lit (.bool true)) r)).mono ?_
    rintro ⟨ex2, fr2, H2, v2⟩ ⟨hv2, k2⟩
    have hv2 : v2 = .lit (.bool true) := hv2
    subst hv2
    have k2 : Kept H1.next H1 H2 := k2
    have ob_2 := ob_1.kept k2
    have mp_2 := mp_1.kept k2
    have g1_2 := g1.kept k2
    refine ⟨_, rfl, (by simp only [factsStand, t_addOps_3_4, cond_true, List.all_cons, List.all_nil, Bool.and_true]), ?_⟩
    rw [show drop 4 [⟨descOf 3 addOps.toList 0 0, [.cells h.next 0 [.lit (.int .i64 a), .lit (.int .i64 n)]], none⟩] = [] from by simp only [drop, t_addOps_3_4, cond_true]]
    refine drawn_end (m' := 524287) (held' := [⟨descOf 16 addOps.toList 0 0, [.obj M (.map (ent l 0) l.length)], none⟩, ⟨descOf 15 addOps.toList 0 0, [.cells h.next 0 [.lit (.int .i64 a)]], none⟩, ⟨descOf 13 addOps.toList 0 0, [.cells b 0 [.map M]], none⟩, ⟨descOf 9 addOps.toList 0 0, [.cells h.next 1 [.lit (.int .i64 n)]], none⟩]) (hp' := H2) (by
      refine take_done rfl ?_
      refine take_done rfl ?_
      refine take_done rfl ?_
      refine take_done rfl ?_
      refine take_done rfl ?_
      refine take_q (v := .lit (.bool false)) rfl rfl rfl rfl rfl rfl ?_
      refine take_q (v := .lit (.bool false)) rfl rfl rfl rfl rfl rfl ?_
      refine take_q (v := .lit (.bool false)) rfl rfl rfl rfl rfl rfl ?_
      refine take_q (v := .ptr h.next 1) rfl rfl rfl rfl rfl rfl ?_
      refine take_f (v := .lit (.int .i64 n)) (fact := .cells h.next 1 [.lit (.int .i64 n)]) rfl rfl rfl (by simp only [quiet, ev_set]; exact load_cell rfl g1_2.get rfl) rfl rfl ?_
      refine take_q (v := .ptr b 0) rfl rfl rfl rfl rfl rfl ?_
      refine take_q (v := .ptr b 0) rfl rfl rfl rfl rfl rfl ?_
      refine take_q (v := .ptr b 0) rfl rfl rfl rfl rfl rfl ?_
      refine take_f (v := .map M) (fact := .cells b 0 [.map M]) rfl rfl rfl (by simp only [quiet, ev_set]; exact load_cell rfl ob_2.get rfl) rfl rfl ?_
      refine take_q (v := .ptr h.next 0) rfl rfl rfl rfl rfl rfl ?_
      refine take_f (v := .lit (.int .i64 a)) (fact := .cells h.next 0 [.lit (.int .i64 a)]) rfl rfl rfl (by simp only [quiet, ev_set]; exact load_cell rfl g1_2.get rfl) rfl rfl ?_
      refine take_f (v := .lit (.int .i64 (val l a))) (fact := .obj M (.map (ent l 0) l.length)) rfl rfl rfl (by simp only [quiet, ev_set]; exact lookupI mp_2.get) rfl rfl ?_
      refine take_q (v := .lit (.bool true)) rfl rfl rfl (by simp only [quiet, ev_set]; exact congrArg one (leqT hn)) rfl rfl ?_
      refine take_q (v := .lit (.bool true)) rfl rfl rfl rfl rfl rfl ?_
      rfl) (by rfl) (by rfl) ?_
    refine runs_cond true rfl ?_
    refine runs_seq ?_
    refine runs_region ?_
    refine ops_q (v := .lit (.bool false)) (fs := []) rfl rfl rfl rfl ?_
    refine ops_nil ?_
    refine runs_ret ?_
    exact ⟨_, rfl, rfl, hs0.same (k1.then k2) hnew, fun c hc _ => (k1.then k2).old c hc, (k1.then k2).next⟩
  have hnew : isNew r (a, n) = true := by simp only [isNew, hm, Bool.true_and]; rw [← hval]; exact decide_eq_true (by omega)
  rw [show Adds h b M r (a, n) = fun o => o.v = .lit (.bool true) ∧ SeenAt o.hp b M (addR r (a, n)) ∧ (∀ c, c < h.next → c ≠ M → o.hp.objs.get c = h.objs.get c) ∧ h.next ≤ o.hp.next by unfold Adds; rw [hnew]]
  refine runs_call Tryz.func16 rfl ?_
  refine runs_seq ?_
  refine runs_region ?_
  refine ops_box (cs := [.lit (.int .i64 a), .lit (.int .i64 n)]) rfl rfl rfl rfl rfl (fun H1 g1 k1 n1 => ?_)
  have ob_1 := ob.kept k1
  have mp_1 := mp.kept k1
  refine ops_q (v := .lit (.bool false)) (fs := []) rfl rfl rfl rfl ?_
  refine ops_nil ?_
  refine runs_seq ?_
  refine runs_seq ?_
  refine runs_drawn (ops := addOps) rfl ?_
  have t_addOps_3_4 : Nat.testBit (descOf 3 addOps.toList 0 0) 4 = true := rfl
  refine drawn_c (i := 4) (f := 26) (args := [.agg [.lit (.int .i64 a), .lit (.int .i64 n)]]) (m' := 15) (held' := [⟨descOf 3 addOps.toList 0 0, [.cells h.next 0 [.lit (.int .i64 a), .lit (.int .i64 n)]], none⟩]) (hp := H1) (by
    refine take_q (v := .ptr b 0) rfl rfl rfl rfl rfl rfl ?_
    refine take_q (v := .lit (.bool false)) rfl rfl rfl rfl rfl rfl ?_
    refine take_q (v := .lit (.bool false)) rfl rfl rfl rfl rfl rfl ?_
    refine take_f (v := .agg [.lit (.int .i64 a), .lit (.int .i64 n)]) (fact := .cells h.next 0 [.lit (.int .i64 a), .lit (.int .i64 n)]) rfl rfl rfl (by simp only [quiet, ev_set]; exact load_cut rfl rfl g1.get rfl) rfl rfl ?_
    refine take_loud rfl rfl rfl rfl rfl ?_
    refine take_wait rfl rfl ?_
    refine take_wait rfl rfl ?_
    refine take_wait rfl rfl ?_
    refine take_wait rfl rfl ?_
    refine take_wait rfl rfl ?_
    refine take_wait rfl rfl ?_
    refine take_wait rfl rfl ?_
    refine take_wait rfl rfl ?_
    refine take_wait rfl rfl ?_
    refine take_wait rfl rfl ?_
    refine take_wait rfl rfl ?_
    refine take_wait rfl rfl ?_
    refine take_wait rfl rfl ?_
    refine take_wait rfl rfl ?_
    rfl) (by rfl) (by rfl) (by rfl) (clone_body Tryz.func26 rfl) rfl rfl ?_
  refine ((may_runs Γ a n H1).mono fun r hr => (⟨hr.1.trans (by rw [hm]), hr.2⟩ : Tells H1 (.lit (.bool true)) r)).mono ?_
  rintro ⟨ex2, fr2, H2, v2⟩ ⟨hv2, k2⟩
  have hv2 : v2 = .lit (.bool true) := hv2
  subst hv2
  have k2 : Kept H1.next H1 H2 := k2
  have ob_2 := ob_1.kept k2
  have mp_2 := mp_1.kept k2
  have g1_2 := g1.kept k2
  refine ⟨_, rfl, (by simp only [factsStand, t_addOps_3_4, cond_true, List.all_cons, List.all_nil, Bool.and_true]), ?_⟩
  rw [show drop 4 [⟨descOf 3 addOps.toList 0 0, [.cells h.next 0 [.lit (.int .i64 a), .lit (.int .i64 n)]], none⟩] = [] from by simp only [drop, t_addOps_3_4, cond_true]]
  refine drawn_end (m' := 524287) (held' := [⟨descOf 16 addOps.toList 0 0, [.obj M (.map (ent l 0) l.length)], none⟩, ⟨descOf 15 addOps.toList 0 0, [.cells h.next 0 [.lit (.int .i64 a)]], none⟩, ⟨descOf 13 addOps.toList 0 0, [.cells b 0 [.map M]], none⟩, ⟨descOf 9 addOps.toList 0 0, [.cells h.next 1 [.lit (.int .i64 n)]], none⟩]) (hp' := H2) (by
    refine take_done rfl ?_
    refine take_done rfl ?_
    refine take_done rfl ?_
    refine take_done rfl ?_
    refine take_done rfl ?_
    refine take_q (v := .lit (.bool false)) rfl rfl rfl rfl rfl rfl ?_
    refine take_q (v := .lit (.bool false)) rfl rfl rfl rfl rfl rfl ?_
    refine take_q (v := .lit (.bool false)) rfl rfl rfl rfl rfl rfl ?_
    refine take_q (v := .ptr h.next 1) rfl rfl rfl rfl rfl rfl ?_
    refine take_f (v := .lit (.int .i64 n)) (fact := .cells h.next 1 [.lit (.int .i64 n)]) rfl rfl rfl (by simp only [quiet, ev_set]; exact load_cell rfl g1_2.get rfl) rfl rfl ?_
    refine take_q (v := .ptr b 0) rfl rfl rfl rfl rfl rfl ?_
    refine take_q (v := .ptr b 0) rfl rfl rfl rfl rfl rfl ?_
    refine take_q (v := .ptr b 0) rfl rfl rfl rfl rfl rfl ?_
    refine take_f (v := .map M) (fact := .cells b 0 [.map M]) rfl rfl rfl (by simp only [quiet, ev_set]; exact load_cell rfl ob_2.get rfl) rfl rfl ?_
    refine take_q (v := .ptr h.next 0) rfl rfl rfl rfl rfl rfl ?_
    refine take_f (v := .lit (.int .i64 a)) (fact := .cells h.next 0 [.lit (.int .i64 a)]) rfl rfl rfl (by simp only [quiet, ev_set]; exact load_cell rfl g1_2.get rfl) rfl rfl ?_
    refine take_f (v := .lit (.int .i64 (val l a))) (fact := .obj M (.map (ent l 0) l.length)) rfl rfl rfl (by simp only [quiet, ev_set]; exact lookupI mp_2.get) rfl rfl ?_
    refine take_q (v := .lit (.bool false)) rfl rfl rfl (by simp only [quiet, ev_set]; exact congrArg one (leqF hn)) rfl rfl ?_
    refine take_q (v := .lit (.bool false)) rfl rfl rfl rfl rfl rfl ?_
    rfl) (by rfl) (by rfl) ?_
  refine runs_cond false rfl ?_
  refine runs_skip ?_
  refine runs_seq ?_
  refine runs_seq ?_
  refine runs_region ?_
  refine ops_q (v := .ptr b 0) (fs := []) rfl rfl rfl rfl ?_
  refine ops_q (v := .ptr b 0) (fs := []) rfl rfl rfl rfl ?_
  refine ops_q (v := .ptr b 0) (fs := []) rfl rfl rfl rfl ?_
  refine ops_q (v := .map M) (fs := [.cells b 0 [.map M]]) rfl (by simp only [quiet, ev_set]; exact load_cell rfl ob_2.get rfl) rfl rfl ?_
  refine ops_q (v := .lit (.bool false)) (fs := []) rfl rfl rfl rfl ?_
  refine ops_nil ?_
  refine runs_cond false rfl ?_
  refine runs_skip ?_
  refine runs_seq ?_
  refine runs_drawn (ops := addOps5) rfl ?_
  have t_addOps5_7_8 : Nat.testBit (descOf 7 addOps5.toList 0 0) 8 = true := rfl
  have t_addOps5_5_8 : Nat.testBit (descOf 5 addOps5.toList 0 0) 8 = true := rfl
  have t_addOps5_3_8 : Nat.testBit (descOf 3 addOps5.toList 0 0) 8 = true := rfl
  refine drawn_effect (i := 8) (v := .lit undef) (h2 := (H2.upd M (.map (ent (putL l a n) 0) (putL l a n).length))) (m' := 255) (held' := [⟨descOf 7 addOps5.toList 0 0, [.cells h.next 1 [.lit (.int .i64 n)]], none⟩, ⟨descOf 5 addOps5.toList 0 0, [.cells h.next 0 [.lit (.int .i64 a)]], none⟩, ⟨descOf 3 addOps5.toList 0 0, [.cells b 0 [.map M]], none⟩]) (hp' := H2) (by
    refine take_q (v := .ptr b 0) rfl rfl rfl rfl rfl rfl ?_
    refine take_q (v := .ptr b 0) rfl rfl rfl rfl rfl rfl ?_
    refine take_q (v := .ptr b 0) rfl rfl rfl rfl rfl rfl ?_
    refine take_f (v := .map M) (fact := .cells b 0 [.map M]) rfl rfl rfl (by simp only [quiet, ev_set]; exact load_cell rfl ob_2.get rfl) rfl rfl ?_
    refine take_q (v := .ptr h.next 0) rfl rfl rfl rfl rfl rfl ?_
    refine take_f (v := .lit (.int .i64 a)) (fact := .cells h.next 0 [.lit (.int .i64 a)]) rfl rfl rfl (by simp only [quiet, ev_set]; exact load_cell rfl g1_2.get rfl) rfl rfl ?_
    refine take_q (v := .ptr h.next 1) rfl rfl rfl rfl rfl rfl ?_
    refine take_f (v := .lit (.int .i64 n)) (fact := .cells h.next 1 [.lit (.int .i64 n)]) rfl rfl rfl (by simp only [quiet, ev_set]; exact load_cell rfl g1_2.get rfl) rfl rfl ?_
    refine take_loud rfl rfl rfl rfl rfl ?_
    rfl) (by rfl) (by rfl) (by rfl) (by exact congrArg unit (updateI (a := a) (n := n) mp_2.get)) (Nat.le_refl _) rfl rfl (by simp only [factsStand, t_addOps5_7_8, t_addOps5_5_8, t_addOps5_3_8, cond_true, List.all_cons, List.all_nil, Bool.and_true]) ?_
  rw [show drop 8 [⟨descOf 7 addOps5.toList 0 0, [.cells h.next 1 [.lit (.int .i64 n)]], none⟩, ⟨descOf 5 addOps5.toList 0 0, [.cells h.next 0 [.lit (.int .i64 a)]], none⟩, ⟨descOf 3 addOps5.toList 0 0, [.cells b 0 [.map M]], none⟩] = [] from by simp only [drop, t_addOps5_7_8, t_addOps5_5_8, t_addOps5_3_8, cond_true]]
  refine drawn_end (m' := 511) (held' := []) (hp' := (H2.upd M (.map (ent (putL l a n) 0) (putL l a n).length))) (by
    refine take_done rfl ?_
    refine take_done rfl ?_
    refine take_done rfl ?_
    refine take_done rfl ?_
    refine take_done rfl ?_
    refine take_done rfl ?_
    refine take_done rfl ?_
    refine take_done rfl ?_
    refine take_done rfl ?_
    rfl) (by rfl) (by rfl) ?_
  refine runs_seq ?_
  refine runs_region ?_
  refine ops_q (v := .lit (.bool true)) (fs := []) rfl rfl rfl rfl ?_
  refine ops_nil ?_
  refine runs_ret ?_
  exact ⟨_, rfl, rfl, SeenAt.more (l := l) ob_2 mp_2 hl asc good rfl hnew h64, fun c hc hne => (get_ne hne).trans ((k1.then k2).old c hc), (k1.then k2).next⟩

end Go.Proofs.YtjilmneaeocimaaGreatDoor.snap
