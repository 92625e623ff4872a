/-
  THE DOCUMENT's Gone; printed by the author's gen_gone.py, in the calculus of runs. | LISTS OF DEEDS THAT CAME IN; printed by the author's gen_gone.py, in the calculus of runs. | THE LAW MineGone; printed by the author's gen_gone.py, in the calculus of runs.
-/
import Derived.Test.YtlmmiojddfiapaaGreatDoorGoGC
namespace Go.Proofs.YtlmmiojddfiapaaGreatDoor.gone
open Go Go.Proofs.YtlmmiojddfiapaaGreatDoor.Ev

noncomputable def rLoop : Code := (inBlk (seqR (seqL (seqR (bodyOf Tryz.f6)))))
noncomputable def rB : Code := (inBlk (seqL (seqR (inLoop rLoop))))
/-- Does a deed take it back, and is it not gone itself? -/
def hit (ds : List D) (q m : Int) (d : D) : Bool := decide (d.k = 7) && decide (d.ta = q) && decide (d.tn = m) && decide (d.a = q) && decide (m < d.n) && !G ds q d.n
theorem G_hit (ds : List D) (q m : Int) : G ds q m = ds.any (hit ds q m) := G_eq ds q m
/-- How a round ends. -/
def REnd (ds : List D) (q m : Int) (d : D) (tm' : T SV) (ex : SExit) : Prop := ((ex = .normal ∨ ex = .exit 1) ∧ hit ds q m d = false) ∨ (ex = .ret ∧ hit ds q m d = true ∧ Fr.ev ⟨tm', 57, []⟩ (.tmp 4) = .lit (.bool true))

set_option maxHeartbeats 8000000 in
set_option maxRecDepth 20000 in
theorem r_body (Γ : Glob) (lo B : Nat) (q m : Int) (L : SV) (ds : List D) (k : Nat) (d : D) (hd : ds[k]? = some d) (tm : T SV) (h : Hp)
    (e0 : Fr.ev ⟨tm, 57, []⟩ (.tmp 0) = L) (e3 : Fr.ev ⟨tm, 57, []⟩ (.tmp 3) = .ptr B 0) (e5 : Fr.ev ⟨tm, 57, []⟩ (.tmp 5) = .lit (.int .i64 (Int.ofNat k))) (hL : Lst Γ lo h L ds) (hB : h.objs.get B = some (.cells (idC q m) 24)) (hBlo : B < lo) (hlo : lo ≤ h.next)
    (ih : m < d.n → ∀ h', Kept lo h h' → Runs Tryz.prog Γ (.call 6 [L, .agg (idC q d.n)] h') fun r => r.v = .lit (.bool (G ds q d.n)) ∧ Kept lo h' r.hp) :
    Runs Tryz.prog Γ (.code rB none ⟨tm, 57, []⟩ h) fun o => ∃ tm' h' v0 ex, o = ⟨ex, ⟨tm', 57, []⟩, h', v0⟩ ∧ (∀ t ∈ [0, 3, 5], Fr.ev ⟨tm', 57, []⟩ (.tmp t) = Fr.ev ⟨tm, 57, []⟩ (.tmp t)) ∧ Kept lo h h' ∧ REnd ds q m d tm' ex := by
  obtain ⟨p, c3, c4, c5, c6, rest, hr, hone, hidx, hld⟩ := hL.2 k d hd
  obtain ⟨fs, hld⟩ := hld h (Kept.refl _ _)
  have hBne : B ≠ h.next := by omega
  have hdl := deedC_len (d := d) (c3 := c3) (c4 := c4) (c5 := c5) (c6 := c6) hr
  by_cases hk : d.k = 7
  case neg =>
    have hT : hit ds q m d = false := by simp only [hit, Bool.and_eq_false_iff, decide_eq_false_iff_not]; omega
    refine runs_seq ?_
    refine runs_region ?_
    refine ops_q (v := L) (fs := []) rfl (by simp only [quiet, e0] <;> rfl) rfl rfl ?_
    refine ops_q (v := .lit (.int .i64 (Int.ofNat k))) (fs := []) rfl (by simp only [quiet, ev_set, e5] <;> rfl) rfl rfl ?_
    refine ops_q (v := p) (fs := []) rfl (by simp only [quiet, ev_set]; exact congrArg one hidx) rfl rfl ?_
    refine ops_q (v := .agg (deedC d c3 c4 c5 c6 rest)) (fs := fs) rfl (by simp only [quiet, ev_set]; exact hld) rfl rfl ?_
    refine ops_new (e := 43) (cs := deedC d c3 c4 c5 c6 rest) (m := 39) rfl rfl rfl rfl rfl rfl rfl rfl rfl rfl rfl hdl hone (fun H g1 g2 g3 => ?_)
    refine ops_nil ?_
    refine runs_seq ?_
    refine runs_seq ?_
    refine runs_region ?_
    refine ops_q (v := .ptr h.next 2) (fs := []) rfl rfl rfl rfl ?_
    refine ops_q (v := .lit (.int .i64 d.k)) (fs := [.cells h.next 2 [.lit (.int .i64 d.k)]]) rfl (by simp only [quiet, ev_set]; exact load_cell rfl g1 rfl) rfl rfl ?_
    refine ops_q (v := .lit (.bool true)) (fs := []) rfl (by simp only [quiet, ev_set]; exact congrArg one (neqT hk)) rfl rfl ?_
    refine ops_q (v := .lit (.bool true)) (fs := []) rfl rfl rfl rfl ?_
    refine ops_u rfl rfl rfl ?_
    refine ops_u rfl rfl rfl ?_
    refine ops_u rfl rfl rfl ?_
    refine ops_u rfl rfl rfl ?_
    refine ops_u rfl rfl rfl ?_
    refine ops_u rfl rfl rfl ?_
    refine ops_q (v := .lit (.bool true)) (fs := []) rfl rfl rfl rfl ?_
    refine ops_q (v := .lit (.bool true)) (fs := []) rfl rfl rfl rfl ?_
    refine ops_u rfl rfl rfl ?_
    refine ops_u rfl rfl rfl ?_
    refine ops_u rfl rfl rfl ?_
    refine ops_u rfl rfl rfl ?_
    refine ops_u rfl rfl rfl ?_
    refine ops_u rfl rfl rfl ?_
    refine ops_q (v := .lit (.bool true)) (fs := []) rfl rfl rfl rfl ?_
    refine ops_q (v := .lit (.bool true)) (fs := []) rfl rfl rfl rfl ?_
    refine ops_u rfl rfl rfl ?_
    refine ops_u rfl rfl rfl ?_
    refine ops_u rfl rfl rfl ?_
    refine ops_u rfl rfl rfl ?_
    refine ops_u rfl rfl rfl ?_
    refine ops_u rfl rfl rfl ?_
    refine ops_q (v := .lit (.bool true)) (fs := []) rfl rfl rfl rfl ?_
    refine ops_q (v := .lit (.bool true)) (fs := []) rfl rfl rfl rfl ?_
    refine ops_u rfl rfl rfl ?_
    refine ops_u rfl rfl rfl ?_
    refine ops_u rfl rfl rfl ?_
    refine ops_u rfl rfl rfl ?_
    refine ops_u rfl rfl rfl ?_
    refine ops_u rfl rfl rfl ?_
    refine ops_q (v := .lit (.bool true)) (fs := []) rfl rfl rfl rfl ?_
    refine ops_nil ?_
    refine runs_cond true rfl ?_
    refine runs_exit ?_
    exact ⟨_, _, _, _, rfl, slots3 (by simp only [ev_set] <;> rfl) (by simp only [ev_set] <;> rfl) (by simp only [ev_set] <;> rfl), kept_fresh hlo g2 g3, .inl ⟨.inr rfl, hT⟩⟩
  by_cases hta : d.ta = q
  case neg =>
    have hT : hit ds q m d = false := by simp only [hit, Bool.and_eq_false_iff, decide_eq_false_iff_not]; omega
    refine runs_seq ?_
    refine runs_region ?_
    refine ops_q (v := L) (fs := []) rfl (by simp only [quiet, e0] <;> rfl) rfl rfl ?_
    refine ops_q (v := .lit (.int .i64 (Int.ofNat k))) (fs := []) rfl (by simp only [quiet, ev_set, e5] <;> rfl) rfl rfl ?_
    refine ops_q (v := p) (fs := []) rfl (by simp only [quiet, ev_set]; exact congrArg one hidx) rfl rfl ?_
    refine ops_q (v := .agg (deedC d c3 c4 c5 c6 rest)) (fs := fs) rfl (by simp only [quiet, ev_set]; exact hld) rfl rfl ?_
    refine ops_new (e := 43) (cs := deedC d c3 c4 c5 c6 rest) (m := 39) rfl rfl rfl rfl rfl rfl rfl rfl rfl rfl rfl hdl hone (fun H g1 g2 g3 => ?_)
    refine ops_nil ?_
    refine runs_seq ?_
    refine runs_seq ?_
    refine runs_region ?_
    refine ops_q (v := .ptr h.next 2) (fs := []) rfl rfl rfl rfl ?_
    refine ops_q (v := .lit (.int .i64 d.k)) (fs := [.cells h.next 2 [.lit (.int .i64 d.k)]]) rfl (by simp only [quiet, ev_set]; exact load_cell rfl g1 rfl) rfl rfl ?_
    refine ops_q (v := .lit (.bool false)) (fs := []) rfl (by simp only [quiet, ev_set]; exact congrArg one (neqF hk)) rfl rfl ?_
    refine ops_q (v := .lit (.bool false)) (fs := []) rfl rfl rfl rfl ?_
    refine ops_q (v := .ptr h.next 7) (fs := []) rfl rfl rfl rfl ?_
    refine ops_q (v := .ptr h.next 7) (fs := []) rfl rfl rfl rfl ?_
    refine ops_q (v := .lit (.int .i64 d.ta)) (fs := [.cells h.next 7 [.lit (.int .i64 d.ta)]]) rfl (by simp only [quiet, ev_set]; exact load_cell rfl g1 rfl) rfl rfl ?_
    refine ops_q (v := .ptr B 0) (fs := []) rfl (by simp only [quiet, ev_set, e3] <;> rfl) rfl rfl ?_
    refine ops_q (v := .lit (.int .i64 q)) (fs := [.cells B 0 [.lit (.int .i64 q)]]) rfl (by simp only [quiet, ev_set]; exact load_cell rfl ((g2 B hBne).trans hB) rfl) rfl rfl ?_
    refine ops_q (v := .lit (.bool true)) (fs := []) rfl (by simp only [quiet, ev_set]; exact congrArg one (neqT hta)) rfl rfl ?_
    refine ops_q (v := .lit (.bool true)) (fs := []) rfl rfl rfl rfl ?_
    refine ops_q (v := .lit (.bool true)) (fs := []) rfl rfl rfl rfl ?_
    refine ops_u rfl rfl rfl ?_
    refine ops_u rfl rfl rfl ?_
    refine ops_u rfl rfl rfl ?_
    refine ops_u rfl rfl rfl ?_
    refine ops_u rfl rfl rfl ?_
    refine ops_u rfl rfl rfl ?_
    refine ops_q (v := .lit (.bool true)) (fs := []) rfl rfl rfl rfl ?_
    refine ops_q (v := .lit (.bool true)) (fs := []) rfl rfl rfl rfl ?_
    refine ops_u rfl rfl rfl ?_
    refine ops_u rfl rfl rfl ?_
    refine ops_u rfl rfl rfl ?_
    refine ops_u rfl rfl rfl ?_
    refine ops_u rfl rfl rfl ?_
    refine ops_u rfl rfl rfl ?_
    refine ops_q (v := .lit (.bool true)) (fs := []) rfl rfl rfl rfl ?_
    refine ops_q (v := .lit (.bool true)) (fs := []) rfl rfl rfl rfl ?_
    refine ops_u rfl rfl rfl ?_
    refine ops_u rfl rfl rfl ?_
    refine ops_u rfl rfl rfl ?_
    refine ops_u rfl rfl rfl ?_
    refine ops_u rfl rfl rfl ?_
    refine ops_u rfl rfl rfl ?_
    refine ops_q (v := .lit (.bool true)) (fs := []) rfl rfl rfl rfl ?_
    refine ops_nil ?_
    refine runs_cond true rfl ?_
    refine runs_exit ?_
    exact ⟨_, _, _, _, rfl, slots3 (by simp only [ev_set] <;> rfl) (by simp only [ev_set] <;> rfl) (by simp only [ev_set] <;> rfl), kept_fresh hlo g2 g3, .inl ⟨.inr rfl, hT⟩⟩
  by_cases htn : d.tn = m
  case neg =>
    have hT : hit ds q m d = false := by simp only [hit, Bool.and_eq_false_iff, decide_eq_false_iff_not]; omega
    refine runs_seq ?_
    refine runs_region ?_
    refine ops_q (v := L) (fs := []) rfl (by simp only [quiet, e0] <;> rfl) rfl rfl ?_
    refine ops_q (v := .lit (.int .i64 (Int.ofNat k))) (fs := []) rfl (by simp only [quiet, ev_set, e5] <;> rfl) rfl rfl ?_
    refine ops_q (v := p) (fs := []) rfl (by simp only [quiet, ev_set]; exact congrArg one hidx) rfl rfl ?_
    refine ops_q (v := .agg (deedC d c3 c4 c5 c6 rest)) (fs := fs) rfl (by simp only [quiet, ev_set]; exact hld) rfl rfl ?_
    refine ops_new (e := 43) (cs := deedC d c3 c4 c5 c6 rest) (m := 39) rfl rfl rfl rfl rfl rfl rfl rfl rfl rfl rfl hdl hone (fun H g1 g2 g3 => ?_)
    refine ops_nil ?_
    refine runs_seq ?_
    refine runs_seq ?_
    refine runs_region ?_
    refine ops_q (v := .ptr h.next 2) (fs := []) rfl rfl rfl rfl ?_
    refine ops_q (v := .lit (.int .i64 d.k)) (fs := [.cells h.next 2 [.lit (.int .i64 d.k)]]) rfl (by simp only [quiet, ev_set]; exact load_cell rfl g1 rfl) rfl rfl ?_
    refine ops_q (v := .lit (.bool false)) (fs := []) rfl (by simp only [quiet, ev_set]; exact congrArg one (neqF hk)) rfl rfl ?_
    refine ops_q (v := .lit (.bool false)) (fs := []) rfl rfl rfl rfl ?_
    refine ops_q (v := .ptr h.next 7) (fs := []) rfl rfl rfl rfl ?_
    refine ops_q (v := .ptr h.next 7) (fs := []) rfl rfl rfl rfl ?_
    refine ops_q (v := .lit (.int .i64 d.ta)) (fs := [.cells h.next 7 [.lit (.int .i64 d.ta)]]) rfl (by simp only [quiet, ev_set]; exact load_cell rfl g1 rfl) rfl rfl ?_
    refine ops_q (v := .ptr B 0) (fs := []) rfl (by simp only [quiet, ev_set, e3] <;> rfl) rfl rfl ?_
    refine ops_q (v := .lit (.int .i64 q)) (fs := [.cells B 0 [.lit (.int .i64 q)]]) rfl (by simp only [quiet, ev_set]; exact load_cell rfl ((g2 B hBne).trans hB) rfl) rfl rfl ?_
    refine ops_q (v := .lit (.bool false)) (fs := []) rfl (by simp only [quiet, ev_set]; exact congrArg one (neqF hta)) rfl rfl ?_
    refine ops_q (v := .lit (.bool false)) (fs := []) rfl rfl rfl rfl ?_
    refine ops_q (v := .lit (.bool false)) (fs := []) rfl rfl rfl rfl ?_
    refine ops_q (v := .ptr h.next 7) (fs := []) rfl rfl rfl rfl ?_
    refine ops_q (v := .ptr h.next 8) (fs := []) rfl rfl rfl rfl ?_
    refine ops_q (v := .lit (.int .i64 d.tn)) (fs := [.cells h.next 8 [.lit (.int .i64 d.tn)]]) rfl (by simp only [quiet, ev_set]; exact load_cell rfl g1 rfl) rfl rfl ?_
    refine ops_q (v := .ptr B 1) (fs := []) rfl (by simp only [quiet, ev_set, e3] <;> rfl) rfl rfl ?_
    refine ops_q (v := .lit (.int .i64 m)) (fs := [.cells B 1 [.lit (.int .i64 m)]]) rfl (by simp only [quiet, ev_set]; exact load_cell rfl ((g2 B hBne).trans hB) rfl) rfl rfl ?_
    refine ops_q (v := .lit (.bool true)) (fs := []) rfl (by simp only [quiet, ev_set]; exact congrArg one (neqT htn)) rfl rfl ?_
    refine ops_q (v := .lit (.bool true)) (fs := []) rfl rfl rfl rfl ?_
    refine ops_q (v := .lit (.bool true)) (fs := []) rfl rfl rfl rfl ?_
    refine ops_u rfl rfl rfl ?_
    refine ops_u rfl rfl rfl ?_
    refine ops_u rfl rfl rfl ?_
    refine ops_u rfl rfl rfl ?_
    refine ops_u rfl rfl rfl ?_
    refine ops_u rfl rfl rfl ?_
    refine ops_q (v := .lit (.bool true)) (fs := []) rfl rfl rfl rfl ?_
    refine ops_q (v := .lit (.bool true)) (fs := []) rfl rfl rfl rfl ?_
    refine ops_u rfl rfl rfl ?_
    refine ops_u rfl rfl rfl ?_
    refine ops_u rfl rfl rfl ?_
    refine ops_u rfl rfl rfl ?_
    refine ops_u rfl rfl rfl ?_
    refine ops_u rfl rfl rfl ?_
    refine ops_q (v := .lit (.bool true)) (fs := []) rfl rfl rfl rfl ?_
    refine ops_nil ?_
    refine runs_cond true rfl ?_
    refine runs_exit ?_
    exact ⟨_, _, _, _, rfl, slots3 (by simp only [ev_set] <;> rfl) (by simp only [ev_set] <;> rfl) (by simp only [ev_set] <;> rfl), kept_fresh hlo g2 g3, .inl ⟨.inr rfl, hT⟩⟩
  by_cases ha : d.a = q
  case neg =>
    have hT : hit ds q m d = false := by simp only [hit, Bool.and_eq_false_iff, decide_eq_false_iff_not]; omega
    refine runs_seq ?_
    refine runs_region ?_
    refine ops_q (v := L) (fs := []) rfl (by simp only [quiet, e0] <;> rfl) rfl rfl ?_
    refine ops_q (v := .lit (.int .i64 (Int.ofNat k))) (fs := []) rfl (by simp only [quiet, ev_set, e5] <;> rfl) rfl rfl ?_
    refine ops_q (v := p) (fs := []) rfl (by simp only [quiet, ev_set]; exact congrArg one hidx) rfl rfl ?_
    refine ops_q (v := .agg (deedC d c3 c4 c5 c6 rest)) (fs := fs) rfl (by simp only [quiet, ev_set]; exact hld) rfl rfl ?_
    refine ops_new (e := 43) (cs := deedC d c3 c4 c5 c6 rest) (m := 39) rfl rfl rfl rfl rfl rfl rfl rfl rfl rfl rfl hdl hone (fun H g1 g2 g3 => ?_)
    refine ops_nil ?_
    refine runs_seq ?_
    refine runs_seq ?_
    refine runs_region ?_
    refine ops_q (v := .ptr h.next 2) (fs := []) rfl rfl rfl rfl ?_
    refine ops_q (v := .lit (.int .i64 d.k)) (fs := [.cells h.next 2 [.lit (.int .i64 d.k)]]) rfl (by simp only [quiet, ev_set]; exact load_cell rfl g1 rfl) rfl rfl ?_
    refine ops_q (v := .lit (.bool false)) (fs := []) rfl (by simp only [quiet, ev_set]; exact congrArg one (neqF hk)) rfl rfl ?_
    refine ops_q (v := .lit (.bool false)) (fs := []) rfl rfl rfl rfl ?_
    refine ops_q (v := .ptr h.next 7) (fs := []) rfl rfl rfl rfl ?_
    refine ops_q (v := .ptr h.next 7) (fs := []) rfl rfl rfl rfl ?_
    refine ops_q (v := .lit (.int .i64 d.ta)) (fs := [.cells h.next 7 [.lit (.int .i64 d.ta)]]) rfl (by simp only [quiet, ev_set]; exact load_cell rfl g1 rfl) rfl rfl ?_
    refine ops_q (v := .ptr B 0) (fs := []) rfl (by simp only [quiet, ev_set, e3] <;> rfl) rfl rfl ?_
    refine ops_q (v := .lit (.int .i64 q)) (fs := [.cells B 0 [.lit (.int .i64 q)]]) rfl (by simp only [quiet, ev_set]; exact load_cell rfl ((g2 B hBne).trans hB) rfl) rfl rfl ?_
    refine ops_q (v := .lit (.bool false)) (fs := []) rfl (by simp only [quiet, ev_set]; exact congrArg one (neqF hta)) rfl rfl ?_
    refine ops_q (v := .lit (.bool false)) (fs := []) rfl rfl rfl rfl ?_
    refine ops_q (v := .lit (.bool false)) (fs := []) rfl rfl rfl rfl ?_
    refine ops_q (v := .ptr h.next 7) (fs := []) rfl rfl rfl rfl ?_
    refine ops_q (v := .ptr h.next 8) (fs := []) rfl rfl rfl rfl ?_
    refine ops_q (v := .lit (.int .i64 d.tn)) (fs := [.cells h.next 8 [.lit (.int .i64 d.tn)]]) rfl (by simp only [quiet, ev_set]; exact load_cell rfl g1 rfl) rfl rfl ?_
    refine ops_q (v := .ptr B 1) (fs := []) rfl (by simp only [quiet, ev_set, e3] <;> rfl) rfl rfl ?_
    refine ops_q (v := .lit (.int .i64 m)) (fs := [.cells B 1 [.lit (.int .i64 m)]]) rfl (by simp only [quiet, ev_set]; exact load_cell rfl ((g2 B hBne).trans hB) rfl) rfl rfl ?_
    refine ops_q (v := .lit (.bool false)) (fs := []) rfl (by simp only [quiet, ev_set]; exact congrArg one (neqF htn)) rfl rfl ?_
    refine ops_q (v := .lit (.bool false)) (fs := []) rfl rfl rfl rfl ?_
    refine ops_q (v := .lit (.bool false)) (fs := []) rfl rfl rfl rfl ?_
    refine ops_q (v := .ptr h.next 0) (fs := []) rfl rfl rfl rfl ?_
    refine ops_q (v := .ptr h.next 0) (fs := []) rfl rfl rfl rfl ?_
    refine ops_q (v := .lit (.int .i64 d.a)) (fs := [.cells h.next 0 [.lit (.int .i64 d.a)]]) rfl (by simp only [quiet, ev_set]; exact load_cell rfl g1 rfl) rfl rfl ?_
    refine ops_q (v := .ptr B 0) (fs := []) rfl (by simp only [quiet, ev_set, e3] <;> rfl) rfl rfl ?_
    refine ops_q (v := .lit (.int .i64 q)) (fs := [.cells B 0 [.lit (.int .i64 q)]]) rfl (by simp only [quiet, ev_set]; exact load_cell rfl ((g2 B hBne).trans hB) rfl) rfl rfl ?_
    refine ops_q (v := .lit (.bool true)) (fs := []) rfl (by simp only [quiet, ev_set]; exact congrArg one (neqT ha)) rfl rfl ?_
    refine ops_q (v := .lit (.bool true)) (fs := []) rfl rfl rfl rfl ?_
    refine ops_q (v := .lit (.bool true)) (fs := []) rfl rfl rfl rfl ?_
    refine ops_u rfl rfl rfl ?_
    refine ops_u rfl rfl rfl ?_
    refine ops_u rfl rfl rfl ?_
    refine ops_u rfl rfl rfl ?_
    refine ops_u rfl rfl rfl ?_
    refine ops_u rfl rfl rfl ?_
    refine ops_q (v := .lit (.bool true)) (fs := []) rfl rfl rfl rfl ?_
    refine ops_nil ?_
    refine runs_cond true rfl ?_
    refine runs_exit ?_
    exact ⟨_, _, _, _, rfl, slots3 (by simp only [ev_set] <;> rfl) (by simp only [ev_set] <;> rfl) (by simp only [ev_set] <;> rfl), kept_fresh hlo g2 g3, .inl ⟨.inr rfl, hT⟩⟩
  by_cases hgt : m < d.n
  case neg =>
    have hT : hit ds q m d = false := by simp only [hit, Bool.and_eq_false_iff, decide_eq_false_iff_not]; omega
    refine runs_seq ?_
    refine runs_region ?_
    refine ops_q (v := L) (fs := []) rfl (by simp only [quiet, e0] <;> rfl) rfl rfl ?_
    refine ops_q (v := .lit (.int .i64 (Int.ofNat k))) (fs := []) rfl (by simp only [quiet, ev_set, e5] <;> rfl) rfl rfl ?_
    refine ops_q (v := p) (fs := []) rfl (by simp only [quiet, ev_set]; exact congrArg one hidx) rfl rfl ?_
    refine ops_q (v := .agg (deedC d c3 c4 c5 c6 rest)) (fs := fs) rfl (by simp only [quiet, ev_set]; exact hld) rfl rfl ?_
    refine ops_new (e := 43) (cs := deedC d c3 c4 c5 c6 rest) (m := 39) rfl rfl rfl rfl rfl rfl rfl rfl rfl rfl rfl hdl hone (fun H g1 g2 g3 => ?_)
    refine ops_nil ?_
    refine runs_seq ?_
    refine runs_seq ?_
    refine runs_region ?_
    refine ops_q (v := .ptr h.next 2) (fs := []) rfl rfl rfl rfl ?_
    refine ops_q (v := .lit (.int .i64 d.k)) (fs := [.cells h.next 2 [.lit (.int .i64 d.k)]]) rfl (by simp only [quiet, ev_set]; exact load_cell rfl g1 rfl) rfl rfl ?_
    refine ops_q (v := .lit (.bool false)) (fs := []) rfl (by simp only [quiet, ev_set]; exact congrArg one (neqF hk)) rfl rfl ?_
    refine ops_q (v := .lit (.bool false)) (fs := []) rfl rfl rfl rfl ?_
    refine ops_q (v := .ptr h.next 7) (fs := []) rfl rfl rfl rfl ?_
    refine ops_q (v := .ptr h.next 7) (fs := []) rfl rfl rfl rfl ?_
    refine ops_q (v := .lit (.int .i64 d.ta)) (fs := [.cells h.next 7 [.lit (.int .i64 d.ta)]]) rfl (by simp only [quiet, ev_set]; exact load_cell rfl g1 rfl) rfl rfl ?_
    refine ops_q (v := .ptr B 0) (fs := []) rfl (by simp only [quiet, ev_set, e3] <;> rfl) rfl rfl ?_
    refine ops_q (v := .lit (.int .i64 q)) (fs := [.cells B 0 [.lit (.int .i64 q)]]) rfl (by simp only [quiet, ev_set]; exact load_cell rfl ((g2 B hBne).trans hB) rfl) rfl rfl ?_
    refine ops_q (v := .lit (.bool false)) (fs := []) rfl (by simp only [quiet, ev_set]; exact congrArg one (neqF hta)) rfl rfl ?_
    refine ops_q (v := .lit (.bool false)) (fs := []) rfl rfl rfl rfl ?_
    refine ops_q (v := .lit (.bool false)) (fs := []) rfl rfl rfl rfl ?_
    refine ops_q (v := .ptr h.next 7) (fs := []) rfl rfl rfl rfl ?_
    refine ops_q (v := .ptr h.next 8) (fs := []) rfl rfl rfl rfl ?_
    refine ops_q (v := .lit (.int .i64 d.tn)) (fs := [.cells h.next 8 [.lit (.int .i64 d.tn)]]) rfl (by simp only [quiet, ev_set]; exact load_cell rfl g1 rfl) rfl rfl ?_
    refine ops_q (v := .ptr B 1) (fs := []) rfl (by simp only [quiet, ev_set, e3] <;> rfl) rfl rfl ?_
    refine ops_q (v := .lit (.int .i64 m)) (fs := [.cells B 1 [.lit (.int .i64 m)]]) rfl (by simp only [quiet, ev_set]; exact load_cell rfl ((g2 B hBne).trans hB) rfl) rfl rfl ?_
    refine ops_q (v := .lit (.bool false)) (fs := []) rfl (by simp only [quiet, ev_set]; exact congrArg one (neqF htn)) rfl rfl ?_
    refine ops_q (v := .lit (.bool false)) (fs := []) rfl rfl rfl rfl ?_
    refine ops_q (v := .lit (.bool false)) (fs := []) rfl rfl rfl rfl ?_
    refine ops_q (v := .ptr h.next 0) (fs := []) rfl rfl rfl rfl ?_
    refine ops_q (v := .ptr h.next 0) (fs := []) rfl rfl rfl rfl ?_
    refine ops_q (v := .lit (.int .i64 d.a)) (fs := [.cells h.next 0 [.lit (.int .i64 d.a)]]) rfl (by simp only [quiet, ev_set]; exact load_cell rfl g1 rfl) rfl rfl ?_
    refine ops_q (v := .ptr B 0) (fs := []) rfl (by simp only [quiet, ev_set, e3] <;> rfl) rfl rfl ?_
    refine ops_q (v := .lit (.int .i64 q)) (fs := [.cells B 0 [.lit (.int .i64 q)]]) rfl (by simp only [quiet, ev_set]; exact load_cell rfl ((g2 B hBne).trans hB) rfl) rfl rfl ?_
    refine ops_q (v := .lit (.bool false)) (fs := []) rfl (by simp only [quiet, ev_set]; exact congrArg one (neqF ha)) rfl rfl ?_
    refine ops_q (v := .lit (.bool false)) (fs := []) rfl rfl rfl rfl ?_
    refine ops_q (v := .lit (.bool false)) (fs := []) rfl rfl rfl rfl ?_
    refine ops_q (v := .ptr h.next 0) (fs := []) rfl rfl rfl rfl ?_
    refine ops_q (v := .ptr h.next 1) (fs := []) rfl rfl rfl rfl ?_
    refine ops_q (v := .lit (.int .i64 d.n)) (fs := [.cells h.next 1 [.lit (.int .i64 d.n)]]) rfl (by simp only [quiet, ev_set]; exact load_cell rfl g1 rfl) rfl rfl ?_
    refine ops_q (v := .ptr B 1) (fs := []) rfl (by simp only [quiet, ev_set, e3] <;> rfl) rfl rfl ?_
    refine ops_q (v := .lit (.int .i64 m)) (fs := [.cells B 1 [.lit (.int .i64 m)]]) rfl (by simp only [quiet, ev_set]; exact load_cell rfl ((g2 B hBne).trans hB) rfl) rfl rfl ?_
    refine ops_q (v := .lit (.bool true)) (fs := []) rfl (by simp only [quiet, ev_set]; exact congrArg one (leqT (Int.not_lt.1 hgt))) rfl rfl ?_
    refine ops_q (v := .lit (.bool true)) (fs := []) rfl rfl rfl rfl ?_
    refine ops_nil ?_
    refine runs_cond true rfl ?_
    refine runs_exit ?_
    exact ⟨_, _, _, _, rfl, slots3 (by simp only [ev_set] <;> rfl) (by simp only [ev_set] <;> rfl) (by simp only [ev_set] <;> rfl), kept_fresh hlo g2 g3, .inl ⟨.inr rfl, hT⟩⟩
  subst ha
  have hH : hit ds d.a m d = !G ds d.a d.n := by simp only [hit, hk, hta, htn, hgt, decide_true, Bool.true_and]
  cases hG : G ds d.a d.n with
  | true =>
    rw [hG] at hH
    refine runs_seq ?_
    refine runs_region ?_
    refine ops_q (v := L) (fs := []) rfl (by simp only [quiet, e0] <;> rfl) rfl rfl ?_
    refine ops_q (v := .lit (.int .i64 (Int.ofNat k))) (fs := []) rfl (by simp only [quiet, ev_set, e5] <;> rfl) rfl rfl ?_
    refine ops_q (v := p) (fs := []) rfl (by simp only [quiet, ev_set]; exact congrArg one hidx) rfl rfl ?_
    refine ops_q (v := .agg (deedC d c3 c4 c5 c6 rest)) (fs := fs) rfl (by simp only [quiet, ev_set]; exact hld) rfl rfl ?_
    refine ops_new (e := 43) (cs := deedC d c3 c4 c5 c6 rest) (m := 39) rfl rfl rfl rfl rfl rfl rfl rfl rfl rfl rfl hdl hone (fun H g1 g2 g3 => ?_)
    refine ops_nil ?_
    refine runs_seq ?_
    refine runs_seq ?_
    refine runs_region ?_
    refine ops_q (v := .ptr h.next 2) (fs := []) rfl rfl rfl rfl ?_
    refine ops_q (v := .lit (.int .i64 d.k)) (fs := [.cells h.next 2 [.lit (.int .i64 d.k)]]) rfl (by simp only [quiet, ev_set]; exact load_cell rfl g1 rfl) rfl rfl ?_
    refine ops_q (v := .lit (.bool false)) (fs := []) rfl (by simp only [quiet, ev_set]; exact congrArg one (neqF hk)) rfl rfl ?_
    refine ops_q (v := .lit (.bool false)) (fs := []) rfl rfl rfl rfl ?_
    refine ops_q (v := .ptr h.next 7) (fs := []) rfl rfl rfl rfl ?_
    refine ops_q (v := .ptr h.next 7) (fs := []) rfl rfl rfl rfl ?_
    refine ops_q (v := .lit (.int .i64 d.ta)) (fs := [.cells h.next 7 [.lit (.int .i64 d.ta)]]) rfl (by simp only [quiet, ev_set]; exact load_cell rfl g1 rfl) rfl rfl ?_
    refine ops_q (v := .ptr B 0) (fs := []) rfl (by simp only [quiet, ev_set, e3] <;> rfl) rfl rfl ?_
    refine ops_q (v := .lit (.int .i64 d.a)) (fs := [.cells B 0 [.lit (.int .i64 d.a)]]) rfl (by simp only [quiet, ev_set]; exact load_cell rfl ((g2 B hBne).trans hB) rfl) rfl rfl ?_
    refine ops_q (v := .lit (.bool false)) (fs := []) rfl (by simp only [quiet, ev_set]; exact congrArg one (neqF hta)) rfl rfl ?_
    refine ops_q (v := .lit (.bool false)) (fs := []) rfl rfl rfl rfl ?_
    refine ops_q (v := .lit (.bool false)) (fs := []) rfl rfl rfl rfl ?_
    refine ops_q (v := .ptr h.next 7) (fs := []) rfl rfl rfl rfl ?_
    refine ops_q (v := .ptr h.next 8) (fs := []) rfl rfl rfl rfl ?_
    refine ops_q (v := .lit (.int .i64 d.tn)) (fs := [.cells h.next 8 [.lit (.int .i64 d.tn)]]) rfl (by simp only [quiet, ev_set]; exact load_cell rfl g1 rfl) rfl rfl ?_
    refine ops_q (v := .ptr B 1) (fs := []) rfl (by simp only [quiet, ev_set, e3] <;> rfl) rfl rfl ?_
    refine ops_q (v := .lit (.int .i64 m)) (fs := [.cells B 1 [.lit (.int .i64 m)]]) rfl (by simp only [quiet, ev_set]; exact load_cell rfl ((g2 B hBne).trans hB) rfl) rfl rfl ?_
    refine ops_q (v := .lit (.bool false)) (fs := []) rfl (by simp only [quiet, ev_set]; exact congrArg one (neqF htn)) rfl rfl ?_
    refine ops_q (v := .lit (.bool false)) (fs := []) rfl rfl rfl rfl ?_
    refine ops_q (v := .lit (.bool false)) (fs := []) rfl rfl rfl rfl ?_
    refine ops_q (v := .ptr h.next 0) (fs := []) rfl rfl rfl rfl ?_
    refine ops_q (v := .ptr h.next 0) (fs := []) rfl rfl rfl rfl ?_
    refine ops_q (v := .lit (.int .i64 d.a)) (fs := [.cells h.next 0 [.lit (.int .i64 d.a)]]) rfl (by simp only [quiet, ev_set]; exact load_cell rfl g1 rfl) rfl rfl ?_
    refine ops_q (v := .ptr B 0) (fs := []) rfl (by simp only [quiet, ev_set, e3] <;> rfl) rfl rfl ?_
    refine ops_q (v := .lit (.int .i64 d.a)) (fs := [.cells B 0 [.lit (.int .i64 d.a)]]) rfl (by simp only [quiet, ev_set]; exact load_cell rfl ((g2 B hBne).trans hB) rfl) rfl rfl ?_
    refine ops_q (v := .lit (.bool false)) (fs := []) rfl (by simp only [quiet, ev_set]; exact congrArg one (neqF rfl)) rfl rfl ?_
    refine ops_q (v := .lit (.bool false)) (fs := []) rfl rfl rfl rfl ?_
    refine ops_q (v := .lit (.bool false)) (fs := []) rfl rfl rfl rfl ?_
    refine ops_q (v := .ptr h.next 0) (fs := []) rfl rfl rfl rfl ?_
    refine ops_q (v := .ptr h.next 1) (fs := []) rfl rfl rfl rfl ?_
    refine ops_q (v := .lit (.int .i64 d.n)) (fs := [.cells h.next 1 [.lit (.int .i64 d.n)]]) rfl (by simp only [quiet, ev_set]; exact load_cell rfl g1 rfl) rfl rfl ?_
    refine ops_q (v := .ptr B 1) (fs := []) rfl (by simp only [quiet, ev_set, e3] <;> rfl) rfl rfl ?_
    refine ops_q (v := .lit (.int .i64 m)) (fs := [.cells B 1 [.lit (.int .i64 m)]]) rfl (by simp only [quiet, ev_set]; exact load_cell rfl ((g2 B hBne).trans hB) rfl) rfl rfl ?_
    refine ops_q (v := .lit (.bool false)) (fs := []) rfl (by simp only [quiet, ev_set]; exact congrArg one (leqF (Int.not_le.2 hgt))) rfl rfl ?_
    refine ops_q (v := .lit (.bool false)) (fs := []) rfl rfl rfl rfl ?_
    refine ops_nil ?_
    refine runs_cond false rfl ?_
    refine runs_skip ?_
    refine runs_seq ?_
    refine runs_region ?_
    refine ops_q (v := L) (fs := []) rfl (by simp only [quiet, ev_set, e0] <;> rfl) rfl rfl ?_
    refine ops_q (v := .ptr h.next 0) (fs := []) rfl rfl rfl rfl ?_
    refine ops_q (v := .agg [.lit (.int .i64 d.a), .lit (.int .i64 d.n)]) (fs := [.cells h.next 0 [.lit (.int .i64 d.a), .lit (.int .i64 d.n)]]) rfl (by simp only [quiet, ev_set]; exact load_cut rfl rfl g1 rfl) rfl rfl ?_
    refine ops_c (f := 6) (args := [L, .agg (idC d.a d.n)]) rfl rfl rfl clone_two rfl rfl ?_
    refine (ih hgt H (kept_fresh hlo g2 g3)).mono ?_
    rintro ⟨ex1, fr1, h1, v1⟩ ⟨hv1, hk1⟩
    have hv1 : v1 = .lit (.bool true) := hv1.trans (by rw [hG])
    subst hv1
    have hk1 : Kept lo H h1 := hk1
    refine ops_q (v := .lit (.bool false)) (fs := []) rfl rfl rfl rfl ?_
    refine ops_nil ?_
    refine runs_cond false rfl ?_
    refine runs_skip ?_
    exact ⟨_, _, _, _, rfl, slots3 (by simp only [ev_set] <;> rfl) (by simp only [ev_set] <;> rfl) (by simp only [ev_set] <;> rfl), Kept.trans (kept_fresh hlo g2 g3) hk1, .inl ⟨.inl rfl, hH⟩⟩
  | false =>
    rw [hG] at hH
    refine runs_seq ?_
    refine runs_region ?_
    refine ops_q (v := L) (fs := []) rfl (by simp only [quiet, e0] <;> rfl) rfl rfl ?_
    refine ops_q (v := .lit (.int .i64 (Int.ofNat k))) (fs := []) rfl (by simp only [quiet, ev_set, e5] <;> rfl) rfl rfl ?_
    refine ops_q (v := p) (fs := []) rfl (by simp only [quiet, ev_set]; exact congrArg one hidx) rfl rfl ?_
    refine ops_q (v := .agg (deedC d c3 c4 c5 c6 rest)) (fs := fs) rfl (by simp only [quiet, ev_set]; exact hld) rfl rfl ?_
    refine ops_new (e := 43) (cs := deedC d c3 c4 c5 c6 rest) (m := 39) rfl rfl rfl rfl rfl rfl rfl rfl rfl rfl rfl hdl hone (fun H g1 g2 g3 => ?_)
    refine ops_nil ?_
    refine runs_seq ?_
    refine runs_seq ?_
    refine runs_region ?_
    refine ops_q (v := .ptr h.next 2) (fs := []) rfl rfl rfl rfl ?_
    refine ops_q (v := .lit (.int .i64 d.k)) (fs := [.cells h.next 2 [.lit (.int .i64 d.k)]]) rfl (by simp only [quiet, ev_set]; exact load_cell rfl g1 rfl) rfl rfl ?_
    refine ops_q (v := .lit (.bool false)) (fs := []) rfl (by simp only [quiet, ev_set]; exact congrArg one (neqF hk)) rfl rfl ?_
    refine ops_q (v := .lit (.bool false)) (fs := []) rfl rfl rfl rfl ?_
    refine ops_q (v := .ptr h.next 7) (fs := []) rfl rfl rfl rfl ?_
    refine ops_q (v := .ptr h.next 7) (fs := []) rfl rfl rfl rfl ?_
    refine ops_q (v := .lit (.int .i64 d.ta)) (fs := [.cells h.next 7 [.lit (.int .i64 d.ta)]]) rfl (by simp only [quiet, ev_set]; exact load_cell rfl g1 rfl) rfl rfl ?_
    refine ops_q (v := .ptr B 0) (fs := []) rfl (by simp only [quiet, ev_set, e3] <;> rfl) rfl rfl ?_
    refine ops_q (v := .lit (.int .i64 d.a)) (fs := [.cells B 0 [.lit (.int .i64 d.a)]]) rfl (by simp only [quiet, ev_set]; exact load_cell rfl ((g2 B hBne).trans hB) rfl) rfl rfl ?_
    refine ops_q (v := .lit (.bool false)) (fs := []) rfl (by simp only [quiet, ev_set]; exact congrArg one (neqF hta)) rfl rfl ?_
    refine ops_q (v := .lit (.bool false)) (fs := []) rfl rfl rfl rfl ?_
    refine ops_q (v := .lit (.bool false)) (fs := []) rfl rfl rfl rfl ?_
    refine ops_q (v := .ptr h.next 7) (fs := []) rfl rfl rfl rfl ?_
    refine ops_q (v := .ptr h.next 8) (fs := []) rfl rfl rfl rfl ?_
    refine ops_q (v := .lit (.int .i64 d.tn)) (fs := [.cells h.next 8 [.lit (.int .i64 d.tn)]]) rfl (by simp only [quiet, ev_set]; exact load_cell rfl g1 rfl) rfl rfl ?_
    refine ops_q (v := .ptr B 1) (fs := []) rfl (by simp only [quiet, ev_set, e3] <;> rfl) rfl rfl ?_
    refine ops_q (v := .lit (.int .i64 m)) (fs := [.cells B 1 [.lit (.int .i64 m)]]) rfl (by simp only [quiet, ev_set]; exact load_cell rfl ((g2 B hBne).trans hB) rfl) rfl rfl ?_
    refine ops_q (v := .lit (.bool false)) (fs := []) rfl (by simp only [quiet, ev_set]; exact congrArg one (neqF htn)) rfl rfl ?_
    refine ops_q (v := .lit (.bool false)) (fs := []) rfl rfl rfl rfl ?_
    refine ops_q (v := .lit (.bool false)) (fs := []) rfl rfl rfl rfl ?_
    refine ops_q (v := .ptr h.next 0) (fs := []) rfl rfl rfl rfl ?_
    refine ops_q (v := .ptr h.next 0) (fs := []) rfl rfl rfl rfl ?_
    refine ops_q (v := .lit (.int .i64 d.a)) (fs := [.cells h.next 0 [.lit (.int .i64 d.a)]]) rfl (by simp only [quiet, ev_set]; exact load_cell rfl g1 rfl) rfl rfl ?_
    refine ops_q (v := .ptr B 0) (fs := []) rfl (by simp only [quiet, ev_set, e3] <;> rfl) rfl rfl ?_
    refine ops_q (v := .lit (.int .i64 d.a)) (fs := [.cells B 0 [.lit (.int .i64 d.a)]]) rfl (by simp only [quiet, ev_set]; exact load_cell rfl ((g2 B hBne).trans hB) rfl) rfl rfl ?_
    refine ops_q (v := .lit (.bool false)) (fs := []) rfl (by simp only [quiet, ev_set]; exact congrArg one (neqF rfl)) rfl rfl ?_
    refine ops_q (v := .lit (.bool false)) (fs := []) rfl rfl rfl rfl ?_
    refine ops_q (v := .lit (.bool false)) (fs := []) rfl rfl rfl rfl ?_
    refine ops_q (v := .ptr h.next 0) (fs := []) rfl rfl rfl rfl ?_
    refine ops_q (v := .ptr h.next 1) (fs := []) rfl rfl rfl rfl ?_
    refine ops_q (v := .lit (.int .i64 d.n)) (fs := [.cells h.next 1 [.lit (.int .i64 d.n)]]) rfl (by simp only [quiet, ev_set]; exact load_cell rfl g1 rfl) rfl rfl ?_
    refine ops_q (v := .ptr B 1) (fs := []) rfl (by simp only [quiet, ev_set, e3] <;> rfl) rfl rfl ?_
    refine ops_q (v := .lit (.int .i64 m)) (fs := [.cells B 1 [.lit (.int .i64 m)]]) rfl (by simp only [quiet, ev_set]; exact load_cell rfl ((g2 B hBne).trans hB) rfl) rfl rfl ?_
    refine ops_q (v := .lit (.bool false)) (fs := []) rfl (by simp only [quiet, ev_set]; exact congrArg one (leqF (Int.not_le.2 hgt))) rfl rfl ?_
    refine ops_q (v := .lit (.bool false)) (fs := []) rfl rfl rfl rfl ?_
    refine ops_nil ?_
    refine runs_cond false rfl ?_
    refine runs_skip ?_
    refine runs_seq ?_
    refine runs_region ?_
    refine ops_q (v := L) (fs := []) rfl (by simp only [quiet, ev_set, e0] <;> rfl) rfl rfl ?_
    refine ops_q (v := .ptr h.next 0) (fs := []) rfl rfl rfl rfl ?_
    refine ops_q (v := .agg [.lit (.int .i64 d.a), .lit (.int .i64 d.n)]) (fs := [.cells h.next 0 [.lit (.int .i64 d.a), .lit (.int .i64 d.n)]]) rfl (by simp only [quiet, ev_set]; exact load_cut rfl rfl g1 rfl) rfl rfl ?_
    refine ops_c (f := 6) (args := [L, .agg (idC d.a d.n)]) rfl rfl rfl clone_two rfl rfl ?_
    refine (ih hgt H (kept_fresh hlo g2 g3)).mono ?_
    rintro ⟨ex1, fr1, h1, v1⟩ ⟨hv1, hk1⟩
    have hv1 : v1 = .lit (.bool false) := hv1.trans (by rw [hG])
    subst hv1
    have hk1 : Kept lo H h1 := hk1
    refine ops_q (v := .lit (.bool true)) (fs := []) rfl rfl rfl rfl ?_
    refine ops_nil ?_
    refine runs_cond true rfl ?_
    refine runs_seq ?_
    refine runs_region ?_
    refine ops_q (v := .lit (.bool true)) (fs := []) rfl rfl rfl rfl ?_
    refine ops_nil ?_
    refine runs_ret ?_
    exact ⟨_, _, _, _, rfl, slots3 (by simp only [ev_set] <;> rfl) (by simp only [ev_set] <;> rfl) (by simp only [ev_set] <;> rfl), Kept.trans (kept_fresh hlo g2 g3) hk1, .inr ⟨rfl, hH, rfl⟩⟩

set_option maxHeartbeats 8000000 in
set_option maxRecDepth 20000 in
theorem r_loop (Γ : Glob) (lo B : Nat) (q m : Int) (L : SV) (ds : List D) (hds : ds.length ≤ 1000000) (hBlo : B < lo)
    (ih : ∀ d ∈ ds, m < d.n → ∀ h', Lst Γ lo h' L ds → lo ≤ h'.next → Runs Tryz.prog Γ (.call 6 [L, .agg (idC q d.n)] h') fun r => r.v = .lit (.bool (G ds q d.n)) ∧ Kept lo h' r.hp) : ∀ (rem k : Nat), k + rem = ds.length → ∀ (tm : T SV) (h : Hp),
    Fr.ev ⟨tm, 57, []⟩ (.tmp 0) = L → Fr.ev ⟨tm, 57, []⟩ (.tmp 3) = .ptr B 0 → Fr.ev ⟨tm, 57, []⟩ (.tmp 5) = .lit (.int .i64 (Int.ofNat k)) → Lst Γ lo h L ds → h.objs.get B = some (.cells (idC q m) 24) → lo ≤ h.next → (∀ d ∈ ds.take k, hit ds q m d = false) →
    Runs Tryz.prog Γ (.code rLoop none ⟨tm, 57, []⟩ h) fun o => ∃ tm' h' v0 ex, o = ⟨ex, ⟨tm', 57, []⟩, h', v0⟩ ∧ Kept lo h h' ∧ ((ex = .exit 0 ∧ G ds q m = false) ∨ (ex = .ret ∧ G ds q m = true ∧ Fr.ev ⟨tm', 57, []⟩ (.tmp 4) = .lit (.bool true))) := by
  intro rem
  induction rem with
  | zero =>
    intro k hk tm h e0 e3 e5 hL hB hlo hno
    obtain rfl : k = ds.length := by omega
    rw [List.take_length] at hno
    have hG : G ds q m = false := by rw [G_hit, List.any_eq_false]; exact fun d hd => by rw [hno d hd]; decide
    have hlen := hL.1 h
    refine runs_loop ?_
    refine runs_seq (runs_seq (runs_region ?_))
    refine ops_q (v := .lit (.int .i64 (Int.ofNat ds.length))) (fs := []) rfl (by simp only [quiet, e5]) rfl rfl ?_
    refine ops_q (v := L) (fs := []) rfl (by simp only [quiet, ev_set, e0] <;> rfl) rfl rfl ?_
    refine ops_q (v := .lit (.int .i64 (Int.ofNat ds.length))) (fs := []) rfl (by simp only [quiet, ev_set]; exact hlen) rfl rfl ?_
    refine ops_q (v := .lit (.bool false)) (fs := []) rfl (by simp only [quiet, ev_set]; exact congrArg one (lssF (Int.lt_irrefl _))) rfl rfl ?_
    refine ops_nil ?_
    refine runs_cond false rfl (runs_exit ?_)
    exact ⟨_, _, _, _, rfl, Kept.refl _ _, .inl ⟨rfl, hG⟩⟩
  | succ rem ihr =>
    intro k hk tm h e0 e3 e5 hL hB hlo hno
    have hkl : k < ds.length := by omega
    have hd : ds[k]? = some ds[k] := List.getElem?_eq_getElem hkl
    have hmem : ds[k] ∈ ds := List.getElem_mem hkl
    have htk : ds.take (k + 1) = ds.take k ++ [ds[k]] := by rw [List.take_append_getElem]
    have hlen := hL.1 h
    refine runs_loop ?_
    refine runs_seq (runs_seq (runs_region ?_))
    refine ops_q (v := .lit (.int .i64 (Int.ofNat k))) (fs := []) rfl (by simp only [quiet, e5]) rfl rfl ?_
    refine ops_q (v := L) (fs := []) rfl (by simp only [quiet, ev_set, e0] <;> rfl) rfl rfl ?_
    refine ops_q (v := .lit (.int .i64 (Int.ofNat ds.length))) (fs := []) rfl (by simp only [quiet, ev_set]; exact hlen) rfl rfl ?_
    refine ops_q (v := .lit (.bool true)) (fs := []) rfl (by simp only [quiet, ev_set]; exact congrArg one (lssT (Int.ofNat_lt.2 hkl))) rfl rfl ?_
    refine ops_nil ?_
    refine runs_cond true rfl (runs_skip ?_)
    refine runs_seq (runs_block ((r_body Γ lo B q m L ds k _ hd _ h (by simp only [ev_set]; exact e0) (by simp only [ev_set]; exact e3) (by simp only [ev_set]; exact e5) hL hB hBlo hlo (fun hm h' hk' => ih _ hmem hm h' (hL.kept hk') (Nat.le_trans hlo hk'.next))).mono ?_))
    rintro o ⟨tm', h', v0, ex, rfl, hs, hkept, hend⟩
    rcases hend with ⟨hex, hno'⟩ | ⟨rfl, hyes, h4⟩
    · have he : ∀ fr hp v, atEnd 1 ⟨ex, fr, hp, v⟩ = ⟨.normal, fr, hp, v⟩ := by rcases hex with rfl | rfl <;> exact fun _ _ _ => rfl
      rw [he]
      have s0 := hs 0 (by decide)
      have s3 := hs 3 (by decide)
      have s5 := hs 5 (by decide)
      simp only [ev_set] at s0 s3 s5
      have s0 : Fr.ev ⟨tm', 57, []⟩ (.tmp 0) = L := s0.trans e0
      have s3 : Fr.ev ⟨tm', 57, []⟩ (.tmp 3) = .ptr B 0 := s3.trans e3
      have s5 : Fr.ev ⟨tm', 57, []⟩ (.tmp 5) = .lit (.int .i64 (Int.ofNat k)) := s5.trans e5
      refine runs_region ?_
      refine ops_q (v := .lit (.int .i64 (Int.ofNat k))) (fs := []) rfl (by simp only [quiet, s5]) rfl rfl ?_
      refine ops_q (v := .lit (.int .i64 (Int.ofNat (k + 1)))) (fs := []) rfl (by simp only [quiet, ev_set]; exact congrArg one (addQ (c := Int.ofNat (k + 1)) rfl (by simp only [Int.ofNat_eq_natCast]; omega) (by simp only [Int.ofNat_eq_natCast]; omega))) rfl rfl ?_
      refine ops_q (v := .lit (.int .i64 (Int.ofNat (k + 1)))) (fs := []) rfl rfl rfl rfl ?_
      refine ops_nil ?_
      refine (ihr (k + 1) (by omega) _ h' ?_ ?_ ?_ (hL.kept hkept) ((hkept.old B hBlo).trans hB) (Nat.le_trans hlo hkept.next) ?_).mono ?_
      · simp only [ev_set]; exact s0
      · simp only [ev_set]; exact s3
      · simp only [ev_set]; rfl
      · rw [htk]
        intro d hd
        rcases List.mem_append.1 hd with hd | hd
        · exact hno d hd
        · rw [List.mem_singleton.1 hd]; exact hno'
      · rintro o ⟨tm2, h2, v2, ex2, rfl, k1, k2⟩
        exact ⟨tm2, h2, v2, ex2, rfl, hkept.trans k1, k2⟩
    · rw [show ∀ fr hp v, atEnd 1 ⟨.ret, fr, hp, v⟩ = ⟨.ret, fr, hp, v⟩ from fun _ _ _ => rfl]
      exact ⟨_, _, _, _, rfl, hkept, .inr ⟨rfl, by rw [G_hit, List.any_eq_true]; exact ⟨_, hmem, hyes⟩, h4⟩⟩

set_option maxHeartbeats 8000000 in
set_option maxRecDepth 20000 in
theorem ref_step (Γ : Glob) (L : SV) (ds : List D) (hds : ds.length ≤ 1000000) (lo : Nat) (h : Hp) (q m : Int) (ih : ∀ d ∈ ds, m < d.n → ∀ lo' h', Lst Γ lo' h' L ds → lo' ≤ h'.next → Runs Tryz.prog Γ (.call 6 [L, .agg (idC q d.n)] h') fun r => r.v = .lit (.bool (G ds q d.n)) ∧ Kept lo' h' r.hp)
    (hL : Lst Γ lo h L ds) (hlo : lo ≤ h.next) : Runs Tryz.prog Γ (.call 6 [L, .agg (idC q m)] h) fun r => r.v = .lit (.bool (G ds q m)) ∧ Kept lo h r.hp := by
  have hk0 : Kept lo h ⟨h.objs.set h.next (.cells (idC q m) 24), h.next + 1⟩ := ⟨Nat.le_succ _, fun b hb => get_ne (by omega)⟩
  have hL0 := hL.up hk0 (Nat.le_succ_of_le hlo)
  refine runs_call Tryz.func6 rfl ?_
  refine runs_seq (runs_region ?_)
  refine ops_e (v := .ptr h.next 0) (hp' := ⟨h.objs.set h.next (.cells (idC q m) 24), h.next + 1⟩) rfl rfl rfl rfl (Nat.le_succ _) rfl rfl ?_
  refine ops_q (v := .lit (.bool false)) (fs := []) rfl rfl rfl rfl ?_
  refine ops_nil ?_
  refine runs_seq (runs_seq (runs_region ?_))
  refine ops_q (v := .lit (.int .i64 (Int.ofNat 0))) (fs := []) rfl rfl rfl rfl ?_
  refine ops_nil ?_
  refine runs_block ((r_loop Γ (h.next + 1) h.next q m L ds hds (Nat.lt_succ_self _) (fun d hd hm h' hL' hlo' => ih d hd hm (h.next + 1) h' hL' hlo') ds.length 0 (Nat.zero_add _) _ _ rfl rfl rfl hL0 get_same (Nat.le_refl _) (fun d hd => by simp at hd)).mono ?_)
  rintro o ⟨tm', h1, v1, ex, rfl, k3, hend⟩
  have k4 : h.next + 1 ≤ h1.next := k3.next
  have hkept : Kept lo h h1 := ⟨by omega, fun b hb => (k3.old b (by omega)).trans (get_ne (by omega))⟩
  rcases hend with ⟨rfl, hG⟩ | ⟨rfl, hG, h4⟩
  · rw [show ∀ fr hp v, atEnd 0 ⟨.exit 0, fr, hp, v⟩ = ⟨.normal, fr, hp, v⟩ from fun _ _ _ => rfl]
    refine runs_seq (runs_region ?_)
    refine ops_q (v := .lit (.bool false)) (fs := []) rfl rfl rfl rfl ?_
    refine ops_nil ?_
    refine runs_ret ?_
    rw [hG]
    exact ⟨_, rfl, rfl, hkept⟩
  · rw [show ∀ fr hp v, atEnd 0 ⟨.ret, fr, hp, v⟩ = ⟨.ret, fr, hp, v⟩ from fun _ _ _ => rfl]
    refine ⟨⟨.ret, ⟨tm', 57, []⟩, h1, Fr.ev ⟨tm', 57, []⟩ (.tmp 4)⟩, rfl, ?_, hkept⟩
    show Fr.ev ⟨tm', 57, []⟩ (.tmp 4) = _
    rw [h4, hG]

set_option maxHeartbeats 8000000 in
set_option maxRecDepth 20000 in
/-- **What the document's Gone tells.** -/
theorem ref_runs (Γ : Glob) (L : SV) (ds : List D) (hds : ds.length ≤ 1000000) : ∀ (f lo : Nat) (h : Hp) (q m : Int), above ds m ≤ f → Lst Γ lo h L ds → lo ≤ h.next → Runs Tryz.prog Γ (.call 6 [L, .agg (idC q m)] h) fun r => r.v = .lit (.bool (G ds q m)) ∧ Kept lo h r.hp := by
  intro f
  induction f with
  | zero => exact fun lo h q m hf => ref_step Γ L ds hds lo h q m fun d hd hm => absurd (above_lt hd hm) (by omega)
  | succ f ih => exact fun lo h q m hf => ref_step Γ L ds hds lo h q m fun d hd hm lo' h' hL' hlo' => ih lo' h' q d.n (by have := above_lt hd hm; omega) hL' hlo'
end Go.Proofs.YtlmmiojddfiapaaGreatDoor.gone
namespace Go.Proofs.YtlmmiojddfiapaaGreatDoor.gone
open Go Go.Proofs.YtlmmiojddfiapaaGreatDoor.Ev

theorem cut_take {l r : List SV} {o n k : Nat} (h : cut l o n = some r) (hk : k ≤ n) : cut l o k = some (r.take k) := by
  simp only [cut] at h ⊢
  cases hb : Nat.beq ((l.drop o).take n).length n with
  | false => rw [hb] at h; cases h
  | true =>
    rw [hb, cond_true, Option.some.injEq] at h
    subst h
    have hl := Nat.eq_of_beq_eq_true hb
    rw [List.take_take, Nat.min_eq_left hk]
    have : ((l.drop o).take k).length = k := by
      rw [List.length_take] at hl ⊢
      omega
    rw [beq_t this, cond_true]
/-- A list of deeds that came in. -/
def GL (Γ : Glob) (L : SV) (ds : List D) : Prop :=
  (∃ p c, L = .lit (.slice p 0 c) ∧ ds = []) ∨ ∃ g off cap, L = .lit (.slice (some ⟨g, off, none⟩) ds.length cap) ∧ ∀ k d, ds[k]? = some d → ∃ c3 c4 c5 c6 rest, rest.length = 30 ∧ (deedC d c3 c4 c5 c6 rest).all SV.one = true ∧
    ∀ h', readCells Γ h' (.lit (.pointer (some ⟨g, off + k * 39, none⟩))) 39 = some (deedC d c3 c4 c5 c6 rest, [])
set_option maxRecDepth 10000 in
theorem litLen (h : Hp) (p : Option Addr) (n c : Nat) : lenQ Tryz.prog h 22 (.lit (.slice p n c)) = some (.lit (.int .i64 (Int.ofNat n)), []) := rfl
theorem litIdx {g off n c k : Nat} (h : k < n) : indexAddrQ Tryz.prog 22 (.lit (.slice (some ⟨g, off, none⟩) n c)) (.lit (.int .i64 (Int.ofNat k))) = some (.lit (.pointer (some ⟨g, off + k * 39, none⟩))) := by
  simp only [indexAddrQ, tyDeeds, szDeed, idxQ]
  rw [show Nat.blt k n = true from Nat.ble_eq_true_of_le h, cond_true]
set_option maxRecDepth 10000 in
theorem aggDeed : tyAgg Tryz.prog 43 = some true := rfl
set_option maxRecDepth 10000 in
theorem aggId : tyAgg Tryz.prog 24 = some true := rfl
set_option maxRecDepth 10000 in
theorem szId : tySize Tryz.prog 24 = some 2 := rfl
theorem GL.lst {Γ : Glob} {L : SV} {ds : List D} (hl : GL Γ L ds) (lo : Nat) (h : Hp) : Lst Γ lo h L ds := by
  rcases hl with ⟨p, c, rfl, rfl⟩ | ⟨g, off, cap, rfl, hr⟩
  · exact ⟨fun h' => nilDeeds h' p c, fun k d hd => by simp at hd⟩
  · refine ⟨fun h' => litLen h' _ _ _, fun k d hd => ?_⟩
    obtain ⟨c3, c4, c5, c6, rest, h1, h2, h3⟩ := hr k d hd
    refine ⟨_, c3, c4, c5, c6, rest, h1, h2, litIdx (List.getElem?_eq_some_iff.1 hd).1, fun h' _ => ⟨[], ?_⟩⟩
    simp only [loadQ, aggDeed, szDeed, h3 h']
theorem GL.id {Γ : Glob} {L : SV} {ds : List D} (hl : GL Γ L ds) {k : Nat} {d : D} (hd : ds[k]? = some d) : ∃ g o, indexAddrQ Tryz.prog 22 L (.lit (.int .i64 (Int.ofNat k))) = some (.lit (.pointer (some ⟨g, o, none⟩))) ∧ ∀ h', loadQ Tryz.prog Γ h' 24 (.lit (.pointer (some ⟨g, o, none⟩))) = some (.agg (idC d.a d.n), []) := by
  rcases hl with ⟨p, c, rfl, rfl⟩ | ⟨g, off, cap, rfl, hr⟩
  · simp at hd
  · obtain ⟨c3, c4, c5, c6, rest, h1, h2, h3⟩ := hr k d hd
    refine ⟨g, off + k * 39, litIdx (List.getElem?_eq_some_iff.1 hd).1, fun h' => ?_⟩
    have h3 := h3 h'
    simp only [readCells] at h3
    cases hg : (Γ.get g).bind fun cs => cut (cs.map .lit) (off + k * 39) 39 with
    | none => rw [hg] at h3; cases h3
    | some vs =>
      rw [hg] at h3
      simp only [Option.some.injEq, Prod.mk.injEq, and_true] at h3
      subst h3
      obtain ⟨cs, hcs, hcut⟩ := Option.bind_eq_some_iff.1 hg
      have hc2 := cut_take hcut (show 2 ≤ 39 by decide)
      simp only [loadQ, aggId, szId, readCells, hcs, Option.bind_some, hc2]
      rfl
set_option maxRecDepth 20000 in
theorem boolNe (x y : Operand) (b : Bool) : binQ Tryz.prog .neq 4 x y (.lit (.bool b)) (.lit (.bool b)) = some (.lit (.bool false)) := by cases b <;> rfl
set_option maxRecDepth 20000 in
theorem boolEq (x y : Operand) (b : Bool) : binQ Tryz.prog .eql 4 x y (.lit (.bool b)) (.lit (.bool b)) = some (.lit (.bool true)) := by cases b <;> rfl
theorem told_awake {Γ : Glob} {hp : Hp} {Φ : Out → Prop} (h : ∀ fr, Φ ⟨.ret, fr, hp, .lit (.bool true)⟩) : Runs Tryz.prog Γ (.call 4 [] hp) Φ :=
  runs_told (show theMem 4 [] hp = _ from rfl) fun o ho => by
    rw [List.mem_singleton.1 ho]
    exact h _
theorem fact_id {h : Hp} {B : Nat} {q m : Int} {e : TypeId} (hB : h.objs.get B = some (.cells (idC q m) e)) : factHolds h (.cells B 0 [.lit (.int .i64 q), .lit (.int .i64 m)]) = true := by
  have hk : knownCells h B = some (idC q m) := by simp only [knownCells, hB]
  have hc : cut (idC q m) 0 [SV.lit (.int .i64 q), SV.lit (.int .i64 m)].length = some (idC q m) := rfl
  simp only [factHolds, hk, Option.bind_some, hc]
  simp [idC, SV.sameL, SV.same, litSame]

end Go.Proofs.YtlmmiojddfiapaaGreatDoor.gone
namespace Go.Proofs.YtlmmiojddfiapaaGreatDoor.gone
open Go Go.Proofs.YtlmmiojddfiapaaGreatDoor.Ev

noncomputable def lLoop : Code := (inBlk (seqR (seqL (seqR (seqR (bodyOf Tryz.f3))))))
noncomputable def lB : Code := (inBlk (seqL (seqR (inLoop lLoop))))
noncomputable def lTail : Code := (seqR (seqR (seqR (bodyOf Tryz.f3))))
noncomputable def r6 : Array Oper := opsOf (seqL lB)
noncomputable def r8 : Array Oper := opsOf (seqL lTail)
set_option maxHeartbeats 8000000 in
set_option maxRecDepth 20000 in
theorem l_body (Γ : Glob) (lo : Nat) (L : SV) (ds : List D) (hds : ds.length ≤ 1000000) (hL : GL Γ L ds) (k : Nat) (d : D) (hd : ds[k]? = some d) (tm : T SV) (h : Hp) (e0 : Fr.ev ⟨tm, 42, []⟩ (.tmp 0) = L) (e5 : Fr.ev ⟨tm, 42, []⟩ (.tmp 5) = .lit (.int .i64 (Int.ofNat k))) (hlo : lo ≤ h.next) :
    Runs Tryz.prog Γ (.code lB none ⟨tm, 42, []⟩ h) fun o => ∃ tm' h' v0, o = ⟨.normal, ⟨tm', 42, []⟩, h', v0⟩ ∧ (∀ t ∈ [0, 3, 5], Fr.ev ⟨tm', 42, []⟩ (.tmp t) = Fr.ev ⟨tm, 42, []⟩ (.tmp t)) ∧ Kept lo h h' := by
  obtain ⟨g, o, hidx, hld⟩ := hL.id hd
  refine runs_seq ?_
  refine runs_drawn (ops := r6) rfl ?_
  refine drawn_c (i := 6) (f := 5) (args := [L, .agg (idC d.a d.n)]) (m' := 8127) (held' := []) (hp := h) (by
    refine take_q (v := L) rfl rfl rfl (by simp only [quiet, e0] <;> rfl) rfl rfl ?_
    refine take_q (v := L) rfl rfl rfl (by simp only [quiet, ev_set, e0] <;> rfl) rfl rfl ?_
    refine take_q (v := .lit (.int .i64 (Int.ofNat k))) rfl rfl rfl (by simp only [quiet, ev_set, e5] <;> rfl) rfl rfl ?_
    refine take_q (v := .lit (.pointer (some ⟨g, o, none⟩))) rfl rfl rfl (by simp only [quiet, ev_set]; exact congrArg one hidx) rfl rfl ?_
    refine take_q (v := .lit (.pointer (some ⟨g, o, none⟩))) rfl rfl rfl rfl rfl rfl ?_
    refine take_q (v := .agg (idC d.a d.n)) rfl rfl rfl (by simp only [quiet, ev_set]; exact hld _) rfl rfl ?_
    refine take_loud rfl rfl rfl rfl rfl ?_
    refine take_q (v := L) rfl rfl rfl (by simp only [quiet, ev_set, e0] <;> rfl) rfl rfl ?_
    refine take_q (v := L) rfl rfl rfl (by simp only [quiet, ev_set, e0] <;> rfl) rfl rfl ?_
    refine take_q (v := .lit (.int .i64 (Int.ofNat k))) rfl rfl rfl (by simp only [quiet, ev_set, e5] <;> rfl) rfl rfl ?_
    refine take_q (v := .lit (.pointer (some ⟨g, o, none⟩))) rfl rfl rfl (by simp only [quiet, ev_set]; exact congrArg one hidx) rfl rfl ?_
    refine take_q (v := .lit (.pointer (some ⟨g, o, none⟩))) rfl rfl rfl rfl rfl rfl ?_
    refine take_q (v := .agg (idC d.a d.n)) rfl rfl rfl (by simp only [quiet, ev_set]; exact hld _) rfl rfl ?_
    refine take_wait rfl rfl ?_
    refine take_wait rfl rfl ?_
    rfl) (by rfl) (by rfl) (by rfl) clone_two rfl rfl ?_
  refine (gone_runs Γ lo h L ds d.a d.n hds (hL.lst lo h) hlo).mono ?_
  rintro ⟨xh1, fh1, h1, vh1⟩ ⟨hvh1, hkh1⟩
  have hvh1 : vh1 = .lit (.bool (G ds d.a d.n)) := hvh1
  subst hvh1
  have hkh1 : Kept lo h h1 := hkh1
  refine ⟨_, rfl, rfl, ?_⟩
  refine drawn_c (i := 13) (f := 6) (args := [L, .agg (idC d.a d.n)]) (m' := 8191) (held' := []) (hp := h1) (by
    refine take_done rfl ?_
    refine take_done rfl ?_
    refine take_done rfl ?_
    refine take_done rfl ?_
    refine take_done rfl ?_
    refine take_done rfl ?_
    refine take_done rfl ?_
    refine take_done rfl ?_
    refine take_done rfl ?_
    refine take_done rfl ?_
    refine take_done rfl ?_
    refine take_done rfl ?_
    refine take_done rfl ?_
    refine take_loud rfl rfl rfl rfl rfl ?_
    refine take_wait rfl rfl ?_
    rfl) (by rfl) (by rfl) (by rfl) clone_two rfl rfl ?_
  refine (ref_runs Γ L ds hds _ lo h1 d.a d.n (Nat.le_refl _) (hL.lst lo h1) (Nat.le_trans hlo hkh1.next)).mono ?_
  rintro ⟨xh2, fh2, h2, vh2⟩ ⟨hvh2, hkh2⟩
  have hvh2 : vh2 = .lit (.bool (G ds d.a d.n)) := hvh2
  subst hvh2
  have hkh2 : Kept lo h1 h2 := hkh2
  refine ⟨_, rfl, rfl, ?_⟩
  refine drawn_end (m' := 32767) (held' := []) (hp' := h2) (by
    refine take_done rfl ?_
    refine take_done rfl ?_
    refine take_done rfl ?_
    refine take_done rfl ?_
    refine take_done rfl ?_
    refine take_done rfl ?_
    refine take_done rfl ?_
    refine take_done rfl ?_
    refine take_done rfl ?_
    refine take_done rfl ?_
    refine take_done rfl ?_
    refine take_done rfl ?_
    refine take_done rfl ?_
    refine take_done rfl ?_
    refine take_q (v := .lit (.bool false)) rfl rfl rfl (by simp only [quiet, ev_set]; exact congrArg one (boolNe _ _ _)) rfl rfl ?_
    rfl) (by rfl) (by rfl) ?_
  refine runs_cond false rfl ?_
  refine runs_skip ?_
  exact ⟨_, _, _, rfl, slots3 (by simp only [ev_set] <;> rfl) (by simp only [ev_set] <;> rfl) (by simp only [ev_set] <;> rfl), hkh1.trans hkh2⟩

set_option maxHeartbeats 8000000 in
set_option maxRecDepth 20000 in
theorem l_loop (Γ : Glob) (lo : Nat) (L : SV) (ds : List D) (hds : ds.length ≤ 1000000) (hL : GL Γ L ds) : ∀ (rem k : Nat), k + rem = ds.length → ∀ (tm : T SV) (h : Hp), Fr.ev ⟨tm, 42, []⟩ (.tmp 0) = L → Fr.ev ⟨tm, 42, []⟩ (.tmp 5) = .lit (.int .i64 (Int.ofNat k)) → lo ≤ h.next →
    Runs Tryz.prog Γ (.code lLoop none ⟨tm, 42, []⟩ h) fun o => ∃ tm' h' v0, o = ⟨.exit 0, ⟨tm', 42, []⟩, h', v0⟩ ∧ Fr.ev ⟨tm', 42, []⟩ (.tmp 0) = L ∧ Fr.ev ⟨tm', 42, []⟩ (.tmp 3) = Fr.ev ⟨tm, 42, []⟩ (.tmp 3) ∧ Kept lo h h' := by
  intro rem
  induction rem with
  | zero =>
    intro k hk tm h e0 e5 hlo
    obtain rfl : k = ds.length := by omega
    have hlen := (hL.lst lo h).1 h
    refine runs_loop ?_
    refine runs_seq (runs_seq (runs_region ?_))
    refine ops_q (v := .lit (.int .i64 (Int.ofNat ds.length))) (fs := []) rfl (by simp only [quiet, e5]) rfl rfl ?_
    refine ops_q (v := L) (fs := []) rfl (by simp only [quiet, ev_set, e0] <;> rfl) rfl rfl ?_
    refine ops_q (v := .lit (.int .i64 (Int.ofNat ds.length))) (fs := []) rfl (by simp only [quiet, ev_set]; exact hlen) rfl rfl ?_
    refine ops_q (v := .lit (.bool false)) (fs := []) rfl (by simp only [quiet, ev_set]; exact congrArg one (lssF (Int.lt_irrefl _))) rfl rfl ?_
    refine ops_nil ?_
    refine runs_cond false rfl (runs_exit ?_)
    refine ⟨_, _, _, rfl, ?_, ?_, Kept.refl _ _⟩
    · simp only [ev_set]; exact e0
    · simp only [ev_set]; rfl
  | succ rem ih =>
    intro k hk tm h e0 e5 hlo
    have hkl : k < ds.length := by omega
    have hd : ds[k]? = some ds[k] := List.getElem?_eq_getElem hkl
    have hlen := (hL.lst lo h).1 h
    refine runs_loop ?_
    refine runs_seq (runs_seq (runs_region ?_))
    refine ops_q (v := .lit (.int .i64 (Int.ofNat k))) (fs := []) rfl (by simp only [quiet, e5]) rfl rfl ?_
    refine ops_q (v := L) (fs := []) rfl (by simp only [quiet, ev_set, e0] <;> rfl) rfl rfl ?_
    refine ops_q (v := .lit (.int .i64 (Int.ofNat ds.length))) (fs := []) rfl (by simp only [quiet, ev_set]; exact hlen) rfl rfl ?_
    refine ops_q (v := .lit (.bool true)) (fs := []) rfl (by simp only [quiet, ev_set]; exact congrArg one (lssT (Int.ofNat_lt.2 hkl))) rfl rfl ?_
    refine ops_nil ?_
    refine runs_cond true rfl (runs_skip ?_)
    refine runs_seq (runs_block ((l_body Γ lo L ds hds hL k _ hd _ h (by simp only [ev_set]; exact e0) (by simp only [ev_set]; exact e5) hlo).mono ?_))
    rintro o ⟨tm', h', v0, rfl, hs, hkept⟩
    rw [show ∀ fr hp v, atEnd 1 ⟨.normal, fr, hp, v⟩ = ⟨.normal, fr, hp, v⟩ from fun _ _ _ => rfl]
    have s0 := hs 0 (by decide)
    have s3 := hs 3 (by decide)
    have s5 := hs 5 (by decide)
    simp only [ev_set] at s0 s3 s5
    have s0 : Fr.ev ⟨tm', 42, []⟩ (.tmp 0) = L := s0.trans e0
    have s3 : Fr.ev ⟨tm', 42, []⟩ (.tmp 3) = Fr.ev ⟨tm, 42, []⟩ (.tmp 3) := s3
    have s5 : Fr.ev ⟨tm', 42, []⟩ (.tmp 5) = .lit (.int .i64 (Int.ofNat k)) := s5.trans e5
    refine runs_region ?_
    refine ops_q (v := .lit (.int .i64 (Int.ofNat k))) (fs := []) rfl (by simp only [quiet, s5]) rfl rfl ?_
    refine ops_q (v := .lit (.int .i64 (Int.ofNat (k + 1)))) (fs := []) rfl (by simp only [quiet, ev_set]; exact congrArg one (addQ (c := Int.ofNat (k + 1)) rfl (by simp only [Int.ofNat_eq_natCast]; omega) (by simp only [Int.ofNat_eq_natCast]; omega))) rfl rfl ?_
    refine ops_q (v := .lit (.int .i64 (Int.ofNat (k + 1)))) (fs := []) rfl rfl rfl rfl ?_
    refine ops_nil ?_
    refine (ih (k + 1) (by omega) _ h' ?_ ?_ (Nat.le_trans hlo hkept.next)).mono ?_
    · simp only [ev_set]; exact s0
    · simp only [ev_set]; rfl
    · rintro o ⟨tm2, h2, v2, rfl, k1, k2, k3⟩
      refine ⟨tm2, h2, v2, rfl, k1, ?_, hkept.trans k3⟩
      rw [k2]
      simp only [ev_set]
      exact s3

set_option maxHeartbeats 8000000 in
set_option maxRecDepth 20000 in
theorem l_tail (Γ : Glob) (lo B : Nat) (q m : Int) (L : SV) (ds : List D) (hds : ds.length ≤ 1000000) (hL : GL Γ L ds) (tm : T SV) (h : Hp) (e0 : Fr.ev ⟨tm, 42, []⟩ (.tmp 0) = L) (e3 : Fr.ev ⟨tm, 42, []⟩ (.tmp 3) = .ptr B 0) (hB : h.objs.get B = some (.cells (idC q m) 24)) (hBlo : B < lo) (hlo : lo ≤ h.next) :
    Runs Tryz.prog Γ (.code lTail none ⟨tm, 42, []⟩ h) fun o => ∃ r, leave Tryz.prog Γ Tryz.f3 o = some [r] ∧ r.v = .lit (.bool true) := by
  have t42 : Nat.testBit (descOf 4 r8.toList 0 0) 2 = false := rfl
  have t12 : Nat.testBit (descOf 1 r8.toList 0 0) 2 = true := rfl
  have t45 : Nat.testBit (descOf 4 r8.toList 0 0) 5 = true := rfl
  refine runs_seq ?_
  refine runs_drawn (ops := r8) rfl ?_
  refine drawn_c (i := 2) (f := 5) (args := [L, .agg (idC q m)]) (m' := 27) (held' := [⟨descOf 4 r8.toList 0 0, [.cells B 0 [.lit (.int .i64 q), .lit (.int .i64 m)]], none⟩, ⟨descOf 1 r8.toList 0 0, [.cells B 0 [.lit (.int .i64 q), .lit (.int .i64 m)]], none⟩]) (hp := h) (by
    refine take_q (v := L) rfl rfl rfl (by simp only [quiet, e0] <;> rfl) rfl rfl ?_
    refine take_f (v := .agg (idC q m)) (fact := .cells B 0 [.lit (.int .i64 q), .lit (.int .i64 m)]) rfl rfl rfl (by simp only [quiet, ev_set, e3]; exact load_cut rfl rfl hB rfl) rfl rfl ?_
    refine take_loud rfl rfl rfl rfl rfl ?_
    refine take_q (v := L) rfl rfl rfl (by simp only [quiet, ev_set, e0] <;> rfl) rfl rfl ?_
    refine take_f (v := .agg (idC q m)) (fact := .cells B 0 [.lit (.int .i64 q), .lit (.int .i64 m)]) rfl rfl rfl (by simp only [quiet, ev_set, e3]; exact load_cut rfl rfl hB rfl) rfl rfl ?_
    refine take_wait rfl rfl ?_
    refine take_wait rfl rfl ?_
    refine take_wait rfl rfl ?_
    rfl) (by rfl) (by rfl) (by rfl) clone_two rfl rfl ?_
  refine (gone_runs Γ lo h L ds q m hds (hL.lst lo h) hlo).mono ?_
  rintro ⟨xh1, fh1, h1, vh1⟩ ⟨hvh1, hkh1⟩
  have hvh1 : vh1 = .lit (.bool (G ds q m)) := hvh1
  subst hvh1
  have hkh1 : Kept lo h h1 := hkh1
  refine ⟨_, rfl, (by simp only [factsStand, t42, t12, cond_false, cond_true, List.all_cons, List.all_nil, fact_id ((hkh1.old B hBlo).trans hB), Bool.or_true, Bool.and_true]), ?_⟩
  rw [show drop 2 [⟨descOf 4 r8.toList 0 0, [.cells B 0 [.lit (.int .i64 q), .lit (.int .i64 m)]], none⟩, ⟨descOf 1 r8.toList 0 0, [.cells B 0 [.lit (.int .i64 q), .lit (.int .i64 m)]], none⟩] = [⟨descOf 4 r8.toList 0 0, [.cells B 0 [.lit (.int .i64 q), .lit (.int .i64 m)]], none⟩] from by simp only [drop, t42, t12, cond_true, cond_false]]
  refine drawn_c (i := 5) (f := 6) (args := [L, .agg (idC q m)]) (m' := 31) (held' := [⟨descOf 4 r8.toList 0 0, [.cells B 0 [.lit (.int .i64 q), .lit (.int .i64 m)]], none⟩]) (hp := h1) (by
    refine take_done rfl ?_
    refine take_done rfl ?_
    refine take_done rfl ?_
    refine take_done rfl ?_
    refine take_done rfl ?_
    refine take_loud rfl rfl rfl rfl rfl ?_
    refine take_wait rfl rfl ?_
    refine take_wait rfl rfl ?_
    rfl) (by rfl) (by rfl) (by rfl) clone_two rfl rfl ?_
  refine (ref_runs Γ L ds hds _ lo h1 q m (Nat.le_refl _) (hL.lst lo h1) (Nat.le_trans hlo hkh1.next)).mono ?_
  rintro ⟨xh2, fh2, h2, vh2⟩ ⟨hvh2, hkh2⟩
  have hvh2 : vh2 = .lit (.bool (G ds q m)) := hvh2
  subst hvh2
  have hkh2 : Kept lo h1 h2 := hkh2
  refine ⟨_, rfl, (by simp only [factsStand, t45, cond_true, Bool.and_true]), ?_⟩
  rw [show drop 5 [⟨descOf 4 r8.toList 0 0, [.cells B 0 [.lit (.int .i64 q), .lit (.int .i64 m)]], none⟩] = [] from by simp only [drop, t45, cond_true, cond_false]]
  refine drawn_end (m' := 255) (held' := []) (hp' := h2) (by
    refine take_done rfl ?_
    refine take_done rfl ?_
    refine take_done rfl ?_
    refine take_done rfl ?_
    refine take_done rfl ?_
    refine take_done rfl ?_
    refine take_q (v := .lit (.bool true)) rfl rfl rfl (by simp only [quiet, ev_set]; exact congrArg one (boolEq _ _ _)) rfl rfl ?_
    refine take_q (v := .lit (.bool true)) rfl rfl rfl rfl rfl rfl ?_
    rfl) (by rfl) (by rfl) ?_
  refine runs_ret ?_
  exact ⟨_, rfl, rfl⟩

set_option maxHeartbeats 8000000 in
set_option maxRecDepth 20000 in
/-- **The law tells true.** -/
theorem law_runs (Γ : Glob) (h : Hp) (L : SV) (ds : List D) (q m : Int) (hL : GL Γ L ds) : Runs Tryz.prog Γ (.call 3 [L, .agg (idC q m)] h) fun r => r.v = .lit (.bool true) := by
  have hlen := (hL.lst 0 h).1
  by_cases hbig : 32 < ds.length
  · refine runs_call Tryz.func3 rfl ?_
    refine runs_seq (runs_region ?_)
    refine ops_e (v := .ptr h.next 0) (hp' := ⟨h.objs.set h.next (.cells (idC q m) 24), h.next + 1⟩) rfl rfl rfl rfl (Nat.le_succ _) rfl rfl ?_
    refine ops_q (v := .lit (.bool false)) (fs := []) rfl rfl rfl rfl ?_
    refine ops_nil ?_
    refine runs_seq (runs_seq (runs_region ?_))
    refine ops_c (f := 4) (args := []) rfl rfl rfl rfl rfl rfl (told_awake fun fr => ?_)
    refine ops_q (v := .lit (.bool false)) (fs := []) rfl rfl rfl rfl ?_
    refine ops_q (v := .lit (.bool false)) (fs := []) rfl rfl rfl rfl ?_
    refine ops_q (v := L) (fs := []) rfl rfl rfl rfl ?_
    refine ops_q (v := .lit (.int .i64 (Int.ofNat ds.length))) (fs := []) rfl (hlen _) rfl rfl ?_
    refine ops_q (v := .lit (.bool true)) (fs := []) rfl (congrArg one (gtrT (a := Int.ofNat ds.length) (b := 32) (by simp only [Int.ofNat_eq_natCast]; omega))) rfl rfl ?_
    refine ops_q (v := .lit (.bool true)) (fs := []) rfl rfl rfl rfl ?_
    refine ops_nil ?_
    refine runs_cond true rfl (runs_seq (runs_region ?_))
    refine ops_c (f := 4) (args := []) rfl rfl rfl rfl rfl rfl (told_awake fun fr => ?_)
    refine ops_q (v := .lit (.bool true)) (fs := []) rfl rfl rfl rfl ?_
    refine ops_nil ?_
    refine runs_ret ?_
    exact ⟨_, rfl, rfl⟩
  · have hds : ds.length ≤ 1000000 := by omega
    refine runs_call Tryz.func3 rfl ?_
    refine runs_seq (runs_region ?_)
    refine ops_e (v := .ptr h.next 0) (hp' := ⟨h.objs.set h.next (.cells (idC q m) 24), h.next + 1⟩) rfl rfl rfl rfl (Nat.le_succ _) rfl rfl ?_
    refine ops_q (v := .lit (.bool false)) (fs := []) rfl rfl rfl rfl ?_
    refine ops_nil ?_
    refine runs_seq (runs_seq (runs_region ?_))
    refine ops_c (f := 4) (args := []) rfl rfl rfl rfl rfl rfl (told_awake fun fr => ?_)
    refine ops_q (v := .lit (.bool false)) (fs := []) rfl rfl rfl rfl ?_
    refine ops_q (v := .lit (.bool false)) (fs := []) rfl rfl rfl rfl ?_
    refine ops_q (v := L) (fs := []) rfl rfl rfl rfl ?_
    refine ops_q (v := .lit (.int .i64 (Int.ofNat ds.length))) (fs := []) rfl (hlen _) rfl rfl ?_
    refine ops_q (v := .lit (.bool false)) (fs := []) rfl (congrArg one (gtrF (a := Int.ofNat ds.length) (b := 32) (by simp only [Int.ofNat_eq_natCast]; omega))) rfl rfl ?_
    refine ops_q (v := .lit (.bool false)) (fs := []) rfl rfl rfl rfl ?_
    refine ops_nil ?_
    refine runs_cond false rfl (runs_skip ?_)
    refine runs_seq (runs_seq (runs_region ?_))
    refine ops_q (v := .lit (.int .i64 (Int.ofNat 0))) (fs := []) rfl rfl rfl rfl ?_
    refine ops_nil ?_
    refine runs_block ((l_loop Γ (h.next + 1) L ds hds hL ds.length 0 (Nat.zero_add _) _ _ rfl rfl (Nat.le_refl _)).mono ?_)
    rintro o ⟨tm', h1, v1, rfl, k1, k2, k3⟩
    rw [show ∀ fr hp v, atEnd 0 ⟨.exit 0, fr, hp, v⟩ = ⟨.normal, fr, hp, v⟩ from fun _ _ _ => rfl]
    exact l_tail Γ (h.next + 1) h.next q m L ds hds hL tm' h1 k1 (k2.trans rfl) ((k3.old h.next (Nat.lt_succ_self _)).trans get_same) (Nat.lt_succ_self _) k3.next
end Go.Proofs.YtlmmiojddfiapaaGreatDoor.gone
